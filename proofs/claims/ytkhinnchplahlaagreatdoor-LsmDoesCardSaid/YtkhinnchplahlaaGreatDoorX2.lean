/-
  Texts of this seat, laid one behind the other: PgC Dk2 DkC G2 Dk3 DkB Dk4 Dk5 G4 Dk8 Dk9 DkA1 DkA2 DkC0 DkA3 G5 DkA4 DkL DkC3 DkB1 G6 DkB2 DkF DkN PgD CdR C2g. Conditions: none.
-/
import Derived.Test.YtkhinnchplahlaaGreatDoorX1
import Derived.RangeFuncBox
import Derived.RangeFuncLeaves
import Derived.Shelf.Abstract
import Derived.WalkKit
import Derived.OwnWalkIn
import Derived.TacticsInMore
import Derived.LoopNIn
import Derived.LoopIn
import Derived.Shelf.SlMaps.Clone
import Derived.Ground.SlmcProg
import Derived.Test.YtkhinnchplahlaaGreatDoorProg
import Derived.KernelRfl
import Derived.Laws.Bits64b
import Derived.Maps.Own
import Derived.Sort.KeysCollected
import Derived.Shelf.SlIter.Nil
import Derived.Shelf.SortM.Plain
import Derived.Shelf.SortM.SortNone
import Derived.Ground.GgzProg
import Derived.Ground.SlgmProg
section
namespace Go.Proofs
open Go.RowKit Go.Shelf

attribute [local go_sem] Oper.semAt_some

set_option maxRecDepth 100000 in
set_option maxHeartbeats 2000000 in
theorem Tryz.chunk1_in (l B1 B2 : Nat) (p : Addr) (len cap : Nat) (hlen : len ≤ 1073741824) (hcap : len ≤ cap) (J : Nat → World → Prop) (Jx : World → Prop)
    (hJ : ∀ k W, J k W → W.cell? ⟨B1, 0, none⟩ = some (.slice (some p) len cap) ∧ W.cell? ⟨B2, 0, none⟩ = some (.int .i64 512))
    (hY : ∀ k W, J k W → 512 * k < len → YieldAt Fence.wide 0 Tryz.prog l #[.slice (some (p.add (512 * k))) (min 512 (len - 512 * k)) (min 512 (len - 512 * k))] W fun e W' =>
      (e = .returned (.bool true) ∧ J (k + 1) W') ∨ (e = .returned (.bool false) ∧ Jx W'))
    (hJd : ∀ k W, J k W → J k W.drew) (W : World) (h0 : J 0 W) :
    CallsIn Fence.wide 1 Tryz.prog 165 #[.func (.yield l) #[] #[], .pointer (some ⟨B1, 0, none⟩), .pointer (some ⟨B2, 0, none⟩)] W fun e W' => (∃ v, e = .returned v) ∧ (J ((len + 511) / 512) W' ∨ Jx W') := by
  refine callsIn_of_wp Tryz.func165 rfl trivial ?_ rfl
  simp only [Tryz.ntmps165, List.size_toArray, List.length_cons, List.length_nil, Nat.reduceAdd, Nat.reduceSub, Array.replicate_succ, Array.replicate_zero, List.push_toArray, List.append_toArray, List.nil_append, List.cons_append]
  gi_wp2
  gi_loopw [4] (fun i wr => ∃ k : Nat, 512 * k < len + 512 ∧ i = .int .i64 ((512 * k : Nat) : Int) ∧ J k wr) (fun i _ => len + 512 - (intOf i).toNat)
  case atStart => exact ⟨0, by omega, rfl, h0⟩
  case round =>
    obtain ⟨k, hk, rfl, hJs⟩ := hrel
    obtain ⟨hc1, hc2⟩ := hJ k wr hJs
    by_cases hlt : 512 * k < len
    · gi_wp2
      gi_region
      have hif : (if ((len - 512 * k : Nat) : Int) < 512 then ((len - 512 * k : Nat) : Int) else 512) = ((min 512 (len - 512 * k) : Nat) : Int) := by split <;> omega
      have hif2 : min (512 : Int) ((len - 512 * k : Nat) : Int) = ((min 512 (len - 512 * k) : Nat) : Int) := by omega
      first | rw [hif] | rw [hif2]
      obtain ⟨fn, tmps, assign, body, hy, hR⟩ := hY k wr.drew (hJd k wr hJs) hlt
      obtain ⟨hd1, hd2⟩ := hJ k wr.drew (hJd k wr hJs)
      generalize he : min 512 (len - 512 * k) = e at hy hR
      have he1 : 512 * k + e ≤ len := by omega
      have he2 : 0 < e := by omega
      gi_wp2
      refine hR.mono ?_
      rintro e' W3 (⟨rfl, hJ3⟩ | ⟨rfl, hJx3⟩)
      · obtain ⟨hc1', hc2'⟩ := hJ _ _ hJ3
        gi_wp2
        go_roundw
        case rel => exact ⟨k + 1, by omega, by simp; omega, hJ3⟩
        case measure => simp [intOf]; omega
      · gi_wp2
        refine bodyPost_ret (results_none rfl _ _ _) rfl ?_
        exact ⟨⟨_, rfl⟩, .inr hJx3⟩
    · obtain rfl : k = (len + 511) / 512 := by omega
      gi_wp2
      go_end0
      exact ⟨⟨_, rfl⟩, .inl hJs⟩
end Go.Proofs
namespace Go.Proofs.YtkhinnchplahlaaGreatDoor
open Go Go.Vc Go.Proofs

/-- the parts of a slice. -/
def parts (p : Addr) (n : Nat) : List (Option Addr × Nat × Nat) := (List.range ((n + 511) / 512)).map fun k => (some (p.add (512 * k)), min 512 (n - 512 * k), min 512 (n - 512 * k))
theorem parts_len (p : Addr) (n : Nat) : (parts p n).length = (n + 511) / 512 := by simp [parts]
theorem parts_at {p : Addr} {n k : Nat} (hk : 512 * k < n) : (parts p n)[k]? = some (some (p.add (512 * k)), min 512 (n - 512 * k), min 512 (n - 512 * k)) := by
  unfold parts
  rw [List.getElem?_map, List.getElem?_range (by omega)]; rfl
/-- the iterator's two boxes. -/
def ChunkC (B1 B2 : Nat) (p : Addr) (n c : Nat) (H : Heap) : Prop :=
  H[B1]? = some (.cells #[.slice (some p) n c] 146 (0, 0)) ∧ H[B2]? = some (.cells #[.int .i64 512] 3 (0, 0))
theorem ChunkC.turn {B1 B2 : Nat} {p : Addr} {n c : Nat} {h h' : Heap} (hc : ChunkC B1 B2 p n c h) (t : Turn h h') : ChunkC B1 B2 p n c h' := ⟨t.stay _ _ hc.1 rfl, t.stay _ _ hc.2 rfl⟩
theorem roundIn_any {n m : Nat} {P : Program} {l : Nat} {f : FuncId} {tmps : Array Value} {assign body : Code} {w : World} {R : Ending → World → Prop} (h : RoundIn Fence.wide n P l f tmps assign body w R) : RoundIn Fence.wide m P l f tmps assign body w R :=
  ⟨h.1, fun c cs _ => h.2 c cs (room_wide _)⟩
theorem yieldAt_any {n m : Nat} {P : Program} {l : Nat} {args : Array Value} {w : World} {R : Ending → World → Prop} (h : YieldAt Fence.wide n P l args w R) : YieldAt Fence.wide m P l args w R :=
  let ⟨fn, tmps, a, b, h1, h2⟩ := h; ⟨fn, tmps, a, b, h1, roundIn_any h2⟩
theorem chunk_gives {B1 B2 : Nat} {p : Addr} {n c : Nat} (hn : n ≤ 1073741824) (hc : n ≤ c) :
    Gives Tryz.prog (.func (.func 165) #[] #[.pointer (some ⟨B1, 0, none⟩), .pointer (some ⟨B2, 0, none⟩)]) (ChunkC B1 B2 p n c) (parts p n) := by
  refine ⟨165, _, rfl, enters_of Tryz.func165 (by kernel_rfl) rfl, fun m l J Jx W hJ hJx hC hY h0 => ?_⟩
  refine ((callsIn_wide (n := 1)).1 (Tryz.chunk1_in l B1 B2 p n c hn hc J Jx (fun k W hj => ?_) (fun k W hj hlt => ?_) (fun k W hj => hJ k W _ hj ⟨rfl, rfl, rfl, Nat.le_refl _, fun _ _ => rfl⟩) W h0)).mono ?_
  · obtain ⟨h1, h2⟩ := hC k W hj
    rw [cell_eq, cell_eq, cell_at h1, cell_at h2]
    exact ⟨rfl, rfl⟩
  · exact yieldAt_any (hY k _ W hj (parts_at hlt))
  · rintro e W' ⟨he, h⟩
    rw [parts_len]
    exact ⟨he, h⟩
theorem chunk_spec {h : Heap} {p : Addr} {n c : Nat} :
    HC Tryz.prog 138 #[.slice (some p) n c, .int .i64 512] h fun v h' => Keep h.size h h' ∧ h'.size = h.size + 2 ∧ v = .func (.func 165) #[] #[.pointer (some ⟨h.size, 0, none⟩), .pointer (some ⟨h.size + 1, 0, none⟩)] ∧ ChunkC h.size (h.size + 1) p n c h' := by
  refine HC_of_vc (args := [.slice (some p) n c, .int .i64 512]) (base := 9) (cuts := []) (bigs := []) hm Tryz.func138 ?_
  rw [vcChunk]
  simp only [Array.size_push]
  refine ⟨512, reads_load scI (cell_cells0 (push2_1 _ _ _) rfl), br_intro (fun e => by cases e) fun _ => ⟨(keep_push h _).trans (Keep.push _ _ _ (by simp)), by simp, trivial, push2_0 _ _ _, push2_1 _ _ _⟩⟩
end Go.Proofs.YtkhinnchplahlaaGreatDoor
end

section
set_option linter.unusedVariables false
set_option linter.unusedSimpArgs false
set_option maxRecDepth 100000
namespace Go.Proofs.YtkhinnchplahlaaGreatDoor
open Go Go.Vc Go.Proofs Go.Dk

theorem setP_len (l : List Str) (i : Nat) (p : Str) : (setP l i p).length = max l.length (i + 1) := by simp [setP]; omega
theorem setP_get (l : List Str) (i : Nat) (p : Str) (j : Nat) : (setP l i p).getD j zp = if j = i then p else l.getD j zp := by
  unfold setP
  simp only [List.getD_eq_getElem?_getD, List.getElem?_set]
  by_cases h : i = j
  · subst h; simp; rw [if_pos (by omega)]; rfl
  · simp only [if_neg h, if_neg (Ne.symm h)]
    by_cases hj : j < l.length
    · simp [List.getElem?_append_left hj]
    · rw [List.getElem?_append_right (by omega), List.getElem?_eq_none (l := l) (by omega), List.getElem?_replicate]
      split <;> rfl
theorem pgs_put {F : Fs} (h : SrtF F) (n : Str) (l : List Str) (q : Str) : pgs (put n l F) q = if q = n then l else pgs F q := by
  unfold pgs; rw [get_put h]; split <;> rfl
theorem Like.look {F : Fs} {mc : List (Str × Int)} {mp : List ((Str × Int) × Str)} (hl : Like F mc mp) (n : Str) : (mGet mc n).getD 0 = ((pgs F n).length : Int) := by
  rw [hl.count]; unfold pgs; cases mGet F n <;> rfl
theorem Like.set {F : Fs} {mc : List (Str × Int)} {mp : List ((Str × Int) × Str)} (hl : Like F mc mp) (hs : SrtF F) (n : Str) (i : Nat) (q : Str) (k : Int) (hk : k = max ((pgs F n).length : Int) (i + 1)) :
    Like (put n (setP (pgs F n) i q) F) (mPut mc n k) (mPut mp (n, (i : Int)) q) := by
  refine ⟨fun m => ?_, fun m j => ?_, fun m j hj => ?_⟩
  · rw [mGet_put, get_put hs]
    by_cases h : n = m
    · subst h; simp [setP_len, hk]; omega
    · rw [if_neg h, if_neg (Ne.symm h)]; exact hl.count m
  · rw [mGet_put]
    unfold pg
    rw [pgs_put hs]
    have h0 := hl.page m j
    unfold pg at h0
    by_cases h : m = n
    · subst h
      rw [if_pos rfl]
      by_cases hj : (i : Int) = j
      · subst hj; rw [if_pos rfl, if_pos (by omega)]; simp only [Int.toNat_natCast, setP_get, if_true, Option.getD_some]
      · rw [if_neg (by simpa using hj), h0]
        by_cases h1 : 0 ≤ j
        · simp only [if_pos h1, setP_get]; rw [if_neg (by omega)]
        · simp only [if_neg h1]
    · rw [if_neg h, if_neg (by intro e; exact h (Prod.ext_iff.1 e).1.symm)]; exact h0
  · rw [mGet_put] at hj
    rw [pgs_put hs]
    by_cases h : m = n
    · subst h
      rw [if_pos rfl, setP_len]
      by_cases hij : (i : Int) = j
      · subst hij; omega
      · rw [if_neg (by simpa using hij)] at hj
        have := hl.there m j hj; omega
    · rw [if_neg h]; rw [if_neg (by intro e; exact h (Prod.ext_iff.1 e).1.symm)] at hj; exact hl.there m j hj

theorem pgC_one (q : Str) : oneCells (pgC q) := fun v hv => by
  simp only [pgC, List.mem_map] at hv
  obtain ⟨j, _, rfl⟩ := hv
  exact one_int _ _

/-- a side's map is looked up. -/
theorem reads_count {h : Heap} {c : Nat} {F : Fs} {mc : List (Str × Int)} {mp : List ((Str × Int) × Str)} (hc : MapAt Mc h c mc) (hl : Like F mc mp) (s : Str) :
    Reads Tryz.prog (Instr.lookup 70 (.map (some c)) (.string s) false) h (.int .i64 (pgs F s).length) := by
  have := (reads_lookup (k := s) hc zI).1
  rw [← hl.look]
  cases hg : mGet mc s <;> (rw [hg] at this; exact this)
theorem reads_count2 {h : Heap} {c : Nat} {F : Fs} {mc : List (Str × Int)} {mp : List ((Str × Int) × Str)} (hc : MapAt Mc h c mc) (hl : Like F mc mp) (s : Str) :
    Reads Tryz.prog (Instr.lookup 70 (.map (some c)) (.string s) true) h (.tuple #[.int .i64 (pgs F s).length, .bool (mGet F s).isSome]) := by
  have := (reads_lookup (k := s) hc zI).2
  rw [← hl.look]
  have hi : (mGet F s).isSome = (mGet mc s).isSome := by rw [hl.count]; cases mGet F s <;> rfl
  rw [hi]
  cases hg : mGet mc s <;> (rw [hg] at this; exact this)
theorem reads_page {h : Heap} {p : Nat} {F : Fs} {mc : List (Str × Int)} {mp : List ((Str × Int) × Str)} (hp : MapAt Mp h p mp) (hl : Like F mc mp) (s : Str) (i : Int) :
    Reads Tryz.prog (Instr.lookup 71 (.map (some p)) (.agg #[.string s, .int .i64 i]) false) h (pv (pg F s i)) := by
  have := (reads_lookup (k := (s, i)) hp zP).1
  rw [← hl.page]
  cases hg : mGet mp (s, i) <;> (rw [hg] at this; exact this)
/-- one of two blocks. -/
def two (c p b : Nat) : Prop := b = c ∨ b = p

theorem set_spec {h : Heap} {c p : Nat} {F : Fs} {s q : Str} {i : Nat} (hs : SideAt h c p F) (hF : SrtF F) (hne : c ≠ p) (hi : i < 4611686018427387904) :
    HC Tryz.prog 63 #[.agg #[.map (some c), .map (some p)], .agg #[.string s, .int .i64 i], pv q] h
      fun v h' => SideAt h' c p (put s (setP (pgs F s) i q) F) ∧ Upd (two c p) h h' ∧ v = .tuple #[] := by
  obtain ⟨mc, mp, hc, hp, hl⟩ := hs
  refine HC_of_vc (args := [.agg #[.map (some c), .map (some p)], .agg #[.string s, .int .i64 i], pv q]) (base := 23) (cuts := []) (bigs := []) hm Tryz.func63 ?_
  unfold pv
  rw [vcSet]
  generalize hH : (((Array.push h (Obj.cells (Array.mk [Value.map (some c), Value.map (some p)]) 73)).push (Obj.cells (Array.mk [Value.string s, Value.int IntKind.i64 i]) 124)).push (Obj.cells (pgC q).toArray 126)) = H
  have b0 : H[h.size]? = some (Obj.cells (Array.mk [Value.map (some c), Value.map (some p)]) 73) := by rw [← hH]; exact push3_0 _ _ _ _
  have b1 : H[h.size + 1]? = some (Obj.cells (Array.mk [Value.string s, Value.int IntKind.i64 i]) 124) := by rw [← hH]; exact push3_1 _ _ _ _
  have b2 : H[h.size + 2]? = some (Obj.cells (pgC q).toArray 126) := by rw [← hH]; exact push3_2 _ _ _ _
  have kH : Keep h.size h H := by rw [← hH]; exact ((keep_push h _).trans (Keep.push _ _ _ (by simp))).trans (Keep.push _ _ _ (by simp; omega))
  clear hH
  simp only [Array.size_push]
  have lc := hc.lt
  have lp := hp.lt
  refine ⟨some p, reads_load scMp (cell_cells b0 rfl), s, (i : Int), reads_load_agg (cs := [.string s, .int .i64 i]) agAt rfl (cells_all b1), (pgC q).toArray, reads_load_agg agPage (pgC_len q) (cells_all b2), ?_⟩
  refine svc_mapUpdate (M := Mp) (k := (s, (i : Int))) (v := q) (hp.keep kH) fun h5 s5 u5 m5 => ?_
  have c0 := u5.at b0 (by omega)
  have c1 := u5.at b1 (by omega)
  have hc5 := (hc.keep kH).upd u5 hne
  refine ⟨some c, reads_load scMc (cell_cells0 c0 rfl), s, reads_load scS (cell_cells0 c1 rfl), some c, reads_load scMc (cell_cells0 c0 rfl), s, reads_load scS (cell_cells0 c1 rfl), _, reads_count hc5 hl s, (i : Int), reads_load scI (cell_cells c1 rfl), _, reads_max, ?_⟩
  have hlen : ((pgs F s).length : Int) = (mGet mc s).getD 0 := (hl.look s).symm
  refine svc_mapUpdate (M := Mc) (k := s) (v := _) hc5 fun h14 s14 u14 m14 => ?_
  refine ⟨⟨_, _, m14, m5.upd u14 (Ne.symm hne), hl.set hF s i q _ ?_⟩, (kH.upd _).trans ((u5.mono fun b e => .inr e).trans (u14.mono fun b e => .inl e)), by first | rfl | trivial⟩
  rw [wrap_i64 (by omega) (by omega)]
  omega

theorem free_spec {h : Heap} {d : Nat} {x : D} {O : Nat → Prop} (hd : DiskAt h d x O) :
    HC Tryz.prog 92 #[.pointer (some ⟨d, 0, none⟩)] h fun v h' => Keep h.size h h' ∧ v = .int .i64 (free x) := by
  obtain ⟨hO, c1, p1, c2, p2, A, n, c, hp, hb⟩ := hd
  obtain ⟨mc, mp, hc, hmp, hl⟩ := hp.now
  have hnd : (mKeys mc).Nodup := by obtain ⟨_, _, _, _, h0, _⟩ := hc; exact h0
  have hnn : ∀ q ∈ mc, 0 ≤ q.2 := fun q hq => by
    have h0 := (mGet_mem hnd q.1 q.2).1 hq
    rw [hl.count] at h0
    cases hg : mGet x.now q.1 with
    | none => rw [hg] at h0; cases h0
    | some l => rw [hg] at h0; simp at h0; omega
  have htot : sumV mc = tot x.now := by
    have hk : mKeys (x.now.map fun q => (q.1, (q.2.length : Int))) = names x.now := by simp [mKeys]
    have hg : ∀ (F : Fs) k, mGet (F.map fun q => (q.1, (q.2.length : Int))) k = (mGet F k).map fun l => (l.length : Int) := by
      intro F k
      induction F with
      | nil => rfl
      | cons q F ih => by_cases h0 : q.1 = k <;> simp [mGet, h0, ih]
    have hpm := perm_of_get hnd (by rw [hk]; exact srt_nodup hp.ok.now) fun k => (hl.count k).trans (hg x.now k).symm
    rw [sumV_perm hpm]
    generalize x.now = F
    induction F with
    | nil => rfl
    | cons q F ih => simp [sumV, tot] at ih ⊢; omega
  have hroom := hp.ok.tot
  have hr := hp.ok.room
  refine HC_of_vc (args := [.pointer (some ⟨d, 0, none⟩)]) (base := 26) (cuts := []) (bigs := []) hm Tryz.func92 ?_
  rw [vcFree]
  refine ⟨_, reads_eql_nil undD, br_intro (fun e => by cases e) fun _ => ⟨_, rfl, (x.room : Int), reads_load scI (hp.rd rfl), _, rfl, some c1, reads_load scMc (cell_cells0 hp.box rfl), ?_⟩⟩
  refine svc_range (M := Mc) hc fun h6 k6 s6 i6 => ⟨_, rfl, ?_⟩
  refine ⟨fun n10 h11 => ∃ left cur, IterAt Mc h11 h.size c1 mc left cur ∧ Keep h.size h h11 ∧ n10 = x.room - (sumV mc - sumV left) ∧ (∀ q ∈ left, 0 ≤ q.2) ∧ 0 ≤ sumV left ∧ sumV left ≤ sumV mc,
    fun n10 h11 => match h11[h.size]? with | some (.mapIter _ _ seen _) => (match h11[c1]? with | some (.map es _) => (leftOf es seen).size | _ => 0) | _ => 0,
    ⟨mc, none, i6, k6, by omega, hnn, sumV_nonneg hnn, Int.le_refl _⟩, ?_⟩
  rintro n10 h11 ⟨left, cur, hit, k11, rfl, hnl, h0, h1⟩
  have size : ∀ {h' : Heap} {left : List (Str × Int)} {cur}, IterAt Mc h' h.size c1 mc left cur → (match h'[h.size]? with | some (.mapIter _ _ seen _) => (match h'[c1]? with | some (.map es _) => (leftOf es seen).size | _ => 0) | _ => 0) = left.length := by
    rintro h' left cur ⟨es, clock, since, seen, last, e1, _, _, _, _, e2, _, _, _, e3, _⟩
    rw [e2, e1]
    have := congrArg List.length e3
    simpa using this
  refine svc_next hit (fun hl0 => .inl ⟨rfl, k11, ?_⟩) fun j q h13 hj u13 s13 i13 => .inr ⟨_, _, rfl, _, _, reads_entry i13, ⟨left.eraseIdx j, some q, i13, k11.trans ⟨by omega, fun b hb => u13.block b (by have := k11.size; omega) (by omega)⟩, ?_, fun r hr => hnl r (List.mem_of_mem_eraseIdx hr), ?_, ?_⟩, ?_⟩
  · subst hl0
    show Value.int .i64 _ = _
    congr 1
    unfold free
    rw [← htot]
    simp [sumV]
  · have hq := hnl q (List.mem_of_getElem? hj)
    have he := sumV_erase left j q hj
    have hn0 : 0 ≤ sumV (left.eraseIdx j) := sumV_nonneg fun r hr => hnl r (List.mem_of_mem_eraseIdx hr)
    rw [wrap_i64 (by omega) (by omega)]; omega
  · exact sumV_nonneg fun r hr => hnl r (List.mem_of_mem_eraseIdx hr)
  · have hq := hnl q (List.mem_of_getElem? hj)
    have he := sumV_erase left j q hj
    omega
  · dsimp only
    rw [size i13, size hit, List.length_eraseIdx]
    have := (List.getElem?_eq_some_iff.1 hj).1
    rw [if_pos this]; omega
end Go.Proofs.YtkhinnchplahlaaGreatDoor
end

section
namespace Go.Proofs
open Go.RowKit Go.Maps Go.Shelf

section
open Go.Shelf
def Tryz.cloneC_ren : Go.Shelf.Ren := ⟨fun | 5 => 64 | 7 => 112 | n => n, fun | 23 => 70 | 25 => 9 | 3 => 3 | 4 => 4 | 20 => 20 | n => n, fun | n => n⟩
theorem Tryz.cloneC : Go.Proofs.SlLaysW.n5 Tryz.prog Tryz.cloneC_ren := {
  mixed := by kernel_rfl
  f5 := ⟨Tryz.f64.name, by decide, Tryz.func64.trans (congrArg some (by kernel_rfl))⟩
  f7 := Tryz.func112.trans (congrArg some (by kernel_rfl))
  t4 := Tryz.underlying4
  a4 := Tryz.isAgg4
  z4 := Tryz.sizeOf4
  v4 := Tryz.zeroValue4
  t20 := Tryz.underlying20
  a20 := Tryz.isAgg20
  z20 := Tryz.sizeOf20
  v20 := Tryz.zeroValue20
  t23 := Tryz.underlying70
  a23 := Tryz.isAgg70
  z23 := Tryz.sizeOf70
  v23 := Tryz.zeroValue70 }
end
section
open Go.Shelf
def Tryz.cloneP_ren : Go.Shelf.Ren := ⟨fun | 5 => 65 | 7 => 112 | n => n, fun | 23 => 71 | 25 => 124 | 3 => 126 | 4 => 4 | 20 => 20 | n => n, fun | n => n⟩
theorem Tryz.cloneP : Go.Proofs.SlLaysW.n5 Tryz.prog Tryz.cloneP_ren := {
  mixed := by kernel_rfl
  f5 := ⟨Tryz.f65.name, by decide, Tryz.func65.trans (congrArg some (by kernel_rfl))⟩
  f7 := Tryz.func112.trans (congrArg some (by kernel_rfl))
  t4 := Tryz.underlying4
  a4 := Tryz.isAgg4
  z4 := Tryz.sizeOf4
  v4 := Tryz.zeroValue4
  t20 := Tryz.underlying20
  a20 := Tryz.isAgg20
  z20 := Tryz.sizeOf20
  v20 := Tryz.zeroValue20
  t23 := Tryz.underlying71
  a23 := Tryz.isAgg71
  z23 := Tryz.sizeOf71
  v23 := Tryz.zeroValue71 }
end
theorem Tryz.cloneC_calls (b : Nat) (es : Array MapEntry) (clock : Nat) (w : World) (hb : w.heap[b]? = some (.map es clock)) :
    Calls Tryz.prog 64 #[.map (some b)] w fun e w' => e = .returned (.map (some w.heap.size)) ∧ w' = w.alloc (.map es clock) := AnyW.maps_Clone Tryz.cloneC b es clock w hb
theorem Tryz.cloneP_calls (b : Nat) (es : Array MapEntry) (clock : Nat) (w : World) (hb : w.heap[b]? = some (.map es clock)) :
    Calls Tryz.prog 65 #[.map (some b)] w fun e w' => e = .returned (.map (some w.heap.size)) ∧ w' = w.alloc (.map es clock) := AnyW.maps_Clone Tryz.cloneP b es clock w hb
end Go.Proofs
end

section
set_option linter.unusedVariables false
set_option maxRecDepth 100000
namespace Go.Proofs.YtkhinnchplahlaaGreatDoor
open Go Go.Vc Go.Proofs

theorem vcOff (d : Nat) (keep : Int) (h : Heap) (R : Value → Heap → Prop) :
    vcF Tryz.prog Tryz.f31 83 [] [] [.pointer (some ⟨d, 0, none⟩), .int .u64 keep] h R =
(HC Tryz.prog (62 : Nat) (Array.mk [Value.pointer (some (Addr.mk d (0 : Nat) none))]) h fun (v0 : Value) (h1 : Heap) =>
 ∃ (n2 : Int),
 v0 = Value.int IntKind.i64 n2 ∧
 br (n2 != (0 : Int)) (R (Value.tuple (Array.mk [])) h1)
 (∃ (p3 : Addr),
 some (Addr.mk d (0 : Nat) none) = some p3 ∧
 ∃ (a4 : Option Addr),
 ∃ (k5 : Nat),
 ∃ (k6 : Nat),
 Reads Tryz.prog (Instr.loadAt (75 : Nat) (Value.pointer (some (p3.add (4 : Nat))))) h1 (Value.slice a4 k5 k6) ∧
 ∃ (I7 : Int → Heap → Prop),
 ∃ (I8 : Int → Heap → Nat),
 I7 (0 : Int) h1 ∧
 ∀ (n9 : Int) (h10 : Heap),
 I7 n9 h10 →
 br (decide (n9 < (↑k5 : Int)))
 (∃ (p11 : Addr),
 (a4 = some p11 ∧ (0 : Int) ≤ n9 ∧ n9 < (↑k5 : Int)) ∧
 ∃ (h12 : Array Value),
 Reads Tryz.prog (Instr.loadAt (128 : Nat) (Value.pointer (some (p11.add (n9.toNat * (514 : Nat)))))) h10 (Value.agg h12) ∧
 ∃ (h13 : Array Value),
 IsZ Tryz.prog (128 : Nat) h13 ∧
 SVC Tryz.prog (Instr.storeAt (128 : Nat) (Value.pointer (some (Addr.mk (Array.size h10) (0 : Nat) none))) (Value.agg h12))
 (Array.push h10 (Obj.cells h13 (128 : Nat))) fun (x14 : Unit) (h15 : Heap) =>
 (64 : Int) ≠ (0 : Int) ∧
 (0 : Int) ≤ n9.tmod (64 : Int) ∧
 br
 (IntKind.u64.wrap
 (↑(BitVec.ofInt (64 : Nat) (keep.fdiv ((2 : Int) ^ min (n9.tmod (64 : Int)).toNat (64 : Nat))) &&& BitVec.ofInt (64 : Nat) (1 : Int)).toNat :
 Int) ==
 (1 : Int))
 (∃ (p16 : Addr),
 some (Addr.mk d (0 : Nat) none) = some p16 ∧
 ∃ (a17 : Option Nat),
 ∃ (a18 : Option Nat),
 Reads Tryz.prog (Instr.loadAt (73 : Nat) (Value.pointer (some (p16.add (2 : Nat))))) h15
 (Value.agg (Array.mk [Value.map a17, Value.map a18])) ∧
 ∃ (s19 : ByteArray),
 ∃ (n20 : Int),
 Reads Tryz.prog (Instr.loadAt (124 : Nat) (Value.pointer (some (Addr.mk (Array.size h10) (0 : Nat) none)))) h15
 (Value.agg (Array.mk [Value.string s19, Value.int IntKind.i64 n20])) ∧
 ∃ (h21 : Array Value),
 Reads Tryz.prog (Instr.loadAt (126 : Nat) (Value.pointer (some ((Addr.mk (Array.size h10) (0 : Nat) none).add (2 : Nat))))) h15
 (Value.agg h21) ∧
 HC Tryz.prog (63 : Nat)
 (Array.mk
 [Value.agg (Array.mk [Value.map a17, Value.map a18]), Value.agg (Array.mk [Value.string s19, Value.int IntKind.i64 n20]),
 Value.agg h21])
 h15 fun (v22 : Value) (h23 : Heap) =>
 v22 = Value.tuple (Array.mk []) ∧
 I7 (IntKind.i64.wrap (n9 + (1 : Int))) h23 ∧ I8 (IntKind.i64.wrap (n9 + (1 : Int))) h23 < I8 n9 h10)
 (I7 (IntKind.i64.wrap (n9 + (1 : Int))) h15 ∧ I8 (IntKind.i64.wrap (n9 + (1 : Int))) h15 < I8 n9 h10))
 (∃ (p24 : Addr),
 some (Addr.mk d (0 : Nat) none) = some p24 ∧
 ∃ (a25 : Option Nat),
 Reads Tryz.prog (Instr.loadAt (70 : Nat) (Value.pointer (some p24))) h10 (Value.map a25) ∧
 SVC Tryz.prog (Instr.range (70 : Nat) (Value.map a25)) h10 fun (v26 : Value) (h27 : Heap) =>
 ∃ (a28 : Option Addr),
 v26 = Value.pointer a28 ∧
 ∃ (I29 : Heap → Prop),
 ∃ (I30 : Heap → Nat),
 I29 h27 ∧
 ∀ (h31 : Heap),
 I29 h31 →
 SVC Tryz.prog (Instr.next (Value.pointer a28) false (0 : Nat)) h31 fun (v32 : Value) (h33 : Heap) =>
 (v32 = Value.tuple (Array.mk [Value.bool false]) ∧
 ∃ (p34 : Addr),
 some (Addr.mk d (0 : Nat) none) = some p34 ∧
 ∃ (a35 : Option Nat),
 ∃ (a36 : Option Nat),
 Reads Tryz.prog (Instr.loadAt (73 : Nat) (Value.pointer (some (p34.add (2 : Nat))))) h33
 (Value.agg (Array.mk [Value.map a35, Value.map a36])) ∧
 HC Tryz.prog (33 : Nat) (Array.mk [Value.agg (Array.mk [Value.map a35, Value.map a36])]) h33 fun (v37 : Value) (h38 : Heap) =>
 ∃ (a39 : Option Nat),
 ∃ (a40 : Option Nat),
 v37 = Value.agg (Array.mk [Value.map a39, Value.map a40]) ∧
 ∃ (p41 : Addr),
 some (Addr.mk d (0 : Nat) none) = some p41 ∧
 SVC Tryz.prog
 (Instr.storeAt (73 : Nat) (Value.pointer (some p41)) (Value.agg (Array.mk [Value.map a39, Value.map a40]))) h38
 fun (x42 : Unit) (h43 : Heap) =>
 ∃ (p44 : Addr),
 some (Addr.mk d (0 : Nat) none) = some p44 ∧
 SVC Tryz.prog
 (Instr.storeAt (75 : Nat) (Value.pointer (some (p44.add (4 : Nat)))) (Value.slice none (0 : Nat) (0 : Nat)))
 h43 fun (x45 : Unit) (h46 : Heap) =>
 ∃ (p47 : Addr),
 some (Addr.mk d (0 : Nat) none) = some p47 ∧
 SVC Tryz.prog (Instr.storeAt (4 : Nat) (Value.pointer (some (p47.add (6 : Nat)))) (Value.bool true)) h46
 fun (x48 : Unit) (h49 : Heap) =>
 ∃ (p50 : Addr),
 some (Addr.mk d (0 : Nat) none) = some p50 ∧
 SVC Tryz.prog
 (Instr.storeAt (3 : Nat) (Value.pointer (some (p50.add (8 : Nat))))
 (Value.int IntKind.i64 (0 : Int)))
 h49 fun (x51 : Unit) (h52 : Heap) => R (Value.tuple (Array.mk [])) h52) ∨
 ∃ (v53 : Value),
 ∃ (v54 : Value),
 v32 = Value.tuple (Array.mk [Value.bool true, v53, v54]) ∧
 ∃ (s55 : ByteArray),
 ∃ (v56 : Value),
 Reads Tryz.prog (Instr.entry (Value.pointer a28)) h33 (Value.tuple (Array.mk [Value.string s55, v56])) ∧
 ∃ (p57 : Addr),
 some (Addr.mk d (0 : Nat) none) = some p57 ∧
 ∃ (a58 : Option Nat),
 Reads Tryz.prog (Instr.loadAt (70 : Nat) (Value.pointer (some (p57.add (2 : Nat))))) h33 (Value.map a58) ∧
 ∃ (n59 : Int),
 ∃ (b60 : Bool),
 Reads Tryz.prog (Instr.lookup (70 : Nat) (Value.map a58) (Value.string s55) true) h33
 (Value.tuple (Array.mk [Value.int IntKind.i64 n59, Value.bool b60])) ∧
 br (!b60)
 (∃ (p61 : Addr),
 some (Addr.mk d (0 : Nat) none) = some p61 ∧
 ∃ (a62 : Option Nat),
 Reads Tryz.prog (Instr.loadAt (70 : Nat) (Value.pointer (some (p61.add (2 : Nat))))) h33 (Value.map a62) ∧
 SVC Tryz.prog
 (Instr.mapUpdate (70 : Nat) (Value.map a62) (Value.string s55) (Value.int IntKind.i64 (0 : Int))) h33
 fun (x63 : Unit) (h64 : Heap) => I29 h64 ∧ I30 h64 < I30 h31)
 (I29 h33 ∧ I30 h33 < I30 h31)))) := by kernel_rfl

theorem vcOn (d : Nat) (h : Heap) (R : Value → Heap → Prop) :
    vcF Tryz.prog Tryz.f32 7 [] [] [.pointer (some ⟨d, 0, none⟩)] h R =
(∃ (b0 : Bool),
 Reads Tryz.prog (eqSem BinOp.neq (25 : Nat) (Operand.tmp (2 : Nat)) (Operand.const (Value.pointer none)) (Value.pointer (some (Addr.mk d (0 : Nat) none))) (Value.pointer none)) h (Value.bool b0) ∧
 br b0
 (∃ (p1 : Addr),
 some (Addr.mk d (0 : Nat) none) = some p1 ∧
 SVC Tryz.prog (Instr.storeAt (4 : Nat) (Value.pointer (some (p1.add (6 : Nat)))) (Value.bool false)) h fun (x2 : Unit) (h3 : Heap) => R (Value.tuple (Array.mk [])) h3)
 (R (Value.tuple (Array.mk [])) h)) := by kernel_rfl

theorem vcCount (d : Nat) (s : ByteArray) (h : Heap) (R : Value → Heap → Prop) :
    vcF Tryz.prog Tryz.f76 15 [] [] [.pointer (some ⟨d, 0, none⟩), .string s] h R =
(HC Tryz.prog (62 : Nat) (Array.mk [Value.pointer (some (Addr.mk d (0 : Nat) none))]) h fun (v0 : Value) (h1 : Heap) =>
 ∃ (n2 : Int),
 v0 = Value.int IntKind.i64 n2 ∧
 br (n2 != (0 : Int)) (R (Value.int IntKind.i64 (0 : Int)) h1)
 (∃ (p3 : Addr),
 some (Addr.mk d (0 : Nat) none) = some p3 ∧
 ∃ (a4 : Option Nat),
 Reads Tryz.prog (Instr.loadAt (70 : Nat) (Value.pointer (some p3))) h1 (Value.map a4) ∧
 ∃ (n5 : Int), Reads Tryz.prog (Instr.lookup (70 : Nat) (Value.map a4) (Value.string s) false) h1 (Value.int IntKind.i64 n5) ∧ R (Value.int IntKind.i64 n5) h1)) := by kernel_rfl

theorem vcHas (d : Nat) (s : ByteArray) (h : Heap) (R : Value → Heap → Prop) :
    vcF Tryz.prog Tryz.f66 21 [] [] [.pointer (some ⟨d, 0, none⟩), .string s] h R =
(HC Tryz.prog (62 : Nat) (Array.mk [Value.pointer (some (Addr.mk d (0 : Nat) none))]) h fun (v0 : Value) (h1 : Heap) =>
 ∃ (n2 : Int),
 v0 = Value.int IntKind.i64 n2 ∧
 br (n2 != (0 : Int)) (R (Value.bool false) h1)
 (∃ (p3 : Addr),
 some (Addr.mk d (0 : Nat) none) = some p3 ∧
 ∃ (a4 : Option Nat),
 Reads Tryz.prog (Instr.loadAt (70 : Nat) (Value.pointer (some p3))) h1 (Value.map a4) ∧
 ∃ (n5 : Int),
 ∃ (b6 : Bool),
 Reads Tryz.prog (Instr.lookup (70 : Nat) (Value.map a4) (Value.string s) true) h1 (Value.tuple (Array.mk [Value.int IntKind.i64 n5, Value.bool b6])) ∧ R (Value.bool b6) h1)) := by kernel_rfl

theorem vcDown (d : Nat) (h : Heap) (R : Value → Heap → Prop) :
    vcF Tryz.prog Tryz.f34 11 [] [] [.pointer (some ⟨d, 0, none⟩)] h R =
(∃ (b0 : Bool),
 Reads Tryz.prog (eqSem BinOp.neq (25 : Nat) (Operand.tmp (3 : Nat)) (Operand.const (Value.pointer none)) (Value.pointer (some (Addr.mk d (0 : Nat) none))) (Value.pointer none)) h (Value.bool b0) ∧
 ∃ (p1 : Addr),
 (b0 = true → some (Addr.mk d (0 : Nat) none) = some p1) ∧
 ∃ (b2 : Bool), (b0 = true → Reads Tryz.prog (Instr.loadAt (4 : Nat) (Value.pointer (some (p1.add (6 : Nat))))) h (Value.bool b2)) ∧ R (Value.bool (b0 && b2)) h) := by kernel_rfl

theorem vcSync (d : Nat) (s : ByteArray) (h : Heap) (R : Value → Heap → Prop) :
    vcF Tryz.prog Tryz.f83 15 [] [] [.pointer (some ⟨d, 0, none⟩), .string s] h R =
(HC Tryz.prog (123 : Nat) (Array.mk [Value.pointer (some (Addr.mk d (0 : Nat) none)), Value.string s, Value.func (Fn.func (130 : Nat)) (Array.mk []) (Array.mk [])]) h fun (v0 : Value) (h1 : Heap) =>
 ∃ (n2 : Int),
 v0 = Value.int IntKind.i64 n2 ∧
 br (n2 == (0 : Int))
 (HC Tryz.prog (131 : Nat) (Array.mk [Value.pointer (some (Addr.mk d (0 : Nat) none)), Value.string s]) h1 fun (v3 : Value) (h4 : Heap) =>
 v3 = Value.tuple (Array.mk []) ∧ R (Value.int IntKind.i64 n2) h4)
 (R (Value.int IntKind.i64 n2) h1)) := by kernel_rfl

theorem vcRemove (d : Nat) (s : ByteArray) (h : Heap) (R : Value → Heap → Prop) :
    vcF Tryz.prog Tryz.f75 30 [] [] [.pointer (some ⟨d, 0, none⟩), .string s] h R =
(∃ (s0 : ByteArray),
 Reads Tryz.prog (Instr.loadAt (9 : Nat) (Value.pointer (some (Addr.mk (Array.size h) (0 : Nat) none)))) (Array.push h (Obj.cells (Array.mk [Value.string s]) (9 : Nat))) (Value.string s0) ∧
 HC Tryz.prog (123 : Nat)
 (Array.mk
 [Value.pointer (some (Addr.mk d (0 : Nat) none)), Value.string s0, Value.func (Fn.func (121 : Nat)) (Array.mk []) (Array.mk [Value.pointer (some (Addr.mk (Array.size h) (0 : Nat) none))])])
 (Array.push h (Obj.cells (Array.mk [Value.string s]) (9 : Nat))) fun (v1 : Value) (h2 : Heap) =>
 ∃ (n3 : Int),
 v1 = Value.int IntKind.i64 n3 ∧
 br (n3 == (0 : Int))
 (∃ (p4 : Addr),
 some (Addr.mk d (0 : Nat) none) = some p4 ∧
 ∃ (a5 : Option Nat),
 ∃ (a6 : Option Nat),
 Reads Tryz.prog (Instr.loadAt (73 : Nat) (Value.pointer (some (p4.add (2 : Nat))))) h2 (Value.agg (Array.mk [Value.map a5, Value.map a6])) ∧
 HC Tryz.prog (121 : Nat) (Array.mk [Value.agg (Array.mk [Value.map a5, Value.map a6]), Value.pointer (some (Addr.mk (Array.size h) (0 : Nat) none))]) h2
 fun (v7 : Value) (h8 : Heap) =>
 v7 = Value.tuple (Array.mk []) ∧
 ∃ (p9 : Addr),
 some (Addr.mk d (0 : Nat) none) = some p9 ∧
 ∃ (a10 : Option Addr),
 ∃ (k11 : Nat),
 ∃ (k12 : Nat),
 Reads Tryz.prog (Instr.loadAt (75 : Nat) (Value.pointer (some (p9.add (4 : Nat))))) h8 (Value.slice a10 k11 k12) ∧
 HC Tryz.prog (124 : Nat)
 (Array.mk [Value.slice a10 k11 k12, Value.func (Fn.func (125 : Nat)) (Array.mk []) (Array.mk [Value.pointer (some (Addr.mk (Array.size h) (0 : Nat) none))])])
 h8 fun (v13 : Value) (h14 : Heap) =>
 ∃ (a15 : Option Addr),
 ∃ (k16 : Nat),
 ∃ (k17 : Nat),
 v13 = Value.slice a15 k16 k17 ∧
 ∃ (p18 : Addr),
 some (Addr.mk d (0 : Nat) none) = some p18 ∧
 SVC Tryz.prog (Instr.storeAt (75 : Nat) (Value.pointer (some (p18.add (4 : Nat)))) (Value.slice a15 k16 k17)) h14 fun (x19 : Unit) (h20 : Heap) =>
 R (Value.int IntKind.i64 n3) h20)
 (R (Value.int IntKind.i64 n3) h2)) := by kernel_rfl

theorem vcNames (d : Nat) (h : Heap) (R : Value → Heap → Prop) :
    vcF Tryz.prog Tryz.f71 13 [] [] [.pointer (some ⟨d, 0, none⟩)] h R =
(HC Tryz.prog (62 : Nat) (Array.mk [Value.pointer (some (Addr.mk d (0 : Nat) none))]) h fun (v0 : Value) (h1 : Heap) =>
 ∃ (n2 : Int),
 v0 = Value.int IntKind.i64 n2 ∧
 br (n2 != (0 : Int)) (R (Value.slice none (0 : Nat) (0 : Nat)) h1)
 (∃ (p3 : Addr),
 some (Addr.mk d (0 : Nat) none) = some p3 ∧
 ∃ (a4 : Option Nat),
 Reads Tryz.prog (Instr.loadAt (70 : Nat) (Value.pointer (some p3))) h1 (Value.map a4) ∧
 HC Tryz.prog (117 : Nat) (Array.mk [Value.map a4]) h1 fun (v5 : Value) (h6 : Heap) =>
 ∃ (v7 : Value),
 v5 = v7 ∧
 HC Tryz.prog (116 : Nat) (Array.mk [v7]) h6 fun (v8 : Value) (h9 : Heap) =>
 ∃ (a10 : Option Addr), ∃ (k11 : Nat), ∃ (k12 : Nat), v8 = Value.slice a10 k11 k12 ∧ R (Value.slice a10 k11 k12) h9)) := by kernel_rfl

theorem vcSettle (d : Nat) (s : ByteArray) (h : Heap) (R : Value → Heap → Prop) :
    vcF Tryz.prog Tryz.f131 54 [] [] [.pointer (some ⟨d, 0, none⟩), .string s] h R =
(∃ (p0 : Addr),
 some (Addr.mk d (0 : Nat) none) = some p0 ∧
 ∃ (a1 : Option Nat),
 ∃ (a2 : Option Nat),
 Reads Tryz.prog (Instr.loadAt (73 : Nat) (Value.pointer (some (p0.add (2 : Nat))))) (Array.push h (Obj.cells (Array.mk [Value.string s]) (9 : Nat)))
 (Value.agg (Array.mk [Value.map a1, Value.map a2])) ∧
 ∃ (s3 : ByteArray),
 Reads Tryz.prog (Instr.loadAt (9 : Nat) (Value.pointer (some (Addr.mk (Array.size h) (0 : Nat) none)))) (Array.push h (Obj.cells (Array.mk [Value.string s]) (9 : Nat))) (Value.string s3) ∧
 HC Tryz.prog (122 : Nat) (Array.mk [Value.agg (Array.mk [Value.map a1, Value.map a2]), Value.string s3, Value.int IntKind.i64 (0 : Int)])
 (Array.push h (Obj.cells (Array.mk [Value.string s]) (9 : Nat))) fun (v4 : Value) (h5 : Heap) =>
 v4 = Value.tuple (Array.mk []) ∧
 ∃ (p6 : Addr),
 some (Addr.mk d (0 : Nat) none) = some p6 ∧
 ∃ (a7 : Option Nat),
 Reads Tryz.prog (Instr.loadAt (70 : Nat) (Value.pointer (some (p6.add (2 : Nat))))) h5 (Value.map a7) ∧
 ∃ (s8 : ByteArray),
 Reads Tryz.prog (Instr.loadAt (9 : Nat) (Value.pointer (some (Addr.mk (Array.size h) (0 : Nat) none)))) h5 (Value.string s8) ∧
 SVC Tryz.prog (Instr.mapUpdate (70 : Nat) (Value.map a7) (Value.string s8) (Value.int IntKind.i64 (0 : Int))) h5 fun (x9 : Unit) (h10 : Heap) =>
 ∃ (p11 : Addr),
 some (Addr.mk d (0 : Nat) none) = some p11 ∧
 ∃ (a12 : Option Nat),
 Reads Tryz.prog (Instr.loadAt (70 : Nat) (Value.pointer (some p11))) h10 (Value.map a12) ∧
 ∃ (s13 : ByteArray),
 Reads Tryz.prog (Instr.loadAt (9 : Nat) (Value.pointer (some (Addr.mk (Array.size h) (0 : Nat) none)))) h10 (Value.string s13) ∧
 ∃ (n14 : Int),
 Reads Tryz.prog (Instr.lookup (70 : Nat) (Value.map a12) (Value.string s13) false) h10 (Value.int IntKind.i64 n14) ∧
 ∃ (I15 : Int → Heap → Prop),
 ∃ (I16 : Int → Heap → Nat),
 I15 (0 : Int) h10 ∧
 ∀ (n17 : Int) (h18 : Heap),
 I15 n17 h18 →
 br (decide (n17 < n14))
 (∃ (p19 : Addr),
 some (Addr.mk d (0 : Nat) none) = some p19 ∧
 ∃ (a20 : Option Nat),
 ∃ (a21 : Option Nat),
 Reads Tryz.prog (Instr.loadAt (73 : Nat) (Value.pointer (some (p19.add (2 : Nat))))) h18
 (Value.agg (Array.mk [Value.map a20, Value.map a21])) ∧
 ∃ (s22 : ByteArray),
 Reads Tryz.prog (Instr.loadAt (9 : Nat) (Value.pointer (some (Addr.mk (Array.size h) (0 : Nat) none)))) h18 (Value.string s22) ∧
 ∃ (p23 : Addr),
 some (Addr.mk d (0 : Nat) none) = some p23 ∧
 ∃ (a24 : Option Nat),
 Reads Tryz.prog (Instr.loadAt (71 : Nat) (Value.pointer (some (p23.add (1 : Nat))))) h18 (Value.map a24) ∧
 ∃ (s25 : ByteArray),
 Reads Tryz.prog (Instr.loadAt (9 : Nat) (Value.pointer (some (Addr.mk (Array.size h) (0 : Nat) none)))) h18
 (Value.string s25) ∧
 ∃ (h26 : Array Value),
 Reads Tryz.prog
 (Instr.lookup (71 : Nat) (Value.map a24)
 (Value.agg (Array.mk [Value.string s25, Value.int IntKind.i64 n17])) false)
 h18 (Value.agg h26) ∧
 HC Tryz.prog (63 : Nat)
 (Array.mk
 [Value.agg (Array.mk [Value.map a20, Value.map a21]),
 Value.agg (Array.mk [Value.string s22, Value.int IntKind.i64 n17]), Value.agg h26])
 h18 fun (v27 : Value) (h28 : Heap) =>
 v27 = Value.tuple (Array.mk []) ∧
 I15 (IntKind.i64.wrap (n17 + (1 : Int))) h28 ∧ I16 (IntKind.i64.wrap (n17 + (1 : Int))) h28 < I16 n17 h18)
 (∃ (p29 : Addr),
 some (Addr.mk d (0 : Nat) none) = some p29 ∧
 ∃ (a30 : Option Addr),
 ∃ (k31 : Nat),
 ∃ (k32 : Nat),
 Reads Tryz.prog (Instr.loadAt (75 : Nat) (Value.pointer (some (p29.add (4 : Nat))))) h18 (Value.slice a30 k31 k32) ∧
 HC Tryz.prog (124 : Nat)
 (Array.mk
 [Value.slice a30 k31 k32,
 Value.func (Fn.func (163 : Nat)) (Array.mk []) (Array.mk [Value.pointer (some (Addr.mk (Array.size h) (0 : Nat) none))])])
 h18 fun (v33 : Value) (h34 : Heap) =>
 ∃ (a35 : Option Addr),
 ∃ (k36 : Nat),
 ∃ (k37 : Nat),
 v33 = Value.slice a35 k36 k37 ∧
 ∃ (p38 : Addr),
 some (Addr.mk d (0 : Nat) none) = some p38 ∧
 SVC Tryz.prog (Instr.storeAt (75 : Nat) (Value.pointer (some (p38.add (4 : Nat)))) (Value.slice a35 k36 k37)) h34
 fun (x39 : Unit) (h40 : Heap) => R (Value.tuple (Array.mk [])) h40)) := by kernel_rfl
end Go.Proofs.YtkhinnchplahlaaGreatDoor
end

section
set_option linter.unusedVariables false
set_option linter.unusedSimpArgs false
set_option maxRecDepth 100000
namespace Go.Proofs.YtkhinnchplahlaaGreatDoor
open Go Go.Vc Go.Proofs Go.Dk

theorem clone_mapC {h : Heap} {b : Nat} {m : List (Str × Int)} (hm0 : MapAt Mc h b m) :
    HC Tryz.prog 64 #[.map (some b)] h fun v h' => Keep h.size h h' ∧ v = .map (some h.size) ∧ MapAt Mc h' h.size m ∧ h'.size = h.size + 1 := by
  obtain ⟨es, clock, hb, rest⟩ := hm0
  refine ⟨fun w hw => ?_⟩
  subst hw
  refine (Tryz.cloneC_calls b es clock w hb).mono ?_
  rintro e w' ⟨rfl, rfl⟩
  exact ⟨_, rfl, Sane.push rfl, keep_push _ _, rfl, ⟨es, clock, push_at _ _, rest⟩, by show (w.heap.push _).size = _; simp⟩
theorem clone_mapP {h : Heap} {b : Nat} {m : List ((Str × Int) × Str)} (hm0 : MapAt Mp h b m) :
    HC Tryz.prog 65 #[.map (some b)] h fun v h' => Keep h.size h h' ∧ v = .map (some h.size) ∧ MapAt Mp h' h.size m ∧ h'.size = h.size + 1 := by
  obtain ⟨es, clock, hb, rest⟩ := hm0
  refine ⟨fun w hw => ?_⟩
  subst hw
  refine (Tryz.cloneP_calls b es clock w hb).mono ?_
  rintro e w' ⟨rfl, rfl⟩
  exact ⟨_, rfl, Sane.push rfl, keep_push _ _, rfl, ⟨es, clock, push_at _ _, rest⟩, by show (w.heap.push _).size = _; simp⟩

theorem side_cells (c p : Nat) : oneCells [Value.map (some c), Value.map (some p)] := fun v hv => by
  simp only [List.mem_cons, List.not_mem_nil, or_false] at hv
  rcases hv with rfl | rfl <;> exact one_map _

theorem clone_spec {h : Heap} {c p : Nat} {F : Fs} (hs : SideAt h c p F) :
    HC Tryz.prog 33 #[.agg #[.map (some c), .map (some p)]] h
      fun v h' => Keep h.size h h' ∧ ∃ c' p', v = .agg #[.map (some c'), .map (some p')] ∧ SideAt h' c' p' F ∧ h.size ≤ c' ∧ h.size ≤ p' ∧ c' ≠ p' := by
  obtain ⟨mc, mp, hc, hp, hl⟩ := hs
  refine HC_of_vc (args := [.agg #[.map (some c), .map (some p)]]) (base := 10) (cuts := []) (bigs := []) hm Tryz.func33 ?_
  rw [vcClone]
  generalize hH : ((Array.push h (Obj.cells (Array.mk [Value.map (some c), Value.map (some p)]) 73)).push (Obj.cells (Array.mk [Value.map none, Value.map none]) 73)) = H
  have b0 : H[h.size]? = some (Obj.cells (Array.mk [Value.map (some c), Value.map (some p)]) 73) := by rw [← hH]; exact push2_0 _ _ _
  have b1 : H[h.size + 1]? = some (Obj.cells (Array.mk [Value.map none, Value.map none]) 73) := by rw [← hH]; exact push2_1 _ _ _
  have kH : Keep h.size h H := by rw [← hH]; exact (keep_push h _).trans (Keep.push _ _ _ (by simp))
  have sH : H.size = h.size + 2 := by rw [← hH]; simp
  clear hH
  simp only [Array.size_push]
  refine ⟨fun h' => h'[h.size]? = some (Obj.cells (Array.mk [Value.map (some c), Value.map (some p)]) 73), b0, some c, reads_load scMc (cell_cells0 b0 rfl), (clone_mapC (hc.keep kH)).mono ?_⟩
  rintro v h3 ⟨k3, rfl, m3, s3⟩
  have e3 := k3.at b0 (by omega)
  refine ⟨_, rfl, e3, some p, fun h6 e6 => reads_load scMp (cell_cells e6 rfl), (clone_mapP ((hp.keep kH).keep k3)).mono ?_⟩
  rintro v h8 ⟨k8, rfl, m8, s8⟩
  have e8 := k8.at e3 (by omega)
  refine ⟨_, rfl, ?_⟩
  refine svc_store_own (b := h.size + 1) (T := 73) (old := Array.mk [Value.map none, Value.map none]) szSide (k8.at (k3.at b1 (by omega)) (by omega)) rfl (side_cells _ _) fun h11 s11 b11 u11 => ?_
  have uu := upd_of_one s11 u11
  refine ⟨some H.size, some h3.size, (reads_load_agg (p := ⟨h.size + 1, 0, none⟩) (cs := [Value.map (some H.size), Value.map (some h3.size)]) agSide rfl (cells_all b11)), ?_⟩
  refine ⟨kH.trans ((k3.mono kH.size).trans ((k8.mono (by omega)).trans ⟨by omega, fun i hi => u11 i (by omega)⟩)), H.size, h3.size, rfl, ⟨mc, mp, (m3.keep k8).upd uu (by omega), m8.upd uu (by omega), hl⟩, by omega, by omega, by omega⟩

theorem like_nil : Like [] [] [] := ⟨fun n => rfl, fun n i => by simp [mGet, pg, pgs], fun n i h => by cases h⟩
theorem new_ok (room : Int) : Ok (new room) :=
  ⟨List.Pairwise.nil, List.Pairwise.nil, by show (min (max room 0) 4096).toNat ≤ 4096; omega, Nat.zero_le _, fun n => Nat.le_refl _, fun w hw => (by cases hw), fun n p hp => (by cases hp), fun n p hp => (by cases hp), Nat.zero_le _, ⟨Int.le_refl 0, by show (0 : Int) < _; decide⟩⟩
theorem new_spec (h : Heap) (room : Int) :
    HC Tryz.prog 10 #[.int .i64 room] h fun v h' => Keep h.size h h' ∧ ∃ d, v = .pointer (some ⟨d, 0, none⟩) ∧ DiskAt h' d (new room) fun b => h.size ≤ b ∧ b < h'.size := by
  refine HC_of_vc (args := [.int .i64 room]) (base := 15) (cuts := []) (bigs := []) hm Tryz.func10 ?_
  rw [vcNew]
  generalize hH : ((Array.push h (Obj.map (Array.mk []) 0)).push (Obj.map (Array.mk []) 0)) = H
  have m0 : MapAt Mc H h.size [] := by rw [← hH]; exact ⟨#[], 0, push2_0 _ _ _, rfl, List.nodup_nil, by simp, by simp⟩
  have m1 : MapAt Mp H (h.size + 1) [] := by rw [← hH]; exact ⟨#[], 0, push2_1 _ _ _, rfl, List.nodup_nil, by simp, by simp⟩
  have kH : Keep h.size h H := by rw [← hH]; exact (keep_push h _).trans (Keep.push _ _ _ (by simp))
  have sH : H.size = h.size + 2 := by rw [← hH]; simp
  clear hH
  simp only [Array.size_push]
  refine svc_store_new (v := .agg _) szSide rfl (side_cells _ _) ?_
  have b2 := push_at H (Obj.cells (Value.cells (.agg (Array.mk [Value.map (some h.size), Value.map (some (h.size + 1))]))) 73 (0, 0))
  have k1 := keep_push H (Obj.cells (Value.cells (.agg (Array.mk [Value.map (some h.size), Value.map (some (h.size + 1))]))) 73 (0, 0))
  have rd : ∀ {h5 : Heap}, h5[H.size]? = some (Obj.cells (Array.mk [Value.map (some h.size), Value.map (some (h.size + 1))]) 73 (0, 0)) →
      Reads Tryz.prog (Instr.loadAt 73 (.pointer (some ⟨H.size, 0, none⟩))) h5 (.agg (Array.mk [Value.map (some h.size), Value.map (some (h.size + 1))])) := fun h5 =>
    reads_load_agg (cs := [Value.map (some h.size), Value.map (some (h.size + 1))]) agSide rfl (cells_all h5)
  refine ⟨fun h' => h'[H.size]? = some (Obj.cells (Array.mk [Value.map (some h.size), Value.map (some (h.size + 1))]) 73 (0, 0)), b2, some h.size, some (h.size + 1), fun h5 e5 => rd e5, _, _, rd b2, ?_⟩
  have s1 : SideAt (H.push (Obj.cells (Value.cells (.agg (Array.mk [Value.map (some h.size), Value.map (some (h.size + 1))]))) 73 (0, 0))) h.size (h.size + 1) [] := ⟨[], [], m0.keep k1, m1.keep k1, like_nil⟩
  refine (clone_spec s1).mono ?_
  rintro v h9 ⟨k9, c', p', rfl, s9, l1, l2, l3⟩
  have e9 := k9.at b2 (by simp)
  have z9 := k9.size
  simp only [Array.size_push] at l1 l2 z9
  refine ⟨_, _, rfl, e9, _, fun _ _ => reads_max, _, fun _ _ => reads_min, ?_⟩
  have kp := keep_push h9 (Obj.cells (Array.mk (diskC h.size (h.size + 1) c' p' none 0 0 (new room))) 77 (0, 0))
  have hr : (if (4096 : Int) < (if (0 : Int) > room then 0 else room) then 4096 else (if (0 : Int) > room then 0 else room)) = (new room).room := by
    show _ = ((min (max room 0) 4096).toNat : Int)
    split <;> split <;> omega
  have ebox : (Obj.cells (Array.mk [Value.map (some h.size), Value.map (some (h.size + 1)), Value.map (some c'), Value.map (some p'), Value.slice none 0 0, Value.int IntKind.i64 (if (4096 : Int) < (if (0 : Int) > room then 0 else room) then 4096 else (if (0 : Int) > room then 0 else room)), Value.bool false, Value.int IntKind.i64 0, Value.int IntKind.i64 0, Value.int IntKind.u64 0]) 77 (0, 0)) = Obj.cells (Array.mk (diskC h.size (h.size + 1) c' p' none 0 0 (new room))) 77 (0, 0) := by
    rw [hr]; rfl
  rw [ebox]
  have kk : Keep h.size h (h9.push (Obj.cells (Array.mk (diskC h.size (h.size + 1) c' p' none 0 0 (new room))) 77 (0, 0))) :=
    kH.trans ((k1.mono (by omega)).trans ((k9.mono (by simp; omega)).trans (kp.mono (by omega))))
  have s19 : SideAt h9 h.size (h.size + 1) [] := s1.upd (k9.upd fun _ => False) (fun h => h) (fun h => h)
  refine ⟨kk, h9.size, rfl, fun b hb => by simpa using hb.2, h.size, h.size + 1, c', p', none, 0, 0, ⟨push_at _ _, s19.upd (kp.upd fun _ => False) (fun h => h) (fun h => h), s9.upd (kp.upd fun _ => False) (fun h => h) (fun h => h), Own.nil _ _ _, ?_, new_ok room⟩, ?_⟩
  · simp; omega
  · have := s9.lt
    rintro b (rfl | rfl | rfl | rfl | rfl | ⟨q, e, _⟩)
    all_goals first | (cases e) | omega | (simp only [Array.size_push]; omega)

theorem on_spec {h : Heap} {d : Nat} {x : D} {O : Nat → Prop} (hd : DiskAt h d x O) :
    HC Tryz.prog 32 #[.pointer (some ⟨d, 0, none⟩)] h fun v h' => DiskAt h' d (on x) O ∧ Upd O h h' ∧ v = .tuple #[] := by
  obtain ⟨hO, c1, p1, c2, p2, A, n, c, hp, hb⟩ := hd
  refine HC_of_vc (args := [.pointer (some ⟨d, 0, none⟩)]) (base := 7) (cuts := []) (bigs := []) hm Tryz.func32 ?_
  rw [vcOn]
  refine ⟨_, reads_neq_nil undD, br_intro (fun _ => ⟨_, rfl, svc_store_box szB hp.box (by simp [diskC]) rfl (one_bool _) fun h3 s3 b3 u3 => ?_⟩) fun e => by cases e⟩
  exact ⟨⟨fun b h0 => by rw [s3]; exact hO b h0, c1, p1, c2, p2, A, n, c, hp.store (A' := A) (n' := n) (m' := c) b3 (by simp [diskC, on]) u3 rfl rfl rfl ⟨hp.ok.now, hp.ok.safe, hp.ok.room, hp.ok.tot, hp.ok.fewer, hp.ok.waits, hp.ok.pnow, hp.ok.psafe, hp.ok.fuse, hp.ok.keep⟩, hb⟩,
    u3.of_sub fun i _ e => e ▸ hb d (.inl rfl), rfl⟩
theorem count_spec {h : Heap} {d : Nat} {x : D} {O : Nat → Prop} (hd : DiskAt h d x O) (s : Str) :
    HC Tryz.prog 76 #[.pointer (some ⟨d, 0, none⟩), .string s] h fun v h' => h' = h ∧ v = .int .i64 (count x s) := by
  have hr := ready_spec hd
  obtain ⟨hO, c1, p1, c2, p2, A, m, c, hp, hb⟩ := hd
  obtain ⟨mc, mp, hc, hmp, hl⟩ := hp.now
  refine HC_of_vc (args := [.pointer (some ⟨d, 0, none⟩), .string s]) (base := 15) (cuts := []) (bigs := []) hm Tryz.func76 ?_
  rw [vcCount]
  refine hr.mono ?_
  rintro v h1 ⟨rfl, rfl⟩
  refine ⟨_, rfl, br_intro (fun e => ⟨rfl, ?_⟩) fun e => ⟨_, rfl, _, reads_load scMc (cell_cells0 hp.box rfl), _, reads_count hc hl s, rfl, ?_⟩⟩
  · unfold count; cases hdn : x.down <;> simp [hdn] at e ⊢
  · unfold count; cases hdn : x.down <;> simp [hdn] at e ⊢
theorem has_spec {h : Heap} {d : Nat} {x : D} {O : Nat → Prop} (hd : DiskAt h d x O) (s : Str) :
    HC Tryz.prog 66 #[.pointer (some ⟨d, 0, none⟩), .string s] h fun v h' => h' = h ∧ v = .bool (has x s) := by
  have hr := ready_spec hd
  obtain ⟨hO, c1, p1, c2, p2, A, m, c, hp, hb⟩ := hd
  obtain ⟨mc, mp, hc, hmp, hl⟩ := hp.now
  refine HC_of_vc (args := [.pointer (some ⟨d, 0, none⟩), .string s]) (base := 21) (cuts := []) (bigs := []) hm Tryz.func66 ?_
  rw [vcHas]
  refine hr.mono ?_
  rintro v h1 ⟨rfl, rfl⟩
  refine ⟨_, rfl, br_intro (fun e => ⟨rfl, ?_⟩) fun e => ⟨_, rfl, _, reads_load scMc (cell_cells0 hp.box rfl), _, _, reads_count2 hc hl s, rfl, ?_⟩⟩
  · unfold has; cases hdn : x.down <;> simp [hdn] at e ⊢
  · unfold has; cases hdn : x.down <;> simp [hdn] at e ⊢
theorem pgC_bytes {q : Str} (hq : q.size = 512) : pgC q = (bytesL q).map fun b => Value.int .u8 (b.toNat : Nat) := by
  have hq' : q.data.size = 512 := hq
  apply List.ext_getElem?
  intro j
  simp only [pgC, List.getElem?_map, bytesL, Array.getElem?_toList]
  by_cases hj : j < 512
  · simp [List.getElem?_range hj, Array.getD, hq', hj]
  · simp [hq', hj]
theorem read_spec {h : Heap} {d : Nat} {x : D} {O : Nat → Prop} (hd : DiskAt h d x O) (s : Str) (i : Int) :
    HC Tryz.prog 77 #[.pointer (some ⟨d, 0, none⟩), .string s, .int .i64 i] h
      fun v h' => Keep h.size h h' ∧ ∃ b m, v = .tuple #[.slice (if m = 0 then none else some ⟨b, 0, none⟩) m m, .int .i64 (Dk.read x s i).2] ∧ m = (Dk.read x s i).1.size ∧ h.size ≤ b ∧
        (m ≠ 0 → h'[b]? = some (.cells (((bytesL (Dk.read x s i).1).map fun b => Value.int .u8 (b.toNat : Nat))).toArray 126 (0, 0))) := by
  have hr := ready_spec hd
  obtain ⟨hO, c1, p1, c2, p2, A, m, c, hp, hb⟩ := hd
  obtain ⟨mc, mp, hc, hmp, hl⟩ := hp.now
  refine HC_of_vc (args := [.pointer (some ⟨d, 0, none⟩), .string s, .int .i64 i]) (base := 38) (cuts := []) (bigs := []) hm Tryz.func77 ?_
  rw [vcRead]
  refine hr.mono ?_
  rintro v h1 ⟨rfl, rfl⟩
  refine ⟨_, rfl, br_intro (fun e => ?_) fun e => ⟨_, fun _ => rfl, _, fun _ => reads_load scMc (cell_cells0 hp.box rfl), _, fun _ => reads_count hc hl s, br_intro (fun e2 => ?_) fun e2 => ?_⟩⟩
  · have hdn : x.down = true := by cases hdn : x.down <;> simp [hdn] at e ⊢
    exact ⟨Keep.refl _ _, h1.size, 0, by simp [Dk.read, hdn], by simp [Dk.read, hdn]; rfl, Nat.le_refl _, fun h => absurd rfl h⟩
  · have hdn : x.down = false := by cases hdn : x.down <;> simp [hdn] at e ⊢
    have e2 : i < 0 ∨ ((pgs x.now s).length : Int) ≤ i := by simpa using e2
    exact ⟨Keep.refl _ _, h1.size, 0, by simp [Dk.read, hdn, e2], by simp [Dk.read, hdn, e2]; rfl, Nat.le_refl _, fun h => absurd rfl h⟩
  · have hdn : x.down = false := by cases hdn : x.down <;> simp [hdn] at e ⊢
    have e2 : ¬ (i < 0 ∨ ((pgs x.now s).length : Int) ≤ i) := by simpa using e2
    have hpg : pg x.now s i = (pgs x.now s).getD i.toNat zp := by unfold pg; rw [if_pos (by omega)]
    have hlt : i.toNat < (pgs x.now s).length := by omega
    have h512 : (pg x.now s i).size = 512 := by
      rw [hpg, List.getD_eq_getElem?_getD, List.getElem?_eq_getElem hlt]
      exact hp.ok.pnow s _ (List.getElem_mem hlt)
    have hrd : Dk.read x s i = (pg x.now s i, 0) := by rw [hpg]; simp only [Dk.read, hdn, Bool.false_eq_true, if_false, if_neg e2]
    refine ⟨_, rfl, _, reads_load scMp (hp.rd rfl), _, reads_page hmp hl s i, zc Tryz.prog 126, ⟨rfl⟩, svc_store_new (v := pv (pg x.now s i)) ?_ ?_ ?_ ?_⟩
    · show szOf _ _ = some (pgC _).toArray.size; rw [List.size_toArray, pgC_len]; exact szPage
    · show _ = (pgC _).toArray.size; exact zcPage.trans (pgC_len _).symm
    · exact pgC_one _
    · refine ⟨by omega, keep_push _ _, h1.size, 512, ?_, by rw [hrd, h512], Nat.le_refl _, fun _ => ?_⟩
      · rw [hrd]; simp [subA, Addr.add]
      · rw [hrd, ← pgC_bytes h512]; exact push_at _ _
end Go.Proofs.YtkhinnchplahlaaGreatDoor
end

section
set_option linter.unusedSimpArgs false
set_option linter.unusedVariables false
namespace Go.Dk
open Go Go.Vc

theorem setP_len (l : List Str) (i : Nat) (p : Str) : (setP l i p).length = max l.length (i + 1) := by simp [setP]; omega
theorem setP_mem {l : List Str} {i : Nat} {p q : Str} (h : q ∈ setP l i p) : q = p ∨ q = zp ∨ q ∈ l := by
  unfold setP at h
  rcases List.mem_or_eq_of_mem_set h with h | h
  · rcases List.mem_append.1 h with h | h
    · exact .inr (.inr h)
    · exact .inr (.inl (List.mem_replicate.1 h).2)
  · exact .inl h
theorem zp_size : zp.size = 512 := by show (Array.replicate 512 (0 : UInt8)).size = 512; simp
theorem pad_size {b : Str} (h : b.size ≤ 512) : (pad b).size = 512 := by
  show (b.data ++ Array.replicate (512 - b.size) (0 : UInt8)).size = 512
  have : b.data.size = b.size := rfl
  simp; omega
theorem pgs_put {F : Fs} (h : SrtF F) (n : Str) (l : List Str) (q : Str) : pgs (put n l F) q = if q = n then l else pgs F q := by
  unfold pgs; rw [get_put h]; split <;> rfl
theorem pgs_del (F : Fs) (n q : Str) : pgs (del n F) q = if q = n then [] else pgs F q := by
  unfold pgs; rw [get_del]; split <;> rfl

/- ------------------------------------------------------------------ which writes are kept -/

theorem keepW_take (keep : Int) : ∀ (ws : List Wt) (i k : Nat) (F : Fs) (w : Wt), ws[k]? = some w →
    keepW keep i (ws.take (k + 1)) F = if kept keep (i + k) then app1 (keepW keep i (ws.take k) F) w else keepW keep i (ws.take k) F
  | [], i, k, F, w, h => by simp at h
  | a :: ws, i, 0, F, w, h => by simp at h; subst h; simp [keepW]
  | a :: ws, i, k + 1, F, w, h => by
    have := keepW_take keep ws (i + 1) k (if kept keep i then app1 F a else F) w (by simpa using h)
    rw [show i + (k + 1) = i + 1 + k by omega]
    simpa [keepW] using this

theorem kept_eq {keep : Int} (hk : 0 ≤ keep ∧ keep < 18446744073709551616) (k : Nat) :
    (IntKind.u64.wrap (((BitVec.ofInt 64 (keep.fdiv ((2 : Int) ^ min ((k : Int).tmod 64).toNat 64)) &&& BitVec.ofInt 64 1).toNat : Nat) : Int) == (1 : Int)) = kept keep k := by
  obtain ⟨n, rfl⟩ := Int.eq_ofNat_of_zero_le hk.1
  have e1 : (((k : Int).tmod 64).toNat) = k % 64 := by rw [Int.tmod_eq_emod_of_nonneg (by omega)]; omega
  have e2 : min (k % 64) 64 = k % 64 := by omega
  have e3 : ((n : Int).fdiv ((2 : Int) ^ (k % 64))) = ((n >>> (k % 64) : Nat) : Int) := by
    rw [Nat.shiftRight_eq_div_pow, Int.fdiv_eq_ediv_of_nonneg _ (Int.le_of_lt (Int.pow_pos (by decide)))]
    simp
  rw [e1, e2, e3]
  have hlt : n >>> (k % 64) < 18446744073709551616 := by
    have : n >>> (k % 64) ≤ n := by rw [Nat.shiftRight_eq_div_pow]; exact Nat.div_le_self _ _
    omega
  have := bits_and_u64_nat (n >>> (k % 64)) 1 hlt (by omega)
  have hb : IntKind.u64.wrap (((BitVec.ofInt 64 ((n >>> (k % 64) : Nat) : Int) &&& BitVec.ofInt 64 1).toNat : Nat) : Int) = ((n >>> (k % 64) &&& 1 : Nat) : Int) := this
  rw [hb, Nat.and_one_is_mod]
  unfold kept
  simp only [Int.toNat_natCast]
  generalize n >>> (k % 64) % 2 = m
  by_cases h : m = 1
  · subst h; rfl
  · rw [beq_eq_false_iff_ne.2 (by omega), beq_eq_false_iff_ne.2 (by omega)]

/- ------------------------------------------------------------------ names that are there -/

theorem get_addN (F : Fs) (h : SrtF F) (n q : Str) : mGet (addN F n) q = match mGet F q with | some l => some l | none => if q = n then some [] else none := by
  unfold addN
  cases hn : mGet F n with
  | some l =>
    cases hq : mGet F q with
    | some l' => simp [hq]
    | none =>
      have : q ≠ n := fun e => by subst e; rw [hn] at hq; cases hq
      simp [hq, this]
  | none =>
    rw [get_put h]
    by_cases e : q = n
    · subst e; simp [hn]
    · rw [if_neg e]; cases mGet F q <;> simp [e]
theorem addN_none {F : Fs} {n : Str} (h : mGet F n = none) : addN F n = put n [] F := by unfold addN; rw [h]
theorem addN_some {F : Fs} {n : Str} (h : (mGet F n).isSome = true) : addN F n = F := by unfold addN; cases hg : mGet F n with | some _ => rfl | none => rw [hg] at h; cases h
theorem srt_addN {F : Fs} (h : SrtF F) (n : Str) : SrtF (addN F n) := by
  unfold addN; cases mGet F n with | some _ => exact h | none => exact srt_put h _ _
theorem srt_addAll : ∀ (l : List Str) {F : Fs}, SrtF F → SrtF (l.foldl addN F)
  | [], _, h => h
  | n :: l, _, h => srt_addAll l (srt_addN h n)
open Classical in
theorem get_addAll : ∀ (l : List Str) (F : Fs), SrtF F → ∀ q, mGet (l.foldl addN F) q = match mGet F q with | some x => some x | none => if q ∈ l then some [] else none
  | [], F, _, q => by cases h : mGet F q <;> simp [h]
  | n :: l, F, h, q => by
    rw [List.foldl_cons, get_addAll l _ (srt_addN h n), get_addN F h]
    cases hq : mGet F q with
    | some x => rfl
    | none =>
      by_cases e : q = n
      · subst e; simp
      · simp [e]
theorem addAll_ext {l m : List Str} {F : Fs} (h : SrtF F) (hm : ∀ q, q ∈ l ↔ q ∈ m) : l.foldl addN F = m.foldl addN F :=
  fs_ext (srt_addAll l h) (srt_addAll m h) fun q => by
    rw [get_addAll l F h, get_addAll m F h]
    cases mGet F q with
    | some x => rfl
    | none =>
      by_cases h1 : q ∈ m
      · rw [if_pos h1, if_pos ((hm q).2 h1)]
      · rw [if_neg h1, if_neg fun h2 => h1 ((hm q).1 h2)]
theorem pgs_addN (F : Fs) (h : SrtF F) (n q : Str) : pgs (addN F n) q = pgs F q := by
  unfold pgs; rw [get_addN F h]; cases mGet F q with | some _ => rfl | none => dsimp only; split <;> rfl
/- ------------------------------------------------------------------ what always holds, still -/

theorem ok_safe {x : D} (h : Ok x) {G : Fs} (hs : SrtF G) (hf : ∀ n, (pgs G n).length ≤ (pgs x.now n).length) (hp : ∀ n, ∀ p ∈ pgs G n, p.size = 512) : Ok { x with safe := G } :=
  ⟨h.now, hs, h.room, h.tot, hf, h.waits, h.pnow, hp, h.fuse, h.keep⟩
theorem ok_app1 {x : D} (h : Ok x) {w : Wt} (hw : w ∈ x.waits) : Ok { x with safe := app1 x.safe w } := by
  obtain ⟨h1, h2⟩ := h.waits w hw
  refine ok_safe h (srt_put h.safe _ _) (fun n => ?_) fun n p hp => ?_
  · unfold app1; rw [pgs_put h.safe]
    split
    · rename_i e; subst e; rw [setP_len]; have := h.fewer w.n; omega
    · exact h.fewer n
  · unfold app1 at hp; rw [pgs_put h.safe] at hp
    split at hp
    · rcases setP_mem hp with rfl | rfl | hp
      · exact h2
      · exact zp_size
      · exact h.psafe _ _ hp
    · exact h.psafe _ _ hp
theorem ok_addN {x : D} (h : Ok x) (n : Str) : Ok { x with safe := addN x.safe n } :=
  ok_safe h (srt_addN h.safe n) (fun q => by rw [pgs_addN _ h.safe]; exact h.fewer q) fun q p hp => by rw [pgs_addN _ h.safe] at hp; exact h.psafe q p hp
theorem ok_addAll : ∀ (l : List Str) {x : D}, Ok x → Ok { x with safe := l.foldl addN x.safe }
  | [], _, h => h
  | n :: l, x, h => ok_addAll l (ok_addN h n)
theorem ok_keepW {x : D} (keep : Int) : ∀ (ws : List Wt) (i : Nat) {G : Fs}, Ok { x with safe := G } → (∀ w ∈ ws, w ∈ x.waits) → Ok { x with safe := keepW keep i ws G }
  | [], _, _, h, _ => h
  | w :: ws, i, G, h, hw => by
    have h2 : Ok { x with safe := app1 G w } := ok_app1 h (w := w) (hw w List.mem_cons_self)
    unfold keepW
    split
    · exact ok_keepW keep ws (i + 1) h2 fun w h => hw w (List.mem_cons_of_mem _ h)
    · exact ok_keepW keep ws (i + 1) h fun w h => hw w (List.mem_cons_of_mem _ h)
theorem ok_offS {x : D} (h : Ok x) (keep : Int) : Ok { x with safe := offS keep x } :=
  ok_addAll (names x.now) (ok_keepW keep x.waits 0 (G := x.safe) h fun _ h => h)
theorem ok_act {x : D} (h : Ok x) : Ok (act x) := ⟨h.now, h.safe, h.room, h.tot, h.fewer, h.waits, h.pnow, h.psafe, by show x.fuse - 1 ≤ _; have := h.fuse; omega, h.keep⟩
theorem ok_write {x : D} (h : Ok x) {s b : Str} {k : Nat} (hk : k ≤ (pgs x.now s).length) (hb : b.size ≤ 512) (hf : k = (pgs x.now s).length → 1 ≤ free x) :
    Ok { act x with now := put s (setP (pgs x.now s) k (pad b)) x.now, waits := x.waits ++ [⟨s, k, pad b⟩] } := by
  have hl : ∀ n, (pgs x.now n).length ≤ (pgs (put s (setP (pgs x.now s) k (pad b)) x.now) n).length := fun n => by
    rw [pgs_put h.now]
    split
    · rename_i e; subst e; rw [setP_len]; omega
    · exact Nat.le_refl _
  have a := ok_act h
  refine ⟨srt_put h.now _ _, h.safe, h.room, ?_, fun n => Nat.le_trans (h.fewer n) (hl n), fun w hw => ?_, fun n p hp => ?_, h.psafe, a.fuse, h.keep⟩
  · have h1 := tot_put h.now s (setP (pgs x.now s) k (pad b))
    rw [setP_len] at h1
    have h2 := h.tot
    show Dk.tot (put s (setP (pgs x.now s) k (pad b)) x.now) ≤ x.room
    by_cases e : k = (pgs x.now s).length
    · have := hf e; unfold free at this; omega
    · omega
  · rcases List.mem_append.1 hw with hw | hw
    · exact ⟨Nat.lt_of_lt_of_le (h.waits w hw).1 (hl w.n), (h.waits w hw).2⟩
    · simp only [List.mem_singleton] at hw
      subst hw
      refine ⟨?_, pad_size hb⟩
      show k < (pgs (put s (setP (pgs x.now s) k (pad b)) x.now) s).length
      rw [pgs_put h.now, if_pos rfl, setP_len]; omega
  · have hp : p ∈ pgs (put s (setP (pgs x.now s) k (pad b)) x.now) n := hp
    rw [pgs_put h.now] at hp
    split at hp
    · rcases setP_mem hp with rfl | rfl | hp
      · exact pad_size hb
      · exact zp_size
      · exact h.pnow _ _ hp
    · exact h.pnow _ _ hp
theorem tot_le : ∀ {F G : Fs}, SrtF F → SrtF G → (∀ n, (pgs F n).length ≤ (pgs G n).length) → tot F ≤ tot G
  | [], _, _, _, _ => Nat.zero_le _
  | p :: F, G, hF, hG, h => by
    have pF := List.pairwise_cons.1 hF
    have ih : tot F ≤ tot (del p.1 G) := tot_le pF.2 (srt_del hG _) fun n => by
      rw [pgs_del]
      by_cases e : n = p.1
      · subst e
        rw [if_pos rfl]
        have : mGet F p.1 = none := get_none_of_lt fun q hq => pF.1 q hq
        simp [pgs, this]
      · have := h n
        rw [if_neg e]
        simpa [pgs, mGet, Ne.symm e] using this
    have h1 := tot_del hG p.1
    have h2 : p.2.length ≤ (pgs G p.1).length := by have := h p.1; simpa [pgs, mGet] using this
    have h3 : tot (p :: F) = p.2.length + tot F := by simp [tot]
    omega
theorem ok_off {x : D} (h : Ok x) (keep : Int) : Ok (off keep x) := by
  unfold off
  split
  · exact h
  · have o := ok_offS h keep
    exact ⟨o.safe, o.safe, h.room, Nat.le_trans (tot_le o.safe h.now o.fewer) h.tot, fun _ => Nat.le_refl _, fun w hw => (by cases hw), o.psafe, o.psafe, Nat.zero_le _, h.keep⟩
end Go.Dk
end

section
set_option linter.unusedVariables false
set_option linter.unusedSimpArgs false
set_option maxRecDepth 100000
namespace Go.Proofs.YtkhinnchplahlaaGreatDoor
open Go Go.Vc Go.Proofs Go.Dk

theorem Like.names {F : Fs} {mc : List (Str × Int)} {mp : List ((Str × Int) × Str)} (hl : Like F mc mp) (q : Str) : q ∈ names F ↔ q ∈ mKeys mc := by
  rw [← Classical.not_not (a := q ∈ Dk.names F), ← Classical.not_not (a := q ∈ mKeys mc), ← mGet_none, ← mGet_none, hl.count]
  cases mGet F q <;> simp
theorem Like.add {F : Fs} {mc : List (Str × Int)} {mp : List ((Str × Int) × Str)} (hl : Like F mc mp) (hF : SrtF F) (n : Str) (hn : mGet F n = none) : Like (put n [] F) (mPut mc n 0) mp := by
  have hp : ∀ m, pgs (put n [] F) m = pgs F m := fun m => by
    rw [Dk.pgs_put hF]; split
    · rename_i e; subst e; simp [pgs, hn]
    · rfl
  refine ⟨fun m => ?_, fun m i => ?_, fun m i hi => ?_⟩
  · rw [mGet_put, get_put hF]
    by_cases e : n = m
    · subst e; simp
    · rw [if_neg e, if_neg (Ne.symm e)]; exact hl.count m
  · have := hl.page m i; unfold pg at this ⊢; rw [hp]; exact this
  · rw [hp]; exact hl.there m i hi

theorem WtE_at {w : Wt} {h : Heap} {b : Nat} (hb : h[b]? = some (.cells (WtE.enc w).toArray 128 (0, 0))) :
    Reads Tryz.prog (Instr.loadAt 124 (.pointer (some ⟨b, 0, none⟩))) h (.agg (Array.mk [.string w.n, .int .i64 w.i])) ∧
    Reads Tryz.prog (Instr.loadAt 126 (.pointer (some ((⟨b, 0, none⟩ : Addr).add 2)))) h (pv w.p) := by
  refine ⟨reads_load_agg (cs := [.string w.n, .int .i64 w.i]) agAt rfl fun j v hj => ?_, reads_load_agg (cs := pgC w.p) agPage (pgC_len _) (cells_part hb fun j v hj => ?_)⟩
  · refine cell_cells hb ?_
    match j, hj with
    | 0, hj => simpa [WtE] using hj
    | 1, hj => simpa [WtE] using hj
    | j + 2, hj => simp at hj
  · show (Value.string w.n :: .int .i64 w.i :: pgC w.p)[2 + j]? = some v
    rw [Nat.add_comm]; exact hj
theorem WtE_one (w : Wt) : oneCells (WtE.enc w) := fun v hv => WtE.one w v hv
/-- a write that came out of the row goes into a box of its own. -/
theorem svc_store_wt {h : Heap} {z : Array Value} {w : Wt} {K : Unit → Heap → Prop} (hz : IsZ Tryz.prog 128 z) (k : K () (h.push (.cells (WtE.enc w).toArray 128 (0, 0)))) :
    SVC Tryz.prog (Instr.storeAt 128 (.pointer (some ⟨h.size, 0, none⟩)) (.agg (WtE.enc w).toArray)) (h.push (.cells z 128 (0, 0))) K := by
  have hl := WtE.len w
  refine svc_store_new (v := .agg (WtE.enc w).toArray) ?_ ?_ (WtE_one w) k
  · show szOf _ _ = some (WtE.enc w).toArray.size; rw [List.size_toArray, hl]; exact szWrite
  · show z.size = (WtE.enc w).length; rw [hz.eq, hl]; exact zcWrite
theorem reads_wt {h : Heap} {A : Option Addr} {n c k : Nat} {ws : List Wt} {w : Wt} (ho : Sl WtE h A n ws) (hw : ws[k]? = some w) : ∃ p, A = some p ∧
    Reads Tryz.prog (Instr.loadAt 128 (.pointer (some (p.add (k * 514))))) h (.agg (WtE.enc w).toArray) := by
  obtain ⟨p, hA, hc⟩ := ho.get hw
  refine ⟨p, hA, reads_load_agg agWrite (WtE.len w) fun j v hj => ?_⟩
  rw [Addr.add_add]; exact hc j v hj

theorem DiskP.side1 {h : Heap} {d c1 p1 c2 p2 : Nat} {A : Option Addr} {n c : Nat} {x : D} (hp : DiskP h d c1 p1 c2 p2 A n c x) :
    Reads Tryz.prog (Instr.loadAt 73 (.pointer (some ⟨d, 0, none⟩))) h (.agg (Array.mk [.map (some c1), .map (some p1)])) :=
  reads_load_agg (cs := [.map (some c1), .map (some p1)]) agSide rfl fun j v hj => cell_cells hp.box (by
    match j, hj with
    | 0, hj => simpa [diskC] using hj
    | 1, hj => simpa [diskC] using hj
    | j + 2, hj => simp at hj)
theorem DiskP.side2 {h : Heap} {d c1 p1 c2 p2 : Nat} {A : Option Addr} {n c : Nat} {x : D} (hp : DiskP h d c1 p1 c2 p2 A n c x) :
    Reads Tryz.prog (Instr.loadAt 73 (.pointer (some ((⟨d, 0, none⟩ : Addr).add 2)))) h (.agg (Array.mk [.map (some c2), .map (some p2)])) :=
  reads_load_agg (cs := [.map (some c2), .map (some p2)]) agSide rfl (cells_part hp.box fun j v hj => by
    match j, hj with
    | 0, hj => simpa [diskC] using hj
    | 1, hj => simpa [diskC] using hj
    | j + 2, hj => simp at hj)
/-- the safe side has turned. -/
theorem DiskP.safe_turn {h h' : Heap} {d c1 p1 c2 p2 : Nat} {A : Option Addr} {n c : Nat} {x : D} {G : Fs} (hp : DiskP h d c1 p1 c2 p2 A n c x) (u : Upd (two c2 p2) h h') (hs : SideAt h' c2 p2 G) (ok : Ok { x with safe := G }) :
    DiskP h' d c1 p1 c2 p2 A n c { x with safe := G } := by
  obtain ⟨q1, q2, q3, q4⟩ := hp.ne_map
  have nd := hp.nd
  simp at nd
  refine ⟨u.at hp.box ?_, hp.now.upd u ?_ ?_, hs, hp.waits.upd u fun b hb => ?_, hp.nd, ok⟩
  · rintro (e | e) <;> omega
  · rintro (e | e) <;> omega
  · rintro (e | e) <;> omega
  · have := hp.ne_waits hb
    rintro (e | e) <;> omega
theorem two_blks2 {d c1 p1 c2 p2 : Nat} {A : Option Addr} : ∀ b, two c2 p2 b → blks d c1 p1 c2 p2 A b := fun b h => h.elim (fun e => .inr (.inr (.inr (.inl e)))) fun e => .inr (.inr (.inr (.inr (.inl e))))
theorem two_blks1 {d c1 p1 c2 p2 : Nat} {A : Option Addr} : ∀ b, two c1 p1 b → blks d c1 p1 c2 p2 A b := fun b h => h.elim (fun e => .inr (.inl e)) fun e => .inr (.inr (.inl e))

theorem off_spec {h : Heap} {d : Nat} {x : D} {O : Nat → Prop} {keep : Int} (hd : DiskAt h d x O) (hk : 0 ≤ keep ∧ keep < 18446744073709551616) (hwn : x.waits.length ≤ 1073741824) :
    HC Tryz.prog 31 #[.pointer (some ⟨d, 0, none⟩), .int .u64 keep] h
      fun v h' => ∃ O', DiskAt h' d (off keep x) O' ∧ (∀ b, O' b → O b ∨ h.size ≤ b) ∧ Upd O h h' ∧ v = .tuple #[] := by
  have hr := ready_spec hd
  obtain ⟨hO, c1, p1, c2, p2, A, n, c, hp, hb⟩ := hd
  refine HC_of_vc (args := [.pointer (some ⟨d, 0, none⟩), .int .u64 keep]) (base := 83) (cuts := []) (bigs := []) hm Tryz.func31 ?_
  rw [vcOff]
  refine hr.mono ?_
  rintro v h1 ⟨rfl, rfl⟩
  refine ⟨_, rfl, br_intro (fun e => ?_) (fun e => ?_)⟩
  · have hdn : x.down = true := by cases hdn : x.down <;> simp [hdn] at e ⊢
    refine ⟨O, ?_, fun b h => .inl h, Upd.refl _ _, rfl⟩
    unfold off; rw [if_pos hdn]
    exact ⟨hO, c1, p1, c2, p2, A, n, c, hp, hb⟩
  have hdn : x.down = false := by cases hdn : x.down <;> simp [hdn] at e ⊢
  have hn : x.waits.length = n := hp.waits.1
  have hc1 := hp.now.lt.1
  refine ⟨_, rfl, A, n, c, reads_load scWs (hp.rd rfl), ?_⟩
  refine ⟨fun n9 h10 => ∃ k : Nat, n9 = k ∧ k ≤ n ∧ DiskP h10 d c1 p1 c2 p2 A n c { x with safe := keepW keep 0 (x.waits.take k) x.safe } ∧ Upd (blks d c1 p1 c2 p2 A) h1 h10,
    fun n9 _ => n - n9.toNat, ⟨0, rfl, by omega, by simpa [keepW] using hp, Upd.refl _ _⟩, ?_⟩
  rintro n9 h10 ⟨k, rfl, hkn, hpk, uk⟩
  refine br_intro (fun hlt => ?_) (fun hge => ?_)
  · have hlt : k < n := by simpa using hlt
    have hw : x.waits[k]? = some (x.waits[k]'(by omega)) := List.getElem?_eq_getElem (by omega)
    generalize x.waits[k]'(by omega) = w at hw
    have hmem : w ∈ x.waits := List.mem_of_getElem? hw
    obtain ⟨q, hA, hq⟩ := reads_wt (c := c) hpk.waits.sl hw
    refine ⟨q, ⟨hA, by omega, by omega⟩, _, hq, zc Tryz.prog 128, ⟨rfl⟩, svc_store_wt ⟨rfl⟩ ?_⟩
    have hat := push_at h10 (.cells (WtE.enc w).toArray 128 (0, 0))
    have kq := keep_push h10 (.cells (WtE.enc w).toArray 128 (0, 0))
    have hpq := hpk.upd (kq.upd fun _ => False) fun _ _ h => h
    have hstep := keepW_take keep x.waits 0 k x.safe w hw
    rw [Nat.zero_add] at hstep
    have uq := uk.trans (kq.upd (blks d c1 p1 c2 p2 A))
    have hwr : IntKind.i64.wrap ((k : Int) + 1) = ((k + 1 : Nat) : Int) := by rw [wrap_i64 (by omega) (by omega)]; rfl
    refine ⟨by decide, by rw [Int.tmod_eq_emod_of_nonneg (by omega)]; omega, ?_⟩
    rw [kept_eq hk k, hwr]
    refine br_intro (fun hkp => ?_) (fun hkp => ?_)
    · rw [if_pos hkp] at hstep
      obtain ⟨r1, r2⟩ := WtE_at hat
      have nd := hpq.nd
      simp at nd
      have hwi := hp.ok.waits w hmem
      have hbd : w.i < 4611686018427387904 := by
        have h1 := hp.ok.tot
        have h2 := hp.ok.room
        have h3 := tot_put hp.ok.now w.n []
        have h4 := hwi.1
        simp at h3
        omega
      refine ⟨_, rfl, some c2, some p2, hpq.side2, w.n, (w.i : Int), r1, _, r2, (set_spec hpq.safe hpq.ok.safe (by omega) hbd).mono ?_⟩
      rintro v h23 ⟨s23, u23, rfl⟩
      refine ⟨rfl, ⟨k + 1, rfl, hlt, ?_, uq.trans (u23.mono two_blks2)⟩, by dsimp only; omega⟩
      rw [hstep]
      exact hpq.safe_turn u23 s23 (ok_app1 hpq.ok hmem)
    · rw [if_neg (by simpa using hkp)] at hstep
      refine ⟨⟨k + 1, rfl, hlt, ?_, uq⟩, by dsimp only; omega⟩
      rw [hstep]; exact hpq
  have hkn' : k = n := by have : ¬ (k : Int) < n := by simpa using hge
                          omega
  subst hkn'
  rw [← hn, List.take_length] at hpk
  rw [hn] at hpk
  obtain ⟨mc, mp, hc, hmp, hl⟩ := hpk.now
  refine ⟨_, rfl, some c1, reads_load scMc (cell_cells0 hpk.box rfl), svc_range (M := Mc) hc fun h27 k27 s27 i27 => ⟨_, rfl, ?_⟩⟩
  have hu10 := uk.size
  refine ⟨fun h31 => ∃ left cur dn, IterAt Mc h31 h10.size c1 mc left cur ∧ DiskP h31 d c1 p1 c2 p2 A k c { x with safe := dn.foldl addN (keepW keep 0 x.waits x.safe) } ∧
      Upd (blks d c1 p1 c2 p2 A) h1 h31 ∧ (∀ q, q ∈ names x.now ↔ q ∈ dn ∨ q ∈ mKeys left), fun h31 => leftN h31 h10.size,
    ⟨mc, none, [], i27, hpk.upd (k27.upd fun _ => False) (fun _ _ h => h), uk.trans (k27.upd _), fun q => by rw [hl.names]; simp⟩, ?_⟩
  rintro h31 ⟨left, cur, dn, hit, hpl, ul, hnm⟩
  have hl31 := hit.lt
  refine svc_next hit (fun hl0 => .inl ⟨rfl, ?_⟩) fun j q h33 hj u33 s33 i33 => .inr ⟨_, _, rfl, ?_⟩
  · subst hl0
    have hoff : dn.foldl addN (keepW keep 0 x.waits x.safe) = offS keep x := addAll_ext (ok_keepW keep x.waits 0 (G := x.safe) hp.ok fun _ h => h).safe fun q => by rw [hnm q]; simp [mKeys]
    rw [hoff] at hpl
    refine ⟨_, rfl, _, _, hpl.side2, (clone_spec hpl.safe).mono ?_⟩
    rintro v h38 ⟨k38, c', p', rfl, s38, l1, l2, l3⟩
    have hp38 := hpl.upd (k38.upd fun _ => False) fun _ _ h => h
    have z38 := k38.size
    refine ⟨_, _, rfl, _, rfl, svc_store_at (v := .agg (Array.mk [.map (some c'), .map (some p')])) szSide hp38.box (by simp [diskC, Value.cells]) (side_cells _ _) fun h43 s43 b43 u43 => ⟨_, rfl,
      svc_store_box szWs b43 (by simp [diskC, Value.cells, putL]) rfl (one_slice _ _ _) fun h46 s46 b46 u46 => ⟨_, rfl, svc_store_box szB b46 (by simp [diskC, Value.cells, putL]) rfl (one_bool _) fun h49 s49 b49 u49 => ⟨_, rfl,
      svc_store_box szI b49 (by simp [diskC, Value.cells, putL]) rfl (one_int _ _) fun h52 s52 b52 u52 => ?_⟩⟩⟩⟩
    have ub := ((u43.trans u46).trans (u49.trans u52))
    have zb : h52.size = h38.size := by omega
    have nm := hpl.ne_map
    have nd := hpl.nd
    simp at nd
    have lt2 := hpl.safe.lt
    have ld := at_lt hpl.box
    have hOd := hb d (.inl rfl)
    have uall : Upd O h1 h52 := (ul.mono hb).trans ((k38.upd O).trans (ub.mono fun b e => e ▸ hOd))
    refine ⟨fun b => O b ∨ (h1.size ≤ b ∧ b < h52.size), ⟨fun b h0 => ?_, c', p', c2, p2, none, 0, 0, ⟨?_, ?_, ?_, ?_, ?_, ok_off hp.ok keep⟩, ?_⟩, fun b h0 => h0.imp id (·.1), uall, rfl⟩
    · rcases h0 with h0 | h0
      · exact Nat.lt_of_lt_of_le (hO b h0) uall.size
      · exact h0.2
    · rw [b52]; simp [diskC, Value.cells, putL, off, hdn]
    · have : (off keep x).now = offS keep x := by simp [off, hdn]
      rw [this]; exact s38.upd ub (by omega) (by omega)
    · have : (off keep x).safe = offS keep x := by simp [off, hdn]
      rw [this]; exact hp38.safe.upd ub (by omega) (by omega)
    · have : (off keep x).waits = [] := by simp [off, hdn]
      rw [this]; exact Own.nil _ _ _
    · simp; omega
    · have l38 := s38.lt
      rintro b (rfl | rfl | rfl | rfl | rfl | ⟨a, e, _⟩)
      · exact .inl hOd
      · exact .inr ⟨by have := ul.size; omega, by omega⟩
      · exact .inr ⟨by have := ul.size; omega, by omega⟩
      · exact .inl (hb _ (.inr (.inr (.inr (.inl rfl)))))
      · exact .inl (hb _ (.inr (.inr (.inr (.inr (.inl rfl))))))
      · cases e
  · have hnit : ∀ b, blks d c1 p1 c2 p2 A b → ¬ b = h10.size := fun b hb0 e => by have := hpk.lt hb0; omega
    have hp33 := hpl.upd u33 hnit
    have hmj := mem_erase left j q hj
    have hlt := (List.getElem?_eq_some_iff.1 hj).1
    have hlen : (left.eraseIdx j).length < left.length := by rw [List.length_eraseIdx, if_pos hlt]; omega
    have ul33 : Upd (blks d c1 p1 c2 p2 A) h1 h33 := ⟨by have := ul.size; omega, fun b hb1 hb2 => (u33.block b (by have := ul.size; omega) (by omega)).trans (ul.block b hb1 hb2)⟩
    · obtain ⟨mc2, mp2, hc2, hmp2, hl2⟩ := hp33.safe
      refine ⟨q.1, _, reads_entry i33, _, rfl, some c2, reads_load scMc (hp33.rd rfl), _, _, reads_count2 hc2 hl2 q.1, br_intro (fun hb1 => ?_) (fun hb1 => ?_)⟩
      · have hnone : mGet (dn.foldl addN (keepW keep 0 x.waits x.safe)) q.1 = none := by simpa using hb1
        refine ⟨_, rfl, some c2, reads_load scMc (hp33.rd rfl), svc_mapUpdate (M := Mc) (k := q.1) (v := 0) hc2 fun h64 s64 u64 m64 => ?_⟩
        have nd := hp33.nd
        simp at nd
        have i64 := i33.upd u64 (by have := hpk.safe.lt; omega) (by omega)
        have u64' : Upd (two c2 p2) h33 h64 := u64.mono fun b e => .inl e
        refine ⟨⟨left.eraseIdx j, some q, dn ++ [q.1], i64, ?_, ul33.trans (u64'.mono two_blks2), fun r => ?_⟩, ?_⟩
        · rw [List.foldl_append, List.foldl_cons, List.foldl_nil]
          refine hp33.safe_turn u64' ?_ (ok_addN hp33.ok q.1)
          rw [addN_none hnone]
          exact ⟨_, _, m64, hmp2.upd u64 (by omega), hl2.add hp33.ok.safe q.1 hnone⟩
        · rw [hnm r, hmj r, List.mem_append, List.mem_singleton]
          exact ⟨fun h => h.elim (fun h => .inl (.inl h)) (fun h => h.elim (fun h => .inl (.inr h)) .inr), fun h => h.elim (fun h => h.elim .inl (fun h => .inr (.inl h))) (fun h => .inr (.inr h))⟩
        · dsimp only; rw [i64.leftN, hit.leftN]; exact hlen
      · refine ⟨⟨left.eraseIdx j, some q, dn ++ [q.1], i33, ?_, ul33, fun r => ?_⟩, ?_⟩
        · rw [List.foldl_append, List.foldl_cons, List.foldl_nil]
          have : addN (dn.foldl addN (keepW keep 0 x.waits x.safe)) q.1 = dn.foldl addN (keepW keep 0 x.waits x.safe) := addN_some (by simpa using hb1)
          rw [this]; exact hp33
        · rw [hnm r, hmj r, List.mem_append, List.mem_singleton]
          exact ⟨fun h => h.elim (fun h => .inl (.inl h)) (fun h => h.elim (fun h => .inl (.inr h)) .inr), fun h => h.elim (fun h => h.elim .inl (fun h => .inr (.inl h))) (fun h => .inr (.inr h))⟩
        · dsimp only; rw [i33.leftN, hit.leftN]; exact hlen
end Go.Proofs.YtkhinnchplahlaaGreatDoor
end

section
set_option linter.unusedVariables false
set_option linter.unusedSimpArgs false
set_option maxRecDepth 100000
namespace Go.Proofs.YtkhinnchplahlaaGreatDoor
open Go Go.Vc Go.Proofs Go.Dk

theorem built_wt (s : Str) (k : Nat) : Blt Tryz.prog 128 [(0, .agg (Array.mk [.string s, .int .i64 k]))] (WtE.enc ⟨s, k, zp⟩).toArray :=
  ⟨builtL_eq (cs := WtE.enc ⟨s, k, zp⟩) (by kernel_rfl)⟩
theorem app_wt : App Tryz.prog 75 128 WtE.sz 536 (.agg (zc Tryz.prog 128)) := ⟨by kernel_rfl, by kernel_rfl, by kernel_rfl, by kernel_rfl, zcWrite, by decide, by decide⟩
theorem bs_wt (w : Wt) : bsCells Tryz.prog 75 1 [(0, .agg (WtE.enc w).toArray)] = some (128, WtE.enc w) :=
  bs_one (v := .agg (WtE.enc w).toArray) app_wt.und app_wt.size app_wt.zero app_wt.zlen (by decide) (by decide) (by show (WtE.enc w).length = _; exact WtE.len w)
theorem pgC_zp (n : Nat) (hn : n ≤ 512) : (pgC zp).drop n = List.replicate (512 - n) (Value.int .u8 0) := by
  apply List.ext_getElem?
  intro j
  simp only [List.getElem?_drop, pgC, List.getElem?_map, List.getElem?_replicate]
  by_cases h : j < 512 - n
  · have : n + j < 512 := by omega
    rw [List.getElem?_range this, if_pos h]
    simp [zp, Array.getD, this]
  · rw [List.getElem?_eq_none (by simp; omega), if_neg h]; rfl
theorem pgC_pad {b : Str} (hb : b.size ≤ 512) : (bytesL b).flatMap ByteE.enc ++ (pgC zp).drop b.size = pgC (pad b) := by
  have hs : b.data.size = b.size := rfl
  have hp := pgC_bytes (pad_size hb)
  rw [hp, pgC_zp _ hb]
  have e1 : bytesL (pad b) = bytesL b ++ List.replicate (512 - b.size) 0 := by simp [bytesL, pad]
  have e2 : (bytesL b).flatMap ByteE.enc = (bytesL b).map fun c => Value.int .u8 (c.toNat : Nat) := by
    generalize bytesL b = l
    induction l with
    | nil => rfl
    | cons a l ih => rw [List.flatMap_cons, ih]; rfl
  rw [e1, e2, List.map_append, List.map_replicate]
  rfl
theorem wt_copy {s b : Str} {k : Nat} (hb : b.size ≤ 512) : putL (WtE.enc ⟨s, k, zp⟩) 2 (((bytesL b).take (min b.size 512)).flatMap ByteE.enc) = WtE.enc ⟨s, k, pad b⟩ := by
  have hl : (bytesL b).length = b.size := by show b.data.toList.length = _; rw [Array.length_toList]; rfl
  have hm : min b.size 512 = (bytesL b).length := by omega
  rw [hm, List.take_length]
  have hlen : ((bytesL b).flatMap ByteE.enc).length = b.size := by rw [flat_len, hl]; show b.size * 1 = _; omega
  have := putL_prefix ((bytesL b).flatMap ByteE.enc) [Value.string s, .int .i64 k] (pgC zp) (by rw [hlen, pgC_len]; exact hb)
  show putL ([Value.string s, .int .i64 k] ++ pgC zp) 2 _ = _
  rw [show (2 : Nat) = [Value.string s, Value.int .i64 k].length from rfl, this, hlen, List.append_assoc, pgC_pad hb]
  rfl

theorem write_spec0 {h : Heap} {d : Nat} {x : D} {O : Nat → Prop} {s b : Str} {i : Int} {A : Option Addr} {n c : Nat} (hd : DiskAt h d x O) (hsl : Sl ByteE h A n (bytesL b)) (hA : n ≠ 0 → ∀ q, blk A q → ¬ O q) (hwn : x.waits.length < 1073741824) :
    HC Tryz.prog 81 #[.pointer (some ⟨d, 0, none⟩), .string s, .int .i64 i, .slice A n c] h
      fun v h' => ∃ O', DiskAt h' d (write x s i b).2 O' ∧ (∀ q, O' q → O q ∨ h.size ≤ q) ∧ Upd O h h' ∧ v = .int .i64 (write x s i b).1 := by
  have hr := ready_spec hd
  have hd0 := hd
  obtain ⟨hO, c1, p1, c2, p2, A0, n0, c0, hp, hb⟩ := hd
  obtain ⟨mc, mp, hc, hmp, hl⟩ := hp.now
  have hn : b.size = n := by have := hsl.1; simpa [bytesL] using this
  refine HC_of_vc (args := [.pointer (some ⟨d, 0, none⟩), .string s, .int .i64 i, .slice A n c]) (base := 82) (cuts := [11]) (bigs := []) hm Tryz.func81 ?_
  rw [vcWrite]
  refine hr.mono ?_
  rintro v h1 ⟨rfl, rfl⟩
  have stay : ∀ {h' : Heap} {e : Int}, Keep h1.size h1 h' → write x s i b = (e, x) → ∃ O', DiskAt h' d (write x s i b).2 O' ∧ (∀ q, O' q → O q ∨ h1.size ≤ q) ∧ Upd O h1 h' ∧ Value.int .i64 e = .int .i64 (write x s i b).1 := fun {h' e} k hw => by
    rw [hw]; exact ⟨O, hd0.keep k, fun q h => .inl h, k.upd O, rfl⟩
  refine ⟨_, rfl, br_intro (fun e => ?_) (fun e => ?_)⟩
  · have hdn : x.down = true := by cases hdn : x.down <;> simp [hdn] at e ⊢
    rw [hdn]
    exact stay (Keep.refl _ _) (by simp [write, hdn])
  have hdn : x.down = false := by cases hdn : x.down <;> simp [hdn] at e ⊢
  refine ⟨_, rfl, some c1, reads_load scMc (cell_cells0 hp.box rfl), _, reads_count hc hl s,
    fun _ h11 => Keep h1.size h1 h11 ∧ ¬ 512 < b.size ∧ ¬ (i < 0 ∨ ((pgs x.now s).length : Int) < i) ∧ ¬ (i = (pgs x.now s).length ∧ free x < 1), ?_, ?_⟩
  · refine br_intro (fun e1 => ?_) fun e1 => br_intro (fun e2 => ?_) fun e2 => br_intro (fun e3 => ?_) fun e3 => ?_
    · have e1 : 512 < b.size := by rw [hn]; have : (512 : Int) < n := by simpa using e1
                                   omega
      exact stay (Keep.refl _ _) (by simp [write, hdn, e1])
    all_goals have e1 : ¬ 512 < b.size := by rw [hn]; have : ¬ (512 : Int) < n := by simpa using e1
                                             omega
    · have e2 : i < 0 ∨ ((pgs x.now s).length : Int) < i := by simpa using e2
      exact stay (Keep.refl _ _) (by simp only [write, hdn, Bool.false_eq_true, if_false, if_neg e1, if_pos e2])
    all_goals have e2 : ¬ (i < 0 ∨ ((pgs x.now s).length : Int) < i) := by simpa using e2
    · have e3 : i = (pgs x.now s).length := by simpa using e3
      refine (free_spec hd0).mono ?_
      rintro v h8 ⟨k8, rfl⟩
      refine ⟨_, rfl, br_intro (fun e4 => ?_) fun e4 => ⟨k8, e1, e2, fun h => by have := h.2; simp at e4; omega⟩⟩
      have e4 : free x < 1 := by simpa using e4
      exact stay k8 (by simp only [write, hdn, Bool.false_eq_true, if_false, if_neg e1, if_neg e2, if_pos (And.intro e3 e4)])
    · have e3 : i ≠ (pgs x.now s).length := by simpa using e3
      exact ⟨Keep.refl _ _, e1, e2, fun h => e3 h.1⟩
  rintro _ h11 ⟨k11, g1, g2, g3⟩
  obtain ⟨k, rfl⟩ : ∃ k : Nat, i = k := ⟨i.toNat, by omega⟩
  have hwr : write x s k b = (if goes x then (8, off (act x).keep { act x with now := put s (setP (pgs x.now s) k (pad b)) x.now, waits := x.waits ++ [⟨s, k, pad b⟩] })
      else (0, { act x with now := put s (setP (pgs x.now s) k (pad b)) x.now, waits := x.waits ++ [⟨s, k, pad b⟩] })) := by
    simp only [write, hdn, Bool.false_eq_true, if_false, if_neg g1, if_neg g2, if_neg g3, Int.toNat_natCast]
  rw [hwr]
  have okw : Ok { act x with now := put s (setP (pgs x.now s) k (pad b)) x.now, waits := x.waits ++ [⟨s, k, pad b⟩] } := ok_write hp.ok (by omega) (by omega) fun e => by
    have : ¬ free x < 1 := fun h => g3 ⟨by omega, h⟩
    omega
  have hklt : k < 4611686018427387904 := by
    have h1 := hp.ok.tot
    have h2 := hp.ok.room
    have h3 := tot_put hp.ok.now s []
    simp at h3
    omega
  refine (act_spec (hd0.keep k11)).mono ?_
  rintro v h13 ⟨hd13, u13, rfl⟩
  have u1 : Upd O h1 h13 := (k11.upd O).trans u13
  have hs13 : Sl ByteE h13 A n (bytesL b) := by
    by_cases h0 : n = 0
    · exact ⟨hsl.1, .inl (List.eq_nil_of_length_eq_zero (hsl.1.trans h0))⟩
    · exact hsl.upd u1 (hA h0)
  obtain ⟨hO13, c1, p1, c2, p2, A0, n0, c0, hp, hb⟩ := hd13
  refine ⟨_, rfl, _, built_wt s k, zc Tryz.prog 128, ⟨rfl⟩, svc_store_wt ⟨rfl⟩ ?_⟩
  have kq := keep_push h13 (.cells (WtE.enc ⟨s, k, zp⟩).toArray 128 (0, 0))
  have hat := push_at h13 (.cells (WtE.enc ⟨s, k, zp⟩).toArray 128 (0, 0))
  refine ⟨⟨by omega, by omega, by omega, by omega⟩, ?_⟩
  have esub : subA (some ((⟨h13.size, 0, none⟩ : Addr).add 2)) 0 512 1 = some ⟨h13.size, 2, none⟩ := by simp [subA, Addr.add]
  rw [esub]
  have szB1 : szOf Tryz.prog 5 = some ByteE.sz := by kernel_rfl
  refine svc_copy_into (E := ByteE) (xs := bytesL b) undBs szB1 hat (by rw [List.size_toArray, WtE.len]; show 2 + min n 512 * 1 ≤ 514; omega) (hs13.keep kq) fun h20 s20 b20 o20 => ?_
  rw [← hn, List.toList_toArray, wt_copy (by omega)] at b20
  have k20 : Keep h13.size h13 h20 := kq.trans ⟨by omega, fun q hq => o20 q (by omega)⟩
  have hp20 := hp.upd (k20.upd fun _ => False) fun _ _ h => h
  obtain ⟨r1, r2⟩ := WtE_at b20
  have nm := hp20.ne_map
  have nd := hp20.nd
  simp at nd
  refine ⟨_, rfl, _, rfl, _, _, hp20.side1, _, _, r1, _, r2, (set_spec hp20.now hp20.ok.now (by omega) hklt).mono ?_⟩
  rintro v h29 ⟨s29, u29, rfl⟩
  have hl13 := at_lt b20
  have hq : ∀ q, two c1 p1 q → q < h13.size := fun q h => hp.lt (two_blks1 q h)
  have hbox29 := u29.at hp20.box (by rintro (e | e) <;> omega)
  have hB29 := u29.at b20 (fun h => by have := hq _ h; omega)
  refine ⟨rfl, fun h' => h'[d]? = some (.cells (diskC c1 p1 c2 p2 A0 n0 c0 (act x)).toArray 77 (0, 0)), hbox29, _, rfl, A0, n0, c0, fun h35 e35 => reads_load scWs (cell_cells e35 (by simp [diskC])), _,
    reads_load_agg agWrite (WtE.len ⟨s, k, pad b⟩) (cells_all hB29), ?_⟩
  have kp29 := keep_push h29 (.cells (WtE.enc ⟨s, k, pad b⟩).toArray 128 (0, 0))
  have hbox38 := kp29.at hbox29 (at_lt hbox29)
  refine svc_buildSlice (bs_wt ⟨s, k, pad b⟩) ⟨_, _, _, rfl, hbox38, ?_⟩
  have ow29 : Vc.Own WtE 128 0 h29 A0 n0 c0 x.waits := hp20.waits.upd u29 fun q hq => by have := hp20.ne_waits hq; rintro (e | e) <;> omega
  have ow38 := ow29.upd (kp29.upd fun _ => False) fun _ _ h => h
  have hn0 : x.waits.length = n0 := hp20.waits.1
  have hbl := ow29.block
  refine svc_append (ys := [⟨s, k, pad b⟩]) app_wt ow38 (Nat.zero_le _) ⟨rfl, .inr ⟨_, rfl, fun j y hy l u hu => ?_⟩⟩ (by omega) fun a' c'' h43 o43 u43 b43 => ⟨_, _, _, rfl, _, rfl, ?_⟩
  · cases j with
    | zero =>
      simp at hy; subst hy
      rw [Addr.add_row, cell_push, Nat.zero_mul]
      simpa using hu
    | succ j => simp at hy
  have nw := fun q hq => hp20.ne_waits (b := q) hq
  have hbox43 := u43.at hbox38 fun h => (nw _ h).1 rfl
  refine svc_store_box szWs hbox43 (by simp [diskC]) rfl (one_slice _ _ _) fun h49 s49 b49 u49 => ?_
  -- the whole
  have u2943 : Upd (blk A0) h29 h43 := (kp29.upd _).trans u43
  have uall : Upd O h1 h49 := u1.trans ((k20.upd O).trans ((u29.mono fun q h => hb q (two_blks1 q h)).trans ((u2943.mono fun q h => hb q (.inr (.inr (.inr (.inr (.inr h)))))).trans (u49.mono fun q e => e ▸ hb d (.inl rfl)))))
  have z20 := k20.size
  have z29 := u29.size
  have z43 := u43.size
  have z1 := u1.size
  simp only [Array.size_push] at z43
  have a43 : ∀ q, blk a' q → q ≠ d ∧ q ≠ c1 ∧ q ≠ p1 ∧ q ≠ c2 ∧ q ≠ p2 := fun q hq => by
    rcases b43 q hq with h | h
    · exact nw q h
    · simp only [Array.size_push] at h
      have := at_lt hbox29
      have l1 := hp20.now.lt
      have l2 := hp20.safe.lt
      omega
  have hp49 : DiskP h49 d c1 p1 c2 p2 a' (n0 + 1) c'' { act x with now := put s (setP (pgs x.now s) k (pad b)) x.now, waits := x.waits ++ [⟨s, k, pad b⟩] } := by
    refine ⟨?_, ?_, ?_, o43.upd u49 fun q hq => (a43 q hq).1, hp20.nd, okw⟩
    · rw [b49]; simp [diskC]
    · exact (s29.upd u2943 (fun h => (nw _ h).2.1 rfl) (fun h => (nw _ h).2.2.1 rfl)).upd u49 (Ne.symm nm.1) (Ne.symm nm.2.1)
    · exact ((hp20.safe.upd u29 (by rintro (e | e) <;> omega) (by rintro (e | e) <;> omega)).upd u2943 (fun h => (nw _ h).2.2.2.1 rfl) (fun h => (nw _ h).2.2.2.2 rfl)).upd u49 (Ne.symm nm.2.2.1) (Ne.symm nm.2.2.2)
  have hd49 : DiskAt h49 d { act x with now := put s (setP (pgs x.now s) k (pad b)) x.now, waits := x.waits ++ [⟨s, k, pad b⟩] } fun q => O q ∨ (h1.size ≤ q ∧ q < h49.size) := by
    refine ⟨fun q h => h.elim (fun h => Nat.lt_of_lt_of_le (hO q h) uall.size) (·.2), c1, p1, c2, p2, a', n0 + 1, c'', hp49, ?_⟩
    rintro q (rfl | rfl | rfl | rfl | rfl | hq)
    · exact .inl (hb _ (.inl rfl))
    · exact .inl (hb _ (.inr (.inl rfl)))
    · exact .inl (hb _ (.inr (.inr (.inl rfl))))
    · exact .inl (hb _ (.inr (.inr (.inr (.inl rfl)))))
    · exact .inl (hb _ (.inr (.inr (.inr (.inr (.inl rfl))))))
    · have hlt := (hp49.waits.block q hq).2
      rcases b43 q hq with h | h
      · exact .inl (hb q (.inr (.inr (.inr (.inr (.inr h))))))
      · simp only [Array.size_push] at h; exact .inr ⟨by omega, hlt⟩
  refine br_intro (fun hg => ?_) (fun hg => ?_)
  · refine ⟨_, rfl, _, reads_load scU (hp49.rd rfl), (off_spec hd49 hp.ok.keep (by simp; omega)).mono ?_⟩
    rintro v h53 ⟨O', hd53, hO', u53, rfl⟩
    rw [if_pos hg]
    refine ⟨rfl, O', hd53, fun q h => ?_, uall.trans' u53, rfl⟩
    rcases hO' q h with h | h
    · exact h.imp id (·.1)
    · exact .inr (by have := uall.size; omega)
  · rw [if_neg (by simp [hg])]
    exact ⟨_, hd49, fun q h => h.imp id (·.1), uall, rfl⟩
end Go.Proofs.YtkhinnchplahlaaGreatDoor
end

section
set_option linter.unusedVariables false
set_option maxRecDepth 100000
namespace Go.Proofs.YtkhinnchplahlaaGreatDoor
open Go Go.Vc Go.Proofs

theorem vcDoes (d : Nat) (s : ByteArray) (f : Nat) (cap : Array Value) (h : Heap) (R : Value → Heap → Prop) :
    vcF Tryz.prog Tryz.f123 31 [] [] [.pointer (some ⟨d, 0, none⟩), .string s, .func (.func f) #[] cap] h R =
(HC Tryz.prog (62 : Nat) (Array.mk [Value.pointer (some (Addr.mk d (0 : Nat) none))]) h fun (v0 : Value) (h1 : Heap) =>
 ∃ (n2 : Int),
 v0 = Value.int IntKind.i64 n2 ∧
 br (n2 != (0 : Int)) (R (Value.int IntKind.i64 n2) h1)
 (HC Tryz.prog (66 : Nat) (Array.mk [Value.pointer (some (Addr.mk d (0 : Nat) none)), Value.string s]) h1 fun (v3 : Value) (h4 : Heap) =>
 ∃ (b5 : Bool),
 v3 = Value.bool b5 ∧
 br (!b5) (R (Value.int IntKind.i64 (5 : Int)) h4)
 (HC Tryz.prog (129 : Nat) (Array.mk [Value.pointer (some (Addr.mk d (0 : Nat) none))]) h4 fun (v6 : Value) (h7 : Heap) =>
 ∃ (b8 : Bool),
 v6 = Value.bool b8 ∧
 br b8
 (∃ (p9 : Addr),
 some (Addr.mk d (0 : Nat) none) = some p9 ∧
 ∃ (n10 : Int),
 Reads Tryz.prog (Instr.loadAt (33 : Nat) (Value.pointer (some (p9.add (9 : Nat))))) h7 (Value.int IntKind.u64 n10) ∧
 HC Tryz.prog (31 : Nat) (Array.mk [Value.pointer (some (Addr.mk d (0 : Nat) none)), Value.int IntKind.u64 n10]) h7 fun (v11 : Value) (h12 : Heap) =>
 v11 = Value.tuple (Array.mk []) ∧ R (Value.int IntKind.i64 (8 : Int)) h12)
 (∃ (p13 : Addr),
 some (Addr.mk d (0 : Nat) none) = some p13 ∧
 ∃ (a14 : Option Nat),
 ∃ (a15 : Option Nat),
 Reads Tryz.prog (Instr.loadAt (73 : Nat) (Value.pointer (some p13))) h7 (Value.agg (Array.mk [Value.map a14, Value.map a15])) ∧
 br (fnOk Tryz.prog f)
 (HC Tryz.prog f (Array.mk [Value.agg (Array.mk [Value.map a14, Value.map a15])] ++ cap) h7 fun (v16 : Value) (h17 : Heap) =>
 v16 = Value.tuple (Array.mk []) ∧ R (Value.int IntKind.i64 (0 : Int)) h17)
 False)))) := by kernel_rfl

theorem vcDelF (A : Option Addr) (n c : Nat) (f : Nat) (cap : Array Value) (h : Heap) (R : Value → Heap → Prop) :
    vcF Tryz.prog Tryz.f124 42 [] [] [.slice A n c, .func (.func f) #[] cap] h R =
(HC Tryz.prog (161 : Nat) (Array.mk [Value.slice A n c, Value.func (Fn.func f) (Array.mk []) cap]) h fun (v0 : Value) (h1 : Heap) =>
 ∃ (n2 : Int),
 v0 = Value.int IntKind.i64 n2 ∧
 br (n2 == (-1 : Int)) (R (Value.slice A n c) h1)
 (∃ (I3 : Int → Int → Heap → Prop),
 ∃ (I4 : Int → Int → Heap → Nat),
 I3 n2 (IntKind.i64.wrap (n2 + (1 : Int))) h1 ∧
 ∀ (n5 n6 : Int) (h7 : Heap),
 I3 n5 n6 h7 →
 br (decide (n6 < (↑n : Int)))
 (∃ (p8 : Addr),
 (A = some p8 ∧ (0 : Int) ≤ n6 ∧ n6 < (↑n : Int)) ∧
 ∃ (h9 : Array Value),
 Reads Tryz.prog (Instr.loadAt (128 : Nat) (Value.pointer (some (p8.add (n6.toNat * (514 : Nat)))))) h7 (Value.agg h9) ∧
 ∃ (h10 : Array Value),
 IsZ Tryz.prog (128 : Nat) h10 ∧
 SVC Tryz.prog (Instr.storeAt (128 : Nat) (Value.pointer (some (Addr.mk (Array.size h7) (0 : Nat) none))) (Value.agg h9)) (Array.push h7 (Obj.cells h10 (128 : Nat)))
 fun (x11 : Unit) (h12 : Heap) =>
 ∃ (h13 : Array Value),
 Reads Tryz.prog (Instr.loadAt (128 : Nat) (Value.pointer (some (Addr.mk (Array.size h7) (0 : Nat) none)))) h12 (Value.agg h13) ∧
 br (fnOk Tryz.prog f)
 (HC Tryz.prog f (Array.mk [Value.agg h13] ++ cap) h12 fun (v14 : Value) (h15 : Heap) =>
 ∃ (b16 : Bool),
 v14 = Value.bool b16 ∧
 br (!b16)
 (∃ (h17 : Array Value),
 Reads Tryz.prog (Instr.loadAt (128 : Nat) (Value.pointer (some (Addr.mk (Array.size h7) (0 : Nat) none)))) h15 (Value.agg h17) ∧
 ∃ (p18 : Addr),
 (A = some p18 ∧ (0 : Int) ≤ n5 ∧ n5 < (↑n : Int)) ∧
 SVC Tryz.prog (Instr.storeAt (128 : Nat) (Value.pointer (some (p18.add (n5.toNat * (514 : Nat))))) (Value.agg h17)) h15
 fun (x19 : Unit) (h20 : Heap) =>
 I3 (IntKind.i64.wrap (n5 + (1 : Int))) (IntKind.i64.wrap (n6 + (1 : Int))) h20 ∧
 I4 (IntKind.i64.wrap (n5 + (1 : Int))) (IntKind.i64.wrap (n6 + (1 : Int))) h20 < I4 n5 n6 h7)
 (I3 n5 (IntKind.i64.wrap (n6 + (1 : Int))) h15 ∧ I4 n5 (IntKind.i64.wrap (n6 + (1 : Int))) h15 < I4 n5 n6 h7))
 False)
 (((0 : Int) ≤ n5 ∧ n5 ≤ (↑n : Int) ∧ (↑n : Int) ≤ (↑c : Int) ∧ (↑c : Int) ≤ (↑c : Int)) ∧
 SVC Tryz.prog (Builtin.clear_ (Array.mk [(75 : Nat)]) (0 : Nat) (Array.mk [Value.slice (subA A n5.toNat c (514 : Nat)) (n - n5.toNat) (c - n5.toNat)])) h7
 fun (v21 : Value) (h22 : Heap) => v21 = Value.tuple (Array.mk []) ∧ ((0 : Int) ≤ n5 ∧ n5 ≤ (↑c : Int) ∧ (↑c : Int) ≤ (↑c : Int)) ∧ R (Value.slice A n5.toNat c) h22))) := by kernel_rfl

theorem vcIdxF (A : Option Addr) (n c : Nat) (f : Nat) (cap : Array Value) (h : Heap) (R : Value → Heap → Prop) :
    vcF Tryz.prog Tryz.f161 19 [] [] [.slice A n c, .func (.func f) #[] cap] h R =
(∃ (I0 : Int → Int → Heap → Prop),
 ∃ (I1 : Int → Int → Heap → Nat),
 I0 (0 : Int) (0 : Int) h ∧
 ∀ (n2 n3 : Int) (h4 : Heap),
 I0 n2 n3 h4 →
 br (decide (n3 < (↑n : Int)))
 (∃ (p5 : Addr),
 (A = some p5 ∧ (0 : Int) ≤ n3 ∧ n3 < (↑n : Int)) ∧
 ∃ (h6 : Array Value),
 Reads Tryz.prog (Instr.loadAt (128 : Nat) (Value.pointer (some (p5.add (n3.toNat * (514 : Nat)))))) h4 (Value.agg h6) ∧
 br (fnOk Tryz.prog f)
 (HC Tryz.prog f (Array.mk [Value.agg h6] ++ cap) h4 fun (v7 : Value) (h8 : Heap) =>
 ∃ (b9 : Bool),
 v7 = Value.bool b9 ∧ br b9 (R (Value.int IntKind.i64 n3) h8) (I0 n2 (IntKind.i64.wrap (n3 + (1 : Int))) h8 ∧ I1 n2 (IntKind.i64.wrap (n3 + (1 : Int))) h8 < I1 n2 n3 h4))
 False)
 (R (Value.int IntKind.i64 (-1 : Int)) h4)) := by kernel_rfl

theorem vcSync1 (c p : Nat) (h : Heap) (R : Value → Heap → Prop) :
    vcF Tryz.prog Tryz.f130 2 [] [] [.agg #[.map (some c), .map (some p)]] h R =
(R (Value.tuple (Array.mk [])) (Array.push h (Obj.cells (Array.mk [Value.map (some c), Value.map (some p)]) (73 : Nat)))) := by kernel_rfl

theorem vcRename1 (c p : Nat) (h : Heap) (R : Value → Heap → Prop) :
    vcF Tryz.prog Tryz.f166 2 [] [] [.agg #[.map (some c), .map (some p)]] h R =
(R (Value.tuple (Array.mk [])) (Array.push h (Obj.cells (Array.mk [Value.map (some c), Value.map (some p)]) (73 : Nat)))) := by kernel_rfl

theorem vcRename2 (c p : Nat) (q r : Nat) (h : Heap) (R : Value → Heap → Prop) :
    vcF Tryz.prog Tryz.f167 8 [] [] [.agg #[.map (some c), .map (some p)], .pointer (some ⟨q, 0, none⟩), .pointer (some ⟨r, 0, none⟩)] h R =
(∃ (a0 : Option Nat),
 ∃ (a1 : Option Nat),
 Reads Tryz.prog (Instr.loadAt (73 : Nat) (Value.pointer (some (Addr.mk (Array.size h) (0 : Nat) none)))) (Array.push h (Obj.cells (Array.mk [Value.map (some c), Value.map (some p)]) (73 : Nat)))
 (Value.agg (Array.mk [Value.map a0, Value.map a1])) ∧
 ∃ (s2 : ByteArray),
 Reads Tryz.prog (Instr.loadAt (9 : Nat) (Value.pointer (some (Addr.mk q (0 : Nat) none)))) (Array.push h (Obj.cells (Array.mk [Value.map (some c), Value.map (some p)]) (73 : Nat)))
 (Value.string s2) ∧
 ∃ (s3 : ByteArray),
 Reads Tryz.prog (Instr.loadAt (9 : Nat) (Value.pointer (some (Addr.mk r (0 : Nat) none)))) (Array.push h (Obj.cells (Array.mk [Value.map (some c), Value.map (some p)]) (73 : Nat)))
 (Value.string s3) ∧
 HC Tryz.prog (168 : Nat) (Array.mk [Value.agg (Array.mk [Value.map a0, Value.map a1]), Value.string s2, Value.string s3])
 (Array.push h (Obj.cells (Array.mk [Value.map (some c), Value.map (some p)]) (73 : Nat))) fun (v4 : Value) (h5 : Heap) =>
 v4 = Value.tuple (Array.mk []) ∧ R (Value.tuple (Array.mk [])) h5) := by kernel_rfl

theorem vcRename3 (w : Array Value) (q : Nat) (h : Heap) (R : Value → Heap → Prop) :
    vcF Tryz.prog Tryz.f169 9 [] [] [.agg w, .pointer (some ⟨q, 0, none⟩)] h R =
(∃ (s0 : ByteArray),
 Reads Tryz.prog (Instr.loadAt (9 : Nat) (Value.pointer (some (Addr.mk (Array.size h) (0 : Nat) none)))) (Array.push h (Obj.cells w (128 : Nat))) (Value.string s0) ∧
 ∃ (s1 : ByteArray),
 Reads Tryz.prog (Instr.loadAt (9 : Nat) (Value.pointer (some (Addr.mk q (0 : Nat) none)))) (Array.push h (Obj.cells w (128 : Nat))) (Value.string s1) ∧
 R (Value.bool (s0.toList == s1.toList)) (Array.push h (Obj.cells w (128 : Nat)))) := by kernel_rfl

theorem vcRemove1 (c p : Nat) (q : Nat) (h : Heap) (R : Value → Heap → Prop) :
    vcF Tryz.prog Tryz.f121 9 [] [] [.agg #[.map (some c), .map (some p)], .pointer (some ⟨q, 0, none⟩)] h R =
(∃ (a0 : Option Nat),
 ∃ (a1 : Option Nat),
 Reads Tryz.prog (Instr.loadAt (73 : Nat) (Value.pointer (some (Addr.mk (Array.size h) (0 : Nat) none)))) (Array.push h (Obj.cells (Array.mk [Value.map (some c), Value.map (some p)]) (73 : Nat)))
 (Value.agg (Array.mk [Value.map a0, Value.map a1])) ∧
 ∃ (s2 : ByteArray),
 Reads Tryz.prog (Instr.loadAt (9 : Nat) (Value.pointer (some (Addr.mk q (0 : Nat) none)))) (Array.push h (Obj.cells (Array.mk [Value.map (some c), Value.map (some p)]) (73 : Nat)))
 (Value.string s2) ∧
 HC Tryz.prog (122 : Nat) (Array.mk [Value.agg (Array.mk [Value.map a0, Value.map a1]), Value.string s2, Value.int IntKind.i64 (0 : Int)])
 (Array.push h (Obj.cells (Array.mk [Value.map (some c), Value.map (some p)]) (73 : Nat))) fun (v3 : Value) (h4 : Heap) =>
 v3 = Value.tuple (Array.mk []) ∧
 ∃ (a5 : Option Nat),
 Reads Tryz.prog (Instr.loadAt (70 : Nat) (Value.pointer (some (Addr.mk (Array.size h) (0 : Nat) none)))) h4 (Value.map a5) ∧
 ∃ (s6 : ByteArray),
 Reads Tryz.prog (Instr.loadAt (9 : Nat) (Value.pointer (some (Addr.mk q (0 : Nat) none)))) h4 (Value.string s6) ∧
 SVC Tryz.prog (Builtin.delete_ (Array.mk [(70 : Nat), (9 : Nat)]) (0 : Nat) (Array.mk [Value.map a5, Value.string s6])) h4 fun (v7 : Value) (h8 : Heap) =>
 v7 = Value.tuple (Array.mk []) ∧ R (Value.tuple (Array.mk [])) h8) := by kernel_rfl

theorem vcRemove2 (w : Array Value) (q : Nat) (h : Heap) (R : Value → Heap → Prop) :
    vcF Tryz.prog Tryz.f125 9 [] [] [.agg w, .pointer (some ⟨q, 0, none⟩)] h R =
(∃ (s0 : ByteArray),
 Reads Tryz.prog (Instr.loadAt (9 : Nat) (Value.pointer (some (Addr.mk (Array.size h) (0 : Nat) none)))) (Array.push h (Obj.cells w (128 : Nat))) (Value.string s0) ∧
 ∃ (s1 : ByteArray),
 Reads Tryz.prog (Instr.loadAt (9 : Nat) (Value.pointer (some (Addr.mk q (0 : Nat) none)))) (Array.push h (Obj.cells w (128 : Nat))) (Value.string s1) ∧
 R (Value.bool (s0.toList == s1.toList)) (Array.push h (Obj.cells w (128 : Nat)))) := by kernel_rfl

theorem vcSettle1 (w : Array Value) (q : Nat) (h : Heap) (R : Value → Heap → Prop) :
    vcF Tryz.prog Tryz.f163 9 [] [] [.agg w, .pointer (some ⟨q, 0, none⟩)] h R =
(∃ (s0 : ByteArray),
 Reads Tryz.prog (Instr.loadAt (9 : Nat) (Value.pointer (some (Addr.mk (Array.size h) (0 : Nat) none)))) (Array.push h (Obj.cells w (128 : Nat))) (Value.string s0) ∧
 ∃ (s1 : ByteArray),
 Reads Tryz.prog (Instr.loadAt (9 : Nat) (Value.pointer (some (Addr.mk q (0 : Nat) none)))) (Array.push h (Obj.cells w (128 : Nat))) (Value.string s1) ∧
 R (Value.bool (s0.toList == s1.toList)) (Array.push h (Obj.cells w (128 : Nat)))) := by kernel_rfl
end Go.Proofs.YtkhinnchplahlaaGreatDoor
end

section
set_option linter.unusedVariables false
set_option linter.unusedSimpArgs false
set_option maxRecDepth 100000
namespace Go.Proofs.YtkhinnchplahlaaGreatDoor
open Go Go.Vc Go.Proofs Go.Dk

/-- a predicate on writes, as a function value: it only looks, where X holds. -/
def PredC (f : Nat) (cap : Array Value) (p : Wt → Bool) (X : Heap → Prop) : Prop :=
  fnOk Tryz.prog f = true ∧ ∀ h w, X h → HC Tryz.prog f (Array.mk [.agg (WtE.enc w).toArray] ++ cap) h fun v h' => Keep h.size h h' ∧ v = .bool (p w)

theorem idxF_spec {f : Nat} {cap : Array Value} {p : Wt → Bool} {X : Heap → Prop} (hp : PredC f cap p X) (hX : ∀ h h' : Heap, X h → Keep h.size h h' → X h') {h : Heap} {A : Option Addr} {n c : Nat} {ws : List Wt}
    (hs : Sl WtE h A n ws) (hx : X h) (hn : n ≤ 1099511627776) :
    HC Tryz.prog 161 #[.slice A n c, .func (.func f) #[] cap] h
      fun v h' => Keep h.size h h' ∧ v = .int .i64 (match ws.findIdx? p with | some k => (k : Int) | none => -1) := by
  have hl := hs.1
  refine HC_of_vc (args := [.slice A n c, .func (.func f) #[] cap]) (base := 19) (cuts := []) (bigs := []) hm Tryz.func161 ?_
  rw [vcIdxF]
  refine ⟨fun _ n3 h4 => ∃ k : Nat, n3 = k ∧ k ≤ n ∧ Keep h.size h h4 ∧ ∀ j w, j < k → ws[j]? = some w → p w = false, fun _ n3 _ => n - n3.toNat, ⟨0, rfl, by omega, Keep.refl _ _, fun j w hj => by omega⟩, ?_⟩
  rintro _ n3 h4 ⟨k, rfl, hk, k4, hall⟩
  refine br_intro (fun hlt => ?_) (fun hge => ⟨k4, ?_⟩)
  · have hlt : k < n := by simpa using hlt
    have hw : ws[k]? = some (ws[k]'(by omega)) := List.getElem?_eq_getElem (by omega)
    generalize ws[k]'(by omega) = w at hw
    obtain ⟨q, hA, hq⟩ := reads_wt (c := c) (hs.keep k4) hw
    refine ⟨q, ⟨hA, by omega, by omega⟩, _, hq, br_intro (fun _ => (hp.2 h4 w (hX _ _ hx k4)).mono ?_) (fun e => by rw [hp.1] at e; cases e)⟩
    rintro v h11 ⟨k11, rfl⟩
    have kk := k4.trans (k11.mono k4.size)
    refine ⟨_, rfl, br_intro (fun e => ⟨kk, ?_⟩) (fun e => ?_)⟩
    · have : ws.findIdx? p = some k := List.findIdx?_eq_some_iff_getElem.2 ⟨by omega, by rw [List.getElem?_eq_getElem (by omega)] at hw; cases hw; exact e, fun j hj => by
        have := hall j _ hj (List.getElem?_eq_getElem (by omega)); simp [this]⟩
      rw [this]
    · rw [wrap_i64 (by omega) (by omega)]
      refine ⟨⟨k + 1, rfl, hlt, kk, fun j w' hj hw' => ?_⟩, by dsimp only; omega⟩
      by_cases hjk : j = k
      · subst hjk; rw [hw] at hw'; cases hw'; exact e
      · exact hall j w' (by omega) hw'
  · have hk' : k = n := by have : ¬ (k : Int) < n := by simpa using hge
                           omega
    subst hk'
    have : ws.findIdx? p = none := List.findIdx?_eq_none_iff.2 fun w hw => by
      obtain ⟨j, hj, rfl⟩ := List.getElem_of_mem hw
      exact hall j _ (by omega) (List.getElem?_eq_getElem hj)
    rw [this]

theorem zc_enc : (zc Tryz.prog 128).toList = WtE.enc ⟨⟨#[]⟩, 0, zp⟩ := by kernel_rfl
theorem zc_one : oneCells (Value.agg (zc Tryz.prog 128)).cells.toList := by
  have h : (Value.agg (zc Tryz.prog 128)).cells.toList = WtE.enc ⟨⟨#[]⟩, 0, zp⟩ := zc_enc
  rw [h]; exact WtE_one _
theorem filter_take {p : Wt → Bool} {ws : List Wt} {j : Nat} {w : Wt} (hw : ws[j]? = some w) : (ws.take (j + 1)).filter (fun w => !p w) = (ws.take j).filter (fun w => !p w) ++ if p w then [] else [w] := by
  have hj := (List.getElem?_eq_some_iff.1 hw).1
  have he := (List.getElem?_eq_some_iff.1 hw).2
  rw [List.take_succ_eq_append_getElem hj, he, List.filter_append]
  congr 1
  cases h : p w <;> simp [h]

set_option maxHeartbeats 1000000 in
theorem delF_spec {f : Nat} {cap : Array Value} {p : Wt → Bool} {X : Heap → Prop} {A : Option Addr} (hp : PredC f cap p X) (hX : ∀ h h' : Heap, X h → Keep h.size h h' → X h') (hXu : ∀ h h' : Heap, X h → Upd (blk A) h h' → X h')
    {h : Heap} {n c : Nat} {ws : List Wt} (ho : Vc.Own WtE 128 0 h A n c ws) (hx : X h) (hn : n ≤ 1099511627776) :
    HC Tryz.prog 124 #[.slice A n c, .func (.func f) #[] cap] h
      fun v h' => Vc.Own WtE 128 0 h' A (ws.filter fun w => !p w).length c (ws.filter fun w => !p w) ∧ Upd (blk A) h h' ∧ v = .slice A (ws.filter fun w => !p w).length c := by
  have hl := ho.1
  have hnc := ho.2.1
  refine HC_of_vc (args := [.slice A n c, .func (.func f) #[] cap]) (base := 42) (cuts := []) (bigs := []) hm Tryz.func124 ?_
  rw [vcDelF]
  refine (idxF_spec hp hX ho.sl hx hn).mono ?_
  rintro v h1 ⟨k1, rfl⟩
  have ho1 := ho.upd (k1.upd fun _ => False) fun _ _ h => h
  cases hf : ws.findIdx? p with
  | none =>
    have hall := List.findIdx?_eq_none_iff.1 hf
    have hfil : (ws.filter fun w => !p w) = ws := List.filter_eq_self.2 fun w hw => by simp [hall w hw]
    refine ⟨_, rfl, br_intro (fun _ => ?_) (fun e => by simp at e)⟩
    rw [hfil, hl]
    exact ⟨ho1, k1.upd _, rfl⟩
  | some k =>
    obtain ⟨hkl, hpk, hbef⟩ := List.findIdx?_eq_some_iff_getElem.1 hf
    have hb1 : (((k : Nat) : Int) == -1) = false := by rw [beq_eq_false_iff_ne]; omega
    refine ⟨_, rfl, br_intro (fun e => by rw [hb1] at e; cases e) (fun _ => ?_)⟩
    obtain ⟨b, cells, rfl, _, hb, hcs, rest, hrest⟩ : ∃ b cells, A = some ⟨b, 0, none⟩ ∧ 0 ≤ b ∧ h1[b]? = some (.cells cells 128 (0, 0)) ∧ cells.size = c * WtE.sz ∧ ∃ rest, cells.toList = ws.flatMap WtE.enc ++ rest := by
      rcases ho1.2.2 with ⟨_, e⟩ | h0
      · omega
      · exact h0
    have eb : ∀ q, q = b → blk (some (⟨b, 0, none⟩ : Addr)) q := fun q e => ⟨_, rfl, e.symm⟩
    refine ⟨fun n5 n6 h7 => ∃ (i j : Nat) (R : List Wt) (cells : Array Value) (rest : List Value), n5 = i ∧ n6 = j ∧ j ≤ n ∧ i < j ∧ R.length = n ∧ R.take i = (ws.take j).filter (fun w => !p w) ∧ R.drop j = ws.drop j ∧
        h7[b]? = some (.cells cells 128 (0, 0)) ∧ cells.size = c * WtE.sz ∧ cells.toList = R.flatMap WtE.enc ++ rest ∧ Upd (blk (some ⟨b, 0, none⟩)) h h7 ∧ X h7,
      fun _ n6 _ => n - n6.toNat, ⟨k, k + 1, ws, cells, rest, rfl, by show IntKind.i64.wrap ((k : Int) + 1) = _; rw [wrap_i64 (by omega) (by omega)]; rfl, by omega, by omega, hl, ?_, rfl, hb, hcs, hrest, k1.upd _, hX _ _ hx k1⟩, ?_⟩
    · rw [filter_take (List.getElem?_eq_getElem hkl), hpk]
      simp only [if_true, List.append_nil]
      refine (List.filter_eq_self.2 fun w hw => ?_).symm
      obtain ⟨j, hj, rfl⟩ := List.getElem_of_mem hw
      simp only [List.length_take] at hj
      have := hbef j (by omega)
      simpa using this
    rintro _ _ h7 ⟨i, j, R, cells, rest, rfl, rfl, hjn, hij, hRl, hRt, hRd, hb, hcs, hrest, u7, x7⟩
    refine br_intro (fun hlt => ?_) (fun hge => ?_)
    · have hlt : j < n := by simpa using hlt
      have hw : ws[j]? = some (ws[j]'(by omega)) := List.getElem?_eq_getElem (by omega)
      generalize ws[j]'(by omega) = w at hw
      have hRw : R[j]? = some w := by
        have := congrArg (fun l => l[0]?) hRd
        simpa [hw] using this
      have hsl : Sl WtE h7 (some ⟨b, 0, none⟩) n R := ⟨hRl, .inr ⟨_, rfl, fun i x hxx j v hv => by
        rw [Addr.add_row, Nat.zero_add, cell_at hb, ← Array.getElem?_toList, hrest]
        have := flat_get (E := WtE) R hxx hv
        rw [List.getElem?_append_left (List.getElem?_eq_some_iff.1 this).1]; exact this⟩⟩
      obtain ⟨q, hA, hq⟩ := reads_wt (c := c) hsl hRw
      cases hA
      refine ⟨⟨b, 0, none⟩, ⟨rfl, by omega, by omega⟩, _, hq, zc Tryz.prog 128, ⟨rfl⟩, svc_store_wt ⟨rfl⟩ ?_⟩
      have hat := push_at h7 (.cells (WtE.enc w).toArray 128 (0, 0))
      have kp := keep_push h7 (.cells (WtE.enc w).toArray 128 (0, 0))
      refine ⟨_, reads_load_agg agWrite (WtE.len w) (cells_all hat), br_intro (fun _ => (hp.2 _ w (hX _ _ x7 kp)).mono ?_) (fun e => by rw [hp.1] at e; cases e)⟩
      rintro v h15 ⟨k15, rfl⟩
      have k715 : Keep h7.size h7 h15 := kp.trans (k15.mono kp.size)
      have hb15 := k715.at hb (at_lt hb)
      have x15 : X h15 := hX _ _ x7 k715
      have u15 := u7.keep' k715
      have hat15 := k15.at hat (by simp)
      have hwj : IntKind.i64.wrap ((j : Int) + 1) = ((j + 1 : Nat) : Int) := by rw [wrap_i64 (by omega) (by omega)]; rfl
      have hwi : IntKind.i64.wrap ((i : Int) + 1) = ((i + 1 : Nat) : Int) := by rw [wrap_i64 (by omega) (by omega)]; rfl
      have hdrop : R.drop (j + 1) = ws.drop (j + 1) := by
        have := congrArg (List.drop 1) hRd
        simpa [List.drop_drop] using this
      refine ⟨_, rfl, br_intro (fun e => ?_) (fun e => ?_)⟩
      · have e : p w = false := by simpa using e
        refine ⟨_, reads_load_agg agWrite (WtE.len w) (cells_all hat15), ⟨b, 0, none⟩, ⟨rfl, by omega, by omega⟩, ?_⟩
        rw [Addr.add_row, Nat.zero_add, Int.toNat_natCast]
        refine svc_store_at (v := .agg (WtE.enc w).toArray) ?_ hb15 ?_ (WtE_one w) fun h20 s20 b20 u20 => ?_
        · show szOf _ _ = some (WtE.enc w).toArray.size; rw [List.size_toArray, WtE.len]; exact szWrite
        · show i * 514 + (WtE.enc w).toArray.size ≤ _
          rw [List.size_toArray, WtE.len, hcs]
          show i * 514 + 514 ≤ c * 514
          omega
        · have hset : putL cells.toList (i * 514) (WtE.enc w) = (R.set i w).flatMap WtE.enc ++ rest := by
            rw [hrest]; exact putL_flat (E := WtE) R rest i w (by omega)
          have b20' : h20[b]? = some (.cells ((R.set i w).flatMap WtE.enc ++ rest).toArray 128 (0, 0)) := by rw [← hset]; exact b20
          rw [hwi, hwj]
          refine ⟨⟨i + 1, j + 1, R.set i w, _, rest, rfl, rfl, hlt, by omega, by simpa using hRl, ?_, ?_, b20', ?_, by simp, u15.trans (u20.mono eb), hXu _ _ x15 (u20.mono eb)⟩, by dsimp only; omega⟩
          · rw [filter_take hw, e, ← hRt]
            simp only [Bool.false_eq_true, if_false]
            rw [List.take_succ_eq_append_getElem (by simp; omega), List.getElem_set_self, List.take_set_of_le (Nat.le_refl _)]
          · rw [List.drop_set_of_lt (by omega), hdrop]
          · have := congrArg List.length hset
            rw [putL_len, Array.length_toList] at this
            simp only [List.size_toArray]; omega
      · have e : p w = true := by simpa using e
        rw [hwj]
        refine ⟨⟨i, j + 1, R, cells, rest, rfl, rfl, hlt, by omega, hRl, ?_, hdrop, hb15, hcs, hrest, u15, x15⟩, by dsimp only; omega⟩
        rw [filter_take hw, e, ← hRt]; simp
    · have hjn' : j = n := by have : ¬ (j : Int) < n := by simpa using hge
                              omega
      subst hjn'
      have ht : ws.take j = ws := List.take_of_length_le (by omega)
      rw [ht] at hRt
      have hm : (ws.filter fun w => !p w).length = i := by rw [← hRt, List.length_take]; omega
      have esub : subA (some (⟨b, 0, none⟩ : Addr)) (i : Int).toNat c 514 = some ⟨b, i * 514, none⟩ := by
        rw [Int.toNat_natCast, subA, if_neg (by omega)]; simp [Addr.add_row]
      refine ⟨⟨by omega, by omega, by omega, by omega⟩, ?_⟩
      rw [esub]
      refine svc_clear_tail app_wt.und app_wt.zero app_wt.zlen zc_one hb (by rw [hcs]; show i * 514 + (j - (i : Int).toNat) * 514 ≤ c * 514; rw [Int.toNat_natCast]; omega) fun h22 cells' s22 b22 z22 t22 u22 => ?_
      refine ⟨rfl, ⟨by omega, by omega, by omega⟩, ?_⟩
      rw [Int.toNat_natCast, hm]
      refine ⟨⟨hm, by omega, .inr ⟨b, cells', rfl, Nat.zero_le _, b22, by rw [z22, hcs], cells'.toList.drop (i * 514), ?_⟩⟩, u7.trans (u22.mono eb), rfl⟩
      have h1 : cells'.toList = cells'.toList.take (i * 514) ++ cells'.toList.drop (i * 514) := (List.take_append_drop _ _).symm
      have h2 : (R.flatMap WtE.enc ++ rest).take (i * 514) = (R.take i).flatMap WtE.enc := by
        have hl1 : ((R.take i).flatMap WtE.enc).length = i * 514 := by rw [flat_len, List.length_take]; show min i R.length * 514 = _; congr 1; omega
        have : R.flatMap WtE.enc = (R.take i).flatMap WtE.enc ++ (R.drop i).flatMap WtE.enc := by rw [← List.flatMap_append, List.take_append_drop]
        rw [this, List.append_assoc, ← hl1, List.take_left]
      rw [t22, hrest, h2, hRt] at h1
      exact h1
end Go.Proofs.YtkhinnchplahlaaGreatDoor
end

section
set_option linter.unusedVariables false
set_option linter.unusedSimpArgs false
set_option maxRecDepth 100000
namespace Go.Proofs.YtkhinnchplahlaaGreatDoor
open Go Go.Vc Go.Proofs Go.Dk

theorem Like.cut {F : Fs} {mc : List (Str × Int)} {mp mp' : List ((Str × Int) × Str)} (hl : Like F mc mp) (hF : SrtF F) (s : Str) (k : Nat) (i : Int) (hi : ((pgs F s).length : Int) ≤ i)
    (hm : ∀ q j, mGet mp' (q, j) = if q = s ∧ (k : Int) ≤ j ∧ j < i then none else mGet mp (q, j)) (v : Int) (hv : v = min ((pgs F s).length : Int) k) :
    Like (put s ((pgs F s).take k) F) (mPut mc s v) mp' := by
  refine ⟨fun q => ?_, fun q j => ?_, fun q j hj => ?_⟩
  · rw [mGet_put, get_put hF]
    by_cases e : s = q
    · subst e; simp [hv]; omega
    · rw [if_neg e, if_neg (Ne.symm e)]; exact hl.count q
  · rw [hm]
    have h0 := hl.page q j
    unfold pg at h0 ⊢
    rw [Dk.pgs_put hF]
    by_cases e : q = s
    · subst e
      rw [if_pos rfl]
      by_cases h1 : 0 ≤ j
      · rw [if_pos h1] at h0 ⊢
        by_cases h2 : (k : Int) ≤ j
        · have h3 : ((pgs F q).take k).getD j.toNat zp = zp := by
            rw [List.getD_eq_getElem?_getD, List.getElem?_eq_none (by simp; omega)]; rfl
          rw [h3]
          by_cases h4 : j < i
          · rw [if_pos ⟨rfl, h2, h4⟩]; rfl
          · rw [if_neg (by omega), h0, List.getD_eq_getElem?_getD, List.getElem?_eq_none (by omega)]; rfl
        · rw [if_neg (by omega), h0]
          simp only [List.getD_eq_getElem?_getD, List.getElem?_take]
          rw [if_pos (by omega)]
      · rw [if_neg (by omega), if_neg h1]; rw [if_neg h1] at h0; exact h0
    · rw [if_neg (fun h => e h.1), if_neg e]; exact h0
  · rw [hm] at hj
    rw [Dk.pgs_put hF]
    by_cases e : q = s
    · subst e
      rw [if_pos rfl]
      by_cases h2 : (k : Int) ≤ j ∧ j < i
      · rw [if_pos ⟨rfl, h2⟩] at hj; cases hj
      · rw [if_neg (fun h => h2 h.2)] at hj
        have := hl.there q j hj
        simp; omega
    · rw [if_neg (fun h => e h.1)] at hj
      rw [if_neg e]; exact hl.there q j hj

theorem cutS_spec {h : Heap} {c p : Nat} {F : Fs} {s : Str} {k : Nat} (hs : SideAt h c p F) (hF : SrtF F) (hne : c ≠ p) (hk : k < 9223372036854775808) (hlen : (pgs F s).length < 4611686018427387904) :
    HC Tryz.prog 122 #[.agg #[.map (some c), .map (some p)], .string s, .int .i64 k] h
      fun v h' => SideAt h' c p (put s ((pgs F s).take k) F) ∧ Upd (two c p) h h' ∧ v = .tuple #[] := by
  obtain ⟨mc, mp, hc, hp, hl⟩ := hs
  refine HC_of_vc (args := [.agg #[.map (some c), .map (some p)], .string s, .int .i64 k]) (base := 30) (cuts := []) (bigs := []) hm Tryz.func122 ?_
  rw [vcCutS]
  have kH := keep_push h (Obj.cells (Array.mk [Value.map (some c), Value.map (some p)]) 73 (0, 0))
  have b0 := push_at h (Obj.cells (Array.mk [Value.map (some c), Value.map (some p)]) 73 (0, 0))
  have lc := hc.lt
  have lp := hp.lt
  have hnp : (mKeys mp).Nodup := by obtain ⟨_, _, _, _, h0, _⟩ := hp; exact h0
  refine ⟨fun n2 h3 => ∃ (i : Nat) (mp' : List ((Str × Int) × Str)), n2 = i ∧ k ≤ i ∧ (i ≤ (pgs F s).length ∨ i = k) ∧ h3[h.size]? = some (Obj.cells (Array.mk [Value.map (some c), Value.map (some p)]) 73 (0, 0)) ∧ MapAt Mc h3 c mc ∧ MapAt Mp h3 p mp' ∧ (mKeys mp').Nodup ∧
      (∀ q j, mGet mp' (q, j) = if q = s ∧ (k : Int) ≤ j ∧ j < i then none else mGet mp (q, j)) ∧ Upd (two c p) h h3,
    fun n2 _ => (pgs F s).length - n2.toNat, ⟨k, mp, rfl, Nat.le_refl _, .inr rfl, b0, hc.keep kH, hp.keep kH, hnp, fun q j => by rw [if_neg (by omega)], kH.upd _⟩, ?_⟩
  rintro n2 h3 ⟨i, mp', rfl, hki, hil, b3, c3, p3, nd3, m3, u3⟩
  refine ⟨_, reads_load scMc (cell_cells0 b3 rfl), _, reads_count c3 hl s, br_intro (fun hlt => ?_) (fun hge => ?_)⟩
  · have hlt : i < (pgs F s).length := by simpa using hlt
    refine ⟨some p, reads_load scMp (cell_cells b3 rfl), svc_delete (M := Mp) (k := (s, (i : Int))) p3 fun h8 s8 u8 m8 => ⟨rfl, ?_⟩⟩
    rw [wrap_i64 (by omega) (by omega)]
    refine ⟨⟨i + 1, _, rfl, by omega, .inl hlt, u8.at b3 (by omega), c3.upd u8 hne, m8, mNodup_del nd3 _, fun q j => ?_, u3.trans (u8.mono fun b e => .inr e)⟩, by dsimp only; omega⟩
    rw [mGet_del nd3, m3]
    by_cases e : (s, (i : Int)) = (q, j)
    · cases e; rw [if_pos rfl, if_pos ⟨rfl, by omega, by omega⟩]
    · rw [if_neg e]
      by_cases e2 : q = s ∧ (k : Int) ≤ j ∧ j < i
      · rw [if_pos e2, if_pos ⟨e2.1, e2.2.1, by omega⟩]
      · rw [if_neg e2, if_neg fun h => e2 ⟨h.1, h.2.1, by
          have : j ≠ i := fun h0 => e (by rw [h0, h.1])
          omega⟩]
  · have hge : ((pgs F s).length : Int) ≤ i := by simpa using hge
    refine ⟨some c, reads_load scMc (cell_cells0 b3 rfl), some c, reads_load scMc (cell_cells0 b3 rfl), _, reads_count c3 hl s, _, reads_min, svc_mapUpdate (M := Mc) (k := s) c3 fun h14 s14 u14 m14 => ?_⟩
    refine ⟨⟨_, _, m14, p3.upd u14 (Ne.symm hne), hl.cut hF s k i hge m3 _ ?_⟩, u3.trans (u14.mono fun b e => .inl e), by first | rfl | trivial⟩
    split <;> omega

theorem Like.put0 {F : Fs} {mc : List (Str × Int)} {mp : List ((Str × Int) × Str)} (hl : Like F mc mp) (hF : SrtF F) (n : Str) (hn : pgs F n = []) : Like (put n [] F) (mPut mc n 0) mp := by
  have hp : ∀ m, pgs (put n [] F) m = pgs F m := fun m => by
    rw [Dk.pgs_put hF]; split
    · rename_i e; subst e; exact hn.symm
    · rfl
  refine ⟨fun m => ?_, fun m i => ?_, fun m i hi => ?_⟩
  · rw [mGet_put, get_put hF]
    by_cases e : n = m
    · subst e; simp
    · rw [if_neg e, if_neg (Ne.symm e)]; exact hl.count m
  · have := hl.page m i; unfold pg at this ⊢; rw [hp]; exact this
  · rw [hp]; exact hl.there m i hi
theorem put_put {F : Fs} (hF : SrtF F) (n : Str) (a b : List Str) : put n a (put n b F) = put n a F :=
  fs_ext (srt_put (srt_put hF _ _) _ _) (srt_put hF _ _) fun q => by rw [get_put (srt_put hF _ _), get_put hF, get_put hF]; split <;> rfl
theorem setP_take {l : List Str} {k : Nat} (hk : k < l.length) : setP (l.take k) k (l[k]) = l.take (k + 1) := by
  unfold setP
  have h1 : (l.take k).length = k := by simp; omega
  rw [h1, show k + 1 - k = 1 by omega, List.take_succ_eq_append_getElem hk]
  show (l.take k ++ [zp]).set k l[k] = _
  rw [List.set_append_right _ _ (by omega), h1, Nat.sub_self]; rfl

/-- a box that holds a text. -/
def boxS (q : Nat) (s : Str) (h : Heap) : Prop := h[q]? = some (.cells (Array.mk [Value.string s]) 9 (0, 0))
theorem pred_settle (q : Nat) (s : Str) : PredC 163 (Array.mk [.pointer (some ⟨q, 0, none⟩)]) (fun w => decide (w.n = s)) (boxS q s) := by
  refine ⟨by kernel_rfl, fun h w hx => ?_⟩
  have e : (Array.mk [Value.agg (WtE.enc w).toArray] ++ Array.mk [Value.pointer (some ⟨q, 0, none⟩)]) = [Value.agg (WtE.enc w).toArray, Value.pointer (some ⟨q, 0, none⟩)].toArray := by simp
  rw [e]
  refine HC_of_vc (args := [.agg (WtE.enc w).toArray, .pointer (some ⟨q, 0, none⟩)]) (base := 9) (cuts := []) (bigs := []) hm Tryz.func163 ?_
  rw [vcSettle1]
  have kp := keep_push h (.cells (WtE.enc w).toArray 128 (0, 0))
  refine ⟨w.n, reads_load scS (cell_cells0 (push_at h (.cells (WtE.enc w).toArray 128 (0, 0))) (by simp [WtE])), s, reads_load scS (cell_cells0 (kp.at hx (at_lt hx)) rfl), kp, ?_⟩
  rw [beq_dec']

theorem drop0 (ws : List Wt) (s : Str) : drop ws s 0 = ws.filter fun w => !decide (w.n = s) := by
  unfold drop
  congr 1; funext w
  have : decide ((0 : Int) ≤ (w.i : Int)) = true := by simp
  rw [this, Bool.and_true]
theorem ok_settle {x : D} (h : Ok x) (s : Str) : Ok { x with safe := put s (pgs x.now s) x.safe, waits := drop x.waits s 0 } := by
  refine ⟨h.now, srt_put h.safe _ _, h.room, h.tot, fun n => ?_, fun w hw => h.waits w (List.mem_filter.1 hw).1, h.pnow, fun n p hp => ?_, h.fuse, h.keep⟩
  · show (pgs (put s (pgs x.now s) x.safe) n).length ≤ _
    rw [Dk.pgs_put h.safe]; split
    · rename_i e; subst e; exact Nat.le_refl _
    · exact h.fewer n
  · have hp : p ∈ pgs (put s (pgs x.now s) x.safe) n := hp
    rw [Dk.pgs_put h.safe] at hp; split at hp
    · exact h.pnow _ _ hp
    · exact h.psafe _ _ hp
theorem len_now {x : D} (h : Ok x) (s : Str) : (pgs x.now s).length ≤ 4096 := by
  have h3 := tot_put h.now s []
  have h1 := h.tot
  have h2 := h.room
  simp at h3
  omega

end Go.Proofs.YtkhinnchplahlaaGreatDoor
end

section
set_option linter.unusedVariables false
set_option linter.unusedSimpArgs false
set_option maxRecDepth 100000
namespace Go.Proofs.YtkhinnchplahlaaGreatDoor
open Go Go.Vc Go.Proofs Go.Dk

theorem settle_spec {h : Heap} {d : Nat} {x : D} {O : Nat → Prop} {s : Str} (hd : DiskAt h d x O) (hwn : x.waits.length ≤ 1073741824) :
    HC Tryz.prog 131 #[.pointer (some ⟨d, 0, none⟩), .string s] h
      fun v h' => DiskAt h' d { x with safe := put s (pgs x.now s) x.safe, waits := drop x.waits s 0 } O ∧ Upd O h h' ∧ v = .tuple #[] := by
  obtain ⟨hO, c1, p1, c2, p2, A, n, c, hp, hb⟩ := hd
  have hl4 := len_now hp.ok s
  refine HC_of_vc (args := [.pointer (some ⟨d, 0, none⟩), .string s]) (base := 54) (cuts := []) (bigs := []) hm Tryz.func131 ?_
  rw [vcSettle]
  have k0 := keep_push h (Obj.cells (Array.mk [Value.string s]) 9 (0, 0))
  have x0 : boxS h.size s (h.push (Obj.cells (Array.mk [Value.string s]) 9 (0, 0))) := push_at _ _
  have z0 : (h.push (Obj.cells (Array.mk [Value.string s]) 9 (0, 0))).size = h.size + 1 := by simp
  generalize (h.push (Obj.cells (Array.mk [Value.string s]) 9 (0, 0))) = H at k0 x0 z0
  have hpH := hp.upd (k0.upd fun _ => False) fun _ _ h => h
  have hblk : ∀ q, blks d c1 p1 c2 p2 A q → q < h.size := fun q hq => hp.lt hq
  have nd := hp.nd
  simp at nd
  have u0 : Upd (blks d c1 p1 c2 p2 A) h H := k0.upd _
  refine ⟨_, rfl, _, _, hpH.side2, _, reads_load scS (cell_cells0 x0 rfl), (cutS_spec (k := 0) hpH.safe hpH.ok.safe (by omega) (by omega) (by have := hp.ok.fewer s; omega)).mono ?_⟩
  rintro v h5 ⟨s5, u5, rfl⟩
  rw [List.take_zero] at s5
  have off2 : ∀ {q}, two c2 p2 q → q < h.size := fun h => hblk _ (two_blks2 _ h)
  have x5 : boxS h.size s h5 := u5.at x0 fun h => by have := off2 h; omega
  have ok5 : Ok { x with safe := put s [] x.safe } := ok_safe hp.ok (srt_put hp.ok.safe _ _) (fun q => by
      rw [Dk.pgs_put hp.ok.safe]; split
      · simp
      · exact hp.ok.fewer q) fun q p hq => by
      rw [Dk.pgs_put hp.ok.safe] at hq; split at hq
      · cases hq
      · exact hp.ok.psafe _ _ hq
  have hp5 := hpH.safe_turn u5 s5 ok5
  obtain ⟨mc5, mp5, hc5, hm5, hl5⟩ := hp5.safe
  refine ⟨rfl, _, rfl, some c2, reads_load scMc (hp5.rd rfl), _, reads_load scS (cell_cells0 x5 rfl), svc_mapUpdate (M := Mc) (k := s) (v := 0) hc5 fun h10 s10 u10 m10 => ?_⟩
  have u10' : Upd (two c2 p2) h5 h10 := u10.mono fun b e => .inl e
  have x10 : boxS h.size s h10 := u10'.at x5 fun h => by have := off2 h; omega
  have s10 : SideAt h10 c2 p2 (put s [] x.safe) := by
    have h0 := hl5.put0 ok5.safe s (by show pgs (put s [] x.safe) s = []; rw [Dk.pgs_put hp.ok.safe, if_pos rfl])
    have e : put s [] (put s [] x.safe) = put s [] x.safe := put_put hp.ok.safe _ _ _
    have h0 : Like (put s [] (put s [] x.safe)) (mPut mc5 s 0) mp5 := h0
    rw [e] at h0
    exact ⟨_, _, m10, hm5.upd u10 (by omega), h0⟩
  have hp10 := hp5.safe_turn u10' s10 ok5
  obtain ⟨mc1, mp1, hc1, hm1, hl1⟩ := hp10.now
  refine ⟨_, rfl, some c1, reads_load scMc (cell_cells0 hp10.box rfl), _, reads_load scS (cell_cells0 x10 rfl), _, reads_count hc1 hl1 s, ?_⟩
  have okk : ∀ k, Ok { x with safe := put s ((pgs x.now s).take k) x.safe } := fun k => ok_safe hp.ok (srt_put hp.ok.safe _ _) (fun q => by
      rw [Dk.pgs_put hp.ok.safe]; split
      · rename_i e; subst e; simp; omega
      · exact hp.ok.fewer q) fun q p hq => by
      rw [Dk.pgs_put hp.ok.safe] at hq; split at hq
      · rename_i e; subst e; exact hp.ok.pnow _ _ (List.mem_of_mem_take hq)
      · exact hp.ok.psafe _ _ hq
  have ux : Upd (blks d c1 p1 c2 p2 A) h h10 := u0.trans ((u5.mono two_blks2).trans (u10'.mono two_blks2))
  refine ⟨fun n17 h18 => ∃ k : Nat, n17 = k ∧ k ≤ (pgs x.now s).length ∧ DiskP h18 d c1 p1 c2 p2 A n c { x with safe := put s ((pgs x.now s).take k) x.safe } ∧ boxS h.size s h18 ∧ Upd (blks d c1 p1 c2 p2 A) h h18,
    fun n17 _ => (pgs x.now s).length - n17.toNat, ⟨0, rfl, by omega, by rw [List.take_zero]; exact hp10, x10, ux⟩, ?_⟩
  rintro n17 h18 ⟨k, rfl, hk, hp18, x18, u18⟩
  refine br_intro (fun hlt => ?_) (fun hge => ?_)
  · have hlt : k < (pgs x.now s).length := by have : (k : Int) < (pgs x.now s).length := by simpa using hlt
                                              omega
    obtain ⟨mc2, mp2, hc2, hm2, hl2⟩ := hp18.now
    have hpg : pg x.now s (k : Int) = (pgs x.now s)[k] := by
      unfold pg; rw [if_pos (by omega), Int.toNat_natCast, List.getD_eq_getElem?_getD, List.getElem?_eq_getElem hlt]; rfl
    have hrp := reads_page hm2 hl2 s (k : Int)
    refine ⟨_, rfl, _, _, hp18.side2, _, reads_load scS (cell_cells0 x18 rfl), _, rfl, some p1, reads_load scMp (hp18.rd rfl), _, reads_load scS (cell_cells0 x18 rfl), _, hrp, (set_spec hp18.safe hp18.ok.safe (by omega) (by omega)).mono ?_⟩
    rintro v h28 ⟨s28, u28, rfl⟩
    have x28 : boxS h.size s h28 := u28.at x18 fun h => by have := off2 h; omega
    have e1 : pgs (put s ((pgs x.now s).take k) x.safe) s = (pgs x.now s).take k := by rw [Dk.pgs_put hp.ok.safe, if_pos rfl]
    have e2 : put s (setP (pgs (put s ((pgs x.now s).take k) x.safe) s) k (pg x.now s (k : Int))) (put s ((pgs x.now s).take k) x.safe) = put s ((pgs x.now s).take (k + 1)) x.safe := by
      rw [e1, hpg, setP_take hlt, put_put hp.ok.safe]
    have s28 : SideAt h28 c2 p2 (put s ((pgs x.now s).take (k + 1)) x.safe) := by rw [← e2]; exact s28
    rw [wrap_i64 (by omega) (by omega)]
    exact ⟨rfl, ⟨k + 1, rfl, hlt, hp18.safe_turn u28 s28 (okk (k + 1)), x28, u18.trans (u28.mono two_blks2)⟩, by dsimp only; omega⟩
  · have hk' : k = (pgs x.now s).length := by have : ¬ (k : Int) < (pgs x.now s).length := by simpa using hge
                                              omega
    rw [hk', List.take_length] at hp18
    have hw18 := hp18.waits
    refine ⟨_, rfl, A, n, c, reads_load scWs (hp18.rd rfl), (delF_spec (X := boxS h.size s) (pred_settle h.size s) (fun a b ha k => k.at ha (at_lt ha)) (fun a b ha u => u.at ha fun hq => by have := hblk h.size (.inr (.inr (.inr (.inr (.inr hq))))); omega) hw18 x18 (by have := hw18.1; have : x.waits.length = n := this; omega)).mono ?_⟩
    rintro v h34 ⟨o34, u34, rfl⟩
    have nw := fun q hq => hp18.ne_waits (b := q) hq
    have nm := hp18.ne_map
    have b34 := u34.at hp18.box fun h => (nw _ h).1 rfl
    refine ⟨_, _, _, rfl, _, rfl, svc_store_box szWs b34 (by simp [diskC]) rfl (one_slice _ _ _) fun h40 s40 b40 u40 => ?_⟩
    have hOd := hb d (.inl rfl)
    have uall : Upd (blks d c1 p1 c2 p2 A) h h40 := u18.trans ((u34.mono fun q h => .inr (.inr (.inr (.inr (.inr h))))).trans (u40.mono fun q e => .inl e))
    refine ⟨⟨fun q h0 => Nat.lt_of_lt_of_le (hO q h0) uall.size, c1, p1, c2, p2, A, (x.waits.filter fun w => !decide (w.n = s)).length, c, ⟨?_, ?_, ?_, ?_, hp.nd, ok_settle hp.ok s⟩, hb⟩, uall.mono hb, by first | rfl | trivial⟩
    · rw [b40]; simp [diskC]
    · exact (hp18.now.upd u34 (fun h => (nw _ h).2.1 rfl) (fun h => (nw _ h).2.2.1 rfl)).upd u40 (Ne.symm nm.1) (Ne.symm nm.2.1)
    · exact (hp18.safe.upd u34 (fun h => (nw _ h).2.2.2.1 rfl) (fun h => (nw _ h).2.2.2.2 rfl)).upd u40 (Ne.symm nm.2.2.1) (Ne.symm nm.2.2.2)
    · show Vc.Own _ _ _ _ _ _ _ (drop x.waits s 0)
      rw [drop0]
      exact o34.upd u40 fun q hq => (nw _ hq).1

end Go.Proofs.YtkhinnchplahlaaGreatDoor
end

section
set_option linter.unusedVariables false
set_option linter.unusedSimpArgs false
set_option maxRecDepth 100000
namespace Go.Proofs.YtkhinnchplahlaaGreatDoor
open Go Go.Vc Go.Proofs Go.Dk

/-- what is done to a file that is there: the call, given what the function value does. -/
theorem does_spec {f : Nat} {cap : Array Value} (hf : fnOk Tryz.prog f = true) {h : Heap} {d : Nat} {x : D} {O : Nat → Prop} {s : Str} {Q : Value → Heap → Prop} (hd : DiskAt h d x O) (hwn : x.waits.length ≤ 1073741824)
    (bad : ∀ h' O' e, (may x s).1 = e → e ≠ 0 → DiskAt h' d (may x s).2 O' → (∀ q, O' q → O q ∨ h.size ≤ q) → Upd O h h' → Q (.int .i64 e) h')
    (good : ∀ h1 c1 p1 c2 p2 A n c, may x s = (0, act x) → DiskP h1 d c1 p1 c2 p2 A n c (act x) → (∀ b, blks d c1 p1 c2 p2 A b → O b) → Upd O h h1 →
      HC Tryz.prog f (Array.mk [.agg (Array.mk [.map (some c1), .map (some p1)])] ++ cap) h1 fun v h' => v = .tuple #[] ∧ Q (.int .i64 0) h') :
    HC Tryz.prog 123 #[.pointer (some ⟨d, 0, none⟩), .string s, .func (.func f) #[] cap] h Q := by
  have hd0 := hd
  refine HC_of_vc (args := [.pointer (some ⟨d, 0, none⟩), .string s, .func (.func f) #[] cap]) (base := 31) (cuts := []) (bigs := []) hm Tryz.func123 ?_
  rw [vcDoes]
  refine (ready_spec hd).mono ?_
  rintro v h1 ⟨rfl, rfl⟩
  refine ⟨_, rfl, br_intro (fun e => ?_) (fun e => ?_)⟩
  · have hdn : x.down = true := by cases hdn : x.down <;> simp [hdn] at e ⊢
    have hm1 : may x s = (8, x) := by simp [may, hdn]
    rw [hdn]
    refine bad h1 O 8 (by rw [hm1]) (by decide) (by rw [hm1]; exact hd0) (fun q h => .inl h) (Upd.refl _ _)
  have hdn : x.down = false := by cases hdn : x.down <;> simp [hdn] at e ⊢
  refine (has_spec hd0 s).mono ?_
  rintro v h4 ⟨rfl, rfl⟩
  have hh : has x s = (mGet x.now s).isSome := by simp [has, hdn]
  rw [hh]
  refine ⟨_, rfl, br_intro (fun e => ?_) (fun e => ?_)⟩
  · have hn : mGet x.now s = none := by cases hg : mGet x.now s <;> simp [hg] at e ⊢
    have hm1 : may x s = (5, x) := by simp [may, hdn, hn]
    exact bad h4 O 5 (by rw [hm1]) (by decide) (by rw [hm1]; exact hd0) (fun q h => .inl h) (Upd.refl _ _)
  obtain ⟨l, hn⟩ : ∃ l, mGet x.now s = some l := by cases hg : mGet x.now s <;> simp [hg] at e ⊢
  have hm0 : may x s = ended x := by simp [may, hdn, hn]
  refine (act_spec hd0).mono ?_
  rintro v h7 ⟨hd7, u7, rfl⟩
  have hd7' := hd7
  obtain ⟨hO7, c1, p1, c2, p2, A, n, c, hp7, hb7⟩ := hd7
  refine ⟨_, rfl, br_intro (fun hg => ?_) (fun hg => ?_)⟩
  · have hm1 : may x s = (8, off (act x).keep (act x)) := by rw [hm0, ended, if_pos hg]
    refine ⟨_, rfl, _, reads_load scU (hp7.rd rfl), (off_spec hd7' hp7.ok.keep hwn).mono ?_⟩
    rintro v h12 ⟨O', hd12, sub, u12, rfl⟩
    exact ⟨rfl, bad h12 O' 8 (by rw [hm1]) (by decide) (by rw [hm1]; exact hd12) (fun q h => (sub q h).imp id fun h => Nat.le_trans u7.size h) (u7.trans u12)⟩
  · have hm1 : may x s = (0, act x) := by rw [hm0, ended, if_neg (by simp [hg])]
    exact ⟨_, rfl, _, _, hp7.side1, br_intro (fun _ => (good h7 c1 p1 c2 p2 A n c hm1 hp7 hb7 u7).mono fun v h' h => h) (fun e => by rw [hf] at e; cases e)⟩

theorem sync1_spec (h : Heap) (c p : Nat) : HC Tryz.prog 130 (Array.mk [.agg (Array.mk [.map (some c), .map (some p)])] ++ Array.mk []) h fun v h' => Keep h.size h h' ∧ v = .tuple #[] := by
  have e : (Array.mk [Value.agg (Array.mk [.map (some c), .map (some p)])] ++ Array.mk []) = [Value.agg (Array.mk [.map (some c), .map (some p)])].toArray := by simp
  rw [e]
  refine HC_of_vc (args := [.agg (Array.mk [.map (some c), .map (some p)])]) (base := 2) (cuts := []) (bigs := []) hm Tryz.func130 ?_
  rw [vcSync1]
  exact ⟨keep_push _ _, rfl⟩

theorem DiskP.at {h : Heap} {d c1 p1 c2 p2 : Nat} {A : Option Addr} {n c : Nat} {x : D} {O : Nat → Prop} (hp : DiskP h d c1 p1 c2 p2 A n c x) (hb : ∀ b, blks d c1 p1 c2 p2 A b → O b) (hO : ∀ b, O b → b < h.size) : DiskAt h d x O :=
  ⟨hO, c1, p1, c2, p2, A, n, c, hp, hb⟩

theorem sync_spec {h : Heap} {d : Nat} {x : D} {O : Nat → Prop} {s : Str} (hd : DiskAt h d x O) (hwn : x.waits.length ≤ 1073741824) :
    HC Tryz.prog 83 #[.pointer (some ⟨d, 0, none⟩), .string s] h
      fun v h' => ∃ O', DiskAt h' d (sync x s).2 O' ∧ (∀ q, O' q → O q ∨ h.size ≤ q) ∧ Upd O h h' ∧ v = .int .i64 (sync x s).1 := by
  refine HC_of_vc (args := [.pointer (some ⟨d, 0, none⟩), .string s]) (base := 15) (cuts := []) (bigs := []) hm Tryz.func83 ?_
  rw [vcSync]
  refine does_spec (by kernel_rfl) hd hwn (fun h' O' e he h0 hd' sub u => ?_) fun h1 c1 p1 c2 p2 A n c hm1 hp hb u1 => (sync1_spec h1 c1 p1).mono ?_
  · have hs : sync x s = may x s := by
      unfold sync
      cases hm0 : may x s with
      | mk e' d1 =>
        rw [hm0] at he
        simp only at he ⊢
        rw [if_neg (by rw [he]; exact h0)]
    refine ⟨_, rfl, br_intro (fun h1 => absurd (by simpa using h1) h0) fun _ => ⟨O', ?_, sub, u, ?_⟩⟩
    · rw [hs]; exact hd'
    · rw [hs, he]
  · rintro v h2 ⟨k2, rfl⟩
    have hs : sync x s = (0, { act x with safe := put s (pgs x.now s) x.safe, waits := drop x.waits s 0 }) := by
      unfold sync; rw [hm1]; rfl
    have hO : ∀ b, O b → b < h2.size := fun b h0 => Nat.lt_of_lt_of_le (Nat.lt_of_lt_of_le (hd.1 b h0) u1.size) k2.size
    have hd2 : DiskAt h2 d (act x) O := (hp.upd (k2.upd fun _ => False) fun _ _ h => h).at hb hO
    refine ⟨rfl, _, rfl, br_intro (fun _ => (settle_spec hd2 hwn).mono ?_) (fun e => by cases e)⟩
    rintro v h4 ⟨hd4, u4, rfl⟩
    rw [hs]
    exact ⟨rfl, O, hd4, fun q h => .inl h, u1.trans ((k2.upd O).trans u4), rfl⟩

end Go.Proofs.YtkhinnchplahlaaGreatDoor
end

section
set_option linter.unusedSimpArgs false
set_option linter.unusedVariables false
namespace Go.Dk
open Go Go.Vc

theorem mem_drop {ws : List Wt} {s : Str} {k : Int} {w : Wt} (h : w ∈ drop ws s k) : w ∈ ws ∧ ¬ (w.n = s ∧ k ≤ (w.i : Int)) := by
  unfold drop at h
  obtain ⟨h1, h2⟩ := List.mem_filter.1 h
  refine ⟨h1, fun h3 => ?_⟩
  rw [decide_eq_true h3.1, decide_eq_true h3.2] at h2
  cases h2
theorem ok_remove {x : D} (h : Ok x) (s : Str) : Ok { x with now := del s x.now, safe := del s x.safe, waits := drop x.waits s 0 } := by
  refine ⟨srt_del h.now _, srt_del h.safe _, h.room, ?_, fun n => ?_, fun w hw => ?_, fun n p hp => ?_, fun n p hp => ?_, h.fuse, h.keep⟩
  · have h1 := tot_del h.now s
    have h2 := h.tot
    show Dk.tot (del s x.now) ≤ x.room
    omega
  · show (pgs (del s x.safe) n).length ≤ (pgs (del s x.now) n).length
    rw [pgs_del, pgs_del]; split
    · exact Nat.le_refl _
    · exact h.fewer n
  · obtain ⟨h1, h2⟩ := mem_drop hw
    have h3 := h.waits w h1
    have h4 : w.n ≠ s := fun e => h2 ⟨e, by omega⟩
    show w.i < (pgs (del s x.now) w.n).length ∧ _
    rw [pgs_del, if_neg h4]; exact h3
  · have hp : p ∈ pgs (del s x.now) n := hp
    rw [pgs_del] at hp; split at hp
    · cases hp
    · exact h.pnow _ _ hp
  · have hp : p ∈ pgs (del s x.safe) n := hp
    rw [pgs_del] at hp; split at hp
    · cases hp
    · exact h.psafe _ _ hp
theorem del_put {F : Fs} (hF : SrtF F) (n : Str) (a : List Str) : del n (put n a F) = del n F :=
  fs_ext (srt_del (srt_put hF _ _) _) (srt_del hF _) fun q => by rw [get_del, get_del, get_put hF]; split <;> rfl
end Go.Dk
end

section
set_option linter.unusedVariables false
set_option linter.unusedSimpArgs false
set_option maxRecDepth 100000
namespace Go.Proofs.YtkhinnchplahlaaGreatDoor
open Go Go.Vc Go.Proofs Go.Dk

theorem Like.del {F : Fs} {mc : List (Str × Int)} {mp : List ((Str × Int) × Str)} (hl : Like F mc mp) (hn : (mKeys mc).Nodup) (s : Str) (he : pgs F s = []) : Like (del s F) (mDel mc s) mp := by
  have hp : ∀ m, pgs (Dk.del s F) m = pgs F m := fun m => by
    rw [Dk.pgs_del]; split
    · rename_i e; subst e; exact he.symm
    · rfl
  refine ⟨fun m => ?_, fun m i => ?_, fun m i hi => ?_⟩
  · rw [mGet_del hn, get_del]
    by_cases e : s = m
    · subst e; simp
    · rw [if_neg e, if_neg (Ne.symm e)]; exact hl.count m
  · have := hl.page m i; unfold pg at this ⊢; rw [hp]; exact this
  · rw [hp]; exact hl.there m i hi

theorem rem1_spec {h : Heap} {c p q : Nat} {F : Fs} {s : Str} (hs : SideAt h c p F) (hF : SrtF F) (hne : c ≠ p) (hlen : (pgs F s).length < 4611686018427387904) (hx : boxS q s h) (hq : q ≠ c ∧ q ≠ p) :
    HC Tryz.prog 121 #[.agg #[.map (some c), .map (some p)], .pointer (some ⟨q, 0, none⟩)] h
      fun v h' => SideAt h' c p (del s F) ∧ Upd (two c p) h h' ∧ v = .tuple #[] := by
  refine HC_of_vc (args := [.agg #[.map (some c), .map (some p)], .pointer (some ⟨q, 0, none⟩)]) (base := 9) (cuts := []) (bigs := []) hm Tryz.func121 ?_
  rw [vcRemove1]
  have kH := keep_push h (Obj.cells (Array.mk [Value.map (some c), Value.map (some p)]) 73 (0, 0))
  have b0 := push_at h (Obj.cells (Array.mk [Value.map (some c), Value.map (some p)]) 73 (0, 0))
  have hl := hs.lt
  have hs1 := hs.upd (kH.upd fun _ => False) (fun h => h) (fun h => h)
  have x1 := kH.at hx (at_lt hx)
  refine ⟨some c, some p, reads_load_agg (cs := [Value.map (some c), Value.map (some p)]) agSide rfl (cells_all b0), s, reads_load scS (cell_cells0 x1 rfl), (cutS_spec (k := 0) hs1 hF hne (by omega) hlen).mono ?_⟩
  rintro v h4 ⟨s4, u4, rfl⟩
  rw [List.take_zero] at s4
  have b4 := u4.at b0 (by rintro (e | e) <;> omega)
  have x4 := u4.at x1 (by rintro (e | e) <;> omega)
  obtain ⟨mc, mp, hc, hp, hl4⟩ := s4
  have hnd : (mKeys mc).Nodup := by obtain ⟨_, _, _, _, h0, _⟩ := hc; exact h0
  refine ⟨rfl, some c, reads_load scMc (cell_cells0 b4 rfl), s, reads_load scS (cell_cells0 x4 rfl), svc_delete (M := Mc) (k := s) hc fun h8 s8 u8 m8 => ⟨rfl, ⟨_, _, m8, hp.upd u8 (Ne.symm hne), ?_⟩, (kH.upd _).trans (u4.trans (u8.mono fun b e => .inl e)), by first | rfl | trivial⟩⟩
  have := hl4.del hnd s (by rw [Dk.pgs_put hF, if_pos rfl])
  rw [del_put hF] at this
  exact this

theorem box_side2 {h : Heap} {d c1 p1 c2 p2 : Nat} {A : Option Addr} {n c : Nat} {x : D} (hb : h[d]? = some (.cells (diskC c1 p1 c2 p2 A n c x).toArray 77 (0, 0))) :
    Reads Tryz.prog (Instr.loadAt 73 (.pointer (some ((⟨d, 0, none⟩ : Addr).add 2)))) h (.agg (Array.mk [.map (some c2), .map (some p2)])) :=
  reads_load_agg (cs := [.map (some c2), .map (some p2)]) agSide rfl (cells_part hb fun j v hj => by
    match j, hj with
    | 0, hj => simpa [diskC] using hj
    | 1, hj => simpa [diskC] using hj
    | j + 2, hj => simp at hj)

theorem pred_remove (q : Nat) (s : Str) : PredC 125 (Array.mk [.pointer (some ⟨q, 0, none⟩)]) (fun w => decide (w.n = s)) (boxS q s) := by
  refine ⟨by kernel_rfl, fun h w hx => ?_⟩
  have e : (Array.mk [Value.agg (WtE.enc w).toArray] ++ Array.mk [Value.pointer (some ⟨q, 0, none⟩)]) = [Value.agg (WtE.enc w).toArray, Value.pointer (some ⟨q, 0, none⟩)].toArray := by simp
  rw [e]
  refine HC_of_vc (args := [.agg (WtE.enc w).toArray, .pointer (some ⟨q, 0, none⟩)]) (base := 9) (cuts := []) (bigs := []) hm Tryz.func125 ?_
  rw [vcRemove2]
  have kp := keep_push h (.cells (WtE.enc w).toArray 128 (0, 0))
  refine ⟨w.n, reads_load scS (cell_cells0 (push_at h (.cells (WtE.enc w).toArray 128 (0, 0))) (by simp [WtE])), s, reads_load scS (cell_cells0 (kp.at hx (at_lt hx)) rfl), kp, ?_⟩
  rw [beq_dec']

theorem two_ne {d c1 p1 c2 p2 : Nat} {A : Option Addr} {h : Heap} {n c : Nat} {x : D} (hp : DiskP h d c1 p1 c2 p2 A n c x) :
    (¬ two c1 p1 d ∧ ¬ two c1 p1 c2 ∧ ¬ two c1 p1 p2 ∧ ∀ b, blk A b → ¬ two c1 p1 b) ∧ (¬ two c2 p2 d ∧ ¬ two c2 p2 c1 ∧ ¬ two c2 p2 p1 ∧ ∀ b, blk A b → ¬ two c2 p2 b) := by
  obtain ⟨q1, q2, q3, q4⟩ := hp.ne_map
  have nd := hp.nd
  simp at nd
  have nw := fun b hb => hp.ne_waits (b := b) hb
  refine ⟨⟨?_, ?_, ?_, fun b hb => ?_⟩, ?_, ?_, ?_, fun b hb => ?_⟩
  all_goals first
    | (have := nw b hb; rintro (e | e) <;> omega)
    | (rintro (e | e) <;> omega)

theorem remove_spec {h : Heap} {d : Nat} {x : D} {O : Nat → Prop} {s : Str} (hd : DiskAt h d x O) (hwn : x.waits.length ≤ 1073741824) :
    HC Tryz.prog 75 #[.pointer (some ⟨d, 0, none⟩), .string s] h
      fun v h' => ∃ O', DiskAt h' d (remove x s).2 O' ∧ (∀ q, O' q → O q ∨ h.size ≤ q) ∧ Upd O h h' ∧ v = .int .i64 (remove x s).1 := by
  refine HC_of_vc (args := [.pointer (some ⟨d, 0, none⟩), .string s]) (base := 30) (cuts := []) (bigs := []) hm Tryz.func75 ?_
  rw [vcRemove]
  have k0 := keep_push h (Obj.cells (Array.mk [Value.string s]) 9 (0, 0))
  have x0 : boxS h.size s (h.push (Obj.cells (Array.mk [Value.string s]) 9 (0, 0))) := push_at _ _
  generalize (h.push (Obj.cells (Array.mk [Value.string s]) 9 (0, 0))) = H at k0 x0
  have hO := hd.1
  have zH := k0.size
  refine ⟨s, reads_load scS (cell_cells0 x0 rfl), does_spec (by kernel_rfl) (hd.keep k0) hwn (fun h' O' e he h0 hd' sub u => ?_) fun h1 c1 p1 c2 p2 A n c hm1 hp hb u1 => ?_⟩
  · have hs : remove x s = may x s := by
      unfold remove
      cases hm0 : may x s with
      | mk e' d1 =>
        rw [hm0] at he
        simp only at he ⊢
        rw [if_neg (by rw [he]; exact h0)]
    refine ⟨_, rfl, br_intro (fun h1 => absurd (by simpa using h1) h0) fun _ => ⟨O', ?_, fun q h => (sub q h).imp id fun h => by omega, (k0.upd O).trans u, ?_⟩⟩
    · rw [hs]; exact hd'
    · rw [hs, he]
  · have hs : remove x s = (0, { act x with now := del s x.now, safe := del s x.safe, waits := drop x.waits s 0 }) := by
      unfold remove; rw [hm1]; rfl
    have e : (Array.mk [Value.agg (Array.mk [.map (some c1), .map (some p1)])] ++ Array.mk [Value.pointer (some ⟨h.size, 0, none⟩)]) = #[Value.agg #[.map (some c1), .map (some p1)], Value.pointer (some ⟨h.size, 0, none⟩)] := by simp
    rw [e]
    have nd := hp.nd
    simp at nd
    have hlt : ∀ b, blks d c1 p1 c2 p2 A b → b < h.size := fun b h0 => hO b (hb b h0)
    have x1 : boxS h.size s h1 := u1.at x0 fun h0 => by have := hO _ h0; omega
    have l1 := len_now hp.ok s
    have l2 := hp.ok.fewer s
    obtain ⟨⟨t1, t2, t3, t4⟩, t5, t6, t7, t8⟩ := two_ne hp
    refine (rem1_spec hp.now hp.ok.now (by omega) (by omega) x1 ⟨fun e => by have := hlt c1 (.inr (.inl rfl)); omega, fun e => by have := hlt p1 (.inr (.inr (.inl rfl))); omega⟩).mono ?_
    rintro v h2 ⟨s2, u2, rfl⟩
    have b2 := u2.at hp.box t1
    have x2 := u2.at x1 (fun h0 => by have := hlt _ (two_blks1 _ h0); omega)
    refine ⟨rfl, _, rfl, br_intro (fun _ => ?_) (fun e => by cases e)⟩
    refine ⟨_, rfl, _, _, box_side2 b2, (rem1_spec (hp.safe.upd u2 t2 t3) hp.ok.safe (by omega) (by omega) x2 ⟨fun e => by have := hlt c2 (.inr (.inr (.inr (.inl rfl)))); omega, fun e => by have := hlt p2 (.inr (.inr (.inr (.inr (.inl rfl))))); omega⟩).mono ?_⟩
    rintro v h8 ⟨s8, u8, rfl⟩
    have b8 := u8.at b2 t5
    have x8 := u8.at x2 (fun h0 => by have := hlt _ (two_blks2 _ h0); omega)
    have w8 := (hp.waits.upd u2 t4).upd u8 t8
    have nw := fun q hq => hp.ne_waits (b := q) hq
    have nm := hp.ne_map
    refine ⟨rfl, _, rfl, A, n, c, reads_load scWs (cell_cells b8 (by simp [diskC])), (delF_spec (X := boxS h.size s) (pred_remove h.size s) (fun a b ha k => k.at ha (at_lt ha)) (fun a b ha u => u.at ha fun hq => by have := hlt h.size (.inr (.inr (.inr (.inr (.inr hq))))); omega) w8 x8 (by have := hp.waits.1; have : x.waits.length = n := this; omega)).mono ?_⟩
    rintro v h14 ⟨o14, u14, rfl⟩
    have b14 := u14.at b8 fun h0 => (nw _ h0).1 rfl
    refine ⟨_, _, _, rfl, _, rfl, svc_store_box szWs b14 (by simp [diskC]) rfl (one_slice _ _ _) fun h20 s20 b20 u20 => ?_⟩
    have ub : Upd (blks d c1 p1 c2 p2 A) h1 h20 := (u2.mono two_blks1).trans ((u8.mono two_blks2).trans ((u14.mono fun q h => .inr (.inr (.inr (.inr (.inr h))))).trans (u20.mono fun q e => .inl e)))
    have uall : Upd O h h20 := (k0.upd O).trans (u1.trans (ub.mono hb))
    rw [hs]
    refine ⟨O, ⟨fun q h0 => Nat.lt_of_lt_of_le (hO q h0) uall.size, c1, p1, c2, p2, A, (x.waits.filter fun w => !decide (w.n = s)).length, c, ⟨?_, ?_, ?_, ?_, hp.nd, ok_remove hp.ok s⟩, hb⟩, fun q h => .inl h, uall, rfl⟩
    · rw [b20]; simp [diskC, act]
    · exact ((s2.upd u8 t6 t7).upd u14 (fun h => (nw _ h).2.1 rfl) (fun h => (nw _ h).2.2.1 rfl)).upd u20 (Ne.symm nm.1) (Ne.symm nm.2.1)
    · exact (s8.upd u14 (fun h => (nw _ h).2.2.2.1 rfl) (fun h => (nw _ h).2.2.2.2 rfl)).upd u20 (Ne.symm nm.2.2.1) (Ne.symm nm.2.2.2)
    · show Vc.Own _ _ _ _ _ _ _ (drop x.waits s 0)
      rw [drop0]
      exact o14.upd u20 fun q hq => (nw _ hq).1
theorem may_ok {x y : D} {s : Str} (h : may x s = (0, y)) : x.down = false ∧ ∃ l, mGet x.now s = some l := by
  unfold may at h
  cases hd : x.down with
  | true => simp [hd] at h
  | false =>
    cases hg : mGet x.now s with
    | none => simp [hd, hg] at h
    | some l => exact ⟨rfl, l, rfl⟩
end Go.Proofs.YtkhinnchplahlaaGreatDoor
end

section
set_option linter.unusedVariables false
set_option maxRecDepth 100000
namespace Go.Proofs.YtkhinnchplahlaaGreatDoor
open Go Go.Vc Go.Proofs

end Go.Proofs.YtkhinnchplahlaaGreatDoor
end

section
set_option linter.unusedVariables false
set_option linter.unusedSimpArgs false
set_option maxRecDepth 100000
namespace Go.Proofs.YtkhinnchplahlaaGreatDoor
open Go Go.Vc Go.Proofs Go.Dk

end Go.Proofs.YtkhinnchplahlaaGreatDoor
end

section
set_option linter.unusedVariables false
set_option linter.unusedSimpArgs false
set_option maxRecDepth 100000
namespace Go.Proofs.YtkhinnchplahlaaGreatDoor
open Go Go.Vc Go.Proofs Go.Dk

/-- a disk in blocks that are newer than h0, which stands. -/
def St (h0 : Heap) (d : Nat) (x : D) (h : Heap) : Prop := ∃ O, DiskAt h d x O ∧ (∀ q, O q → h0.size ≤ q) ∧ Keep h0.size h0 h
section
variable {h0 h h' : Heap} {d : Nat} {x x' : D}
theorem St.base (hs : St h0 d x h) : Keep h0.size h0 h := let ⟨_, _, _, k⟩ := hs; k
theorem St.keep (hs : St h0 d x h) (k : Keep h.size h h') : St h0 d x h' := let ⟨O, h1, h2, h3⟩ := hs; ⟨O, h1.keep k, h2, h3.trans (k.mono h3.size)⟩
end

end Go.Proofs.YtkhinnchplahlaaGreatDoor
end

section
set_option linter.unusedSimpArgs false
set_option linter.unusedVariables false
namespace Go.Dk
open Go Go.Vc

theorem pgs_moved {F : Fs} (h : SrtF F) (a b n : Str) : pgs (moved a b F) n = if n = b then pgs F a else if n = a then [] else pgs F n := by
  unfold moved
  rw [pgs_put (srt_del h a)]; split
  · rfl
  · rw [pgs_del]
theorem srt_moved {F : Fs} (h : SrtF F) (a b : Str) : SrtF (moved a b F) := srt_put (srt_del h a) _ _
theorem get_moved {F : Fs} (h : SrtF F) (a b n : Str) : mGet (moved a b F) n = if n = b then some (pgs F a) else if n = a then none else mGet F n := by
  unfold moved
  rw [get_put (srt_del h a)]; split
  · rfl
  · rw [get_del]
theorem tot_moved {F : Fs} (h : SrtF F) {a b : Str} (hab : a ≠ b) : tot (moved a b F) + (pgs F b).length = tot F := by
  have h1 := tot_put (srt_del h a) b (pgs F a)
  have h2 := tot_del h a
  rw [pgs_del, if_neg (Ne.symm hab)] at h1
  unfold moved
  omega
theorem mem_turn {ws : List Wt} {a b : Str} {w : Wt} (h : w ∈ (drop ws b 0).map (turnW a b)) :
    ∃ v ∈ ws, v.n ≠ b ∧ w.i = v.i ∧ w.p = v.p ∧ w.n = (if v.n = a then b else v.n) := by
  obtain ⟨v, hv, rfl⟩ := List.mem_map.1 h
  obtain ⟨h1, h2⟩ := mem_drop hv
  refine ⟨v, h1, fun e => h2 ⟨e, by omega⟩, ?_, ?_, ?_⟩ <;> (unfold turnW; split <;> rfl)
theorem ok_rename {x : D} (h : Ok x) {a b : Str} (hab : a ≠ b) : Ok { x with now := moved a b x.now, safe := moved a b x.safe, waits := (drop x.waits b 0).map (turnW a b) } := by
  refine ⟨srt_moved h.now _ _, srt_moved h.safe _ _, h.room, ?_, fun n => ?_, fun w hw => ?_, fun n p hp => ?_, fun n p hp => ?_, h.fuse, h.keep⟩
  · have h1 := tot_moved h.now hab
    have h2 := h.tot
    show Dk.tot (moved a b x.now) ≤ x.room
    omega
  · show (pgs (moved a b x.safe) n).length ≤ (pgs (moved a b x.now) n).length
    rw [pgs_moved h.safe, pgs_moved h.now]; split
    · exact h.fewer a
    · split
      · exact Nat.le_refl _
      · exact h.fewer n
  · obtain ⟨v, hv, h1, h2, h3, h4⟩ := mem_turn hw
    have h5 := h.waits v hv
    show w.i < (pgs (moved a b x.now) w.n).length ∧ w.p.size = 512
    rw [pgs_moved h.now, h2, h3, h4]
    by_cases e : v.n = a
    · rw [if_pos e, if_pos rfl, ← e]; exact h5
    · rw [if_neg e, if_neg h1, if_neg e]; exact h5
  · have hp : p ∈ pgs (moved a b x.now) n := hp
    rw [pgs_moved h.now] at hp; split at hp
    · exact h.pnow _ _ hp
    · split at hp
      · cases hp
      · exact h.pnow _ _ hp
  · have hp : p ∈ pgs (moved a b x.safe) n := hp
    rw [pgs_moved h.safe] at hp; split at hp
    · exact h.psafe _ _ hp
    · split at hp
      · cases hp
      · exact h.psafe _ _ hp
end Go.Dk
end

section
set_option linter.unusedVariables false
set_option linter.unusedSimpArgs false
set_option maxRecDepth 100000
namespace Go.Proofs.YtkhinnchplahlaaGreatDoor
open Go Go.Vc Go.Proofs Go.Dk

theorem Like.move {F : Fs} {mc : List (Str × Int)} {mp mp' : List ((Str × Int) × Str)} {a b : Str} (hab : a ≠ b) (hF : SrtF F) (hl : Like (put b [] F) mc mp) (hn : (mKeys (mPut mc b ((pgs F a).length : Int))).Nodup)
    (hm : ∀ q j, mGet mp' (q, j) = if q = a ∧ 0 ≤ j ∧ j < ((pgs F a).length : Int) then none else if q = b ∧ 0 ≤ j ∧ j < ((pgs F a).length : Int) then mGet mp (a, j) else mGet mp (q, j)) :
    Like (moved a b F) (mDel (mPut mc b ((pgs F a).length : Int)) a) mp' := by
  have pG : ∀ q, pgs (put b [] F) q = if q = b then [] else pgs F q := fun q => Dk.pgs_put hF _ _ _
  have nb : ∀ j, mGet mp (b, j) = none := fun j => by
    cases hg : mGet mp (b, j) with
    | none => rfl
    | some _ =>
      have := hl.there b j (by rw [hg]; rfl)
      rw [pG, if_pos rfl] at this
      simp at this; omega
  have ga : ∀ j, (mGet mp (a, j)).isSome = true → 0 ≤ j ∧ j < ((pgs F a).length : Int) := fun j hj => by
    have := hl.there a j hj
    rw [pG, if_neg hab] at this; exact this
  refine ⟨fun q => ?_, fun q j => ?_, fun q j hj => ?_⟩
  · rw [mGet_del hn, mGet_put, get_moved hF]
    by_cases e1 : q = b
    · subst e1; rw [if_neg hab, if_pos rfl, if_pos rfl]; try rfl
    · by_cases e2 : q = a
      · subst e2; rw [if_pos rfl, if_neg e1, if_pos rfl]; try rfl
      · rw [if_neg (Ne.symm e2), if_neg (Ne.symm e1), if_neg e1, if_neg e2, hl.count, get_put hF, if_neg e1]
  · rw [hm]
    unfold pg
    rw [pgs_moved hF]
    by_cases e2 : q = a
    · subst e2
      rw [if_neg hab, if_pos rfl]
      have hz : (if (0 : Int) ≤ j then ([] : List Str).getD j.toNat zp else zp) = zp := by split <;> rfl
      rw [hz]
      by_cases hr : 0 ≤ j ∧ j < ((pgs F q).length : Int)
      · rw [if_pos ⟨rfl, hr⟩]; rfl
      · rw [if_neg (fun h => hr h.2), if_neg (fun h => hab h.1)]
        cases hg : mGet mp (q, j) with
        | none => rfl
        | some _ => exact absurd (ga j (by rw [hg]; rfl)) hr
    · rw [if_neg (fun h => e2 h.1)]
      by_cases e1 : q = b
      · subst e1
        rw [if_pos rfl]
        by_cases hr : 0 ≤ j ∧ j < ((pgs F a).length : Int)
        · rw [if_pos ⟨rfl, hr⟩, hl.page a j]
          unfold pg
          rw [pG, if_neg hab]
        · rw [if_neg (fun h => hr h.2), nb]
          by_cases h0 : 0 ≤ j
          · rw [if_pos h0, List.getD_eq_getElem?_getD, List.getElem?_eq_none (by omega)]; try rfl
          · rw [if_neg h0]; rfl
      · rw [if_neg (fun h => e1 h.1), if_neg e1, if_neg e2, hl.page q j]
        unfold pg
        rw [pG, if_neg e1]
  · rw [hm] at hj
    rw [pgs_moved hF]
    by_cases e2 : q = a
    · subst e2
      by_cases hr : 0 ≤ j ∧ j < ((pgs F q).length : Int)
      · rw [if_pos ⟨rfl, hr⟩] at hj; cases hj
      · rw [if_neg (fun h => hr h.2), if_neg (fun h => hab h.1)] at hj
        exact absurd (ga j hj) hr
    · rw [if_neg (fun h => e2 h.1)] at hj
      by_cases e1 : q = b
      · subst e1
        rw [if_pos rfl]
        by_cases hr : 0 ≤ j ∧ j < ((pgs F a).length : Int)
        · exact hr
        · rw [if_neg (fun h => hr h.2), nb] at hj; cases hj
      · rw [if_neg (fun h => e1 h.1)] at hj
        rw [if_neg e1, if_neg e2]
        have := hl.there q j hj
        rw [pG, if_neg e1] at this; exact this

theorem move_spec {h : Heap} {c p : Nat} {F : Fs} {a b : Str} (hs : SideAt h c p F) (hF : SrtF F) (hne : c ≠ p) (hab : a ≠ b) (hla : (pgs F a).length < 4611686018427387904) (hlb : (pgs F b).length < 4611686018427387904) :
    HC Tryz.prog 168 #[.agg #[.map (some c), .map (some p)], .string a, .string b] h
      fun v h' => SideAt h' c p (moved a b F) ∧ Upd (two c p) h h' ∧ v = .tuple #[] := by
  refine HC_of_vc (args := [.agg #[.map (some c), .map (some p)], .string a, .string b]) (base := 51) (cuts := []) (bigs := []) hm Tryz.func168 ?_
  rw [vcMove]
  have kH := keep_push h (Obj.cells (Array.mk [Value.map (some c), Value.map (some p)]) 73 (0, 0))
  have b0 := push_at h (Obj.cells (Array.mk [Value.map (some c), Value.map (some p)]) 73 (0, 0))
  have hl0 := hs.lt
  refine ⟨some c, some p, reads_load_agg (cs := [Value.map (some c), Value.map (some p)]) agSide rfl (cells_all b0), (cutS_spec (k := 0) (hs.upd (kH.upd fun _ => False) (fun h => h) (fun h => h)) hF hne (by omega) hlb).mono ?_⟩
  rintro v h3 ⟨s3, u3, rfl⟩
  rw [List.take_zero] at s3
  have b3 := u3.at b0 (by rintro (e | e) <;> omega)
  obtain ⟨mc, mp, hc, hp, hl⟩ := s3
  have hnc : (mKeys mc).Nodup := by obtain ⟨_, _, _, _, h0, _⟩ := hc; exact h0
  have hnp : (mKeys mp).Nodup := by obtain ⟨_, _, _, _, h0, _⟩ := hp; exact h0
  have pGa : pgs (put b [] F) a = pgs F a := by rw [Dk.pgs_put hF, if_neg hab]
  have nb : ∀ j, mGet mp (b, j) = none := fun j => by
    cases hg : mGet mp (b, j) with
    | none => rfl
    | some _ =>
      have := hl.there b j (by rw [hg]; rfl)
      rw [Dk.pgs_put hF, if_pos rfl] at this
      simp at this; omega
  have rc := reads_count hc hl a
  rw [pGa] at rc
  refine ⟨rfl, some c, reads_load scMc (cell_cells0 b3 rfl), _, rc, ?_⟩
  refine ⟨fun n8 h9 => ∃ (i : Nat) (mp' : List ((Str × Int) × Str)), n8 = i ∧ i ≤ (pgs F a).length ∧ h9[h.size]? = some (Obj.cells (Array.mk [Value.map (some c), Value.map (some p)]) 73 (0, 0)) ∧ MapAt Mc h9 c mc ∧ MapAt Mp h9 p mp' ∧ (mKeys mp').Nodup ∧
      (∀ q j, mGet mp' (q, j) = if q = a ∧ 0 ≤ j ∧ j < (i : Int) then none else if q = b ∧ 0 ≤ j ∧ j < (i : Int) then mGet mp (a, j) else mGet mp (q, j)) ∧ Upd (two c p) h h9,
    fun n8 _ => (pgs F a).length - n8.toNat, ⟨0, mp, rfl, by omega, b3, hc, hp, hnp, fun q j => by rw [if_neg (by omega), if_neg (by omega)], (kH.upd _).trans u3⟩, ?_⟩
  rintro n8 h9 ⟨i, mp', rfl, hi, b9, c9, p9, nd9, m9, u9⟩
  refine br_intro (fun hlt => ?_) (fun hge => ?_)
  · have hlt : i < (pgs F a).length := by have : (i : Int) < (pgs F a).length := by simpa using hlt
                                          omega
    have hwi : IntKind.i64.wrap ((i : Int) + 1) = ((i + 1 : Nat) : Int) := by rw [wrap_i64 (by omega) (by omega)]; rfl
    have hlk := (reads_lookup (k := (a, (i : Int))) p9 zP).2
    have hai : mGet mp' (a, (i : Int)) = mGet mp (a, (i : Int)) := by rw [m9, if_neg (by omega), if_neg (fun h => hab h.1)]
    have hzs : (zc Tryz.prog 126).size = 512 := zcPage
    have stp : ∀ (q : Str) {K : Unit → Heap → Prop}, K () (h9.push (.cells (pgC q).toArray 126 (0, 0))) →
        SVC Tryz.prog (Instr.storeAt 126 (.pointer (some ⟨h9.size, 0, none⟩)) (pv q)) (h9.push (.cells (zc Tryz.prog 126) 126 (0, 0))) K := fun q K hk => by
      refine svc_store_new (v := pv q) ?_ ?_ ?_ hk
      · show szOf _ _ = some (pgC _).toArray.size; rw [List.size_toArray, pgC_len]; exact szPage
      · exact zcPage.trans (pgC_len _).symm
      · exact pgC_one _
    refine ⟨some p, reads_load scMp (cell_cells b9 rfl), ?_⟩
    cases hg : mGet mp' (a, (i : Int)) with
    | some q =>
      rw [hg] at hlk
      refine ⟨(pgC q).toArray, true, hlk, zc Tryz.prog 126, ⟨rfl⟩, stp q ?_⟩
      have hat := push_at h9 (.cells (pgC q).toArray 126 (0, 0))
      have kp := keep_push h9 (.cells (pgC q).toArray 126 (0, 0))
      have b15 := kp.at b9 (at_lt b9)
      have hlp := p9.lt
      refine br_intro (fun _ => ?_) (fun e => by cases e)
      refine ⟨some p, reads_load scMp (cell_cells b15 rfl), (pgC q).toArray, reads_load_agg agPage (pgC_len q) (cells_all hat), svc_mapUpdate (M := Mp) (k := (b, (i : Int))) (v := q) (p9.keep kp) fun h19 s19 u19 m19 => ?_⟩
      have b19 := u19.at b15 (by omega)
      refine ⟨some p, reads_load scMp (cell_cells b19 rfl), svc_delete (M := Mp) (k := (a, (i : Int))) m19 fun h22 s22 u22 m22 => ⟨rfl, ?_⟩⟩
      rw [hwi]
      have nd19 := mNodup_put (v := q) nd9 (b, (i : Int))
      have u2 : Upd (two c p) h9 h22 := (kp.upd _).trans ((u19.mono fun x e => .inr e).trans (u22.mono fun x e => .inr e))
      refine ⟨⟨i + 1, _, rfl, hlt, u22.at b19 (by omega), ((c9.keep kp).upd u19 hne).upd u22 hne, m22, mNodup_del nd19 _, fun r j => ?_, u9.trans u2⟩, by dsimp only; omega⟩
      rw [mGet_del nd19, mGet_put, m9]
      by_cases e1 : (a, (i : Int)) = (r, j)
      · cases e1; rw [if_pos rfl, if_pos ⟨rfl, by omega, by omega⟩]
      · rw [if_neg e1]
        by_cases e2 : (b, (i : Int)) = (r, j)
        · cases e2
          rw [if_pos rfl, if_neg (fun h => hab h.1.symm), if_pos ⟨rfl, by omega, by omega⟩, ← hai, hg]
        · rw [if_neg e2]
          have hj : ∀ s, r = s → (s, (i : Int)) ≠ (r, j) → j ≠ i := fun s h1 h2 h3 => h2 (by rw [h3, h1])
          by_cases f1 : r = a
          · have := hj a f1 e1
            by_cases hr : 0 ≤ j ∧ j < (i : Int)
            · rw [if_pos ⟨f1, hr⟩, if_pos ⟨f1, by omega, by omega⟩]
            · rw [if_neg (fun h => hr h.2), if_neg (fun h => hab (f1 ▸ h.1)), if_neg (fun h => hr ⟨h.2.1, by omega⟩), if_neg (fun h => hab (f1 ▸ h.1))]
          · simp only [f1, false_and, if_false]
            by_cases f2 : r = b
            · have := hj b f2 e2
              by_cases hr : 0 ≤ j ∧ j < (i : Int)
              · rw [if_pos ⟨f2, hr⟩, if_pos ⟨f2, by omega, by omega⟩]
              · rw [if_neg (fun h => hr h.2), if_neg (fun h => hr ⟨h.2.1, by omega⟩)]
            · rw [if_neg (fun h => f2 h.1), if_neg (fun h => f2 h.1)]
    | none =>
      rw [hg] at hlk
      refine ⟨(pgC zp).toArray, false, hlk, zc Tryz.prog 126, ⟨rfl⟩, stp zp ?_⟩
      have kp := keep_push h9 (.cells (pgC zp).toArray 126 (0, 0))
      refine br_intro (fun e => by cases e) (fun _ => ?_)
      rw [hwi]
      refine ⟨⟨i + 1, mp', rfl, hlt, kp.at b9 (at_lt b9), c9.keep kp, p9.keep kp, nd9, fun r j => ?_, u9.trans (kp.upd _)⟩, by dsimp only; omega⟩
      by_cases f1 : r = a
      · by_cases hr : j = i
        · subst hr; rw [f1, hg, if_pos ⟨rfl, by omega, by omega⟩]
        · rw [m9]
          by_cases hr2 : 0 ≤ j ∧ j < (i : Int)
          · rw [if_pos ⟨f1, hr2⟩, if_pos ⟨f1, by omega, by omega⟩]
          · rw [if_neg (fun h => hr2 h.2), if_neg (fun h => hab (f1 ▸ h.1)), if_neg (fun h => hr2 ⟨h.2.1, by omega⟩), if_neg (fun h => hab (f1 ▸ h.1))]
      · rw [m9]
        simp only [f1, false_and, if_false]
        by_cases f2 : r = b
        · by_cases hr : j = i
          · subst hr
            rw [f2, if_neg (by omega), if_pos ⟨rfl, by omega, by omega⟩, nb, ← hai, hg]
          · by_cases hr2 : 0 ≤ j ∧ j < (i : Int)
            · rw [if_pos ⟨f2, hr2⟩, if_pos ⟨f2, by omega, by omega⟩]
            · rw [if_neg (fun h => hr2 h.2), if_neg (fun h => hr2 ⟨h.2.1, by omega⟩)]
        · rw [if_neg (fun h => f2 h.1), if_neg (fun h => f2 h.1)]
  · have hi' : i = (pgs F a).length := by have : ¬ (i : Int) < (pgs F a).length := by simpa using hge
                                          omega
    subst hi'
    have rc9 := reads_count c9 hl a
    rw [pGa] at rc9
    refine ⟨some c, reads_load scMc (cell_cells0 b9 rfl), some c, reads_load scMc (cell_cells0 b9 rfl), _, rc9, svc_mapUpdate (M := Mc) (k := b) (v := ((pgs F a).length : Int)) c9 fun h27 s27 u27 m27 => ?_⟩
    have hlc := c9.lt
    have b27 := u27.at b9 (by omega)
    have ndc := mNodup_put (v := ((pgs F a).length : Int)) hnc b
    refine ⟨some c, reads_load scMc (cell_cells0 b27 rfl), svc_delete (M := Mc) (k := a) m27 fun h30 s30 u30 m30 => ⟨rfl, ?_⟩⟩
    exact ⟨⟨_, _, m30, (p9.upd u27 (Ne.symm hne)).upd u30 (Ne.symm hne), hl.move hab hF ndc m9⟩, u9.trans ((u27.mono fun x e => .inl e).trans (u30.mono fun x e => .inl e)), by first | rfl | trivial⟩
end Go.Proofs.YtkhinnchplahlaaGreatDoor
end

section
set_option linter.unusedVariables false
set_option maxRecDepth 100000
namespace Go.Proofs.YtkhinnchplahlaaGreatDoor
open Go Go.Vc Go.Proofs

theorem vcRenameD (d : Nat) (s t : ByteArray) (h : Heap) (R : Value → Heap → Prop) :
    vcF Tryz.prog Tryz.f140 77 [3] [] [.pointer (some ⟨d, 0, none⟩), .string s, .string t] h R =
(∃ (I0 : Int → Heap → Prop),
 (HC Tryz.prog (62 : Nat) (Array.mk [Value.pointer (some (Addr.mk d (0 : Nat) none))])
 ((Array.push h (Obj.cells (Array.mk [Value.string s]) (9 : Nat))).push (Obj.cells (Array.mk [Value.string t]) (9 : Nat))) fun (v1 : Value) (h2 : Heap) =>
 ∃ (n3 : Int),
 v1 = Value.int IntKind.i64 n3 ∧
 ∃ (s4 : ByteArray),
 ((n3 == (0 : Int)) = true → Reads Tryz.prog (Instr.loadAt (9 : Nat) (Value.pointer (some (Addr.mk (Array.size h) (0 : Nat) none)))) h2 (Value.string s4)) ∧
 ∃ (s5 : ByteArray),
 ((n3 == (0 : Int)) = true →
 Reads Tryz.prog (Instr.loadAt (9 : Nat) (Value.pointer (some (Addr.mk (Array.push h (Obj.cells (Array.mk [Value.string s]) (9 : Nat))).size (0 : Nat) none)))) h2
 (Value.string s5)) ∧
 ∃ (s6 : ByteArray),
 ((n3 == (0 : Int) && s4.toList == s5.toList) = true →
 Reads Tryz.prog (Instr.loadAt (9 : Nat) (Value.pointer (some (Addr.mk (Array.size h) (0 : Nat) none)))) h2 (Value.string s6)) ∧
 br (n3 == (0 : Int) && s4.toList == s5.toList)
 (HC Tryz.prog (66 : Nat) (Array.mk [Value.pointer (some (Addr.mk d (0 : Nat) none)), Value.string s6]) h2 fun (v7 : Value) (h8 : Heap) =>
 ∃ (b9 : Bool),
 v7 = Value.bool b9 ∧
 br b9
 (∃ (s10 : ByteArray),
 Reads Tryz.prog (Instr.loadAt (9 : Nat) (Value.pointer (some (Addr.mk (Array.size h) (0 : Nat) none)))) h8 (Value.string s10) ∧
 HC Tryz.prog (123 : Nat)
 (Array.mk [Value.pointer (some (Addr.mk d (0 : Nat) none)), Value.string s10, Value.func (Fn.func (166 : Nat)) (Array.mk []) (Array.mk [])]) h8
 fun (v11 : Value) (h12 : Heap) => ∃ (n13 : Int), v11 = Value.int IntKind.i64 n13 ∧ R (Value.int IntKind.i64 n13) h12)
 (I0 (0 : Int) h8))
 (I0 (0 : Int) h2)) ∧
 ∀ (n14 : Int) (h15 : Heap),
 I0 n14 h15 →
 ∃ (s16 : ByteArray),
 Reads Tryz.prog (Instr.loadAt (9 : Nat) (Value.pointer (some (Addr.mk (Array.size h) (0 : Nat) none)))) h15 (Value.string s16) ∧
 HC Tryz.prog (123 : Nat)
 (Array.mk
 [Value.pointer (some (Addr.mk d (0 : Nat) none)), Value.string s16,
 Value.func (Fn.func (167 : Nat)) (Array.mk [])
 (Array.mk
 [Value.pointer (some (Addr.mk (Array.size h) (0 : Nat) none)),
 Value.pointer (some (Addr.mk (Array.push h (Obj.cells (Array.mk [Value.string s]) (9 : Nat))).size (0 : Nat) none))])])
 h15 fun (v17 : Value) (h18 : Heap) =>
 ∃ (n19 : Int),
 v17 = Value.int IntKind.i64 n19 ∧
 br (n19 == (0 : Int))
 (∃ (p20 : Addr),
 some (Addr.mk d (0 : Nat) none) = some p20 ∧
 ∃ (a21 : Option Addr),
 ∃ (k22 : Nat),
 ∃ (k23 : Nat),
 Reads Tryz.prog (Instr.loadAt (75 : Nat) (Value.pointer (some (p20.add (4 : Nat))))) h18 (Value.slice a21 k22 k23) ∧
 HC Tryz.prog (124 : Nat)
 (Array.mk
 [Value.slice a21 k22 k23,
 Value.func (Fn.func (169 : Nat)) (Array.mk [])
 (Array.mk [Value.pointer (some (Addr.mk (Array.push h (Obj.cells (Array.mk [Value.string s]) (9 : Nat))).size (0 : Nat) none))])])
 h18 fun (v24 : Value) (h25 : Heap) =>
 ∃ (a26 : Option Addr),
 ∃ (k27 : Nat),
 ∃ (k28 : Nat),
 v24 = Value.slice a26 k27 k28 ∧
 ∃ (p29 : Addr),
 some (Addr.mk d (0 : Nat) none) = some p29 ∧
 SVC Tryz.prog (Instr.storeAt (75 : Nat) (Value.pointer (some (p29.add (4 : Nat)))) (Value.slice a26 k27 k28)) h25 fun (x30 : Unit) (h31 : Heap) =>
 ∃ (p32 : Addr),
 some (Addr.mk d (0 : Nat) none) = some p32 ∧
 ∃ (a33 : Option Addr),
 ∃ (k34 : Nat),
 ∃ (k35 : Nat),
 Reads Tryz.prog (Instr.loadAt (75 : Nat) (Value.pointer (some (p32.add (4 : Nat))))) h31 (Value.slice a33 k34 k35) ∧
 ∃ (I36 : Int → Heap → Prop),
 ∃ (I37 : Int → Heap → Nat),
 I36 (0 : Int) h31 ∧
 ∀ (n38 : Int) (h39 : Heap),
 I36 n38 h39 →
 br (decide (n38 < (↑k34 : Int)))
 (∃ (p40 : Addr),
 some (Addr.mk d (0 : Nat) none) = some p40 ∧
 ∃ (a41 : Option Addr),
 ∃ (k42 : Nat),
 ∃ (k43 : Nat),
 Reads Tryz.prog (Instr.loadAt (75 : Nat) (Value.pointer (some (p40.add (4 : Nat))))) h39 (Value.slice a41 k42 k43) ∧
 ∃ (p44 : Addr),
 (a41 = some p44 ∧ (0 : Int) ≤ n38 ∧ n38 < (↑k42 : Int)) ∧
 ∃ (s45 : ByteArray),
 Reads Tryz.prog (Instr.loadAt (9 : Nat) (Value.pointer (some (p44.add (n38.toNat * (514 : Nat)))))) h39
 (Value.string s45) ∧
 ∃ (s46 : ByteArray),
 Reads Tryz.prog (Instr.loadAt (9 : Nat) (Value.pointer (some (Addr.mk (Array.size h) (0 : Nat) none))))
 h39 (Value.string s46) ∧
 br (s45.toList == s46.toList)
 (∃ (p47 : Addr),
 some (Addr.mk d (0 : Nat) none) = some p47 ∧
 ∃ (a48 : Option Addr),
 ∃ (k49 : Nat),
 ∃ (k50 : Nat),
 Reads Tryz.prog (Instr.loadAt (75 : Nat) (Value.pointer (some (p47.add (4 : Nat))))) h39
 (Value.slice a48 k49 k50) ∧
 ∃ (s51 : ByteArray),
 Reads Tryz.prog
 (Instr.loadAt (9 : Nat)
 (Value.pointer
 (some
 (Addr.mk (Array.push h (Obj.cells (Array.mk [Value.string s]) (9 : Nat))).size
 (0 : Nat) none))))
 h39 (Value.string s51) ∧
 ∃ (p52 : Addr),
 (a48 = some p52 ∧ (0 : Int) ≤ n38 ∧ n38 < (↑k49 : Int)) ∧
 SVC Tryz.prog
 (Instr.storeAt (9 : Nat)
 (Value.pointer (some (p52.add (n38.toNat * (514 : Nat))))) (Value.string s51))
 h39 fun (x53 : Unit) (h54 : Heap) =>
 I36 (IntKind.i64.wrap (n38 + (1 : Int))) h54 ∧
 I37 (IntKind.i64.wrap (n38 + (1 : Int))) h54 < I37 n38 h39)
 (I36 (IntKind.i64.wrap (n38 + (1 : Int))) h39 ∧
 I37 (IntKind.i64.wrap (n38 + (1 : Int))) h39 < I37 n38 h39))
 (∃ (p55 : Addr),
 some (Addr.mk d (0 : Nat) none) = some p55 ∧
 ∃ (a56 : Option Nat),
 ∃ (a57 : Option Nat),
 Reads Tryz.prog (Instr.loadAt (73 : Nat) (Value.pointer (some (p55.add (2 : Nat))))) h39
 (Value.agg (Array.mk [Value.map a56, Value.map a57])) ∧
 ∃ (s58 : ByteArray),
 Reads Tryz.prog (Instr.loadAt (9 : Nat) (Value.pointer (some (Addr.mk (Array.size h) (0 : Nat) none)))) h39
 (Value.string s58) ∧
 ∃ (s59 : ByteArray),
 Reads Tryz.prog
 (Instr.loadAt (9 : Nat)
 (Value.pointer
 (some (Addr.mk (Array.push h (Obj.cells (Array.mk [Value.string s]) (9 : Nat))).size (0 : Nat) none))))
 h39 (Value.string s59) ∧
 HC Tryz.prog (168 : Nat)
 (Array.mk [Value.agg (Array.mk [Value.map a56, Value.map a57]), Value.string s58, Value.string s59]) h39
 fun (v60 : Value) (h61 : Heap) => v60 = Value.tuple (Array.mk []) ∧ R (Value.int IntKind.i64 n19) h61))
 (R (Value.int IntKind.i64 n19) h18)) := by kernel_rfl
end Go.Proofs.YtkhinnchplahlaaGreatDoor
end

section
set_option linter.unusedVariables false
set_option linter.unusedSimpArgs false
set_option maxRecDepth 100000
namespace Go.Proofs.YtkhinnchplahlaaGreatDoor
open Go Go.Vc Go.Proofs Go.Dk

theorem ren1_spec (h : Heap) (c p : Nat) : HC Tryz.prog 166 (Array.mk [.agg (Array.mk [.map (some c), .map (some p)])] ++ Array.mk []) h fun v h' => Keep h.size h h' ∧ v = .tuple #[] := by
  have e : (Array.mk [Value.agg (Array.mk [.map (some c), .map (some p)])] ++ Array.mk []) = [Value.agg (Array.mk [.map (some c), .map (some p)])].toArray := by simp
  rw [e]
  refine HC_of_vc (args := [.agg (Array.mk [.map (some c), .map (some p)])]) (base := 2) (cuts := []) (bigs := []) hm Tryz.func166 ?_
  rw [vcRename1]
  exact ⟨keep_push _ _, rfl⟩
theorem ren2_spec {h : Heap} {c p q r : Nat} {F : Fs} {a b : Str} (hs : SideAt h c p F) (hF : SrtF F) (hne : c ≠ p) (hab : a ≠ b) (hla : (pgs F a).length < 4611686018427387904) (hlb : (pgs F b).length < 4611686018427387904) (hx : boxS q a h) (hy : boxS r b h) :
    HC Tryz.prog 167 #[.agg #[.map (some c), .map (some p)], .pointer (some ⟨q, 0, none⟩), .pointer (some ⟨r, 0, none⟩)] h
      fun v h' => SideAt h' c p (moved a b F) ∧ Upd (two c p) h h' ∧ v = .tuple #[] := by
  refine HC_of_vc (args := [.agg #[.map (some c), .map (some p)], .pointer (some ⟨q, 0, none⟩), .pointer (some ⟨r, 0, none⟩)]) (base := 8) (cuts := []) (bigs := []) hm Tryz.func167 ?_
  rw [vcRename2]
  have kH := keep_push h (Obj.cells (Array.mk [Value.map (some c), Value.map (some p)]) 73 (0, 0))
  have b0 := push_at h (Obj.cells (Array.mk [Value.map (some c), Value.map (some p)]) 73 (0, 0))
  refine ⟨some c, some p, reads_load_agg (cs := [Value.map (some c), Value.map (some p)]) agSide rfl (cells_all b0), a, reads_load scS (cell_cells0 (kH.at hx (at_lt hx)) rfl), b, reads_load scS (cell_cells0 (kH.at hy (at_lt hy)) rfl),
    (move_spec (hs.upd (kH.upd fun _ => False) (fun h => h) (fun h => h)) hF hne hab hla hlb).mono ?_⟩
  rintro v h4 ⟨s4, u4, rfl⟩
  exact ⟨rfl, s4, (kH.upd _).trans u4, rfl⟩
theorem pred_rename (q : Nat) (s : Str) : PredC 169 (Array.mk [.pointer (some ⟨q, 0, none⟩)]) (fun w => decide (w.n = s)) (boxS q s) := by
  refine ⟨by kernel_rfl, fun h w hx => ?_⟩
  have e : (Array.mk [Value.agg (WtE.enc w).toArray] ++ Array.mk [Value.pointer (some ⟨q, 0, none⟩)]) = [Value.agg (WtE.enc w).toArray, Value.pointer (some ⟨q, 0, none⟩)].toArray := by simp
  rw [e]
  refine HC_of_vc (args := [.agg (WtE.enc w).toArray, .pointer (some ⟨q, 0, none⟩)]) (base := 9) (cuts := []) (bigs := []) hm Tryz.func169 ?_
  rw [vcRename3]
  have kp := keep_push h (.cells (WtE.enc w).toArray 128 (0, 0))
  refine ⟨w.n, reads_load scS (cell_cells0 (push_at h (.cells (WtE.enc w).toArray 128 (0, 0))) (by simp [WtE])), s, reads_load scS (cell_cells0 (kp.at hx (at_lt hx)) rfl), kp, ?_⟩
  rw [beq_dec']

/-- a list whose first part has turned. -/
def upto (f : Wt → Wt) (k : Nat) (ws : List Wt) : List Wt := (ws.take k).map f ++ ws.drop k
theorem upto_len (f : Wt → Wt) (k : Nat) (ws : List Wt) : (upto f k ws).length = ws.length := by simp [upto]; omega
theorem upto_get {f : Wt → Wt} {k : Nat} {ws : List Wt} {w : Wt} (hw : ws[k]? = some w) : (upto f k ws)[k]? = some w := by
  have hk := (List.getElem?_eq_some_iff.1 hw).1
  unfold upto
  rw [List.getElem?_append_right (by simp; omega), List.length_map, List.length_take]
  simp
  rw [show k + (k - min k ws.length) = k by omega]; exact hw
theorem upto_succ {f : Wt → Wt} {k : Nat} {ws : List Wt} {w : Wt} (hw : ws[k]? = some w) : upto f (k + 1) ws = (upto f k ws).set k (f w) := by
  obtain ⟨hk, he⟩ := List.getElem?_eq_some_iff.1 hw
  have hl : ((ws.take k).map f).length = k := by simp; omega
  unfold upto
  rw [List.take_succ_eq_append_getElem hk, he, List.map_append, List.set_append_right _ _ (by omega), hl, Nat.sub_self]
  have hd : ws.drop k = w :: ws.drop (k + 1) := by rw [List.drop_eq_getElem_cons hk, he]
  rw [hd]
  simp only [List.map_cons, List.map_nil, List.append_assoc, List.singleton_append, List.set_cons_zero]
theorem set_wt (R : List Wt) (rest : List Value) (k : Nat) (w : Wt) (t : Str) (hw : R[k]? = some w) : (R.flatMap WtE.enc ++ rest).set (k * 514) (.string t) = (R.set k { w with n := t }).flatMap WtE.enc ++ rest := by
  obtain ⟨hk, he⟩ := List.getElem?_eq_some_iff.1 hw
  have h1 : R = R.take k ++ R[k] :: R.drop (k + 1) := by simp
  have h2 : R.set k { w with n := t } = R.take k ++ { w with n := t } :: R.drop (k + 1) := by rw [List.set_eq_take_append_cons_drop, if_pos hk]
  have hl : ((R.take k).flatMap WtE.enc).length = k * 514 := by rw [flat_len, List.length_take]; show min k R.length * 514 = _; congr 1; omega
  have e0 : R.flatMap WtE.enc = (R.take k).flatMap WtE.enc ++ (WtE.enc w ++ (R.drop (k + 1)).flatMap WtE.enc) := by
    have := congrArg (List.flatMap WtE.enc) h1
    rw [List.flatMap_append, List.flatMap_cons, he] at this
    exact this
  rw [e0, h2, List.append_assoc, List.set_append_right _ _ (by omega), hl, Nat.sub_self, List.flatMap_append, List.flatMap_cons, List.append_assoc, List.append_assoc]
  rfl

set_option maxHeartbeats 1000000 in
theorem rename_spec {h : Heap} {d : Nat} {x : D} {O : Nat → Prop} {s t : Str} (hd : DiskAt h d x O) (hwn : x.waits.length ≤ 1073741824) :
    HC Tryz.prog 140 #[.pointer (some ⟨d, 0, none⟩), .string s, .string t] h
      fun v h' => ∃ O', DiskAt h' d (rename x s t).2 O' ∧ (∀ q, O' q → O q ∨ h.size ≤ q) ∧ Upd O h h' ∧ v = .int .i64 (rename x s t).1 := by
  refine HC_of_vc (args := [.pointer (some ⟨d, 0, none⟩), .string s, .string t]) (base := 77) (cuts := [3]) (bigs := []) hm Tryz.func140 ?_
  rw [vcRenameD]
  have x0 : boxS h.size s ((Array.push h (Obj.cells (Array.mk [Value.string s]) 9)).push (Obj.cells (Array.mk [Value.string t]) 9)) := push2_0 _ _ _
  have y0 : boxS (h.size + 1) t ((Array.push h (Obj.cells (Array.mk [Value.string s]) 9)).push (Obj.cells (Array.mk [Value.string t]) 9)) := push2_1 _ _ _
  have k0 : Keep h.size h ((Array.push h (Obj.cells (Array.mk [Value.string s]) 9)).push (Obj.cells (Array.mk [Value.string t]) 9)) := (keep_push h _).trans (Keep.push _ _ _ (by simp))
  generalize ((Array.push h (Obj.cells (Array.mk [Value.string s]) 9)).push (Obj.cells (Array.mk [Value.string t]) 9)) = H at k0 x0 y0
  simp only [Array.size_push]
  have hO := hd.1
  have zH := k0.size
  have hdH := hd.keep k0
  have badE : ∀ {e : Int}, (may x s).1 = e → e ≠ 0 → rename x s t = may x s := fun {e} he h0 => by
    unfold rename
    cases hm0 : may x s with
    | mk e' d1 =>
      rw [hm0] at he
      simp only at he ⊢
      rw [if_neg (fun h => h0 (by rw [← he]; exact h.1))]
  refine ⟨fun _ h' => h' = H ∧ (x.down = true ∨ s ≠ t ∨ has x s = false), ?_, ?_⟩
  · refine (ready_spec hdH).mono ?_
    rintro v h1 ⟨rfl, rfl⟩
    refine ⟨_, rfl, s, fun _ => reads_load scS (cell_cells0 x0 rfl), t, fun _ => reads_load scS (cell_cells0 y0 rfl), s, fun _ => reads_load scS (cell_cells0 x0 rfl), br_intro (fun e => ?_) (fun e => ⟨rfl, ?_⟩)⟩
    · have hdn : x.down = false := by cases hdn : x.down <;> simp [hdn] at e ⊢
      have hst : s = t := by
        rw [hdn] at e
        have e : (s.toList == t.toList) = true := by simpa using e
        exact eq_beq.1 e
      refine (has_spec hdH s).mono ?_
      rintro v h8 ⟨rfl, rfl⟩
      refine ⟨_, rfl, br_intro (fun hh => ?_) (fun hh => ⟨rfl, .inr (.inr hh)⟩)⟩
      refine ⟨s, reads_load scS (cell_cells0 x0 rfl), does_spec (by kernel_rfl) hdH hwn (fun h' O' e he h0 hd' sub u => ?_) fun h1 c1 p1 c2 p2 A m c hm1 hp hb u1 => (ren1_spec h1 c1 p1).mono ?_⟩
      · refine ⟨_, rfl, O', ?_, fun q h => (sub q h).imp id fun h => by omega, (k0.upd O).trans u, ?_⟩
        · rw [badE he h0]; exact hd'
        · rw [badE he h0, he]
      · rintro v h2 ⟨k2, rfl⟩
        have hr : rename x s t = (0, act x) := by unfold rename; rw [hm1]; simp only; rw [if_neg (fun h => h.2 hst)]
        have hO2 : ∀ b, O b → b < h2.size := fun b h0 => Nat.lt_of_lt_of_le (Nat.lt_of_lt_of_le (hdH.1 b h0) u1.size) k2.size
        rw [hr]
        exact ⟨rfl, _, rfl, O, (hp.upd (k2.upd fun _ => False) fun _ _ h => h).at hb hO2, fun q h => .inl h, (k0.upd O).trans (u1.trans (k2.upd O)), rfl⟩
    · cases hdn : x.down with
      | true => exact .inl rfl
      | false =>
        rw [hdn] at e
        have e : (s.toList == t.toList) = false := by simpa using e
        exact .inr (.inl fun h => by rw [eq_beq.2 h] at e; cases e)
  rintro _ h15 ⟨rfl, hcond⟩
  refine ⟨s, reads_load scS (cell_cells0 x0 rfl), does_spec (by kernel_rfl) hdH hwn (fun h' O' e he h0 hd' sub u => ?_) fun h1 c1 p1 c2 p2 A m c hm1 hp hb u1 => ?_⟩
  · refine ⟨_, rfl, br_intro (fun h1 => absurd (by simpa using h1) h0) fun _ => ⟨O', ?_, fun q h => (sub q h).imp id fun h => by omega, (k0.upd O).trans u, ?_⟩⟩
    · rw [badE he h0]; exact hd'
    · rw [badE he h0, he]
  obtain ⟨hdn, l, hg⟩ := may_ok hm1
  have hst : s ≠ t := by
    rcases hcond with h | h | h
    · rw [hdn] at h; cases h
    · exact h
    · simp [has, hdn, hg] at h
  have hr : rename x s t = (0, { act x with now := moved s t x.now, safe := moved s t x.safe, waits := (drop x.waits t 0).map (turnW s t) }) := by
    unfold rename; rw [hm1]; simp only; rw [if_pos ⟨trivial, hst⟩]; rfl
  have e : (Array.mk [Value.agg (Array.mk [.map (some c1), .map (some p1)])] ++ Array.mk [Value.pointer (some ⟨h.size, 0, none⟩), Value.pointer (some ⟨h.size + 1, 0, none⟩)]) = #[Value.agg #[.map (some c1), .map (some p1)], Value.pointer (some ⟨h.size, 0, none⟩), Value.pointer (some ⟨h.size + 1, 0, none⟩)] := by simp
  rw [e]
  have nd := hp.nd
  simp at nd
  have hlt : ∀ b, blks d c1 p1 c2 p2 A b → b < h.size := fun b h0 => hO b (hb b h0)
  have x1 : boxS h.size s h1 := u1.at x0 fun h0 => by have := hO _ h0; omega
  have y1 : boxS (h.size + 1) t h1 := u1.at y0 fun h0 => by have := hO _ h0; omega
  have l1 := len_now hp.ok s
  have l2 := len_now hp.ok t
  have l3 := hp.ok.fewer s
  have l4 := hp.ok.fewer t
  obtain ⟨⟨t1, t2, t3, t4⟩, t5, t6, t7, t8⟩ := two_ne hp
  refine (ren2_spec hp.now hp.ok.now (by omega) hst (by omega) (by omega) x1 y1).mono ?_
  rintro v h2 ⟨s2, u2, rfl⟩
  have b2 := u2.at hp.box t1
  have x2 := u2.at x1 (fun h0 => by have := hlt _ (two_blks1 _ h0); omega)
  have y2 := u2.at y1 (fun h0 => by have := hlt _ (two_blks1 _ h0); omega)
  have f2 : SideAt h2 c2 p2 x.safe := hp.safe.upd u2 t2 t3
  have w2 := hp.waits.upd u2 t4
  have nw := fun q hq => hp.ne_waits (b := q) hq
  have nm := hp.ne_map
  refine ⟨rfl, _, rfl, br_intro (fun _ => ?_) (fun e => by cases e)⟩
  refine ⟨_, rfl, A, m, c, reads_load scWs (cell_cells b2 (by simp [diskC])), (delF_spec (X := boxS (h.size + 1) t) (pred_rename (h.size + 1) t) (fun a b ha k => k.at ha (at_lt ha))
    (fun a b ha u => u.at ha fun hq => by have := hlt (h.size + 1) (.inr (.inr (.inr (.inr (.inr hq))))); omega) w2 y2 (by have := hp.waits.1; have : x.waits.length = m := this; omega)).mono ?_⟩
  rintro v h25 ⟨o25, u25, rfl⟩
  have b25 := u25.at b2 fun h0 => (nw _ h0).1 rfl
  have x25 := u25.at x2 fun hq => by have := hlt h.size (.inr (.inr (.inr (.inr (.inr hq))))); omega
  have y25 := u25.at y2 fun hq => by have := hlt (h.size + 1) (.inr (.inr (.inr (.inr (.inr hq))))); omega
  generalize hws : (x.waits.filter fun w => !decide (w.n = t)) = ws at o25
  have hws2 : (List.filter (fun w => !decide (w.n = t)) (act x).waits) = ws := hws
  rw [hws2] at o25
  rw [hws2]
  have hdw : drop x.waits t 0 = ws := by rw [drop0]; exact hws
  have hlw : ws.length ≤ 1073741824 := by
    rw [← hdw]; exact Nat.le_trans (List.length_filter_le _ _) hwn
  refine ⟨_, _, _, rfl, _, rfl, svc_store_box szWs b25 (by simp [diskC]) rfl (one_slice _ _ _) fun h31 s31 b31 u31 => ?_⟩
  have nd31 : ∀ q, q ≠ d → ¬ q = d := fun q h => h
  have x31 := u31.at x25 (fun e => by have := hlt d (.inl rfl); omega)
  have y31 := u31.at y25 (fun e => by have := hlt d (.inl rfl); omega)
  have o31 := o25.upd u31 fun q hq => (nw _ hq).1
  refine ⟨_, rfl, A, ws.length, c, reads_load scWs (cell_cells b31 (by simp [diskC])), ?_⟩
  refine ⟨fun n38 h39 => ∃ k : Nat, n38 = k ∧ k ≤ ws.length ∧ Vc.Own WtE 128 0 h39 A ws.length c (upto (turnW s t) k ws) ∧ Upd (blk A) h31 h39, fun n38 _ => ws.length - n38.toNat,
    ⟨0, rfl, Nat.zero_le _, by simpa [upto] using o31, Upd.refl _ _⟩, ?_⟩
  rintro n38 h39 ⟨k, rfl, hk, o39, u39⟩
  have b39 := u39.at b31 fun h0 => (nw _ h0).1 rfl
  have x39 := u39.at x31 fun hq => by have := hlt h.size (.inr (.inr (.inr (.inr (.inr hq))))); omega
  have y39 := u39.at y31 fun hq => by have := hlt (h.size + 1) (.inr (.inr (.inr (.inr (.inr hq))))); omega
  refine br_intro (fun hlt2 => ?_) (fun hge => ?_)
  · have hlt2 : k < ws.length := by have : (k : Int) < ws.length := by simpa using hlt2
                                    omega
    have hw : ws[k]? = some ws[k] := List.getElem?_eq_getElem hlt2
    generalize ws[k] = w at hw
    have hR := upto_get (f := turnW s t) hw
    have hwk : IntKind.i64.wrap ((k : Int) + 1) = ((k + 1 : Nat) : Int) := by rw [wrap_i64 (by omega) (by omega)]; rfl
    obtain ⟨bb, cells, rfl, _, hbb, hcs, rest, hrest⟩ : ∃ bb cells, A = some ⟨bb, 0, none⟩ ∧ 0 ≤ bb ∧ h39[bb]? = some (.cells cells 128 (0, 0)) ∧ cells.size = c * WtE.sz ∧ ∃ rest, cells.toList = (upto (turnW s t) k ws).flatMap WtE.enc ++ rest := by
      rcases o39.2.2 with ⟨_, e⟩ | h0
      · have := o39.2.1; omega
      · exact h0
    have hcell : cells[k * 514]? = some (.string w.n) := by
      have this := flat_get (E := WtE) (upto (turnW s t) k ws) (j := 0) (v := .string w.n) hR (by simp [WtE])
      have ek : k * WtE.sz + 0 = k * 514 := Nat.add_zero _
      rw [ek] at this
      rw [← Array.getElem?_toList, hrest, List.getElem?_append_left (List.getElem?_eq_some_iff.1 this).1]
      exact this
    have hlc : k * 514 < cells.size := (Array.getElem?_eq_some_iff.1 hcell).1
    refine ⟨_, rfl, some ⟨bb, 0, none⟩, ws.length, c, reads_load scWs (cell_cells b39 (by simp [diskC])), ⟨bb, 0, none⟩, ⟨rfl, by omega, by omega⟩, w.n, ?_, s, reads_load scS (cell_cells0 x39 rfl), br_intro (fun he => ?_) (fun he => ?_)⟩
    · rw [Int.toNat_natCast]; exact reads_load scS (cell_cells hbb hcell)
    · have he : w.n = s := eq_beq.1 he
      refine ⟨_, rfl, some ⟨bb, 0, none⟩, ws.length, c, reads_load scWs (cell_cells b39 (by simp [diskC])), t, reads_load scS (cell_cells0 y39 rfl), ⟨bb, 0, none⟩, ⟨rfl, by omega, by omega⟩, ?_⟩
      rw [Int.toNat_natCast]
      refine svc_store_box (by kernel_rfl) hbb hlc rfl (one_string _) fun h54 s54 b54 u54 => ?_
      rw [hwk]
      have ht : turnW s t w = { w with n := t } := by unfold turnW; rw [if_pos he]
      have hs2 : cells.toList.set (k * 514) (.string t) = (upto (turnW s t) (k + 1) ws).flatMap WtE.enc ++ rest := by
        rw [hrest, set_wt _ _ _ _ _ hR, upto_succ hw, ht]
      have b54' : h54[bb]? = some (.cells ((upto (turnW s t) (k + 1) ws).flatMap WtE.enc ++ rest).toArray 128 (0, 0)) := by rw [← hs2]; exact b54
      refine ⟨⟨k + 1, rfl, hlt2, ⟨upto_len _ _ _, o39.2.1, .inr ⟨bb, _, rfl, Nat.zero_le _, b54', ?_, rest, by simp⟩⟩, u39.trans (u54.mono fun q e => ⟨_, rfl, e.symm⟩)⟩, by dsimp only; omega⟩
      have := congrArg List.length hs2
      rw [List.length_set, Array.length_toList] at this
      simp only [List.size_toArray]; omega
    · have he : w.n ≠ s := fun h => by rw [eq_beq.2 h] at he; cases he
      rw [hwk]
      have ht : turnW s t w = w := by unfold turnW; rw [if_neg he]
      refine ⟨⟨k + 1, rfl, hlt2, ?_, u39⟩, by dsimp only; omega⟩
      have : upto (turnW s t) (k + 1) ws = upto (turnW s t) k ws := by
        rw [upto_succ hw, ht]
        apply List.ext_getElem?
        intro j
        rw [List.getElem?_set]
        split
        · rename_i e; subst e; split
          · exact hR.symm
          · rename_i h0; exact absurd (List.getElem?_eq_some_iff.1 hR).1 h0
        · rfl
      rw [this]; exact o39
  · have hk' : k = ws.length := by have : ¬ (k : Int) < ws.length := by simpa using hge
                                   omega
    have hall : upto (turnW s t) k ws = ws.map (turnW s t) := by unfold upto; rw [hk', List.take_length, List.drop_length, List.append_nil]
    rw [hall] at o39
    have ub : Upd (fun q => q = d ∨ blk A q) h2 h39 := (u25.mono fun q h => .inr h).trans ((u31.mono fun q e => .inl e).trans (u39.mono fun q h => .inr h))
    have f39 : SideAt h39 c2 p2 x.safe := f2.upd ub (fun h => h.elim (fun e => nm.2.2.1 e.symm) fun h => (nw _ h).2.2.2.1 rfl) (fun h => h.elim (fun e => nm.2.2.2 e.symm) fun h => (nw _ h).2.2.2.2 rfl)
    have n39 : SideAt h39 c1 p1 (moved s t x.now) := s2.upd ub (fun h => h.elim (fun e => nm.1 e.symm) fun h => (nw _ h).2.1 rfl) (fun h => h.elim (fun e => nm.2.1 e.symm) fun h => (nw _ h).2.2.1 rfl)
    have b39' : h39[d]? = some (.cells (diskC c1 p1 c2 p2 A ws.length c (act x)).toArray 77 (0, 0)) := by rw [b39]; simp [diskC]
    refine ⟨_, rfl, _, _, box_side2 b39', s, reads_load scS (cell_cells0 x39 rfl), t, reads_load scS (cell_cells0 y39 rfl), (move_spec f39 hp.ok.safe (by omega) hst (by have : (pgs x.safe s).length ≤ (pgs x.now s).length := l3; have : (pgs x.now s).length ≤ 4096 := l1; omega) (by have : (pgs x.safe t).length ≤ (pgs x.now t).length := l4; have : (pgs x.now t).length ≤ 4096 := l2; omega)).mono ?_⟩
    rintro v h61 ⟨s61, u61, rfl⟩
    have uall : Upd O h h61 := (k0.upd O).trans (u1.trans (((u2.mono two_blks1).trans ((ub.mono fun q h => h.elim (fun e => Or.inl e) fun h => .inr (.inr (.inr (.inr (.inr h))))).trans (u61.mono two_blks2))).mono hb))
    rw [hr]
    refine ⟨rfl, O, ⟨fun q h0 => Nat.lt_of_lt_of_le (hO q h0) uall.size, c1, p1, c2, p2, A, ws.length, c, ⟨?_, n39.upd u61 t6 t7, s61, ?_, hp.nd, ok_rename (ok_act (by exact hd.ok)) hst⟩, hb⟩, fun q h => .inl h, uall, rfl⟩
    · rw [u61.at b39' t5]; simp [diskC, act]
    · show Vc.Own _ _ _ _ _ _ _ ((drop x.waits t 0).map (turnW s t))
      rw [hdw]
      exact o39.upd u61 t8
end Go.Proofs.YtkhinnchplahlaaGreatDoor
end

section
set_option linter.unusedVariables false
set_option linter.unusedSimpArgs false
set_option maxRecDepth 100000
namespace Go.Proofs.YtkhinnchplahlaaGreatDoor
open Go Go.Vc Go.Proofs Go.Dk

/-- a disk in blocks that are newer than h0, which stands; blocks of F are none of its. -/
def StF (h0 : Heap) (F : Nat → Prop) (d : Nat) (x : D) (h : Heap) : Prop :=
  ∃ O, DiskAt h d x O ∧ (∀ q, O q → h0.size ≤ q ∧ ¬ F q) ∧ Keep h0.size h0 h ∧ ∀ q, F q → h0.size ≤ q ∧ q < h.size
section
variable {h0 h h' : Heap} {F G : Nat → Prop} {d : Nat} {x x' : D}
theorem St.frame (hs : St h0 d x h) : StF h0 (fun _ => False) d x h := let ⟨O, a, b, c⟩ := hs; ⟨O, a, fun q hq => ⟨b q hq, id⟩, c, fun _ h => h.elim⟩
theorem StF.base (hs : StF h0 F d x h) : Keep h0.size h0 h := let ⟨_, _, _, k, _⟩ := hs; k
theorem StF.lt (hs : StF h0 F d x h) {q : Nat} (hq : F q) : h0.size ≤ q ∧ q < h.size := let ⟨_, _, _, _, f⟩ := hs; f q hq
theorem StF.ok (hs : StF h0 F d x h) : Ok x := let ⟨_, a, _⟩ := hs; a.ok
theorem StF.box (hs : StF h0 F d x h) : h0.size ≤ d ∧ ¬ F d ∧ d < h.size := let ⟨_, a, b, _⟩ := hs; ⟨(b d a.box).1, (b d a.box).2, a.1 d a.box⟩
/-- other things have turned, or are new. -/
theorem StF.own (hs : StF h0 F d x h) (u : Upd F h h') (hg : ∀ q, G q → (F q ∨ h.size ≤ q) ∧ q < h'.size) : StF h0 G d x h' := by
  obtain ⟨O, a, b, k, f⟩ := hs
  refine ⟨O, a.upd u fun q hq => (b q hq).2, fun q hq => ⟨(b q hq).1, fun hG => ?_⟩, k.trans (u.keep k.size fun q hq => (f q hq).1), fun q hq => ?_⟩
  · rcases (hg q hG).1 with h1 | h1
    · exact (b q hq).2 h1
    · have := a.1 q hq; omega
  · obtain ⟨h1, h2⟩ := hg q hq
    exact ⟨h1.elim (fun h => (f q h).1) fun h => Nat.le_trans k.size h, h2⟩
theorem StF.keep (hs : StF h0 F d x h) (k : Keep h.size h h') : StF h0 F d x h' := hs.own (k.upd F) fun q hq => ⟨.inl hq, Nat.lt_of_lt_of_le (hs.lt hq).2 k.size⟩
end
end Go.Proofs.YtkhinnchplahlaaGreatDoor
end

section
set_option linter.unusedVariables false
set_option linter.unusedSimpArgs false
namespace Go.Proofs.YtkhinnchplahlaaGreatDoor
open Go Go.Vc Go.Proofs Go.Maps Go.Dk

theorem bytes_lt : ∀ (x y : List UInt8), Op.bytesLess x y = decide (x < y)
  | [], [] => rfl
  | [], b :: y => by simp [Op.bytesLess]
  | a :: x, [] => by simp [Op.bytesLess]
  | a :: x, b :: y => by
    rw [Op.bytesLess, bytes_lt x y]
    by_cases h1 : a < b
    · simp [h1, List.cons_lt_cons_iff]
    · by_cases h2 : a = b
      · subst h2; simp [List.cons_lt_cons_iff]
      · simp [h1, h2, List.cons_lt_cons_iff]

def readN (_ : Value) : Option (DataW Unit × List MemPlace) := some (.nil, [])
theorem key_string {s : Str} (h : s.size ≤ 9223372036854775807) : keyOf Tryz.prog 9 (.string s) = some (.string s.data.toList) := by
  have : s.size ≤ maxLen := by unfold maxLen; omega
  simp [keyOf, undS, mapKey, this]
theorem str_data {a b : Str} (h : a.data.toList = b.data.toList) : a = b := by
  cases a; cases b; congr 1; exact Array.toList_inj.1 h
theorem owns_of {w : World} {r : Nat} {m : List (Str × Int)} (hma : MapAt Mc w.heap r m) (hbd : ∀ s ∈ mKeys m, s.size ≤ 9223372036854775807) (hl : m.length ≤ 1073741824) :
    ∃ D, w.ownsMap Tryz.prog 9 readN r m.length D ∧ (strKeys D).Perm ((mKeys m).map fun s => s.data.toList) ∧ Maps.size D = m.length := by
  obtain ⟨es, clock, hb, he, hn, hc, hbn⟩ := hma
  have hlen : es.size = m.length := by have := congrArg List.length he; simpa using this
  have hkeys : es.toList.map (·.key) = (mKeys m).map Value.string := by
    have := congrArg (List.map Prod.fst) he
    rw [List.map_map, List.map_map] at this
    unfold mKeys
    rw [List.map_map]
    exact this
  have hrd : ∀ x ∈ es.toList, ∃ s ∈ mKeys m, x.key = .string s ∧ Go.WideElems.rd Tryz.prog 9 readN x = some (.string s.data.toList, .nil) := fun x hx => by
    have hm : x.key ∈ es.toList.map (·.key) := List.mem_map_of_mem hx
    rw [hkeys] at hm
    obtain ⟨s, hs, e⟩ := List.mem_map.1 hm
    refine ⟨s, hs, e.symm, ?_⟩
    unfold Go.WideElems.rd
    rw [← e, key_string (hbd s hs)]
    rfl
  refine ⟨_, ⟨es, clock, hb, ⟨by unfold maxLen; omega, ⟨hc, hbn, ?_⟩, fun x hx => ?_⟩, by omega, rfl⟩, ?_, ?_⟩
  · rw [hkeys]
    exact hn.map _ (fun a b h e => h (by cases e; rfl))
  · obtain ⟨s, _, _, h⟩ := hrd x hx; exact ⟨_, h⟩
  · have h1 := (Go.WideShapes.sorted_perm (es.toList.map (Go.WideElems.rg Tryz.prog 9 readN))).map (fun p => strOf p.1)
    refine h1.trans (List.Perm.of_eq ?_)
    rw [List.map_map]
    have : (mKeys m).map (fun s => s.data.toList) = (es.toList.map (·.key)).map (fun v => match v with | .string s => s.data.toList | _ => []) := by
      rw [hkeys, List.map_map]; rfl
    rw [this, List.map_map]
    refine List.map_congr_left fun x hx => ?_
    obtain ⟨s, _, e, h⟩ := hrd x hx
    simp only [Function.comp, Go.WideElems.rg, h, e, Option.getD_some]
    rfl
  · show (List.foldr DataW.insert [] _).length = _
    rw [(Go.WideShapes.sorted_perm _).length_eq, List.length_map, Array.length_toList]; exact hlen

/-- the keys, sorted by bytes, as a list by rising keys. -/
theorem sorted_keys {m : List (Str × Int)} {ss : List (List UInt8)} (hn : (mKeys m).Nodup) (hp : ss.Perm ((mKeys m).map fun s => s.data.toList)) :
    Srt ((ss.mergeSort fun x y => decide (x ≤ y)).map fun l => (⟨l.toArray⟩ : Str)) ∧ (∀ q, q ∈ ((ss.mergeSort fun x y => decide (x ≤ y)).map fun l => (⟨l.toArray⟩ : Str)) ↔ q ∈ mKeys m) ∧
      ((ss.mergeSort fun x y => decide (x ≤ y)).map fun l => (⟨l.toArray⟩ : Str)).length = m.length := by
  have hperm := (List.mergeSort_perm ss fun x y => decide (x ≤ y)).trans hp
  have hnd : ((mKeys m).map fun s => s.data.toList).Nodup := hn.map _ fun a b h e => h (str_data e)
  have hnd' : (ss.mergeSort fun x y => decide (x ≤ y)).Nodup := (hperm.nodup_iff).2 hnd
  have hsorted := List.pairwise_mergeSort (le := fun x y : List UInt8 => decide (x ≤ y)) (fun a b c h1 h2 => by simp at *; exact List.le_trans h1 h2) (fun a b => by simpa using List.le_total a b) ss
  refine ⟨?_, fun q => ?_, ?_⟩
  · refine List.pairwise_map.2 ((hsorted.and hnd').imp fun {a b} h => ?_)
    obtain ⟨h1, h2⟩ := h
    show Op.bytesLess (ByteArray.toList ⟨a.toArray⟩) (ByteArray.toList ⟨b.toArray⟩) = true
    rw [ByteArray.toList_eq, ByteArray.toList_eq, bytes_lt]
    simp only [decide_eq_true_eq] at h1 ⊢
    exact Classical.byContradiction fun hlt => h2 (List.le_antisymm h1 (by simpa using hlt))
  · rw [List.mem_map]
    constructor
    · rintro ⟨l, hl, rfl⟩
      obtain ⟨s, hs, e⟩ := List.mem_map.1 ((hperm.mem_iff).1 hl)
      have : (⟨l.toArray⟩ : Str) = s := str_data (by simpa using e.symm)
      rw [this]; exact hs
    · intro hq
      refine ⟨q.data.toList, (hperm.mem_iff).2 (List.mem_map_of_mem hq), str_data (by simp)⟩
  · rw [List.length_map, hperm.length_eq, List.length_map]; simp [mKeys]
end Go.Proofs.YtkhinnchplahlaaGreatDoor
namespace Go.Proofs
open Go.RowKit Go.Maps Go.Sort Go.Shelf


section
open Go.Shelf
def Tryz.keysN_ren : Go.Shelf.Ren := ⟨fun | 7 => 117 | 10 => 158 | n => n, fun | 23 => 70 | 26 => 9 | 3 => 3 | 28 => 193 | 0 => 0 | 27 => 192 | 33 => 133 | 4 => 4 | n => n, fun | n => n⟩
theorem Tryz.keysN : Go.Proofs.SlLaysZ.n7 Tryz.prog Tryz.keysN_ren := {
  mixed := by kernel_rfl
  f7 := ⟨Tryz.f117.name, by decide, Tryz.func117.trans (congrArg some (by kernel_rfl))⟩
  f10 := ⟨Tryz.f158.name, by decide, Tryz.func158.trans (congrArg some (by kernel_rfl))⟩
  t0 := Tryz.underlying0
  a0 := Tryz.isAgg0
  z0 := Tryz.sizeOf0
  v0 := Tryz.zeroValue0
  t4 := Tryz.underlying4
  a4 := Tryz.isAgg4
  z4 := Tryz.sizeOf4
  v4 := Tryz.zeroValue4
  t23 := Tryz.underlying70
  a23 := Tryz.isAgg70
  z23 := Tryz.sizeOf70
  v23 := Tryz.zeroValue70
  t26 := Tryz.underlying9
  a26 := Tryz.isAgg9
  z26 := Tryz.sizeOf9
  v26 := Tryz.zeroValue9
  t27 := Tryz.underlying192
  a27 := Tryz.isAgg192
  z27 := Tryz.sizeOf192
  v27 := Tryz.zeroValue192
  t28 := Tryz.underlying193
  a28 := Tryz.isAgg193
  z28 := Tryz.sizeOf193
  v28 := Tryz.zeroValue193
  t33 := Tryz.underlying133
  a33 := Tryz.isAgg133
  z33 := Tryz.sizeOf133
  v33 := Tryz.zeroValue133 }
end
section
open Go.Shelf
def Tryz.sortedN_ren : Go.Shelf.Ren := ⟨fun | 6 => 116 | 8 => 156 | 9 => 157 | 11 => 185 | 13 => 143 | 12 => 186 | 23 => 178 | 24 => 179 | 14 => 200 | 15 => 201 | 16 => 202 | 17 => 203 | 18 => 204 | 19 => 205 | 20 => 206 | 21 => 207 | 22 => 208 | 25 => 217 | 26 => 192 | 27 => 193 | 28 => 218 | 29 => 219 | 30 => 141 | 31 => 224 | n => n, fun | 26 => 9 | 28 => 193 | 24 => 83 | 0 => 0 | 3 => 3 | 37 => 152 | 48 => 206 | 50 => 33 | 4 => 4 | 40 => 238 | 39 => 237 | 45 => 130 | 5 => 5 | 9 => 9 | 51 => 260 | 55 => 263 | 57 => 283 | 58 => 284 | 33 => 133 | n => n, fun | n => n⟩
theorem Tryz.sortedN : Go.Proofs.SlLaysZ.n6 Tryz.prog Tryz.sortedN_ren := {
  mixed := by kernel_rfl
  f6 := ⟨Tryz.f116.name, by decide, Tryz.func116.trans (congrArg some (by kernel_rfl))⟩
  f8 := ⟨Tryz.f156.name, by decide, Tryz.func156.trans (congrArg some (by kernel_rfl))⟩
  f11 := ⟨Tryz.f185.name, by decide, Tryz.func185.trans (congrArg some (by kernel_rfl))⟩
  t0 := Tryz.underlying0
  a0 := Tryz.isAgg0
  z0 := Tryz.sizeOf0
  v0 := Tryz.zeroValue0
  t24 := Tryz.underlying83
  a24 := Tryz.isAgg83
  z24 := Tryz.sizeOf83
  v24 := Tryz.zeroValue83
  t26 := Tryz.underlying9
  a26 := Tryz.isAgg9
  z26 := Tryz.sizeOf9
  v26 := Tryz.zeroValue9
  t28 := Tryz.underlying193
  a28 := Tryz.isAgg193
  z28 := Tryz.sizeOf193
  v28 := Tryz.zeroValue193
  i26 := by kernel_rfl }
end
section
open Go.Shelf
def Tryz.sortN_ren : Go.Shelf.Ren := ⟨fun | 6 => 157 | 8 => 143 | 9 => 186 | 19 => 178 | 20 => 179 | 21 => 200 | 22 => 201 | 23 => 202 | 24 => 203 | 25 => 204 | 26 => 205 | 27 => 206 | 28 => 207 | 29 => 208 | 36 => 217 | 31 => 192 | 32 => 193 | 37 => 218 | 38 => 219 | 39 => 141 | 41 => 224 | n => n, fun | 27 => 83 | 29 => 9 | 3 => 3 | 32 => 152 | 26 => 83 | 0 => 0 | 44 => 206 | 46 => 33 | 4 => 4 | 36 => 238 | 35 => 237 | 41 => 130 | 5 => 5 | 9 => 9 | 53 => 260 | 57 => 263 | 63 => 283 | 64 => 284 | n => n, fun | n => n⟩
theorem Tryz.sortN : Go.Proofs.SlLaysM.n6 Tryz.prog Tryz.sortN_ren := {
  mixed := by kernel_rfl
  f6 := ⟨Tryz.f157.name, by decide, Tryz.func157.trans (congrArg some (by kernel_rfl))⟩
  f8 := Tryz.func143.trans (congrArg some (by kernel_rfl))
  f9 := ⟨Tryz.f186.name, by decide, Tryz.func186.trans (congrArg some (by kernel_rfl))⟩
  f19 := Tryz.func178.trans (congrArg some (by kernel_rfl))
  f20 := Tryz.func179.trans (congrArg some (by kernel_rfl))
  f21 := ⟨Tryz.f200.name, by decide, Tryz.func200.trans (congrArg some (by kernel_rfl))⟩
  f22 := ⟨Tryz.f201.name, by decide, Tryz.func201.trans (congrArg some (by kernel_rfl))⟩
  f23 := ⟨Tryz.f202.name, by decide, Tryz.func202.trans (congrArg some (by kernel_rfl))⟩
  f24 := ⟨Tryz.f203.name, by decide, Tryz.func203.trans (congrArg some (by kernel_rfl))⟩
  f25 := ⟨Tryz.f204.name, by decide, Tryz.func204.trans (congrArg some (by kernel_rfl))⟩
  f26 := ⟨Tryz.f205.name, by decide, Tryz.func205.trans (congrArg some (by kernel_rfl))⟩
  f27 := ⟨Tryz.f206.name, by decide, Tryz.func206.trans (congrArg some (by kernel_rfl))⟩
  f28 := ⟨Tryz.f207.name, by decide, Tryz.func207.trans (congrArg some (by kernel_rfl))⟩
  f29 := ⟨Tryz.f208.name, by decide, Tryz.func208.trans (congrArg some (by kernel_rfl))⟩
  f31 := Tryz.func192.trans (congrArg some (by kernel_rfl))
  f32 := Tryz.func193.trans (congrArg some (by kernel_rfl))
  f36 := ⟨Tryz.f217.name, by decide, Tryz.func217.trans (congrArg some (by kernel_rfl))⟩
  f37 := ⟨Tryz.f218.name, by decide, Tryz.func218.trans (congrArg some (by kernel_rfl))⟩
  f38 := ⟨Tryz.f219.name, by decide, Tryz.func219.trans (congrArg some (by kernel_rfl))⟩
  f39 := ⟨Tryz.f141.name, by decide, Tryz.func141.trans (congrArg some (by kernel_rfl))⟩
  f41 := ⟨Tryz.f224.name, by decide, Tryz.func224.trans (congrArg some (by kernel_rfl))⟩
  t0 := Tryz.underlying0
  a0 := Tryz.isAgg0
  z0 := Tryz.sizeOf0
  v0 := Tryz.zeroValue0
  t3 := Tryz.underlying3
  a3 := Tryz.isAgg3
  z3 := Tryz.sizeOf3
  v3 := Tryz.zeroValue3
  t4 := Tryz.underlying4
  a4 := Tryz.isAgg4
  z4 := Tryz.sizeOf4
  v4 := Tryz.zeroValue4
  t5 := Tryz.underlying5
  a5 := Tryz.isAgg5
  z5 := Tryz.sizeOf5
  v5 := Tryz.zeroValue5
  t9 := Tryz.underlying9
  a9 := Tryz.isAgg9
  z9 := Tryz.sizeOf9
  v9 := Tryz.zeroValue9
  t26 := Tryz.underlying83
  a26 := Tryz.isAgg83
  z26 := Tryz.sizeOf83
  v26 := Tryz.zeroValue83
  t27 := Tryz.underlying83
  a27 := Tryz.isAgg83
  z27 := Tryz.sizeOf83
  v27 := Tryz.zeroValue83
  t29 := Tryz.underlying9
  a29 := Tryz.isAgg9
  z29 := Tryz.sizeOf9
  v29 := Tryz.zeroValue9
  t32 := Tryz.underlying152
  a32 := Tryz.isAgg152
  z32 := Tryz.sizeOf152
  v32 := Tryz.zeroValue152
  t35 := Tryz.underlying237
  a35 := Tryz.isAgg237
  z35 := Tryz.sizeOf237
  v35 := Tryz.zeroValue237
  t36 := Tryz.underlying238
  a36 := Tryz.isAgg238
  z36 := Tryz.sizeOf238
  v36 := Tryz.zeroValue238
  t41 := Tryz.underlying130
  a41 := Tryz.isAgg130
  z41 := Tryz.sizeOf130
  v41 := Tryz.zeroValue130
  t44 := Tryz.underlying206
  a44 := Tryz.isAgg206
  z44 := Tryz.sizeOf206
  v44 := Tryz.zeroValue206
  t46 := Tryz.underlying33
  a46 := Tryz.isAgg33
  z46 := Tryz.sizeOf33
  v46 := Tryz.zeroValue33
  t53 := Tryz.underlying260
  a53 := Tryz.isAgg260
  z53 := Tryz.sizeOf260
  v53 := Tryz.zeroValue260
  t57 := Tryz.underlying263
  a57 := Tryz.isAgg263
  z57 := Tryz.sizeOf263
  v57 := Tryz.zeroValue263
  t63 := Tryz.underlying283
  a63 := Tryz.isAgg283
  z63 := Tryz.sizeOf283
  v63 := Tryz.zeroValue283
  t64 := Tryz.underlying284
  a64 := Tryz.isAgg284
  z64 := Tryz.sizeOf284
  v64 := Tryz.zeroValue284 }
end


theorem Tryz.sortsN (m : Nat) : AnyZ.SortsIn Tryz.prog Tryz.sortedN_ren Fence.wide m :=
  ⟨fun blk off cap ss W hH hblk hsz => callsIn_wide.2 (AnyM.slices_Sort_string Tryz.sortN blk off cap ss W hH hblk hsz),
   fun p cap W => callsIn_wide.2 (AnyM.slices_Sort_string_none Tryz.sortN p cap W)⟩


theorem Tryz.maps_KeysN (mb : Option Nat) (W : World) : CallsIn Fence.wide 5 Tryz.prog 117 #[.map mb] W fun e w' => e = .returned (.func (.func 158) #[] #[.pointer (some ⟨W.heap.size, 0, none⟩)]) ∧ w' = W.alloc (.cells #[.map mb] 70) :=
  AnyZ.keys_in Tryz.keysN Fence.wide 5 trivial rfl mb W

set_option maxHeartbeats 1000000 in
theorem Tryz.slices_Sorted_keysN {H : Type} (b nn : Nat) (D0 : DataW H) (R : Value → Option (DataW H × List MemPlace)) (w : World) (hown : w.ownsMap Tryz.prog 9 R b nn D0) (hmax : Maps.size D0 ≤ maxLen) (hbytes : Maps.size D0 * 16 ≤ 140737488355328) :
    CallsIn Fence.wide 5 Tryz.prog 116 #[.func (.func 158) #[] #[.pointer (some ⟨w.heap.size, 0, none⟩)]] (w.alloc (.cells #[.map (some b)] 70)) fun e w' => ∃ (v : Value) (ss : List (List UInt8)), e = .returned v ∧ ss.Perm (strKeys D0) ∧
      w'.ownsRow (w.alloc (.cells #[.map (some b)] 70)).heap.size 9 1 v ss.length ((ss.mergeSort (fun x y => decide (x ≤ y))).map encStr) ∧ (v = .slice none 0 0 ↔ ss = []) ∧ Below (w.alloc (.cells #[.map (some b)] 70)).heap.size (w.alloc (.cells #[.map (some b)] 70)) w' := by
  have hbl := hown.lt
  have hseq : SeqGives Fence.wide 2 Tryz.prog 158 #[.pointer (some ⟨w.heap.size, 0, none⟩)] encStr (fun ss => ss.Perm (strKeys D0)) (Maps.size D0) (w.alloc (.cells #[.map (some b)] 70)) :=
    AnyZ.keys_gives (ρ := Tryz.keysN_ren) { Tryz.keysN with } Fence.wide _ trivial rfl (by omega) w.heap.size b nn D0 _ (by simp) (by simp) (by
      obtain ⟨es, clock, hb, Ft, hs, hD⟩ := hown
      exact ⟨es, clock, (Below.heap_alloc _ _ b hbl).trans hb, Ft, hs, hD⟩)
  exact AnyZ.sorted_in Tryz.sortedN Fence.wide 5 trivial trivial trivial trivial rfl (by omega) (Tryz.sortsN _) (enters_of Tryz.func157 (by kernel_rfl) rfl) 158 #[.pointer (some ⟨w.heap.size, 0, none⟩)] trivial (enters_of Tryz.func158 (by kernel_rfl) rfl) _ _ hmax hbytes _ hseq

end Go.Proofs
set_option linter.unusedVariables false
set_option linter.unusedSimpArgs false
namespace Go.Proofs.YtkhinnchplahlaaGreatDoor
open Go Go.Vc Go.Proofs Go.Maps Go.Dk

theorem sl_of_row {w : World} {base : Nat} {v : Value} {ls : List (List UInt8)} (h : w.ownsRow base 9 1 v ls.length (ls.map encStr)) :
    ∃ a c, v = .slice a ls.length c ∧ Sl StrE w.heap a ls.length (ls.map fun l => (⟨l.toArray⟩ : Str)) := by
  obtain ⟨_, ⟨rfl, h0⟩ | ⟨g, cap, cur, rfl, _, hb, _, _, _, ht⟩⟩ := h
  · have : ls = [] := List.eq_nil_of_length_eq_zero h0
    subst this
    exact ⟨_, _, rfl, Sl.nil _ _⟩
  · refine ⟨_, _, rfl, by simp, .inr ⟨_, rfl, fun i x hx j u hu => ?_⟩⟩
    rw [List.getElem?_map] at hx
    cases hl : ls[i]? with
    | none => rw [hl] at hx; cases hx
    | some l =>
      rw [hl] at hx
      simp at hx
      subst hx
      have hi := (List.getElem?_eq_some_iff.1 hl).1
      match j, hu with
      | 0, hu =>
        simp [StrE] at hu
        subst hu
        rw [Addr.add_row, cell_at hb]
        have : (ls.map encStr)[i]? = some (encStr l) := by rw [List.getElem?_map, hl]; rfl
        rw [← ht, List.getElem?_take, if_pos (by omega)] at this
        have e : 0 + (i * StrE.sz + 0) = i := by show 0 + (i * 1 + 0) = i; omega
        rw [e, ← Array.getElem?_toList]
        exact this
      | j + 1, hu => simp [StrE] at hu

theorem sortedKeys {h : Heap} {r : Nat} {m : List (Str × Int)} (hma : MapAt Mc h r m) (hn : m.length ≤ 1073741824) (hbd : ∀ s ∈ mKeys m, s.size ≤ 9223372036854775807) :
    HC Tryz.prog 117 #[.map (some r)] h fun v h1 => Keep h.size h h1 ∧
      HC Tryz.prog 116 #[v] h1 fun v2 h2 => Keep h1.size h1 h2 ∧ ∃ a c K, Srt K ∧ (∀ q, q ∈ K ↔ q ∈ mKeys m) ∧ K.length = m.length ∧ v2 = .slice a K.length c ∧ Sl StrE h2 a K.length K := by
  refine ⟨fun w hw => ?_⟩
  subst hw
  refine (callsIn_wide.1 (Tryz.maps_KeysN (some r) w)).mono ?_
  rintro e w' ⟨rfl, rfl⟩
  refine ⟨_, rfl, Sane.push rfl, Keep.push _ _ _ (Nat.le_refl _), ⟨fun w2 hw2 => ?_⟩⟩
  obtain ⟨w0, hh, rfl⟩ : ∃ w0 : World, w0.heap = w.heap ∧ w2 = w0.alloc (.cells #[.map (some r)] 70) :=
    ⟨{ w2 with heap := w.heap }, rfl, by cases w2; simp only [World.alloc] at hw2 ⊢; subst hw2; rfl⟩
  rw [← hh] at hma ⊢
  obtain ⟨D, hown, hp0, hsz⟩ := owns_of (w := w0) hma hbd hn
  refine (callsIn_wide.1 (Tryz.slices_Sorted_keysN (H := Unit) r m.length D readN w0 hown (by rw [hsz]; unfold maxLen; omega) (by rw [hsz]; omega))).mono ?_
  rintro e w' ⟨v, ss, rfl, hp, hrow, hnil, hb⟩
  have hnd : (mKeys m).Nodup := by obtain ⟨_, _, _, _, h, _⟩ := hma; exact h
  obtain ⟨s1, s2, s3⟩ := sorted_keys hnd (hp.trans hp0)
  have hl : ss.length = (ss.mergeSort fun x y => decide (x ≤ y)).length := by simp
  rw [hl] at hrow
  obtain ⟨a, c, rfl, hsl⟩ := sl_of_row hrow
  have kp := Keep.push w0.heap.size w0.heap (.cells #[.map (some r)] 70) (Nat.le_refl _)
  refine ⟨_, rfl, ⟨hb.tape, hb.os, hb.output, hb.size, fun k o hk _ => (hb.block k (Array.getElem?_eq_some_iff.1 hk).1).trans hk⟩, (by show Keep (w.heap.push _).size (w.heap.push _) _; rw [← hh]; exact ⟨hb.size, hb.block⟩), a, c, _, s1, s2, s3, ?_, ?_⟩
  · simp
  · simpa using hsl
end Go.Proofs.YtkhinnchplahlaaGreatDoor
end

section
set_option linter.unusedVariables false
set_option linter.unusedSimpArgs false
set_option maxRecDepth 100000
namespace Go.Proofs.YtkhinnchplahlaaGreatDoor
open Go Go.Vc Go.Proofs Go.Dk

section
variable {h h' : Heap} {d : Nat} {x x' : D} {S O N N' : Nat → Prop}
theorem SideAt.updM {c p : Nat} {F : Fs} (hs : SideAt h c p F) (u : UpdM S h h') (hc : ¬ S c) (hp : ¬ S p) : SideAt h' c p F := by
  obtain ⟨mc, mp, h1, h2, h3⟩ := hs
  exact ⟨mc, mp, h1.updM u hc, h2.updM u hp, h3⟩
theorem DiskAt.updM (hd : DiskAt h d x O) (u : UpdM S h h') (hs : ∀ b, O b → ¬ S b) : DiskAt h' d x O := by
  obtain ⟨hO, c1, p1, c2, p2, A, n, c, hp, hb⟩ := hd
  have hs' : ∀ b, blks d c1 p1 c2 p2 A b → ¬ S b := fun b h0 => hs b (hb b h0)
  exact ⟨fun b h0 => Nat.lt_of_lt_of_le (hO b h0) u.size, c1, p1, c2, p2, A, n, c,
    ⟨u.cells hp.box (hs' d (.inl rfl)), hp.now.updM u (hs' _ (.inr (.inl rfl))) (hs' _ (.inr (.inr (.inl rfl)))), hp.safe.updM u (hs' _ (.inr (.inr (.inr (.inl rfl))))) (hs' _ (.inr (.inr (.inr (.inr (.inl rfl)))))),
      hp.waits.updM u (fun b hb => hs' b (.inr (.inr (.inr (.inr (.inr hb)))))), hp.nd, hp.ok⟩, hb⟩
/-- a disk none of whose blocks is of N. -/
def DN (N : Nat → Prop) (d : Nat) (x : D) (h : Heap) : Prop := ∃ O, DiskAt h d x O ∧ (∀ q, O q → ¬ N q) ∧ ∀ q, N q → q < h.size
/-- what a call of the disk leaves: the disk, and all of N. -/
structure Stp (N : Nat → Prop) (d : Nat) (x' : D) (h h' : Heap) : Prop where
  dn : DN N d x' h'
  up : UpdM (fun q => ¬ N q) h h'
theorem DN.ok (hs : DN N d x h) : Ok x := let ⟨_, a, _⟩ := hs; a.ok
theorem DN.lt (hs : DN N d x h) {q : Nat} (hq : N q) : q < h.size := let ⟨_, _, _, f⟩ := hs; f q hq
theorem DN.box (hs : DN N d x h) : ¬ N d ∧ d < h.size := let ⟨_, a, b, _⟩ := hs; ⟨b d a.box, a.1 d a.box⟩
/-- other things have turned, or are new. -/
theorem DN.own (hs : DN N d x h) (u : UpdM S h h') (hS : ∀ q, q < h.size → S q → N q) (hg : ∀ q, N' q → (N q ∨ h.size ≤ q) ∧ q < h'.size) : DN N' d x h' := by
  obtain ⟨O, a, b, f⟩ := hs
  refine ⟨O, a.updM u fun q hq hs => b q hq (hS q (a.1 q hq) hs), fun q hq hN => ?_, fun q hq => (hg q hq).2⟩
  rcases (hg q hN).1 with h1 | h1
  · exact b q hq h1
  · have := a.1 q hq; omega
theorem DN.keepM (hs : DN N d x h) (u : UpdM S h h') (hS : ∀ q, q < h.size → S q → N q) : DN N d x h' := hs.own u hS fun q hq => ⟨.inl hq, Nat.lt_of_lt_of_le (hs.lt hq) u.size⟩
theorem DN.keep (hs : DN N d x h) (k : Keep h.size h h') : DN N d x h' := hs.keepM (S := fun _ => False) k.m fun _ _ h => h.elim
theorem DN.sub (hs : DN N d x h) (hg : ∀ q, N' q → N q) : DN N' d x h := hs.own (UpdM.refl (fun _ => False) _) (fun _ _ h => h.elim) fun q hq => ⟨.inl (hg q hq), hs.lt (hg q hq)⟩
theorem StF.dn {h0 : Heap} {F : Nat → Prop} (hs : StF h0 F d x h) : DN (fun q => q < h0.size ∨ F q) d x h := by
  obtain ⟨O, a, b, k, f⟩ := hs
  exact ⟨O, a, fun q hq hN => hN.elim (fun h1 => by have := (b q hq).1; omega) (b q hq).2, fun q hq => hq.elim (fun h1 => Nat.lt_of_lt_of_le h1 k.size) fun h1 => (f q h1).2⟩
theorem DN.step (h1 : DiskAt h d x O) (h2 : ∀ q, O q → ¬ N q) (h3 : ∀ q, N q → q < h.size)
    (r : ∃ O', DiskAt h' d x' O' ∧ (∀ q, O' q → O q ∨ h.size ≤ q) ∧ Upd O h h') : Stp N d x' h h' := by
  obtain ⟨O', a, b, c⟩ := r
  refine ⟨⟨O', a, fun q hq hN => ?_, fun q hq => Nat.lt_of_lt_of_le (h3 q hq) c.size⟩, c.m.mono h2⟩
  rcases b q hq with h5 | h5
  · exact h2 q h5 hN
  · have := h3 q hN; omega
theorem DN.write (hs : DN N d x h) {s b : Str} {i : Int} {A : Option Addr} {n c : Nat} (hsl : Sl ByteE h A n (bytesL b)) (hA : n ≠ 0 → ∀ q, blk A q → N q) (hw : x.waits.length < 1073741824) :
    HC Tryz.prog 81 #[.pointer (some ⟨d, 0, none⟩), .string s, .int .i64 i, .slice A n c] h fun v h' => Stp N d (Dk.write x s i b).2 h h' ∧ v = .int .i64 (Dk.write x s i b).1 := by
  obtain ⟨O, h1, h2, h3⟩ := hs
  exact (write_spec0 h1 hsl (fun hn q hq hO => h2 q hO (hA hn q hq)) hw).mono fun v h' ⟨O', a, b, c, e⟩ => ⟨DN.step h1 h2 h3 ⟨O', a, b, c⟩, e⟩
theorem DN.off (hs : DN N d x h) {keep : Int} (hk : 0 ≤ keep ∧ keep < 18446744073709551616) (hw : x.waits.length ≤ 1073741824) :
    HC Tryz.prog 31 #[.pointer (some ⟨d, 0, none⟩), .int .u64 keep] h fun v h' => Stp N d (Dk.off keep x) h h' ∧ v = .tuple #[] := by
  obtain ⟨O, h1, h2, h3⟩ := hs
  exact (off_spec h1 hk hw).mono fun v h' ⟨O', a, b, c, e⟩ => ⟨DN.step h1 h2 h3 ⟨O', a, b, c⟩, e⟩
theorem DN.on (hs : DN N d x h) : HC Tryz.prog 32 #[.pointer (some ⟨d, 0, none⟩)] h fun v h' => Stp N d (Dk.on x) h h' ∧ v = .tuple #[] := by
  obtain ⟨O, h1, h2, h3⟩ := hs
  exact (on_spec h1).mono fun v h' ⟨a, c, e⟩ => ⟨DN.step h1 h2 h3 ⟨O, a, fun q h => .inl h, c⟩, e⟩
theorem DN.sync (hs : DN N d x h) {s : Str} (hw : x.waits.length ≤ 1073741824) :
    HC Tryz.prog 83 #[.pointer (some ⟨d, 0, none⟩), .string s] h fun v h' => Stp N d (Dk.sync x s).2 h h' ∧ v = .int .i64 (Dk.sync x s).1 := by
  obtain ⟨O, h1, h2, h3⟩ := hs
  exact (sync_spec h1 hw).mono fun v h' ⟨O', a, b, c, e⟩ => ⟨DN.step h1 h2 h3 ⟨O', a, b, c⟩, e⟩
theorem DN.remove (hs : DN N d x h) {s : Str} (hw : x.waits.length ≤ 1073741824) :
    HC Tryz.prog 75 #[.pointer (some ⟨d, 0, none⟩), .string s] h fun v h' => Stp N d (Dk.remove x s).2 h h' ∧ v = .int .i64 (Dk.remove x s).1 := by
  obtain ⟨O, h1, h2, h3⟩ := hs
  exact (remove_spec h1 hw).mono fun v h' ⟨O', a, b, c, e⟩ => ⟨DN.step h1 h2 h3 ⟨O', a, b, c⟩, e⟩
theorem DN.rename (hs : DN N d x h) {s t : Str} (hw : x.waits.length ≤ 1073741824) :
    HC Tryz.prog 140 #[.pointer (some ⟨d, 0, none⟩), .string s, .string t] h fun v h' => Stp N d (Dk.rename x s t).2 h h' ∧ v = .int .i64 (Dk.rename x s t).1 := by
  obtain ⟨O, h1, h2, h3⟩ := hs
  exact (rename_spec h1 hw).mono fun v h' ⟨O', a, b, c, e⟩ => ⟨DN.step h1 h2 h3 ⟨O', a, b, c⟩, e⟩
theorem DN.count (hs : DN N d x h) (s : Str) : HC Tryz.prog 76 #[.pointer (some ⟨d, 0, none⟩), .string s] h fun v h' => h' = h ∧ v = .int .i64 (Dk.count x s) := by
  obtain ⟨O, h1, _⟩ := hs; exact count_spec h1 s
theorem DN.has (hs : DN N d x h) (s : Str) : HC Tryz.prog 66 #[.pointer (some ⟨d, 0, none⟩), .string s] h fun v h' => h' = h ∧ v = .bool (Dk.has x s) := by
  obtain ⟨O, h1, _⟩ := hs; exact has_spec h1 s
theorem DN.free (hs : DN N d x h) : HC Tryz.prog 92 #[.pointer (some ⟨d, 0, none⟩)] h fun v h' => Keep h.size h h' ∧ v = .int .i64 (Dk.free x) := by
  obtain ⟨O, h1, _⟩ := hs
  exact free_spec h1
theorem DN.read (hs : DN N d x h) (s : Str) (i : Int) : HC Tryz.prog 77 #[.pointer (some ⟨d, 0, none⟩), .string s, .int .i64 i] h
    fun v h' => Keep h.size h h' ∧ ∃ b m, v = .tuple #[.slice (if m = 0 then none else some ⟨b, 0, none⟩) m m, .int .i64 (Dk.read x s i).2] ∧ m = (Dk.read x s i).1.size ∧ h.size ≤ b ∧
        (m ≠ 0 → h'[b]? = some (.cells (((bytesL (Dk.read x s i).1).map fun b => Value.int .u8 (b.toNat : Nat))).toArray 126 (0, 0))) := by
  obtain ⟨O, h1, _⟩ := hs
  exact read_spec h1 s i
theorem DN.down (hs : DN N d x h) : HC Tryz.prog 34 #[.pointer (some ⟨d, 0, none⟩)] h fun v h' => h' = h ∧ v = .bool x.down := by
  obtain ⟨O, hd, _⟩ := hs
  obtain ⟨hO, c1, p1, c2, p2, A, n, c, hp, hb⟩ := hd
  refine HC_of_vc (args := [.pointer (some ⟨d, 0, none⟩)]) (base := 11) (cuts := []) (bigs := []) hm Tryz.func34 ?_
  rw [vcDown]
  exact ⟨_, reads_neq_nil undD, _, fun _ => rfl, _, fun _ => reads_load scB (hp.rd rfl), rfl, rfl⟩
end
end Go.Proofs.YtkhinnchplahlaaGreatDoor
end

section
set_option linter.unusedSimpArgs false
set_option linter.unusedVariables false
set_option maxRecDepth 20000
namespace Go.Cd
open Go Go.Vc

/-- a number's bytes, read: from the i-th on. -/
def rdU : Nat → Nat → List UInt8 → Option (Nat × List UInt8)
  | _, _, [] => none
  | i, a, c :: l => if (i = 9 ∧ 1 < c.toNat) ∨ (0 < i ∧ c.toNat = 0) then none else if c.toNat < 128 then some (a + c.toNat * 128 ^ i, l) else rdU (i + 1) (a + (c.toNat - 128) * 128 ^ i) l
/-- what stands in a reader: the bytes that are left, or a fault. -/
abbrev Rs := Option (List UInt8)
def rUint : Rs → Nat × Rs
  | none => (0, none)
  | some l => match rdU 0 0 l with | none => (0, none) | some (n, r) => (n, some r)
def unzig (n : Nat) : Int := if n % 2 = 0 then ((n / 2 : Nat) : Int) else -((n / 2 : Nat) : Int) - 1
def rInt (o : Rs) : Int × Rs := (unzig (rUint o).1, (rUint o).2)
def rIn (lo hi : Int) (o : Rs) : Int × Rs := match rInt o with
  | (_, none) => (0, none)
  | (n, some l) => if n < lo ∨ hi < n then (0, none) else (n, some l)
def rTake (n : Int) : Rs → ByteArray × Rs
  | none => (⟨#[]⟩, none)
  | some l => if n < 0 ∨ (l.length : Int) < n then (⟨#[]⟩, none) else (⟨(l.take n.toNat).toArray⟩, some (l.drop n.toNat))
def rText (most : Int) (o : Rs) : ByteArray × Rs := match rUint o with
  | (n, o') => if most < 0 ∨ most < (n : Int) then (⟨#[]⟩, none) else rTake n o'
/-- a number's bytes read as the number. -/
theorem rdU_uintB : ∀ (n i a : Nat) (r : List UInt8), (0 < i → 0 < n) → n * 128 ^ i < 18446744073709551616 → i ≤ 9 → rdU i a (uintB n ++ r) = some (a + n * 128 ^ i, r) := by
  intro n
  induction n using Nat.strongRecOn with | ind n ih =>
  intro i a r hi hb h9
  have e9 : (128 : Nat) ^ 9 = 9223372036854775808 := by decide
  by_cases hs : n < 128
  · rw [uintB_small hs]
    have ht : (UInt8.ofNat n).toNat = n := by rw [UInt8.toNat_ofNat']; omega
    show rdU i a (UInt8.ofNat n :: r) = _
    unfold rdU
    rw [ht, if_neg, if_pos hs]
    rintro (⟨rfl, h1⟩ | ⟨h1, h2⟩)
    · rw [e9] at hb; omega
    · have := hi h1; omega
  · rw [uintB_big hs]
    have ht : (UInt8.ofNat (n % 128 + 128)).toNat = n % 128 + 128 := by rw [UInt8.toNat_ofNat']; omega
    show rdU i a (UInt8.ofNat (n % 128 + 128) :: (uintB (n / 128) ++ r)) = _
    have h8 : i ≤ 8 := by
      rcases Nat.lt_or_ge i 9 with h | h
      · omega
      · have : i = 9 := by omega
        subst this
        rw [e9] at hb; omega
    unfold rdU
    rw [ht, if_neg (by omega), if_neg (by omega)]
    have hn : n = 128 * (n / 128) + n % 128 := by omega
    have hpow : (128 : Nat) ^ (i + 1) = 128 ^ i * 128 := Nat.pow_succ ..
    have hb' : n / 128 * 128 ^ (i + 1) < 18446744073709551616 := by
      rw [hpow]
      have h1 : n / 128 * (128 ^ i * 128) = (n / 128 * 128) * 128 ^ i := by
        rw [Nat.mul_comm (128 ^ i) 128, ← Nat.mul_assoc]
      rw [h1]
      exact Nat.lt_of_le_of_lt (Nat.mul_le_mul_right _ (by omega)) hb
    rw [ih (n / 128) (by omega) (i + 1) _ r (fun _ => by omega) hb' (by omega)]
    have h2 : n % 128 + 128 - 128 = n % 128 := by omega
    rw [h2, hpow]
    have h3 : n * 128 ^ i = n % 128 * 128 ^ i + n / 128 * (128 ^ i * 128) := by
      have h4 : n / 128 * (128 ^ i * 128) = (128 * (n / 128)) * 128 ^ i := by
        rw [Nat.mul_comm (128 ^ i) 128, ← Nat.mul_assoc, Nat.mul_comm (n / 128) 128]
      rw [h4, ← Nat.add_mul]
      congr 1; omega
    rw [h3]
    congr 2
    omega
theorem rUint_uintB {n : Nat} (h : n < 18446744073709551616) (r : List UInt8) : rUint (some (uintB n ++ r)) = (n, some r) := by
  unfold rUint
  dsimp only
  rw [rdU_uintB n 0 0 r (fun h => absurd h (by decide)) (by simpa using h) (by omega)]
  simp
theorem rInt_uintB {n : Nat} (h : n < 9223372036854775808) (r : List UInt8) : rInt (some (uintB (2 * n) ++ r)) = ((n : Int), some r) := by
  unfold rInt
  rw [rUint_uintB (by omega)]
  unfold unzig
  rw [if_pos (by omega)]
  congr 2
  omega
theorem rText_textB {s : ByteArray} {most : Int} (h : (s.size : Int) ≤ most) (hs : s.size < 18446744073709551616) (r : List UInt8) : rText most (some (textB s ++ r)) = (s, some r) := by
  have hb : (bytesL s).length = s.size := by show s.data.toList.length = s.data.size; rw [Array.length_toList]
  unfold rText textB
  rw [List.append_assoc, rUint_uintB hs]
  dsimp only
  rw [if_neg (by omega)]
  unfold rTake
  dsimp only
  rw [if_neg (by rw [List.length_append, hb]; omega), Int.toNat_natCast]
  congr 1
  · cases s
    rw [List.take_append_of_le_length (by rw [hb]; exact Nat.le_refl _), List.take_of_length_le (by rw [hb]; exact Nat.le_refl _)]
  · rw [← hb, List.drop_left]
end Go.Cd
namespace Go.Cd
open Go Go.Vc
/-- the record at the beginning of bytes, and how many bytes it takes. -/
def nextF (bs : List UInt8) : Option (ByteArray × Nat) := match rText bs.length (some bs) with
  | (_, none) => none
  | (s, some _) => if bs.length < (uintB s.size).length + s.size + 4 then none else
    if (bs.drop ((uintB s.size).length + s.size)).take 4 = sumB (crc (bs.take ((uintB s.size).length + s.size))) then some (s, (uintB s.size).length + s.size + 4) else none
theorem nextF_len {bs : List UInt8} {s : ByteArray} {m : Nat} (h : nextF bs = some (s, m)) : 5 ≤ m ∧ m ≤ bs.length ∧ s.size ≤ m := by
  unfold nextF at h
  split at h
  · cases h
  · split at h
    · cases h
    · split at h
      · cases h
        have := uintB_pos s.size
        omega
      · cases h
theorem nextF_frame (s : ByteArray) (hs : s.size < 18446744073709551616) (r : List UInt8) : nextF (frameB s ++ r) = some (s, (frameB s).length) := by
  have hl := textB_len s
  have hfl := frameB_len s
  have e : rText ((frameB s ++ r).length : Int) (some (frameB s ++ r)) = (s, some (sumB (crc (textB s)) ++ r)) := by
    unfold frameB
    rw [List.append_assoc]
    exact rText_textB (by simp only [List.length_append]; omega) hs _
  unfold nextF
  rw [e]
  dsimp only
  rw [if_neg (by rw [List.length_append, hfl]; omega), if_pos]
  · rw [hfl, hl]
  · have e1 : frameB s ++ r = textB s ++ (sumB (crc (textB s)) ++ r) := by unfold frameB; rw [List.append_assoc]
    rw [e1, ← hl, List.drop_left, List.take_left]
    have : (sumB (crc (textB s))).length = 4 := rfl
    rw [← this, List.take_left]
/-- all records, one behind the other. -/
def splitN : Nat → List UInt8 → List ByteArray
  | 0, _ => []
  | k + 1, bs => match nextF bs with | none => [] | some (s, m) => s :: splitN k (bs.drop m)
def splitL (bs : List UInt8) : List ByteArray := splitN (bs.length + 1) bs
/-- how long a number's bytes are, by its bits. -/
theorem uintB_len_ge : ∀ (k n : Nat), 128 ^ k ≤ n → k + 1 ≤ (uintB n).length
  | 0, n, _ => uintB_pos n
  | k + 1, n, h => by
    have h1 : (128 : Nat) ^ (k + 1) = 128 ^ k * 128 := Nat.pow_succ ..
    have hp : 0 < (128 : Nat) ^ k := Nat.pow_pos (by decide)
    have hn : ¬ n < 128 := by omega
    rw [uintB_big hn, List.length_cons]
    have := uintB_len_ge k (n / 128) (by rw [h1] at h; exact (Nat.le_div_iff_mul_le (by decide)).2 h)
    omega
theorem size_bits {n x k : Nat} (hx : x = if n % 2 = 0 then n + 1 else n) (h1 : 2 ^ (k - 1) ≤ x) (h2 : x < 2 ^ k) (hk : 1 ≤ k) : (uintB n).length = (k + 6) / 7 := by
  have ep : ∀ j, (128 : Nat) ^ j = 2 ^ (7 * j) := fun j => by rw [Nat.pow_mul]
  obtain ⟨L, hL⟩ : ∃ L, (k + 6) / 7 = L + 1 := ⟨(k + 6) / 7 - 1, by omega⟩
  rw [hL]
  have hnx : n ≤ x := by rw [hx]; split <;> omega
  have up : n < 128 ^ (L + 1) := by
    rw [ep]
    exact Nat.lt_of_le_of_lt hnx (Nat.lt_of_lt_of_le h2 (Nat.pow_le_pow_right (by decide) (by omega)))
  have lo : 128 ^ L ≤ x := by
    rw [ep]
    exact Nat.le_trans (Nat.pow_le_pow_right (by decide) (by omega)) h1
  have lo' : L = 0 ∨ 128 ^ L ≤ n := by
    rcases Nat.eq_zero_or_pos L with h | h
    · exact .inl h
    · right
      obtain ⟨L', rfl⟩ : ∃ L', L = L' + 1 := ⟨L - 1, by omega⟩
      have e : (128 : Nat) ^ (L' + 1) = 2 * (64 * 128 ^ L') := by rw [Nat.pow_succ]; omega
      rw [e] at lo ⊢
      rw [hx] at lo
      split at lo <;> omega
  have a := uintB_len L n up
  rcases lo' with h | h
  · subst h
    have := uintB_pos n
    omega
  · have := uintB_len_ge L n h
    omega
end Go.Cd
namespace Go.Cd
open Go Go.Vc
end Go.Cd
end

section
set_option linter.unusedVariables false
set_option maxRecDepth 100000
namespace Go.Proofs.YtkhinnchplahlaaGreatDoor
open Go Go.Vc Go.Proofs

theorem vcFail (r : Nat) (h : Heap) (R : Value → Heap → Prop) :
    vcF Tryz.prog Tryz.f133 10 [] [] [.pointer (some ⟨r, 0, none⟩)] h R =
(∃ (b0 : Bool),
 Reads Tryz.prog (eqSem BinOp.neq (159 : Nat) (Operand.tmp (2 : Nat)) (Operand.const (Value.pointer none)) (Value.pointer (some (Addr.mk r (0 : Nat) none))) (Value.pointer none)) h (Value.bool b0) ∧
 br b0
 (∃ (p1 : Addr),
 some (Addr.mk r (0 : Nat) none) = some p1 ∧
 SVC Tryz.prog (Instr.storeAt (4 : Nat) (Value.pointer (some (p1.add (1 : Nat)))) (Value.bool true)) h fun (x2 : Unit) (h3 : Heap) =>
 ∃ (p4 : Addr),
 some (Addr.mk r (0 : Nat) none) = some p4 ∧
 SVC Tryz.prog (Instr.storeAt (146 : Nat) (Value.pointer (some p4)) (Value.slice none (0 : Nat) (0 : Nat))) h3 fun (x5 : Unit) (h6 : Heap) => R (Value.tuple (Array.mk [])) h6)
 (R (Value.tuple (Array.mk [])) h)) := by kernel_rfl

theorem vcRdUint (r : Nat) (h : Heap) (R : Value → Heap → Prop) :
    vcF Tryz.prog Tryz.f87 56 [] [] [.pointer (some ⟨r, 0, none⟩)] h R =
(∃ (b0 : Bool),
 Reads Tryz.prog (eqSem BinOp.eql (159 : Nat) (Operand.tmp (6 : Nat)) (Operand.const (Value.pointer none)) (Value.pointer (some (Addr.mk r (0 : Nat) none))) (Value.pointer none)) h (Value.bool b0) ∧
 br b0 (R (Value.int IntKind.u64 (0 : Int)) h)
 (∃ (p1 : Addr),
 some (Addr.mk r (0 : Nat) none) = some p1 ∧
 ∃ (a2 : Option Addr),
 ∃ (k3 : Nat),
 ∃ (k4 : Nat),
 Reads Tryz.prog (Instr.loadAt (146 : Nat) (Value.pointer (some p1))) h (Value.slice a2 k3 k4) ∧
 ∃ (I5 : Int → Int → Int → Heap → Prop),
 ∃ (I6 : Int → Int → Int → Heap → Nat),
 I5 (0 : Int) (0 : Int) (0 : Int) h ∧
 ∀ (n7 n8 n9 : Int) (h10 : Heap),
 I5 n7 n8 n9 h10 →
 br (decide (n9 < (↑k3 : Int)))
 (∃ (p11 : Addr),
 (a2 = some p11 ∧ (0 : Int) ≤ n9 ∧ n9 < (↑k3 : Int)) ∧
 ∃ (n12 : Int),
 Reads Tryz.prog (Instr.loadAt (5 : Nat) (Value.pointer (some (p11.add (n9.toNat * (1 : Nat)))))) h10 (Value.int IntKind.u8 n12) ∧
 br (n9 == (9 : Int) && decide (n12 > (1 : Int)) || decide (n9 > (0 : Int)) && n12 == (0 : Int))
 (HC Tryz.prog (133 : Nat) (Array.mk [Value.pointer (some (Addr.mk r (0 : Nat) none))]) h10 fun (v13 : Value) (h14 : Heap) =>
 v13 = Value.tuple (Array.mk []) ∧ R (Value.int IntKind.u64 (0 : Int)) h14)
 ((0 : Int) ≤ IntKind.i64.wrap ((7 : Int) * n9) ∧
 br (decide (n12 < (128 : Int)))
 (∃ (p15 : Addr),
 some (Addr.mk r (0 : Nat) none) = some p15 ∧
 ∃ (a16 : Option Addr),
 ∃ (k17 : Nat),
 ∃ (k18 : Nat),
 Reads Tryz.prog (Instr.loadAt (146 : Nat) (Value.pointer (some p15))) h10 (Value.slice a16 k17 k18) ∧
 ((0 : Int) ≤ IntKind.i64.wrap (n9 + (1 : Int)) ∧
 IntKind.i64.wrap (n9 + (1 : Int)) ≤ (↑k17 : Int) ∧ (↑k17 : Int) ≤ (↑k18 : Int) ∧ (↑k18 : Int) ≤ (↑k18 : Int)) ∧
 ∃ (p19 : Addr),
 some (Addr.mk r (0 : Nat) none) = some p19 ∧
 SVC Tryz.prog
 (Instr.storeAt (146 : Nat) (Value.pointer (some p19))
 (Value.slice (subA a16 (IntKind.i64.wrap (n9 + (1 : Int))).toNat k18 (1 : Nat)) (k17 - (IntKind.i64.wrap (n9 + (1 : Int))).toNat)
 (k18 - (IntKind.i64.wrap (n9 + (1 : Int))).toNat)))
 h10 fun (x20 : Unit) (h21 : Heap) =>
 R
 (Value.int IntKind.u64
 (IntKind.u64.wrap
 (↑(BitVec.ofInt (64 : Nat) n8 |||
 BitVec.ofInt (64 : Nat)
 (IntKind.u64.wrap
 (IntKind.u64.wrap
 (IntKind.u8.wrap (↑(BitVec.ofInt (8 : Nat) n12 &&& BitVec.ofInt (8 : Nat) (127 : Int)).toNat : Int)) *
 (2 : Int) ^ min (IntKind.i64.wrap ((7 : Int) * n9)).toNat (64 : Nat)))).toNat :
 Int)))
 h21)
 (I5 n7
 (IntKind.u64.wrap
 (↑(BitVec.ofInt (64 : Nat) n8 |||
 BitVec.ofInt (64 : Nat)
 (IntKind.u64.wrap
 (IntKind.u64.wrap (IntKind.u8.wrap (↑(BitVec.ofInt (8 : Nat) n12 &&& BitVec.ofInt (8 : Nat) (127 : Int)).toNat : Int)) *
 (2 : Int) ^ min (IntKind.i64.wrap ((7 : Int) * n9)).toNat (64 : Nat)))).toNat :
 Int))
 (IntKind.i64.wrap (n9 + (1 : Int))) h10 ∧
 I6 n7
 (IntKind.u64.wrap
 (↑(BitVec.ofInt (64 : Nat) n8 |||
 BitVec.ofInt (64 : Nat)
 (IntKind.u64.wrap
 (IntKind.u64.wrap (IntKind.u8.wrap (↑(BitVec.ofInt (8 : Nat) n12 &&& BitVec.ofInt (8 : Nat) (127 : Int)).toNat : Int)) *
 (2 : Int) ^ min (IntKind.i64.wrap ((7 : Int) * n9)).toNat (64 : Nat)))).toNat :
 Int))
 (IntKind.i64.wrap (n9 + (1 : Int))) h10 <
 I6 n7 n8 n9 h10)))
 (HC Tryz.prog (133 : Nat) (Array.mk [Value.pointer (some (Addr.mk r (0 : Nat) none))]) h10 fun (v22 : Value) (h23 : Heap) =>
 v22 = Value.tuple (Array.mk []) ∧ R (Value.int IntKind.u64 (0 : Int)) h23))) := by kernel_rfl

theorem vcRdInt (r : Nat) (h : Heap) (R : Value → Heap → Prop) :
    vcF Tryz.prog Tryz.f132 14 [] [] [.pointer (some ⟨r, 0, none⟩)] h R =
(HC Tryz.prog (87 : Nat) (Array.mk [Value.pointer (some (Addr.mk r (0 : Nat) none))]) h fun (v0 : Value) (h1 : Heap) =>
 ∃ (n2 : Int),
 v0 = Value.int IntKind.u64 n2 ∧
 (0 : Int) ≤ (1 : Int) ∧
 R
 (Value.int IntKind.i64
 (IntKind.i64.wrap
 (↑(BitVec.ofInt (64 : Nat) (IntKind.i64.wrap (n2.fdiv ((2 : Int) ^ (1 : Nat)))) ^^^
 BitVec.ofInt (64 : Nat)
 (IntKind.i64.wrap ((0 : Int) - IntKind.i64.wrap (IntKind.u64.wrap (↑(BitVec.ofInt (64 : Nat) n2 &&& BitVec.ofInt (64 : Nat) (1 : Int)).toNat : Int))))).toNat :
 Int)))
 h1) := by kernel_rfl

theorem vcRdIn (r : Nat) (lo hi : Int) (h : Heap) (R : Value → Heap → Prop) :
    vcF Tryz.prog Tryz.f85 28 [4] [] [.pointer (some ⟨r, 0, none⟩), .int .i64 lo, .int .i64 hi] h R =
(HC Tryz.prog (132 : Nat) (Array.mk [Value.pointer (some (Addr.mk r (0 : Nat) none))]) h fun (v0 : Value) (h1 : Heap) =>
 ∃ (n2 : Int),
 v0 = Value.int IntKind.i64 n2 ∧
 ∃ (I3 : Heap → Prop),
 (HC Tryz.prog (88 : Nat) (Array.mk [Value.pointer (some (Addr.mk r (0 : Nat) none))]) h1 fun (v4 : Value) (h5 : Heap) =>
 ∃ (b6 : Bool),
 v4 = Value.bool b6 ∧
 br (b6 && (decide (n2 < lo) || decide (n2 > hi)))
 (HC Tryz.prog (133 : Nat) (Array.mk [Value.pointer (some (Addr.mk r (0 : Nat) none))]) h5 fun (v7 : Value) (h8 : Heap) => v7 = Value.tuple (Array.mk []) ∧ I3 h8) (I3 h5)) ∧
 ∀ (h9 : Heap),
 I3 h9 →
 HC Tryz.prog (88 : Nat) (Array.mk [Value.pointer (some (Addr.mk r (0 : Nat) none))]) h9 fun (v10 : Value) (h11 : Heap) =>
 ∃ (b12 : Bool), v10 = Value.bool b12 ∧ br (!b12) (R (Value.int IntKind.i64 (0 : Int)) h11) (R (Value.int IntKind.i64 n2) h11)) := by kernel_rfl

theorem vcRdTake (r : Nat) (n : Int) (h : Heap) (R : Value → Heap → Prop) :
    vcF Tryz.prog Tryz.f134 46 [] [] [.pointer (some ⟨r, 0, none⟩), .int .i64 n] h R =
(∃ (b0 : Bool),
 Reads Tryz.prog (eqSem BinOp.eql (159 : Nat) (Operand.tmp (6 : Nat)) (Operand.const (Value.pointer none)) (Value.pointer (some (Addr.mk r (0 : Nat) none))) (Value.pointer none)) h (Value.bool b0) ∧
 ∃ (p1 : Addr),
 ((!b0) = true → some (Addr.mk r (0 : Nat) none) = some p1) ∧
 ∃ (b2 : Bool),
 ((!b0) = true → Reads Tryz.prog (Instr.loadAt (4 : Nat) (Value.pointer (some (p1.add (1 : Nat))))) h (Value.bool b2)) ∧
 ∃ (p3 : Addr),
 ((!(b0 || b2 || decide (n < (0 : Int)))) = true → some (Addr.mk r (0 : Nat) none) = some p3) ∧
 ∃ (a4 : Option Addr),
 ∃ (k5 : Nat),
 ∃ (k6 : Nat),
 ((!(b0 || b2 || decide (n < (0 : Int)))) = true → Reads Tryz.prog (Instr.loadAt (146 : Nat) (Value.pointer (some p3))) h (Value.slice a4 k5 k6)) ∧
 br (b0 || b2 || decide (n < (0 : Int)) || decide (n > (↑k5 : Int)))
 (HC Tryz.prog (133 : Nat) (Array.mk [Value.pointer (some (Addr.mk r (0 : Nat) none))]) h fun (v7 : Value) (h8 : Heap) =>
 v7 = Value.tuple (Array.mk []) ∧ R (Value.string (ByteArray.mk (Array.mk []))) h8)
 (∃ (p9 : Addr),
 some (Addr.mk r (0 : Nat) none) = some p9 ∧
 ∃ (a10 : Option Addr),
 ∃ (k11 : Nat),
 ∃ (k12 : Nat),
 Reads Tryz.prog (Instr.loadAt (146 : Nat) (Value.pointer (some p9))) h (Value.slice a10 k11 k12) ∧
 ((0 : Int) ≤ n ∧ n ≤ (↑k12 : Int) ∧ (↑k12 : Int) ≤ (↑k12 : Int)) ∧
 ∃ (s13 : ByteArray),
 Reads Tryz.prog (convert (146 : Nat) (9 : Nat) (Value.slice a10 n.toNat k12)) h (Value.string s13) ∧
 ∃ (p14 : Addr),
 some (Addr.mk r (0 : Nat) none) = some p14 ∧
 ∃ (a15 : Option Addr),
 ∃ (k16 : Nat),
 ∃ (k17 : Nat),
 Reads Tryz.prog (Instr.loadAt (146 : Nat) (Value.pointer (some p14))) h (Value.slice a15 k16 k17) ∧
 ((0 : Int) ≤ n ∧ n ≤ (↑k16 : Int) ∧ (↑k16 : Int) ≤ (↑k17 : Int) ∧ (↑k17 : Int) ≤ (↑k17 : Int)) ∧
 ∃ (p18 : Addr),
 some (Addr.mk r (0 : Nat) none) = some p18 ∧
 SVC Tryz.prog
 (Instr.storeAt (146 : Nat) (Value.pointer (some p18)) (Value.slice (subA a15 n.toNat k17 (1 : Nat)) (k16 - n.toNat) (k17 - n.toNat))) h
 fun (x19 : Unit) (h20 : Heap) => R (Value.string s13) h20)) := by kernel_rfl

theorem vcRdText (r : Nat) (n : Int) (h : Heap) (R : Value → Heap → Prop) :
    vcF Tryz.prog Tryz.f86 22 [] [] [.pointer (some ⟨r, 0, none⟩), .int .i64 n] h R =
(HC Tryz.prog (87 : Nat) (Array.mk [Value.pointer (some (Addr.mk r (0 : Nat) none))]) h fun (v0 : Value) (h1 : Heap) =>
 ∃ (n2 : Int),
 v0 = Value.int IntKind.u64 n2 ∧
 br (decide (n < (0 : Int)) || decide (n2 > IntKind.u64.wrap n))
 (HC Tryz.prog (133 : Nat) (Array.mk [Value.pointer (some (Addr.mk r (0 : Nat) none))]) h1 fun (v3 : Value) (h4 : Heap) =>
 v3 = Value.tuple (Array.mk []) ∧ R (Value.string (ByteArray.mk (Array.mk []))) h4)
 (HC Tryz.prog (134 : Nat) (Array.mk [Value.pointer (some (Addr.mk r (0 : Nat) none)), Value.int IntKind.i64 (IntKind.i64.wrap n2)]) h1 fun (v5 : Value) (h6 : Heap) =>
 ∃ (s7 : ByteArray), v5 = Value.string s7 ∧ R (Value.string s7) h6)) := by kernel_rfl

theorem vcRdGood (r : Nat) (h : Heap) (R : Value → Heap → Prop) :
    vcF Tryz.prog Tryz.f88 12 [] [] [.pointer (some ⟨r, 0, none⟩)] h R =
(∃ (b0 : Bool),
 Reads Tryz.prog (eqSem BinOp.neq (159 : Nat) (Operand.tmp (3 : Nat)) (Operand.const (Value.pointer none)) (Value.pointer (some (Addr.mk r (0 : Nat) none))) (Value.pointer none)) h (Value.bool b0) ∧
 ∃ (p1 : Addr),
 (b0 = true → some (Addr.mk r (0 : Nat) none) = some p1) ∧
 ∃ (b2 : Bool), (b0 = true → Reads Tryz.prog (Instr.loadAt (4 : Nat) (Value.pointer (some (p1.add (1 : Nat))))) h (Value.bool b2)) ∧ R (Value.bool (b0 && !b2)) h) := by kernel_rfl

theorem vcRdEnd (r : Nat) (h : Heap) (R : Value → Heap → Prop) :
    vcF Tryz.prog Tryz.f89 13 [] [] [.pointer (some ⟨r, 0, none⟩)] h R =
(HC Tryz.prog (88 : Nat) (Array.mk [Value.pointer (some (Addr.mk r (0 : Nat) none))]) h fun (v0 : Value) (h1 : Heap) =>
 ∃ (b2 : Bool),
 v0 = Value.bool b2 ∧
 ∃ (p3 : Addr),
 (b2 = true → some (Addr.mk r (0 : Nat) none) = some p3) ∧
 ∃ (a4 : Option Addr),
 ∃ (k5 : Nat),
 ∃ (k6 : Nat), (b2 = true → Reads Tryz.prog (Instr.loadAt (146 : Nat) (Value.pointer (some p3))) h1 (Value.slice a4 k5 k6)) ∧ R (Value.bool (b2 && (↑k5 : Int) == (0 : Int))) h1) := by kernel_rfl

theorem vcCRead (A : Option Addr) (n c : Nat) (h : Heap) (R : Value → Heap → Prop) :
    vcF Tryz.prog Tryz.f84 7 [] [] [.slice A n c] h R =
(SVC Tryz.prog (Builtin.append_ (Array.mk [(146 : Nat), (146 : Nat)]) (146 : Nat) (Array.mk [Value.slice none (0 : Nat) (0 : Nat), Value.slice A n c])) h fun (v0 : Value) (h1 : Heap) =>
 ∃ (a2 : Option Addr),
 ∃ (k3 : Nat),
 ∃ (k4 : Nat),
 v0 = Value.slice a2 k3 k4 ∧ R (Value.pointer (some (Addr.mk (Array.size h1) (0 : Nat) none))) (Array.push h1 (Obj.cells (Array.mk [Value.slice a2 k3 k4, Value.bool false]) (205 : Nat)))) := by kernel_rfl

theorem vcSize (x : Int) (h : Heap) (R : Value → Heap → Prop) :
    vcF Tryz.prog Tryz.f162 8 [] [] [.int .u64 x] h R =
(HC Tryz.prog (179 : Nat) (Array.mk [Value.int IntKind.u64 (IntKind.u64.wrap (↑(BitVec.ofInt (64 : Nat) x ||| BitVec.ofInt (64 : Nat) (1 : Int)).toNat : Int))]) h fun (v0 : Value) (h1 : Heap) =>
 ∃ (n2 : Int), v0 = Value.int IntKind.i64 n2 ∧ (7 : Int) ≠ (0 : Int) ∧ R (Value.int IntKind.i64 (IntKind.i64.wrap ((IntKind.i64.wrap (n2 + (6 : Int))).tdiv (7 : Int)))) h1) := by kernel_rfl

theorem vcLen64 (x : Int) (h : Heap) (R : Value → Heap → Prop) :
    vcF Tryz.prog Tryz.f179 25 [4,7,10] [] [.int .u64 x] h R =
(∃ (I0 : Int → Int → Heap → Prop),
 br (decide (x ≥ (4294967296 : Int))) ((0 : Int) ≤ (32 : Int) ∧ I0 (x.fdiv ((2 : Int) ^ (32 : Nat))) (32 : Int) h) (I0 x (0 : Int) h) ∧
 ∀ (n1 n2 : Int) (h3 : Heap),
 I0 n1 n2 h3 →
 ∃ (I4 : Int → Int → Heap → Prop),
 br (decide (n1 ≥ (65536 : Int))) ((0 : Int) ≤ (16 : Int) ∧ I4 (n1.fdiv ((2 : Int) ^ (16 : Nat))) (IntKind.i64.wrap (n2 + (16 : Int))) h3) (I4 n1 n2 h3) ∧
 ∀ (n5 n6 : Int) (h7 : Heap),
 I4 n5 n6 h7 →
 ∃ (I8 : Int → Int → Heap → Prop),
 br (decide (n5 ≥ (256 : Int))) ((0 : Int) ≤ (8 : Int) ∧ I8 (n5.fdiv ((2 : Int) ^ (8 : Nat))) (IntKind.i64.wrap (n6 + (8 : Int))) h7) (I8 n5 n6 h7) ∧
 ∀ (n9 n10 : Int) (h11 : Heap),
 I8 n9 n10 h11 →
 ((0 : Int) ≤ IntKind.u8.wrap n9 ∧ IntKind.u8.wrap n9 < (↑(256 : Nat) : Int)) ∧
 R
 (Value.int IntKind.i64
 (IntKind.i64.wrap
 (n10 +
 IntKind.i64.wrap
 (byteAt
 (ByteArray.mk
 (Array.mk
 [(0 : UInt8), (1 : UInt8), (2 : UInt8), (2 : UInt8), (3 : UInt8), (3 : UInt8), (3 : UInt8), (3 : UInt8), (4 : UInt8), (4 : UInt8), (4 : UInt8), (4 : UInt8),
 (4 : UInt8), (4 : UInt8), (4 : UInt8), (4 : UInt8), (5 : UInt8), (5 : UInt8), (5 : UInt8), (5 : UInt8), (5 : UInt8), (5 : UInt8), (5 : UInt8), (5 : UInt8),
 (5 : UInt8), (5 : UInt8), (5 : UInt8), (5 : UInt8), (5 : UInt8), (5 : UInt8), (5 : UInt8), (5 : UInt8), (6 : UInt8), (6 : UInt8), (6 : UInt8), (6 : UInt8),
 (6 : UInt8), (6 : UInt8), (6 : UInt8), (6 : UInt8), (6 : UInt8), (6 : UInt8), (6 : UInt8), (6 : UInt8), (6 : UInt8), (6 : UInt8), (6 : UInt8), (6 : UInt8),
 (6 : UInt8), (6 : UInt8), (6 : UInt8), (6 : UInt8), (6 : UInt8), (6 : UInt8), (6 : UInt8), (6 : UInt8), (6 : UInt8), (6 : UInt8), (6 : UInt8), (6 : UInt8),
 (6 : UInt8), (6 : UInt8), (6 : UInt8), (6 : UInt8), (7 : UInt8), (7 : UInt8), (7 : UInt8), (7 : UInt8), (7 : UInt8), (7 : UInt8), (7 : UInt8), (7 : UInt8),
 (7 : UInt8), (7 : UInt8), (7 : UInt8), (7 : UInt8), (7 : UInt8), (7 : UInt8), (7 : UInt8), (7 : UInt8), (7 : UInt8), (7 : UInt8), (7 : UInt8), (7 : UInt8),
 (7 : UInt8), (7 : UInt8), (7 : UInt8), (7 : UInt8), (7 : UInt8), (7 : UInt8), (7 : UInt8), (7 : UInt8), (7 : UInt8), (7 : UInt8), (7 : UInt8), (7 : UInt8),
 (7 : UInt8), (7 : UInt8), (7 : UInt8), (7 : UInt8), (7 : UInt8), (7 : UInt8), (7 : UInt8), (7 : UInt8), (7 : UInt8), (7 : UInt8), (7 : UInt8), (7 : UInt8),
 (7 : UInt8), (7 : UInt8), (7 : UInt8), (7 : UInt8), (7 : UInt8), (7 : UInt8), (7 : UInt8), (7 : UInt8), (7 : UInt8), (7 : UInt8), (7 : UInt8), (7 : UInt8),
 (7 : UInt8), (7 : UInt8), (7 : UInt8), (7 : UInt8), (7 : UInt8), (7 : UInt8), (7 : UInt8), (7 : UInt8), (8 : UInt8), (8 : UInt8), (8 : UInt8), (8 : UInt8),
 (8 : UInt8), (8 : UInt8), (8 : UInt8), (8 : UInt8), (8 : UInt8), (8 : UInt8), (8 : UInt8), (8 : UInt8), (8 : UInt8), (8 : UInt8), (8 : UInt8), (8 : UInt8),
 (8 : UInt8), (8 : UInt8), (8 : UInt8), (8 : UInt8), (8 : UInt8), (8 : UInt8), (8 : UInt8), (8 : UInt8), (8 : UInt8), (8 : UInt8), (8 : UInt8), (8 : UInt8),
 (8 : UInt8), (8 : UInt8), (8 : UInt8), (8 : UInt8), (8 : UInt8), (8 : UInt8), (8 : UInt8), (8 : UInt8), (8 : UInt8), (8 : UInt8), (8 : UInt8), (8 : UInt8),
 (8 : UInt8), (8 : UInt8), (8 : UInt8), (8 : UInt8), (8 : UInt8), (8 : UInt8), (8 : UInt8), (8 : UInt8), (8 : UInt8), (8 : UInt8), (8 : UInt8), (8 : UInt8),
 (8 : UInt8), (8 : UInt8), (8 : UInt8), (8 : UInt8), (8 : UInt8), (8 : UInt8), (8 : UInt8), (8 : UInt8), (8 : UInt8), (8 : UInt8), (8 : UInt8), (8 : UInt8),
 (8 : UInt8), (8 : UInt8), (8 : UInt8), (8 : UInt8), (8 : UInt8), (8 : UInt8), (8 : UInt8), (8 : UInt8), (8 : UInt8), (8 : UInt8), (8 : UInt8), (8 : UInt8),
 (8 : UInt8), (8 : UInt8), (8 : UInt8), (8 : UInt8), (8 : UInt8), (8 : UInt8), (8 : UInt8), (8 : UInt8), (8 : UInt8), (8 : UInt8), (8 : UInt8), (8 : UInt8),
 (8 : UInt8), (8 : UInt8), (8 : UInt8), (8 : UInt8), (8 : UInt8), (8 : UInt8), (8 : UInt8), (8 : UInt8), (8 : UInt8), (8 : UInt8), (8 : UInt8), (8 : UInt8),
 (8 : UInt8), (8 : UInt8), (8 : UInt8), (8 : UInt8), (8 : UInt8), (8 : UInt8), (8 : UInt8), (8 : UInt8), (8 : UInt8), (8 : UInt8), (8 : UInt8), (8 : UInt8),
 (8 : UInt8), (8 : UInt8), (8 : UInt8), (8 : UInt8), (8 : UInt8), (8 : UInt8), (8 : UInt8), (8 : UInt8), (8 : UInt8), (8 : UInt8), (8 : UInt8), (8 : UInt8),
 (8 : UInt8), (8 : UInt8), (8 : UInt8), (8 : UInt8)]))
 (IntKind.u8.wrap n9)))))
 h11) := by kernel_rfl

theorem vcNext (A : Option Addr) (n c : Nat) (h : Heap) (R : Value → Heap → Prop) :
    vcF Tryz.prog Tryz.f126 54 [] [] [.slice A n c] h R =
(HC Tryz.prog (84 : Nat) (Array.mk [Value.slice A n c]) h fun (v0 : Value) (h1 : Heap) =>
 ∃ (a2 : Option Addr),
 v0 = Value.pointer a2 ∧
 HC Tryz.prog (86 : Nat) (Array.mk [Value.pointer a2, Value.int IntKind.i64 (↑n : Int)]) h1 fun (v3 : Value) (h4 : Heap) =>
 ∃ (s5 : ByteArray),
 v3 = Value.string s5 ∧
 HC Tryz.prog (88 : Nat) (Array.mk [Value.pointer a2]) h4 fun (v6 : Value) (h7 : Heap) =>
 ∃ (b8 : Bool),
 v6 = Value.bool b8 ∧
 br (!b8) (R (Value.tuple (Array.mk [Value.string (ByteArray.mk (Array.mk [])), Value.int IntKind.i64 (0 : Int), Value.bool false])) h7)
 (HC Tryz.prog (162 : Nat) (Array.mk [Value.int IntKind.u64 (IntKind.u64.wrap (↑s5.size : Int))]) h7 fun (v9 : Value) (h10 : Heap) =>
 ∃ (n11 : Int),
 v9 = Value.int IntKind.i64 n11 ∧
 br (decide ((↑n : Int) < IntKind.i64.wrap (IntKind.i64.wrap (n11 + (↑s5.size : Int)) + (4 : Int))))
 (R (Value.tuple (Array.mk [Value.string (ByteArray.mk (Array.mk [])), Value.int IntKind.i64 (0 : Int), Value.bool false])) h10)
 (((0 : Int) ≤ IntKind.i64.wrap (n11 + (↑s5.size : Int)) ∧ IntKind.i64.wrap (n11 + (↑s5.size : Int)) ≤ (↑c : Int) ∧ (↑c : Int) ≤ (↑c : Int)) ∧
 HC Tryz.prog (135 : Nat) (Array.mk [Value.slice A (IntKind.i64.wrap (n11 + (↑s5.size : Int))).toNat c]) h10 fun (v12 : Value) (h13 : Heap) =>
 ∃ (n14 : Int),
 v12 = Value.int IntKind.u32 n14 ∧
 ∃ (I15 : ByteArray → Int → Bool → Int → Heap → Prop),
 ∃ (I16 : ByteArray → Int → Bool → Int → Heap → Nat),
 I15 (ByteArray.mk (Array.mk [])) (0 : Int) false (0 : Int) h13 ∧
 ∀ (s17 : ByteArray) (n18 : Int) (b19 : Bool) (n20 : Int) (h21 : Heap),
 I15 s17 n18 b19 n20 h21 →
 br (decide (n20 < (4 : Int)))
 (∃ (p22 : Addr),
 (A = some p22 ∧
 (0 : Int) ≤ IntKind.i64.wrap (IntKind.i64.wrap (n11 + (↑s5.size : Int)) + n20) ∧
 IntKind.i64.wrap (IntKind.i64.wrap (n11 + (↑s5.size : Int)) + n20) < (↑n : Int)) ∧
 ∃ (n23 : Int),
 Reads Tryz.prog
 (Instr.loadAt (5 : Nat)
 (Value.pointer (some (p22.add ((IntKind.i64.wrap (IntKind.i64.wrap (n11 + (↑s5.size : Int)) + n20)).toNat * (1 : Nat))))))
 h21 (Value.int IntKind.u8 n23) ∧
 (0 : Int) ≤ IntKind.i64.wrap ((8 : Int) * n20) ∧
 br (n23 != IntKind.u8.wrap (n14.fdiv ((2 : Int) ^ min (IntKind.i64.wrap ((8 : Int) * n20)).toNat (32 : Nat))))
 (R (Value.tuple (Array.mk [Value.string (ByteArray.mk (Array.mk [])), Value.int IntKind.i64 (0 : Int), Value.bool false])) h21)
 (I15 s17 n18 b19 (IntKind.i64.wrap (n20 + (1 : Int))) h21 ∧
 I16 s17 n18 b19 (IntKind.i64.wrap (n20 + (1 : Int))) h21 < I16 s17 n18 b19 n20 h21))
 (R
 (Value.tuple
 (Array.mk [Value.string s5, Value.int IntKind.i64 (IntKind.i64.wrap (IntKind.i64.wrap (n11 + (↑s5.size : Int)) + (4 : Int))), Value.bool true]))
 h21)))) := by kernel_rfl

theorem vcSplit (A : Option Addr) (n c : Nat) (h : Heap) (R : Value → Heap → Prop) :
    vcF Tryz.prog Tryz.f78 28 [] [] [.slice A n c] h R =
(∃ (I0 : Option Addr → Nat → Nat → Int → Option Addr → Nat → Nat → Int → Heap → Prop),
 ∃ (I1 : Option Addr → Nat → Nat → Int → Option Addr → Nat → Nat → Int → Heap → Nat),
 I0 none (0 : Nat) (0 : Nat) (0 : Int) none (0 : Nat) (0 : Nat) (0 : Int) h ∧
 ∀ (a2 : Option Addr) (k3 k4 : Nat) (n5 : Int) (a6 : Option Addr) (k7 k8 : Nat) (n9 : Int) (h10 : Heap),
 I0 a2 k3 k4 n5 a6 k7 k8 n9 h10 →
 ((0 : Int) ≤ n9 ∧ n9 ≤ (↑n : Int) ∧ (↑n : Int) ≤ (↑c : Int) ∧ (↑c : Int) ≤ (↑c : Int)) ∧
 HC Tryz.prog (126 : Nat) (Array.mk [Value.slice (subA A n9.toNat c (1 : Nat)) (n - n9.toNat) (c - n9.toNat)]) h10 fun (v11 : Value) (h12 : Heap) =>
 ∃ (s13 : ByteArray),
 ∃ (n14 : Int),
 ∃ (b15 : Bool),
 v11 = Value.tuple (Array.mk [Value.string s13, Value.int IntKind.i64 n14, Value.bool b15]) ∧
 br (!b15) (R (Value.tuple (Array.mk [Value.slice a6 k7 k8, Value.int IntKind.i64 n9])) h12)
 (SVC Tryz.prog (Instr.buildSlice (83 : Nat) (1 : Nat) (Array.mk [((0 : Nat), Value.string s13)])) h12 fun (v16 : Value) (h17 : Heap) =>
 ∃ (a18 : Option Addr),
 ∃ (k19 : Nat),
 ∃ (k20 : Nat),
 v16 = Value.slice a18 k19 k20 ∧
 SVC Tryz.prog (Builtin.append_ (Array.mk [(83 : Nat), (83 : Nat)]) (83 : Nat) (Array.mk [Value.slice a6 k7 k8, Value.slice a18 k19 k20])) h17
 fun (v21 : Value) (h22 : Heap) =>
 ∃ (a23 : Option Addr),
 ∃ (k24 : Nat),
 ∃ (k25 : Nat),
 v21 = Value.slice a23 k24 k25 ∧
 I0 a2 k3 k4 n5 a23 k24 k25 (IntKind.i64.wrap (n9 + n14)) h22 ∧
 I1 a2 k3 k4 n5 a23 k24 k25 (IntKind.i64.wrap (n9 + n14)) h22 < I1 a2 k3 k4 n5 a6 k7 k8 n9 h10)) := by kernel_rfl

end Go.Proofs.YtkhinnchplahlaaGreatDoor
end
