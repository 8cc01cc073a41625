/-
  Contracts of alive and of the law MergeOf. Conditions: stated at each.
-/
import Derived.Test.YtepnckpaknabpaaM3
set_option linter.unusedVariables false
namespace Go.Proofs.Ytepnckpaknabpaa
open Go Go.Vc Go.Proofs

abbrev sA : Str := ⟨#[97]⟩
abbrev sB : Str := ⟨#[98]⟩
theorem lt_ab : lt sA sB = true := by simp [lt, ByteArray.toList_eq, Op.bytesLess]
theorem srt_one (a : Pr) : Srt (ks [a]) := by simp [ks]
theorem ent_two {a b : Pr} (k : Str) (h : a.1 ≠ k) : entL [a] k = (⟨#[]⟩, false) := by rw [ent_past h]; rfl
theorem ne_ab : sA ≠ sB := ne_of_lt lt_ab
theorem ne_ba : sB ≠ sA := fun e => ne_ab e.symm
theorem eqE_dec (a b : Str × Bool) : eqE a b = decide (a = b) := by
  rw [Bool.eq_iff_iff, eqE_iff, decide_eq_true_eq]
theorem alive1 : mB [(sA, ⟨#[49]⟩)] [(sA, ⟨#[50]⟩)] [] = [sA] ∧ mO [(sA, ⟨#[49]⟩)] [(sA, ⟨#[50]⟩)] [] = [] := by
  have hk : keys3 [(sA, ⟨#[49]⟩)] [(sA, ⟨#[50]⟩)] [] = [sA] := srt_ext (keysL_srt _).1 (by simp) fun q => by unfold keys3; rw [(keysL_srt _).2]; simp [ks]
  have hb : badF [(sA, ⟨#[49]⟩)] [(sA, ⟨#[50]⟩)] [] sA = true := by
    have e1 : entL [(sA, ⟨#[49]⟩)] sA = (⟨#[49]⟩, true) := ent_here (sA, ⟨#[49]⟩) []
    have e2 : entL [(sA, ⟨#[50]⟩)] sA = (⟨#[50]⟩, true) := ent_here (sA, ⟨#[50]⟩) []
    have e3 : entL [] sA = (⟨#[]⟩, false) := rfl
    unfold badF
    rw [e1, e2, e3]
    simp only [eqE_dec]
    decide
  have h1 : mB [(sA, ⟨#[49]⟩)] [(sA, ⟨#[50]⟩)] [] = [sA] := by unfold mB; rw [hk, List.filter_cons_of_pos hb]; rfl
  exact ⟨h1, by unfold mO; rw [h1]; rfl⟩
theorem alive2 : mB [] [(sA, ⟨#[]⟩)] [(sB, ⟨#[]⟩)] = [] ∧ (mO [] [(sA, ⟨#[]⟩)] [(sB, ⟨#[]⟩)]).length = 2 := by
  have hk : keys3 [] [(sA, ⟨#[]⟩)] [(sB, ⟨#[]⟩)] = [sA, sB] := srt_ext (keysL_srt _).1 (by simp [lt_ab]) fun q => by unfold keys3; rw [(keysL_srt _).2]; simp [ks]
  have a1 : ∀ k, entL [] k = (⟨#[]⟩, false) := fun _ => rfl
  have a2 : entL [(sA, ⟨#[]⟩)] sA = (⟨#[]⟩, true) := ent_here (sA, ⟨#[]⟩) []
  have a3 : entL [(sA, ⟨#[]⟩)] sB = (⟨#[]⟩, false) := ent_past (a := (sA, ⟨#[]⟩)) ne_ab
  have a4 : entL [(sB, ⟨#[]⟩)] sA = (⟨#[]⟩, false) := ent_past (a := (sB, ⟨#[]⟩)) ne_ba
  have a5 : entL [(sB, ⟨#[]⟩)] sB = (⟨#[]⟩, true) := ent_here (sB, ⟨#[]⟩) []
  have b1 : badF [] [(sA, ⟨#[]⟩)] [(sB, ⟨#[]⟩)] sA = false := by
    unfold badF; rw [a1, a2, a4]; simp only [eqE_dec]; decide
  have b2 : badF [] [(sA, ⟨#[]⟩)] [(sB, ⟨#[]⟩)] sB = false := by
    unfold badF; rw [a1, a3, a5]; simp only [eqE_dec]; decide
  have p1 : pickF [] [(sA, ⟨#[]⟩)] [(sB, ⟨#[]⟩)] sA = (⟨#[]⟩, true) := by
    unfold pickF; rw [a1, a2, a4, eqE_dec]; decide
  have p2 : pickF [] [(sA, ⟨#[]⟩)] [(sB, ⟨#[]⟩)] sB = (⟨#[]⟩, true) := by
    unfold pickF; rw [a1, a3, a5, eqE_dec]; decide
  have h1 : mB [] [(sA, ⟨#[]⟩)] [(sB, ⟨#[]⟩)] = [] := by
    unfold mB; rw [hk, List.filter_cons_of_neg (by rw [b1]; simp), List.filter_cons_of_neg (by rw [b2]; simp)]; rfl
  refine ⟨h1, ?_⟩
  unfold mO
  rw [h1, hk]
  simp only [List.isEmpty_nil, if_true, List.flatMap_cons, List.flatMap_nil, outF, p1, p2]
  rfl

theorem alive20_spec (h : Heap) : HC Try.prog 18 #[] h fun v h' => Keep h.size h h' ∧ v = .bool true := by
  refine HC_of_vc (args := []) (base := 45) (cuts := []) (bigs := []) hm Try.func18 ?_
  rw [vc18]
  refine svc_buildSlice (bs22 _ _) ⟨_, _, _, rfl, ?_⟩
  refine svc_buildSlice (bs22 _ _) ⟨_, _, _, rfl, ?_⟩
  have k1 := Keep.push h.size h (Obj.cells (PairE.enc (sA, (⟨#[49]⟩ : Str))).toArray 38) (Nat.le_refl _)
  have k2 := Keep.push (h.push (Obj.cells (PairE.enc (sA, (⟨#[49]⟩ : Str))).toArray 38)).size _ (Obj.cells (PairE.enc (sA, (⟨#[50]⟩ : Str))).toArray 38) (Nat.le_refl _)
  refine (merge_spec (c0 := 1) (c1 := 1) (c2 := 0) ((sl_new (x := (sA, (⟨#[49]⟩ : Str)))).keep k2) (sl_new (x := (sA, (⟨#[50]⟩ : Str)))) (Sl.nil _ none) (by omega) (by omega) (by omega) (by omega) (by omega) (by omega)
    (srt_one _) (srt_one _) List.Pairwise.nil).mono ?_
  rintro v h11 ⟨k3, a, n, c, a', n', c', rfl, o1, o2⟩
  rw [alive1.1] at o2
  rw [alive1.2] at o1
  have kk := (k1.trans (k2.mono k1.size)).trans (k3.mono (Nat.le_trans k1.size k2.size))
  refine ⟨_, _, _, _, _, _, rfl, ?_⟩
  refine svc_buildSlice (bs22 _ _) ⟨_, _, _, rfl, ?_⟩
  refine svc_buildSlice (bs22 _ _) ⟨_, _, _, rfl, ?_⟩
  have k4 := Keep.push h11.size h11 (Obj.cells (PairE.enc (sA, (⟨#[]⟩ : Str))).toArray 38) (Nat.le_refl _)
  have k5 := Keep.push (h11.push (Obj.cells (PairE.enc (sA, (⟨#[]⟩ : Str))).toArray 38)).size _ (Obj.cells (PairE.enc (sB, (⟨#[]⟩ : Str))).toArray 38) (Nat.le_refl _)
  refine (merge_spec (c0 := 0) (c1 := 1) (c2 := 1) (Sl.nil _ none) ((sl_new (x := (sA, (⟨#[]⟩ : Str)))).keep k5) (sl_new (x := (sB, (⟨#[]⟩ : Str)))) (by omega) (by omega) (by omega) (by omega) (by omega) (by omega)
    List.Pairwise.nil (srt_one _) (srt_one _)).mono ?_
  rintro v h29 ⟨k6, a2, n2, c2, a2', n2', c2', rfl, o3, o4⟩
  rw [alive2.1] at o4
  have e1 : n = 0 := by have := o1.1; simpa using this.symm
  have e2 : n' = 1 := by have := o2.1; simpa using this.symm
  have e3 : n2 = 2 := by have := o3.1; rw [alive2.2] at this; exact this.symm
  have e4 : n2' = 0 := by have := o4.1; simpa using this.symm
  subst e1 e2 e3 e4
  have k45 := k4.trans (k5.mono k4.size)
  have k456 := k45.trans (k6.mono k45.size)
  obtain ⟨p, rfl, hx, cc⟩ := str_at (o2.sl.keep k456) (i := 0) (by omega)
  refine ⟨_, _, _, _, _, _, rfl, p, fun _ => ⟨rfl, by omega, by omega⟩, sA, fun _ => reads_load sc9 ?_, kk.trans (k456.mono kk.size), ?_⟩
  · rwa [Nat.zero_mul, Addr.add_zero] at cc
  · simp [ByteArray.toList_eq]
    try rfl

theorem law4_spec {h : Heap} {A0 A1 A2 : Option Addr} {n0 c0 n1 c1 n2 c2 : Nat} {xs ys zs : List Pr} (h0 : Sl PairE h A0 n0 xs) (h1 : Sl PairE h A1 n1 ys) (h2 : Sl PairE h A2 n2 zs)
    (hc0 : n0 ≤ c0) (hc1 : n1 ≤ c1) (hc2 : n2 ≤ c2) (hn0 : n0 ≤ 9223372036854775807) (hn1 : n1 ≤ 9223372036854775807) (hn2 : n2 ≤ 9223372036854775807) :
    HC Try.prog 4 #[.slice A0 n0 c0, .slice A1 n1 c1, .slice A2 n2 c2] h fun v h' => Keep h.size h h' ∧ v = .bool true := by
  refine HC_of_vc (args := [.slice A0 n0 c0, .slice A1 n1 c1, .slice A2 n2 c2]) (base := 45) (cuts := []) (bigs := []) hm Try.func4 ?_
  rw [vc4]
  refine (alive20_spec h).mono ?_
  rintro v g2 ⟨k2, rfl⟩
  refine ⟨_, rfl, br_intro (fun e => by cases e) (fun _ => ?_)⟩
  refine (odd20_spec (h0.keep k2) hn0).mono ?_
  rintro v g4 ⟨k4, b5, rfl, hb5⟩
  have kk4 := k2.trans (k4.mono k2.size)
  refine ⟨_, rfl, br_intro (fun e => ?_) (fun _ => ⟨kk4, rfl⟩)⟩
  obtain ⟨m0, r0⟩ := hb5 (by cases b5 <;> simp_all)
  refine (odd20_spec (h1.keep kk4) hn1).mono ?_
  rintro v g7 ⟨k7, b8, rfl, hb8⟩
  have kk7 := kk4.trans (k7.mono kk4.size)
  refine ⟨_, rfl, br_intro (fun e => ?_) (fun _ => ⟨kk7, rfl⟩)⟩
  obtain ⟨m1, r1⟩ := hb8 (by cases b8 <;> simp_all)
  refine (odd20_spec (h2.keep kk7) hn2).mono ?_
  rintro v g10 ⟨k10, b11, rfl, hb11⟩
  have kk10 := kk7.trans (k10.mono kk7.size)
  refine ⟨_, rfl, br_intro (fun _ => ⟨kk10, rfl⟩) (fun e => ?_)⟩
  obtain ⟨m2, r2⟩ := hb11 e
  refine (merge_spec (h0.keep kk10) (h1.keep kk10) (h2.keep kk10) hc0 hc1 hc2 (by omega) (by omega) (by omega) (rise_srt r0) (rise_srt r1) (rise_srt r2)).mono ?_
  rintro v g13 ⟨k13, a, n, c, a', n', c', rfl, o1, o2⟩
  have kk13 := kk10.trans (k13.mono kk10.size)
  refine ⟨_, _, _, _, _, _, rfl, ?_⟩
  refine (ref20_spec (c0 := c0) (c1 := c1) (c2 := c2) (h0.keep kk13) (h1.keep kk13) (h2.keep kk13) (by omega) (by omega) (by omega)).mono ?_
  rintro v g21 ⟨k21, ra, rn, rc, ra', rn', rc', rfl, o3, o4⟩
  have kk21 := kk13.trans (k21.mono kk13.size)
  refine ⟨_, _, _, _, _, _, rfl, ?_⟩
  have lens : (mB xs ys zs).length ≤ 900 ∧ (mO xs ys zs).length ≤ 900 := by
    have f0 := keysL_len [xs, ys, zs]
    have f4 := h0.1
    have f5 := h1.1
    have f6 := h2.1
    simp only [List.flatten_cons, List.flatten_nil, List.append_nil, List.length_append] at f0
    have f1 := List.length_filter_le (badF xs ys zs) (keys3 xs ys zs)
    have f2 := outF_len xs ys zs (keys3 xs ys zs)
    have f3 : (keys3 xs ys zs).length ≤ 900 := by unfold keys3; omega
    refine ⟨by unfold mB; omega, ?_⟩
    unfold mO; split
    · omega
    · simp
  have q1 := o1.1
  have q2 := o2.1
  refine (same8_spec (o1.sl.keep k21) o3.sl (by omega)).mono ?_
  rintro v g29 ⟨k29, rfl⟩
  have kk29 := kk21.trans (k29.mono kk21.size)
  refine ⟨_, rfl, br_intro (fun _ => ?_) (fun e => by simp at e)⟩
  refine (same4_spec ((o2.sl.keep k21).keep k29) (o4.sl.keep k29) (by omega)).mono ?_
  rintro v g32 ⟨k32, rfl⟩
  exact ⟨_, rfl, kk29.trans (k32.mono kk29.size), by simp⟩
end Go.Proofs.Ytepnckpaknabpaa
