/-
  Contracts of the laws MergeTurns, MergeEntries and MergeApart. Conditions: stated at each.
-/
import Derived.Test.YtepnckpaknabpaaM4
import Derived.Test.YtepnckpaknabpaaM5
import Derived.Test.YtepnckpaknabpaaG5
set_option linter.unusedVariables false
namespace Go.Proofs.Ytepnckpaknabpaa
open Go Go.Vc Go.Proofs

theorem merge_lens (xs ys zs : List Pr) : (mB xs ys zs).length ≤ xs.length + ys.length + zs.length ∧ (mO xs ys zs).length ≤ xs.length + ys.length + zs.length := by
  have f0 := keysL_len [xs, ys, zs]
  simp only [List.flatten_cons, List.flatten_nil, List.append_nil, List.length_append] at f0
  have f1 := List.length_filter_le (badF xs ys zs) (keys3 xs ys zs)
  have f2 := outF_len xs ys zs (keys3 xs ys zs)
  have f3 : (keys3 xs ys zs).length ≤ xs.length + ys.length + zs.length := by unfold keys3; omega
  refine ⟨by unfold mB; omega, ?_⟩
  unfold mO; split
  · omega
  · simp

theorem law5_spec {h : Heap} {A0 A1 A2 : Option Addr} {n0 c0 n1 c1 n2 c2 : Nat} {xs ys zs : List Pr} (h0 : Sl PairE h A0 n0 xs) (h1 : Sl PairE h A1 n1 ys) (h2 : Sl PairE h A2 n2 zs)
    (hc0 : n0 ≤ c0) (hc1 : n1 ≤ c1) (hc2 : n2 ≤ c2) (hn0 : n0 ≤ 9223372036854775807) (hn1 : n1 ≤ 9223372036854775807) (hn2 : n2 ≤ 9223372036854775807) :
    HC Try.prog 5 #[.slice A0 n0 c0, .slice A1 n1 c1, .slice A2 n2 c2] h fun v h' => Keep h.size h h' ∧ v = .bool true := by
  refine HC_of_vc (args := [.slice A0 n0 c0, .slice A1 n1 c1, .slice A2 n2 c2]) (base := 98) (cuts := []) (bigs := []) hm Try.func5 ?_
  rw [vc5]
  refine (alive20_spec h).mono ?_
  rintro v g2 ⟨k2, rfl⟩
  refine ⟨_, rfl, br_intro (fun e => by cases e) (fun _ => ?_)⟩
  refine (odd20_spec (h0.keep k2) hn0).mono ?_
  rintro v g4 ⟨k4, b5, rfl, hb5⟩
  have kk4 := k2.trans (k4.mono k2.size)
  refine ⟨_, rfl, br_intro (fun e => ?_) (fun _ => ⟨kk4, rfl⟩)⟩
  obtain ⟨m0, r0⟩ := hb5 (by cases b5 <;> simp_all)
  refine (odd20_spec (h1.keep kk4) hn1).mono ?_
  rintro v g7 ⟨k7, b8, rfl, hb8⟩
  have kk7 := kk4.trans (k7.mono kk4.size)
  refine ⟨_, rfl, br_intro (fun e => ?_) (fun _ => ⟨kk7, rfl⟩)⟩
  obtain ⟨m1, r1⟩ := hb8 (by cases b8 <;> simp_all)
  refine (odd20_spec (h2.keep kk7) hn2).mono ?_
  rintro v g10 ⟨k10, b11, rfl, hb11⟩
  have kk10 := kk7.trans (k10.mono kk7.size)
  refine ⟨_, rfl, br_intro (fun _ => ⟨kk10, rfl⟩) (fun e => ?_)⟩
  obtain ⟨m2, r2⟩ := hb11 e
  have t0 := rise_srt r0
  have t1 := rise_srt r1
  have t2 := rise_srt r2
  have i0 := h0.1
  have i1 := h1.1
  have i2 := h2.1
  refine (merge_spec (h0.keep kk10) (h1.keep kk10) (h2.keep kk10) hc0 hc1 hc2 (by omega) (by omega) (by omega) t0 t1 t2).mono ?_
  rintro v w0 ⟨j0, a0, u0, d0, a0', u0', d0', rfl, o0, p0⟩
  have l0 := kk10.trans (j0.mono kk10.size)
  refine ⟨_, _, _, _, _, _, rfl, ?_⟩
  refine (merge_spec (h0.keep l0) (h2.keep l0) (h1.keep l0) hc0 hc2 hc1 (by omega) (by omega) (by omega) t0 t2 t1).mono ?_
  rintro v w1 ⟨j1, a1, u1, d1, a1', u1', d1', rfl, o1, p1⟩
  have l1 := l0.trans (j1.mono l0.size)
  refine ⟨_, _, _, _, _, _, rfl, ?_⟩
  refine (merge_spec (h0.keep l1) (h0.keep l1) (h2.keep l1) hc0 hc0 hc2 (by omega) (by omega) (by omega) t0 t0 t2).mono ?_
  rintro v w2 ⟨j2, a2, u2, d2, a2', u2', d2', rfl, o2, p2⟩
  have l2 := l1.trans (j2.mono l1.size)
  refine ⟨_, _, _, _, _, _, rfl, ?_⟩
  refine (merge_spec (h0.keep l2) (h1.keep l2) (h0.keep l2) hc0 hc1 hc0 (by omega) (by omega) (by omega) t0 t1 t0).mono ?_
  rintro v w3 ⟨j3, a3, u3, d3, a3', u3', d3', rfl, o3, p3⟩
  have l3 := l2.trans (j3.mono l2.size)
  refine ⟨_, _, _, _, _, _, rfl, ?_⟩
  refine (merge_spec (h0.keep l3) (h1.keep l3) (h1.keep l3) hc0 hc1 hc1 (by omega) (by omega) (by omega) t0 t1 t1).mono ?_
  rintro v w4 ⟨j4, a4, u4, d4, a4', u4', d4', rfl, o4, p4⟩
  have l4 := l3.trans (j4.mono l3.size)
  refine ⟨_, _, _, _, _, _, rfl, ?_⟩
  rw [(merge_turn xs ys zs).1] at p1
  rw [(merge_turn xs ys zs).2] at o1
  rw [(merge_left t2).1] at p2
  rw [(merge_left t2).2] at o2
  rw [(merge_right t1).1] at p3
  rw [(merge_right t1).2] at o3
  rw [(merge_same t1).1] at p4
  rw [(merge_same t1).2] at o4
  obtain ⟨q1, q2⟩ := merge_lens xs ys zs
  have z0 := o0.1
  have z0' := p0.1
  have z2 := o2.1
  have z3 := o3.1
  have z4 := o4.1
  have y2 : u2' = 0 := by have := p2.1; simpa using this.symm
  have y3 : u3' = 0 := by have := p3.1; simpa using this.symm
  have y4 : u4' = 0 := by have := p4.1; simpa using this.symm
  have e24 := j2.trans ((j3.trans (j4.mono j3.size)).mono j2.size)
  refine (same8_spec (((o0.sl.keep j1).keep j2).keep (j3.trans (j4.mono j3.size))) (o1.sl.keep e24) (by omega)).mono ?_
  rintro v x0 ⟨s0, rfl⟩
  have f0 := l4.trans (s0.mono l4.size)
  refine ⟨_, rfl, br_intro (fun _ => ?_) (fun e => by simp at e)⟩
  refine (same4_spec ((((p0.sl.keep j1).keep j2).keep (j3.trans (j4.mono j3.size))).keep s0) ((p1.sl.keep e24).keep s0) (by omega)).mono ?_
  rintro v x1 ⟨s1, rfl⟩
  have s01 := s0.trans (s1.mono s0.size)
  have f1 := f0.trans (s1.mono f0.size)
  refine ⟨_, rfl, br_intro (fun _ => ?_) (fun e => by simp at e)⟩
  refine (same8_spec (((o2.sl.keep j3).keep j4).keep s01) (h2.keep f1) (by omega)).mono ?_
  rintro v x2 ⟨s2, rfl⟩
  have s012 := s01.trans (s2.mono s01.size)
  have f2 := f1.trans (s2.mono f1.size)
  refine ⟨_, rfl, br_intro (fun _ => ?_) (fun e => by simp at e)⟩
  refine (same8_spec ((o3.sl.keep j4).keep s012) (h1.keep f2) (by omega)).mono ?_
  rintro v x3 ⟨s3, rfl⟩
  have s0123 := s012.trans (s3.mono s012.size)
  have f3 := f2.trans (s3.mono f2.size)
  refine ⟨_, rfl, br_intro (fun _ => ?_) (fun e => by simp at e)⟩
  refine (same8_spec (o4.sl.keep s0123) (h1.keep f3) (by omega)).mono ?_
  rintro v x4 ⟨s4, rfl⟩
  refine ⟨_, rfl, f3.trans (s4.mono f3.size), ?_⟩
  subst y2 y3 y4
  simp
  rfl

theorem law8_spec {h : Heap} {A0 A1 A2 : Option Addr} {n0 c0 n1 c1 n2 c2 : Nat} {xs ys zs : List Pr} (h0 : Sl PairE h A0 n0 xs) (h1 : Sl PairE h A1 n1 ys) (h2 : Sl PairE h A2 n2 zs)
    (hc0 : n0 ≤ c0) (hc1 : n1 ≤ c1) (hc2 : n2 ≤ c2) (hn0 : n0 ≤ 9223372036854775807) (hn1 : n1 ≤ 9223372036854775807) (hn2 : n2 ≤ 9223372036854775807) :
    HC Try.prog 8 #[.slice A0 n0 c0, .slice A1 n1 c1, .slice A2 n2 c2] h fun v h' => Keep h.size h h' ∧ v = .bool true := by
  refine HC_of_vc (args := [.slice A0 n0 c0, .slice A1 n1 c1, .slice A2 n2 c2]) (base := 76) (cuts := []) (bigs := []) hm Try.func8 ?_
  rw [vc8]
  refine (alive20_spec h).mono ?_
  rintro v g2 ⟨k2, rfl⟩
  refine ⟨_, rfl, br_intro (fun e => by cases e) (fun _ => ?_)⟩
  refine (odd20_spec (h0.keep k2) hn0).mono ?_
  rintro v g4 ⟨k4, b5, rfl, hb5⟩
  have kk4 := k2.trans (k4.mono k2.size)
  refine ⟨_, rfl, br_intro (fun e => ?_) (fun _ => ⟨kk4, rfl⟩)⟩
  obtain ⟨m0, r0⟩ := hb5 (by cases b5 <;> simp_all)
  refine (odd20_spec (h1.keep kk4) hn1).mono ?_
  rintro v g7 ⟨k7, b8, rfl, hb8⟩
  have kk7 := kk4.trans (k7.mono kk4.size)
  refine ⟨_, rfl, br_intro (fun e => ?_) (fun _ => ⟨kk7, rfl⟩)⟩
  obtain ⟨m1, r1⟩ := hb8 (by cases b8 <;> simp_all)
  refine (odd20_spec (h2.keep kk7) hn2).mono ?_
  rintro v g10 ⟨k10, b11, rfl, hb11⟩
  have kk10 := kk7.trans (k10.mono kk7.size)
  refine ⟨_, rfl, br_intro (fun _ => ⟨kk10, rfl⟩) (fun e => ?_)⟩
  obtain ⟨m2, r2⟩ := hb11 e
  have t0 := rise_srt r0
  have t1 := rise_srt r1
  have t2 := rise_srt r2
  have i0 := h0.1
  have i1 := h1.1
  have i2 := h2.1
  refine (refOf_spec (c0 := c0) (c1 := c1) (h0.keep kk10) (h1.keep kk10) (by omega) (by omega)).mono ?_
  rintro v g13 ⟨k13, a14, c16, rfl, s14⟩
  have kk13 := kk10.trans (k13.mono kk10.size)
  refine ⟨_, _, _, rfl, ?_⟩
  refine (refOf_spec (c0 := c0) (c1 := c2) (h0.keep kk13) (h2.keep kk13) (by omega) (by omega)).mono ?_
  rintro v g18 ⟨k18, a19, c21, rfl, s19⟩
  have kk18 := kk13.trans (k18.mono kk13.size)
  refine ⟨_, _, _, rfl, ?_⟩
  have s14 := s14.keep k18
  have ref_len : ∀ us vs : List Pr, (refL us vs).length ≤ us.length + vs.length := fun us vs => by
    have f1 := List.length_filter_le parts ((keysL [us, vs]).map (chgOf us vs))
    have f2 := keysL_len [us, vs]
    simp only [List.length_map, List.flatten_cons, List.flatten_nil, List.append_nil, List.length_append] at f1 f2
    unfold refL; omega
  have rl1 := ref_len xs ys
  have rl2 := ref_len xs zs
  generalize hX : refL xs ys = X at *
  generalize hY : refL xs zs = Y at *
  refine ⟨fun _ n h26 => ∃ k : Nat, n = k ∧ k ≤ X.length ∧ Keep g18.size g18 h26 ∧ ∀ c ∈ X.take k, ∀ d ∈ Y, c.k ≠ d.k, fun _ n _ => X.length - n.toNat, ⟨0, rfl, by omega, Keep.refl _ _, by simp⟩, ?_⟩
  rintro b24 n25 h26 ⟨k, rfl, hk, hkeep, hno⟩
  refine br_intro (fun hlt => ?_) (fun hge => ?_)
  · have hlt : k < X.length := by simpa using hlt
    obtain ⟨p, rfl, hx, cc⟩ := chg_at s14 hlt
    refine ⟨p, ⟨rfl, by omega, by omega⟩, _, _, _, _, _, chg_load (x := X[k]) (fun j v hv => hkeep.cell_some (cc j v hv)), ?_⟩
    have htake : X.take (k + 1) = X.take k ++ [X[k]] := List.take_succ_eq_append_getElem hx
    generalize X[k] = c at *
    refine svc_store_new (v := .agg _) sz40 rfl (fun v hv => ChangeE.one c v hv) ?_
    generalize hh34 : h26.push (Obj.cells (Value.agg (Array.mk [.string c.k, .string c.o, .string c.n, .bool c.was, .bool c.is_])).cells 40) = h34
    have k34 : Keep h26.size h26 h34 := by rw [← hh34]; exact Keep.push _ _ _ (Nat.le_refl _)
    have v34 : h34[h26.size]? = some (.cells #[.string c.k, .string c.o, .string c.n, .bool c.was, .bool c.is_] 40 (0, 0)) := by rw [← hh34]; exact push_at _ _
    have hk34 := hkeep.trans (k34.mono hkeep.size)
    refine ⟨fun _ n h39 => ∃ j : Nat, n = j ∧ j ≤ Y.length ∧ Keep h34.size h34 h39 ∧ ∀ d ∈ Y.take j, c.k ≠ d.k, fun _ n _ => Y.length - n.toNat, ⟨0, rfl, by omega, Keep.refl _ _, by simp⟩, ?_⟩
    rintro b37 n38 h39 ⟨j, rfl, hj, hkeep', hno'⟩
    have hk39 := hk34.trans (hkeep'.mono hk34.size)
    refine br_intro (fun hlt' => ?_) (fun hge' => ?_)
    · have hlt' : j < Y.length := by simpa using hlt'
      obtain ⟨q, rfl, hy, dd⟩ := chg_at s19 hlt'
      refine ⟨q, ⟨rfl, by omega, by omega⟩, _, _, _, _, _, chg_load (x := Y[j]) (fun i v hv => hk39.cell_some (dd i v hv)), ?_⟩
      have htake' : Y.take (j + 1) = Y.take j ++ [Y[j]] := List.take_succ_eq_append_getElem hy
      generalize Y[j] = d at *
      refine svc_store_new (v := .agg _) sz40 rfl (fun v hv => ChangeE.one d v hv) ?_
      have k47 : Keep h39.size h39 (h39.push (Obj.cells (Value.agg (Array.mk [.string d.k, .string d.o, .string d.n, .bool d.was, .bool d.is_])).cells 40)) := Keep.push _ _ _ (Nat.le_refl _)
      have v47 := k47.at (hkeep'.at v34 (at_lt v34)) (by have := at_lt (hkeep'.at v34 (at_lt v34)); exact this)
      refine ⟨_, reads_load sc9 (by rw [cell_at v47]; rfl), _, reads_load sc9 (by rw [cell_push]; rfl), ?_⟩
      refine br_intro (fun _ => ⟨kk18.trans ((hk39.trans (k47.mono hk39.size)).mono kk18.size), rfl⟩) (fun hne => ?_)
      rw [wrap_i64 (by omega) (by omega)]
      refine ⟨⟨j + 1, rfl, hlt', hkeep'.trans (k47.mono hkeep'.size), fun d' hd' => ?_⟩, by dsimp only; omega⟩
      rw [htake'] at hd'
      rcases List.mem_append.1 hd' with hd' | hd'
      · exact hno' d' hd'
      · simp at hd'; subst hd'
        intro e; rw [e] at hne; simp at hne
    · have : j = Y.length := by simp at hge'; omega
      subst this
      rw [List.take_of_length_le (Nat.le_refl _)] at hno'
      rw [wrap_i64 (by omega) (by omega)]
      refine ⟨⟨k + 1, rfl, hlt, hk39, fun c' hc' => ?_⟩, by dsimp only; omega⟩
      rw [htake] at hc'
      rcases List.mem_append.1 hc' with hc' | hc'
      · exact hno c' hc'
      · simp at hc'; subst hc'; exact hno'
  · have : k = X.length := by simp at hge; omega
    subst this
    rw [List.take_of_length_le (Nat.le_refl _)] at hno
    have kk26 := kk18.trans (hkeep.mono kk18.size)
    obtain ⟨b1, b2, b3⟩ := apart_law (xs := xs) (ys := ys) (zs := zs) (by rw [hX, hY]; exact hno)
    refine (merge_spec (h0.keep kk26) (h1.keep kk26) (h2.keep kk26) hc0 hc1 hc2 (by omega) (by omega) (by omega) t0 t1 t2).mono ?_
    rintro v h51 ⟨k51, a, u, d, a', u', d', rfl, o1, o2⟩
    have kk51 := kk26.trans (k51.mono kk26.size)
    refine ⟨_, _, _, _, _, _, rfl, ?_⟩
    rw [b1] at o2
    have hu' : u' = 0 := by have := o2.1; simpa using this.symm
    subst hu'
    have hu := o1.1
    have hul := (merge_lens xs ys zs).2
    change br (decide (((0 : Nat) : Int) = 0)) _ _
    refine br_intro (fun _ => ?_) (fun e => by simp at e)
    refine (refOf_spec (c0 := c1) (c1 := d) (h1.keep kk51) o1.sl (by omega) (by omega)).mono ?_
    rintro v h62 ⟨k62, a63, c65, rfl, s63⟩
    have kk62 := kk51.trans (k62.mono kk51.size)
    rw [b2, hY] at s63
    refine ⟨_, _, _, rfl, ?_⟩
    rw [b2, hY]
    have s19' := ((s19.keep hkeep).keep (k51.trans (k62.mono k51.size)))
    refine (same_spec (c1 := c21) s63 s19' (by omega)).mono ?_
    rintro v h67 ⟨k67, rfl⟩
    have kk67 := kk62.trans (k67.mono kk62.size)
    refine ⟨_, rfl, br_intro (fun _ => ?_) (fun e => by cases e)⟩
    have k6267 := k62.trans (k67.mono k62.size)
    refine (refOf_spec (c0 := c2) (c1 := d) (h2.keep kk67) (o1.sl.keep k6267) (by omega) (by omega)).mono ?_
    rintro v h70 ⟨k70, a71, c73, rfl, s71⟩
    have kk70 := kk67.trans (k70.mono kk67.size)
    rw [b3, hX] at s71
    refine ⟨_, _, _, rfl, ?_⟩
    rw [b3, hX]
    have s14' := (((s14.keep hkeep).keep k51).keep k6267).keep k70
    refine (same_spec (c1 := c16) s71 s14' (by omega)).mono ?_
    rintro v h75 ⟨k75, rfl⟩
    exact ⟨_, rfl, kk70.trans (k75.mono kk70.size), rfl⟩
end Go.Proofs.Ytepnckpaknabpaa
