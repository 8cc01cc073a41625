/-
  Contracts of the laws DiffJoins and DiffBack, given the contract of the library's sorted keys. Conditions: stated at each.
-/
import Derived.Test.YtepnckpaknabpaaA3
set_option linter.unusedVariables false
namespace Go.Proofs.Ytepnckpaknabpaa
open Go Go.Vc Go.Proofs

theorem refL_len (us vs : List Pr) : (refL us vs).length ≤ us.length + vs.length := by
  have f1 := List.length_filter_le parts ((keysL [us, vs]).map (chgOf us vs))
  have f2 := keysL_len [us, vs]
  simp only [List.length_map, List.flatten_cons, List.flatten_nil, List.append_nil, List.length_append] at f1 f2
  unfold refL; omega
theorem bd_ref {xs ys : List Pr} (hx : Bd (ks xs)) (hy : Bd (ks ys)) : Bd ((refL xs ys).map (·.k)) := fun q hq => by
  obtain ⟨c, hc, rfl⟩ := List.mem_map.1 hq
  have hne := (ref_mem xs ys c.k).1 ⟨c, hc, rfl⟩
  by_cases h1 : c.k ∈ ks xs
  · exact hx _ h1
  · by_cases h2 : c.k ∈ ks ys
    · exact hy _ h2
    · exact absurd (by rw [ent_none h1, ent_none h2]) hne
theorem bd_turn {cs : List Chg} (h : Bd (cs.map (·.k))) : Bd ((turnL cs).map (·.k)) := fun q hq => by
  obtain ⟨c, hc, rfl⟩ := List.mem_map.1 hq
  unfold turnL at hc
  obtain ⟨d, hd, rfl⟩ := List.mem_map.1 hc
  exact h d.k (List.mem_map.2 ⟨d, List.mem_reverse.1 hd, rfl⟩)
/-- diff.Of on rising lists, by the reference's changes. -/
theorem of_spec' {h : Heap} {A0 A1 : Option Addr} {n0 c0 n1 c1 : Nat} {xs ys : List Pr} (h0 : Sl PairE h A0 n0 xs) (h1 : Sl PairE h A1 n1 ys) (hc0 : n0 ≤ c0) (hc1 : n1 ≤ c1) (hn0 : n0 ≤ 134217728) (hn1 : n1 ≤ 134217728)
    (r0 : riseL xs = true) (r1 : riseL ys = true) :
    HC Try.prog 16 #[.slice A0 n0 c0, .slice A1 n1 c1] h fun v h' => Keep h.size h h' ∧ ∃ a n c, v = .slice a n c ∧ n ≤ c ∧ n ≤ n0 + n1 ∧ Sl ChangeE h' a n (refL xs ys) := by
  refine (of_spec h0 h1 hc0 hc1 (by omega) (by omega)).mono ?_
  rintro v h' ⟨k, a, c, rfl, hc, hs⟩
  rw [of_ref r0 r1] at hs hc ⊢
  have := refL_len xs ys
  have := h0.1
  have := h1.1
  exact ⟨k, _, _, _, rfl, hc, by omega, hs⟩

theorem law11_spec (hS : SortedKeys) {h : Heap} {A0 A1 : Option Addr} {n0 c0 n1 c1 : Nat} {xs ys : List Pr} (h0 : Sl PairE h A0 n0 xs) (h1 : Sl PairE h A1 n1 ys)
    (hc0 : n0 ≤ c0) (hc1 : n1 ≤ c1) (hn0 : n0 ≤ 9223372036854775807) (hn1 : n1 ≤ 9223372036854775807) (z0 : Bd (ks xs)) (z1 : Bd (ks ys)) :
    HC Try.prog 11 #[.slice A0 n0 c0, .slice A1 n1 c1] h fun v h' => Keep h.size h h' ∧ v = .bool true := by
  refine HC_of_vc (args := [.slice A0 n0 c0, .slice A1 n1 c1]) (base := 57) (cuts := []) (bigs := []) hm Try.func11 ?_
  rw [vc11]
  refine (alive_spec h).mono ?_
  rintro v w ⟨k, rfl⟩
  refine ⟨_, rfl, br_intro (fun e => by cases e) (fun _ => ?_)⟩
  refine (odd_spec (h0.keep k) hn0).mono ?_
  rintro v w0 ⟨q0, b0, rfl, hb0⟩
  have k0 := k.trans (q0.mono k.size)
  refine ⟨_, rfl, br_intro (fun e => ?_) (fun _ => ⟨k0, rfl⟩)⟩
  obtain ⟨m0, r0⟩ := hb0 (by cases b0 <;> simp_all)
  refine (odd_spec (h1.keep k0) hn1).mono ?_
  rintro v w1 ⟨q1, b1, rfl, hb1⟩
  have k1 := k0.trans (q1.mono k0.size)
  refine ⟨_, rfl, br_intro (fun _ => ⟨k1, rfl⟩) (fun e => ?_)⟩
  obtain ⟨m1, r1⟩ := hb1 e
  have t0 := rise_srt r0
  have i0 := h0.1
  have t1 := rise_srt r1
  have i1 := h1.1
  refine (of_spec' (h0.keep k1) (h1.keep k1) hc0 hc1 (by omega) (by omega) r0 r1).mono ?_
  rintro v g1 ⟨j1, a1, u1, d1, rfl, _, hu1, s1⟩
  have f1 := k1.trans (j1.mono k1.size)
  refine ⟨_, _, _, rfl, ?_⟩
  refine (apply_spec hS (c0 := c0) (c1 := d1) (h0.keep f1) s1 (by omega) (by omega) t0 z0 (bd_ref z0 z1)).mono ?_
  rintro v g2 ⟨j2, a2, u2, d2, e2, rfl, o2, he2⟩
  rw [apply_ref t0 t1] at o2 he2
  have f2 := f1.trans (j2.mono f1.size)
  refine ⟨_, _, _, _, rfl, ?_⟩
  refine (turn_spec (c0 := d1) (s1.keep j2) (by omega)).mono ?_
  rintro v g3 ⟨j3, a3, u3, d3, rfl, o3⟩
  have f3 := f2.trans (j3.mono f2.size)
  refine ⟨_, _, _, rfl, ?_⟩
  have hl1 := s1.1
  have hu3 : u3 = u1 := by have := o3.1; rw [← this, ← hl1]; simp [turnL]
  refine (apply_spec hS (c0 := c1) (c1 := d3) (h1.keep f3) o3.sl (by omega) (by omega) t1 z1 (bd_turn (bd_ref z0 z1))).mono ?_
  rintro v g4 ⟨j4, a4, u4, d4, e4, rfl, o4, he4⟩
  rw [apply_turn t0 t1] at o4 he4
  have f4 := f3.trans (j4.mono f3.size)
  refine ⟨_, _, _, _, rfl, ?_⟩
  have hu2 := o2.1
  have hu4 := o4.1
  simp only [Option.getD_some] at o2 o4 hu2 hu4
  subst he2 he4
  refine br_intro (fun _ => ?_) (fun e => by simp at e)
  have j34 := j3.trans (j4.mono j3.size)
  refine (same8_spec (o2.sl.keep j34) (h1.keep f4) (by omega)).mono ?_
  rintro v g5 ⟨j5, rfl⟩
  have f5 := f4.trans (j5.mono f4.size)
  refine ⟨_, rfl, br_intro (fun _ => ?_) (fun e => by simp at e)⟩
  refine (same8_spec (o4.sl.keep j5) (h0.keep f5) (by omega)).mono ?_
  rintro v g6 ⟨j6, rfl⟩
  have f6 := f5.trans (j6.mono f5.size)
  refine ⟨_, rfl, br_intro (fun _ => ?_) (fun e => by simp at e)⟩
  have j26 := j2.trans ((j34.trans ((j5.trans (j6.mono j5.size)).mono j34.size)).mono j2.size)
  refine (turn_spec (c0 := d1) (s1.keep j26) (by omega)).mono ?_
  rintro v g7 ⟨j7, a7, u7, d7, rfl, o7⟩
  have f7 := f6.trans (j7.mono f6.size)
  refine ⟨_, _, _, rfl, ?_⟩
  have hu7 : u7 = u1 := by have := o7.1; rw [← this, ← hl1]; simp [turnL]
  refine (turn_spec (c0 := d7) o7.sl (by omega)).mono ?_
  rintro v g8 ⟨j8, a8, u8, d8, rfl, o8⟩
  have f8 := f7.trans (j8.mono f7.size)
  refine ⟨_, _, _, rfl, ?_⟩
  rw [turn_turn] at o8
  have hu8 : u8 = u1 := by have := o8.1; rw [← this, ← hl1]
  subst hu8
  refine (same_spec (c1 := d1) o8.sl ((s1.keep j26).keep (j7.trans (j8.mono j7.size))) (by omega)).mono ?_
  rintro v g9 ⟨j9, rfl⟩
  exact ⟨_, rfl, f8.trans (j9.mono f8.size), rfl⟩

theorem law10_spec (hS : SortedKeys) {h : Heap} {A0 A1 A2 : Option Addr} {n0 c0 n1 c1 n2 c2 : Nat} {xs ys zs : List Pr} (h0 : Sl PairE h A0 n0 xs) (h1 : Sl PairE h A1 n1 ys) (h2 : Sl PairE h A2 n2 zs)
    (hc0 : n0 ≤ c0) (hc1 : n1 ≤ c1) (hc2 : n2 ≤ c2) (hn0 : n0 ≤ 9223372036854775807) (hn1 : n1 ≤ 9223372036854775807) (hn2 : n2 ≤ 9223372036854775807) (z0 : Bd (ks xs)) (z1 : Bd (ks ys)) (z2 : Bd (ks zs)) :
    HC Try.prog 10 #[.slice A0 n0 c0, .slice A1 n1 c1, .slice A2 n2 c2] h fun v h' => Keep h.size h h' ∧ v = .bool true := by
  refine HC_of_vc (args := [.slice A0 n0 c0, .slice A1 n1 c1, .slice A2 n2 c2]) (base := 65) (cuts := []) (bigs := []) hm Try.func10 ?_
  rw [vc10]
  refine (alive_spec h).mono ?_
  rintro v w ⟨k, rfl⟩
  refine ⟨_, rfl, br_intro (fun e => by cases e) (fun _ => ?_)⟩
  refine (odd_spec (h0.keep k) hn0).mono ?_
  rintro v w0 ⟨q0, b0, rfl, hb0⟩
  have k0 := k.trans (q0.mono k.size)
  refine ⟨_, rfl, br_intro (fun e => ?_) (fun _ => ⟨k0, rfl⟩)⟩
  obtain ⟨m0, r0⟩ := hb0 (by cases b0 <;> simp_all)
  refine (odd_spec (h1.keep k0) hn1).mono ?_
  rintro v w1 ⟨q1, b1, rfl, hb1⟩
  have k1 := k0.trans (q1.mono k0.size)
  refine ⟨_, rfl, br_intro (fun e => ?_) (fun _ => ⟨k1, rfl⟩)⟩
  obtain ⟨m1, r1⟩ := hb1 (by cases b1 <;> simp_all)
  refine (odd_spec (h2.keep k1) hn2).mono ?_
  rintro v w2 ⟨q2, b2, rfl, hb2⟩
  have k2 := k1.trans (q2.mono k1.size)
  refine ⟨_, rfl, br_intro (fun _ => ⟨k2, rfl⟩) (fun e => ?_)⟩
  obtain ⟨m2, r2⟩ := hb2 e
  have t0 := rise_srt r0
  have i0 := h0.1
  have t1 := rise_srt r1
  have i1 := h1.1
  have t2 := rise_srt r2
  have i2 := h2.1
  refine (of_spec' (h0.keep k2) (h1.keep k2) hc0 hc1 (by omega) (by omega) r0 r1).mono ?_
  rintro v g1 ⟨j1, a1, u1, d1, rfl, _, hu1, s1⟩
  have f1 := k2.trans (j1.mono k2.size)
  refine ⟨_, _, _, rfl, ?_⟩
  refine (of_spec' (h1.keep f1) (h2.keep f1) hc1 hc2 (by omega) (by omega) r1 r2).mono ?_
  rintro v g2 ⟨j2, a2, u2, d2, rfl, _, hu2, s2⟩
  have f2 := f1.trans (j2.mono f1.size)
  refine ⟨_, _, _, rfl, ?_⟩
  refine svc_buildSlice0 (sz := 5) (e := 40) (by kernel_rfl) (by kernel_rfl) ⟨_, _, _, rfl, ?_⟩
  have kp := Keep.push g2.size g2 (.cells #[] 40 (0, 0)) (Nat.le_refl _)
  have own : Own ChangeE 40 g2.size (g2.push (.cells #[] 40 (0, 0))) (some ⟨g2.size, 0, none⟩) 0 0 [] :=
    ⟨rfl, Nat.le_refl _, .inr ⟨g2.size, _, rfl, Nat.le_refl _, push_at _ _, by simp, [], by simp⟩⟩
  refine svc_append (ty := 26) app26 own kp.size ((s1.keep j2).keep kp) (by omega) fun a3 d3 g3 o3 v3 b3 => ⟨_, _, _, rfl, ?_⟩
  rw [Nat.zero_add] at o3 ⊢
  rw [List.nil_append] at o3
  have j3 : Keep g2.size g2 g3 := kp.trans (v3.keep kp.size fun i ⟨p, e, hp⟩ => by cases e; exact Nat.le_of_eq hp)
  have f3 := f2.trans (j3.mono f2.size)
  refine svc_append (ty := 26) app26 o3 j3.size (s2.keep j3) (by omega) fun a4 d4 g4 o4 v4 b4 => ⟨_, _, _, rfl, ?_⟩
  have j4 : Keep g2.size g2 g4 := j3.trans (v4.keep j3.size fun i hi => (o3.block i hi).1)
  have f4 := f2.trans (j4.mono f2.size)
  refine (apply_spec hS (c0 := c0) (c1 := d4) (h0.keep f4) o4.sl (by omega) (by omega) t0 z0 (fun q hq => by rw [List.map_append] at hq; exact (List.mem_append.1 hq).elim (bd_ref z0 z1 q) (bd_ref z1 z2 q))).mono ?_
  rintro v g5 ⟨j5, a5, u5, d5, e5, rfl, o5, he5⟩
  rw [apply_append, apply_ref t0 t1, Option.bind_some, apply_ref t1 t2] at o5 he5
  have f5 := f4.trans (j5.mono f4.size)
  refine ⟨_, _, _, _, rfl, ?_⟩
  refine (of_spec' (h0.keep f5) (h2.keep f5) hc0 hc2 (by omega) (by omega) r0 r2).mono ?_
  rintro v g6 ⟨j6, a6, u6, d6, rfl, _, hu6, s6⟩
  have f6 := f5.trans (j6.mono f5.size)
  refine ⟨_, _, _, rfl, ?_⟩
  refine (apply_spec hS (c0 := c0) (c1 := d6) (h0.keep f6) s6 (by omega) (by omega) t0 z0 (bd_ref z0 z2)).mono ?_
  rintro v g7 ⟨j7, a7, u7, d7, e7, rfl, o7, he7⟩
  rw [apply_ref t0 t2] at o7 he7
  have f7 := f6.trans (j7.mono f6.size)
  refine ⟨_, _, _, _, rfl, ?_⟩
  have hu5 := o5.1
  have hu7 := o7.1
  simp only [Option.getD_some] at o5 o7 hu5 hu7
  subst he5 he7
  refine br_intro (fun _ => ?_) (fun e => by simp at e)
  refine (same8_spec (o5.sl.keep (j6.trans (j7.mono j6.size))) (h2.keep f7) (by omega)).mono ?_
  rintro v g8 ⟨j8, rfl⟩
  have f8 := f7.trans (j8.mono f7.size)
  refine ⟨_, rfl, br_intro (fun _ => ?_) (fun e => by simp at e)⟩
  refine (same8_spec (o7.sl.keep j8) (h2.keep f8) (by omega)).mono ?_
  rintro v g9 ⟨j9, rfl⟩
  exact ⟨_, rfl, f8.trans (j9.mono f8.size), by simp⟩

theorem law9_spec (hS : SortedKeys) {h : Heap} {A0 A1 : Option Addr} {n0 c0 n1 c1 : Nat} {xs : List Pr} {cs : List Chg} (h0 : Sl PairE h A0 n0 xs) (h1 : Sl ChangeE h A1 n1 cs)
    (hn0 : n0 ≤ 9223372036854775807) (z0 : Bd (ks xs)) (z1 : Bd (cs.map (·.k))) :
    HC Try.prog 9 #[.slice A0 n0 c0, .slice A1 n1 c1] h fun v h' => Keep h.size h h' ∧ v = .bool true := by
  refine HC_of_vc (args := [.slice A0 n0 c0, .slice A1 n1 c1]) (base := 59) (cuts := []) (bigs := []) hm Try.func9 ?_
  rw [vc9]
  refine (alive_spec h).mono ?_
  rintro v w ⟨k, rfl⟩
  refine ⟨_, rfl, br_intro (fun e => by cases e) (fun _ => ?_)⟩
  refine (odd_spec (h0.keep k) hn0).mono ?_
  rintro v w0 ⟨q0, b0, rfl, hb0⟩
  have k0 := k.trans (q0.mono k.size)
  refine ⟨_, rfl, br_intro (fun _ => ⟨k0, rfl⟩) (fun e => ?_)⟩
  obtain ⟨m0, r0⟩ := hb0 (by cases b0 <;> simp_all)
  have hn1 : n1 ≤ 60 := by cases b0 <;> simp at e; omega
  have t0 := rise_srt r0
  have i0 := h0.1
  have i1 := h1.1
  refine ⟨fun _ n h10 => ∃ k : Nat, n = k ∧ k ≤ n1 ∧ Keep h.size h h10, fun _ n _ => n1 - n.toNat, ⟨0, rfl, by omega, k0⟩, ?_⟩
  rintro b8 n9 h10 ⟨k, rfl, hk, hkeep⟩
  refine br_intro (fun hlt => ?_) (fun hge => ?_)
  · have hlt : k < n1 := by simpa using hlt
    obtain ⟨p, rfl, hx, cc⟩ := chg_at h1 hlt
    refine ⟨p, ⟨rfl, by omega, by omega⟩, _, _, _, _, _, chg_load (x := cs[k]) (fun j v hv => hkeep.cell_some (cc j v hv)), ?_⟩
    generalize cs[k] = c at *
    refine svc_store_new (v := .agg _) sz40 rfl (fun v hv => ChangeE.one c v hv) ?_
    generalize hh : h10.push (Obj.cells (Value.agg (Array.mk [.string c.k, .string c.o, .string c.n, .bool c.was, .bool c.is_])).cells 40) = h18
    have k18 : Keep h10.size h10 h18 := by rw [← hh]; exact Keep.push _ _ _ (Nat.le_refl _)
    have v18 : h18[h10.size]? = some (.cells #[.string c.k, .string c.o, .string c.n, .bool c.was, .bool c.is_] 40 (0, 0)) := by rw [← hh]; exact push_at _ _
    have kk18 := hkeep.trans (k18.mono hkeep.size)
    refine ⟨_, reads_load sc9 (by rw [cell_at v18]; rfl), _, reads_load sc9 (by rw [Addr.add_row, cell_at v18]; rfl), _, reads_load sc9 (by rw [Addr.add_row, cell_at v18]; rfl), ?_⟩
    refine br_intro (fun _ => ⟨kk18, rfl⟩) (fun _ => ?_)
    rw [wrap_i64 (n := (k : Int) + 1) (by omega) (by omega)]
    exact ⟨⟨k + 1, rfl, hlt, kk18⟩, by dsimp only; omega⟩
  · refine (apply_spec hS (c0 := c0) (c1 := c1) (h0.keep hkeep) (h1.keep hkeep) (by omega) (by omega) t0 z0 z1).mono ?_
    rintro v g1 ⟨j1, a1, u1, d1, e1, rfl, o1, he1⟩
    have f1 := hkeep.trans (j1.mono hkeep.size)
    refine ⟨_, _, _, _, rfl, ?_⟩
    refine (apply_ref_spec (c0 := c0) (c1 := c1) (h0.keep f1) (h1.keep f1) (by omega) (by omega)).mono ?_
    rintro v g2 ⟨j2, a2, u2, d2, e2, rfl, s2, hu2, he2⟩
    have f2 := f1.trans (j2.mono f1.size)
    refine ⟨_, _, _, _, rfl, ?_⟩
    subst he1 he2
    have y1 := o1.1
    have y2 := s2.1
    generalize (if (applyL xs cs).isSome = true then (0 : Int) else 4) = e
    change br (decide (e = e)) _ _
    refine br_intro (fun _ => ?_) (fun h => by simp at h)
    refine (same8_spec (o1.sl.keep j2) s2 (by omega)).mono ?_
    rintro v g3 ⟨j3, rfl⟩
    exact ⟨_, rfl, f2.trans (j3.mono f2.size), by simp⟩

theorem law12_spec (hS : SortedKeys) {h : Heap} {A0 A1 : Option Addr} {n0 c0 n1 c1 : Nat} {xs ys : List Pr} (h0 : Sl PairE h A0 n0 xs) (h1 : Sl PairE h A1 n1 ys)
    (hc0 : n0 ≤ c0) (hc1 : n1 ≤ c1) (hn0 : n0 ≤ 9223372036854775807) (hn1 : n1 ≤ 9223372036854775807) (z0 : Bd (ks xs)) (z1 : Bd (ks ys)) :
    HC Try.prog 12 #[.slice A0 n0 c0, .slice A1 n1 c1] h fun v h' => Keep h.size h h' ∧ v = .bool true := by
  refine HC_of_vc (args := [.slice A0 n0 c0, .slice A1 n1 c1]) (base := 63) (cuts := []) (bigs := []) hm Try.func12 ?_
  rw [vc12]
  refine (alive_spec h).mono ?_
  rintro v w ⟨k, rfl⟩
  refine ⟨_, rfl, br_intro (fun e => by cases e) (fun _ => ?_)⟩
  refine (odd_spec (h0.keep k) hn0).mono ?_
  rintro v w0 ⟨q0, b0, rfl, hb0⟩
  have k0 := k.trans (q0.mono k.size)
  refine ⟨_, rfl, br_intro (fun e => ?_) (fun _ => ⟨k0, rfl⟩)⟩
  obtain ⟨m0, r0⟩ := hb0 (by cases b0 <;> simp_all)
  refine (odd_spec (h1.keep k0) hn1).mono ?_
  rintro v w1 ⟨q1, b1, rfl, hb1⟩
  have k1 := k0.trans (q1.mono k0.size)
  refine ⟨_, rfl, br_intro (fun _ => ⟨k1, rfl⟩) (fun e => ?_)⟩
  obtain ⟨m1, r1⟩ := hb1 e
  have t0 := rise_srt r0
  have i0 := h0.1
  have t1 := rise_srt r1
  have i1 := h1.1
  refine svc_copy (h0.keep k1) (by omega) fun ax cx h15 ox k15 => ?_
  have f15 := k1.trans (k15.mono k1.size)
  refine svc_copy (h1.keep f15) (by omega) fun ay cy h25 oy k25 => ?_
  have f25 := f15.trans (k25.mono f15.size)
  have sx := ox.sl.keep k25
  have sy := oy.sl
  refine (of_spec' sx sy ox.2.1 oy.2.1 (by omega) (by omega) r0 r1).mono ?_
  rintro v h30 ⟨j30, a31, u31, d31, rfl, _, hu31, s31⟩
  have f30 := f25.trans (j30.mono f25.size)
  refine ⟨_, _, _, rfl, ?_⟩
  refine svc_buildSlice0 (sz := 5) (e := 40) (by kernel_rfl) (by kernel_rfl) ⟨_, _, _, rfl, ?_⟩
  have kp := Keep.push h30.size h30 (.cells #[] 40 (0, 0)) (Nat.le_refl _)
  have own : Own ChangeE 40 h30.size (h30.push (.cells #[] 40 (0, 0))) (some ⟨h30.size, 0, none⟩) 0 0 [] :=
    ⟨rfl, Nat.le_refl _, .inr ⟨h30.size, _, rfl, Nat.le_refl _, push_at _ _, by simp, [], by simp⟩⟩
  refine svc_append (ty := 26) app26 own kp.size (s31.keep kp) (by omega) fun a41 d41 h40 o41 v41 b41 => ⟨_, _, _, rfl, ?_⟩
  rw [Nat.zero_add] at o41 ⊢
  rw [List.nil_append] at o41
  have j40 : Keep h30.size h30 h40 := kp.trans (v41.keep kp.size fun i ⟨p, e, hp⟩ => by cases e; exact Nat.le_of_eq hp)
  have f40 := f30.trans (j40.mono f30.size)
  have x40 := (sx.keep j30).keep j40
  have y40 := (sy.keep j30).keep j40
  have l40 := s31.keep j40
  refine (apply_spec hS x40 o41.sl (by omega) (by omega) t0 z0 (bd_ref z0 z1)).mono ?_
  rintro v h45 ⟨j45, a46, u46, d46, e46, rfl, o46, he46⟩
  have f45 := f40.trans (j45.mono f40.size)
  refine ⟨_, _, _, _, rfl, ?_⟩
  refine (turn_spec (c0 := d41) (o41.sl.keep j45) (by omega)).mono ?_
  rintro v h51 ⟨j51, a52, u52, d52, rfl, o52⟩
  have j451 := j45.trans (j51.mono j45.size)
  refine ⟨_, _, _, rfl, ?_⟩
  have o46' := o46.upd (j51.upd fun _ => False) (fun _ _ h => h)
  have szs : szOf Try.prog 9 = some 1 := by kernel_rfl
  have hlen46 : u46 ≤ 9223372036854775807 := by
    have := o46.1
    rw [apply_ref t0 t1, Option.getD_some] at this
    omega
  refine ⟨fun n h58 => ∃ k : Nat, n = k ∧ k ≤ u46 ∧ Keep h40.size h40 h58 ∧ (0 < u46 → ∃ b cells, a46 = some ⟨b, 0, none⟩ ∧ h40.size ≤ b ∧ h58[b]? = some (.cells cells 38 (0, 0)) ∧ cells.size = d46 * 2),
    fun n _ => u46 - n.toNat, ⟨0, rfl, by omega, j451, fun hp => ?_⟩, ?_⟩
  · rcases o46'.2.2 with ⟨_, e⟩ | ⟨b, cells, e1, e2, e3, e4, _⟩
    · have := o46'.2.1; omega
    · exact ⟨b, cells, e1, e2, e3, e4⟩
  rintro n57 h58 ⟨k, rfl, hk, hkeep, hcell⟩
  refine br_intro (fun hlt => ?_) (fun hge => ?_)
  · have hlt : k < u46 := by simpa using hlt
    obtain ⟨b, cells, rfl, hb, hat, hsz⟩ := hcell (by omega)
    refine ⟨_, ⟨rfl, by omega, by omega⟩, ?_⟩
    rw [Int.toNat_natCast, Addr.add_row]
    refine svc_store_cell szs hat (by have := o46'.2.1; omega) rfl (one_string _) fun h61 s61 v61 o61 => ?_
    rw [wrap_i64 (by omega) (by omega)]
    have hs40 := hkeep.size
    refine ⟨⟨k + 1, rfl, hlt, hkeep.trans ⟨by omega, fun i hi => o61 i (by omega)⟩, fun _ => ⟨b, _, rfl, hb, v61, by simpa using hsz⟩⟩, by dsimp only; omega⟩
  · have f58 := f40.trans (hkeep.mono f40.size)
    refine (same8_spec (x40.keep hkeep) (h0.keep f58) (by omega)).mono ?_
    rintro v h63 ⟨j63, rfl⟩
    have g63 := hkeep.trans (j63.mono hkeep.size)
    have f63 := f58.trans (j63.mono f58.size)
    refine ⟨_, rfl, br_intro (fun _ => ?_) (fun e => by simp at e)⟩
    refine (same8_spec (y40.keep g63) (h1.keep f63) (by omega)).mono ?_
    rintro v h66 ⟨j66, rfl⟩
    have g66 := g63.trans (j66.mono g63.size)
    have f66 := f63.trans (j66.mono f63.size)
    refine ⟨_, rfl, br_intro (fun _ => ?_) (fun e => by simp at e)⟩
    refine (same_spec (l40.keep g66) (o41.sl.keep g66) (by omega)).mono ?_
    rintro v h69 ⟨j69, rfl⟩
    exact ⟨_, rfl, f66.trans (j69.mono f66.size), rfl⟩
end Go.Proofs.Ytepnckpaknabpaa
