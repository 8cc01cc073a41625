/-
  Contracts of the laws MergeEntries and MergeKeeps. Conditions: stated at each.
-/
import Derived.Test.YtepnckpaknabpaaM6
set_option linter.unusedVariables false
namespace Go.Proofs.Ytepnckpaknabpaa
open Go Go.Vc Go.Proofs

theorem bad_cond2 (x y z : Str × Bool) : ((!y.1.toList == x.1.toList || (y.2 != x.2)) && (!z.1.toList == x.1.toList || (z.2 != x.2)) && !(y.1.toList == z.1.toList && (y.2 == z.2))) =
    (!eqE y x && !(eqE z x || eqE y z)) := by
  unfold eqE
  generalize (y.1.toList == x.1.toList) = a
  generalize (z.1.toList == x.1.toList) = b
  generalize (y.1.toList == z.1.toList) = c
  obtain ⟨_, x⟩ := x; obtain ⟨_, y⟩ := y; obtain ⟨_, z⟩ := z
  cases a <;> cases b <;> cases c <;> cases x <;> cases y <;> cases z <;> rfl
theorem ne_cond (x y : Str × Bool) : (!y.1.toList == x.1.toList || (y.2 != x.2)) = !eqE y x := by
  unfold eqE
  generalize (y.1.toList == x.1.toList) = a
  obtain ⟨_, x⟩ := x; obtain ⟨_, y⟩ := y
  cases a <;> cases x <;> cases y <;> rfl

theorem law6_spec {h : Heap} {A0 A1 A2 : Option Addr} {n0 c0 n1 c1 n2 c2 : Nat} {s : Str} {xs ys zs : List Pr} (h0 : Sl PairE h A0 n0 xs) (h1 : Sl PairE h A1 n1 ys) (h2 : Sl PairE h A2 n2 zs)
    (hc0 : n0 ≤ c0) (hc1 : n1 ≤ c1) (hc2 : n2 ≤ c2) (hn0 : n0 ≤ 9223372036854775807) (hn1 : n1 ≤ 9223372036854775807) (hn2 : n2 ≤ 9223372036854775807) :
    HC Try.prog 6 #[.slice A0 n0 c0, .slice A1 n1 c1, .slice A2 n2 c2, .string s] h fun v h' => Keep h.size h h' ∧ v = .bool true := by
  refine HC_of_vc (args := [.slice A0 n0 c0, .slice A1 n1 c1, .slice A2 n2 c2, .string s]) (base := 150) (cuts := []) (bigs := []) hm Try.func6 ?_
  rw [vc6]
  refine (alive20_spec h).mono ?_
  rintro v g2 ⟨k2, rfl⟩
  refine ⟨_, rfl, br_intro (fun e => by cases e) (fun _ => ?_)⟩
  refine (odd20_spec (h0.keep k2) hn0).mono ?_
  rintro v g4 ⟨k4, b5, rfl, hb5⟩
  have kk4 := k2.trans (k4.mono k2.size)
  refine ⟨_, rfl, br_intro (fun e => ?_) (fun _ => ⟨kk4, rfl⟩)⟩
  obtain ⟨m0, r0⟩ := hb5 (by cases b5 <;> simp_all)
  refine (odd20_spec (h1.keep kk4) hn1).mono ?_
  rintro v g7 ⟨k7, b8, rfl, hb8⟩
  have kk7 := kk4.trans (k7.mono kk4.size)
  refine ⟨_, rfl, br_intro (fun e => ?_) (fun _ => ⟨kk7, rfl⟩)⟩
  obtain ⟨m1, r1⟩ := hb8 (by cases b8 <;> simp_all)
  refine (odd20_spec (h2.keep kk7) hn2).mono ?_
  rintro v g10 ⟨k10, b11, rfl, hb11⟩
  have kk10 := kk7.trans (k10.mono kk7.size)
  refine ⟨_, rfl, br_intro (fun _ => ⟨kk10, rfl⟩) (fun e => ?_)⟩
  obtain ⟨m2, r2⟩ := hb11 (by cases b11 <;> simp_all)
  have t0 := rise_srt r0
  have t1 := rise_srt r1
  have t2 := rise_srt r2
  have i0 := h0.1
  have i1 := h1.1
  have i2 := h2.1
  refine (merge_spec (h0.keep kk10) (h1.keep kk10) (h2.keep kk10) hc0 hc1 hc2 (by omega) (by omega) (by omega) t0 t1 t2).mono ?_
  rintro v g13 ⟨k13, a, n, c, a', n', c', rfl, o1, o2⟩
  have kk13 := kk10.trans (k13.mono kk10.size)
  refine ⟨_, _, _, _, _, _, rfl, ?_⟩
  refine (entry_spec (s := s) (h0.keep kk13) (by omega)).mono ?_
  rintro v g21 ⟨k21, rfl⟩
  have kk21 := kk13.trans (k21.mono kk13.size)
  refine ⟨_, _, rfl, ?_⟩
  refine (entry_spec (s := s) (h1.keep kk21) (by omega)).mono ?_
  rintro v g25 ⟨k25, rfl⟩
  have kk25 := kk21.trans (k25.mono kk21.size)
  refine ⟨_, _, rfl, ?_⟩
  refine (entry_spec (s := s) (h2.keep kk25) (by omega)).mono ?_
  rintro v g29 ⟨k29, rfl⟩
  have kk29 := kk25.trans (k29.mono kk25.size)
  have kx := (k21.trans (k25.mono k21.size)).trans (k29.mono (Nat.le_trans k21.size k25.size))
  have s1 := o1.sl.keep kx
  have s2 := o2.sl.keep kx
  have z1 := s1.1
  have z2 := s2.1
  obtain ⟨q1, q2⟩ := merge_lens xs ys zs
  refine ⟨_, _, rfl, _, fun _ => eqBool _ _ _ _ _, _, fun _ => eqBool _ _ _ _ _, _, fun _ => eqBoolE _ _ _ _ _, ?_⟩
  rw [bad_cond2 (entL xs s) (entL ys s) (entL zs s), ne_cond (entL xs s) (entL ys s)]
  refine ⟨fun b n h39 => ∃ k : Nat, n = k ∧ k ≤ n' ∧ Keep g29.size g29 h39 ∧ (b = true ↔ s ∈ (mB xs ys zs).take k), fun _ n _ => n' - n.toNat, ⟨0, rfl, by omega, Keep.refl _ _, by simp⟩, ?_⟩
  rintro b37 n38 h39 ⟨k, rfl, hk, hkeep, hb⟩
  refine br_intro (fun hlt => ?_) (fun hge => ?_)
  · have hlt : k < n' := by simpa using hlt
    obtain ⟨p, rfl, hx, cc⟩ := str_at s2 hlt
    refine ⟨p, ⟨rfl, by omega, by omega⟩, _, reads_load sc9 (hkeep.cell_some cc), ?_⟩
    rw [wrap_i64 (by omega) (by omega)]
    refine ⟨⟨k + 1, rfl, hlt, hkeep, ?_⟩, by dsimp only; omega⟩
    rw [List.take_succ_eq_append_getElem hx, List.mem_append, List.mem_singleton, ← hb, Bool.or_eq_true, eq_beq]
    exact ⟨fun h => h.imp id Eq.symm, fun h => h.imp id Eq.symm⟩
  · have : k = n' := by simp at hge; omega
    subst this
    rw [List.take_of_length_le (by omega), bad_mem] at hb
    have hb37 : b37 = badF xs ys zs s := by rw [Bool.eq_iff_iff]; exact hb
    subst hb37
    have kk39 := kk29.trans (hkeep.mono kk29.size)
    refine ⟨_, eqBool _ _ _ _ _, ?_⟩
    refine br_intro (fun e => ?_) (fun e => ?_)
    · exfalso
      have hne : (badF xs ys zs s != badF xs ys zs s) = false := by simp
      change ((badF xs ys zs s != badF xs ys zs s) || _) = true at e
      rw [hne, Bool.false_or] at e
      simp only [Bool.and_eq_true, decide_eq_true_eq] at e
      have hpos : 0 < (mB xs ys zs).length := by omega
      have : mO xs ys zs = [] := by
        unfold mO
        cases hf : mB xs ys zs with
        | nil => rw [hf] at hpos; simp at hpos
        | cons _ _ => rfl
      rw [this] at z1; simp at z1; omega
    · refine br_intro (fun _ => ⟨kk39, rfl⟩) (fun e0 => ?_)
      have hB : mB xs ys zs = [] := List.eq_nil_of_length_eq_zero (by simp at e0; omega)
      refine (entry_spec (s := s) (s1.keep hkeep) (by omega)).mono ?_
      rintro v h44 ⟨k44, rfl⟩
      have kk44 := kk39.trans (k44.mono kk39.size)
      refine ⟨_, _, rfl, ?_⟩
      rw [ent_merge hB]
      refine br_intro (fun hl => ?_) (fun hl => ?_)
      · have pick : pickF xs ys zs s = entL ys s := by
          unfold pickF; rw [if_neg]
          intro e; rw [e] at hl; cases hl
        rw [pick]
        exact ⟨_, fun _ => eqBoolE _ _ _ _ _, kk44, by simp⟩
      · have pick : pickF xs ys zs s = entL zs s := by
          unfold pickF; rw [if_pos]
          cases hx : eqE (entL ys s) (entL xs s) with
          | true => rfl
          | false => rw [hx] at hl; cases hl
        rw [pick]
        exact ⟨_, fun _ => eqBoolE _ _ _ _ _, kk44, by simp⟩

theorem svc_buildSlice0 {P : Program} {t e : TypeId} {sz : Nat} {h : Heap} {K : Value → Heap → Prop} (hu : P.underlying t = some (.slice e)) (hs : szOf P e = some sz)
    (k : K (.slice (some ⟨h.size, 0, none⟩) 0 0) (h.push (.cells #[] e (0, 0)))) : SVC P (Instr.buildSlice t 0 (Array.mk [])) h K := by
  refine ⟨fun w hw => ?_⟩
  subst hw
  refine ⟨.slice (some ⟨w.heap.size, 0, none⟩) 0 0, { w with heap := w.heap.push (.cells #[] e (0, 0)) }, ?_, ⟨rfl, rfl, rfl⟩, k⟩
  simp only [Instr.buildSlice, Sem.run_bind, run_underlying hu, Result.andThen_ok, run_szOf hs]
  rw [if_neg (by omega)]
  have e0 : (Array.range 0) = (#[] : Array Nat) := by apply Array.ext <;> simp
  simp [e0, Instr.fill, newRow]
/-- a copy of a list of pairs. -/
theorem svc_copy {h : Heap} {A : Option Addr} {n c : Nat} {xs : List Pr} {ty : TypeId} {K : Option Addr → Nat → Nat → Heap → Prop} (hs : Sl PairE h A n xs) (hn : n ≤ 67108864)
    (k : ∀ a' c' h', Own PairE 38 h.size h' a' n c' xs → Keep h.size h h' → K a' n c' h') :
    SVC Try.prog (Instr.buildSlice 22 0 (Array.mk [])) h fun v h' => ∃ (a : Option Addr), ∃ (n1 : Nat), ∃ (c1 : Nat), v = Value.slice a n1 c1 ∧
      SVC Try.prog (Builtin.append_ (Array.mk [22, 22]) ty (Array.mk [Value.slice a n1 c1, Value.slice A n c])) h' fun v h'' => ∃ (a' : Option Addr), ∃ (n' : Nat), ∃ (c' : Nat), v = Value.slice a' n' c' ∧ K a' n' c' h'' := by
  refine svc_buildSlice0 (sz := 2) (e := 38) (by kernel_rfl) (by kernel_rfl) ⟨_, _, _, rfl, ?_⟩
  have kp := Keep.push h.size h (.cells #[] 38 (0, 0)) (Nat.le_refl _)
  have own : Own PairE 38 h.size (h.push (.cells #[] 38 (0, 0))) (some ⟨h.size, 0, none⟩) 0 0 [] :=
    ⟨rfl, Nat.le_refl _, .inr ⟨h.size, _, rfl, Nat.le_refl _, push_at _ _, by simp, [], by simp⟩⟩
  refine svc_append (ty := ty) app22 own kp.size (hs.keep kp) (by omega) fun a' c' h' o' u' b' => ⟨_, _, _, rfl, ?_⟩
  rw [Nat.zero_add] at o' ⊢
  rw [List.nil_append] at o'
  exact k a' c' h' o' (kp.trans (u'.keep kp.size fun i ⟨p, e, hp⟩ => by cases e; exact Nat.le_of_eq hp))

theorem law7_spec {h : Heap} {A0 A1 A2 : Option Addr} {n0 c0 n1 c1 n2 c2 : Nat} {xs ys zs : List Pr} (h0 : Sl PairE h A0 n0 xs) (h1 : Sl PairE h A1 n1 ys) (h2 : Sl PairE h A2 n2 zs)
    (hc0 : n0 ≤ c0) (hc1 : n1 ≤ c1) (hc2 : n2 ≤ c2) (hn0 : n0 ≤ 9223372036854775807) (hn1 : n1 ≤ 9223372036854775807) (hn2 : n2 ≤ 9223372036854775807) :
    HC Try.prog 7 #[.slice A0 n0 c0, .slice A1 n1 c1, .slice A2 n2 c2] h fun v h' => Keep h.size h h' ∧ v = .bool true := by
  refine HC_of_vc (args := [.slice A0 n0 c0, .slice A1 n1 c1, .slice A2 n2 c2]) (base := 74) (cuts := []) (bigs := []) hm Try.func7 ?_
  rw [vc7]
  refine (alive20_spec h).mono ?_
  rintro v g2 ⟨k2, rfl⟩
  refine ⟨_, rfl, br_intro (fun e => by cases e) (fun _ => ?_)⟩
  refine (odd20_spec (h0.keep k2) hn0).mono ?_
  rintro v g4 ⟨k4, b5, rfl, hb5⟩
  have kk4 := k2.trans (k4.mono k2.size)
  refine ⟨_, rfl, br_intro (fun e => ?_) (fun _ => ⟨kk4, rfl⟩)⟩
  obtain ⟨m0, r0⟩ := hb5 (by cases b5 <;> simp_all)
  refine (odd20_spec (h1.keep kk4) hn1).mono ?_
  rintro v g7 ⟨k7, b8, rfl, hb8⟩
  have kk7 := kk4.trans (k7.mono kk4.size)
  refine ⟨_, rfl, br_intro (fun e => ?_) (fun _ => ⟨kk7, rfl⟩)⟩
  obtain ⟨m1, r1⟩ := hb8 (by cases b8 <;> simp_all)
  refine (odd20_spec (h2.keep kk7) hn2).mono ?_
  rintro v g10 ⟨k10, b11, rfl, hb11⟩
  have kk10 := kk7.trans (k10.mono kk7.size)
  refine ⟨_, rfl, br_intro (fun _ => ⟨kk10, rfl⟩) (fun e => ?_)⟩
  obtain ⟨m2, r2⟩ := hb11 e
  have t0 := rise_srt r0
  have t1 := rise_srt r1
  have t2 := rise_srt r2
  have i0 := h0.1
  have i1 := h1.1
  have i2 := h2.1
  refine svc_copy (h0.keep kk10) (by omega) fun ax cx h18 ox k18 => ?_
  have kk18 := kk10.trans (k18.mono kk10.size)
  refine svc_copy (h1.keep kk18) (by omega) fun ay cy h28 oy k28 => ?_
  have kk28 := kk18.trans (k28.mono kk18.size)
  refine svc_copy (h2.keep kk28) (by omega) fun az cz h38 oz k38 => ?_
  have kk38 := kk28.trans (k38.mono kk28.size)
  have sx := ox.sl.keep (k28.trans (k38.mono k28.size))
  have sy := oy.sl.keep k38
  have sz := oz.sl
  refine (merge_spec sx sy sz ox.2.1 oy.2.1 oz.2.1 (by omega) (by omega) (by omega) t0 t1 t2).mono ?_
  rintro v h43 ⟨k43, a, n, c, a', n', c', rfl, o1, o2⟩
  refine ⟨_, _, _, _, _, _, rfl, ?_⟩
  have z1 := o1.1
  have z2 := o2.1
  obtain ⟨q1, q2⟩ := merge_lens xs ys zs
  have szs : szOf Try.prog 9 = some 1 := by kernel_rfl
  have hB43 : h38.size ≤ h43.size := k43.size
  refine ⟨fun n52 h53 => ∃ k : Nat, n52 = k ∧ k ≤ n ∧ Keep h38.size h43 h53 ∧ (n = 0 → h53 = h43) ∧ (0 < n → ∃ b cells, a = some ⟨b, 0, none⟩ ∧ h38.size ≤ b ∧ h53[b]? = some (.cells cells 38 (0, 0)) ∧ cells.size = c * 2),
    fun n52 _ => n - n52.toNat, ⟨0, rfl, by omega, Keep.refl _ _, fun _ => rfl, fun hp => ?_⟩, ?_⟩
  · rcases o1.2.2 with ⟨_, e⟩ | ⟨b, cells, e1, e2, e3, e4, _⟩
    · have := o1.2.1; omega
    · exact ⟨b, cells, e1, e2, e3, e4⟩
  rintro n52 h53 ⟨k, rfl, hk, hkeep, hz, hcell⟩
  refine br_intro (fun hlt => ?_) (fun hge => ?_)
  · have hlt : k < n := by simpa using hlt
    obtain ⟨b, cells, rfl, hb, hat, hsz⟩ := hcell (by omega)
    refine ⟨_, ⟨rfl, by omega, by omega⟩, ?_⟩
    rw [Int.toNat_natCast, Addr.add_row]
    refine svc_store_cell szs hat (by have := o1.2.1; omega) rfl (one_string _) fun h56 s56 v56 o56 => ?_
    rw [wrap_i64 (by omega) (by omega)]
    refine ⟨⟨k + 1, rfl, hlt, hkeep.trans ⟨by omega, fun i hi => o56 i (by omega)⟩, fun e => by omega, fun _ => ⟨b, _, rfl, hb, v56, by simpa using hsz⟩⟩, by dsimp only; omega⟩
  · refine ⟨fun n59 h60 => ∃ k : Nat, n59 = k ∧ k ≤ n' ∧ Keep h38.size h43 h60 ∧ (0 < n' → ∃ b cells, a' = some ⟨b, 0, none⟩ ∧ h38.size ≤ b ∧ h60[b]? = some (.cells cells 9 (0, 0)) ∧ cells.size = c' * 1),
      fun n59 _ => n' - n59.toNat, ⟨0, rfl, by omega, hkeep, fun hp => ?_⟩, ?_⟩
    · have hO : mO xs ys zs = [] := by
        unfold mO
        cases hf : mB xs ys zs with
        | nil => rw [hf] at z2; simp at z2; omega
        | cons _ _ => rfl
      rw [hO] at z1
      rw [hz (by simpa using z1.symm)]
      rcases o2.2.2 with ⟨_, e⟩ | ⟨b, cells, e1, e2, e3, e4, _⟩
      · have := o2.2.1; omega
      · exact ⟨b, cells, e1, e2, e3, e4⟩
    rintro n59 h60 ⟨j, rfl, hj, hkeep', hcell'⟩
    refine br_intro (fun hlt => ?_) (fun hge' => ?_)
    · have hlt : j < n' := by simpa using hlt
      obtain ⟨b, cells, rfl, hb, hat, hsz⟩ := hcell' (by omega)
      refine ⟨_, ⟨rfl, by omega, by omega⟩, ?_⟩
      rw [Int.toNat_natCast, Addr.add_row]
      refine svc_store_cell szs hat (by have := o2.2.1; omega) rfl (one_string _) fun h63 s63 v63 o63 => ?_
      rw [wrap_i64 (by omega) (by omega)]
      refine ⟨⟨j + 1, rfl, hlt, hkeep'.trans ⟨by omega, fun i hi => o63 i (by omega)⟩, fun _ => ⟨b, _, rfl, hb, v63, by simpa using hsz⟩⟩, by dsimp only; omega⟩
    · have k60 : Keep h38.size h38 h60 := k43.trans hkeep'
      have kk60 := kk38.trans (k60.mono kk38.size)
      refine (same8_spec (sx.keep k60) (h0.keep kk60) (by omega)).mono ?_
      rintro v h65 ⟨k65, rfl⟩
      have k65' := k60.trans (k65.mono k60.size)
      have kk65 := kk60.trans (k65.mono kk60.size)
      refine ⟨_, rfl, br_intro (fun _ => ?_) (fun e => by simp at e)⟩
      refine (same8_spec (sy.keep k65') (h1.keep kk65) (by omega)).mono ?_
      rintro v h68 ⟨k68, rfl⟩
      have k68' := k65'.trans (k68.mono k65'.size)
      have kk68 := kk65.trans (k68.mono kk65.size)
      refine ⟨_, rfl, br_intro (fun _ => ?_) (fun e => by simp at e)⟩
      refine (same8_spec (sz.keep k68') (h2.keep kk68) (by omega)).mono ?_
      rintro v h71 ⟨k71, rfl⟩
      exact ⟨_, rfl, kk68.trans (k71.mono kk68.size), by simp⟩
end Go.Proofs.Ytepnckpaknabpaa
