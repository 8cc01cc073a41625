/-
  Contracts of the reference's Apply and of diff.Turn; what a list of pairs has behind a write. Conditions: lists by rising keys where stated.
-/
import Derived.Test.YtepnckpaknabpaaM7
import Derived.Test.YtepnckpaknabpaaG6
set_option linter.unusedVariables false
namespace Go.Proofs.Ytepnckpaknabpaa
open Go Go.Vc Go.Proofs

theorem ge_iff {a k : Str} : ge a k = !lt a k := rfl
theorem ent_app {us vs : List Pr} {q : Str} (h : q ∉ ks us) : entL (us ++ vs) q = entL vs q := by
  induction us with
  | nil => rfl
  | cons a us ih =>
    simp only [ks, List.map_cons, List.mem_cons, not_or] at h
    rw [List.cons_append, ent_past (fun e => h.1 e.symm)]
    exact ih h.2
theorem done_ent_true (k v q : Str) : ∀ (l : List Pr), entL (doneGo k v l true) q = if q = k then (⟨#[]⟩, false) else entL l q
  | [] => by simp [doneGo, entL]
  | p :: l => by
    have ih := done_ent_true k v q l
    simp only [doneGo, Bool.not_true, Bool.false_and, Bool.false_eq_true, if_false, List.nil_append, Bool.true_or]
    by_cases hp : p.1 = k
    · rw [if_pos (eq_beq.2 hp), List.nil_append, ih]
      by_cases hq : q = k
      · rw [if_pos hq, if_pos hq]
      · rw [if_neg hq, if_neg hq, ent_past (fun e => hq (by rw [← e, hp]))]
    · rw [if_neg (fun e => hp (eq_beq.1 e)), List.singleton_append]
      by_cases hpq : p.1 = q
      · subst hpq; rw [ent_here p, if_neg hp, ent_here]
      · rw [ent_past hpq, ih]
        by_cases hq : q = k
        · rw [if_pos hq, if_pos hq]
        · rw [if_neg hq, if_neg hq, ent_past hpq]
theorem done_ent_false (k v q : Str) : ∀ (l : List Pr), entL (doneGo k v l false) q = if q = k then (v, true) else entL l q
  | [] => by
    simp only [doneGo, Bool.false_eq_true, if_false]
    by_cases hq : q = k
    · subst hq; rw [if_pos rfl]; exact ent_here (q, v) []
    · rw [if_neg hq, ent_past (a := (k, v)) (fun e => hq e.symm)]
  | p :: l => by
    have ih := done_ent_false k v q l
    have it := done_ent_true k v q l
    simp only [doneGo, Bool.not_false, Bool.true_and, Bool.false_or]
    cases hg : ge p.1 k with
    | true =>
      simp only [if_true, List.singleton_append]
      by_cases hq : q = k
      · subst hq; rw [if_pos rfl]; exact ent_here (q, v) _
      · rw [if_neg hq, ent_past (a := (k, v)) (fun e => hq e.symm)]
        by_cases hp : p.1 = k
        · rw [if_pos (eq_beq.2 hp), List.nil_append, it, if_neg hq, ent_past (fun e => hq (by rw [← e, hp]))]
        · rw [if_neg (fun e => hp (eq_beq.1 e)), List.singleton_append]
          by_cases hpq : p.1 = q
          · subst hpq; rw [ent_here p, ent_here]
          · rw [ent_past hpq, it, if_neg hq, ent_past hpq]
    | false =>
      have hp : p.1 ≠ k := fun e => by rw [ge_iff, e, lt_irrefl] at hg; cases hg
      simp only [Bool.false_eq_true, if_false, List.nil_append]
      rw [if_neg (fun e => hp (eq_beq.1 e)), List.singleton_append]
      by_cases hpq : p.1 = q
      · subst hpq; rw [ent_here p, if_neg hp, ent_here]
      · rw [ent_past hpq, ih]
        by_cases hq : q = k
        · rw [if_pos hq, if_pos hq]
        · rw [if_neg hq, if_neg hq, ent_past hpq]
theorem done_srt_true (k v : Str) : ∀ (l : List Pr), Srt (ks l) → Srt (ks (doneGo k v l true)) ∧ ∀ q, q ∈ ks (doneGo k v l true) → q ∈ ks l
  | [], _ => by simp [doneGo, ks]
  | p :: l, h => by
    have hp := List.pairwise_cons.1 (show Srt (p.1 :: ks l) from h)
    obtain ⟨i1, i2⟩ := done_srt_true k v l hp.2
    simp only [doneGo, Bool.not_true, Bool.false_and, Bool.false_eq_true, if_false, List.nil_append, Bool.true_or]
    split
    · exact ⟨i1, fun q hq => List.mem_cons_of_mem _ (i2 q hq)⟩
    · refine ⟨List.pairwise_cons.2 ⟨fun q hq => hp.1 q (i2 q hq), i1⟩, fun q hq => ?_⟩
      rcases List.mem_cons.1 (show q ∈ p.1 :: ks (doneGo k v l true) from hq) with rfl | hq
      · exact List.mem_cons_self
      · exact List.mem_cons_of_mem _ (i2 q hq)

/- the reference's Apply -/
def applyL (a : List Pr) (cs : List Chg) : Option (List Pr) := match cs with
  | [] => some a
  | c :: cs => if eqE (entL a c.k) (c.o, c.was) then applyL (doneGo c.k c.n a (!c.is_)) cs else none
theorem apply_ref_spec {h : Heap} {A0 A1 : Option Addr} {n0 c0 n1 c1 : Nat} {xs : List Pr} {cs : List Chg} (h0 : Sl PairE h A0 n0 xs) (h1 : Sl ChangeE h A1 n1 cs) (hn0 : n0 ≤ 268435456) (hn1 : n1 ≤ 268435456) :
    HC Try.prog 26 #[.slice A0 n0 c0, .slice A1 n1 c1] h fun v h' => Keep h.size h h' ∧ ∃ a n c e, v = .tuple #[.slice a n c, .int .i64 e] ∧ Sl PairE h' a n ((applyL xs cs).getD []) ∧ n ≤ n0 + n1 ∧
      e = (if (applyL xs cs).isSome then 0 else 4) := by
  refine HC_of_vc (args := [.slice A0 n0 c0, .slice A1 n1 c1]) (base := 45) (cuts := []) (bigs := []) hm Try.func26 ?_
  rw [vc26]
  have l0 := h0.1
  have l1 := h1.1
  refine ⟨fun a2 k3 k4 a5 k6 k7 n8 n9 h10 => ∃ (k : Nat) (us : List Pr), n9 = k ∧ k ≤ n1 ∧ Keep h.size h h10 ∧ Sl PairE h10 a2 k3 us ∧ k3 ≤ n0 + k ∧ applyL us (cs.drop k) = applyL xs cs,
    fun _ _ _ _ _ _ _ n9 _ => n1 - n9.toNat, ⟨0, xs, rfl, by omega, Keep.refl _ _, h0, by omega, by simp⟩, ?_⟩
  rintro a2 k3 k4 a5 k6 k7 n8 n9 h10 ⟨k, us, rfl, hk, hkeep, hus, hk3, hg⟩
  refine br_intro (fun hlt => ?_) (fun hge => ?_)
  · have hlt : k < n1 := by simpa using hlt
    obtain ⟨p, rfl, hx, cc⟩ := chg_at h1 hlt
    refine ⟨p, ⟨rfl, by omega, by omega⟩, _, _, _, _, _, chg_load (x := cs[k]) (fun j v hv => hkeep.cell_some (cc j v hv)), ?_⟩
    rw [List.drop_eq_getElem_cons hx, applyL] at hg
    generalize cs[k] = c at *
    refine svc_store_new (v := .agg _) sz40 rfl (fun v hv => ChangeE.one c v hv) ?_
    generalize hh18 : h10.push (Obj.cells (Value.agg (Array.mk [.string c.k, .string c.o, .string c.n, .bool c.was, .bool c.is_])).cells 40) = h18
    have k18 : Keep h10.size h10 h18 := by rw [← hh18]; exact Keep.push _ _ _ (Nat.le_refl _)
    have v18 : h18[h10.size]? = some (.cells #[.string c.k, .string c.o, .string c.n, .bool c.was, .bool c.is_] 40 (0, 0)) := by rw [← hh18]; exact push_at _ _
    have kk18 := hkeep.trans (k18.mono hkeep.size)
    refine ⟨_, reads_load sc9 (by rw [cell_at v18]; rfl), ?_⟩
    refine (entry_spec (s := c.k) (hus.keep k18) (by have := hus.1; omega)).mono ?_
    rintro v h21 ⟨k21, rfl⟩
    have kk21 := kk18.trans (k21.mono kk18.size)
    have v21 := k21.at v18 (at_lt v18)
    refine ⟨_, _, rfl, _, reads_load sc9 (by rw [Addr.add_row, cell_at v21]; rfl), _, fun _ => reads_load sc4 (by rw [Addr.add_row, cell_at v21]; rfl), _, fun _ => eqBool _ _ _ _ _, ?_⟩
    rw [ne_cond (c.o, c.was) (entL us c.k)]
    refine br_intro (fun hne => ?_) (fun heq => ?_)
    · rw [if_neg (by simpa using hne)] at hg
      rw [← hg]
      exact ⟨kk21, _, _, _, _, rfl, Sl.nil _ _, by omega, rfl⟩
    · rw [if_pos (by simpa using heq)] at hg
      refine ⟨_, reads_load sc9 (by rw [cell_at v21]; rfl), _, reads_load sc9 (by rw [Addr.add_row, cell_at v21]; rfl), _, reads_load sc4 (by rw [Addr.add_row, cell_at v21]; rfl), ?_⟩
      refine (done_spec (s0 := c.k) (s1 := c.n) (b := !c.is_) ((hus.keep k18).keep k21) (by omega)).mono ?_
      rintro v h31 ⟨k31, a, cp, rfl, _, hsl⟩
      refine ⟨_, _, _, rfl, ?_⟩
      rw [wrap_i64 (by omega) (by omega)]
      refine ⟨⟨k + 1, _, rfl, hlt, kk21.trans (k31.mono kk21.size), hsl, ?_, hg⟩, by dsimp only; omega⟩
      have := (doneGo_len c.k c.n us (!c.is_)).1
      have := hus.1
      omega
  · have : k = n1 := by simp at hge; omega
    subst this
    rw [List.drop_eq_nil_of_le (by omega), applyL] at hg
    rw [← hg]
    exact ⟨hkeep, _, _, _, _, rfl, hus, hk3, rfl⟩

/- Turn -/
def turnC (c : Chg) : Chg := ⟨c.k, c.n, c.o, c.is_, c.was⟩
def turnL (cs : List Chg) : List Chg := cs.reverse.map turnC
theorem turn_turn (cs : List Chg) : turnL (turnL cs) = cs := by
  unfold turnL
  rw [← List.map_reverse, List.reverse_reverse, List.map_map]
  conv => rhs; rw [← List.map_id cs]
  exact List.map_congr_left fun c _ => rfl
theorem turn_spec {h : Heap} {A0 : Option Addr} {n0 c0 : Nat} {cs : List Chg} (h0 : Sl ChangeE h A0 n0 cs) (hn0 : n0 ≤ 268435456) :
    HC Try.prog 27 #[.slice A0 n0 c0] h fun v h' => Keep h.size h h' ∧ ∃ a n c, v = .slice a n c ∧ Own ChangeE 40 h.size h' a n c (turnL cs) := by
  refine HC_of_vc (args := [.slice A0 n0 c0]) (base := 32) (cuts := []) (bigs := []) hm Try.func27 ?_
  rw [vc27]
  have l0 := h0.1
  refine ⟨fun a2 k3 k4 n5 h6 => ∃ k : Nat, n5 = (n0 : Int) - 1 - k ∧ k ≤ n0 ∧ Keep h.size h h6 ∧ Own ChangeE 40 h.size h6 a2 k3 k4 ((cs.drop (n0 - k)).reverse.map turnC) ∧ k3 ≤ k,
    fun _ _ _ n5 _ => (n5 + 1).toNat, ⟨0, by rw [wrap_i64 (by omega) (by omega)]; omega, by omega, Keep.refl _ _, by rw [List.drop_eq_nil_of_le (by omega)]; exact Own.nil _ _ _, by omega⟩, ?_⟩
  rintro a2 k3 k4 n5 h6 ⟨k, rfl, hk, hkeep, own, hk3⟩
  refine br_intro (fun hlt => ?_) (fun hge => ?_)
  · have hlt : k < n0 := by simp at hlt; omega
    have hi : n0 - 1 - k < n0 := by omega
    obtain ⟨p, rfl, hx, cc⟩ := chg_at h0 hi
    have hix : ((n0 : Int) - 1 - k) = ((n0 - 1 - k : Nat) : Int) := by omega
    rw [hix]
    refine ⟨p, ⟨rfl, by omega, by omega⟩, _, _, _, _, _, chg_load (x := cs[n0 - 1 - k]) (fun j v hv => hkeep.cell_some (cc j v hv)), ?_⟩
    have hdrop : cs.drop (n0 - (k + 1)) = cs[n0 - 1 - k] :: cs.drop (n0 - k) := by
      rw [show n0 - (k + 1) = n0 - 1 - k by omega, List.drop_eq_getElem_cons hx, show n0 - 1 - k + 1 = n0 - k by omega]
    generalize cs[n0 - 1 - k] = c at *
    refine svc_store_new (v := .agg _) sz40 rfl (fun v hv => ChangeE.one c v hv) ?_
    generalize hh14 : h6.push (Obj.cells (Value.agg (Array.mk [.string c.k, .string c.o, .string c.n, .bool c.was, .bool c.is_])).cells 40) = h14
    have k14 : Keep h6.size h6 h14 := by rw [← hh14]; exact Keep.push _ _ _ (Nat.le_refl _)
    have v14 : h14[h6.size]? = some (.cells #[.string c.k, .string c.o, .string c.n, .bool c.was, .bool c.is_] 40 (0, 0)) := by rw [← hh14]; exact push_at _ _
    have kk14 := hkeep.trans (k14.mono hkeep.size)
    refine ⟨_, reads_load sc9 (by rw [cell_at v14]; rfl), _, reads_load sc9 (by rw [Addr.add_row, cell_at v14]; rfl), _, reads_load sc9 (by rw [Addr.add_row, cell_at v14]; rfl),
      _, reads_load sc4 (by rw [Addr.add_row, cell_at v14]; rfl), _, reads_load sc4 (by rw [Addr.add_row, cell_at v14]; rfl), ?_⟩
    have own' := own.upd (k14.upd fun _ => False) (fun _ _ h => h)
    refine svc_append1 (x := turnC c) app26 own' kk14.size (bs26 (turnC c)) (by omega) fun a' c' h' o' u' b' => ?_
    rw [wrap_i64 (by omega) (by omega)]
    refine ⟨⟨k + 1, by omega, hlt, kk14.trans (u'.keep kk14.size fun i hi => (own.block i hi).1), ?_, by omega⟩, by dsimp only; omega⟩
    rw [hdrop, List.reverse_cons, List.map_append]
    exact o'
  · have : k = n0 := by simp at hge; omega
    subst this
    rw [Nat.sub_self, List.drop_zero] at own
    exact ⟨hkeep, _, _, _, rfl, own⟩
end Go.Proofs.Ytepnckpaknabpaa
