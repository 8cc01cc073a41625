/-
  The plain law of DiffOf: of rising lists the changes are the reference's; of one list with itself there are none. Conditions: rising keys.
-/
import Derived.Test.YtepnckpaknabpaaD4
set_option linter.unusedVariables false
namespace Go.Proofs.Ytepnckpaknabpaa
open Go Go.Vc Go.Proofs

/- strings are ordered -/
theorem bl_irrefl : ∀ l : List UInt8, Op.bytesLess l l = false
  | [] => rfl
  | a :: l => by simp [Op.bytesLess, bl_irrefl l]
theorem bl_trans : ∀ x y z : List UInt8, Op.bytesLess x y = true → Op.bytesLess y z = true → Op.bytesLess x z = true
  | _, [], _, h, _ => by simp [Op.bytesLess] at h
  | _, _ :: _, [], _, h => by simp [Op.bytesLess] at h
  | [], _ :: _, _ :: _, _, _ => rfl
  | a :: x, b :: y, c :: z, h1, h2 => by
    simp only [Op.bytesLess, Bool.or_eq_true, Bool.and_eq_true, decide_eq_true_eq, beq_iff_eq] at *
    rcases h1 with h1 | ⟨rfl, h1⟩
    · rcases h2 with h2 | ⟨rfl, h2⟩
      · exact .inl (UInt8.lt_trans h1 h2)
      · exact .inl h1
    · rcases h2 with h2 | ⟨rfl, h2⟩
      · exact .inl h2
      · exact .inr ⟨rfl, bl_trans x y z h1 h2⟩
theorem bl_total : ∀ x y : List UInt8, Op.bytesLess x y = false → Op.bytesLess y x = false → x = y
  | [], [], _, _ => rfl
  | [], _ :: _, h, _ => by simp [Op.bytesLess] at h
  | _ :: _, [], _, h => by simp [Op.bytesLess] at h
  | a :: x, b :: y, h1, h2 => by
    simp only [Op.bytesLess, Bool.or_eq_false_iff, Bool.and_eq_false_iff, decide_eq_false_iff_not, beq_eq_false_iff_ne] at *
    have e : a = b := UInt8.le_antisymm (UInt8.not_lt.1 h2.1) (UInt8.not_lt.1 h1.1)
    subst e
    rw [bl_total x y (h1.2.resolve_left (by simp)) (h2.2.resolve_left (by simp))]
theorem str_ext {a b : Str} (h : a.toList = b.toList) : a = b := by
  rw [ByteArray.toList_eq, ByteArray.toList_eq] at h
  cases a with | mk x => cases b with | mk y => congr 1; exact Array.toList_inj.1 h
theorem lt_irrefl (a : Str) : lt a a = false := bl_irrefl _
theorem lt_trans {a b c : Str} (h : lt a b = true) (k : lt b c = true) : lt a c = true := bl_trans _ _ _ h k
theorem lt_total {a b : Str} (h : lt a b = false) (k : lt b a = false) : a = b := str_ext (bl_total _ _ h k)
theorem lt_asymm {a b : Str} (h : lt a b = true) : lt b a = false := by
  cases k : lt b a with
  | false => rfl
  | true => have := lt_trans h k; rw [lt_irrefl] at this; cases this
theorem eq_beq {a b : Str} : (a.toList == b.toList) = true ↔ a = b := ⟨fun h => str_ext (by simpa using h), fun h => by subst h; simp⟩
theorem ne_of_lt {a b : Str} (h : lt a b = true) : a ≠ b := fun e => by subst e; rw [lt_irrefl] at h; cases h

abbrev Srt (l : List Str) : Prop := l.Pairwise fun a b => lt a b = true
abbrev ks (xs : List Pr) : List Str := xs.map (·.1)

theorem rise_srt : ∀ {xs : List Pr}, riseL xs = true → Srt (ks xs)
  | [], _ => List.Pairwise.nil
  | [a], _ => by simp [ks]
  | a :: b :: r, h => by
    simp only [riseL, Bool.and_eq_true] at h
    have ih := rise_srt h.2
    simp only [ks, List.map_cons] at ih ⊢
    refine List.pairwise_cons.2 ⟨fun k hk => ?_, ih⟩
    rcases List.mem_cons.1 hk with rfl | hk
    · exact h.1
    · exact lt_trans h.1 ((List.pairwise_cons.1 ih).1 k hk)

/- two sorted lists of the same members -/
theorem srt_ext : ∀ {l m : List Str}, Srt l → Srt m → (∀ k, k ∈ l ↔ k ∈ m) → l = m
  | [], [], _, _, _ => rfl
  | [], b :: m, _, _, h => by have := (h b).2 List.mem_cons_self; cases this
  | a :: l, [], _, _, h => by have := (h a).1 List.mem_cons_self; cases this
  | a :: l, b :: m, hl, hm, h => by
    have pl := List.pairwise_cons.1 hl
    have pm := List.pairwise_cons.1 hm
    have e : a = b := by
      have h1 := (h a).1 List.mem_cons_self
      have h2 := (h b).2 List.mem_cons_self
      rcases List.mem_cons.1 h1 with e | h1
      · exact e
      · rcases List.mem_cons.1 h2 with e | h2
        · exact e.symm
        · have := lt_asymm (pl.1 _ h2); rw [pm.1 _ h1] at this; cases this
    subst e
    rw [srt_ext pl.2 pm.2 fun k => ⟨fun hk => ?_, fun hk => ?_⟩]
    · rcases List.mem_cons.1 ((h k).1 (List.mem_cons_of_mem _ hk)) with e | hk'
      · exact absurd e.symm (ne_of_lt (pl.1 k hk))
      · exact hk'
    · rcases List.mem_cons.1 ((h k).2 (List.mem_cons_of_mem _ hk)) with e | hk'
      · exact absurd e.symm (ne_of_lt (pm.1 k hk))
      · exact hk'

/- the reference's keys -/
theorem doneGo_true (k v : Str) : ∀ (l : List Pr), (∀ p ∈ l, lt k p.1 = true) → doneGo k v l true = l
  | [], _ => rfl
  | p :: l, h => by
    have hp := h p List.mem_cons_self
    have hne : (p.1.toList == k.toList) = false := by
      cases hb : p.1.toList == k.toList with
      | false => rfl
      | true => exact absurd (eq_beq.1 hb).symm (ne_of_lt hp)
    simp [doneGo, hne, doneGo_true k v l (fun q hq => h q (List.mem_cons_of_mem _ hq))]
theorem doneGo_srt (k v : Str) : ∀ (l : List Pr), Srt (ks l) → Srt (ks (doneGo k v l false)) ∧ (∀ q, q ∈ ks (doneGo k v l false) ↔ q = k ∨ q ∈ ks l)
  | [], _ => by simp [doneGo, ks]
  | p :: l, h => by
    have hp := List.pairwise_cons.1 (show Srt (p.1 :: ks l) from h)
    have after : ∀ q ∈ l, lt p.1 q.1 = true := fun q hq => hp.1 _ (List.mem_map_of_mem hq)
    cases hlt : lt p.1 k with
    | true =>
      have hg : ge p.1 k = false := by simp [ge, hlt]
      have hne : (p.1.toList == k.toList) = false := by
        cases hb : p.1.toList == k.toList with
        | false => rfl
        | true => exact absurd (eq_beq.1 hb) (ne_of_lt hlt)
      obtain ⟨i1, i2⟩ := doneGo_srt k v l hp.2
      have e : doneGo k v (p :: l) false = p :: doneGo k v l false := by rw [doneGo, hg, hne]; simp
      rw [e]
      refine ⟨List.pairwise_cons.2 ⟨fun q hq => ?_, i1⟩, fun q => ?_⟩
      · rcases (i2 q).1 hq with rfl | hq
        · exact hlt
        · exact hp.1 q hq
      · simp only [ks, List.map_cons, List.mem_cons] at i2 ⊢
        rw [i2]
        constructor
        · rintro (h | h | h)
          · exact .inr (.inl h)
          · exact .inl h
          · exact .inr (.inr h)
        · rintro (h | h | h)
          · exact .inr (.inl h)
          · exact .inl h
          · exact .inr (.inr h)
    | false =>
      have hg : ge p.1 k = true := by simp [ge, hlt]
      cases hb : p.1.toList == k.toList with
      | true =>
        have ek := eq_beq.1 hb
        have e : doneGo k v (p :: l) false = (k, v) :: l := by
          rw [doneGo, hg, hb]; simp
          exact doneGo_true k v l (fun q hq => by rw [← ek]; exact after q hq)
        rw [e]
        refine ⟨by rw [show ks ((k, v) :: l) = p.1 :: ks l by simp [ks, ek]]; exact h, fun q => ?_⟩
        simp only [ks, List.map_cons, List.mem_cons, ek]
        constructor
        · exact fun h => .inr h
        · rintro (h | h)
          · exact .inl h
          · exact h
      | false =>
        have hlt' : lt k p.1 = true := by
          cases hc : lt k p.1 with
          | true => rfl
          | false => have := lt_total hlt hc; subst this; simp at hb
        have e : doneGo k v (p :: l) false = (k, v) :: p :: l := by
          rw [doneGo, hg, hb]; simp
          exact doneGo_true k v l (fun q hq => lt_trans hlt' (after q hq))
        rw [e]
        refine ⟨List.pairwise_cons.2 ⟨fun q hq => ?_, h⟩, fun q => by simp [ks]⟩
        rcases List.mem_cons.1 (show q ∈ p.1 :: ks l from hq) with rfl | hq
        · exact hlt'
        · exact lt_trans hlt' (hp.1 q hq)
theorem fold_srt : ∀ (l acc : List Pr), Srt (ks acc) → Srt (ks (l.foldl add1 acc)) ∧ ∀ q, q ∈ ks (l.foldl add1 acc) ↔ q ∈ ks acc ∨ q ∈ ks l
  | [], acc, h => ⟨h, fun q => by simp [ks]⟩
  | p :: l, acc, h => by
    obtain ⟨h1, h2⟩ := doneGo_srt p.1 ⟨#[]⟩ acc h
    obtain ⟨h3, h4⟩ := fold_srt l (add1 acc p) h1
    refine ⟨h3, fun q => ?_⟩
    rw [List.foldl_cons, h4]
    have := h2 q
    unfold add1
    rw [this]
    simp only [ks, List.map_cons, List.mem_cons]
    constructor
    · rintro ((h | h) | h)
      · exact .inr (.inl h)
      · exact .inl h
      · exact .inr (.inr h)
    · rintro (h | h | h)
      · exact .inl (.inr h)
      · exact .inl (.inl h)
      · exact .inr h
theorem keysL_srt (L : List (List Pr)) : Srt (keysL L) ∧ ∀ q, q ∈ keysL L ↔ q ∈ ks L.flatten := by
  obtain ⟨h1, h2⟩ := fold_srt L.flatten [] List.Pairwise.nil
  exact ⟨h1, fun q => by unfold keysL; rw [h2]; simp [ks]⟩

/- the keys of both, rising -/
def mk : List Pr → List Pr → List Str
  | [], [] => []
  | a :: us, [] => a.1 :: mk us []
  | [], b :: vs => b.1 :: mk [] vs
  | a :: us, b :: vs =>
    if lt a.1 b.1 then a.1 :: mk us (b :: vs)
    else if lt b.1 a.1 then b.1 :: mk (a :: us) vs
    else a.1 :: mk us vs
termination_by us vs => us.length + vs.length
theorem mk_mem (q : Str) : ∀ (us vs : List Pr), q ∈ mk us vs ↔ q ∈ ks us ∨ q ∈ ks vs
  | [], [] => by simp [mk, ks]
  | a :: us, [] => by rw [mk]; simp [mk_mem q us [], ks]
  | [], b :: vs => by rw [mk]; simp [mk_mem q [] vs, ks]
  | a :: us, b :: vs => by
    rw [mk]
    split
    · simp only [List.mem_cons, mk_mem q us (b :: vs), ks, List.map_cons]; exact ⟨fun h => h.elim (fun h => .inl (.inl h)) (fun h => h.elim (fun h => .inl (.inr h)) .inr), fun h => h.elim (fun h => h.elim .inl (fun h => .inr (.inl h))) (fun h => .inr (.inr h))⟩
    · split
      · simp only [List.mem_cons, mk_mem q (a :: us) vs, ks, List.map_cons]; exact ⟨fun h => h.elim (fun h => .inr (.inl h)) (fun h => h.elim .inl (fun h => .inr (.inr h))), fun h => h.elim (fun h => .inr (.inl h)) (fun h => h.elim .inl (fun h => .inr (.inr h)))⟩
      · rename_i h1 h2
        have e := lt_total (by simpa using h1) (by simpa using h2)
        simp only [List.mem_cons, mk_mem q us vs, ks, List.map_cons, ← e]
        exact ⟨fun h => h.elim (fun h => .inl (.inl h)) (fun h => h.elim (fun h => .inl (.inr h)) (fun h => .inr (.inr h))), fun h => h.elim (fun h => h.elim .inl (fun h => .inr (.inl h))) (fun h => h.elim .inl (fun h => .inr (.inr h)))⟩
termination_by us vs => us.length + vs.length
theorem mk_srt : ∀ (us vs : List Pr), Srt (ks us) → Srt (ks vs) → Srt (mk us vs)
  | [], [], _, _ => by rw [mk]; exact List.Pairwise.nil
  | a :: us, [], h, k => by
    rw [mk]
    have hp := List.pairwise_cons.1 (show Srt (a.1 :: ks us) from h)
    exact List.pairwise_cons.2 ⟨fun q hq => ((mk_mem q us []).1 hq).elim (hp.1 q) (fun h => by simp [ks] at h), mk_srt us [] hp.2 k⟩
  | [], b :: vs, h, k => by
    rw [mk]
    have hp := List.pairwise_cons.1 (show Srt (b.1 :: ks vs) from k)
    exact List.pairwise_cons.2 ⟨fun q hq => ((mk_mem q [] vs).1 hq).elim (fun h => by simp [ks] at h) (hp.1 q), mk_srt [] vs h hp.2⟩
  | a :: us, b :: vs, h, k => by
    have ha := List.pairwise_cons.1 (show Srt (a.1 :: ks us) from h)
    have hb := List.pairwise_cons.1 (show Srt (b.1 :: ks vs) from k)
    rw [mk]
    split
    · rename_i h1
      refine List.pairwise_cons.2 ⟨fun q hq => ((mk_mem q us (b :: vs)).1 hq).elim (ha.1 q) (fun hq => ?_), mk_srt us (b :: vs) ha.2 k⟩
      rcases List.mem_cons.1 (show q ∈ b.1 :: ks vs from hq) with rfl | hq
      · exact h1
      · exact lt_trans h1 (hb.1 q hq)
    · split
      · rename_i _ h2
        refine List.pairwise_cons.2 ⟨fun q hq => ((mk_mem q (a :: us) vs).1 hq).elim (fun hq => ?_) (hb.1 q), mk_srt (a :: us) vs h hb.2⟩
        rcases List.mem_cons.1 (show q ∈ a.1 :: ks us from hq) with rfl | hq
        · exact h2
        · exact lt_trans h2 (ha.1 q hq)
      · rename_i h1 h2
        have e := lt_total (by simpa using h1) (by simpa using h2)
        exact List.pairwise_cons.2 ⟨fun q hq => ((mk_mem q us vs).1 hq).elim (ha.1 q) (fun hq => by rw [e]; exact hb.1 q hq), mk_srt us vs ha.2 hb.2⟩
termination_by us vs => us.length + vs.length
theorem keys_mk {us vs : List Pr} (h : Srt (ks us)) (k : Srt (ks vs)) : keysL [us, vs] = mk us vs :=
  srt_ext (keysL_srt _).1 (mk_srt us vs h k) fun q => by rw [(keysL_srt _).2, mk_mem]; simp [ks]

/- the changes -/
theorem ent_here (a : Pr) (us : List Pr) : entL (a :: us) a.1 = (a.2, true) := by simp [entL]
theorem ent_past {a : Pr} {us : List Pr} {k : Str} (h : a.1 ≠ k) : entL (a :: us) k = entL us k := by
  have : (a.1.toList == k.toList) = false := by
    cases hb : a.1.toList == k.toList with
    | false => rfl
    | true => exact absurd (eq_beq.1 hb) h
  simp [entL, this]
theorem ent_none : ∀ {us : List Pr} {k : Str}, k ∉ ks us → entL us k = (⟨#[]⟩, false)
  | [], _, _ => rfl
  | a :: us, k, h => by
    simp only [ks, List.map_cons, List.mem_cons, not_or] at h
    rw [ent_past (fun e => h.1 e.symm), ent_none h.2]
theorem above {us : List Pr} {k : Str} (h : ∀ q ∈ ks us, lt k q = true) : k ∉ ks us := fun hm => by
  have := h k hm; rw [lt_irrefl] at this; cases this
theorem map_congr_keys {l : List Str} {f g : Str → Chg} (h : ∀ k ∈ l, f k = g k) : (l.map f).filter parts = (l.map g).filter parts := by
  rw [List.map_congr_left h]

theorem of_mk : ∀ (us vs : List Pr), Srt (ks us) → Srt (ks vs) → ofL us vs = ((mk us vs).map (chgOf us vs)).filter parts
  | [], [], _, _ => by rw [mk, ofL]; rfl
  | a :: us, [], h, k => by
    have ha := List.pairwise_cons.1 (show Srt (a.1 :: ks us) from h)
    rw [mk, ofL, List.map_cons, of_mk us [] ha.2 k]
    have e : chgOf (a :: us) [] a.1 = ⟨a.1, a.2, ⟨#[]⟩, true, false⟩ := by simp [chgOf, entL]
    rw [e, List.filter_cons_of_pos (by simp [parts])]
    congr 1
    refine map_congr_keys fun q hq => ?_
    have hq' := ((mk_mem q us []).1 hq).resolve_right (by simp [ks])
    simp only [chgOf, ent_past (ne_of_lt (ha.1 q hq'))]
  | [], b :: vs, h, k => by
    have hb := List.pairwise_cons.1 (show Srt (b.1 :: ks vs) from k)
    rw [mk, ofL, List.map_cons, of_mk [] vs h hb.2]
    have e : chgOf [] (b :: vs) b.1 = ⟨b.1, ⟨#[]⟩, b.2, false, true⟩ := by simp [chgOf, entL]
    rw [e, List.filter_cons_of_pos (by simp [parts])]
    congr 1
    refine map_congr_keys fun q hq => ?_
    have hq' := ((mk_mem q [] vs).1 hq).resolve_left (by simp [ks])
    simp only [chgOf, ent_past (ne_of_lt (hb.1 q hq'))]
  | a :: us, b :: vs, h, k => by
    have ha := List.pairwise_cons.1 (show Srt (a.1 :: ks us) from h)
    have hb := List.pairwise_cons.1 (show Srt (b.1 :: ks vs) from k)
    rw [mk, ofL]
    split
    · rename_i h1
      have abv : ∀ q ∈ ks (b :: vs), lt a.1 q = true := fun q hq => by
        rcases List.mem_cons.1 (show q ∈ b.1 :: ks vs from hq) with rfl | hq
        · exact h1
        · exact lt_trans h1 (hb.1 q hq)
      rw [List.map_cons, of_mk us (b :: vs) ha.2 k]
      have e : chgOf (a :: us) (b :: vs) a.1 = ⟨a.1, a.2, ⟨#[]⟩, true, false⟩ := by simp only [chgOf, ent_here, ent_none (above abv)]
      rw [e, List.filter_cons_of_pos (by simp [parts])]
      congr 1
      refine map_congr_keys fun q hq => ?_
      have : a.1 ≠ q := ((mk_mem q us (b :: vs)).1 hq).elim (fun hq => ne_of_lt (ha.1 q hq)) (fun hq => ne_of_lt (abv q hq))
      simp only [chgOf, ent_past this]
    · split
      · rename_i _ h2
        have abv : ∀ q ∈ ks (a :: us), lt b.1 q = true := fun q hq => by
          rcases List.mem_cons.1 (show q ∈ a.1 :: ks us from hq) with rfl | hq
          · exact h2
          · exact lt_trans h2 (ha.1 q hq)
        rw [List.map_cons, of_mk (a :: us) vs h hb.2]
        have e : chgOf (a :: us) (b :: vs) b.1 = ⟨b.1, ⟨#[]⟩, b.2, false, true⟩ := by simp only [chgOf, ent_here, ent_none (above abv)]
        rw [e, List.filter_cons_of_pos (by simp [parts])]
        congr 1
        refine map_congr_keys fun q hq => ?_
        have : b.1 ≠ q := ((mk_mem q (a :: us) vs).1 hq).elim (fun hq => ne_of_lt (abv q hq)) (fun hq => ne_of_lt (hb.1 q hq))
        simp only [chgOf, ent_past this]
      · rename_i h1 h2
        have e0 := lt_total (by simpa using h1) (by simpa using h2)
        rw [List.map_cons, of_mk us vs ha.2 hb.2]
        have e : chgOf (a :: us) (b :: vs) a.1 = ⟨a.1, a.2, b.2, true, true⟩ := by
          have : entL (b :: vs) a.1 = (b.2, true) := by rw [e0]; exact ent_here b vs
          simp only [chgOf, ent_here, this]
        have rest : ((mk us vs).map (chgOf us vs)).filter parts = ((mk us vs).map (chgOf (a :: us) (b :: vs))).filter parts := by
          refine map_congr_keys fun q hq => ?_
          have : a.1 ≠ q := ((mk_mem q us vs).1 hq).elim (fun hq => ne_of_lt (ha.1 q hq)) (fun hq => by rw [e0]; exact ne_of_lt (hb.1 q hq))
          simp only [chgOf, ent_past this, ent_past (show b.1 ≠ q by rw [← e0]; exact this)]
        rw [e, rest]
        cases hv : a.2.toList == b.2.toList with
        | true => rw [List.filter_cons_of_neg (by simp [parts]; simpa using hv)]; simp
        | false => rw [List.filter_cons_of_pos (by simp [parts]; simpa using hv)]; simp
termination_by us vs => us.length + vs.length

theorem of_ref {us vs : List Pr} (h : riseL us = true) (k : riseL vs = true) : ofL us vs = refL us vs := by
  rw [refL, keys_mk (rise_srt h) (rise_srt k), of_mk us vs (rise_srt h) (rise_srt k)]
theorem of_self : ∀ (us : List Pr), ofL us us = []
  | [] => by rw [ofL]
  | a :: us => by
    rw [ofL, if_neg (by simp [lt_irrefl]), if_neg (by simp [lt_irrefl]), of_self us]; simp
end Go.Proofs.Ytepnckpaknabpaa
