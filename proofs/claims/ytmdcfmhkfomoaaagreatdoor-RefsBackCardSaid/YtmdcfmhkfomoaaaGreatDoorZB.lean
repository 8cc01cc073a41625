/-
  Texts of this seat, laid one behind the other: IdE. Conditions: none.
-/
import Derived.Test.YtmdcfmhkfomoaaaGreatDoorZK
section
set_option linter.unusedVariables false
set_option linter.unusedSimpArgs false
namespace Go.Kv
open Go Go.Vc Go.Dk

/-- a branch's key. -/
def rkey (s : Str) : Str := (⟨#[114]⟩ : Str) ++ s
theorem rkey_list (s : Str) : (rkey s).data.toList = 114 :: s.data.toList := by simp [rkey, ByteArray.data_append]
theorem isR_rkey (s : Str) : isR (rkey s) = true := by unfold isR; rw [rkey_list]; rfl
theorem tail1_rkey (s : Str) : tail1 (rkey s) = s := by
  apply str_ext
  rw [ByteArray.toList_eq, ByteArray.toList_eq]
  show ((rkey s).data.toList.drop 1).toArray.toList = _
  rw [rkey_list]; rfl
theorem rkey_lt (a b : Str) : lt (rkey a) (rkey b) = lt a b := by
  show Op.bytesLess (rkey a).toList (rkey b).toList = Op.bytesLess a.toList b.toList
  rw [ByteArray.toList_eq, ByteArray.toList_eq, ByteArray.toList_eq, ByteArray.toList_eq, rkey_list, rkey_list, bl_r]
  simp
theorem rkey_inj {a b : Str} (h : rkey a = rkey b) : a = b := by
  have this : (rkey a).data.toList = (rkey b).data.toList := by rw [h]
  rw [rkey_list, rkey_list] at this
  exact str_ext (by rw [ByteArray.toList_eq, ByteArray.toList_eq, (List.cons.inj this).2])
theorem sput_last {ν : Type} {n : Str} {l : ν} : ∀ {F : Ps ν}, (∀ q ∈ mKeys F, lt q n = true) → sput n l F = F ++ [(n, l)]
  | [], _ => rfl
  | p :: F, h => by
    have hp := h p.1 List.mem_cons_self
    unfold sput
    rw [if_neg (ne_of_lt hp), if_neg (by rw [lt_asymm hp]; decide), sput_last fun q hq => h q (List.mem_cons_of_mem _ hq)]; rfl
theorem filter_put_not {k v : Str} (hk : isR k = false) : ∀ (F : Ps Str), (sput k v F).filter (fun p => isR p.1) = F.filter fun p => isR p.1
  | [] => by
    show List.filter _ [(k, v)] = _
    rw [List.filter_cons_of_neg (p := fun p : Str × Str => isR p.1) (by rw [hk]; decide)]
  | p :: F => by
    unfold sput
    by_cases h : p.1 = k
    · rw [if_pos h, List.filter_cons_of_neg (p := fun p : Str × Str => isR p.1) (by rw [hk]; decide), List.filter_cons_of_neg (p := fun p : Str × Str => isR p.1) (by rw [h, hk]; decide)]
    · rw [if_neg h]
      by_cases h2 : lt k p.1 = true
      · rw [if_pos h2, List.filter_cons_of_neg (p := fun p : Str × Str => isR p.1) (by rw [hk]; decide)]
      · rw [if_neg h2, List.filter_cons, List.filter_cons, filter_put_not hk F]
/-- branches' pairs under their keys. -/
def rpairs (R : Ps Str) : Ps Str := R.map fun p => (rkey p.1, p.2)
theorem filter_rpairs : ∀ (R : Ps Str), (rpairs R).filter (fun p => isR p.1) = rpairs R := fun R => by
  refine List.filter_eq_self.2 fun p hp => ?_
  obtain ⟨q, _, rfl⟩ := List.mem_map.1 hp
  exact isR_rkey q.1
theorem filter_put {k v : Str} : ∀ {F R : Ps Str}, SrtP F → F.filter (fun p => isR p.1) = rpairs R → (sput (rkey k) v F).filter (fun p => isR p.1) = rpairs (sput k v R)
  | [], R, _, h => by
    have : R = [] := by cases R with | nil => rfl | cons a R => cases h
    subst this
    show List.filter _ [(rkey k, v)] = _
    rw [List.filter_cons_of_pos (p := fun p : Str × Str => isR p.1) (isR_rkey k)]; rfl
  | p :: F, R, hs, h => by
    have hp := List.pairwise_cons.1 (hs : Srt (p.1 :: mKeys F))
    rw [show sput (rkey k) v (p :: F) = (if p.1 = rkey k then (rkey k, v) :: F else if lt (rkey k) p.1 then (rkey k, v) :: p :: F else p :: sput (rkey k) v F) from rfl]
    by_cases hr : isR p.1 = true
    · rw [List.filter_cons_of_pos (p := fun p : Str × Str => isR p.1) hr] at h
      cases R with
      | nil => cases h
      | cons a R =>
        have h1 : p = (rkey a.1, a.2) := (List.cons.inj h).1
        have h2 := (List.cons.inj h).2
        by_cases e : a.1 = k
        · have e1 : p.1 = rkey k := by rw [h1, ← e]
          have e2 : sput k v (a :: R) = (k, v) :: R := by unfold sput; rw [if_pos e]
          rw [e2, if_pos e1, List.filter_cons_of_pos (p := fun p : Str × Str => isR p.1) (isR_rkey k), h2]; rfl
        · have e1 : ¬ p.1 = rkey k := fun h3 => e (rkey_inj (by rw [← h3, h1]))
          have e4 : sput k v (a :: R) = if lt k a.1 then (k, v) :: a :: R else a :: sput k v R := by rw [sput, if_neg e]
          rw [e4, if_neg e1]
          have e2 : lt (rkey k) p.1 = lt k a.1 := by rw [h1]; exact rkey_lt k a.1
          rw [e2]
          by_cases e3 : lt k a.1 = true
          · rw [if_pos e3, if_pos e3, List.filter_cons_of_pos (p := fun p : Str × Str => isR p.1) (isR_rkey k), List.filter_cons_of_pos (p := fun p : Str × Str => isR p.1) hr, h2, h1]; rfl
          · rw [if_neg e3, if_neg e3, List.filter_cons_of_pos (p := fun p : Str × Str => isR p.1) hr, filter_put hp.2 h2, h1]; rfl
    · have hrf : isR p.1 = false := by simpa using hr
      rw [List.filter_cons_of_neg (p := fun p : Str × Str => isR p.1) hr] at h
      have e1 : ¬ p.1 = rkey k := fun h3 => hr (by rw [h3]; exact isR_rkey k)
      rw [if_neg e1]
      by_cases e3 : lt (rkey k) p.1 = true
      · rw [if_pos e3]
        have hall : F.filter (fun p => isR p.1) = [] := by
          refine List.filter_eq_nil_iff.2 fun q hm => ?_
          rw [isR_stop (isR_stop_ge e3) hrf (hp.1 q.1 (List.mem_map_of_mem (f := fun p : Str × Str => p.1) hm))]
          decide
        rw [hall] at h
        have : R = [] := by cases R with | nil => rfl | cons a R => cases h
        subst this
        rw [List.filter_cons_of_pos (p := fun p : Str × Str => isR p.1) (isR_rkey k), List.filter_cons_of_neg (p := fun p : Str × Str => isR p.1) hr, hall]; rfl
      · rw [if_neg e3, List.filter_cons_of_neg (p := fun p : Str × Str => isR p.1) hr]
        have := filter_put (k := k) (v := v) hp.2 h
        exact this
where
  isR_stop_ge {k j : Str} (h : lt (rkey k) j = true) : lt j ⟨#[114]⟩ = false := by
    cases h2 : lt j ⟨#[114]⟩ with
    | false => rfl
    | true =>
      have h3 := lt_trans h h2
      rw [isR_ge (isR_rkey k)] at h3; cases h3
theorem filter_del {k : Str} {F R : Ps Str} (h : F.filter (fun p => isR p.1) = rpairs R) : (sdel (rkey k) F).filter (fun p => isR p.1) = rpairs (sdel k R) := by
  unfold sdel
  rw [List.filter_filter]
  have e : (F.filter fun p => isR p.1 && decide (p.1 ≠ rkey k)) = (F.filter fun p => isR p.1).filter fun p => decide (p.1 ≠ rkey k) := by
    rw [List.filter_filter]
    exact List.filter_congr fun p _ => Bool.and_comm _ _
  rw [e, h]
  unfold rpairs
  rw [List.filter_map]
  congr 1
  refine List.filter_congr fun p _ => ?_
  show decide (rkey p.1 ≠ rkey k) = decide (p.1 ≠ k)
  exact decide_eq_decide.2 ⟨fun h e => h (by rw [e]), fun h e => h (rkey_inj e)⟩
/-- branches read: as many as may be. -/
theorem refL_rpairs : ∀ (R : Ps Str) (n : Nat), n ≤ 32 → (∀ p ∈ R, nameOk p.1 = true ∧ ∃ i, parse' p.2 = some i) →
    refL n (rpairs R) = if n + R.length ≤ 32 then some (R.map fun p => (p.1, (parse' p.2).getD ⟨id0, id0_ok⟩)) else none
  | [], n, hn, _ => by
    rw [if_pos (by simpa using hn)]; rfl
  | p :: R, n, hn, h => by
    obtain ⟨h1, i, h2⟩ := h p List.mem_cons_self
    show refL n ((rkey p.1, p.2) :: rpairs R) = _
    rw [refL]
    dsimp only
    rw [h2]
    dsimp only
    rw [tail1_rkey, h1, Bool.true_and]
    by_cases hl : n < 32
    · rw [if_pos (decide_eq_true hl), refL_rpairs R (n + 1) hl fun q hq => h q (List.mem_cons_of_mem _ hq), List.length_cons]
      have : n + 1 + R.length = n + (R.length + 1) := by omega
      rw [this]
      split
      · rw [List.map_cons, h2]; rfl
      · rfl
    · rw [if_neg (by simpa using hl), if_neg (by rw [List.length_cons]; omega)]
end Go.Kv
end
