/-
  CacheLasts: the last keys that were asked or written are hits. Conditions: none.
-/
import Derived.Test.YtcihjdalokaokaaGreatDoorKvX
set_option linter.unusedVariables false
set_option linter.unusedSimpArgs false
set_option maxRecDepth 100000
namespace Go.Proofs.YtcihjdalokaokaaGreatDoor
open Go Go.Vc Go.Proofs Go.Dk Go.Kv

set_option maxHeartbeats 4000000 in
theorem lasts_spec {h : Heap} {most : Int} {A : Option Addr} {n c : Nat} {ks : List Str} (hs : Sl StrE h A n ks) :
    HC Tryz.prog 7 #[.int .i64 most, .slice A n c] h fun v h' => Keep h.size h h' ∧ v = .bool true := by
  refine hc_stay ?_
  have hl := hs.1
  refine HC_of_vc (args := [.int .i64 most, .slice A n c]) (base := 109) (cuts := []) (bigs := []) kM Tryz.func7 ?_
  rw [vc13Lasts]
  refine (alive13_spec h).mono ?_
  rintro v h1 ⟨t1, rfl⟩
  refine ⟨_, rfl, br_intro (fun e => by cases e) fun _ => br_intro (fun _ => ⟨t1, rfl⟩) fun e1 => ?_⟩
  have e1 : (1 ≤ most ∧ most ≤ 50) ∧ (n : Int) ≤ 60 := by simpa using e1
  refine (mopen_spec (N := fun q => q < h1.size) fun q hq => hq).mono ?_
  rintro v h4 ⟨k4, rfl, m4, z4⟩
  have hS := memSto 1000 (h1.size + 1)
  refine ⟨_, _, rfl, (CaS.new hS m4 (by omega) most).mono ?_⟩
  rintro v h8 ⟨k8, rfl, c8⟩
  have k18 : Keep h1.size h1 h8 := k4.trans (k8.mono k4.size)
  have t8 : Turn h h8 := t1.trans ((k18.upd fun _ => False).m.turn fun _ _ h => h)
  obtain ⟨mo, rfl⟩ : ∃ m : Nat, most = m := ⟨most.toNat, by omega⟩
  have emo : mostOf (mo : Int) = mo := by unfold mostOf; omega
  rw [emo] at c8
  generalize h1.size + 1 = s at *
  generalize h4.size + 1 = cc at *
  clear m4 k4 k8 z4
  refine ⟨_, rfl, ?_⟩
  refine ⟨fun _ a k _ n16 H => ∃ (i : Nat) (N : Nat → Prop) (P : Ps Str) (u : Nat) (E : List En) (hits : Int), n16 = i ∧ i ≤ n ∧ (∀ q, q < h.size → N q) ∧ CaS (MemS s) s cc mo u N P E hits H ∧ 0 ≤ hits ∧ hits ≤ i ∧ u ≤ i ∧ Turn h H ∧ Sl StrE H a k (ekeys E) ∧ ∀ q, blk a q → N q,
    fun _ _ _ _ n16 _ => n - n16.toNat, ⟨0, _, _, _, _, _, rfl, Nat.zero_le _, fun q hq => Nat.lt_of_lt_of_le hq t1.size, c8, Int.le_refl _, Int.le_refl _, Nat.le_refl _, t8, Sl.nil _ _, fun q ⟨p, e, _⟩ => by cases e⟩, ?_⟩
  rintro bb a13 k14 k15 n16 H ⟨i, N, P, u, E, hits, rfl, hi, hN, cH, hh0, hh1, hu, tH, slH, blH⟩
  have hE := cH.len
  have hk14 : E.length = k14 := by have := slH.1; rw [List.length_map] at this; exact this
  refine br_intro (fun hlt => ?_) fun hge => ?_
  · have hlt : i < n := by simpa using hlt
    have hq : ks[i]? = some (ks[i]'(by omega)) := List.getElem?_eq_getElem (by omega)
    generalize ks[i]'(by omega) = k at hq
    obtain ⟨p, eA, rd⟩ := readsStr (hs.updM (tH.m (S := fun _ => False)) fun _ _ _ h => h) hq
    refine ⟨p, ⟨eA, by omega, by omega⟩, k, rd, br_intro (fun _ => ⟨tH, rfl⟩) fun ek => ?_⟩
    have ek : k.size ≤ 48 := by have := of_decide_eq_false ek; omega
    refine ⟨by decide, ?_⟩
    -- the rest of the step, from where the cache was asked
    have pre : ∀ (H2 : Heap) (P' : Ps Str) (u' : Nat) (N' : Nat → Prop) (E' : List En) (hits' : Int), CaS (MemS s) s cc mo u' N' P' E' hits' H2 → (∀ q, N q → N' q) → UpdM (fun q => ¬ N q) H H2 → ekeys E' = lnext mo (ekeys E) k → 0 ≤ hits' → hits' ≤ i + 1 → u' ≤ i + 1 →
        Turn h H2 ∧ Sl StrE H2 a13 k14 (ekeys E) := fun H2 P' u' N' E' hits' _ hNN uH _ _ _ _ =>
      ⟨turn_of tH uH hN, slH.updM uH fun _ b hb hn => hn (blH b hb)⟩
    refine br_intro (fun _ => ?get) fun _ => ?app
    case' get =>
      refine (cH.get hS hh0 (by omega) k).mono ?_
      rintro v H2 ⟨u2, rfl, c2⟩
      have hkk := ekeys_keep (k := k) (v := (mGet P k).getD ⟨#[]⟩) (is := (mGet P k).isSome) hE (by omega)
      have hhits : 0 ≤ (hits + if (efind k E).isSome = true then (1 : Int) else 0) ∧ (hits + if (efind k E).isSome = true then (1 : Int) else 0) ≤ i + 1 := by split <;> omega
      generalize ekeep mo E k ((mGet P k).getD ⟨#[]⟩) (mGet P k).isSome = E' at c2 hkk
      generalize (hits + if (efind k E).isSome = true then (1 : Int) else 0) = hits' at c2 hhits
      obtain ⟨t2, sl2⟩ := pre H2 P u N E' hits' c2 (fun _ h => h) u2 hkk hhits.1 hhits.2 (by omega)
      have hu2 : u ≤ i + 1 := by omega
      have hN2 : ∀ q, q < h.size → N q := hN
      refine ⟨_, _, _, rfl, ?_⟩
    case' app =>
      refine svc_wr1 (w := ⟨k, ⟨#[120]⟩, false⟩) fun h56 k56 z56 s56 => ⟨_, _, _, rfl, ?_⟩
      have c56 := cH.more hS k56
      have hlong : long [(⟨k, ⟨#[120]⟩, false⟩ : Wr)] = false := by
        have e2 : (⟨#[120]⟩ : Str).size = 1 := rfl
        simp only [long, List.any_cons, List.any_nil, Bool.or_false, e2, List.length_singleton]
        rw [decide_eq_false (by omega)]; rfl
      refine (c56.apply hS s56 (Nat.le_refl _) (by omega) (fun _ q hb => .inr (by obtain ⟨p, e, rfl⟩ := hb; cases e; exact ⟨Nat.le_refl _, by show H.size < h56.size; omega⟩)) fun _ => by omega).mono ?_
      rintro v H2 ⟨u2, _, a2⟩
      obtain ⟨c2, rfl⟩ := a2 hlong
      have hkk := ekeys_keep (k := k) (v := ⟨#[120]⟩) (is := true) hE (by omega)
      have c2 : CaS (MemS s) s cc mo (u + 1) (fun q => N q ∨ (H.size ≤ q ∧ q < h56.size)) (doneAll P [⟨k, ⟨#[120]⟩, false⟩]) (ekeep mo E k ⟨#[120]⟩ true) hits H2 := c2
      generalize ekeep mo E k ⟨#[120]⟩ true = E' at c2 hkk
      have uH : UpdM (fun q => ¬ N q) H H2 := k56.m.trans (u2.mono fun q hq hn => hq (.inl hn))
      obtain ⟨t2, sl2⟩ := pre H2 _ (u + 1) _ E' hits c2 (fun _ h => .inl h) uH hkk hh0 (by omega) (by omega)
      generalize (doneAll P [⟨k, ⟨#[120]⟩, false⟩]) = P' at c2
      have hhits : 0 ≤ hits ∧ hits ≤ (i : Int) + 1 := ⟨hh0, by omega⟩
      have hu2 : u + 1 ≤ i + 1 := by omega
      have hN2 : ∀ q, q < h.size → (N q ∨ (H.size ≤ q ∧ q < h56.size)) := fun q hq => .inl (hN q hq)
      refine ⟨_, rfl, ?_⟩
    all_goals
      clear pre
      refine ⟨fun a27 k28 k29 n30 G => ∃ j : Nat, n30 = j ∧ j ≤ k14 ∧ Keep H2.size H2 G ∧ Own StrE 9 H2.size G a27 k28 k29 (((ekeys E).take j).filter fun o => decide (o ≠ k)),
        fun _ _ _ n30 _ => k14 - n30.toNat, ⟨0, rfl, Nat.zero_le _, Keep.refl _ _, Own.nil _ _ _⟩, ?_⟩
      rintro a27 k28 k29 n30 G ⟨j, rfl, hj, kG, oG⟩
      have hlen : k28 ≤ j := by
        refine Nat.le_trans (Nat.le_of_eq oG.1.symm) (Nat.le_trans (List.length_filter_le _ _) ?_)
        rw [List.length_take]; omega
      refine br_intro (fun hjl => ?_) fun hjg => ?_
      · have hjl : j < k14 := by simpa using hjl
        have hlenE : (ekeys E).length = k14 := slH.1
        have hq2 : (ekeys E)[j]? = some ((ekeys E)[j]'(by omega)) := List.getElem?_eq_getElem (by omega)
        have htk : (ekeys E).take (j + 1) = (ekeys E).take j ++ [(ekeys E)[j]'(by omega)] := List.take_succ_eq_append_getElem (by omega)
        generalize (ekeys E)[j]'(by omega) = o at hq2 htk
        obtain ⟨p2, eA2, rd2⟩ := readsStr (sl2.keep kG) hq2
        refine ⟨p2, ⟨eA2, by omega, by omega⟩, o, rd2, br_intro (fun eo => ?_) fun eo => ?_⟩
        · have hne : o ≠ k := fun e => by rw [eq_beq.2 e] at eo; cases eo
          refine svc_append1 appSs oG kG.size (bsS o) (by omega) fun a' c' h' o' u' b' => ?_
          rw [wrap_i64 (by omega) (by omega)]
          refine ⟨⟨j + 1, rfl, by omega, kG.trans (u'.keep kG.size fun q hb => (oG.block q hb).1), ?_⟩, by dsimp only; omega⟩
          rw [htk, List.filter_append, List.filter_cons, if_pos (decide_eq_true hne)]
          exact o'
        · have heq : o = k := by
            cases hb : o.toList == k.toList with
            | true => exact eq_beq.1 hb
            | false => rw [hb] at eo; cases eo
          rw [wrap_i64 (by omega) (by omega)]
          refine ⟨⟨j + 1, rfl, by omega, kG, ?_⟩, by dsimp only; omega⟩
          rw [htk, List.filter_append, List.filter_cons, if_neg (by simp [heq])]
          simpa using oG
      · have hjg : j = k14 := by have := of_decide_eq_false hjg; omega
        subst hjg
        rw [List.take_of_length_le (Nat.le_of_eq slH.1)] at oG
        refine svc_append1 appSs oG kG.size (bsS k) (by omega) fun a' c' h' o' u' b' => ?_
        have kk : Keep H2.size H2 h' := kG.trans (u'.keep kG.size fun q hb => (oG.block q hb).1)
        have hl' := o'.1
        have hc' := o'.2.1
        refine ⟨_, reads_max, ?_⟩
        rw [wrap_i64 (by omega) (by omega)]
        have hv : (if (0 : Int) > ((k28 + 1 : Nat) : Int) - (mo : Int) then (0 : Int) else ((k28 + 1 : Nat) : Int) - mo) = ((k28 + 1 - mo : Nat) : Int) := by split <;> omega
        rw [hv, Int.toNat_natCast]
        refine ⟨⟨by omega, by omega, by omega, by omega⟩, ?_⟩
        have od := o'.o.drop (l := k28 + 1 - mo) (by omega)
        have hnx : (((ekeys E).filter fun o => decide (o ≠ k)) ++ [k]).drop (k28 + 1 - mo) = ekeys E' := by
          rw [hkk]; unfold lnext; dsimp only; rw [hl']
        rw [hnx] at od
        rw [wrap_i64 (by omega) (by omega)]
        refine ⟨⟨i + 1, _, _, _, E', _, rfl, by omega, fun q hq => .inl (hN2 q hq), c2.more hS kk, hhits.1, by omega, hu2, t2.trans ((kk.upd fun _ => False).m.turn fun _ _ h => h), od.sl, fun q hb => .inr (od.block q hb)⟩, by dsimp only; omega⟩
  · have hge : i = n := by have := of_decide_eq_false hge; omega
    refine cH.hits_spec.mono ?_
    rintro v h94 ⟨rfl, rfl⟩
    refine ⟨_, rfl, ?_⟩
    refine ⟨fun _ n99 G => ∃ (j : Nat) (E' : List En), n99 = j ∧ j ≤ k14 ∧ CaS (MemS s) s cc mo u N P E' (hits + j) G ∧ (ekeys E').Perm (ekeys E) ∧ Turn h G ∧ UpdM (fun q => ¬ N q) h94 G,
      fun _ n99 _ => k14 - n99.toNat, ⟨0, E, rfl, Nat.zero_le _, by simpa using cH, List.Perm.refl _, tH, UpdM.refl _ _⟩, ?_⟩
    rintro b98 n99 G ⟨j, E', rfl, hj, cG, hp, tG, uG⟩
    have hpl := hp.length_eq
    have hlenE : (ekeys E).length = k14 := slH.1
    refine br_intro (fun hjl => ?_) fun hjg => ?_
    · have hjl : j < k14 := by simpa using hjl
      have hq2 : (ekeys E)[j]? = some ((ekeys E)[j]'(by omega)) := List.getElem?_eq_getElem (by omega)
      generalize (ekeys E)[j]'(by omega) = o at hq2
      obtain ⟨p2, eA2, rd2⟩ := readsStr (slH.updM uG fun _ b hb hn => hn (blH b hb)) hq2
      have hmem : o ∈ ekeys E' := hp.mem_iff.2 (List.mem_of_getElem? hq2)
      refine ⟨p2, ⟨eA2, by omega, by omega⟩, o, rd2, (cG.get' hS (by omega) (by omega) o rfl (hits' := hits + (j + 1 : Nat)) (by rw [if_pos ((efind_iff _ _).2 hmem)]; omega)).mono ?_⟩
      rintro v h104 ⟨u104, rfl, c104⟩
      refine ⟨_, _, _, rfl, c104.hits_spec.mono ?_⟩
      rintro v h109 ⟨rfl, rfl⟩
      refine ⟨_, rfl, br_intro (fun e => ?_) fun e => ?_⟩
      · rw [show IntKind.i64.wrap (hits + (j : Int)) = hits + j from wrap_i64 (by omega) (by omega), wrap_i64 (by omega) (by omega)] at e
        simp at e; omega
      · rw [wrap_i64 (by omega) (by omega)]
        exact ⟨⟨j + 1, _, rfl, by omega, c104, (ekeys_hit cG.kn hmem).trans hp, turn_of tG u104 hN, uG.trans u104⟩, by dsimp only; omega⟩
    · refine cG.size_spec.mono ?_
      rintro v h112 ⟨rfl, rfl⟩
      refine ⟨_, rfl, tG, ?_⟩
      rw [List.length_map, List.length_map] at hpl
      rw [hpl, hk14]; simp
end Go.Proofs.YtcihjdalokaokaaGreatDoor
