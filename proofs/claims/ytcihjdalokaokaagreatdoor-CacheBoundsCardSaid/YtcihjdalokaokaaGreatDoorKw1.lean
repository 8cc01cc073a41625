/-
  CacheBounds: never more entries than may be; what was asked last is a hit. Conditions: none.
-/
import Derived.Test.YtcihjdalokaokaaGreatDoorKvZ
set_option linter.unusedVariables false
set_option linter.unusedSimpArgs false
set_option maxRecDepth 100000
namespace Go.Proofs.YtcihjdalokaokaaGreatDoor
open Go Go.Vc Go.Proofs Go.Dk Go.Kv

theorem readsNeqB {P : Program} {t : TypeId} {x y : Operand} {a b : Bool} {h : Heap} (ht : P.underlying t = some .bool) : Reads P (eqSem .neq t x y (.bool a) (.bool b)) h (.bool (!(a == b))) :=
  ⟨fun w _ => by simp [eqSem, eqGuard, run_neq_bool w t a b ht]⟩
theorem efind_kept {most : Nat} {E : List En} {k v : Str} {is : Bool} (hm : most ≠ 0) : (efind k (ekeep most E k v is)).isSome = true := by
  rw [efind_iff]
  unfold ekeep
  split
  · exact List.mem_map.2 ⟨_, List.mem_append_right _ List.mem_cons_self, rfl⟩
  · exact List.mem_map.2 ⟨_, List.mem_append_right _ List.mem_cons_self, rfl⟩
theorem ekeep_zero {E : List En} {k v : Str} {is : Bool} {k' : Str} (hl : E.length ≤ 0) : (efind k' (ekeep 0 E k v is)).isSome = false := by
  have h := ekeep_len (k := k) (v := v) (is := is) hl
  rw [List.eq_nil_of_length_eq_zero (Nat.le_zero.1 h)]; rfl
set_option maxHeartbeats 4000000 in
theorem bounds_spec {h : Heap} {most : Int} {A : Option Addr} {n c : Nat} {key : Str} {l : List Cl} (hs : Sl ClE h A n l) (hok : ∀ x ∈ l, ClOk h x) (hn : n ≤ 9223372036854775807) :
    HC Tryz.prog 8 #[.int .i64 most, .slice A n c, .string key] h fun v h' => Keep h.size h h' ∧ v = .bool true := by
  refine hc_stay ?_
  have hl := hs.1
  refine HC_of_vc (args := [.int .i64 most, .slice A n c, .string key]) (base := 98) (cuts := []) (bigs := []) kM Tryz.func8 ?_
  rw [vc13Bounds]
  refine (alive13_spec h).mono ?_
  rintro v h1 ⟨t1, rfl⟩
  refine ⟨_, rfl, br_intro (fun e => by cases e) fun _ => ?_⟩
  refine (great13_spec (hs.updM (t1.m (S := fun _ => False)) fun _ _ _ h => h) (fun x hx => (hok x hx).at t1) hn).mono ?_
  rintro v h4 ⟨k4, b, rfl, hb⟩
  have t4 : Turn h h4 := t1.trans ((k4.upd fun _ => False).m.turn fun _ _ h => h)
  refine ⟨_, rfl, br_intro (fun _ => ⟨t4, rfl⟩) fun e1 => ?_⟩
  have hn100 : n ≤ 100 := hb (by cases b with | false => rfl | true => simp at e1)
  refine (mopen_spec (N := fun q => q < h4.size) fun q hq => hq).mono ?_
  rintro v h7 ⟨k7, rfl, m7, z7⟩
  have hS := memSto 1000000 (h4.size + 1)
  refine ⟨_, _, rfl, (CaS.new hS m7 (by omega) most).mono ?_⟩
  rintro v h11 ⟨k11, rfl, c11⟩
  have k411 : Keep h4.size h4 h11 := k7.trans (k11.mono k7.size)
  have t11 : Turn h h11 := t4.trans ((k411.upd fun _ => False).m.turn fun _ _ h => h)
  have hmo : ((mostOf most : Nat) : Int) ≤ (if (0 : Int) > most then 0 else most) ∧ mostOf most ≤ 1024 ∧ (mostOf most ≠ 0 ↔ most > 0) := by
    unfold mostOf
    refine ⟨?_, ?_, ?_⟩
    · split <;> omega
    · omega
    · omega
  generalize mostOf most = mo at *
  generalize h4.size + 1 = s at *
  generalize h7.size + 1 = cc at *
  clear m7 k7 k11 z7 k411
  have hN : ∀ q, q < h.size → q < h4.size := fun q hq => Nat.lt_of_lt_of_le hq t4.size
  refine ⟨_, rfl, ?_⟩
  refine ⟨fun _ n16 H => ∃ (i : Nat) (P : Ps Str) (u : Nat) (E : List En) (hits : Int), n16 = i ∧ i ≤ n ∧ CaS (MemS s) s cc mo u (fun q => q < h4.size) P E hits H ∧ 0 ≤ hits ∧ hits ≤ i ∧ u ≤ 1024 * i ∧ Turn h H,
    fun _ n16 _ => n - n16.toNat, ⟨0, _, _, _, _, rfl, Nat.zero_le _, c11, Int.le_refl _, Int.le_refl _, Nat.zero_le _, t11⟩, ?_⟩
  rintro bb n16 H ⟨i, P, u, E, hits, rfl, hi, cH, hh0, hh1, hu, tH⟩
  refine br_intro (fun hlt => ?_) fun hge => ?_
  · have hlt : i < n := by simpa using hlt
    have hq : l[i]? = some (l[i]'(by omega)) := List.getElem?_eq_getElem (by omega)
    have hm := List.getElem_mem (by omega : i < l.length)
    generalize l[i]'(by omega) = x at hq hm
    obtain ⟨p, eA, rd⟩ := cl_at (hs.updM (tH.m (S := fun _ => False)) fun _ _ _ h => h) hq
    refine ⟨p, ⟨eA, by omega, by omega⟩, _, _, _, _, _, _, rd, svc_cl rfl ?_⟩
    have kb := keep_push H (clBox x)
    have bb := push_at H (clBox x)
    generalize H.push (clBox x) = H1 at kb bb
    have tb : Turn h H1 := tH.trans ((kb.upd fun _ => False).m.turn fun _ _ h => h)
    obtain ⟨hxn, wsl, hlc, hln, _, _⟩ := (hok x hm).at tb
    have cb : CaS (MemS s) s cc mo u (fun q => q < h4.size) P E hits H1 := cH.own hS (kb.upd fun _ => False).m (fun _ _ h => h.elim) fun q hq => ⟨.inl hq, Nat.lt_of_lt_of_le (cH.lt hS q hq) kb.size⟩
    refine ⟨_, cl_kind bb, br_intro (fun _ => ?get) fun _ => br_intro (fun _ => ?app) fun _ => br_intro (fun _ => ?drop) fun _ => ?no⟩
    case' get =>
      refine ⟨_, cl_key bb, (cb.get hS hh0 (by omega) x.key).mono ?_⟩
      rintro v H2 ⟨u2, rfl, c2⟩
      have hhits : 0 ≤ (hits + if (efind x.key E).isSome = true then (1 : Int) else 0) ∧ (hits + if (efind x.key E).isSome = true then (1 : Int) else 0) ≤ i + 1 := by split <;> omega
      generalize (hits + if (efind x.key E).isSome = true then (1 : Int) else 0) = hits' at c2 hhits
      have hu2 : u ≤ 1024 * (i + 1) := by omega
      have t2 := turn_of tb u2 hN
      refine ⟨_, _, _, rfl, ?_⟩
    case' app =>
      refine ⟨_, _, _, cl_ws bb, (cb.apply hS wsl hlc hln (fun h0 q hq => Nat.lt_of_lt_of_le (sl_lt (by decide) ((hok x hm).2.1) h0 q hq) t4.size) fun hlg => ?_).mono ?_⟩
      · have h2 : x.ws.length ≤ 1024 := by
          unfold long at hlg
          simp only [Bool.or_eq_false_iff, decide_eq_false_iff_not] at hlg
          omega
        have := wsl.1
        omega
      rintro v H2 ⟨u2, a1, a2⟩
      have t2 := turn_of tb u2 hN
      obtain ⟨u', P', E', c2, hu2, n46, rfl⟩ : ∃ u' P' E', CaS (MemS s) s cc mo u' (fun q => q < h4.size) P' E' hits H2 ∧ u' ≤ 1024 * (i + 1) ∧ ∃ e : Int, v = .int .i64 e := by
        cases hlg : long x.ws with
        | true => exact ⟨_, _, _, (a1 hlg).1, by omega, _, (a1 hlg).2⟩
        | false =>
          refine ⟨_, _, _, (a2 hlg).1, ?_, _, (a2 hlg).2⟩
          have h2 : x.ws.length ≤ 1024 := by
            unfold long at hlg
            simp only [Bool.or_eq_false_iff, decide_eq_false_iff_not] at hlg
            omega
          have := wsl.1
          omega
      have hhits : 0 ≤ hits ∧ hits ≤ (i : Int) + 1 := ⟨hh0, by omega⟩
      refine ⟨_, rfl, ?_⟩
    case' drop =>
      refine ⟨_, cl_n bb, (cb.drop hS hxn).mono ?_⟩
      rintro v H2 ⟨rfl, u2, c2⟩
      have t2 := turn_of tb u2 hN
      have hu2 : u ≤ 1024 * (i + 1) := by omega
      have hhits : 0 ≤ hits ∧ hits ≤ (i : Int) + 1 := ⟨hh0, by omega⟩
      refine ⟨rfl, ?_⟩
    case' no =>
      have c2 := cb
      have t2 := tb
      have hu2 : u ≤ 1024 * (i + 1) := by omega
      have hhits : 0 ≤ hits ∧ hits ≤ (i : Int) + 1 := ⟨hh0, by omega⟩
    all_goals
      have hlen := c2.len
      refine c2.size_spec.mono ?_
      rintro v H3 ⟨rfl, rfl⟩
      refine ⟨_, rfl, _, reads_max, br_intro (fun _ => ?_) fun e => ?_⟩
      · refine c2.size_spec.mono ?_
        rintro v H3 ⟨rfl, rfl⟩
        refine ⟨_, rfl, br_intro (fun e => by have := of_decide_eq_true e; omega) fun _ => ?_⟩
        rw [wrap_i64 (by omega) (by omega)]
        exact ⟨⟨i + 1, _, _, _, _, rfl, by omega, c2, hhits.1, by omega, hu2, t2⟩, by dsimp only; omega⟩
      · exfalso
        have e2 := hmo.1
        rw [decide_eq_false (by omega)] at e
        cases e
  · have hlenH := cH.len
    refine (cH.get hS hh0 (by omega) key).mono ?_
    rintro v h72 ⟨u72, rfl, c72⟩
    have t72 := turn_of tH u72 hN
    have hf2 : (efind key (ekeep mo E key ((mGet P key).getD ⟨#[]⟩) (mGet P key).isSome)).isSome = decide (most > 0) := by
      by_cases h0 : mo = 0
      · subst h0
        rw [ekeep_zero hlenH, decide_eq_false fun h => (hmo.2.2.2 h) rfl]
      · rw [efind_kept h0, decide_eq_true (hmo.2.2.1 h0)]
    have hhits : 0 ≤ (hits + if (efind key E).isSome = true then (1 : Int) else 0) ∧ (hits + if (efind key E).isSome = true then (1 : Int) else 0) ≤ i + 1 := by split <;> omega
    generalize (hits + if (efind key E).isSome = true then (1 : Int) else 0) = hits2 at c72 hhits
    generalize ekeep mo E key ((mGet P key).getD ⟨#[]⟩) (mGet P key).isSome = E2 at c72 hf2
    refine ⟨_, _, _, rfl, c72.hits_spec.mono ?_⟩
    rintro v h77 ⟨rfl, rfl⟩
    refine ⟨_, rfl, (c72.get' hS hhits.1 (by omega) key rfl (by rw [hf2])).mono ?_⟩
    rintro v h80 ⟨u80, rfl, c80⟩
    have t80 := turn_of t72 u80 hN
    refine ⟨_, _, _, rfl, c80.hits_spec.mono ?_⟩
    rintro v h85 ⟨rfl, rfl⟩
    refine ⟨_, rfl, _, readsNeqB uB, br_intro (fun e => ?_) fun _ => ?_⟩
    · exfalso
      rw [wrap_i64 (by omega) (by omega)] at e
      by_cases hp : most > 0 <;> simp [hp] at e
      omega
    have hlen80 := c80.len
    have hh80 : 0 ≤ (hits2 + if decide (most > 0) = true then (1 : Int) else 0) ∧ (hits2 + if decide (most > 0) = true then (1 : Int) else 0) ≤ i + 2 := by split <;> omega
    generalize (hits2 + if decide (most > 0) = true then (1 : Int) else 0) = hits3 at c80 hh80
    refine (c80.drop hS (by omega)).mono ?_
    rintro v h89 ⟨rfl, u89, c89⟩
    have t89 := turn_of t80 u89 hN
    rw [List.drop_eq_nil_of_le (by omega)] at c89
    refine ⟨rfl, c89.hits_spec.mono ?_⟩
    rintro v h91 ⟨rfl, rfl⟩
    refine ⟨_, rfl, (c89.get' (hits' := hits3) hS hh80.1 (by omega) key rfl (by simp [efind])).mono ?_⟩
    rintro v h94 ⟨u94, rfl, c94⟩
    have t94 := turn_of t89 u94 hN
    refine ⟨_, _, _, rfl, c94.hits_spec.mono ?_⟩
    rintro v h99 ⟨rfl, rfl⟩
    refine ⟨_, rfl, br_intro (fun _ => ?_) fun e => by simp at e⟩
    refine c94.size_spec.mono ?_
    rintro v h102 ⟨rfl, rfl⟩
    refine ⟨_, rfl, t94, ?_⟩
    have hlast : (ekeep mo ([] : List En) key ((mGet P key).getD ⟨#[]⟩) (mGet P key).isSome).length ≤ 1 := by
      by_cases h0 : mo = 0
      · subst h0
        have := ekeep_len (most := 0) (E := []) (k := key) (v := ((mGet P key).getD ⟨#[]⟩)) (is := (mGet P key).isSome) (Nat.le_refl _)
        omega
      · rw [ekeep_nil h0]; exact Nat.le_refl _
    rw [decide_eq_true (by omega)]
end Go.Proofs.YtcihjdalokaokaaGreatDoor
