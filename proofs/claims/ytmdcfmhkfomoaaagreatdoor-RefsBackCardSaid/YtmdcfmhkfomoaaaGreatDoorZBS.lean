/-
  Texts of this seat, laid one behind the other: KrS. Conditions: none.
-/
import Derived.Test.YtmdcfmhkfomoaaaGreatDoorZL
import Derived.Test.YtmdcfmhkfomoaaaGreatDoorRf4
section
set_option linter.unusedVariables false
set_option linter.unusedSimpArgs false
set_option maxRecDepth 100000
namespace Go.Proofs.YtmdcfmhkfomoaaaGreatDoor
open Go Go.Vc Go.Proofs Go.Dk Go.Kv

theorem refL_names : ∀ (l : Ps Str) (n : Nat) (o : List (Str × Id')), refL n l = some o → ∀ r ∈ o, r.1.size ≤ 1000
  | [], _, o, h, r, hr => by
    unfold refL at h; cases h; cases hr
  | p :: l, n, o, h, r, hr => by
    unfold refL at h
    cases hp : parse' p.2 with
    | none => rw [hp] at h; cases h
    | some i =>
      rw [hp] at h
      dsimp only at h
      split at h
      · rename_i hc
        rw [Bool.and_eq_true] at hc
        cases h2 : refL (n + 1) l with
        | none => rw [h2] at h; cases h
        | some o2 =>
          rw [h2] at h
          cases h
          rcases List.mem_cons.1 hr with rfl | hr
          · have := nameOk_len hc.1
            dsimp only
            omega
          · exact refL_names l (n + 1) o2 h2 r hr
      · cases h
theorem turn_keep {h G G' : Heap} (t : Turn h G) (k : Keep G.size G G') : Turn h G' := t.trans ((k.upd fun _ => False).m.turn fun _ _ h => h)
theorem long_len {l : List Wr} (h : long l = false) : l.length ≤ 1024 := by
  unfold long at h
  rw [Bool.or_eq_false_iff] at h
  have := of_decide_eq_false h.2
  omega
theorem listV_form {r : Option (List (Str × Id'))} {v : Value} {B : Nat} {h : Heap} (hv : listV r v B h) : ∃ a cc, v = .tuple #[.slice a (r.getD []).length cc, .int .i64 (if r.isSome then 0 else 4)] ∧ Sl RefE h a (r.getD []).length (r.getD []) := by
  cases r with
  | none => exact ⟨none, 0, hv, Sl.nil _ _⟩
  | some o =>
    obtain ⟨a, cc, e, oa⟩ := hv
    exact ⟨a, cc, e, oa.sl⟩
set_option maxHeartbeats 4000000 in
theorem reads18_spec {h : Heap} {A : Option Addr} {n cc : Nat} {l : List Wr} {s : Str} {x : Id'} (hs : Sl WrE h A n l) (hcc : n ≤ cc) (hn : n ≤ 9223372036854775807) :
    HC Tryz.prog 6 #[.slice A n cc, .string s, .agg (idC x.1).toArray] h fun v h' => Keep h.size h h' ∧ v = .bool true := by
  refine hc_stay ?_
  have hl := hs.1
  have hA : n ≠ 0 → ∀ q, blk A q → q < h.size := fun h0 => sl_lt (by decide) hs h0
  refine HC_of_vc (args := [.slice A n cc, .string s, .agg (idC x.1).toArray]) (base := 138) (cuts := []) (bigs := []) kM Tryz.func6 ?_
  rw [vc18Reads]
  have kb := keep_push h (idBox x.1)
  have bb := push_at h (idBox x.1)
  generalize h.push (Obj.cells (idC x.1).toArray 24 (0, 0)) = H at kb bb
  have tH : Turn h H := (kb.upd fun _ => False).m.turn fun _ _ h => h
  have wr : ∀ {G : Heap}, Turn h G → Sl WrE G A n l := fun {G} t => hs.updM (t.m (S := fun _ => False)) fun _ _ _ h => h
  refine (alive18_spec H).mono ?_
  rintro v h1 ⟨t1, rfl⟩
  have bx := t1.stay _ _ bb rfl
  have t01 := tH.trans t1
  refine ⟨_, rfl, br_intro (fun e => by cases e) fun _ => (great18_spec (wr t01) hn).mono ?_⟩
  rintro v h4 ⟨k4, b5, rfl, hb5⟩
  have t04 := turn_keep t01 k4
  have b4 : h4[h.size]? = some (idBox x.1) := k4.at bx (at_lt bx)
  have z4 := at_lt b4
  refine ⟨_, rfl, br_intro (fun _ => ⟨t04, rfl⟩) fun e => ?_⟩
  rw [Bool.or_eq_false_iff] at e
  have hlong := hb5 e.1
  have hlen := long_len hlong
  refine (fresh18_spec h4).mono ?_
  rintro v h7 ⟨k7, c, rfl, c7⟩
  have t07 := turn_keep t04 k7
  have hN : ∀ q, q < h.size → q < h4.size := fun q hq => Nat.lt_of_lt_of_le hq t04.size
  refine ⟨_, rfl, (c7.apply (wr t07) hcc hn (fun h0 q hq => hN q (hA h0 q hq)) hlong).mono ?_⟩
  rintro v h10 ⟨u10, rfl, c10⟩
  have t10 := turn_of t07 u10 hN
  have b10 : h10[h.size]? = some (idBox x.1) := u10.cells (k7.at b4 z4) fun hn => hn z4
  have hP := c10.srt
  have hPl : (doneAll [] l).length ≤ 1024 := by have := doneAll_len l []; simp at this; omega
  refine ⟨_, rfl, br_intro (fun e => by simp at e) fun _ => (all08_spec (A := none) (P := []) (Sl.nil _ _) List.Pairwise.nil (wr t10) (by simp; omega)).mono ?_⟩
  rintro v h13 ⟨k13, a14, k15, k16, rfl, sP, hbP⟩
  generalize doneAll [] l = P at *
  have hPk := sP.1
  have t13 := turn_keep t10 k13
  have b13 : h13[h.size]? = some (idBox x.1) := k13.at b10 (at_lt b10)
  have c13 := c10.more k13
  have hbN : ∀ q, blk a14 q → h10.size ≤ q ∧ q < h13.size := fun q hq => by
    rcases hbP q hq with h1 | h1
    · obtain ⟨_, h1, _⟩ := h1; cases h1
    · exact h1
  refine ⟨_, _, _, rfl, (rget_spec c13 (by decide) s).mono ?_⟩
  rintro v h18 ⟨u18, c18, rfl⟩
  have t18 := turn_of t13 u18 fun q hq => .inl (hN q hq)
  have b18 : h18[h.size]? = some (idBox x.1) := u18.cells b13 fun hn => hn (.inl z4)
  have s18 : Sl StrPairE h18 a14 k15 P := sP.updM u18 fun _ q hq hn => hn (.inr (hbN q hq))
  have okx := rget_ok (P := P) (s := s)
  have kp := keep_push h18 (idBox id0)
  have bp := push_at h18 (idBox id0)
  refine ⟨_, _, rfl, _, isz_id, svc_idbox okx bp (sz_id id0_ok) fun h23 z23 b23 u23 => ?_⟩
  have k23 : Keep h18.size h18 h23 := kp.trans (u23.keep (by simp) fun q hq => by omega)
  refine (get18_spec (s18.keep k23) (by omega) s).mono ?_
  rintro v h25 ⟨k25, rfl⟩
  have k1825 := k23.trans (k25.mono k23.size)
  have kp2 := keep_push h25 (idBox id0)
  have bp2 := push_at h25 (idBox id0)
  refine ⟨_, _, rfl, _, isz_id, svc_idbox okx bp2 (sz_id id0_ok) fun h30 z30 b30 u30 => ?_⟩
  have k2530 : Keep h25.size h25 h30 := kp2.trans (u30.keep (by simp) fun q hq => by omega)
  have k1830 := k1825.trans (k2530.mono k1825.size)
  have b23' : h30[h18.size]? = some (idBox (rGet P s).1) := (k25.trans (k2530.mono k25.size)).at b23 (at_lt b23)
  refine ⟨_, id_load okx b23', _, id_load okx b30, _, (reads_id (i := ⟨_, okx⟩) (j := ⟨_, okx⟩)).2, br_intro (fun e => by simp at e) fun _ => ?_⟩
  have t30 := turn_keep t18 k1830
  have x30 := k1830.at b18 (at_lt b18)
  have s30 := s18.keep k1830
  have c30 := c18.more k1830
  refine (list_spec c30 (by omega)).mono ?_
  rintro v h35 ⟨u35, c35, hv⟩
  have hN30 : ∀ q, q < h.size → ((q < h4.size ∨ h10.size ≤ q ∧ q < h13.size) ∨ h18.size ≤ q ∧ q < h30.size) := fun q hq => .inl (.inl (hN q hq))
  have t35 := turn_of t30 u35 hN30
  have x35 : h35[h.size]? = some (idBox x.1) := u35.cells x30 fun hn => hn (.inl (.inl z4))
  have s35 : Sl StrPairE h35 a14 k15 P := s30.updM u35 fun _ q hq hn => hn (.inl (.inr (hbN q hq)))
  obtain ⟨a36, k38, rfl, sa⟩ := listV_form hv
  have hol : ((refL 0 (P.filter fun p => isR p.1)).getD []).length ≤ 1000000 := by
    cases hr : refL 0 (P.filter fun p => isR p.1) with
    | none => exact Nat.zero_le _
    | some o =>
      have h1 := refL_len _ _ _ hr
      have h2 := List.length_filter_le (fun p : Str × Str => isR p.1) P
      show o.length ≤ 1000000
      omega
  have hon : ∀ r ∈ (refL 0 (P.filter fun p => isR p.1)).getD [], r.1.size ≤ 1000 := by
    cases hr : refL 0 (P.filter fun p => isR p.1) with
    | none => intro r h; cases h
    | some o => exact refL_names _ _ _ hr
  refine ⟨_, _, _, _, rfl, (list18_spec s35 (by omega)).mono ?_⟩
  rintro v h41 ⟨k41, hv2⟩
  obtain ⟨a42, k44, rfl, sb⟩ := listV_form hv2
  refine ⟨_, _, _, _, rfl, (same18_spec (sa.keep k41) sb hon hol).mono ?_⟩
  rintro v h47 ⟨rfl, rfl⟩
  generalize refL 0 (P.filter fun p => isR p.1) = r at *
  refine ⟨_, rfl, br_intro (fun e => by simp at e) fun _ => ?_⟩
  have x41 := k41.at x35 (at_lt x35)
  refine ⟨fun G => Keep h47.size h47 G, Keep.refl _ _, (of_refs (some ⟨c, 0, none⟩) (.inr ⟨c, rfl⟩)).mono ?_⟩
  rintro v h51 ⟨k51, rfl⟩
  have k3551 := k41.trans (k51.mono k41.size)
  refine ⟨_, rfl, k51, _, fun G kG => id_load x.2 (kG.at x41 (at_lt x41)), (obj_spec (c35.keep k3551) (by decide) x).mono ?_⟩
  rintro v h56 ⟨u56, c56, rfl⟩
  have t56 := turn_of (turn_keep t35 k3551) u56 hN30
  have x56 : h56[h.size]? = some (idBox x.1) := u56.cells (k3551.at x35 (at_lt x35)) fun hn => hn (.inl (.inl z4))
  have s56 : Sl StrPairE h56 a14 k15 P := (s35.keep k3551).updM u56 fun _ q hq hn => hn (.inl (.inr (hbN q hq)))
  have z56 := at_lt x56
  have hxl := idText_len x.2
  refine ⟨_, _, rfl, _, id_load x.2 x56, (name14_spec x.2).mono ?_⟩
  rintro v h61 ⟨k61, rfl⟩
  refine ⟨_, rfl, by rw [imax]; omega, (get08_spec (s56.keep k61) (by omega) (oKey x.1)).mono ?_⟩
  rintro v h64 ⟨k64, i, rfl, hi⟩
  have k5664 := k61.trans (k64.mono k61.size)
  refine ⟨_, rfl, _, id_load x.2 (k5664.at x56 z56), (name14_spec x.2).mono ?_⟩
  rintro v h68 ⟨k68, rfl⟩
  have k5668 := k5664.trans (k68.mono k5664.size)
  have t68 := turn_keep t56 k5668
  have s68 := s56.keep k5668
  have hg : (decide (idText x.1 = ⟨#[]⟩) = !idGood x.1) := by
    cases hgg : idGood x.1 with
    | true => exact decide_eq_false fun h => by have := idText_nil.1 h; rw [hgg] at this; cases this
    | false => exact decide_eq_true (idText_nil.2 hgg)
  refine ⟨_, rfl, ?_⟩
  rw [nil_eq, hg]
  refine br_intro (fun e => ?_) fun e => ?_
  · have ho : oGet P x.1 = (⟨#[]⟩, 5) := by
      unfold oGet
      cases hgg : idGood x.1 with
      | false => rfl
      | true =>
        rw [hgg] at e
        rcases hi with ⟨rfl, hm⟩ | ⟨j, y, rfl, _, _⟩
        · rw [hm]; rfl
        · have : decide ((j : Int) < 0) = false := decide_eq_false (by omega)
          rw [this] at e; cases e
    rw [ho]
    refine br_intro (fun e => by rw [nil_eq] at e; simp at e) fun _ => nil_part (R := fun v G => Turn h G ∧ v = .bool true) fun G kG => ⟨turn_keep t68 kG, rfl⟩
  · rw [Bool.or_eq_false_iff] at e
    have hgg : idGood x.1 = true := by simpa using e.1
    have hi0 := of_decide_eq_false e.2
    rcases hi with ⟨rfl, hm⟩ | ⟨j, y, rfl, hq, hm⟩
    · exact absurd (by decide) hi0
    · have ho : oGet P x.1 = (y, 0) := by unfold oGet; rw [if_pos hgg, hm]
      rw [ho]
      have hj : j < P.length := (List.getElem?_eq_some_iff.1 hq).1
      obtain ⟨p, eA, hp⟩ := s68.get hq
      refine ⟨p, fun _ => ⟨eA, by omega, by omega⟩, y, fun _ => ?_, br_intro (fun e => by simp at e) fun _ => nil_part (R := fun v G => Turn h G ∧ v = .bool true) fun G kG => ⟨turn_keep t68 kG, rfl⟩⟩
      rw [Addr.add_add, Int.toNat_natCast]
      exact reads_load kS (hp 1 _ rfl)
end Go.Proofs.YtmdcfmhkfomoaaaGreatDoor
end
