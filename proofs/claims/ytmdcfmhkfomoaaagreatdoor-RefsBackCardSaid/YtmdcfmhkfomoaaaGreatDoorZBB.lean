/-
  Texts of this seat, laid one behind the other: KrB. Conditions: none.
-/
import Derived.Test.YtmdcfmhkfomoaaaGreatDoorZBS
section
set_option linter.unusedVariables false
set_option linter.unusedSimpArgs false
set_option maxRecDepth 100000
namespace Go.Proofs.YtmdcfmhkfomoaaaGreatDoor
open Go Go.Vc Go.Proofs Go.Dk Go.Kv

theorem isR_okey (i : Idn) : isR (oKey i) = false := by
  have : (oKey i).data.toList = 111 :: (idText i).data.toList := by simp [oKey, ByteArray.data_append]
  unfold isR
  rw [this]; rfl
theorem oKey_size (i : Idn) : (oKey i).size = (idText i).size + 1 := by
  have h0 : (oKey i).data.toList = 111 :: (idText i).data.toList := by simp [oKey, ByteArray.data_append]
  have h1 : (oKey i).data.toList.length = (oKey i).size := Array.length_toList
  have h2 : (idText i).data.toList.length = (idText i).size := Array.length_toList
  rw [h0, List.length_cons] at h1
  omega
theorem mem_sput {ν : Type} {n : Str} {l : ν} : ∀ {F : Ps ν} {p : Str × ν}, p ∈ sput n l F → p = (n, l) ∨ p ∈ F
  | [], p, h => .inl (List.mem_singleton.1 h)
  | q :: F, p, h => by
    unfold sput at h
    split at h
    · rcases List.mem_cons.1 h with h | h
      · exact .inl h
      · exact .inr (List.mem_cons_of_mem _ h)
    · split at h
      · rcases List.mem_cons.1 h with h | h
        · exact .inl h
        · exact .inr h
      · rcases List.mem_cons.1 h with h | h
        · exact .inr (h ▸ List.mem_cons_self)
        · exact (mem_sput h).imp id (List.mem_cons_of_mem _)
/-- branches that lead to names that can be. -/
def BOk (R : Ps Str) : Prop := ∀ p ∈ R, nameOk p.1 = true ∧ ∃ i : Id', p.2 = idText i.1 ∧ idGood i.1 = true
theorem parse'_text {i : Id'} (hg : idGood i.1 = true) : parse' (idText i.1) = some i := by rw [parse'_some (idParse_text i.2 hg)]
theorem BOk.read {R : Ps Str} (hR : BOk R) (hl : R.length ≤ 32) : refL 0 (rpairs R) = some (R.map fun p => (p.1, (parse' p.2).getD ⟨id0, id0_ok⟩)) := by
  rw [refL_rpairs R 0 (by omega) fun p hp => ?_, if_pos (by omega)]
  obtain ⟨h1, i, h2, h3⟩ := hR p hp
  exact ⟨h1, i, by rw [h2]; exact parse'_text h3⟩
theorem BOk.put {R : Ps Str} (hR : BOk R) {s : Str} (hs : nameOk s = true) {i : Id'} (hg : idGood i.1 = true) : BOk (sput s (idText i.1) R) := fun p hp => by
  rcases mem_sput hp with rfl | hp
  · exact ⟨hs, i, rfl, hg⟩
  · exact hR p hp
theorem BOk.del {R : Ps Str} (hR : BOk R) (s : Str) : BOk (sdel s R) := fun p hp => hR p (List.mem_filter.1 hp).1
theorem rget_some {P : Ps Str} {s : Str} {i : Id'} (hs : nameOk s = true) (hg : idGood i.1 = true) (hm : mGet P (rKey s) = some (idText i.1)) : rGet P s = (i.1, 0) := by
  unfold rGet
  rw [if_pos hs, hm]
  dsimp only
  rw [idParse_text i.2 hg]
/-- the branches that are listed, and the pairs that were kept beside. -/
theorem cmp_part {H : Heap} {a109 a95 : Option Addr} {k : Nat} {R : Ps Str} {b8 : Bool} {Q : Value → Heap → Prop}
    (sl : Sl RefE H a109 k (R.map fun p => (p.1, (parse' p.2).getD ⟨id0, id0_ok⟩))) (sp : Sl StrPairE H a95 k R) (hR : BOk R) (hk : k ≤ 1000000) (hQ : ∀ G, Keep H.size H G → Q (.bool true) G) :
    ∃ (I113 : Bool → Int → Heap → Prop), ∃ (I114 : Bool → Int → Heap → Nat), I113 b8 (0 : Int) H ∧ ∀ (b115 : Bool) (n116 : Int) (h117 : Heap), I113 b115 n116 h117 →
    br (decide (n116 < (↑k : Int)))
    (∃ (p118 : Addr), (a109 = some p118 ∧ (0 : Int) ≤ n116 ∧ n116 < (↑k : Int)) ∧
    ∃ (h119 : Array Value), Reads Tryz.prog (Instr.loadAt 47 (Value.pointer (some (p118.add (n116.toNat * (34 : Nat)))))) h117 (Value.agg h119) ∧
    ∃ (h120 : Array Value), IsZ Tryz.prog 47 h120 ∧
    SVC Tryz.prog (Instr.storeAt 47 (Value.pointer (some (Addr.mk (Array.size h117) (0 : Nat) none))) (Value.agg h119)) (Array.push h117 (Obj.cells h120 47)) fun (x121 : Unit) (h122 : Heap) =>
    ∃ (I123 : Heap → Prop), I123 h122 ∧
    ∃ (s124 : ByteArray), Reads Tryz.prog (Instr.loadAt 9 (Value.pointer (some (Addr.mk (Array.size h117) (0 : Nat) none)))) h122 (Value.string s124) ∧
    ∃ (p125 : Addr), (a95 = some p125 ∧ (0 : Int) ≤ n116 ∧ n116 < (↑k : Int)) ∧
    ∃ (s126 : ByteArray), Reads Tryz.prog (Instr.loadAt 9 (Value.pointer (some (p125.add (n116.toNat * (2 : Nat)))))) h122 (Value.string s126) ∧
    ∃ (h127 : Array Value), ((!!s124.toList == s126.toList) = true → Reads Tryz.prog (Instr.loadAt 24 (Value.pointer (some ((Addr.mk (Array.size h117) (0 : Nat) none).add (1 : Nat))))) h122 (Value.agg h127)) ∧
    br (bif bif s124.toList == s126.toList then false else true then false else true)
    (HC Tryz.prog 11 (Array.mk [Value.agg h127]) h122 fun (v128 : Value) (h129 : Heap) =>
    ∃ (s130 : ByteArray), v128 = Value.string s130 ∧ I123 h129 ∧
    ∃ (p131 : Addr), (true = true → a95 = some p131 ∧ (0 : Int) ≤ n116 ∧ n116 < (↑k : Int)) ∧
    ∃ (s132 : ByteArray), (true = true → ∀ (h133 : Heap), I123 h133 → Reads Tryz.prog (Instr.loadAt 9 (Value.pointer (some ((p131.add (n116.toNat * (2 : Nat))).add (1 : Nat))))) h133 (Value.string s132)) ∧
    br (!s130.toList == s132.toList) (Q (Value.bool false) h129) (I113 b115 (IntKind.i64.wrap (n116 + (1 : Int))) h129 ∧ I114 b115 (IntKind.i64.wrap (n116 + (1 : Int))) h129 < I114 b115 n116 h117))
    (Q (Value.bool false) h122))
    (Q (Value.bool true) h117) := by
  have hl := sp.1
  refine ⟨fun _ n G => ∃ j : Nat, n = j ∧ j ≤ k ∧ Keep H.size H G, fun _ n _ => k - n.toNat, ⟨0, rfl, Nat.zero_le _, Keep.refl _ _⟩, ?_⟩
  rintro b n G ⟨j, rfl, hj, kG⟩
  refine br_intro (fun hlt => ?_) fun hge => hQ G kG
  have hlt : j < R.length := by rw [hl]; simpa using hlt
  have hq : R[j]? = some (R[j]'hlt) := List.getElem?_eq_getElem hlt
  have hm := List.getElem_mem hlt
  generalize R[j]'hlt = p at hq hm
  obtain ⟨_, i, h2, h3⟩ := hR p hm
  have hpi : (parse' p.2).getD ⟨id0, id0_ok⟩ = i := by rw [h2, parse'_text h3]; rfl
  have hq2 : (R.map fun p => (p.1, (parse' p.2).getD ⟨id0, id0_ok⟩))[j]? = some (p.1, i) := by
    rw [List.getElem?_map, hq, Option.map_some, hpi]
  obtain ⟨p1, eA, rd, _⟩ := ref_at (sl.keep kG) hq2
  refine ⟨p1, ⟨eA, by omega, by omega⟩, _, rd, _, isz_ref, svc_ref ?_⟩
  have kp := keep_push G (refBox (p.1, i))
  have bp := push_at G (refBox (p.1, i))
  generalize G.push (refBox (p.1, i)) = G2 at kp bp
  have kG2 := kG.trans (kp.mono kG.size)
  obtain ⟨p2, eB, hp⟩ := (sp.keep kG2).get hq
  refine ⟨fun X => Keep G2.size G2 X, Keep.refl _ _, p.1, ref_name (r := (p.1, i)) bp, p2, ⟨eB, by omega, by omega⟩, p.1, reads_load kS (by rw [Int.toNat_natCast]; exact hp 0 _ rfl), _, fun _ => ref_id (r := (p.1, i)) bp, br_intro (fun _ => ?_) fun e => ?_⟩
  · refine (name14_spec i.2).mono ?_
    rintro v h129 ⟨k129, rfl⟩
    have k02 := kG2.trans (k129.mono kG2.size)
    refine ⟨_, rfl, k129, p2, fun _ => ⟨eB, by omega, by omega⟩, p.2, fun _ X kX => ?_, br_intro (fun e => ?_) fun _ => ?_⟩
    · obtain ⟨p3, eC, hp3⟩ := (sp.keep (kG2.trans (kX.mono kG2.size))).get hq
      rw [eB] at eC
      cases eC
      rw [Int.toNat_natCast, Addr.add_add]
      exact reads_load kS (hp3 1 _ rfl)
    · rw [h2] at e; simp at e
    · rw [wrap_i64 (by omega) (by omega)]
      exact ⟨⟨j + 1, rfl, by omega, k02⟩, by dsimp only; omega⟩
  · simp at e
theorem back_put {P R : Ps Str} (hP : SrtP P) (hf : P.filter (fun p => isR p.1) = rpairs R) (s d : Str) (i : Idn) :
    SrtP (doneAll P [⟨rKey s, idText i, false⟩, ⟨oKey i, d, false⟩]) ∧ (doneAll P [⟨rKey s, idText i, false⟩, ⟨oKey i, d, false⟩]).filter (fun p => isR p.1) = rpairs (sput s (idText i) R) ∧
    mGet (doneAll P [⟨rKey s, idText i, false⟩, ⟨oKey i, d, false⟩]) (rKey s) = some (idText i) ∧ mGet (doneAll P [⟨rKey s, idText i, false⟩, ⟨oKey i, d, false⟩]) (oKey i) = some d := by
  have e : doneAll P [⟨rKey s, idText i, false⟩, ⟨oKey i, d, false⟩] = sput (oKey i) d (sput (rkey s) (idText i) P) := rfl
  rw [e]
  have h1 := srtp_put hP (rkey s) (idText i)
  refine ⟨srtp_put h1 _ _, ?_, ?_, ?_⟩
  · rw [filter_put_not (isR_okey i)]
    exact filter_put hP hf
  · rw [getp_put h1, if_neg fun h => rKey_ne h, getp_put hP, if_pos (rKey_eq s)]
  · rw [getp_put h1, if_pos rfl]
set_option maxHeartbeats 8000000 in
theorem back_spec {h : Heap} {A B : Option Addr} {n cA m cB : Nat} {names : List Str} {ids : List Id'} {d : Str} {dr : Int} (hs : Sl StrE h A n names) (hi : Sl IdE h B m ids) (hn : n ≤ 9223372036854775807) (hm : m ≤ 9223372036854775807) :
    HC Tryz.prog 7 #[.slice A n cA, .slice B m cB, .string d, .int .i64 dr] h fun v h' => Keep h.size h h' ∧ v = .bool true := by
  refine hc_stay ?_
  have hln := hs.1
  have hlm := hi.1
  refine HC_of_vc (args := [.slice A n cA, .slice B m cB, .string d, .int .i64 dr]) (base := 194) (cuts := []) (bigs := []) kM Tryz.func7 ?_
  rw [vc18Back]
  have nm : ∀ {G : Heap}, Turn h G → Sl StrE G A n names := fun {G} t => hs.updM (t.m (S := fun _ => False)) fun _ _ _ h => h
  have im : ∀ {G : Heap}, Turn h G → Sl IdE G B m ids := fun {G} t => hi.updM (t.m (S := fun _ => False)) fun _ _ _ h => h
  have nrd : ∀ {G : Heap} {j : Nat} {s : Str}, Turn h G → names[j]? = some s → ∃ p, A = some p ∧ Reads Tryz.prog (Instr.loadAt 9 (.pointer (some (p.add (j * 1))))) G (.string s) := fun {G j s} t hq => readsStr (nm t) hq
  have ird : ∀ {G : Heap} {j : Nat} {x : Id'} {p : Addr}, Turn h G → ids[j]? = some x → B = some p → Reads Tryz.prog (Instr.loadAt 24 (.pointer (some (p.add (j * 33))))) G (.agg (idC x.1).toArray) := fun {G j x p} t hq hp => by
    obtain ⟨p', e, hc⟩ := (im t).get hq
    rw [hp] at e
    cases e
    exact reads_load_agg (cs := idC x.1) agId (idC_len x.2) fun q v hv => by rw [Addr.add_add]; exact hc q v hv
  refine (alive18_spec h).mono ?_
  rintro v h1 ⟨t1, rfl⟩
  refine ⟨_, rfl, br_intro (fun e => by cases e) fun _ => br_intro (fun _ => ⟨t1, rfl⟩) fun e => ?_⟩
  simp only [Bool.or_eq_false_iff, decide_eq_false_iff_not] at e
  obtain ⟨⟨e1, e2⟩, e3⟩ := e
  have hn32 : n ≤ 32 := by omega
  have hnm : n ≤ m := by omega
  have hd : d.size ≤ 160 := by omega
  clear e1 e2 e3
  refine (fresh18_spec h1).mono ?_
  rintro v h4 ⟨k4, c, rfl, c4⟩
  have t4 := turn_keep t1 k4
  have hN : ∀ q, q < h.size → q < h1.size := fun q hq => Nat.lt_of_lt_of_le hq t1.size
  refine ⟨_, rfl, fun _ a9 k10 _ n12 G => ∃ (i t : Nat) (P R : Ps Str), n12 = i ∧ i ≤ n ∧ t ≤ 2 * i ∧ Turn h G ∧ Ca c (fun q => q < h1.size ∨ blk a9 q) P t G ∧ Sl StrPairE G a9 k10 R ∧ P.filter (fun p => isR p.1) = rpairs R ∧ SrtP R ∧ BOk R ∧ R.length ≤ i ∧ P.length ≤ 2 * i ∧ (∀ (j : Nat) s, j < i → names[j]? = some s → nameOk s = true),
    fun _ _ _ _ n12 _ => n - n12.toNat, ⟨0, 0, [], [], rfl, Nat.zero_le _, Nat.le_refl _, t4, c4.less fun q hq => ?_, Sl.nil _ _, rfl, List.Pairwise.nil, fun p hp => (by cases hp), Nat.le_refl _, Nat.le_refl _, fun j s hj => (by omega)⟩, ?_⟩
  · rcases hq with hq | ⟨p, e, _⟩
    · exact hq
    · cases e
  rintro b8 a9 k10 k11 n12 G ⟨i, t, P, R, rfl, hi', ht, tG, cG, sG, hfil, hsR, hR, hRl, hPl, hnms⟩
  have hk10 := sG.1
  refine br_intro (fun hlt => ?_) fun hge => ?_
  · have hlt : i < names.length := by rw [hln]; simpa using hlt
    have hq : names[i]? = some (names[i]'hlt) := List.getElem?_eq_getElem hlt
    generalize names[i]'hlt = s at hq
    have hlt2 : i < ids.length := by omega
    have hqi : ids[i]? = some (ids[i]'hlt2) := List.getElem?_eq_getElem hlt2
    generalize ids[i]'hlt2 = x at hqi
    obtain ⟨pA, eA, rdA⟩ := nrd tG hq
    obtain ⟨pB, eB, _⟩ := (im tG).get hqi
    have bdA : (0 : Int) ≤ (i : Int) ∧ (i : Int) < (n : Int) := ⟨by omega, by omega⟩
    have bdB : (0 : Int) ≤ (i : Int) ∧ (i : Int) < (m : Int) := ⟨by omega, by omega⟩
    refine ⟨pA, ⟨eA, bdA⟩, s, rdA, pB, ⟨eB, bdB⟩, _, ird tG hqi eB, (name14_spec x.2).mono ?_⟩
    rintro v h19 ⟨k19, rfl⟩
    refine ⟨_, rfl, (good18_spec s).mono ?_⟩
    rintro v h22 ⟨rfl, rfl⟩
    have t22 := turn_keep tG k19
    refine ⟨_, rfl, br_intro (fun _ => ⟨t22, rfl⟩) fun e => ?_⟩
    rw [nil_eq] at e
    simp only [Bool.or_eq_false_iff, Bool.not_eq_false', decide_eq_false_iff_not] at e
    have hgs : nameOk s = true := e.1
    have gx : idGood x.1 = true := by
      cases hg : idGood x.1 with
      | true => rfl
      | false => exact absurd (idText_nil.2 hg) e.2
    have hsl := nameOk_len hgs
    have hxl := idText_len x.2
    refine ⟨fun X => Keep h22.size h22 X, Keep.refl _ _, pB, ⟨eB, bdB⟩, _, ird t22 hqi eB, (set_spec (s := s) (by omega) x.2).mono ?_⟩
    rintro v h28 ⟨k28, rfl⟩
    refine ⟨_, _, _, rfl, k28, pB, ⟨eB, bdB⟩, _, fun X kX => ird (turn_keep t22 kX) hqi eB, _, built_obj x.2 d, (put_spec x.2 d).mono ?_⟩
    rintro v h37 ⟨k37, rfl⟩
    have k2237 := k28.trans (k37.mono k28.size)
    have kG37 := k19.trans (k2237.mono k19.size)
    refine ⟨_, _, _, rfl, svc_wr2 (v := ⟨rKey s, idText x.1, false⟩) (w := ⟨oKey x.1, d, false⟩) fun h42 k42 z42 s42 => ⟨_, _, _, rfl, ?_⟩⟩
    have kG42 := kG37.trans (k42.mono kG37.size)
    have c42 := cG.more kG42
    have z37 := kG37.size
    refine (c42.apply s42 (Nat.le_refl _) (by decide) (fun _ q hq => .inr ?_) (long_two (by show (rKey s).size ≤ 48; rw [rKey_size]; omega) (by show (idText x.1).size ≤ 160; omega) (by show (oKey x.1).size ≤ 48; rw [oKey_size]; omega) hd)).mono ?_
    · obtain ⟨p, e, hp⟩ := hq
      cases e
      subst hp
      exact ⟨z37, by show h37.size < h42.size; omega⟩
    rintro v h47 ⟨u47, rfl, c47⟩
    obtain ⟨hP', hfil', hm1, hm2⟩ := back_put cG.srt hfil s d x.1
    have hPl' : (doneAll P [⟨rKey s, idText x.1, false⟩, ⟨oKey x.1, d, false⟩]).length ≤ 2 * (i + 1) := by
      have := doneAll_len [⟨rKey s, idText x.1, false⟩, ⟨oKey x.1, d, false⟩] P
      simp only [List.length_cons, List.length_nil] at this
      omega
    generalize doneAll P [⟨rKey s, idText x.1, false⟩, ⟨oKey x.1, d, false⟩] = P' at *
    have t47 := turn_of (turn_keep tG kG42) u47 fun q hq => .inl (.inl (hN q hq))
    have s47 : Sl StrPairE h47 a9 k10 R := (sG.keep kG42).updM u47 fun _ q hq hn => hn (.inl (.inr hq))
    refine ⟨_, rfl, br_intro (fun e => by simp at e) fun _ => (done08_spec s47 hsR (by omega) ⟨s, idText x.1, false⟩).mono ?_⟩
    rintro v h50 ⟨k50, a51, k52, k53, rfl, o50⟩
    have o50 : Own StrPairE 65 h47.size h50 a51 k52 k53 (sput s (idText x.1) R) := o50
    have c50 := c47.more k50
    refine ⟨_, _, _, rfl, (rget_spec c50 (by omega) s).mono ?_⟩
    rintro v h55 ⟨u55, c55, rfl⟩
    have t50 := turn_keep t47 k50
    have t55 := turn_of t50 u55 fun q hq => .inl (.inl (.inl (hN q hq)))
    have hb51 : ∀ q, blk a51 q → h47.size ≤ q ∧ q < h50.size := o50.block
    have s55 : Sl StrPairE h55 a51 k52 (sput s (idText x.1) R) := o50.sl.updM u55 fun _ q hq hn => hn (.inr (hb51 q hq))
    rw [rget_some hgs gx hm1]
    have kp := keep_push h55 (idBox id0)
    have bp := push_at h55 (idBox id0)
    refine ⟨_, _, rfl, _, isz_id, svc_idbox x.2 bp (sz_id id0_ok) fun h60 z60 b60 u60 => ?_⟩
    have k60 : Keep h55.size h55 h60 := kp.trans (u60.keep (by simp) fun q hq => by omega)
    refine ⟨fun X => Keep h60.size h60 X, Keep.refl _ _, (of_refs (some ⟨c, 0, none⟩) (.inr ⟨c, rfl⟩)).mono ?_⟩
    rintro v h63 ⟨k63, rfl⟩
    have k5563 := k60.trans (k63.mono k60.size)
    have t60 := turn_keep t55 k60
    have t63 := turn_keep t55 k5563
    refine ⟨_, rfl, k63, pB, ⟨eB, bdB⟩, _, fun X kX => ird (turn_keep t60 kX) hqi eB, (obj_spec (c55.more k5563) (by omega) x).mono ?_⟩
    rintro v h69 ⟨u69, c69, rfl⟩
    have ho : oGet P' x.1 = (d, 0) := by unfold oGet; rw [if_pos gx, hm2]
    rw [ho]
    have t69 := turn_of t63 u69 fun q hq => .inl (.inl (.inl (.inl (hN q hq))))
    have z60' := at_lt b60
    have b69 : h69[h55.size]? = some (idBox x.1) := u69.cells (k63.at b60 z60') fun hn => hn (.inr ⟨Nat.le_refl _, Nat.lt_of_lt_of_le z60' k63.size⟩)
    refine ⟨_, _, rfl, _, fun _ => id_load x.2 b69, pB, fun _ => ⟨eB, bdB⟩, _, fun _ => ird t69 hqi eB, _, fun _ => reads_id.2, br_intro (fun e => by simp at e) fun _ => ?_⟩
    rw [wrap_i64 (by omega) (by omega)]
    have s69 : Sl StrPairE h69 a51 k52 (sput s (idText x.1) R) := (s55.keep k5563).updM u69 fun _ q hq hn => hn (.inl (.inr (hb51 q hq)))
    refine ⟨⟨i + 1, t + 1 + 1, P', sput s (idText x.1) R, rfl, by omega, by omega, t69, c69.less fun q hq => ?_, s69, hfil', srtp_put hsR _ _, hR.put hgs gx, ?_, hPl', fun j s' hj hq' => ?_⟩, by dsimp only; omega⟩
    · rcases hq with hq | hq
      · exact .inl (.inl (.inl (.inl hq)))
      · exact .inl (.inr (hb51 q hq))
    · have := sput_len s (idText x.1) R
      omega
    · rcases Nat.lt_or_ge j i with h1 | h1
      · exact hnms j s' h1 hq'
      · have : j = i := by omega
        subst this
        rw [hq] at hq'
        cases hq'
        exact hgs
  · have hge : i = n := by have := of_decide_eq_false hge; omega
    subst hge
    refine br_intro (fun e => ?_) fun _ => ?_
    · simp only [Bool.and_eq_true, decide_eq_true_eq] at e
      obtain ⟨j, rfl⟩ : ∃ j : Nat, dr = j := ⟨dr.toNat, by omega⟩
      have hlt : j < names.length := by omega
      have hq : names[j]? = some (names[j]'hlt) := List.getElem?_eq_getElem hlt
      generalize names[j]'hlt = s at hq
      have hgs := hnms j s (by omega) hq
      have hsl := nameOk_len hgs
      obtain ⟨pA, eA, rdA⟩ := nrd tG hq
      have bdA : (0 : Int) ≤ (j : Int) ∧ (j : Int) < (i : Int) := ⟨by omega, by omega⟩
      refine ⟨pA, ⟨eA, bdA⟩, s, rdA, (drop_spec (s := s) (by omega)).mono ?_⟩
      rintro v h79 ⟨k79, rfl⟩
      refine ⟨_, _, _, rfl, svc_wr1 (w := ⟨rKey s, ⟨#[]⟩, true⟩) fun h84 k84 z84 s84 => ⟨_, _, _, rfl, ?_⟩⟩
      have kG84 := k79.trans (k84.mono k79.size)
      have c84 := cG.more kG84
      have z79 := k79.size
      refine (c84.apply s84 (Nat.le_refl _) (by decide) (fun _ q hq => .inr ?_) (long_one (by show (rKey s).size ≤ 48; rw [rKey_size]; omega) (by show (⟨#[]⟩ : Str).size ≤ 160; decide))).mono ?_
      · obtain ⟨p, e, hp⟩ := hq
        cases e
        subst hp
        exact ⟨z79, by show h79.size < h84.size; omega⟩
      rintro v h89 ⟨u89, rfl, c89⟩
      have eP : doneAll P [⟨rKey s, ⟨#[]⟩, true⟩] = sdel (rkey s) P := rfl
      rw [eP] at c89
      have t89 := turn_of (turn_keep tG kG84) u89 fun q hq => .inl (.inl (hN q hq))
      have s89 : Sl StrPairE h89 a9 k10 R := (sG.keep kG84).updM u89 fun _ q hq hn => hn (.inl (.inr hq))
      obtain ⟨pA2, eA2, rdA2⟩ := nrd t89 hq
      refine ⟨_, rfl, pA2, ⟨eA2, bdA⟩, s, rdA2, (done08_spec s89 hsR (by omega) ⟨s, ⟨#[]⟩, true⟩).mono ?_⟩
      rintro v h94 ⟨k94, a95, k96, k97, rfl, o94⟩
      have o94 : Own StrPairE 65 h89.size h94 a95 k96 k97 (sdel s R) := o94
      have t94 := turn_keep t89 k94
      have c94 := c89.more k94
      have hb95 : ∀ q, blk a95 q → h89.size ≤ q ∧ q < h94.size := o94.block
      obtain ⟨pA3, eA3, rdA3⟩ := nrd t94 hq
      refine ⟨_, _, _, rfl, pA3, ⟨eA3, bdA⟩, s, rdA3, (rget_spec c94 (by omega) s).mono ?_⟩
      rintro v h101 ⟨u101, c101, rfl⟩
      have hgt : rGet (sdel (rkey s) P) s = (id0, 5) := by
        unfold rGet
        rw [if_pos hgs, rKey_eq, getp_del, if_pos rfl]
      rw [hgt]
      have t101 := turn_of t94 u101 fun q hq => .inl (.inl (.inl (hN q hq)))
      have s101 : Sl StrPairE h101 a95 k96 (sdel s R) := o94.sl.updM u101 fun _ q hq hn => hn (.inr (hb95 q hq))
      have kp := keep_push h101 (idBox id0)
      have bp := push_at h101 (idBox id0)
      refine ⟨_, _, rfl, _, isz_id, svc_idbox id0_ok bp (sz_id id0_ok) fun h106 z106 b106 u106 => ?_⟩
      have k106 : Keep h101.size h101 h106 := kp.trans (u106.keep (by simp) fun q hq => by omega)
      have hPd : (sdel (rkey s) P).length ≤ P.length := List.length_filter_le _ _
      refine br_intro (fun e => by simp at e) fun _ => (list_spec (c101.keep k106) (by omega)).mono ?_
      rintro v h108 ⟨u108, c108, hv⟩
      have hRd : (sdel s R).length ≤ R.length := List.length_filter_le _ _
      have hdR := hR.del s
      rw [filter_del hfil, hdR.read (by omega)] at hv
      obtain ⟨a109, cc, rfl, oa⟩ := hv
      have hlo : ((sdel s R).map fun p => (p.1, (parse' p.2).getD ⟨id0, id0_ok⟩)).length = k96 := by rw [List.length_map]; exact s101.1
      rw [hlo] at oa ⊢
      have t108 := turn_of (turn_keep t101 k106) u108 fun q hq => .inl (.inl (.inl (hN q hq)))
      have s108 : Sl StrPairE h108 a95 k96 (sdel s R) := (s101.keep k106).updM u108 fun _ q hq hn => hn (.inr (hb95 q hq))
      have hk96 := s101.1
      exact ⟨_, _, _, _, rfl, br_intro (fun e => by simp at e) fun _ => cmp_part (Q := fun v G => Turn h G ∧ v = .bool true) oa.sl s108 hdR (by omega) fun X kX => ⟨turn_keep t108 kX, rfl⟩⟩
    · refine (list_spec cG (by omega)).mono ?_
      rintro v h135 ⟨u135, c135, hv⟩
      rw [hfil, hR.read (by omega)] at hv
      obtain ⟨a136, cc, rfl, oa⟩ := hv
      have hlo : (R.map fun p => (p.1, (parse' p.2).getD ⟨id0, id0_ok⟩)).length = k10 := by rw [List.length_map]; exact hk10
      rw [hlo] at oa ⊢
      have t135 := turn_of tG u135 fun q hq => .inl (hN q hq)
      have s135 : Sl StrPairE h135 a9 k10 R := sG.updM u135 fun _ q hq hn => hn (.inr hq)
      exact ⟨_, _, _, _, rfl, br_intro (fun e => by simp at e) fun _ => cmp_part (Q := fun v G => Turn h G ∧ v = .bool true) oa.sl s135 hR (by omega) fun X kX => ⟨turn_keep t135 kX, rfl⟩⟩
end Go.Proofs.YtmdcfmhkfomoaaaGreatDoor
end
