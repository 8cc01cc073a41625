/-
  Texts of this seat, laid one behind the other: KrL KrD KrM KrO. Conditions: none.
-/
import Derived.Test.YtmdcfmhkfomoaaaGreatDoorZR
import Derived.Test.YtmdcfmhkfomoaaaGreatDoorZS
import Derived.Test.YtmdcfmhkfomoaaaGreatDoorZB
section
set_option linter.unusedVariables false
set_option linter.unusedSimpArgs false
set_option maxRecDepth 100000
namespace Go.Proofs.YtmdcfmhkfomoaaaGreatDoor
open Go Go.Vc Go.Proofs Go.Dk Go.Kv

theorem app_ref : App Tryz.prog 43 47 RefE.sz 56 (.agg (Value.string ⟨#[]⟩ :: List.replicate 33 (Value.int .u8 0)).toArray) := ⟨by kernel_rfl, by kernel_rfl, by kernel_rfl, by kernel_rfl, rfl, by decide, by decide⟩
theorem bs_ref (r : Str × Id') : bsCells Tryz.prog 43 1 [(0, .agg (RefE.enc r).toArray)] = some (47, RefE.enc r) :=
  bs_one (v := .agg (RefE.enc r).toArray) app_ref.und app_ref.size app_ref.zero app_ref.zlen (by decide) (by decide) (by show (RefE.enc r).length = _; exact RefE.len r)
theorem agPr : agT Tryz.prog 65 2 = true := by kernel_rfl
theorem szPr : szOf Tryz.prog 65 = some 2 := by kernel_rfl
abbrev prBox (p : Str × Str) : Obj := .cells #[.string p.1, .string p.2] 65 (0, 0)
theorem pr_at {h : Heap} {A : Option Addr} {n k : Nat} {l : List (Str × Str)} {w : Str × Str} (hs : Sl StrPairE h A n l) (hq : l[k]? = some w) :
    ∃ p, A = some p ∧ Reads Tryz.prog (Instr.loadAt 65 (.pointer (some (p.add (k * 2))))) h (.agg (Array.mk [.string w.1, .string w.2])) := by
  obtain ⟨p, e, hp⟩ := hs.get hq
  exact ⟨p, e, reads_load_agg (cs := [.string w.1, .string w.2]) agPr rfl fun j v hv => by rw [Addr.add_add]; exact hp j v hv⟩
theorem svc_pr {w : Str × Str} {h : Heap} {old : Array Value} {K : Unit → Heap → Prop} (ho : old.size = 2) (k : K () (h.push (prBox w))) :
    SVC Tryz.prog (Instr.storeAt 65 (.pointer (some ⟨h.size, 0, none⟩)) (.agg (Array.mk [.string w.1, .string w.2]))) (h.push (.cells old 65 (0, 0))) K :=
  svc_store_new (v := .agg #[.string w.1, .string w.2]) szPr ho (fun v hv => StrPairE.one w v hv) k
section
variable {w : Str × Str} {h : Heap} {b : Nat}
theorem pr_k (hb : h[b]? = some (prBox w)) : Reads Tryz.prog (Instr.loadAt 9 (.pointer (some ⟨b, 0, none⟩))) h (.string w.1) := reads_load kS (cell_cells0 hb rfl)
theorem pr_v (hb : h[b]? = some (prBox w)) : Reads Tryz.prog (Instr.loadAt 9 (.pointer (some ((⟨b, 0, none⟩ : Addr).add 1)))) h (.string w.2) := reads_load kS (cell_cells hb rfl)
theorem pr_all (hb : h[b]? = some (prBox w)) : Reads Tryz.prog (Instr.loadAt 65 (.pointer (some ⟨b, 0, none⟩))) h (.agg (Array.mk [.string w.1, .string w.2])) :=
  reads_load_agg (cs := [.string w.1, .string w.2]) agPr rfl (cells_all hb)
end
theorem built_ref (s : Str) (i : Id') : Blt Tryz.prog 47 [(0, .string s), (1, .agg (idC i.1).toArray)] (RefE.enc (s, i)).toArray := by
  refine ⟨builtL_eq (cs := RefE.enc (s, i)) ?_⟩
  have hz : (Tryz.prog.info? 47).bind (·.zero) = some (.agg (Value.string ⟨#[]⟩ :: List.replicate 33 (Value.int .u8 0)).toArray) := by kernel_rfl
  have hu : Tryz.prog.underlying 47 = some (.struct (Tryz.prog.fieldsOf 47)) := by kernel_rfl
  have hp : placesOf Tryz.prog (Tryz.prog.fieldsOf 47).toList = some [(0, 1), (1, 33)] := by kernel_rfl
  have hl := idC_len i.2
  unfold builtL
  rw [hz, hu]
  dsimp only
  rw [hp]
  show fillL ([(0, 1), (1, 33)][·]?) (Value.string ⟨#[]⟩ :: List.replicate 33 (Value.int .u8 0)) _ = _
  rw [fillL_cons (v := .string s) (off := 0) (size := 1) rfl rfl (by simp)]
  have e1 : putL (Value.string ⟨#[]⟩ :: List.replicate 33 (Value.int .u8 0)) 0 (Value.string s).cells.toList = .string s :: List.replicate 33 (Value.int .u8 0) := rfl
  rw [e1, fillL_cons (v := .agg (idC i.1).toArray) (off := 1) (size := 33) rfl hl (by simp)]
  have e2 : putL (.string s :: List.replicate 33 (Value.int .u8 0)) 1 (Value.agg (idC i.1).toArray).cells.toList = RefE.enc (s, i) := by
    have := putL_prefix (idC i.1) [.string s] (List.replicate 33 (Value.int .u8 0)) (by rw [hl]; simp)
    refine this.trans ?_
    rw [hl]
    simp [RefE]
  rw [e2]; rfl
theorem ext_tail {s : Str} : s.extract 1 s.size = tail1 s := by
  apply str_ext
  rw [ByteArray.toList_eq, ByteArray.toList_eq, ByteArray.data_extract, Array.toList_extract]
  show (List.drop 1 s.data.toList).take (s.size - 1) = (s.data.toList.drop 1).toArray.toList
  have : s.data.toList.length = s.size := Array.length_toList
  rw [List.take_of_length_le (by rw [List.length_drop]; omega)]
section
variable {h : Heap} {s : Str}
theorem parse18_spec (s : Str) (h : Heap) : HC Tryz.prog 41 #[.string s] h fun v h' => Keep h.size h h' ∧ v = .tuple #[.agg (idC ((idParse s).getD id0)).toArray, .bool (idParse s).isSome] := by
  refine HC_of_vc (args := [.string s]) (base := 24) (cuts := []) (bigs := []) kM Tryz.func41 ?_
  rw [vc18Parse]
  have hsz : s.data.toList.length = s.size := Array.length_toList
  have kb := keep_push h (idBox id0)
  have bb := push_at h (idBox id0)
  have zb : (h.push (idBox id0)).size = h.size + 1 := by simp
  refine ⟨_, isz_id, ?_⟩
  generalize h.push (Obj.cells (idC id0).toArray 24 (0, 0)) = H at kb bb zb
  have none_ : ∀ {h2 : Heap}, Keep H.size H h2 → idParse s = none → ∃ (h22 : Array Value), Blt Tryz.prog 24 [] h22 ∧ SVC Tryz.prog (Instr.storeAt 24 (Value.pointer (some (Addr.mk (Array.size h) (0 : Nat) none))) (Value.agg h22)) h2 fun (x23 : Unit) (h24 : Heap) =>
      ∃ (h25 : Array Value), Reads Tryz.prog (loadVar 24 (Addr.mk (Array.size h) (0 : Nat) none)) h24 (Value.agg h25) ∧ (Keep h.size h h24 ∧ Value.tuple (Array.mk [Value.agg h25, Value.bool false]) = .tuple #[.agg (idC ((idParse s).getD id0)).toArray, .bool (idParse s).isSome]) := by
    intro h2 k2 hn
    refine ⟨_, blt_id0, svc_idbox id0_ok (k2.at bb (at_lt bb)) (sz_id id0_ok) fun h9 z9 b9 u9 => ⟨_, id_var id0_ok b9, (kb.trans (k2.mono kb.size)).trans (u9.keep (by have := k2.size; omega) fun q hq => by omega), by rw [hn]; rfl⟩⟩
  rw [beq_go, nil_eq]
  have hne : s = ⟨#[]⟩ ↔ s.size = 0 := ⟨fun h => by rw [h]; rfl, fun h => str_ext (by rw [ByteArray.toList_eq, ByteArray.toList_eq]; exact List.eq_nil_of_length_eq_zero (hsz.trans h))⟩
  cases hl : s.data.toList with
  | nil =>
    rw [hl] at hsz
    have h0 : s.size = 0 := hsz.symm
    have hn : idParse s = none := by unfold idParse; rw [ByteArray.toList_eq, hl]
    have e0 : decide (s = ⟨#[]⟩) = true := decide_eq_true (hne.2 h0)
    rw [e0]
    exact ⟨fun e => (by cases e), br_intro (fun e => (by cases e)) fun e => ⟨fun e => (by cases e), none_ (Keep.refl _ _) hn⟩⟩
  | cons k r =>
    have hk := byte0 hl
    rw [hl, List.length_cons] at hsz
    have hp : idParse s = if idSize k = 0 ∨ r.length ≠ idSize k then none else some ⟨k, r ++ List.replicate (32 - r.length) 0⟩ := by unfold idParse; rw [ByteArray.toList_eq, hl]
    have e0 : decide (s = ⟨#[]⟩) = false := decide_eq_false fun h => by have := hne.1 h; omega
    rw [hk, e0]
    refine ⟨fun _ => ⟨by omega, by omega⟩, br_intro (fun e => ?_) fun e => by cases e⟩
    refine (size14_spec k).mono ?_
    rintro v h2 ⟨rfl, rfl⟩
    refine ⟨_, rfl, fun _ => ⟨by omega, by omega⟩, br_intro (fun e => ?_) fun e => ?_⟩
    · have hk0 : idSize k ≠ 0 := fun h0 => by rw [h0] at e; simp at e
      have hle := idSize_le k
      refine (size14_spec k).mono ?_
      rintro v h5 ⟨rfl, rfl⟩
      refine ⟨_, rfl, ?_⟩
      rw [wrap_i64 (by omega) (by omega)]
      refine br_intro (fun e => none_ (Keep.refl _ _) ?_) fun e => ?_
      · have : (s.size : Int) ≠ 1 + (idSize k : Nat) := by simpa using e
        rw [hp, if_pos (.inr (by omega))]
      · have hrk : r.length = idSize k := by have : (s.size : Int) = 1 + (idSize k : Nat) := by simpa using e
                                             omega
        rw [if_neg (by omega)] at hp
        have hid : idOf s = ⟨k, r ++ List.replicate (32 - r.length) 0⟩ := by unfold idOf; rw [hl]
        refine (id14_spec (s := s) (by omega)).mono ?_
        rintro v h12 ⟨k12, rfl⟩
        have ok := idOf_ok (s := s) (by omega)
        refine ⟨_, rfl, svc_idbox ok (k12.at bb (at_lt bb)) (sz_id id0_ok) fun h9 z9 b9 u9 => ⟨_, id_var ok b9, (kb.trans (k12.mono kb.size)).trans (u9.keep (by have := k12.size; omega) fun q hq => by omega), by rw [hp, hid]; rfl⟩⟩
    · have hk0 : idSize k = 0 := by
        by_cases h0 : ((idSize k : Nat) : Int) = 0
        · omega
        · rw [decide_eq_false h0] at e; cases e
      exact none_ (Keep.refl _ _) (by rw [hp, if_pos (.inl hk0)])
end
/-- what is read of a branch's pair, and put behind those that were read. -/
theorem ref_body {f g : Nat} (hf : ∀ (s : Str) (h : Heap), HC Tryz.prog f #[.string s] h fun v h' => Keep h.size h h' ∧ v = .tuple #[.agg (idC ((idParse s).getD id0)).toArray, .bool (idParse s).isSome])
    (hg : ∀ (s : Str) (h : Heap), HC Tryz.prog g #[.string s] h fun v h' => Keep h.size h h' ∧ v = .bool (nameOk s))
    {H : Heap} {b B : Nat} {p : Str × Str} {a : Option Addr} {k cc : Nat} {o : List (Str × Id')} (hb : H[b]? = some (prBox p)) (h1 : 1 ≤ p.1.size) (oH : Own RefE 47 B H a k cc o) (hB : B ≤ H.size) (hk : o.length ≤ 32)
    {Rn : Heap → Prop} {J : Option Addr → Nat → Nat → Heap → Prop} (bad : ∀ G, Keep H.size H G → (∀ l, refL o.length (p :: l) = none) → Rn G)
    (good : ∀ i a' cc' G, o.length < 32 → (∀ l, refL o.length (p :: l) = (refL (o.length + 1) l).map ((tail1 p.1, i) :: ·)) → Upd (blk a) H G → Own RefE 47 B G a' (k + 1) cc' (o ++ [(tail1 p.1, i)]) → J a' (k + 1) cc' G) :
    ∃ (s32 : ByteArray), Reads Tryz.prog (Instr.loadAt 9 (Value.pointer (some ((Addr.mk b (0 : Nat) none).add (1 : Nat))))) H (Value.string s32) ∧
    HC Tryz.prog f (Array.mk [Value.string s32]) H fun (v33 : Value) (h34 : Heap) =>
    ∃ (h35 : Array Value), ∃ (b36 : Bool), v33 = Value.tuple (Array.mk [Value.agg h35, Value.bool b36]) ∧
    ∃ (h37 : Array Value), IsZ Tryz.prog 24 h37 ∧
    SVC Tryz.prog (Instr.storeAt 24 (Value.pointer (some (Addr.mk (Array.size h34) (0 : Nat) none))) (Value.agg h35)) (Array.push h34 (Obj.cells h37 24)) fun (x38 : Unit) (h39 : Heap) =>
    ∃ (s40 : ByteArray),
    ((!!b36) = true → Reads Tryz.prog (Instr.loadAt 9 (Value.pointer (some (Addr.mk b (0 : Nat) none)))) h39 (Value.string s40)) ∧
    ((!!b36) = true → (0 : Int) ≤ (1 : Int) ∧ (1 : Int) ≤ (↑s40.size : Int) ∧ (↑s40.size : Int) ≤ (↑s40.size : Int)) ∧
    br (bif bif b36 then false else true then false else true)
    (HC Tryz.prog g (Array.mk [Value.string (s40.extract (1 : Nat) s40.size)]) h39 fun (v41 : Value) (h42 : Heap) =>
    ∃ (b43 : Bool), v41 = Value.bool b43 ∧
    br (!b43 || (↑k : Int) == (32 : Int)) (Rn h42)
    (∃ (s44 : ByteArray), Reads Tryz.prog (Instr.loadAt 9 (Value.pointer (some (Addr.mk b (0 : Nat) none)))) h42 (Value.string s44) ∧
    ((0 : Int) ≤ (1 : Int) ∧ (1 : Int) ≤ (↑s44.size : Int) ∧ (↑s44.size : Int) ≤ (↑s44.size : Int)) ∧
    ∃ (h45 : Array Value), Reads Tryz.prog (Instr.loadAt 24 (Value.pointer (some (Addr.mk (Array.size h34) (0 : Nat) none)))) h42 (Value.agg h45) ∧
    ∃ (h46 : Array Value), Blt Tryz.prog 47 [((0 : Nat), Value.string (s44.extract (1 : Nat) s44.size)), ((1 : Nat), Value.agg h45)] h46 ∧
    SVC Tryz.prog (Instr.buildSlice 43 (1 : Nat) (Array.mk [((0 : Nat), Value.agg h46)])) h42 fun (v47 : Value) (h48 : Heap) =>
    ∃ (a49 : Option Addr), ∃ (k50 : Nat), ∃ (k51 : Nat), v47 = Value.slice a49 k50 k51 ∧
    SVC Tryz.prog (Builtin.append_ (Array.mk [43, 43]) 43 (Array.mk [Value.slice a k cc, Value.slice a49 k50 k51])) h48 fun (v52 : Value) (h53 : Heap) =>
    ∃ (a54 : Option Addr), ∃ (k55 : Nat), ∃ (k56 : Nat), v52 = Value.slice a54 k55 k56 ∧ J a54 k55 k56 h53))
    (Rn h39) := by
  have hko := oH.1
  refine ⟨_, pr_v hb, (hf p.2 H).mono ?_⟩
  rintro v h34 ⟨k34, rfl⟩
  have kp := keep_push h34 (idBox id0)
  have bp := push_at h34 (idBox id0)
  refine ⟨_, _, rfl, _, isz_id, svc_idbox (getD_ok p.2) bp (sz_id id0_ok) fun h39 z39 b39 u39 => ?_⟩
  have k39 : Keep H.size H h39 := (k34.trans (kp.mono k34.size)).trans (u39.keep (by have := k34.size; simp; omega) fun q hq => by have := k34.size; omega)
  refine ⟨p.1, fun _ => pr_k (k39.at hb (at_lt hb)), fun _ => ⟨by omega, by omega, by omega⟩, br_intro (fun e => ?_) fun e => bad _ k39 fun l => ?_⟩
  · obtain ⟨i, hi⟩ : ∃ i, idParse p.2 = some i := Option.isSome_iff_exists.1 (by cases hs : (idParse p.2).isSome with | true => rfl | false => rw [hs] at e; cases e)
    have hp' := parse'_some hi
    rw [hi] at b39
    have b39 : h39[h34.size]? = some (idBox i) := b39
    rw [ext_tail]
    refine (hg (tail1 p.1) h39).mono ?_
    rintro v h42 ⟨k42, rfl⟩
    have k042 := k39.trans (k42.mono k39.size)
    refine ⟨_, rfl, br_intro (fun e2 => bad _ k042 fun l => ?_) fun e2 => ?_⟩
    · unfold refL
      rw [hp']
      dsimp only
      rw [if_neg]
      intro h2
      rw [Bool.and_eq_true] at h2
      have h3 := of_decide_eq_true h2.2
      rw [h2.1] at e2
      have : (k : Int) = 32 := by simpa using e2
      omega
    · simp only [Bool.or_eq_false_iff, Bool.not_eq_false', beq_eq_false_iff_ne, ne_eq] at e2
      have h32 : o.length < 32 := by omega
      refine ⟨p.1, pr_k (k042.at hb (at_lt hb)), ⟨by omega, by omega, by omega⟩, _, id_load (idParse_ok hi) (k42.at b39 (at_lt b39)), ?_⟩
      rw [ext_tail]
      have o42 : Own RefE 47 B h42 a k cc o := oH.upd (k042.upd fun _ => False) fun _ _ h => h
      refine ⟨_, built_ref (tail1 p.1) ⟨i, idParse_ok hi⟩, svc_append1 (x := (tail1 p.1, ⟨i, idParse_ok hi⟩)) app_ref o42 (by have := k042.size; omega) (bs_ref _) (by omega) fun a' cc' G oG uG bG => good ⟨i, idParse_ok hi⟩ a' cc' G h32 (fun l => ?_) ((k042.upd _).trans uG) oG⟩
      rw [refL, hp']
      dsimp only
      rw [if_pos (by rw [e2.1, decide_eq_true h32]; rfl)]
  · have hi : idParse p.2 = none := by
      cases hs : idParse p.2 with
      | none => rfl
      | some i => rw [hs] at e; cases e
    unfold refL
    rw [parse'_none hi]
/-- branches, as a row with an error's number. -/
def listV (r : Option (List (Str × Id'))) (v : Value) (B : Nat) (h : Heap) : Prop := match r with
  | none => v = .tuple #[.slice none 0 0, .int .i64 4]
  | some o => ∃ a cc, v = .tuple #[.slice a o.length cc, .int .i64 0] ∧ Own RefE 47 B h a o.length cc o
theorem isR_cut {s : Str} (h : 1 ≤ s.size) : (!(s.extract 0 1).toList == [(114 : UInt8)]) = !isR s := by
  congr 1
  have hsz : s.data.toList.length = s.size := Array.length_toList
  rw [ByteArray.toList_eq, ByteArray.data_extract, Array.toList_extract]
  unfold isR
  show ((List.drop 0 s.data.toList).take (1 - 0) == [(114 : UInt8)]) = _
  cases hl : s.data.toList with
  | nil => rw [hl] at hsz; have : s.size = 0 := hsz.symm; omega
  | cons b r =>
    rw [List.drop_zero, Nat.sub_zero, List.take_succ_cons, List.take_zero]
    by_cases hb : b = 114
    · subst hb; rfl
    · rw [decide_eq_false (by simpa using hb)]
      simpa using hb
section
variable {c t : Nat} {N : Nat → Prop} {P : Ps Str} {h : Heap}
theorem list_spec (hc : Ca c N P t h) (hP : P.length ≤ 1000000) : HC Tryz.prog 19 #[.pointer (some ⟨c, 0, none⟩)] h fun v h' => UpdM (fun q => ¬ N q) h h' ∧ Ca c N P t h' ∧ listV (refL 0 (P.filter fun p => isR p.1)) v h.size h' := by
  refine HC_of_vc (args := [.pointer (some ⟨c, 0, none⟩)]) (base := 60) (cuts := []) (bigs := []) kM Tryz.func19 ?_
  rw [vcRfList]
  have hsP := hc.srt
  rw [← refL_scan hsP]
  have hrk : rKey ⟨#[]⟩ = ⟨#[114]⟩ := by apply str_ext; simp [rKey, ByteArray.toList_eq, ByteArray.data_append]
  refine (key_spec (s := ⟨#[]⟩) (by decide)).mono ?_
  rintro v h1 ⟨rfl, rfl⟩
  rw [hrk]
  refine ⟨_, rfl, (hc.scan hP ⟨#[114]⟩ 33).mono ?_⟩
  rintro v h4 ⟨u4, c4, a5, k7, rfl, sl, hbk⟩
  have hSm : ∀ p ∈ Kv.scan P ⟨#[114]⟩ 33, 1 ≤ p.1.size := fun p hp => by
    unfold Kv.scan at hp
    have h2 := (List.mem_filter.1 (List.mem_of_mem_take hp)).2
    obtain ⟨b, r, e, _⟩ := (not_lt_r p.1).1 (by simpa using h2)
    have hz : p.1.data.toList.length = p.1.size := Array.length_toList
    rw [e, List.length_cons] at hz
    omega
  have hSl : (Kv.scan P ⟨#[114]⟩ 33).length ≤ 33 := by
    unfold Kv.scan
    rw [List.length_take]
    exact Nat.min_le_left _ _
  generalize Kv.scan P ⟨#[114]⟩ 33 = S at sl hSm hSl
  refine ⟨_, _, _, _, rfl, br_intro (fun e => by simp at e) fun _ => ?_⟩
  have fin : ∀ {G : Heap} {a : Option Addr} {k cc : Nat} {o : List (Str × Id')}, Keep h4.size h4 G → Own RefE 47 h4.size G a k cc o → refL 0 (S.takeWhile fun p => isR p.1) = some o →
      UpdM (fun q => ¬ N q) h1 G ∧ Ca c N P t G ∧ listV (refL 0 (S.takeWhile fun p => isR p.1)) (.tuple (Array.mk [.slice a k cc, .int .i64 0])) h1.size G := by
    intro G a k cc o kG oG hr
    rw [hr]
    have hk := oG.1
    subst hk
    exact ⟨u4.trans kG.m, c4.keep kG, _, _, rfl, oG.mono u4.size⟩
  refine ⟨fun _ _ _ _ a15 k16 k17 n18 G => ∃ (j : Nat) (o : List (Str × Id')), n18 = j ∧ j ≤ S.length ∧ o.length = j ∧ o.length ≤ 32 ∧ Keep h4.size h4 G ∧ Own RefE 47 h4.size G a15 k16 k17 o ∧
      refL 0 (S.takeWhile fun p => isR p.1) = (refL o.length ((S.drop j).takeWhile fun p => isR p.1)).map (o ++ ·),
    fun _ _ _ _ _ _ _ n18 _ => S.length - n18.toNat, ⟨0, [], rfl, Nat.zero_le _, rfl, Nat.zero_le _, Keep.refl _ _, Own.nil _ _ _, by simp⟩, ?_⟩
  rintro a11 k12 k13 n14 a15 k16 k17 n18 G ⟨j, o, rfl, hj, hoj, ho, kG, oG, hr⟩
  refine br_intro (fun hlt => ?_) fun hge => ?_
  · have hlt : j < S.length := by simpa using hlt
    have hq : S[j]? = some (S[j]'hlt) := List.getElem?_eq_getElem hlt
    have hd : S.drop j = S[j]'hlt :: S.drop (j + 1) := List.drop_eq_getElem_cons hlt
    have hm := List.getElem_mem hlt
    generalize S[j]'hlt = p at hq hd hm
    have hp1 := hSm p hm
    obtain ⟨p20, eA, rd⟩ := pr_at (sl.keep kG) hq
    refine ⟨p20, ⟨eA, by omega, by omega⟩, _, _, rd, svc_pr rfl ?_⟩
    have kb := keep_push G (prBox p)
    have bb := push_at G (prBox p)
    have o2 : Own RefE 47 h4.size (G.push (prBox p)) a15 k16 k17 o := oG.upd (kb.upd fun _ => False) fun _ _ h => h
    generalize G.push (prBox p) = G2 at kb bb o2
    have kG2 := kG.trans (kb.mono kG.size)
    refine ⟨_, pr_k bb, ⟨by omega, by omega, by omega⟩, br_intro (fun e => ?_) fun e => ?_⟩
    · have e : (!(p.1.extract 0 1).toList == [(114 : UInt8)]) = true := e
      rw [isR_cut hp1] at e
      have e : isR p.1 = false := by simpa using e
      rw [hd, List.takeWhile_cons_of_neg (p := fun p : Str × Str => isR p.1) (by rw [e]; decide)] at hr
      refine fin kG2 o2 ?_
      rw [hr, refL]
      simp
    · have e : (!(p.1.extract 0 1).toList == [(114 : UInt8)]) = false := e
      rw [isR_cut hp1] at e
      have e : isR p.1 = true := by simpa using e
      rw [hd, List.takeWhile_cons_of_pos (p := fun p : Str × Str => isR p.1) e] at hr
      refine ref_body (b := G.size) (fun s h => parse_spec s) (fun s h => good_spec s) bb hp1 o2 kG2.size ho (fun G3 k3 hn => ?_) fun i a' cc' G3 h32 hs u3 o3 => ?_
      · rw [hr, hn, Option.map_none]
        have k43 := kG2.trans (k3.mono kG2.size)
        exact ⟨u4.trans k43.m, c4.keep k43, rfl⟩
      · rw [wrap_i64 (by omega) (by omega)]
        have k43 := kG2.trans (u3.keep kG2.size fun q hq => (o2.block q hq).1)
        have hl1 : (o ++ [(tail1 p.1, i)]).length = o.length + 1 := by simp
        refine ⟨⟨j + 1, _, rfl, hlt, by rw [hl1, hoj], by rw [hl1]; omega, k43, o3, ?_⟩, by dsimp only; omega⟩
        rw [hr, hs, hl1, Option.map_map]
        congr 1
        funext l
        simp
  · have hge : j = S.length := by have := of_decide_eq_false hge; omega
    subst hge
    refine fin kG oG ?_
    rw [hr, List.drop_length, List.takeWhile_nil, refL]
    simp
theorem list18_spec {A : Option Addr} {n cc0 : Nat} (hs : Sl StrPairE h A n P) (hn : n ≤ 9223372036854775807) : HC Tryz.prog 24 #[.slice A n cc0] h fun v h' => Keep h.size h h' ∧ listV (refL 0 (P.filter fun p => isR p.1)) v h.size h' := by
  refine HC_of_vc (args := [.slice A n cc0]) (base := 54) (cuts := []) (bigs := []) kM Tryz.func24 ?_
  rw [vc18List]
  have hlen := hs.1
  refine ⟨fun _ _ _ _ a15 k16 k17 n18 G => ∃ (j : Nat) (o : List (Str × Id')), n18 = j ∧ j ≤ n ∧ o.length ≤ 32 ∧ Keep h.size h G ∧ Own RefE 47 h.size G a15 k16 k17 o ∧
      refL 0 (P.filter fun p => isR p.1) = (refL o.length ((P.drop j).filter fun p => isR p.1)).map (o ++ ·),
    fun _ _ _ _ _ _ _ n18 _ => n - n18.toNat, ⟨0, [], rfl, Nat.zero_le _, Nat.zero_le _, Keep.refl _ _, Own.nil _ _ _, by simp⟩, ?_⟩
  rintro a11 k12 k13 n14 a15 k16 k17 n18 G ⟨j, o, rfl, hj, ho, kG, oG, hr⟩
  refine br_intro (fun hlt => ?_) fun hge => ?_
  · have hlt : j < P.length := by rw [hlen]; simpa using hlt
    have hq : P[j]? = some (P[j]'hlt) := List.getElem?_eq_getElem hlt
    have hd : P.drop j = P[j]'hlt :: P.drop (j + 1) := List.drop_eq_getElem_cons hlt
    generalize P[j]'hlt = p at hq hd
    obtain ⟨p20, eA, rd⟩ := pr_at (hs.keep kG) hq
    refine ⟨p20, ⟨eA, by omega, by omega⟩, _, _, rd, svc_pr rfl ?_⟩
    have kb := keep_push G (prBox p)
    have bb := push_at G (prBox p)
    have o2 : Own RefE 47 h.size (G.push (prBox p)) a15 k16 k17 o := oG.upd (kb.upd fun _ => False) fun _ _ h => h
    generalize G.push (prBox p) = G2 at kb bb o2
    have kG2 := kG.trans (kb.mono kG.size)
    have hz : p.1.data.toList.length = p.1.size := Array.length_toList
    have key : ((p.1.toList == []) = true ∧ isR p.1 = false) ∨ ((p.1.toList == []) = false ∧ 1 ≤ p.1.size ∧ (byteAt p.1 0 != (114 : Int)) = !isR p.1) := by
      rw [ByteArray.toList_eq]
      unfold isR
      cases hl : p.1.data.toList with
      | nil => exact .inl ⟨rfl, rfl⟩
      | cons b r =>
        rw [hl, List.length_cons] at hz
        refine .inr ⟨rfl, by omega, ?_⟩
        rw [byte0 hl]
        by_cases hb : b = 114
        · subst hb; rfl
        · rw [decide_eq_false (by simpa using hb), Bool.not_false, bne_iff_ne]
          intro h
          exact hb (UInt8.toNat_inj.1 (by exact_mod_cast h))
    refine ⟨_, pr_k bb, p.1, fun _ => pr_k bb, fun e => ?_, br_intro (fun e => ?_) fun e => ?_⟩
    · rcases key with ⟨k0, _⟩ | ⟨k0, k1, _⟩
      · rw [k0] at e; cases e
      · exact ⟨by omega, by omega⟩
    · have e : isR p.1 = false := by
        rcases key with ⟨k0, k1⟩ | ⟨k0, k1, k2⟩
        · exact k1
        · rw [k0, Bool.false_or, k2] at e
          simpa using e
      rw [hd, List.filter_cons_of_neg (p := fun p : Str × Str => isR p.1) (by rw [e]; decide)] at hr
      rw [wrap_i64 (by omega) (by omega)]
      exact ⟨⟨j + 1, o, rfl, by omega, ho, kG2, o2, hr⟩, by dsimp only; omega⟩
    · obtain ⟨hp1, e⟩ : 1 ≤ p.1.size ∧ isR p.1 = true := by
        rcases key with ⟨k0, k1⟩ | ⟨k0, k1, k2⟩
        · rw [k0] at e; cases e
        · rw [k0, Bool.false_or, k2] at e
          exact ⟨k1, by simpa using e⟩
      rw [hd, List.filter_cons_of_pos (p := fun p : Str × Str => isR p.1) e] at hr
      refine ref_body (b := G.size) parse18_spec (fun s h => (good18_spec s).mono fun v h' ⟨e, r⟩ => ⟨by rw [e]; exact Keep.refl _ _, r⟩) bb hp1 o2 kG2.size ho (fun G3 k3 hn => ?_) fun i a' cc' G3 h32 hs u3 o3 => ?_
      · rw [hr, hn, Option.map_none]
        exact ⟨kG2.trans (k3.mono kG2.size), rfl⟩
      · rw [wrap_i64 (by omega) (by omega)]
        have k43 := kG2.trans (u3.keep kG2.size fun q hq => (o2.block q hq).1)
        have hl1 : (o ++ [(tail1 p.1, i)]).length = o.length + 1 := by simp
        refine ⟨⟨j + 1, _, rfl, by omega, by rw [hl1]; omega, k43, o3, ?_⟩, by dsimp only; omega⟩
        rw [hr, hs, hl1, Option.map_map]
        congr 1
        funext l
        simp
  · have hge : j = P.length := by have := of_decide_eq_false hge; omega
    subst hge
    rw [List.drop_length, List.filter_nil, refL] at hr
    have hr : refL 0 (P.filter fun p => isR p.1) = some o := by rw [hr]; simp
    rw [hr]
    have hk := oG.1
    subst hk
    exact ⟨kG, _, _, rfl, oG⟩
end
end Go.Proofs.YtmdcfmhkfomoaaaGreatDoor
end

section
set_option linter.unusedVariables false
set_option linter.unusedSimpArgs false
set_option maxRecDepth 100000
namespace Go.Proofs.YtmdcfmhkfomoaaaGreatDoor
open Go Go.Vc Go.Proofs Go.Dk Go.Kv

section
variable {h : Heap} {A : Option Addr} {n cc : Nat} {P : Ps Str}
theorem get08_spec (hs : Sl StrPairE h A n P) (hn : n ≤ 1000000) (k : Str) : HC Tryz.prog 28 #[.slice A n cc, .string k] h fun v h' => Keep h.size h h' ∧ ∃ i : Int, v = .int .i64 i ∧
    ((i = -1 ∧ mGet P k = none) ∨ ∃ (j : Nat) (x : Str), i = j ∧ P[j]? = some (k, x) ∧ mGet P k = some x) := by
  have hl := hs.1
  refine HC_of_vc (args := [.slice A n cc, .string k]) (base := 20) (cuts := []) (bigs := []) kM Tryz.func28 ?_
  rw [vc08Get]
  refine ⟨fun _ n3 G => ∃ j : Nat, n3 = j ∧ j ≤ n ∧ Keep h.size h G ∧ mGet P k = mGet (P.drop j) k, fun _ n3 _ => n - n3.toNat, ⟨0, rfl, Nat.zero_le _, Keep.refl _ _, rfl⟩, ?_⟩
  rintro n2 n3 G ⟨j, rfl, hj, kG, hg⟩
  refine br_intro (fun hlt => ?_) fun hge => ?_
  · have hlt : j < P.length := by rw [hl]; simpa using hlt
    have hq : P[j]? = some (P[j]'hlt) := List.getElem?_eq_getElem hlt
    have hd : P.drop j = P[j]'hlt :: P.drop (j + 1) := List.drop_eq_getElem_cons hlt
    generalize P[j]'hlt = p at hq hd
    obtain ⟨p5, eA, rd⟩ := pr_at (hs.keep kG) hq
    refine ⟨p5, ⟨eA, by omega, by omega⟩, _, _, rd, svc_pr rfl ?_⟩
    have kb := keep_push G (prBox p)
    have bb := push_at G (prBox p)
    generalize G.push (prBox p) = G2 at kb bb
    have kG2 := kG.trans (kb.mono kG.size)
    rw [hd, mGet] at hg
    refine ⟨_, pr_k bb, br_intro (fun e => ⟨kG2, _, rfl, .inr ⟨j, p.2, rfl, ?_, ?_⟩⟩) fun e => ?_⟩
    · rw [← eq_beq.1 e]; exact hq
    · rw [hg, if_pos (eq_beq.1 e)]
    · rw [beq_dec'] at e
      rw [if_neg (of_decide_eq_false e)] at hg
      rw [wrap_i64 (by omega) (by omega)]
      exact ⟨⟨j + 1, rfl, by omega, kG2, hg⟩, by dsimp only; omega⟩
  · have hge : j = P.length := by have := of_decide_eq_false hge; omega
    subst hge
    rw [List.drop_length] at hg
    exact ⟨kG, _, rfl, .inl ⟨rfl, hg⟩⟩
set_option maxHeartbeats 1000000 in
theorem done08_spec (hs : Sl StrPairE h A n P) (hP : SrtP P) (hn : n ≤ 1000000) (w : Wr) : HC Tryz.prog 30 #[.slice A n cc, .agg #[.string w.key, .string w.val, .bool w.gone]] h fun v h' => Keep h.size h h' ∧
    ∃ a k c, v = .slice a k c ∧ Own StrPairE 65 h.size h' a k c (done1 P w) := by
  have hl := hs.1
  refine HC_of_vc (args := [.slice A n cc, .agg #[.string w.key, .string w.val, .bool w.gone]]) (base := 55) (cuts := []) (bigs := []) kM Tryz.func30 ?_
  rw [vc08Done, ← rr_done hP w]
  have kw := keep_push h (wrBox w)
  have bw := push_at h (wrBox w)
  have zw : (h.push (wrBox w)).size = h.size + 1 := by simp
  refine ⟨_, wr_g bw, fun a3 k4 k5 b6 n7 G => ∃ (j : Nat) (o : Ps Str), n7 = j ∧ j ≤ n ∧ o.length ≤ 2 * j ∧ Keep h.size h G ∧ G[h.size]? = some (wrBox w) ∧ Own StrPairE 65 (h.size + 1) G a3 k4 k5 o ∧ rr w.key w.val w.gone P = o ++ rr w.key w.val b6 (P.drop j),
    fun _ _ _ _ n7 _ => n - n7.toNat, ⟨0, [], rfl, Nat.zero_le _, Nat.zero_le _, kw, bw, Own.nil _ _ _, rfl⟩, ?_⟩
  clear kw bw zw
  rintro a3 k4 k5 b6 n7 G ⟨j, o, rfl, hj, ho, kG, bG, oG, hr⟩
  have hk := oG.1
  have zG := at_lt bG
  refine br_intro (fun hlt => ?_) fun hge => ?_
  · have hlt : j < P.length := by rw [hl]; simpa using hlt
    have hq : P[j]? = some (P[j]'hlt) := List.getElem?_eq_getElem hlt
    have hd : P.drop j = P[j]'hlt :: P.drop (j + 1) := List.drop_eq_getElem_cons hlt
    generalize P[j]'hlt = p at hq hd
    obtain ⟨p5, eA, rd⟩ := pr_at (hs.keep kG) hq
    refine ⟨p5, ⟨eA, by omega, by omega⟩, _, _, rd, svc_pr rfl ?_⟩
    have kb := keep_push G (prBox p)
    have bb := push_at G (prBox p)
    have zb : (G.push (prBox p)).size = G.size + 1 := by simp
    have o2 : Own StrPairE 65 (h.size + 1) (G.push (prBox p)) a3 k4 k5 o := oG.upd (kb.upd fun _ => False) fun _ _ h => h
    have b2 := kb.at bG zG
    generalize G.push (prBox p) = G2 at kb bb zb o2 b2
    have kG2 := kG.trans (kb.mono kG.size)
    have hbk : ∀ q, blk a3 q → h.size + 1 ≤ q ∧ q < G.size := oG.block
    rw [hd, rr] at hr
    rw [wrap_i64 (by omega) (by omega)]
    -- what comes of a pair that is put behind
    have two : ∀ {b : Bool} {G3 : Heap} {a : Option Addr} {k c : Nat} {o' : Ps Str}, Upd (fun q => h.size + 1 ≤ q ∧ q ≠ G.size) G2 G3 → Own StrPairE 65 (h.size + 1) G3 a k c o' → o'.length ≤ 2 * (j + 1) → rr w.key w.val w.gone P = o' ++ rr w.key w.val b (P.drop (j + 1)) →
        (∃ (j' : Nat) (o : Ps Str), ((j : Int) + 1) = (j' : Int) ∧ j' ≤ n ∧ o.length ≤ 2 * j' ∧ Keep h.size h G3 ∧ G3[h.size]? = some (wrBox w) ∧ Own StrPairE 65 (h.size + 1) G3 a k c o ∧ rr w.key w.val w.gone P = o ++ rr w.key w.val b (P.drop j')) ∧ n - ((j : Int) + 1).toNat < n - (j : Int).toNat := by
      intro b G3 a k c o' u3 o3 hl3 hr3
      exact ⟨⟨j + 1, o', by omega, by omega, hl3, kG2.trans (u3.keep kG2.size fun q hq => by omega), u3.at b2 (by omega), o3, hr3⟩, by omega⟩
    refine ⟨p.1, fun _ => pr_k bb, w.key, fun _ => wr_k b2, br_intro (fun e => ?_) fun e => ?_⟩
    · rw [Bool.and_eq_true] at e
      have hb6 : b6 = false := by simpa using e.1
      have hlt6 : lt p.1 w.key = false := by simpa using e.2
      subst hb6
      rw [hlt6] at hr
      simp only [Bool.not_false, Bool.and_self, if_true, Bool.or_true] at hr
      refine ⟨_, wr_k b2, _, wr_v b2, svc_append1 (x := (w.key, w.val)) app_pr o2 (by omega) (bs_pr (w.key, w.val)) (by omega) fun a' c' h24 o24 u24 b24 => ?_⟩
      have bb24 : h24[G.size]? = some (prBox p) := u24.at bb fun hq => by have := hbk _ hq; omega
      have bw24 : h24[h.size]? = some (wrBox w) := u24.at b2 fun hq => by have := hbk _ hq; omega
      have hb' : ∀ q, blk a' q → h.size + 1 ≤ q ∧ q ≠ G.size := fun q hq => by
        rcases b24 q hq with h1 | h1
        · have := hbk _ h1; omega
        · have := (o24.block q hq).1; omega
      have U24 : Upd (fun q => h.size + 1 ≤ q ∧ q ≠ G.size) G2 h24 := u24.mono fun q hq => by have := hbk _ hq; omega
      refine ⟨_, pr_k bb24, _, wr_k bw24, br_intro (fun e2 => ?_) fun e2 => ?_⟩
      · rw [beq_dec'] at e2
        have hne : p.1 ≠ w.key := by simpa using e2
        rw [if_neg hne] at hr
        refine ⟨_, _, pr_all bb24, svc_append1 (x := p) app_pr o24 (by have := u24.size; omega) (bs_pr p) (by omega) fun a'' c'' h38 o38 u38 b38 => ?_⟩
        refine two (U24.trans (u38.mono hb')) o38 (by simp; omega) ?_
        rw [hr]; simp
      · rw [beq_dec'] at e2
        have heq : p.1 = w.key := by simpa using e2
        rw [if_pos heq] at hr
        refine two U24 o24 (by simp; omega) ?_
        rw [hr]; simp
    · have hb : (b6 || !lt p.1 w.key) = b6 := by
        cases b6 with
        | true => rfl
        | false => simpa using e
      have hnil : (if (!b6 && !lt p.1 w.key) = true then [(w.key, w.val)] else []) = ([] : Ps Str) := if_neg (by rw [e]; decide)
      rw [hb, hnil, List.nil_append] at hr
      refine ⟨_, pr_k bb, _, wr_k b2, br_intro (fun e2 => ?_) fun e2 => ?_⟩
      · rw [beq_dec'] at e2
        have hne : p.1 ≠ w.key := by simpa using e2
        rw [if_neg hne] at hr
        refine ⟨_, _, pr_all bb, svc_append1 (x := p) app_pr o2 (by omega) (bs_pr p) (by omega) fun a'' c'' h38 o38 u38 b38 => ?_⟩
        refine two (u38.mono fun q hq => by have := hbk _ hq; omega) o38 (by simp; omega) ?_
        rw [hr]; simp
      · rw [beq_dec'] at e2
        have heq : p.1 = w.key := by simpa using e2
        rw [if_pos heq, List.nil_append] at hr
        exact two (Upd.refl _ _) o2 (by omega) hr
  · have hge : j = P.length := by have := of_decide_eq_false hge; omega
    subst hge
    rw [List.drop_length] at hr
    have hbk : ∀ q, blk a3 q → h.size + 1 ≤ q ∧ q < G.size := oG.block
    refine br_intro (fun e => ?_) fun e => ?_
    · have hb6 : b6 = false := by simpa using e
      subst hb6
      refine ⟨_, wr_k bG, _, wr_v bG, svc_append1 (x := (w.key, w.val)) app_pr oG (by omega) (bs_pr (w.key, w.val)) (by omega) fun a' c' h64 o64 u64 b64 => ⟨kG.trans (u64.keep kG.size fun q hq => by have := hbk _ hq; omega), _, _, _, rfl, ?_⟩⟩
      rw [hr]
      exact o64.mono (by omega)
    · have hb6 : b6 = true := by simpa using e
      subst hb6
      refine ⟨kG, _, _, _, rfl, ?_⟩
      rw [hr, rr, if_pos rfl, List.append_nil]
      exact oG.mono (by omega)
theorem all08_spec {B : Option Addr} {m d : Nat} {l : List Wr} (hs : Sl StrPairE h A n P) (hP : SrtP P) (hl : Sl WrE h B m l) (hb : P.length + l.length ≤ 1000000) :
    HC Tryz.prog 21 #[.slice A n cc, .slice B m d] h fun v h' => Keep h.size h h' ∧ ∃ a k c, v = .slice a k c ∧ Sl StrPairE h' a k (doneAll P l) ∧ ∀ q, blk a q → blk A q ∨ (h.size ≤ q ∧ q < h'.size) := by
  have hn := hs.1
  have hm := hl.1
  refine HC_of_vc (args := [.slice A n cc, .slice B m d]) (base := 18) (cuts := []) (bigs := []) kM Tryz.func21 ?_
  rw [vc08All]
  refine ⟨fun a2 k3 k4 n5 G => ∃ j : Nat, n5 = j ∧ j ≤ m ∧ Keep h.size h G ∧ Sl StrPairE G a2 k3 (doneAll P (l.take j)) ∧ ∀ q, blk a2 q → blk A q ∨ (h.size ≤ q ∧ q < G.size), fun _ _ _ n5 _ => m - n5.toNat, ⟨0, rfl, Nat.zero_le _, Keep.refl _ _, hs, fun q hq => .inl hq⟩, ?_⟩
  rintro a2 k3 k4 n5 G ⟨j, rfl, hj, kG, sG, hbG⟩
  refine br_intro (fun hlt => ?_) fun hge => ?_
  · have hlt : j < l.length := by rw [hm]; simpa using hlt
    have hq : l[j]? = some (l[j]'hlt) := List.getElem?_eq_getElem hlt
    have htk : l.take (j + 1) = l.take j ++ [l[j]'hlt] := List.take_succ_eq_append_getElem hlt
    generalize l[j]'hlt = w at hq htk
    obtain ⟨p7, eA, rd⟩ := wr_at (hl.keep kG) hq
    refine ⟨p7, ⟨eA, by omega, by omega⟩, _, _, _, rd, svc_wr rfl ?_⟩
    have kb := keep_push G (wrBox w)
    have bb := push_at G (wrBox w)
    have s2 := sG.keep kb
    generalize G.push (wrBox w) = G2 at kb bb s2
    have kG2 := kG.trans (kb.mono kG.size)
    have hlen : (doneAll P (l.take j)).length ≤ 1000000 := by
      have := doneAll_len' (l.take j) P
      rw [List.length_take] at this
      omega
    refine ⟨_, _, _, reads_load_agg (cs := [.string w.key, .string w.val, .bool w.gone]) agWr rfl (cells_all bb), (done08_spec s2 (srt_doneAll _ hP) (by rw [← s2.1]; exact hlen) w).mono ?_⟩
    rintro v h17 ⟨k17, a, k, c, rfl, o17⟩
    rw [wrap_i64 (by omega) (by omega)]
    refine ⟨_, _, _, rfl, ⟨j + 1, rfl, by omega, kG2.trans (k17.mono kG2.size), ?_, fun q hq => .inr ?_⟩, by dsimp only; omega⟩
    · rw [htk, doneAll_snoc]
      exact o17.sl
    · have := o17.block q hq
      have := kG2.size
      omega
  · have hge : j = l.length := by have := of_decide_eq_false hge; omega
    subst hge
    rw [List.take_length] at sG
    exact ⟨kG, _, _, _, rfl, sG, hbG⟩
where
  sput_len' (n : Str) (l : Str) : ∀ F : Ps Str, (sput n l F).length ≤ F.length + 1
    | [] => Nat.le_refl _
    | p :: F => by
      unfold sput
      split
      · simp
      · split
        · simp
        · have := sput_len' n l F; simp; omega
  done1_len' (P : Ps Str) (w : Wr) : (done1 P w).length ≤ P.length + 1 := by
    unfold done1
    split
    · exact Nat.le_trans (List.length_filter_le _ _) (Nat.le_succ _)
    · exact sput_len' _ _ _
  doneAll_len' : ∀ (l : List Wr) (P : Ps Str), (doneAll P l).length ≤ P.length + l.length
    | [], P => Nat.le_refl _
    | w :: l, P => by
      have h1 := doneAll_len' l (done1 P w)
      have h2 := done1_len' P w
      show (doneAll (done1 P w) l).length ≤ _
      rw [List.length_cons]; omega
theorem long08_spec {l : List Wr} (hs : Sl WrE h A n l) (hn : n ≤ 9223372036854775807) : HC Tryz.prog 39 #[.slice A n cc] h fun v h' => Keep h.size h h' ∧ v = .bool (long l) := by
  have hl := hs.1
  refine HC_of_vc (args := [.slice A n cc]) (base := 25) (cuts := []) (bigs := []) kM Tryz.func39 ?_
  rw [vc08Long]
  refine ⟨fun _ n3 G => ∃ j : Nat, n3 = j ∧ j ≤ n ∧ Keep h.size h G ∧ (l.take j).any (fun w => decide (48 < w.key.size) || decide (160 < w.val.size)) = false, fun _ n3 _ => n - n3.toNat, ⟨0, rfl, Nat.zero_le _, Keep.refl _ _, by simp⟩, ?_⟩
  rintro b2 n3 G ⟨j, rfl, hj, kG, ha⟩
  refine br_intro (fun hlt => ?_) fun hge => ?_
  · have hlt : j < l.length := by rw [hl]; simpa using hlt
    have hq : l[j]? = some (l[j]'hlt) := List.getElem?_eq_getElem hlt
    have hm := List.getElem_mem hlt
    have htk : l.take (j + 1) = l.take j ++ [l[j]'hlt] := List.take_succ_eq_append_getElem hlt
    generalize l[j]'hlt = w at hq htk hm
    obtain ⟨p7, eA, rd⟩ := wr_at (hs.keep kG) hq
    refine ⟨p7, ⟨eA, by omega, by omega⟩, _, _, _, rd, svc_wr rfl ?_⟩
    have kb := keep_push G (wrBox w)
    have bb := push_at G (wrBox w)
    generalize G.push (wrBox w) = G2 at kb bb
    have kG2 := kG.trans (kb.mono kG.size)
    have e1 : decide ((w.key.size : Int) > 48) = decide (48 < w.key.size) := decide_eq_decide.2 (by omega)
    have e2 : decide ((w.val.size : Int) > 160) = decide (160 < w.val.size) := decide_eq_decide.2 (by omega)
    refine ⟨w.key, wr_k bb, w.val, fun _ => wr_v bb, ?_⟩
    rw [e1, e2]
    refine br_intro (fun e => ⟨kG2, ?_⟩) fun e => ?_
    · unfold long
      have : (l.any fun w => decide (48 < w.key.size) || decide (160 < w.val.size)) = true := List.any_eq_true.2 ⟨w, hm, e⟩
      rw [this]; rfl
    · rw [wrap_i64 (by omega) (by omega)]
      refine ⟨⟨j + 1, rfl, by omega, kG2, ?_⟩, by dsimp only; omega⟩
      rw [htk, List.any_append, ha, List.any_cons, e]; rfl
  · have hge : j = l.length := by have := of_decide_eq_false hge; omega
    subst hge
    rw [List.take_length] at ha
    refine ⟨kG, ?_⟩
    unfold long
    rw [ha, Bool.false_or]
    congr 1
    exact decide_eq_decide.2 (by omega)
end
end Go.Proofs.YtmdcfmhkfomoaaaGreatDoor
end

section
set_option linter.unusedVariables false
set_option linter.unusedSimpArgs false
set_option maxRecDepth 100000
namespace Go.Proofs.YtmdcfmhkfomoaaaGreatDoor
open Go Go.Vc Go.Proofs Go.Dk Go.Kv Go.Cd

theorem rKey_eq (s : Str) : rKey s = rkey s := rfl
theorem bsB2 (a b : UInt8) : bsCells Tryz.prog 42 2 [(0, .int .u8 (a.toNat : Int)), (1, .int .u8 (b.toNat : Int))] = some (5, [a, b].flatMap ByteE.enc) := by kernel_rfl
theorem bsWr2 (v w : Wr) : bsCells Tryz.prog 49 2 [(0, .agg (Array.mk [.string v.key, .string v.val, .bool v.gone])), (1, .agg (Array.mk [.string w.key, .string w.val, .bool w.gone]))] = some (31, [v, w].flatMap WrE.enc) := by kernel_rfl
theorem sl_box {α : Type} {E : Enc α} {h : Heap} {b : Nat} {xs : List α} {T : TypeId} {f : Nat × Nat} (hb : h[b]? = some (.cells (xs.flatMap E.enc).toArray T f)) : Sl E h (some ⟨b, 0, none⟩) xs.length xs :=
  ⟨rfl, .inr ⟨_, rfl, fun i x hx j v hv => by
    rw [Addr.add_row, Nat.zero_add, cell_at hb]
    simpa using flat_get (E := E) xs hx hv⟩⟩
theorem svc_b2 {a b : UInt8} {h : Heap} {K : Value → Heap → Prop} (kk : ∀ h', Keep h.size h h' → h'.size = h.size + 1 → Sl ByteE h' (some ⟨h.size, 0, none⟩) 2 [a, b] → K (.slice (some ⟨h.size, 0, none⟩) 2 2) h') :
    SVC Tryz.prog (Instr.buildSlice 42 2 (Array.mk [(0, .int .u8 (a.toNat : Int)), (1, .int .u8 (b.toNat : Int))])) h K :=
  svc_buildSlice (bsB2 a b) (kk _ (keep_push _ _) (by simp) (sl_box (E := ByteE) (xs := [a, b]) (push_at _ _)))
theorem svc_wr2 {v w : Wr} {h : Heap} {K : Value → Heap → Prop} (kk : ∀ h', Keep h.size h h' → h'.size = h.size + 1 → Sl WrE h' (some ⟨h.size, 0, none⟩) 2 [v, w] → K (.slice (some ⟨h.size, 0, none⟩) 2 2) h') :
    SVC Tryz.prog (Instr.buildSlice 49 2 (Array.mk [(0, .agg (Array.mk [.string v.key, .string v.val, .bool v.gone])), (1, .agg (Array.mk [.string w.key, .string w.val, .bool w.gone]))])) h K :=
  svc_buildSlice (bsWr2 v w) (kk _ (keep_push _ _) (by simp) (sl_box (E := WrE) (xs := [v, w]) (push_at _ _)))
theorem isz_ref : IsZ Tryz.prog 47 (RefE.enc (⟨#[]⟩, ⟨id0, id0_ok⟩)).toArray := ⟨by kernel_rfl⟩
theorem agRef : agT Tryz.prog 47 34 = true := by kernel_rfl
theorem szRef : szOf Tryz.prog 47 = some 34 := by kernel_rfl
abbrev refBox (r : Str × Id') : Obj := .cells (RefE.enc r).toArray 47 (0, 0)
theorem svc_ref {r : Str × Id'} {h : Heap} {K : Unit → Heap → Prop} (k : K () (h.push (refBox r))) :
    SVC Tryz.prog (Instr.storeAt 47 (.pointer (some ⟨h.size, 0, none⟩)) (.agg (RefE.enc r).toArray)) (h.push (.cells (RefE.enc (⟨#[]⟩, ⟨id0, id0_ok⟩)).toArray 47 (0, 0))) K := by
  have hl := RefE.len r
  refine svc_store_new (v := .agg (RefE.enc r).toArray) ?_ ?_ (fun v hv => RefE.one r v hv) k
  · show szOf _ _ = some (RefE.enc r).toArray.size; rw [List.size_toArray, hl]; exact szRef
  · show (RefE.enc _).toArray.size = (RefE.enc r).toArray.size; rw [List.size_toArray, List.size_toArray, hl, RefE.len]
section
variable {h : Heap} {b : Nat} {r : Str × Id'}
theorem ref_name (hb : h[b]? = some (refBox r)) : Reads Tryz.prog (Instr.loadAt 9 (.pointer (some ⟨b, 0, none⟩))) h (.string r.1) := reads_load kS (cell_cells0 hb (by simp [RefE]))
theorem ref_id (hb : h[b]? = some (refBox r)) : Reads Tryz.prog (Instr.loadAt 24 (.pointer (some ((⟨b, 0, none⟩ : Addr).add 1)))) h (.agg (idC r.2.1).toArray) :=
  reads_load_agg (cs := idC r.2.1) agId (idC_len r.2.2) fun j v hv => by
    rw [Addr.add_add]
    refine cells_all hb (1 + j) v ?_
    rw [Nat.add_comm]
    exact hv
theorem ref_at {A : Option Addr} {n k : Nat} {l : List (Str × Id')} (hs : Sl RefE h A n l) (hq : l[k]? = some r) :
    ∃ p, A = some p ∧ Reads Tryz.prog (Instr.loadAt 47 (.pointer (some (p.add (k * 34))))) h (.agg (RefE.enc r).toArray) ∧ Reads Tryz.prog (Instr.loadAt 9 (.pointer (some (p.add (k * 34))))) h (.string r.1) := by
  obtain ⟨p, e, hp⟩ := hs.get hq
  exact ⟨p, e, reads_load_agg (cs := RefE.enc r) agRef (RefE.len r) fun j v hv => by rw [Addr.add_add]; exact hp j v hv, reads_load kS (hp 0 _ rfl)⟩
end
/-- the law's branches. -/
def bName (i : Nat) : Str := ⟨#[98, UInt8.ofNat (48 + i / 10), UInt8.ofNat (48 + i % 10)]⟩
theorem bName_lt : ∀ i < 61, ∀ j < i, Op.bytesLess [(98 : UInt8), UInt8.ofNat (48 + j / 10), UInt8.ofNat (48 + j % 10)] [98, UInt8.ofNat (48 + i / 10), UInt8.ofNat (48 + i % 10)] = true := by decide +kernel
theorem bName_ok' : ∀ i < 61, ([(98 : UInt8), UInt8.ofNat (48 + i / 10), UInt8.ofNat (48 + i % 10)].all nameB) = true := by decide +kernel
theorem bname_lt {i j : Nat} (hi : i < 61) (hj : j < i) : lt (bName j) (bName i) = true := by
  show Op.bytesLess (bName j).toList (bName i).toList = true
  rw [ByteArray.toList_eq, ByteArray.toList_eq]
  exact bName_lt i hi j hj
theorem bname_ok {i : Nat} (hi : i < 61) : nameOk (bName i) = true := by
  have e : (bName i).size = 3 := rfl
  unfold nameOk
  rw [e]
  have : (bName i).data.toList.all nameB = true := bName_ok' i hi
  rw [this]; rfl
def bPairs (t : Str) (n : Nat) : Ps Str := (List.range n).map fun i => (bName i, t)
theorem bPairs_succ (t : Str) (n : Nat) : bPairs t (n + 1) = bPairs t n ++ [(bName n, t)] := by
  unfold bPairs
  rw [List.range_succ, List.map_append]; rfl
theorem bPairs_keys {t : Str} {n : Nat} {q : Str} (h : q ∈ mKeys (rpairs (bPairs t n))) : ∃ j, j < n ∧ q = rkey (bName j) := by
  obtain ⟨p, hp, rfl⟩ := List.mem_map.1 h
  obtain ⟨r, hr, rfl⟩ := List.mem_map.1 hp
  obtain ⟨j, hj, rfl⟩ := List.mem_map.1 hr
  exact ⟨j, List.mem_range.1 hj, rfl⟩
theorem bPairs_done {t : Str} {n : Nat} (hn : n < 61) : doneAll (rpairs (bPairs t n)) [⟨rkey (bName n), t, false⟩] = rpairs (bPairs t (n + 1)) := by
  show sput (rkey (bName n)) t (rpairs (bPairs t n)) = _
  rw [sput_last fun q hq => ?_, bPairs_succ]
  · unfold rpairs
    rw [List.map_append]; rfl
  · obtain ⟨j, hj, rfl⟩ := bPairs_keys hq
    rw [rkey_lt]
    exact bname_lt hn hj
theorem many_row {x : Id'} (gx : idGood x.1 = true) {n : Nat} (hn : n ≤ 60) {P : Ps Str} (hP : P.filter (fun p => isR p.1) = rpairs (bPairs (idText x.1) n)) :
    refL 0 (P.filter fun p => isR p.1) = if n ≤ 32 then some ((List.range n).map fun i => (bName i, x)) else none := by
  have hpx : parse' (idText x.1) = some x := by
    rw [parse'_some (idParse_text x.2 gx)]
  rw [hP, refL_rpairs _ 0 (by omega) fun p hp => ?_]
  · have hl : (bPairs (idText x.1) n).length = n := by unfold bPairs; simp
    rw [hl, Nat.zero_add]
    split
    · congr 1
      unfold bPairs
      rw [List.map_map]
      refine List.map_congr_left fun i _ => ?_
      show (bName i, (parse' (idText x.1)).getD _) = _
      rw [hpx]; rfl
    · rfl
  · obtain ⟨j, hj, rfl⟩ := List.mem_map.1 hp
    have := List.mem_range.1 hj
    exact ⟨bname_ok (by omega), x, hpx⟩
theorem many_sq {t : Str} {n : Nat} : (doneAll (rpairs (bPairs t n)) [⟨⟨#[115]⟩, ⟨#[]⟩, false⟩, ⟨⟨#[113]⟩, ⟨#[]⟩, false⟩]).filter (fun p => isR p.1) = rpairs (bPairs t n) := by
  show (sput ⟨#[113]⟩ ⟨#[]⟩ (sput ⟨#[115]⟩ ⟨#[]⟩ (rpairs (bPairs t n)))).filter (fun p => isR p.1) = _
  rw [filter_put_not (by decide), filter_put_not (by decide), filter_rpairs]
theorem sput_len {ν : Type} (n : Str) (l : ν) : ∀ F : Ps ν, (sput n l F).length ≤ F.length + 1
  | [] => Nat.le_refl _
  | p :: F => by
    unfold sput
    split
    · simp
    · split
      · simp
      · have := sput_len n l F; simp; omega
theorem done1_len (P : Ps Str) (w : Wr) : (done1 P w).length ≤ P.length + 1 := by
  unfold done1
  split
  · exact Nat.le_trans (List.length_filter_le _ _) (Nat.le_succ _)
  · exact sput_len _ _ _
theorem doneAll_len : ∀ (l : List Wr) (P : Ps Str), (doneAll P l).length ≤ P.length + l.length
  | [], P => Nat.le_refl _
  | w :: l, P => by
    have h1 := doneAll_len l (done1 P w)
    have h2 := done1_len P w
    show (doneAll (done1 P w) l).length ≤ _
    rw [List.length_cons]; omega
theorem long_two {v w : Wr} (h1 : v.key.size ≤ 48) (h2 : v.val.size ≤ 160) (h3 : w.key.size ≤ 48) (h4 : w.val.size ≤ 160) : long [v, w] = false := by
  unfold long
  rw [List.any_cons, List.any_cons, List.any_nil, decide_eq_false (by omega : ¬ 48 < v.key.size), decide_eq_false (by omega : ¬ 160 < v.val.size), decide_eq_false (by omega : ¬ 48 < w.key.size), decide_eq_false (by omega : ¬ 160 < w.val.size)]; rfl
theorem long_one {v : Wr} (h1 : v.key.size ≤ 48) (h2 : v.val.size ≤ 160) : long [v] = false := by
  unfold long
  rw [List.any_cons, List.any_nil, decide_eq_false (by omega : ¬ 48 < v.key.size), decide_eq_false (by omega : ¬ 160 < v.val.size)]; rfl
theorem rKey_size (s : Str) : (rKey s).size = s.size + 1 := by
  have h1 : (rKey s).data.toList.length = (rKey s).size := Array.length_toList
  have h2 : s.data.toList.length = s.size := Array.length_toList
  rw [rKey_eq, rkey_list, List.length_cons] at h1
  rw [rKey_eq]
  omega
set_option maxHeartbeats 2000000 in
theorem many_spec {h : Heap} {n : Int} {x : Id'} : HC Tryz.prog 5 #[.int .i64 n, .agg (idC x.1).toArray] h fun v h' => Keep h.size h h' ∧ v = .bool true := by
  refine hc_stay ?_
  refine HC_of_vc (args := [.int .i64 n, .agg (idC x.1).toArray]) (base := 101) (cuts := []) (bigs := []) kM Tryz.func5 ?_
  rw [vc18Many]
  have kb := keep_push h (idBox x.1)
  have bb := push_at h (idBox x.1)
  generalize h.push (Obj.cells (idC x.1).toArray 24 (0, 0)) = H at kb bb
  have tH : Turn h H := (kb.upd fun _ => False).m.turn fun _ _ h => h
  refine (alive18_spec H).mono ?_
  rintro v h1 ⟨t1, rfl⟩
  have bx := t1.stay _ _ bb rfl
  have t01 := tH.trans t1
  refine ⟨_, rfl, br_intro (fun e => by cases e) fun _ => ⟨_, fun _ => id_load x.2 bx, br_intro (fun e => ?_) fun _ => ⟨t01, rfl⟩⟩⟩
  have hn : 0 ≤ n ∧ n ≤ 60 := by
    cases hb : (decide (n < 0) || decide (n > 60)) with
    | true => rw [hb] at e; cases e
    | false =>
      simp only [Bool.or_eq_false_iff, decide_eq_false_iff_not] at hb
      omega
  obtain ⟨m, rfl⟩ : ∃ m : Nat, n = m := ⟨n.toNat, by omega⟩
  have hm : m ≤ 60 := by omega
  clear e
  refine (name14_spec x.2).mono ?_
  rintro v h5 ⟨k5, rfl⟩
  have t05 : Turn h h5 := t01.trans ((k5.upd fun _ => False).m.turn fun _ _ h => h)
  have b5 : h5[h.size]? = some (idBox x.1) := k5.at bx (at_lt bx)
  refine ⟨_, rfl, br_intro (fun _ => ⟨t05, rfl⟩) fun e => ?_⟩
  have gx : idGood x.1 = true := by
    cases hg : idGood x.1 with
    | true => rfl
    | false => rw [nil_eq, decide_eq_true (idText_nil.2 hg)] at e; cases e
  have htl := idText_len x.2
  refine (fresh18_spec h5).mono ?_
  rintro v h8 ⟨k8, c, rfl, c8⟩
  have t08 : Turn h h8 := t05.trans ((k8.upd fun _ => False).m.turn fun _ _ h => h)
  have z5 := at_lt b5
  have hN : ∀ q, q < h.size → q < h5.size := fun q hq => Nat.lt_of_lt_of_le hq t05.size
  have b8 : h8[h.size]? = some (idBox x.1) := k8.at b5 z5
  refine ⟨_, rfl, fun _ n13 G => ∃ i : Nat, n13 = i ∧ i ≤ m ∧ Turn h G ∧ G[h.size]? = some (idBox x.1) ∧ Ca c (fun q => q < h5.size) (rpairs (bPairs (idText x.1) i)) 0 G, fun _ n13 _ => m - n13.toNat, ⟨0, rfl, Nat.zero_le _, t08, b8, c8⟩, ?_⟩
  rintro b12 n13 G ⟨i, rfl, hi, tG, bG, cG⟩
  refine br_intro (fun hlt => ?_) fun hge => ?_
  · have hlt : i < m := by simpa using hlt
    have e1 : IntKind.u8.wrap (IntKind.i64.wrap (48 + IntKind.i64.wrap ((i : Int).tdiv 10))) = ((UInt8.ofNat (48 + i / 10)).toNat : Int) := by
      have : ((i : Int).tdiv 10) = ((i / 10 : Nat) : Int) := rfl
      rw [this, wrap_i64 (n := ((i / 10 : Nat) : Int)) (by omega) (by omega), wrap_i64 (by omega) (by omega), u8_b8]
      have : (48 : Int) + ((i / 10 : Nat) : Int) = ((48 + i / 10 : Nat) : Int) := by omega
      rw [this, b8_nat]
    have e2 : IntKind.u8.wrap (IntKind.i64.wrap (48 + (i : Int).tmod 10)) = ((UInt8.ofNat (48 + i % 10)).toNat : Int) := by
      have : ((i : Int).tmod 10) = ((i % 10 : Nat) : Int) := rfl
      rw [this, wrap_i64 (by omega) (by omega), u8_b8]
      have : (48 : Int) + ((i % 10 : Nat) : Int) = ((48 + i % 10 : Nat) : Int) := by omega
      rw [this, b8_nat]
    rw [e1, e2]
    refine ⟨by decide, by decide, svc_b2 fun h16 k16 z16 s16 => ⟨_, _, _, rfl, _, reads_string uBs uU8 uS s16, ?_⟩⟩
    have hz : (⟨[UInt8.ofNat (48 + i / 10), UInt8.ofNat (48 + i % 10)].toArray⟩ : Str).size = 2 := rfl
    have hbn : (⟨#[98]⟩ : Str) ++ ⟨[UInt8.ofNat (48 + i / 10), UInt8.ofNat (48 + i % 10)].toArray⟩ = bName i := by
      apply str_ext
      rw [ByteArray.toList_eq, ByteArray.toList_eq]
      simp [ByteArray.data_append, bName]
    have b16 : h16[h.size]? = some (idBox x.1) := k16.at bG (at_lt bG)
    refine ⟨by rw [hz, imax]; omega, _, id_load x.2 b16, ?_⟩
    have hbz : (bName i).size = 3 := rfl
    have ebn : (ByteArray.mk (Array.mk [(98 : UInt8)]) ++ ⟨[UInt8.ofNat (48 + i / 10), UInt8.ofNat (48 + i % 10)].toArray⟩) = bName i := hbn
    rw [ebn]
    refine (set_spec (s := bName i) (by omega) x.2).mono ?_
    rintro v h23 ⟨k23, rfl⟩
    refine ⟨_, _, _, rfl, svc_wr1 (w := ⟨rKey (bName i), idText x.1, false⟩) fun h28 k28 z28 s28 => ⟨_, _, _, rfl, ?_⟩⟩
    have kk : Keep G.size G h28 := (k16.trans (k23.mono k16.size)).trans (k28.mono (by have := k16.size; have := k23.size; omega))
    have c28 := cG.more kk
    have z23 : G.size ≤ h23.size := Nat.le_trans k16.size k23.size
    refine (c28.apply s28 (Nat.le_refl _) (by decide) (fun _ q hq => .inr ?_) (long_one (by show (rKey (bName i)).size ≤ 48; rw [rKey_size]; omega) (by show (idText x.1).size ≤ 160; omega))).mono ?_
    · obtain ⟨p, e, hp⟩ := hq
      cases e
      subst hp
      exact ⟨z23, by show h23.size < h28.size; omega⟩
    rintro v h33 ⟨u33, rfl, c33⟩
    refine ⟨_, rfl, br_intro (fun e => by simp at e) fun _ => ?_⟩
    rw [wrap_i64 (by omega) (by omega)]
    have t28 : Turn h h28 := tG.trans ((kk.upd fun _ => False).m.turn fun _ _ h => h)
    refine ⟨⟨i + 1, rfl, hlt, turn_of t28 u33 fun q hq => .inl (hN q hq), ?_, ?_⟩, by dsimp only; omega⟩
    · exact u33.cells (kk.at bG (at_lt bG)) fun hn => hn (.inl (Nat.lt_of_lt_of_le z5 (Nat.le_refl _)))
    · have := c33.less (N' := fun q => q < h5.size) fun q hq => .inl hq
      rw [rKey_eq, bPairs_done (by omega)] at this
      exact this
  · have hge : i = m := by have := of_decide_eq_false hge; omega
    subst hge
    refine svc_wr2 (v := ⟨⟨#[115]⟩, ⟨#[]⟩, false⟩) (w := ⟨⟨#[113]⟩, ⟨#[]⟩, false⟩) fun h36 k36 z36 s36 => ⟨_, _, _, rfl, ?_⟩
    have c36 := cG.more k36
    refine (c36.apply s36 (Nat.le_refl _) (by decide) (fun _ q hq => .inr ?_) (by decide)).mono ?_
    · obtain ⟨p, e, hp⟩ := hq
      cases e
      subst hp
      exact ⟨Nat.le_refl _, by show G.size < h36.size; omega⟩
    rintro v h41 ⟨u41, rfl, c41⟩
    have t36 : Turn h h36 := tG.trans ((k36.upd fun _ => False).m.turn fun _ _ h => h)
    have t41 := turn_of t36 u41 fun q hq => .inl (hN q hq)
    have b41 : h41[h.size]? = some (idBox x.1) := u41.cells (k36.at bG (at_lt bG)) fun hn => hn (.inl (Nat.lt_of_lt_of_le z5 (Nat.le_refl _)))
    have hPl : (doneAll (rpairs (bPairs (idText x.1) i)) [⟨⟨#[115]⟩, ⟨#[]⟩, false⟩, ⟨⟨#[113]⟩, ⟨#[]⟩, false⟩]).length ≤ 1000000 := by
      refine Nat.le_trans (doneAll_len _ _) ?_
      unfold rpairs bPairs
      simp
      omega
    refine ⟨_, rfl, (list_spec c41 hPl).mono ?_⟩
    rintro v h44 ⟨u44, c44, hv⟩
    rw [many_row gx hm many_sq] at hv
    have t44 := turn_of t41 u44 fun q hq => .inl (hN q hq)
    have b44 : h44[h.size]? = some (idBox x.1) := u44.cells b41 fun hn => hn (.inl (Nat.lt_of_lt_of_le z5 (Nat.le_refl _)))
    by_cases h32 : i ≤ 32
    · rw [if_pos h32] at hv
      obtain ⟨a, cc, rfl, oa⟩ := hv
      have hl : ((List.range i).map fun i => (bName i, x)).length = i := by simp
      have sl := oa.sl
      rw [hl] at sl ⊢
      refine ⟨_, _, _, _, rfl, br_intro (fun e => by have := of_decide_eq_true e; omega) fun _ => ?_⟩
      refine ⟨fun _ n52 Q => ∃ j : Nat, n52 = j ∧ j ≤ i ∧ Keep h44.size h44 Q, fun _ n52 _ => i - n52.toNat, ⟨0, rfl, Nat.zero_le _, Keep.refl _ _⟩, ?_⟩
      rintro b51 n52 Q ⟨j, rfl, hj, kQ⟩
      refine br_intro (fun hjl => ?_) fun hjg => ?_
      · have hjl : j < i := by simpa using hjl
        have hq : ((List.range i).map fun i => (bName i, x))[j]? = some (bName j, x) := by simp [hjl]
        obtain ⟨p, eA, rd, _⟩ := ref_at (sl.keep kQ) hq
        refine ⟨p, ⟨eA, by omega, by omega⟩, _, rd, _, isz_ref, svc_ref ?_⟩
        have kp := keep_push Q (refBox (bName j, x))
        have bp := push_at Q (refBox (bName j, x))
        generalize Q.push (refBox (bName j, x)) = Q2 at kp bp
        have kQ2 := kQ.trans (kp.mono kQ.size)
        refine ⟨_, ref_id bp, _, id_load x.2 (kQ2.at b44 (at_lt b44)), _, reads_id.2, ?_⟩
        have e3 : (!decide (x.1 = x.1)) = false := by simp
        rw [e3]
        have next : (∃ j' : Nat, IntKind.i64.wrap ((j : Int) + 1) = j' ∧ j' ≤ i ∧ Keep h44.size h44 Q2) ∧ i - (IntKind.i64.wrap ((j : Int) + 1)).toNat < i - (j : Int).toNat := by
          rw [wrap_i64 (by omega) (by omega)]
          exact ⟨⟨j + 1, rfl, hjl, kQ2⟩, by omega⟩
        by_cases hj0 : 0 < j
        · have hq' : ((List.range i).map fun i => (bName i, x))[j - 1]? = some (bName (j - 1), x) := by
            have : j - 1 < i := by omega
            simp [this]
          obtain ⟨p', eA', _, rs⟩ := ref_at (sl.keep kQ2) hq'
          have ew : IntKind.i64.wrap ((j : Int) - 1) = ((j - 1 : Nat) : Int) := by rw [wrap_i64 (by omega) (by omega)]; omega
          refine ⟨p', fun _ => ?_, bName (j - 1), fun _ => ?_, bName j, fun _ => ref_name (r := (bName j, x)) bp, br_intro (fun e => ?_) fun _ => next⟩
          · rw [ew]; exact ⟨eA', by omega, by omega⟩
          · rw [ew, Int.toNat_natCast]; exact rs
          · have hlt2 : Op.bytesLess (bName (j - 1)).toList (bName j).toList = true := bname_lt (by omega) (by omega)
            rw [hlt2] at e
            simp at e
        · have hd : decide ((j : Int) > 0) = false := decide_eq_false (by omega)
          rw [hd]
          exact ⟨p, fun e => (by cases e), ⟨#[]⟩, fun e => (by cases e), ⟨#[]⟩, fun e => (by cases e), br_intro (fun e => by cases e) fun _ => next⟩
      · have hjg : j = i := by have := of_decide_eq_false hjg; omega
        subst hjg
        refine ⟨t44.trans ((kQ.upd fun _ => False).m.turn fun _ _ h => h), ?_⟩
        simp
    · rw [if_neg h32] at hv
      have hv : v = .tuple #[.slice none 0 0, .int .i64 4] := hv
      subst hv
      exact ⟨_, _, _, _, rfl, br_intro (fun _ => ⟨t44, rfl⟩) fun e => by have := of_decide_eq_false e; omega⟩
end Go.Proofs.YtmdcfmhkfomoaaaGreatDoor
end

section
set_option linter.unusedVariables false
set_option linter.unusedSimpArgs false
set_option maxRecDepth 100000
namespace Go.Proofs.YtmdcfmhkfomoaaaGreatDoor
open Go Go.Vc Go.Proofs Go.Dk Go.Kv

theorem kCp : scT Tryz.prog 38 = true := by kernel_rfl
theorem szOb : szOf Tryz.prog 60 = some 1 := by kernel_rfl
theorem agOb : agT Tryz.prog 60 1 = true := by kernel_rfl
def oGet (P : Ps Str) (i : Idn) : Str × Int := if idGood i then match mGet P (oKey i) with
    | none => (⟨#[]⟩, 5)
    | some v => (v, 0)
  else (⟨#[]⟩, 5)
section
variable {c t : Nat} {N : Nat → Prop} {P : Ps Str} {h : Heap}
theorem of_refs (a : Option Addr) (ha : a = none ∨ ∃ c, a = some ⟨c, 0, none⟩) : HC Tryz.prog 26 #[.pointer a] h fun v h' => Keep h.size h h' ∧ v = .agg #[.pointer a] := by
  have fin : SVC Tryz.prog (Instr.storeAt 60 (.pointer (some ⟨h.size, 0, none⟩)) (.agg (Array.mk [.pointer a]))) (h.push (.cells (Array.mk [.pointer none]) 60 (0, 0))) fun (x0 : Unit) (h1 : Heap) =>
      ∃ (a2 : Option Addr), Reads Tryz.prog (loadVar 60 (Addr.mk (Array.size h) (0 : Nat) none)) h1 (Value.agg (Array.mk [Value.pointer a2])) ∧ (Keep h.size h h1 ∧ Value.agg (Array.mk [Value.pointer a2]) = .agg #[.pointer a]) := by
    refine svc_store_new (v := .agg #[.pointer a]) szOb rfl (fun v hv => ?_) ⟨a, reads_vag agOb rfl (cells_all (cs := [.pointer a]) (push_at h _)), keep_push _ _, rfl⟩
    have hv : v ∈ [Value.pointer a] := hv
    rw [List.mem_singleton] at hv
    subst hv
    exact one_pointer a
  rcases ha with rfl | ⟨c, rfl⟩
  · refine HC_of_vc (args := [.pointer none]) (base := 5) (cuts := []) (bigs := []) kM Tryz.func26 ?_
    rw [vcRfOf0]
    exact fin
  · refine HC_of_vc (args := [.pointer (some ⟨c, 0, none⟩)]) (base := 5) (cuts := []) (bigs := []) kM Tryz.func26 ?_
    rw [vcRfOf]
    exact fin
theorem obj_spec (hc : Ca c N P t h) (ht : t < 900000000) (i : Id') : HC Tryz.prog 27 #[.agg #[.pointer (some ⟨c, 0, none⟩)], .agg (idC i.1).toArray] h fun v h' => UpdM (fun q => ¬ N q) h h' ∧ Ca c N P (t + 1) h' ∧
    v = .tuple #[.string (oGet P i.1).1, .int .i64 (oGet P i.1).2] := by
  refine HC_of_vc (args := [.agg #[.pointer (some ⟨c, 0, none⟩)], .agg (idC i.1).toArray]) (base := 29) (cuts := []) (bigs := []) kM Tryz.func27 ?_
  rw [vcRfObj]
  have kb := keep_push h (.cells #[.pointer (some ⟨c, 0, none⟩)] 60 (0, 0))
  have bb := push_at h (.cells #[.pointer (some ⟨c, 0, none⟩)] 60 (0, 0))
  have zb : (h.push (.cells #[.pointer (some ⟨c, 0, none⟩)] 60 (0, 0))).size = h.size + 1 := by simp
  have kc := keep_push (h.push (.cells #[.pointer (some ⟨c, 0, none⟩)] 60 (0, 0))) (idBox i.1)
  have bc := push_at (h.push (.cells #[.pointer (some ⟨c, 0, none⟩)] 60 (0, 0))) (idBox i.1)
  have bb2 := kc.at bb (at_lt bb)
  have kbc := kb.trans (kc.mono kb.size)
  rw [zb] at bc ⊢
  generalize ((h.push (Obj.cells #[.pointer (some ⟨c, 0, none⟩)] 60 (0, 0))).push (Obj.cells (idC i.1).toArray 24 (0, 0))) = H at kbc bc bb2
  have up : Ca c N P (t + 1) h := by
    obtain ⟨s, most, u, E, hits, hc, h0, h1⟩ := hc
    exact ⟨s, most, u, E, hits, hc, h0, by omega⟩
  refine ⟨_, id_load i.2 bc, (idGood_spec i.2).mono ?_⟩
  rintro v h2 ⟨k2, rfl⟩
  have k02 := kbc.trans (k2.mono kbc.size)
  refine ⟨_, rfl, br_intro (fun e => ?_) fun e => ?_⟩
  · have hr : oGet P i.1 = (⟨#[]⟩, 5) := by unfold oGet; rw [if_neg (by simpa using e)]
    rw [hr]
    exact ⟨k02.m, up.keep k02, rfl⟩
  · have hg : idGood i.1 = true := by simpa using e
    have b2 := k2.at bb2 (at_lt bb2)
    have c2 := k2.at bc (at_lt bc)
    refine ⟨fun G => Keep h2.size h2 G, Keep.refl _ _, _, fun G kG => reads_load kCp (cell_cells0 (kG.at b2 (at_lt b2)) rfl), _, id_load i.2 c2, (okey_spec i.2).mono ?_⟩
    rintro v h9 ⟨k9, rfl⟩
    have k09 := k02.trans (k9.mono k02.size)
    refine ⟨_, rfl, k9, ((hc.keep k09).get ht (oKey i.1)).mono ?_⟩
    rintro v h12 ⟨u12, rfl, c12⟩
    have u012 : UpdM (fun q => ¬ N q) h h12 := k09.m.trans u12
    refine ⟨_, _, _, rfl, br_intro (fun e => ?_) fun e => ?_⟩
    · have hn : mGet P (oKey i.1) = none := by simpa using e
      have hr : oGet P i.1 = (⟨#[]⟩, 5) := by unfold oGet; rw [if_pos hg, hn]
      rw [hr]
      exact ⟨u012, c12, rfl⟩
    · obtain ⟨v, hv⟩ : ∃ v, mGet P (oKey i.1) = some v := Option.isSome_iff_exists.1 (by simpa using e)
      have hr : oGet P i.1 = (v, 0) := by unfold oGet; rw [if_pos hg, hv]
      rw [hr]
      refine ⟨u012, c12, ?_⟩
      rw [hv]; rfl
theorem cget0_spec (k : Str) : HC Tryz.prog 40 #[.pointer none, .string k] h fun v h' => h' = h ∧ v = .tuple #[.string ⟨#[]⟩, .bool false, .int .i64 2] := by
  refine HC_of_vc (args := [.pointer none, .string k]) (base := 61) (cuts := []) (bigs := []) kM Tryz.func40 ?_
  rw [vcCGet0]
  exact ⟨_, reads_eql_nil uCp, br_intro (fun _ => ⟨rfl, rfl⟩) fun e => by cases e⟩
theorem cscan0_spec (k : Str) (n : Int) : HC Tryz.prog 37 #[.pointer none, .string k, .int .i64 n] h fun v h' => h' = h ∧ v = .tuple #[.slice none 0 0, .int .i64 2] := by
  refine HC_of_vc (args := [.pointer none, .string k, .int .i64 n]) (base := 19) (cuts := []) (bigs := []) kM Tryz.func37 ?_
  rw [vcCScan0]
  exact ⟨_, reads_eql_nil uCp, br_intro (fun _ => ⟨rfl, rfl⟩) fun e => by cases e⟩
theorem rget0_spec : HC Tryz.prog 22 #[.pointer none, .string ⟨#[109, 97, 105, 110]⟩] h fun v h' => Keep h.size h h' ∧ v = .tuple #[.agg (idC id0).toArray, .int .i64 2] := by
  refine HC_of_vc (args := [.pointer none, .string ⟨#[109, 97, 105, 110]⟩]) (base := 39) (cuts := []) (bigs := []) kM Tryz.func22 ?_
  rw [vcRfGet0]
  have kb := keep_push h (idBox id0)
  have bb := push_at h (idBox id0)
  refine ⟨_, isz_id, (good_spec ⟨#[109, 97, 105, 110]⟩).mono ?_⟩
  rintro v h2 ⟨k2, rfl⟩
  have e1 : nameOk ⟨#[109, 97, 105, 110]⟩ = true := by decide
  rw [e1]
  refine ⟨_, rfl, br_intro (fun e => by cases e) fun _ => (key_spec (by decide)).mono ?_⟩
  rintro v h9 ⟨rfl, rfl⟩
  refine ⟨_, rfl, (cget0_spec _).mono ?_⟩
  rintro v h12 ⟨rfl, rfl⟩
  have b12 := k2.at bb (at_lt bb)
  have z12 := at_lt b12
  refine ⟨_, _, _, rfl, br_intro (fun _ => ?_) fun e => by simp at e⟩
  exact ⟨_, blt_id0, svc_idbox id0_ok b12 (sz_id id0_ok) fun h6 z6 b6 u6 => ⟨_, id_var id0_ok b6, (kb.trans (k2.mono kb.size)).trans (u6.keep (by omega) fun q hq => by omega), rfl⟩⟩
theorem list0_spec : HC Tryz.prog 19 #[.pointer none] h fun v h' => Keep h.size h h' ∧ v = .tuple #[.slice none 0 0, .int .i64 2] := by
  refine HC_of_vc (args := [.pointer none]) (base := 60) (cuts := []) (bigs := []) kM Tryz.func19 ?_
  rw [vcRfList0]
  refine (key_spec (by decide)).mono ?_
  rintro v h1 ⟨rfl, rfl⟩
  refine ⟨_, rfl, (cscan0_spec _ _).mono ?_⟩
  rintro v h4 ⟨rfl, rfl⟩
  exact ⟨_, _, _, _, rfl, br_intro (fun _ => ⟨Keep.refl _ _, rfl⟩) fun e => by simp at e⟩
theorem obj0_spec {i : Id'} (hg : idGood i.1 = true) : HC Tryz.prog 27 #[.agg #[.pointer none], .agg (idC i.1).toArray] h fun v h' => Keep h.size h h' ∧ v = .tuple #[.string ⟨#[]⟩, .int .i64 2] := by
  refine HC_of_vc (args := [.agg #[.pointer none], .agg (idC i.1).toArray]) (base := 29) (cuts := []) (bigs := []) kM Tryz.func27 ?_
  rw [vcRfObj0]
  have kb := keep_push h (.cells #[.pointer none] 60 (0, 0))
  have bb := push_at h (.cells #[.pointer none] 60 (0, 0))
  have zb : (h.push (.cells #[.pointer none] 60 (0, 0))).size = h.size + 1 := by simp
  have kc := keep_push (h.push (.cells #[.pointer none] 60 (0, 0))) (idBox i.1)
  have bc := push_at (h.push (.cells #[.pointer none] 60 (0, 0))) (idBox i.1)
  have bb2 := kc.at bb (at_lt bb)
  have kbc := kb.trans (kc.mono kb.size)
  rw [zb] at bc ⊢
  generalize ((h.push (Obj.cells #[.pointer none] 60 (0, 0))).push (Obj.cells (idC i.1).toArray 24 (0, 0))) = H at kbc bc bb2
  refine ⟨_, id_load i.2 bc, (idGood_spec i.2).mono ?_⟩
  rintro v h2 ⟨k2, rfl⟩
  have k02 := kbc.trans (k2.mono kbc.size)
  rw [hg]
  have b2 := k2.at bb2 (at_lt bb2)
  have c2 := k2.at bc (at_lt bc)
  refine ⟨_, rfl, br_intro (fun e => by cases e) fun _ => ⟨fun G => Keep h2.size h2 G, Keep.refl _ _, none, fun G kG => reads_load kCp (cell_cells0 (kG.at b2 (at_lt b2)) rfl), _, id_load i.2 c2, (okey_spec i.2).mono ?_⟩⟩
  rintro v h9 ⟨k9, rfl⟩
  refine ⟨_, rfl, k9, (cget0_spec _).mono ?_⟩
  rintro v h12 ⟨rfl, rfl⟩
  exact ⟨_, _, _, rfl, br_intro (fun e => by simp at e) fun _ => ⟨k02.trans (k9.mono k02.size), rfl⟩⟩
/-- a nil cache, asked. -/
theorem nil_part {R : Value → Heap → Prop} (hR : ∀ G, Keep h.size h G → R (.bool true) G) :
    HC Tryz.prog 22 (Array.mk [Value.pointer none, Value.string (ByteArray.mk (Array.mk [(109 : UInt8), (97 : UInt8), (105 : UInt8), (110 : UInt8)]))]) h fun (v70 : Value) (h71 : Heap) =>
    ∃ (h72 : Array Value), ∃ (n73 : Int), v70 = Value.tuple (Array.mk [Value.agg h72, Value.int IntKind.i64 n73]) ∧
    ∃ (h74 : Array Value), IsZ Tryz.prog 24 h74 ∧
    SVC Tryz.prog (Instr.storeAt 24 (Value.pointer (some (Addr.mk (Array.size h71) (0 : Nat) none))) (Value.agg h72)) (Array.push h71 (Obj.cells h74 24)) fun (x75 : Unit) (h76 : Heap) =>
    HC Tryz.prog 19 (Array.mk [Value.pointer none]) h76 fun (v77 : Value) (h78 : Heap) =>
    ∃ (a79 : Option Addr), ∃ (k80 : Nat), ∃ (k81 : Nat), ∃ (n82 : Int), v77 = Value.tuple (Array.mk [Value.slice a79 k80 k81, Value.int IntKind.i64 n82]) ∧
    HC Tryz.prog 26 (Array.mk [Value.pointer none]) h78 fun (v83 : Value) (h84 : Heap) =>
    ∃ (a85 : Option Addr), v83 = Value.agg (Array.mk [Value.pointer a85]) ∧
    HC Tryz.prog 29 (Array.mk [Value.int IntKind.u8 (1 : Int), Value.string (ByteArray.mk (Array.mk []))]) h84 fun (v86 : Value) (h87 : Heap) =>
    ∃ (h88 : Array Value), v86 = Value.agg h88 ∧
    HC Tryz.prog 27 (Array.mk [Value.agg (Array.mk [Value.pointer a85]), Value.agg h88]) h87 fun (v89 : Value) (h90 : Heap) =>
    ∃ (s91 : ByteArray), ∃ (n92 : Int), v89 = Value.tuple (Array.mk [Value.string s91, Value.int IntKind.i64 n92]) ∧
    R (Value.bool (n73 == (2 : Int) && n82 == (2 : Int) && n92 == (2 : Int))) h90 := by
  refine rget0_spec.mono ?_
  rintro v h71 ⟨k71, rfl⟩
  have kp := keep_push h71 (idBox id0)
  have bp := push_at h71 (idBox id0)
  refine ⟨_, _, rfl, _, isz_id, svc_idbox id0_ok bp (sz_id id0_ok) fun h76 z76 b76 u76 => ?_⟩
  have k76 : Keep h.size h h76 := (k71.trans (kp.mono k71.size)).trans (u76.keep (by have := k71.size; simp; omega) fun q hq => by have := k71.size; omega)
  refine list0_spec.mono ?_
  rintro v h78 ⟨k78, rfl⟩
  have k78' := k76.trans (k78.mono k76.size)
  refine ⟨_, _, _, _, rfl, (of_refs none (.inl rfl)).mono ?_⟩
  rintro v h84 ⟨k84, rfl⟩
  have k84' := k78'.trans (k84.mono k78'.size)
  refine ⟨_, rfl, (of_spec (s := ⟨#[]⟩) (by decide)).mono ?_⟩
  rintro v h87 ⟨k87, i, rfl, gi⟩
  have k87' := k84'.trans (k87.mono k84'.size)
  refine ⟨_, rfl, (obj0_spec gi).mono ?_⟩
  rintro v h90 ⟨k90, rfl⟩
  exact ⟨_, _, rfl, hR _ (k87'.trans (k90.mono k87'.size))⟩
theorem great18_spec {A : Option Addr} {n cc : Nat} {l : List Wr} (hs : Sl WrE h A n l) (hn : n ≤ 9223372036854775807) : HC Tryz.prog 20 #[.slice A n cc] h fun v h' => Keep h.size h h' ∧ ∃ b, v = .bool b ∧ (b = false → long l = false) := by
  have hl := hs.1
  refine HC_of_vc (args := [.slice A n cc]) (base := 27) (cuts := []) (bigs := []) kM Tryz.func20 ?_
  rw [vc18Great]
  refine ⟨fun _ _ n4 G => ∃ j : Nat, n4 = j ∧ j ≤ n ∧ Keep h.size h G, fun _ _ n4 _ => n - n4.toNat, ⟨0, rfl, Nat.zero_le _, Keep.refl _ _⟩, ?_⟩
  rintro b2 n3 n4 G ⟨j, rfl, hj, kG⟩
  refine br_intro (fun hlt => ?_) fun hge => ?_
  · have hlt : j < l.length := by rw [hl]; simpa using hlt
    have hq : l[j]? = some (l[j]'hlt) := List.getElem?_eq_getElem hlt
    generalize l[j]'hlt = w at hq
    obtain ⟨p7, eA, rd⟩ := wr_at (hs.keep kG) hq
    refine ⟨p7, ⟨eA, by omega, by omega⟩, _, _, _, rd, svc_wr rfl ?_⟩
    have kb := keep_push G (wrBox w)
    have bb := push_at G (wrBox w)
    generalize G.push (wrBox w) = G2 at kb bb
    have kG2 := kG.trans (kb.mono kG.size)
    refine ⟨_, wr_k bb, _, wr_v bb, br_intro (fun _ => ⟨kG2, true, rfl, fun e => by cases e⟩) fun _ => ?_⟩
    rw [show IntKind.i64.wrap ((j : Int) + 1) = ((j + 1 : Nat) : Int) from wrap_i64 (by omega) (by omega)]
    exact ⟨⟨j + 1, rfl, by omega, kG2⟩, by dsimp only; omega⟩
  · refine (long08_spec (hs.keep kG) hn).mono ?_
    rintro v h15 ⟨k15, rfl⟩
    exact ⟨_, rfl, kG.trans (k15.mono kG.size), _, rfl, fun e => e⟩
set_option maxHeartbeats 1000000 in
theorem get18_spec {A : Option Addr} {n cc : Nat} (hs : Sl StrPairE h A n P) (hn : n ≤ 1000000) (s : Str) : HC Tryz.prog 23 #[.slice A n cc, .string s] h fun v h' => Keep h.size h h' ∧
    v = .tuple #[.agg (idC (rGet P s).1).toArray, .int .i64 (rGet P s).2] := by
  have hl := hs.1
  refine HC_of_vc (args := [.slice A n cc, .string s]) (base := 37) (cuts := []) (bigs := []) kM Tryz.func23 ?_
  rw [vc18Get]
  have kb := keep_push h (idBox id0)
  have bb := push_at h (idBox id0)
  refine ⟨_, isz_id, (good18_spec s).mono ?_⟩
  rintro v h2 ⟨rfl, rfl⟩
  -- an error's number, the box as it was
  have bad : ∀ {G : Heap} {e : Int}, Keep h.size h G → G[h.size]? = some (idBox id0) → rGet P s = (id0, e) → ∃ (h4 : Array Value), Blt Tryz.prog 24 [] h4 ∧ SVC Tryz.prog (Instr.storeAt 24 (Value.pointer (some (Addr.mk (Array.size h) (0 : Nat) none))) (Value.agg h4)) G fun (x5 : Unit) (h6 : Heap) =>
      ∃ (h7 : Array Value), Reads Tryz.prog (loadVar 24 (Addr.mk (Array.size h) (0 : Nat) none)) h6 (Value.agg h7) ∧ (Keep h.size h h6 ∧ Value.tuple (Array.mk [Value.agg h7, Value.int IntKind.i64 e]) = .tuple #[.agg (idC (rGet P s).1).toArray, .int .i64 (rGet P s).2]) := by
    intro G e kG bG hr
    exact ⟨_, blt_id0, svc_idbox id0_ok bG (sz_id id0_ok) fun h6 z6 b6 u6 => ⟨_, id_var id0_ok b6, kG.trans (u6.keep kG.size fun q hq => by omega), by rw [hr]⟩⟩
  refine ⟨_, rfl, br_intro (fun e => ?_) fun e => ?_⟩
  · refine bad kb bb ?_
    unfold rGet
    rw [if_neg (by simpa using e)]
  · have hg : nameOk s = true := by simpa using e
    have hsl := nameOk_len hg
    refine ⟨fun _ n3 G => ∃ j : Nat, n3 = j ∧ j ≤ n ∧ Keep h.size h G ∧ G[h.size]? = some (idBox id0) ∧ mGet P (rKey s) = mGet (P.drop j) (rKey s), fun _ n3 _ => n - n3.toNat, ⟨0, rfl, Nat.zero_le _, kb, bb, rfl⟩, ?_⟩
    rintro n2 n3 G ⟨j, rfl, hj, kG, bG, hm⟩
    have zG := at_lt bG
    refine br_intro (fun hlt => ?_) fun hge => ?_
    · have hlt : j < P.length := by rw [hl]; simpa using hlt
      have hq : P[j]? = some (P[j]'hlt) := List.getElem?_eq_getElem hlt
      have hd : P.drop j = P[j]'hlt :: P.drop (j + 1) := List.drop_eq_getElem_cons hlt
      generalize P[j]'hlt = p at hq hd
      obtain ⟨p5, eA, rd⟩ := pr_at (hs.keep kG) hq
      refine ⟨p5, ⟨eA, by omega, by omega⟩, _, _, rd, svc_pr rfl ?_⟩
      have kp := keep_push G (prBox p)
      have bp := push_at G (prBox p)
      have b2 := kp.at bG zG
      generalize G.push (prBox p) = G2 at kp bp b2
      have kG2 := kG.trans (kp.mono kG.size)
      rw [hd, mGet] at hm
      refine ⟨_, pr_k bp, by rw [imax]; omega, br_intro (fun e => ?_) fun e => ?_⟩
      · rw [beq_dec'] at e
        have e : (!decide (p.1 = rKey s)) = true := e
        have hne : p.1 ≠ rKey s := by simpa using e
        rw [if_neg hne] at hm
        rw [wrap_i64 (by omega) (by omega)]
        exact ⟨⟨j + 1, rfl, by omega, kG2, b2, hm⟩, by dsimp only; omega⟩
      · rw [beq_dec'] at e
        have e : (!decide (p.1 = rKey s)) = false := e
        have heq : p.1 = rKey s := by simpa using e
        rw [if_pos heq] at hm
        refine ⟨_, pr_v bp, (parse18_spec p.2 G2).mono ?_⟩
        rintro w h21 ⟨k21, rfl⟩
        have k26 := keep_push h21 (idBox id0)
        have b26 := push_at h21 (idBox id0)
        have z2 := at_lt b2
        refine ⟨_, _, rfl, _, isz_id, svc_idbox (getD_ok p.2) b26 (sz_id id0_ok) fun h30 z30 b30 u30 => ?_⟩
        have k30 : Keep G2.size G2 h30 := (k21.trans (k26.mono k21.size)).trans (u30.keep (by have := k21.size; simp; omega) fun q hq => by have := k21.size; omega)
        have k030 := kG2.trans (k30.mono kG2.size)
        have bx30 := k30.at b2 z2
        refine br_intro (fun e => bad k030 bx30 ?_) fun e => ?_
        · have hn : idParse p.2 = none := by simpa using e
          unfold rGet
          rw [if_pos hg, hm]
          dsimp only
          rw [hn]
        · obtain ⟨i, hi⟩ : ∃ i, idParse p.2 = some i := Option.isSome_iff_exists.1 (by simpa using e)
          have hr : rGet P s = (i, 0) := by
            unfold rGet
            rw [if_pos hg, hm]
            dsimp only
            rw [hi]
          rw [hi] at b30
          have b30 : h30[h21.size]? = some (idBox i) := b30
          have oki := idParse_ok hi
          refine ⟨_, id_load oki b30, svc_idbox oki bx30 (sz_id id0_ok) fun h37 z37 b37 u37 => ⟨_, id_var oki b37, k030.trans (u37.keep k030.size fun q hq => by omega), by rw [hr]⟩⟩
    · have hge : j = P.length := by have := of_decide_eq_false hge; omega
      subst hge
      rw [List.drop_length] at hm
      refine bad kG bG ?_
      unfold rGet
      rw [if_pos hg, hm]; rfl
theorem uRef : Tryz.prog.underlying 47 = some (.struct #[(Tryz.prog.fieldsOf 47)[0]!, (Tryz.prog.fieldsOf 47)[1]!]) := by kernel_rfl
theorem cRef : Tryz.prog.cellsOf 47 = 34 := by kernel_rfl
theorem fRef {r : Str × Id'} : (Value.agg (RefE.enc r).toArray).formed Tryz.prog 47 = true := by
  unfold Value.formed
  simp only [uRef]
  rw [cRef, List.size_toArray, RefE.len]; rfl
theorem lits_ref {r : Str × Id'} (hr : r.1.size ≤ 1000) : Tryz.prog.keyLits 4 47 (RefE.enc r) = some (refLits r) := by
  have t0 : ((Tryz.prog.fieldsOf 47)[0]!).type = 9 := by kernel_rfl
  have o0 : ((Tryz.prog.fieldsOf 47)[0]!).offset = 0 := by kernel_rfl
  have t1 : ((Tryz.prog.fieldsOf 47)[1]!).type = 24 := by kernel_rfl
  have o1 : ((Tryz.prog.fieldsOf 47)[1]!).offset = 1 := by kernel_rfl
  have c0 : Tryz.prog.cellsOf 9 = 1 := by kernel_rfl
  refine lits_struct2 (d := 3) (l0 := [.string r.1.data.toList]) (l1 := idLits r.2.1) uRef ((RefE.len r).trans cRef.symm) (by kernel_rfl) ?_ ?_
  · rw [t0, o0, c0]; exact lits_str uS 2 (by omega)
  · rw [t1, o1, cId]
    have : ((RefE.enc r).drop 1).take 33 = idC r.2.1 := by
      show (idC r.2.1).take 33 = _
      rw [List.take_of_length_le (by rw [idC_len r.2.2]; exact Nat.le_refl _)]
    rw [this]
    exact lits_id 0
theorem reads_ref_same {x y : Operand} {r : Str × Id'} (hr : r.1.size ≤ 1000) : Reads Tryz.prog (eqSem .neq 47 x y (.agg (RefE.enc r).toArray) (.agg (RefE.enc r).toArray)) h (.bool false) :=
  (reads_deep (m := 4) (D := 4) (r := true) (by decide) (by kernel_rfl) (by kernel_rfl) fRef fRef (lits_ref hr) (lits_ref hr) ⟨fun _ => rfl, fun _ => rfl⟩).2
theorem same18_spec {A B : Option Addr} {n cc d : Nat} {o : List (Str × Id')} (ha : Sl RefE h A n o) (hb : Sl RefE h B n o) (ho : ∀ r ∈ o, r.1.size ≤ 1000) (hn : n ≤ 1000000) :
    HC Tryz.prog 25 #[.slice A n cc, .slice B n d] h fun v h' => h' = h ∧ v = .bool true := by
  have hl := ha.1
  refine HC_of_vc (args := [.slice A n cc, .slice B n d]) (base := 26) (cuts := []) (bigs := []) kM Tryz.func25 ?_
  rw [vc18Same]
  refine br_intro (fun e => by simp at e) fun _ => ⟨fun _ n3 G => ∃ j : Nat, n3 = j ∧ j ≤ n ∧ G = h, fun _ n3 _ => n - n3.toNat, ⟨0, rfl, Nat.zero_le _, rfl⟩, ?_⟩
  rintro b2 n3 G ⟨j, rfl, hj, rfl⟩
  refine br_intro (fun hlt => ?_) fun hge => ⟨rfl, rfl⟩
  have hlt : j < o.length := by rw [hl]; simpa using hlt
  have hq : o[j]? = some (o[j]'hlt) := List.getElem?_eq_getElem hlt
  have hm := List.getElem_mem hlt
  generalize o[j]'hlt = r at hq hm
  obtain ⟨p5, eA, rd, _⟩ := ref_at ha hq
  obtain ⟨p7, eB, rd2, _⟩ := ref_at hb hq
  refine ⟨p5, ⟨eA, by omega, by omega⟩, _, rd, p7, ⟨eB, by omega, by omega⟩, _, rd2, _, reads_ref_same (ho r hm), br_intro (fun e => by cases e) fun _ => ?_⟩
  rw [wrap_i64 (by omega) (by omega)]
  exact ⟨⟨j + 1, rfl, by omega, rfl⟩, by dsimp only; omega⟩
end
end Go.Proofs.YtmdcfmhkfomoaaaGreatDoor
end
