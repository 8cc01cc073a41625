/-
  Texts of this seat, laid one behind the other: Kr1 Kr2 Kr3 Kr4 Kr5 Kr6 Kr7 Kr8 Kr9. Conditions: none.
-/
import Derived.Test.YtmdcfmhkfomoaaaGreatDoorZS
import Derived.Test.YtmdcfmhkfomoaaaGreatDoorZK
import Derived.Test.YtmdcfmhkfomoaaaGreatDoorRf1
import Derived.Test.YtmdcfmhkfomoaaaGreatDoorZV
import Derived.Test.YtmdcfmhkfomoaaaGreatDoorRf2
import Derived.Test.YtmdcfmhkfomoaaaGreatDoorRf3
import Derived.Test.YtmdcfmhkfomoaaaGreatDoorZP
section
set_option linter.unusedVariables false
set_option linter.unusedSimpArgs false
set_option maxRecDepth 100000
namespace Go.Proofs.YtmdcfmhkfomoaaaGreatDoor
open Go Go.Vc Go.Proofs Go.Dk Go.Kv

theorem kU8 : scT Tryz.prog 5 = true := by kernel_rfl
theorem u8_beq {k : UInt8} {n : Nat} (hn : n < 256) : ((k.toNat : Int) == (n : Int)) = decide (k = UInt8.ofNat n) := by
  by_cases h : k = UInt8.ofNat n
  · rw [decide_eq_true h, h, UInt8.toNat_ofNat']
    rw [Nat.mod_eq_of_lt (by simpa using hn)]; simp
  · rw [decide_eq_false h]
    refine beq_eq_false_iff_ne.2 fun e => h ?_
    have e2 : k.toNat = n := by exact_mod_cast e
    rw [← e2]; simp
section
variable {h : Heap} {i : Idn}
theorem idSize_spec (k : UInt8) : HC Tryz.prog 45 #[.int .u8 (k.toNat : Int)] h fun v h' => h' = h ∧ v = .int .i64 (idSize k : Nat) := by
  refine HC_of_vc (args := [.int .u8 (k.toNat : Int)]) (base := 8) (cuts := []) (bigs := []) kM Tryz.func45 ?_
  rw [vcIdSize]
  have e1 := u8_beq (k := k) (n := 1) (by omega)
  have e2 := u8_beq (k := k) (n := 2) (by omega)
  refine br_intro (fun e => ?_) fun e => br_intro (fun e' => ?_) fun e' => ?_
  · have : k = 1 := of_decide_eq_true (e1.symm.trans e)
    subst this; exact ⟨rfl, rfl⟩
  · have : k = 2 := of_decide_eq_true (e2.symm.trans e')
    subst this; exact ⟨rfl, rfl⟩
  · have h1 : k ≠ 1 := of_decide_eq_false (e1.symm.trans e)
    have h2 : k ≠ 2 := of_decide_eq_false (e2.symm.trans e')
    refine ⟨rfl, ?_⟩
    unfold idSize
    rw [if_neg h1, if_neg h2]; rfl
abbrev idBox (i : Idn) : Obj := .cells (idC i).toArray 24 (0, 0)
theorem id_kind {b : Nat} (hb : h[b]? = some (idBox i)) : Reads Tryz.prog (Instr.loadAt 5 (.pointer (some ⟨b, 0, none⟩))) h (.int .u8 (i.kind.toNat : Int)) := reads_load kU8 (cell_cells0 hb (by simp [idC]))
theorem id_byte {b j : Nat} {c : UInt8} (hb : h[b]? = some (idBox i)) (hj : i.sum[j]? = some c) : cell h ⟨b, 1 + j, none⟩ = some (.int .u8 (c.toNat : Int)) := by
  rw [cell_at hb]
  simp [idC, Nat.add_comm 1 j, hj]
theorem idGood_spec (hi : IdOk i) : HC Tryz.prog 42 #[.agg (idC i).toArray] h fun v h' => Keep h.size h h' ∧ v = .bool (idGood i) := by
  refine HC_of_vc (args := [.agg (idC i).toArray]) (base := 22) (cuts := []) (bigs := []) kM Tryz.func42 ?_
  rw [vcIdGood]
  have kb := keep_push h (idBox i)
  have bb := push_at h (idBox i)
  generalize h.push (Obj.cells (idC i).toArray 24 (0, 0)) = H at kb bb
  refine ⟨_, id_kind bb, (idSize_spec i.kind).mono ?_⟩
  rintro v h2 ⟨rfl, rfl⟩
  have hle := idSize_le i.kind
  generalize hn : idSize i.kind = n at hle
  refine ⟨_, rfl, ⟨by omega, by omega, by omega, by omega⟩, ?_⟩
  rw [Int.toNat_natCast]
  refine ⟨fun _ n7 G => ∃ j : Nat, n7 = j ∧ j ≤ 32 - n ∧ G = h2 ∧ ((i.sum.drop n).take j).all (fun b => decide (b = 0)) = true, fun _ n7 _ => 32 - n7.toNat, ⟨0, rfl, Nat.zero_le _, rfl, by simp⟩, ?_⟩
  rintro b6 n7 G ⟨j, rfl, hj, rfl, hall⟩
  have hdl : (i.sum.drop n).length = 32 - n := by rw [List.length_drop, hi]
  refine br_intro (fun hlt => ?_) fun hge => ?_
  · have hlt : j < 32 - n := by simpa using hlt
    have hq : (i.sum.drop n)[j]? = some ((i.sum.drop n)[j]'(by omega)) := List.getElem?_eq_getElem (by omega)
    have htk : (i.sum.drop n).take (j + 1) = (i.sum.drop n).take j ++ [(i.sum.drop n)[j]'(by omega)] := List.take_succ_eq_append_getElem (by omega)
    generalize (i.sum.drop n)[j]'(by omega) = c at hq htk
    have hq2 : i.sum[n + j]? = some c := by rw [← List.getElem?_drop]; exact hq
    have hcell := id_byte bb hq2
    have hsub : subA (some ((⟨h.size, 0, none⟩ : Addr).add 1)) n 32 1 = some ⟨h.size, 1 + n, none⟩ := by
      unfold subA
      rw [if_neg (by omega)]
      simp [Addr.add_row, Addr.add]
    refine ⟨_, ⟨hsub, by omega, by omega⟩, (c.toNat : Int), reads_load kU8 ?_, br_intro (fun e => ?_) fun e => ?_⟩
    · rw [Addr.add_row, Int.toNat_natCast, Nat.mul_one, Nat.add_assoc]; exact hcell
    · refine ⟨kb, ?_⟩
      have hc : c ≠ 0 := fun h0 => by subst h0; simp at e
      unfold idGood
      rw [hn]
      have : ((i.sum.drop n).all fun b => decide (b = 0)) = false := by
        refine List.all_eq_false.2 ⟨c, List.mem_of_getElem? hq, by simp [hc]⟩
      rw [this, Bool.and_false]
    · have hc : c = 0 := by
        have e2 : (c.toNat : Int) = 0 := by simpa using e
        have e3 : c.toNat = 0 := by exact_mod_cast e2
        exact UInt8.toNat_inj.1 (by rw [e3]; rfl)
      rw [wrap_i64 (by omega) (by omega)]
      refine ⟨⟨j + 1, rfl, by omega, rfl, ?_⟩, by dsimp only; omega⟩
      rw [htk, List.all_append, hall, hc]; rfl
  · have hge : j = 32 - n := by have := of_decide_eq_false hge; omega
    rw [List.take_of_length_le (by omega)] at hall
    refine ⟨kb, ?_⟩
    unfold idGood
    rw [hn, hall, Bool.and_true]
    by_cases h0 : 0 < n
    · rw [decide_eq_true h0, decide_eq_true (by omega)]
    · rw [decide_eq_false h0, decide_eq_false (by omega)]
end
end Go.Proofs.YtmdcfmhkfomoaaaGreatDoor
end

section
set_option linter.unusedVariables false
set_option linter.unusedSimpArgs false
set_option maxRecDepth 100000
namespace Go.Proofs.YtmdcfmhkfomoaaaGreatDoor
open Go Go.Vc Go.Proofs Go.Dk Go.Kv

theorem uBs : Tryz.prog.underlying 42 = some (.slice 5) := by kernel_rfl
theorem uU8 : Tryz.prog.underlying 5 = some (.int .u8) := by kernel_rfl
theorem agId : agT Tryz.prog 24 33 = true := by kernel_rfl
theorem bsB (k : UInt8) : bsCells Tryz.prog 42 1 [(0, .int .u8 (k.toNat : Int))] = some (5, ByteE.enc k) :=
  bs_one (sz := 1) (z := .int .u8 0) (v := .int .u8 (k.toNat : Int)) (by kernel_rfl) (by kernel_rfl) (by kernel_rfl) rfl (by decide) (by decide) rfl
section
variable {h : Heap} {i : Idn}
theorem id_load {b : Nat} (hi : IdOk i) (hb : h[b]? = some (idBox i)) : Reads Tryz.prog (Instr.loadAt 24 (.pointer (some ⟨b, 0, none⟩))) h (.agg (idC i).toArray) :=
  reads_load_agg (cs := idC i) agId (idC_len hi) (cells_all hb)
/-- one byte in a row. -/
theorem svc_b1 {k : UInt8} {K : Value → Heap → Prop} (kk : ∀ h', Keep h.size h h' → h'.size = h.size + 1 → Sl ByteE h' (some ⟨h.size, 0, none⟩) 1 [k] → K (.slice (some ⟨h.size, 0, none⟩) 1 1) h') :
    SVC Tryz.prog (Instr.buildSlice 42 1 (Array.mk [(0, .int .u8 (k.toNat : Int))])) h K := by
  refine svc_buildSlice (bsB k) (kk _ (keep_push _ _) (by simp) ⟨rfl, .inr ⟨_, rfl, fun i y hy j u hu => ?_⟩⟩)
  cases i with
  | zero =>
    simp at hy; subst hy
    rw [Addr.add_row, cell_push, Nat.zero_mul]
    simpa using hu
  | succ i => simp at hy
theorem id_sl {b n : Nat} (hi : IdOk i) (hn : n ≤ 32) (hb : h[b]? = some (idBox i)) : Sl ByteE h (subA (some ((⟨b, 0, none⟩ : Addr).add 1)) 0 32 1) n (i.sum.take n) := by
  refine ⟨by rw [List.length_take, hi]; omega, .inr ⟨⟨b, 1, none⟩, by simp [subA, Addr.add], fun j c hc q v hv => ?_⟩⟩
  have hq : q = 0 := by
    have := (List.getElem?_eq_some_iff.1 hv).1
    rw [ByteE.len] at this
    have : ByteE.sz = 1 := rfl
    omega
  subst hq
  have hv2 : v = .int .u8 (c.toNat : Int) := by
    have : (ByteE.enc c)[0]? = some (.int .u8 (c.toNat : Int)) := rfl
    exact Option.some.inj (hv.symm.trans this)
  have hj : i.sum[j]? = some c := by
    rw [List.getElem?_take] at hc
    split at hc
    · exact hc
    · cases hc
  rw [Addr.add_row, hv2]
  have hz : j * ByteE.sz + 0 = j := Nat.mul_one j
  rw [hz]
  exact id_byte hb hj
theorem idText_spec (hi : IdOk i) : HC Tryz.prog 31 #[.agg (idC i).toArray] h fun v h' => Keep h.size h h' ∧ v = .string (idText i) := by
  refine HC_of_vc (args := [.agg (idC i).toArray]) (base := 17) (cuts := []) (bigs := []) kM Tryz.func31 ?_
  rw [vcIdText]
  have kb := keep_push h (idBox i)
  have bb := push_at h (idBox i)
  have zb : (h.push (idBox i)).size = h.size + 1 := by simp
  generalize h.push (Obj.cells (idC i).toArray 24 (0, 0)) = H at kb bb zb
  refine ⟨_, id_load hi bb, (idGood_spec hi).mono ?_⟩
  rintro v h2 ⟨k2, rfl⟩
  refine ⟨_, rfl, br_intro (fun e => ?_) fun e => ?_⟩
  · refine ⟨kb.trans (k2.mono kb.size), ?_⟩
    rw [idText_nil.2 (by simpa using e)]
  · have hg : idGood i = true := by simpa using e
    have hle := idSize_le i.kind
    have ht : idText i = (⟨#[i.kind]⟩ : Str) ++ ⟨(i.sum.take (idSize i.kind)).toArray⟩ := by
      unfold idText
      rw [if_pos hg]
      apply str_ext
      simp [ByteArray.toList_eq, ByteArray.data_append]
    have hmax : IntKind.i64.max = 9223372036854775807 := by decide
    have hsz : (((⟨#[i.kind]⟩ : Str).size + (⟨(i.sum.take (idSize i.kind)).toArray⟩ : Str).size : Nat) : Int) ≤ IntKind.i64.max := by
      have h1 : (⟨#[i.kind]⟩ : Str).size = 1 := rfl
      have h2 : (⟨(i.sum.take (idSize i.kind)).toArray⟩ : Str).size ≤ 32 := by
        show ((i.sum.take (idSize i.kind)).toArray).size ≤ 32
        rw [List.size_toArray, List.length_take]; omega
      omega
    have fin : ∀ G, Keep H.size H G → Keep h.size h G ∧ Value.string ((⟨#[i.kind]⟩ : Str) ++ ⟨(i.sum.take (idSize i.kind)).toArray⟩) = .string (idText i) := fun G kG => ⟨kb.trans (kG.mono kb.size), by rw [ht]⟩
    have bx : ∀ G, Keep H.size H G → G[h.size]? = some (idBox i) := fun G kG => kG.at bb (at_lt bb)
    have r1 : ∀ {G a}, Sl ByteE G a 1 [i.kind] → Reads Tryz.prog (convert 42 9 (.slice a 1 1)) G (.string ⟨#[i.kind]⟩) := fun hs => reads_string uBs uU8 uS hs
    have r2 : ∀ G, Keep H.size H G → Reads Tryz.prog (convert 42 9 (.slice (subA (some ((⟨h.size, 0, none⟩ : Addr).add 1)) 0 32 1) (((idSize i.kind : Nat) : Int).toNat - 0) 32)) G (.string ⟨(i.sum.take (idSize i.kind)).toArray⟩) := fun G kG => by
      rw [Int.toNat_natCast, Nat.sub_zero]
      exact reads_string uBs uU8 uS (id_sl hi hle (bx G kG))
    have bd : ((0 : Int) ≤ 0 ∧ (0 : Int) ≤ ((idSize i.kind : Nat) : Int) ∧ ((idSize i.kind : Nat) : Int) ≤ ((32 : Nat) : Int) ∧ ((32 : Nat) : Int) ≤ ((32 : Nat) : Int)) := ⟨by omega, by omega, by omega, by omega⟩
    refine ⟨fun G => Keep H.size H G, k2, _, fun G kG => id_kind (bx G kG), _, fun G kG => id_kind (bx G kG), ?_, ?_⟩
    · refine svc_b1 fun h10 k10 z10 s10 => ⟨_, _, _, rfl, ?_⟩
      have k10' : Keep H.size H h10 := k2.trans (k10.mono k2.size)
      refine ⟨k10', ⟨_, r1 s10, k10', (idSize_spec i.kind).mono ?_⟩, (idSize_spec i.kind).mono ?_⟩
      · rintro v h16 ⟨rfl, rfl⟩
        exact ⟨_, rfl, k10', bd, _, r2 _ k10', k10', hsz, fin _ k10'⟩
      · rintro v h20 ⟨rfl, rfl⟩
        exact ⟨_, rfl, k10', bd, ⟨_, r1 s10, k10', _, r2 _ k10', k10', hsz, fin _ k10'⟩, _, r2 _ k10', k10', _, r1 s10, k10', hsz, fin _ k10'⟩
    · refine (idSize_spec i.kind).mono ?_
      rintro v h27 ⟨rfl, rfl⟩
      refine ⟨_, rfl, k2, bd, svc_b1 fun h30 k30 z30 s30 => ⟨_, _, _, rfl, ?_⟩, _, r2 _ k2, k2, svc_b1 fun h40 k40 z40 s40 => ⟨_, _, _, rfl, ?_⟩⟩
      · have k30' := k2.trans (k30.mono k2.size)
        exact ⟨k30', ⟨_, r1 s30, k30', _, r2 _ k30', k30', hsz, fin _ k30'⟩, _, r2 _ k30', k30', _, r1 s30, k30', hsz, fin _ k30'⟩
      · have k40' := k2.trans (k40.mono k2.size)
        exact ⟨k40', _, r1 s40, k40', hsz, fin _ k40'⟩
end
end Go.Proofs.YtmdcfmhkfomoaaaGreatDoor
end

section
set_option linter.unusedVariables false
set_option linter.unusedSimpArgs false
set_option maxRecDepth 100000
namespace Go.Proofs.YtmdcfmhkfomoaaaGreatDoor
open Go Go.Vc Go.Proofs Go.Dk Go.Kv

theorem ag32 : agT Tryz.prog 22 32 = true := by kernel_rfl
section
variable {h : Heap} {i : Idn}
theorem size14_spec (k : UInt8) : HC Tryz.prog 32 #[.int .u8 (k.toNat : Int)] h fun v h' => h' = h ∧ v = .int .i64 (idSize k : Nat) := by
  refine HC_of_vc (args := [.int .u8 (k.toNat : Int)]) (base := 7) (cuts := []) (bigs := []) kM Tryz.func32 ?_
  rw [vc14Size]
  have e1 := u8_beq (k := k) (n := 1) (by omega)
  have e2 := u8_beq (k := k) (n := 2) (by omega)
  refine br_intro (fun e => ?_) fun e => br_intro (fun e' => ?_) fun e' => ?_
  · have : k = 1 := of_decide_eq_true (e1.symm.trans e)
    subst this; exact ⟨rfl, rfl⟩
  · have : k = 2 := of_decide_eq_true (e2.symm.trans e')
    subst this; exact ⟨rfl, rfl⟩
  · have h1 : k ≠ 1 := of_decide_eq_false (e1.symm.trans e)
    have h2 : k ≠ 2 := of_decide_eq_false (e2.symm.trans e')
    refine ⟨rfl, ?_⟩
    unfold idSize
    rw [if_neg h1, if_neg h2]; rfl
theorem name14_spec (hi : IdOk i) : HC Tryz.prog 11 #[.agg (idC i).toArray] h fun v h' => Keep h.size h h' ∧ v = .string (idText i) := by
  refine HC_of_vc (args := [.agg (idC i).toArray]) (base := 34) (cuts := []) (bigs := []) kM Tryz.func11 ?_
  rw [vc14Name]
  have kb := keep_push h (idBox i)
  have bb := push_at h (idBox i)
  generalize h.push (Obj.cells (idC i).toArray 24 (0, 0)) = H at kb bb
  refine ⟨_, id_kind bb, (size14_spec i.kind).mono ?_⟩
  rintro v h2 ⟨rfl, rfl⟩
  refine ⟨_, rfl, _, id_kind bb, svc_b1 fun h6 k6 z6 s6 => ⟨_, _, _, rfl, _, reads_string uBs uU8 uS s6, ?_⟩⟩
  have k06 : Keep h.size h h6 := kb.trans (k6.mono kb.size)
  have b6 : h6[h.size]? = some (idBox i) := k6.at bb (at_lt bb)
  have hle := idSize_le i.kind
  have hlen : i.sum.length = 32 := hi
  refine ⟨(i.sum.map fun b => .int .u8 (b.toNat : Int)).toArray, reads_load_agg (cs := i.sum.map fun b => .int .u8 (b.toNat : Int)) ag32 (by rw [List.length_map, hlen]) fun j v hv => ?_, ?_⟩
  · rw [List.getElem?_map] at hv
    cases hc : i.sum[j]? with
    | none => rw [hc] at hv; cases hv
    | some c =>
      rw [hc] at hv
      cases hv
      rw [Addr.add_row, Addr.add_row]
      have := id_byte b6 hc
      simpa [Nat.add_assoc] using this
  have hmax : IntKind.i64.max = 9223372036854775807 := by decide
  generalize hn : idSize i.kind = n at hle
  refine ⟨fun _ s15 n16 G => ∃ j : Nat, n16 = j ∧ j ≤ 32 ∧ Keep h.size h G ∧ s15 = ⟨(i.kind :: i.sum.take (min j n)).toArray⟩ ∧ (((i.sum.take j).drop n).all fun b => decide (b = 0)) = true, fun _ _ n16 _ => 32 - n16.toNat,
    ⟨0, rfl, Nat.zero_le _, k06, by simp, by simp⟩, ?_⟩
  rintro s14 s15 n16 G ⟨j, rfl, hj, kG, rfl, hall⟩
  refine br_intro (fun hlt => ?_) fun hge => ?_
  · have hlt : j < 32 := by have := of_decide_eq_true hlt; omega
    have hq : i.sum[j]? = some (i.sum[j]'(by omega)) := List.getElem?_eq_getElem (by omega)
    have htk : i.sum.take (j + 1) = i.sum.take j ++ [i.sum[j]'(by omega)] := List.take_succ_eq_append_getElem (by omega)
    generalize i.sum[j]'(by omega) = c at hq htk
    refine ⟨⟨by omega, by omega⟩, (c.toNat : Int), by simp [hq], br_intro (fun hjn => ?_) fun hjn => ?_⟩
    · have hjn : j < n := by have := of_decide_eq_true hjn; omega
      refine svc_b1 fun h22 k22 z22 s22 => ⟨_, _, _, rfl, _, reads_string uBs uU8 uS s22, ?_, ?_⟩
      · have h1 : (⟨[c].toArray⟩ : Str).size = 1 := rfl
        have h2 : (⟨(i.kind :: i.sum.take (min j n)).toArray⟩ : Str).size ≤ 33 := by
          show ((i.kind :: i.sum.take (min j n)).toArray).size ≤ 33
          rw [List.size_toArray, List.length_cons, List.length_take]; omega
        omega
      · rw [show IntKind.i64.wrap ((j : Int) + 1) = ((j + 1 : Nat) : Int) from wrap_i64 (by omega) (by omega)]
        refine ⟨⟨j + 1, rfl, by omega, kG.trans (k22.mono kG.size), ?_, ?_⟩, by dsimp only; omega⟩
        · rw [Nat.min_eq_left (by omega), Nat.min_eq_left (by omega), htk]
          apply str_ext
          simp [ByteArray.toList_eq, ByteArray.data_append]
        · rw [List.drop_eq_nil_of_le (by rw [List.length_take]; omega)]; rfl
    · have hjn : n ≤ j := by have := of_decide_eq_false hjn; omega
      have hd : (i.sum.take (j + 1)).drop n = (i.sum.take j).drop n ++ [c] := by
        rw [htk, List.drop_append_of_le_length (by rw [List.length_take]; omega)]
      refine br_intro (fun e => ?_) fun e => ?_
      · have hc : c ≠ 0 := fun h0 => by subst h0; simp at e
        refine ⟨kG, ?_⟩
        rw [idText_nil.2]
        unfold idGood
        rw [hn]
        have : ((i.sum.drop n).all fun b => decide (b = 0)) = false := by
          refine List.all_eq_false.2 ⟨c, ?_, by simp [hc]⟩
          refine List.mem_of_getElem? (i := j - n) ?_
          rw [List.getElem?_drop, Nat.add_sub_cancel' hjn]; exact hq
        rw [this, Bool.and_false]
      · have hc : c = 0 := by
          have e2 : (c.toNat : Int) = 0 := by simpa using e
          have e3 : c.toNat = 0 := by exact_mod_cast e2
          exact UInt8.toNat_inj.1 (by rw [e3]; rfl)
        rw [show IntKind.i64.wrap ((j : Int) + 1) = ((j + 1 : Nat) : Int) from wrap_i64 (by omega) (by omega)]
        refine ⟨⟨j + 1, rfl, by omega, kG, ?_, ?_⟩, by dsimp only; omega⟩
        · rw [Nat.min_eq_right hjn, Nat.min_eq_right (by omega)]
        · rw [hd, List.all_append, hall, hc]; rfl
  · have hge : j = 32 := by have := of_decide_eq_false hge; omega
    subst hge
    rw [List.take_of_length_le (by omega)] at hall
    rw [Nat.min_eq_right hle]
    refine br_intro (fun e => ?_) fun e => ?_
    · have h0 : n = 0 := by simpa using e
      refine ⟨kG, ?_⟩
      rw [idText_nil.2]
      unfold idGood
      rw [hn, h0]; rfl
    · have h0 : n ≠ 0 := by simpa using e
      refine ⟨kG, ?_⟩
      have hg : idGood i = true := by
        unfold idGood
        rw [hn, hall, decide_eq_true (by omega)]; rfl
      unfold idText
      rw [if_pos hg, hn]
end
end Go.Proofs.YtmdcfmhkfomoaaaGreatDoor
end

section
set_option linter.unusedVariables false
set_option linter.unusedSimpArgs false
set_option maxRecDepth 100000
namespace Go.Proofs.YtmdcfmhkfomoaaaGreatDoor
open Go Go.Vc Go.Proofs Go.Dk Go.Kv

theorem reads_vag {P : Program} {t : TypeId} {n : Nat} {h : Heap} {p : Addr} {cs : List Value} (ht : agT P t n = true) (hn : cs.length = n) (hc : ∀ j v, cs[j]? = some v → cell h (p.add j) = some v) : Reads P (loadVar t p) h (.agg cs.toArray) := by
  obtain ⟨h1, h2⟩ := agT_spec ht
  refine ⟨fun w hw => ?_⟩
  subst hw
  simp only [loadVar, Sem.run_bind, Sem.run_pure, Result.andThen_ok, h1, if_true, Go.Vc.run_szOf h2, Go.Vc.run_loadCells hn hc]
theorem imax : IntKind.i64.max = 9223372036854775807 := by decide
def rKey (s : Str) : Str := (⟨#[114]⟩ : Str) ++ s
def oKey (i : Idn) : Str := (⟨#[111]⟩ : Str) ++ idText i
section
variable {h : Heap} {i : Idn} {s : Str}
theorem idText_len (hi : IdOk i) : (idText i).size ≤ 33 := by
  unfold idText
  have := idSize_le i.kind
  split
  · show ((i.kind :: i.sum.take (idSize i.kind)).toArray).size ≤ 33
    rw [List.size_toArray, List.length_cons, List.length_take]; omega
  · exact Nat.zero_le _
theorem key_spec (hs : s.size ≤ 9223372036854775800) : HC Tryz.prog 9 #[.string s] h fun v h' => h' = h ∧ v = .string (rKey s) := by
  refine HC_of_vc (args := [.string s]) (base := 5) (cuts := []) (bigs := []) kM Tryz.func9 ?_
  rw [vcRfKey]
  exact ⟨by rw [imax]; omega, rfl, rfl⟩
theorem okey_spec (hi : IdOk i) : HC Tryz.prog 10 #[.agg (idC i).toArray] h fun v h' => Keep h.size h h' ∧ v = .string (oKey i) := by
  refine HC_of_vc (args := [.agg (idC i).toArray]) (base := 6) (cuts := []) (bigs := []) kM Tryz.func10 ?_
  rw [vcRfOKey]
  have kb := keep_push h (idBox i)
  have bb := push_at h (idBox i)
  generalize h.push (Obj.cells (idC i).toArray 24 (0, 0)) = H at kb bb
  refine ⟨_, id_load hi bb, (idText_spec hi).mono ?_⟩
  rintro v h2 ⟨k2, rfl⟩
  have := idText_len hi
  exact ⟨_, rfl, by rw [imax]; omega, kb.trans (k2.mono kb.size), rfl⟩
theorem set_spec (hs : s.size ≤ 9223372036854775800) (hi : IdOk i) : HC Tryz.prog 14 #[.string s, .agg (idC i).toArray] h fun v h' => Keep h.size h h' ∧ v = wrVal ⟨rKey s, idText i, false⟩ := by
  refine HC_of_vc (args := [.string s, .agg (idC i).toArray]) (base := 10) (cuts := []) (bigs := []) kM Tryz.func14 ?_
  rw [vcRfSet]
  have kb := keep_push h (idBox i)
  have bb := push_at h (idBox i)
  have zb : (h.push (idBox i)).size = h.size + 1 := by simp
  have kc := keep_push (h.push (idBox i)) (wrBox ⟨⟨#[]⟩, ⟨#[]⟩, false⟩)
  have bc := push_at (h.push (idBox i)) (wrBox ⟨⟨#[]⟩, ⟨#[]⟩, false⟩)
  have bb2 := kc.at bb (at_lt bb)
  have kbc := kb.trans (kc.mono kb.size)
  rw [zb] at bc ⊢
  have zc : ((h.push (idBox i)).push (wrBox ⟨⟨#[]⟩, ⟨#[]⟩, false⟩)).size = h.size + 2 := by simp
  generalize ((h.push (Obj.cells (idC i).toArray 24 (0, 0))).push (wrBox ⟨⟨#[]⟩, ⟨#[]⟩, false⟩)) = H at kbc bc bb2 zc
  refine ⟨fun G => Keep H.size H G, Keep.refl _ _, (key_spec hs).mono ?_⟩
  rintro v h2 ⟨rfl, rfl⟩
  refine ⟨_, rfl, Keep.refl _ _, _, fun G kG => id_load hi (kG.at bb2 (at_lt bb2)), (idText_spec hi).mono ?_⟩
  rintro v h7 ⟨k7, rfl⟩
  refine ⟨_, rfl, svc_store_own (v := wrVal ⟨rKey s, idText i, false⟩) szWr (k7.at bc (at_lt bc)) rfl (fun v hv => WrE.one ⟨rKey s, idText i, false⟩ v hv) fun h10 z10 b10 o10 => ⟨_, _, _, reads_vag agWr rfl (cells_all (cs := WrE.enc ⟨rKey s, idText i, false⟩) b10), ?_, rfl⟩⟩
  exact (kbc.trans (k7.mono kbc.size)).trans ((upd_of_one z10 o10).keep (by have := k7.size; omega) fun q hq => by omega)
theorem drop_spec (hs : s.size ≤ 9223372036854775800) : HC Tryz.prog 15 #[.string s] h fun v h' => Keep h.size h h' ∧ v = wrVal ⟨rKey s, ⟨#[]⟩, true⟩ := by
  refine HC_of_vc (args := [.string s]) (base := 6) (cuts := []) (bigs := []) kM Tryz.func15 ?_
  rw [vcRfDrop]
  refine (key_spec hs).mono ?_
  rintro v h2 ⟨rfl, rfl⟩
  refine ⟨_, rfl, svc_wr (w := ⟨rKey s, ⟨#[]⟩, true⟩) rfl ?_⟩
  exact ⟨_, _, _, reads_vag agWr rfl (cells_all (cs := WrE.enc ⟨rKey s, ⟨#[]⟩, true⟩) (push_at h _)), keep_push _ _, rfl⟩
end
end Go.Proofs.YtmdcfmhkfomoaaaGreatDoor
end

section
set_option linter.unusedVariables false
set_option linter.unusedSimpArgs false
set_option maxRecDepth 100000
namespace Go.Proofs.YtmdcfmhkfomoaaaGreatDoor
open Go Go.Vc Go.Proofs Go.Dk Go.Kv

theorem byte_at {s : Str} {i : Nat} (h : i < s.size) : s.data.toList[i]? = some (s.get! i) := by
  cases s with
  | mk d =>
    have : i < d.size := h
    show d.toList[i]? = some (d[i]!)
    simp [this]
theorem byteAt_eq {s : Str} {i : Nat} (h : i < s.size) : byteAt s (i : Int) = ((s.get! i).toNat : Int) := by
  cases s with
  | mk d =>
    have : i < d.size := h
    show ((d.getD (i : Int).toNat 0).toNat : Int) = ((d[i]!).toNat : Int)
    simp [this]
theorem name_cond {n : Int} {b : UInt8} (h : n = (b.toNat : Int)) : ((decide (n < (97 : Int)) || decide (n > (122 : Int))) && (decide (n < (48 : Int)) || decide (n > (57 : Int))) && n != (45 : Int)) = !nameB b := by
  subst h
  unfold nameB
  rw [Bool.eq_iff_iff]
  simp only [Bool.and_eq_true, Bool.or_eq_true, decide_eq_true_eq, bne_iff_ne, ne_eq, Bool.not_eq_true', Bool.or_eq_false_iff, Bool.and_eq_false_iff, decide_eq_false_iff_not]
  omega
theorem name_cond2 {n : Int} {b : UInt8} (h : n = (b.toNat : Int)) : (!(decide (n ≥ (97 : Int)) && decide (n ≤ (122 : Int))) && !(decide (n ≥ (48 : Int)) && decide (n ≤ (57 : Int))) && n != (45 : Int)) = !nameB b := by
  rw [← name_cond h]
  rw [Bool.eq_iff_iff]
  simp only [Bool.and_eq_true, Bool.or_eq_true, decide_eq_true_eq, bne_iff_ne, ne_eq, Bool.not_eq_true', Bool.or_eq_false_iff, Bool.and_eq_false_iff, decide_eq_false_iff_not]
  omega
theorem take_all {s : Str} {i : Nat} (h : i < s.size) (ha : (s.data.toList.take i).all nameB = true) (hb : nameB (s.get! i) = true) : (s.data.toList.take (i + 1)).all nameB = true := by
  have hq := byte_at h
  obtain ⟨hi, he⟩ := List.getElem?_eq_some_iff.1 hq
  rw [List.take_succ_eq_append_getElem hi, List.all_append, ha, he]
  simp [hb]
theorem not_ok {s : Str} {i : Nat} (h : i < s.size) (hb : nameB (s.get! i) = false) : nameOk s = false := by
  unfold nameOk
  have : s.data.toList.all nameB = false := List.all_eq_false.2 ⟨s.get! i, List.mem_of_getElem? (byte_at h), by rw [hb]; decide⟩
  rw [this]; rfl
def objC (i : Idn) (d : Str) : List Value := idC i ++ [.string d]
section
variable {h : Heap} {i : Idn} {s : Str}
theorem put_spec (hi : IdOk i) (d : Str) : HC Tryz.prog 16 #[.agg (objC i d).toArray] h fun v h' => Keep h.size h h' ∧ v = wrVal ⟨oKey i, d, false⟩ := by
  refine HC_of_vc (args := [.agg (objC i d).toArray]) (base := 9) (cuts := []) (bigs := []) kM Tryz.func16 ?_
  rw [vcRfPut]
  have hl := idC_len hi
  have kb := keep_push h (.cells (objC i d).toArray 36 (0, 0))
  have bb := push_at h (.cells (objC i d).toArray 36 (0, 0))
  have zb : (h.push (.cells (objC i d).toArray 36 (0, 0))).size = h.size + 1 := by simp
  have kc := keep_push (h.push (.cells (objC i d).toArray 36 (0, 0))) (wrBox ⟨⟨#[]⟩, ⟨#[]⟩, false⟩)
  have bc := push_at (h.push (.cells (objC i d).toArray 36 (0, 0))) (wrBox ⟨⟨#[]⟩, ⟨#[]⟩, false⟩)
  have bb2 := kc.at bb (at_lt bb)
  have kbc := kb.trans (kc.mono kb.size)
  rw [zb] at bc ⊢
  have zc : ((h.push (.cells (objC i d).toArray 36 (0, 0))).push (wrBox ⟨⟨#[]⟩, ⟨#[]⟩, false⟩)).size = h.size + 2 := by simp
  generalize ((h.push (Obj.cells (objC i d).toArray 36 (0, 0))).push (wrBox ⟨⟨#[]⟩, ⟨#[]⟩, false⟩)) = H at kbc bc bb2 zc
  refine ⟨fun G => Keep H.size H G, Keep.refl _ _, _, reads_load_agg (cs := idC i) agId hl fun j v hv => cells_all bb2 j v (by unfold objC; rw [List.getElem?_append_left (List.getElem?_eq_some_iff.1 hv).1]; exact hv), (okey_spec hi).mono ?_⟩
  rintro v h3 ⟨k3, rfl⟩
  refine ⟨_, rfl, k3, d, fun G kG => reads_load kS (cells_all (kG.at bb2 (at_lt bb2)) 33 _ (by unfold objC; rw [List.getElem?_append_right (by omega), hl]; rfl)), ?_⟩
  refine svc_store_own (v := wrVal ⟨oKey i, d, false⟩) szWr (k3.at bc (at_lt bc)) rfl (fun v hv => WrE.one ⟨oKey i, d, false⟩ v hv) fun h8 z8 b8 o8 => ⟨_, _, _, reads_vag agWr rfl (cells_all (cs := WrE.enc ⟨oKey i, d, false⟩) b8), ?_, rfl⟩
  exact (kbc.trans (k3.mono kbc.size)).trans ((upd_of_one z8 o8).keep (by have := k3.size; omega) fun q hq => by omega)
theorem good_spec (s : Str) : HC Tryz.prog 12 #[.string s] h fun v h' => Keep h.size h h' ∧ v = .bool (nameOk s) := by
  refine HC_of_vc (args := [.string s]) (base := 36) (cuts := []) (bigs := []) kM Tryz.func12 ?_
  rw [vcRfGood]
  refine svc_range_str uS fun h1 k1 z1 b1 => ⟨_, rfl, ?_⟩
  refine ⟨fun _ G => ∃ pos, G[h.size]? = some (.stringIter s pos) ∧ (s.data.toList.take pos).all nameB = true ∧ pos ≤ s.size ∧ Keep h.size h G,
    fun _ G => match G[h.size]? with
      | some (.stringIter _ pos) => s.size - pos
      | _ => 0, ⟨0, b1, by simp, Nat.zero_le _, k1⟩, ?_⟩
  rintro b5 G ⟨pos, bG, ha, hp, kG⟩
  refine svc_next_str bG (fun hle => .inl ⟨rfl, kG, ?_⟩) fun hlt h8 z8 b8 u8 => .inr ⟨_, _, rfl, ?_⟩
  · have e : pos = s.size := Nat.le_antisymm hp hle
    subst e
    rw [List.take_of_length_le (by rw [Array.length_toList]; exact Nat.le_refl _)] at ha
    unfold nameOk
    rw [ha, Bool.true_and]
    congr 2
    · exact decide_eq_decide.2 (by omega)
    · exact decide_eq_decide.2 (by omega)
  · have k8 : Keep h.size h h8 := kG.trans (u8.keep kG.size fun q hq => by omega)
    by_cases hb : (s.get! pos).toNat < 128
    · rw [decode_small hb] at b8 ⊢
      rw [name_cond rfl]
      refine br_intro (fun e => ⟨k8, ?_⟩) fun e => ⟨⟨pos + 1, b8, take_all hlt ha (by simpa using e), hlt, k8⟩, ?_⟩
      · rw [not_ok hlt (by simpa using e)]
      · dsimp only
        rw [b8, bG]
        dsimp only; omega
    · have hd := decode_big (s := s) (i := pos) (by omega)
      have hc : ((decide (((Utf8.decode s pos).1 : Int) < (97 : Int)) || decide (((Utf8.decode s pos).1 : Int) > (122 : Int))) && (decide (((Utf8.decode s pos).1 : Int) < (48 : Int)) || decide (((Utf8.decode s pos).1 : Int) > (57 : Int))) && ((Utf8.decode s pos).1 : Int) != (45 : Int)) = true := by
        simp only [Bool.and_eq_true, Bool.or_eq_true, decide_eq_true_eq, bne_iff_ne, ne_eq]
        omega
      refine br_intro (fun _ => ⟨k8, ?_⟩) fun e => by rw [hc] at e; cases e
      rw [not_ok hlt]
      have := (s.get! pos).toNat_lt
      unfold nameB
      simp only [Bool.or_eq_false_iff, Bool.and_eq_false_iff, decide_eq_false_iff_not]
      omega
theorem good18_spec (s : Str) : HC Tryz.prog 13 #[.string s] h fun v h' => h' = h ∧ v = .bool (nameOk s) := by
  refine HC_of_vc (args := [.string s]) (base := 45) (cuts := []) (bigs := []) kM Tryz.func13 ?_
  rw [vc18Good]
  have hsz : s.data.toList.length = s.size := Array.length_toList
  have e0 : (s.toList == []) = decide (s.size = 0) := by
    rw [ByteArray.toList_eq]
    cases hl : s.data.toList with
    | nil => rw [hl] at hsz; rw [decide_eq_true (by simpa using hsz.symm)]; rfl
    | cons a l => rw [hl, List.length_cons] at hsz; rw [decide_eq_false (by omega)]; rfl
  rw [e0]
  refine br_intro (fun e => ⟨rfl, ?_⟩) fun e => ?_
  · unfold nameOk
    simp only [Bool.or_eq_true, decide_eq_true_eq] at e
    rcases e with e | e
    · rw [decide_eq_false (by omega : ¬ 0 < s.size), Bool.and_false, Bool.false_and]
    · rw [decide_eq_false (by omega : ¬ s.size ≤ 16), Bool.and_false]
  · simp only [Bool.or_eq_false_iff, decide_eq_false_iff_not] at e
    refine ⟨fun _ n3 G => ∃ pos : Nat, n3 = pos ∧ pos ≤ s.size ∧ (s.data.toList.take pos).all nameB = true ∧ G = h, fun _ n3 _ => s.size - n3.toNat, ⟨0, rfl, Nat.zero_le _, by simp, rfl⟩, ?_⟩
    rintro b2 n3 h4 ⟨pos, rfl, hp, ha, rfl⟩
    refine br_intro (fun hlt => ?_) fun hge => ⟨rfl, ?_⟩
    · have hlt : pos < s.size := by simpa using hlt
      refine ⟨⟨by omega, by omega⟩, ?_⟩
      rw [name_cond2 (byteAt_eq hlt), wrap_i64 (by omega) (by omega)]
      refine br_intro (fun e => ⟨rfl, ?_⟩) fun e => ⟨⟨pos + 1, rfl, hlt, take_all hlt ha (by simpa using e), rfl⟩, by dsimp only; omega⟩
      rw [not_ok hlt (by simpa using e)]
    · have hge : pos = s.size := by have := of_decide_eq_false hge; omega
      subst hge
      rw [List.take_of_length_le (by omega)] at ha
      unfold nameOk
      rw [ha, decide_eq_true (by omega), decide_eq_true (by omega)]; rfl
end
end Go.Proofs.YtmdcfmhkfomoaaaGreatDoor
end

section
set_option linter.unusedVariables false
set_option linter.unusedSimpArgs false
set_option maxRecDepth 100000
namespace Go.Proofs.YtmdcfmhkfomoaaaGreatDoor
open Go Go.Vc Go.Proofs Go.Dk Go.Kv

theorem zU8 : szOf Tryz.prog 5 = some 1 := by kernel_rfl
theorem szId : szOf Tryz.prog 24 = some 33 := by kernel_rfl
theorem isz_id : IsZ Tryz.prog 24 (idC id0).toArray := ⟨by kernel_rfl⟩
theorem blt_id0 : Blt Tryz.prog 24 [] (idC id0).toArray := ⟨builtL_eq (cs := idC id0) (by kernel_rfl)⟩
theorem blt_id (k : UInt8) : Blt Tryz.prog 24 [(0, .int .u8 (k.toNat : Int))] (idC ⟨k, List.replicate 32 0⟩).toArray := ⟨builtL_eq (cs := idC ⟨k, List.replicate 32 0⟩) (by kernel_rfl)⟩
def idOf (s : Str) : Idn := match s.data.toList with
  | [] => id0
  | k :: r => ⟨k, r ++ List.replicate (32 - r.length) 0⟩
theorem idOf_ok {s : Str} (h : s.size ≤ 33) : IdOk (idOf s) := by
  have hsz : s.data.toList.length = s.size := Array.length_toList
  unfold idOf
  cases hl : s.data.toList with
  | nil => exact id0_ok
  | cons k r =>
    rw [hl, List.length_cons] at hsz
    show (r ++ List.replicate (32 - r.length) (0 : UInt8)).length = 32
    rw [List.length_append, List.length_replicate]; omega
theorem byte0 {s : Str} {k : UInt8} {r : List UInt8} (hl : s.data.toList = k :: r) : byteAt s (0 : Int) = (k.toNat : Int) := by
  have : s.data[0]? = some k := by rw [← Array.getElem?_toList, hl]; rfl
  unfold byteAt
  have h0 : (0 : Int).toNat = 0 := rfl
  rw [h0, Array.getD_eq_getD_getElem?, this]; rfl
theorem putL_id {k : UInt8} {r : List UInt8} (hr : r.length ≤ 32) : putL (idC ⟨k, List.replicate 32 0⟩) 1 (r.map fun b => .int .u8 (b.toNat : Int)) = idC ⟨k, r ++ List.replicate (32 - r.length) 0⟩ := by
  have := putL_prefix (r.map fun b => Value.int .u8 (b.toNat : Int)) [.int .u8 (k.toNat : Int)] (List.replicate 32 (.int .u8 0)) (by rw [List.length_map, List.length_replicate]; exact hr)
  have e : idC ⟨k, List.replicate 32 0⟩ = [.int .u8 (k.toNat : Int)] ++ List.replicate 32 (.int .u8 0) := by
    unfold idC; rw [List.map_replicate]; rfl
  rw [e]
  refine this.trans ?_
  unfold idC
  rw [List.map_append, List.map_replicate, List.length_map, List.drop_replicate]; rfl
theorem set_id {k : UInt8} {r : List UInt8} {j : Nat} {c : UInt8} (hr : r.length ≤ 32) (hq : r[j]? = some c) :
    (idC ⟨k, r.take j ++ List.replicate (32 - j) 0⟩).set (1 + j) (.int .u8 (c.toNat : Int)) = idC ⟨k, r.take (j + 1) ++ List.replicate (32 - (j + 1)) 0⟩ := by
  obtain ⟨hj, he⟩ := List.getElem?_eq_some_iff.1 hq
  unfold idC
  dsimp only
  rw [Nat.add_comm 1 j, List.set_cons_succ, ← List.map_set (f := fun b : UInt8 => Value.int .u8 (b.toNat : Int))]
  congr 2
  rw [List.set_append_right _ _ (by rw [List.length_take]; omega), List.length_take, Nat.min_eq_left (by omega), Nat.sub_self]
  have : 32 - j = (32 - (j + 1)) + 1 := by omega
  rw [this, List.replicate_succ, List.set_cons_zero, List.take_succ_eq_append_getElem hj, he, List.append_assoc]; rfl
section
variable {h : Heap} {s : Str}
theorem svc_idbox {b T : Nat} {old : Array Value} {i : Idn} {K : Unit → Heap → Prop} (hi : IdOk i) (hb : h[b]? = some (.cells old T (0, 0))) (ho : old.size = 33)
    (k : ∀ h', h'.size = h.size → h'[b]? = some (.cells (idC i).toArray T (0, 0)) → Upd (fun q => q = b) h h' → K () h') :
    SVC Tryz.prog (Instr.storeAt 24 (.pointer (some ⟨b, 0, none⟩)) (.agg (idC i).toArray)) h K := by
  have hl := idC_len hi
  refine svc_store_own (v := .agg (idC i).toArray) (by show szOf _ _ = some (idC i).toArray.size; rw [List.size_toArray, hl]; exact szId) hb (by rw [ho]; show _ = (idC i).toArray.size; rw [List.size_toArray, hl]) (fun v hv => idC_one (i := i) ?_) fun h' z b' o => k h' z b' (upd_of_one z o)
  exact hv
theorem sz_id {i : Idn} (hi : IdOk i) : (idC i).toArray.size = 33 := by rw [List.size_toArray, idC_len hi]
theorem id_var {b : Nat} {i : Idn} (hi : IdOk i) (hb : h[b]? = some (idBox i)) : Reads Tryz.prog (loadVar 24 ⟨b, 0, none⟩) h (.agg (idC i).toArray) := reads_vag agId (idC_len hi) (cells_all hb)
theorem parse_spec (s : Str) : HC Tryz.prog 38 #[.string s] h fun v h' => Keep h.size h h' ∧ v = .tuple #[.agg (idC ((idParse s).getD id0)).toArray, .bool (idParse s).isSome] := by
  refine HC_of_vc (args := [.string s]) (base := 33) (cuts := []) (bigs := []) kM Tryz.func38 ?_
  rw [vcIdParse]
  have hsz : s.data.toList.length = s.size := Array.length_toList
  have kb := keep_push h (idBox id0)
  have bb := push_at h (idBox id0)
  have zb : (h.push (idBox id0)).size = h.size + 1 := by simp
  refine ⟨_, isz_id, ?_⟩
  generalize h.push (Obj.cells (idC id0).toArray 24 (0, 0)) = H at kb bb zb
  have none_ : ∀ {h2 : Heap}, Keep H.size H h2 → idParse s = none → ∃ (h22 : Array Value), Blt Tryz.prog 24 [] h22 ∧ SVC Tryz.prog (Instr.storeAt 24 (Value.pointer (some (Addr.mk (Array.size h) (0 : Nat) none))) (Value.agg h22)) h2 fun (x23 : Unit) (h24 : Heap) =>
      ∃ (h25 : Array Value), Reads Tryz.prog (loadVar 24 (Addr.mk (Array.size h) (0 : Nat) none)) h24 (Value.agg h25) ∧ (Keep h.size h h24 ∧ Value.tuple (Array.mk [Value.agg h25, Value.bool false]) = .tuple #[.agg (idC ((idParse s).getD id0)).toArray, .bool (idParse s).isSome]) := by
    intro h2 k2 hn
    refine ⟨_, blt_id0, svc_idbox id0_ok (k2.at bb (at_lt bb)) (sz_id id0_ok) fun h9 z9 b9 u9 => ⟨_, id_var id0_ok b9, (kb.trans (k2.mono kb.size)).trans (u9.keep (by have := k2.size; omega) fun q hq => by omega), by rw [hn]; rfl⟩⟩
  cases hl : s.data.toList with
  | nil =>
    rw [hl] at hsz
    have h0 : s.size = 0 := hsz.symm
    have hn : idParse s = none := by unfold idParse; rw [ByteArray.toList_eq, hl]
    refine ⟨fun e => ?_, br_intro (fun e => ?_) fun e => ⟨fun e => (by cases e), none_ (Keep.refl _ _) hn⟩⟩
    · rw [h0] at e; simp at e
    · rw [h0] at e; simp at e
  | cons k r =>
    have hk := byte0 hl
    rw [hl, List.length_cons] at hsz
    have hp : idParse s = if idSize k = 0 ∨ r.length ≠ idSize k then none else some ⟨k, r ++ List.replicate (32 - r.length) 0⟩ := by unfold idParse; rw [ByteArray.toList_eq, hl]
    rw [hk]
    refine ⟨fun _ => ⟨by omega, by omega⟩, br_intro (fun e => ?_) fun e => ?_⟩
    · refine (idSize_spec k).mono ?_
      rintro v h2 ⟨rfl, rfl⟩
      refine ⟨_, rfl, fun _ => ⟨by omega, by omega⟩, br_intro (fun e => ?_) fun e => ?_⟩
      · have hk0 : idSize k ≠ 0 := fun h0 => by rw [h0] at e; simp at e
        have hle := idSize_le k
        refine (idSize_spec k).mono ?_
        rintro v h5 ⟨rfl, rfl⟩
        refine ⟨_, rfl, ?_⟩
        rw [wrap_i64 (by omega) (by omega)]
        refine br_intro (fun e => none_ (Keep.refl _ _) ?_) fun e => ?_
        · have : (s.size : Int) ≠ 1 + (idSize k : Nat) := by simpa using e
          rw [hp, if_pos (.inr (by omega))]
        · have hrk : r.length = idSize k := by have : (s.size : Int) = 1 + (idSize k : Nat) := by simpa using e
                                               omega
          rw [if_neg (by omega)] at hp
          have hex : (s.extract 1 s.size).data.toList = r := by
            rw [ByteArray.data_extract, Array.toList_extract, hl]
            show (List.drop 1 (k :: r)).take (s.size - 1) = r
            rw [List.drop_succ_cons, List.drop_zero, List.take_of_length_le (by omega)]
          have hes : (s.extract 1 s.size).size = r.length := by rw [← hex]; exact Array.length_toList.symm
          have ok0 : IdOk ⟨k, List.replicate 32 0⟩ := List.length_replicate
          have okP : IdOk ⟨k, r ++ List.replicate (32 - r.length) 0⟩ := by
            show (r ++ List.replicate (32 - r.length) (0 : UInt8)).length = 32
            rw [List.length_append, List.length_replicate]; omega
          have kc := keep_push h5 (idBox id0)
          have bc := push_at h5 (idBox id0)
          refine ⟨⟨by omega, by omega⟩, _, blt_id k, _, isz_id, svc_idbox ok0 bc (sz_id id0_ok) fun h14 z14 b14 u14 => ⟨⟨by omega, by omega, by omega, by omega⟩, ⟨by omega, by omega, by omega⟩, ?_⟩⟩
          have hsub : subA (some ((⟨h5.size, 0, none⟩ : Addr).add 1)) 0 32 1 = some ⟨h5.size, 1, none⟩ := by simp [subA, Addr.add_row, Addr.add]
          rw [hsub]
          have k14 : Keep h5.size h5 h14 := kc.trans (u14.keep (by simp) fun q hq => by omega)
          refine svc_copy_str (o := 1) uBs zU8 b14 (by rw [hes, sz_id ok0]; omega) fun h16 z16 b16 u16 => ?_
          rw [hes, Nat.min_eq_left (by omega), hex, List.take_length, putL_id (by omega)] at b16
          have k16 : Keep h5.size h5 h16 := k14.trans ((upd_of_one z16 u16).keep k14.size fun q hq => by omega)
          have bb16 := k16.at bb (at_lt bb)
          have hlt := at_lt bb
          refine ⟨_, rfl, _, id_load okP b16, svc_idbox okP bb16 (sz_id id0_ok) fun h20 z20 b20 u20 => ⟨_, id_var okP b20, ?_, by rw [hp]; rfl⟩⟩
          exact (kb.trans (k16.mono kb.size)).trans (u20.keep (by have := k16.size; omega) fun q hq => by omega)
      · have hk0 : idSize k = 0 := by
          by_cases h0 : ((idSize k : Nat) : Int) = 0
          · omega
          · rw [decide_eq_false h0] at e; cases e
        exact none_ (Keep.refl _ _) (by rw [hp, if_pos (.inl hk0)])
    · rw [decide_eq_false (by omega : ¬ (s.size : Int) = 0)] at e; cases e
theorem id14_spec (hs : s.size ≤ 33) : HC Tryz.prog 43 #[.string s] h fun v h' => Keep h.size h h' ∧ v = .agg (idC (idOf s)).toArray := by
  refine HC_of_vc (args := [.string s]) (base := 25) (cuts := []) (bigs := []) kM Tryz.func43 ?_
  rw [vc14Id]
  have hsz : s.data.toList.length = s.size := Array.length_toList
  have kb := keep_push h (idBox id0)
  have bb := push_at h (idBox id0)
  have zb : (h.push (idBox id0)).size = h.size + 1 := by simp
  have kc := keep_push (h.push (idBox id0)) (idBox id0)
  have bc := push_at (h.push (idBox id0)) (idBox id0)
  have bb2 := kc.at bb (at_lt bb)
  have kbc := kb.trans (kc.mono kb.size)
  refine ⟨_, isz_id, _, isz_id, ?_⟩
  rw [zb] at bc ⊢
  have zc : ((h.push (idBox id0)).push (idBox id0)).size = h.size + 2 := by simp
  generalize ((h.push (Obj.cells (idC id0).toArray 24 (0, 0))).push (idBox id0)) = H at kbc bc bb2 zc
  have fin : ∀ {G : Heap} {i : Idn}, IdOk i → Keep h.size h G → G[h.size]? = some (idBox id0) → G[h.size + 1]? = some (idBox i) → ∃ (h14 : Array Value), Reads Tryz.prog (Instr.loadAt 24 (Value.pointer (some (Addr.mk (h.size + 1) (0 : Nat) none)))) G (Value.agg h14) ∧
      SVC Tryz.prog (Instr.storeAt 24 (Value.pointer (some (Addr.mk (Array.size h) (0 : Nat) none))) (Value.agg h14)) G fun (x15 : Unit) (h16 : Heap) =>
      ∃ (h17 : Array Value), Reads Tryz.prog (loadVar 24 (Addr.mk (Array.size h) (0 : Nat) none)) h16 (Value.agg h17) ∧ (Keep h.size h h16 ∧ Value.agg h17 = .agg (idC i).toArray) := by
    intro G i hi kG b0 b1
    exact ⟨_, id_load hi b1, svc_idbox hi b0 (sz_id id0_ok) fun h16 z16 b16 u16 => ⟨_, id_var hi b16, kG.trans (u16.keep kG.size fun q hq => by omega), rfl⟩⟩
  cases hl : s.data.toList with
  | nil =>
    have e0 : (s.toList == []) = true := by rw [ByteArray.toList_eq, hl]; rfl
    have hid : idOf s = id0 := by unfold idOf; rw [hl]
    rw [hid]
    exact br_intro (fun _ => fin id0_ok kbc bb2 bc) fun e => by rw [e0] at e; cases e
  | cons k r =>
    have e0 : (s.toList == []) = false := by rw [ByteArray.toList_eq, hl]; rfl
    have hid : idOf s = ⟨k, r ++ List.replicate (32 - r.length) 0⟩ := by unfold idOf; rw [hl]
    rw [hl, List.length_cons] at hsz
    refine br_intro (fun e => by rw [e0] at e; cases e) fun _ => ⟨⟨by omega, by omega⟩, ?_⟩
    rw [byte0 hl]
    have a0 : (⟨h.size + 1, 0, none⟩ : Addr) = (⟨h.size + 1, 0, none⟩ : Addr).add 0 := by rw [Addr.add_row]
    rw [a0]
    refine svc_store_box (k := 0) zU8 bc (by rw [sz_id id0_ok]; omega) rfl (one_int _ _) fun h7 z7 b7 u7 => ?_
    rw [← a0]
    have b7 : h7[h.size + 1]? = some (idBox ⟨k, r.take 0 ++ List.replicate (32 - 0) 0⟩) := b7
    refine ⟨fun n10 G => ∃ j : Nat, n10 = ((j + 1 : Nat) : Int) ∧ j ≤ r.length ∧ G[h.size + 1]? = some (idBox ⟨k, r.take j ++ List.replicate (32 - j) 0⟩) ∧ Upd (fun q => q = h.size + 1) H G, fun n10 _ => r.length + 1 - n10.toNat, ⟨0, rfl, Nat.zero_le _, b7, u7⟩, ?_⟩
    rintro n10 G ⟨j, rfl, hj, bG, uG⟩
    have okj : IdOk ⟨k, r.take j ++ List.replicate (32 - j) 0⟩ := by
      show (r.take j ++ List.replicate (32 - j) (0 : UInt8)).length = 32
      rw [List.length_append, List.length_take, List.length_replicate]; omega
    refine br_intro (fun hlt => ?_) fun hge => ?_
    · have hlt : j < r.length := by have := of_decide_eq_true hlt; omega
      have hq : r[j]? = some (r[j]'hlt) := List.getElem?_eq_getElem hlt
      generalize r[j]'hlt = c at hq
      have e1 : IntKind.i64.wrap (((j + 1 : Nat) : Int) - 1) = (j : Int) := by rw [wrap_i64 (by omega) (by omega)]; omega
      have hby : byteAt s ((j + 1 : Nat) : Int) = (c.toNat : Int) := by
        have h2 : s.data[j + 1]? = some c := by rw [← Array.getElem?_toList, hl]; exact hq
        unfold byteAt
        rw [Int.toNat_natCast, Array.getD_eq_getD_getElem?, h2]; rfl
      rw [e1, hby, Addr.add_add, Int.toNat_natCast, Nat.mul_one]
      refine ⟨⟨by omega, by omega⟩, ⟨by omega, by omega⟩, svc_store_box (k := 1 + j) zU8 bG (by rw [sz_id okj]; omega) rfl (one_int _ _) fun h13 z13 b13 u13 => ?_⟩
      rw [List.toList_toArray, set_id (by omega) hq] at b13
      rw [show IntKind.i64.wrap (((j + 1 : Nat) : Int) + 1) = ((j + 1 + 1 : Nat) : Int) from wrap_i64 (by omega) (by omega)]
      exact ⟨⟨j + 1, rfl, hlt, b13, uG.trans u13⟩, by dsimp only; omega⟩
    · have hge : j = r.length := by have := of_decide_eq_false hge; omega
      subst hge
      rw [List.take_length] at bG okj
      rw [hid]
      exact fin okj (kbc.trans (uG.keep (by omega) fun q hq => by omega)) (uG.at bb2 (by omega)) bG
end
end Go.Proofs.YtmdcfmhkfomoaaaGreatDoor
end

section
set_option linter.unusedVariables false
set_option linter.unusedSimpArgs false
set_option maxRecDepth 100000
namespace Go.Proofs.YtmdcfmhkfomoaaaGreatDoor
open Go Go.Vc Go.Proofs Go.Dk Go.Kv

/-- a cache ahead of a store in memory that holds P; no more than t hits so far; no block of N is theirs. -/
def Ca (c : Nat) (N : Nat → Prop) (P : Ps Str) (t : Nat) (h : Heap) : Prop := ∃ s most u E hits, CaS (MemS s) s c most u N P E hits h ∧ 0 ≤ hits ∧ hits ≤ (t : Int)
section
variable {c t : Nat} {N : Nat → Prop} {P : Ps Str} {h : Heap}
theorem Ca.srt (hc : Ca c N P t h) : SrtP P := by
  obtain ⟨s, most, u, E, hits, hc, _, _⟩ := hc
  obtain ⟨r, L, ml, hr, hE, hs, hN⟩ := hc.ex
  exact (memSto 0 s).srt hs
theorem Ca.lt (hc : Ca c N P t h) : ∀ q, N q → q < h.size := by
  obtain ⟨s, most, u, E, hits, hc, _, _⟩ := hc
  exact hc.lt (memSto 0 s)
theorem Ca.own (hc : Ca c N P t h) {T N' : Nat → Prop} {h' : Heap} (u1 : UpdM T h h') (hT : ∀ q, q < h.size → T q → N q) (hN' : ∀ q, N' q → (N q ∨ h.size ≤ q) ∧ q < h'.size) : Ca c N' P t h' := by
  obtain ⟨s, most, u, E, hits, hc, h0, h1⟩ := hc
  exact ⟨s, most, u, E, hits, hc.own (memSto 0 s) u1 hT hN', h0, h1⟩
theorem Ca.keep (hc : Ca c N P t h) {h' : Heap} (k : Keep h.size h h') : Ca c N P t h' :=
  hc.own (T := fun _ => False) k.m (fun _ _ h => h.elim) fun q hq => ⟨.inl hq, Nat.lt_of_lt_of_le (hc.lt q hq) k.size⟩
/-- what came since is no business of the cache's either. -/
theorem Ca.more (hc : Ca c N P t h) {h' : Heap} (k : Keep h.size h h') : Ca c (fun q => N q ∨ (h.size ≤ q ∧ q < h'.size)) P t h' :=
  hc.own (T := fun _ => False) k.m (fun _ _ h => h.elim) fun q hq => by
    rcases hq with hq | hq
    · exact ⟨.inl hq, Nat.lt_of_lt_of_le (hc.lt q hq) k.size⟩
    · exact ⟨.inr hq.1, hq.2⟩
theorem Ca.less (hc : Ca c N P t h) {N' : Nat → Prop} (hN : ∀ q, N' q → N q) : Ca c N' P t h :=
  hc.own (UpdM.refl (fun _ => False) h) (fun _ _ h => h.elim) fun q hq => ⟨.inl (hN q hq), hc.lt q (hN q hq)⟩
theorem Ca.get (hc : Ca c N P t h) (ht : t < 900000000) (k : Str) : HC Tryz.prog 40 #[.pointer (some ⟨c, 0, none⟩), .string k] h fun v h' => UpdM (fun q => ¬ N q) h h' ∧
    v = .tuple #[.string ((mGet P k).getD ⟨#[]⟩), .bool (mGet P k).isSome, .int .i64 0] ∧ Ca c N P (t + 1) h' := by
  obtain ⟨s, most, u, E, hits, hc, h0, h1⟩ := hc
  refine (CaS.get (memSto 0 s) hc h0 (by omega) k).mono ?_
  rintro v h' ⟨u', rfl, c'⟩
  refine ⟨u', rfl, _, _, _, _, _, c', ?_, ?_⟩ <;> split <;> omega
theorem Ca.apply (hc : Ca c N P t h) {A : Option Addr} {n cc : Nat} {l : List Wr} (hs : Sl WrE h A n l) (hcc : n ≤ cc) (hn : n ≤ 9223372036854775807) (hA : n ≠ 0 → ∀ q, blk A q → N q) (hlg : long l = false) :
    HC Tryz.prog 18 #[.pointer (some ⟨c, 0, none⟩), .slice A n cc] h fun v h' => UpdM (fun q => ¬ N q) h h' ∧ v = .int .i64 0 ∧ Ca c N (doneAll P l) t h' := by
  obtain ⟨s, most, u, E, hits, hc, h0, h1⟩ := hc
  refine (CaS.apply (memSto (u + n) s) hc hs hcc hn hA fun _ => Nat.le_refl _).mono ?_
  rintro v h' ⟨u', _, a2⟩
  obtain ⟨c', rfl⟩ := a2 hlg
  exact ⟨u', rfl, _, _, _, _, _, c', h0, h1⟩
theorem Ca.scan (hc : Ca c N P t h) (hP : P.length ≤ 1000000) (k : Str) (n : Int) : HC Tryz.prog 37 #[.pointer (some ⟨c, 0, none⟩), .string k, .int .i64 n] h fun v h' => UpdM (fun q => ¬ N q) h h' ∧ Ca c N P t h' ∧
    ∃ a c, v = .tuple #[.slice a (Kv.scan P k n).length c, .int .i64 0] ∧ Sl StrPairE h' a (Kv.scan P k n).length (Kv.scan P k n) ∧ (∀ q, blk a q → h.size ≤ q ∧ q < h'.size) := by
  obtain ⟨s, most, u, E, hits, hc, h0, h1⟩ := hc
  refine (CaS.scan (memSto 0 s) hc hP k n).mono ?_
  rintro v h' ⟨u', c', r⟩
  exact ⟨u', ⟨_, _, _, _, _, c', h0, h1⟩, r⟩
theorem fresh18_spec (h : Heap) : HC Tryz.prog 17 #[] h fun v h' => Keep h.size h h' ∧ ∃ c, v = .pointer (some ⟨c, 0, none⟩) ∧ Ca c (fun q => q < h.size) [] 0 h' := by
  refine HC_of_vc (args := []) (base := 9) (cuts := []) (bigs := []) kM Tryz.func17 ?_
  rw [vc18Fresh]
  refine (mopen_spec (N := fun q => q < h.size) fun q hq => hq).mono ?_
  rintro v h1 ⟨k1, rfl, m1, z1⟩
  refine ⟨_, _, rfl, (CaS.new (memSto 0 (h.size + 1)) m1 (by omega) 5).mono ?_⟩
  rintro v h5 ⟨k5, rfl, c5⟩
  exact ⟨_, rfl, k1.trans (k5.mono k1.size), _, rfl, _, _, _, _, _, c5, Int.le_refl _, Int.le_refl _⟩
def rGet (P : Ps Str) (s : Str) : Idn × Int :=
  if nameOk s then match mGet P (rKey s) with
    | none => (id0, 5)
    | some v => match idParse v with
      | none => (id0, 4)
      | some i => (i, 0)
  else (id0, 1)
theorem rget_ok {P : Ps Str} {s : Str} : IdOk (rGet P s).1 := by
  unfold rGet
  split
  · split
    · exact id0_ok
    · split
      · exact id0_ok
      · rename_i h; exact idParse_ok h
  · exact id0_ok
theorem getD_ok (s : Str) : IdOk ((idParse s).getD id0) := by
  cases h : idParse s with
  | none => exact id0_ok
  | some i => exact idParse_ok h
theorem rget_spec (hc : Ca c N P t h) (ht : t < 900000000) (s : Str) : HC Tryz.prog 22 #[.pointer (some ⟨c, 0, none⟩), .string s] h fun v h' => UpdM (fun q => ¬ N q) h h' ∧ Ca c N P (t + 1) h' ∧
    v = .tuple #[.agg (idC (rGet P s).1).toArray, .int .i64 (rGet P s).2] := by
  refine HC_of_vc (args := [.pointer (some ⟨c, 0, none⟩), .string s]) (base := 39) (cuts := []) (bigs := []) kM Tryz.func22 ?_
  rw [vcRfGet]
  have hlt := hc.lt
  have up : Ca c N P (t + 1) h := by
    obtain ⟨s, most, u, E, hits, hc, h0, h1⟩ := hc
    exact ⟨s, most, u, E, hits, hc, h0, by omega⟩
  have kb := keep_push h (idBox id0)
  have bb := push_at h (idBox id0)
  have zb : (h.push (idBox id0)).size = h.size + 1 := by simp
  refine ⟨_, isz_id, (good_spec s).mono ?_⟩
  rintro v h2 ⟨k2, rfl⟩
  have b2 : h2[h.size]? = some (idBox id0) := k2.at bb (at_lt bb)
  have k02 : Keep h.size h h2 := kb.trans (k2.mono kb.size)
  have z2 : h.size < h2.size := at_lt b2
  clear bb kb zb k2
  refine ⟨_, rfl, br_intro (fun e => ?_) fun e => ?_⟩
  · have hr : rGet P s = (id0, 1) := by unfold rGet; rw [if_neg (by simpa using e)]
    rw [hr]
    refine ⟨_, blt_id0, svc_idbox id0_ok b2 (sz_id id0_ok) fun h6 z6 b6 u6 => ⟨_, id_var id0_ok b6, ?_⟩⟩
    have k6 := k02.trans (u6.keep k02.size fun q hq => by omega)
    exact ⟨k6.m, up.keep k6, rfl⟩
  · have hg : nameOk s = true := by simpa using e
    have hsl := nameOk_len hg
    refine (key_spec (s := s) (by omega)).mono ?_
    rintro v h9 ⟨rfl, rfl⟩
    refine ⟨_, rfl, ((hc.more k02).get ht (rKey s)).mono ?_⟩
    rintro v h12 ⟨u12, rfl, c12⟩
    have b12 : h12[h.size]? = some (idBox id0) := u12.cells b2 fun hn => hn (.inr ⟨Nat.le_refl _, z2⟩)
    have u012 : UpdM (fun q => ¬ N q) h h12 := UpdM.trans' k02.m u12 fun q _ hq hn => hq (.inl hn)
    have z12 := u12.size
    have fin : ∀ {G : Heap}, UpdM (fun q => q = h.size) h12 G → UpdM (fun q => ¬ N q) h G ∧ Ca c N P (t + 1) G := fun {G} u => by
      refine ⟨UpdM.trans' u012 u fun q hq e => by omega, c12.own u (fun q _ e => .inr ⟨by omega, by omega⟩) fun q hq => ⟨.inl (.inl hq), ?_⟩⟩
      have := hlt q hq
      have := u.size
      omega
    have bad : ∀ {G : Heap} {e : Int}, Keep h12.size h12 G → rGet P s = (id0, e) → ∃ (h16 : Array Value), Blt Tryz.prog 24 [] h16 ∧ SVC Tryz.prog (Instr.storeAt 24 (Value.pointer (some (Addr.mk (Array.size h) (0 : Nat) none))) (Value.agg h16)) G fun (x17 : Unit) (h18 : Heap) =>
        ∃ (h19 : Array Value), Reads Tryz.prog (loadVar 24 (Addr.mk (Array.size h) (0 : Nat) none)) h18 (Value.agg h19) ∧ (UpdM (fun q => ¬ N q) h h18 ∧ Ca c N P (t + 1) h18 ∧ Value.tuple (Array.mk [Value.agg h19, Value.int IntKind.i64 e]) = .tuple #[.agg (idC (rGet P s).1).toArray, .int .i64 (rGet P s).2]) := by
      intro G e kG hr
      have lt12 := at_lt b12
      refine ⟨_, blt_id0, svc_idbox id0_ok (kG.at b12 lt12) (sz_id id0_ok) fun h6 z6 b6 u6 => ⟨_, id_var id0_ok b6, ?_⟩⟩
      obtain ⟨f1, f2⟩ := fin ((kG.upd _).m.trans u6.m)
      exact ⟨f1, f2, by rw [hr]⟩
    refine ⟨_, _, _, rfl, br_intro (fun e => by simp at e) fun _ => br_intro (fun e => ?_) fun e => ?_⟩
    · refine bad (Keep.refl _ _) ?_
      have hn : mGet P (rKey s) = none := by simpa using e
      unfold rGet
      rw [if_pos hg, hn]
    · obtain ⟨v, hv⟩ : ∃ v, mGet P (rKey s) = some v := Option.isSome_iff_exists.1 (by simpa using e)
      rw [hv]
      refine (parse_spec v).mono ?_
      rintro w h25 ⟨k25, rfl⟩
      have k26 := keep_push h25 (idBox id0)
      have b26 := push_at h25 (idBox id0)
      refine ⟨_, _, rfl, _, isz_id, svc_idbox (getD_ok v) b26 (sz_id id0_ok) fun h30 z30 b30 u30 => ?_⟩
      have k30 : Keep h12.size h12 h30 := (k25.trans (k26.mono k25.size)).trans (u30.keep (by have := k25.size; simp; omega) fun q hq => by have := k25.size; omega)
      refine br_intro (fun e => bad k30 ?_) fun e => ?_
      · have hn : idParse v = none := by simpa using e
        unfold rGet
        rw [if_pos hg, hv]
        dsimp only
        rw [hn]
      · obtain ⟨i, hi⟩ : ∃ i, idParse v = some i := Option.isSome_iff_exists.1 (by simpa using e)
        have hr : rGet P s = (i, 0) := by
          unfold rGet
          rw [if_pos hg, hv]
          dsimp only
          rw [hi]
        rw [hi] at b30
        have b30 : h30[h25.size]? = some (idBox i) := b30
        have oki := idParse_ok hi
        have lt12 := at_lt b12
        refine ⟨_, id_load oki b30, svc_idbox oki (k30.at b12 lt12) (sz_id id0_ok) fun h37 z37 b37 u37 => ⟨_, id_var oki b37, ?_⟩⟩
        obtain ⟨f1, f2⟩ := fin ((k30.upd _).m.trans u37.m)
        exact ⟨f1, f2, by rw [hr]⟩
end
end Go.Proofs.YtmdcfmhkfomoaaaGreatDoor
end

section
set_option linter.unusedVariables false
set_option linter.unusedSimpArgs false
set_option maxRecDepth 100000
namespace Go.Proofs.YtmdcfmhkfomoaaaGreatDoor
open Go Go.Vc Go.Proofs Go.Dk Go.Kv Go.Cd

theorem reads_neq_bool {P : Program} {t : TypeId} {x y : Operand} {a b : Bool} {h : Heap} (ht : P.underlying t = some .bool) : Reads P (eqSem .neq t x y (.bool a) (.bool b)) h (.bool (!(a == b))) :=
  ⟨fun w _ => by simp [eqSem, eqGuard, run_neq_bool w t a b ht]⟩
theorem reads_eql_bool {P : Program} {t : TypeId} {x y : Operand} {a b : Bool} {h : Heap} (ht : P.underlying t = some .bool) : Reads P (eqSem .eql t x y (.bool a) (.bool b)) h (.bool (a == b)) :=
  ⟨fun w _ => by simp [eqSem, eqGuard, run_eql_bool w t a b ht]⟩
theorem fillL_cons {place : Nat → Option (Nat × Nat)} {cells : List Value} {i off size : Nat} {v : Value} {rest : List (Nat × Value)} (hp : place i = some (off, size)) (hs : v.cells.toList.length = size) (hc : off + size ≤ cells.length) :
    fillL place cells ((i, v) :: rest) = fillL place (putL cells off v.cells.toList) rest := by
  have : (Nat.beq v.cells.toList.length size && Nat.ble (off + v.cells.toList.length) cells.length) = true := by
    rw [hs, Bool.and_eq_true]
    exact ⟨Nat.beq_refl size, by rw [Nat.ble_eq]; exact hc⟩
  rw [fillL, hp]
  dsimp only
  rw [this]
theorem built_obj {i : Idn} (hi : IdOk i) (d : Str) : Blt Tryz.prog 36 [(0, .agg (idC i).toArray), (1, .string d)] (objC i d).toArray := by
  refine ⟨builtL_eq (cs := objC i d) ?_⟩
  have hz : (Tryz.prog.info? 36).bind (·.zero) = some (.agg (List.replicate 33 (Value.int .u8 0) ++ [Value.string ⟨#[]⟩]).toArray) := by kernel_rfl
  have hu : Tryz.prog.underlying 36 = some (.struct (Tryz.prog.fieldsOf 36)) := by kernel_rfl
  have hp : placesOf Tryz.prog (Tryz.prog.fieldsOf 36).toList = some [(0, 33), (33, 1)] := by kernel_rfl
  have hl := idC_len hi
  unfold builtL
  rw [hz, hu]
  dsimp only
  rw [hp]
  show fillL ([(0, 33), (33, 1)][·]?) (List.replicate 33 (Value.int .u8 0) ++ [.string ⟨#[]⟩]) _ = _
  rw [fillL_cons (v := .agg (idC i).toArray) (off := 0) (size := 33) rfl hl (by simp)]
  have e1 : putL (List.replicate 33 (Value.int .u8 0) ++ [.string ⟨#[]⟩]) 0 (Value.agg (idC i).toArray).cells.toList = idC i ++ [.string ⟨#[]⟩] := by
    have := putL_prefix (idC i) [] (List.replicate 33 (Value.int .u8 0) ++ [.string ⟨#[]⟩]) (by rw [hl]; simp)
    refine this.trans ?_
    rw [hl]; rfl
  rw [e1, fillL_cons (v := .string d) (off := 33) (size := 1) rfl rfl (by rw [List.length_append, hl]; exact Nat.le_refl _)]
  have e2 : putL (idC i ++ [.string ⟨#[]⟩]) 33 (Value.string d).cells.toList = objC i d := by
    have := putL_prefix [Value.string d] (idC i) [.string ⟨#[]⟩] (by simp)
    rw [hl] at this
    refine this.trans ?_
    simp [objC]
  rw [e2]; rfl
section
variable {h : Heap} {s : Str}
theorem step02_spec (n c : Int) : HC Tryz.prog 63 #[.int .u64 n, .int .u8 c] h fun v h' => h' = h ∧ ∃ m : Int, v = .int .u64 m := by
  refine HC_of_vc (args := [.int .u64 n, .int .u8 c]) (base := 25) (cuts := []) (bigs := []) kM Tryz.func63 ?_
  rw [vc02Step]
  exact ⟨by decide, by decide, by decide, by decide, rfl, _, rfl⟩
theorem sum02_spec (hs : s.size ≤ 1000) : HC Tryz.prog 54 #[.string s] h fun v h' => h' = h ∧ ∃ m : Int, v = .int .u64 m := by
  refine HC_of_vc (args := [.string s]) (base := 17) (cuts := []) (bigs := []) kM Tryz.func54 ?_
  rw [vc02Sum]
  refine ⟨fun _ n3 G => ∃ j : Nat, n3 = j ∧ j ≤ s.size ∧ G = h, fun _ n3 _ => s.size - n3.toNat, ⟨0, rfl, Nat.zero_le _, rfl⟩, ?_⟩
  rintro n2 n3 G ⟨j, rfl, hj, rfl⟩
  refine br_intro (fun e => ?_) fun e => ⟨rfl, _, rfl⟩
  have e := of_decide_eq_true e
  refine ⟨⟨by omega, e⟩, (step02_spec n2 _).mono ?_⟩
  rintro v h6 ⟨rfl, m, rfl⟩
  rw [wrap_i64 (by omega) (by omega)]
  exact ⟨_, rfl, ⟨j + 1, rfl, by omega, rfl⟩, by dsimp only; omega⟩
theorem isz_8 : IsZ Tryz.prog 134 (List.replicate 8 (Value.int .u8 0)).toArray := ⟨by kernel_rfl⟩
theorem bytes02_spec (n : Int) : HC Tryz.prog 53 #[.int .u64 n] h fun v h' => Keep h.size h h' ∧ ∃ s : Str, v = .string s ∧ s.size = 8 := by
  refine HC_of_vc (args := [.int .u64 n]) (base := 18) (cuts := []) (bigs := []) kM Tryz.func53 ?_
  rw [vc02Bytes]
  have kb := keep_push h (.cells (List.replicate 8 (Value.int .u8 0)).toArray 134 (0, 0))
  have bb := push_at h (.cells (List.replicate 8 (Value.int .u8 0)).toArray 134 (0, 0))
  refine ⟨_, isz_8, fun _ n4 G => ∃ (j : Nat) (l : List UInt8), n4 = (j : Int) - 1 ∧ j ≤ 8 ∧ l.length = 8 ∧ G[h.size]? = some (.cells (l.flatMap ByteE.enc).toArray 134 (0, 0)) ∧ Keep h.size h G, fun _ n4 _ => (n4 + 1).toNat, ⟨8, List.replicate 8 0, rfl, by omega, rfl, bb, kb⟩, ?_⟩
  rintro n3 n4 G ⟨j, l, rfl, hj, hl, bG, kG⟩
  refine br_intro (fun e => ?_) fun e => ?_
  · have e := of_decide_eq_true e
    have ej : ((j : Int) - 1).toNat = j - 1 := by omega
    have hsz : (l.flatMap ByteE.enc).toArray.size = 8 := by rw [List.size_toArray, flat_len, hl]; rfl
    rw [ej, Nat.mul_one, u8_b8]
    refine ⟨by decide, ⟨by omega, by omega⟩, svc_store_box (k := j - 1) zU8 bG (by rw [hsz]; omega) rfl (one_int _ _) fun h7 z7 b7 u7 => ⟨by decide, ?_⟩⟩
    rw [wrap_i64 (by omega) (by omega)]
    refine ⟨⟨j - 1, l.set (j - 1) (b8 (n3.tmod 256)), by omega, by omega, by rw [List.length_set]; exact hl, ?_, kG.trans (u7.keep kG.size fun q hq => by omega)⟩, by dsimp only; omega⟩
    rw [b7, flat_bytes, flat_bytes, List.map_set]
  · refine ⟨⟨by omega, by omega, by omega, by omega⟩, _, reads_string (xs := l) uBs uU8 uS ?_, kG, _, rfl, ?_⟩
    · have hsub : subA (some (⟨h.size, 0, none⟩ : Addr)) 0 8 1 = some ⟨h.size, 0, none⟩ := by simp [subA, Addr.add]
      rw [hsub]
      have := sl_bytes bG
      rw [hl] at this
      exact this
    · show l.toArray.size = 8
      rw [List.size_toArray, hl]
theorem text14_spec (hs : s.size ≤ 1000) : HC Tryz.prog 44 #[.int .u8 1, .string s] h fun v h' => Keep h.size h h' ∧ ∃ r : Str, v = .string ((⟨#[1]⟩ : Str) ++ r) ∧ r.size = 8 := by
  refine HC_of_vc (args := [.int .u8 1, .string s]) (base := 20) (cuts := []) (bigs := []) kM Tryz.func44 ?_
  rw [vc14Text1]
  refine (sum02_spec hs).mono ?_
  rintro v h1 ⟨rfl, m, rfl⟩
  refine ⟨_, rfl, (bytes02_spec m).mono ?_⟩
  rintro v h4 ⟨k4, r, rfl, hr⟩
  exact ⟨_, rfl, by rw [imax, hr]; omega, k4, r, rfl, hr⟩
/-- the name of some bytes is one that can be. -/
theorem of_spec (hs : s.size ≤ 1000) : HC Tryz.prog 29 #[.int .u8 1, .string s] h fun v h' => Keep h.size h h' ∧ ∃ i : Id', v = .agg (idC i.1).toArray ∧ idGood i.1 = true := by
  refine HC_of_vc (args := [.int .u8 1, .string s]) (base := 9) (cuts := []) (bigs := []) kM Tryz.func29 ?_
  rw [vc14Of]
  have kb := keep_push h (idBox id0)
  have bb := push_at h (idBox id0)
  refine ⟨_, isz_id, (text14_spec hs).mono ?_⟩
  rintro v h2 ⟨k2, r, rfl, hr⟩
  have hd : ((⟨#[1]⟩ : Str) ++ r).data.toList = 1 :: r.data.toList := by simp [ByteArray.data_append]
  have hrl : r.data.toList.length = 8 := (Array.length_toList).trans hr
  have hz : ((⟨#[1]⟩ : Str) ++ r).size ≤ 33 := by
    have : ((⟨#[1]⟩ : Str) ++ r).data.toList.length = 9 := by rw [hd, List.length_cons, hrl]
    have h2 : ((⟨#[1]⟩ : Str) ++ r).data.toList.length = ((⟨#[1]⟩ : Str) ++ r).size := Array.length_toList
    omega
  refine ⟨_, rfl, (id14_spec hz).mono ?_⟩
  rintro v h5 ⟨k5, rfl⟩
  have ok := idOf_ok hz
  have k25 := k2.trans (k5.mono k2.size)
  refine ⟨_, rfl, svc_idbox ok (k25.at bb (at_lt bb)) (sz_id id0_ok) fun h8 z8 b8 u8 => ⟨_, id_var ok b8, ?_, ⟨_, ok⟩, rfl, ?_⟩⟩
  · have hlt := at_lt (k25.at bb (at_lt bb))
    exact (kb.trans (k25.mono kb.size)).trans (u8.keep (by omega) fun q hq => by omega)
  · have e0 : idOf ((⟨#[1]⟩ : Str) ++ r) = ⟨1, r.data.toList ++ List.replicate (32 - r.data.toList.length) 0⟩ := by unfold idOf; rw [hd]
    show idGood (idOf ((⟨#[1]⟩ : Str) ++ r)) = true
    rw [e0]
    unfold idGood
    have e : idSize 1 = 8 := rfl
    rw [e, hrl]
    show (decide (0 < 8) && ((r.data.toList ++ List.replicate 24 0).drop 8).all fun b => decide (b = 0)) = true
    have e3 : (r.data.toList ++ List.replicate 24 (0 : UInt8)).drop 8 = List.replicate 24 0 := by rw [← hrl, List.drop_left]
    rw [e3]; decide
end
theorem done_one (w : Wr) (hg : w.gone = false) : doneAll [] [w] = [(w.key, w.val)] := by
  simp [doneAll, done1, sput, hg]
theorem alive18_spec (h : Heap) : HC Tryz.prog 8 #[] h fun v h' => Turn h h' ∧ v = .bool true := by
  refine HC_of_vc (args := []) (base := 33) (cuts := []) (bigs := []) kM Tryz.func8 ?_
  rw [vc18Alive]
  refine (fresh18_spec h).mono ?_
  rintro v h1 ⟨k1, c, rfl, c1⟩
  refine ⟨_, rfl, (of_spec (by decide)).mono ?_⟩
  rintro v h4 ⟨k4, i, rfl, gi⟩
  have kp := keep_push h4 (idBox id0)
  have bp := push_at h4 (idBox id0)
  refine ⟨_, rfl, _, isz_id, svc_idbox i.2 bp (sz_id id0_ok) fun h8 z8 b8 u8 => ⟨_, id_load i.2 b8, ?_⟩⟩
  have k48 : Keep h4.size h4 h8 := kp.trans (u8.keep (by simp) fun q hq => by omega)
  refine (set_spec (s := ⟨#[109, 97, 105, 110]⟩) (by decide) i.2).mono ?_
  rintro v h11 ⟨k11, rfl⟩
  have k411 := k48.trans (k11.mono k48.size)
  refine ⟨_, _, _, rfl, svc_wr1 (w := ⟨rKey ⟨#[109, 97, 105, 110]⟩, idText i.1, false⟩) fun h16 k16 z16 s16 => ⟨_, _, _, rfl, ?_⟩⟩
  have k416 := k411.trans (k16.mono k411.size)
  have k116 := k4.trans (k416.mono k4.size)
  have z1 := k4.size
  have z4 := at_lt b8
  have z11 := k11.size
  have b16 : h16[h4.size]? = some (idBox i.1) := (k11.trans (k16.mono k11.size)).at b8 z4
  have c16 := c1.more k116
  have hlen := idText_len i.2
  have hlong : long [(⟨rKey ⟨#[109, 97, 105, 110]⟩, idText i.1, false⟩ : Wr)] = false := by
    have e1 : (rKey ⟨#[109, 97, 105, 110]⟩).size = 5 := by decide
    unfold long
    rw [List.any_cons, List.any_nil]
    dsimp only
    rw [e1, decide_eq_false (by omega), decide_eq_false (by omega : ¬ 160 < (idText i.1).size)]; rfl
  refine (c16.apply s16 (Nat.le_refl _) (by decide) (fun _ q hq => .inr ?_) hlong).mono ?_
  · obtain ⟨p, e, hp⟩ := hq
    cases e
    subst hp
    have := k411.size
    exact ⟨by show h1.size ≤ h11.size; omega, by show h11.size < h16.size; omega⟩
  rintro v h21 ⟨u21, rfl, c21⟩
  rw [done_one _ rfl] at c21
  have hg : rGet [(rKey ⟨#[109, 97, 105, 110]⟩, idText i.1)] ⟨#[109, 97, 105, 110]⟩ = (i.1, 0) := by
    have e1 : nameOk ⟨#[109, 97, 105, 110]⟩ = true := by decide
    have e2 : mGet [(rKey ⟨#[109, 97, 105, 110]⟩, idText i.1)] (rKey ⟨#[109, 97, 105, 110]⟩) = some (idText i.1) := by unfold mGet; rw [if_pos rfl]
    unfold rGet
    rw [if_pos e1, e2]
    dsimp only
    rw [idParse_text i.2 gi]
  refine ⟨_, rfl, (rget_spec c21 (by decide) ⟨#[109, 97, 105, 110]⟩).mono ?_⟩
  rintro v h24 ⟨u24, c24, rfl⟩
  rw [hg]
  have hN : ¬ ¬ (h4.size < h.size ∨ (h1.size ≤ h4.size ∧ h4.size < h16.size)) := fun hn => hn (.inr ⟨z1, by have := k16.size; omega⟩)
  have b24 : h24[h4.size]? = some (idBox i.1) := u24.cells (u21.cells b16 hN) hN
  have kp2 := keep_push h24 (idBox id0)
  have bp2 := push_at h24 (idBox id0)
  refine ⟨_, _, rfl, _, isz_id, svc_idbox i.2 bp2 (sz_id id0_ok) fun h29 z29 b29 u29 => ?_⟩
  have k29 : Keep h24.size h24 h29 := kp2.trans (u29.keep (by simp) fun q hq => by omega)
  refine ⟨_, fun _ => id_load i.2 b29, _, fun _ => id_load i.2 (k29.at b24 (at_lt b24)), _, fun _ => reads_id.1, br_intro (fun _ => ?_) fun e => by rw [decide_eq_true rfl] at e; cases e⟩
  refine (good_spec ⟨#[77, 97, 105, 110]⟩).mono ?_
  rintro v h34 ⟨k34, rfl⟩
  have e2 : nameOk ⟨#[77, 97, 105, 110]⟩ = false := by decide
  refine ⟨_, rfl, ?_, by rw [e2]; rfl⟩
  have t16 : Turn h h16 := ((k1.trans (k116.mono k1.size)).upd fun _ => False).m.turn fun _ _ h => h
  have t24 := turn_of (turn_of t16 u21 fun q hq => .inl hq) u24 fun q hq => .inl hq
  exact t24.trans (((k29.trans (k34.mono k29.size)).upd fun _ => False).m.turn fun _ _ h => h)
end Go.Proofs.YtmdcfmhkfomoaaaGreatDoor
end

section
set_option linter.unusedVariables false
set_option linter.unusedSimpArgs false
set_option maxRecDepth 100000
namespace Go.Proofs.YtmdcfmhkfomoaaaGreatDoor
open Go Go.Vc Go.Proofs Go.Dk Go.Kv

theorem rKey_inj {a b : Str} (h : rKey a = rKey b) : a = b := by
  have := congrArg (fun s : Str => s.data.toList) h
  simp [rKey, ByteArray.data_append] at this
  exact str_ext (by rw [ByteArray.toList_eq, ByteArray.toList_eq, this])
theorem oKey_inj {i j : Idn} (h : oKey i = oKey j) : idText i = idText j := by
  have := congrArg (fun s : Str => s.data.toList) h
  simp [oKey, ByteArray.data_append] at this
  exact str_ext (by rw [ByteArray.toList_eq, ByteArray.toList_eq, this])
theorem rKey_ne {a : Str} {i : Idn} (h : rKey a = oKey i) : False := by
  have := congrArg (fun s : Str => s.data.toList) h
  simp [oKey, rKey, ByteArray.data_append] at this
theorem nil_eq {s : Str} : (s.toList == []) = decide (s = ⟨#[]⟩) := by
  have h := beq_dec' s ⟨#[]⟩
  have e : (⟨#[]⟩ : Str).toList = [] := by rw [ByteArray.toList_eq]
  rw [e] at h
  exact h
theorem beq_go (l m : List UInt8) : (List.brecOn.go (motive := fun (x : List UInt8) => List UInt8 → Bool) l List.beq._f).1 m = (l == m) := by kernel_rfl
theorem wr_flat : Flat Tryz.prog 31 #[(Tryz.prog.fieldsOf 31)[0]!, (Tryz.prog.fieldsOf 31)[1]!, (Tryz.prog.fieldsOf 31)[2]!] := ⟨uW, by kernel_rfl, by kernel_rfl⟩
/-- two writes compared: the same. -/
theorem reads_wr_same {h : Heap} {x y : Operand} {w : Wr} : Reads Tryz.prog (eqSem .eql 31 x y (.agg (Array.mk [.string w.key, .string w.val, .bool w.gone])) (.agg (Array.mk [.string w.key, .string w.val, .bool w.gone]))) h (.bool true) := by
  refine (reads_eq wr_flat (r := true) ?_).1
  have e : eqFl Tryz.prog [.string w.key, .string w.val, .bool w.gone] [.string w.key, .string w.val, .bool w.gone] [(Tryz.prog.fieldsOf 31)[0]!, (Tryz.prog.fieldsOf 31)[1]!, (Tryz.prog.fieldsOf 31)[2]!] = some ((w.key.toList == w.key.toList) && ((w.val.toList == w.val.toList) && ((w.gone == w.gone) && true))) := by kernel_rfl
  refine Eq.trans e ?_
  simp
set_option maxHeartbeats 1000000 in
theorem apart_spec {h : Heap} {a b : Str} {x y : Id'} : HC Tryz.prog 3 #[.string a, .string b, .agg (idC x.1).toArray, .agg (idC y.1).toArray] h fun v h' => Keep h.size h h' ∧ v = .bool true := by
  refine hc_stay ?_
  refine HC_of_vc (args := [.string a, .string b, .agg (idC x.1).toArray, .agg (idC y.1).toArray]) (base := 54) (cuts := []) (bigs := []) kM Tryz.func3 ?_
  rw [vc18Apart]
  have kb := keep_push h (idBox x.1)
  have bb := push_at h (idBox x.1)
  have zb : (h.push (idBox x.1)).size = h.size + 1 := by simp
  have kc := keep_push (h.push (idBox x.1)) (idBox y.1)
  have bc := push_at (h.push (idBox x.1)) (idBox y.1)
  have bb2 := kc.at bb (at_lt bb)
  have kbc := kb.trans (kc.mono kb.size)
  rw [zb] at bc ⊢
  generalize ((h.push (Obj.cells (idC x.1).toArray 24 (0, 0))).push (Obj.cells (idC y.1).toArray 24 (0, 0))) = H at kbc bc bb2
  have tH : Turn h H := (kbc.upd fun _ => False).m.turn fun _ _ h => h
  refine (alive18_spec H).mono ?_
  rintro v h1 ⟨t1, rfl⟩
  have bx := t1.stay _ _ bb2 rfl
  have by_ := t1.stay _ _ bc rfl
  have t01 := tH.trans t1
  have tk : ∀ {G : Heap}, Keep h1.size h1 G → Turn h G := fun {G} k => t01.trans ((k.upd fun _ => False).m.turn fun _ _ h => h)
  refine ⟨_, rfl, br_intro (fun e => by cases e) fun _ => br_intro (fun _ => ⟨t01, rfl⟩) fun e => ?_⟩
  simp only [Bool.or_eq_false_iff, decide_eq_false_iff_not] at e
  refine ⟨fun G => Keep h1.size h1 G, Keep.refl _ _, (key_spec (s := a) (by omega)).mono ?_⟩
  rintro v h5 ⟨rfl, rfl⟩
  refine ⟨_, rfl, Keep.refl _ _, _, fun G kG => id_load x.2 (kG.at bx (at_lt bx)), (okey_spec x.2).mono ?_⟩
  rintro v h10 ⟨k10, rfl⟩
  refine ⟨_, rfl, br_intro (fun _ => ?_) fun e1 => ?_⟩
  · refine (key_spec (s := a) (by omega)).mono ?_
    rintro v h13 ⟨rfl, rfl⟩
    refine ⟨_, rfl, (key_spec (s := b) (by omega)).mono ?_⟩
    rintro v h16 ⟨rfl, rfl⟩
    refine ⟨_, rfl, _, fun _ => reads_neq_bool uB, br_intro (fun e2 => ?_) fun _ => ?_⟩
    · exfalso
      rw [beq_dec', beq_dec'] at e2
      have : decide (rKey a = rKey b) = decide (a = b) := decide_eq_decide.2 ⟨rKey_inj, fun h => by rw [h]⟩
      rw [this] at e2
      simp at e2
    · refine ⟨fun G => Keep h5.size h5 G, k10, _, id_load x.2 (k10.at bx (at_lt bx)), (name14_spec x.2).mono ?_⟩
      rintro v h22 ⟨k22, rfl⟩
      have k122 := k10.trans (k22.mono k10.size)
      refine ⟨_, rfl, k122, _, fun _ => id_load y.2 (k122.at by_ (at_lt by_)), br_intro (fun e3 => ?_) fun _ => ⟨(idC id0).toArray, fun e => (by cases e), tk k122, rfl⟩⟩
      rw [beq_go, nil_eq] at e3
      have gx : idGood x.1 = true := by
        cases hg : idGood x.1 with
        | true => rfl
        | false => rw [decide_eq_true (idText_nil.2 hg)] at e3; cases e3
      refine (name14_spec y.2).mono ?_
      rintro v h26 ⟨k26, rfl⟩
      have k126 := k122.trans (k26.mono k122.size)
      refine ⟨_, rfl, k126, _, fun _ => id_load x.2 (k126.at bx (at_lt bx)), br_intro (fun e4 => ?_) fun _ => ⟨tk k126, rfl⟩⟩
      rw [beq_go, nil_eq] at e4
      have gy : idGood y.1 = true := by
        cases hg : idGood y.1 with
        | true => rfl
        | false => rw [decide_eq_true (idText_nil.2 hg)] at e4; cases e4
      refine (okey_spec x.2).mono ?_
      rintro v h30 ⟨k30, rfl⟩
      have k130 := k126.trans (k30.mono k126.size)
      refine ⟨_, rfl, k130, _, fun _ G kG => id_load y.2 (kG.at by_ (at_lt by_)), (okey_spec y.2).mono ?_⟩
      rintro v h35 ⟨k35, rfl⟩
      have k135 := k130.trans (k35.mono k130.size)
      refine ⟨_, rfl, k135, _, fun _ G kG => id_load x.2 (kG.at bx (at_lt bx)), _, fun _ G kG => id_load y.2 (kG.at by_ (at_lt by_)), _, fun _ G kG => reads_id.1, _, fun _ => reads_eql_bool uB, tk k135, ?_⟩
      rw [beq_dec']
      have : decide (oKey x.1 = oKey y.1) = decide (x.1 = y.1) := decide_eq_decide.2 ⟨fun h => idText_inj x.2 y.2 gx gy (oKey_inj h), fun h => by rw [h]⟩
      rw [this]; simp
  · exfalso
    rw [beq_go, beq_dec', decide_eq_false fun h => rKey_ne h] at e1
    cases e1
set_option maxHeartbeats 1000000 in
theorem tells_spec {h : Heap} {a d : Str} {x : Id'} : HC Tryz.prog 4 #[.string a, .agg (idC x.1).toArray, .string d] h fun v h' => Keep h.size h h' ∧ v = .bool true := by
  refine hc_stay ?_
  refine HC_of_vc (args := [.string a, .agg (idC x.1).toArray, .string d]) (base := 68) (cuts := []) (bigs := []) kM Tryz.func4 ?_
  rw [vc18Tells]
  have kb := keep_push h (idBox x.1)
  have bb := push_at h (idBox x.1)
  generalize h.push (Obj.cells (idC x.1).toArray 24 (0, 0)) = H at kb bb
  have tH : Turn h H := (kb.upd fun _ => False).m.turn fun _ _ h => h
  refine (alive18_spec H).mono ?_
  rintro v h1 ⟨t1, rfl⟩
  have bx := t1.stay _ _ bb rfl
  have t01 := tH.trans t1
  have tk : ∀ {G : Heap}, Keep h1.size h1 G → Turn h G := fun {G} k => t01.trans ((k.upd fun _ => False).m.turn fun _ _ h => h)
  have ld : ∀ {G : Heap}, Keep h1.size h1 G → Reads Tryz.prog (Instr.loadAt 24 (.pointer (some ⟨h.size, 0, none⟩))) G (.agg (idC x.1).toArray) := fun {G} k => id_load x.2 (k.at bx (at_lt bx))
  have hlt := idText_len x.2
  refine ⟨_, rfl, br_intro (fun e => by cases e) fun _ => br_intro (fun _ => ⟨t01, rfl⟩) fun e => ?_⟩
  simp only [Bool.or_eq_false_iff, decide_eq_false_iff_not] at e
  have hr : (((1 + a.size : Nat) : Int)) ≤ IntKind.i64.max := by rw [imax]; omega
  have ho : (((1 + (idText x.1).size : Nat) : Int)) ≤ IntKind.i64.max := by rw [imax]; omega
  refine ⟨_, ld (Keep.refl _ _), (name14_spec x.2).mono ?_⟩
  rintro v h5 ⟨k5, rfl⟩
  refine ⟨_, rfl, (good_spec a).mono ?_⟩
  rintro v h8 ⟨k8, rfl⟩
  have k18 := k5.trans (k8.mono k5.size)
  refine ⟨_, rfl, (good18_spec a).mono ?_⟩
  rintro v h11 ⟨rfl, rfl⟩
  refine ⟨_, rfl, _, reads_eql_bool uB, br_intro (fun _ => ?_) fun e => by simp at e⟩
  refine (key_spec (s := a) (by omega)).mono ?_
  rintro v h15 ⟨rfl, rfl⟩
  refine ⟨_, rfl, fun _ => hr, _, fun _ => ld k18, br_intro (fun _ => ?_) fun e => ?_⟩
  · refine (okey_spec x.2).mono ?_
    rintro v h19 ⟨k19, rfl⟩
    have k119 := k18.trans (k19.mono k18.size)
    refine ⟨_, rfl, fun _ => ho, _, fun _ => ld k119, br_intro (fun _ => ?_) fun e => ?_⟩
    · refine (set_spec (s := a) (by omega) x.2).mono ?_
      rintro v h23 ⟨k23, rfl⟩
      have k123 := k119.trans (k23.mono k119.size)
      refine ⟨_, _, _, rfl, fun _ => hr, _, fun _ => reads_wr_same (w := ⟨rKey a, idText x.1, false⟩), br_intro (fun _ => ?_) fun e => by cases e⟩
      refine (drop_spec (s := a) (by omega)).mono ?_
      rintro v h29 ⟨k29, rfl⟩
      have k129 := k123.trans (k29.mono k123.size)
      refine ⟨_, _, _, rfl, fun _ => hr, _, fun _ => reads_wr_same (w := ⟨rKey a, ⟨#[]⟩, true⟩), _, fun _ => ld k129, _, fun _ => built_obj x.2 d, br_intro (fun _ => ?_) fun e => by cases e⟩
      refine (put_spec x.2 d).mono ?_
      rintro v h37 ⟨k37, rfl⟩
      exact ⟨_, _, _, rfl, fun _ => ho, _, fun _ => reads_wr_same (w := ⟨oKey x.1, d, false⟩), tk (k129.trans (k37.mono k129.size)), rfl⟩
    · rw [beq_go] at e
      simp [oKey] at e
  · rw [beq_go] at e
    simp [rKey] at e
end Go.Proofs.YtmdcfmhkfomoaaaGreatDoor
end
