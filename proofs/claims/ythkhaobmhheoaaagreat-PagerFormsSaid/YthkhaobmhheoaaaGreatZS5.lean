/-
  Texts of this seat, laid one behind the other: PgS PgG5. Conditions: none.
-/
import Derived.Test.YthkhaobmhheoaaaGreatZU
import Derived.Test.YthkhaobmhheoaaaGreatZP3
import Derived.Test.YthkhaobmhheoaaaGreatZH3
import Derived.Test.YthkhaobmhheoaaaGreatZL4
section
set_option linter.unusedVariables false
set_option linter.unusedSimpArgs false
set_option maxRecDepth 100000
namespace Go.Proofs.YthkhaobmhheoaaaGreat
open Go Go.Vc Go.Proofs Go.Dk Go.Cd

theorem mk_eta (s : Str) : (⟨(bytesL s).toArray⟩ : Str) = s := by cases s; simp
theorem szS : szOf Tryz.prog 9 = some 1 := by kernel_rfl
/-- the document's reader on a heap. -/
def RrAt (h : Heap) (r : Nat) (o : Rs) : Prop := h[r]? = some (.cells #[.string ⟨(o.getD []).toArray⟩, .bool o.isNone] 90 (0, 0))
section
variable {h h' : Heap} {r : Nat} {o : Rs}
theorem RrAt.rs (hr : RrAt h r o) : Reads Tryz.prog (Instr.loadAt 9 (.pointer (some ⟨r, 0, none⟩))) h (.string ⟨(o.getD []).toArray⟩) := reads_load scS (cell_cells0 hr rfl)
theorem RrAt.rb (hr : RrAt h r o) : Reads Tryz.prog (Instr.loadAt 4 (.pointer (some ((⟨r, 0, none⟩ : Addr).add 1)))) h (.bool o.isNone) := reads_load scB (cell_cells hr rfl)
theorem RrAt.put {K : Unit → Heap → Prop} {s : List UInt8} (hr : RrAt h r o) (ho : o.isNone = false) (k : ∀ h', RrAt h' r (some s) → Upd (fun i => i = r) h h' → K () h') : SVC Tryz.prog (Instr.storeAt 9 (.pointer (some ⟨r, 0, none⟩)) (.string ⟨s.toArray⟩)) h K := by
  have sv := svc_store_box (P := Tryz.prog) (t := 9) (v := .string ⟨s.toArray⟩) (K := K) (k := 0) szS hr (by simp) rfl (one_string _) fun h6 z6 b6 u6 => k h6 (by unfold RrAt; rw [b6]; simp [ho]) u6
  rwa [Addr.add_row] at sv
theorem rrfail_spec (hr : RrAt h r o) : HC Tryz.prog 85 #[.pointer (some ⟨r, 0, none⟩)] h fun v h' => RrAt h' r none ∧ Upd (fun i => i = r) h h' ∧ v = .tuple #[] := by
  refine HC_of_vc (args := [.pointer (some ⟨r, 0, none⟩)]) (base := 8) (cuts := []) (bigs := []) hm Tryz.func85 ?_
  rw [vcRrFail]
  refine ⟨_, rfl, svc_store_box (k := 1) szB hr (by simp) rfl (one_bool _) fun h3 z3 b3 u3 => ⟨_, rfl, ?_⟩⟩
  have sv := svc_store_box (P := Tryz.prog) (t := 9) (v := .string ⟨#[]⟩) (K := fun _ h' => RrAt h' r none ∧ Upd (fun i => i = r) h h' ∧ Value.tuple #[] = .tuple #[]) (k := 0) szS b3 (by simp) rfl (one_string _) fun h6 z6 b6 u6 =>
    ⟨by unfold RrAt; rw [b6]; simp, u3.trans u6, rfl⟩
  rwa [Addr.add_row] at sv
theorem rrgood_spec (hr : RrAt h r o) : HC Tryz.prog 51 #[.pointer (some ⟨r, 0, none⟩)] h fun v h' => h' = h ∧ v = .bool o.isSome := by
  refine HC_of_vc (args := [.pointer (some ⟨r, 0, none⟩)]) (base := 8) (cuts := []) (bigs := []) hm Tryz.func51 ?_
  rw [vcRrGood]
  exact ⟨_, rfl, _, hr.rb, rfl, by cases o <;> rfl⟩
theorem byteAt_mk (l : List UInt8) (k : Nat) : byteAt (⟨l.toArray⟩ : Str) (k : Int) = ((l.getD k 0).toNat : Int) := by
  unfold byteAt
  simp [List.getD]
theorem extract_mk (l : List UInt8) (a b : Nat) : (⟨l.toArray⟩ : Str).extract a b = ⟨((l.drop a).take (b - a)).toArray⟩ := by
  apply ByteArray.ext
  simp [ByteArray.extract, ByteArray.copySlice, List.take_drop]
theorem horner {a c : Nat} (h : a * 128 + c % 128 < 18446744073709551616) : IntKind.u64.wrap (IntKind.u64.wrap ((a : Int) * 128) + IntKind.u64.wrap ((c : Int).tmod 128)) = ((c % 128 + 128 * a : Nat) : Int) := by
  have e : (c : Int).tmod 128 = ((c % 128 : Nat) : Int) := by
    rw [Int.tmod_eq_emod_of_nonneg (by omega)]; rfl
  rw [e]
  simp only [IntKind.wrap, IntKind.signed, IntKind.bits]
  simp
  omega
set_option maxHeartbeats 1000000 in
theorem rruint_spec {l : List UInt8} (hr : RrAt h r (some l)) (hl : l.length ≤ 1099511627776) : HC Tryz.prog 84 #[.pointer (some ⟨r, 0, none⟩)] h fun v h' => RrAt h' r (rUint (some l)).2 ∧ Upd (fun i => i = r) h h' ∧ v = .int .u64 (rUint (some l)).1 ∧ (rUint (some l)).1 < 18446744073709551616 := by
  refine HC_of_vc (args := [.pointer (some ⟨r, 0, none⟩)]) (base := 89) (cuts := []) (bigs := []) hm Tryz.func84 ?_
  rw [vcRrUint]
  have hle := lead_le l
  have hsz : (⟨((some l).getD []).toArray⟩ : Str).size = l.length := rfl
  have hbt : ∀ k : Nat, byteAt (⟨((some l).getD []).toArray⟩ : Str) (k : Int) = ((l.getD k 0).toNat : Int) := byteAt_mk l
  have hru := rUint_lead l
  have fl : (l.length ≤ lead l ∨ 9 < lead l ∨ (0 < lead l ∧ (l.getD (lead l) 0).toNat = 0) ∨ (lead l = 9 ∧ 1 < (l.getD (lead l) 0).toNat)) → HC Tryz.prog 85 (Array.mk [.pointer (some ⟨r, 0, none⟩)]) h fun v h' => v = .tuple (Array.mk []) ∧ RrAt h' r (rUint (some l)).2 ∧ Upd (fun i => i = r) h h' ∧ Value.int .u64 0 = .int .u64 (rUint (some l)).1 ∧ (rUint (some l)).1 < 18446744073709551616 := fun hb => by
    refine (rrfail_spec hr).mono ?_
    rintro v h' ⟨h1, u1, rfl⟩
    rw [hru, if_pos hb]
    exact ⟨rfl, h1, u1, rfl, by decide⟩
  refine ⟨fun n2 H => ∃ k : Nat, n2 = k ∧ k ≤ lead l ∧ H = h, fun n2 _ => l.length - n2.toNat, ⟨0, rfl, Nat.zero_le _, rfl⟩, ?_⟩
  rintro n2 H ⟨k, rfl, hk, rfl⟩
  refine ⟨_, rfl, _, hr.rs, _, fun _ => rfl, _, fun _ => hr.rs, fun e => ?_, ?_⟩
  · have e := of_decide_eq_true e
    exact ⟨by omega, e⟩
  rw [hbt, hsz]
  refine br_intro (fun e => ?_) fun e => ?_
  · simp only [Bool.and_eq_true, decide_eq_true_eq] at e
    have hk2 : k < lead l := by
      by_cases h1 : k < lead l
      · exact h1
      · have : k = lead l := by omega
        subst this
        have := lead_lt l (by omega)
        omega
    rw [wrap_i64 (by omega) (by omega)]
    exact ⟨⟨k + 1, rfl, hk2, rfl⟩, by dsimp only; omega⟩
  · have hk2 : k = lead l := by
      by_cases h1 : k < lead l
      · have := lead_ge l k h1
        simp only [Bool.and_eq_false_iff, decide_eq_false_iff_not] at e
        omega
      · omega
    subst hk2
    refine ⟨_, rfl, _, hr.rs, _, fun _ => rfl, _, fun _ => hr.rs, fun e2 => ?_, ?_⟩
    · simp only [Bool.and_eq_true, Bool.not_eq_true', Bool.or_eq_false_iff, decide_eq_true_eq, decide_eq_false_iff_not] at e2
      exact ⟨by omega, by omega⟩
    rw [hbt, hsz]
    refine br_intro (fun e2 => fl ?_) fun e2 => ?_
    · simp only [Bool.or_eq_true, Bool.and_eq_true, decide_eq_true_eq, beq_iff_eq] at e2
      omega
    simp only [Bool.or_eq_false_iff, Bool.and_eq_false_iff, decide_eq_false_iff_not, beq_eq_false_iff_ne, ne_eq] at e2
    refine ⟨_, fun _ => rfl, _, fun _ => hr.rs, fun e3 => ?_, br_intro (fun e3 => fl ?_) fun e3 => ?_⟩
    · have e3 : (lead l : Int) = 9 := by simpa using e3
      rw [hsz]
      exact ⟨by omega, by omega⟩
    · simp only [Bool.and_eq_true, decide_eq_true_eq, beq_iff_eq] at e3
      have : (9 : Int) = ((9 : Nat) : Int) := rfl
      rw [this, hbt] at e3
      have h9 : lead l = 9 := by omega
      rw [h9]
      omega
    have hb : ¬ (l.length ≤ lead l ∨ 9 < lead l ∨ (0 < lead l ∧ (l.getD (lead l) 0).toNat = 0) ∨ (lead l = 9 ∧ 1 < (l.getD (lead l) 0).toNat)) := by
      have e4 : ¬ (lead l = 9 ∧ 1 < (l.getD (lead l) 0).toNat) := fun ⟨h9, h1⟩ => by
        have hb9 := hbt 9
        have hc9 : ((9 : Nat) : Int) = 9 := rfl
        rw [h9] at e3 h1
        rw [hc9] at hb9 e3
        rw [hb9] at e3
        simp at e3 h1
        omega
      omega
    have hL : lead l < l.length := by omega
    have hfull : hv (l.take (lead l + 1)) < 18446744073709551616 := by
      have e5 : l.take (lead l + 1) = l.take (lead l) ++ [l.getD (lead l) 0] := by
        rw [List.take_succ_eq_append_getElem hL]
        simp [List.getD, List.getElem?_eq_getElem hL]
      rw [e5, hv_snoc]
      have h1 := hv_lt (l.take (lead l))
      rw [List.length_take, Nat.min_eq_left (by omega)] at h1 ⊢
      by_cases h9 : lead l = 9
      · have h2 : (l.getD (lead l) 0).toNat ≤ 1 := by omega
        rw [h9] at h1 h2 ⊢
        have h3 : (l.getD 9 0).toNat % 128 ≤ 1 := by omega
        have : (128 : Nat) ^ 9 * ((l.getD 9 0).toNat % 128) ≤ 128 ^ 9 * 1 := Nat.mul_le_mul_left _ h3
        have e6 : (128 : Nat) ^ 9 = 9223372036854775808 := by decide
        omega
      · have h2 : 128 ^ lead l ≤ 128 ^ 8 := Nat.pow_le_pow_right (by decide) (by omega)
        have h3 : (l.getD (lead l) 0).toNat % 128 ≤ 127 := by omega
        have : (128 : Nat) ^ lead l * ((l.getD (lead l) 0).toNat % 128) ≤ 128 ^ 8 * 127 := Nat.mul_le_mul h2 h3
        have e6 : (128 : Nat) ^ 8 = 72057594037927936 := by decide
        omega
    have hdr : ∀ k, k ≤ lead l + 1 → hv ((l.take (lead l + 1)).drop k) ≤ hv (l.take (lead l + 1)) := by
      intro k
      induction k with
      | zero => intro _; exact Nat.le_refl _
      | succ k ih =>
        intro hk
        have h1 := ih (by omega)
        have h2 := hv_drop (l.take (lead l + 1)) k (by rw [List.length_take]; omega)
        omega
    refine ⟨fun n20 n21 H2 => ∃ k : Nat, k ≤ lead l + 1 ∧ n21 = (k : Int) - 1 ∧ n20 = (hv ((l.take (lead l + 1)).drop k) : Nat) ∧ H2 = H, fun _ n21 _ => (n21 + 1).toNat, ⟨lead l + 1, Nat.le_refl _, by omega, ?_, rfl⟩, ?_⟩
    · rw [List.drop_of_length_le (by rw [List.length_take]; omega)]; rfl
    rintro n20 n21 H2 ⟨k, hk, rfl, rfl, rfl⟩
    refine br_intro (fun e4 => ?_) fun e4 => ?_
    · have e4 := of_decide_eq_true e4
      obtain ⟨k, rfl⟩ : ∃ k', k = k' + 1 := ⟨k - 1, by omega⟩
      have e5 : ((k + 1 : Nat) : Int) - 1 = (k : Nat) := by omega
      rw [e5]
      refine ⟨_, rfl, _, hr.rs, ⟨by omega, by rw [hsz]; omega⟩, by decide, ?_⟩
      rw [hbt]
      have h1 := hv_drop (l.take (lead l + 1)) k (by rw [List.length_take]; omega)
      have h2 : (l.take (lead l + 1)).getD k 0 = l.getD k 0 := by simp [List.getD, List.getElem?_take, (by omega : k < lead l + 1)]
      rw [h2] at h1
      have h3 := hdr k (by omega)
      rw [horner (by omega), wrap_i64 (by omega) (by omega)]
      exact ⟨⟨k, by omega, rfl, by rw [h1], rfl⟩, by dsimp only; omega⟩
    · have e4 := of_decide_eq_false e4
      have hk0 : k = 0 := by omega
      subst hk0
      rw [wrap_i64 (by omega) (by omega)]
      refine ⟨_, rfl, _, hr.rs, ⟨by omega, by rw [hsz]; omega, by omega⟩, _, rfl, ?_⟩
      have e7 : ((lead l : Int) + 1).toNat = lead l + 1 := by omega
      rw [e7, hsz]
      show SVC _ (Instr.storeAt _ _ (.string ((⟨l.toArray⟩ : Str).extract (lead l + 1) l.length))) _ _
      rw [extract_mk]
      refine hr.put rfl fun h' h1 u1 => ?_
      rw [hru, if_neg hb]
      refine ⟨?_, u1, rfl, hfull⟩
      rwa [List.take_of_length_le (by rw [List.length_drop]; omega)] at h1
theorem rrtake_spec {m : Int} (hr : RrAt h r o) : HC Tryz.prog 86 #[.pointer (some ⟨r, 0, none⟩), .int .i64 m] h fun v h' => RrAt h' r (rTake m o).2 ∧ Upd (fun i => i = r) h h' ∧ v = .string (rTake m o).1 := by
  refine HC_of_vc (args := [.pointer (some ⟨r, 0, none⟩), .int .i64 m]) (base := 41) (cuts := []) (bigs := []) hm Tryz.func86 ?_
  rw [vcRrTake]
  refine ⟨_, fun _ => rfl, _, fun _ => hr.rs, _, fun _ => rfl, _, fun _ => hr.rb, br_intro (fun e => ?_) fun e => ?_⟩
  · refine (rrfail_spec hr).mono ?_
    rintro v h8 ⟨hr8, u8, rfl⟩
    have : rTake m o = (⟨#[]⟩, none) := by
      cases o with
      | none => rfl
      | some l =>
        unfold rTake
        dsimp only
        rw [if_pos]
        simp only [Bool.or_eq_true, decide_eq_true_eq] at e
        have hs : (⟨((some l).getD []).toArray⟩ : Str).size = l.length := rfl
        rw [hs] at e
        rcases e with (e | e) | e
        · exact .inl e
        · exact .inr e
        · cases e
    rw [this]
    exact ⟨rfl, hr8, u8, rfl⟩
  · cases o with
    | none => simp at e
    | some l =>
      have hs : (⟨((some l).getD []).toArray⟩ : Str).size = l.length := rfl
      rw [hs] at e
      simp only [Bool.or_eq_false_iff, decide_eq_false_iff_not] at e
      have ht : rTake m (some l) = (⟨(l.take m.toNat).toArray⟩, some (l.drop m.toNat)) := by
        unfold rTake
        dsimp only
        rw [if_neg (by omega)]
      rw [ht]
      refine ⟨_, rfl, _, hr.rs, ⟨by omega, by omega, by rw [hs]; omega⟩, _, rfl, _, hr.rs, ⟨by omega, by rw [hs]; omega, by omega⟩, _, rfl, ?_⟩
      rw [hs]
      show SVC _ (Instr.storeAt _ _ (.string ((⟨l.toArray⟩ : Str).extract m.toNat l.length))) _ fun _ h12 => _
      rw [extract_mk]
      refine hr.put rfl fun h' h1 u1 => ?_
      refine ⟨?_, u1, ?_⟩
      · rwa [List.take_of_length_le (by rw [List.length_drop]; omega)] at h1
      · show Value.string ((⟨l.toArray⟩ : Str).extract 0 m.toNat) = _
        rw [extract_mk]; rfl
theorem rrtext_spec {l : List UInt8} {m : Int} (hr : RrAt h r (some l)) (hl : l.length ≤ 1099511627776) (hm0 : 0 ≤ m) (hm2 : m ≤ 9223372036854775807) : HC Tryz.prog 50 #[.pointer (some ⟨r, 0, none⟩), .int .i64 m] h fun v h' => RrAt h' r (rText m (some l)).2 ∧ Upd (fun i => i = r) h h' ∧ v = .string (rText m (some l)).1 := by
  refine HC_of_vc (args := [.pointer (some ⟨r, 0, none⟩), .int .i64 m]) (base := 28) (cuts := []) (bigs := []) hm Tryz.func50 ?_
  rw [vcRrText]
  refine (rruint_spec hr hl).mono ?_
  rintro v h1 ⟨hr1, u1, rfl, hlt⟩
  have hmw : IntKind.u64.wrap m = m := by
    simp only [IntKind.wrap, IntKind.signed, IntKind.bits]
    simp; omega
  unfold rText
  cases hu : rUint (some l) with
  | mk n o' =>
    rw [hu] at hr1 hlt
    dsimp only at hr1 hlt ⊢
    refine ⟨_, rfl, _, rfl, _, hr1.rb, br_intro (fun e => ?_) fun e => ?_⟩
    · rw [hmw] at e
      refine (rrfail_spec hr1).mono ?_
      rintro v h6 ⟨hr6, u6, rfl⟩
      refine ⟨rfl, ?_⟩
      by_cases hc : m < 0 ∨ m < (n : Int)
      · rw [if_pos hc]; exact ⟨hr6, u1.trans u6, rfl⟩
      · rw [if_neg hc]
        cases o' with
        | none => exact ⟨hr6, u1.trans u6, rfl⟩
        | some q =>
          simp only [Option.isNone_some, Bool.false_or, Bool.or_eq_true, decide_eq_true_eq] at e
          omega
    · rw [hmw] at e
      simp only [Bool.or_eq_false_iff, decide_eq_false_iff_not] at e
      rw [if_neg (by omega), wrap_i64 (by omega) (by omega)]
      refine (rrtake_spec hr1).mono ?_
      rintro v h6 ⟨hr6, u6, rfl⟩
      exact ⟨_, rfl, hr6, u1.trans u6, rfl⟩
end
/- ------------------------------------------------------------------ the check -/
theorem bit_of {b k : Nat} (hk : k < 8) : (((b : Nat) : Int).fdiv ((2 : Int) ^ min (IntKind.u64.wrap (k : Int)).toNat 8)).tmod 2 = ((b / 2 ^ k % 2 : Nat) : Int) := by
  have e : IntKind.u64.wrap (k : Int) = (k : Int) := by
    simp only [IntKind.wrap, IntKind.signed, IntKind.bits]
    simp; omega
  rw [e, Int.toNat_natCast, Nat.min_eq_left (by omega)]
  have e2 : ((2 : Int) ^ k) = ((2 ^ k : Nat) : Int) := by simp
  rw [e2, Int.fdiv_eq_ediv_of_nonneg _ (Int.natCast_nonneg _), ← Int.natCast_ediv, Int.tmod_eq_emod_of_nonneg (Int.natCast_nonneg _)]
  rfl
theorem half32 {n : Nat} (h : n < 4294967296) : IntKind.u32.wrap ((n : Int).tdiv 2) = ((n / 2 : Nat) : Int) := by
  rw [Int.tdiv_eq_ediv_of_nonneg (by omega)]
  simp only [IntKind.wrap, IntKind.signed, IntKind.bits]
  simp; omega
theorem even32 {n : Nat} : ((n : Int).tmod 2 == (1 : Int)) = (n % 2 == 1) := by
  rw [Int.tmod_eq_emod_of_nonneg (by omega)]
  by_cases h : n % 2 = 1
  · have : (n : Int) % 2 = 1 := by omega
    rw [this, h]; rfl
  · have : (n : Int) % 2 = 0 := by omega
    have h0 : n % 2 = 0 := by omega
    rw [this, h0]; rfl
set_option maxHeartbeats 1000000 in
theorem rsum_exact {h : Heap} (s : Str) (hs : s.size ≤ 1099511627776) : HC Tryz.prog 48 #[.string s] h fun v h' => h' = h ∧ v = .int .u32 (crc (bytesL s)) := by
  refine HC_of_vc (args := [.string s]) (base := 37) (cuts := []) (bigs := []) hm Tryz.func48 ?_
  rw [vcRSum]
  have hlen : (bytesL s).length = s.size := bytesL_len s
  have hby : ∀ k : Nat, (hk : k < (bytesL s).length) → byteAt s (k : Int) = (((bytesL s)[k]).toNat : Int) := fun k hk => by
    have := byteAt_mk (bytesL s) k
    rw [mk_eta] at this
    rw [this]
    simp [List.getD, List.getElem?_eq_getElem hk]
  refine ⟨fun n2 n3 H => ∃ k : Nat, n3 = k ∧ k ≤ s.size ∧ H = h ∧ ∃ q : Nat, n2 = q ∧ q < 4294967296 ∧ q = ((bytesL s).take k).foldl (fun n b => rN b.toNat 8 n) 4294967295, fun _ n3 _ => s.size - n3.toNat, ⟨0, rfl, Nat.zero_le _, rfl, 4294967295, rfl, by decide, rfl⟩, ?_⟩
  rintro n2 n3 H ⟨k, rfl, hk, rfl, q, rfl, hq, hqe⟩
  refine br_intro (fun e => ?_) fun e => ?_
  · have e := of_decide_eq_true e
    have hk' : k < (bytesL s).length := by omega
    have hb := hby k hk'
    have htk : (bytesL s).take (k + 1) = (bytesL s).take k ++ [(bytesL s)[k]] := List.take_succ_eq_append_getElem hk'
    generalize (bytesL s)[k] = b at hb htk
    refine ⟨fun n7 n8 G => ∃ j : Nat, n8 = j ∧ j ≤ 8 ∧ G = H ∧ n7 = (rN b.toNat j q : Nat), fun _ n8 _ => 8 - n8.toNat, ⟨0, rfl, Nat.zero_le _, rfl, rfl⟩, ?_⟩
    rintro n7 n8 G ⟨j, rfl, hj, rfl, rfl⟩
    have hlt := rN_lt b.toNat j q hq
    have hr1 : rN b.toNat (j + 1) q = r1 b.toNat j (rN b.toNat j q) := rfl
    generalize hy : rN b.toNat j q = y at hlt hr1
    refine br_intro (fun e2 => ?_) fun e2 => ?_
    · have e2 := of_decide_eq_true e2
      rw [wrap_i64 (n := (j : Int) + 1) (by omega) (by omega), hb, bit_of (by omega), half32 hlt, even32]
      have hw : 0 ≤ IntKind.u64.wrap (j : Int) := by
        simp only [IntKind.wrap, IntKind.signed, IntKind.bits]
        simp; omega
      have hx : IntKind.u32.wrap ((BitVec.ofInt 32 ((y / 2 : Nat) : Int) ^^^ BitVec.ofInt 32 (2197175160 : Int)).toNat : Int) = ((y / 2 ^^^ poly : Nat) : Int) := bx32 (b := poly) (by omega) (by decide)
      have hbit : ((((b.toNat / 2 ^ j % 2 : Nat) : Int)) == (1 : Int)) = (b.toNat / 2 ^ j % 2 == 1) := by
        by_cases h1 : b.toNat / 2 ^ j % 2 = 1
        · rw [h1]; rfl
        · have h0 : b.toNat / 2 ^ j % 2 = 0 := by omega
          rw [h0]; rfl
      rw [hbit, hx]
      unfold r1 outB at hr1
      refine ⟨by decide, ⟨by omega, by omega⟩, hw, by decide, br_intro (fun e3 => ⟨by decide, ?_⟩) fun e3 => ⟨by decide, ?_⟩⟩
      · rw [e3] at hr1
        refine br_intro (fun e4 => ?_) fun e4 => ?_
        · have e5 : (y % 2 == 1) = false := by simpa using e4
          rw [e5] at hr1
          exact ⟨⟨j + 1, rfl, by omega, rfl, by rw [hr1]; rfl⟩, by dsimp only; omega⟩
        · have e5 : (y % 2 == 1) = true := by simpa using e4
          rw [e5] at hr1
          exact ⟨⟨j + 1, rfl, by omega, rfl, by rw [hr1]; rfl⟩, by dsimp only; omega⟩
      · rw [e3] at hr1
        refine br_intro (fun e4 => ?_) fun e4 => ?_
        · rw [e4] at hr1
          exact ⟨⟨j + 1, rfl, by omega, rfl, by rw [hr1]; rfl⟩, by dsimp only; omega⟩
        · rw [e4] at hr1
          exact ⟨⟨j + 1, rfl, by omega, rfl, by rw [hr1]; rfl⟩, by dsimp only; omega⟩
    · have e2 := of_decide_eq_false e2
      have hj8 : j = 8 := by omega
      subst hj8
      rw [wrap_i64 (n := (k : Int) + 1) (by omega) (by omega)]
      refine ⟨⟨k + 1, rfl, by omega, rfl, y, rfl, hlt, ?_⟩, by dsimp only; omega⟩
      rw [htk, List.foldl_append, ← hqe]
      exact hy.symm
  · have e := of_decide_eq_false e
    have hks : k = s.size := by omega
    refine ⟨rfl, ?_⟩
    obtain ⟨c1, c2⟩ := crc_nat (bytesL s)
    rw [hks, ← hlen, List.take_length] at hqe
    have hq2 : q = sumN (bytesL s) := hqe
    rw [c1, ← hq2]
    congr 1
    simp only [IntKind.wrap, IntKind.signed, IntKind.bits]
    simp; omega
theorem rframe_exact {h : Heap} (s : Str) (hs : s.size ≤ 1073741824) : HC Tryz.prog 13 #[.string s] h fun v h' => Keep h.size h h' ∧ v = .string ⟨(frameB s).toArray⟩ := by
  refine HC_of_vc (args := [.string s]) (base := 24) (cuts := []) (bigs := []) hm Tryz.func13 ?_
  rw [vcRFrame]
  refine (rtext_spec s (by omega)).mono ?_
  rintro v h1 ⟨k1, rfl⟩
  have ht := textB_len s
  have hu := uintB_len10 (n := s.size) (by omega)
  refine ⟨_, rfl, (rsum_exact _ (by rw [mk_size]; omega)).mono ?_⟩
  rintro v h4 ⟨rfl, rfl⟩
  obtain ⟨c1, c2⟩ := crc_nat (textB s)
  have hc : 0 ≤ crc (textB s) := by rw [c1]; exact Int.natCast_nonneg _
  rw [bytesL_mk]
  refine ⟨_, rfl, by decide, by decide, by decide, ?_⟩
  rw [u8_b8, u8_b8, u8_b8, u8_b8]
  refine svc_buildSlice (bs_b4 _ _ _ _) ⟨_, _, _, rfl, _, reads_string undBs undB undS (sl_bytes (push_at _ _)), ?_, ?_⟩
  · rw [mk_size, mk_size, i64max]; show ((_ + 4 : Nat) : Int) ≤ _; omega
  · refine ⟨k1.trans (Keep.push _ _ _ k1.size), ?_⟩
    rw [str_app]
    have e8 : (crc (textB s)).tdiv 256 = (crc (textB s)).fdiv (2 ^ 8) := by rw [Int.tdiv_eq_ediv_of_nonneg hc, Int.fdiv_eq_ediv_of_nonneg _ (by decide)]; rfl
    have e16 : (crc (textB s)).tdiv 65536 = (crc (textB s)).fdiv (2 ^ 16) := by rw [Int.tdiv_eq_ediv_of_nonneg hc, Int.fdiv_eq_ediv_of_nonneg _ (by decide)]; rfl
    have e24 : (crc (textB s)).tdiv 16777216 = (crc (textB s)).fdiv (2 ^ 24) := by rw [Int.tdiv_eq_ediv_of_nonneg hc, Int.fdiv_eq_ediv_of_nonneg _ (by decide)]; rfl
    have w : ∀ d : Nat, IntKind.u32.wrap ((crc (textB s)).tdiv (d : Int)) = (crc (textB s)).tdiv (d : Int) := fun d => by
      rw [c1, Int.tdiv_eq_ediv_of_nonneg (Int.natCast_nonneg _), ← Int.natCast_ediv]
      exact w32 (Nat.lt_of_le_of_lt (Nat.div_le_self _ _) (by omega))
    have w1 : IntKind.u32.wrap ((crc (textB s)).tdiv 256) = (crc (textB s)).tdiv 256 := w 256
    have w2 : IntKind.u32.wrap ((crc (textB s)).tdiv 65536) = (crc (textB s)).tdiv 65536 := w 65536
    have w3 : IntKind.u32.wrap ((crc (textB s)).tdiv 16777216) = (crc (textB s)).tdiv 16777216 := w 16777216
    unfold frameB sumB
    rw [← e8, ← e16, ← e24]
    rw [w1, w2, w3]
/-- what the document splits off is there just where a record is. -/
theorem rsplit_spec {h : Heap} (s : Str) (hs : s.size ≤ 1048576) : HC Tryz.prog 15 #[.string s] h fun v h' => Keep h.size h h' ∧ ∃ a k c s', v = .tuple #[.slice a k c, .string s'] ∧ (k = 0 ↔ nextF (bytesL s) = none) := by
  refine HC_of_vc (args := [.string s]) (base := 45) (cuts := []) (bigs := []) hm Tryz.func15 ?_
  rw [vcRSplit]
  have hb : (bytesL s).length = s.size := bytesL_len s
  refine ⟨fun s2 _ _ _ _ a k c H => ∃ out : List Str, Keep h.size h H ∧ Vc.Own StrE 9 h.size H a k c out ∧ s2.size + k ≤ s.size ∧ ((k = 0 ∧ s2 = s) ∨ (k ≠ 0 ∧ nextF (bytesL s) ≠ none)), fun s2 _ _ _ _ _ _ _ _ => s2.size,
    ⟨[], Keep.refl _ _, Own.nil _ _ _, Nat.le_refl _, .inl ⟨rfl, rfl⟩⟩, ?_⟩
  rintro s2 a3 k4 k5 s6 a7 k c H ⟨out, kH, oH, hsz, hst⟩
  have hb2 : (bytesL s2).length = s2.size := bytesL_len s2
  have kp := keep_push H (Obj.cells #[Value.string s2, Value.bool false] 90 (0, 0))
  have hr : RrAt (H.push (Obj.cells #[Value.string s2, Value.bool false] 90 (0, 0))) H.size (some (bytesL s2)) := by
    unfold RrAt; rw [push_at]
    simp only [Option.getD_some, mk_eta, Option.isNone_some]
  have zp : (H.push (Obj.cells #[Value.string s2, Value.bool false] 90 (0, 0))).size = H.size + 1 := by simp
  show HC Tryz.prog _ _ (H.push (Obj.cells #[Value.string s2, Value.bool false] 90 (0, 0))) _
  generalize H.push (Obj.cells #[Value.string s2, Value.bool false] 90 (0, 0)) = H1 at kp hr zp
  refine (rrtext_spec hr (by omega) (by omega) (by omega)).mono ?_
  rintro v h12 ⟨hr12, u12, rfl⟩
  have k12 : Keep H.size H h12 := kp.trans (u12.keep (by omega) fun i hi => by omega)
  have kh12 := kH.trans (k12.mono kH.size)
  rw [← hb2] at hr12 ⊢
  refine ⟨_, rfl, (rrgood_spec hr12).mono ?_⟩
  rintro v h15 ⟨rfl, rfl⟩
  have hi := nextF_iff (bs := bytesL s2) (by omega)
  have fin : ∀ (G : Heap) (X : Str), Keep h.size h G → nextF (bytesL s2) = none → Keep h.size h G ∧ ∃ a' k' c' s', Value.tuple #[Value.slice a7 k c, Value.string X] = .tuple #[.slice a' k' c', .string s'] ∧ (k' = 0 ↔ nextF (bytesL s) = none) := fun G X kG hn =>
    ⟨kG, _, _, _, _, rfl, by
      rcases hst with ⟨h1, rfl⟩ | ⟨h1, h2⟩
      · exact ⟨fun _ => hn, fun _ => h1⟩
      · exact ⟨fun h => absurd h h1, fun h => absurd h h2⟩⟩
  cases ht : rText ((bytesL s2).length : Int) (some (bytesL s2)) with
  | mk x o =>
  rw [ht] at hr12
  dsimp only at hr12 ⊢
  refine ⟨_, rfl, br_intro (fun e => ?_) fun e => ?_⟩
  · refine fin _ _ kh12 (hi.2 fun s r hr => ?_)
    cases o with
    | none => rw [ht] at hr; cases hr
    | some q => simp at e
  · cases o with
    | none => simp at e
    | some r =>
      obtain ⟨ec, hx⟩ := rText_canon ht
      have hfl := frameB_len x
      have htl := textB_len x
      have hul := uintB_len10 (n := x.size) (by omega)
      refine (rframe_exact x (by omega)).mono ?_
      rintro v h18 ⟨k18, rfl⟩
      have kh18 := kh12.trans (k18.mono kh12.size)
      have hfs : (⟨(frameB x).toArray⟩ : Str).size = (frameB x).length := rfl
      have hex : s2.extract 0 (⟨(frameB x).toArray⟩ : Str).size = ⟨((bytesL s2).take (frameB x).length).toArray⟩ := by
        rw [hfs]
        have := extract_mk (bytesL s2) 0 (frameB x).length
        rw [mk_eta] at this
        rw [this]; rfl
      refine ⟨_, rfl, fun e2 => ⟨by omega, by omega, ?_⟩, br_intro (fun e2 => ?_) fun e2 => ?_⟩
      · simp only [Bool.not_eq_true', decide_eq_false_iff_not] at e2
        omega
      · refine fin _ _ kh18 (hi.2 fun s' r' hr' => ?_)
        rw [ht] at hr'
        cases hr'
        simp only [Bool.or_eq_true, decide_eq_true_eq] at e2
        rcases e2 with e2 | e2
        · rw [hfs] at e2; exact .inl (by omega)
        · refine .inr fun e3 => ?_
          rw [hex, e3, beq_dec', decide_eq_true rfl] at e2
          cases e2
      · simp only [Bool.or_eq_false_iff, decide_eq_false_iff_not] at e2
        rw [hfs] at e2 ⊢
        have hpre : (bytesL s2).take (frameB x).length = frameB x := by
          have h2 := e2.2
          rw [← hfs, hex, beq_dec'] at h2
          have h3 : (⟨((bytesL s2).take (frameB x).length).toArray⟩ : Str) = ⟨(frameB x).toArray⟩ := by simpa using h2
          have h4 := congrArg bytesL h3
          rwa [bytesL_mk, bytesL_mk] at h4
        have hne : nextF (bytesL s2) ≠ none := fun hn => by
          rcases hi.1 hn x r ht with h1 | h1
          · omega
          · exact h1 hpre
        have o18 := oH.upd ((k12.trans (k18.mono k12.size)).upd fun _ => False) fun _ _ h => h
        refine svc_append1 (x := x) app_ss o18 kh18.size (bs_s x) (by have := oH.1; omega) fun a' c' H' o' u' b' => ⟨⟨by omega, by omega, by omega⟩, ?_⟩
        have hsz2 : (s2.extract (frameB x).length (bytesL s2).length).size = s2.size - (frameB x).length := by
          have := extract_mk (bytesL s2) (frameB x).length (bytesL s2).length
          rw [mk_eta] at this
          rw [this, mk_sz, List.length_take, List.length_drop]; omega
        refine ⟨⟨out ++ [x], kh18.trans (u'.keep kh18.size fun q hq => (o18.block q hq).1), o', by rw [hsz2]; omega, .inr ⟨by omega, ?_⟩⟩, by rw [hsz2]; omega⟩
        rcases hst with ⟨h1, rfl⟩ | ⟨h1, h2⟩
        · exact hne
        · exact h2
end Go.Proofs.YthkhaobmhheoaaaGreat
end

section
set_option linter.unusedVariables false
set_option linter.unusedSimpArgs false
set_option maxRecDepth 100000
namespace Go.Proofs.YthkhaobmhheoaaaGreat
open Go Go.Vc Go.Proofs Go.Dk Go.Cd
open Go.Pg (SrtI Quiet Wr numd)

/-- the number of a page in a row of the call's own is written. -/
theorem svc_pg_i {h : Heap} {B : Nat} {a : Option Addr} {n c j : Nat} {xs : List (Int × Str)} {q : Int × Str} {i : Int} {K : Unit → Heap → Prop} (ho : Vc.Own PageE 27 B h a n c xs) (hq : xs[j]? = some q)
    (k : ∀ h', Vc.Own PageE 27 B h' a n c (xs.set j (i, q.2)) → Upd (blk a) h h' → h'.size = h.size → K () h') : ∃ p, a = some p ∧ SVC Tryz.prog (Instr.storeAt 3 (.pointer (some (p.add (j * 2)))) (.int .i64 i)) h K := by
  obtain ⟨h1, h2, h3⟩ := ho
  have hj : j < xs.length := (List.getElem?_eq_some_iff.1 hq).1
  rcases h3 with ⟨_, rfl⟩ | ⟨b, cells, rfl, hB, hb, hc, rest, hr⟩
  · omega
  have hlen : cells.toList.length = c * 2 := by rw [Array.length_toList]; exact hc
  refine ⟨_, rfl, ?_⟩
  rw [Addr.add_row, Nat.zero_add]
  refine svc_store_cell (by kernel_rfl) hb (by rw [hc]; show j * 2 < c * 2; omega) rfl (one_int _ _) fun h' z' b' o' => k h' ⟨by simpa using h1, h2, .inr ⟨b, _, rfl, hB, b', by simpa using hc, rest, ?_⟩⟩ ⟨by omega, fun i hi hn => o' i fun e => hn ⟨_, rfl, e.symm⟩⟩ z'
  have hx : cells.toList[j * 2 + 1]? = some (.string q.2) := by
    rw [hr, List.getElem?_append_left (by rw [flat_len]; show _ < xs.length * 2; omega)]
    exact flat_get (E := PageE) xs (j := 1) hq rfl
  have hp := putL_flat (E := PageE) xs rest j (i, q.2) hj
  rw [← hr] at hp
  show (cells.toList.set (j * 2) (.int .i64 i)).toArray.toList = _
  rw [← hp]
  show cells.toList.set (j * 2) (.int .i64 i) = (cells.toList.set (j * 2) (.int .i64 i)).set (j * 2 + 1) (.string q.2)
  obtain ⟨hlt, hx⟩ := List.getElem?_eq_some_iff.1 hx
  have h4 : (cells.toList.set (j * 2) (.int .i64 i))[j * 2 + 1]'(by rw [List.length_set]; exact hlt) = .string q.2 := by rw [List.getElem_set_ne (by omega)]; exact hx
  rw [← h4, List.set_getElem_self]
theorem part_ext (s : Str) (i : Nat) (h : 512 * i ≤ s.size) : s.extract (512 * i) (min (512 * i + 512) s.size) = Pg.partB (bytesL s) i := by
  have hb : (bytesL s).length = s.size := bytesL_len s
  have := extract_mk (bytesL s) (512 * i) (min (512 * i + 512) s.size)
  rw [mk_eta] at this
  rw [this]
  unfold Pg.partB
  congr 2
  by_cases h2 : 512 * i + 512 ≤ s.size
  · rw [Nat.min_eq_left h2]; congr 1; omega
  · rw [Nat.min_eq_right (by omega), List.take_of_length_le (by rw [List.length_drop]; omega), List.take_of_length_le (by rw [List.length_drop]; omega)]
theorem zeros_app {l : List UInt8} {Z : Nat} (hZ : Z ≤ 512) (hl : l.length ≤ 100000) (h : nextF (l ++ List.replicate 512 0) = none) : nextF (l ++ List.replicate Z 0) = none := by
  cases hn : nextF (l ++ List.replicate Z 0) with
  | none => rfl
  | some p =>
    obtain ⟨s, m⟩ := p
    have := nextF_size hn (by rw [List.length_append, List.length_replicate]; omega) (List.replicate (512 - Z) 0)
    rw [List.append_assoc, List.replicate_append_replicate] at this
    have e : Z + (512 - Z) = 512 := by omega
    rw [e, h] at this
    cases this
def nj : Str := ⟨#[102, 45, 106]⟩
def nt : Str := ⟨#[102, 45, 116]⟩
theorem nj_eq : nj = Pg.nmJ nf := by decide
theorem nt_eq : nt = Pg.nmT nf := by decide
theorem bs_x : bsCells Tryz.prog 22 1 [(0, .int .u8 120)] = some (5, [.int .u8 120]) := bs_one (z := .int .u8 0) (sz := 1) undBs (by kernel_rfl) (by kernel_rfl) rfl (by decide) (by decide) rfl
set_option maxHeartbeats 8000000 in
theorem forms_spec {h : Heap} {A B : Option Addr} {n c m dd : Nat} {xs : List UInt8} {W0 : List (Int × Str)} (ha : Sl ByteE h A n xs) (hb : Sl PageE h B m W0) (hn : n ≤ 9223372036854775807) (hm' : m ≤ 9223372036854775807) :
    HC Tryz.prog 3 #[.slice A n c, .slice B m dd] h fun v h' => Keep h.size h h' ∧ v = .bool true := by
  refine hc_keep ?_
  refine HC_of_vc (args := [.slice A n c, .slice B m dd]) (base := 134) (cuts := [23]) (bigs := []) hm Tryz.func3 ?_
  rw [vcPgForms]
  refine (pgalive_spec).mono ?_
  rintro v h1 ⟨k1, rfl⟩
  have t1 : Turn h h1 := turn_keep (Turn.refl h) k1
  refine ⟨_, rfl, br_intro (fun e => by cases e) fun _ => br_intro (fun _ => ⟨t1, rfl⟩) fun e => ?_⟩
  simp only [Bool.or_eq_false_iff, decide_eq_false_iff_not] at e
  have hn4 : n ≤ 4096 := by omega
  have hm6 : m ≤ 6 := by omega
  have hxl := ha.1
  have hwl := hb.1
  refine ⟨_, reads_string (c := c) undBs undB undS (ha.keep k1), svc_empty_of app_pg fun o5 => ⟨_, _, _, rfl, ?_⟩⟩
  have k5 := keep_push h1 (.cells #[] 27 (0, 0))
  generalize h1.push (.cells #[] 27 (0, 0)) = h5 at o5 k5
  have k15 := k1.trans (k5.mono k1.size)
  refine svc_append app_pg o5 k5.size (hb.keep k15) (by omega) fun a11 c13 h10 o10 u10 b10 => ?_
  have k10 : Keep h.size h h10 := k15.trans (u10.keep k15.size fun q hq => by have := (o5.block q hq).1; have := k1.size; omega)
  refine ⟨_, _, _, rfl, ?_⟩
  rw [Nat.zero_add, List.nil_append] at o10
  rw [Nat.zero_add]
  refine ⟨fun _ a k c n20 H => ∃ (j : Nat) (Ws : List (Int × Str)), n20 = j ∧ j ≤ m ∧ Keep h.size h H ∧ h10.size ≤ H.size ∧ Vc.Own PageE 27 h1.size H a11 m c13 Ws ∧ (∀ q, blk a11 q → q < h10.size) ∧
      (∀ k q, k < j → Ws[k]? = some q → q.1 = k ∧ q.2.size ≤ 512) ∧ Vc.Own StrE 9 h10.size H a k c ((Ws.take j).map fun q => pad q.2), fun _ _ _ _ n20 _ => m - n20.toNat,
    ⟨0, W0, rfl, Nat.zero_le _, k10, Nat.le_refl _, o10, fun q hq => (o10.block q hq).2, fun k q hk => absurd hk (Nat.not_lt_zero _), Own.nil _ _ _⟩, ?_⟩
  rintro b16 a17 k18 k19 n20 H ⟨j, Ws, rfl, hj, kH, zH, oH, hbl, hWs, oP⟩
  have hWl := oH.1
  have tH : Turn h H := turn_keep (Turn.refl h) kH
  refine br_intro (fun e => ?_) fun e => ?_
  · have e := of_decide_eq_true e
    have hjm : j < m := by omega
    have hq : Ws[j]? = some (Ws[j]'(by omega)) := List.getElem?_eq_getElem (by omega)
    have htk : Ws.take (j + 1) = Ws.take j ++ [Ws[j]'(by omega)] := List.take_succ_eq_append_getElem (by omega)
    generalize Ws[j]'(by omega) = q at hq htk
    obtain ⟨p22, ea, rd⟩ := pg_at oH.sl hq
    refine ⟨p22, ⟨ea, by omega, e⟩, _, _, rd, svc_pg rfl ?_⟩
    have bx := push_at H (pgBox q)
    have kx := keep_push H (pgBox q)
    have zx : (H.push (pgBox q)).size = H.size + 1 := by simp
    generalize H.push (pgBox q) = H2 at bx kx zx
    refine ⟨_, pg_s bx, br_intro (fun e2 => ⟨turn_keep tH kx, rfl⟩) fun e2 => ?_⟩
    have e2 : q.2.size ≤ 512 := by have := of_decide_eq_false e2; omega
    have oH2 := oH.upd (kx.upd fun _ => False) fun _ _ h => h
    obtain ⟨p28, ep, sv⟩ := svc_pg_i (i := (j : Int)) (K := fun _ h30 => ∃ s31, Reads Tryz.prog (Instr.loadAt 9 (.pointer (some ((⟨H.size, 0, none⟩ : Addr).add 1)))) h30 (.string s31) ∧ s31 = q.2 ∧
        Vc.Own PageE 27 h1.size h30 a11 m c13 (Ws.set j ((j : Int), q.2)) ∧ Upd (blk a11) H2 h30) oH2 hq fun h' o' u' z' => ⟨q.2, pg_s (u'.at bx fun hh => by have := hbl _ hh; omega), rfl, o', u'⟩
    refine ⟨p28, ⟨ep, by omega, e⟩, svc_mono sv ?_⟩
    rintro _ h30 ⟨s31, rd31, rfl, o30, u30⟩
    refine ⟨_, rd31, (filled_spec q.2 e2).mono ?_⟩
    rintro v h33 ⟨k33, rfl⟩
    refine ⟨_, rfl, ?_⟩
    have oP30 := (oP.upd (kx.upd fun _ => False) fun _ _ h => h).upd u30 fun i hi hh => by have := (oP.block i hi).1; have := hbl _ hh; omega
    have oP33 := oP30.upd (k33.upd fun _ => False) fun _ _ h => h
    have o33 := o30.upd (k33.upd fun _ => False) fun _ _ h => h
    have k30 : Keep h.size h h30 := (kH.trans (kx.mono kH.size)).trans (u30.keep (by have := kH.size; omega) fun i hi => by have := (oH2.block i hi).1; have := k1.size; omega)
    have kk33 := k30.trans (k33.mono k30.size)
    have z30 := u30.size
    have z33 := k33.size
    refine svc_append1 (x := pad q.2) app_ss oP33 (by omega) (bs_s (pad q.2)) (by have := oP.1; simp at this; omega) fun a' c' H' o' u' b' => ?_
    rw [wrap_i64 (by omega) (by omega)]
    refine ⟨⟨j + 1, Ws.set j ((j : Int), q.2), rfl, hjm, kk33.trans (u'.keep (by have := kk33.size; omega) fun i hi => by have := (oP33.block i hi).1; have := k10.size; omega), by have := u'.size; omega, o33.upd u' fun i hi hh => ?_, hbl, fun k q' hk hq' => ?_, ?_⟩, by dsimp only; omega⟩
    · have := (oP33.block i hh).1; have := hbl i hi; omega
    · rw [List.getElem?_set] at hq'
      by_cases h0 : j = k
      · subst h0
        rw [if_pos rfl, if_pos (by omega)] at hq'
        cases hq'; exact ⟨rfl, e2⟩
      · rw [if_neg h0] at hq'
        exact hWs k q' (by omega) hq'
    · have e5 : ((Ws.set j ((j : Int), q.2)).take (j + 1)).map (fun q => pad q.2) = (Ws.take j).map (fun q => pad q.2) ++ [pad q.2] := by
        have hjs : j < (Ws.set j ((j : Int), q.2)).length := by rw [List.length_set]; omega
        rw [List.take_succ_eq_append_getElem hjs, List.map_append, List.take_set_of_le (Nat.le_refl _)]
        simp
      rw [e5]; exact o'
  · have e := of_decide_eq_false e
    have hjm : j = m := by omega
    subst hjm
    have htl : Ws.take Ws.length = Ws := List.take_length
    rw [← hWl, htl] at oP
    have hnum : Ws = numd (Ws.map (·.2)) := by
      refine List.ext_getElem? fun k => ?_
      unfold Pg.numd
      rw [List.getElem?_map]
      by_cases hk : k < Ws.length
      · have hq := List.getElem?_eq_getElem hk
        have := (hWs k _ (by omega) hq).1
        rw [List.getElem?_range (by simpa using hk), hq]
        simp [List.getD, hq]
        rw [← this]
      · have e1 : Ws[k]? = none := List.getElem?_eq_none (by omega)
        have e2 : (List.range (Ws.map (·.2)).length)[k]? = none := List.getElem?_eq_none (by simp; omega)
        rw [e1, e2]; rfl
    have hsz : ∀ q ∈ Ws, q.2.size ≤ 512 ∧ 0 ≤ q.1 ∧ q.1 < 6 := fun q hq => by
      obtain ⟨k, hk, rfl⟩ := List.mem_iff_getElem.1 hq
      have := hWs k _ (by omega) (List.getElem?_eq_getElem hk)
      omega
    refine ⟨fun _ s65 b66 G => Keep h.size h G ∧ Vc.Own StrE 9 h10.size G a17 k18 k19 (Ws.map fun q => pad q.2) ∧ s65.size ≤ 10240 ∧ ((b66 = true ∧ bytesL s65 = Pg.frameW Ws ∧ Ws ≠ []) ∨ (b66 = false ∧ nextF (bytesL s65 ++ List.replicate 512 0) = none)), ⟨by decide, br_intro (fun e2 => ?_) fun e2 => ?_⟩, ?_⟩
    · simp only [Bool.and_eq_true, decide_eq_true_eq] at e2
      refine (record_spec oH.sl (by omega) fun q hq => by have := hsz q hq; omega).mono ?_
      rintro v h47 ⟨k47, rfl⟩
      have hnp := nparts_le (W := Ws) (fun q hq => by have := hsz q hq; omega) (by omega)
      have hfl : (Pg.frameW Ws).length ≤ 10240 := by unfold Pg.nparts at hnp; omega
      have hrl : (Pg.record Ws).length ≤ 10240 := by
        have h1 := frameB_len ⟨(Pg.record Ws).toArray⟩
        have h2 := textB_len ⟨(Pg.record Ws).toArray⟩
        rw [mk_sz] at h2
        have : (Pg.frameW Ws).length = (frameB ⟨(Pg.record Ws).toArray⟩).length := rfl
        omega
      refine ⟨_, rfl, (rframe_exact _ (by rw [mk_sz]; omega)).mono ?_⟩
      rintro v h50 ⟨k50, rfl⟩
      have kk := kH.trans ((k47.trans (k50.mono k47.size)).mono kH.size)
      exact ⟨_, rfl, kk, (oP.upd (k47.upd fun _ => False) fun _ _ h => h).upd (k50.upd fun _ => False) fun _ _ h => h, hfl, .inl ⟨rfl, rfl, fun h0 => by rw [h0] at hWl; simp at hWl; omega⟩⟩
    · refine svc_make_bytes (n := 512) undBs (by kernel_rfl) (by kernel_rfl) (by kernel_rfl) (by decide) fun h53 k53 z53 sl53 => ⟨_, _, _, rfl, _, reads_string (c := 512) undBs undB undS sl53, ?_, ?_⟩
      · rw [mk_sz, mk_sz, List.length_replicate, i64max]; omega
      · rw [str_app]
        refine (rsplit_spec _ (by rw [mk_sz, List.length_append, List.length_replicate]; omega)).mono ?_
        rintro v h59 ⟨k59, a, k, c', s', rfl, hk⟩
        rw [bytesL_mk] at hk
        have kk := k53.trans (k59.mono k53.size)
        refine ⟨_, _, _, _, rfl, br_intro (fun _ => ⟨turn_keep tH kk, rfl⟩) fun e3 => ?_⟩
        have e3 := of_decide_eq_false e3
        exact ⟨kH.trans (kk.mono kH.size), oP.upd (kk.upd fun _ => False) fun _ _ h => h, by rw [mk_sz]; omega, .inr ⟨rfl, by rw [bytesL_mk]; exact hk.1 (by omega)⟩⟩
    · rintro b64 s65 b66 H67 ⟨k67, o67, s67, hg⟩
      have t67 : Turn h H67 := turn_keep (Turn.refl h) k67
      have hsl : (bytesL s65).length = s65.size := bytesL_len s65
      refine (St.new (Keep.refl _ H67) 100).mono ?_
      rintro v h69 ⟨d, rfl, st69⟩
      have d69 := st69.frame.dn
      have kb := st69.frame.base
      refine ⟨_, rfl, fun n73 G => ∃ (i : Nat) (N : Nat → Prop) (x : D), n73 = i ∧ DN N d x G ∧ (∀ q, q < H67.size → N q) ∧ Turn h G ∧ RowN N G a17 k18 (Ws.map fun q => pad q.2) ∧ Wr nf (bytesL s65) i x ∧ (i = 0 ∨ 512 * (i - 1) < s65.size ∨ i = 1), fun n73 _ => 100 - n73.toNat,
        ⟨0, _, _, rfl, d69, fun q hq => .inl hq, turn_keep t67 kb, ⟨(o67.upd (kb.upd fun _ => False) fun _ _ h => h).sl, fun _ q hq => .inl (o67.block q hq).2⟩, Wr.new nf _, .inl rfl⟩, ?_⟩
      rintro n73 G ⟨i, N, x, rfl, dG, hNh, tG, rG, w, hi⟩
      have hi17 : i ≤ 20 := by omega
      have e512 : IntKind.i64.wrap (512 * (i : Int)) = 512 * (i : Int) := wrap_i64 (by omega) (by omega)
      have hNk : ∀ q, q < h.size → N q := fun q hq => hNh q (Nat.lt_of_lt_of_le hq k67.size)
      rw [e512]
      refine br_intro (fun e2 => ?_) fun e2 => ?_
      · simp only [Bool.or_eq_true, beq_iff_eq, decide_eq_true_eq] at e2
        have hle : 512 * i ≤ s65.size := by omega
        have e1024 : IntKind.i64.wrap (512 * (i : Int) + 512) = 512 * (i : Int) + 512 := wrap_i64 (by omega) (by omega)
        have emin : (if (s65.size : Int) < 512 * (i : Int) + 512 then (s65.size : Int) else 512 * (i : Int) + 512) = ((min (512 * i + 512) s65.size : Nat) : Int) := by split <;> omega
        rw [e1024]
        refine ⟨_, reads_min, ⟨by omega, by split <;> omega, by split <;> omega⟩, ?_⟩
        rw [emin, Int.toNat_natCast]
        have e5 : (512 * (i : Int)).toNat = 512 * i := by omega
        rw [e5, part_ext s65 i hle]
        refine svc_bytes undS undBs undB fun a78 c80 h77 k77 z77 sl77 hc77 b77 => ⟨_, _, _, rfl, ?_⟩
        have d77 := dG.wide k77
        have hw := w.waits
        refine (d77.write (s := nj) (i := (i : Int)) sl77 (fun _ q hq => .inr (by have := b77 q hq; omega)) (by omega)).mono ?_
        rintro v h82 ⟨st82, rfl⟩
        have d82 := st82.dn
        have ok82 := d82.ok
        rw [nj_eq] at d82 st82 ok82
        have hNh2 : ∀ q, q < H67.size → Nw N G h77 q := fun q hq => .inl (hNh q hq)
        refine ⟨_, rfl, svc_buildSlice bs_x ⟨_, _, _, rfl, ?_⟩⟩
        have k85 := keep_push h82 (.cells #[Value.int .u8 120] 5 (0, 0))
        have b85 := push_at h82 (.cells #[Value.int .u8 120] 5 (0, 0))
        have z85 : (h82.push (.cells #[Value.int .u8 120] 5 (0, 0))).size = h82.size + 1 := by simp
        show SVC _ _ (h82.push (.cells #[Value.int .u8 120] 5 (0, 0))) _
        generalize h82.push (.cells #[Value.int .u8 120] 5 (0, 0)) = h85 at k85 b85 z85
        refine svc_mark undBs undB b85 fun h90 z90 b90 u90 => ⟨_, _, _, rfl, ?_⟩
        have k90 : Keep h82.size h82 h90 := k85.trans (u90.keep (by omega) fun i hi => by omega)
        have d90 := d82.wide k90
        have sl90 : Sl ByteE h90 (some ⟨h82.size, 0, none⟩) 1 (bytesL (⟨#[120]⟩ : Str)) := sl_bytes (xs := [120]) b90
        have w1 := Pg.write_waits x (Pg.nmJ nf) i (Pg.partB (bytesL s65) i)
        refine (d90.write (s := nt) (i := (i : Int)) sl90 (fun _ q hq => by
          obtain ⟨p, e6, rfl⟩ := hq
          cases e6
          exact .inr (show h82.size ≤ h82.size ∧ h82.size < h90.size from ⟨Nat.le_refl _, by omega⟩)) (by omega)).mono ?_
        rintro v h95 ⟨st95, rfl⟩
        have dw := st95.dn
        rw [nt_eq] at dw st95
        have hNh3 : ∀ q, q < H67.size → Nw (Nw N G h77) h82 h90 q := fun q hq => .inl (hNh2 q hq)
        have hNk2 : ∀ q, q < h.size → Nw N G h77 q := fun q hq => .inl (hNk q hq)
        have hNk3 : ∀ q, q < h.size → Nw (Nw N G h77) h82 h90 q := fun q hq => .inl (hNk2 q hq)
        have t95 := turn_stp (turn_keep (turn_stp (turn_keep tG k77) hNk2 st82) k90) hNk3 st95
        have r95 : RowN (Nw (Nw N G h77) h82 h90) h95 a17 k18 (Ws.map fun q => pad q.2) := (((((rG.keep k77).mono fun q hq => .inl hq).stp st82).keep k90).mono fun q hq => .inl hq).stp st95
        refine ⟨_, rfl, ?_⟩
        rw [wrap_i64 (by omega) (by omega)]
        refine ⟨⟨i + 1, _, _, rfl, dw, hNh3, t95, r95, w.step dG.ok (by omega) (by decide) ok82, by omega⟩, by dsimp only; omega⟩
      · simp only [Bool.or_eq_false_iff, decide_eq_false_iff_not, beq_eq_false_iff_ne, ne_eq] at e2
        have hi0 : i ≠ 0 := by omega
        have okx := dG.ok
        have hflat := w.flat (by omega) (by omega)
        have hjr : (b66 = true ∧ Ws ≠ [] ∧ jrnl ((pgs x.now (Pg.nmJ nf)).flatMap bytesL) = some Ws) ∨ (b66 = false ∧ jrnl ((pgs x.now (Pg.nmJ nf)).flatMap bytesL) = none) := by
          rw [hflat]
          rcases hg with ⟨h1, h2, h3⟩ | ⟨h1, h2⟩
          · refine .inl ⟨h1, h3, ?_⟩
            rw [h2]
            exact Pg.jrnl_frame (fun q hq => by have := hsz q hq; omega) (by omega) _
          · refine .inr ⟨h1, ?_⟩
            unfold jrnl
            rw [zeros_app (by omega) (by omega) h2]
        have hsrt : SrtI (Ws.map (·.1)) := by rw [hnum]; exact Pg.numd_srt _
        obtain ⟨_, _, _, rp, _⟩ := w.rm okx hi0
        have hw := w.waits
        refine (open_law dG (nm := nf) (by decide) (by omega) fun y hy => ?_).mono ?_
        · have : pgs y.now (Pg.nmJ nf) = pgs x.now (Pg.nmJ nf) := by rcases hy with rfl | rfl; · rfl
                                                                     · exact rp
          rw [this]
          rcases hjr with ⟨_, _, h1⟩ | ⟨_, h1⟩
          · exact .inr ⟨_, h1, hsrt⟩
          · exact .inl h1
        rintro v h98 ⟨M, d98, hs98, u98, hM98, p98, rfl⟩
        have t98 : Turn h h98 := ((tG.m (S := fun _ => False)).trans' u98 fun q hq hn => hn (hNk q hq)).turn fun _ _ => id
        have hopn := w.opn okx hi0
        unfold opAns
        rcases hjr with ⟨hb1, hne, h1⟩ | ⟨hb1, h1⟩
        · subst hb1
          have oky : Ok (remove x (Pg.nmT nf)).2 := by
            obtain ⟨a1, a2⟩ := Pg.remove_nx w.q (w.ht hi0)
            unfold remove
            rw [Pg.may_nx w.q (w.ht hi0)]
            exact ok_remove (ok_act okx) _
          have hs0 := Pg.numd_seq (Ws.map (·.2))
          rw [← hnum] at hs0
          obtain ⟨g1, g2, g3, g4, g5⟩ := w.good okx oky d98.ok hi0 (by omega) h1 hne (fun q hq => (hsz q hq).1) hs0.1 (by rw [hs0.2]; simp; omega)
          refine ⟨_, _, rfl, br_intro (fun e => by cases e) fun _ => ?_⟩
          rw [g1]
          refine br_intro (fun _ => ?_) fun e => by simp at e
          have r98 : RowN M h98 a17 k18 (Ws.map fun q => pad q.2) := (rG.updM u98 fun q hq hn => hn hq).mono hs98
          have hpg : pgs (Pg.opn nf x).2.now nf = Ws.map fun q => pad q.2 := by
            rw [g3, hnum, Pg.numd_laid, ← hnum, List.map_map]; rfl
          have hk18 := r98.sl.1
          refine (has_spec' p98 d98 g2 r98.sl (by simp at hk18; omega)).mono ?_
          rintro v h103 ⟨k103, rfl⟩
          rw [hpg, decide_eq_true rfl]
          refine ⟨_, rfl, br_intro (fun _ => ?_) fun e => by cases e⟩
          have hl1 : (Pg.opn nf x).2.now.length = 1 := by rw [← len_names1]; exact g4
          refine ((d98.keep k103).names (by omega) fun q hq => ?_).mono ?_
          · rw [g5 q hq]; decide
          rintro v h106 ⟨k106, a, k, c', rfl, sl⟩
          have hk := sl.1
          unfold namesD at hk
          rw [if_neg (by rw [g2]; decide), g4] at hk
          refine ⟨_, _, _, rfl, turn_keep (turn_keep t98 k103) k106, ?_⟩
          rw [← hk]; rfl
        · subst hb1
          rw [h1] at hopn
          dsimp only at hopn
          rw [hopn]
          refine ⟨_, _, rfl, br_intro (fun _ => ⟨_, fun _ => reads_eql_nil undPp, t98, rfl⟩) fun e => by cases e⟩
end Go.Proofs.YthkhaobmhheoaaaGreat
end
