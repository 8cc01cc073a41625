/-
  Texts of this seat, laid one behind the other: PgU PgU2 PgU3 PgU4 PgV. Conditions: none.
-/
import Derived.Test.YthkhaobmhheoaaaGreatZA
import Derived.Test.YthkhaobmhheoaaaGreatZV
import Derived.Test.YthkhaobmhheoaaaGreatZP2
import Derived.Test.YthkhaobmhheoaaaGreatZH2
import Derived.Test.YthkhaobmhheoaaaGreatZF
section
set_option linter.unusedVariables false
set_option linter.unusedSimpArgs false
set_option maxRecDepth 100000
namespace Go.Proofs.YthkhaobmhheoaaaGreat
open Go Go.Vc Go.Proofs Go.Dk Go.Cd

theorem sl_drop {α : Type} {E : Enc α} {h : Heap} {A : Option Addr} {n c l : Nat} {xs : List α} (hs : Sl E h A n xs) (hl : l ≤ n) (hc : n ≤ c) : Sl E h (subA A l c E.sz) (n - l) (xs.drop l) := by
  have hx := hs.1
  refine ⟨by rw [List.length_drop]; omega, ?_⟩
  by_cases h0 : l = n
  · exact .inl (List.drop_eq_nil_of_le (by omega))
  · rcases hs.2 with rfl | ⟨p, rfl, hp⟩
    · simp at hx; omega
    · refine .inr ⟨p.add (l * E.sz), ?_, fun i x hi j v hv => ?_⟩
      · unfold subA; rw [if_neg (by omega)]; rfl
      · rw [List.getElem?_drop] at hi
        have := hp (l + i) x hi j v hv
        rw [Addr.add_add]
        have e : l * E.sz + (i * E.sz + j) = (l + i) * E.sz + j := by rw [Nat.add_mul]; omega
        rw [e]; exact this
theorem sl_take {α : Type} {E : Enc α} {h : Heap} {A : Option Addr} {n l : Nat} {xs : List α} (hs : Sl E h A n xs) (hl : l ≤ n) : Sl E h A l (xs.take l) := by
  have hx := hs.1
  refine ⟨by rw [List.length_take]; omega, ?_⟩
  rcases hs.2 with rfl | ⟨p, rfl, hp⟩
  · exact .inl (by simp)
  · exact .inr ⟨p, rfl, fun i x hi j v hv => by
      rw [List.getElem?_take] at hi
      split at hi
      · exact hp i x hi j v hv
      · cases hi⟩
theorem undRp : Tryz.prog.underlying 159 = some (.pointer (Tryz.prog.pointee 159)) := by kernel_rfl
theorem scBs : scT Tryz.prog 22 = true := by kernel_rfl
theorem szBs : szOf Tryz.prog 22 = some 1 := by kernel_rfl
/-- a reader on a heap, in blocks of N. -/
structure RdP (N : Nat → Prop) (h : Heap) (r : Nat) (o : Rs) (A : Option Addr) (n c : Nat) : Prop where
  box : h[r]? = some (.cells #[.slice A n c, .bool o.isNone] 186 (0, 0))
  cap : n ≤ c
  lim : n ≤ 1099511627776
  sl : Sl ByteE h A n (o.getD [])
  ne : n ≠ 0 → ∀ q, blk A q → q ≠ r ∧ N q
  n : N r
def RdAt (N : Nat → Prop) (h : Heap) (r : Nat) (o : Rs) : Prop := ∃ A n c, RdP N h r o A n c
section
variable {N N' S : Nat → Prop} {h h' : Heap} {r : Nat} {o o' : Rs} {A : Option Addr} {n c : Nat}
theorem RdAt.updM (hr : RdAt N h r o) (u : UpdM S h h') (hs : ∀ q, N q → ¬ S q) : RdAt N h' r o := by
  obtain ⟨A, n, c, p⟩ := hr
  exact ⟨A, n, c, u.cells p.box (hs r p.n), p.cap, p.lim, p.sl.updM u fun h0 q hq => hs q (p.ne h0 q hq).2, p.ne, p.n⟩
theorem RdAt.keep (hr : RdAt N h r o) (k : Keep h.size h h') : RdAt N h' r o := hr.updM (S := fun _ => False) k.m fun _ _ => id
theorem RdAt.mono (hr : RdAt N h r o) (hs : ∀ q, N q → N' q) : RdAt N' h r o := by
  obtain ⟨A, n, c, p⟩ := hr
  exact ⟨A, n, c, p.box, p.cap, p.lim, p.sl, fun h0 q hq => ⟨(p.ne h0 q hq).1, hs q (p.ne h0 q hq).2⟩, hs r p.n⟩
theorem RdP.rb (p : RdP N h r o A n c) : Reads Tryz.prog (Instr.loadAt 22 (.pointer (some ⟨r, 0, none⟩))) h (.slice A n c) := reads_load scBs (cell_cells0 p.box rfl)
theorem RdP.rbad (p : RdP N h r o A n c) : Reads Tryz.prog (Instr.loadAt 4 (.pointer (some ((⟨r, 0, none⟩ : Addr).add 1)))) h (.bool o.isNone) := reads_load scB (cell_cells p.box rfl)
theorem rfail_spec (hr : RdAt N h r o) : HC Tryz.prog 129 #[.pointer (some ⟨r, 0, none⟩)] h fun v h' => RdAt N h' r none ∧ Upd (fun i => i = r) h h' ∧ v = .tuple #[] := by
  obtain ⟨A, n, c, p⟩ := hr
  refine HC_of_vc (args := [.pointer (some ⟨r, 0, none⟩)]) (base := 10) (cuts := []) (bigs := []) hm Tryz.func129 ?_
  rw [vcFail]
  refine ⟨_, reads_neq_nil undRp, br_intro (fun _ => ?_) fun e => by cases e⟩
  refine ⟨_, rfl, svc_store_box (k := 1) szB p.box (by simp) rfl (one_bool _) fun h3 z3 b3 u3 => ⟨_, rfl, ?_⟩⟩
  have b3' : h3[r]? = some (.cells #[.slice A n c, .bool true] 186 (0, 0)) := by simpa using b3
  have sv := svc_store_box (P := Tryz.prog) (t := 22) (v := .slice none 0 0) (K := fun _ h' => RdAt N h' r none ∧ Upd (fun i => i = r) h h' ∧ Value.tuple #[] = .tuple #[]) (k := 0) szBs b3' (by simp) rfl (one_slice _ _ _) fun h6 z6 b6 u6 =>
    ⟨⟨none, 0, 0, by simpa using b6, Nat.le_refl _, Nat.zero_le _, Sl.nil _ _, fun h0 => absurd rfl h0, p.n⟩, u3.trans u6, rfl⟩
  rwa [Addr.add_row] at sv
theorem rgood_spec (hr : RdAt N h r o) : HC Tryz.prog 98 #[.pointer (some ⟨r, 0, none⟩)] h fun v h' => h' = h ∧ v = .bool o.isSome := by
  obtain ⟨A, n, c, p⟩ := hr
  refine HC_of_vc (args := [.pointer (some ⟨r, 0, none⟩)]) (base := 12) (cuts := []) (bigs := []) hm Tryz.func98 ?_
  rw [vcRdGood]
  refine ⟨_, reads_neq_nil undRp, _, fun _ => rfl, _, fun _ => p.rbad, rfl, ?_⟩
  cases o <;> rfl
theorem rend_spec (hr : RdAt N h r o) : HC Tryz.prog 100 #[.pointer (some ⟨r, 0, none⟩)] h fun v h' => h' = h ∧ v = .bool (decide (o = some [])) := by
  have hr0 := hr
  obtain ⟨A, n, c, p⟩ := hr
  refine HC_of_vc (args := [.pointer (some ⟨r, 0, none⟩)]) (base := 13) (cuts := []) (bigs := []) hm Tryz.func100 ?_
  rw [vcRdEnd]
  refine (rgood_spec hr0).mono ?_
  rintro v h1 ⟨rfl, rfl⟩
  refine ⟨_, rfl, _, fun _ => rfl, _, _, _, fun _ => p.rb, rfl, ?_⟩
  have hl := p.sl.1
  cases o with
  | none => rfl
  | some l =>
    have hl : l.length = n := hl
    cases l with
    | nil => simp at hl; subst hl; rfl
    | cons a l =>
      have : ¬ n = 0 := by simp at hl; omega
      simp [this]
theorem and127 : ∀ k : Fin 256, ((BitVec.ofInt 8 (k.val : Int)) &&& BitVec.ofInt 8 127).toNat = k.val % 128 := by decide
theorem or_val {a i x : Nat} (ha : a < 128 ^ i) (hi : i ≤ 9) (hx : x < 128) (h9 : i = 9 → x ≤ 1) :
    IntKind.u64.wrap ((BitVec.ofInt 64 (a : Int) ||| BitVec.ofInt 64 (IntKind.u64.wrap (IntKind.u64.wrap (IntKind.u8.wrap (x : Int)) * 2 ^ min (IntKind.i64.wrap (7 * (i : Int))).toNat 64))).toNat : Int) = ((a + x * 128 ^ i : Nat) : Int) ∧ a + x * 128 ^ i < 18446744073709551616 ∧ a + x * 128 ^ i < 128 ^ (i + 1) := by
  have e7 : min (IntKind.i64.wrap (7 * (i : Int))).toNat 64 = 7 * i := by rw [wrap_i64 (by omega) (by omega)]; omega
  have ep : (128 : Nat) ^ i = 2 ^ (7 * i) := by rw [Nat.pow_mul]
  have e9 : (128 : Nat) ^ 9 = 9223372036854775808 := by decide
  have e8 : (128 : Nat) ^ 8 = 72057594037927936 := by decide
  have hlt : x * 128 ^ i + 128 ^ i ≤ 18446744073709551616 := by
    rcases Nat.lt_or_ge i 9 with h | h
    · have h1 : 128 ^ i ≤ 128 ^ 8 := Nat.pow_le_pow_right (by decide) (by omega)
      have h2 : x * 128 ^ i ≤ 127 * 128 ^ 8 := Nat.mul_le_mul (by omega) h1
      omega
    · have : i = 9 := by omega
      subst this
      have := h9 rfl
      rw [e9]; omega
  have hpow : (128 : Nat) ^ (i + 1) = 128 ^ i * 128 := Nat.pow_succ ..
  have hlt2 : a + x * 128 ^ i < 128 ^ (i + 1) := by
    rw [hpow]
    have : x * 128 ^ i ≤ 127 * 128 ^ i := Nat.mul_le_mul_right _ (by omega)
    omega
  refine ⟨?_, by omega, hlt2⟩
  have w8 : IntKind.u8.wrap (x : Int) = (x : Int) := by simp [IntKind.wrap, IntKind.signed, IntKind.bits]; omega
  have w64 : ∀ y : Nat, y < 18446744073709551616 → IntKind.u64.wrap (y : Int) = (y : Int) := fun y hy => by simp [IntKind.wrap, IntKind.signed, IntKind.bits]; omega
  rw [e7, w8, w64 x (by omega)]
  have em : (x : Int) * 2 ^ (7 * i) = ((x * 128 ^ i : Nat) : Int) := by rw [ep]; simp
  rw [em, w64 (x * 128 ^ i) (by omega)]
  have t1 : ∀ y : Nat, y < 18446744073709551616 → (BitVec.ofInt 64 (y : Int)).toNat = y := fun y hy => by simp [BitVec.toNat_ofInt]; omega
  rw [BitVec.toNat_or, t1 a (by omega), t1 _ (by omega)]
  have ho : a ||| x * 128 ^ i = a + x * 128 ^ i := by
    rw [ep] at ha ⊢
    have := Nat.shiftLeft_add_eq_or_of_lt ha x
    rw [Nat.shiftLeft_eq] at this
    rw [Nat.or_comm, ← this, Nat.add_comm]
  rw [ho, w64 _ (by omega)]
set_option maxHeartbeats 1000000 in
theorem ruint2_spec (hr : RdAt N h r o) : HC Tryz.prog 130 #[.pointer (some ⟨r, 0, none⟩)] h fun v h' => RdAt N h' r (rUint o).2 ∧ Upd (fun i => i = r) h h' ∧ v = .int .u64 (rUint o).1 ∧ (rUint o).1 < 18446744073709551616 := by
  have hr0 := hr
  obtain ⟨A, n, c, p⟩ := hr
  refine HC_of_vc (args := [.pointer (some ⟨r, 0, none⟩)]) (base := 56) (cuts := []) (bigs := []) hm Tryz.func130 ?_
  rw [vcRdUint]
  have hl := p.sl.1
  have hU : rUint o = match rdU 0 0 (o.getD []) with | none => (0, none) | some (n, r) => (n, some r) := by
    cases o <;> rfl
  rw [hU]
  generalize hbs : o.getD [] = bs at hl
  have hsl := p.sl
  rw [hbs] at hsl
  have fails : ∀ {H : Heap}, H = h → rdU 0 0 bs = none → HC Tryz.prog 129 (Array.mk [.pointer (some (Addr.mk r 0 none))]) H fun (v13 : Value) (h14 : Heap) => v13 = .tuple (Array.mk []) ∧
      (RdAt N h14 r (match rdU 0 0 bs with | none => (0, none) | some (n, r) => (n, some r)).2 ∧ Upd (fun i => i = r) h h14 ∧ Value.int .u64 0 = .int .u64 (match rdU 0 0 bs with | none => (0, none) | some (n, r) => (n, some r)).1 ∧ (match rdU 0 0 bs with | none => (0, (none : Rs)) | some (n, r) => (n, some r)).1 < 18446744073709551616) := by
    rintro H rfl e
    rw [e]
    refine (rfail_spec hr0).mono ?_
    rintro v h14 ⟨a, b, rfl⟩
    exact ⟨rfl, a, b, rfl, by decide⟩
  refine ⟨_, reads_eql_nil undRp, br_intro (fun e => by cases e) fun _ => ⟨_, rfl, _, _, _, p.rb, fun _ n8 n9 H => ∃ (i a : Nat), n9 = i ∧ n8 = a ∧ i ≤ 9 ∧ i ≤ n ∧ a < 128 ^ i ∧ H = h ∧ rdU 0 0 bs = rdU i a (bs.drop i), fun _ _ n9 _ => n - n9.toNat,
    ⟨0, 0, rfl, rfl, by omega, Nat.zero_le _, by decide, rfl, rfl⟩, ?_⟩⟩
  rintro n7 n8 n9 H ⟨i, a, rfl, rfl, hi, hin, ha, rfl, hrd⟩
  refine br_intro (fun e => ?_) fun e => ?_
  · have e := of_decide_eq_true e
    have hlt : i < n := by omega
    obtain ⟨p11, ea, hc⟩ := hsl.byte (j := i) (by omega)
    have hdrop : bs.drop i = bs[i]'(by omega) :: bs.drop (i + 1) := List.drop_eq_getElem_cons (by omega)
    generalize bs[i]'(by omega) = b at hc hdrop
    rw [hdrop, rdU] at hrd
    have hb := b.toNat_lt
    refine ⟨p11, ⟨ea, by omega, by omega⟩, _, reads_load (by kernel_rfl) (by rw [Int.toNat_natCast, Nat.mul_one]; exact hc), br_intro (fun e2 => ?_) fun e2 => ?_⟩
    · simp only [Bool.or_eq_true, Bool.and_eq_true, decide_eq_true_eq, beq_iff_eq] at e2
      rw [if_pos (by omega)] at hrd
      exact fails rfl hrd
    · simp only [Bool.or_eq_false_iff, Bool.and_eq_false_iff, decide_eq_false_iff_not, beq_eq_false_iff_ne] at e2
      rw [if_neg (by omega)] at hrd
      have h127 : ((BitVec.ofInt 8 (b.toNat : Int)) &&& BitVec.ofInt 8 127).toNat = b.toNat % 128 := and127 ⟨b.toNat, hb⟩
      rw [h127]
      obtain ⟨v1, v2, v3⟩ := or_val (x := b.toNat % 128) ha hi (by omega) (by omega)
      rw [v1]
      refine ⟨by rw [wrap_i64 (by omega) (by omega)]; omega, br_intro (fun e3 => ?_) fun e3 => ?_⟩
      · have e3 := of_decide_eq_true e3
        rw [if_pos (by omega)] at hrd
        rw [hrd, wrap_i64 (by omega) (by omega)]
        have hto : ((i : Int) + 1).toNat = i + 1 := by omega
        have hcap := p.cap
        refine ⟨_, rfl, _, _, _, p.rb, ⟨by omega, by omega, by omega, by omega⟩, _, rfl, ?_⟩
        rw [hto]
        have sv := svc_store_box (P := Tryz.prog) (t := 22) (v := .slice (subA A (i + 1) c 1) (n - (i + 1)) (c - (i + 1))) (K := fun _ h' => RdAt N h' r (some (bs.drop (i + 1))) ∧ Upd (fun i => i = r) H h' ∧ Value.int .u64 ((a + b.toNat % 128 * 128 ^ i : Nat) : Int) = .int .u64 ((a + b.toNat * 128 ^ i : Nat) : Int) ∧ a + b.toNat * 128 ^ i < 18446744073709551616) (k := 0) szBs p.box (by simp) rfl (one_slice _ _ _) fun h6 z6 b6 u6 => by
          have hso : o.isNone = false := by
            cases o with
            | some _ => rfl
            | none => simp at hbs; subst hbs; simp at hl; omega
          have e5 : b.toNat % 128 = b.toNat := by omega
          rw [e5] at v2 ⊢
          refine ⟨⟨_, _, _, by simp [hso] at b6; exact b6, by omega, by have := p.lim; omega, ?_, fun h0 q hq => ?_, p.n⟩, u6, rfl, v2⟩
          · exact (sl_drop hsl (by omega) hcap).upd u6 fun q hq e => (p.ne (by omega) q (blk_subA q hq)).1 e
          · exact p.ne (by omega) q (blk_subA q hq)
        rwa [Addr.add_row] at sv
      · have e3 := of_decide_eq_false e3
        rw [if_neg (by omega)] at hrd
        have e5 : b.toNat - 128 = b.toNat % 128 := by omega
        rw [e5] at hrd
        rw [wrap_i64 (by omega) (by omega)]
        exact ⟨⟨i + 1, _, rfl, rfl, by omega, hlt, v3, rfl, hrd⟩, by dsimp only; omega⟩
  · have e := of_decide_eq_false e
    have hin' : i = bs.length := by omega
    rw [hin', List.drop_length] at hrd
    exact fails rfl hrd
end
end Go.Proofs.YthkhaobmhheoaaaGreat
end

section
set_option linter.unusedVariables false
set_option linter.unusedSimpArgs false
set_option maxRecDepth 100000
namespace Go.Proofs.YthkhaobmhheoaaaGreat
open Go Go.Vc Go.Proofs Go.Dk Go.Cd

section
variable {N N' S : Nat → Prop} {h h' : Heap} {r : Nat} {o o' : Rs} {A : Option Addr} {n c : Nat}
theorem unzig_val {m : Nat} (hm : m < 18446744073709551616) :
    IntKind.i64.wrap ((BitVec.ofInt 64 (IntKind.i64.wrap ((m : Int).fdiv (2 ^ 1))) ^^^ BitVec.ofInt 64 (IntKind.i64.wrap (0 - IntKind.i64.wrap (IntKind.u64.wrap ((BitVec.ofInt 64 (m : Int) &&& BitVec.ofInt 64 1).toNat : Int))))).toNat : Int) = unzig m := by
  have e1 : (m : Int).fdiv (2 ^ 1) = ((m / 2 : Nat) : Int) := by rw [Int.fdiv_eq_ediv_of_nonneg _ (by decide)]; rfl
  have t1 : ∀ y : Nat, y < 18446744073709551616 → (BitVec.ofInt 64 (y : Int)).toNat = y := fun y hy => by simp [BitVec.toNat_ofInt]; omega
  have e2 : (BitVec.ofInt 64 (m : Int) &&& BitVec.ofInt 64 1).toNat = m % 2 := by
    rw [BitVec.toNat_and, t1 m hm]
    have : (BitVec.ofInt 64 1).toNat = 1 := by decide
    rw [this, Nat.and_one_is_mod]
  have e3 : IntKind.u64.wrap ((m % 2 : Nat) : Int) = ((m % 2 : Nat) : Int) := by simp [IntKind.wrap, IntKind.signed, IntKind.bits]; omega
  rw [e1, e2, e3, wrap_i64 (n := ((m / 2 : Nat) : Int)) (by omega) (by omega), wrap_i64 (n := ((m % 2 : Nat) : Int)) (by omega) (by omega), wrap_i64 (n := 0 - ((m % 2 : Nat) : Int)) (by omega) (by omega)]
  unfold unzig
  by_cases h : m % 2 = 0
  · rw [if_pos h, h]
    have e4 : (BitVec.ofInt 64 ((m / 2 : Nat) : Int) ^^^ BitVec.ofInt 64 (0 - ((0 : Nat) : Int))).toNat = m / 2 := by
      have : BitVec.ofInt 64 (0 - ((0 : Nat) : Int)) = 0#64 := by decide
      rw [this, BitVec.xor_zero, t1 _ (by omega)]
    rw [e4, wrap_i64 (by omega) (by omega)]
  · have h1 : m % 2 = 1 := by omega
    rw [if_neg h, h1]
    have e4 : (BitVec.ofInt 64 ((m / 2 : Nat) : Int) ^^^ BitVec.ofInt 64 (0 - ((1 : Nat) : Int))).toNat = 18446744073709551615 - m / 2 := by
      have : BitVec.ofInt 64 (0 - ((1 : Nat) : Int)) = BitVec.allOnes 64 := by decide
      rw [this, BitVec.xor_allOnes, BitVec.toNat_not, t1 _ (by omega)]
    rw [e4]
    have e5 : ∀ y : Nat, y < 9223372036854775808 → IntKind.i64.wrap ((18446744073709551615 - y : Nat) : Int) = -(y : Int) - 1 := fun y hy => by
      unfold IntKind.wrap IntKind.signed IntKind.bits
      simp only [Bool.true_and]
      split
      · omega
      · rename_i h7; simp at h7; omega
    exact e5 _ (by omega)
theorem unzig_rng {m : Nat} (hm : m < 18446744073709551616) : -9223372036854775808 ≤ unzig m ∧ unzig m < 9223372036854775808 := by unfold unzig; split <;> omega
theorem rint2_spec (hr : RdAt N h r o) : HC Tryz.prog 128 #[.pointer (some ⟨r, 0, none⟩)] h fun v h' => RdAt N h' r (rInt o).2 ∧ Upd (fun i => i = r) h h' ∧ v = .int .i64 (rInt o).1 := by
  refine HC_of_vc (args := [.pointer (some ⟨r, 0, none⟩)]) (base := 14) (cuts := []) (bigs := []) hm Tryz.func128 ?_
  rw [vcRdInt]
  refine (ruint2_spec hr).mono ?_
  rintro v h1 ⟨hr1, u1, rfl, hlt⟩
  exact ⟨_, rfl, by decide, hr1, u1, by rw [unzig_val hlt]; rfl⟩
theorem rIn_some {lo hi : Int} (o : Rs) : rIn lo hi o = match (rInt o).2 with | none => (0, none) | some l => if (rInt o).1 < lo ∨ hi < (rInt o).1 then (0, none) else ((rInt o).1, some l) := by
  unfold rIn
  cases h : rInt o with
  | mk a b => cases b <;> rfl
theorem rin_spec {lo hi : Int} (hr : RdAt N h r o) : HC Tryz.prog 97 #[.pointer (some ⟨r, 0, none⟩), .int .i64 lo, .int .i64 hi] h fun v h' => RdAt N h' r (rIn lo hi o).2 ∧ Upd (fun i => i = r) h h' ∧ v = .int .i64 (rIn lo hi o).1 := by
  refine HC_of_vc (args := [.pointer (some ⟨r, 0, none⟩), .int .i64 lo, .int .i64 hi]) (base := 28) (cuts := [4]) (bigs := []) hm Tryz.func97 ?_
  rw [vcRdIn, rIn_some]
  refine (rint2_spec hr).mono ?_
  rintro v h1 ⟨hr1, u1, rfl⟩
  generalize (rInt o).1 = m
  generalize (rInt o).2 = o1 at hr1
  refine ⟨_, rfl, fun H => ∃ o2 : Rs, RdAt N H r o2 ∧ Upd (fun i => i = r) h H ∧ o2 = (match o1 with | none => (0, none) | some l => if m < lo ∨ hi < m then (0, none) else (m, some l)).2, (rgood_spec hr1).mono ?_, ?_⟩
  · rintro v h5 ⟨rfl, rfl⟩
    refine ⟨_, rfl, br_intro (fun e => ?_) fun e => ?_⟩
    · refine (rfail_spec hr1).mono ?_
      rintro v h8 ⟨hr8, u8, rfl⟩
      refine ⟨rfl, none, hr8, u1.trans u8, ?_⟩
      cases o1 with
      | none => rfl
      | some l =>
        simp only [Option.isSome_some, Bool.true_and, Bool.or_eq_true, decide_eq_true_eq] at e
        dsimp only
        rw [if_pos (by omega)]
    · refine ⟨o1, hr1, u1, ?_⟩
      cases o1 with
      | none => rfl
      | some l =>
        simp only [Option.isSome_some, Bool.true_and, Bool.or_eq_false_iff, decide_eq_false_iff_not] at e
        dsimp only
        rw [if_neg (by omega)]
  · rintro H ⟨o2, hr2, u2, rfl⟩
    refine (rgood_spec hr2).mono ?_
    rintro v h11 ⟨rfl, rfl⟩
    refine ⟨_, rfl, br_intro (fun e => ⟨hr2, u2, ?_⟩) fun e => ⟨hr2, u2, ?_⟩⟩
    · cases o1 with
      | none => rfl
      | some l =>
        dsimp only at e ⊢
        split at e
        · rename_i h1; rw [if_pos h1]
        · simp at e
    · cases o1 with
      | none => simp at e
      | some l =>
        dsimp only at e ⊢
        split at e
        · simp at e
        · rename_i h1; rw [if_neg h1]
theorem rtake_spec {m : Int} (hr : RdAt N h r o) : HC Tryz.prog 131 #[.pointer (some ⟨r, 0, none⟩), .int .i64 m] h fun v h' => RdAt N h' r (rTake m o).2 ∧ Upd (fun i => i = r) h h' ∧ v = .string (rTake m o).1 := by
  have hr0 := hr
  obtain ⟨A, n, c, p⟩ := hr
  refine HC_of_vc (args := [.pointer (some ⟨r, 0, none⟩), .int .i64 m]) (base := 46) (cuts := []) (bigs := []) hm Tryz.func131 ?_
  rw [vcRdTake]
  refine ⟨_, reads_eql_nil undRp, _, fun _ => rfl, _, fun _ => p.rbad, _, fun _ => rfl, _, _, _, fun _ => p.rb, br_intro (fun e => ?_) fun e => ?_⟩
  · refine (rfail_spec hr0).mono ?_
    rintro v h8 ⟨hr8, u8, rfl⟩
    have : rTake m o = (⟨#[]⟩, none) := by
      cases o with
      | none => rfl
      | some l =>
        have hl : l.length = n := p.sl.1
        unfold rTake
        dsimp only
        rw [if_pos]
        simp at e
        omega
    rw [this]
    exact ⟨rfl, hr8, u8, rfl⟩
  · cases o with
    | none => simp at e
    | some l =>
      have hl : l.length = n := p.sl.1
      have hcap := p.cap
      have e : ¬ m < 0 ∧ ¬ m > (n : Int) := by simp at e; omega
      have ht : rTake m (some l) = (⟨(l.take m.toNat).toArray⟩, some (l.drop m.toNat)) := by
        unfold rTake
        dsimp only
        rw [if_neg (by omega)]
      rw [ht]
      have hsl : Sl ByteE h A n l := p.sl
      refine ⟨_, rfl, _, _, _, p.rb, ⟨by omega, by omega, by omega⟩, _, reads_string (c := c) undBs undB undS (sl_take hsl (l := m.toNat) (by omega)), _, rfl, _, _, _, p.rb, ⟨by omega, by omega, by omega, by omega⟩, _, rfl, ?_⟩
      have sv := svc_store_box (P := Tryz.prog) (t := 22) (v := .slice (subA A m.toNat c 1) (n - m.toNat) (c - m.toNat)) (K := fun _ h' => RdAt N h' r (some (l.drop m.toNat)) ∧ Upd (fun i => i = r) h h' ∧ Value.string ⟨(l.take m.toNat).toArray⟩ = .string ⟨(l.take m.toNat).toArray⟩) (k := 0) szBs p.box (by simp) rfl (one_slice _ _ _) fun h6 z6 b6 u6 =>
        ⟨⟨subA A m.toNat c 1, _, _, by simpa using b6, by omega, by have := p.lim; omega, (sl_drop hsl (by omega) hcap).updM u6.m fun h0 q hq e => (p.ne (by omega) q (blk_subA q hq)).1 e, fun h0 q hq => p.ne (by omega) q (blk_subA q hq), p.n⟩, u6, rfl⟩
      rwa [Addr.add_row] at sv
theorem rtext2_spec {m : Int} (hr : RdAt N h r o) (hm2 : m ≤ 9223372036854775807) (hm1 : -9223372036854775808 ≤ m) : HC Tryz.prog 99 #[.pointer (some ⟨r, 0, none⟩), .int .i64 m] h fun v h' => RdAt N h' r (rText m o).2 ∧ Upd (fun i => i = r) h h' ∧ v = .string (rText m o).1 := by
  refine HC_of_vc (args := [.pointer (some ⟨r, 0, none⟩), .int .i64 m]) (base := 22) (cuts := []) (bigs := []) hm Tryz.func99 ?_
  rw [vcRdText]
  refine (ruint2_spec hr).mono ?_
  rintro v h1 ⟨hr1, u1, rfl, hlt⟩
  unfold rText
  cases hU : rUint o with
  | mk k o1 =>
    rw [hU] at hr1 hlt
    dsimp only at hr1 hlt ⊢
    have hw : 0 ≤ m → IntKind.u64.wrap m = m := fun h0 => by simp only [IntKind.wrap, IntKind.signed, IntKind.bits]; simp; omega
    refine ⟨_, rfl, br_intro (fun e => ?_) fun e => ?_⟩
    · have : m < 0 ∨ m < (k : Int) := by
        simp only [Bool.or_eq_true, decide_eq_true_eq] at e
        rcases e with e | e
        · exact .inl e
        · by_cases h0 : m < 0
          · exact .inl h0
          · rw [hw (by omega)] at e; exact .inr (by omega)
      rw [if_pos this]
      refine (rfail_spec hr1).mono ?_
      rintro v h8 ⟨hr8, u8, rfl⟩
      exact ⟨rfl, hr8, u1.trans u8, rfl⟩
    · simp only [Bool.or_eq_false_iff, decide_eq_false_iff_not] at e
      rw [hw (by omega)] at e
      rw [if_neg (by omega), wrap_i64 (by omega) (by omega)]
      refine (rtake_spec hr1).mono ?_
      rintro v h6 ⟨hr6, u6, rfl⟩
      exact ⟨_, rfl, hr6, u1.trans u6, rfl⟩
theorem cread_spec {bs : List UInt8} (hs : Sl ByteE h A n bs) (hn : n ≤ 1073741824) : HC Tryz.prog 96 #[.slice A n c] h fun v h' => Keep h.size h h' ∧ ∃ r, v = .pointer (some ⟨r, 0, none⟩) ∧ h.size ≤ r ∧ RdAt (fun q => h.size ≤ q ∧ q < h'.size) h' r (some bs) := by
  refine HC_of_vc (args := [.slice A n c]) (base := 7) (cuts := []) (bigs := []) hm Tryz.func96 ?_
  rw [vcCRead]
  have hl := hs.1
  refine svc_append app_b (Vc.Own.nil _ _ _) (Nat.le_refl _) hs (by omega) fun a' c' h1 o1 u1 b1 => ⟨_, _, _, rfl, ?_⟩
  rw [List.nil_append] at o1
  have k1 : Keep h.size h h1 := u1.keep (Nat.le_refl _) fun q ⟨p, e, _⟩ => by cases e
  have z1 := k1.size
  have ol := o1.1
  refine ⟨k1.trans (Keep.push _ _ _ z1), h1.size, rfl, z1, a', _, c', push_at _ _, o1.2.1, by omega, o1.sl.keep (keep_push _ _), fun _ q hq => ?_, ⟨z1, by simp⟩⟩
  have := o1.block q hq
  exact ⟨by omega, by omega, by simp; omega⟩
theorem len_fin (T : ByteArray) (hT : ∀ k : Fin 256, 0 < k.val → (1 : Int) ≤ byteAt T (k.val : Int) ∧ byteAt T (k.val : Int) ≤ 8 ∧ 2 ^ ((byteAt T (k.val : Int)).toNat - 1) ≤ k.val ∧ k.val < 2 ^ (byteAt T (k.val : Int)).toNat) {x y s : Nat} (hy : 0 < y) (hy2 : y < 256) (hs : s ≤ 56) (h1 : y * 2 ^ s ≤ x) (h2 : x < (y + 1) * 2 ^ s) :
    ∃ k : Nat, IntKind.i64.wrap ((s : Int) + IntKind.i64.wrap (byteAt T (IntKind.u8.wrap (y : Int)))) = (k : Int) ∧ 2 ^ (k - 1) ≤ x ∧ x < 2 ^ k ∧ 1 ≤ k ∧ k ≤ 64 := by
  have w8 : IntKind.u8.wrap (y : Int) = (y : Int) := by simp [IntKind.wrap, IntKind.signed, IntKind.bits]; omega
  rw [w8]
  obtain ⟨a1, a2, a3, a4⟩ := hT ⟨y, hy2⟩ hy
  generalize byteAt T (y : Int) = b at a1 a2 a3 a4
  obtain ⟨bn, rfl⟩ : ∃ bn : Nat, b = bn := ⟨b.toNat, by omega⟩
  rw [Int.toNat_natCast] at a3 a4
  refine ⟨s + bn, ?_, ?_, ?_, by omega, by omega⟩
  · rw [wrap_i64 (n := (bn : Int)) (by omega) (by omega), wrap_i64 (by omega) (by omega)]; omega
  · have e : s + bn - 1 = (bn - 1) + s := by omega
    rw [e, Nat.pow_add]
    exact Nat.le_trans (Nat.mul_le_mul_right _ a3) h1
  · rw [Nat.add_comm s bn, Nat.pow_add]
    exact Nat.lt_of_lt_of_le h2 (Nat.mul_le_mul_right _ a4)
theorem ex_int {v : Int} {P : Nat → Prop} (h : ∃ k : Nat, v = (k : Int) ∧ P k) : ∃ k : Nat, Value.int .i64 v = .int .i64 k ∧ P k := h.imp fun k h => ⟨by rw [h.1], h.2⟩
theorem half {x y s j : Nat} (h1 : y * 2 ^ s ≤ x) (h2 : x < (y + 1) * 2 ^ s) : (y / 2 ^ j) * 2 ^ (s + j) ≤ x ∧ x < (y / 2 ^ j + 1) * 2 ^ (s + j) := by
  have hp : 0 < 2 ^ j := Nat.pow_pos (by decide)
  have e : ∀ z : Nat, z * 2 ^ (s + j) = z * 2 ^ j * 2 ^ s := fun z => by rw [Nat.pow_add, Nat.mul_comm (2 ^ s), Nat.mul_assoc]
  rw [e, e]
  constructor
  · exact Nat.le_trans (Nat.mul_le_mul_right _ (Nat.div_mul_le_self _ _)) h1
  · refine Nat.lt_of_lt_of_le h2 (Nat.mul_le_mul_right _ ?_)
    have := Nat.lt_div_mul_add (a := y) hp
    rw [Nat.add_mul]; omega
theorem shr {y : Nat} (j : Nat) : (y : Int).fdiv (2 ^ j) = ((y / 2 ^ j : Nat) : Int) := by
  have hp : (0 : Int) ≤ 2 ^ j := by exact_mod_cast Nat.zero_le (2 ^ j)
  rw [Int.fdiv_eq_ediv_of_nonneg _ hp]
  exact_mod_cast rfl
theorem len64_spec {x : Nat} (hx : 0 < x) (hx2 : x < 18446744073709551616) : HC Tryz.prog 158 #[.int .u64 x] h fun v h' => h' = h ∧ ∃ k : Nat, v = .int .i64 k ∧ 2 ^ (k - 1) ≤ x ∧ x < 2 ^ k ∧ 1 ≤ k ∧ k ≤ 64 := by
  refine HC_of_vc (args := [.int .u64 x]) (base := 25) (cuts := [4, 7, 10]) (bigs := []) hm Tryz.func158 ?_
  rw [vcLen64]
  have s32 := half (x := x) (y := x) (s := 0) (j := 32) (by simp) (by simp)
  refine ⟨fun n1 n2 H => ∃ y s : Nat, n1 = y ∧ n2 = s ∧ H = h ∧ 0 < y ∧ y < 4294967296 ∧ s ≤ 32 ∧ y * 2 ^ s ≤ x ∧ x < (y + 1) * 2 ^ s, br_intro (fun e => ⟨by decide, x / 2 ^ 32, 32, shr 32, rfl, rfl, ?_, ?_, by omega, by simpa using s32.1, by simpa using s32.2⟩) fun e => ⟨x, 0, rfl, rfl, rfl, hx, ?_, by omega, by simp, by simp⟩, ?_⟩
  · have e := of_decide_eq_true e
    omega
  · omega
  · have e := of_decide_eq_false e
    omega
  rintro n1 n2 H ⟨y, s, rfl, rfl, rfl, hy, hy2, hs, h1, h2⟩
  have s16 := half (j := 16) h1 h2
  refine ⟨fun n1 n2 G => ∃ y s : Nat, n1 = y ∧ n2 = s ∧ G = H ∧ 0 < y ∧ y < 65536 ∧ s ≤ 48 ∧ y * 2 ^ s ≤ x ∧ x < (y + 1) * 2 ^ s, br_intro (fun e => ⟨by decide, y / 2 ^ 16, s + 16, shr 16, by rw [wrap_i64 (by omega) (by omega)]; omega, rfl, ?_, ?_, by omega, s16.1, s16.2⟩) fun e => ⟨y, s, rfl, rfl, rfl, hy, ?_, by omega, h1, h2⟩, ?_⟩
  · have e := of_decide_eq_true e
    omega
  · omega
  · have e := of_decide_eq_false e
    omega
  rintro n5 n6 G ⟨y, s, rfl, rfl, rfl, hy, hy2, hs, h1, h2⟩
  have s8 := half (j := 8) h1 h2
  refine ⟨fun n1 n2 F => ∃ y s : Nat, n1 = y ∧ n2 = s ∧ F = G ∧ 0 < y ∧ y < 256 ∧ s ≤ 56 ∧ y * 2 ^ s ≤ x ∧ x < (y + 1) * 2 ^ s, br_intro (fun e => ⟨by decide, y / 2 ^ 8, s + 8, shr 8, by rw [wrap_i64 (by omega) (by omega)]; omega, rfl, ?_, ?_, by omega, s8.1, s8.2⟩) fun e => ⟨y, s, rfl, rfl, rfl, hy, ?_, by omega, h1, h2⟩, ?_⟩
  · have e := of_decide_eq_true e
    omega
  · omega
  · have e := of_decide_eq_false e
    omega
  rintro n9 n10 F ⟨y, s, rfl, rfl, rfl, hy, hy2, hs, h1, h2⟩
  have w8 : IntKind.u8.wrap (y : Int) = (y : Int) := by simp [IntKind.wrap, IntKind.signed, IntKind.bits]; omega
  refine ⟨by rw [w8]; omega, rfl, ?_⟩
  refine ex_int (len_fin _ ?_ hy hy2 hs h1 h2)
  decide +kernel
theorem size_spec {x : Nat} (hx : x < 18446744073709551616) : HC Tryz.prog 148 #[.int .u64 x] h fun v h' => h' = h ∧ v = .int .i64 ((uintB x).length : Nat) := by
  refine HC_of_vc (args := [.int .u64 x]) (base := 8) (cuts := []) (bigs := []) hm Tryz.func148 ?_
  rw [vcSize]
  obtain ⟨y, hy⟩ : ∃ y, y = if x % 2 = 0 then x + 1 else x := ⟨_, rfl⟩
  have hyl : y < 18446744073709551616 := by rw [hy]; split <;> omega
  have hor : (BitVec.ofInt 64 (x : Int) ||| BitVec.ofInt 64 1).toNat = y := by
    have t1 : (BitVec.ofInt 64 (x : Int)).toNat = x := by simp [BitVec.toNat_ofInt]; omega
    rw [BitVec.toNat_or, t1]
    have : (BitVec.ofInt 64 1).toNat = 1 := by decide
    rw [this, hy]
    have h2 := Nat.shiftLeft_add_eq_or_of_lt (b := 1) (i := 1) (by decide) (x / 2)
    rw [Nat.shiftLeft_eq] at h2
    split
    · rename_i h0
      have e : x / 2 * 2 ^ 1 = x := by omega
      rw [e] at h2; exact h2.symm
    · rename_i h0
      have e : x = x / 2 * 2 ^ 1 + 1 := by omega
      have e3 : (x / 2 * 2 ^ 1 + 1) ||| 1 = x / 2 * 2 ^ 1 + 1 := by
        rw [h2, Nat.or_assoc, Nat.or_self]
      rw [← e] at e3; exact e3
  have w : IntKind.u64.wrap (y : Int) = (y : Int) := by simp [IntKind.wrap, IntKind.signed, IntKind.bits]; omega
  rw [hor, w]
  refine (len64_spec (by rw [hy]; split <;> omega) hyl).mono ?_
  rintro v h1 ⟨rfl, k, rfl, a1, a2, a3, a4⟩
  refine ⟨_, rfl, by decide, rfl, ?_⟩
  have e1 : IntKind.i64.wrap ((k : Int) + 6) = ((k + 6 : Nat) : Int) := by rw [wrap_i64 (by omega) (by omega)]; rfl
  rw [e1]
  have e2 : ((k + 6 : Nat) : Int).tdiv 7 = (((k + 6) / 7 : Nat) : Int) := rfl
  rw [e2, wrap_i64 (by omega) (by omega), size_bits hy a1 a2 a3]
end
end Go.Proofs.YthkhaobmhheoaaaGreat
end

section
set_option linter.unusedVariables false
set_option linter.unusedSimpArgs false
set_option maxRecDepth 100000
namespace Go.Proofs.YthkhaobmhheoaaaGreat
open Go Go.Vc Go.Proofs Go.Dk Go.Cd
open Go.Pg (SrtI)

theorem keep_upd {h h' : Heap} {S : Nat → Prop} {B : Nat} (k : Keep B h h) (u : Upd S h h') (hB : B ≤ h.size) (hs : ∀ i, S i → B ≤ i) : Keep B h h' := u.keep hB hs
theorem shr32 {x : Int} {i : Nat} (hi : i < 4) : x.fdiv (2 ^ min (IntKind.i64.wrap (8 * (i : Int))).toNat 32) = x.fdiv (2 ^ (8 * i)) := by
  have : min (IntKind.i64.wrap (8 * (i : Int))).toNat 32 = 8 * i := by rw [wrap_i64 (by omega) (by omega)]; omega
  rw [this]
theorem sumB_at (x : Int) {i : Nat} (hi : i < 4) : (sumB x)[i]? = some (b8 (x.fdiv (2 ^ (8 * i)))) := by
  match i, hi with
  | 0, _ => simp [sumB]
  | 1, _ => rfl
  | 2, _ => rfl
  | 3, _ => rfl
set_option maxHeartbeats 1000000 in
theorem next_spec {h : Heap} {A : Option Addr} {n c : Nat} {bs : List UInt8} (hs : Sl ByteE h A n bs) (hc : n ≤ c) (hn : n ≤ 1073741824) :
    HC Tryz.prog 127 #[.slice A n c] h fun v h' => Keep h.size h h' ∧ v = match nextF bs with | none => .tuple #[.string ⟨#[]⟩, .int .i64 0, .bool false] | some (s, m) => .tuple #[.string s, .int .i64 (m : Nat), .bool true] := by
  refine HC_of_vc (args := [.slice A n c]) (base := 54) (cuts := []) (bigs := []) hm Tryz.func127 ?_
  rw [vcNext]
  have hl := hs.1
  refine (cread_spec hs hn).mono ?_
  rintro v h1 ⟨k1, r, rfl, hr, rd⟩
  refine ⟨_, rfl, (rtext2_spec (m := (n : Int)) rd (by omega) (by omega)).mono ?_⟩
  rintro v h4 ⟨rd4, u4, rfl⟩
  have k4 : Keep h.size h h4 := k1.trans (u4.keep k1.size fun i e => by omega)
  unfold nextF
  rw [hl]
  cases hT : rText (n : Int) (some bs) with
  | mk s o =>
    rw [hT] at rd4
    dsimp only at rd4 ⊢
    refine ⟨_, rfl, (rgood_spec rd4).mono ?_⟩
    rintro v h7 ⟨rfl, rfl⟩
    cases o with
    | none => exact ⟨_, rfl, br_intro (fun _ => ⟨k4, rfl⟩) fun e => by simp at e⟩
    | some l =>
      refine ⟨_, rfl, br_intro (fun e => by simp at e) fun _ => ?_⟩
      dsimp only
      -- what was taken is no longer than what there was
      have hss : s.size ≤ n := by
        unfold rText at hT
        cases hU : rUint (some bs) with
        | mk k o1 =>
          rw [hU] at hT
          dsimp only at hT
          split at hT
          · cases hT
          · rename_i h0
            cases o1 with
            | none => cases hT
            | some l1 =>
              unfold rTake at hT
              dsimp only at hT
              split at hT
              · cases hT
              · rename_i h5
                have e1 : (⟨(l1.take (k : Int).toNat).toArray⟩ : ByteArray) = s := congrArg Prod.fst hT
                have : s.size = (l1.take (k : Int).toNat).length := by
                  rw [← e1]
                  show (l1.take (k : Int).toNat).toArray.size = _
                  rw [List.size_toArray]
                rw [List.length_take] at this
                omega
      have hw : IntKind.u64.wrap (s.size : Int) = (s.size : Int) := by simp only [IntKind.wrap, IntKind.signed, IntKind.bits]; simp; omega
      have h10 := uintB_len10 (n := s.size) (by omega)
      rw [hw]
      refine (size_spec (x := s.size) (by omega)).mono ?_
      rintro v h10' ⟨rfl, rfl⟩
      refine ⟨_, rfl, ?_⟩
      generalize (uintB s.size).length = z at h10
      have hz : IntKind.i64.wrap ((z : Int) + (s.size : Int)) = ((z + s.size : Nat) : Int) := by rw [wrap_i64 (by omega) (by omega)]; omega
      have hz4 : IntKind.i64.wrap (((z + s.size : Nat) : Int) + 4) = ((z + s.size + 4 : Nat) : Int) := by rw [wrap_i64 (by omega) (by omega)]; omega
      rw [hz, hz4]
      refine br_intro (fun e => ⟨k4, ?_⟩) fun e => ?_
      · have e := of_decide_eq_true e
        rw [if_pos (by omega)]
      · have e := of_decide_eq_false e
        rw [if_neg (by omega)]
        have hs7 := hs.keep k4
        refine ⟨⟨by omega, by omega, by omega⟩, ?_⟩
        rw [Int.toNat_natCast]
        refine (sum_spec (c := c) (sl_take hs7 (l := z + s.size) (by omega)) (by omega)).mono ?_
        rintro v h13 ⟨rfl, rfl⟩
        generalize crc (bs.take (z + s.size)) = cc
        refine ⟨_, rfl, fun _ _ _ n20 H => ∃ i : Nat, n20 = i ∧ i ≤ 4 ∧ H = h13 ∧ (bs.drop (z + s.size)).take i = (sumB cc).take i, fun _ _ _ n20 _ => 4 - n20.toNat, ⟨0, rfl, by omega, rfl, rfl⟩, ?_⟩
        rintro s17 n18 b19 n20 H ⟨i, rfl, hi, rfl, hpre⟩
        refine br_intro (fun e2 => ?_) fun e2 => ?_
        · have e2 := of_decide_eq_true e2
          have hi4 : i < 4 := by omega
          have hzi : IntKind.i64.wrap (((z + s.size : Nat) : Int) + (i : Int)) = ((z + s.size + i : Nat) : Int) := by rw [wrap_i64 (by omega) (by omega)]; omega
          rw [hzi]
          obtain ⟨p22, ea, hcell⟩ := hs7.byte (j := z + s.size + i) (by omega)
          have hget : (bs.drop (z + s.size))[i]? = some (bs[z + s.size + i]'(by omega)) := by rw [List.getElem?_drop, List.getElem?_eq_getElem (by omega)]
          generalize bs[z + s.size + i]'(by omega) = b at hcell hget
          have h8 := sumB_at cc hi4
          have hstep1 : (bs.drop (z + s.size)).take (i + 1) = (bs.drop (z + s.size)).take i ++ [b] := by rw [List.take_add_one, hget]; rfl
          have hstep2 : (sumB cc).take (i + 1) = (sumB cc).take i ++ [b8 (cc.fdiv (2 ^ (8 * i)))] := by rw [List.take_add_one, h8]; rfl
          refine ⟨p22, ⟨ea, by omega, by omega⟩, _, reads_load (by kernel_rfl) (by rw [Int.toNat_natCast, Nat.mul_one]; exact hcell), by rw [wrap_i64 (by omega) (by omega)]; omega, ?_⟩
          rw [shr32 hi4, u8_b8]
          refine br_intro (fun e3 => ⟨k4, ?_⟩) fun e3 => ?_
          · have hne : b ≠ b8 (cc.fdiv (2 ^ (8 * i))) := fun h => by rw [h] at e3; simp at e3
            rw [if_neg]
            intro h5
            have h6 := congrArg (List.take (i + 1)) h5
            rw [List.take_take, show min (i + 1) 4 = i + 1 by omega, hstep1, hstep2] at h6
            exact hne (by have := (List.append_inj' h6 rfl).2; simpa using this)
          · have heq : b = b8 (cc.fdiv (2 ^ (8 * i))) := by
              have : ((b.toNat : Nat) : Int) = ((b8 (cc.fdiv (2 ^ (8 * i)))).toNat : Nat) := by simpa using e3
              exact UInt8.toNat_inj.1 (by omega)
            rw [wrap_i64 (by omega) (by omega)]
            exact ⟨⟨i + 1, rfl, by omega, rfl, by rw [hstep1, hstep2, hpre, heq]⟩, by dsimp only; omega⟩
        · have e2 := of_decide_eq_false e2
          have hi4 : i = 4 := by omega
          subst hi4
          have : (sumB cc).take 4 = sumB cc := rfl
          rw [this] at hpre
          rw [if_pos hpre]
          exact ⟨k4, rfl⟩
set_option maxHeartbeats 1000000 in
theorem split_spec {h : Heap} {A : Option Addr} {n c : Nat} {bs : List UInt8} (hs : Sl ByteE h A n bs) (hc : n ≤ c) (hn : n ≤ 1073741824) :
    HC Tryz.prog 95 #[.slice A n c] h fun v h' => Keep h.size h h' ∧ ∃ a k c' m, v = .tuple #[.slice a k c', .int .i64 m] ∧ Sl StrE h' a k (splitL bs) := by
  refine HC_of_vc (args := [.slice A n c]) (base := 28) (cuts := []) (bigs := []) hm Tryz.func95 ?_
  rw [vcSplit]
  have hl := hs.1
  refine ⟨fun _ _ _ _ a k c' n9 H => ∃ (m : Nat) (done : List Str), n9 = m ∧ m ≤ n ∧ done.length ≤ m ∧ Keep h.size h H ∧ Vc.Own StrE 9 h.size H a k c' done ∧ splitL bs = done ++ splitN (n + 1 - done.length) (bs.drop m),
    fun _ _ _ _ _ _ _ n9 _ => n - n9.toNat, ⟨0, [], rfl, Nat.zero_le _, Nat.le_refl _, Keep.refl _ _, Vc.Own.nil _ _ _, by unfold splitL; rw [hl]; rfl⟩, ?_⟩
  rintro a2 k3 k4 n5 a6 k7 k8 n9 H ⟨m, done, rfl, hm', hd, kH, oH, heq⟩
  refine ⟨⟨by omega, by omega, by omega, by omega⟩, ?_⟩
  rw [Int.toNat_natCast]
  have hdl := oH.1
  refine (next_spec (c := c - m) (sl_drop (hs.keep kH) hm' hc) (by omega) (by omega)).mono ?_
  rintro v h12 ⟨k12, rfl⟩
  obtain ⟨f, hf⟩ : ∃ f, n + 1 - done.length = f + 1 := ⟨n - done.length, by omega⟩
  rw [hf, splitN] at heq
  cases hN : nextF (bs.drop m) with
  | none =>
    rw [hN] at heq
    dsimp only at heq ⊢
    rw [List.append_nil] at heq
    refine ⟨_, _, _, rfl, br_intro (fun _ => ⟨kH.trans (k12.mono kH.size), _, _, _, _, rfl, ?_⟩) fun e => by simp at e⟩
    rw [heq]
    exact (oH.upd (k12.upd fun _ => False) fun _ _ h => h).sl
  | some sm =>
    obtain ⟨s, j⟩ := sm
    obtain ⟨h5, hle, hsz⟩ := nextF_len hN
    rw [List.length_drop] at hle
    rw [hN] at heq
    dsimp only at heq ⊢
    refine ⟨_, _, _, rfl, br_intro (fun e => by simp at e) fun _ => ?_⟩
    refine svc_append1 app_ss (oH.upd (k12.upd fun _ => False) fun _ _ h => h) (Nat.le_trans kH.size k12.size) (bs_s s) (by omega) fun a' c' H' o' u' b' => ?_
    rw [wrap_i64 (by omega) (by omega)]
    refine ⟨⟨m + j, done ++ [s], by omega, by omega, by simp; omega, (kH.trans (k12.mono kH.size)).trans (u'.keep (Nat.le_trans kH.size k12.size) fun q hq => (oH.block q hq).1), o', ?_⟩, by omega⟩
    rw [heq, List.append_assoc]
    congr 1
    have e1 : n + 1 - (done ++ [s]).length = f := by rw [List.length_append]; simp; omega
    rw [e1, List.drop_drop]
    rfl
theorem split_head (bs : List UInt8) : splitL bs = match nextF bs with | none => [] | some (s, m) => s :: splitN bs.length (bs.drop m) := by unfold splitL; rw [splitN]; cases nextF bs <;> rfl
end Go.Proofs.YthkhaobmhheoaaaGreat
end

section
set_option linter.unusedVariables false
set_option linter.unusedSimpArgs false
set_option maxRecDepth 100000
namespace Go.Proofs.YthkhaobmhheoaaaGreat
open Go Go.Vc Go.Proofs Go.Dk Go.Cd
open Go.Pg (SrtI)

theorem rows_unique {ml : List (Int × Bv)} {W D : Pg.Rw} (hW : Rows ml W) (hn : (mKeys ml).Nodup) (hl : ∀ k, (mGet ml k).map (·.s) = lastP D k) (hD : SrtI (D.map (·.1))) : W = D := by
  have inW : ∀ r ∈ W, lastP D r.1 = some r.2 := fun r hr => by
    obtain ⟨v, g1, g2, _⟩ := hW.get hn hr
    rw [← hl, g1, ← g2]; rfl
  have inD : ∀ r ∈ D, lastP D r.1 = some r.2 := fun r hr => by
    obtain ⟨j, hj⟩ := List.mem_iff_getElem?.1 hr
    refine lastP_at D j r hj fun j' q' h1 h2 e => ?_
    obtain ⟨x1, rfl⟩ := List.getElem?_eq_some_iff.1 hj
    obtain ⟨x2, rfl⟩ := List.getElem?_eq_some_iff.1 h2
    have := List.pairwise_iff_getElem.1 hD j j' (by simpa using x1) (by simpa using x2) h1
    simp at this
    omega
  have hk : W.map (·.1) = D.map (·.1) := by
    refine Pg.srtI_ext hW.srt hD fun k => ⟨fun h => ?_, fun h => ?_⟩
    · obtain ⟨r, hr, rfl⟩ := List.mem_map.1 h
      have h1 := inW r hr
      by_cases h2 : ∃ q ∈ D, q.1 = r.1
      · obtain ⟨q, hq, e⟩ := h2; exact List.mem_map.2 ⟨q, hq, e⟩
      · rw [lastP_none.2 fun q hq e => h2 ⟨q, hq, e⟩] at h1; cases h1
    · obtain ⟨r, hr, rfl⟩ := List.mem_map.1 h
      have h1 := inD r hr
      rw [← hl] at h1
      cases hg : mGet ml r.1 with
      | none => rw [hg] at h1; cases h1
      | some v =>
        have hm := (mGet_mem hn r.1 v).2 hg
        exact List.mem_map.2 ⟨(r.1, v.s), hW.perm.mem_iff.2 (List.mem_map.2 ⟨(r.1, v), hm, rfl⟩), rfl⟩
  refine List.ext_getElem? fun i => ?_
  have hi := congrArg (fun l => l[i]?) hk
  simp only [List.getElem?_map] at hi
  cases h1 : W[i]? with
  | none => rw [h1] at hi; cases h2 : D[i]? with
    | none => rfl
    | some q => rw [h2] at hi; cases hi
  | some r => rw [h1] at hi; cases h2 : D[i]? with
    | none => rw [h2] at hi; cases hi
    | some q =>
      rw [h2] at hi
      have e1 : r.1 = q.1 := Option.some.inj hi
      have e2 := inW r (List.mem_of_getElem? h1)
      have e3 := inD q (List.mem_of_getElem? h2)
      rw [e1, e3] at e2
      congr 1
      exact Prod.ext e1 (Option.some.inj e2).symm
/-- a journal's bytes. -/
def jbytes (x : D) (nm : Str) : List UInt8 := (pgs x.now (Pg.nmJ nm)).flatMap bytesL
theorem head_read {h : Heap} {a : Option Addr} {k : Nat} {s : Str} {l : List Str} (hs : Sl StrE h a k (s :: l)) : ∃ p, a = some p ∧ Reads Tryz.prog (Instr.loadAt 9 (.pointer (some p))) h (.string s) := by
  obtain ⟨p, e, hp⟩ := hs.get (i := 0) (x := s) rfl
  refine ⟨p, e, ?_⟩
  have := hp 0 (.string s) rfl
  have e0 : p.add 0 = p := by unfold Addr.add; split <;> simp_all
  have e1 : 0 * StrE.sz + 0 = 0 := rfl
  rw [e1, e0] at this
  exact reads_load scS this
section
variable {h h' : Heap} {p d : Nat} {nm : Str} {N S : Nat → Prop} {x : D} {W : Pg.Rw}
theorem flat_pages {l : List Str} {i : Nat} {s : Str} (h : l[i]? = some s) : (l.take (i + 1)).flatMap bytesL = (l.take i).flatMap bytesL ++ bytesL s := by
  have : l.take (i + 1) = l.take i ++ [s] := by rw [List.take_add_one, h]; rfl
  rw [this, List.flatMap_append]; simp
theorem flat_len512 : ∀ (l : List Str), (∀ s ∈ l, s.size = 512) → (l.flatMap bytesL).length = 512 * l.length
  | [], _ => rfl
  | s :: l, h => by
    rw [List.flatMap_cons, List.length_append, flat_len512 l fun t ht => h t (List.mem_cons_of_mem _ ht), bytesL_len, h s List.mem_cons_self, List.length_cons]; omega
set_option maxHeartbeats 4000000 in
theorem redo_spec (hp : PagerAt h p d nm) (hNp : N p) (hd : DN N d x h) (hdn : x.down = false) (hw : x.waits.length ≤ 100000000)
    (hj : jrnl (jbytes x nm) = none ∨ ∃ W, jrnl (jbytes x nm) = some W ∧ SrtI (W.map (·.1))) :
    HC Tryz.prog 60 #[.pointer (some ⟨p, 0, none⟩)] h fun v h' => (jrnl (jbytes x nm) = none → Keep h.size h h' ∧ v = .int .i64 4) ∧
      ∀ W, jrnl (jbytes x nm) = some W → Stp N d (Pg.lay nm W x).2 h h' ∧ v = .int .i64 (Pg.lay nm W x).1 := by
  refine HC_of_vc (args := [.pointer (some ⟨p, 0, none⟩)]) (base := 78) (cuts := []) (bigs := []) hm Tryz.func60 ?_
  rw [vcRedo]
  have ok := hd.ok
  have hnd : ¬ x.down = true := by rw [hdn]; decide
  have hcl : Dk.count x (Pg.nmJ nm) = (pgs x.now (Pg.nmJ nm)).length := by unfold Dk.count; rw [if_neg hnd]
  have hc4 := Pg.count_le ok (Pg.nmJ nm)
  have hps := ok.pnow (Pg.nmJ nm)
  rw [hcl] at hc4
  unfold jbytes at hj ⊢
  generalize hL : pgs x.now (Pg.nmJ nm) = L at hj hcl hc4 hps
  -- an end without a record
  have bad : ∀ {G : Heap}, Keep h.size h G → jrnl (L.flatMap bytesL) = none → (jrnl (L.flatMap bytesL) = none → Keep h.size h G ∧ Value.int .i64 4 = .int .i64 4) ∧
      ∀ W, jrnl (L.flatMap bytesL) = some W → Stp N d (Pg.lay nm W x).2 h G ∧ Value.int .i64 4 = .int .i64 (Pg.lay nm W x).1 := fun k e => ⟨fun _ => ⟨k, rfl⟩, fun W hW => by rw [e] at hW; cases hW⟩
  refine ⟨fun g => g = h, rfl, _, rfl, some ⟨d, 0, none⟩, fun g e => by rw [e]; exact hp.rd, (journal_spec hp).mono ?_⟩
  rintro v h5 ⟨rfl, rfl⟩
  refine ⟨_, rfl, rfl, (hd.count _).mono ?_⟩
  rintro v h8 ⟨rfl, rfl⟩
  rw [hcl]
  refine ⟨_, rfl, fun _ a k c n16 H => ∃ i : Nat, n16 = i ∧ i ≤ L.length ∧ Keep h8.size h8 H ∧ Vc.Own ByteE 5 h8.size H a k c ((L.take i).flatMap bytesL), fun _ _ _ _ n16 _ => L.length - n16.toNat,
    ⟨0, rfl, Nat.zero_le _, Keep.refl _ _, Vc.Own.nil _ _ _⟩, ?_⟩
  rintro n12 a13 k14 k15 n16 H ⟨i, rfl, hi, kH, oH⟩
  have hoL := oH.1
  refine br_intro (fun e => ?_) fun e => ?_
  · have e := of_decide_eq_true e
    have hlt : i < L.length := by omega
    have hq : L[i]? = some (L[i]'hlt) := List.getElem?_eq_getElem hlt
    have hs5 := hps _ (List.getElem_mem hlt)
    have hrd : Dk.read x (Pg.nmJ nm) (i : Int) = (L[i]'hlt, 0) := by
      unfold Dk.read
      rw [if_neg hnd, hL, if_neg (by omega), Int.toNat_natCast, List.getD_eq_getElem?_getD, hq]; rfl
    generalize L[i]'hlt = s at hq hs5 hrd
    have pH := hp.keep kH
    refine ⟨fun g => g = H, rfl, _, rfl, some ⟨d, 0, none⟩, fun g e => by rw [e]; exact pH.rd, (journal_spec pH).mono ?_⟩
    rintro v h23 ⟨rfl, rfl⟩
    refine ⟨_, rfl, rfl, ((hd.keep kH).read _ _).mono ?_⟩
    rw [hrd]
    rintro v h26 ⟨k26, b, m, rfl, hm0, hb0, hcell⟩
    have hsl := page_sl hm0 hcell
    have hm5 : m = 512 := hm0.trans hs5
    have hfl := flat_len512 (L.take i) fun t ht => hps t (List.mem_of_mem_take ht)
    rw [List.length_take] at hfl
    refine ⟨_, _, _, _, rfl, br_intro (fun e => by simp at e) fun _ => ?_⟩
    refine svc_append app_b (oH.upd (k26.upd fun _ => False) fun _ _ h => h) (Nat.le_trans kH.size k26.size) hsl (by omega) fun a' c' h32 o32 u32 b32 => ⟨_, _, _, rfl, ?_⟩
    rw [wrap_i64 (by omega) (by omega)]
    refine ⟨⟨i + 1, rfl, hlt, (kH.trans (k26.mono kH.size)).trans (u32.keep (Nat.le_trans kH.size k26.size) fun q hq => (oH.block q hq).1), ?_⟩, by dsimp only; omega⟩
    rw [flat_pages hq]; exact o32
  have e := of_decide_eq_false e
  have hiL : i = L.length := by omega
  rw [hiL, List.take_length] at oH
  have hfl := flat_len512 L hps
  have hol := oH.1
  generalize hall : L.flatMap bytesL = all at oH hfl hol hj bad
  refine (split_spec (c := k15) oH.sl oH.2.1 (by omega)).mono ?_
  rintro v h37 ⟨k37, a38, k39, k40, n41, rfl, sl37⟩
  have kh37 := kH.trans (k37.mono kH.size)
  rw [split_head] at sl37
  have hjr : jrnl all = match nextF all with | none => none | some (s, _) => parse (bytesL s) := rfl
  cases hN : nextF all with
  | none =>
    rw [hN] at sl37 hjr
    have h39 := sl37.1
    refine ⟨_, _, _, _, rfl, br_intro (fun _ => bad kh37 hjr) fun e => ?_⟩
    have : k39 = 0 := h39.symm
    rw [this] at e; simp at e
  | some sm =>
    obtain ⟨s, m⟩ := sm
    rw [hN] at sl37 hjr
    dsimp only at sl37 hjr
    have hsm := nextF_len hN
    have h39 := sl37.1
    rw [List.length_cons] at h39
    refine ⟨_, _, _, _, rfl, br_intro (fun e => ?_) fun _ => ?_⟩
    · have : ¬ k39 = 0 := by omega
      simp at e; omega
    obtain ⟨p42, ea, rds⟩ := head_read sl37
    refine ⟨p42, ⟨ea, by omega, by omega⟩, _, rds, svc_bytes undS undBs undB fun a46 c48 h45 k45 z45 sl45 hc45 hb45 => ⟨_, _, _, rfl, ?_⟩⟩
    have kh45 := kh37.trans (k45.mono kh37.size)
    refine (cread_spec (c := c48) sl45 (by omega)).mono ?_
    rintro v h50 ⟨k50, r, rfl, hr, rd50⟩
    have kh50 := kh45.trans (k50.mono kh45.size)
    have z45h := kh45.size
    have zr : r < h50.size := by obtain ⟨_, _, _, pp⟩ := rd50; exact pp.n.2
    refine ⟨_, rfl, ?_⟩
    generalize hhm : Array.push h50 (Obj.map (Array.mk []) 0) = h51
    have m51 : MapAt Mi h51 h50.size [] := by rw [← hhm]; exact MapAt.new Mi h50
    have k51 : Keep h50.size h50 h51 := by rw [← hhm]; exact keep_push h50 _
    have z51 : h51.size = h50.size + 1 := by rw [← hhm]; simp
    have z50 := k50.size
    have rd51 := rd50.keep k51
    have kh51 := kh50.trans (k51.mono kh50.size)
    -- the reader and what it read
    refine (rin_spec (lo := 0) (hi := 4096) rd51).mono ?_
    rintro v h53 ⟨rd53, u53, rfl⟩
    have k53 : Keep h8.size h8 h53 := kh51.trans (u53.keep (by omega) fun i e => by omega)
    have m53 := m51.upd u53 (by omega)
    have hlo := rIn_lo (lo := 0) (hi := 4096) (Int.le_refl 0) (some (bytesL s))
    unfold parse at hjr
    generalize hn0 : (rIn 0 4096 (some (bytesL s))).1 = n0 at hlo hjr
    generalize ho0 : (rIn 0 4096 (some (bytesL s))).2 = o0 at rd53 hjr
    have hn4 : n0 ≤ 4096 := by
      rw [← hn0]
      unfold rIn
      split
      · decide
      · split
        · decide
        · rename_i h1; simp only [not_or] at h1; exact Int.not_lt.1 h1.2
    obtain ⟨K0, hK0⟩ : ∃ K0 : Nat, n0 = K0 := ⟨n0.toNat, by omega⟩
    subst hK0
    rw [Int.toNat_natCast] at hjr
    -- the end of the record
    have ends : ∀ {G : Heap} {ml : List (Int × Bv)} {done : Pg.Rw} {o : Rs}, RdAt (fun q => h45.size ≤ q ∧ q < h50.size) G r o → MapAt Mi G h50.size ml → Keep h8.size h8 G → h51.size ≤ G.size → (∀ v ∈ ml, BvOk (fun q => h51.size ≤ q ∧ q < G.size) G v.2) → (∀ k, (mGet ml k).map (·.s) = lastP done k) →
        (∀ k ∈ mKeys ml, I64 k) → ml.length ≤ 4096 → readRows K0 o0 = (done, o) →
        HC Tryz.prog 100 (Array.mk [.pointer (some ⟨r, 0, none⟩)]) G fun (v75 : Value) (h76 : Heap) => ∃ b77 : Bool, v75 = .bool b77 ∧
          br (!b77) ((jrnl all = none → Keep h8.size h8 h76 ∧ Value.int .i64 4 = .int .i64 4) ∧ ∀ W, jrnl all = some W → Stp N d (Pg.lay nm W x).2 h8 h76 ∧ Value.int .i64 4 = .int .i64 (Pg.lay nm W x).1)
          (HC Tryz.prog 73 (Array.mk [.pointer (some (Addr.mk p 0 none)), .map (some h50.size)]) h76 fun (v78 : Value) (h79 : Heap) => ∃ n80 : Int, v78 = .int .i64 n80 ∧
            ((jrnl all = none → Keep h8.size h8 h79 ∧ Value.int .i64 n80 = .int .i64 4) ∧ ∀ W, jrnl all = some W → Stp N d (Pg.lay nm W x).2 h8 h79 ∧ Value.int .i64 n80 = .int .i64 (Pg.lay nm W x).1)) := by
      intro G ml done o rdG mG kG zG okG hlast hkeys hml hrr
      rw [hrr] at hjr
      dsimp only at hjr
      refine (rend_spec rdG).mono ?_
      rintro v h76 ⟨rfl, rfl⟩
      refine ⟨_, rfl, br_intro (fun e => ?_) fun e => ?_⟩
      · have : ¬ o = some [] := by simpa using e
        rw [if_neg this] at hjr
        exact bad kG hjr
      · have : o = some [] := by simpa using e
        rw [if_pos this] at hjr
        have hsrt : SrtI (done.map (·.1)) := by
          rcases hj with hj | ⟨W, hW, hs⟩
          · rw [hj] at hjr; cases hjr
          · rw [hjr] at hW; cases hW; exact hs
        have hnd2 : (mKeys ml).Nodup := by obtain ⟨_, _, _, _, h, _⟩ := mG; exact h
        obtain ⟨W', hW'⟩ := rows_ex hnd2
        have heq := rows_unique hW' hnd2 hlast hsrt
        subst heq
        have hWl := hW'.len
        have dG := hd.wide kG
        have z8 := kh50.size
        refine (lay_spec (hp.keep kG) (.inl hNp) dG ⟨mG, .inr ⟨z8, mG.lt⟩, fun v hv => (okG v hv).mono fun q hq => .inr ⟨by omega, hq.2⟩, hkeys, by omega⟩ hW' (by omega)).mono ?_
        rintro v h79 ⟨st, rfl⟩
        refine ⟨_, rfl, fun e => (by rw [hjr] at e; cases e), fun W hW => ?_⟩
        rw [hjr] at hW
        cases hW
        exact ⟨st.back kG, rfl⟩
    refine ⟨_, rfl, fun n57 G => ∃ (k : Nat) (ml : List (Int × Bv)) (done : Pg.Rw) (o : Rs), n57 = k ∧ RdAt (fun q => h45.size ≤ q ∧ q < h50.size) G r o ∧ MapAt Mi G h50.size ml ∧ Keep h8.size h8 G ∧ h51.size ≤ G.size ∧ (∀ v ∈ ml, BvOk (fun q => h51.size ≤ q ∧ q < G.size) G v.2) ∧ (∀ k, (mGet ml k).map (·.s) = lastP done k) ∧
        (∀ k ∈ mKeys ml, I64 k) ∧ ml.length + k ≤ 4096 ∧ readRows K0 o0 = (done ++ (readRows k o).1, (readRows k o).2), fun n57 _ => n57.toNat,
      ⟨K0, [], [], o0, rfl, rd53, m53, k53, u53.size, fun v hv => (by cases hv), fun k => rfl, fun k hk => (by cases hk), by simp; omega, by simp⟩, ?_⟩
    rintro n57 G ⟨k, ml, done, o, rfl, rdG, mG, kG, zG, okG, hlast, hkeys, hml, hrr⟩
    refine br_intro (fun e => ?_) fun e => ?_
    · have e := of_decide_eq_true e
      obtain ⟨k', rfl⟩ : ∃ k', k = k' + 1 := ⟨k - 1, by omega⟩
      refine (rgood_spec rdG).mono ?_
      rintro v h60 ⟨rfl, rfl⟩
      refine ⟨_, rfl, br_intro (fun e2 => ?_) fun e2 => ?_⟩
      · cases o with
        | none => simp at e2
        | some l =>
          rw [readRows] at hrr
          refine (rin_spec (lo := 0) (hi := 4096) rdG).mono ?_
          rintro v h63 ⟨rd63, u63, rfl⟩
          have hilo := rIn_lo (lo := 0) (hi := 4096) (Int.le_refl 0) (some l)
          have hihi : (rIn 0 4096 (some l)).1 ≤ 4096 := by
            unfold rIn
            split
            · decide
            · split
              · decide
              · rename_i h1; simp only [not_or] at h1; exact Int.not_lt.1 h1.2
          generalize (rIn 0 4096 (some l)).1 = i1 at hilo hihi hrr
          generalize (rIn 0 4096 (some l)).2 = o1 at rd63 hrr
          refine ⟨_, rfl, (rtext2_spec (m := 512) rd63 (by decide) (by decide)).mono ?_⟩
          rintro v h66 ⟨rd66, u66, rfl⟩
          generalize (rText 512 o1).1 = t at hrr
          generalize (rText 512 o1).2 = o2 at rd66 hrr
          have u6 := u63.trans u66
          have z66 := u6.size
          refine ⟨_, rfl, svc_bytes undS undBs undB fun a c h69 k69 z69 sl69 hc69 hb69 => ⟨_, _, _, rfl, ?_⟩⟩
          have mG69 := (mG.upd u6 (by omega)).keep k69
          refine svc_mapUpdate (M := Mi) (k := i1) (v := ⟨a, t.size, c, t⟩) mG69 fun h74 z74 u74 m74 => ?_
          have z8 := kh50.size
          have kk : Keep h8.size h8 h74 := ((kG.trans (u6.keep (by omega) fun i e => by omega)).trans (k69.mono (by omega))).trans (u74.keep (by omega) fun i e => by omega)
          rw [wrap_i64 (by omega) (by omega)]
          refine ⟨⟨k', _, done ++ [(i1, t)], o2, by omega, (rd66.keep k69).updM u74.m fun q hq e => by omega, m74, kk, by omega, fun v hv => ?_, fun q => ?_, fun q hq => ?_, ?_, ?_⟩, by dsimp only; omega⟩
          · rcases mem_put _ _ _ _ hv with hv | rfl
            · exact ((((okG v hv).updM u6.m fun q hq e => by omega).updM (S := fun _ => False) k69.m fun _ _ => id).updM u74.m fun q hq e => by omega).mono fun q hq => ⟨hq.1, by omega⟩
            · exact ⟨sl69.upd u74 fun b hb e => (by have := hb69 b hb; omega), hc69, fun _ b hb => ⟨by have := hb69 b hb; omega, by have := hb69 b hb; omega⟩⟩
          · rw [mGet_put, lastP_app]
            by_cases hq : i1 = q
            · rw [if_pos hq, if_pos hq]; rfl
            · rw [if_neg hq, if_neg hq]; exact hlast q
          · rcases (mKeys_put _ _ _ _).1 hq with rfl | hq
            · exact ⟨by omega, by omega⟩
            · exact hkeys q hq
          · have := len_put ml i1 ⟨a, t.size, c, t⟩
            omega
          · rw [hrr]; simp
      · cases o with
        | some l => simp at e2
        | none =>
          rw [readRows_none] at hrr
          refine ends rdG mG kG zG okG (done := done) hlast hkeys (by omega) ?_
          rw [hrr]; simp
    · have e := of_decide_eq_false e
      have hk0 : k = 0 := by omega
      subst hk0
      refine ends rdG mG kG zG okG (done := done) hlast hkeys (by omega) ?_
      rw [hrr, readRows]; simp
end
end Go.Proofs.YthkhaobmhheoaaaGreat
end

section
set_option linter.unusedVariables false
set_option linter.unusedSimpArgs false
set_option maxRecDepth 100000
namespace Go.Proofs.YthkhaobmhheoaaaGreat
open Go Go.Vc Go.Proofs Go.Dk Go.Cd
open Go.Pg (SrtI)

theorem remove_down {x : D} {n : Str} (h : (remove x n).1 = 0) : (remove x n).2.down = x.down := by
  unfold remove at h ⊢
  cases he : Dk.may x n with
  | mk e d1 =>
    rw [he] at h
    dsimp only at h ⊢
    have hd : e = 0 → d1.down = x.down := fun h0 => by
      subst h0
      unfold Dk.may at he
      split at he
      · cases he
      · split at he
        · cases he
        · unfold ended at he
          split at he
          · cases he
          · cases he; rfl
    by_cases h0 : e = 0
    · rw [if_pos h0]; exact hd h0
    · rw [if_neg h0] at h; exact absurd h h0
/-- what Open answers. -/
def opAns (e : Int) (p : Nat) : Value := .tuple #[.pointer (if e = 0 then some ⟨p, 0, none⟩ else none), .int .i64 e]
section
variable {h h' : Heap} {d : Nat} {nm : Str} {N : Nat → Prop} {x : D}
set_option maxHeartbeats 1000000 in
theorem open_spec (hd : DN N d x h) (hnm : nm.size ≤ 1073741824) (hw : x.waits.length ≤ 100000000)
    (hj : ∀ y, (y = x ∨ y = (remove x (Pg.nmT nm)).2) → jrnl (jbytes y nm) = none ∨ ∃ W, jrnl (jbytes y nm) = some W ∧ SrtI (W.map (·.1))) :
    HC Tryz.prog 18 #[.pointer (some ⟨d, 0, none⟩), .string nm] h fun v h' => Stp (Nw N h (h.push (.cells #[.pointer (some ⟨d, 0, none⟩), .string nm] 108 (0, 0)))) d (Pg.opn nm x).2 (h.push (.cells #[.pointer (some ⟨d, 0, none⟩), .string nm] 108 (0, 0))) h' ∧
      v = opAns (Pg.opn nm x).1 h.size := by
  refine HC_of_vc (args := [.pointer (some ⟨d, 0, none⟩), .string nm]) (base := 38) (cuts := [10]) (bigs := []) hm Tryz.func18 ?_
  rw [vcOpen]
  have kp := keep_push h (Obj.cells #[Value.pointer (some (Addr.mk d 0 none)), Value.string nm] 108 (0, 0))
  have pa : PagerAt (h.push (Obj.cells #[Value.pointer (some (Addr.mk d 0 none)), Value.string nm] 108 (0, 0))) h.size d nm := ⟨push_at _ _, hnm⟩
  have z : (h.push (Obj.cells #[Value.pointer (some (Addr.mk d 0 none)), Value.string nm] 108 (0, 0))).size = h.size + 1 := by simp
  refine ⟨_, reads_eql_nil undD, br_intro (fun e => by cases e) fun _ => ?_⟩
  show HC Tryz.prog _ _ (h.push (Obj.cells #[Value.pointer (some (Addr.mk d 0 none)), Value.string nm] 108 (0, 0))) _
  generalize (h.push (Obj.cells #[Value.pointer (some (Addr.mk d 0 none)), Value.string nm] 108 (0, 0))) = H at kp pa z
  have dH := hd.wide kp
  have hM : Nw N h H h.size := .inr ⟨Nat.le_refl _, by omega⟩
  generalize Nw N h H = M at dH hM
  refine dH.down.mono ?_
  rintro v h2 ⟨rfl, rfl⟩
  refine ⟨_, rfl, br_intro (fun e => ?_) fun e => ?_⟩
  · have : Pg.opn nm x = (8, x) := by unfold Pg.opn; rw [if_pos e]
    rw [this]
    exact ⟨Stp.refl dH, rfl⟩
  have hdn : x.down = false := e
  have hopn : Pg.opn nm x = Pg.opn2 nm (if Dk.has x (Pg.nmT nm) = true then remove x (Pg.nmT nm) else (0, x)) := by unfold Pg.opn; rw [if_neg (by rw [hdn]; decide)]
  refine ⟨fun _ _ G => ∃ y : D, Stp M d y h2 G ∧ Pg.opn nm x = Pg.opn2 nm (0, y) ∧ y.down = false ∧ y.waits.length ≤ x.waits.length ∧ (y = x ∨ y = (remove x (Pg.nmT nm)).2), (draft_spec pa).mono ?_, ?_⟩
  · rintro v h6 ⟨rfl, rfl⟩
    refine ⟨_, rfl, (dH.has _).mono ?_⟩
    rintro v h9 ⟨rfl, rfl⟩
    refine ⟨_, rfl, br_intro (fun e => ?_) fun e => ⟨x, Stp.refl dH, by rw [hopn, if_neg (by rw [e]; decide)], hdn, Nat.le_refl _, .inl rfl⟩⟩
    refine (draft_spec pa).mono ?_
    rintro v h12 ⟨rfl, rfl⟩
    refine ⟨_, rfl, (dH.remove (s := Pg.nmT nm) (by omega)).mono ?_⟩
    rintro v h15 ⟨st, rfl⟩
    rw [if_pos e] at hopn
    refine ⟨_, rfl, br_intro (fun e2 => ?_) fun e2 => ?_⟩
    · have e2 : (remove x (Pg.nmT nm)).1 ≠ 0 := by simpa using e2
      have : Pg.opn nm x = remove x (Pg.nmT nm) := by rw [hopn]; unfold Pg.opn2; rw [if_pos e2]
      rw [this]
      exact ⟨st, by unfold opAns; rw [if_neg e2]⟩
    · have e2 : (remove x (Pg.nmT nm)).1 = 0 := by simpa using e2
      refine ⟨_, st, ?_, (remove_down e2).trans hdn, Pg.remove_waits _ _, .inr rfl⟩
      rw [hopn]
      congr 1
      exact Prod.ext e2 rfl
  · rintro a17 n18 G ⟨y, st, hop, hdy, hwy, hy⟩
    have hN : ∀ q, M q → ¬ ¬ M q := fun q hq hn => hn hq
    have pG := pa.updM st.up (hN _ hM)
    rw [hop]
    refine (journal_spec pG).mono ?_
    rintro v h6 ⟨rfl, rfl⟩
    refine ⟨_, rfl, (st.dn.has _).mono ?_⟩
    rintro v h9 ⟨rfl, rfl⟩
    refine ⟨_, rfl, br_intro (fun e => ?_) fun e => ?_⟩
    · refine (redo_spec pG hM st.dn hdy (by omega) (hj y hy)).mono ?_
      rintro v h27 ⟨r1, r2⟩
      have hb : (pgs y.now (Pg.nmJ nm)).flatMap bytesL = jbytes y nm := rfl
      cases hjr : jrnl (jbytes y nm) with
      | none =>
        obtain ⟨k, rfl⟩ := r1 hjr
        have : Pg.opn2 nm (0, y) = (4, y) := by
          unfold Pg.opn2
          rw [if_neg (by simp), if_pos e]
          dsimp only
          rw [hb, hjr]
        rw [this]
        exact ⟨_, rfl, br_intro (fun _ => ⟨⟨st.dn.keep k, st.up.trans k.m⟩, rfl⟩) fun e => by simp at e⟩
      | some W =>
        obtain ⟨s2, rfl⟩ := r2 W hjr
        have : Pg.opn2 nm (0, y) = Pg.lay nm W y := by
          unfold Pg.opn2
          rw [if_neg (by simp), if_pos e]
          dsimp only
          rw [hb, hjr]
        rw [this]
        refine ⟨_, rfl, br_intro (fun e2 => ⟨st.trans s2, ?_⟩) fun e2 => ⟨st.trans s2, ?_⟩⟩
        · have e2 : (Pg.lay nm W y).1 ≠ 0 := by simpa using e2
          unfold opAns; rw [if_neg e2]
        · have e2 : (Pg.lay nm W y).1 = 0 := by simpa using e2
          unfold opAns; rw [e2]; rfl
    · have : Pg.opn2 nm (0, y) = (0, y) := by
        unfold Pg.opn2
        rw [if_neg (by simp), if_neg (by rw [e]; decide)]
      rw [this]
      exact ⟨st, rfl⟩
end
end Go.Proofs.YthkhaobmhheoaaaGreat
end
