/-
  Texts of this seat, laid one behind the other: PgA. Conditions: none.
-/
import Derived.Test.YthkhaobmhheoaaaGreatZP
import Derived.Test.YthkhaobmhheoaaaGreatZD
import Derived.Test.YthkhaobmhheoaaaGreatZH
section
set_option linter.unusedVariables false
set_option linter.unusedSimpArgs false
set_option maxRecDepth 100000
namespace Go.Proofs.YthkhaobmhheoaaaGreat
open Go Go.Vc Go.Proofs Go.Cd

theorem app_b : App Tryz.prog 22 5 ByteE.sz 1 (.int .u8 0) := ⟨by kernel_rfl, by kernel_rfl, by kernel_rfl, by kernel_rfl, rfl, by decide, by decide⟩
theorem bs_b1 (b : UInt8) : bsCells Tryz.prog 22 1 [(0, .int .u8 (b.toNat : Nat))] = some (5, [b].flatMap ByteE.enc) := by kernel_rfl
theorem bs_b4 (a b c d : UInt8) : bsCells Tryz.prog 22 4 [(0, .int .u8 (a.toNat : Nat)), (1, .int .u8 (b.toNat : Nat)), (2, .int .u8 (c.toNat : Nat)), (3, .int .u8 (d.toNat : Nat))] = some (5, [a, b, c, d].flatMap ByteE.enc) := by kernel_rfl
section
variable {h H : Heap} {A : Option Addr} {n : Nat} {xs : List UInt8}
/-- bytes that are being put behind those that came in, which has no room of its own. -/
def Buf (h : Heap) (A : Option Addr) (n : Nat) (xs : List UInt8) (H : Heap) (a : Option Addr) (k c : Nat) (l : List UInt8) : Prop :=
  (l = xs ∧ a = A ∧ k = n ∧ c = n) ∨ Own ByteE 5 h.size H a k c l
theorem Buf.len {a : Option Addr} {k c : Nat} {l : List UInt8} (hx : xs.length = n) (b : Buf h A n xs H a k c l) : l.length = k := b.elim (fun ⟨e, _, e2, _⟩ => by rw [e, e2]; exact hx) fun o => o.1
theorem buf_app {a : Option Addr} {k c m c2 : Nat} {b2 : Option Addr} {l ys : List UInt8} {ty : TypeId} {K : Value → Heap → Prop} (hx : Sl ByteE h A n xs) (hk : Keep h.size h H) (b : Buf h A n xs H a k c l) (hm : 0 < m) (hs : Sl ByteE H b2 m ys) (hroom : k + m ≤ 1099511627776)
    (kk : ∀ a' c' H', Keep h.size h H' → Own ByteE 5 h.size H' a' (k + m) c' (l ++ ys) → K (.slice a' (k + m) c') H') :
    SVC Tryz.prog (Builtin.append_ #[22, 22] ty #[.slice a k c, .slice b2 m c2]) H K := by
  rcases b with ⟨rfl, rfl, rfl, rfl⟩ | o
  · exact svc_append_grow app_b undBs (.inl ⟨_, rfl⟩) (hx.keep hk) hk.size (by omega) (Nat.le_refl _) (len_slice _ _ _) hs.1 (fun w hw => first_sl (by decide) (by rw [hw]; exact hs)) (by omega)
      fun c' H' o kp sz => kk _ c' H' (hk.trans (kp.mono hk.size)) o
  · exact svc_append app_b o hk.size hs (by omega) fun a' c' H' o' u' b' => kk a' c' H' (hk.trans (u'.keep hk.size fun q hq => (o.block q hq).1)) o'
theorem buf_add {a : Option Addr} {k c : Nat} {l : List UInt8} {ty : TypeId} {v : UInt8} {K : Value → Heap → Prop} (hx : Sl ByteE h A n xs) (hk : Keep h.size h H) (b : Buf h A n xs H a k c l) (hroom : k ≤ 1073741824)
    (kk : ∀ a' c' H', Keep h.size h H' → Own ByteE 5 h.size H' a' (k + 1) c' (l ++ [v]) → K (.slice a' (k + 1) c') H') :
    SVC Tryz.prog (Instr.buildSlice 22 1 (Array.mk [(0, Value.int .u8 (v.toNat : Nat))])) H fun v7 h8 => ∃ (a9 : Option Addr) (k10 k11 : Nat), v7 = Value.slice a9 k10 k11 ∧
      SVC Tryz.prog (Builtin.append_ (Array.mk [22, 22]) ty (Array.mk [Value.slice a k c, Value.slice a9 k10 k11])) h8 K := by
  refine svc_buildSlice (bs_b1 v) ⟨_, _, _, rfl, ?_⟩
  have k1 := keep_push H (.cells ([v].flatMap ByteE.enc).toArray 5 (0, 0))
  have b1 : Buf h A n xs (H.push (.cells ([v].flatMap ByteE.enc).toArray 5 (0, 0))) a k c l := b.imp id fun o => o.upd (k1.upd fun _ => False) fun _ _ h => h
  exact buf_app hx (hk.trans (k1.mono hk.size)) b1 (by decide) (sl_bytes (push_at H (.cells ([v].flatMap ByteE.enc).toArray 5 (0, 0)))) (by omega) fun a' c' H' kp o => kk a' c' H' kp o
end
theorem uint_spec {h : Heap} {A : Option Addr} {n c : Nat} {xs : List UInt8} (hx : Sl ByteE h A n xs) (hc : n ≤ c) (hn : n ≤ 1073741000) (x : Nat) (hx64 : x < 18446744073709551616) :
    HC Tryz.prog 104 #[.slice A n c, .int .u64 x] h fun v h' => Keep h.size h h' ∧ ∃ a k c', v = .slice a k c' ∧ Own ByteE 5 h.size h' a k c' (xs ++ uintB x) := by
  refine HC_of_vc (args := [.slice A n c, .int .u64 x]) (base := 26) (cuts := []) (bigs := []) hm Tryz.func104 ?_
  rw [vcUint]
  refine ⟨⟨by omega, by omega, by omega⟩, fun a k c n5 H => ∃ (m : Nat) (done : List UInt8), n5 = m ∧ Keep h.size h H ∧ done ++ uintB m = uintB x ∧ Buf h A n xs H a k c (xs ++ done), fun _ _ _ n5 _ => n5.toNat,
    ⟨x, [], rfl, Keep.refl _ _, rfl, .inl ⟨by simp, rfl, rfl, rfl⟩⟩, ?_⟩
  rintro a k c2 n5 H ⟨m, done, rfl, hk, hd, b⟩
  have hlen := b.len hx.1
  have hdl : done.length ≤ 10 := by
    have h1 := uintB_len10 hx64
    rw [← hd, List.length_append] at h1; omega
  rw [List.length_append, hx.1] at hlen
  refine br_intro (fun e => ?_) (fun e => ?_)
  · have e := of_decide_eq_true e
    rw [or_lead]
    refine buf_add hx hk b (by omega) fun a' c' H' kp o => ⟨_, _, _, rfl, by decide, ?_⟩
    have e2 : (m : Int).fdiv (2 ^ 7) = ((m / 128 : Nat) : Int) := by rw [Int.fdiv_eq_ediv_of_nonneg _ (by decide)]; rfl
    rw [e2]
    rw [uintB_big (by omega)] at hd
    exact ⟨⟨m / 128, done ++ [UInt8.ofNat (m % 128 + 128)], rfl, kp, by rw [← hd]; simp, .inr (by rw [← List.append_assoc]; exact o)⟩, by dsimp only; omega⟩
  · have e := of_decide_eq_false e
    rw [u8_b8, b8_nat]
    rw [uintB_small (by omega)] at hd
    refine buf_add hx hk b (by omega) fun a' c' H' kp o => ⟨_, _, _, rfl, kp, _, _, _, rfl, ?_⟩
    rw [← hd, ← List.append_assoc]; exact o
theorem xor_nat (a : Nat) (ha : a < 9223372036854775808) : IntKind.u64.wrap ((BitVec.ofInt 64 (IntKind.u64.wrap (IntKind.i64.wrap ((a : Int) * 2 ^ 1))) ^^^ BitVec.ofInt 64 (IntKind.u64.wrap ((a : Int).fdiv (2 ^ 63)))).toNat : Int) = ((2 * a : Nat) : Int) := by
  have h0 : (a : Int).fdiv (2 ^ 63) = 0 := by rw [Int.fdiv_eq_ediv_of_nonneg _ (by decide)]; omega
  have h1 : IntKind.u64.wrap (IntKind.i64.wrap ((a : Int) * 2 ^ 1)) = ((2 * a : Nat) : Int) := by
    simp only [IntKind.wrap, IntKind.signed, IntKind.bits]
    simp only [Bool.true_and, Bool.false_and, Bool.false_eq_true, if_false]
    split
    · rename_i hh; simp at hh; omega
    · rename_i hh; simp at hh; omega
  have h2 : IntKind.u64.wrap 0 = 0 := by decide
  rw [h0, h1, h2]
  have h3 : (BitVec.ofInt 64 ((2 * a : Nat) : Int) ^^^ BitVec.ofInt 64 0).toNat = 2 * a := by
    simp [BitVec.toNat_ofInt]; omega
  rw [h3]
  simp only [IntKind.wrap, IntKind.signed, IntKind.bits]
  simp; omega
theorem int_spec {h : Heap} {A : Option Addr} {n c : Nat} {xs : List UInt8} (hx : Sl ByteE h A n xs) (hc : n ≤ c) (hn : n ≤ 1073741000) (x : Nat) (hx63 : x < 9223372036854775808) :
    HC Tryz.prog 65 #[.slice A n c, .int .i64 x] h fun v h' => Keep h.size h h' ∧ ∃ a k c', v = .slice a k c' ∧ Own ByteE 5 h.size h' a k c' (xs ++ uintB (2 * x)) := by
  refine HC_of_vc (args := [.slice A n c, .int .i64 x]) (base := 14) (cuts := []) (bigs := []) hm Tryz.func65 ?_
  rw [vcInt, xor_nat x hx63]
  refine ⟨by decide, by decide, (uint_spec hx hc hn (2 * x) (by omega)).mono ?_⟩
  rintro v h1 ⟨k1, a, k, c', rfl, o⟩
  exact ⟨_, _, _, rfl, k1, _, _, _, rfl, o⟩
theorem text_spec {h : Heap} {A : Option Addr} {n c : Nat} {xs : List UInt8} (hx : Sl ByteE h A n xs) (hc : n ≤ c) (hn : n ≤ 1073741000) (s : ByteArray) (hs : s.size ≤ 1073741824) :
    HC Tryz.prog 68 #[.slice A n c, .string s] h fun v h' => Keep h.size h h' ∧ ∃ a k c', v = .slice a k c' ∧ Own ByteE 5 h.size h' a k c' (xs ++ textB s) := by
  refine HC_of_vc (args := [.slice A n c, .string s]) (base := 12) (cuts := []) (bigs := []) hm Tryz.func68 ?_
  rw [vcText]
  have hw : IntKind.u64.wrap (s.size : Int) = (s.size : Int) := by simp only [IntKind.wrap, IntKind.signed, IntKind.bits]; simp; omega
  rw [hw]
  refine (uint_spec hx hc hn s.size (by omega)).mono ?_
  rintro v h1 ⟨k1, a, k, c', rfl, o⟩
  have hl := o.1
  have h10 := uintB_len10 (n := s.size) (by omega)
  have hxl := hx.1
  rw [List.length_append] at hl
  refine ⟨_, _, _, rfl, svc_append_str app_b undS o k1.size (by omega) fun a' c2 h' o' u' b' => ⟨_, _, _, rfl, k1.trans (u'.keep k1.size fun q hq => (o.block q hq).1), _, _, _, rfl, ?_⟩⟩
  have : xs ++ textB s = xs ++ uintB s.size ++ bytesL s := by unfold textB; rw [List.append_assoc]
  rw [this]; exact o'
theorem sum_spec {h : Heap} {A : Option Addr} {n c : Nat} {xs : List UInt8} (hx : Sl ByteE h A n xs) (hn : n ≤ 1099511627776) :
    HC Tryz.prog 108 #[.slice A n c] h fun v h' => h' = h ∧ v = .int .u32 (crc xs) := by
  refine HC_of_vc (args := [.slice A n c]) (base := 29) (cuts := []) (bigs := []) hm Tryz.func108 ?_
  rw [vcSum]
  have hl := hx.1
  refine ⟨fun n2 n3 H => ∃ k : Nat, n3 = k ∧ k ≤ n ∧ H = h ∧ n2 = (xs.take k).foldl crcB 4294967295, fun _ n3 _ => n - n3.toNat, ⟨0, rfl, Nat.zero_le _, rfl, rfl⟩, ?_⟩
  rintro n2 n3 H ⟨k, rfl, hk, rfl, rfl⟩
  refine br_intro (fun hlt => ?_) (fun hge => ?_)
  · have hlt := of_decide_eq_true hlt
    have hlt : k < n := by omega
    obtain ⟨p, hA, hp⟩ := hx.byte (j := k) (by omega)
    refine ⟨p, ⟨hA, by omega, by omega⟩, _, reads_load (by kernel_rfl) (by rw [Int.toNat_natCast, Nat.mul_one]; exact hp), ?_⟩
    generalize hb : xs[k]'(by omega) = b
    have htk : (xs.take (k + 1)).foldl crcB 4294967295 = crcB ((xs.take k).foldl crcB 4294967295) b := by
      rw [List.take_succ_eq_append_getElem (by omega), List.foldl_append, hb]; rfl
    refine ⟨fun n9 n10 H' => ∃ j : Nat, n10 = j ∧ j ≤ 8 ∧ H' = H ∧ n9 = crcN j (IntKind.u32.wrap (BitVec.ofInt 32 ((xs.take k).foldl crcB 4294967295) ^^^ BitVec.ofInt 32 (IntKind.u32.wrap (b.toNat : Nat))).toNat), fun _ n10 _ => 8 - n10.toNat,
      ⟨0, rfl, Nat.zero_le _, rfl, rfl⟩, ?_⟩
    rintro n9 n10 H' ⟨j, rfl, hj, rfl, rfl⟩
    refine br_intro (fun h8 => ?_) (fun h8 => ?_)
    · have h8 := of_decide_eq_true h8
      refine ⟨by decide, ?_⟩
      rw [wrap_i64 (n := (j : Int) + 1) (by omega) (by omega)]
      exact ⟨⟨j + 1, rfl, by omega, rfl, by rw [crcN_succ]; rfl⟩, by dsimp only; omega⟩
    · have h8 := of_decide_eq_false h8
      have hj8 : j = 8 := by omega
      subst hj8
      rw [wrap_i64 (by omega) (by omega)]
      exact ⟨⟨k + 1, rfl, hlt, rfl, by rw [htk]; rfl⟩, by dsimp only; omega⟩
  · have hge := of_decide_eq_false hge
    have hk' : k = n := by omega
    refine ⟨rfl, ?_⟩
    rw [hk', List.take_of_length_le (by omega)]
    rfl
theorem fput_spec {h : Heap} {A : Option Addr} {n c : Nat} {xs : List UInt8} (hx : Sl ByteE h A n xs) (hc : n ≤ c) (hn : n ≤ 1073741000) (s : ByteArray) (hs : s.size ≤ 1073741000) :
    HC Tryz.prog 69 #[.slice A n c, .string s] h fun v h' => Keep h.size h h' ∧ ∃ a k c', v = .slice a k c' ∧ Own ByteE 5 h.size h' a k c' (xs ++ frameB s) := by
  refine HC_of_vc (args := [.slice A n c, .string s]) (base := 33) (cuts := []) (bigs := []) hm Tryz.func69 ?_
  rw [vcFput]
  refine (text_spec (Sl.nil _ _) (Nat.le_refl _) (by omega) s (by omega)).mono ?_
  rintro v h1 ⟨k1, a2, k3, c4, rfl, o1⟩
  rw [List.nil_append] at o1
  have hl1 := o1.1
  have htl := textB_len s
  have h10 := uintB_len10 (n := s.size) (by omega)
  refine ⟨_, _, _, rfl, (sum_spec (c := c4) o1.sl (by omega)).mono ?_⟩
  rintro v h1 ⟨rfl, rfl⟩
  refine ⟨_, rfl, by decide, by decide, by decide, ?_⟩
  rw [u8_b8, u8_b8, u8_b8, u8_b8]
  refine svc_buildSlice (bs_b4 _ _ _ _) ⟨_, _, _, rfl, ?_⟩
  have hS : [b8 (crc (textB s)), b8 ((crc (textB s)).fdiv (2 ^ 8)), b8 ((crc (textB s)).fdiv (2 ^ 16)), b8 ((crc (textB s)).fdiv (2 ^ 24))] = sumB (crc (textB s)) := rfl
  rw [hS]
  have k9 := keep_push h1 (.cells ((sumB (crc (textB s))).flatMap ByteE.enc).toArray 5 (0, 0))
  have o9 := o1.upd (k9.upd fun _ => False) fun _ _ h => h
  refine svc_append app_b o9 (Nat.le_trans k1.size k9.size) (sl_bytes (push_at h1 (.cells ((sumB (crc (textB s))).flatMap ByteE.enc).toArray 5 (0, 0)))) (by show (4 * (k3 + 4) + 192) * 1 ≤ 2 ^ 48; omega) fun a' c' h14 o14 u14 b14 => ⟨_, _, _, rfl, ⟨by omega, by omega, by omega⟩, ?_⟩
  have k14 : Keep h.size h h14 := k1.trans ((k9.mono k1.size).trans (u14.keep (Nat.le_trans k1.size k9.size) fun q hq => (o9.block q hq).1))
  have o14 : Own ByteE 5 h.size h14 a' (k3 + 4) c' (frameB s) := o14
  refine buf_app (h := h) (A := A) (n := n) (xs := xs) hx k14 (.inl ⟨rfl, rfl, rfl, rfl⟩) (Nat.succ_pos _) o14.sl (by show n + (k3 + 4) ≤ _; omega) fun a2 c2 H' kp o => ⟨_, _, _, rfl, kp, _, _, _, rfl, o⟩
end Go.Proofs.YthkhaobmhheoaaaGreat
end
