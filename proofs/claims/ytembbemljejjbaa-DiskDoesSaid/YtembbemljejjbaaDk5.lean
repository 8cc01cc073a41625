/-
  The disk's writes. Conditions: none.
-/
import Derived.Test.YtembbemljejjbaaDk4
set_option linter.unusedVariables false
set_option linter.unusedSimpArgs false
set_option maxRecDepth 100000
namespace Go.Proofs.Ytembbemljejjbaa
open Go Go.Vc Go.Proofs Go.Dk

theorem built_wt (s : Str) (k : Nat) : Blt Try.prog 98 [(0, .agg (Array.mk [.string s, .int .i64 k]))] (WtE.enc ⟨s, k, zp⟩).toArray :=
  ⟨builtL_eq (cs := WtE.enc ⟨s, k, zp⟩) (by kernel_rfl)⟩
theorem app_wt : App Try.prog 89 98 WtE.sz 536 (.agg (zc Try.prog 98)) := ⟨by kernel_rfl, by kernel_rfl, by kernel_rfl, by kernel_rfl, zcWrite, by decide, by decide⟩
theorem bs_wt (w : Wt) : bsCells Try.prog 89 1 [(0, .agg (WtE.enc w).toArray)] = some (98, WtE.enc w) :=
  bs_one (v := .agg (WtE.enc w).toArray) app_wt.und app_wt.size app_wt.zero app_wt.zlen (by decide) (by decide) (by show (WtE.enc w).length = _; exact WtE.len w)
theorem pgC_zp (n : Nat) (hn : n ≤ 512) : (pgC zp).drop n = List.replicate (512 - n) (Value.int .u8 0) := by
  apply List.ext_getElem?
  intro j
  simp only [List.getElem?_drop, pgC, List.getElem?_map, List.getElem?_replicate]
  by_cases h : j < 512 - n
  · have : n + j < 512 := by omega
    rw [List.getElem?_range this, if_pos h]
    simp [zp, Array.getD, this]
  · rw [List.getElem?_eq_none (by simp; omega), if_neg h]; rfl
theorem pgC_pad {b : Str} (hb : b.size ≤ 512) : (bytesL b).flatMap ByteE.enc ++ (pgC zp).drop b.size = pgC (pad b) := by
  have hs : b.data.size = b.size := rfl
  have hp := pgC_bytes (pad_size hb)
  rw [hp, pgC_zp _ hb]
  have e1 : bytesL (pad b) = bytesL b ++ List.replicate (512 - b.size) 0 := by simp [bytesL, pad]
  have e2 : (bytesL b).flatMap ByteE.enc = (bytesL b).map fun c => Value.int .u8 (c.toNat : Nat) := by
    generalize bytesL b = l
    induction l with
    | nil => rfl
    | cons a l ih => rw [List.flatMap_cons, ih]; rfl
  rw [e1, e2, List.map_append, List.map_replicate]
  rfl
theorem wt_copy {s b : Str} {k : Nat} (hb : b.size ≤ 512) : putL (WtE.enc ⟨s, k, zp⟩) 2 (((bytesL b).take (min b.size 512)).flatMap ByteE.enc) = WtE.enc ⟨s, k, pad b⟩ := by
  have hl : (bytesL b).length = b.size := by show b.data.toList.length = _; rw [Array.length_toList]; rfl
  have hm : min b.size 512 = (bytesL b).length := by omega
  rw [hm, List.take_length]
  have hlen : ((bytesL b).flatMap ByteE.enc).length = b.size := by rw [flat_len, hl]; show b.size * 1 = _; omega
  have := putL_prefix ((bytesL b).flatMap ByteE.enc) [Value.string s, .int .i64 k] (pgC zp) (by rw [hlen, pgC_len]; exact hb)
  show putL ([Value.string s, .int .i64 k] ++ pgC zp) 2 _ = _
  rw [show (2 : Nat) = [Value.string s, Value.int .i64 k].length from rfl, this, hlen, List.append_assoc, pgC_pad hb]
  rfl

theorem write_spec0 {h : Heap} {d : Nat} {x : D} {O : Nat → Prop} {s b : Str} {i : Int} {A : Option Addr} {n c : Nat} (hd : DiskAt h d x O) (hsl : Sl ByteE h A n (bytesL b)) (hA : n ≠ 0 → ∀ q, blk A q → ¬ O q) (hwn : x.waits.length < 1073741824) :
    HC Try.prog 15 #[.pointer (some ⟨d, 0, none⟩), .string s, .int .i64 i, .slice A n c] h
      fun v h' => ∃ O', DiskAt h' d (write x s i b).2 O' ∧ (∀ q, O' q → O q ∨ h.size ≤ q) ∧ Upd O h h' ∧ v = .int .i64 (write x s i b).1 := by
  have hr := ready_spec hd
  have hd0 := hd
  obtain ⟨hO, c1, p1, c2, p2, A0, n0, c0, hp, hb⟩ := hd
  obtain ⟨mc, mp, hc, hmp, hl⟩ := hp.now
  have hn : b.size = n := by have := hsl.1; simpa [bytesL] using this
  refine HC_of_vc (args := [.pointer (some ⟨d, 0, none⟩), .string s, .int .i64 i, .slice A n c]) (base := 82) (cuts := [11]) (bigs := []) hm Try.func15 ?_
  rw [vcWrite]
  refine hr.mono ?_
  rintro v h1 ⟨rfl, rfl⟩
  have stay : ∀ {h' : Heap} {e : Int}, Keep h1.size h1 h' → write x s i b = (e, x) → ∃ O', DiskAt h' d (write x s i b).2 O' ∧ (∀ q, O' q → O q ∨ h1.size ≤ q) ∧ Upd O h1 h' ∧ Value.int .i64 e = .int .i64 (write x s i b).1 := fun {h' e} k hw => by
    rw [hw]; exact ⟨O, hd0.keep k, fun q h => .inl h, k.upd O, rfl⟩
  refine ⟨_, rfl, br_intro (fun e => ?_) (fun e => ?_)⟩
  · have hdn : x.down = true := by cases hdn : x.down <;> simp [hdn] at e ⊢
    rw [hdn]
    exact stay (Keep.refl _ _) (by simp [write, hdn])
  have hdn : x.down = false := by cases hdn : x.down <;> simp [hdn] at e ⊢
  refine ⟨_, rfl, some c1, reads_load scMc (cell_cells0 hp.box rfl), _, reads_count hc hl s,
    fun _ h11 => Keep h1.size h1 h11 ∧ ¬ 512 < b.size ∧ ¬ (i < 0 ∨ ((pgs x.now s).length : Int) < i) ∧ ¬ (i = (pgs x.now s).length ∧ free x < 1), ?_, ?_⟩
  · refine br_intro (fun e1 => ?_) fun e1 => br_intro (fun e2 => ?_) fun e2 => br_intro (fun e3 => ?_) fun e3 => ?_
    · have e1 : 512 < b.size := by rw [hn]; have : (512 : Int) < n := by simpa using e1
                                   omega
      exact stay (Keep.refl _ _) (by simp [write, hdn, e1])
    all_goals have e1 : ¬ 512 < b.size := by rw [hn]; have : ¬ (512 : Int) < n := by simpa using e1
                                             omega
    · have e2 : i < 0 ∨ ((pgs x.now s).length : Int) < i := by simpa using e2
      exact stay (Keep.refl _ _) (by simp only [write, hdn, Bool.false_eq_true, if_false, if_neg e1, if_pos e2])
    all_goals have e2 : ¬ (i < 0 ∨ ((pgs x.now s).length : Int) < i) := by simpa using e2
    · have e3 : i = (pgs x.now s).length := by simpa using e3
      refine (free_spec hd0).mono ?_
      rintro v h8 ⟨k8, rfl⟩
      refine ⟨_, rfl, br_intro (fun e4 => ?_) fun e4 => ⟨k8, e1, e2, fun h => by have := h.2; simp at e4; omega⟩⟩
      have e4 : free x < 1 := by simpa using e4
      exact stay k8 (by simp only [write, hdn, Bool.false_eq_true, if_false, if_neg e1, if_neg e2, if_pos (And.intro e3 e4)])
    · have e3 : i ≠ (pgs x.now s).length := by simpa using e3
      exact ⟨Keep.refl _ _, e1, e2, fun h => e3 h.1⟩
  rintro _ h11 ⟨k11, g1, g2, g3⟩
  obtain ⟨k, rfl⟩ : ∃ k : Nat, i = k := ⟨i.toNat, by omega⟩
  have hwr : write x s k b = (if goes x then (8, off (act x).keep { act x with now := put s (setP (pgs x.now s) k (pad b)) x.now, waits := x.waits ++ [⟨s, k, pad b⟩] })
      else (0, { act x with now := put s (setP (pgs x.now s) k (pad b)) x.now, waits := x.waits ++ [⟨s, k, pad b⟩] })) := by
    simp only [write, hdn, Bool.false_eq_true, if_false, if_neg g1, if_neg g2, if_neg g3, Int.toNat_natCast]
  rw [hwr]
  have okw : Ok { act x with now := put s (setP (pgs x.now s) k (pad b)) x.now, waits := x.waits ++ [⟨s, k, pad b⟩] } := ok_write hp.ok (by omega) (by omega) fun e => by
    have : ¬ free x < 1 := fun h => g3 ⟨by omega, h⟩
    omega
  have hklt : k < 4611686018427387904 := by
    have h1 := hp.ok.tot
    have h2 := hp.ok.room
    have h3 := tot_put hp.ok.now s []
    simp at h3
    omega
  refine (act_spec (hd0.keep k11)).mono ?_
  rintro v h13 ⟨hd13, u13, rfl⟩
  have u1 : Upd O h1 h13 := (k11.upd O).trans u13
  have hs13 : Sl ByteE h13 A n (bytesL b) := by
    by_cases h0 : n = 0
    · exact ⟨hsl.1, .inl (List.eq_nil_of_length_eq_zero (hsl.1.trans h0))⟩
    · exact hsl.upd u1 (hA h0)
  obtain ⟨hO13, c1, p1, c2, p2, A0, n0, c0, hp, hb⟩ := hd13
  refine ⟨_, rfl, _, built_wt s k, zc Try.prog 98, ⟨rfl⟩, svc_store_wt ⟨rfl⟩ ?_⟩
  have kq := keep_push h13 (.cells (WtE.enc ⟨s, k, zp⟩).toArray 98 (0, 0))
  have hat := push_at h13 (.cells (WtE.enc ⟨s, k, zp⟩).toArray 98 (0, 0))
  refine ⟨⟨by omega, by omega, by omega, by omega⟩, ?_⟩
  have esub : subA (some ((⟨h13.size, 0, none⟩ : Addr).add 2)) 0 512 1 = some ⟨h13.size, 2, none⟩ := by simp [subA, Addr.add]
  rw [esub]
  have szB1 : szOf Try.prog 5 = some ByteE.sz := by kernel_rfl
  refine svc_copy_into (E := ByteE) (xs := bytesL b) undBs szB1 hat (by rw [List.size_toArray, WtE.len]; show 2 + min n 512 * 1 ≤ 514; omega) (hs13.keep kq) fun h20 s20 b20 o20 => ?_
  rw [← hn, List.toList_toArray, wt_copy (by omega)] at b20
  have k20 : Keep h13.size h13 h20 := kq.trans ⟨by omega, fun q hq => o20 q (by omega)⟩
  have hp20 := hp.upd (k20.upd fun _ => False) fun _ _ h => h
  obtain ⟨r1, r2⟩ := WtE_at b20
  have nm := hp20.ne_map
  have nd := hp20.nd
  simp at nd
  refine ⟨_, rfl, _, rfl, _, _, hp20.side1, _, _, r1, _, r2, (set_spec hp20.now hp20.ok.now (by omega) hklt).mono ?_⟩
  rintro v h29 ⟨s29, u29, rfl⟩
  have hl13 := at_lt b20
  have hq : ∀ q, two c1 p1 q → q < h13.size := fun q h => hp.lt (two_blks1 q h)
  have hbox29 := u29.at hp20.box (by rintro (e | e) <;> omega)
  have hB29 := u29.at b20 (fun h => by have := hq _ h; omega)
  refine ⟨rfl, fun h' => h'[d]? = some (.cells (diskC c1 p1 c2 p2 A0 n0 c0 (act x)).toArray 91 (0, 0)), hbox29, _, rfl, A0, n0, c0, fun h35 e35 => reads_load scWs (cell_cells e35 (by simp [diskC])), _,
    reads_load_agg agWrite (WtE.len ⟨s, k, pad b⟩) (cells_all hB29), ?_⟩
  have kp29 := keep_push h29 (.cells (WtE.enc ⟨s, k, pad b⟩).toArray 98 (0, 0))
  have hbox38 := kp29.at hbox29 (at_lt hbox29)
  refine svc_buildSlice (bs_wt ⟨s, k, pad b⟩) ⟨_, _, _, rfl, hbox38, ?_⟩
  have ow29 : Own WtE 98 0 h29 A0 n0 c0 x.waits := hp20.waits.upd u29 fun q hq => by have := hp20.ne_waits hq; rintro (e | e) <;> omega
  have ow38 := ow29.upd (kp29.upd fun _ => False) fun _ _ h => h
  have hn0 : x.waits.length = n0 := hp20.waits.1
  have hbl := ow29.block
  refine svc_append (ys := [⟨s, k, pad b⟩]) app_wt ow38 (Nat.zero_le _) ⟨rfl, .inr ⟨_, rfl, fun j y hy l u hu => ?_⟩⟩ (by omega) fun a' c'' h43 o43 u43 b43 => ⟨_, _, _, rfl, _, rfl, ?_⟩
  · cases j with
    | zero =>
      simp at hy; subst hy
      rw [Addr.add_row, cell_push, Nat.zero_mul]
      simpa using hu
    | succ j => simp at hy
  have nw := fun q hq => hp20.ne_waits (b := q) hq
  have hbox43 := u43.at hbox38 fun h => (nw _ h).1 rfl
  refine svc_store_box szWs hbox43 (by simp [diskC]) rfl (one_slice _ _ _) fun h49 s49 b49 u49 => ?_
  -- the whole
  have u2943 : Upd (blk A0) h29 h43 := (kp29.upd _).trans u43
  have uall : Upd O h1 h49 := u1.trans ((k20.upd O).trans ((u29.mono fun q h => hb q (two_blks1 q h)).trans ((u2943.mono fun q h => hb q (.inr (.inr (.inr (.inr (.inr h)))))).trans (u49.mono fun q e => e ▸ hb d (.inl rfl)))))
  have z20 := k20.size
  have z29 := u29.size
  have z43 := u43.size
  have z1 := u1.size
  simp only [Array.size_push] at z43
  have a43 : ∀ q, blk a' q → q ≠ d ∧ q ≠ c1 ∧ q ≠ p1 ∧ q ≠ c2 ∧ q ≠ p2 := fun q hq => by
    rcases b43 q hq with h | h
    · exact nw q h
    · simp only [Array.size_push] at h
      have := at_lt hbox29
      have l1 := hp20.now.lt
      have l2 := hp20.safe.lt
      omega
  have hp49 : DiskP h49 d c1 p1 c2 p2 a' (n0 + 1) c'' { act x with now := put s (setP (pgs x.now s) k (pad b)) x.now, waits := x.waits ++ [⟨s, k, pad b⟩] } := by
    refine ⟨?_, ?_, ?_, o43.upd u49 fun q hq => (a43 q hq).1, hp20.nd, okw⟩
    · rw [b49]; simp [diskC]
    · exact (s29.upd u2943 (fun h => (nw _ h).2.1 rfl) (fun h => (nw _ h).2.2.1 rfl)).upd u49 (Ne.symm nm.1) (Ne.symm nm.2.1)
    · exact ((hp20.safe.upd u29 (by rintro (e | e) <;> omega) (by rintro (e | e) <;> omega)).upd u2943 (fun h => (nw _ h).2.2.2.1 rfl) (fun h => (nw _ h).2.2.2.2 rfl)).upd u49 (Ne.symm nm.2.2.1) (Ne.symm nm.2.2.2)
  have hd49 : DiskAt h49 d { act x with now := put s (setP (pgs x.now s) k (pad b)) x.now, waits := x.waits ++ [⟨s, k, pad b⟩] } fun q => O q ∨ (h1.size ≤ q ∧ q < h49.size) := by
    refine ⟨fun q h => h.elim (fun h => Nat.lt_of_lt_of_le (hO q h) uall.size) (·.2), c1, p1, c2, p2, a', n0 + 1, c'', hp49, ?_⟩
    rintro q (rfl | rfl | rfl | rfl | rfl | hq)
    · exact .inl (hb _ (.inl rfl))
    · exact .inl (hb _ (.inr (.inl rfl)))
    · exact .inl (hb _ (.inr (.inr (.inl rfl))))
    · exact .inl (hb _ (.inr (.inr (.inr (.inl rfl)))))
    · exact .inl (hb _ (.inr (.inr (.inr (.inr (.inl rfl))))))
    · have hlt := (hp49.waits.block q hq).2
      rcases b43 q hq with h | h
      · exact .inl (hb q (.inr (.inr (.inr (.inr (.inr h))))))
      · simp only [Array.size_push] at h; exact .inr ⟨by omega, hlt⟩
  refine br_intro (fun hg => ?_) (fun hg => ?_)
  · refine ⟨_, rfl, _, reads_load scU (hp49.rd rfl), (off_spec hd49 hp.ok.keep (by simp; omega)).mono ?_⟩
    rintro v h53 ⟨O', hd53, hO', u53, rfl⟩
    rw [if_pos hg]
    refine ⟨rfl, O', hd53, fun q h => ?_, uall.trans' u53, rfl⟩
    rcases hO' q h with h | h
    · exact h.imp id (·.1)
    · exact .inr (by have := uall.size; omega)
  · rw [if_neg (by simp [hg])]
    exact ⟨_, hd49, fun q h => h.imp id (·.1), uall, rfl⟩
theorem write_spec {h : Heap} {d : Nat} {x : D} {O : Nat → Prop} {s b : Str} {i : Int} {A : Option Addr} {n c : Nat} (hd : DiskAt h d x O) (hsl : Sl ByteE h A n (bytesL b)) (hA : ∀ q, blk A q → ¬ O q) (hwn : x.waits.length < 1073741824) :
    HC Try.prog 15 #[.pointer (some ⟨d, 0, none⟩), .string s, .int .i64 i, .slice A n c] h
      fun v h' => ∃ O', DiskAt h' d (write x s i b).2 O' ∧ (∀ q, O' q → O q ∨ h.size ≤ q) ∧ Upd O h h' ∧ v = .int .i64 (write x s i b).1 := write_spec0 hd hsl (fun _ => hA) hwn
end Go.Proofs.Ytembbemljejjbaa
