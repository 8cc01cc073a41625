/-
  Texts of this seat, laid one behind the other: PgK PgK2. Conditions: none.
-/
import Derived.Test.YthkhaobmhheoaaaGreatZE
import Derived.Test.YthkhaobmhheoaaaGreatZA
import Derived.Test.YthkhaobmhheoaaaGreatZPC
section
set_option linter.unusedVariables false
set_option linter.unusedSimpArgs false
set_option maxRecDepth 100000
namespace Go.Proofs.YthkhaobmhheoaaaGreat
open Go Go.Vc Go.Proofs Go.Dk Go.Cd
open Go.Pg (SrtI)

theorem reads_var {P : Program} {t : TypeId} {h : Heap} {p : Addr} {v : Value} (ht : scT P t = true) (hc : cell h p = some v) : Reads P (loadVar t p) h v :=
  ⟨fun w hw => by
    subst hw
    simp only [loadVar, Sem.run_bind, Result.andThen_ok, run_isAgg_sc ht, Bool.false_eq_true, if_false, run_load, cell_eq, hc]⟩
theorem scEr : scT Tryz.prog 34 = true := by kernel_rfl
theorem szEr : szOf Tryz.prog 34 = some 1 := by kernel_rfl
theorem store0 {t T b : Nat} {h : Heap} {o v : Value} {K : Unit → Heap → Prop} (hsz : szOf Tryz.prog t = some 1) (hb : h[b]? = some (.cells #[o] T (0, 0))) (hc : v.cells = #[v]) (hone : (∀ c, v ≠ .agg c) ∧ (∀ c, v ≠ .tuple c))
    (kk : ∀ h', h'[b]? = some (.cells #[v] T (0, 0)) → Upd (fun i => i = b) h h' → K () h') : SVC Tryz.prog (Instr.storeAt t (.pointer (some ⟨b, 0, none⟩)) v) h K := by
  have := svc_store_box (P := Tryz.prog) (K := K) (k := 0) hsz hb (by simp) hc hone fun h' _ h2 h3 => kk h' (by simpa using h2) h3
  rwa [Addr.add_row] at this
section
variable {h : Heap} {d : Nat} {N N' : Nat → Prop} {x y : D}
/-- the answer is put in its box, and read back. -/
theorem fin {e0 e : Int} {H : Heap} {r : Int × D} (hN : ∀ q, N q → N' q) (old : ∀ q, N q → q < h.size) (dn : DN N' d y H) (hrb : N' (h.size + 1)) (up : UpdM (fun q => ¬ N q) h H)
    (rb : H[h.size + 1]? = some (.cells #[.int .i64 e0] 34 (0, 0))) (hr : r = (e, y)) :
    SVC Tryz.prog (Instr.storeAt 34 (.pointer (some ⟨h.size + 1, 0, none⟩)) (.int .i64 e)) H fun (_ : Unit) (h' : Heap) => ∀ (g : Heap), Turn h' g → ∃ (n : Int), Reads Tryz.prog (loadVar 34 ⟨h.size + 1, 0, none⟩) g (.int .i64 n) ∧ Stp N d r.2 h g ∧ Value.int .i64 n = .int .i64 r.1 := by
  subst hr
  refine store0 szEr rb rfl (one_int _ _) fun h' hb u g t => ⟨e, reads_var scEr (cell_cells0 (t.stay _ _ hb rfl) rfl), ⟨?_, ?_⟩, rfl⟩
  · exact ((dn.keepM u.m fun q _ hq => hq ▸ hrb).turn t).sub hN
  · refine (up.trans (u.m.of_sub fun q _ hq hn => ?_)).trans t.m
    have := old q hn; omega
end
/-- a row of a record. -/
def rowB (q : Int × Str) : List UInt8 := uintB (2 * q.1.toNat) ++ textB q.2
theorem record_eq (W : Pg.Rw) : Pg.record W = uintB (2 * W.length) ++ W.flatMap rowB := rfl
theorem rowB_len {q : Int × Str} (h1 : q.1 < 9223372036854775808) (h2 : q.2.size ≤ 512) : (rowB q).length ≤ 532 := by
  have a := uintB_len10 (n := 2 * q.1.toNat) (by omega)
  have b := uintB_len10 (n := q.2.size) (by omega)
  have c := textB_len q.2
  unfold rowB
  rw [List.length_append]; omega
theorem rows_len : ∀ (W : Pg.Rw), (∀ q ∈ W, q.1 < 9223372036854775808 ∧ q.2.size ≤ 512) → (W.flatMap rowB).length ≤ W.length * 532
  | [], _ => by simp
  | q :: W, h => by
    have h1 := rows_len W fun p hp => h p (List.mem_cons_of_mem _ hp)
    have h2 := h q List.mem_cons_self
    have h3 := rowB_len h2.1 h2.2
    rw [List.flatMap_cons, List.length_append, List.length_cons]; omega
theorem bytes_back (s : Str) : (⟨(bytesL s).toArray⟩ : ByteArray) = s := by
  cases s; simp [bytesL]
theorem bytesL_mk (l : List UInt8) : bytesL (⟨l.toArray⟩ : ByteArray) = l := by simp [bytesL]
/-- a part of a slice. -/
theorem part_sl {H : Heap} {pa : Addr} {n : Nat} {B : List UInt8} (hs : Sl ByteE H (some pa) n B) {k : Nat} (hk : 512 * k < n) :
    Sl ByteE H (some (pa.add (512 * k))) (min 512 (n - 512 * k)) (bytesL (Pg.partB B k)) := by
  have hl := hs.1
  unfold Pg.partB
  rw [bytesL_mk]
  refine ⟨by rw [List.length_take, List.length_drop, hl], .inr ⟨_, rfl, fun i b hb j v hv => ?_⟩⟩
  rw [List.getElem?_take] at hb
  split at hb
  · rw [List.getElem?_drop] at hb
    obtain ⟨p, e, hc⟩ := hs.get hb
    cases e
    rw [Addr.add_add]
    have e1 : 512 * k + (i * ByteE.sz + j) = (512 * k + i) * ByteE.sz + j := by show 512 * k + (i * 1 + j) = (512 * k + i) * 1 + j; omega
    rw [e1]; exact hc j v hv
  · cases hb
/-- where a commit's own blocks lie. -/
structure Cx (N N1 : Nat → Prop) (h : Heap) (p ib c1 c2 : Nat) (pa : Addr) : Prop where
  sub : ∀ q, N q → N1 q
  old : ∀ q, N q → q < h.size
  p : N p
  n0 : N1 h.size
  n1 : N1 (h.size + 1)
  ni : N1 ib
  m1 : N1 c1
  m2 : N1 c2
  np : N1 pa.block
  i : h.size + 1 < ib
  i1 : c1 ≠ ib
  i2 : c2 ≠ ib
  ip : pa.block ≠ ib
/-- what stands while the parts are written. -/
structure CSt (N N1 : Nat → Prop) (h : Heap) (d p ib c1 c2 : Nat) (pa : Addr) (nc : Nat) (B : List UInt8) (k : Int) (y : D) (H : Heap) : Prop where
  dn : DN N1 d y H
  up : UpdM (fun q => ¬ N q) h H
  pb : H[h.size]? = some (.cells #[.pointer (some ⟨p, 0, none⟩)] 36 (0, 0))
  rb : H[h.size + 1]? = some (.cells #[.int .i64 0] 34 (0, 0))
  ib : H[ib]? = some (.cells #[.int .i64 k] 3 (0, 0))
  ch : ChunkC c1 c2 pa B.length nc H
  bf : Sl ByteE H (some pa) B.length B
section
variable {N N1 : Nat → Prop} {h : Heap} {d p ib c1 c2 : Nat} {pa : Addr} {nc : Nat} {B : List UInt8} {k k' : Int} {y y' : D} {H H' : Heap}
theorem CSt.disk (cx : Cx N N1 h p ib c1 c2 pa) (s : CSt N N1 h d p ib c1 c2 pa nc B k y H) (t : Stp N1 d y' H H') : CSt N N1 h d p ib c1 c2 pa nc B k y' H' := by
  have hn : ∀ q, N1 q → ¬ ¬ N1 q := fun q hq hn => hn hq
  exact ⟨t.dn, s.up.trans (t.up.mono fun q hq hN => hq (cx.sub q hN)), t.up.cells s.pb (hn _ cx.n0), t.up.cells s.rb (hn _ cx.n1), t.up.cells s.ib (hn _ cx.ni),
    ⟨t.up.cells s.ch.1 (hn _ cx.m1), t.up.cells s.ch.2 (hn _ cx.m2)⟩, s.bf.updM t.up fun _ q hq => hn q (by obtain ⟨p, e, h⟩ := hq; cases e; exact h ▸ cx.np)⟩
theorem CSt.turn (s : CSt N N1 h d p ib c1 c2 pa nc B k y H) (t : Turn H H') : CSt N N1 h d p ib c1 c2 pa nc B k y H' :=
  ⟨s.dn.turn t, s.up.trans t.m, t.stay _ _ s.pb rfl, t.stay _ _ s.rb rfl, t.stay _ _ s.ib rfl, ⟨t.stay _ _ s.ch.1 rfl, t.stay _ _ s.ch.2 rfl⟩, s.bf.updM (S := fun _ => False) t.m fun _ _ _ => id⟩
theorem CSt.seti (cx : Cx N N1 h p ib c1 c2 pa) (s : CSt N N1 h d p ib c1 c2 pa nc B k y H) (hb : H'[ib]? = some (.cells #[.int .i64 k'] 3 (0, 0))) (u : Upd (fun i => i = ib) H H') : CSt N N1 h d p ib c1 c2 pa nc B k' y H' := by
  have hi := cx.i
  refine ⟨s.dn.keepM u.m fun q _ hq => hq ▸ cx.ni, s.up.trans (u.m.of_sub fun q _ hq hn => ?_), u.at s.pb (by omega), u.at s.rb (by omega), hb, ⟨u.at s.ch.1 cx.i1, u.at s.ch.2 cx.i2⟩, s.bf.updM u.m fun _ q hq e => ?_⟩
  · have := cx.old q hn; omega
  · obtain ⟨p, e2, h⟩ := hq
    cases e2
    exact cx.ip (h.trans e)
theorem CSt.pager {nm : Str} (cx : Cx N N1 h p ib c1 c2 pa) (hp : PagerAt h p d nm) (s : CSt N N1 h d p ib c1 c2 pa nc B k y H) : PagerAt H p d nm := hp.updM s.up fun hn => hn cx.p
theorem CSt.rp (s : CSt N N1 h d p ib c1 c2 pa nc B k y H) : Reads Tryz.prog (Instr.loadAt 36 (.pointer (some ⟨h.size, 0, none⟩))) H (.pointer (some ⟨p, 0, none⟩)) := reads_load scPp (cell_cells0 s.pb rfl)
theorem CSt.ri (s : CSt N N1 h d p ib c1 c2 pa nc B k y H) : Reads Tryz.prog (Instr.loadAt 3 (.pointer (some ⟨ib, 0, none⟩))) H (.int .i64 k) := reads_load scI (cell_cells0 s.ib rfl)
end
end Go.Proofs.YthkhaobmhheoaaaGreat
end

section
set_option linter.unusedVariables false
set_option linter.unusedSimpArgs false
set_option maxRecDepth 100000
namespace Go.Proofs.YthkhaobmhheoaaaGreat
open Go Go.Vc Go.Proofs Go.Dk Go.Cd
open Go.Pg (SrtI)

theorem pmay_ok {c : Nat} {W : Pg.Rw} (h : (Pg.may c W).2 = 0) : Pg.may c W = (((Pg.fresh c W : Nat) : Int), 0) ∧ ∀ q ∈ W, 0 ≤ q.1 ∧ q.1 < (c : Int) + Pg.fresh c W ∧ q.2.size ≤ 512 := by
  unfold Pg.may at h ⊢
  by_cases h1 : (W.any fun p => decide (512 < p.2.size)) = true
  · rw [if_pos h1] at h; cases h
  · rw [if_neg h1] at h ⊢
    by_cases h2 : (W.any fun p => decide (p.1 < 0) || decide (p.1 ≥ (c : Int) + Pg.fresh c W)) = true
    · rw [if_pos h2] at h; cases h
    · rw [if_neg h2]
      refine ⟨rfl, fun q hq => ?_⟩
      rw [List.any_eq_true] at h1 h2
      refine ⟨?_, ?_, ?_⟩
      · exact Int.not_lt.1 fun h3 => h2 ⟨q, hq, by simp [h3]⟩
      · exact Int.lt_of_not_ge fun h3 => h2 ⟨q, hq, by simp [h3]⟩
      · exact Nat.le_of_not_lt fun h3 => h1 ⟨q, hq, by simp [h3]⟩
theorem rowW {W : Pg.Rw} {k : Nat} {q : Int × Str} (hq : W[k]? = some q) : (W.take (k + 1)).flatMap rowB = (W.take k).flatMap rowB ++ rowB q := by
  rw [take_row hq, List.flatMap_append]; simp
theorem BvOk.mono {N N1 : Nat → Prop} {h : Heap} {v : Bv} (hv : BvOk N h v) (hs : ∀ q, N q → N1 q) : BvOk N1 h v := ⟨hv.sl, hv.cap, fun hn q hq => hs q (hv.blk hn q hq)⟩
theorem PgsAt.mono {N N1 : Nat → Prop} {h : Heap} {r : Nat} {ml : List (Int × Bv)} (hr : PgsAt N h r ml) (hs : ∀ q, N q → N1 q) : PgsAt N1 h r ml := ⟨hr.map, hs r hr.n, fun q hq => (hr.each q hq).mono hs, hr.keys, hr.len⟩
section
variable {h h' : Heap} {p d r : Nat} {nm : Str} {N S : Nat → Prop} {x : D} {ml : List (Int × Bv)} {W : Pg.Rw}

set_option maxHeartbeats 4000000 in
theorem commit_spec (hp : PagerAt h p d nm) (hNp : N p) (hd : DN N d x h) (hr : PgsAt N h r ml) (hW : Rows ml W) (hw : x.waits.length ≤ 100000000) :
    HC Tryz.prog 27 #[.pointer (some ⟨p, 0, none⟩), .map (some r)] h fun v h' => Stp N d (Pg.commit nm W x).2 h h' ∧ v = .int .i64 (Pg.commit nm W x).1 := by
  have hlen := hr.len
  have hWl := hW.len
  have hml : rw0 ml = rw0 ml := rfl
  have hmayW : Pg.may (count x nm) (rw0 ml) = Pg.may (count x nm) W := may_perm hW.perm.symm
  have hcnt := Pg.count_le hd.ok nm
  have hold : ∀ q, N q → q < h.size := fun q hq => hd.lt hq
  refine HC_of_vc (args := [.pointer (some ⟨p, 0, none⟩), .map (some r)]) (base := 116) (cuts := [24, 25]) (bigs := []) hm Tryz.func27 ?_
  rw [vcCommit]
  simp only [Array.size_push]
  generalize hH : (Array.push h (Obj.cells (Array.mk [Value.pointer (some (Addr.mk p 0 none))]) 36)).push (Obj.cells (Array.mk [Value.int .i64 0]) 34) = H0
  have b0 : H0[h.size]? = some (.cells #[.pointer (some ⟨p, 0, none⟩)] 36 (0, 0)) := by rw [← hH]; exact push2_0 _ _ _
  have b1 : H0[h.size + 1]? = some (.cells #[.int .i64 0] 34 (0, 0)) := by rw [← hH]; exact push2_1 _ _ _
  have k0 : Keep h.size h H0 := by rw [← hH]; exact (keep_push h _).trans (Keep.push _ _ _ (by simp))
  have z0 : H0.size = h.size + 2 := by rw [← hH]; simp
  clear hH
  have hp0 := hp.keep k0
  -- an answer ahead of what is done on the disk
  have early : ∀ {H : Heap} {e : Int}, Keep H0.size H0 H → Pg.commit nm W x = (e, x) →
      SVC Tryz.prog (Instr.storeAt 34 (.pointer (some ⟨h.size + 1, 0, none⟩)) (.int .i64 e)) H fun (_ : Unit) (h' : Heap) => ∀ (g : Heap), Turn h' g → ∃ (n : Int), Reads Tryz.prog (loadVar 34 ⟨h.size + 1, 0, none⟩) g (.int .i64 n) ∧ Stp N d (Pg.commit nm W x).2 h g ∧ Value.int .i64 n = .int .i64 (Pg.commit nm W x).1 := by
    intro H e k hR
    have kH := k0.trans (k.mono k0.size)
    exact fin (N' := Nw N h H) (fun q hq => .inl hq) hold ((hd.wide kH)) (.inr ⟨by omega, by have := k.size; omega⟩) kH.m (k.at b1 (by omega)) hR
  refine ⟨some ⟨p, 0, none⟩, reads_load scPp (cell_cells0 b0 rfl), _, reads_eql_nil undPp, br_intro (fun e => by cases e) fun _ => ?_⟩
  refine ⟨some ⟨p, 0, none⟩, reads_load scPp (cell_cells0 b0 rfl), _, rfl, _, hp0.rd, ((hd.keep k0).down).mono ?_⟩
  rintro v h10 ⟨rfl, rfl⟩
  refine ⟨_, rfl, br_intro (fun hdn => early (Keep.refl _ _) ?_) fun hdn => ?_⟩
  · unfold Pg.commit; rw [if_pos hdn]
  have hdn : ¬ x.down = true := by simp [hdn]
  refine ⟨some ⟨p, 0, none⟩, reads_load scPp (cell_cells0 b0 rfl), (may_spec hp0 (hd.keep k0) (hr.keep k0)).mono ?_⟩
  rintro v h18 ⟨k18, rfl⟩
  rw [hmayW]
  have kh18 := k0.trans (k18.mono k0.size)
  have hr18 := hr.keep kh18
  refine ⟨_, _, rfl, (ml.length : Int), fun _ => reads_len_map hr18.map, br_intro (fun hm1 => early k18 ?_) fun hm1 => ?_⟩
  · unfold Pg.commit
    rw [if_neg hdn, if_pos]
    simp only [bne_iff_ne, Bool.or_eq_true, beq_iff_eq] at hm1
    exact hm1.imp (by simp) fun h => List.eq_nil_of_length_eq_zero (by omega)
  have hmay0 : (Pg.may (count x nm) W).2 = 0 ∧ W.length ≠ 0 := by
    simp only [bne_iff_ne, Bool.or_eq_false_iff, beq_eq_false_iff_ne, bne_eq_false_iff_eq] at hm1
    exact ⟨hm1.1, fun h => hm1.2 (by omega)⟩
  have hmayC : ¬ ((Pg.may (count x nm) W).2 ≠ 0 ∨ W = []) := fun h => h.elim (fun h => h hmay0.1) fun h => hmay0.2 (by rw [h]; rfl)
  obtain ⟨hmq, hrows⟩ := pmay_ok hmay0.1
  have hfl := fresh_le (count x nm) W
  rw [hmq]
  dsimp only
  have hrl := rows_len W fun q hq => ⟨by have := (hrows q hq).2.1; omega, (hrows q hq).2.2⟩
  have hu10 := uintB_len10 (n := 2 * W.length) (by omega)
  refine ⟨_, reads_len_map hr18.map, ?_⟩
  rw [← hWl]
  refine (int_spec (Sl.nil _ _) (Nat.le_refl _) (by omega) W.length (by omega)).mono ?_
  rintro v h28 ⟨k28, a29, n29, c29, rfl, o29⟩
  rw [List.nil_append] at o29
  have kh28 := kh18.trans (k28.mono kh18.size)
  have k028 := k18.trans (k28.mono k18.size)
  refine ⟨_, _, _, rfl, (keys_of (hr.keep kh28) hW).mono ?_⟩
  rintro v h33 ⟨k33, hc33⟩
  refine ⟨_, rfl, hc33.mono ?_⟩
  rintro v h36 ⟨k36, aK, cK, rfl, hKb, hKs⟩
  have kh36 := kh28.trans (k36.mono kh28.size)
  have k036 := k028.trans (k36.mono k028.size)
  have hr36 := hr.keep kh36
  refine ⟨_, _, _, rfl, fun a n c n45 H => ∃ k : Nat, n45 = k ∧ k ≤ W.length ∧ Keep h36.size h36 H ∧ n ≤ c ∧ Sl ByteE H a n (uintB (2 * W.length) ++ (W.take k).flatMap rowB), fun _ _ _ n45 _ => W.length - n45.toNat,
    ⟨0, rfl, Nat.zero_le _, Keep.refl _ _, o29.2.1, by rw [List.take_zero, List.flatMap_nil, List.append_nil]; exact o29.sl.keep k36⟩, ?_⟩
  rintro a42 k43 k44 n45 H ⟨k, rfl, hk, kH, hcap, hsl⟩
  have hlt43 : k43 ≤ 10 + k * 532 := by
    have h1 := hsl.1
    have h2 := rows_len (W.take k) fun q hq => ⟨by have := (hrows q (List.mem_of_mem_take hq)).2.1; omega, (hrows q (List.mem_of_mem_take hq)).2.2⟩
    rw [List.length_append] at h1
    rw [List.length_take] at h2
    have h3 : min k W.length * 532 ≤ k * 532 := Nat.mul_le_mul_right _ (Nat.min_le_left _ _)
    omega
  refine br_intro (fun e => ?_) fun e => ?_
  · have e := of_decide_eq_true e
    have hkl : k < W.length := by omega
    have hq : W[k]? = some W[k] := List.getElem?_eq_getElem hkl
    obtain ⟨v, g1, g2, g3⟩ := hW.get hr.nodup (List.getElem_mem hkl)
    obtain ⟨q1, q2, q3⟩ := hrows _ (List.getElem_mem hkl)
    generalize W[k] = q at hq g1 g2 g3 q1 q2 q3
    obtain ⟨p47, ea, hrd⟩ := key_read (hKs.keep kH) hq
    refine ⟨p47, ⟨ea, by omega, by omega⟩, _, hrd, fun g => Keep H.size H g, Keep.refl _ _, ?_⟩
    have eq1 : q.1 = ((q.1.toNat : Nat) : Int) := by omega
    have hi := int_spec hsl hcap (by omega) q.1.toNat (by omega)
    rw [← eq1] at hi
    refine hi.mono ?_
    rintro v51 h51 ⟨k51, a52, k53, k54, rfl, o52⟩
    have hrg : ∀ g, Keep H.size H g → PgsAt N g r ml := fun g kg => (hr36.keep kH).keep kg
    have hl52 := o52.1
    rw [List.length_append] at hl52
    have hu := uintB_len10 (n := 2 * q.1.toNat) (by omega)
    have hl43 := hsl.1
    refine ⟨_, _, _, rfl, k51, _, _, _, fun g kg => (hrg g kg).look g1, v.s, fun g kg => by have := reads_string (P := Tryz.prog) (c := v.c) undBs undB undS ((hrg g kg).each _ g3).sl; rw [bytes_back] at this; exact this, ?_⟩
    refine (text_spec o52.sl o52.2.1 (by omega) v.s (by rw [g2]; omega)).mono ?_
    rintro v h62 ⟨k62, a63, k64, k65, rfl, o63⟩
    rw [wrap_i64 (by omega) (by omega)]
    refine ⟨_, _, _, rfl, ⟨k + 1, rfl, hkl, kH.trans ((k51.trans (k62.mono k51.size)).mono kH.size), o63.2.1, ?_⟩, by dsimp only; omega⟩
    rw [rowW hq]
    have : uintB (2 * W.length) ++ ((W.take k).flatMap rowB ++ rowB q) = uintB (2 * W.length) ++ (W.take k).flatMap rowB ++ uintB (2 * q.1.toNat) ++ textB v.s := by
      unfold rowB; rw [g2]; simp only [List.append_assoc]
    rw [this]; exact o63.sl
  have e := of_decide_eq_false e
  have hkW : k = W.length := by omega
  subst hkW
  rw [List.take_length, ← record_eq] at hsl
  refine ⟨_, reads_string (c := k44) undBs undB undS hsl, ?_⟩
  have hrs : (⟨(Pg.record W).toArray⟩ : ByteArray).size = k43 := by show (Pg.record W).toArray.size = _; rw [List.size_toArray]; exact hsl.1
  refine (fput_spec (Sl.nil _ _) (Nat.le_refl _) (by omega) ⟨(Pg.record W).toArray⟩ (by omega)).mono ?_
  rintro v h68 ⟨k68, a69, k70, k71, rfl, o69⟩
  rw [List.nil_append] at o69
  have o69 : Vc.Own ByteE 5 H.size h68 a69 k70 k71 (Pg.frameW W) := o69
  have k068 : Keep h10.size h10 h68 := (k036.trans (kH.mono k036.size)).trans (k68.mono (k036.trans (kH.mono k036.size)).size)
  have kh68 := k0.trans (k068.mono k0.size)
  have hl70 := o69.1
  have hBl : (Pg.frameW W).length = (textB ⟨(Pg.record W).toArray⟩).length + 4 := frameB_len _
  have hBt := textB_len ⟨(Pg.record W).toArray⟩
  have hB10 := uintB_len10 (n := (⟨(Pg.record W).toArray⟩ : ByteArray).size) (by omega)
  have hp68 := hp.keep kh68
  generalize hB : Pg.frameW W = B at o69 hl70 hBl
  refine ⟨_, _, _, rfl, by decide, some ⟨p, 0, none⟩, reads_load scPp (cell_cells0 (k068.at b0 (by omega)) rfl), _, rfl, _, hp68.rd, ((hd.keep kh68).free).mono ?_⟩
  rintro v h76 ⟨k76, rfl⟩
  have k076 := k068.trans (k76.mono k068.size)
  have kh76 := k0.trans (k076.mono k0.size)
  have hpages : IntKind.i64.wrap (IntKind.i64.wrap ((IntKind.i64.wrap (IntKind.i64.wrap ((k70 : Int) + 512) - 1)).tdiv 512) + ((Pg.fresh (count x nm) W : Nat) : Int)) = (Pg.nparts B : Int) + ((Pg.fresh (count x nm) W : Nat) : Int) := by
    rw [wrap_i64 (n := (k70 : Int) + 512) (by omega) (by omega), wrap_i64 (n := (k70 : Int) + 512 - 1) (by omega) (by omega)]
    have e1 : ((k70 : Int) + 512 - 1).tdiv 512 = ((Pg.nparts B : Nat) : Int) := by
      rw [Int.tdiv_eq_ediv_of_nonneg (by omega)]
      unfold Pg.nparts
      rw [hl70]; omega
    have e2 : Pg.nparts B ≤ 1073741824 := by unfold Pg.nparts; omega
    rw [e1, wrap_i64 (n := ((Pg.nparts B : Nat) : Int)) (by omega) (by omega), wrap_i64 (by omega) (by omega)]
  rw [hpages]
  refine ⟨_, rfl, br_intro (fun hfr => early k076 ?_) fun hfr => ?_⟩
  · have hfr := of_decide_eq_true hfr
    unfold Pg.commit
    rw [if_neg hdn, if_neg hmayC, if_pos]
    rw [hmq, hB]; exact hfr
  have hfr := of_decide_eq_false hfr
  have hcommit : Pg.commit nm W x = if (Pg.journal nm B x).1 ≠ 0 then Pg.journal nm B x else Pg.lay nm W (Pg.journal nm B x).2 := by
    unfold Pg.commit
    rw [if_neg hdn, if_neg hmayC, if_neg, hB]
    rw [hmq, hB]; exact hfr
  have hBmax : B.length ≤ 1000000000 := by omega
  clear hpages hfr hmayC hBt hB10 hrs hcnt
  have jl : (Pg.layW (Pg.nmT nm) (Pg.partsW B) x).1 ≠ 0 → Pg.commit nm W x = Pg.layW (Pg.nmT nm) (Pg.partsW B) x := fun h1 => by
    have : Pg.journal nm B x = Pg.layW (Pg.nmT nm) (Pg.partsW B) x := by unfold Pg.journal; rw [if_pos h1]
    rw [hcommit, this, if_pos h1]
  have js : ¬ (Pg.layW (Pg.nmT nm) (Pg.partsW B) x).1 ≠ 0 → (sync (Pg.layW (Pg.nmT nm) (Pg.partsW B) x).2 (Pg.nmT nm)).1 ≠ 0 → Pg.commit nm W x = sync (Pg.layW (Pg.nmT nm) (Pg.partsW B) x).2 (Pg.nmT nm) := fun h1 h2 => by
    have : Pg.journal nm B x = sync (Pg.layW (Pg.nmT nm) (Pg.partsW B) x).2 (Pg.nmT nm) := by unfold Pg.journal; rw [if_neg h1, if_pos h2]
    rw [hcommit, this, if_pos h2]
  have jr : ¬ (Pg.layW (Pg.nmT nm) (Pg.partsW B) x).1 ≠ 0 → ¬ (sync (Pg.layW (Pg.nmT nm) (Pg.partsW B) x).2 (Pg.nmT nm)).1 ≠ 0 → Pg.journal nm B x = rename (sync (Pg.layW (Pg.nmT nm) (Pg.partsW B) x).2 (Pg.nmT nm)).2 (Pg.nmT nm) (Pg.nmJ nm) := fun h1 h2 => by
    unfold Pg.journal; rw [if_neg h1, if_neg h2]
  have hnp : Pg.nparts B ≤ 2000000 := by unfold Pg.nparts; omega
  obtain rfl : k70 = B.length := hl70.symm
  refine store0 szI (push_at h76 _) rfl (one_int _ _) fun h83 hb83 u83 => ?_
  have k83 : Keep h76.size h76 h83 := (keep_push h76 _).trans (u83.keep (by simp) fun i e => by omega)
  have z83 := u83.size
  rw [Array.size_push] at z83
  have k083 : Keep h10.size h10 h83 := k076.trans (k83.mono k076.size)
  rcases o69.2.2 with ⟨_, h0⟩ | ⟨pb, cells, rfl, hBb, hcb, hrest⟩
  · have := o69.2.1; omega
  have hpb := (o69.block pb ⟨_, rfl, rfl⟩).2
  have z68 := k76.size
  have zH := (k036.trans (kH.mono k036.size)).size
  refine ⟨fun G => (Pg.layW (Pg.nmT nm) (Pg.partsW B) x).1 = 0 ∧ ∃ (N1 : Nat → Prop) (c1 c2 : Nat) (k : Int), Cx N N1 h p h76.size c1 c2 ⟨pb, 0, none⟩ ∧ CSt N N1 h d p h76.size c1 c2 ⟨pb, 0, none⟩ k71 B k (Pg.layW (Pg.nmT nm) (Pg.partsW B) x).2 G, (chunk_spec).mono ?_, ?_⟩
  · rintro v h86 ⟨k86, z86, rfl, hch⟩
    have k086 : Keep h10.size h10 h86 := k083.trans (k86.mono k083.size)
    have kh86 := k0.trans (k086.mono k0.size)
    have cx : Cx N (Nw N h h86) h p h76.size h83.size (h83.size + 1) ⟨pb, 0, none⟩ :=
      ⟨fun q hq => .inl hq, hold, hNp, .inr ⟨by omega, by omega⟩, .inr ⟨by omega, by omega⟩, .inr ⟨by omega, by omega⟩, .inr ⟨by omega, by omega⟩, .inr ⟨by omega, by omega⟩, .inr ⟨by show h.size ≤ pb; omega, by show pb < h86.size; omega⟩,
        by omega, by omega, by omega, by show pb ≠ h76.size; omega⟩
    have st0 : CSt N (Nw N h h86) h d p h76.size h83.size (h83.size + 1) ⟨pb, 0, none⟩ k71 B 0 x h86 :=
      ⟨hd.wide kh86, kh86.m, k086.at b0 (by omega), k086.at b1 (by omega), k86.at hb83 (by omega), hch, (o69.sl.keep k76).keep (k83.trans (k86.mono (by omega)))⟩
    generalize Nw N h h86 = N1 at cx st0
    refine ⟨_, rfl, parts ⟨pb, 0, none⟩ B.length, ChunkC h83.size (h83.size + 1) ⟨pb, 0, none⟩ B.length k71,
      fun k G => k ≤ Pg.nparts B ∧ (Pg.layW (Pg.nmT nm) ((Pg.partsW B).take k) x).1 = 0 ∧ CSt N N1 h d p h76.size h83.size (h83.size + 1) ⟨pb, 0, none⟩ k71 B (k : Int) (Pg.layW (Pg.nmT nm) ((Pg.partsW B).take k) x).2 G,
      fun G => ∃ e y, Pg.commit nm W x = (e, y) ∧ DN N1 d y G ∧ UpdM (fun q => ¬ N q) h G ∧ G[h.size + 1]? = some (.cells #[.int .i64 e] 34 (0, 0)),
      chunk_gives (by omega) o69.2.1, fun k G hG => hG.2.2.ch, fun k G G' hG t => ⟨hG.1, hG.2.1, hG.2.2.turn t⟩, fun G G' ⟨e, y, h1, h2, h3, h4⟩ t => ⟨e, y, h1, h2.turn t, h3.trans t.m, t.stay _ _ h4 rfl⟩,
      ⟨Nat.zero_le _, rfl, st0⟩, ?_, ?_, ?_⟩
    · rintro k a n c h103 hnth ⟨hk, h0, s103⟩ h104 t
      have s := s103.turn t
      have hkl : k < Pg.nparts B := by
        have := (List.getElem?_eq_some_iff.1 hnth.eq).1
        rw [parts_len] at this; exact this
      have hkB : 512 * k < B.length := by unfold Pg.nparts at hkl; omega
      obtain ⟨rfl, rfl, rfl⟩ : a = some ((⟨pb, 0, none⟩ : Addr).add (512 * k)) ∧ n = min 512 (B.length - 512 * k) ∧ c = min 512 (B.length - 512 * k) := by
        have := hnth.eq
        rw [parts_at hkB] at this
        cases this; exact ⟨rfl, rfl, rfl⟩
      have hq : (Pg.partsW B)[k]? = some ((k : Int), Pg.partB B k) := by
        unfold Pg.partsW
        rw [List.getElem?_map, List.getElem?_range hkl]; rfl
      obtain ⟨l1, l2⟩ := layW_next (n := Pg.nmT nm) (x := x) h0 hq
      have hww := Pg.layW_waits (Pg.nmT nm) ((Pg.partsW B).take k) x
      rw [List.length_take, Pg.partsW_len] at hww
      have hpG := s.pager cx hp
      refine ⟨fun G => (Pg.layW (Pg.nmT nm) ((Pg.partsW B).take (k + 1)) x).1 = 0 ∧ CSt N N1 h d p h76.size h83.size (h83.size + 1) ⟨pb, 0, none⟩ k71 B (k : Int) (Pg.layW (Pg.nmT nm) ((Pg.partsW B).take (k + 1)) x).2 G,
        ⟨fun g => g = h104, rfl, some ⟨p, 0, none⟩, fun g e => by rw [e]; exact s.rp, _, rfl, some ⟨d, 0, none⟩, fun g e => by rw [e]; exact hpG.rd, some ⟨p, 0, none⟩, s.rp, (draft_spec hpG).mono ?_⟩, ?_⟩
      · rintro v h114 ⟨rfl, rfl⟩
        refine ⟨_, rfl, rfl, (k : Int), fun g e => by rw [e]; exact s.ri, ?_⟩
        refine (s.dn.write (s := Pg.nmT nm) (b := Pg.partB B k) (i := (k : Int)) (part_sl s.bf hkB) (fun _ q hq => by
          obtain ⟨p0, e0, e1⟩ := hq
          cases e0
          rw [Addr.add_block] at e1
          exact e1 ▸ cx.np) (by omega)).mono ?_
        rintro v h119 ⟨st, rfl⟩
        refine ⟨_, rfl, br_intro (fun e2 => ?_) fun e2 => ?_⟩
        · have e2 : (write (Pg.layW (Pg.nmT nm) ((Pg.partsW B).take k) x).2 (Pg.nmT nm) (k : Int) (Pg.partB B k)).1 ≠ 0 := by simpa using e2
          have e3 := l2 e2
          have s2 := s.disk cx st
          refine store0 szEr s2.rb rfl (one_int _ _) fun h122 hb u => ⟨_, _, (jl (by rw [e3]; exact e2)).trans e3, s2.dn.keepM u.m fun q _ hq => hq ▸ cx.n1, s2.up.trans (u.m.of_sub fun q _ hq hn => ?_), hb⟩
          have := hold q hn; omega
        · have e2 : ¬ (write (Pg.layW (Pg.nmT nm) ((Pg.partsW B).take k) x).2 (Pg.nmT nm) (k : Int) (Pg.partB B k)).1 ≠ 0 := by simpa using e2
          have e3 := l1 e2
          exact ⟨by rw [e3], by rw [e3]; exact s.disk cx st⟩
      · rintro G ⟨h1, s2⟩
        refine ⟨_, s2.ri, store0 szI s2.ib rfl (one_int _ _) fun h126 hb u => ⟨hkl, h1, ?_⟩⟩
        rw [wrap_i64 (by omega) (by omega)] at hb
        exact s2.seti cx hb u
    · rintro G ⟨hk, h0, s⟩
      have e : (Pg.partsW B).take (parts ⟨pb, 0, none⟩ B.length).length = Pg.partsW B := by
        rw [parts_len]; exact List.take_of_length_le (by rw [Pg.partsW_len]; exact Nat.le_refl _)
      rw [e] at h0 s
      exact ⟨h0, N1, _, _, _, cx, s⟩
    · rintro G ⟨e, y, h1, h2, h3, h4⟩ G' t
      refine ⟨e, reads_var scEr (cell_cells0 (t.stay _ _ h4 rfl) rfl), ⟨?_, ?_⟩, by rw [h1]⟩
      · rw [h1]; exact (h2.turn t).sub cx.sub
      · exact h3.trans t.m
  · rintro h131 ⟨h0, N1, c1, c2, k, cx, s⟩
    have hl0 : ¬ (Pg.layW (Pg.nmT nm) (Pg.partsW B) x).1 ≠ 0 := by simp [h0]
    have hww := Pg.layW_waits (Pg.nmT nm) (Pg.partsW B) x
    rw [Pg.partsW_len] at hww
    have hpG := s.pager cx hp
    refine ⟨fun g => g = h131, rfl, some ⟨p, 0, none⟩, fun g e => by rw [e]; exact s.rp, _, rfl, some ⟨d, 0, none⟩, fun g e => by rw [e]; exact hpG.rd, some ⟨p, 0, none⟩, s.rp, (draft_spec hpG).mono ?_⟩
    rintro v h140 ⟨rfl, rfl⟩
    refine ⟨_, rfl, rfl, (s.dn.sync (s := Pg.nmT nm) (by omega)).mono ?_⟩
    rintro v h143 ⟨st, rfl⟩
    have s2 := s.disk cx st
    have hw2 := Pg.sync_waits (Pg.layW (Pg.nmT nm) (Pg.partsW B) x).2 (Pg.nmT nm)
    refine ⟨_, rfl, br_intro (fun e2 => fin cx.sub hold s2.dn cx.n1 s2.up s2.rb (js hl0 (by simpa using e2))) fun e2 => ?_⟩
    have e2 : ¬ (sync (Pg.layW (Pg.nmT nm) (Pg.partsW B) x).2 (Pg.nmT nm)).1 ≠ 0 := by simpa using e2
    have hpG := s2.pager cx hp
    refine ⟨fun g => g = h143, rfl, some ⟨p, 0, none⟩, fun g e => by rw [e]; exact s2.rp, _, rfl, some ⟨d, 0, none⟩, fun g e => by rw [e]; exact hpG.rd, some ⟨p, 0, none⟩, s2.rp, (draft_spec hpG).mono ?_⟩
    rintro v h157 ⟨rfl, rfl⟩
    refine ⟨_, rfl, rfl, some ⟨p, 0, none⟩, fun g e => by rw [e]; exact s2.rp, (journal_spec hpG).mono ?_⟩
    rintro v h162 ⟨rfl, rfl⟩
    refine ⟨_, rfl, rfl, (s2.dn.rename (s := Pg.nmT nm) (t := Pg.nmJ nm) (by omega)).mono ?_⟩
    rintro v h165 ⟨st3, rfl⟩
    have s3 := s2.disk cx st3
    rw [← jr hl0 e2] at s3 ⊢
    refine ⟨_, rfl, br_intro (fun e3 => fin cx.sub hold s3.dn cx.n1 s3.up s3.rb (by rw [hcommit, if_pos (by simpa using e3)])) fun e3 => ?_⟩
    have e3 : ¬ (Pg.journal nm B x).1 ≠ 0 := by simpa using e3
    have hpG := s3.pager cx hp
    have hrG : PgsAt N1 h165 r ml := (hr.updM s3.up fun q hq hn => hn hq).mono cx.sub
    have hw3 := Pg.journal_waits nm B x
    refine ⟨some ⟨p, 0, none⟩, s3.rp, (lay_spec hpG (cx.sub p cx.p) s3.dn hrG hW (by omega)).mono ?_⟩
    rintro v h173 ⟨st4, rfl⟩
    have s4 := s3.disk cx st4
    exact ⟨_, rfl, fin cx.sub hold s4.dn cx.n1 s4.up s4.rb (by rw [hcommit, if_neg e3])⟩
end
end Go.Proofs.YthkhaobmhheoaaaGreat
end
