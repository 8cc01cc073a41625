/-
  DiskTwins, walked: whatever script, the law returns true. Conditions: none.
-/
import Derived.Test.YtembbemljejjbaaDkT
set_option linter.unusedVariables false
set_option linter.unusedSimpArgs false
set_option maxRecDepth 100000
namespace Go.Proofs.Ytembbemljejjbaa
open Go Go.Vc Go.Proofs Go.Dk

/-- what a call on one pair leaves of another. -/
theorem Pair.other {h h' : Heap} {a m b o : Nat} {x y : D} {O1 O2 N N' : Nat → Prop} (p : Pair h b o y O2 N) (p1 : Pair h a m x O1 N) (u : Upd (fun q => O1 q ∨ q = m) h h') (nb : Nb N' h') (sub : ∀ q, N q → N' q) (new : ∀ q, N' q → N q ∨ h.size ≤ q)
    (dj : ∀ q, O1 q → ¬ O2 q) (mo : m ≠ o) (h1 : ¬ O1 o) (h2 : ¬ O2 m) : Pair h' b o y O2 N' := by
  have hS : ∀ q, (O1 q ∨ q = m) → N q := fun q hq => hq.elim (p1.sub q) fun e => e ▸ p1.ref.nm
  refine ⟨p.disk.upd u fun q hq hs => hs.elim (fun hs => dj q hs hq) fun e => h2 (e ▸ hq), ?_, fun q hq => sub q (p.sub q hq), p.nm, nb⟩
  exact (p.ref.turn (M := N') (fun q hq hn => (new q hn).elim id fun hl => by omega) (sub o p.ref.nm)).upd u (fun q hq => sub q (hS q hq)) fun hs => hs.elim h1 fun e => mo e.symm
theorem reads_neq_b {P : Program} {t : TypeId} {x y : Operand} {a b : Bool} {h : Heap} (ht : P.underlying t = some .bool) : Reads P (eqSem .neq t x y (.bool a) (.bool b)) h (.bool (!(a == b))) :=
  ⟨fun w _ => by simp [eqSem, eqGuard, run_neq_bool w t a b ht]⟩
theorem undBo : Try.prog.underlying 4 = some .bool := by kernel_rfl
theorem br_true {P Q : Prop} (h : P) : br true P Q := br_intro (fun _ => h) fun e => by cases e

/-- two pairs, alike. -/
structure Twin (h0 h : Heap) (a b m o : Nat) (x : D) (O1 O2 N : Nat → Prop) : Prop where
  base : Keep h0.size h0 h
  p1 : Pair h a m x O1 N
  p2 : Pair h b o x O2 N
  dj : ∀ q, O1 q → ¬ O2 q
  mo : m ≠ o
  o1 : ¬ O1 o
  m2 : ¬ O2 m
  new : ∀ q, N q → h0.size ≤ q
theorem clok_of {N : Nat → Prop} {h0 h : Heap} {c : Cl} (hc : ClOk (fun _ => False) h0 c) (k : Keep h0.size h0 h) (hN : ∀ q, N q → h0.size ≤ q) : ClOk N h c :=
  (hc.turn (M := N) fun q hq hn => by have := hN q hn; omega).keep k
theorem Twin.keep {h0 h h' : Heap} {a b m o : Nat} {x : D} {O1 O2 N : Nat → Prop} (t : Twin h0 h a b m o x O1 O2 N) (k : Keep h.size h h') : Twin h0 h' a b m o x O1 O2 N :=
  ⟨t.base.trans (k.mono t.base.size), t.p1.keep k, t.p2.keep k, t.dj, t.mo, t.o1, t.m2, t.new⟩
set_option maxHeartbeats 4000000 in
theorem twins_spec {h : Heap} {A : Option Addr} {n c : Nat} {cs : List Cl} {room : Int} (hs : Sl CallE h A n cs) (hc : ∀ c ∈ cs, ClOk (fun _ => False) h c) (hn : n ≤ 9223372036854775807) :
    HC Try.prog 8 #[.int .i64 room, .slice A n c] h fun v h' => Keep h.size h h' ∧ v = .bool true := by
  refine HC_of_vc (args := [.int .i64 room, .slice A n c]) (base := 71) (cuts := []) (bigs := []) hm Try.func8 ?_
  rw [vcTwinsL]
  refine (alive_spec h).mono ?_
  rintro v h1 ⟨k1, rfl⟩
  refine ⟨_, rfl, br_intro (fun e => by cases e) fun _ => (great_spec (c := c) (hs.keep k1) hn).mono ?_⟩
  rintro v h4 ⟨k4, bg, rfl, hg⟩
  have k04 := k1.trans (k4.mono k1.size)
  refine ⟨_, rfl, br_intro (fun e => ⟨k04, rfl⟩) fun e => ?_⟩
  have hn80 : n ≤ 80 := hg e
  refine (new_spec h4 room).mono ?_
  rintro v h7 ⟨k7, a, rfl, d7⟩
  refine ⟨_, rfl, (new_spec h7 room).mono ?_⟩
  rintro v h10 ⟨k10, b, rfl, d10⟩
  refine ⟨_, rfl, (rnew_spec h10 room (fun q => h4.size ≤ q ∧ q < h10.size + 2)).mono ?_⟩
  rintro v h13 ⟨k13, s13, rfl, r13⟩
  refine ⟨_, rfl, (rnew_spec h13 room (fun q => h4.size ≤ q ∧ q < h10.size + 2)).mono ?_⟩
  rintro v h16 ⟨k16, s16, rfl, r16⟩
  have s7 := k7.size
  have s10 := k10.size
  have n13 : ∀ q, (h4.size ≤ q ∧ q < h10.size + 2) → ((h4.size ≤ q ∧ q < h10.size + 2) ∨ q = h10.size) := fun q hq => .inl hq
  have t16 : Twin h h16 a b h10.size h13.size (new room) (fun q => h4.size ≤ q ∧ q < h7.size) (fun q => h7.size ≤ q ∧ q < h10.size) (fun q => h4.size ≤ q ∧ q < h10.size + 2) := by
    refine ⟨k04.trans ((k7.mono k04.size).trans ((k10.mono (Nat.le_trans k04.size s7)).trans ((k13.mono (Nat.le_trans k04.size (Nat.le_trans s7 s10))).trans (k16.mono (Nat.le_trans k04.size (Nat.le_trans s7 (Nat.le_trans s10 k13.size))))))), ?_, ?_, ?_, by omega, by omega, by omega, fun q hq => Nat.le_trans k04.size hq.1⟩
    · refine ⟨((d7.keep k10).keep k13).keep k16, ((r13.turn (M := fun q => h4.size ≤ q ∧ q < h10.size + 2) (fun q _ hq => .inl hq) (by omega)).keep k16), fun q hq => by omega, by omega, fun q hq => by omega⟩
    · refine ⟨(d10.keep k13).keep k16, (r16.turn (M := fun q => h4.size ≤ q ∧ q < h10.size + 2) (fun q _ hq => .inl hq) (by omega)), fun q hq => by omega, by omega, fun q hq => by omega⟩
    · intro q h1 h2; omega
  refine ⟨_, rfl, fun _ n21 h22 => ∃ (k : Nat) (x : D) (O1 O2 N : Nat → Prop), n21 = k ∧ k ≤ n ∧ Twin h h22 a b h10.size h13.size x O1 O2 N ∧ Few k x, fun _ n21 _ => n - n21.toNat, ⟨0, _, _, _, _, rfl, Nat.zero_le _, t16, few_new room⟩, ?_⟩
  clear t16 r16 r13 d10 d7 n13
  generalize h10.size = m
  generalize h13.size = o
  rintro b20 n21 h22 ⟨k, x, O1, O2, N, rfl, hk, t22, few⟩
  refine br_intro (fun hlt => ?_) (fun hge => ⟨t22.base, rfl⟩)
  have hlt := of_decide_eq_true hlt
  have hlt : k < n := by omega
  obtain ⟨cl, p, hx, hA, rd⟩ := cl_at hs t22.base hlt
  have hcl := hc cl (List.mem_of_getElem? hx)
  refine ⟨p, ⟨hA, by omega, by omega⟩, _, _, _, _, _, _, _, _, rd, svc_cl rfl ?_⟩
  have b33 := push_at h22 (clBox cl)
  have k33 := keep_push h22 (clBox cl)
  have t33 := t22.keep k33
  have hlt33 : h22.size < (h22.push (clBox cl)).size := by simp
  have nb22 : ¬ N h22.size := fun hn => by have := t22.p1.nb _ hn; omega
  generalize h22.push (clBox cl) = h33 at *
  refine ⟨_, _, _, _, _, _, _, _, cb_all b33, (do_spec t33.p1 (clok_of hcl t33.base t33.new) few (by omega)).mono ?_⟩
  rintro v h43 ⟨⟨O1', N', q1, e1, e2, e3, u1⟩, rfl⟩
  have q2 := t33.p2.other t33.p1 u1 q1.nb e3 e2 t33.dj t33.mo t33.o1 t33.m2
  have s1 := u1.size
  have b43 : h43[h22.size]? = some (clBox cl) := u1.at b33 fun hs => hs.elim (fun ho => nb22 (t33.p1.sub _ ho)) fun e => nb22 (e ▸ t33.p1.ref.nm)
  have lto := t33.p2.ref.lt
  have ltm := t33.p1.ref.lt
  have base43 : Keep h.size h h43 := t33.base.trans (u1.keep t33.base.size fun q hq => t33.new q (hq.elim (t33.p1.sub q) fun e => e ▸ t33.p1.ref.nm))
  have t43 : (∀ q, O1' q → ¬ O2 q) ∧ ¬ O1' o ∧ (∀ q, N' q → h.size ≤ q) := by
    refine ⟨fun q hq h2 => (e1 q hq).elim (fun ho => t33.dj q ho h2) fun hl => by have := t33.p2.disk.lt h2; omega, fun ho => (e1 o ho).elim t33.o1 fun hl => by omega, fun q hq => (e2 q hq).elim (t33.new q) fun hl => by have := t33.base.size; omega⟩
  obtain ⟨dj43, o143, new43⟩ := t43
  refine ⟨_, rfl, _, _, _, _, _, _, _, _, fun _ => cb_all b43, br_true ((do_spec q2 (clok_of hcl base43 new43) few (by omega)).mono ?_)⟩
  rintro v h54 ⟨⟨O2', N2, q3, e4, e5, e6, u2⟩, rfl⟩
  have q4 := q1.other q2 u2 q3.nb e6 e5 (fun q ho h1 => dj43 q h1 ho) (Ne.symm t33.mo) t33.m2 o143
  have few' := few_doC few t33.p1.ok (clok_of hcl t33.base t33.new)
  have ok' := q3.ok
  have base54 : Keep h.size h h54 := base43.trans (u2.keep base43.size fun q hq => new43 q (hq.elim (q2.sub q) fun e => e ▸ q2.ref.nm))
  have t54 : Twin h h54 a b m o (doC x cl) O1' O2' N2 := by
    refine ⟨base54, q4, q3, fun q h1 h2 => (e4 q h2).elim (fun ho => dj43 q h1 ho) fun hl => by have := q1.disk.lt h1; omega, t33.mo, o143, fun hm2 => (e4 m hm2).elim t33.m2 fun hl => by have := q1.ref.lt; omega, fun q hq => (e5 q hq).elim (new43 q) fun hl => by have := base43.size; omega⟩
  clear q4 q3 q2 q1 t33 t22
  have hnl : (doC x cl).now.length ≤ 1073741824 := by have := few'.num; omega
  refine ⟨_, rfl, br_true ((dacts_spec t54.p1.disk).mono ?_)⟩
  rintro v _ ⟨rfl, rfl⟩
  refine ⟨_, rfl, (dacts_spec t54.p2.disk).mono ?_⟩
  rintro v _ ⟨rfl, rfl⟩
  refine ⟨_, rfl, ?_⟩
  rw [beq_self]
  refine br_true ((ddown_spec t54.p1.disk).mono ?_)
  rintro v _ ⟨rfl, rfl⟩
  refine ⟨_, rfl, (ddown_spec t54.p2.disk).mono ?_⟩
  rintro v _ ⟨rfl, rfl⟩
  refine ⟨_, rfl, _, fun _ => reads_neq_b undBo, ?_⟩
  rw [beq_self_eq_true]
  refine br_true ((free_spec t54.p1.disk).mono ?_)
  rintro v h70 ⟨k70, rfl⟩
  have t70 := t54.keep k70
  refine ⟨_, rfl, (free_spec t70.p2.disk).mono ?_⟩
  rintro v h73 ⟨k73, rfl⟩
  have t73 := t70.keep k73
  refine ⟨_, rfl, ?_⟩
  rw [beq_self]
  refine br_true ((dnames_spec t73.p1.disk hnl few'.siz).mono ?_)
  rintro v h76 ⟨k76, a77, n78, c79, rfl, sl76⟩
  have t76 := t73.keep k76
  refine ⟨_, _, _, rfl, (dnames_spec t76.p2.disk hnl few'.siz).mono ?_⟩
  rintro v h81 ⟨k81, a82, n83, c84, rfl, sl81⟩
  have t81 := t76.keep k81
  have hll : (namesD (doC x cl)).length ≤ 1073741824 := by
    unfold namesD; split
    · simp
    · rw [len_names]; exact hnl
  refine ⟨_, _, _, rfl, (same_spec (sl76.keep k81) sl81 hll).mono ?_⟩
  rintro v _ ⟨rfl, rfl⟩
  refine ⟨_, rfl, br_intro (fun e => by cases e) fun _ => ?_⟩
  rw [wrap_i64 (by omega) (by omega)]
  exact ⟨⟨k + 1, _, _, _, _, rfl, hlt, t81, few'⟩, by dsimp only; omega⟩
end Go.Proofs.Ytembbemljejjbaa
