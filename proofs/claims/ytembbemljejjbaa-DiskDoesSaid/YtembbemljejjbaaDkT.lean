/-
  A disk beside its reference: a call on both answers the same; scripts that came in. Conditions: none.
-/
import Derived.Test.YtembbemljejjbaaDkRR
import Derived.Test.YtembbemljejjbaaDkN
import Derived.Test.YtembbemljejjbaaDk3
import Derived.Test.YtembbemljejjbaaDkA4
import Derived.Test.YtembbemljejjbaaDkB2
import Derived.Test.YtembbemljejjbaaDk6
import Derived.Test.YtembbemljejjbaaDkC0
import Derived.Test.YtembbemljejjbaaDkC3
import Derived.Test.YtembbemljejjbaaRT
set_option linter.unusedVariables false
set_option linter.unusedSimpArgs false
set_option maxRecDepth 100000
namespace Go.Proofs.Ytembbemljejjbaa
open Go Go.Vc Go.Proofs Go.Dk

section
variable {h : Heap} {d : Nat} {x : D} {O : Nat → Prop}
theorem dacts_spec (hd : DiskAt h d x O) : HC Try.prog 30 #[.pointer (some ⟨d, 0, none⟩)] h fun v h' => h' = h ∧ v = .int .i64 x.acts := by
  obtain ⟨hO, c1, p1, c2, p2, A, n, c, hp, hb⟩ := hd
  refine HC_of_vc (args := [.pointer (some ⟨d, 0, none⟩)]) (base := 9) (cuts := []) (bigs := []) hm Try.func30 ?_
  rw [vcDacts]
  exact ⟨_, reads_eql_nil undD, br_intro (fun e => by cases e) fun _ => ⟨_, rfl, _, reads_load scI (hp.rd rfl), rfl, rfl⟩⟩
theorem ddown_spec (hd : DiskAt h d x O) : HC Try.prog 31 #[.pointer (some ⟨d, 0, none⟩)] h fun v h' => h' = h ∧ v = .bool x.down := by
  obtain ⟨hO, c1, p1, c2, p2, A, n, c, hp, hb⟩ := hd
  refine HC_of_vc (args := [.pointer (some ⟨d, 0, none⟩)]) (base := 11) (cuts := []) (bigs := []) hm Try.func31 ?_
  rw [vcDdown]
  exact ⟨_, reads_neq_nil undD, _, fun _ => rfl, _, fun _ => reads_load scB (hp.rd rfl), rfl, rfl⟩
theorem dnames_spec (hd : DiskAt h d x O) (hn : x.now.length ≤ 1073741824) (hs : ∀ n, n ∈ names x.now → n.size ≤ 9223372036854775807) :
    HC Try.prog 33 #[.pointer (some ⟨d, 0, none⟩)] h fun v h' => Keep h.size h h' ∧ ∃ a k c, v = .slice a k c ∧ Sl StrE h' a k (namesD x) := by
  have hr := ready_spec hd
  have ok := hd.ok
  obtain ⟨hO, c1, p1, c2, p2, A, m, c, hp, hb⟩ := hd
  obtain ⟨mc, mp, hc, hmp, hl⟩ := hp.now
  refine HC_of_vc (args := [.pointer (some ⟨d, 0, none⟩)]) (base := 13) (cuts := []) (bigs := []) hm Try.func33 ?_
  rw [vcDnames]
  refine hr.mono ?_
  rintro v h1 ⟨rfl, rfl⟩
  have hkeys : ∀ n, n ∈ mKeys mc ↔ n ∈ names x.now := fun n => by
    have h1 := hl.count n
    constructor
    · intro hm
      by_cases h0 : n ∈ names x.now
      · exact h0
      · rw [mGet_none.2 h0] at h1; exact absurd hm (mGet_none.1 h1)
    · intro hm
      by_cases h0 : n ∈ mKeys mc
      · exact h0
      · rw [mGet_none.2 h0] at h1
        cases h2 : mGet x.now n with
        | none => exact absurd hm (mGet_none.1 h2)
        | some l => rw [h2] at h1; cases h1
  have hnd : (mKeys mc).Nodup := by obtain ⟨_, _, _, _, h, _⟩ := hc; exact h
  have hlen : mc.length ≤ x.now.length := by
    have := len_sub hnd fun n hn => (hkeys n).1 hn
    rw [len_names] at this
    simpa [mKeys] using this
  refine ⟨_, rfl, br_intro (fun e => ?_) fun e => ⟨_, rfl, _, reads_load scMc (cell_cells0 hp.box rfl), (sortedKeys hc (by omega) fun s hs' => hs s ((hkeys s).1 hs')).mono ?_⟩⟩
  · have hdn : x.down = true := by cases hdn : x.down <;> simp [hdn] at e ⊢
    exact ⟨Keep.refl _ _, _, _, _, rfl, by unfold namesD; rw [if_pos hdn]; exact Sl.nil _ _⟩
  · have hdn : x.down = false := by cases hdn : x.down <;> simp [hdn] at e ⊢
    rintro v h6 ⟨k6, hc6⟩
    refine ⟨_, rfl, hc6.mono ?_⟩
    rintro v h9 ⟨k9, a, c', K, hK, hKm, hKl, rfl, hsl⟩
    have hKn : K = names x.now := srt_ext hK ok.now fun q => (hKm q).trans (hkeys q)
    refine ⟨_, _, _, rfl, k6.trans (k9.mono k6.size), _, _, _, rfl, ?_⟩
    unfold namesD
    rw [if_neg (by rw [hdn]; decide), ← hKn]; exact hsl
end
theorem same_spec {h : Heap} {A B : Option Addr} {n m c d : Nat} {xs : List Str} (ha : Sl StrE h A n xs) (hb : Sl StrE h B m xs) (hn : xs.length ≤ 1073741824) :
    HC Try.prog 32 #[.slice A n c, .slice B m d] h fun v h' => h' = h ∧ v = .bool true := by
  refine HC_of_vc (args := [.slice A n c, .slice B m d]) (base := 26) (cuts := []) (bigs := []) hm Try.func32 ?_
  rw [vcSame]
  have h1 := ha.1
  have h2 := hb.1
  refine br_intro (fun e => ?_) (fun e => ?_)
  · have : (n : Int) ≠ m := by simpa using e
    omega
  refine ⟨fun _ n3 h4 => h4 = h ∧ ∃ k : Nat, n3 = k ∧ k ≤ n, fun _ n3 _ => n - n3.toNat, ⟨rfl, 0, rfl, Nat.zero_le _⟩, ?_⟩
  rintro b2 n3 h4 ⟨rfl, k, rfl, hk⟩
  refine br_intro (fun hlt => ?_) (fun hge => ⟨rfl, rfl⟩)
  have hlt := of_decide_eq_true hlt
  have hx : xs[k]? = some (xs[k]'(by omega)) := List.getElem?_eq_getElem (by omega)
  obtain ⟨p, hA, rp⟩ := reads_s ha hx
  obtain ⟨q, hB, rq⟩ := reads_s hb hx
  refine ⟨p, ⟨hA, by omega, by omega⟩, _, rp, q, ⟨hB, by omega, by omega⟩, _, rq, br_intro (fun e => ?_) fun e => ?_⟩
  · simp at e
  · rw [wrap_i64 (by omega) (by omega)]
    exact ⟨⟨rfl, k + 1, rfl, by omega⟩, by dsimp only; omega⟩
end Go.Proofs.Ytembbemljejjbaa
set_option linter.unusedVariables false
set_option linter.unusedSimpArgs false
set_option maxRecDepth 100000
namespace Go.Proofs.Ytembbemljejjbaa
open Go Go.Vc Go.Proofs Go.Dk

/-- a call of the script. -/
structure Cl where
  k : Int
  s : Str
  z : Str
  i : Int
  a : Option Addr
  len : Nat
  cap : Nat
  K : Int
  b : Str
abbrev Cl.val (c : Cl) : Value := .agg (Array.mk [.int .i64 c.k, .string c.s, .string c.z, .int .i64 c.i, .slice c.a c.len c.cap, .int .u64 c.K])
abbrev clBox (c : Cl) : Obj := .cells (Array.mk [Value.int .i64 c.k, .string c.s, .string c.z, .int .i64 c.i, .slice c.a c.len c.cap, .int .u64 c.K]) 54 (0, 0)
/-- what holds of a call that came in. -/
structure ClOk (N : Nat → Prop) (h : Heap) (c : Cl) : Prop where
  s : c.s.size ≤ 9223372036854775807
  z : c.z.size ≤ 9223372036854775807
  i : -9223372036854775808 ≤ c.i ∧ c.i ≤ 9223372036854775807
  K : 0 ≤ c.K ∧ c.K < 18446744073709551616
  b : SlN ByteE N h c.a c.len (bytesL c.b)
theorem ClOk.upd {N : Nat → Prop} {h h' : Heap} {c : Cl} (hc : ClOk N h c) (u : Upd N h h') : ClOk N h' c := ⟨hc.s, hc.z, hc.i, hc.K, hc.b.upd u⟩
theorem ClOk.keep {N : Nat → Prop} {h h' : Heap} {c : Cl} (hc : ClOk N h c) (k : Keep h.size h h') : ClOk N h' c := hc.upd (k.upd N)
theorem ClOk.turn {N M : Nat → Prop} {h : Heap} {c : Cl} (hc : ClOk N h c) (hM : ∀ q, q < h.size → M q → N q) : ClOk M h c := ⟨hc.s, hc.z, hc.i, hc.K, hc.b.turn (by decide) hM⟩
/-- a call's outcome on the disk. -/
def doC (x : D) (c : Cl) : D :=
  if c.k = 0 then (Dk.write x c.s c.i c.b).2 else if c.k = 1 then x else if c.k = 2 then (Dk.sync x c.s).2 else if c.k = 3 then (Dk.cut x c.s c.i).2 else if c.k = 4 then (Dk.rename x c.s c.z).2
  else if c.k = 5 then (Dk.remove x c.s).2 else if c.k = 6 then off c.K x else if c.k = 7 then on x else if c.k = 8 then arm x c.i c.K else x
theorem few_doC {k : Nat} {x : D} {c : Cl} {N : Nat → Prop} {h : Heap} (hf : Few k x) (ok : Ok x) (hc : ClOk N h c) : Few (k + 1) (doC x c) := by
  have m := hf.mono (Nat.le_succ k)
  unfold doC
  split; exact few_write hf ok hc.s _ _
  split; exact m
  split; exact few_sync hf ok _
  split; exact few_cut hf ok _ _
  split; exact few_rename hf ok _ hc.z
  split; exact few_remove hf ok _
  split; exact few_off m ok
  split; exact few_on m
  split; exact few_arm _ _ m
  exact m
theorem few_sz {k : Nat} {x : D} (hf : Few k x) (ok : Ok x) (hk : k ≤ 1000) : Sz x := ⟨by have := hf.num; omega, by have := hf.safe ok; omega, by have := hf.wts; omega⟩

/-- a disk and its reference; none of the blocks of the reference's lists is of N, all of the disk's are. -/
structure Pair (h : Heap) (d m : Nat) (x : D) (O N : Nat → Prop) : Prop where
  disk : DiskAt h d x O
  ref : RefAt h m x N
  sub : ∀ q, O q → N q
  nm : ¬ O m
  nb : Nb N h
/-- the two behind a call. -/
def PStep (h h' : Heap) (d m : Nat) (x' : D) (O N : Nat → Prop) : Prop :=
  ∃ O' N', Pair h' d m x' O' N' ∧ (∀ q, O' q → O q ∨ h.size ≤ q) ∧ (∀ q, N' q → N q ∨ h.size ≤ q) ∧ (∀ q, N q → N' q) ∧ Upd (fun q => O q ∨ q = m) h h'
section
variable {h h1 h' : Heap} {d m : Nat} {x x' : D} {O N : Nat → Prop}
theorem Pair.keep (p : Pair h d m x O N) (k : Keep h.size h h') : Pair h' d m x O N := ⟨p.disk.keep k, p.ref.keep k, p.sub, p.nm, p.nb.mono k.size⟩
theorem Pair.ok (p : Pair h d m x O N) : Ok x := p.disk.ok
theorem Pair.stay (p : Pair h d m x O N) (k : Keep h.size h h') : PStep h h' d m x O N := ⟨O, N, p.keep k, fun q hq => .inl hq, fun q hq => .inl hq, fun q hq => hq, k.upd _⟩
/-- the disk's half of a call. -/
theorem Pair.half (p : Pair h d m x O N) (r : ∃ O', DiskAt h1 d x' O' ∧ (∀ q, O' q → O q ∨ h.size ≤ q) ∧ Upd O h h1) :
    ∃ O', DiskAt h1 d x' O' ∧ (∀ q, O' q → O q ∨ h.size ≤ q) ∧ Upd O h h1 ∧ RefAt h1 m x (fun q => N q ∨ O' q) ∧ Nb (fun q => N q ∨ O' q) h1 ∧ ¬ O' m := by
  obtain ⟨O', a, b, c⟩ := r
  have hm := p.ref.lt
  have hM : ∀ q, q < h.size → (N q ∨ O' q) → N q := fun q hq hh => hh.elim id fun ho => (b q ho).elim (p.sub q) fun hb => by omega
  refine ⟨O', a, b, c, (p.ref.turn (M := fun q => N q ∨ O' q) hM (.inl p.ref.nm)).upd c (fun q hq => .inl (p.sub q hq)) p.nm, fun q hq => hq.elim (fun hn => Nat.lt_of_lt_of_le (p.nb q hn) c.size) (a.1 q), fun ho => (b m ho).elim p.nm fun hb => by omega⟩
/-- .. and the reference's. -/
theorem half_done {O' : Nat → Prop} (p : Pair h d m x O N) (a : DiskAt h1 d x' O') (b : ∀ q, O' q → O q ∨ h.size ≤ q) (c : Upd O h h1) (nm : ¬ O' m) (nb : Nb (fun q => N q ∨ O' q) h1)
    (r : RefAt h' m x' (fun q => N q ∨ O' q)) (u : Upd (fun q => q = m) h1 h') : PStep h h' d m x' O N := by
  refine ⟨O', fun q => N q ∨ O' q, ⟨a.upd u fun q hq e => nm (e ▸ hq), r, fun q hq => .inr hq, nm, nb.mono u.size⟩, b, fun q hq => hq.elim .inl fun ho => (b q ho).imp (p.sub q) id, fun q hq => .inl hq, (c.mono fun q hq => .inl hq).trans (u.mono fun q e => .inr e)⟩
end
section
variable {h : Heap} {c : Cl}
theorem cb_k {b : Nat} (hb : h[b]? = some (clBox c)) : Reads Try.prog (Instr.loadAt 3 (.pointer (some ⟨b, 0, none⟩))) h (.int .i64 c.k) := reads_load scI (cell_cells0 hb rfl)
theorem cb_s {b : Nat} (hb : h[b]? = some (clBox c)) : Reads Try.prog (Instr.loadAt 9 (.pointer (some ((⟨b, 0, none⟩ : Addr).add 1)))) h (.string c.s) := reads_load scS (cell_cells hb rfl)
theorem cb_z {b : Nat} (hb : h[b]? = some (clBox c)) : Reads Try.prog (Instr.loadAt 9 (.pointer (some ((⟨b, 0, none⟩ : Addr).add 2)))) h (.string c.z) := reads_load scS (cell_cells hb rfl)
theorem cb_i {b : Nat} (hb : h[b]? = some (clBox c)) : Reads Try.prog (Instr.loadAt 3 (.pointer (some ((⟨b, 0, none⟩ : Addr).add 3)))) h (.int .i64 c.i) := reads_load scI (cell_cells hb rfl)
theorem scBy : scT Try.prog 22 = true := by kernel_rfl
theorem cb_b {b : Nat} (hb : h[b]? = some (clBox c)) : Reads Try.prog (Instr.loadAt 22 (.pointer (some ((⟨b, 0, none⟩ : Addr).add 4)))) h (.slice c.a c.len c.cap) := reads_load scBy (cell_cells hb rfl)
theorem cb_K {b : Nat} (hb : h[b]? = some (clBox c)) : Reads Try.prog (Instr.loadAt 34 (.pointer (some ((⟨b, 0, none⟩ : Addr).add 5)))) h (.int .u64 c.K) := reads_load scU (cell_cells hb rfl)
end
theorem on_spec' {h : Heap} {m : Nat} {x : D} {N : Nat → Prop} (hr : RefAt h m x N) {K : Unit → Heap → Prop} (k : ∀ h', RefAt h' m (on x) N → Upd (fun q => q = m) h h' → K () h') :
    SVC Try.prog (Instr.storeAt 4 (.pointer (some ((⟨m, 0, none⟩ : Addr).add 4))) (.bool false)) h K := by
  obtain ⟨A1, n1, c1, f1, A2, n2, c2, f2, A3, n3, c3, hp⟩ := hr
  exact svc_store_box szB hp.box (by show 4 < 8; decide) rfl (one_bool _) fun h' s b u => k h' ⟨_, _, _, _, _, _, _, _, _, _, _, hp.same (on x) u b rfl rfl rfl rfl⟩ u
theorem beq_self (n : Int) : (n == n) = true := by simp

set_option maxHeartbeats 4000000 in
theorem do_spec {h : Heap} {d m : Nat} {x : D} {O N : Nat → Prop} {c : Cl} {k : Nat} (p : Pair h d m x O N) (hc : ClOk N h c) (hf : Few k x) (hk : k ≤ 1000) :
    HC Try.prog 29 #[.pointer (some ⟨d, 0, none⟩), .pointer (some ⟨m, 0, none⟩), c.val] h fun v h' => PStep h h' d m (doC x c) O N ∧ v = .bool true := by
  refine HC_of_vc (args := [.pointer (some ⟨d, 0, none⟩), .pointer (some ⟨m, 0, none⟩), .agg #[.int .i64 c.k, .string c.s, .string c.z, .int .i64 c.i, .slice c.a c.len c.cap, .int .u64 c.K]]) (base := 145) (cuts := []) (bigs := []) hm Try.func29 ?_
  rw [vcDo]
  have sz := few_sz hf p.ok hk
  have b0 := push_at h (clBox c)
  have k0 := keep_push h (clBox c)
  have p0 := p.keep k0
  have ok := p.ok
  have hc0 := hc.keep k0
  have s0 : (h.push (clBox c)).size = h.size + 1 := by simp
  have hlt : h.size < (h.push (clBox c)).size := by omega
  have hNs : ¬ N h.size := fun hn => by have := p.nb _ hn; omega
  have hOs : ¬ O h.size := fun ho => hNs (p.sub _ ho)
  have hms : ¬ h.size = m := fun e => by have := p.ref.lt; omega
  have hw1 : x.waits.length < 1073741824 := by have := hf.wts; omega
  have hw : x.waits.length ≤ 1073741824 := Nat.le_of_lt hw1
  have fin : ∀ {h' : Heap} {x' : D}, PStep (h.push (clBox c)) h' d m x' O N → PStep h h' d m x' O N := fun ⟨O', N', a, b, e, f, g⟩ =>
    ⟨O', N', a, fun q hq => (b q hq).imp id fun hb => by omega, fun q hq => (e q hq).imp id fun hb => by omega, f, (k0.upd _).trans g⟩
  refine ⟨_, cb_k b0, br_intro (fun e => ?_) (fun e0 => ?_)⟩
  · have e : c.k = 0 := by simpa using e
    have ed : doC x c = (Dk.write x c.s c.i c.b).2 := by unfold doC; rw [if_pos e]
    refine ⟨fun H => H[h.size]? = some (clBox c) ∧ Sl ByteE H c.a c.len (bytesL c.b), ⟨b0, hc0.b.sl⟩, _, cb_s b0, _, cb_i b0, _, _, _, cb_b b0, ?_⟩
    refine (write_spec0 p0.disk hc0.b.sl (fun hn q hq hO => hc0.b.2 (fun e => hn (by have := hc0.b.len; rw [e] at this; exact this.symm)) q hq (p.sub q hO)) hw1).mono ?_
    rintro v h8 ⟨O', a1, a2, a3, rfl⟩
    obtain ⟨O', a, b, cc, r8, nb8, nm8⟩ := p0.half ⟨O', a1, a2, a3⟩
    have b8 : h8[h.size]? = some (clBox c) := cc.at b0 hOs
    have s8 : Sl ByteE h8 c.a c.len (bytesL c.b) := (hc0.b.upd (cc.mono p.sub)).sl
    refine ⟨_, rfl, ⟨b8, s8⟩, _, fun H hH => cb_s hH.1, _, fun H hH => cb_i hH.1, _, _, _, fun H hH => cb_b hH.1, _, fun H hH => reads_string undBs undB undS hH.2, ?_⟩
    have ebs : (⟨(bytesL c.b).toArray⟩ : ByteArray) = c.b := by apply ByteArray.ext; simp [bytesL]
    rw [ebs]
    refine (rwrite_spec nb8 r8 ok sz c.s c.i c.b).mono ?_
    rintro v h21 ⟨r21, u21, rfl⟩
    exact ⟨_, rfl, by rw [ed]; exact fin (half_done p0 a b cc nm8 nb8 r21 u21), by rw [beq_self]⟩
  have e0 : c.k ≠ 0 := by simpa using e0
  refine br_intro (fun e => ?_) (fun e1 => ?_)
  · have e : c.k = 1 := by simpa using e
    have ed : doC x c = x := by unfold doC; rw [if_neg e0, if_pos e]
    refine ⟨_, cb_s b0, _, cb_i b0, (read_spec p0.disk c.s c.i).mono ?_⟩
    rintro v h26 ⟨k26, bb, mm, rfl, hm1, hb1, hc1⟩
    have b26 := k26.at b0 hlt
    refine ⟨_, _, _, _, rfl, _, cb_s b26, _, cb_i b26, (rread_spec (p0.ref.keep k26) (by have := hf.num; omega) c.s c.i).mono ?_⟩
    rintro v h34 ⟨k34, rfl⟩
    have hsl : Sl ByteE h34 (if mm = 0 then none else some ⟨bb, 0, none⟩) mm (bytesL (Dk.read x c.s c.i).1) := by
      have hsz : (Dk.read x c.s c.i).1.size = (bytesL (Dk.read x c.s c.i).1).length := by show (Dk.read x c.s c.i).1.data.size = _; rw [← Array.length_toList]
      by_cases h0 : mm = 0
      · rw [if_pos h0, h0]
        have : bytesL (Dk.read x c.s c.i).1 = [] := List.eq_nil_of_length_eq_zero (by omega)
        rw [this]; exact Sl.nil _ _
      · rw [if_neg h0]
        have q1 := k34.at (hc1 h0) (at_lt (hc1 h0))
        have hh : ((bytesL (Dk.read x c.s c.i).1).map fun b => Value.int .u8 (b.toNat : Nat)) = (bytesL (Dk.read x c.s c.i).1).flatMap ByteE.enc := by
          generalize bytesL (Dk.read x c.s c.i).1 = l
          induction l with
          | nil => rfl
          | cons a l ih => rw [List.flatMap_cons, ← ih]; rfl
        rw [hh] at q1
        rw [hm1, hsz]; exact sl_bytes q1
    refine ⟨_, _, rfl, _, reads_string undBs undB undS hsl, by rw [ed]; exact p.stay (k0.trans ((k26.mono k0.size).trans (k34.mono (Nat.le_trans k0.size k26.size)))), ?_⟩
    have ebs : (⟨(bytesL (Dk.read x c.s c.i).1).toArray⟩ : ByteArray) = (Dk.read x c.s c.i).1 := by apply ByteArray.ext; simp [bytesL]
    rw [ebs]
    simp
  have e1 : c.k ≠ 1 := by simpa using e1
  refine br_intro (fun e => ?_) (fun e2 => ?_)
  · have e : c.k = 2 := by simpa using e
    have ed : doC x c = (Dk.sync x c.s).2 := by unfold doC; rw [if_neg e0, if_neg e1, if_pos e]
    refine ⟨fun H => H[h.size]? = some (clBox c), b0, _, cb_s b0, (sync_spec p0.disk hw).mono ?_⟩
    rintro v h8 ⟨O', a1, a2, a3, rfl⟩
    obtain ⟨O', a, b, cc, r8, nb8, nm8⟩ := p0.half ⟨O', a1, a2, a3⟩
    refine ⟨_, rfl, cc.at b0 hOs, _, fun H hH => cb_s hH, (rsync_spec nb8 r8 ok sz c.s).mono ?_⟩
    rintro v h21 ⟨r21, u21, rfl⟩
    exact ⟨_, rfl, by rw [ed]; exact fin (half_done p0 a b cc nm8 nb8 r21 u21), by rw [beq_self]⟩
  have e2 : c.k ≠ 2 := by simpa using e2
  refine br_intro (fun e => ?_) (fun e3 => ?_)
  · have e : c.k = 3 := by simpa using e
    have ed : doC x c = (Dk.cut x c.s c.i).2 := by unfold doC; rw [if_neg e0, if_neg e1, if_neg e2, if_pos e]
    have hi := hc.i.2
    refine ⟨fun H => H[h.size]? = some (clBox c), b0, _, cb_s b0, _, cb_i b0, (cut_spec p0.disk hw (by omega)).mono ?_⟩
    rintro v h8 ⟨O', a1, a2, a3, rfl⟩
    obtain ⟨O', a, b, cc, r8, nb8, nm8⟩ := p0.half ⟨O', a1, a2, a3⟩
    refine ⟨_, rfl, cc.at b0 hOs, _, fun H hH => cb_s hH, _, fun H hH => cb_i hH, (rcut_spec nb8 r8 ok sz c.s c.i).mono ?_⟩
    rintro v h21 ⟨r21, u21, rfl⟩
    exact ⟨_, rfl, by rw [ed]; exact fin (half_done p0 a b cc nm8 nb8 r21 u21), by rw [beq_self]⟩
  have e3 : c.k ≠ 3 := by simpa using e3
  refine br_intro (fun e => ?_) (fun e4 => ?_)
  · have e : c.k = 4 := by simpa using e
    have ed : doC x c = (Dk.rename x c.s c.z).2 := by unfold doC; rw [if_neg e0, if_neg e1, if_neg e2, if_neg e3, if_pos e]
    refine ⟨fun H => H[h.size]? = some (clBox c), b0, _, cb_s b0, _, cb_z b0, (rename_spec p0.disk hw).mono ?_⟩
    rintro v h8 ⟨O', a1, a2, a3, rfl⟩
    obtain ⟨O', a, b, cc, r8, nb8, nm8⟩ := p0.half ⟨O', a1, a2, a3⟩
    refine ⟨_, rfl, cc.at b0 hOs, _, fun H hH => cb_s hH, _, fun H hH => cb_z hH, (rrename_spec nb8 r8 ok sz c.s c.z).mono ?_⟩
    rintro v h21 ⟨r21, u21, rfl⟩
    exact ⟨_, rfl, by rw [ed]; exact fin (half_done p0 a b cc nm8 nb8 r21 u21), by rw [beq_self]⟩
  have e4 : c.k ≠ 4 := by simpa using e4
  refine br_intro (fun e => ?_) (fun e5 => ?_)
  · have e : c.k = 5 := by simpa using e
    have ed : doC x c = (Dk.remove x c.s).2 := by unfold doC; rw [if_neg e0, if_neg e1, if_neg e2, if_neg e3, if_neg e4, if_pos e]
    refine ⟨fun H => H[h.size]? = some (clBox c), b0, _, cb_s b0, (remove_spec p0.disk hw).mono ?_⟩
    rintro v h8 ⟨O', a1, a2, a3, rfl⟩
    obtain ⟨O', a, b, cc, r8, nb8, nm8⟩ := p0.half ⟨O', a1, a2, a3⟩
    refine ⟨_, rfl, cc.at b0 hOs, _, fun H hH => cb_s hH, (rremove_spec nb8 r8 ok sz c.s).mono ?_⟩
    rintro v h21 ⟨r21, u21, rfl⟩
    exact ⟨_, rfl, by rw [ed]; exact fin (half_done p0 a b cc nm8 nb8 r21 u21), by rw [beq_self]⟩
  have e5 : c.k ≠ 5 := by simpa using e5
  refine br_intro (fun e => ?_) (fun e6 => ?_)
  · have e : c.k = 6 := by simpa using e
    have ed : doC x c = off c.K x := by unfold doC; rw [if_neg e0, if_neg e1, if_neg e2, if_neg e3, if_neg e4, if_neg e5, if_pos e]
    refine ⟨_, cb_K b0, (off_spec p0.disk hc.K hw).mono ?_⟩
    rintro v h8 ⟨O', a1, a2, a3, rfl⟩
    obtain ⟨O', a, b, cc, r8, nb8, nm8⟩ := p0.half ⟨O', a1, a2, a3⟩
    refine ⟨rfl, _, cb_K (cc.at b0 hOs), (rlose_spec nb8 r8 ok hc.K (Nat.le_trans sz.now (by decide)) (Nat.le_trans sz.safe (by decide)) (Nat.le_trans sz.waits (by decide))).mono ?_⟩
    rintro v h21 ⟨r21, u21, rfl⟩
    exact ⟨rfl, by rw [ed]; exact fin (half_done p0 a b cc nm8 nb8 r21 u21), rfl⟩
  have e6 : c.k ≠ 6 := by simpa using e6
  refine br_intro (fun e => ?_) (fun e7 => ?_)
  · have e : c.k = 7 := by simpa using e
    have ed : doC x c = on x := by unfold doC; rw [if_neg e0, if_neg e1, if_neg e2, if_neg e3, if_neg e4, if_neg e5, if_neg e6, if_pos e]
    refine (on_spec p0.disk).mono ?_
    rintro v h8 ⟨a1, a3, rfl⟩
    obtain ⟨O', a, b, cc, r8, nb8, nm8⟩ := p0.half ⟨O, a1, fun q hq => .inl hq, a3⟩
    refine ⟨rfl, _, rfl, on_spec' r8 fun h21 r21 u21 => ?_⟩
    exact ⟨by rw [ed]; exact fin (half_done p0 a b cc nm8 nb8 r21 u21), rfl⟩
  have e7 : c.k ≠ 7 := by simpa using e7
  refine br_intro (fun e => ?_) (fun e8 => ?_)
  · have e : c.k = 8 := by simpa using e
    have ed : doC x c = arm x c.i c.K := by unfold doC; rw [if_neg e0, if_neg e1, if_neg e2, if_neg e3, if_neg e4, if_neg e5, if_neg e6, if_neg e7, if_pos e]
    refine ⟨_, cb_i b0, _, cb_K b0, (arm_spec p0.disk hc.i.2 hc.K).mono ?_⟩
    rintro v h8 ⟨a1, a3, rfl⟩
    obtain ⟨O', a, b, cc, r8, nb8, nm8⟩ := p0.half ⟨O, a1, fun q hq => .inl hq, a3⟩
    have b8 := cc.at b0 hOs
    refine ⟨rfl, _, cb_i b8, _, cb_K b8, (rarm_spec r8 c.i c.K).mono ?_⟩
    rintro v h21 ⟨r21, u21, rfl⟩
    exact ⟨rfl, by rw [ed]; exact fin (half_done p0 a b cc nm8 nb8 r21 u21), rfl⟩
  have e8 : c.k ≠ 8 := by simpa using e8
  have ed : doC x c = x := by unfold doC; rw [if_neg e0, if_neg e1, if_neg e2, if_neg e3, if_neg e4, if_neg e5, if_neg e6, if_neg e7, if_neg e8]
  exact ⟨by rw [ed]; exact p.stay k0, rfl⟩
end Go.Proofs.Ytembbemljejjbaa
set_option linter.unusedVariables false
set_option linter.unusedSimpArgs false
set_option maxRecDepth 100000
namespace Go.Proofs.Ytembbemljejjbaa
open Go Go.Vc Go.Proofs Go.Dk Go.RowKit

def CallE : Enc Cl := ⟨6, fun c => [.int .i64 c.k, .string c.s, .string c.z, .int .i64 c.i, .slice c.a c.len c.cap, .int .u64 c.K], fun _ => rfl, fun c v h => by
  simp only [List.mem_cons, List.not_mem_nil, or_false] at h
  rcases h with rfl | rfl | rfl | rfl | rfl | rfl
  · exact one_int _ _
  · exact one_string _
  · exact one_string _
  · exact one_int _ _
  · exact one_slice _ _ _
  · exact one_int _ _⟩
instance : Inhabited Cl := ⟨⟨0, ⟨#[]⟩, ⟨#[]⟩, 0, none, 0, 0, 0, ⟨#[]⟩⟩⟩
/-- one field of a struct that came in. -/
theorem fldC {H : Type} {enc : TypeId × Value → H} {P : Program} {w : World} {base : Nat} {spare : Nat → Bool} {held : Bool} {n : Nat} {cs : List Value} {fs : Array Field} {xs : List (DataW H × List MemPlace)}
    (h : ∀ (i : Nat) (f : Field), fs[i]? = some f → DataW.trod enc P w base spare held n f.type ((cs.drop f.offset).take (P.cellsOf f.type)) = xs[i]?) (hl : xs.length = fs.size) (i : Nat) {f : Field} {t : TypeId} {o : Nat}
    (hf : fs[i]? = some f) (ht : f.type = t) (ho : f.offset = o) (hc : P.cellsOf f.type = 1) : ∃ x, DataW.trod enc P w base spare held n t ((cs.drop o).take 1) = some x := by
  have hi : i < xs.length := by rw [hl]; exact (Array.getElem?_eq_some_iff.1 hf).1
  have := h i f hf
  rw [ht, ho, ← ht, hc, ht, List.getElem?_eq_getElem hi] at this
  exact ⟨_, this⟩
theorem undCall : Try.prog.underlying 54 = some (.struct #[(Try.prog.fieldsOf 54)[0]!, (Try.prog.fieldsOf 54)[1]!, (Try.prog.fieldsOf 54)[2]!, (Try.prog.fieldsOf 54)[3]!, (Try.prog.fieldsOf 54)[4]!, (Try.prog.fieldsOf 54)[5]!]) := by kernel_rfl
theorem decCall : DecW CallE Try.prog 54 fun w c => ClOk (fun _ => False) w.heap c := fun {H enc w base spare held n cs d} h => by
  obtain ⟨xs, m, _, _, hl, hx, hf⟩ := DataW.trod_struct undCall h
  obtain ⟨_, f0⟩ := fldC (t := 3) (o := 0) hf hx 0 rfl (by kernel_rfl) (by kernel_rfl) (by kernel_rfl)
  obtain ⟨_, f1⟩ := fldC (t := 9) (o := 1) hf hx 1 rfl (by kernel_rfl) (by kernel_rfl) (by kernel_rfl)
  obtain ⟨_, f2⟩ := fldC (t := 9) (o := 2) hf hx 2 rfl (by kernel_rfl) (by kernel_rfl) (by kernel_rfl)
  obtain ⟨_, f3⟩ := fldC (t := 3) (o := 3) hf hx 3 rfl (by kernel_rfl) (by kernel_rfl) (by kernel_rfl)
  obtain ⟨_, f4⟩ := fldC (t := 22) (o := 4) hf hx 4 rfl (by kernel_rfl) (by kernel_rfl) (by kernel_rfl)
  obtain ⟨_, f5⟩ := fldC (t := 34) (o := 5) hf hx 5 rfl (by kernel_rfl) (by kernel_rfl) (by kernel_rfl)
  have hl2 : cs.length = 6 := hl.trans (by kernel_rfl)
  match cs, hl2 with
  | [a, b, c, d, e, f], _ =>
    obtain ⟨s0, e0, _⟩ := decInt undI f0
    obtain ⟨s1, e1, g1⟩ := decStr undS f1
    obtain ⟨s2, e2, g2⟩ := decStr undS f2
    obtain ⟨s3, e3, g3⟩ := decInt undI f3
    obtain ⟨s4, e4, g4⟩ := decSlice undBs (by kernel_rfl) (decByte undB) f4
    obtain ⟨s5, e5, g5⟩ := decInt (by kernel_rfl : Try.prog.underlying 34 = some (.int .u64)) f5
    simp [IntE, StrE, SliceE] at e0 e1 e2 e3 e4 e5
    subst e0 e1 e2 e3 e4 e5
    obtain ⟨bs, h1, h2, h3, _⟩ := g4
    exact ⟨⟨s0, s1, s2, s3, s4.1, s4.2.1, s4.2.2, s5, ⟨bs.toArray⟩⟩, rfl, ⟨g1, g2, i64_rng g3, u64_rng g5, ⟨by simpa [bytesL] using h1, fun _ _ _ h => h⟩⟩⟩

theorem agCall : agT Try.prog 54 6 = true := by kernel_rfl
theorem szCall : szOf Try.prog 54 = some 6 := by kernel_rfl
theorem one_cl (c : Cl) : oneCells c.val.cells.toList := fun v hv => CallE.one c v hv
theorem cl_at {h h' : Heap} {A : Option Addr} {n k : Nat} {cs : List Cl} (hs : Sl CallE h A n cs) (kk : Keep h.size h h') (hk : k < n) :
    ∃ c p, cs[k]? = some c ∧ A = some p ∧ Reads Try.prog (Instr.loadAt 54 (.pointer (some (p.add (k * 6))))) h' c.val := by
  have hl := hs.1
  have hx : cs[k]? = some (cs[k]'(by omega)) := List.getElem?_eq_getElem (by omega)
  obtain ⟨p, e, hp⟩ := (hs.keep kk).get hx
  exact ⟨_, p, hx, e, reads_load_agg agCall rfl fun j v hv => by rw [Addr.add_add]; exact hp j v hv⟩
theorem svc_cl {c : Cl} {h : Heap} {old : Array Value} {K : Unit → Heap → Prop} (ho : old.size = 6) (k : K () (h.push (clBox c))) :
    SVC Try.prog (Instr.storeAt 54 (.pointer (some ⟨h.size, 0, none⟩)) (.agg (Array.mk [.int .i64 c.k, .string c.s, .string c.z, .int .i64 c.i, .slice c.a c.len c.cap, .int .u64 c.K]))) (h.push (.cells old 54 (0, 0))) K :=
  svc_store_new (v := c.val) szCall ho (one_cl c) k
theorem cb_all {c : Cl} {h : Heap} {b : Nat} (hb : h[b]? = some (clBox c)) : Reads Try.prog (Instr.loadAt 54 (.pointer (some ⟨b, 0, none⟩))) h (.agg (Array.mk [.int .i64 c.k, .string c.s, .string c.z, .int .i64 c.i, .slice c.a c.len c.cap, .int .u64 c.K])) :=
  reads_load_agg (cs := [.int .i64 c.k, .string c.s, .string c.z, .int .i64 c.i, .slice c.a c.len c.cap, .int .u64 c.K]) agCall rfl (cells_all hb)
theorem great_spec {h : Heap} {A : Option Addr} {n c : Nat} {cs : List Cl} (hs : Sl CallE h A n cs) (hn : n ≤ 9223372036854775807) :
    HC Try.prog 27 #[.slice A n c] h fun v h' => Keep h.size h h' ∧ ∃ b : Bool, v = .bool b ∧ (b = false → n ≤ 80) := by
  refine HC_of_vc (args := [.slice A n c]) (base := 31) (cuts := []) (bigs := []) hm Try.func27 ?_
  rw [vcGreat]
  refine ⟨fun _ _ n4 h5 => ∃ k : Nat, n4 = k ∧ k ≤ n ∧ Keep h.size h h5, fun _ _ n4 _ => n - n4.toNat, ⟨0, rfl, Nat.zero_le _, Keep.refl _ _⟩, ?_⟩
  rintro b2 n3 n4 h5 ⟨k, rfl, hk, k5⟩
  refine br_intro (fun hlt => ?_) (fun hge => ?_)
  · have hlt := of_decide_eq_true hlt
    have hlt : k < n := by omega
    obtain ⟨cl, p, hx, hA, rd⟩ := cl_at hs k5 hlt
    refine ⟨p, ⟨hA, by omega, by omega⟩, _, _, _, _, _, _, _, _, rd, svc_cl rfl ?_⟩
    have b16 := push_at h5 (clBox cl)
    have k16 := keep_push h5 (clBox cl)
    have kk : Keep h.size h (h5.push (clBox cl)) := k5.trans (k16.mono k5.size)
    refine ⟨_, _, _, cb_b b16, _, cb_s b16, _, cb_z b16, br_intro (fun e => ⟨kk, _, rfl, fun h => by cases h⟩) fun e => ?_⟩
    have ew : IntKind.i64.wrap ((k : Int) + 1) = ((k + 1 : Nat) : Int) := by rw [wrap_i64 (by omega) (by omega)]; rfl
    rw [ew]
    exact ⟨⟨k + 1, rfl, hlt, kk⟩, by dsimp only; omega⟩
  · refine ⟨k5, _, rfl, fun h => ?_⟩
    have := of_decide_eq_false h
    omega
end Go.Proofs.Ytembbemljejjbaa
