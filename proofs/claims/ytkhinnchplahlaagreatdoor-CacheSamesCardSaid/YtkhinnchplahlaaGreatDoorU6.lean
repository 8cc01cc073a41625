/-
  Texts of this seat, laid one behind the other: KvT KvU Cs1 LmCs C13 KvX LmCz KwL LmK. Conditions: none.
-/
import Derived.Test.YtkhinnchplahlaaGreatDoorU5
import Derived.Test.YtkhinnchplahlaaGreatDoorProg
import Derived.KernelRfl
import Derived.Test.YtkhinnchplahlaaGreatDoorRows
import Derived.ProofKit
import Derived.LaidLaws
import Derived.Deep.DeepLaidRun
import Derived.Lib.LaidTab
set_option linter.unusedVariables false
set_option linter.unusedSimpArgs false
set_option linter.unusedSectionVars false
section
set_option maxRecDepth 100000
namespace Go.Proofs.YtkhinnchplahlaaGreatDoor
open Go Go.Vc Go.Proofs Go.Dk Go.Kv

theorem Raw.svc_hits {h : Heap} {c : Nat} {d : Cd} {L : List (Nat × En)} {ml : List (Str × Nat)} (hr : Raw h c d L ml) {n : Int} {K : Unit → Heap → Prop} (k : ∀ h', Raw h' c { d with hits := n } L ml → Upd (fun q => q = c) h h' → K () h') :
    SVC Tryz.prog (Instr.storeAt 3 (.pointer (some ((⟨c, 0, none⟩ : Addr).add 8))) (.int .i64 n)) h K := by
  obtain ⟨pn, pe, hb⟩ := hr.ring.shp.ca
  refine svc_store_box (k := 8) kzI hb (by simp) rfl (one_int _ _) fun h' z' b' u' => k h' ⟨⟨⟨⟨pn, pe, by rw [b']; rfl⟩, fun p hp => ?_, hr.ring.shp.cl, hr.ring.shp.nd⟩, ?_⟩, hr.map.upd u' hr.rc, hr.get, hr.len, hr.kn, hr.rc, hr.rl⟩ u'
  · obtain ⟨pn, pe, hc⟩ := hr.ring.shp.en p hp
    exact ⟨pn, pe, u'.at hc (hr.ring.shp.ne hp)⟩
  · have hx : ∀ x, At_ c L x → nwf c h' x = nwf c h x ∧ elf c h' x = elf c h x := fun x hx => by
      have e : ∀ i, i = 3 ∨ i = 4 → cell h' (x.add i) = cell h (x.add i) := fun i hi => by
        rcases hx with rfl | ⟨p, hp, rfl⟩
        · rw [Addr.add_row, cell_at b', cell_at hb]
          rcases hi with rfl | rfl <;> rfl
        · refine cell_congr ?_
          obtain ⟨pn, pe, hc⟩ := hr.ring.shp.en p hp
          rw [Addr.add_block, u'.at hc (hr.ring.shp.ne hp), hc]
      unfold nwf elf
      rw [e 3 (.inl rfl), e 4 (.inr rfl)]; exact ⟨rfl, rfl⟩
    have hmem : ∀ x ∈ L.map (fun p => ad p.1), At_ c L x := fun x hm => by
      obtain ⟨p, hp, e⟩ := List.mem_map.1 hm
      exact .inr ⟨p, hp, e.symm⟩
    refine Ch.congr _ hr.ring.ch (fun x hm => ?_) (fun x hm => (hx x (hmem x hm)).2) (hx _ (.inl rfl)).2
    rcases List.mem_cons.1 hm with rfl | hm
    · exact (hx _ (.inl rfl)).1
    · exact (hx x (hmem x hm)).1
structure CaS (S : Nat → (Nat → Prop) → Ps Str → Heap → Prop) (s c most u : Nat) (N : Nat → Prop) (P : Ps Str) (E : List En) (hits : Int) (h : Heap) : Prop where
  ex : ∃ r L ml, Raw h c ⟨s, most, r, hits⟩ L ml ∧ L.map (·.2) = E ∧ S u (fun q => N q ∨ ownC c ⟨s, most, r, hits⟩ L q) P h ∧ ∀ q, N q → ¬ ownC c ⟨s, most, r, hits⟩ L q
  len : E.length ≤ most
  lm : most ≤ 1024
  good : ∀ e ∈ E, GoodE P e
  kn : (ekeys E).Nodup
section
variable {S : Nat → (Nat → Prop) → Ps Str → Heap → Prop} {M s c most u : Nat} {N : Nat → Prop} {P : Ps Str} {E : List En} {hits : Int} {h : Heap}
theorem CaS.lt (hS : Sto M S s) (hc : CaS S s c most u N P E hits h) : ∀ q, N q → q < h.size := fun q hq => by
  obtain ⟨r, L, ml, hr, hE, hs, hN⟩ := hc.ex
  exact hS.lt hs q (.inl hq)
theorem Raw.kn' {d : Cd} {L : List (Nat × En)} {ml : List (Str × Nat)} (hr : Raw h c d L ml) : (ekeys (L.map (·.2))).Nodup := by
  have := hr.kn
  unfold ekeys
  rw [List.map_map]; exact this
theorem CaS.own (hS : Sto M S s) (hc : CaS S s c most u N P E hits h) {T N' : Nat → Prop} {h' : Heap} (u1 : UpdM T h h') (hT : ∀ q, q < h.size → T q → N q) (hN' : ∀ q, N' q → (N q ∨ h.size ≤ q) ∧ q < h'.size) : CaS S s c most u N' P E hits h' := by
  obtain ⟨r, L, ml, hr, hE, hs, hN⟩ := hc.ex
  have hlt := hr.lt
  have uT : UpdM N h h' := u1.of_sub hT
  have ho : ∀ q, ownC c ⟨s, most, r, hits⟩ L q → ¬ N q := fun q hq hn => hN q hn hq
  refine ⟨⟨r, L, ml, hr.updM uT (ho _ (.inl rfl)) (ho _ (.inr (.inl rfl))) fun p hp => ho _ (.inr (.inr (List.mem_map_of_mem (f := fun p : Nat × En => p.1) hp))), hE, hS.own hs u1 (fun q hl hq => .inl (hT q hl hq)) fun q hq => ?_, fun q hq ho' => ?_⟩, hc.len, hc.lm, hc.good, hc.kn⟩
  · rcases hq with hq | hq
    · exact ⟨(hN' q hq).1.imp .inl id, (hN' q hq).2⟩
    · exact ⟨.inl (.inr hq), Nat.lt_of_lt_of_le (hlt q hq) u1.size⟩
  · rcases (hN' q hq).1 with h1 | h1
    · exact hN q h1 ho'
    · have := hlt q ho'; omega
theorem sto_after (hS : Sto M S s) {O O' : Nat → Prop} {h' : Heap} (hs : S u (fun q => N q ∨ O q) P h) (u1 : Upd O h h') (hO : ∀ q, O' q → (O q ∨ h.size ≤ q) ∧ q < h'.size) : S u (fun q => N q ∨ O' q) P h' :=
  hS.own hs u1.m (fun q _ hq => .inr hq) fun q hq => by
    rcases hq with hq | hq
    · exact ⟨.inl (.inl hq), Nat.lt_of_lt_of_le (hS.lt hs q (.inl hq)) u1.size⟩
    · exact ⟨(hO q hq).1.imp .inr id, (hO q hq).2⟩
theorem CaS.keep (hS : Sto M S s) {r : Nat} {L : List (Nat × En)} {ml : List (Str × Nat)} (hr : Raw h c ⟨s, most, r, hits⟩ L ml) (hl : L.length ≤ most) (lm : most ≤ 1024) (hs : S u (fun q => N q ∨ ownC c ⟨s, most, r, hits⟩ L q) P h) (hN : ∀ q, N q → ¬ ownC c ⟨s, most, r, hits⟩ L q) (k v : Str) (is : Bool) :
    HC Tryz.prog 59 #[.pointer (some ⟨c, 0, none⟩), .string k, .string v, .bool is] h fun w h' => w = .tuple #[] ∧ UpdM (fun q => ¬ N q) h h' ∧ ∃ L' ml', Raw h' c ⟨s, most, r, hits⟩ L' ml' ∧ L'.map (·.2) = ekeep most (L.map (·.2)) k v is ∧ L'.length ≤ most ∧
      S u (fun q => N q ∨ ownC c ⟨s, most, r, hits⟩ L' q) P h' ∧ (∀ q, N q → ¬ ownC c ⟨s, most, r, hits⟩ L' q) := by
  refine (keep_spec hr hl lm).mono ?_
  rintro w h' ⟨rfl, L', ml', hr', hE, hl', ho, u1⟩
  have hlt := hr'.lt
  refine ⟨rfl, u1.m.mono fun q hq hn => hN q hn hq, L', ml', hr', hE, hl', sto_after hS hs u1 fun q hq => ⟨ho q hq, hlt q hq⟩, fun q hn hq => ?_⟩
  rcases ho q hq with h1 | h1
  · exact hN q hn h1
  · have := hS.lt hs q (.inl hn); omega
set_option maxHeartbeats 1000000 in
theorem CaS.get (hS : Sto M S s) (hc : CaS S s c most u N P E hits h) (h0 : 0 ≤ hits) (h1 : hits < 1000000000) (k : Str) : HC Tryz.prog 27 #[.pointer (some ⟨c, 0, none⟩), .string k] h fun v h' => UpdM (fun q => ¬ N q) h h' ∧
    v = .tuple #[.string ((mGet P k).getD ⟨#[]⟩), .bool (mGet P k).isSome, .int .i64 0] ∧ CaS S s c most u N P (ekeep most E k ((mGet P k).getD ⟨#[]⟩) (mGet P k).isSome) (hits + if (efind k E).isSome then 1 else 0) h' := by
  obtain ⟨r, L, ml, hr, rfl, hs, hN⟩ := hc.ex
  have hgood := hc.good
  have hgg := good_get (most := most) hgood k
  have hll := ekeep_len (k := k) (v := (mGet P k).getD ⟨#[]⟩) (is := (mGet P k).isSome) hc.len
  have hl : L.length ≤ most := by have := hc.len; rw [List.length_map] at this; exact this
  refine HC_of_vc (args := [.pointer (some ⟨c, 0, none⟩), .string k]) (base := 61) (cuts := []) (bigs := []) kM Tryz.func27 ?_
  rw [vcCGet]
  refine ⟨_, reads_eql_nil uCp, br_intro (fun e => by cases e) fun _ => ⟨_, rfl, _, hr.rm, _, hr.look k, _, reads_neq_nil uEp, ?_⟩⟩
  cases hg : mGet ml k with
  | some b =>
    obtain ⟨X, Y, e, rfl, hk, hf, hcut⟩ := hr.hit hg
    have hge := hgood e (by simp)
    have hev : e.is = (mGet P k).isSome ∧ e.val = (mGet P k).getD ⟨#[]⟩ := hk ▸ hge
    refine br_intro (fun _ => ?_) fun e => by cases e
    refine ⟨_, rfl, _, hr.rhits, _, rfl, ?_⟩
    rw [wrap_i64 (by dsimp only; omega) (by dsimp only; omega)]
    refine hr.svc_hits fun h9 hr9 u9 => ?_
    refine (out_spec hr9.ring).mono ?_
    rintro w h11 ⟨rfl, r11, s11, u11⟩
    obtain ⟨pn, pe, b11⟩ := s11.en (b, e) (by simp)
    have m11 : MapAt Me h11 r ml := hr9.map.upd u11 fun hq => hq.elim hr.rc hr.rl
    refine ⟨rfl, (reput_spec (v := e.val) (is := e.is) hr9 r11 ⟨pn, pe, b11⟩ m11 u11 (K := fun h13 => _) fun h13 r13 u13 => ?_)⟩
    obtain ⟨pn', pe', b13⟩ := r13.ring.shp.en (b, ⟨e.key, e.val, e.is⟩) (by simp)
    refine ⟨_, rfl, _, reads_load kS (cell_cells b13 rfl), _, rfl, _, reads_load kB (cell_cells b13 rfl), ?_⟩
    have uu : Upd (ownC c ⟨s, most, r, hits⟩ (X ++ (b, e) :: Y)) h h13 := (u9.mono fun q hq => .inl hq).trans (u13.mono fun q hq => hq.imp id .inr)
    have hsub : ∀ q, ownC c ⟨s, most, r, hits + 1⟩ (X ++ Y ++ [(b, (⟨e.key, e.val, e.is⟩ : En))]) q → ownC c ⟨s, most, r, hits⟩ (X ++ (b, e) :: Y) q := fun q hq => by
      rcases hq with hq | hq | hq
      · exact .inl hq
      · exact .inr (.inl hq)
      · refine .inr (.inr ?_)
        simp only [List.map_append, List.map_cons, List.map_nil, List.mem_append, List.mem_cons, List.not_mem_nil, or_false] at hq ⊢
        rcases hq with (hq | hq) | hq
        · exact .inl hq
        · exact .inr (.inr hq)
        · exact .inr (.inl hq)
    have hlt := r13.lt
    have hEq : (X ++ Y ++ [(b, (⟨e.key, e.val, e.is⟩ : En))]).map (·.2) = ekeep most ((X ++ (b, e) :: Y).map (·.2)) k ((mGet P k).getD ⟨#[]⟩) (mGet P k).isSome := by
      unfold ekeep
      rw [hf, if_pos (by rfl), hcut, List.map_append, ← hev.1, ← hev.2, hk]; rfl
    have hkn := r13.kn'
    rw [hEq] at hkn
    refine ⟨uu.m.mono fun q hq hn => hN q hn hq, by rw [hev.1, hev.2], ?_⟩
    rw [hf]
    exact ⟨⟨r, _, ml, r13, hEq, sto_after hS hs uu fun q hq => ⟨.inl (hsub q hq), hlt q hq⟩, fun q hn hq => hN q hn (hsub q hq)⟩, hll, hc.lm, hgg, hkn⟩
  | none =>
    have hf := hr.miss hg
    refine br_intro (fun e => by cases e) fun _ => ?_
    refine ⟨_, rfl, _, hr.rs, (hS.get hs k).mono ?_⟩
    rintro v h21 ⟨s21, u21, rfl⟩
    have ho : ∀ q, ownC c ⟨s, most, r, hits⟩ L q → ¬ ¬ (N q ∨ ownC c ⟨s, most, r, hits⟩ L q) := fun q hq hn => hn (.inr hq)
    have r21 : Raw h21 c ⟨s, most, r, hits⟩ L ml := hr.updM u21 (ho _ (.inl rfl)) (ho _ (.inr (.inl rfl))) fun p hp => ho _ (.inr (.inr (List.mem_map_of_mem (f := fun p : Nat × En => p.1) hp)))
    refine ⟨_, _, _, rfl, br_intro (fun _ => ?_) fun e => by simp at e⟩
    refine (CaS.keep hS r21 hl hc.lm s21 hN k _ _).mono ?_
    rintro w h26 ⟨rfl, u26, L', ml', r26, hEq, hl', s26, hN'⟩
    have hkn := r26.kn'
    rw [hEq] at hkn
    refine ⟨rfl, (u21.mono fun q hq hn => hq (.inl hn)).trans u26, rfl, ?_⟩
    rw [hf]
    have e0 : hits + (if (none : Option En).isSome = true then 1 else 0) = hits := by simp
    rw [e0]
    exact ⟨⟨r, L', ml', r26, hEq, s26, hN'⟩, hll, hc.lm, hgg, hkn⟩
end
end Go.Proofs.YtkhinnchplahlaaGreatDoor
end

section
set_option maxRecDepth 100000
namespace Go.Proofs.YtkhinnchplahlaaGreatDoor
open Go Go.Vc Go.Proofs Go.Dk Go.Kv

structure CaR (S : Nat → (Nat → Prop) → Ps Str → Heap → Prop) (s c most u : Nat) (N : Nat → Prop) (P : Ps Str) (r : Nat) (L : List (Nat × En)) (ml : List (Str × Nat)) (hits : Int) (h : Heap) : Prop where
  raw : Raw h c ⟨s, most, r, hits⟩ L ml
  len : L.length ≤ most
  sto : S u (fun q => N q ∨ ownC c ⟨s, most, r, hits⟩ L q) P h
  dis : ∀ q, N q → ¬ ownC c ⟨s, most, r, hits⟩ L q
section
variable {S : Nat → (Nat → Prop) → Ps Str → Heap → Prop} {M s c most u : Nat} {N : Nat → Prop} {P : Ps Str} {E : List En} {hits : Int} {h : Heap}
theorem CaR.keep {r : Nat} {L : List (Nat × En)} {ml : List (Str × Nat)} (hS : Sto M S s) (hc : CaR S s c most u N P r L ml hits h) {h' : Heap} (k : Keep h.size h h') : CaR S s c most u N P r L ml hits h' := by
  have u1 : UpdM (fun _ => False) h h' := ((k.upd fun _ => False)).m
  refine ⟨hc.raw.updM u1 id id fun _ _ => id, hc.len, hS.own hc.sto u1 (fun _ _ h => h.elim) fun q hq => ⟨.inl hq, Nat.lt_of_lt_of_le (hS.lt hc.sto q hq) u1.size⟩, hc.dis⟩
theorem CaS.rr (hc : CaS S s c most u N P E hits h) : ∃ r L ml, CaR S s c most u N P r L ml hits h ∧ L.map (·.2) = E := by
  obtain ⟨r, L, ml, hr, rfl, hs, hN⟩ := hc.ex
  exact ⟨r, L, ml, ⟨hr, by have := hc.len; rw [List.length_map] at this; exact this, hs, hN⟩, rfl⟩
theorem CaR.cas {r : Nat} {L : List (Nat × En)} {ml : List (Str × Nat)} (hc : CaR S s c most u N P r L ml hits h) (lm : most ≤ 1024) (hE : L.map (·.2) = E) (hg : ∀ e ∈ E, GoodE P e) : CaS S s c most u N P E hits h := by
  refine ⟨⟨r, L, ml, hc.raw, hE, hc.sto, hc.dis⟩, ?_, lm, hg, ?_⟩
  · rw [← hE, List.length_map]; exact hc.len
  · have := hc.raw.kn'; rw [hE] at this; exact this
set_option maxHeartbeats 1000000 in
theorem CaS.apply (hS : Sto M S s) (hc : CaS S s c most u N P E hits h) {A : Option Addr} {n cc : Nat} {l : List Wr} (hs : Sl WrE h A n l) (hcc : n ≤ cc) (hn : n ≤ 9223372036854775807) (hA : n ≠ 0 → ∀ q, blk A q → N q) (hM : long l = false → u + n ≤ M) :
    HC Tryz.prog 28 #[.pointer (some ⟨c, 0, none⟩), .slice A n cc] h fun v h' => UpdM (fun q => ¬ N q) h h' ∧ (long l = true → CaS S s c most u N P E hits h' ∧ v = .int .i64 3) ∧
      (long l = false → CaS S s c most (u + n) N (doneAll P l) (l.foldl (eput most) E) hits h' ∧ v = .int .i64 0) := by
  obtain ⟨r, L, ml, hR, rfl⟩ := hc.rr
  have hl := hs.1
  have sP := hS.srt hR.sto
  have hgl := good_puts l sP hc.len hc.good
  refine HC_of_vc (args := [.pointer (some ⟨c, 0, none⟩), .slice A n cc]) (base := 38) (cuts := []) (bigs := []) kM Tryz.func28 ?_
  rw [vcCApply]
  refine ⟨_, reads_eql_nil uCp, br_intro (fun e => by cases e) fun _ => ⟨_, rfl, _, hR.raw.rs, (hS.apply hR.sto hs hcc hn (fun h0 q hq => .inl (hA h0 q hq)) hM).mono ?_⟩⟩
  rintro v h4 ⟨u4, a1, a2⟩
  have u4N : UpdM (fun q => ¬ N q) h h4 := u4.mono fun q hq hn => hq (.inl hn)
  have ho : ∀ q, ownC c ⟨s, most, r, hits⟩ L q → ¬ ¬ (N q ∨ ownC c ⟨s, most, r, hits⟩ L q) := fun q hq hn => hn (.inr hq)
  have r4 : Raw h4 c ⟨s, most, r, hits⟩ L ml := hR.raw.updM u4 (ho _ (.inl rfl)) (ho _ (.inr (.inl rfl))) fun p hp => ho _ (.inr (.inr (List.mem_map_of_mem (f := fun p : Nat × En => p.1) hp)))
  cases hlg : long l with
  | true =>
    obtain ⟨s4, rfl⟩ := a1 hlg
    refine ⟨_, rfl, br_intro (fun e => by simp at e) fun _ => ⟨u4N, fun _ => ⟨CaR.cas ⟨r4, hR.len, s4, hR.dis⟩ hc.lm rfl hc.good, rfl⟩, fun e => by cases e⟩⟩
  | false =>
    obtain ⟨s4, rfl⟩ := a2 hlg
    refine ⟨_, rfl, br_intro (fun _ => ?_) fun e => by simp at e⟩
    refine ⟨fun n8 H => ∃ j : Nat, n8 = j ∧ j ≤ n ∧ UpdM (fun q => ¬ N q) h H ∧ ∃ L' ml', CaR S s c most (u + n) N (doneAll P l) r L' ml' hits H ∧ L'.map (·.2) = (l.take j).foldl (eput most) (L.map (·.2)),
      fun n8 _ => n - n8.toNat, ⟨0, rfl, Nat.zero_le _, u4N, L, ml, ⟨r4, hR.len, s4, hR.dis⟩, rfl⟩, ?_⟩
    rintro n8 h9 ⟨j, rfl, hj, uH, L', ml', R9, hE9⟩
    refine br_intro (fun e => ?_) fun e => ?_
    · have e := of_decide_eq_true e
      have hq : l[j]? = some (l[j]'(by omega)) := List.getElem?_eq_getElem (by omega)
      have htk : l.take (j + 1) = l.take j ++ [l[j]'(by omega)] := List.take_succ_eq_append_getElem (by omega)
      generalize l[j]'(by omega) = w at hq htk
      obtain ⟨p10, ea, rd⟩ := wr_at (hs.updM uH fun h0 q hq hn => hn (hA h0 q hq)) hq
      refine ⟨p10, ⟨ea, by omega, e⟩, _, _, _, rd, svc_wr rfl ?_⟩
      have k15 := keep_push h9 (wrBox w)
      have b15 := push_at h9 (wrBox w)
      generalize h9.push (wrBox w) = h15 at k15 b15
      refine ⟨_, wr_g b15, ?_⟩
      have fin : ∀ (x : Str) (g : Bool) (h18 : Heap), (if w.gone then (⟨#[]⟩ : Str) else w.val) = x → w.gone = g → Keep h9.size h9 h18 →
          HC Tryz.prog 59 #[.pointer (some ⟨c, 0, none⟩), .string w.key, .string x, .bool !g] h18 fun v h23 => v = .tuple #[] ∧ (∃ j' : Nat, IntKind.i64.wrap ((j : Int) + 1) = j' ∧ j' ≤ n ∧ UpdM (fun q => ¬ N q) h h23 ∧ ∃ L' ml', CaR S s c most (u + n) N (doneAll P l) r L' ml' hits h23 ∧ L'.map (·.2) = (l.take j').foldl (eput most) (L.map (·.2))) ∧ n - (IntKind.i64.wrap ((j : Int) + 1)).toNat < n - (j : Int).toNat := by
        intro x g h18 ex eg k18
        subst ex
        subst eg
        have R18 := R9.keep hS k18
        refine (CaS.keep hS R18.raw R18.len hc.lm R18.sto R18.dis w.key _ _).mono ?_
        rintro v h23 ⟨rfl, u23, L2, ml2, r23, hEq, hl2, s23, d23⟩
        rw [wrap_i64 (by omega) (by omega)]
        exact ⟨rfl, ⟨j + 1, rfl, by omega, (uH.trans k18.m).trans u23, L2, ml2, ⟨r23, hl2, s23, d23⟩, by rw [hEq, hE9, htk, List.foldl_append]; rfl⟩, by omega⟩
      refine br_intro (fun eg => ?_) fun eg => ?_
      · refine svc_store_box (k := 1) zS b15 (by simp) rfl (one_string _) fun h18 z18 b18 u18 => ?_
        have b18 : h18[h9.size]? = some (wrBox ⟨w.key, ⟨#[]⟩, w.gone⟩) := by rw [b18]; rfl
        refine ⟨_, wr_k b18, _, wr_v b18, _, wr_g b18, fin _ _ h18 (by rw [eg]; rfl) rfl ?_⟩
        exact k15.trans (u18.keep k15.size fun q hq => Nat.le_of_eq hq.symm)
      · exact ⟨_, wr_k b15, _, wr_v b15, _, wr_g b15, fin _ _ h15 (by rw [eg]; rfl) rfl k15⟩
    · have e := of_decide_eq_false e
      have hjn : j = n := by omega
      subst hjn
      rw [← hl, List.take_length] at hE9
      exact ⟨uH, (fun e => by cases e), fun _ => ⟨R9.cas hc.lm hE9 hgl, rfl⟩⟩
theorem CaS.hits_spec (hc : CaS S s c most u N P E hits h) : HC Tryz.prog 53 #[.pointer (some ⟨c, 0, none⟩)] h fun v h' => h' = h ∧ v = .int .i64 hits := by
  obtain ⟨r, L, ml, hR, rfl⟩ := hc.rr
  refine HC_of_vc (args := [.pointer (some ⟨c, 0, none⟩)]) (base := 9) (cuts := []) (bigs := []) kM Tryz.func53 ?_
  rw [vcCHits]
  exact ⟨_, reads_eql_nil uCp, br_intro (fun e => by cases e) fun _ => ⟨_, rfl, _, hR.raw.rhits, rfl, rfl⟩⟩
theorem CaS.size_spec (hc : CaS S s c most u N P E hits h) : HC Tryz.prog 54 #[.pointer (some ⟨c, 0, none⟩)] h fun v h' => h' = h ∧ v = .int .i64 E.length := by
  obtain ⟨r, L, ml, hR, rfl⟩ := hc.rr
  refine HC_of_vc (args := [.pointer (some ⟨c, 0, none⟩)]) (base := 10) (cuts := []) (bigs := []) kM Tryz.func54 ?_
  rw [vcCSize]
  exact ⟨_, reads_eql_nil uCp, br_intro (fun e => by cases e) fun _ => ⟨_, rfl, _, hR.raw.rm, _, reads_len_map hR.raw.map, rfl, by rw [List.length_map, hR.raw.len]⟩⟩
set_option maxHeartbeats 1000000 in
theorem CaS.drop (hS : Sto M S s) (hc : CaS S s c most u N P E hits h) {n : Int} (hn : n ≤ 9223372036854775807) : HC Tryz.prog 29 #[.pointer (some ⟨c, 0, none⟩), .int .i64 n] h fun v h' => v = .tuple #[] ∧ UpdM (fun q => ¬ N q) h h' ∧ CaS S s c most u N P (E.drop n.toNat) hits h' := by
  obtain ⟨r, L, ml, hR, rfl⟩ := hc.rr
  refine HC_of_vc (args := [.pointer (some ⟨c, 0, none⟩), .int .i64 n]) (base := 36) (cuts := []) (bigs := []) kM Tryz.func29 ?_
  rw [vcCDrop]
  refine ⟨fun n2 H => ∃ j : Nat, n2 = n - j ∧ (j = 0 ∨ j ≤ n) ∧ UpdM (fun q => ¬ N q) h H ∧ ∃ ml', CaR S s c most u N P r (L.drop j) ml' hits H,
    fun n2 _ => n2.toNat, ⟨0, by omega, .inl rfl, UpdM.refl _ _, ml, hR⟩, ?_⟩
  rintro n2 h3 ⟨j, rfl, hj, uH, ml', R3⟩
  refine ⟨_, reads_neq_nil uCp, _, fun _ => rfl, _, fun _ => R3.raw.rm, _, fun _ => reads_len_map R3.raw.map, ?_⟩
  have hlen := R3.raw.len
  refine br_intro (fun e => ?_) fun e => ?_
  · simp only [Bool.and_eq_true, decide_eq_true_eq] at e
    obtain ⟨⟨_, e1⟩, e2⟩ := e
    cases hL : L.drop j with
    | nil => rw [hL, List.length_nil] at hlen; omega
    | cons p L1 =>
      obtain ⟨b, e0⟩ := p
      rw [hL] at R3
      have hd1 : L.drop (j + 1) = L1 := by rw [← List.tail_drop, hL]; rfl
      refine ⟨_, rfl, _, R3.raw.rnew, ?_⟩
      refine oldest_spec R3.raw fun h' hr' u' => ?_
      rw [wrap_i64 (by omega) (by omega)]
      have hsub : ∀ q, ownC c ⟨s, most, r, hits⟩ L1 q → ownC c ⟨s, most, r, hits⟩ ((b, e0) :: L1) q := fun q hq => hq.imp id fun hq => hq.imp id fun hq => List.mem_cons_of_mem _ hq
      have hlt := hr'.lt
      refine ⟨⟨j + 1, by omega, .inr (by omega), uH.trans (u'.m.mono fun q hq hn => R3.dis q hn hq), mDel ml' e0.key, ?_⟩, by dsimp only; omega⟩
      rw [hd1]
      refine ⟨hr', by have := R3.len; rw [List.length_cons] at this; omega, sto_after hS R3.sto u' fun q hq => ⟨.inl (hsub q hq), hlt q hq⟩, fun q hn hq => R3.dis q hn (hsub q hq)⟩
  · have hE : L.drop j = L.drop n.toNat := by
      simp only [Bool.and_eq_false_iff, decide_eq_false_iff_not] at e
      rcases e with (e | e) | e
      · cases e
      · have : j = n.toNat := by omega
        rw [this]
      · have h0 : L.drop j = [] := List.eq_nil_of_length_eq_zero (by omega)
        rcases Nat.lt_or_ge n.toNat j with h1 | h1
        · have : j = n.toNat := by omega
          rw [this]
        · rw [h0, List.drop_eq_nil_of_le]
          have := congrArg List.length h0
          rw [List.length_drop, List.length_nil] at this; omega
    rw [hE] at R3
    refine ⟨rfl, uH, R3.cas hc.lm List.map_drop fun e he => hc.good e (List.mem_of_mem_drop he)⟩
theorem CaS.scan (hS : Sto M S s) (hc : CaS S s c most u N P E hits h) (hP : P.length ≤ 1000000) (k : Str) (n : Int) : HC Tryz.prog 30 #[.pointer (some ⟨c, 0, none⟩), .string k, .int .i64 n] h fun v h' => UpdM (fun q => ¬ N q) h h' ∧ CaS S s c most u N P E hits h' ∧
    ∃ a c, v = .tuple #[.slice a (Kv.scan P k n).length c, .int .i64 0] ∧ Sl StrPairE h' a (Kv.scan P k n).length (Kv.scan P k n) ∧ (∀ q, blk a q → h.size ≤ q ∧ q < h'.size) := by
  obtain ⟨r, L, ml, hR, rfl⟩ := hc.rr
  refine HC_of_vc (args := [.pointer (some ⟨c, 0, none⟩), .string k, .int .i64 n]) (base := 19) (cuts := []) (bigs := []) kM Tryz.func30 ?_
  rw [vcCScan]
  refine ⟨_, reads_eql_nil uCp, br_intro (fun e => by cases e) fun _ => ⟨_, rfl, _, hR.raw.rs, (hS.scan hR.sto hP k n).mono ?_⟩⟩
  rintro v h4 ⟨s4, u4, a, cp, rfl, sl, hb⟩
  have ho : ∀ q, ownC c ⟨s, most, r, hits⟩ L q → ¬ ¬ (N q ∨ ownC c ⟨s, most, r, hits⟩ L q) := fun q hq hn => hn (.inr hq)
  have r4 : Raw h4 c ⟨s, most, r, hits⟩ L ml := hR.raw.updM u4 (ho _ (.inl rfl)) (ho _ (.inr (.inl rfl))) fun p hp => ho _ (.inr (.inr (List.mem_map_of_mem (f := fun p : Nat × En => p.1) hp)))
  exact ⟨_, _, _, _, rfl, u4.mono fun q hq hn => hq (.inl hn), CaR.cas ⟨r4, hR.len, s4, hR.dis⟩ hc.lm rfl hc.good, a, cp, rfl, sl, hb⟩
def mostOf (n : Int) : Nat := (min (max n 0) 1024).toNat
set_option maxHeartbeats 1000000 in
theorem CaS.new (hS : Sto M S s) (hs : S u N P h) (hsl : s < h.size) (n : Int) : HC Tryz.prog 26 #[.pointer (some ⟨s, 0, none⟩), .int .i64 n] h fun v h' => Keep h.size h h' ∧ v = .pointer (some ⟨h.size + 1, 0, none⟩) ∧ CaS S s (h.size + 1) (mostOf n) u N P [] 0 h' := by
  refine HC_of_vc (args := [.pointer (some ⟨s, 0, none⟩), .int .i64 n]) (base := 28) (cuts := []) (bigs := []) kM Tryz.func26 ?_
  rw [vcCNew]
  refine ⟨_, reads_max, _, reads_min, ?_⟩
  have hv : (if (1024 : Int) < (if (0 : Int) > n then (0 : Int) else n) then (1024 : Int) else (if (0 : Int) > n then (0 : Int) else n)) = (mostOf n : Nat) := by
    unfold mostOf; split <;> split at * <;> omega
  rw [hv]
  have k1 := keep_push h (Obj.map #[] 0)
  have ma := MapAt.new Me h
  have z1 : (h.push (Obj.map #[] 0)).size = h.size + 1 := by simp
  refine ⟨_, rfl, _, rfl, _, rfl, ?_⟩
  have k2 := keep_push (h.push (Obj.map #[] 0)) (caBox ⟨s, mostOf n, h.size, 0⟩ none none)
  have b2 := push_at (h.push (Obj.map #[] 0)) (caBox ⟨s, mostOf n, h.size, 0⟩ none none)
  have zz : ((h.push (Obj.map #[] 0)).push (caBox ⟨s, mostOf n, h.size, 0⟩ none none)).size = h.size + 2 := by simp
  rw [z1] at b2 k2 ⊢
  have k02 := k1.trans (k2.mono (Nat.le_succ _))
  have m2 := ma.keep (k2.mono (by rw [z1]; exact Nat.le_refl _))
  clear k1 k2 ma z1
  generalize ((h.push (Obj.map #[] 0)).push (caBox ⟨s, mostOf n, h.size, 0⟩ none none)) = H at b2 k02 m2 zz
  have sh : Shp H (h.size + 1) ⟨s, mostOf n, h.size, 0⟩ [] := ⟨⟨_, _, b2⟩, fun p hp => (by cases hp), (fun hm => by cases hm), List.nodup_nil⟩
  have eC : (⟨h.size + 1, 0, none⟩ : Addr).add 3 = endA (h.size + 1) := Addr.add_row _ 0 3
  rw [eC]
  refine sh.store (.inl rfl) (.inl rfl) fun h6 s6 n6 e6 u6 => ⟨_, rfl, ?_⟩
  rw [eC]
  refine s6.store (.inl rfl) (.inr rfl) fun h9 s9 n9 e9 u9 => ?_
  have u69 := u6.trans u9
  have kk : Keep h.size h h9 := k02.trans (u69.keep (by omega) fun q hq => by have : q = h.size + 1 := hq; omega)
  have z9 := u69.size
  have m9 : MapAt Me h9 h.size [] := m2.upd u69 fun hq => by have : h.size = h.size + 1 := hq; omega
  have raw9 : Raw h9 (h.size + 1) ⟨s, mostOf n, h.size, 0⟩ [] [] := ⟨⟨s9, ?_, ?_⟩, m9, fun k b => ⟨fun h => (by cases h), fun h => (by obtain ⟨_, h, _⟩ := h; cases h)⟩, rfl, List.nodup_nil, Nat.ne_of_lt (Nat.lt_succ_self _), by simp⟩
  · have own9 : ∀ q, ownC (h.size + 1) ⟨s, mostOf n, h.size, 0⟩ [] q → h.size ≤ q ∧ q < h.size + 2 := fun q hq => by
      rcases hq with hq | hq | hq
      · omega
      · have : q = h.size := hq
        omega
      · cases hq
    refine ⟨kk, rfl, ⟨_, _, _, raw9, rfl, hS.own hs (kk.upd fun _ => False).m (fun _ _ h => h.elim) fun q hq => ?_, fun q hq ho => ?_⟩, Nat.zero_le _, ?_, fun e he => (by cases he), List.nodup_nil⟩
    · rcases hq with hq | hq
      · exact ⟨.inl hq, Nat.lt_of_lt_of_le (hS.lt hs q hq) kk.size⟩
      · have := own9 q hq; exact ⟨.inr this.1, by omega⟩
    · have := own9 q ho; have := hS.lt hs q hq; omega
    · unfold mostOf; omega
  · rw [n9, if_neg (fun h => by simp at h), n6, if_pos ⟨rfl, rfl⟩]
  · rw [e9, if_pos ⟨rfl, rfl⟩]
end
end Go.Proofs.YtkhinnchplahlaaGreatDoor
end

section
set_option maxRecDepth 100000
namespace Go.Proofs.YtkhinnchplahlaaGreatDoor
open Go Go.Vc Go.Proofs

theorem vcTGet (t : Nat) (k : ByteArray) (h : Heap) (R : Value → Heap → Prop) :
    vcF Tryz.prog Tryz.f327 18 [] [] [.agg #[.pointer (some ⟨t, 0, none⟩)], .string k] h R =
(∃ (a0 : Option Addr),
 Reads Tryz.prog (Instr.loadAt 27 (.pointer (some (Addr.mk (Array.size h) 0 none))))
 (Array.push h (Obj.cells (Array.mk [.pointer (some (Addr.mk t 0 none))]) 114)) (.pointer a0) ∧
 HC Tryz.prog 18 (Array.mk [.pointer a0, .string k]) (Array.push h (Obj.cells (Array.mk [.pointer (some (Addr.mk t 0 none))]) 114))
 fun (v1 : Value) (h2 : Heap) =>
 ∃ (s3 : ByteArray), ∃ (b4 : Bool), v1 = .tuple (Array.mk [.string s3, .bool b4]) ∧ R (.tuple (Array.mk [.string s3, .bool b4, .int .i64 (0 : Int)])) h2) := by kernel_rfl

theorem vcTApply (t : Nat) (A : Option Addr) (n c : Nat) (h : Heap) (R : Value → Heap → Prop) :
    vcF Tryz.prog Tryz.f326 9 [] [] [.agg #[.pointer (some ⟨t, 0, none⟩)], .slice A n c] h R =
(∃ (a0 : Option Addr),
 Reads Tryz.prog (Instr.loadAt 27 (.pointer (some (Addr.mk (Array.size h) 0 none))))
 (Array.push h (Obj.cells (Array.mk [.pointer (some (Addr.mk t 0 none))]) 114)) (.pointer a0) ∧
 HC Tryz.prog 13 (Array.mk [.pointer a0, .slice A n c]) (Array.push h (Obj.cells (Array.mk [.pointer (some (Addr.mk t 0 none))]) 114))
 fun (v1 : Value) (h2 : Heap) => ∃ (n3 : Int), v1 = .int .i64 n3 ∧ R (.int .i64 n3) h2) := by kernel_rfl

theorem vcTScan (t : Nat) (k : ByteArray) (n : Int) (h : Heap) (R : Value → Heap → Prop) :
    vcF Tryz.prog Tryz.f328 13 [] [] [.agg #[.pointer (some ⟨t, 0, none⟩)], .string k, .int .i64 n] h R =
(∃ (a0 : Option Addr),
 Reads Tryz.prog (Instr.loadAt 27 (.pointer (some (Addr.mk (Array.size h) 0 none))))
 (Array.push h (Obj.cells (Array.mk [.pointer (some (Addr.mk t 0 none))]) 114)) (.pointer a0) ∧
 HC Tryz.prog 21 (Array.mk [.pointer a0, .string k, .int .i64 n]) (Array.push h (Obj.cells (Array.mk [.pointer (some (Addr.mk t 0 none))]) 114))
 fun (v1 : Value) (h2 : Heap) =>
 ∃ (a3 : Option Addr), ∃ (k4 : Nat), ∃ (k5 : Nat), v1 = .slice a3 k4 k5 ∧ R (.tuple (Array.mk [.slice a3 k4 k5, .int .i64 (0 : Int)])) h2) := by kernel_rfl

theorem vcStOpen3 (d : Nat) (s : ByteArray) (h : Heap) (R : Value → Heap → Prop) :
    vcF Tryz.prog Tryz.f25 57 [] [] [.int .i64 3, .pointer (some ⟨d, 0, none⟩), .string s] h R =
(HC Tryz.prog 11 (Array.mk [.pointer (some (Addr.mk d 0 none)), .string s]) h fun (v0 : Value) (h1 : Heap) =>
 ∃ (a2 : Option Addr),
 ∃ (n3 : Int),
 v0 = .tuple (Array.mk [.pointer a2, .int .i64 n3]) ∧
 br (n3 != (0 : Int)) (R (.tuple (Array.mk [.pointer none, .int .i64 n3])) h1)
 (R (.tuple (Array.mk [.pointer (some (Addr.mk (Array.size h1) 0 none)), .int .i64 (0 : Int)]))
 (Array.push h1
 (Obj.cells (Array.mk [.iface 114 (.agg (Array.mk [.pointer a2])), .pointer (some (Addr.mk d 0 none)), .int .i64 (3 : Int)]) 107)))) := by kernel_rfl

theorem vc13Sames (a b : Int) (A : Option Addr) (n c : Nat) (h : Heap) (R : Value → Heap → Prop) :
    vcF Tryz.prog Tryz.f7 146 [] [] [.int .i64 a, .int .i64 b, .slice A n c] h R =
(HC Tryz.prog 23 (Array.mk []) h fun (v0 : Value) (h1 : Heap) =>
 ∃ (b2 : Bool),
 v0 = .bool b2 ∧
 br (!b2) (R (.bool false) h1)
 (HC Tryz.prog 24 (Array.mk [.slice A n c]) h1 fun (v3 : Value) (h4 : Heap) =>
 ∃ (b5 : Bool),
 v3 = .bool b5 ∧
 br b5 (R (.bool true) h4)
 (HC Tryz.prog 25 (Array.mk [.int .i64 (1 : Int), .pointer none, .string (ByteArray.mk (Array.mk []))]) h4 fun (v6 : Value) (h7 : Heap) =>
 ∃ (a8 : Option Addr),
 ∃ (n9 : Int),
 v6 = .tuple (Array.mk [.pointer a8, .int .i64 n9]) ∧
 HC Tryz.prog 10 (Array.mk [.int .i64 (4096 : Int)]) h7 fun (v10 : Value) (h11 : Heap) =>
 ∃ (a12 : Option Addr),
 v10 = .pointer a12 ∧
 HC Tryz.prog 25 (Array.mk [.int .i64 (3 : Int), .pointer a12, .string (ByteArray.mk (Array.mk [(116 : UInt8)]))]) h11
 fun (v13 : Value) (h14 : Heap) =>
 ∃ (a15 : Option Addr),
 ∃ (n16 : Int),
 v13 = .tuple (Array.mk [.pointer a15, .int .i64 n16]) ∧
 HC Tryz.prog 26 (Array.mk [.pointer a8, .int .i64 a]) h14 fun (v17 : Value) (h18 : Heap) =>
 ∃ (a19 : Option Addr),
 v17 = .pointer a19 ∧
 HC Tryz.prog 26 (Array.mk [.pointer a15, .int .i64 b]) h18 fun (v20 : Value) (h21 : Heap) =>
 ∃ (a22 : Option Addr),
 v20 = .pointer a22 ∧
 ∃ (I23 : Bool → Int → Heap → Prop),
 ∃ (I24 : Bool → Int → Heap → Nat),
 I23 false (0 : Int) h21 ∧
 ∀ (b25 : Bool) (n26 : Int) (h27 : Heap),
 I23 b25 n26 h27 →
 br (decide (n26 < (↑n : Int)))
 (∃ (p28 : Addr),
 (A = some p28 ∧ (0 : Int) ≤ n26 ∧ n26 < (↑n : Int)) ∧
 ∃ (n29 : Int),
 ∃ (s30 : ByteArray),
 ∃ (n31 : Int),
 ∃ (a32 : Option Addr),
 ∃ (k33 : Nat),
 ∃ (k34 : Nat),
 Reads Tryz.prog (Instr.loadAt 62 (.pointer (some (p28.add (n26.toNat * 4))))) h27
 (.agg
 (Array.mk [.int .i64 n29, .string s30, .int .i64 n31, .slice a32 k33 k34])) ∧
 SVC Tryz.prog
 (Instr.storeAt 62 (.pointer (some (Addr.mk (Array.size h27) 0 none)))
 (.agg
 (Array.mk [.int .i64 n29, .string s30, .int .i64 n31, .slice a32 k33 k34])))
 (Array.push h27
 (Obj.cells
 (Array.mk
 [.int .i64 (0 : Int), .string (ByteArray.mk (Array.mk [])), .int .i64 (0 : Int),
 .slice none 0 0])
 62))
 fun (x35 : Unit) (h36 : Heap) =>
 ∃ (n37 : Int),
 Reads Tryz.prog (Instr.loadAt 3 (.pointer (some (Addr.mk (Array.size h27) 0 none)))) h36
 (.int .i64 n37) ∧
 br (n37 == (0 : Int))
 (∃ (s38 : ByteArray),
 Reads Tryz.prog
 (Instr.loadAt 9 (.pointer (some ((Addr.mk (Array.size h27) 0 none).add 1))))
 h36 (.string s38) ∧
 HC Tryz.prog 27 (Array.mk [.pointer a19, .string s38]) h36
 fun (v39 : Value) (h40 : Heap) =>
 ∃ (s41 : ByteArray),
 ∃ (b42 : Bool),
 ∃ (n43 : Int),
 v39 = .tuple (Array.mk [.string s41, .bool b42, .int .i64 n43]) ∧
 ∃ (s44 : ByteArray),
 Reads Tryz.prog
 (Instr.loadAt 9
 (.pointer (some ((Addr.mk (Array.size h27) 0 none).add 1))))
 h40 (.string s44) ∧
 HC Tryz.prog 27 (Array.mk [.pointer a22, .string s44]) h40
 fun (v45 : Value) (h46 : Heap) =>
 ∃ (s47 : ByteArray),
 ∃ (b48 : Bool),
 ∃ (n49 : Int),
 v45 =
 .tuple
 (Array.mk [.string s47, .bool b48, .int .i64 n49]) ∧
 ∃ (b50 : Bool),
 ((!!s41.toList == s47.toList) = true →
 Reads Tryz.prog
 (eqSem BinOp.neq 4 (Operand.tmp 79) (Operand.tmp 80)
 (.bool b42) (.bool b48))
 h46 (.bool b50)) ∧
 br (!s41.toList == s47.toList || b50 || n43 != n49) (R (.bool false) h46)
 (I23 b25 (IntKind.i64.wrap (n26 + (1 : Int))) h46 ∧
 I24 b25 (IntKind.i64.wrap (n26 + (1 : Int))) h46 < I24 b25 n26 h27))
 (br (n37 == (1 : Int))
 (∃ (I51 : Heap → Prop),
 I51 h36 ∧
 ∃ (a52 : Option Addr),
 ∃ (k53 : Nat),
 ∃ (k54 : Nat),
 Reads Tryz.prog
 (Instr.loadAt 32
 (.pointer (some ((Addr.mk (Array.size h27) 0 none).add 3))))
 h36 (.slice a52 k53 k54) ∧
 HC Tryz.prog 28 (Array.mk [.pointer a19, .slice a52 k53 k54]) h36
 fun (v55 : Value) (h56 : Heap) =>
 ∃ (n57 : Int),
 v55 = .int .i64 n57 ∧
 I51 h56 ∧
 ∃ (a58 : Option Addr),
 ∃ (k59 : Nat),
 ∃ (k60 : Nat),
 (∀ (h61 : Heap),
 I51 h61 →
 Reads Tryz.prog
 (Instr.loadAt 32
 (.pointer
 (some ((Addr.mk (Array.size h27) 0 none).add 3))))
 h61 (.slice a58 k59 k60)) ∧
 HC Tryz.prog 28 (Array.mk [.pointer a22, .slice a58 k59 k60])
 h56 fun (v62 : Value) (h63 : Heap) =>
 ∃ (n64 : Int),
 v62 = .int .i64 n64 ∧
 br (n57 != n64) (R (.bool false) h63)
 (I23 b25 (IntKind.i64.wrap (n26 + (1 : Int))) h63 ∧
 I24 b25 (IntKind.i64.wrap (n26 + (1 : Int))) h63 < I24 b25 n26 h27))
 (br (n37 == (3 : Int))
 (∃ (n65 : Int),
 Reads Tryz.prog
 (Instr.loadAt 3
 (.pointer (some ((Addr.mk (Array.size h27) 0 none).add 2))))
 h36 (.int .i64 n65) ∧
 HC Tryz.prog 29 (Array.mk [.pointer a19, .int .i64 n65]) h36
 fun (v66 : Value) (h67 : Heap) =>
 v66 = .tuple (Array.mk []) ∧
 I23 b25 (IntKind.i64.wrap (n26 + (1 : Int))) h67 ∧
 I24 b25 (IntKind.i64.wrap (n26 + (1 : Int))) h67 < I24 b25 n26 h27)
 (I23 b25 (IntKind.i64.wrap (n26 + (1 : Int))) h36 ∧
 I24 b25 (IntKind.i64.wrap (n26 + (1 : Int))) h36 < I24 b25 n26 h27))))
 (HC Tryz.prog 30
 (Array.mk [.pointer a19, .string (ByteArray.mk (Array.mk [])), .int .i64 (9223372036854775807 : Int)]) h27
 fun (v68 : Value) (h69 : Heap) =>
 ∃ (a70 : Option Addr),
 ∃ (k71 : Nat),
 ∃ (k72 : Nat),
 ∃ (n73 : Int),
 v68 = .tuple (Array.mk [.slice a70 k71 k72, .int .i64 n73]) ∧
 HC Tryz.prog 30
 (Array.mk [.pointer a22, .string (ByteArray.mk (Array.mk [])), .int .i64 (9223372036854775807 : Int)])
 h69 fun (v74 : Value) (h75 : Heap) =>
 ∃ (a76 : Option Addr),
 ∃ (k77 : Nat),
 ∃ (k78 : Nat),
 ∃ (n79 : Int),
 v74 = .tuple (Array.mk [.slice a76 k77 k78, .int .i64 n79]) ∧
 ∃ (I80 : Bool → Int → Heap → Prop),
 ∃ (I81 : Bool → Int → Heap → Nat),
 I80 b25 (0 : Int) h75 ∧
 ∀ (b82 : Bool) (n83 : Int) (h84 : Heap),
 I80 b82 n83 h84 →
 br (decide (n83 < (↑k71 : Int)))
 (∃ (p85 : Addr),
 (a70 = some p85 ∧ (0 : Int) ≤ n83 ∧ n83 < (↑k71 : Int)) ∧
 ∃ (s86 : ByteArray),
 ∃ (s87 : ByteArray),
 Reads Tryz.prog
 (Instr.loadAt 53 (.pointer (some (p85.add (n83.toNat * 2))))) h84
 (.agg (Array.mk [.string s86, .string s87])) ∧
 SVC Tryz.prog
 (Instr.storeAt 53 (.pointer (some (Addr.mk (Array.size h84) 0 none)))
 (.agg (Array.mk [.string s86, .string s87])))
 (Array.push h84
 (Obj.cells
 (Array.mk
 [.string (ByteArray.mk (Array.mk [])),
 .string (ByteArray.mk (Array.mk []))])
 53))
 fun (x88 : Unit) (h89 : Heap) =>
 ∃ (s90 : ByteArray),
 Reads Tryz.prog
 (Instr.loadAt 9
 (.pointer (some (Addr.mk (Array.size h84) 0 none))))
 h89 (.string s90) ∧
 HC Tryz.prog 27 (Array.mk [.pointer a22, .string s90]) h89
 fun (v91 : Value) (h92 : Heap) =>
 ∃ (s93 : ByteArray),
 ∃ (b94 : Bool),
 ∃ (n95 : Int),
 v91 =
 .tuple
 (Array.mk
 [.string s93, .bool b94, .int .i64 n95]) ∧
 ∃ (s96 : ByteArray),
 ((!(n95 != (0 : Int) || !b94)) = true →
 Reads Tryz.prog
 (Instr.loadAt 9
 (.pointer
 (some
 ((Addr.mk (Array.size h84) 0 none).add 1))))
 h92 (.string s96)) ∧
 br (n95 != (0 : Int) || !b94 || !s93.toList == s96.toList)
 (R (.bool false) h92)
 (I80 b82 (IntKind.i64.wrap (n83 + (1 : Int))) h92 ∧
 I81 b82 (IntKind.i64.wrap (n83 + (1 : Int))) h92 < I81 b82 n83 h84))
 (HC Tryz.prog 20 (Array.mk [.slice a70 k71 k72, .slice a76 k77 k78]) h84
 fun (v97 : Value) (h98 : Heap) => ∃ (b99 : Bool), v97 = .bool b99 ∧ R (.bool b99) h98))))) := by kernel_rfl
end Go.Proofs.YtkhinnchplahlaaGreatDoor
end

section
set_option maxRecDepth 100000
namespace Go.Proofs.YtkhinnchplahlaaGreatDoor
open Go Go.Vc Go.Proofs Go.Dk Go.Kv Go.Ls Go.Cd
open Go.Pg (Quiet Nx layW partB nparts partsW partsW_len)

theorem kTr : scT Tryz.prog 27 = true := by kernel_rfl
abbrev lsmBox (t d : Nat) : Obj := .cells #[.iface 114 (.agg #[.pointer (some ⟨t, 0, none⟩)]), .pointer (some ⟨d, 0, none⟩), .int .i64 3] 107 (0, 0)
theorem wr_ne_gb {h : Heap} (tab : TabH h) {A : Option Addr} {n : Nat} {l : List Wr} (hs : Sl WrE h A n l) (hn : n ≠ 0) : ∀ q, blk A q → q ≠ gb := fun q hq e => by
  cases l with
  | nil => exact hn hs.1.symm
  | cons x xs =>
    obtain ⟨p, hp, hc⟩ := hs.get (i := 0) (x := x) rfl
    obtain ⟨p', e2, hq'⟩ := hq
    rw [hp] at e2
    cases e2
    have h1 := hc 0 (.string x.key) rfl
    obtain ⟨t, f, hb⟩ := tab
    have hb' : h[gb]? = some (.cells (Lib.pow10Tab.map fun z => Value.int .u64 z).toArray t f) := hb
    have hpb : (p.add (0 * WrE.sz + 0)).block = gb := by rw [Addr.add_block, hq', e]
    unfold cell at h1
    rw [hpb, hb'] at h1
    dsimp only at h1
    split at h1
    · cases h1
    rename_i hsp
    have h2 : ∀ v ∈ (Lib.pow10Tab.map fun z => Value.int .u64 z).toArray.toList, v ≠ .string x.key := fun v hv => by
      rw [List.toList_toArray] at hv
      obtain ⟨z, _, rfl⟩ := List.mem_map.1 hv
      exact fun e => by cases e
    exact h2 _ (Array.mem_toList_iff.2 (Array.mem_of_getElem? h1)) rfl
abbrev gbO (o : TypeId × (Nat × Nat)) : Obj := .cells (Lib.pow10Tab.map fun z => Value.int .u64 z).toArray o.1 o.2
theorem tab_of_gb {h : Heap} {o : TypeId × (Nat × Nat)} (hb : h[gb]? = some (gbO o)) : TabH h := ⟨o.1, o.2, hb⟩
theorem gb_of_tab {h : Heap} (tab : TabH h) : ∃ o, h[gb]? = some (gbO o) := by
  obtain ⟨a, b, hb⟩ := tab
  exact ⟨(a, b), hb⟩
structure LsmS (o : TypeId × (Nat × Nat)) (t d s : Nat) (u : Nat) (Nc : Nat → Prop) (P : Ps Str) (h : Heap) : Prop where
  ex : ∃ (g : Nat → Nat) (N : Nat → Prop) (x : D) (T : TS) (j : Nat), h[s]? = some (lsmBox t d) ∧ N s ∧ g s = 0 ∧ TrAt g h t d nmT (tw T) ∧ DN N d x h ∧ (∀ q, g q ≠ 0 → N q) ∧ TF nmT x.now T ∧ Quiet x ∧ Few u T ∧ x.room = 4096 ∧
    x.waits.length ≤ 110000 * j ∧ j ≤ u ∧ h[gb]? = some (gbO o) ∧ N gb ∧ g gb = 0 ∧ tot x.now = phi T ∧ T.pairs = P ∧ (∀ q, Nc q → N q ∧ g q = 0 ∧ q ≠ s ∧ q ≠ gb)
  le : u ≤ 800
section
variable {o : TypeId × (Nat × Nat)} {t d s u : Nat} {Nc : Nat → Prop} {P : Ps Str} {h : Heap}
theorem LsmS.srt (hm : LsmS o t d s u Nc P h) : SrtP P := by
  obtain ⟨g, N, x, T, j, _, _, _, _, _, _, _, _, _, _, _, _, _, _, _, _, rfl, _⟩ := hm.ex
  exact srt_pairs T
theorem LsmS.lt (hm : LsmS o t d s u Nc P h) : ∀ q, Nc q → q < h.size := fun q hq => by
  obtain ⟨g, N, x, T, j, _, _, _, _, dn, _, _, _, _, _, _, _, _, _, _, _, _, hc⟩ := hm.ex
  exact dn.lt (hc q hq).1
theorem LsmS.own (hm : LsmS o t d s u Nc P h) {S N' : Nat → Prop} {h' : Heap} (up : UpdM S h h') (hT : ∀ q, q < h.size → S q → Nc q) (hN : ∀ q, N' q → (Nc q ∨ h.size ≤ q) ∧ q < h'.size) : LsmS o t d s u N' P h' := by
  obtain ⟨g, N, x, T, j, hb, hs1, hs2, tr, dn, gN, tf, hq, fw, hroom, hw, hj, tab, gb1, gb2, htot, hp, hc⟩ := hm.ex
  have zz := up.size
  have hgl := tr.lt
  have hsl := at_lt hb
  have hgbl := dn.lt gb1
  refine ⟨⟨g, Nv N h h', x, T, j, up.cells hb fun e => (hc s (hT s hsl e)).2.2.1 rfl, .inl hs1, hs2, tr.same up fun q hg e => hg (hc q (hT q (hgl q hg) e)).2.1, dn.own up (fun q hl hs => (hc q (hT q hl hs)).1) fun q hq => ?_, fun q hg => .inl (gN q hg), tf, hq, fw, hroom, hw, hj, up.cells tab fun e => (hc gb (hT gb hgbl e)).2.2.2 rfl, .inl gb1, gb2, htot, hp, fun q hq => ?_⟩, hm.le⟩
  · rcases hq with hq | hq
    · exact ⟨.inl hq, by have := dn.lt hq; omega⟩
    · exact ⟨.inr hq.1, hq.2⟩
  · obtain ⟨h1, h2⟩ := hN q hq
    rcases h1 with h1 | h1
    · obtain ⟨a, b, c, e⟩ := hc q h1
      exact ⟨.inl a, b, c, e⟩
    · refine ⟨.inr ⟨h1, h2⟩, ?_, by omega, by omega⟩
      by_cases h0 : g q = 0
      · exact h0
      · have := hgl q h0; omega
theorem LsmS.keep (hm : LsmS o t d s u Nc P h) {h' : Heap} (k : Keep h.size h h') : LsmS o t d s u Nc P h' :=
  hm.own (S := fun _ => False) k.m (fun _ _ h => h.elim) fun q hq => ⟨.inl hq, Nat.lt_of_lt_of_le (hm.lt q hq) k.size⟩
theorem LsmS.ready (hm : LsmS o t d s u Nc P h) : HC Tryz.prog 111 #[.pointer (some ⟨s, 0, none⟩)] h fun v h' => h' = h ∧ v = .int .i64 0 := by
  obtain ⟨g, N, x, T, j, hb, hs1, hs2, tr, dn, gN, tf, hq, _⟩ := hm.ex
  refine HC_of_vc (args := [.pointer (some ⟨s, 0, none⟩)]) (base := 19) (cuts := []) (bigs := []) kM Tryz.func111 ?_
  rw [vcStReady]
  refine ⟨_, reads_eql_nil uSt, br_intro (fun e => by cases e) fun _ => ⟨_, rfl, _, reads_load kDp (cell_cells hb rfl), _, reads_neq_nil uDp, ⟨s, 0, none⟩, fun _ => rfl, _, fun _ => reads_load kDp (cell_cells hb rfl), br_intro (fun _ => dn.down.mono ?_) fun e => by cases e⟩⟩
  rintro v h' ⟨rfl, rfl⟩
  have hd := hq.down
  exact ⟨_, rfl, br_intro (fun e => by rw [hd] at e; cases e) fun _ => ⟨rfl, rfl⟩⟩
theorem LsmS.get (hm : LsmS o t d s u Nc P h) (k : Str) : HC Tryz.prog 58 #[.pointer (some ⟨s, 0, none⟩), .string k] h fun v h' => LsmS o t d s u Nc P h' ∧ UpdM (fun q => ¬ Nc q) h h' ∧
    v = .tuple #[.string ((mGet P k).getD ⟨#[]⟩), .bool (mGet P k).isSome, .int .i64 0] := by
  have rdy := hm.ready
  obtain ⟨g, N, x, T, j, hb, hs1, hs2, tr, dn, gN, tf, hq, fw, hroom, hw, hj, tab, gb1, gb2, htot, rfl, hc⟩ := hm.ex
  have hle := hm.le
  have h5 := tf.lens
  have f1 := fw.all
  have f2 := fw.names
  refine HC_of_vc (args := [.pointer (some ⟨s, 0, none⟩), .string k]) (base := 22) (cuts := []) (bigs := []) kM Tryz.func58 ?_
  rw [vcStGet]
  refine rdy.mono ?_
  rintro v h1 ⟨rfl, rfl⟩
  refine ⟨_, rfl, br_intro (fun e => by simp at e) fun _ => ⟨_, rfl, _, reads_load kBe (cell_cells0 hb rfl), 327, _, meth_val (by kernel_rfl), ?_⟩⟩
  have kb := keep_push h1 (.cells #[.pointer (some ⟨t, 0, none⟩)] 114 (0, 0))
  have bb := push_at h1 (.cells #[.pointer (some ⟨t, 0, none⟩)] 114 (0, 0))
  have main : HC Tryz.prog 327 #[.agg #[.pointer (some ⟨t, 0, none⟩)], .string k] h1 fun v h' => Keep h1.size h1 h' ∧ v = .tuple #[.string ((mGet T.pairs k).getD ⟨#[]⟩), .bool (mGet T.pairs k).isSome, .int .i64 0] := by
    refine HC_of_vc (args := [.agg #[.pointer (some ⟨t, 0, none⟩)], .string k]) (base := 18) (cuts := []) (bigs := []) kM Tryz.func327 ?_
    rw [vcTGet]
    refine ⟨_, reads_load kTr (cell_cells0 bb rfl), (lget_spec (tr.keep kb) (fun U hU => (tf.tab U hU).1) (by show T.tabs.flatten.length ≤ _; omega) (by show T.tabs.length ≤ _; omega) (by show T.mem.length ≤ _; omega) k).mono ?_⟩
    rintro v h2 ⟨k2, rfl⟩
    exact ⟨_, _, rfl, kb.trans (k2.mono kb.size), rfl⟩
  refine main.mono ?_
  rintro v h2 ⟨k2, rfl⟩
  exact ⟨_, _, _, rfl, hm.keep k2, k2.m, rfl⟩
theorem LsmS.scanK (hm : LsmS o t d s u Nc P h) (hP : P.length ≤ 1000000) (k : Str) (n : Int) : HC Tryz.prog 61 #[.pointer (some ⟨s, 0, none⟩), .string k, .int .i64 n] h fun v h' => Keep h.size h h' ∧
    ∃ a c, v = .tuple #[.slice a (Kv.scan P k n).length c, .int .i64 0] ∧ Sl StrPairE h' a (Kv.scan P k n).length (Kv.scan P k n) ∧ (∀ q, blk a q → h.size ≤ q ∧ q < h'.size) := by
  have rdy := hm.ready
  obtain ⟨g, N, x, T, j, hb, hs1, hs2, tr, dn, gN, tf, hq, fw, hroom, hw, hj, tab, gb1, gb2, htot, rfl, hc⟩ := hm.ex
  have hle := hm.le
  have h5 := tf.lens
  have f1 := fw.all
  have f2 := fw.names
  refine HC_of_vc (args := [.pointer (some ⟨s, 0, none⟩), .string k, .int .i64 n]) (base := 23) (cuts := []) (bigs := []) kM Tryz.func61 ?_
  rw [vcStScan]
  refine rdy.mono ?_
  rintro v h1 ⟨rfl, rfl⟩
  refine ⟨_, rfl, br_intro (fun e => by simp at e) fun _ => ⟨_, rfl, _, reads_load kBe (cell_cells0 hb rfl), 328, _, meth_val (by kernel_rfl), ?_⟩⟩
  have kb := keep_push h1 (.cells #[.pointer (some ⟨t, 0, none⟩)] 114 (0, 0))
  have bb := push_at h1 (.cells #[.pointer (some ⟨t, 0, none⟩)] 114 (0, 0))
  have main : HC Tryz.prog 328 #[.agg #[.pointer (some ⟨t, 0, none⟩)], .string k, .int .i64 n] h1 fun v h' => Keep h1.size h1 h' ∧ ∃ a c, v = .tuple #[.slice a (Kv.scan T.pairs k n).length c, .int .i64 0] ∧ Sl StrPairE h' a (Kv.scan T.pairs k n).length (Kv.scan T.pairs k n) ∧ (∀ q, blk a q → h1.size ≤ q ∧ q < h'.size) := by
    refine HC_of_vc (args := [.agg #[.pointer (some ⟨t, 0, none⟩)], .string k, .int .i64 n]) (base := 13) (cuts := []) (bigs := []) kM Tryz.func328 ?_
    rw [vcTScan]
    refine ⟨_, reads_load kTr (cell_cells0 bb rfl), (lscan_spec (tr.keep kb) (by show T.tabs.flatten.length + T.mem.length ≤ _; omega) (by show T.tabs.length ≤ _; omega) k n).mono ?_⟩
    rintro v h2 ⟨k2, a, c, rfl, sl, hbk⟩
    exact ⟨_, _, _, rfl, kb.trans (k2.mono kb.size), a, c, rfl, sl, fun q hq => by have := hbk q hq; have := kb.size; omega⟩
  refine main.mono ?_
  rintro v h2 ⟨k2, a, c, rfl, sl, hbk⟩
  exact ⟨_, _, _, _, rfl, k2, a, c, rfl, sl, hbk⟩
theorem LsmS.scan (hm : LsmS o t d s u Nc P h) (hP : P.length ≤ 1000000) (k : Str) (n : Int) : HC Tryz.prog 61 #[.pointer (some ⟨s, 0, none⟩), .string k, .int .i64 n] h fun v h' => LsmS o t d s u Nc P h' ∧ UpdM (fun q => ¬ Nc q) h h' ∧
    ∃ a c, v = .tuple #[.slice a (Kv.scan P k n).length c, .int .i64 0] ∧ Sl StrPairE h' a (Kv.scan P k n).length (Kv.scan P k n) ∧ (∀ q, blk a q → h.size ≤ q ∧ q < h'.size) :=
  (hm.scanK hP k n).mono fun v h' ⟨k, e⟩ => ⟨hm.keep k, k.m, e⟩
theorem LsmS.apply {n c : Nat} {A : Option Addr} {l : List Wr} (hm : LsmS o t d s u Nc P h) (hs : Sl WrE h A n l) (hc : n ≤ c) (hn : n ≤ 9223372036854775807) (hA : n ≠ 0 → ∀ q, blk A q → Nc q) (hM : long l = false → u + n ≤ 800) :
    HC Tryz.prog 60 #[.pointer (some ⟨s, 0, none⟩), .slice A n c] h fun v h' => UpdM (fun q => ¬ Nc q) h h' ∧ (long l = true → LsmS o t d s u Nc P h' ∧ v = .int .i64 3) ∧ (long l = false → LsmS o t d s (u + n) Nc (doneAll P l) h' ∧ v = .int .i64 0) := by
  have rdy := hm.ready
  obtain ⟨g, N, x, T, j, hb, hs1, hs2, tr, dn, gN, tf, hq, fw, hroom, hw, hj, tab, gb1, gb2, htot, rfl, hcc⟩ := hm.ex
  have hle := hm.le
  have hl := hs.1
  have ph := tf.phi_le fw (by omega)
  have hf : 2000 ≤ Dk.free x := by unfold Dk.free; omega
  refine HC_of_vc (args := [.pointer (some ⟨s, 0, none⟩), .slice A n c]) (base := 17) (cuts := []) (bigs := []) kM Tryz.func60 ?_
  rw [vcStApply]
  refine rdy.mono ?_
  rintro v h1 ⟨rfl, rfl⟩
  refine ⟨_, rfl, br_intro (fun e => by simp at e) fun _ => ⟨_, rfl, _, reads_load kBe (cell_cells0 hb rfl), 326, _, meth_val (by kernel_rfl), ?_⟩⟩
  have kb := keep_push h1 (.cells #[.pointer (some ⟨t, 0, none⟩)] 114 (0, 0))
  have bb := push_at h1 (.cells #[.pointer (some ⟨t, 0, none⟩)] 114 (0, 0))
  have zb : (h1.push (.cells #[.pointer (some ⟨t, 0, none⟩)] 114 (0, 0))).size = h1.size + 1 := by simp
  have main : HC Tryz.prog 326 #[.agg #[.pointer (some ⟨t, 0, none⟩)], .slice A n c] h1 fun v h' => UpdM (fun q => ¬ Nc q) h1 h' ∧ (long l = true → LsmS o t d s u Nc T.pairs h' ∧ v = .int .i64 3) ∧ (long l = false → LsmS o t d s (u + n) Nc (doneAll T.pairs l) h' ∧ v = .int .i64 0) := by
    refine HC_of_vc (args := [.agg #[.pointer (some ⟨t, 0, none⟩)], .slice A n c]) (base := 9) (cuts := []) (bigs := []) kM Tryz.func326 ?_
    rw [vcTApply]
    refine ⟨_, reads_load kTr (cell_cells0 bb rfl), ?_⟩
    generalize h1.push (.cells #[.pointer (some ⟨t, 0, none⟩)] 114 (0, 0)) = H at kb zb
    refine (lapply_spec (tr.keep kb) (by decide) ((tab_of_gb tab).updM kb.m (S := fun _ => False) id) ⟨gb1, gb2⟩ (dn.keep kb) gN tf hq fw (fun e => by have := hM e; omega) (hs.keep kb) hc hn (fun h0 q hq => ⟨(hcc q (hA h0 q hq)).1, (hcc q (hA h0 q hq)).2.1⟩) (by omega) (by omega)).mono ?_
    rintro v h2 hv
    refine ?_
    rcases hv with ⟨e, rfl, k⟩ | ⟨e, h0, rfl, k⟩ | ⟨_, _, _, _, hno, _⟩ | ⟨e, hne, rfl, g', x', T', tr', ap⟩
    · have kk := kb.trans (k.mono kb.size)
      exact ⟨_, rfl, kk.m, fun _ => ⟨hm.keep kk, rfl⟩, fun e2 => by rw [e] at e2; cases e2⟩
    · have kk := kb.trans (k.mono kb.size)
      subst h0
      have hn0 : n = 0 := hl.symm
      subst hn0
      exact ⟨_, rfl, kk.m, (fun e2 => by rw [e] at e2; cases e2), fun _ => ⟨hm.keep kk, rfl⟩⟩
    · exact absurd hf hno
    · have h1l : 1 ≤ n := by
        cases l with
        | nil => exact absurd rfl hne
        | cons => simp at hl; omega
      have hns : ∀ q, Nc q → ¬ (¬ N q ∨ g q = 1 ∨ g q = 2 ∨ g q = 3 ∨ g q = 4) := fun q hq h3 => by
        obtain ⟨a, b, _⟩ := hcc q hq
        rw [b] at h3
        rcases h3 with h3 | h3 | h3 | h3 | h3
        · exact h3 a
        all_goals cases h3
      have hlt : ∀ q, N q → q < H.size := fun q hq => by have := dn.lt hq; omega
      have hgz : ∀ {q}, N q → g q = 0 → ¬ (¬ N q ∨ g q = 1 ∨ g q = 2 ∨ g q = 3 ∨ g q = 4) := fun {q} a b h3 => by
        rw [b] at h3
        rcases h3 with h3 | h3 | h3 | h3 | h3
        · exact h3 a
        all_goals cases h3
      have u2 : UpdM (fun q => ¬ Nc q) h1 h2 := kb.m.trans (tr'.up.mono fun q h3 hq => hns q hq h3)
      refine ⟨_, rfl, u2, (fun e2 => by rw [e] at e2; cases e2), fun _ => ⟨⟨⟨g', fun q => N q ∨ g' q ≠ 0, x', T', j + 1, tr'.up.cells (kb.at hb (at_lt hb)) (hgz hs1 hs2), .inl hs1, by rw [tr'.ext s (hlt s hs1)]; exact hs2, tr'.tr, tr'.dn, fun q hq => .inr hq, ap.tf, ap.q, by have := ap.few; rw [hl] at this; exact this, by rw [ap.room]; exact hroom, by have := ap.waits; omega, by omega,
        tr'.up.cells (kb.at tab (at_lt tab)) (hgz gb1 gb2), .inl gb1, by rw [tr'.ext gb (hlt gb gb1)]; exact gb2, by have := ap.tot; omega, ap.pairs, fun q hq => ?_⟩, hM e⟩, rfl⟩⟩
      obtain ⟨a, b, c, f⟩ := hcc q hq
      exact ⟨.inl a, by rw [tr'.ext q (hlt q a)]; exact b, c, f⟩
  refine main.mono ?_
  rintro v h2 ⟨u2, a1, a2⟩
  cases hlg : long l with
  | true =>
    obtain ⟨k2, rfl⟩ := a1 hlg
    exact ⟨_, rfl, u2, fun _ => ⟨k2, rfl⟩, fun e => by cases e⟩
  | false =>
    obtain ⟨k2, rfl⟩ := a2 hlg
    exact ⟨_, rfl, u2, (fun e => by cases e), fun _ => ⟨k2, rfl⟩⟩
theorem lsmSto (o : TypeId × (Nat × Nat)) (t d s : Nat) : Sto 800 (LsmS o t d s) s := ⟨fun h => h.srt, fun h => h.lt, fun h u hT hN => h.own u hT hN, fun h k => h.get k, fun h hs hc hn hA hM => h.apply hs hc hn hA hM, fun h hP k n => h.scan hP k n⟩
end
section
variable {o : TypeId × (Nat × Nat)} {t d s c most u : Nat} {N : Nat → Prop} {P : Ps Str} {E : List En} {hits : Int} {h : Heap}
theorem CaS.scanK (hc : CaS (LsmS o t d s) s c most u N P E hits h) (hP : P.length ≤ 1000000) (k : Str) (n : Int) : HC Tryz.prog 30 #[.pointer (some ⟨c, 0, none⟩), .string k, .int .i64 n] h fun v h' => Keep h.size h h' ∧
    ∃ a c, v = .tuple #[.slice a (Kv.scan P k n).length c, .int .i64 0] ∧ Sl StrPairE h' a (Kv.scan P k n).length (Kv.scan P k n) ∧ (∀ q, blk a q → h.size ≤ q ∧ q < h'.size) := by
  obtain ⟨r, L, ml, hR, rfl⟩ := hc.rr
  refine HC_of_vc (args := [.pointer (some ⟨c, 0, none⟩), .string k, .int .i64 n]) (base := 19) (cuts := []) (bigs := []) kM Tryz.func30 ?_
  rw [vcCScan]
  refine ⟨_, reads_eql_nil uCp, br_intro (fun e => by cases e) fun _ => ⟨_, rfl, _, hR.raw.rs, (hR.sto.scanK hP k n).mono ?_⟩⟩
  rintro v h4 ⟨k4, a, cp, rfl, sl, hb⟩
  exact ⟨_, _, _, _, rfl, k4, a, cp, rfl, sl, hb⟩
end
theorem lsopen_spec {h : Heap} {d : Nat} {N : Nat → Prop} {o : TypeId × (Nat × Nat)} (dn : DN N d (Dk.new 4096) h) (tab : h[gb]? = some (gbO o)) (gbN : N gb) :
    HC Tryz.prog 25 #[.int .i64 3, .pointer (some ⟨d, 0, none⟩), .string ⟨#[116]⟩] h fun v h' => Keep h.size h h' ∧ ∃ t s, v = .tuple #[.pointer (some ⟨s, 0, none⟩), .int .i64 0] ∧ s < h'.size ∧ h.size ≤ s ∧ LsmS o t d s 0 (fun q => N q ∧ q ≠ gb) [] h' := by
  have tf0 : TF nmT (Dk.new 4096).now T0 := TF.new List.Pairwise.nil fun f _ => rfl
  refine HC_of_vc (args := [.int .i64 3, .pointer (some ⟨d, 0, none⟩), .string ⟨#[116]⟩]) (base := 57) (cuts := []) (bigs := []) kM Tryz.func25 ?_
  rw [vcStOpen3]
  refine (topen_spec (T := T0) (nm := nmT) dn (by decide) (tab_of_gb tab) gbN tf0 (new_quiet 4096) (by decide) (by decide) (by decide) (by decide) (by decide) (fun f hf => by cases hf) (by decide) (by decide)).mono ?_
  rintro v h1 ⟨k1, t, g, rfl, tr, gn, _⟩
  have z1 := k1.size
  refine ⟨_, _, rfl, br_intro (fun e => by simp at e) fun _ => ?_⟩
  have kb := keep_push h1 (lsmBox t d)
  have bb := push_at h1 (lsmBox t d)
  have zb : (h1.push (lsmBox t d)).size = h1.size + 1 := by rw [Array.size_push]
  have gz : ∀ q, q < h.size ∨ h1.size ≤ q → g q = 0 := fun q hq => by
    by_cases h0 : g q = 0
    · exact h0
    · have := gn q h0; omega
  have kk := k1.trans (kb.mono z1)
  refine ⟨kk, t, h1.size, rfl, by rw [Array.size_push]; exact Nat.lt_succ_self _, z1, ⟨g, Nv N h (h1.push (lsmBox t d)), Dk.new 4096, T0, 0, bb, .inr ⟨z1, by rw [Array.size_push]; exact Nat.lt_succ_self _⟩, gz _ (.inr (Nat.le_refl _)), tr.keep kb, dn.wide2 kk, fun q hq => .inr (by have := gn q hq; omega), tf0, new_quiet _, Few.new, by decide, Nat.zero_le _, Nat.le_refl _, kk.at tab (at_lt tab), .inl gbN, gz _ (.inl (dn.lt gbN)), rfl, rfl, fun q hq => ⟨.inl hq.1, gz q (.inl (dn.lt hq.1)), ?_, hq.2⟩⟩, by omega⟩
  have := dn.lt hq.1
  omega
end Go.Proofs.YtkhinnchplahlaaGreatDoor
end

section
set_option maxRecDepth 100000
namespace Go.Proofs.YtkhinnchplahlaaGreatDoor
open Go Go.Vc Go.Proofs

theorem vc13Alive (h : Heap) (R : Value → Heap → Prop) :
    vcF Tryz.prog Tryz.f23 30 [] [] [] h R =
(HC Tryz.prog 25 (Array.mk [.int .i64 (1 : Int), .pointer none, .string (ByteArray.mk (Array.mk []))]) h fun (v0 : Value) (h1 : Heap) =>
 ∃ (a2 : Option Addr),
 ∃ (n3 : Int),
 v0 = .tuple (Array.mk [.pointer a2, .int .i64 n3]) ∧
 HC Tryz.prog 26 (Array.mk [.pointer a2, .int .i64 (1 : Int)]) h1 fun (v4 : Value) (h5 : Heap) =>
 ∃ (a6 : Option Addr),
 v4 = .pointer a6 ∧
 HC Tryz.prog 27 (Array.mk [.pointer a6, .string (ByteArray.mk (Array.mk [(97 : UInt8)]))]) h5 fun (v7 : Value) (h8 : Heap) =>
 ∃ (s9 : ByteArray),
 ∃ (b10 : Bool),
 ∃ (n11 : Int),
 v7 = .tuple (Array.mk [.string s9, .bool b10, .int .i64 n11]) ∧
 HC Tryz.prog 27 (Array.mk [.pointer a6, .string (ByteArray.mk (Array.mk [(97 : UInt8)]))]) h8 fun (v12 : Value) (h13 : Heap) =>
 ∃ (s14 : ByteArray),
 ∃ (b15 : Bool),
 ∃ (n16 : Int),
 v12 = .tuple (Array.mk [.string s14, .bool b15, .int .i64 n16]) ∧
 HC Tryz.prog 27 (Array.mk [.pointer a6, .string (ByteArray.mk (Array.mk [(98 : UInt8)]))]) h13 fun (v17 : Value) (h18 : Heap) =>
 ∃ (s19 : ByteArray),
 ∃ (b20 : Bool),
 ∃ (n21 : Int),
 v17 = .tuple (Array.mk [.string s19, .bool b20, .int .i64 n21]) ∧
 HC Tryz.prog 27 (Array.mk [.pointer a6, .string (ByteArray.mk (Array.mk [(97 : UInt8)]))]) h18 fun (v22 : Value) (h23 : Heap) =>
 ∃ (s24 : ByteArray),
 ∃ (b25 : Bool),
 ∃ (n26 : Int),
 v22 = .tuple (Array.mk [.string s24, .bool b25, .int .i64 n26]) ∧
 br (decide (n3 = (0 : Int)))
 (HC Tryz.prog 53 (Array.mk [.pointer a6]) h23 fun (v27 : Value) (h28 : Heap) =>
 ∃ (n29 : Int),
 v27 = .int .i64 n29 ∧
 br (decide (n29 = (1 : Int)))
 (HC Tryz.prog 54 (Array.mk [.pointer a6]) h28 fun (v30 : Value) (h31 : Heap) =>
 ∃ (n32 : Int), v30 = .int .i64 n32 ∧ R (.bool (n32 == (1 : Int))) h31)
 (R (.bool false) h28))
 (R (.bool false) h23)) := by kernel_rfl

theorem vc13Great (A : Option Addr) (n c : Nat) (h : Heap) (R : Value → Heap → Prop) :
    vcF Tryz.prog Tryz.f24 50 [] [] [.slice A n c] h R =
(∃ (I0 : Bool → Int → Int → Heap → Prop),
 ∃ (I1 : Bool → Int → Int → Heap → Nat),
 I0 false (0 : Int) (0 : Int) h ∧
 ∀ (b2 : Bool) (n3 n4 : Int) (h5 : Heap),
 I0 b2 n3 n4 h5 →
 br (decide (n4 < (↑n : Int)))
 (∃ (p6 : Addr),
 (A = some p6 ∧ (0 : Int) ≤ n4 ∧ n4 < (↑n : Int)) ∧
 ∃ (n7 : Int),
 ∃ (s8 : ByteArray),
 ∃ (n9 : Int),
 ∃ (a10 : Option Addr),
 ∃ (k11 : Nat),
 ∃ (k12 : Nat),
 Reads Tryz.prog (Instr.loadAt 62 (.pointer (some (p6.add (n4.toNat * 4))))) h5
 (.agg (Array.mk [.int .i64 n7, .string s8, .int .i64 n9, .slice a10 k11 k12])) ∧
 SVC Tryz.prog
 (Instr.storeAt 62 (.pointer (some (Addr.mk (Array.size h5) 0 none)))
 (.agg (Array.mk [.int .i64 n7, .string s8, .int .i64 n9, .slice a10 k11 k12])))
 (Array.push h5
 (Obj.cells
 (Array.mk [.int .i64 (0 : Int), .string (ByteArray.mk (Array.mk [])), .int .i64 (0 : Int), .slice none 0 0])
 62))
 fun (x13 : Unit) (h14 : Heap) =>
 ∃ (a15 : Option Addr),
 ∃ (k16 : Nat),
 ∃ (k17 : Nat),
 Reads Tryz.prog (Instr.loadAt 32 (.pointer (some ((Addr.mk (Array.size h5) 0 none).add 3)))) h14 (.slice a15 k16 k17) ∧
 ∃ (s18 : ByteArray),
 Reads Tryz.prog (Instr.loadAt 9 (.pointer (some ((Addr.mk (Array.size h5) 0 none).add 1)))) h14 (.string s18) ∧
 (16 : Int) ≠ (0 : Int) ∧
 br (decide (IntKind.i64.wrap (n3 + IntKind.i64.wrap ((↑k16 : Int) + IntKind.i64.wrap ((↑s18.size : Int).tdiv (16 : Int)))) > (800 : Int)))
 (R (.bool true) h14)
 (∃ (a19 : Option Addr),
 ∃ (k20 : Nat),
 ∃ (k21 : Nat),
 Reads Tryz.prog (Instr.loadAt 32 (.pointer (some ((Addr.mk (Array.size h5) 0 none).add 3)))) h14
 (.slice a19 k20 k21) ∧
 ∃ (I22 : Bool → Int → Int → Heap → Prop),
 ∃ (I23 : Bool → Int → Int → Heap → Nat),
 I22 b2 (IntKind.i64.wrap (n3 + IntKind.i64.wrap ((↑k16 : Int) + IntKind.i64.wrap ((↑s18.size : Int).tdiv (16 : Int))))) (0 : Int) h14 ∧
 ∀ (b24 : Bool) (n25 n26 : Int) (h27 : Heap),
 I22 b24 n25 n26 h27 →
 br (decide (n26 < (↑k20 : Int)))
 (∃ (p28 : Addr),
 (a19 = some p28 ∧ (0 : Int) ≤ n26 ∧ n26 < (↑k20 : Int)) ∧
 ∃ (s29 : ByteArray),
 ∃ (s30 : ByteArray),
 ∃ (b31 : Bool),
 Reads Tryz.prog (Instr.loadAt 42 (.pointer (some (p28.add (n26.toNat * 3))))) h27
 (.agg (Array.mk [.string s29, .string s30, .bool b31])) ∧
 SVC Tryz.prog
 (Instr.storeAt 42 (.pointer (some (Addr.mk (Array.size h27) 0 none)))
 (.agg (Array.mk [.string s29, .string s30, .bool b31])))
 (Array.push h27
 (Obj.cells
 (Array.mk
 [.string (ByteArray.mk (Array.mk [])), .string (ByteArray.mk (Array.mk [])), .bool false])
 42))
 fun (x32 : Unit) (h33 : Heap) =>
 ∃ (s34 : ByteArray),
 Reads Tryz.prog (Instr.loadAt 9 (.pointer (some (Addr.mk (Array.size h27) 0 none)))) h33
 (.string s34) ∧
 ∃ (s35 : ByteArray),
 Reads Tryz.prog
 (Instr.loadAt 9 (.pointer (some ((Addr.mk (Array.size h27) 0 none).add 1))))
 h33 (.string s35) ∧
 (64 : Int) ≠ (0 : Int) ∧
 br
 (decide
 (IntKind.i64.wrap
 (n25 +
 IntKind.i64.wrap ((IntKind.i64.wrap ((↑s34.size : Int) + (↑s35.size : Int))).tdiv (64 : Int))) >
 (800 : Int)))
 (R (.bool true) h33)
 (I22 b24
 (IntKind.i64.wrap
 (n25 +
 IntKind.i64.wrap ((IntKind.i64.wrap ((↑s34.size : Int) + (↑s35.size : Int))).tdiv (64 : Int))))
 (IntKind.i64.wrap (n26 + (1 : Int))) h33 ∧
 I23 b24
 (IntKind.i64.wrap
 (n25 +
 IntKind.i64.wrap ((IntKind.i64.wrap ((↑s34.size : Int) + (↑s35.size : Int))).tdiv (64 : Int))))
 (IntKind.i64.wrap (n26 + (1 : Int))) h33 <
 I23 b24 n25 n26 h27))
 (I0 b24 n25 (IntKind.i64.wrap (n4 + (1 : Int))) h27 ∧ I1 b24 n25 (IntKind.i64.wrap (n4 + (1 : Int))) h27 < I1 b2 n3 n4 h5)))
 (R (.bool (decide ((↑n : Int) > (100 : Int)))) h5)) := by kernel_rfl
end Go.Proofs.YtkhinnchplahlaaGreatDoor
end

section
set_option maxRecDepth 100000
namespace Go.Proofs.YtkhinnchplahlaaGreatDoor
open Go Go.Vc Go.Proofs Go.Dk Go.Kv

section
variable {S : Nat → (Nat → Prop) → Ps Str → Heap → Prop} {M s c most u : Nat} {N : Nat → Prop} {P : Ps Str} {E : List En} {hits : Int} {h : Heap}
theorem CaS.get' (hS : Sto M S s) (hc : CaS S s c most u N P E hits h) (h0 : 0 ≤ hits) (h1 : hits < 1000000000) (k : Str) {E' : List En} {hits' : Int} (hE : ekeep most E k ((mGet P k).getD ⟨#[]⟩) (mGet P k).isSome = E') (hh : hits + (if (efind k E).isSome then 1 else 0) = hits') :
    HC Tryz.prog 27 #[.pointer (some ⟨c, 0, none⟩), .string k] h fun v h' => UpdM (fun q => ¬ N q) h h' ∧
      v = .tuple #[.string ((mGet P k).getD ⟨#[]⟩), .bool (mGet P k).isSome, .int .i64 0] ∧ CaS S s c most u N P E' hits' h' := by
  subst hE
  subst hh
  exact hc.get hS h0 h1 k
theorem turn_of {N : Nat → Prop} {h H H' : Heap} (t : Turn h H) (u : UpdM (fun q => ¬ N q) H H') (hN : ∀ q, q < h.size → N q) : Turn h H' :=
  UpdM.turn (S := fun q => ¬ N q) ((t.m (S := fun q => ¬ N q)).trans u) fun q hq hn => hn (hN q hq)
theorem alive13_spec (h : Heap) : HC Tryz.prog 23 #[] h fun v h' => Turn h h' ∧ v = .bool true := by
  refine HC_of_vc (args := []) (base := 30) (cuts := []) (bigs := []) kM Tryz.func23 ?_
  rw [vc13Alive]
  refine (mopen_spec (N := fun q => q < h.size) fun q hq => hq).mono ?_
  rintro v h1 ⟨k1, rfl, m1, z1⟩
  have hS := memSto 1000 (h.size + 1)
  refine ⟨_, _, rfl, (CaS.new hS m1 (by omega) 1).mono ?_⟩
  rintro v h5 ⟨k5, rfl, c5⟩
  have c5 : CaS (MemS (h.size + 1)) (h.size + 1) (h1.size + 1) 1 0 (fun q => q < h.size) [] [] 0 h5 := c5
  have t5 : Turn h h5 := ((k1.trans (k5.mono k1.size)).upd fun _ => False).m.turn fun _ _ h => h
  have hne : (⟨#[97]⟩ : Str) ≠ ⟨#[98]⟩ := by decide
  refine ⟨_, rfl, (c5.get' (E' := [⟨⟨#[97]⟩, ⟨#[]⟩, false⟩]) (hits' := 0) hS (by decide) (by decide) _ (ekeep_nil (by decide) _ _ _) rfl).mono ?_⟩
  rintro v h8 ⟨u8, rfl, c8⟩
  refine ⟨_, _, _, rfl, (c8.get' (E' := [⟨⟨#[97]⟩, ⟨#[]⟩, false⟩]) (hits' := 1) hS (by decide) (by decide) _ ekeep_one (by rw [efind_one]; simp)).mono ?_⟩
  rintro v h13 ⟨u13, rfl, c13⟩
  refine ⟨_, _, _, rfl, (c13.get' (E' := [⟨⟨#[98]⟩, ⟨#[]⟩, false⟩]) (hits' := 1) hS (by decide) (by decide) _ ekeep_one (by rw [efind_one, decide_eq_false hne]; simp)).mono ?_⟩
  rintro v h18 ⟨u18, rfl, c18⟩
  refine ⟨_, _, _, rfl, (c18.get' (E' := [⟨⟨#[97]⟩, ⟨#[]⟩, false⟩]) (hits' := 1) hS (by decide) (by decide) _ ekeep_one (by rw [efind_one, decide_eq_false (Ne.symm hne)]; simp)).mono ?_⟩
  rintro v h23 ⟨u23, rfl, c23⟩
  have t23 := turn_of (turn_of (turn_of (turn_of t5 u8 fun _ h => h) u13 fun _ h => h) u18 fun _ h => h) u23 fun _ h => h
  refine ⟨_, _, _, rfl, br_intro (fun _ => ?_) fun e => by simp at e⟩
  refine c23.hits_spec.mono ?_
  rintro v h28 ⟨rfl, rfl⟩
  refine ⟨_, rfl, br_intro (fun _ => ?_) fun e => by simp at e⟩
  refine c23.size_spec.mono ?_
  rintro v h31 ⟨rfl, rfl⟩
  exact ⟨_, rfl, t23, rfl⟩
theorem CaS.more (hS : Sto M S s) (hc : CaS S s c most u N P E hits h) {h' : Heap} (k : Keep h.size h h') : CaS S s c most u (fun q => N q ∨ (h.size ≤ q ∧ q < h'.size)) P E hits h' :=
  hc.own hS (k.upd fun _ => False).m (fun _ _ h => h.elim) fun q hq => by
    rcases hq with hq | hq
    · exact ⟨.inl hq, Nat.lt_of_lt_of_le (hc.lt hS q hq) k.size⟩
    · exact ⟨.inr hq.1, hq.2⟩
end
end Go.Proofs.YtkhinnchplahlaaGreatDoor
end

section
set_option maxRecDepth 100000
namespace Go.Proofs.YtkhinnchplahlaaGreatDoor
open Go Go.Vc Go.Proofs Go.Dk Go.Kv Go.Ls Go.Cd
open Go.Pg (Quiet Nx)

structure Cl where
  kind : Int
  key : Str
  n : Int
  a : Option Addr
  ln : Nat
  cp : Nat
  ws : List Wr
instance : Inhabited Cl := ⟨⟨0, ⟨#[]⟩, 0, none, 0, 0, []⟩⟩
def ClE : Enc Cl := ⟨4, fun c => [.int .i64 c.kind, .string c.key, .int .i64 c.n, .slice c.a c.ln c.cp], fun _ => rfl, fun q v hv => by
  simp only [List.mem_cons, List.not_mem_nil, or_false] at hv
  rcases hv with rfl | rfl | rfl | rfl
  · exact one_int _ _
  · exact one_string _
  · exact one_int _ _
  · exact one_slice _ _ _⟩
def ClOk (h : Heap) (c : Cl) : Prop := Sl WrE h c.a c.ln c.ws ∧ c.ln ≤ c.cp ∧ c.ln ≤ reachBytes ∧ (∀ w ∈ c.ws, WrOk w) ∧ c.key.size ≤ reachBytes ∧ c.n ≤ 9223372036854775807
theorem uCl : Tryz.prog.underlying 62 = some (.struct #[(Tryz.prog.fieldsOf 62)[0]!, (Tryz.prog.fieldsOf 62)[1]!, (Tryz.prog.fieldsOf 62)[2]!, (Tryz.prog.fieldsOf 62)[3]!]) := by kernel_rfl
theorem decCl : DecZ ClE Tryz.prog 62 fun w c => ClOk w.heap c := fun {H enc w base spare held n cs d} h hw => by
  obtain ⟨xs, m, _, rfl, hl, hx, hf⟩ := DataW.trod_struct uCl h
  obtain ⟨_, f0, z0⟩ := fldZ (t := 3) (o := 0) uCl hf hx hw 0 rfl (by kernel_rfl) (by kernel_rfl) (by kernel_rfl)
  obtain ⟨_, f1, z1⟩ := fldZ (t := 9) (o := 1) uCl hf hx hw 1 rfl (by kernel_rfl) (by kernel_rfl) (by kernel_rfl)
  obtain ⟨_, f2, z2⟩ := fldZ (t := 3) (o := 2) uCl hf hx hw 2 rfl (by kernel_rfl) (by kernel_rfl) (by kernel_rfl)
  obtain ⟨_, f3, z3⟩ := fldZ (t := 32) (o := 3) uCl hf hx hw 3 rfl (by kernel_rfl) (by kernel_rfl) (by kernel_rfl)
  have hl2 : cs.length = 4 := hl.trans (by kernel_rfl)
  match cs, hl2 with
  | [a, b, c, d], _ =>
    obtain ⟨s0, e0, g0⟩ := decInt uI f0
    obtain ⟨s1, e1, g1⟩ := decStrZ uS f1 z1
    obtain ⟨s2, e2, g2⟩ := decInt uI f2
    obtain ⟨s3, e3, g3⟩ := decSliceZ uWs (by kernel_rfl) (of_decide_eq_true (by kernel_rfl)) decWr f3 z3
    simp [StrE, IntE, SliceE] at e0 e1 e2 e3
    subst e0 e1 e2 e3
    obtain ⟨⟨ps, h1, h2, h3, h4⟩, g0⟩ := g3
    exact ⟨⟨s0, s1, s2, s3.1, s3.2.1, s3.2.2, ps⟩, rfl, h1, h2, g0, h4, g1, (i64_rng g2).2⟩
abbrev clVal (c : Cl) : Value := .agg #[.int .i64 c.kind, .string c.key, .int .i64 c.n, .slice c.a c.ln c.cp]
abbrev clBox (c : Cl) : Obj := .cells #[.int .i64 c.kind, .string c.key, .int .i64 c.n, .slice c.a c.ln c.cp] 62 (0, 0)
theorem agCl : agT Tryz.prog 62 4 = true := by kernel_rfl
theorem szCl : szOf Tryz.prog 62 = some 4 := by kernel_rfl
theorem cl_at {h : Heap} {A : Option Addr} {n k : Nat} {l : List Cl} {w : Cl} (hs : Sl ClE h A n l) (hq : l[k]? = some w) :
    ∃ p, A = some p ∧ Reads Tryz.prog (Instr.loadAt 62 (.pointer (some (p.add (k * 4))))) h (.agg (Array.mk [.int .i64 w.kind, .string w.key, .int .i64 w.n, .slice w.a w.ln w.cp])) := by
  obtain ⟨p, e, hp⟩ := hs.get hq
  exact ⟨p, e, reads_load_agg (cs := [.int .i64 w.kind, .string w.key, .int .i64 w.n, .slice w.a w.ln w.cp]) agCl rfl fun j v hv => by rw [Addr.add_add]; exact hp j v hv⟩
theorem svc_cl {w : Cl} {h : Heap} {old : Array Value} {K : Unit → Heap → Prop} (ho : old.size = 4) (k : K () (h.push (clBox w))) :
    SVC Tryz.prog (Instr.storeAt 62 (.pointer (some ⟨h.size, 0, none⟩)) (.agg (Array.mk [.int .i64 w.kind, .string w.key, .int .i64 w.n, .slice w.a w.ln w.cp]))) (h.push (.cells old 62 (0, 0))) K :=
  svc_store_new (v := clVal w) szCl ho (fun v hv => ClE.one w v hv) k
section
variable {w : Cl} {h : Heap} {b : Nat}
theorem cl_kind (hb : h[b]? = some (clBox w)) : Reads Tryz.prog (Instr.loadAt 3 (.pointer (some ⟨b, 0, none⟩))) h (.int .i64 w.kind) := reads_load kI (cell_cells0 hb rfl)
theorem cl_key (hb : h[b]? = some (clBox w)) : Reads Tryz.prog (Instr.loadAt 9 (.pointer (some ((⟨b, 0, none⟩ : Addr).add 1)))) h (.string w.key) := reads_load kS (cell_cells hb rfl)
theorem cl_n (hb : h[b]? = some (clBox w)) : Reads Tryz.prog (Instr.loadAt 3 (.pointer (some ((⟨b, 0, none⟩ : Addr).add 2)))) h (.int .i64 w.n) := reads_load kI (cell_cells hb rfl)
theorem cl_ws (hb : h[b]? = some (clBox w)) : Reads Tryz.prog (Instr.loadAt 32 (.pointer (some ((⟨b, 0, none⟩ : Addr).add 3)))) h (.slice w.a w.ln w.cp) := reads_load kWsL (cell_cells hb rfl)
end
def sumC (l : List Cl) : Nat := (l.map fun s => s.ws.length).sum
theorem sumC_take {l : List Cl} {j : Nat} {x : Cl} (h : l[j]? = some x) : sumC (l.take (j + 1)) = sumC (l.take j) + x.ws.length := by
  obtain ⟨hj, e⟩ := List.getElem?_eq_some_iff.1 h
  unfold sumC
  rw [List.take_succ_eq_append_getElem hj, e, List.map_append, List.sum_append]
  simp
theorem sumC_le (l : List Cl) (j : Nat) : sumC (l.take j) ≤ sumC l := by
  unfold sumC
  conv => rhs; rw [← List.take_append_drop j l, List.map_append, List.sum_append]
  omega
theorem ClOk.turn {h h' : Heap} {w : Cl} (hw : ClOk h w) (t : Turn h h') : ClOk h' w := ⟨hw.1.updM (t.m (S := fun _ => False)) fun _ _ _ h => h, hw.2⟩
set_option maxHeartbeats 2000000 in
theorem great13_spec {h : Heap} {A : Option Addr} {n c : Nat} {l : List Cl} (hs : Sl ClE h A n l) (hok : ∀ x ∈ l, ClOk h x) (hn : n ≤ 9223372036854775807) :
    HC Tryz.prog 24 #[.slice A n c] h fun v h' => Keep h.size h h' ∧ ∃ b, v = .bool b ∧ (b = false → n ≤ 100 ∧ sumC l ≤ 800) := by
  have hl := hs.1
  have hrb : reachBytes ≤ 140737488355328 := by decide
  refine HC_of_vc (args := [.slice A n c]) (base := 50) (cuts := []) (bigs := []) kM Tryz.func24 ?_
  rw [vc13Great]
  refine ⟨fun _ n3 n4 H => ∃ i : Nat, n4 = i ∧ i ≤ n ∧ Keep h.size h H ∧ (sumC (l.take i) : Int) ≤ n3 ∧ 0 ≤ n3 ∧ n3 ≤ 800, fun _ _ n4 _ => n - n4.toNat, ⟨0, rfl, Nat.zero_le _, Keep.refl _ _, by simp [sumC], by omega, by omega⟩, ?_⟩
  rintro b2 n3 n4 H ⟨i, rfl, hi, kH, hsum, hn0, hn1⟩
  refine br_intro (fun hlt => ?_) fun hge => ?_
  · have hlt := of_decide_eq_true hlt
    have hq : l[i]? = some (l[i]'(by omega)) := List.getElem?_eq_getElem (by omega)
    have hm := List.getElem_mem (by omega : i < l.length)
    generalize l[i]'(by omega) = x at hq hm
    obtain ⟨p, eA, rd⟩ := cl_at (hs.keep kH) hq
    obtain ⟨wsl, _, hln, wok, hks, _⟩ := hok x hm
    have hwl := wsl.1
    have hst := sumC_take hq
    refine ⟨p, ⟨eA, by omega, by omega⟩, _, _, _, _, _, _, by rw [Int.toNat_natCast]; exact rd, svc_cl rfl ?_⟩
    have kb := keep_push H (clBox x)
    have bb := push_at H (clBox x)
    generalize H.push (clBox x) = H2 at kb bb
    have kH2 := kH.trans (kb.mono kH.size)
    refine ⟨_, _, _, cl_ws bb, _, cl_key bb, by decide, br_intro (fun _ => ⟨kH2, true, rfl, fun e => by cases e⟩) fun e1 => ?_⟩
    have e1 := of_decide_eq_false e1
    have hd : ((x.key.size : Nat) : Int).tdiv (16 : Int) = ((x.key.size / 16 : Nat) : Int) := rfl
    have hw0 : IntKind.i64.wrap ((x.key.size / 16 : Nat) : Int) = ((x.key.size / 16 : Nat) : Int) := wrap_i64 (by omega) (by omega)
    have hw1 : IntKind.i64.wrap (((x.ln : Nat) : Int) + ((x.key.size / 16 : Nat) : Int)) = (x.ln : Int) + ((x.key.size / 16 : Nat) : Int) := wrap_i64 (by omega) (by omega)
    rw [hd, hw0, hw1] at e1 ⊢
    have hw2 : IntKind.i64.wrap (n3 + ((x.ln : Int) + ((x.key.size / 16 : Nat) : Int))) = n3 + ((x.ln : Int) + ((x.key.size / 16 : Nat) : Int)) := wrap_i64 (by omega) (by omega)
    rw [hw2] at e1 ⊢
    refine ⟨_, _, _, cl_ws bb, fun _ n28 n29 G => ∃ k : Nat, n29 = k ∧ k ≤ x.ln ∧ Keep h.size h G ∧ n3 + ((x.ln : Int) + ((x.key.size / 16 : Nat) : Int)) ≤ n28 ∧ n28 ≤ 800, fun _ _ n29 _ => x.ln - n29.toNat, ⟨0, rfl, Nat.zero_le _, kH2, Int.le_refl _, by omega⟩, ?_⟩
    rintro b27 n28 n29 G ⟨k, rfl, hk, kG, h28, h28'⟩
    refine br_intro (fun e2 => ?_) fun e2 => ?_
    · have e2 := of_decide_eq_true e2
      have hqw : x.ws[k]? = some (x.ws[k]'(by omega)) := List.getElem?_eq_getElem (by omega)
      have hmw := List.getElem_mem (by omega : k < x.ws.length)
      generalize x.ws[k]'(by omega) = y at hqw hmw
      obtain ⟨y1, y2⟩ := wok y hmw
      obtain ⟨p31, ea, rd31⟩ := wr_at (wsl.keep kG) hqw
      refine ⟨p31, ⟨ea, by omega, e2⟩, _, _, _, by rw [Int.toNat_natCast]; exact rd31, svc_wr rfl ?_⟩
      have kc := keep_push G (wrBox y)
      have bc := push_at G (wrBox y)
      generalize G.push (wrBox y) = G2 at kc bc
      have kG2 := kG.trans (kc.mono kG.size)
      refine ⟨_, wr_k bc, _, wr_v bc, by decide, br_intro (fun _ => ⟨kG2, true, rfl, fun e => by cases e⟩) fun e3 => ?_⟩
      have e3 := of_decide_eq_false e3
      have hw3 : IntKind.i64.wrap ((y.key.size : Int) + (y.val.size : Int)) = ((y.key.size + y.val.size : Nat) : Int) := by rw [wrap_i64 (by omega) (by omega)]; rfl
      have hd3 : (((y.key.size + y.val.size : Nat) : Int)).tdiv (64 : Int) = (((y.key.size + y.val.size) / 64 : Nat) : Int) := rfl
      have hw4 : IntKind.i64.wrap ((((y.key.size + y.val.size) / 64 : Nat) : Int)) = (((y.key.size + y.val.size) / 64 : Nat) : Int) := wrap_i64 (by omega) (by omega)
      rw [hw3, hd3, hw4] at e3 ⊢
      have hw5 : IntKind.i64.wrap (n28 + (((y.key.size + y.val.size) / 64 : Nat) : Int)) = n28 + (((y.key.size + y.val.size) / 64 : Nat) : Int) := wrap_i64 (by omega) (by omega)
      rw [hw5] at e3 ⊢
      rw [wrap_i64 (n := (k : Int) + 1) (by omega) (by omega)]
      exact ⟨⟨k + 1, rfl, by omega, kG2, by omega, by omega⟩, by dsimp only; omega⟩
    · rw [wrap_i64 (n := (i : Int) + 1) (by omega) (by omega)]
      exact ⟨⟨i + 1, rfl, by omega, kG, by omega, by omega, h28'⟩, by dsimp only; omega⟩
  · have hge := of_decide_eq_false hge
    have hin : i = n := by omega
    subst hin
    rw [← hl, List.take_length] at hsum
    refine ⟨kH, _, rfl, fun e => ⟨by have := of_decide_eq_false e; omega, by omega⟩⟩
theorem reads_neqB {x y : Operand} {a b : Bool} {h : Heap} : Reads Tryz.prog (eqSem BinOp.neq 4 x y (.bool a) (.bool b)) h (.bool (!(a == b))) :=
  ⟨fun w _ => by simp [eqSem, eqGuard, run_neq_bool w 4 a b uB]⟩
section
variable {S S' : Nat → (Nat → Prop) → Ps Str → Heap → Prop} {M M' s s' c c' most most' u u' : Nat} {N N' : Nat → Prop} {P P' : Ps Str} {E E' : List En} {hits hits' : Int} {h h' : Heap}
theorem CaS.new_own (hS : Sto M S s) (hc : CaS S s c most u N P E hits h) {T : Nat → Prop} (up : UpdM T h h') (hT : ∀ q, q < h.size → T q → N q) : CaS S s c most u (Nv N h h') P E hits h' :=
  hc.own hS up hT fun q hq => by
    have z := up.size
    rcases hq with hq | hq
    · exact ⟨.inl hq, Nat.lt_of_lt_of_le (hc.lt hS q hq) z⟩
    · exact ⟨.inr hq.1, hq.2⟩
end
theorem dall_len : ∀ (l : List Wr) (P : Ps Str), (doneAll P l).length ≤ P.length + l.length
  | [], P => Nat.le_refl _
  | w :: l, P => by
    have h1 := dall_len l (done1 P w)
    have h2 : (done1 P w).length ≤ P.length + 1 := by
      unfold done1
      split
      · unfold sdel
        have := List.length_filter_le (fun p : Str × Str => decide (p.1 ≠ w.key)) P
        omega
      · exact sput_len' w.key w.val P
    show (doneAll (done1 P w) l).length ≤ _
    rw [List.length_cons]; omega
where
  sput_len' (k v : Str) : ∀ P : Ps Str, (sput k v P).length ≤ P.length + 1
  | [] => Nat.le_refl _
  | p :: P => by
    unfold sput
    split
    · rw [List.length_cons, List.length_cons]; omega
    · split
      · rw [List.length_cons, List.length_cons]; exact Nat.le_refl _
      · rw [List.length_cons, List.length_cons]
        have := sput_len' k v P
        omega
theorem upBut {S : Nat → Prop} {h h' : Heap} (u : UpdM S h h') {b : Nat} {o : Obj} (h1 : h[b]? = some o) (h2 : h'[b]? = some o) : UpdM (fun q => S q ∧ q ≠ b) h h' :=
  ⟨u.size, fun q o' hq hm hs => by
    by_cases e : q = b
    · subst e
      rw [h1] at hq
      rw [h2]; exact hq
    · exact u.stay q o' hq hm fun s => hs ⟨s, e⟩⟩
section
variable {o : TypeId × (Nat × Nat)} {t d s c most u : Nat} {N : Nat → Prop} {P : Ps Str} {E : List En} {hits : Int} {h : Heap}
theorem CaS.gbo (hc : CaS (LsmS o t d s) s c most u N P E hits h) : h[gb]? = some (gbO o) := by
  obtain ⟨r, L, ml, hr, hE, hs, hN⟩ := hc.ex
  obtain ⟨g, N, x, T, j, _, _, _, _, _, _, _, _, _, _, _, _, hb, _⟩ := hs.ex
  exact hb
end
set_option maxHeartbeats 8000000 in
theorem sames_spec {h : Heap} (tab : TabH h) {A : Option Addr} {n c : Nat} {l : List Cl} (hs : Sl ClE h A n l) (hok : ∀ x ∈ l, ClOk h x) (hn : n ≤ 9223372036854775807) (ma mb : Int) :
    HC Tryz.prog 7 #[.int .i64 ma, .int .i64 mb, .slice A n c] h fun v h' => Keep h.size h h' ∧ v = .bool true := by
  refine hc_stay ?_
  have hl := hs.1
  obtain ⟨o, tabo⟩ := gb_of_tab tab
  have hgb : gb < h.size := at_lt tabo
  have hrb : reachBytes ≤ 140737488355328 := by decide
  refine HC_of_vc (args := [.int .i64 ma, .int .i64 mb, .slice A n c]) (base := 146) (cuts := []) (bigs := []) kM Tryz.func7 ?_
  rw [vc13Sames]
  refine (alive13_spec h).mono ?_
  rintro v h1 ⟨t1, rfl⟩
  refine ⟨_, rfl, br_intro (fun e => by cases e) fun _ => ?_⟩
  refine (great13_spec (hs.updM (t1.m (S := fun _ => False)) fun _ _ _ h => h) (fun x hx => (hok x hx).turn t1) hn).mono ?_
  rintro v h4 ⟨k4, b, rfl, hb⟩
  have t4 : Turn h h4 := t1.trans ((k4.upd fun _ => False).m.turn fun _ _ h => h)
  have z4 := t4.size
  refine ⟨_, rfl, br_intro (fun _ => ⟨t4, rfl⟩) fun e1 => ?_⟩
  obtain ⟨hn100, hsum⟩ := hb e1
  have tab4 : h4[gb]? = some (gbO o) := t4.stay _ _ tabo rfl
  refine (mopen_spec (N := fun q => q < h4.size) fun q hq => hq).mono ?_
  rintro v h7 ⟨k7, rfl, m7, z7⟩
  have hSx := memSto 1000000 (h4.size + 1)
  refine ⟨_, _, rfl, (new_dn h7 4096).mono ?_⟩
  rintro v h11 ⟨k11, d, rfl, dn11⟩
  have z11 := k11.size
  have k4_11 : Keep h4.size h4 h11 := k7.trans (k11.mono (by omega))
  refine ⟨_, rfl, (lsopen_spec dn11 (k4_11.at tab4 (at_lt tab4)) (by omega)).mono ?_⟩
  rintro v h14 ⟨k14, t, s2, rfl, hs2, hs2', ls14⟩
  have z14 := k14.size
  have hSy := lsmSto o t d s2
  have k7_14 : Keep h7.size h7 h14 := k11.trans (k14.mono z11)
  have m14 : MemS (h4.size + 1) 0 (fun q => q < h4.size ∨ (h7.size ≤ q ∧ q < h14.size)) [] h14 := m7.own (T := fun _ => False) k7_14.m (fun _ _ h => h.elim) fun q hq => by
    rcases hq with hq | hq
    · exact ⟨.inl hq, by omega⟩
    · exact ⟨.inr hq.1, hq.2⟩
  refine ⟨_, _, rfl, (CaS.new hSx m14 (by omega) ma).mono ?_⟩
  rintro v h18 ⟨k18, rfl, cx18⟩
  have z18 := k18.size
  have ls18 : LsmS o t d s2 0 (fun q => (q < h7.size ∧ q ≠ gb) ∨ (h14.size ≤ q ∧ q < h18.size)) [] h18 := ls14.own (S := fun _ => False) k18.m (fun _ _ h => h.elim) fun q hq => by
    rcases hq with hq | hq
    · exact ⟨.inl hq, by omega⟩
    · exact ⟨.inr hq.1, hq.2⟩
  refine ⟨_, rfl, (CaS.new hSy ls18 (by omega) mb).mono ?_⟩
  rintro v h21 ⟨k21, rfl, cy21⟩
  have z21 := k21.size
  have cx21 := cx18.new_own hSx (T := fun _ => False) k21.m fun _ _ h => h.elim
  have k4_21 : Keep h4.size h4 h21 := k4_11.trans ((k14.mono (by omega)).trans ((k18.mono (by omega)).trans (k21.mono (by omega))))
  have t21 : Turn h h21 := t4.trans ((k4_21.upd fun _ => False).m.turn fun _ _ h => h)
  generalize mostOf ma = mo1 at cx21 cx18
  generalize mostOf mb = mo2 at cy21
  refine ⟨_, rfl, fun _ n26 H => ∃ (i : Nat) (P : Ps Str) (ux uy : Nat) (E1 E2 : List En) (hx hy : Int) (N1 N2 : Nat → Prop), n26 = i ∧ i ≤ n ∧ CaS (MemS (h4.size + 1)) (h4.size + 1) (h14.size + 1) mo1 ux N1 P E1 hx H ∧ CaS (LsmS o t d s2) s2 (h18.size + 1) mo2 uy N2 P E2 hy H ∧
      0 ≤ hx ∧ hx ≤ i ∧ 0 ≤ hy ∧ hy ≤ i ∧ ux ≤ sumC (l.take i) ∧ uy ≤ sumC (l.take i) ∧ P.length ≤ sumC (l.take i) ∧ (∀ q, q < H.size → N1 q ∨ N2 q) ∧ (∀ q, q < h4.size → N1 q ∧ (q ≠ gb → N2 q)) ∧ Turn h H,
    fun _ n26 _ => n - n26.toNat, ⟨0, [], 0, 0, [], [], 0, 0, _, _, rfl, Nat.zero_le _, cx21, cy21, Int.le_refl _, Int.le_refl _, Int.le_refl _, Int.le_refl _, Nat.zero_le _, Nat.zero_le _, Nat.zero_le _, fun q hq => ?_, fun q hq => ⟨.inl (.inl hq), fun e => .inl ⟨by omega, e⟩⟩, t21⟩, ?_⟩
  · by_cases h1 : q < h4.size
    · exact .inl (.inl (.inl h1))
    · by_cases h2 : q < h7.size
      · exact .inr (.inl ⟨h2, by omega⟩)
      · by_cases h3 : q < h14.size
        · exact .inl (.inl (.inr ⟨by omega, h3⟩))
        · by_cases h5 : q < h18.size
          · exact .inr (.inr ⟨by omega, h5⟩)
          · exact .inl (.inr ⟨by omega, hq⟩)
  clear cx21 cy21 cx18 ls18 m14 ls14 m7 dn11
  rintro bb n26 H ⟨i, P, ux, uy, E1, E2, hx, hy, N1, N2, rfl, hi, cx, cy, hx0, hx1, hy0, hy1, hux, huy, hP, cov, old, tH⟩
  have hsi := sumC_le l i
  have hNx : ∀ q, q < h.size → N1 q := fun q hq => (old q (by omega)).1
  -- an op on the one, an op on the other: what stays
  have stepx : ∀ {M1 M2 : Nat → Prop} {H1 H2 : Heap}, UpdM (fun q => ¬ M1 q) H1 H2 → (∀ q, q < H1.size → M1 q ∨ M2 q) → (∀ q, q < h4.size → M1 q ∧ (q ≠ gb → M2 q)) → Turn h H1 →
      Turn h H2 ∧ (∀ q, q < H2.size → M1 q ∨ Nv M2 H1 H2 q) ∧ (∀ q, q < h4.size → M1 q ∧ (q ≠ gb → Nv M2 H1 H2 q)) := fun {M1 M2 H1 H2} up cv od tt => by
    refine ⟨turn_of tt up fun q hq => (od q (by omega)).1, fun q hq => ?_, fun q hq => ⟨(od q hq).1, fun e => .inl ((od q hq).2 e)⟩⟩
    by_cases h0 : q < H1.size
    · exact (cv q h0).imp id .inl
    · exact .inr (.inr ⟨by omega, hq⟩)
  have stepy : ∀ {M1 M2 : Nat → Prop} {H1 H2 : Heap}, UpdM (fun q => ¬ M2 q ∧ q ≠ gb) H1 H2 → (∀ q, q < H1.size → M1 q ∨ M2 q) → (∀ q, q < h4.size → M1 q ∧ (q ≠ gb → M2 q)) → Turn h H1 →
      Turn h H2 ∧ (∀ q, q < H2.size → Nv M1 H1 H2 q ∨ M2 q) ∧ (∀ q, q < h4.size → Nv M1 H1 H2 q ∧ (q ≠ gb → M2 q)) := fun {M1 M2 H1 H2} up cv od tt => by
    refine ⟨UpdM.turn (S := fun q => ¬ M2 q ∧ q ≠ gb) (tt.m.trans up) fun q hq e => e.1 ((od q (by omega)).2 e.2), fun q hq => ?_, fun q hq => ⟨.inl (od q hq).1, (od q hq).2⟩⟩
    by_cases h0 : q < H1.size
    · exact (cv q h0).imp .inl id
    · exact .inl (.inr ⟨by omega, hq⟩)
  refine br_intro (fun hlt => ?_) fun hge => ?_
  · have hlt := of_decide_eq_true hlt
    have hq : l[i]? = some (l[i]'(by omega)) := List.getElem?_eq_getElem (by omega)
    have hm := List.getElem_mem (by omega : i < l.length)
    generalize l[i]'(by omega) = x at hq hm
    have hst := sumC_take hq
    have hsi1 := sumC_le l (i + 1)
    obtain ⟨p, eA, rd⟩ := cl_at (hs.updM (tH.m (S := fun _ => False)) fun _ _ _ h => h) hq
    refine ⟨p, ⟨eA, by omega, by omega⟩, _, _, _, _, _, _, by rw [Int.toNat_natCast]; exact rd, svc_cl rfl ?_⟩
    have kb := keep_push H (clBox x)
    have bb := push_at H (clBox x)
    have zb : (H.push (clBox x)).size = H.size + 1 := by simp
    generalize H.push (clBox x) = H1 at kb bb zb
    have tb : Turn h H1 := tH.trans ((kb.upd fun _ => False).m.turn fun _ _ h => h)
    have cx1 := cx.new_own hSx (T := fun _ => False) kb.m fun _ _ h => h.elim
    have cy1 := cy.new_own hSy (T := fun _ => False) kb.m fun _ _ h => h.elim
    have cov1 : ∀ q, q < H1.size → Nv N1 H H1 q ∨ Nv N2 H H1 q := fun q hq => by
      by_cases h0 : q < H.size
      · exact (cov q h0).imp .inl .inl
      · exact .inl (.inr ⟨by omega, hq⟩)
    have old1 : ∀ q, q < h4.size → Nv N1 H H1 q ∧ (q ≠ gb → Nv N2 H H1 q) := fun q hq => ⟨.inl (old q hq).1, fun e => .inl ((old q hq).2 e)⟩
    have box1 : Nv N1 H H1 H.size ∧ Nv N2 H H1 H.size := ⟨.inr ⟨Nat.le_refl _, by omega⟩, .inr ⟨Nat.le_refl _, by omega⟩⟩
    generalize Nv N1 H H1 = M1 at cx1 cov1 old1 box1
    generalize Nv N2 H H1 = M2 at cy1 cov1 old1 box1
    obtain ⟨wsl0, hlc, hln, wok, hks, hxn⟩ := hok x hm
    have hwl := wsl0.1
    have hii : IntKind.i64.wrap ((i : Int) + (1 : Int)) = ((i + 1 : Nat) : Int) := by rw [wrap_i64 (by omega) (by omega)]; rfl
    rw [hii]
    refine ⟨_, cl_kind bb, br_intro (fun _ => ?_) fun _ => br_intro (fun _ => ?_) fun _ => br_intro (fun _ => ?_) fun _ => ?_⟩
    · -- Get
      refine ⟨_, cl_key bb, (cx1.get hSx hx0 (by omega) x.key).mono ?_⟩
      rintro v H2 ⟨u2, rfl, cx2⟩
      have bb2 : H2[H.size]? = some (clBox x) := u2.cells bb fun e => e box1.1
      have cy2 := cy1.new_own hSy u2 fun q hq e => (cov1 q hq).resolve_left e
      obtain ⟨t2, cov2, old2⟩ := stepx u2 cov1 old1 tb
      have hh : 0 ≤ (hx + if (efind x.key E1).isSome = true then (1 : Int) else 0) ∧ (hx + if (efind x.key E1).isSome = true then (1 : Int) else 0) ≤ i + 1 := by split <;> omega
      generalize (hx + if (efind x.key E1).isSome = true then (1 : Int) else 0) = hx' at cx2 hh
      refine ⟨_, _, _, rfl, _, cl_key bb2, (cy2.get hSy hy0 (by omega) x.key).mono ?_⟩
      rintro v H3 ⟨u3, rfl, cy3⟩
      have u3' := upBut u3 cy2.gbo cy3.gbo
      have hh2 : 0 ≤ (hy + if (efind x.key E2).isSome = true then (1 : Int) else 0) ∧ (hy + if (efind x.key E2).isSome = true then (1 : Int) else 0) ≤ i + 1 := by split <;> omega
      generalize (hy + if (efind x.key E2).isSome = true then (1 : Int) else 0) = hy' at cy3 hh2
      have cx3 := cx2.new_own hSx u3' fun q hq e => (cov2 q hq).resolve_right e.1
      obtain ⟨t3, cov3, old3⟩ := stepy u3' cov2 old2 t2
      exact ⟨_, _, _, rfl, _, fun _ => reads_neqB, br_intro (fun e => by simp at e) fun _ => ⟨⟨i + 1, P, ux, uy, _, _, hx', hy', _, _, rfl, by omega, cx3, cy3, hh.1, by omega, hh2.1, by omega, by omega, by omega, by omega, cov3, old3, t3⟩, by dsimp only; omega⟩⟩
    · -- Apply
      have hAl : x.ln ≠ 0 → ∀ q, blk x.a q → q < h.size := fun h0 => sl_lt (by decide) wsl0 h0
      have wsl1 : Sl WrE H1 x.a x.ln x.ws := wsl0.updM (tb.m (S := fun _ => False)) fun _ _ _ h => h
      have hgbx : x.ln ≠ 0 → ∀ q, blk x.a q → q ≠ gb := fun h0 => wr_ne_gb tab wsl0 h0
      refine ⟨fun G => G[H.size]? = some (clBox x), bb, _, _, _, cl_ws bb, (cx1.apply hSx wsl1 hlc (by omega) (fun h0 q hq => (old1 q (by have := hAl h0 q hq; omega)).1) fun hlg => ?_).mono ?_⟩
      · have := (long_fit hlg).2
        omega
      rintro v H2 ⟨u2, a1, a2⟩
      have bb2 : H2[H.size]? = some (clBox x) := u2.cells bb fun e => e box1.1
      have cy2 := cy1.new_own hSy u2 fun q hq e => (cov1 q hq).resolve_left e
      obtain ⟨t2, cov2, old2⟩ := stepx u2 cov1 old1 tb
      have wsl2 : Sl WrE H2 x.a x.ln x.ws := wsl0.updM (t2.m (S := fun _ => False)) fun _ _ _ h => h
      have ap := cy2.apply hSy wsl2 hlc (by omega) (fun h0 q hq => (old2 q (by have := hAl h0 q hq; omega)).2 (hgbx h0 q hq)) fun hlg => by omega
      cases hlg : long x.ws with
      | true =>
        obtain ⟨cx2, rfl⟩ := a1 hlg
        refine ⟨_, rfl, bb2, _, _, _, fun G hG => cl_ws hG, ap.mono ?_⟩
        rintro v H3 ⟨u3, b1, _⟩
        obtain ⟨cy3, rfl⟩ := b1 hlg
        have u3' := upBut u3 cy2.gbo cy3.gbo
        have cx3 := cx2.new_own hSx u3' fun q hq e => (cov2 q hq).resolve_right e.1
        obtain ⟨t3, cov3, old3⟩ := stepy u3' cov2 old2 t2
        exact ⟨_, rfl, br_intro (fun e => by simp at e) fun _ => ⟨⟨i + 1, P, ux, uy, _, _, hx, hy, _, _, rfl, by omega, cx3, cy3, hx0, by omega, hy0, by omega, by omega, by omega, by omega, cov3, old3, t3⟩, by dsimp only; omega⟩⟩
      | false =>
        obtain ⟨cx2, rfl⟩ := a2 hlg
        refine ⟨_, rfl, bb2, _, _, _, fun G hG => cl_ws hG, ap.mono ?_⟩
        rintro v H3 ⟨u3, _, b2⟩
        obtain ⟨cy3, rfl⟩ := b2 hlg
        have u3' := upBut u3 cy2.gbo cy3.gbo
        have cx3 := cx2.new_own hSx u3' fun q hq e => (cov2 q hq).resolve_right e.1
        obtain ⟨t3, cov3, old3⟩ := stepy u3' cov2 old2 t2
        have hpl := dall_len x.ws P
        exact ⟨_, rfl, br_intro (fun e => by simp at e) fun _ => ⟨⟨i + 1, doneAll P x.ws, _, _, _, _, hx, hy, _, _, rfl, by omega, cx3, cy3, hx0, by omega, hy0, by omega, by omega, by omega, by omega, cov3, old3, t3⟩, by dsimp only; omega⟩⟩
    · -- Drop
      refine ⟨_, cl_n bb, (cx1.drop hSx hxn).mono ?_⟩
      rintro v H2 ⟨rfl, u2, cx2⟩
      have cy2 := cy1.new_own hSy u2 fun q hq e => (cov1 q hq).resolve_left e
      obtain ⟨t2, cov2, old2⟩ := stepx u2 cov1 old1 tb
      exact ⟨rfl, ⟨i + 1, P, ux, uy, _, _, hx, hy, _, _, rfl, by omega, cx2, cy2, hx0, by omega, hy0, by omega, by omega, by omega, by omega, cov2, old2, t2⟩, by dsimp only; omega⟩
    · exact ⟨⟨i + 1, P, ux, uy, _, _, hx, hy, _, _, rfl, by omega, cx1, cy1, hx0, by omega, hy0, by omega, by omega, by omega, by omega, cov1, old1, tb⟩, by dsimp only; omega⟩
  · have hPl : P.length ≤ 800 := by omega
    have hall : Kv.scan P ⟨#[]⟩ 9223372036854775807 = P := by
      unfold Kv.scan
      have : P.filter (fun p => !lt p.1 ⟨#[]⟩) = P := List.filter_eq_self.2 fun p _ => by
        have : lt p.1 ⟨#[]⟩ = false := by
          have hn : (⟨#[]⟩ : Str).toList = [] := by simp [ByteArray.toList_eq]
          unfold lt
          rw [hn]
          cases p.1.toList <;> rfl
        rw [this]; rfl
      rw [this, List.take_of_length_le (by show P.length ≤ (9223372036854775807 : Int).toNat; omega)]
    have hsrt : SrtP P := by
      obtain ⟨r, L, ml, _, _, hs', _⟩ := cx.ex
      exact hSx.srt hs'
    refine (cx.scan hSx (by omega) _ _).mono ?_
    rintro v h69 ⟨u69, cx69, a70, k72, rfl, s70, b70⟩
    rw [hall] at s70 ⊢
    have cy69 := cy.new_own hSy u69 fun q hq e => (cov q hq).resolve_left e
    obtain ⟨t69, cov69, old69⟩ := stepx u69 cov old tH
    refine ⟨_, _, _, _, rfl, (cy69.scanK (by omega) _ _).mono ?_⟩
    rintro v h75 ⟨k75, a76, k78, rfl, s76, b76⟩
    rw [hall] at s76 ⊢
    have cy75 := cy69.new_own hSy (T := fun _ => False) k75.m fun _ _ h => h.elim
    have t75 : Turn h h75 := t69.trans ((k75.upd fun _ => False).m.turn fun _ _ h => h)
    have o70 : ∀ q, blk a70 q → Nv (Nv N2 H h69) h69 h75 q := fun q hq => .inl (.inr (b70 q hq))
    have o76 : ∀ q, blk a76 q → Nv (Nv N2 H h69) h69 h75 q := fun q hq => .inr (b76 q hq)
    have oldY : ∀ q, q < h.size → q ≠ gb → Nv (Nv N2 H h69) h69 h75 q := fun q hq e => .inl ((old69 q (by omega)).2 e)
    generalize Nv (Nv N2 H h69) h69 h75 = M at cy75 o70 o76 oldY
    refine ⟨_, _, _, _, rfl, fun _ n83 G => ∃ (j : Nat) (E2' : List En) (hy' : Int) (M : Nat → Prop), n83 = j ∧ j ≤ P.length ∧ CaS (LsmS o t d s2) s2 (h18.size + 1) mo2 uy M P E2' hy' G ∧ 0 ≤ hy' ∧ hy' ≤ i + j ∧ Sl StrPairE G a70 P.length P ∧ Sl StrPairE G a76 P.length P ∧ Turn h G ∧
        (∀ q, blk a70 q → M q) ∧ (∀ q, blk a76 q → M q) ∧ (∀ q, q < h.size → q ≠ gb → M q),
      fun _ n83 _ => P.length - n83.toNat, ⟨0, _, hy, M, rfl, Nat.zero_le _, cy75, hy0, by omega, s70.keep k75, s76, t75, o70, o76, oldY⟩, ?_⟩
    clear cy75 o70 o76 oldY
    rintro b82 n83 G ⟨j, E2', hy', M, rfl, hj, cyG, hyG0, hyG1, sG, sG2, tG, o70, o76, oldY⟩
    refine br_intro (fun e => ?_) fun e => ?_
    · have e := of_decide_eq_true e
      have hjl : j < P.length := by omega
      have hq : P[j]? = some (P[j]'hjl) := List.getElem?_eq_getElem hjl
      have hm := List.getElem_mem hjl
      generalize P[j]'hjl = y at hq hm
      obtain ⟨p85, ea, rd⟩ := pr_at sG hq
      refine ⟨p85, ⟨ea, by omega, e⟩, _, _, by rw [Int.toNat_natCast]; exact rd, svc_pr (w := y) rfl ?_⟩
      have bx := push_at G (prBox y)
      have kx := keep_push G (prBox y)
      have zx : (G.push (prBox y)).size = G.size + 1 := by simp
      generalize G.push (prBox y) = G2 at bx kx zx
      have c2 := cyG.new_own hSy (T := fun _ => False) kx.m fun _ _ h => h.elim
      refine ⟨_, pr_k bx, (c2.get hSy hyG0 (by omega) y.1).mono ?_⟩
      rintro v h92 ⟨u92, rfl, c92⟩
      have hg : mGet P y.1 = some y.2 := (mGet_mem (srt_nodup hsrt) y.1 y.2).1 hm
      rw [hg] at c92 ⊢
      have hh2 : 0 ≤ (hy' + if (efind y.1 E2').isSome = true then (1 : Int) else 0) ∧ (hy' + if (efind y.1 E2').isSome = true then (1 : Int) else 0) ≤ i + (j + 1) := by split <;> omega
      generalize (hy' + if (efind y.1 E2').isSome = true then (1 : Int) else 0) = hy2 at c92 hh2
      have bx2 : h92[G.size]? = some (prBox y) := u92.cells bx fun e => e (.inr ⟨Nat.le_refl _, by omega⟩)
      have hjj : IntKind.i64.wrap ((j : Int) + (1 : Int)) = ((j + 1 : Nat) : Int) := by rw [wrap_i64 (by omega) (by omega)]; rfl
      rw [hjj]
      have u92' := upBut u92 c2.gbo c92.gbo
      have t92 : Turn h h92 := UpdM.turn (S := fun q => ¬ Nv M G G2 q ∧ q ≠ gb) ((tG.m.trans kx.m).trans u92') fun q hq e => e.1 (.inl (oldY q hq e.2))
      refine ⟨_, _, _, rfl, y.2, fun _ => pr_v bx2, br_intro (fun e => by simp at e) fun _ => ⟨⟨j + 1, _, hy2, _, rfl, by omega, c92, hh2.1, by omega, (sG.keep kx).updM u92 fun _ q hq e => e (.inl (o70 q hq)), (sG2.keep kx).updM u92 fun _ q hq e => e (.inl (o76 q hq)), t92, fun q hq => .inl (o70 q hq), fun q hq => .inl (o76 q hq), fun q hq e => .inl (oldY q hq e)⟩, by dsimp only; omega⟩⟩
    · refine (same08_spec sG sG2 (by omega)).mono ?_
      rintro v h98 ⟨rfl, rfl⟩
      exact ⟨_, rfl, tG, rfl⟩
end Go.Proofs.YtkhinnchplahlaaGreatDoor
end

section
namespace Go.Proofs.YtkhinnchplahlaaGreatDoor
open Go

noncomputable def low : Nat := (World.holding Tryz.prog default ⟨#[], #[], []⟩).heap.size
def lay (v : Array Value) : Obj → Obj
  | .cells _ t frozen => .cells v t frozen
  | o => o
noncomputable def laidWorld (os : Os) : World :=
  let w0 := World.holding Tryz.prog os ⟨#[.cells #[.string { data := #[105, 110, 118, 97, 108, 105, 100, 32, 115, 121, 110, 116, 97, 120] }] 273, .cells #[.string { data := #[118, 97, 108, 117, 101, 32, 111, 117, 116, 32, 111, 102, 32, 114, 97, 110, 103, 101] }] 273], #[], []⟩
  { w0 with heap := ((((w0.heap.modify 0 (lay #[.iface 271 (.pointer (some ⟨low, 0, none⟩))])).modify 1 (lay #[.iface 271 (.pointer (some ⟨low + 1, 0, none⟩))])).modify 2 (lay #[.int .u64 1, .int .u64 10, .int .u64 100, .int .u64 1000, .int .u64 10000, .int .u64 100000, .int .u64 1000000, .int .u64 10000000, .int .u64 100000000, .int .u64 1000000000, .int .u64 10000000000, .int .u64 100000000000, .int .u64 1000000000000, .int .u64 10000000000000, .int .u64 100000000000000, .int .u64 1000000000000000, .int .u64 10000000000000000, .int .u64 100000000000000000, .int .u64 1000000000000000000, .int .u64 10000000000000000000])).modify 3 (lay #[.int .u8 0, .int .u8 1, .int .u8 28, .int .u8 2, .int .u8 29, .int .u8 14, .int .u8 24, .int .u8 3, .int .u8 30, .int .u8 22, .int .u8 20, .int .u8 15, .int .u8 25, .int .u8 17, .int .u8 4, .int .u8 8, .int .u8 31, .int .u8 27, .int .u8 13, .int .u8 23, .int .u8 21, .int .u8 19, .int .u8 16, .int .u8 7, .int .u8 26, .int .u8 12, .int .u8 18, .int .u8 6, .int .u8 11, .int .u8 5, .int .u8 10, .int .u8 9])).modify 4 (lay #[.int .u8 0, .int .u8 1, .int .u8 56, .int .u8 2, .int .u8 57, .int .u8 49, .int .u8 28, .int .u8 3, .int .u8 61, .int .u8 58, .int .u8 42, .int .u8 50, .int .u8 38, .int .u8 29, .int .u8 17, .int .u8 4, .int .u8 62, .int .u8 47, .int .u8 59, .int .u8 36, .int .u8 45, .int .u8 43, .int .u8 51, .int .u8 22, .int .u8 53, .int .u8 39, .int .u8 33, .int .u8 30, .int .u8 24, .int .u8 18, .int .u8 12, .int .u8 5, .int .u8 63, .int .u8 55, .int .u8 48, .int .u8 27, .int .u8 60, .int .u8 41, .int .u8 37, .int .u8 16, .int .u8 46, .int .u8 35, .int .u8 44, .int .u8 21, .int .u8 52, .int .u8 32, .int .u8 23, .int .u8 11, .int .u8 54, .int .u8 26, .int .u8 40, .int .u8 15, .int .u8 34, .int .u8 20, .int .u8 31, .int .u8 10, .int .u8 25, .int .u8 14, .int .u8 19, .int .u8 9, .int .u8 13, .int .u8 8, .int .u8 7, .int .u8 6]) }
abbrev laidRows : List (String × DataW Unit) := [("math/bits.deBruijn32tab", Rows.laid_math_bits_deBruijn32tab), ("math/bits.deBruijn64tab", Rows.laid_math_bits_deBruijn64tab), ("internal/strconv.uint64pow10", Rows.laid_internal_strconv_uint64pow10), ("strconv.ErrRange", Rows.laid_strconv_ErrRange), ("strconv.ErrSyntax", Rows.laid_strconv_ErrSyntax)]
set_option maxRecDepth 100000 in
theorem laidWorld_met (os : Os) (args : Array Value) : laidMet Tryz.prog laidRows ((laidWorld os).forCall (fun _ _ => 0) ⟨#[], args, []⟩).memory :=
  laidMet_of_run3 8 (by kernel_rfl) (by kernel_rfl) (by kernel_rfl)
end Go.Proofs.YtkhinnchplahlaaGreatDoor
end

section
namespace Go.Proofs.YtkhinnchplahlaaGreatDoor
open Go Go.Vc Go.Proofs

set_option maxRecDepth 100000 in
theorem tab_of_laid {W : World} (h : laidMet Tryz.prog laidRows W) : TabH W.heap := by
  obtain ⟨ps, ⟨_, _, _, _, _, _, _, _, _, _, ⟨_, _, _, _, _, _, _, _, _, _, ⟨g', t', cs, fuel, p, q, hg', ht', hvar, hd, _, _⟩, _⟩, _⟩, _⟩ := h
  have hg : Tryz.prog.globalNamed "internal/strconv.uint64pow10" = some 2 := by kernel_rfl
  obtain rfl := Option.some.inj (hg.symm.trans hg')
  have hty : (Tryz.prog.globals[2]?).map (·.type) = some 280 := by kernel_rfl
  obtain rfl := Option.some.inj (hty.symm.trans ht')
  have e : (Rows.laid_internal_strconv_uint64pow10 : DataW Unit) = Lib.tabData .u64 Lib.pow10Tab := rfl
  rw [e] at hd
  have hcs := Lib.cells_of_tab (n := 20) (e := 33) (by kernel_rfl) (by kernel_rfl) (by kernel_rfl) (by kernel_rfl) hd
  unfold World.var? at hvar
  rw [hg] at hvar
  have hvar : (match W.heap[2]? with | some (Obj.cells cs _ _) => some cs | _ => none) = some cs := hvar
  cases hh : W.heap[2]? with
  | none => rw [hh] at hvar; cases hvar
  | some o =>
    rw [hh] at hvar
    cases o with
    | cells c t f =>
      have hc : c = cs := Option.some.inj hvar
      refine ⟨t, f, ?_⟩
      rw [hh, hc]
      have : cs = (Lib.pow10Tab.map fun z => Value.int .u64 z).toArray := by
        rw [← hcs]
      rw [this]
    | _ => cases hvar
end Go.Proofs.YtkhinnchplahlaaGreatDoor
end
