/-
  A cache ahead of a store: what it answers is the store's. Conditions: none.
-/
import Derived.Test.YtcihjdalokaokaaGreatDoorKvL
import Derived.Test.YtcihjdalokaokaaGreatDoorKvD
set_option linter.unusedVariables false
set_option linter.unusedSimpArgs false
set_option maxRecDepth 100000
namespace Go.Proofs.YtcihjdalokaokaaGreatDoor
open Go Go.Vc Go.Proofs Go.Dk Go.Kv

/-- how often it was a hit. -/
theorem Raw.svc_hits {h : Heap} {c : Nat} {d : Cd} {L : List (Nat × En)} {ml : List (Str × Nat)} (hr : Raw h c d L ml) {n : Int} {K : Unit → Heap → Prop} (k : ∀ h', Raw h' c { d with hits := n } L ml → Upd (fun q => q = c) h h' → K () h') :
    SVC Tryz.prog (Instr.storeAt 3 (.pointer (some ((⟨c, 0, none⟩ : Addr).add 8))) (.int .i64 n)) h K := by
  obtain ⟨pn, pe, hb⟩ := hr.ring.shp.ca
  refine svc_store_box (k := 8) zI hb (by simp) rfl (one_int _ _) fun h' z' b' u' => k h' ⟨⟨⟨⟨pn, pe, by rw [b']; rfl⟩, fun p hp => ?_, hr.ring.shp.cl, hr.ring.shp.nd⟩, ?_⟩, hr.map.upd u' hr.rc, hr.get, hr.len, hr.kn, hr.rc, hr.rl⟩ u'
  · obtain ⟨pn, pe, hc⟩ := hr.ring.shp.en p hp
    exact ⟨pn, pe, u'.at hc (hr.ring.shp.ne hp)⟩
  · have hx : ∀ x, At_ c L x → nwf c h' x = nwf c h x ∧ elf c h' x = elf c h x := fun x hx => by
      have e : ∀ i, i = 3 ∨ i = 4 → cell h' (x.add i) = cell h (x.add i) := fun i hi => by
        rcases hx with rfl | ⟨p, hp, rfl⟩
        · rw [Addr.add_row, cell_at b', cell_at hb]
          rcases hi with rfl | rfl <;> rfl
        · refine cell_congr ?_
          obtain ⟨pn, pe, hc⟩ := hr.ring.shp.en p hp
          rw [Addr.add_block, u'.at hc (hr.ring.shp.ne hp), hc]
      unfold nwf elf
      rw [e 3 (.inl rfl), e 4 (.inr rfl)]; exact ⟨rfl, rfl⟩
    have hmem : ∀ x ∈ L.map (fun p => ad p.1), At_ c L x := fun x hm => by
      obtain ⟨p, hp, e⟩ := List.mem_map.1 hm
      exact .inr ⟨p, hp, e.symm⟩
    refine Ch.congr _ hr.ring.ch (fun x hm => ?_) (fun x hm => (hx x (hmem x hm)).2) (hx _ (.inl rfl)).2
    rcases List.mem_cons.1 hm with rfl | hm
    · exact (hx _ (.inl rfl)).1
    · exact (hx x (hmem x hm)).1
/-- a cache of so many entries ahead of a store. -/
structure CaS (S : Nat → (Nat → Prop) → Ps Str → Heap → Prop) (s c most u : Nat) (N : Nat → Prop) (P : Ps Str) (E : List En) (hits : Int) (h : Heap) : Prop where
  ex : ∃ r L ml, Raw h c ⟨s, most, r, hits⟩ L ml ∧ L.map (·.2) = E ∧ S u (fun q => N q ∨ ownC c ⟨s, most, r, hits⟩ L q) P h ∧ ∀ q, N q → ¬ ownC c ⟨s, most, r, hits⟩ L q
  len : E.length ≤ most
  lm : most ≤ 1024
  good : ∀ e ∈ E, GoodE P e
  kn : (ekeys E).Nodup
section
variable {S : Nat → (Nat → Prop) → Ps Str → Heap → Prop} {M s c most u : Nat} {N : Nat → Prop} {P : Ps Str} {E : List En} {hits : Int} {h : Heap}
theorem CaS.lt (hS : Sto M S s) (hc : CaS S s c most u N P E hits h) : ∀ q, N q → q < h.size := fun q hq => by
  obtain ⟨r, L, ml, hr, hE, hs, hN⟩ := hc.ex
  exact hS.lt hs q (.inl hq)
theorem Raw.kn' {d : Cd} {L : List (Nat × En)} {ml : List (Str × Nat)} (hr : Raw h c d L ml) : (ekeys (L.map (·.2))).Nodup := by
  have := hr.kn
  unfold ekeys
  rw [List.map_map]; exact this
theorem CaS.own (hS : Sto M S s) (hc : CaS S s c most u N P E hits h) {T N' : Nat → Prop} {h' : Heap} (u1 : UpdM T h h') (hT : ∀ q, q < h.size → T q → N q) (hN' : ∀ q, N' q → (N q ∨ h.size ≤ q) ∧ q < h'.size) : CaS S s c most u N' P E hits h' := by
  obtain ⟨r, L, ml, hr, hE, hs, hN⟩ := hc.ex
  have hlt := hr.lt
  have uT : UpdM N h h' := u1.of_sub hT
  have ho : ∀ q, ownC c ⟨s, most, r, hits⟩ L q → ¬ N q := fun q hq hn => hN q hn hq
  refine ⟨⟨r, L, ml, hr.updM uT (ho _ (.inl rfl)) (ho _ (.inr (.inl rfl))) fun p hp => ho _ (.inr (.inr (List.mem_map_of_mem (f := fun p : Nat × En => p.1) hp))), hE, hS.own hs u1 (fun q hl hq => .inl (hT q hl hq)) fun q hq => ?_, fun q hq ho' => ?_⟩, hc.len, hc.lm, hc.good, hc.kn⟩
  · rcases hq with hq | hq
    · exact ⟨(hN' q hq).1.imp .inl id, (hN' q hq).2⟩
    · exact ⟨.inl (.inr hq), Nat.lt_of_lt_of_le (hlt q hq) u1.size⟩
  · rcases (hN' q hq).1 with h1 | h1
    · exact hN q h1 ho'
    · have := hlt q ho'; omega
/-- what only the cache's own blocks turned on leaves the store be. -/
theorem sto_after (hS : Sto M S s) {O O' : Nat → Prop} {h' : Heap} (hs : S u (fun q => N q ∨ O q) P h) (u1 : Upd O h h') (hO : ∀ q, O' q → (O q ∨ h.size ≤ q) ∧ q < h'.size) : S u (fun q => N q ∨ O' q) P h' :=
  hS.own hs u1.m (fun q _ hq => .inr hq) fun q hq => by
    rcases hq with hq | hq
    · exact ⟨.inl (.inl hq), Nat.lt_of_lt_of_le (hS.lt hs q (.inl hq)) u1.size⟩
    · exact ⟨(hO q hq).1.imp .inr id, (hO q hq).2⟩
/-- one more is remembered. -/
theorem CaS.keep (hS : Sto M S s) {r : Nat} {L : List (Nat × En)} {ml : List (Str × Nat)} (hr : Raw h c ⟨s, most, r, hits⟩ L ml) (hl : L.length ≤ most) (lm : most ≤ 1024) (hs : S u (fun q => N q ∨ ownC c ⟨s, most, r, hits⟩ L q) P h) (hN : ∀ q, N q → ¬ ownC c ⟨s, most, r, hits⟩ L q) (k v : Str) (is : Bool) :
    HC Tryz.prog 85 #[.pointer (some ⟨c, 0, none⟩), .string k, .string v, .bool is] h fun w h' => w = .tuple #[] ∧ UpdM (fun q => ¬ N q) h h' ∧ ∃ L' ml', Raw h' c ⟨s, most, r, hits⟩ L' ml' ∧ L'.map (·.2) = ekeep most (L.map (·.2)) k v is ∧ L'.length ≤ most ∧
      S u (fun q => N q ∨ ownC c ⟨s, most, r, hits⟩ L' q) P h' ∧ (∀ q, N q → ¬ ownC c ⟨s, most, r, hits⟩ L' q) := by
  refine (keep_spec hr hl lm).mono ?_
  rintro w h' ⟨rfl, L', ml', hr', hE, hl', ho, u1⟩
  have hlt := hr'.lt
  refine ⟨rfl, u1.m.mono fun q hq hn => hN q hn hq, L', ml', hr', hE, hl', sto_after hS hs u1 fun q hq => ⟨ho q hq, hlt q hq⟩, fun q hn hq => ?_⟩
  rcases ho q hq with h1 | h1
  · exact hN q hn h1
  · have := hS.lt hs q (.inl hn); omega
set_option maxHeartbeats 1000000 in
theorem CaS.get (hS : Sto M S s) (hc : CaS S s c most u N P E hits h) (h0 : 0 ≤ hits) (h1 : hits < 1000000000) (k : Str) : HC Tryz.prog 33 #[.pointer (some ⟨c, 0, none⟩), .string k] h fun v h' => UpdM (fun q => ¬ N q) h h' ∧
    v = .tuple #[.string ((mGet P k).getD ⟨#[]⟩), .bool (mGet P k).isSome, .int .i64 0] ∧ CaS S s c most u N P (ekeep most E k ((mGet P k).getD ⟨#[]⟩) (mGet P k).isSome) (hits + if (efind k E).isSome then 1 else 0) h' := by
  obtain ⟨r, L, ml, hr, rfl, hs, hN⟩ := hc.ex
  have hgood := hc.good
  have hgg := good_get (most := most) hgood k
  have hll := ekeep_len (k := k) (v := (mGet P k).getD ⟨#[]⟩) (is := (mGet P k).isSome) hc.len
  have hl : L.length ≤ most := by have := hc.len; rw [List.length_map] at this; exact this
  refine HC_of_vc (args := [.pointer (some ⟨c, 0, none⟩), .string k]) (base := 61) (cuts := []) (bigs := []) kM Tryz.func33 ?_
  rw [vcCGet]
  refine ⟨_, reads_eql_nil uCp, br_intro (fun e => by cases e) fun _ => ⟨_, rfl, _, hr.rm, _, hr.look k, _, reads_neq_nil uEp, ?_⟩⟩
  cases hg : mGet ml k with
  | some b =>
    obtain ⟨X, Y, e, rfl, hk, hf, hcut⟩ := hr.hit hg
    have hge := hgood e (by simp)
    have hev : e.is = (mGet P k).isSome ∧ e.val = (mGet P k).getD ⟨#[]⟩ := hk ▸ hge
    refine br_intro (fun _ => ?_) fun e => by cases e
    refine ⟨_, rfl, _, hr.rhits, _, rfl, ?_⟩
    rw [wrap_i64 (by dsimp only; omega) (by dsimp only; omega)]
    refine hr.svc_hits fun h9 hr9 u9 => ?_
    refine (out_spec hr9.ring).mono ?_
    rintro w h11 ⟨rfl, r11, s11, u11⟩
    obtain ⟨pn, pe, b11⟩ := s11.en (b, e) (by simp)
    have m11 : MapAt Me h11 r ml := hr9.map.upd u11 fun hq => hq.elim hr.rc hr.rl
    refine ⟨rfl, (reput_spec (v := e.val) (is := e.is) hr9 r11 ⟨pn, pe, b11⟩ m11 u11 (K := fun h13 => _) fun h13 r13 u13 => ?_)⟩
    obtain ⟨pn', pe', b13⟩ := r13.ring.shp.en (b, ⟨e.key, e.val, e.is⟩) (by simp)
    refine ⟨_, rfl, _, reads_load kS (cell_cells b13 rfl), _, rfl, _, reads_load kB (cell_cells b13 rfl), ?_⟩
    have uu : Upd (ownC c ⟨s, most, r, hits⟩ (X ++ (b, e) :: Y)) h h13 := (u9.mono fun q hq => .inl hq).trans (u13.mono fun q hq => hq.imp id .inr)
    have hsub : ∀ q, ownC c ⟨s, most, r, hits + 1⟩ (X ++ Y ++ [(b, (⟨e.key, e.val, e.is⟩ : En))]) q → ownC c ⟨s, most, r, hits⟩ (X ++ (b, e) :: Y) q := fun q hq => by
      rcases hq with hq | hq | hq
      · exact .inl hq
      · exact .inr (.inl hq)
      · refine .inr (.inr ?_)
        simp only [List.map_append, List.map_cons, List.map_nil, List.mem_append, List.mem_cons, List.not_mem_nil, or_false] at hq ⊢
        rcases hq with (hq | hq) | hq
        · exact .inl hq
        · exact .inr (.inr hq)
        · exact .inr (.inl hq)
    have hlt := r13.lt
    have hEq : (X ++ Y ++ [(b, (⟨e.key, e.val, e.is⟩ : En))]).map (·.2) = ekeep most ((X ++ (b, e) :: Y).map (·.2)) k ((mGet P k).getD ⟨#[]⟩) (mGet P k).isSome := by
      unfold ekeep
      rw [hf, if_pos (by rfl), hcut, List.map_append, ← hev.1, ← hev.2, hk]; rfl
    have hkn := r13.kn'
    rw [hEq] at hkn
    refine ⟨uu.m.mono fun q hq hn => hN q hn hq, by rw [hev.1, hev.2], ?_⟩
    rw [hf]
    exact ⟨⟨r, _, ml, r13, hEq, sto_after hS hs uu fun q hq => ⟨.inl (hsub q hq), hlt q hq⟩, fun q hn hq => hN q hn (hsub q hq)⟩, hll, hc.lm, hgg, hkn⟩
  | none =>
    have hf := hr.miss hg
    refine br_intro (fun e => by cases e) fun _ => ?_
    refine ⟨_, rfl, _, hr.rs, (hS.get hs k).mono ?_⟩
    rintro v h21 ⟨s21, u21, rfl⟩
    have ho : ∀ q, ownC c ⟨s, most, r, hits⟩ L q → ¬ ¬ (N q ∨ ownC c ⟨s, most, r, hits⟩ L q) := fun q hq hn => hn (.inr hq)
    have r21 : Raw h21 c ⟨s, most, r, hits⟩ L ml := hr.updM u21 (ho _ (.inl rfl)) (ho _ (.inr (.inl rfl))) fun p hp => ho _ (.inr (.inr (List.mem_map_of_mem (f := fun p : Nat × En => p.1) hp)))
    refine ⟨_, _, _, rfl, br_intro (fun _ => ?_) fun e => by simp at e⟩
    refine (CaS.keep hS r21 hl hc.lm s21 hN k _ _).mono ?_
    rintro w h26 ⟨rfl, u26, L', ml', r26, hEq, hl', s26, hN'⟩
    have hkn := r26.kn'
    rw [hEq] at hkn
    refine ⟨rfl, (u21.mono fun q hq hn => hq (.inl hn)).trans u26, rfl, ?_⟩
    rw [hf]
    have e0 : hits + (if (none : Option En).isSome = true then 1 else 0) = hits := by simp
    rw [e0]
    exact ⟨⟨r, L', ml', r26, hEq, s26, hN'⟩, hll, hc.lm, hgg, hkn⟩
end
end Go.Proofs.YtcihjdalokaokaaGreatDoor
