/-
  A cache keeps what is so of a key; it forgets the eldest. Conditions: none.
-/
import Derived.Test.YtcihjdalokaokaaGreatDoorKvK
import Derived.Test.YtcihjdalokaokaaGreatDoorVcQ
set_option linter.unusedVariables false
set_option linter.unusedSimpArgs false
set_option maxRecDepth 100000
namespace Go.Proofs.YtcihjdalokaokaaGreatDoor
open Go Go.Vc Go.Proofs Go.Dk Go.Kv

section
variable {h h' : Heap} {c : Nat} {d : Cd} {L : List (Nat × En)} {ml : List (Str × Nat)} {S : Nat → Prop}
/-- what a cache's own blocks are. -/
def ownC (c : Nat) (d : Cd) (L : List (Nat × En)) (q : Nat) : Prop := q = c ∨ q = d.r ∨ q ∈ L.map (·.1)
theorem Raw.lt (hr : Raw h c d L ml) : ∀ q, ownC c d L q → q < h.size := by
  rintro q (rfl | rfl | hq)
  · exact hr.ring.shp.lt.1
  · exact hr.map.lt
  · obtain ⟨p, hp, rfl⟩ := List.mem_map.1 hq
    exact hr.ring.shp.lt.2 p hp
/-- the eldest is forgotten. -/
theorem oldest_spec {b : Nat} {e : En} {K : Heap → Prop} (hr : Raw h c d ((b, e) :: L) ml)
    (k : ∀ h', Raw h' c d L (mDel ml e.key) → Upd (ownC c d ((b, e) :: L)) h h' → K h') :
    HC Tryz.prog 82 #[.pointer (some ⟨b, 0, none⟩)] h fun v h1 => v = .tuple #[] ∧ ∃ p, some (Addr.mk c 0 none) = some p ∧ ∃ a, Reads Tryz.prog (Instr.loadAt 152 (.pointer (some (p.add 2)))) h1 (.map a) ∧
      ∃ p2, some (Addr.mk b 0 none) = some p2 ∧ ∃ s, Reads Tryz.prog (Instr.loadAt 9 (.pointer (some p2))) h1 (.string s) ∧ SVC Tryz.prog (Builtin.delete_ #[152, 9] 0 #[.map a, .string s]) h1 fun v h2 => v = .tuple #[] ∧ K h2 := by
  have hrs := hr.ring.shp
  refine (out_spec (X := []) (Y := L) hr.ring).mono ?_
  rintro v h1 ⟨rfl, r1, s1, u1⟩
  obtain ⟨pn, pe, hc1⟩ := s1.ca
  obtain ⟨pn', pe', hb1⟩ := s1.en (b, e) List.mem_cons_self
  have hm1 : MapAt Me h1 d.r ml := hr.map.upd u1 fun hq => hq.elim hr.rc hr.rl
  refine ⟨rfl, _, rfl, _, reads_load kMe (cell_cells hc1 rfl), _, rfl, _, reads_load kS (cell_cells0 hb1 rfl), svc_delete (M := Me) (k := e.key) hm1 fun h2 z2 u2 m2 => ⟨rfl, k h2 ?_ ?_⟩⟩
  · have hnd : (mKeys ml).Nodup := by obtain ⟨_, _, _, _, h, _⟩ := hr.map; exact h
    have kn := hr.kn
    rw [List.map_cons] at kn
    have kn2 := List.nodup_cons.1 kn
    have rl := hr.rl
    rw [List.map_cons, List.mem_cons] at rl
    refine ⟨r1.updM u2.m (fun hq => hr.rc hq.symm) fun p hp hq => rl (.inr (hq ▸ List.mem_map_of_mem (f := fun p : Nat × En => p.1) hp)), m2, fun k' b' => ?_, ?_, kn2.2, hr.rc, fun hm => rl (.inr hm)⟩
    · rw [mGet_del hnd]
      by_cases ek : e.key = k'
      · rw [if_pos ek]
        constructor
        · intro h; cases h
        · rintro ⟨e1, hm, hk⟩
          exact absurd (by
            have : e.key = e1.key := ek.trans hk.symm
            rw [this]; exact List.mem_map_of_mem (f := fun p : Nat × En => p.2.key) hm) kn2.1
      · rw [if_neg ek, hr.get]
        constructor
        · rintro ⟨e1, hm, hk⟩
          rcases List.mem_cons.1 hm with hm | hm
          · cases hm; exact absurd hk ek
          · exact ⟨e1, hm, hk⟩
        · rintro ⟨e1, hm, hk⟩
          exact ⟨e1, List.mem_cons_of_mem _ hm, hk⟩
    · have h1 := mdel_len ml e.key b ((hr.get e.key b).2 ⟨e, List.mem_cons_self, rfl⟩)
      have h2 := hr.len
      rw [List.length_cons] at h2; omega
  · refine Upd.trans (u1.mono fun q hq => ?_) (u2.mono fun q hq => .inr (.inl hq))
    rcases hq with hq | hq
    · exact .inl hq
    · exact .inr (.inr hq)
/-- a new entry goes in at the end. -/
theorem fresh_spec {k v : Str} {is : Bool} {K : Heap → Prop} (hr : Raw h c d L ml) (hno : mGet ml k = none)
    (kk : ∀ h', Raw h' c d (L ++ [(h.size, ⟨k, v, is⟩)]) (mPut ml k h.size) → Upd (ownC c d L) h h' → h.size < h'.size → K h') :
    ∃ p, some (Addr.mk c 0 none) = some p ∧ ∃ a, Reads Tryz.prog (Instr.loadAt 152 (.pointer (some (p.add 2)))) (h.push (entBox ⟨k, ⟨#[]⟩, false⟩ none none)) (.map a) ∧
      SVC Tryz.prog (Instr.mapUpdate 152 (.map a) (.string k) (.pointer (some ⟨h.size, 0, none⟩))) (h.push (entBox ⟨k, ⟨#[]⟩, false⟩ none none)) fun _ h2 => ∃ p2, some (Addr.mk h.size 0 none) = some p2 ∧
      SVC Tryz.prog (Instr.storeAt 9 (.pointer (some (p2.add 1))) (.string v)) h2 fun _ h3 => ∃ p3, some (Addr.mk h.size 0 none) = some p3 ∧ SVC Tryz.prog (Instr.storeAt 4 (.pointer (some (p3.add 2))) (.bool is)) h3 fun _ h4 =>
      HC Tryz.prog 83 #[.pointer (some ⟨c, 0, none⟩), .pointer (some ⟨h.size, 0, none⟩)] h4 fun v h5 => v = .tuple #[] ∧ K h5 := by
  have kp := keep_push h (entBox ⟨k, ⟨#[]⟩, false⟩ none none)
  have bp := push_at h (entBox ⟨k, ⟨#[]⟩, false⟩ none none)
  have zp : (h.push (entBox ⟨k, ⟨#[]⟩, false⟩ none none)).size = h.size + 1 := by simp
  generalize h.push (entBox ⟨k, ⟨#[]⟩, false⟩ none none) = H at kp bp zp
  have hlt := hr.lt
  have hrH : Raw H c d L ml := hr.updM (S := fun _ => False) kp.m id id fun _ _ => id
  refine ⟨_, rfl, _, hrH.rm, svc_mapUpdate (M := Me) (k := k) (v := h.size) hrH.map fun h2 z2 u2 m2 => ⟨_, rfl, ?_⟩⟩
  have hne : h.size ≠ d.r := fun e => by have := hlt d.r (.inr (.inl rfl)); omega
  refine svc_ent_val (u2.at bp hne) fun h3 z3 b3 u3 => ⟨_, rfl, svc_ent_is b3 fun h4 z4 b4 u4 => ?_⟩
  have r2 : Ring h2 c d L := hrH.ring.updM u2.m (fun hq => hr.rc hq.symm) fun p hp hq => hr.rl (hq ▸ List.mem_map_of_mem (f := fun p : Nat × En => p.1) hp)
  have hcs : c ≠ h.size := fun e => by have := hlt c (.inl rfl); omega
  have hLs : ∀ p ∈ L, p.1 ≠ h.size := fun p hp e => by have := hlt p.1 (.inr (.inr (List.mem_map_of_mem (f := fun p : Nat × En => p.1) hp))); omega
  have r4 : Ring h4 c d L := (r2.updM u3.m hcs fun p hp => hLs p hp).updM u4.m hcs fun p hp => hLs p hp
  have m4 : MapAt Me h4 d.r (mPut ml k h.size) := (m2.upd u3 (Ne.symm hne)).upd u4 (Ne.symm hne)
  have hsn : h.size ∉ L.map (·.1) := fun hm => by
    obtain ⟨p, hp, e⟩ := List.mem_map.1 hm
    exact hLs p hp e
  refine (in_spec (e := ⟨k, v, is⟩) r4 (Shp.snoc r4 b4 (Ne.symm hcs) hsn)).mono ?_
  rintro w h5 ⟨rfl, r5, u5⟩
  have hsub : ∀ q, q < h.size → (q = c ∨ q ∈ (L ++ [(h.size, (⟨k, v, is⟩ : En))]).map (·.1)) → ownC c d L q := fun q hl hq => by
    simp only [List.map_append, List.map_cons, List.map_nil, List.mem_append, List.mem_cons, List.not_mem_nil, or_false] at hq
    rcases hq with hq | hq | hq
    · exact .inl hq
    · exact .inr (.inr hq)
    · omega
  have uu : Upd (ownC c d L) h h5 := by
    have a1 : Upd (fun q => q < h.size → ownC c d L q) h H := kp.upd _
    have a2 : Upd (fun q => q < h.size → ownC c d L q) H h5 := (((u2.mono fun q hq _ => .inr (.inl hq)).trans (u3.mono fun q hq hl => by omega)).trans (u4.mono fun q hq hl => by omega)).trans (u5.mono fun q hq hl => hsub q hl hq)
    exact (a1.trans a2).of_sub fun q hl hq => hq hl
  have z5 := u5.size
  refine ⟨rfl, kk h5 ⟨r5, m4.upd u5 fun hq => ?_, fun k' b' => ?_, ?_, ?_, hr.rc, fun hm => ?_⟩ uu (by omega)⟩
  · simp only [List.map_append, List.map_cons, List.map_nil, List.mem_append, List.mem_cons, List.not_mem_nil, or_false] at hq
    rcases hq with hq | hq | hq
    · exact hr.rc hq
    · exact hr.rl hq
    · exact hne hq.symm
  · rw [mGet_put]
    by_cases ek : k = k'
    · subst ek
      rw [if_pos rfl]
      constructor
      · intro h; cases h; exact ⟨_, List.mem_append_right _ List.mem_cons_self, rfl⟩
      · rintro ⟨e1, hm, hk⟩
        rcases List.mem_append.1 hm with hm | hm
        · have := (hr.get k b').2 ⟨e1, hm, hk⟩
          rw [hno] at this; cases this
        · cases List.mem_singleton.1 hm; rfl
    · rw [if_neg ek, hr.get]
      constructor
      · rintro ⟨e1, hm, hk⟩; exact ⟨e1, List.mem_append_left _ hm, hk⟩
      · rintro ⟨e1, hm, hk⟩
        rcases List.mem_append.1 hm with hm | hm
        · exact ⟨e1, hm, hk⟩
        · cases List.mem_singleton.1 hm; exact absurd hk ek
  · rw [mput_len ml k _ hno, hr.len]; simp
  · rw [List.map_append]
    refine List.nodup_append.2 ⟨hr.kn, by simp, fun x hx y hy e2 => ?_⟩
    have hy : y = k := by simpa using hy
    obtain ⟨p, hp, e3⟩ := List.mem_map.1 hx
    have := (hr.get k p.1).2 ⟨p.2, hp, e3.trans (e2.trans hy)⟩
    rw [hno] at this; cases this
  · simp only [List.map_append, List.map_cons, List.map_nil, List.mem_append, List.mem_cons, List.not_mem_nil, or_false] at hm
    rcases hm with hm | hm
    · exact hr.rl hm
    · exact hne hm.symm
theorem Raw.rnew (hr : Raw h c d L ml) : Reads Tryz.prog (Instr.loadAt 153 (.pointer (some (((⟨c, 0, none⟩ : Addr).add 3).add 3)))) h (.pointer (some ((L.map fun p => ad p.1).headD (endA c)))) := by
  have eC : (⟨c, 0, none⟩ : Addr).add 3 = endA c := Addr.add_row c 0 3
  rw [eC]
  exact nwf_rd hr.ring.ch.fore
set_option maxHeartbeats 1000000 in
theorem keep_spec {k v : Str} {is : Bool} (hr : Raw h c d L ml) (hmost : L.length ≤ d.most) (hm2 : d.most ≤ 1024) : HC Tryz.prog 85 #[.pointer (some ⟨c, 0, none⟩), .string k, .string v, .bool is] h fun w h' => w = .tuple #[] ∧
    ∃ L' ml', Raw h' c d L' ml' ∧ L'.map (fun p : Nat × En => p.2) = ekeep d.most (L.map (fun p : Nat × En => p.2)) k v is ∧ L'.length ≤ d.most ∧ (∀ q, ownC c d L' q → ownC c d L q ∨ h.size ≤ q) ∧ Upd (ownC c d L) h h' := by
  refine HC_of_vc (args := [.pointer (some ⟨c, 0, none⟩), .string k, .string v, .bool is]) (base := 70) (cuts := []) (bigs := []) kM Tryz.func85 ?_
  rw [vcCKeep]
  refine ⟨_, rfl, _, hr.rm, _, hr.look k, _, reads_eql_nil uEp, ?_⟩
  cases hg : mGet ml k with
  | none =>
    have hf := hr.miss hg
    refine br_intro (fun _ => ?_) fun e => by cases e
    refine ⟨_, rfl, _, hr.rmost, br_intro (fun e => ?_) fun e => ?_⟩
    · have e : d.most = 0 := by simpa using e
      refine ⟨rfl, L, ml, hr, ?_, hmost, fun q hq => .inl hq, Upd.refl _ _⟩
      unfold ekeep
      rw [hf, if_neg (by decide), if_pos e]
    · have e : d.most ≠ 0 := by simpa using e
      have hkeep : ∀ L2 : List (Nat × En), L2 = (if L.length = d.most then L.tail else L) → ∀ b, (L2 ++ [(b, (⟨k, v, is⟩ : En))]).map (fun p : Nat × En => p.2) = ekeep d.most (L.map (fun p : Nat × En => p.2)) k v is := fun L2 e2 b => by
        unfold ekeep
        rw [hf, if_neg (by decide), if_neg e, List.map_append, List.length_map, e2]
        split
        · rw [List.map_tail]; rfl
        · rfl
      refine ⟨_, rfl, _, hr.rm, _, reads_len_map hr.map, _, rfl, _, hr.rmost, br_intro (fun e2 => ?_) fun e2 => ?_⟩
      · have hlen := hr.len
        have e2 : ml.length = d.most := Int.ofNat_inj.1 (beq_iff_eq.1 e2)
        cases hL : L with
        | nil => rw [hL, List.length_nil] at hlen; omega
        | cons p L1 =>
          obtain ⟨b, e0⟩ := p
          subst hL
          have rn := hr.rnew
          refine ⟨_, rfl, _, rn, ?_⟩
          refine (oldest_spec (K := fun h2 => ∃ p, some (Addr.mk c 0 none) = some p ∧ ∃ a, Reads Tryz.prog (Instr.loadAt 152 (.pointer (some (p.add 2)))) (h2.push (entBox ⟨k, ⟨#[]⟩, false⟩ none none)) (.map a) ∧
            SVC Tryz.prog (Instr.mapUpdate 152 (.map a) (.string k) (.pointer (some ⟨h2.size, 0, none⟩))) (h2.push (entBox ⟨k, ⟨#[]⟩, false⟩ none none)) fun _ h3 => ∃ p2, some (Addr.mk h2.size 0 none) = some p2 ∧
            SVC Tryz.prog (Instr.storeAt 9 (.pointer (some (p2.add 1))) (.string v)) h3 fun _ h4 => ∃ p3, some (Addr.mk h2.size 0 none) = some p3 ∧ SVC Tryz.prog (Instr.storeAt 4 (.pointer (some (p3.add 2))) (.bool is)) h4 fun _ h5 =>
            HC Tryz.prog 83 #[.pointer (some ⟨c, 0, none⟩), .pointer (some ⟨h2.size, 0, none⟩)] h5 fun w h' => w = .tuple #[] ∧ (Value.tuple #[] = .tuple #[] ∧
              ∃ L' ml', Raw h' c d L' ml' ∧ L'.map (fun p : Nat × En => p.2) = ekeep d.most (((b, e0) :: L1).map (fun p : Nat × En => p.2)) k v is ∧ L'.length ≤ d.most ∧ (∀ q, ownC c d L' q → ownC c d ((b, e0) :: L1) q ∨ h.size ≤ q) ∧ Upd (ownC c d ((b, e0) :: L1)) h h')) hr fun h2 hr2 u2 => ?_).mono fun _ _ h => h
          have hno2 : mGet (mDel ml e0.key) k = none := by
            have hnd : (mKeys ml).Nodup := by obtain ⟨_, _, _, _, h, _⟩ := hr.map; exact h
            rw [mGet_del hnd]; split <;> first | rfl | exact hg
          refine fresh_spec hr2 hno2 fun h' hr' u' z' => ⟨rfl, _, _, hr', hkeep L1 ?_ _, ?_, fun q hq => ?_, ?_⟩
          · rw [if_pos (by rw [← hlen]; exact e2)]; rfl
          · simp only [List.length_append, List.length_cons, List.length_nil] at hmost ⊢; omega
          · have hz := u2.size
            rcases hq with hq | hq | hq
            · exact .inl (.inl hq)
            · exact .inl (.inr (.inl hq))
            · simp only [List.map_append, List.map_cons, List.map_nil, List.mem_append, List.mem_cons, List.not_mem_nil, or_false] at hq
              rcases hq with hq | hq
              · exact .inl (.inr (.inr (List.mem_cons_of_mem _ hq)))
              · exact .inr (by omega)
          · refine u2.trans (u'.mono fun q hq => ?_)
            rcases hq with hq | hq | hq
            · exact .inl hq
            · exact .inr (.inl hq)
            · exact .inr (.inr (List.mem_cons_of_mem _ hq))
      · have hlen := hr.len
        have e2 : ml.length ≠ d.most := by
          intro e3; rw [e3] at e2; simp at e2
        refine fresh_spec hr hg fun h' hr' u' z' => ⟨rfl, _, _, hr', hkeep L ?_ _, ?_, fun q hq => ?_, u'⟩
        · rw [if_neg (by rw [← hlen]; exact e2)]
        · simp only [List.length_append, List.length_cons, List.length_nil]; omega
        · rcases hq with hq | hq | hq
          · exact .inl (.inl hq)
          · exact .inl (.inr (.inl hq))
          · simp only [List.map_append, List.map_cons, List.map_nil, List.mem_append, List.mem_cons, List.not_mem_nil, or_false] at hq
            rcases hq with hq | hq
            · exact .inl (.inr (.inr hq))
            · exact .inr (by omega)
  | some b =>
    obtain ⟨X, Y, e, rfl, hk, hf, hcut⟩ := hr.hit hg
    refine br_intro (fun e => by cases e) fun _ => ?_
    refine (out_spec hr.ring).mono ?_
    rintro w h46 ⟨rfl, r46, s46, u46⟩
    obtain ⟨pn, pe, b46⟩ := s46.en (b, e) (by simp)
    refine ⟨rfl, _, rfl, svc_ent_val b46 fun h49 z49 b49 u49 => ⟨_, rfl, svc_ent_is b49 fun h52 z52 b52 u52 => ?_⟩⟩
    have hs := hr.ring.shp
    have hnd := hs.nd
    rw [List.map_append, List.map_cons] at hnd
    obtain ⟨n1, n2, n3⟩ := List.nodup_append.1 hnd
    have hbc : c ≠ b := fun e2 => hs.ne (p := (b, e)) (by simp) e2.symm
    have hXY : ∀ p ∈ X ++ Y, p.1 ≠ b := fun p hp e2 => by
      rcases List.mem_append.1 hp with hp | hp
      · exact n3 _ (List.mem_map_of_mem (f := fun p : Nat × En => p.1) hp) _ List.mem_cons_self e2
      · have hh := List.mem_map_of_mem (f := fun p : Nat × En => p.1) hp
        rw [e2] at hh
        exact (List.nodup_cons.1 n2).1 hh
    have r52 : Ring h52 c d (X ++ Y) := (r46.updM u49.m hbc fun p hp => hXY p hp).updM u52.m hbc fun p hp => hXY p hp
    have hrb : d.r ≠ b := fun e2 => hr.rl (by rw [e2]; simp)
    have m46 : MapAt Me h46 d.r ml := hr.map.upd u46 fun hq => hq.elim hr.rc hr.rl
    have m52 : MapAt Me h52 d.r ml := (m46.upd u49 hrb).upd u52 hrb
    have u52' : Upd (fun q => q = c ∨ q ∈ (X ++ (b, e) :: Y).map (·.1)) h h52 := (u46.trans (u49.mono fun q hq => .inr (by rw [hq]; simp))).trans (u52.mono fun q hq => .inr (by rw [hq]; simp))
    refine (reput_spec (v := v) (is := is) (K := fun h' => Value.tuple #[] = .tuple #[] ∧ ∃ L' ml', Raw h' c d L' ml' ∧ L'.map (fun p : Nat × En => p.2) = ekeep d.most ((X ++ (b, e) :: Y).map (fun p : Nat × En => p.2)) k v is ∧ L'.length ≤ d.most ∧ (∀ q, ownC c d L' q → ownC c d (X ++ (b, e) :: Y) q ∨ h.size ≤ q) ∧ Upd (ownC c d (X ++ (b, e) :: Y)) h h') hr r52 ⟨pn, pe, b52⟩ m52 u52' fun h' r' u' => ⟨rfl, _, _, r', ?_, ?_, fun q hq => .inl ?_, u'.mono fun q hq => ?_⟩).mono fun _ _ h => h
    · unfold ekeep
      rw [hf, if_pos (by rfl), hcut, List.map_append, hk]; rfl
    · simp only [List.length_append, List.length_cons, List.length_nil] at hmost ⊢; omega
    · rcases hq with hq | hq | hq
      · exact .inl hq
      · exact .inr (.inl hq)
      · simp only [List.map_append, List.map_cons, List.map_nil, List.mem_append, List.mem_cons, List.not_mem_nil, or_false] at hq ⊢
        refine .inr (.inr ?_)
        simp only [List.map_append, List.map_cons, List.mem_append, List.mem_cons]
        rcases hq with (hq | hq) | hq
        · exact .inl hq
        · exact .inr (.inr hq)
        · exact .inr (.inl hq)
    · rcases hq with hq | hq
      · exact .inl hq
      · exact .inr (.inr hq)
end
end Go.Proofs.YtcihjdalokaokaaGreatDoor
