/-
  A cache ahead of a store: writes, how many entries, hits, what is dropped, a new one. Conditions: none.
-/
import Derived.Test.YtcihjdalokaokaaGreatDoorKvT
set_option linter.unusedVariables false
set_option linter.unusedSimpArgs false
set_option maxRecDepth 100000
namespace Go.Proofs.YtcihjdalokaokaaGreatDoor
open Go Go.Vc Go.Proofs Go.Dk Go.Kv

/-- a cache's ring, and its store beside. -/
structure CaR (S : Nat → (Nat → Prop) → Ps Str → Heap → Prop) (s c most u : Nat) (N : Nat → Prop) (P : Ps Str) (r : Nat) (L : List (Nat × En)) (ml : List (Str × Nat)) (hits : Int) (h : Heap) : Prop where
  raw : Raw h c ⟨s, most, r, hits⟩ L ml
  len : L.length ≤ most
  sto : S u (fun q => N q ∨ ownC c ⟨s, most, r, hits⟩ L q) P h
  dis : ∀ q, N q → ¬ ownC c ⟨s, most, r, hits⟩ L q
section
variable {S : Nat → (Nat → Prop) → Ps Str → Heap → Prop} {M s c most u : Nat} {N : Nat → Prop} {P : Ps Str} {E : List En} {hits : Int} {h : Heap}
theorem CaR.keep {r : Nat} {L : List (Nat × En)} {ml : List (Str × Nat)} (hS : Sto M S s) (hc : CaR S s c most u N P r L ml hits h) {h' : Heap} (k : Keep h.size h h') : CaR S s c most u N P r L ml hits h' := by
  have u1 : UpdM (fun _ => False) h h' := ((k.upd fun _ => False)).m
  refine ⟨hc.raw.updM u1 id id fun _ _ => id, hc.len, hS.own hc.sto u1 (fun _ _ h => h.elim) fun q hq => ⟨.inl hq, Nat.lt_of_lt_of_le (hS.lt hc.sto q hq) u1.size⟩, hc.dis⟩
theorem CaS.rr (hc : CaS S s c most u N P E hits h) : ∃ r L ml, CaR S s c most u N P r L ml hits h ∧ L.map (·.2) = E := by
  obtain ⟨r, L, ml, hr, rfl, hs, hN⟩ := hc.ex
  exact ⟨r, L, ml, ⟨hr, by have := hc.len; rw [List.length_map] at this; exact this, hs, hN⟩, rfl⟩
theorem CaR.cas {r : Nat} {L : List (Nat × En)} {ml : List (Str × Nat)} (hc : CaR S s c most u N P r L ml hits h) (lm : most ≤ 1024) (hE : L.map (·.2) = E) (hg : ∀ e ∈ E, GoodE P e) : CaS S s c most u N P E hits h := by
  refine ⟨⟨r, L, ml, hc.raw, hE, hc.sto, hc.dis⟩, ?_, lm, hg, ?_⟩
  · rw [← hE, List.length_map]; exact hc.len
  · have := hc.raw.kn'; rw [hE] at this; exact this
set_option maxHeartbeats 1000000 in
theorem CaS.apply (hS : Sto M S s) (hc : CaS S s c most u N P E hits h) {A : Option Addr} {n cc : Nat} {l : List Wr} (hs : Sl WrE h A n l) (hcc : n ≤ cc) (hn : n ≤ 9223372036854775807) (hA : n ≠ 0 → ∀ q, blk A q → N q) (hM : long l = false → u + n ≤ M) :
    HC Tryz.prog 34 #[.pointer (some ⟨c, 0, none⟩), .slice A n cc] h fun v h' => UpdM (fun q => ¬ N q) h h' ∧ (long l = true → CaS S s c most u N P E hits h' ∧ v = .int .i64 3) ∧
      (long l = false → CaS S s c most (u + n) N (doneAll P l) (l.foldl (eput most) E) hits h' ∧ v = .int .i64 0) := by
  obtain ⟨r, L, ml, hR, rfl⟩ := hc.rr
  have hl := hs.1
  have sP := hS.srt hR.sto
  have hgl := good_puts l sP hc.len hc.good
  refine HC_of_vc (args := [.pointer (some ⟨c, 0, none⟩), .slice A n cc]) (base := 38) (cuts := []) (bigs := []) kM Tryz.func34 ?_
  rw [vcCApply]
  refine ⟨_, reads_eql_nil uCp, br_intro (fun e => by cases e) fun _ => ⟨_, rfl, _, hR.raw.rs, (hS.apply hR.sto hs hcc hn (fun h0 q hq => .inl (hA h0 q hq)) hM).mono ?_⟩⟩
  rintro v h4 ⟨u4, a1, a2⟩
  have u4N : UpdM (fun q => ¬ N q) h h4 := u4.mono fun q hq hn => hq (.inl hn)
  have ho : ∀ q, ownC c ⟨s, most, r, hits⟩ L q → ¬ ¬ (N q ∨ ownC c ⟨s, most, r, hits⟩ L q) := fun q hq hn => hn (.inr hq)
  have r4 : Raw h4 c ⟨s, most, r, hits⟩ L ml := hR.raw.updM u4 (ho _ (.inl rfl)) (ho _ (.inr (.inl rfl))) fun p hp => ho _ (.inr (.inr (List.mem_map_of_mem (f := fun p : Nat × En => p.1) hp)))
  cases hlg : long l with
  | true =>
    obtain ⟨s4, rfl⟩ := a1 hlg
    refine ⟨_, rfl, br_intro (fun e => by simp at e) fun _ => ⟨u4N, fun _ => ⟨CaR.cas ⟨r4, hR.len, s4, hR.dis⟩ hc.lm rfl hc.good, rfl⟩, fun e => by cases e⟩⟩
  | false =>
    obtain ⟨s4, rfl⟩ := a2 hlg
    refine ⟨_, rfl, br_intro (fun _ => ?_) fun e => by simp at e⟩
    refine ⟨fun n8 H => ∃ j : Nat, n8 = j ∧ j ≤ n ∧ UpdM (fun q => ¬ N q) h H ∧ ∃ L' ml', CaR S s c most (u + n) N (doneAll P l) r L' ml' hits H ∧ L'.map (·.2) = (l.take j).foldl (eput most) (L.map (·.2)),
      fun n8 _ => n - n8.toNat, ⟨0, rfl, Nat.zero_le _, u4N, L, ml, ⟨r4, hR.len, s4, hR.dis⟩, rfl⟩, ?_⟩
    rintro n8 h9 ⟨j, rfl, hj, uH, L', ml', R9, hE9⟩
    refine br_intro (fun e => ?_) fun e => ?_
    · have e := of_decide_eq_true e
      have hq : l[j]? = some (l[j]'(by omega)) := List.getElem?_eq_getElem (by omega)
      have htk : l.take (j + 1) = l.take j ++ [l[j]'(by omega)] := List.take_succ_eq_append_getElem (by omega)
      generalize l[j]'(by omega) = w at hq htk
      obtain ⟨p10, ea, rd⟩ := wr_at (hs.updM uH fun h0 q hq hn => hn (hA h0 q hq)) hq
      refine ⟨p10, ⟨ea, by omega, e⟩, _, _, _, rd, svc_wr rfl ?_⟩
      have k15 := keep_push h9 (wrBox w)
      have b15 := push_at h9 (wrBox w)
      generalize h9.push (wrBox w) = h15 at k15 b15
      refine ⟨_, wr_g b15, ?_⟩
      have fin : ∀ (x : Str) (g : Bool) (h18 : Heap), (if w.gone then (⟨#[]⟩ : Str) else w.val) = x → w.gone = g → Keep h9.size h9 h18 →
          HC Tryz.prog 85 #[.pointer (some ⟨c, 0, none⟩), .string w.key, .string x, .bool !g] h18 fun v h23 => v = .tuple #[] ∧ (∃ j' : Nat, IntKind.i64.wrap ((j : Int) + 1) = j' ∧ j' ≤ n ∧ UpdM (fun q => ¬ N q) h h23 ∧ ∃ L' ml', CaR S s c most (u + n) N (doneAll P l) r L' ml' hits h23 ∧ L'.map (·.2) = (l.take j').foldl (eput most) (L.map (·.2))) ∧ n - (IntKind.i64.wrap ((j : Int) + 1)).toNat < n - (j : Int).toNat := by
        intro x g h18 ex eg k18
        subst ex
        subst eg
        have R18 := R9.keep hS k18
        refine (CaS.keep hS R18.raw R18.len hc.lm R18.sto R18.dis w.key _ _).mono ?_
        rintro v h23 ⟨rfl, u23, L2, ml2, r23, hEq, hl2, s23, d23⟩
        rw [wrap_i64 (by omega) (by omega)]
        exact ⟨rfl, ⟨j + 1, rfl, by omega, (uH.trans k18.m).trans u23, L2, ml2, ⟨r23, hl2, s23, d23⟩, by rw [hEq, hE9, htk, List.foldl_append]; rfl⟩, by omega⟩
      refine br_intro (fun eg => ?_) fun eg => ?_
      · refine svc_store_box (k := 1) zS b15 (by simp) rfl (one_string _) fun h18 z18 b18 u18 => ?_
        have b18 : h18[h9.size]? = some (wrBox ⟨w.key, ⟨#[]⟩, w.gone⟩) := by rw [b18]; rfl
        refine ⟨_, wr_k b18, _, wr_v b18, _, wr_g b18, fin _ _ h18 (by rw [eg]; rfl) rfl ?_⟩
        exact k15.trans (u18.keep k15.size fun q hq => Nat.le_of_eq hq.symm)
      · exact ⟨_, wr_k b15, _, wr_v b15, _, wr_g b15, fin _ _ h15 (by rw [eg]; rfl) rfl k15⟩
    · have e := of_decide_eq_false e
      have hjn : j = n := by omega
      subst hjn
      rw [← hl, List.take_length] at hE9
      exact ⟨uH, (fun e => by cases e), fun _ => ⟨R9.cas hc.lm hE9 hgl, rfl⟩⟩
theorem CaS.hits_spec (hc : CaS S s c most u N P E hits h) : HC Tryz.prog 35 #[.pointer (some ⟨c, 0, none⟩)] h fun v h' => h' = h ∧ v = .int .i64 hits := by
  obtain ⟨r, L, ml, hR, rfl⟩ := hc.rr
  refine HC_of_vc (args := [.pointer (some ⟨c, 0, none⟩)]) (base := 9) (cuts := []) (bigs := []) kM Tryz.func35 ?_
  rw [vcCHits]
  exact ⟨_, reads_eql_nil uCp, br_intro (fun e => by cases e) fun _ => ⟨_, rfl, _, hR.raw.rhits, rfl, rfl⟩⟩
theorem CaS.size_spec (hc : CaS S s c most u N P E hits h) : HC Tryz.prog 36 #[.pointer (some ⟨c, 0, none⟩)] h fun v h' => h' = h ∧ v = .int .i64 E.length := by
  obtain ⟨r, L, ml, hR, rfl⟩ := hc.rr
  refine HC_of_vc (args := [.pointer (some ⟨c, 0, none⟩)]) (base := 10) (cuts := []) (bigs := []) kM Tryz.func36 ?_
  rw [vcCSize]
  exact ⟨_, reads_eql_nil uCp, br_intro (fun e => by cases e) fun _ => ⟨_, rfl, _, hR.raw.rm, _, reads_len_map hR.raw.map, rfl, by rw [List.length_map, hR.raw.len]⟩⟩
set_option maxHeartbeats 1000000 in
theorem CaS.drop (hS : Sto M S s) (hc : CaS S s c most u N P E hits h) {n : Int} (hn : n ≤ 9223372036854775807) : HC Tryz.prog 38 #[.pointer (some ⟨c, 0, none⟩), .int .i64 n] h fun v h' => v = .tuple #[] ∧ UpdM (fun q => ¬ N q) h h' ∧ CaS S s c most u N P (E.drop n.toNat) hits h' := by
  obtain ⟨r, L, ml, hR, rfl⟩ := hc.rr
  refine HC_of_vc (args := [.pointer (some ⟨c, 0, none⟩), .int .i64 n]) (base := 36) (cuts := []) (bigs := []) kM Tryz.func38 ?_
  rw [vcCDrop]
  refine ⟨fun n2 H => ∃ j : Nat, n2 = n - j ∧ (j = 0 ∨ j ≤ n) ∧ UpdM (fun q => ¬ N q) h H ∧ ∃ ml', CaR S s c most u N P r (L.drop j) ml' hits H,
    fun n2 _ => n2.toNat, ⟨0, by omega, .inl rfl, UpdM.refl _ _, ml, hR⟩, ?_⟩
  rintro n2 h3 ⟨j, rfl, hj, uH, ml', R3⟩
  refine ⟨_, reads_neq_nil uCp, _, fun _ => rfl, _, fun _ => R3.raw.rm, _, fun _ => reads_len_map R3.raw.map, ?_⟩
  have hlen := R3.raw.len
  refine br_intro (fun e => ?_) fun e => ?_
  · simp only [Bool.and_eq_true, decide_eq_true_eq] at e
    obtain ⟨⟨_, e1⟩, e2⟩ := e
    cases hL : L.drop j with
    | nil => rw [hL, List.length_nil] at hlen; omega
    | cons p L1 =>
      obtain ⟨b, e0⟩ := p
      rw [hL] at R3
      have hd1 : L.drop (j + 1) = L1 := by rw [← List.tail_drop, hL]; rfl
      refine ⟨_, rfl, _, R3.raw.rnew, ?_⟩
      refine oldest_spec R3.raw fun h' hr' u' => ?_
      rw [wrap_i64 (by omega) (by omega)]
      have hsub : ∀ q, ownC c ⟨s, most, r, hits⟩ L1 q → ownC c ⟨s, most, r, hits⟩ ((b, e0) :: L1) q := fun q hq => hq.imp id fun hq => hq.imp id fun hq => List.mem_cons_of_mem _ hq
      have hlt := hr'.lt
      refine ⟨⟨j + 1, by omega, .inr (by omega), uH.trans (u'.m.mono fun q hq hn => R3.dis q hn hq), mDel ml' e0.key, ?_⟩, by dsimp only; omega⟩
      rw [hd1]
      refine ⟨hr', by have := R3.len; rw [List.length_cons] at this; omega, sto_after hS R3.sto u' fun q hq => ⟨.inl (hsub q hq), hlt q hq⟩, fun q hn hq => R3.dis q hn (hsub q hq)⟩
  · have hE : L.drop j = L.drop n.toNat := by
      simp only [Bool.and_eq_false_iff, decide_eq_false_iff_not] at e
      rcases e with (e | e) | e
      · cases e
      · have : j = n.toNat := by omega
        rw [this]
      · have h0 : L.drop j = [] := List.eq_nil_of_length_eq_zero (by omega)
        rcases Nat.lt_or_ge n.toNat j with h1 | h1
        · have : j = n.toNat := by omega
          rw [this]
        · rw [h0, List.drop_eq_nil_of_le]
          have := congrArg List.length h0
          rw [List.length_drop, List.length_nil] at this; omega
    rw [hE] at R3
    refine ⟨rfl, uH, R3.cas hc.lm List.map_drop fun e he => hc.good e (List.mem_of_mem_drop he)⟩
theorem CaS.scan (hS : Sto M S s) (hc : CaS S s c most u N P E hits h) (hP : P.length ≤ 1000000) (k : Str) (n : Int) : HC Tryz.prog 48 #[.pointer (some ⟨c, 0, none⟩), .string k, .int .i64 n] h fun v h' => UpdM (fun q => ¬ N q) h h' ∧ CaS S s c most u N P E hits h' ∧
    ∃ a c, v = .tuple #[.slice a (Kv.scan P k n).length c, .int .i64 0] ∧ Sl StrPairE h' a (Kv.scan P k n).length (Kv.scan P k n) ∧ (∀ q, blk a q → h.size ≤ q ∧ q < h'.size) := by
  obtain ⟨r, L, ml, hR, rfl⟩ := hc.rr
  refine HC_of_vc (args := [.pointer (some ⟨c, 0, none⟩), .string k, .int .i64 n]) (base := 19) (cuts := []) (bigs := []) kM Tryz.func48 ?_
  rw [vcCScan]
  refine ⟨_, reads_eql_nil uCp, br_intro (fun e => by cases e) fun _ => ⟨_, rfl, _, hR.raw.rs, (hS.scan hR.sto hP k n).mono ?_⟩⟩
  rintro v h4 ⟨s4, u4, a, cp, rfl, sl, hb⟩
  have ho : ∀ q, ownC c ⟨s, most, r, hits⟩ L q → ¬ ¬ (N q ∨ ownC c ⟨s, most, r, hits⟩ L q) := fun q hq hn => hn (.inr hq)
  have r4 : Raw h4 c ⟨s, most, r, hits⟩ L ml := hR.raw.updM u4 (ho _ (.inl rfl)) (ho _ (.inr (.inl rfl))) fun p hp => ho _ (.inr (.inr (List.mem_map_of_mem (f := fun p : Nat × En => p.1) hp)))
  exact ⟨_, _, _, _, rfl, u4.mono fun q hq hn => hq (.inl hn), CaR.cas ⟨r4, hR.len, s4, hR.dis⟩ hc.lm rfl hc.good, a, cp, rfl, sl, hb⟩
/-- how many entries a new one may have. -/
def mostOf (n : Int) : Nat := (min (max n 0) 1024).toNat
set_option maxHeartbeats 1000000 in
theorem CaS.new (hS : Sto M S s) (hs : S u N P h) (hsl : s < h.size) (n : Int) : HC Tryz.prog 32 #[.pointer (some ⟨s, 0, none⟩), .int .i64 n] h fun v h' => Keep h.size h h' ∧ v = .pointer (some ⟨h.size + 1, 0, none⟩) ∧ CaS S s (h.size + 1) (mostOf n) u N P [] 0 h' := by
  refine HC_of_vc (args := [.pointer (some ⟨s, 0, none⟩), .int .i64 n]) (base := 28) (cuts := []) (bigs := []) kM Tryz.func32 ?_
  rw [vcCNew]
  refine ⟨_, reads_max, _, reads_min, ?_⟩
  have hv : (if (1024 : Int) < (if (0 : Int) > n then (0 : Int) else n) then (1024 : Int) else (if (0 : Int) > n then (0 : Int) else n)) = (mostOf n : Nat) := by
    unfold mostOf; split <;> split at * <;> omega
  rw [hv]
  have k1 := keep_push h (Obj.map #[] 0)
  have ma := MapAt.new Me h
  have z1 : (h.push (Obj.map #[] 0)).size = h.size + 1 := by simp
  refine ⟨_, rfl, _, rfl, _, rfl, ?_⟩
  have k2 := keep_push (h.push (Obj.map #[] 0)) (caBox ⟨s, mostOf n, h.size, 0⟩ none none)
  have b2 := push_at (h.push (Obj.map #[] 0)) (caBox ⟨s, mostOf n, h.size, 0⟩ none none)
  have zz : ((h.push (Obj.map #[] 0)).push (caBox ⟨s, mostOf n, h.size, 0⟩ none none)).size = h.size + 2 := by simp
  rw [z1] at b2 k2 ⊢
  have k02 := k1.trans (k2.mono (Nat.le_succ _))
  have m2 := ma.keep (k2.mono (by rw [z1]; exact Nat.le_refl _))
  clear k1 k2 ma z1
  generalize ((h.push (Obj.map #[] 0)).push (caBox ⟨s, mostOf n, h.size, 0⟩ none none)) = H at b2 k02 m2 zz
  have sh : Shp H (h.size + 1) ⟨s, mostOf n, h.size, 0⟩ [] := ⟨⟨_, _, b2⟩, fun p hp => (by cases hp), (fun hm => by cases hm), List.nodup_nil⟩
  have eC : (⟨h.size + 1, 0, none⟩ : Addr).add 3 = endA (h.size + 1) := Addr.add_row _ 0 3
  rw [eC]
  refine sh.store (.inl rfl) (.inl rfl) fun h6 s6 n6 e6 u6 => ⟨_, rfl, ?_⟩
  rw [eC]
  refine s6.store (.inl rfl) (.inr rfl) fun h9 s9 n9 e9 u9 => ?_
  have u69 := u6.trans u9
  have kk : Keep h.size h h9 := k02.trans (u69.keep (by omega) fun q hq => by have : q = h.size + 1 := hq; omega)
  have z9 := u69.size
  have m9 : MapAt Me h9 h.size [] := m2.upd u69 fun hq => by have : h.size = h.size + 1 := hq; omega
  have raw9 : Raw h9 (h.size + 1) ⟨s, mostOf n, h.size, 0⟩ [] [] := ⟨⟨s9, ?_, ?_⟩, m9, fun k b => ⟨fun h => (by cases h), fun h => (by obtain ⟨_, h, _⟩ := h; cases h)⟩, rfl, List.nodup_nil, Nat.ne_of_lt (Nat.lt_succ_self _), by simp⟩
  · have own9 : ∀ q, ownC (h.size + 1) ⟨s, mostOf n, h.size, 0⟩ [] q → h.size ≤ q ∧ q < h.size + 2 := fun q hq => by
      rcases hq with hq | hq | hq
      · omega
      · have : q = h.size := hq
        omega
      · cases hq
    refine ⟨kk, rfl, ⟨_, _, _, raw9, rfl, hS.own hs (kk.upd fun _ => False).m (fun _ _ h => h.elim) fun q hq => ?_, fun q hq ho => ?_⟩, Nat.zero_le _, ?_, fun e he => (by cases he), List.nodup_nil⟩
    · rcases hq with hq | hq
      · exact ⟨.inl hq, Nat.lt_of_lt_of_le (hS.lt hs q hq) kk.size⟩
      · have := own9 q hq; exact ⟨.inr this.1, by omega⟩
    · have := own9 q ho; have := hS.lt hs q hq; omega
    · unfold mostOf; omega
  · rw [n9, if_neg (fun h => by simp at h), n6, if_pos ⟨rfl, rfl⟩]
  · rw [e9, if_pos ⟨rfl, rfl⟩]
end
end Go.Proofs.YtcihjdalokaokaaGreatDoor
