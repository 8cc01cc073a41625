/-
  A store in memory. Conditions: none.
-/
import Derived.Test.YtcihjdalokaokaaGreatDoorKvB
set_option linter.unusedVariables false
set_option linter.unusedSimpArgs false
set_option maxRecDepth 100000
namespace Go.Proofs.YtcihjdalokaokaaGreatDoor
open Go Go.Vc Go.Proofs Go.Dk Go.Kv

noncomputable def Ms := strMk Tryz.prog 138 9 9 Str Value.string (by kernel_rfl) (by kernel_rfl)
theorem kMs : scT Tryz.prog 138 = true := by kernel_rfl
theorem kBe : scT Tryz.prog 142 = true := by kernel_rfl
theorem kDp : scT Tryz.prog 25 = true := by kernel_rfl
theorem uSt : Tryz.prog.underlying 55 = some (.pointer (Tryz.prog.pointee 55)) := by kernel_rfl
theorem uDp : Tryz.prog.underlying 25 = some (.pointer (Tryz.prog.pointee 25)) := by kernel_rfl
abbrev memBox (r : Nat) : Obj := .cells #[.iface 140 (.agg #[.map (some r)]), .pointer none, .int .i64 1] 144 (0, 0)
/-- a store in memory, none of whose blocks is of N. -/
structure MemS (s : Nat) (u : Nat) (N : Nat → Prop) (P : Ps Str) (h : Heap) : Prop where
  at_ : ∃ r m, h[s]? = some (memBox r) ∧ ¬ N r ∧ MapAt Ms h r m ∧ ∀ k, mGet m k = mGet P k
  srt : SrtP P
  ns : ¬ N s
  lt : ∀ q, N q → q < h.size
section
variable {s u : Nat} {N : Nat → Prop} {P : Ps Str} {h : Heap}
theorem MemS.own (hm : MemS s u N P h) {T N' : Nat → Prop} {h' : Heap} (up : UpdM T h h') (hT : ∀ q, q < h.size → T q → N q) (hN : ∀ q, N' q → (N q ∨ h.size ≤ q) ∧ q < h'.size) : MemS s u N' P h' := by
  obtain ⟨⟨r, m, hb, hr, hma, hg⟩, h2, h3, h4⟩ := hm
  have ls := at_lt hb
  have lr := hma.lt
  refine ⟨⟨r, m, up.cells hb fun ht => h3 (hT _ ls ht), fun hn => ?_, hma.updM up fun ht => hr (hT _ lr ht), hg⟩, h2, fun hn => ?_, fun q hq => (hN q hq).2⟩
  · rcases (hN _ hn).1 with h5 | h5
    · exact hr h5
    · omega
  · rcases (hN _ hn).1 with h5 | h5
    · exact h3 h5
    · omega
theorem MemS.keep (hm : MemS s u N P h) {h' : Heap} (k : Keep h.size h h') : MemS s u N P h' :=
  hm.own (T := fun _ => False) k.m (fun _ _ h => h.elim) fun q hq => ⟨.inl hq, Nat.lt_of_lt_of_le (hm.lt q hq) k.size⟩
theorem MemS.ready (hm : MemS s u N P h) : HC Tryz.prog 144 #[.pointer (some ⟨s, 0, none⟩)] h fun v h' => h' = h ∧ v = .int .i64 0 := by
  obtain ⟨r, m, hb, _⟩ := hm.at_
  refine HC_of_vc (args := [.pointer (some ⟨s, 0, none⟩)]) (base := 19) (cuts := []) (bigs := []) kM Tryz.func144 ?_
  rw [vcStReady]
  refine ⟨_, reads_eql_nil uSt, br_intro (fun e => by cases e) fun _ => ⟨_, rfl, none, reads_load kDp (cell_cells hb rfl), _, reads_neq_nil uDp, ⟨s, 0, none⟩, fun _ => rfl, none, fun _ => reads_load kDp (cell_cells hb rfl), br_intro (fun e => by cases e) fun _ => ⟨rfl, rfl⟩⟩⟩
theorem mget_spec {r : Nat} {m : List (Str × Str)} (hma : MapAt Ms h r m) (k : Str) : HC Tryz.prog 300 #[.agg #[.map (some r)], .string k] h fun v h' => Keep h.size h h' ∧ v = .tuple #[.string ((mGet m k).getD ⟨#[]⟩), .bool (mGet m k).isSome, .int .i64 0] := by
  refine HC_of_vc (args := [.agg #[.map (some r)], .string k]) (base := 18) (cuts := []) (bigs := []) kM Tryz.func300 ?_
  rw [vcMGet]
  have kp := keep_push h (Obj.cells #[Value.map (some r)] 140 (0, 0))
  have rd := (reads_lookup (k := k) (z := .string ⟨#[]⟩) (hma.keep kp) (by kernel_rfl)).2
  refine ⟨_, reads_load kMs (cell_cells0 (push_at _ _) rfl), (mGet m k).getD ⟨#[]⟩, (mGet m k).isSome, ?_, kp, rfl⟩
  cases hgk : mGet m k with
  | none => rw [hgk] at rd; exact rd
  | some v => rw [hgk] at rd; exact rd
theorem MemS.get (hm : MemS s u N P h) (k : Str) : HC Tryz.prog 84 #[.pointer (some ⟨s, 0, none⟩), .string k] h fun v h' => MemS s u N P h' ∧ UpdM (fun q => ¬ N q) h h' ∧
    v = .tuple #[.string ((mGet P k).getD ⟨#[]⟩), .bool (mGet P k).isSome, .int .i64 0] := by
  have rdy := hm.ready
  obtain ⟨r, m, hb, hr, hma, hg⟩ := hm.at_
  refine HC_of_vc (args := [.pointer (some ⟨s, 0, none⟩), .string k]) (base := 22) (cuts := []) (bigs := []) kM Tryz.func84 ?_
  rw [vcStGet]
  refine rdy.mono ?_
  rintro v h1 ⟨rfl, rfl⟩
  refine ⟨_, rfl, br_intro (fun e => by simp at e) fun _ => ⟨_, rfl, _, reads_load kBe (cell_cells0 hb rfl), 300, _, meth_val (by kernel_rfl), (mget_spec hma k).mono ?_⟩⟩
  rintro v h2 ⟨k2, rfl⟩
  rw [hg k]
  exact ⟨_, _, _, rfl, hm.keep k2, k2.m, rfl⟩
theorem mlong_spec (w : Wr) (g : Heap) : HC Tryz.prog 303 #[wrVal w] g fun v g' => Keep g.size g g' ∧ v = .bool (decide (48 < w.key.size) || decide (160 < w.val.size)) := by
  refine HC_of_vc (args := [.agg #[.string w.key, .string w.val, .bool w.gone]]) (base := 13) (cuts := []) (bigs := []) kM Tryz.func303 ?_
  rw [vcMLong]
  have hb := push_at g (wrBox w)
  refine ⟨_, wr_k hb, _, fun _ => wr_v hb, keep_push _ _, ?_⟩
  congr 2
  · exact decide_eq_decide.2 (by constructor <;> intro h <;> omega)
  · exact decide_eq_decide.2 (by constructor <;> intro h <;> omega)
set_option maxHeartbeats 1000000 in
theorem mapply_spec {r n c : Nat} {A : Option Addr} {l : List Wr} {m : List (Str × Str)} (hma : MapAt Ms h r m) (hsP : SrtP P) (hg : ∀ k, mGet m k = mGet P k) (hs : Sl WrE h A n l) (hA : n ≠ 0 → ¬ blk A r) (hn : n ≤ 9223372036854775807) :
    HC Tryz.prog 299 #[.agg #[.map (some r)], .slice A n c] h fun v h' => Upd (fun q => q = r) h h' ∧ (long l = true → Keep h.size h h' ∧ v = .int .i64 3) ∧ (long l = false → v = .int .i64 0 ∧ ∃ m', MapAt Ms h' r m' ∧ ∀ k, mGet m' k = mGet (doneAll P l) k) := by
  refine HC_of_vc (args := [.agg #[.map (some r)], .slice A n c]) (base := 35) (cuts := []) (bigs := []) kM Tryz.func299 ?_
  rw [vcMApply]
  have hl := hs.1
  have kp := keep_push h (Obj.cells #[Value.map (some r)] 140 (0, 0))
  have bp := push_at h (Obj.cells #[Value.map (some r)] 140 (0, 0))
  have zp : (h.push (Obj.cells #[Value.map (some r)] 140 (0, 0))).size = h.size + 1 := by simp
  have lr := hma.lt
  have hlong : long l = (l.any (fun w => decide (48 < w.key.size) || decide (160 < w.val.size)) || decide (1024 < l.length)) := rfl
  refine br_intro (fun e => ?_) fun e => ?_
  · have hn2 : ¬ (n : Int) > 1024 := by
      by_cases h : (n : Int) > 1024
      · simp [h] at e
      · exact h
    have e2 : decide (1024 < l.length) = false := decide_eq_false (by omega)
    rw [e2, Bool.or_false] at hlong
    show HC Tryz.prog _ _ (h.push (Obj.cells #[Value.map (some r)] 140 (0, 0))) _
    generalize h.push (Obj.cells #[Value.map (some r)] 140 (0, 0)) = H at kp bp zp
    refine (contW_spec (p := fun w => decide (48 < w.key.size) || decide (160 < w.val.size)) (hs.keep kp) (by omega) (by kernel_rfl) mlong_spec).mono ?_
    rintro v h1 ⟨k1, rfl⟩
    have k01 := kp.trans (k1.mono kp.size)
    rw [← hlong]
    refine ⟨_, rfl, br_intro (fun e3 => ⟨(k01.upd _), fun _ => ⟨k01, rfl⟩, fun e4 => by rw [e4] at e3; cases e3⟩) fun e3 => ?_⟩
    refine ⟨fun n5 G => ∃ (j : Nat) (m' : List (Str × Str)), n5 = j ∧ j ≤ n ∧ Upd (fun q => q = r) h G ∧ H.size ≤ G.size ∧ G[h.size]? = some (Obj.cells #[Value.map (some r)] 140 (0, 0)) ∧ MapAt Ms G r m' ∧ ∀ k, mGet m' k = mGet (doneAll P (l.take j)) k, fun n5 _ => n - n5.toNat,
      ⟨0, m, rfl, Nat.zero_le _, k01.upd _, k1.size, k1.at bp (by omega), (hma.keep kp).keep k1, hg⟩, ?_⟩
    rintro n5 G ⟨j, m', rfl, hj, uG, zG, bG, maG, gG⟩
    refine br_intro (fun e4 => ?_) fun e4 => ?_
    · have e4 := of_decide_eq_true e4
      have hq : l[j]? = some (l[j]'(by omega)) := List.getElem?_eq_getElem (by omega)
      have htk : l.take (j + 1) = l.take j ++ [l[j]'(by omega)] := List.take_succ_eq_append_getElem (by omega)
      generalize l[j]'(by omega) = w at hq htk
      obtain ⟨p7, ea, rd⟩ := wr_at (hs.upd uG fun b hb e => hA (by omega) (e ▸ hb)) hq
      refine ⟨p7, ⟨ea, by omega, e4⟩, _, _, _, rd, svc_wr rfl ?_⟩
      have bx := push_at G (wrBox w)
      have kx := keep_push G (wrBox w)
      have zx : (G.push (wrBox w)).size = G.size + 1 := by simp
      generalize G.push (wrBox w) = G2 at bx kx zx
      have bG2 := kx.at bG (by omega)
      have sd := srt_doneAll (l.take j) hsP
      have gd := get_done1 sd w
      rw [← doneAll_snoc, ← htk] at gd
      rw [wrap_i64 (by omega) (by omega)]
      refine ⟨_, wr_g bx, br_intro (fun eg => ?_) fun eg => ?_⟩
      · refine ⟨_, reads_load kMs (cell_cells0 bG2 rfl), _, wr_k bx, svc_delete (M := Ms) (k := w.key) (maG.keep kx) fun h17 z17 u17 ma17 => ⟨rfl, ?_⟩⟩
        refine ⟨⟨j + 1, _, rfl, by omega, (uG.keep' kx).trans u17, by omega, u17.at bG2 (by omega), ma17, fun k => ?_⟩, by dsimp only; omega⟩
        have hnd : (mKeys m').Nodup := by obtain ⟨_, _, _, _, h, _⟩ := maG; exact h
        rw [mGet_del hnd, gd k, eg]
        by_cases ek : w.key = k
        · simp [ek]
        · simp [ek, Ne.symm ek, gG k]
      · refine ⟨_, reads_load kMs (cell_cells0 bG2 rfl), _, wr_k bx, _, wr_v bx, svc_mapUpdate (M := Ms) (k := w.key) (v := w.val) (maG.keep kx) fun h17 z17 u17 ma17 => ?_⟩
        refine ⟨⟨j + 1, _, rfl, by omega, (uG.keep' kx).trans u17, by omega, u17.at bG2 (by omega), ma17, fun k => ?_⟩, by dsimp only; omega⟩
        rw [mGet_put, gd k, eg]
        by_cases ek : w.key = k
        · simp [ek]
        · simp [ek, Ne.symm ek, gG k]
    · have e4 := of_decide_eq_false e4
      have hjn : j = n := by omega
      subst hjn
      rw [← hl, List.take_length] at gG
      exact ⟨uG, (fun e5 => by rw [e5] at e3; cases e3), fun _ => ⟨rfl, m', maG, gG⟩⟩
  · have hn2 : (n : Int) > 1024 := by
      by_cases h : (n : Int) > 1024
      · exact h
      · simp [h] at e
    have e2 : long l = true := by rw [hlong, decide_eq_true (by omega : 1024 < l.length)]; simp
    exact ⟨kp.upd _, fun _ => ⟨kp, rfl⟩, fun e3 => by rw [e2] at e3; cases e3⟩
theorem MemS.apply {M n c : Nat} {A : Option Addr} {l : List Wr} (hm : MemS s u N P h) (hs : Sl WrE h A n l) (hc : n ≤ c) (hn : n ≤ 9223372036854775807) (hA : n ≠ 0 → ∀ q, blk A q → N q) (hM : long l = false → u + n ≤ M) :
    HC Tryz.prog 86 #[.pointer (some ⟨s, 0, none⟩), .slice A n c] h fun v h' => UpdM (fun q => ¬ N q) h h' ∧ (long l = true → MemS s u N P h' ∧ v = .int .i64 3) ∧ (long l = false → MemS s (u + n) N (doneAll P l) h' ∧ v = .int .i64 0) := by
  have rdy := hm.ready
  obtain ⟨r, m, hb, hr, hma, hg⟩ := hm.at_
  have hne : s ≠ r := fun e => by
    obtain ⟨es, cl, hx, _⟩ := hma
    rw [e, hx] at hb; cases hb
  refine HC_of_vc (args := [.pointer (some ⟨s, 0, none⟩), .slice A n c]) (base := 17) (cuts := []) (bigs := []) kM Tryz.func86 ?_
  rw [vcStApply]
  refine rdy.mono ?_
  rintro v h1 ⟨rfl, rfl⟩
  refine ⟨_, rfl, br_intro (fun e => by simp at e) fun _ => ⟨_, rfl, _, reads_load kBe (cell_cells0 hb rfl), 299, _, meth_val (by kernel_rfl), (mapply_spec hma hm.srt hg hs (fun h0 hb => hr (hA h0 _ hb)) hn).mono ?_⟩⟩
  rintro v h2 ⟨u2, a1, a2⟩
  have um : UpdM (fun q => ¬ N q) h1 h2 := (u2.mono fun q e => by rw [e]; exact hr).m
  cases hlg : long l with
  | true =>
    obtain ⟨k2, rfl⟩ := a1 hlg
    exact ⟨_, rfl, um, fun _ => ⟨hm.keep k2, rfl⟩, fun e => by cases e⟩
  | false =>
    obtain ⟨rfl, m', ma', g'⟩ := a2 hlg
    exact ⟨_, rfl, um, (fun e => by cases e), fun _ => ⟨⟨⟨r, m', u2.at hb hne, hr, ma', g'⟩, srt_doneAll l hm.srt, hm.ns, fun q hq => Nat.lt_of_lt_of_le (hm.lt q hq) u2.size⟩, rfl⟩⟩
theorem mopen_spec (hN : ∀ q, N q → q < h.size) : HC Tryz.prog 31 #[.int .i64 1, .pointer none, .string ⟨#[]⟩] h fun v h' => Keep h.size h h' ∧ v = .tuple #[.pointer (some ⟨h.size + 1, 0, none⟩), .int .i64 0] ∧ MemS (h.size + 1) 0 N [] h' ∧ h'.size = h.size + 2 := by
  refine HC_of_vc (args := [.int .i64 1, .pointer none, .string ⟨#[]⟩]) (base := 57) (cuts := []) (bigs := []) kM Tryz.func31 ?_
  rw [vcStOpen1]
  have z1 : (h.push (Obj.map #[] 0)).size = h.size + 1 := by simp
  have k1 := keep_push h (Obj.map #[] 0)
  have ma := MapAt.new Ms h
  have k2 := keep_push (h.push (Obj.map #[] 0)) (memBox h.size)
  have b2 := push_at (h.push (Obj.map #[] 0)) (memBox h.size)
  rw [z1] at b2 ⊢
  refine ⟨k1.trans (k2.mono (by omega)), rfl, ⟨⟨h.size, [], b2, fun hn => by have := hN _ hn; omega, ma.keep k2, fun _ => rfl⟩, List.Pairwise.nil, fun hn => by have := hN _ hn; omega, fun q hq => by have := hN q hq; simp; omega⟩, by simp⟩
end
end Go.Proofs.YtcihjdalokaokaaGreatDoor
