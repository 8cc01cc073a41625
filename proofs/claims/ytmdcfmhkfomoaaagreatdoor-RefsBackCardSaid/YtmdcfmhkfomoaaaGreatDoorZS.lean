/-
  Texts of this seat, laid one behind the other: KvB KvM KvR KvK KvC0 KvN KvL KvT KvU KvX KvZ KrI. Conditions: none.
-/
import Derived.Test.YtmdcfmhkfomoaaaGreatDoorZV
import Derived.Test.YtmdcfmhkfomoaaaGreatDoorZK
import Derived.Test.YtmdcfmhkfomoaaaGreatDoorProg
import Derived.KernelRfl
import Derived.Test.YtmdcfmhkfomoaaaGreatDoorSt1
import Derived.Test.YtmdcfmhkfomoaaaGreatDoorCa1
import Derived.WalkKit
import Derived.Shelf.SlSortCmp.WholeK
import Derived.Shelf.SlSortCmp.NoneTotal
import Derived.Shelf.Lay
import Derived.Shelf.SlGeneric
import Derived.Ground.SlsfProg
section
set_option linter.unusedVariables false
set_option linter.unusedSimpArgs false
set_option maxRecDepth 100000
namespace Go.Proofs.YtmdcfmhkfomoaaaGreatDoor
open Go Go.Vc Go.Proofs Go.Dk Go.Kv

theorem kM : Tryz.prog.follows .mixedOrders = true := by kernel_rfl
theorem uS : Tryz.prog.underlying 9 = some .string := by kernel_rfl
theorem kS : scT Tryz.prog 9 = true := by kernel_rfl
theorem kI : scT Tryz.prog 3 = true := by kernel_rfl
theorem kB : scT Tryz.prog 4 = true := by kernel_rfl
theorem zS : szOf Tryz.prog 9 = some 1 := by kernel_rfl
theorem zI : szOf Tryz.prog 3 = some 1 := by kernel_rfl
theorem zB : szOf Tryz.prog 4 = some 1 := by kernel_rfl
theorem svcMono {α : Type} {P : Program} {s : Sem α} {h : Heap} {K K' : α → Heap → Prop} (hs : SVC P s h K) (hk : ∀ a h', K a h' → K' a h') : SVC P s h K' :=
  ⟨fun w hw => let ⟨a, w', h1, h2, h3⟩ := hs.run w hw; ⟨a, w', h1, h2, hk _ _ h3⟩⟩
/-- a write in cells. -/
def WrE : Enc Wr := ⟨3, fun w => [.string w.key, .string w.val, .bool w.gone], fun _ => rfl, fun q v hv => by
  simp only [List.mem_cons, List.not_mem_nil, or_false] at hv
  rcases hv with rfl | rfl | rfl
  · exact one_string _
  · exact one_string _
  · exact one_bool _⟩
abbrev wrVal (w : Wr) : Value := .agg #[.string w.key, .string w.val, .bool w.gone]
abbrev wrBox (w : Wr) : Obj := .cells #[.string w.key, .string w.val, .bool w.gone] 31 (0, 0)
theorem agWr : agT Tryz.prog 31 3 = true := by kernel_rfl
theorem szWr : szOf Tryz.prog 31 = some 3 := by kernel_rfl
theorem wr_at {h : Heap} {A : Option Addr} {n k : Nat} {l : List Wr} {w : Wr} (hs : Sl WrE h A n l) (hq : l[k]? = some w) :
    ∃ p, A = some p ∧ Reads Tryz.prog (Instr.loadAt 31 (.pointer (some (p.add (k * 3))))) h (.agg (Array.mk [.string w.key, .string w.val, .bool w.gone])) := by
  obtain ⟨p, e, hp⟩ := hs.get hq
  exact ⟨p, e, reads_load_agg (cs := [.string w.key, .string w.val, .bool w.gone]) agWr rfl fun j v hv => by rw [Addr.add_add]; exact hp j v hv⟩
theorem svc_wr {w : Wr} {h : Heap} {old : Array Value} {K : Unit → Heap → Prop} (ho : old.size = 3) (k : K () (h.push (wrBox w))) :
    SVC Tryz.prog (Instr.storeAt 31 (.pointer (some ⟨h.size, 0, none⟩)) (.agg (Array.mk [.string w.key, .string w.val, .bool w.gone]))) (h.push (.cells old 31 (0, 0))) K :=
  svc_store_new (v := wrVal w) szWr ho (fun v hv => WrE.one w v hv) k
section
variable {w : Wr} {h : Heap} {b : Nat}
theorem wr_k (hb : h[b]? = some (wrBox w)) : Reads Tryz.prog (Instr.loadAt 9 (.pointer (some ⟨b, 0, none⟩))) h (.string w.key) := reads_load kS (cell_cells0 hb rfl)
theorem wr_v (hb : h[b]? = some (wrBox w)) : Reads Tryz.prog (Instr.loadAt 9 (.pointer (some ((⟨b, 0, none⟩ : Addr).add 1)))) h (.string w.val) := reads_load kS (cell_cells hb rfl)
theorem wr_g (hb : h[b]? = some (wrBox w)) : Reads Tryz.prog (Instr.loadAt 4 (.pointer (some ((⟨b, 0, none⟩ : Addr).add 2)))) h (.bool w.gone) := reads_load kB (cell_cells hb rfl)
end
/-- what one asks of a store: its get, apply and scan, whatever it is made of. None of its blocks is of N; u writes were done so far, of which it has room for M. -/
structure Sto (M : Nat) (S : Nat → (Nat → Prop) → Ps Str → Heap → Prop) (s : Nat) : Prop where
  srt : ∀ {u N P h}, S u N P h → SrtP P
  lt : ∀ {u N P h}, S u N P h → ∀ q, N q → q < h.size
  own : ∀ {u N P h} {T N' : Nat → Prop} {h' : Heap}, S u N P h → UpdM T h h' → (∀ q, q < h.size → T q → N q) → (∀ q, N' q → (N q ∨ h.size ≤ q) ∧ q < h'.size) → S u N' P h'
  get : ∀ {u N P h}, S u N P h → ∀ k, HC Tryz.prog 52 #[.pointer (some ⟨s, 0, none⟩), .string k] h fun v h' => S u N P h' ∧ UpdM (fun q => ¬ N q) h h' ∧
    v = .tuple #[.string ((mGet P k).getD ⟨#[]⟩), .bool (mGet P k).isSome, .int .i64 0]
  apply : ∀ {u N P h} {A : Option Addr} {n c : Nat} {l : List Wr}, S u N P h → Sl WrE h A n l → n ≤ c → n ≤ 9223372036854775807 → (n ≠ 0 → ∀ q, blk A q → N q) → (long l = false → u + n ≤ M) →
    HC Tryz.prog 35 #[.pointer (some ⟨s, 0, none⟩), .slice A n c] h fun v h' => UpdM (fun q => ¬ N q) h h' ∧ (long l = true → S u N P h' ∧ v = .int .i64 3) ∧ (long l = false → S (u + n) N (doneAll P l) h' ∧ v = .int .i64 0)
  scan : ∀ {u N P h}, S u N P h → P.length ≤ 1000000 → ∀ k n, HC Tryz.prog 51 #[.pointer (some ⟨s, 0, none⟩), .string k, .int .i64 n] h fun v h' => S u N P h' ∧ UpdM (fun q => ¬ N q) h h' ∧
    ∃ a c, v = .tuple #[.slice a (scan P k n).length c, .int .i64 0] ∧ Sl StrPairE h' a (scan P k n).length (scan P k n) ∧ (∀ q, blk a q → h.size ≤ q ∧ q < h'.size)
/-- a row of writes is gone over: is there one such? -/
theorem contW_spec {h : Heap} {A : Option Addr} {n c f : Nat} {l : List Wr} {p : Wr → Bool} (hs : Sl WrE h A n l) (hn : n ≤ 9223372036854775807) (hf0 : fnOk Tryz.prog f = true)
    (hf : ∀ (w : Wr) (g : Heap), HC Tryz.prog f #[wrVal w] g fun v g' => Keep g.size g g' ∧ v = .bool (p w)) :
    HC Tryz.prog 232 #[.slice A n c, .func (.func f) #[] #[]] h fun v h' => Keep h.size h h' ∧ v = .bool (l.any p) := by
  have hl := hs.1
  have idx : HC Tryz.prog 236 #[.slice A n c, .func (.func f) #[] #[]] h fun v h' => Keep h.size h h' ∧ ∃ i : Int, v = .int .i64 i ∧ decide (i ≥ 0) = l.any p := by
    refine HC_of_vc (args := [.slice A n c, .func (.func f) #[] #[]]) (base := 19) (cuts := []) (bigs := []) kM Tryz.func236 ?_
    rw [vcIdxW]
    refine ⟨fun _ n3 H => ∃ j : Nat, n3 = j ∧ j ≤ n ∧ Keep h.size h H ∧ (l.take j).any p = false, fun _ n3 _ => n - n3.toNat, ⟨0, rfl, Nat.zero_le _, Keep.refl _ _, by simp⟩, ?_⟩
    rintro n2 n3 H ⟨j, rfl, hj, kH, hno⟩
    refine br_intro (fun e => ?_) fun e => ?_
    · have e := of_decide_eq_true e
      have hq : l[j]? = some (l[j]'(by omega)) := List.getElem?_eq_getElem (by omega)
      have htk : l.take (j + 1) = l.take j ++ [l[j]'(by omega)] := List.take_succ_eq_append_getElem (by omega)
      have hmem := List.getElem_mem (by omega : j < l.length)
      generalize l[j]'(by omega) = w at hq htk hmem
      obtain ⟨p5, ea, rd⟩ := wr_at (hs.keep kH) hq
      refine ⟨p5, ⟨ea, by omega, e⟩, _, _, _, rd, br_intro (fun _ => ?_) fun e => by rw [hf0] at e; cases e⟩
      refine (hf w H).mono ?_
      rintro v h10 ⟨k10, rfl⟩
      have kk := kH.trans (k10.mono kH.size)
      refine ⟨_, rfl, br_intro (fun e2 => ⟨kk, _, rfl, ?_⟩) fun e2 => ?_⟩
      · rw [decide_eq_true (by omega)]
        exact (List.any_eq_true.2 ⟨w, hmem, e2⟩).symm
      · rw [wrap_i64 (by omega) (by omega)]
        exact ⟨⟨j + 1, rfl, by omega, kk, by rw [htk, List.any_append, hno]; simp [e2]⟩, by dsimp only; omega⟩
    · have e := of_decide_eq_false e
      have hjn : j = n := by omega
      subst hjn
      rw [← hl, List.take_length] at hno
      exact ⟨kH, _, rfl, by rw [hno]; decide⟩
  refine HC_of_vc (args := [.slice A n c, .func (.func f) #[] #[]]) (base := 9) (cuts := []) (bigs := []) kM Tryz.func232 ?_
  rw [vcContW]
  refine idx.mono ?_
  rintro v h1 ⟨k1, i, rfl, e⟩
  exact ⟨_, rfl, k1, by rw [e]⟩
end Go.Proofs.YtmdcfmhkfomoaaaGreatDoor
end

section
set_option linter.unusedVariables false
set_option linter.unusedSimpArgs false
set_option maxRecDepth 100000
namespace Go.Proofs.YtmdcfmhkfomoaaaGreatDoor
open Go Go.Vc Go.Proofs Go.Dk Go.Kv

noncomputable def Ms := strMk Tryz.prog 94 9 9 Str Value.string (by kernel_rfl) (by kernel_rfl)
theorem kMs : scT Tryz.prog 94 = true := by kernel_rfl
theorem kBe : scT Tryz.prog 98 = true := by kernel_rfl
theorem kDp : scT Tryz.prog 93 = true := by kernel_rfl
theorem uSt : Tryz.prog.underlying 73 = some (.pointer (Tryz.prog.pointee 73)) := by kernel_rfl
theorem uDp : Tryz.prog.underlying 93 = some (.pointer (Tryz.prog.pointee 93)) := by kernel_rfl
abbrev memBox (r : Nat) : Obj := .cells #[.iface 96 (.agg #[.map (some r)]), .pointer none, .int .i64 1] 100 (0, 0)
/-- a store in memory, none of whose blocks is of N. -/
structure MemS (s : Nat) (u : Nat) (N : Nat → Prop) (P : Ps Str) (h : Heap) : Prop where
  at_ : ∃ r m, h[s]? = some (memBox r) ∧ ¬ N r ∧ MapAt Ms h r m ∧ ∀ k, mGet m k = mGet P k
  srt : SrtP P
  ns : ¬ N s
  lt : ∀ q, N q → q < h.size
section
variable {s u : Nat} {N : Nat → Prop} {P : Ps Str} {h : Heap}
theorem MemS.own (hm : MemS s u N P h) {T N' : Nat → Prop} {h' : Heap} (up : UpdM T h h') (hT : ∀ q, q < h.size → T q → N q) (hN : ∀ q, N' q → (N q ∨ h.size ≤ q) ∧ q < h'.size) : MemS s u N' P h' := by
  obtain ⟨⟨r, m, hb, hr, hma, hg⟩, h2, h3, h4⟩ := hm
  have ls := at_lt hb
  have lr := hma.lt
  refine ⟨⟨r, m, up.cells hb fun ht => h3 (hT _ ls ht), fun hn => ?_, hma.updM up fun ht => hr (hT _ lr ht), hg⟩, h2, fun hn => ?_, fun q hq => (hN q hq).2⟩
  · rcases (hN _ hn).1 with h5 | h5
    · exact hr h5
    · omega
  · rcases (hN _ hn).1 with h5 | h5
    · exact h3 h5
    · omega
theorem MemS.keep (hm : MemS s u N P h) {h' : Heap} (k : Keep h.size h h') : MemS s u N P h' :=
  hm.own (T := fun _ => False) k.m (fun _ _ h => h.elim) fun q hq => ⟨.inl hq, Nat.lt_of_lt_of_le (hm.lt q hq) k.size⟩
theorem MemS.ready (hm : MemS s u N P h) : HC Tryz.prog 48 #[.pointer (some ⟨s, 0, none⟩)] h fun v h' => h' = h ∧ v = .int .i64 0 := by
  obtain ⟨r, m, hb, _⟩ := hm.at_
  refine HC_of_vc (args := [.pointer (some ⟨s, 0, none⟩)]) (base := 19) (cuts := []) (bigs := []) kM Tryz.func48 ?_
  rw [vcStReady]
  refine ⟨_, reads_eql_nil uSt, br_intro (fun e => by cases e) fun _ => ⟨_, rfl, none, reads_load kDp (cell_cells hb rfl), _, reads_neq_nil uDp, ⟨s, 0, none⟩, fun _ => rfl, none, fun _ => reads_load kDp (cell_cells hb rfl), br_intro (fun e => by cases e) fun _ => ⟨rfl, rfl⟩⟩⟩
theorem mget_spec {r : Nat} {m : List (Str × Str)} (hma : MapAt Ms h r m) (k : Str) : HC Tryz.prog 228 #[.agg #[.map (some r)], .string k] h fun v h' => Keep h.size h h' ∧ v = .tuple #[.string ((mGet m k).getD ⟨#[]⟩), .bool (mGet m k).isSome, .int .i64 0] := by
  refine HC_of_vc (args := [.agg #[.map (some r)], .string k]) (base := 18) (cuts := []) (bigs := []) kM Tryz.func228 ?_
  rw [vcMGet]
  have kp := keep_push h (Obj.cells #[Value.map (some r)] 96 (0, 0))
  have rd := (reads_lookup (k := k) (z := .string ⟨#[]⟩) (hma.keep kp) (by kernel_rfl)).2
  refine ⟨_, reads_load kMs (cell_cells0 (push_at _ _) rfl), (mGet m k).getD ⟨#[]⟩, (mGet m k).isSome, ?_, kp, rfl⟩
  cases hgk : mGet m k with
  | none => rw [hgk] at rd; exact rd
  | some v => rw [hgk] at rd; exact rd
theorem MemS.get (hm : MemS s u N P h) (k : Str) : HC Tryz.prog 52 #[.pointer (some ⟨s, 0, none⟩), .string k] h fun v h' => MemS s u N P h' ∧ UpdM (fun q => ¬ N q) h h' ∧
    v = .tuple #[.string ((mGet P k).getD ⟨#[]⟩), .bool (mGet P k).isSome, .int .i64 0] := by
  have rdy := hm.ready
  obtain ⟨r, m, hb, hr, hma, hg⟩ := hm.at_
  refine HC_of_vc (args := [.pointer (some ⟨s, 0, none⟩), .string k]) (base := 22) (cuts := []) (bigs := []) kM Tryz.func52 ?_
  rw [vcStGet]
  refine rdy.mono ?_
  rintro v h1 ⟨rfl, rfl⟩
  refine ⟨_, rfl, br_intro (fun e => by simp at e) fun _ => ⟨_, rfl, _, reads_load kBe (cell_cells0 hb rfl), 228, _, meth_val (by kernel_rfl), (mget_spec hma k).mono ?_⟩⟩
  rintro v h2 ⟨k2, rfl⟩
  rw [hg k]
  exact ⟨_, _, _, rfl, hm.keep k2, k2.m, rfl⟩
theorem mlong_spec (w : Wr) (g : Heap) : HC Tryz.prog 231 #[wrVal w] g fun v g' => Keep g.size g g' ∧ v = .bool (decide (48 < w.key.size) || decide (160 < w.val.size)) := by
  refine HC_of_vc (args := [.agg #[.string w.key, .string w.val, .bool w.gone]]) (base := 13) (cuts := []) (bigs := []) kM Tryz.func231 ?_
  rw [vcMLong]
  have hb := push_at g (wrBox w)
  refine ⟨_, wr_k hb, _, fun _ => wr_v hb, keep_push _ _, ?_⟩
  congr 2
  · exact decide_eq_decide.2 (by constructor <;> intro h <;> omega)
  · exact decide_eq_decide.2 (by constructor <;> intro h <;> omega)
set_option maxHeartbeats 1000000 in
theorem mapply_spec {r n c : Nat} {A : Option Addr} {l : List Wr} {m : List (Str × Str)} (hma : MapAt Ms h r m) (hsP : SrtP P) (hg : ∀ k, mGet m k = mGet P k) (hs : Sl WrE h A n l) (hA : n ≠ 0 → ¬ blk A r) (hn : n ≤ 9223372036854775807) :
    HC Tryz.prog 227 #[.agg #[.map (some r)], .slice A n c] h fun v h' => Upd (fun q => q = r) h h' ∧ (long l = true → Keep h.size h h' ∧ v = .int .i64 3) ∧ (long l = false → v = .int .i64 0 ∧ ∃ m', MapAt Ms h' r m' ∧ ∀ k, mGet m' k = mGet (doneAll P l) k) := by
  refine HC_of_vc (args := [.agg #[.map (some r)], .slice A n c]) (base := 35) (cuts := []) (bigs := []) kM Tryz.func227 ?_
  rw [vcMApply]
  have hl := hs.1
  have kp := keep_push h (Obj.cells #[Value.map (some r)] 96 (0, 0))
  have bp := push_at h (Obj.cells #[Value.map (some r)] 96 (0, 0))
  have zp : (h.push (Obj.cells #[Value.map (some r)] 96 (0, 0))).size = h.size + 1 := by simp
  have lr := hma.lt
  have hlong : long l = (l.any (fun w => decide (48 < w.key.size) || decide (160 < w.val.size)) || decide (1024 < l.length)) := rfl
  refine br_intro (fun e => ?_) fun e => ?_
  · have hn2 : ¬ (n : Int) > 1024 := by
      by_cases h : (n : Int) > 1024
      · simp [h] at e
      · exact h
    have e2 : decide (1024 < l.length) = false := decide_eq_false (by omega)
    rw [e2, Bool.or_false] at hlong
    show HC Tryz.prog _ _ (h.push (Obj.cells #[Value.map (some r)] 96 (0, 0))) _
    generalize h.push (Obj.cells #[Value.map (some r)] 96 (0, 0)) = H at kp bp zp
    refine (contW_spec (p := fun w => decide (48 < w.key.size) || decide (160 < w.val.size)) (hs.keep kp) (by omega) (by kernel_rfl) mlong_spec).mono ?_
    rintro v h1 ⟨k1, rfl⟩
    have k01 := kp.trans (k1.mono kp.size)
    rw [← hlong]
    refine ⟨_, rfl, br_intro (fun e3 => ⟨(k01.upd _), fun _ => ⟨k01, rfl⟩, fun e4 => by rw [e4] at e3; cases e3⟩) fun e3 => ?_⟩
    refine ⟨fun n5 G => ∃ (j : Nat) (m' : List (Str × Str)), n5 = j ∧ j ≤ n ∧ Upd (fun q => q = r) h G ∧ H.size ≤ G.size ∧ G[h.size]? = some (Obj.cells #[Value.map (some r)] 96 (0, 0)) ∧ MapAt Ms G r m' ∧ ∀ k, mGet m' k = mGet (doneAll P (l.take j)) k, fun n5 _ => n - n5.toNat,
      ⟨0, m, rfl, Nat.zero_le _, k01.upd _, k1.size, k1.at bp (by omega), (hma.keep kp).keep k1, hg⟩, ?_⟩
    rintro n5 G ⟨j, m', rfl, hj, uG, zG, bG, maG, gG⟩
    refine br_intro (fun e4 => ?_) fun e4 => ?_
    · have e4 := of_decide_eq_true e4
      have hq : l[j]? = some (l[j]'(by omega)) := List.getElem?_eq_getElem (by omega)
      have htk : l.take (j + 1) = l.take j ++ [l[j]'(by omega)] := List.take_succ_eq_append_getElem (by omega)
      generalize l[j]'(by omega) = w at hq htk
      obtain ⟨p7, ea, rd⟩ := wr_at (hs.upd uG fun b hb e => hA (by omega) (e ▸ hb)) hq
      refine ⟨p7, ⟨ea, by omega, e4⟩, _, _, _, rd, svc_wr rfl ?_⟩
      have bx := push_at G (wrBox w)
      have kx := keep_push G (wrBox w)
      have zx : (G.push (wrBox w)).size = G.size + 1 := by simp
      generalize G.push (wrBox w) = G2 at bx kx zx
      have bG2 := kx.at bG (by omega)
      have sd := srt_doneAll (l.take j) hsP
      have gd := get_done1 sd w
      rw [← doneAll_snoc, ← htk] at gd
      rw [wrap_i64 (by omega) (by omega)]
      refine ⟨_, wr_g bx, br_intro (fun eg => ?_) fun eg => ?_⟩
      · refine ⟨_, reads_load kMs (cell_cells0 bG2 rfl), _, wr_k bx, svc_delete (M := Ms) (k := w.key) (maG.keep kx) fun h17 z17 u17 ma17 => ⟨rfl, ?_⟩⟩
        refine ⟨⟨j + 1, _, rfl, by omega, (uG.keep' kx).trans u17, by omega, u17.at bG2 (by omega), ma17, fun k => ?_⟩, by dsimp only; omega⟩
        have hnd : (mKeys m').Nodup := by obtain ⟨_, _, _, _, h, _⟩ := maG; exact h
        rw [mGet_del hnd, gd k, eg]
        by_cases ek : w.key = k
        · simp [ek]
        · simp [ek, Ne.symm ek, gG k]
      · refine ⟨_, reads_load kMs (cell_cells0 bG2 rfl), _, wr_k bx, _, wr_v bx, svc_mapUpdate (M := Ms) (k := w.key) (v := w.val) (maG.keep kx) fun h17 z17 u17 ma17 => ?_⟩
        refine ⟨⟨j + 1, _, rfl, by omega, (uG.keep' kx).trans u17, by omega, u17.at bG2 (by omega), ma17, fun k => ?_⟩, by dsimp only; omega⟩
        rw [mGet_put, gd k, eg]
        by_cases ek : w.key = k
        · simp [ek]
        · simp [ek, Ne.symm ek, gG k]
    · have e4 := of_decide_eq_false e4
      have hjn : j = n := by omega
      subst hjn
      rw [← hl, List.take_length] at gG
      exact ⟨uG, (fun e5 => by rw [e5] at e3; cases e3), fun _ => ⟨rfl, m', maG, gG⟩⟩
  · have hn2 : (n : Int) > 1024 := by
      by_cases h : (n : Int) > 1024
      · exact h
      · simp [h] at e
    have e2 : long l = true := by rw [hlong, decide_eq_true (by omega : 1024 < l.length)]; simp
    exact ⟨kp.upd _, fun _ => ⟨kp, rfl⟩, fun e3 => by rw [e2] at e3; cases e3⟩
theorem MemS.apply {M n c : Nat} {A : Option Addr} {l : List Wr} (hm : MemS s u N P h) (hs : Sl WrE h A n l) (hc : n ≤ c) (hn : n ≤ 9223372036854775807) (hA : n ≠ 0 → ∀ q, blk A q → N q) (hM : long l = false → u + n ≤ M) :
    HC Tryz.prog 35 #[.pointer (some ⟨s, 0, none⟩), .slice A n c] h fun v h' => UpdM (fun q => ¬ N q) h h' ∧ (long l = true → MemS s u N P h' ∧ v = .int .i64 3) ∧ (long l = false → MemS s (u + n) N (doneAll P l) h' ∧ v = .int .i64 0) := by
  have rdy := hm.ready
  obtain ⟨r, m, hb, hr, hma, hg⟩ := hm.at_
  have hne : s ≠ r := fun e => by
    obtain ⟨es, cl, hx, _⟩ := hma
    rw [e, hx] at hb; cases hb
  refine HC_of_vc (args := [.pointer (some ⟨s, 0, none⟩), .slice A n c]) (base := 17) (cuts := []) (bigs := []) kM Tryz.func35 ?_
  rw [vcStApply]
  refine rdy.mono ?_
  rintro v h1 ⟨rfl, rfl⟩
  refine ⟨_, rfl, br_intro (fun e => by simp at e) fun _ => ⟨_, rfl, _, reads_load kBe (cell_cells0 hb rfl), 227, _, meth_val (by kernel_rfl), (mapply_spec hma hm.srt hg hs (fun h0 hb => hr (hA h0 _ hb)) hn).mono ?_⟩⟩
  rintro v h2 ⟨u2, a1, a2⟩
  have um : UpdM (fun q => ¬ N q) h1 h2 := (u2.mono fun q e => by rw [e]; exact hr).m
  cases hlg : long l with
  | true =>
    obtain ⟨k2, rfl⟩ := a1 hlg
    exact ⟨_, rfl, um, fun _ => ⟨hm.keep k2, rfl⟩, fun e => by cases e⟩
  | false =>
    obtain ⟨rfl, m', ma', g'⟩ := a2 hlg
    exact ⟨_, rfl, um, (fun e => by cases e), fun _ => ⟨⟨⟨r, m', u2.at hb hne, hr, ma', g'⟩, srt_doneAll l hm.srt, hm.ns, fun q hq => Nat.lt_of_lt_of_le (hm.lt q hq) u2.size⟩, rfl⟩⟩
theorem mopen_spec (hN : ∀ q, N q → q < h.size) : HC Tryz.prog 33 #[.int .i64 1, .pointer none, .string ⟨#[]⟩] h fun v h' => Keep h.size h h' ∧ v = .tuple #[.pointer (some ⟨h.size + 1, 0, none⟩), .int .i64 0] ∧ MemS (h.size + 1) 0 N [] h' ∧ h'.size = h.size + 2 := by
  refine HC_of_vc (args := [.int .i64 1, .pointer none, .string ⟨#[]⟩]) (base := 57) (cuts := []) (bigs := []) kM Tryz.func33 ?_
  rw [vcStOpen1]
  have z1 : (h.push (Obj.map #[] 0)).size = h.size + 1 := by simp
  have k1 := keep_push h (Obj.map #[] 0)
  have ma := MapAt.new Ms h
  have k2 := keep_push (h.push (Obj.map #[] 0)) (memBox h.size)
  have b2 := push_at (h.push (Obj.map #[] 0)) (memBox h.size)
  rw [z1] at b2 ⊢
  refine ⟨k1.trans (k2.mono (by omega)), rfl, ⟨⟨h.size, [], b2, fun hn => by have := hN _ hn; omega, ma.keep k2, fun _ => rfl⟩, List.Pairwise.nil, fun hn => by have := hN _ hn; omega, fun q hq => by have := hN q hq; simp; omega⟩, by simp⟩
end
end Go.Proofs.YtmdcfmhkfomoaaaGreatDoor
end

section
set_option linter.unusedVariables false
set_option linter.unusedSimpArgs false
set_option maxRecDepth 100000
namespace Go.Proofs.YtmdcfmhkfomoaaaGreatDoor
open Go Go.Vc Go.Proofs Go.Dk Go.Kv

theorem kEp : scT Tryz.prog 78 = true := by kernel_rfl
theorem zEp : szOf Tryz.prog 78 = some 1 := by kernel_rfl
abbrev entBox (e : En) (pn pe : Option Addr) : Obj := .cells #[.string e.key, .string e.val, .bool e.is, .pointer pn, .pointer pe] 80 (0, 0)
/-- what stands in a cache's own box. -/
structure Cd where
  s : Nat
  most : Nat
  r : Nat
  hits : Int
abbrev caBox (d : Cd) (pn pe : Option Addr) : Obj := .cells #[.pointer (some ⟨d.s, 0, none⟩), .int .i64 d.most, .map (some d.r), .string ⟨#[]⟩, .string ⟨#[]⟩, .bool false, .pointer pn, .pointer pe, .int .i64 d.hits] 82 (0, 0)
abbrev endA (c : Nat) : Addr := ⟨c, 3, none⟩
abbrev ad (b : Nat) : Addr := ⟨b, 0, none⟩
/-- is it a place in the ring? -/
def nodeB (c : Nat) (x : Addr) : Bool := x.spot.isNone && (if x.block = c then decide (x.off = 3) else decide (x.off = 0))
theorem node_inj {c : Nat} {x y : Addr} (hx : nodeB c x = true) (hy : nodeB c y = true) (e : x.block = y.block) : x = y := by
  obtain ⟨a, b, s⟩ := x
  obtain ⟨a', b', s'⟩ := y
  simp only [nodeB, Bool.and_eq_true, Option.isNone_iff_eq_none] at hx hy
  dsimp only at e
  subst e
  obtain ⟨rfl, h1⟩ := hx
  obtain ⟨rfl, h2⟩ := hy
  split at h1 <;> rename_i hc
  · rw [if_pos hc] at h2; rw [of_decide_eq_true h1, of_decide_eq_true h2]
  · rw [if_neg hc] at h2; rw [of_decide_eq_true h1, of_decide_eq_true h2]
def nwf (c : Nat) (h : Heap) (x : Addr) : Option Value := if nodeB c x then cell h (x.add 3) else none
def elf (c : Nat) (h : Heap) (x : Addr) : Option Value := if nodeB c x then cell h (x.add 4) else none
/-- a cache's box and its entries' boxes. -/
structure Shp (h : Heap) (c : Nat) (d : Cd) (L : List (Nat × En)) : Prop where
  ca : ∃ pn pe, h[c]? = some (caBox d pn pe)
  en : ∀ p ∈ L, ∃ pn pe, h[p.1]? = some (entBox p.2 pn pe)
  cl : c ∉ L.map (·.1)
  nd : (L.map (·.1)).Nodup
/-- a place of the ring. -/
def At_ (c : Nat) (L : List (Nat × En)) (a : Addr) : Prop := a = endA c ∨ ∃ p ∈ L, a = ad p.1
section
variable {h : Heap} {c : Nat} {d : Cd} {L : List (Nat × En)} {a : Addr}
theorem node_end (c : Nat) : nodeB c (endA c) = true := by simp [nodeB]
theorem node_ad {b : Nat} (hb : b ≠ c) : nodeB c (ad b) = true := by simp [nodeB, hb]
theorem Shp.ne (hs : Shp h c d L) {p : Nat × En} (hp : p ∈ L) : p.1 ≠ c := fun e => hs.cl (e ▸ List.mem_map_of_mem hp)
theorem Shp.node (hs : Shp h c d L) (ha : At_ c L a) : nodeB c a = true := by
  rcases ha with rfl | ⟨p, hp, rfl⟩
  · exact node_end c
  · exact node_ad (hs.ne hp)
theorem Shp.obj (hs : Shp h c d L) (ha : At_ c L a) : ∃ cs T, h[a.block]? = some (.cells cs T (0, 0)) ∧ a.off + 4 < cs.size ∧ a.spot = none := by
  rcases ha with rfl | ⟨p, hp, rfl⟩
  · obtain ⟨pn, pe, hb⟩ := hs.ca; exact ⟨_, _, hb, by simp, rfl⟩
  · obtain ⟨pn, pe, hb⟩ := hs.en p hp; exact ⟨_, _, hb, by simp, rfl⟩
/-- a pointer of a place's is written: only it turns. -/
theorem Shp.store (hs : Shp h c d L) (ha : At_ c L a) {i : Nat} (hi : i = 3 ∨ i = 4) {v : Option Addr} {K : Unit → Heap → Prop}
    (k : ∀ h', Shp h' c d L → (∀ x, nwf c h' x = if x = a ∧ i = 3 then some (.pointer v) else nwf c h x) → (∀ x, elf c h' x = if x = a ∧ i = 4 then some (.pointer v) else elf c h x) → Upd (fun q => q = a.block) h h' → K () h') :
    SVC Tryz.prog (Instr.storeAt 78 (.pointer (some (a.add i))) (.pointer v)) h K := by
  obtain ⟨cs, T, hb, hlt, hsp⟩ := hs.obj ha
  have hna := hs.node ha
  obtain ⟨ab, ao, sp⟩ := a
  dsimp only at hb hlt hsp
  subst hsp
  rw [Addr.add_row]
  refine svc_store_cell zEp hb (by omega) rfl (one_pointer _) fun h' z' b' o' => ?_
  have uu : Upd (fun q => q = ab) h h' := upd_of_one z' o'
  have hcell : ∀ (x : Addr) (j : Nat), nodeB c x = true → (j = 3 ∨ j = 4) → cell h' (x.add j) = if x = ⟨ab, ao, none⟩ ∧ i = j then some (.pointer v) else cell h (x.add j) := fun x j hx hj => by
    by_cases hxa : x = ⟨ab, ao, none⟩
    · subst hxa
      rw [Addr.add_row, cell_at b', cell_at hb]
      by_cases hij : i = j
      · subst hij
        rw [if_pos ⟨rfl, rfl⟩]
        have hlt2 : ao + i < cs.toList.length := by rw [Array.length_toList]; omega
        show (cs.toList.set (ao + i) (Value.pointer v)).toArray[ao + i]? = _
        rw [← Array.getElem?_toList, List.getElem?_set, if_pos rfl, if_pos hlt2]
      · rw [if_neg fun h => hij h.2]
        rw [← Array.getElem?_toList, List.getElem?_set, if_neg (by omega), Array.getElem?_toList]
    · rw [if_neg fun h => hxa h.1]
      have hbk : x.block ≠ ab := fun e => hxa (node_inj hx hna e)
      refine cell_congr ?_
      rw [Addr.add_block]
      exact o' _ hbk
  refine k h' ⟨?_, fun p hp => ?_, hs.cl, hs.nd⟩ (fun x => ?_) (fun x => ?_) uu
  · obtain ⟨pn, pe, hc⟩ := hs.ca
    by_cases e : c = ab
    · subst e
      have ho : ao = 3 := by simpa [nodeB] using hna
      subst ho
      rw [hc] at hb
      cases hb
      rcases hi with rfl | rfl
      · exact ⟨v, pe, by rw [b']; rfl⟩
      · exact ⟨pn, v, by rw [b']; rfl⟩
    · exact ⟨pn, pe, (o' c e).trans hc⟩
  · obtain ⟨pn, pe, hc⟩ := hs.en p hp
    by_cases e : p.1 = ab
    · subst e
      have ho : ao = 0 := by simpa [nodeB, hs.ne hp] using hna
      subst ho
      rw [hc] at hb
      cases hb
      rcases hi with rfl | rfl
      · exact ⟨v, pe, by rw [b']; rfl⟩
      · exact ⟨pn, v, by rw [b']; rfl⟩
    · exact ⟨pn, pe, (o' _ e).trans hc⟩
  · unfold nwf
    cases hx : nodeB c x with
    | true => simp only [if_true]; exact hcell x 3 hx (.inl rfl)
    | false =>
      have : ¬ (x = ⟨ab, ao, none⟩ ∧ i = 3) := fun h => by rw [h.1, hna] at hx; cases hx
      rw [if_neg this]; rfl
  · unfold elf
    cases hx : nodeB c x with
    | true => simp only [if_true]; exact hcell x 4 hx (.inr rfl)
    | false =>
      have : ¬ (x = ⟨ab, ao, none⟩ ∧ i = 4) := fun h => by rw [h.1, hna] at hx; cases hx
      rw [if_neg this]; rfl
theorem nwf_rd {x : Addr} (hf : nwf c h a = Ptr x) : Reads Tryz.prog (Instr.loadAt 78 (.pointer (some (a.add 3)))) h (.pointer (some x)) := by
  unfold nwf at hf
  split at hf
  · exact reads_load kEp hf
  · cases hf
theorem elf_rd {x : Addr} (hf : elf c h a = Ptr x) : Reads Tryz.prog (Instr.loadAt 78 (.pointer (some (a.add 4)))) h (.pointer (some x)) := by
  unfold elf at hf
  split at hf
  · exact reads_load kEp hf
  · cases hf
/-- the ring. -/
structure Ring (h : Heap) (c : Nat) (d : Cd) (L : List (Nat × En)) : Prop where
  shp : Shp h c d L
  ch : Ch (nwf c h) (elf c h) (endA c) (L.map fun p => ad p.1) (endA c)
theorem Shp.nodes (hs : Shp h c d L) : (endA c :: L.map fun p => ad p.1).Nodup := by
  refine List.nodup_cons.2 ⟨fun hm => ?_, ?_⟩
  · obtain ⟨p, hp, e⟩ := List.mem_map.1 hm
    exact hs.ne hp (congrArg Addr.block e)
  · have : (L.map fun p => ad p.1) = (L.map (·.1)).map ad := by rw [List.map_map]; rfl
    rw [this]
    exact List.Pairwise.map ad (fun a b hab e => hab (congrArg Addr.block e)) hs.nd
theorem at_last : ∀ (X : List (Nat × En)) (L : List (Nat × En)), (∀ p ∈ X, p ∈ L) → At_ c L (lastA (endA c) (X.map fun p => ad p.1))
  | X, L, h => by
    rcases List.mem_cons.1 (lastA_mem (X.map fun p => ad p.1) (endA c)) with e | e
    · exact .inl e
    · obtain ⟨p, hp, e⟩ := List.mem_map.1 e
      exact .inr ⟨p, h p hp, e.symm⟩
theorem at_head (Y L : List (Nat × En)) (h : ∀ p ∈ Y, p ∈ L) : At_ c L ((Y.map fun p => ad p.1).headD (endA c)) := by
  cases Y with
  | nil => exact .inl rfl
  | cons p Y => exact .inr ⟨p, h p List.mem_cons_self, rfl⟩
theorem Shp.sub (hs : Shp h c d L) {L' : List (Nat × En)} (hl : L'.Sublist L) : Shp h c d L' :=
  ⟨hs.ca, fun p hp => hs.en p (hl.subset hp), fun hm => hs.cl ((hl.map _).subset hm), (hl.map _).nodup hs.nd⟩
theorem out_spec {X Y : List (Nat × En)} {b : Nat} {e : En} (hr : Ring h c d (X ++ (b, e) :: Y)) :
    HC Tryz.prog 49 #[.pointer (some ⟨b, 0, none⟩)] h fun v h' => v = .tuple #[] ∧ Ring h' c d (X ++ Y) ∧ Shp h' c d (X ++ (b, e) :: Y) ∧ Upd (fun q => q = c ∨ q ∈ (X ++ (b, e) :: Y).map (·.1)) h h' := by
  have hs := hr.shp
  have hch := hr.ch
  rw [List.map_append, List.map_cons] at hch
  obtain ⟨c1, c2⟩ := (Ch.app _).1 hch
  have fel := c1.back
  have fnw := c2.fore
  have hnod := hs.nodes
  rw [List.map_append, List.map_cons] at hnod
  have aP := at_last (c := c) X (X ++ (b, e) :: Y) fun p hp => List.mem_append_left _ hp
  have aN := at_head (c := c) Y (X ++ (b, e) :: Y) fun p hp => List.mem_append_right _ (List.mem_cons_of_mem _ hp)
  refine HC_of_vc (args := [.pointer (some ⟨b, 0, none⟩)]) (base := 22) (cuts := []) (bigs := []) kM Tryz.func49 ?_
  rw [vcCOut]
  refine ⟨_, rfl, _, nwf_rd fnw, _, rfl, _, elf_rd fel, _, rfl, _, elf_rd fel, _, rfl, _, nwf_rd fnw, _, rfl, hs.store aN (.inr rfl) fun h10 s10 n10 e10 u10 => ⟨_, rfl, s10.store aP (.inl rfl) fun h13 s13 n13 e13 u13 => ?_⟩⟩
  have inS : ∀ {x : Addr}, At_ c (X ++ (b, e) :: Y) x → ∀ q, q = x.block → q = c ∨ q ∈ (X ++ (b, e) :: Y).map (·.1) := fun hx q hq => by
    rcases hx with rfl | ⟨p, hp, rfl⟩
    · exact .inl hq
    · exact .inr (hq ▸ List.mem_map_of_mem hp)
  refine ⟨rfl, ⟨s13.sub (List.Sublist.append (List.Sublist.refl _) (List.sublist_cons_self _ _)), ?_⟩, s13, (u10.mono (inS aN)).trans (u13.mono (inS aP))⟩
  rw [List.map_append]
  refine hch.out hnod rfl ?_ ?_ (fun x hx => ?_) fun x hx => ?_
  · rw [n13, if_pos ⟨rfl, rfl⟩]
  · rw [e13, if_neg (fun h => by simp at h), e10, if_pos ⟨rfl, rfl⟩]
  · rw [n13, if_neg (fun h => hx h.1), n10, if_neg (fun h => by simp at h)]
  · rw [e13, if_neg (fun h => by simp at h), e10, if_neg (fun h => hx h.1)]
theorem in_spec {b : Nat} {e : En} (hr : Ring h c d L) (hs : Shp h c d (L ++ [(b, e)])) :
    HC Tryz.prog 50 #[.pointer (some ⟨c, 0, none⟩), .pointer (some ⟨b, 0, none⟩)] h fun v h' => v = .tuple #[] ∧ Ring h' c d (L ++ [(b, e)]) ∧ Upd (fun q => q = c ∨ q ∈ (L ++ [(b, e)]).map (·.1)) h h' := by
  have fel := hr.ch.back
  have hnod := hr.shp.nodes
  have hnod2 := hs.nodes
  rw [List.map_append] at hnod2
  have aP := at_last (c := c) L (L ++ [(b, e)]) fun p hp => List.mem_append_left _ hp
  have aE : At_ c (L ++ [(b, e)]) (ad b) := .inr ⟨(b, e), by simp, rfl⟩
  have aC : At_ c (L ++ [(b, e)]) (endA c) := .inl rfl
  have heL : ad b ∉ L.map fun p => ad p.1 := fun hm => by
    have := (List.nodup_append.1 (List.nodup_cons.1 hnod2).2).2.2
    exact this _ hm _ List.mem_cons_self rfl
  have hec : ad b ≠ endA c := fun h => by cases h
  have hlast : lastA (endA c) (L.map fun p => ad p.1) ≠ ad b := fun h => by
    rcases List.mem_cons.1 (lastA_mem (L.map fun p => ad p.1) (endA c)) with h2 | h2
    · rw [h2] at h; cases h
    · rw [h] at h2; exact heL h2
  refine HC_of_vc (args := [.pointer (some ⟨c, 0, none⟩), .pointer (some ⟨b, 0, none⟩)]) (base := 30) (cuts := []) (bigs := []) kM Tryz.func50 ?_
  rw [vcCIn]
  have eC : (⟨c, 0, none⟩ : Addr).add 3 = endA c := Addr.add_row c 0 3
  refine ⟨_, rfl, _, by rw [eC]; exact elf_rd fel, _, rfl, _, rfl, hs.store aE (.inr rfl) fun h5 s5 n5 e5 u5 => ⟨_, rfl, ?_⟩⟩
  rw [eC]
  refine s5.store aE (.inl rfl) fun h8 s8 n8 e8 u8 => ⟨_, rfl, _, elf_rd (c := c) (x := lastA (endA c) (L.map fun p => ad p.1)) ?_, _, rfl, s8.store aP (.inl rfl) fun h13 s13 n13 e13 u13 => ⟨_, rfl, ?_⟩⟩
  · rw [e8, if_neg (fun h => by simp at h), e5, if_pos ⟨rfl, rfl⟩]
  rw [eC]
  refine s13.store aC (.inr rfl) fun h16 s16 n16 e16 u16 => ?_
  have inS : ∀ {x : Addr}, At_ c (L ++ [(b, e)]) x → ∀ q, q = x.block → q = c ∨ q ∈ (L ++ [(b, e)]).map (·.1) := fun hx q hq => by
    rcases hx with rfl | ⟨p, hp, rfl⟩
    · exact .inl hq
    · exact .inr (hq ▸ List.mem_map_of_mem hp)
  refine ⟨rfl, ⟨s16, ?_⟩, (((u5.mono (inS aE)).trans (u8.mono (inS aE))).trans (u13.mono (inS aP))).trans (u16.mono (inS aC))⟩
  rw [List.map_append]
  refine hr.ch.inn hnod hec heL ?_ ?_ ?_ ?_ (fun x h1 h2 => ?_) fun x h1 h2 => ?_
  · rw [n16, if_neg (fun h => by simp at h), n13, if_pos ⟨rfl, rfl⟩]
  · rw [e16, if_neg (fun h => hec h.1), e13, if_neg (fun h => by simp at h), e8, if_neg (fun h => by simp at h), e5, if_pos ⟨rfl, rfl⟩]
  · rw [n16, if_neg (fun h => by simp at h), n13, if_neg (fun h => hlast h.1.symm), n8, if_pos ⟨rfl, rfl⟩]
  · rw [e16, if_pos ⟨rfl, rfl⟩]
  · rw [n16, if_neg (fun h => by simp at h), n13, if_neg (fun h => h1 h.1), n8, if_neg (fun h => h2 h.1), n5, if_neg (fun h => by simp at h)]
  · rw [e16, if_neg (fun h => h2 h.1), e13, if_neg (fun h => by simp at h), e8, if_neg (fun h => by simp at h), e5, if_neg (fun h => h1 h.1)]
end
end Go.Proofs.YtmdcfmhkfomoaaaGreatDoor
end

section
set_option linter.unusedVariables false
set_option linter.unusedSimpArgs false
set_option maxRecDepth 100000
namespace Go.Proofs.YtmdcfmhkfomoaaaGreatDoor
open Go Go.Vc Go.Proofs Go.Dk Go.Kv

noncomputable def Me := strMk Tryz.prog 77 9 78 Nat (fun b => Value.pointer (some ⟨b, 0, none⟩)) (by kernel_rfl) (by kernel_rfl)
theorem kMe : scT Tryz.prog 77 = true := by kernel_rfl
theorem kSp : scT Tryz.prog 73 = true := by kernel_rfl
theorem uEp : Tryz.prog.underlying 78 = some (.pointer (Tryz.prog.pointee 78)) := by kernel_rfl
theorem uCp : Tryz.prog.underlying 38 = some (.pointer (Tryz.prog.pointee 38)) := by kernel_rfl
theorem mput_len {κ ν : Type} [DecidableEq κ] : ∀ (m : List (κ × ν)) (k : κ) (v : ν), mGet m k = none → (mPut m k v).length = m.length + 1
  | [], k, v, _ => rfl
  | p :: m, k, v, h => by
    unfold mGet at h
    split at h
    · cases h
    · rename_i hp
      unfold mPut
      rw [if_neg hp, List.length_cons, mput_len m k v h, List.length_cons]
theorem mdel_len {κ ν : Type} [DecidableEq κ] : ∀ (m : List (κ × ν)) (k : κ) (v : ν), mGet m k = some v → (mDel m k).length + 1 = m.length
  | [], k, v, h => by cases h
  | p :: m, k, v, h => by
    unfold mGet at h
    unfold mDel
    split at h
    · rename_i hp; rw [if_pos hp]; rfl
    · rename_i hp; rw [if_neg hp, List.length_cons, List.length_cons, mdel_len m k v h]
/-- a cache's ring and map. -/
structure Raw (h : Heap) (c : Nat) (d : Cd) (L : List (Nat × En)) (ml : List (Str × Nat)) : Prop where
  ring : Ring h c d L
  map : MapAt Me h d.r ml
  get : ∀ k b, mGet ml k = some b ↔ ∃ e, (b, e) ∈ L ∧ e.key = k
  len : ml.length = L.length
  kn : (L.map fun p => p.2.key).Nodup
  rc : d.r ≠ c
  rl : d.r ∉ L.map (·.1)
section
variable {h h' : Heap} {c : Nat} {d : Cd} {L : List (Nat × En)} {ml : List (Str × Nat)} {S : Nat → Prop}
theorem Shp.updM (hs : Shp h c d L) (u : UpdM S h h') (hc : ¬ S c) (hL : ∀ p ∈ L, ¬ S p.1) : Shp h' c d L := by
  refine ⟨?_, fun p hp => ?_, hs.cl, hs.nd⟩
  · obtain ⟨pn, pe, hb⟩ := hs.ca; exact ⟨pn, pe, u.cells hb hc⟩
  · obtain ⟨pn, pe, hb⟩ := hs.en p hp; exact ⟨pn, pe, u.cells hb (hL p hp)⟩
theorem Ring.updM (hr : Ring h c d L) (u : UpdM S h h') (hc : ¬ S c) (hL : ∀ p ∈ L, ¬ S p.1) : Ring h' c d L := by
  refine ⟨hr.shp.updM u hc hL, ?_⟩
  have hx : ∀ x, At_ c L x → nwf c h' x = nwf c h x ∧ elf c h' x = elf c h x := fun x hx => by
    obtain ⟨cs, T, hb, _, _⟩ := hr.shp.obj hx
    have hs : ¬ S x.block := by
      rcases hx with rfl | ⟨p, hp, rfl⟩
      · exact hc
      · exact hL p hp
    have hb' := u.cells hb hs
    have e : ∀ i, cell h' (x.add i) = cell h (x.add i) := fun i => cell_congr (by rw [Addr.add_block, hb', hb])
    unfold nwf elf
    rw [e, e]; exact ⟨rfl, rfl⟩
  have hmem : ∀ x ∈ L.map (fun p => ad p.1), At_ c L x := fun x hm => by
    obtain ⟨p, hp, e⟩ := List.mem_map.1 hm
    exact .inr ⟨p, hp, e.symm⟩
  refine Ch.congr _ hr.ch (fun x hm => ?_) (fun x hm => (hx x (hmem x hm)).2) (hx _ (.inl rfl)).2
  rcases List.mem_cons.1 hm with rfl | hm
  · exact (hx _ (.inl rfl)).1
  · exact (hx x (hmem x hm)).1
theorem Raw.updM (hr : Raw h c d L ml) (u : UpdM S h h') (hc : ¬ S c) (hrr : ¬ S d.r) (hL : ∀ p ∈ L, ¬ S p.1) : Raw h' c d L ml :=
  ⟨hr.ring.updM u hc hL, hr.map.updM u hrr, hr.get, hr.len, hr.kn, hr.rc, hr.rl⟩
theorem Shp.lt (hs : Shp h c d L) : c < h.size ∧ ∀ p ∈ L, p.1 < h.size := by
  refine ⟨?_, fun p hp => ?_⟩
  · obtain ⟨pn, pe, hb⟩ := hs.ca; exact at_lt hb
  · obtain ⟨pn, pe, hb⟩ := hs.en p hp; exact at_lt hb
theorem Raw.rm (hr : Raw h c d L ml) : Reads Tryz.prog (Instr.loadAt 77 (.pointer (some ((⟨c, 0, none⟩ : Addr).add 2)))) h (.map (some d.r)) := by
  obtain ⟨pn, pe, hb⟩ := hr.ring.shp.ca
  exact reads_load kMe (cell_cells hb rfl)
theorem Raw.rmost (hr : Raw h c d L ml) : Reads Tryz.prog (Instr.loadAt 3 (.pointer (some ((⟨c, 0, none⟩ : Addr).add 1)))) h (.int .i64 d.most) := by
  obtain ⟨pn, pe, hb⟩ := hr.ring.shp.ca
  exact reads_load kI (cell_cells hb rfl)
theorem Raw.rhits (hr : Raw h c d L ml) : Reads Tryz.prog (Instr.loadAt 3 (.pointer (some ((⟨c, 0, none⟩ : Addr).add 8)))) h (.int .i64 d.hits) := by
  obtain ⟨pn, pe, hb⟩ := hr.ring.shp.ca
  exact reads_load kI (cell_cells hb rfl)
theorem Raw.rs (hr : Raw h c d L ml) : Reads Tryz.prog (Instr.loadAt 73 (.pointer (some ⟨c, 0, none⟩))) h (.pointer (some ⟨d.s, 0, none⟩)) := by
  obtain ⟨pn, pe, hb⟩ := hr.ring.shp.ca
  exact reads_load kSp (cell_cells0 hb rfl)
theorem Raw.look (hr : Raw h c d L ml) (k : Str) : Reads Tryz.prog (Instr.lookup 77 (.map (some d.r)) (.string k) false) h (.pointer ((mGet ml k).map fun b => ⟨b, 0, none⟩)) := by
  have rd := (reads_lookup (M := Me) (k := k) (z := .pointer none) hr.map (by kernel_rfl)).1
  cases hg : mGet ml k with
  | none => rw [hg] at rd; exact rd
  | some b => rw [hg] at rd; exact rd
theorem Raw.miss (hr : Raw h c d L ml) {k : Str} (hg : mGet ml k = .none) : efind k (L.map (·.2)) = .none := by
  unfold efind
  rw [List.find?_eq_none]
  intro e he hk
  obtain ⟨p, hp, rfl⟩ := List.mem_map.1 he
  have := (hr.get k p.1).2 ⟨p.2, hp, of_decide_eq_true hk⟩
  rw [hg] at this; cases this
theorem Raw.hit (hr : Raw h c d L ml) {k : Str} {b : Nat} (hg : mGet ml k = .some b) : ∃ X Y e, L = X ++ (b, e) :: Y ∧ e.key = k ∧ efind k (L.map (·.2)) = .some e ∧ ecut k (L.map (·.2)) = (X ++ Y).map (·.2) := by
  obtain ⟨e, hm, hk⟩ := (hr.get k b).1 hg
  obtain ⟨X, Y, rfl⟩ := List.append_of_mem hm
  have kn := hr.kn
  rw [List.map_append, List.map_cons] at kn
  obtain ⟨n1, n2, n3⟩ := List.nodup_append.1 kn
  have hX : ∀ p ∈ X, p.2.key ≠ k := fun p hp h => n3 _ (List.mem_map_of_mem (f := fun p : Nat × En => p.2.key) hp) _ List.mem_cons_self (h.trans hk.symm)
  have hY : ∀ p ∈ Y, p.2.key ≠ k := fun p hp h => (List.nodup_cons.1 n2).1 (by
    have : e.key = p.2.key := hk.trans h.symm
    rw [this]; exact List.mem_map_of_mem (f := fun p : Nat × En => p.2.key) hp)
  refine ⟨X, Y, e, rfl, hk, ?_, ?_⟩
  · unfold efind
    rw [List.map_append, List.map_cons, List.find?_append]
    have : (X.map (·.2)).find? (fun e => decide (e.key = k)) = .none := by
      rw [List.find?_eq_none]
      intro x hx hd
      obtain ⟨p, hp, rfl⟩ := List.mem_map.1 hx
      exact hX p hp (of_decide_eq_true hd)
    rw [this]
    simp [hk]
  · unfold ecut
    rw [List.map_append, List.map_cons, List.filter_append, List.filter_cons]
    simp only [hk, ne_eq, not_true_eq_false, decide_false, Bool.false_eq_true, if_false]
    rw [List.map_append]
    congr 1
    · refine List.filter_eq_self.2 fun x hx => ?_
      obtain ⟨p, hp, rfl⟩ := List.mem_map.1 hx
      exact decide_eq_true (hX p hp)
    · refine List.filter_eq_self.2 fun x hx => ?_
      obtain ⟨p, hp, rfl⟩ := List.mem_map.1 hx
      exact decide_eq_true (hY p hp)
/-- an entry's value is written. -/
theorem svc_ent_val {b : Nat} {e : En} {v : Str} {pn pe : Option Addr} {K : Unit → Heap → Prop} (hb : h[b]? = .some (entBox e pn pe)) (k : ∀ h', h'.size = h.size → h'[b]? = .some (entBox { e with val := v } pn pe) → Upd (fun q => q = b) h h' → K () h') :
    SVC Tryz.prog (Instr.storeAt 9 (.pointer (.some ((⟨b, 0, .none⟩ : Addr).add 1))) (.string v)) h K :=
  svc_store_box (k := 1) zS hb (by simp) rfl (one_string _) fun h' z' b' u' => k h' z' (by rw [b']; rfl) u'
theorem svc_ent_is {b : Nat} {e : En} {v : Bool} {pn pe : Option Addr} {K : Unit → Heap → Prop} (hb : h[b]? = .some (entBox e pn pe)) (k : ∀ h', h'.size = h.size → h'[b]? = .some (entBox { e with is := v } pn pe) → Upd (fun q => q = b) h h' → K () h') :
    SVC Tryz.prog (Instr.storeAt 4 (.pointer (.some ((⟨b, 0, .none⟩ : Addr).add 2))) (.bool v)) h K :=
  svc_store_box (k := 2) zB hb (by simp) rfl (one_bool _) fun h' z' b' u' => k h' z' (by rw [b']; rfl) u'
/-- an entry that lies beside the ring goes in at the end. -/
theorem Shp.snoc (hr : Ring h c d L) {b : Nat} {e : En} {pn pe : Option Addr} (hb : h[b]? = .some (entBox e pn pe)) (hc : b ≠ c) (hL : b ∉ L.map (·.1)) : Shp h c d (L ++ [(b, e)]) := by
  have hs := hr.shp
  refine ⟨hs.ca, fun p hp => ?_, fun hm => ?_, ?_⟩
  · rcases List.mem_append.1 hp with hp | hp
    · exact hs.en p hp
    · obtain rfl := List.mem_singleton.1 hp; exact ⟨pn, pe, hb⟩
  · rw [List.map_append] at hm
    rcases List.mem_append.1 hm with hm | hm
    · exact hs.cl hm
    · exact hc (List.mem_singleton.1 hm).symm
  · rw [List.map_append]
    exact List.nodup_append.2 ⟨hs.nd, by simp, fun x hx y hy e2 => hL (by have hy2 : y = b := List.mem_singleton.1 hy; rw [← hy2, ← e2]; exact hx)⟩
/-- one that is known is used again: it goes to the end, with what is so now. -/
theorem reput_spec {X Y : List (Nat × En)} {b : Nat} {e : En} {v : Str} {is : Bool} {K : Heap → Prop} (hr : Raw h c d (X ++ (b, e) :: Y) ml) {h2 : Heap} (hr2 : Ring h2 c d (X ++ Y)) (hb2 : ∃ pn pe, h2[b]? = .some (entBox ⟨e.key, v, is⟩ pn pe)) (hm2 : MapAt Me h2 d.r ml)
    (u2 : Upd (fun q => q = c ∨ q ∈ (X ++ (b, e) :: Y).map (·.1)) h h2)
    (k : ∀ h', Raw h' c d (X ++ Y ++ [(b, ⟨e.key, v, is⟩)]) ml → Upd (fun q => q = c ∨ q ∈ (X ++ (b, e) :: Y).map (·.1)) h h' → K h') :
    HC Tryz.prog 50 #[.pointer (.some ⟨c, 0, .none⟩), .pointer (.some ⟨b, 0, .none⟩)] h2 fun w h' => w = .tuple #[] ∧ K h' := by
  obtain ⟨pn, pe, hb⟩ := hb2
  have hs := hr.ring.shp
  have hbc : b ≠ c := hs.ne (p := (b, e)) (by simp)
  have hnd := hs.nd
  rw [List.map_append, List.map_cons] at hnd
  have hbL : b ∉ (X ++ Y).map (·.1) := fun hm => by
    rw [List.map_append] at hm
    obtain ⟨n1, n2, n3⟩ := List.nodup_append.1 hnd
    rcases List.mem_append.1 hm with hm | hm
    · exact n3 _ hm _ List.mem_cons_self rfl
    · exact (List.nodup_cons.1 n2).1 hm
  refine (in_spec hr2 (Shp.snoc hr2 (e := ⟨e.key, v, is⟩) hb hbc hbL)).mono ?_
  rintro w h' ⟨rfl, r', u'⟩
  have hperm : ∀ {α : Type} (x : α) (A B : List α), (A ++ B ++ [x]).Perm (A ++ x :: B) := fun x A B => by
    rw [List.append_assoc]; exact List.Perm.append_left A (List.perm_append_singleton x B)
  have hsub : ∀ q, (q = c ∨ q ∈ (X ++ Y ++ [(b, (⟨e.key, v, is⟩ : En))]).map (·.1)) → (q = c ∨ q ∈ (X ++ (b, e) :: Y).map (·.1)) := fun q hq => hq.imp id fun hq => by
    simp only [List.map_append, List.map_cons, List.map_nil, List.mem_append, List.mem_cons, List.not_mem_nil, or_false] at hq ⊢
    rcases hq with (hq | hq) | hq
    · exact .inl hq
    · exact .inr (.inr hq)
    · exact .inr (.inl hq)
  refine ⟨rfl, k h' ⟨r', hm2.upd u' fun hq => ?_, fun k' b' => ?_, ?_, ?_, hr.rc, fun hm => ?_⟩ (u2.trans (u'.mono hsub))⟩
  · rcases hsub _ hq with hq | hq
    · exact hr.rc hq
    · exact hr.rl hq
  · rw [hr.get]
    constructor
    · rintro ⟨e1, hm, hk⟩
      simp only [List.mem_append, List.mem_cons, List.not_mem_nil, or_false] at hm ⊢
      rcases hm with hm | hm | hm
      · exact ⟨e1, .inl (.inl hm), hk⟩
      · cases hm; exact ⟨_, .inr rfl, hk⟩
      · exact ⟨e1, .inl (.inr hm), hk⟩
    · rintro ⟨e1, hm, hk⟩
      simp only [List.mem_append, List.mem_cons, List.not_mem_nil, or_false] at hm ⊢
      rcases hm with (hm | hm) | hm
      · exact ⟨e1, .inl hm, hk⟩
      · exact ⟨e1, .inr (.inr hm), hk⟩
      · cases hm; exact ⟨e, .inr (.inl rfl), hk⟩
  · rw [hr.len]; simp only [List.length_append, List.length_cons, List.length_nil]; omega
  · have e1 : (X ++ Y ++ [(b, (⟨e.key, v, is⟩ : En))]).map (fun p => p.2.key) = (X.map fun p => p.2.key) ++ (Y.map fun p => p.2.key) ++ [e.key] := by simp
    have e2 : (X ++ (b, e) :: Y).map (fun p => p.2.key) = (X.map fun p => p.2.key) ++ e.key :: (Y.map fun p => p.2.key) := by simp
    have kn := hr.kn
    rw [e2] at kn
    rw [e1]
    exact (hperm e.key _ _).nodup_iff.2 kn
  · have := hsub d.r (.inr hm)
    rcases this with h1 | h1
    · exact hr.rc h1
    · exact hr.rl h1
end
end Go.Proofs.YtmdcfmhkfomoaaaGreatDoor
end

section
set_option linter.unusedVariables false
set_option linter.unusedSimpArgs false
set_option maxRecDepth 100000
namespace Go.Proofs
open Go Go.RowKit Go.Sort Go.Shelf
def cmpS (a b : ByteArray) : Int := if Op.bytesLess a.toList b.toList then -1 else if Op.bytesLess b.toList a.toList then 1 else 0
theorem cmpS_gt {a b : ByteArray} (h : Op.bytesLess a.toList b.toList = false) : cmpS a b = if (!(Op.bytesLess a.toList b.toList || a.toList == b.toList)) = true then 1 else 0 := by
  unfold cmpS
  rw [if_neg (by rw [h]; decide), h, Bool.false_or]
  cases h2 : (a.toList == b.toList) with
  | true =>
    have : a = b := Go.Dk.eq_beq.1 h2
    subst this
    rw [h]; rfl
  | false =>
    have hne : a ≠ b := fun e => by subst e; simp at h2
    cases h3 : Op.bytesLess b.toList a.toList with
    | true => rfl
    | false => exact absurd (Go.Dk.lt_total h h3) hne
theorem run_gtrS (P : Program) (t : TypeId) (a b : ByteArray) (w : World) : (binOp .gtr t (.string a) (.string b)).run P w = .ok (.bool (!(Op.bytesLess a.toList b.toList || a.toList == b.toList))) w := by
  simp [binOp, Op.stringOp]
attribute [local go_sem] run_gtrS
set_option maxHeartbeats 1000000 in
theorem Tryz.compareS (a b : ByteArray) (W : World) : Calls Tryz.prog 235 #[.string a, .string b] W fun e w' => e = .returned (.int .i64 (cmpS a b)) ∧ w' = W := by
  cases h1 : Op.bytesLess a.toList b.toList with
  | true =>
    have hc : cmpS a b = -1 := by unfold cmpS; rw [if_pos h1]
    rw [hc]
    go_enter Tryz.func235, Tryz.ntmps235
    go_wp2
    go_ret
    exact ⟨rfl, rfl⟩
  | false =>
    have hc := cmpS_gt h1
    generalize cmpS a b = r at hc ⊢
    rw [h1] at hc
    go_enter Tryz.func235, Tryz.ntmps235
    go_wp2
    · rename_i hx
      go_ret
      refine ⟨?_, rfl⟩
      rw [hc, Bool.false_or, if_pos hx]; rfl
    · rename_i hx
      go_ret
      refine ⟨?_, rfl⟩
      rw [hc, Bool.false_or, if_neg (by rw [hx]; decide)]; rfl
def Tryz.encPr (x : ByteArray × ByteArray) : List Value := [.string x.1, .string x.2]
def Tryz.encWr (x : Go.Kv.Wr) : List Value := [.string x.key, .string x.val, .bool x.gone]
set_option maxHeartbeats 1000000 in
theorem Tryz.lessPr (x y : ByteArray × ByteArray) (W : World) : Calls Tryz.prog 234 #[.agg #[.string x.1, .string x.2], .agg #[.string y.1, .string y.2]] W fun e w' => e = .returned (.int .i64 (cmpS x.1 y.1)) ∧ ∃ q os', w' = grow (W.drewN q) os' := by
  have hcon := fun W' => Tryz.compareS x.1 y.1 W'
  generalize cmpS x.1 y.1 = r at hcon ⊢
  go_enter Tryz.func234, Tryz.ntmps234
  go_wp2_with (go_at_call 235; refine (hcon _).mono ?_; rintro e w' ⟨rfl, rfl⟩)
  go_ret
  exact ⟨rfl, 0, _, by rw [alloc_eq_grow, alloc_eq_grow, grow_grow]; rfl⟩
section
open Go.Shelf
def Tryz.sortPr_ren : Go.Shelf.Ren := ⟨fun | 6 => 233 | 15 => 159 | 14 => 237 | 28 => 180 | 29 => 164 | 20 => 238 | 21 => 239 | 22 => 240 | 23 => 241 | 24 => 242 | 25 => 243 | 26 => 244 | 27 => 245 | 46 => 246 | 47 => 196 | 48 => 197 | 49 => 247 | 50 => 248 | 57 => 249 | n => n, fun | 22 => 51 | 24 => 65 | 25 => 310 | 3 => 3 | 39 => 142 | 0 => 0 | 53 => 136 | 55 => 115 | 4 => 4 | 46 => 265 | 45 => 264 | 50 => 186 | 5 => 5 | 9 => 9 | 66 => 281 | 70 => 284 | 76 => 288 | 77 => 289 | n => n, fun | n => n⟩
theorem Tryz.sortPr : Go.Proofs.SlLaysF0.n6 Tryz.prog Tryz.sortPr_ren := {
  mixed := by kernel_rfl
  f6 := ⟨Tryz.f233.name, by decide, Tryz.func233.trans (congrArg some (by kernel_rfl))⟩
  f14 := ⟨Tryz.f237.name, by decide, Tryz.func237.trans (congrArg some (by kernel_rfl))⟩
  f15 := Tryz.func159.trans (congrArg some (by kernel_rfl))
  f20 := ⟨Tryz.f238.name, by decide, Tryz.func238.trans (congrArg some (by kernel_rfl))⟩
  f21 := ⟨Tryz.f239.name, by decide, Tryz.func239.trans (congrArg some (by kernel_rfl))⟩
  f22 := ⟨Tryz.f240.name, by decide, Tryz.func240.trans (congrArg some (by kernel_rfl))⟩
  f23 := ⟨Tryz.f241.name, by decide, Tryz.func241.trans (congrArg some (by kernel_rfl))⟩
  f24 := ⟨Tryz.f242.name, by decide, Tryz.func242.trans (congrArg some (by kernel_rfl))⟩
  f25 := ⟨Tryz.f243.name, by decide, Tryz.func243.trans (congrArg some (by kernel_rfl))⟩
  f26 := ⟨Tryz.f244.name, by decide, Tryz.func244.trans (congrArg some (by kernel_rfl))⟩
  f27 := ⟨Tryz.f245.name, by decide, Tryz.func245.trans (congrArg some (by kernel_rfl))⟩
  f28 := Tryz.func180.trans (congrArg some (by kernel_rfl))
  f29 := Tryz.func164.trans (congrArg some (by kernel_rfl))
  f46 := ⟨Tryz.f246.name, by decide, Tryz.func246.trans (congrArg some (by kernel_rfl))⟩
  f47 := Tryz.func196.trans (congrArg some (by kernel_rfl))
  f48 := Tryz.func197.trans (congrArg some (by kernel_rfl))
  f49 := ⟨Tryz.f247.name, by decide, Tryz.func247.trans (congrArg some (by kernel_rfl))⟩
  f50 := ⟨Tryz.f248.name, by decide, Tryz.func248.trans (congrArg some (by kernel_rfl))⟩
  f57 := ⟨Tryz.f249.name, by decide, Tryz.func249.trans (congrArg some (by kernel_rfl))⟩
  t0 := Tryz.underlying0
  a0 := Tryz.isAgg0
  z0 := Tryz.sizeOf0
  v0 := Tryz.zeroValue0
  t3 := Tryz.underlying3
  a3 := Tryz.isAgg3
  z3 := Tryz.sizeOf3
  v3 := Tryz.zeroValue3
  t4 := Tryz.underlying4
  a4 := Tryz.isAgg4
  z4 := Tryz.sizeOf4
  v4 := Tryz.zeroValue4
  t5 := Tryz.underlying5
  a5 := Tryz.isAgg5
  z5 := Tryz.sizeOf5
  v5 := Tryz.zeroValue5
  t9 := Tryz.underlying9
  a9 := Tryz.isAgg9
  z9 := Tryz.sizeOf9
  v9 := Tryz.zeroValue9
  t22 := Tryz.underlying51
  a22 := Tryz.isAgg51
  z22 := Tryz.sizeOf51
  v22 := Tryz.zeroValue51
  t25 := Tryz.underlying310
  a25 := Tryz.isAgg310
  z25 := Tryz.sizeOf310
  v25 := Tryz.zeroValue310
  t39 := Tryz.underlying142
  a39 := Tryz.isAgg142
  z39 := Tryz.sizeOf142
  v39 := Tryz.zeroValue142
  t45 := Tryz.underlying264
  a45 := Tryz.isAgg264
  z45 := Tryz.sizeOf264
  v45 := Tryz.zeroValue264
  t46 := Tryz.underlying265
  a46 := Tryz.isAgg265
  z46 := Tryz.sizeOf265
  v46 := Tryz.zeroValue265
  t50 := Tryz.underlying186
  a50 := Tryz.isAgg186
  z50 := Tryz.sizeOf186
  v50 := Tryz.zeroValue186
  t53 := Tryz.underlying136
  a53 := Tryz.isAgg136
  z53 := Tryz.sizeOf136
  v53 := Tryz.zeroValue136
  t55 := Tryz.underlying115
  a55 := Tryz.isAgg115
  z55 := Tryz.sizeOf115
  v55 := Tryz.zeroValue115
  t66 := Tryz.underlying281
  a66 := Tryz.isAgg281
  z66 := Tryz.sizeOf281
  v66 := Tryz.zeroValue281
  t70 := Tryz.underlying284
  a70 := Tryz.isAgg284
  z70 := Tryz.sizeOf284
  v70 := Tryz.zeroValue284
  t76 := Tryz.underlying288
  a76 := Tryz.isAgg288
  z76 := Tryz.sizeOf288
  v76 := Tryz.zeroValue288
  t77 := Tryz.underlying289
  a77 := Tryz.isAgg289
  z77 := Tryz.sizeOf289
  v77 := Tryz.zeroValue289 }
end
set_option maxHeartbeats 1000000 in
theorem Tryz.lessWr (x y : Go.Kv.Wr) (W : World) : Calls Tryz.prog 336 #[.agg #[.string x.key, .string x.val, .bool x.gone], .agg #[.string y.key, .string y.val, .bool y.gone]] W fun e w' => e = .returned (.int .i64 (cmpS x.key y.key)) ∧ ∃ q os', w' = grow (W.drewN q) os' := by
  have hcon := fun W' => Tryz.compareS x.key y.key W'
  generalize cmpS x.key y.key = r at hcon ⊢
  go_enter Tryz.func336, Tryz.ntmps336
  go_wp2_with (go_at_call 235; refine (hcon _).mono ?_; rintro e w' ⟨rfl, rfl⟩)
  go_ret
  exact ⟨rfl, 0, _, by rw [alloc_eq_grow, alloc_eq_grow, grow_grow]; rfl⟩
section
open Go.Shelf
def Tryz.sortWr_ren : Go.Shelf.Ren := ⟨fun | 6 => 335 | 15 => 159 | 14 => 339 | 28 => 180 | 29 => 164 | 20 => 341 | 21 => 342 | 22 => 343 | 23 => 344 | 24 => 345 | 25 => 346 | 26 => 347 | 27 => 348 | 46 => 349 | 47 => 196 | 48 => 197 | 49 => 350 | 50 => 351 | 57 => 352 | n => n, fun | 22 => 49 | 24 => 31 | 25 => 392 | 3 => 3 | 39 => 142 | 0 => 0 | 53 => 136 | 55 => 115 | 4 => 4 | 46 => 265 | 45 => 264 | 50 => 186 | 5 => 5 | 9 => 9 | 66 => 281 | 70 => 284 | 76 => 288 | 77 => 289 | n => n, fun | n => n⟩
theorem Tryz.sortWr : Go.Proofs.SlLaysF0.n6 Tryz.prog Tryz.sortWr_ren := {
  mixed := by kernel_rfl
  f6 := ⟨Tryz.f335.name, by decide, Tryz.func335.trans (congrArg some (by kernel_rfl))⟩
  f14 := ⟨Tryz.f339.name, by decide, Tryz.func339.trans (congrArg some (by kernel_rfl))⟩
  f15 := Tryz.func159.trans (congrArg some (by kernel_rfl))
  f20 := ⟨Tryz.f341.name, by decide, Tryz.func341.trans (congrArg some (by kernel_rfl))⟩
  f21 := ⟨Tryz.f342.name, by decide, Tryz.func342.trans (congrArg some (by kernel_rfl))⟩
  f22 := ⟨Tryz.f343.name, by decide, Tryz.func343.trans (congrArg some (by kernel_rfl))⟩
  f23 := ⟨Tryz.f344.name, by decide, Tryz.func344.trans (congrArg some (by kernel_rfl))⟩
  f24 := ⟨Tryz.f345.name, by decide, Tryz.func345.trans (congrArg some (by kernel_rfl))⟩
  f25 := ⟨Tryz.f346.name, by decide, Tryz.func346.trans (congrArg some (by kernel_rfl))⟩
  f26 := ⟨Tryz.f347.name, by decide, Tryz.func347.trans (congrArg some (by kernel_rfl))⟩
  f27 := ⟨Tryz.f348.name, by decide, Tryz.func348.trans (congrArg some (by kernel_rfl))⟩
  f28 := Tryz.func180.trans (congrArg some (by kernel_rfl))
  f29 := Tryz.func164.trans (congrArg some (by kernel_rfl))
  f46 := ⟨Tryz.f349.name, by decide, Tryz.func349.trans (congrArg some (by kernel_rfl))⟩
  f47 := Tryz.func196.trans (congrArg some (by kernel_rfl))
  f48 := Tryz.func197.trans (congrArg some (by kernel_rfl))
  f49 := ⟨Tryz.f350.name, by decide, Tryz.func350.trans (congrArg some (by kernel_rfl))⟩
  f50 := ⟨Tryz.f351.name, by decide, Tryz.func351.trans (congrArg some (by kernel_rfl))⟩
  f57 := ⟨Tryz.f352.name, by decide, Tryz.func352.trans (congrArg some (by kernel_rfl))⟩
  t0 := Tryz.underlying0
  a0 := Tryz.isAgg0
  z0 := Tryz.sizeOf0
  v0 := Tryz.zeroValue0
  t3 := Tryz.underlying3
  a3 := Tryz.isAgg3
  z3 := Tryz.sizeOf3
  v3 := Tryz.zeroValue3
  t4 := Tryz.underlying4
  a4 := Tryz.isAgg4
  z4 := Tryz.sizeOf4
  v4 := Tryz.zeroValue4
  t5 := Tryz.underlying5
  a5 := Tryz.isAgg5
  z5 := Tryz.sizeOf5
  v5 := Tryz.zeroValue5
  t9 := Tryz.underlying9
  a9 := Tryz.isAgg9
  z9 := Tryz.sizeOf9
  v9 := Tryz.zeroValue9
  t22 := Tryz.underlying49
  a22 := Tryz.isAgg49
  z22 := Tryz.sizeOf49
  v22 := Tryz.zeroValue49
  t25 := Tryz.underlying392
  a25 := Tryz.isAgg392
  z25 := Tryz.sizeOf392
  v25 := Tryz.zeroValue392
  t39 := Tryz.underlying142
  a39 := Tryz.isAgg142
  z39 := Tryz.sizeOf142
  v39 := Tryz.zeroValue142
  t45 := Tryz.underlying264
  a45 := Tryz.isAgg264
  z45 := Tryz.sizeOf264
  v45 := Tryz.zeroValue264
  t46 := Tryz.underlying265
  a46 := Tryz.isAgg265
  z46 := Tryz.sizeOf265
  v46 := Tryz.zeroValue265
  t50 := Tryz.underlying186
  a50 := Tryz.isAgg186
  z50 := Tryz.sizeOf186
  v50 := Tryz.zeroValue186
  t53 := Tryz.underlying136
  a53 := Tryz.isAgg136
  z53 := Tryz.sizeOf136
  v53 := Tryz.zeroValue136
  t55 := Tryz.underlying115
  a55 := Tryz.isAgg115
  z55 := Tryz.sizeOf115
  v55 := Tryz.zeroValue115
  t66 := Tryz.underlying281
  a66 := Tryz.isAgg281
  z66 := Tryz.sizeOf281
  v66 := Tryz.zeroValue281
  t70 := Tryz.underlying284
  a70 := Tryz.isAgg284
  z70 := Tryz.sizeOf284
  v70 := Tryz.zeroValue284
  t76 := Tryz.underlying288
  a76 := Tryz.isAgg288
  z76 := Tryz.sizeOf288
  v76 := Tryz.zeroValue288
  t77 := Tryz.underlying289
  a77 := Tryz.isAgg289
  z77 := Tryz.sizeOf289
  v77 := Tryz.zeroValue289 }
end
theorem cmpS_lt (a b : ByteArray) : decide (cmpS a b < 0) = Go.Dk.lt a b := by
  unfold cmpS
  show _ = Op.bytesLess a.toList b.toList
  cases h1 : Op.bytesLess a.toList b.toList with
  | true => rfl
  | false => cases h2 : Op.bytesLess b.toList a.toList <;> simp
/-- a strict weak order by keys. -/
theorem swoKey {α : Type} (f : α → ByteArray) : SWO (ltOf fun x y : α => cmpS (f x) (f y)) where
  irrefl x := by unfold ltOf; rw [cmpS_lt]; exact Go.Dk.lt_irrefl _
  trans x y z h1 h2 := by unfold ltOf at *; rw [cmpS_lt] at *; exact Go.Dk.lt_trans h1 h2
  ntrans x y z h1 h2 := by
    unfold ltOf at *; rw [cmpS_lt] at *
    cases h3 : Go.Dk.lt (f x) (f z) with
    | false => rfl
    | true =>
      cases h4 : Go.Dk.lt (f y) (f x) with
      | true => rw [Go.Dk.lt_trans h4 h3] at h2; cases h2
      | false =>
        have e := Go.Dk.lt_total h1 h4
        rw [e, h2] at h3; cases h3
end Go.Proofs
end

section
set_option linter.unusedVariables false
set_option linter.unusedSimpArgs false
set_option maxRecDepth 100000
namespace Go.Proofs.YtmdcfmhkfomoaaaGreatDoor
open Go Go.Vc Go.Proofs Go.Dk Go.Kv

theorem app_pr : App Tryz.prog 51 65 StrPairE.sz 32 (.agg #[.string ⟨#[]⟩, .string ⟨#[]⟩]) := ⟨by kernel_rfl, by kernel_rfl, by kernel_rfl, by kernel_rfl, rfl, by decide, by decide⟩
theorem bs_pr (p : Str × Str) : bsCells Tryz.prog 51 1 [(0, .agg #[.string p.1, .string p.2])] = some (65, StrPairE.enc p) :=
  bs_one (sz := 2) (z := .agg #[.string ⟨#[]⟩, .string ⟨#[]⟩]) (v := .agg #[.string p.1, .string p.2]) (by kernel_rfl) (by kernel_rfl) (by kernel_rfl) rfl (by decide) (by decide) rfl
theorem isAggPr : ∀ w, (isAgg 65).run Tryz.prog w = .ok true w := (agT_spec (P := Tryz.prog) (t := 65) (n := 2) (by kernel_rfl)).1
theorem sortPr_spec {h : Heap} {B n c : Nat} {a : Option Addr} {xs : List (Str × Str)} (ho : Own StrPairE 65 B h a n c xs) (hn : n < 4611686018427387904) :
    HC Tryz.prog 233 #[.slice a n c, .func (.func 234) #[] #[]] h fun v h' => v = .tuple #[] ∧ ∃ ys, Own StrPairE 65 B h' a n c ys ∧ ys.Perm xs ∧ ys.Pairwise (fun x y => lt y.1 x.1 = false) ∧ Upd (blk a) h h' := by
  have hcall := fun (b cap : Nat) (d : Array (Str × Str)) (w : World) hH hb hs =>
    AnyQ.slices_SortFunc Tryz.sortPr 2 isAggPr Tryz.sizeOf65 StrPairE.enc (fun _ => rfl) (fun x v hv => by simp [StrPairE] at hv; rcases hv with rfl | rfl <;> rfl) (fun x y => cmpS x.1 y.1) (swoKey fun x : Str × Str => x.1) 234 #[] b 0 cap d w (enters_of Tryz.func234 (by kernel_rfl) rfl) (fun _ _ _ _ x y => Tryz.lessPr x y _) hH hb hs
  have hnone := fun (cap : Nat) (w : World) => AnyF.slices_SortFunc_none Tryz.sortPr none cap (.func (.func 234) #[] #[]) w
  refine (sort_hc (f := 233) (g := 234) ho hn hcall hnone).mono ?_
  rintro v h' ⟨rfl, ys, oy, hp, hs, u⟩
  refine ⟨rfl, ys, oy, hp, hs.imp fun {x y} h => ?_, u⟩
  have : ltOf (fun x y : Str × Str => cmpS x.1 y.1) y x = lt y.1 x.1 := cmpS_lt _ _
  rw [← this]; exact h
/-- sorted and the same pairs: the same list. -/
theorem sorted_eq {ys xs : List (Str × Str)} (hp : ys.Perm xs) (hs : ys.Pairwise fun x y => lt y.1 x.1 = false) (hx : SrtP xs) : ys = xs := by
  have hn : (mKeys xs).Nodup := srt_nodup hx
  have hny : (mKeys ys).Nodup := (hp.map fun p : Str × Str => p.1).nodup_iff.2 hn
  have hsy : SrtP ys := by
    have h1 : ys.Pairwise fun x y => x.1 ≠ y.1 := List.pairwise_map.1 hny
    refine List.pairwise_map.2 ((hs.and h1).imp fun {x y} h => ?_)
    cases h2 : lt x.1 y.1 with
    | true => rfl
    | false => exact absurd (lt_total h2 h.1) h.2
  refine ps_ext hsy hx fun q => ?_
  cases h1 : mGet ys q with
  | none =>
    cases h2 : mGet xs q with
    | none => rfl
    | some v => rw [(mGet_mem hny q v).1 (hp.mem_iff.2 ((mGet_mem hn q v).2 h2))] at h1; cases h1
  | some v => exact ((mGet_mem hn q v).1 (hp.mem_iff.1 ((mGet_mem hny q v).2 h1))).symm
theorem perm_pick {α : Type} : ∀ {l : List α} {j : Nat} {p : α}, l[j]? = some p → (p :: l.eraseIdx j).Perm l
  | [], _, _, h => by simp at h
  | a :: l, 0, p, h => by
    simp at h; subst h; exact List.Perm.refl _
  | a :: l, j + 1, p, h => by
    rw [List.getElem?_cons_succ] at h
    rw [List.eraseIdx_cons_succ]
    exact (List.Perm.swap a p _).trans ((perm_pick h).cons a)
section
variable {s u : Nat} {N : Nat → Prop} {P : Ps Str} {h : Heap}
set_option maxHeartbeats 1000000 in
theorem mscan_spec {r : Nat} {m : List (Str × Str)} (hma : MapAt Ms h r m) (hsP : SrtP P) (hg : ∀ k, mGet m k = mGet P k) (hP : P.length ≤ 1000000) (k : Str) (n : Int) :
    HC Tryz.prog 229 #[.agg #[.map (some r)], .string k, .int .i64 n] h fun v h' => Keep h.size h h' ∧ ∃ a c, v = .tuple #[.slice a (scan P k n).length c, .int .i64 0] ∧ Sl StrPairE h' a (scan P k n).length (scan P k n) ∧ (∀ q, blk a q → h.size ≤ q ∧ q < h'.size) := by
  have hnm : (mKeys m).Nodup := by obtain ⟨_, _, _, _, h, _⟩ := hma; exact h
  have hperm : m.Perm P := perm_of_get hnm (srt_nodup hsP) hg
  have hml : m.length = P.length := hperm.length_eq
  refine HC_of_vc (args := [.agg #[.map (some r)], .string k, .int .i64 n]) (base := 37) (cuts := []) (bigs := []) kM Tryz.func229 ?_
  rw [vcMScan]
  have kp := keep_push h (Obj.cells #[Value.map (some r)] 96 (0, 0))
  have bp := push_at h (Obj.cells #[Value.map (some r)] 96 (0, 0))
  have zp : (h.push (Obj.cells #[Value.map (some r)] 96 (0, 0))).size = h.size + 1 := by simp
  refine ⟨_, reads_load kMs (cell_cells0 bp rfl), ?_⟩
  generalize h.push (Obj.cells #[Value.map (some r)] 96 (0, 0)) = H at kp bp zp
  refine svc_range (hma.keep kp) fun h2 k2 z2 it2 => ⟨_, rfl, ?_⟩
  refine ⟨fun a n' c' G => ∃ (left out : List (Str × Str)) (cur : Option (Str × Str)), Keep h.size h G ∧ h2.size ≤ G.size ∧ IterAt Ms G H.size r m left cur ∧ Own StrPairE 65 h2.size G a n' c' out ∧ (out ++ left.filter fun p => !lt p.1 k).Perm (m.filter fun p => !lt p.1 k),
    fun _ _ _ G => leftN G H.size, ⟨m, [], none, kp.trans (k2.mono kp.size), Nat.le_refl _, it2, Own.nil _ _ _, by simp⟩, ?_⟩
  rintro a6 k7 k8 G ⟨left, out, cur, kG, zG, itG, oG, hpm⟩
  have hlt := itG.lt
  have hlo : out.length ≤ m.length := by
    have := hpm.length_eq
    have h2 := List.length_filter_le (fun p : Str × Str => !lt p.1 k) m
    rw [List.length_append] at this; omega
  have hk7 := oG.1
  have hzH : H.size ≤ h2.size := by omega
  refine svc_next itG (fun hl => .inl ⟨rfl, ?_⟩) fun j p h11 hp u11 z11 it11 => .inr ⟨_, _, rfl, ?_⟩
  · subst hl
    simp only [List.filter_nil, List.append_nil] at hpm
    refine (sortPr_spec oG (by omega)).mono ?_
    rintro v h13 ⟨rfl, ys, oy, hpy, hsy, u13⟩
    have hey : ys = P.filter fun p => !lt p.1 k := by
      refine sorted_eq ((hpy.trans hpm).trans (hperm.filter _)) hsy ?_
      exact List.Pairwise.sublist (List.filter_sublist.map _) hsP
    have hyl := oy.1
    have hc8 := oy.2.1
    refine ⟨rfl, _, reads_min, _, reads_max, ?_⟩
    have hlen : (scan P k n).length = min n.toNat k7 := by unfold scan; rw [List.length_take, ← hey, hyl]
    have hv : (if (0 : Int) > (if (k7 : Int) < n then (k7 : Int) else n) then (0 : Int) else (if (k7 : Int) < n then (k7 : Int) else n)) = ((scan P k n).length : Nat) := by
      rw [hlen]
      split <;> split at * <;> omega
    rw [hv]
    have k13 : Keep h.size h h13 := kG.trans (u13.keep kG.size fun q hq => by have := (oG.block q hq).1; have := kp.size; omega)
    refine ⟨⟨by omega, by omega, by omega⟩, k13, a6, k8, by rw [Int.toNat_natCast], ?_, fun q hq => ?_⟩
    · refine ⟨rfl, ?_⟩
      rcases oy.sl.2 with h0 | ⟨p, ea, hp⟩
      · left; unfold scan; rw [← hey, h0]; simp
      · refine .inr ⟨p, ea, fun i x hx => hp i x ?_⟩
        unfold scan at hx
        rw [← hey, List.getElem?_take] at hx
        split at hx
        · exact hx
        · cases hx
    · have := oy.block q hq; have := kp.size; omega
  · refine ⟨p.1, p.2, reads_entry it11, ?_⟩
    have hpk := perm_pick hp
    have o11 := oG.upd u11 fun q hq e => by have := (oG.block q hq).1; omega
    have k11 : Keep h.size h h11 := kG.trans (u11.keep kG.size fun q hq => by have := kp.size; omega)
    have hmeas : leftN h11 H.size < leftN G H.size := by
      rw [it11.leftN, itG.leftN]
      have := hpk.length_eq
      simp only [List.length_cons] at this; omega
    have hpf := (hpk.filter fun p => !lt p.1 k)
    rw [List.filter_cons] at hpf
    refine br_intro (fun e => ?_) fun e => ?_
    · have e : (!lt p.1 k) = true := e
      rw [if_pos e] at hpf
      refine svc_append1 (x := p) app_pr o11 (by omega) (bs_pr p) (by omega) fun a' c' h' o' u' b' => ?_
      have hh : ∀ q, blk a6 q → h2.size ≤ q := fun q hq => (o11.block q hq).1
      have it' := it11.upd u' (fun hq => by have := hh _ hq; omega) fun hq => by
        have := hh _ hq
        have := hma.lt
        have := kp.size; omega
      refine ⟨⟨left.eraseIdx j, out ++ [p], some p, k11.trans (u'.keep k11.size fun q hq => by have := hh q hq; have := kp.size; omega), by have := u'.size; omega, it', o', ?_⟩, ?_⟩
      · refine List.Perm.trans ?_ hpm
        rw [List.append_assoc]
        exact List.Perm.append_left out hpf
      · dsimp only
        rw [it'.leftN, itG.leftN]
        have := hpk.length_eq
        simp only [List.length_cons] at this; omega
    · have e : (!lt p.1 k) = false := e
      rw [if_neg (by rw [e]; decide)] at hpf
      exact ⟨⟨left.eraseIdx j, out, some p, k11, by omega, it11, o11, (List.Perm.append_left out hpf).trans hpm⟩, hmeas⟩
theorem MemS.scan (hm : MemS s u N P h) (hP : P.length ≤ 1000000) (k : Str) (n : Int) : HC Tryz.prog 51 #[.pointer (some ⟨s, 0, none⟩), .string k, .int .i64 n] h fun v h' => MemS s u N P h' ∧ UpdM (fun q => ¬ N q) h h' ∧
    ∃ a c, v = .tuple #[.slice a (Kv.scan P k n).length c, .int .i64 0] ∧ Sl StrPairE h' a (Kv.scan P k n).length (Kv.scan P k n) ∧ (∀ q, blk a q → h.size ≤ q ∧ q < h'.size) := by
  have rdy := hm.ready
  obtain ⟨r, m, hb, hr, hma, hg⟩ := hm.at_
  refine HC_of_vc (args := [.pointer (some ⟨s, 0, none⟩), .string k, .int .i64 n]) (base := 23) (cuts := []) (bigs := []) kM Tryz.func51 ?_
  rw [vcStScan]
  refine rdy.mono ?_
  rintro v h1 ⟨rfl, rfl⟩
  refine ⟨_, rfl, br_intro (fun e => by simp at e) fun _ => ⟨_, rfl, _, reads_load kBe (cell_cells0 hb rfl), 229, _, meth_val (by kernel_rfl), (mscan_spec hma hm.srt hg hP k n).mono ?_⟩⟩
  rintro v h2 ⟨k2, a, c, rfl, sl, hbk⟩
  exact ⟨_, _, _, _, rfl, hm.keep k2, k2.m, a, c, rfl, sl, hbk⟩
/-- the memory store is a store. -/
theorem memSto (M s : Nat) : Sto M (MemS s) s := ⟨fun h => h.srt, fun h => h.lt, fun h u hT hN => h.own u hT hN, fun h k => h.get k, fun h hs hc hn hA hM => h.apply hs hc hn hA hM, fun h hP k n => h.scan hP k n⟩
end
end Go.Proofs.YtmdcfmhkfomoaaaGreatDoor
end

section
set_option linter.unusedVariables false
set_option linter.unusedSimpArgs false
set_option maxRecDepth 100000
namespace Go.Proofs.YtmdcfmhkfomoaaaGreatDoor
open Go Go.Vc Go.Proofs Go.Dk Go.Kv

section
variable {h h' : Heap} {c : Nat} {d : Cd} {L : List (Nat × En)} {ml : List (Str × Nat)} {S : Nat → Prop}
/-- what a cache's own blocks are. -/
def ownC (c : Nat) (d : Cd) (L : List (Nat × En)) (q : Nat) : Prop := q = c ∨ q = d.r ∨ q ∈ L.map (·.1)
theorem Raw.lt (hr : Raw h c d L ml) : ∀ q, ownC c d L q → q < h.size := by
  rintro q (rfl | rfl | hq)
  · exact hr.ring.shp.lt.1
  · exact hr.map.lt
  · obtain ⟨p, hp, rfl⟩ := List.mem_map.1 hq
    exact hr.ring.shp.lt.2 p hp
/-- the eldest is forgotten. -/
theorem oldest_spec {b : Nat} {e : En} {K : Heap → Prop} (hr : Raw h c d ((b, e) :: L) ml)
    (k : ∀ h', Raw h' c d L (mDel ml e.key) → Upd (ownC c d ((b, e) :: L)) h h' → K h') :
    HC Tryz.prog 49 #[.pointer (some ⟨b, 0, none⟩)] h fun v h1 => v = .tuple #[] ∧ ∃ p, some (Addr.mk c 0 none) = some p ∧ ∃ a, Reads Tryz.prog (Instr.loadAt 77 (.pointer (some (p.add 2)))) h1 (.map a) ∧
      ∃ p2, some (Addr.mk b 0 none) = some p2 ∧ ∃ s, Reads Tryz.prog (Instr.loadAt 9 (.pointer (some p2))) h1 (.string s) ∧ SVC Tryz.prog (Builtin.delete_ #[77, 9] 0 #[.map a, .string s]) h1 fun v h2 => v = .tuple #[] ∧ K h2 := by
  have hrs := hr.ring.shp
  refine (out_spec (X := []) (Y := L) hr.ring).mono ?_
  rintro v h1 ⟨rfl, r1, s1, u1⟩
  obtain ⟨pn, pe, hc1⟩ := s1.ca
  obtain ⟨pn', pe', hb1⟩ := s1.en (b, e) List.mem_cons_self
  have hm1 : MapAt Me h1 d.r ml := hr.map.upd u1 fun hq => hq.elim hr.rc hr.rl
  refine ⟨rfl, _, rfl, _, reads_load kMe (cell_cells hc1 rfl), _, rfl, _, reads_load kS (cell_cells0 hb1 rfl), svc_delete (M := Me) (k := e.key) hm1 fun h2 z2 u2 m2 => ⟨rfl, k h2 ?_ ?_⟩⟩
  · have hnd : (mKeys ml).Nodup := by obtain ⟨_, _, _, _, h, _⟩ := hr.map; exact h
    have kn := hr.kn
    rw [List.map_cons] at kn
    have kn2 := List.nodup_cons.1 kn
    have rl := hr.rl
    rw [List.map_cons, List.mem_cons] at rl
    refine ⟨r1.updM u2.m (fun hq => hr.rc hq.symm) fun p hp hq => rl (.inr (hq ▸ List.mem_map_of_mem (f := fun p : Nat × En => p.1) hp)), m2, fun k' b' => ?_, ?_, kn2.2, hr.rc, fun hm => rl (.inr hm)⟩
    · rw [mGet_del hnd]
      by_cases ek : e.key = k'
      · rw [if_pos ek]
        constructor
        · intro h; cases h
        · rintro ⟨e1, hm, hk⟩
          exact absurd (by
            have : e.key = e1.key := ek.trans hk.symm
            rw [this]; exact List.mem_map_of_mem (f := fun p : Nat × En => p.2.key) hm) kn2.1
      · rw [if_neg ek, hr.get]
        constructor
        · rintro ⟨e1, hm, hk⟩
          rcases List.mem_cons.1 hm with hm | hm
          · cases hm; exact absurd hk ek
          · exact ⟨e1, hm, hk⟩
        · rintro ⟨e1, hm, hk⟩
          exact ⟨e1, List.mem_cons_of_mem _ hm, hk⟩
    · have h1 := mdel_len ml e.key b ((hr.get e.key b).2 ⟨e, List.mem_cons_self, rfl⟩)
      have h2 := hr.len
      rw [List.length_cons] at h2; omega
  · refine Upd.trans (u1.mono fun q hq => ?_) (u2.mono fun q hq => .inr (.inl hq))
    rcases hq with hq | hq
    · exact .inl hq
    · exact .inr (.inr hq)
/-- a new entry goes in at the end. -/
theorem fresh_spec {k v : Str} {is : Bool} {K : Heap → Prop} (hr : Raw h c d L ml) (hno : mGet ml k = none)
    (kk : ∀ h', Raw h' c d (L ++ [(h.size, ⟨k, v, is⟩)]) (mPut ml k h.size) → Upd (ownC c d L) h h' → h.size < h'.size → K h') :
    ∃ p, some (Addr.mk c 0 none) = some p ∧ ∃ a, Reads Tryz.prog (Instr.loadAt 77 (.pointer (some (p.add 2)))) (h.push (entBox ⟨k, ⟨#[]⟩, false⟩ none none)) (.map a) ∧
      SVC Tryz.prog (Instr.mapUpdate 77 (.map a) (.string k) (.pointer (some ⟨h.size, 0, none⟩))) (h.push (entBox ⟨k, ⟨#[]⟩, false⟩ none none)) fun _ h2 => ∃ p2, some (Addr.mk h.size 0 none) = some p2 ∧
      SVC Tryz.prog (Instr.storeAt 9 (.pointer (some (p2.add 1))) (.string v)) h2 fun _ h3 => ∃ p3, some (Addr.mk h.size 0 none) = some p3 ∧ SVC Tryz.prog (Instr.storeAt 4 (.pointer (some (p3.add 2))) (.bool is)) h3 fun _ h4 =>
      HC Tryz.prog 50 #[.pointer (some ⟨c, 0, none⟩), .pointer (some ⟨h.size, 0, none⟩)] h4 fun v h5 => v = .tuple #[] ∧ K h5 := by
  have kp := keep_push h (entBox ⟨k, ⟨#[]⟩, false⟩ none none)
  have bp := push_at h (entBox ⟨k, ⟨#[]⟩, false⟩ none none)
  have zp : (h.push (entBox ⟨k, ⟨#[]⟩, false⟩ none none)).size = h.size + 1 := by simp
  generalize h.push (entBox ⟨k, ⟨#[]⟩, false⟩ none none) = H at kp bp zp
  have hlt := hr.lt
  have hrH : Raw H c d L ml := hr.updM (S := fun _ => False) kp.m id id fun _ _ => id
  refine ⟨_, rfl, _, hrH.rm, svc_mapUpdate (M := Me) (k := k) (v := h.size) hrH.map fun h2 z2 u2 m2 => ⟨_, rfl, ?_⟩⟩
  have hne : h.size ≠ d.r := fun e => by have := hlt d.r (.inr (.inl rfl)); omega
  refine svc_ent_val (u2.at bp hne) fun h3 z3 b3 u3 => ⟨_, rfl, svc_ent_is b3 fun h4 z4 b4 u4 => ?_⟩
  have r2 : Ring h2 c d L := hrH.ring.updM u2.m (fun hq => hr.rc hq.symm) fun p hp hq => hr.rl (hq ▸ List.mem_map_of_mem (f := fun p : Nat × En => p.1) hp)
  have hcs : c ≠ h.size := fun e => by have := hlt c (.inl rfl); omega
  have hLs : ∀ p ∈ L, p.1 ≠ h.size := fun p hp e => by have := hlt p.1 (.inr (.inr (List.mem_map_of_mem (f := fun p : Nat × En => p.1) hp))); omega
  have r4 : Ring h4 c d L := (r2.updM u3.m hcs fun p hp => hLs p hp).updM u4.m hcs fun p hp => hLs p hp
  have m4 : MapAt Me h4 d.r (mPut ml k h.size) := (m2.upd u3 (Ne.symm hne)).upd u4 (Ne.symm hne)
  have hsn : h.size ∉ L.map (·.1) := fun hm => by
    obtain ⟨p, hp, e⟩ := List.mem_map.1 hm
    exact hLs p hp e
  refine (in_spec (e := ⟨k, v, is⟩) r4 (Shp.snoc r4 b4 (Ne.symm hcs) hsn)).mono ?_
  rintro w h5 ⟨rfl, r5, u5⟩
  have hsub : ∀ q, q < h.size → (q = c ∨ q ∈ (L ++ [(h.size, (⟨k, v, is⟩ : En))]).map (·.1)) → ownC c d L q := fun q hl hq => by
    simp only [List.map_append, List.map_cons, List.map_nil, List.mem_append, List.mem_cons, List.not_mem_nil, or_false] at hq
    rcases hq with hq | hq | hq
    · exact .inl hq
    · exact .inr (.inr hq)
    · omega
  have uu : Upd (ownC c d L) h h5 := by
    have a1 : Upd (fun q => q < h.size → ownC c d L q) h H := kp.upd _
    have a2 : Upd (fun q => q < h.size → ownC c d L q) H h5 := (((u2.mono fun q hq _ => .inr (.inl hq)).trans (u3.mono fun q hq hl => by omega)).trans (u4.mono fun q hq hl => by omega)).trans (u5.mono fun q hq hl => hsub q hl hq)
    exact (a1.trans a2).of_sub fun q hl hq => hq hl
  have z5 := u5.size
  refine ⟨rfl, kk h5 ⟨r5, m4.upd u5 fun hq => ?_, fun k' b' => ?_, ?_, ?_, hr.rc, fun hm => ?_⟩ uu (by omega)⟩
  · simp only [List.map_append, List.map_cons, List.map_nil, List.mem_append, List.mem_cons, List.not_mem_nil, or_false] at hq
    rcases hq with hq | hq | hq
    · exact hr.rc hq
    · exact hr.rl hq
    · exact hne hq.symm
  · rw [mGet_put]
    by_cases ek : k = k'
    · subst ek
      rw [if_pos rfl]
      constructor
      · intro h; cases h; exact ⟨_, List.mem_append_right _ List.mem_cons_self, rfl⟩
      · rintro ⟨e1, hm, hk⟩
        rcases List.mem_append.1 hm with hm | hm
        · have := (hr.get k b').2 ⟨e1, hm, hk⟩
          rw [hno] at this; cases this
        · cases List.mem_singleton.1 hm; rfl
    · rw [if_neg ek, hr.get]
      constructor
      · rintro ⟨e1, hm, hk⟩; exact ⟨e1, List.mem_append_left _ hm, hk⟩
      · rintro ⟨e1, hm, hk⟩
        rcases List.mem_append.1 hm with hm | hm
        · exact ⟨e1, hm, hk⟩
        · cases List.mem_singleton.1 hm; exact absurd hk ek
  · rw [mput_len ml k _ hno, hr.len]; simp
  · rw [List.map_append]
    refine List.nodup_append.2 ⟨hr.kn, by simp, fun x hx y hy e2 => ?_⟩
    have hy : y = k := by simpa using hy
    obtain ⟨p, hp, e3⟩ := List.mem_map.1 hx
    have := (hr.get k p.1).2 ⟨p.2, hp, e3.trans (e2.trans hy)⟩
    rw [hno] at this; cases this
  · simp only [List.map_append, List.map_cons, List.map_nil, List.mem_append, List.mem_cons, List.not_mem_nil, or_false] at hm
    rcases hm with hm | hm
    · exact hr.rl hm
    · exact hne hm.symm
theorem Raw.rnew (hr : Raw h c d L ml) : Reads Tryz.prog (Instr.loadAt 78 (.pointer (some (((⟨c, 0, none⟩ : Addr).add 3).add 3)))) h (.pointer (some ((L.map fun p => ad p.1).headD (endA c)))) := by
  have eC : (⟨c, 0, none⟩ : Addr).add 3 = endA c := Addr.add_row c 0 3
  rw [eC]
  exact nwf_rd hr.ring.ch.fore
set_option maxHeartbeats 1000000 in
theorem keep_spec {k v : Str} {is : Bool} (hr : Raw h c d L ml) (hmost : L.length ≤ d.most) (hm2 : d.most ≤ 1024) : HC Tryz.prog 36 #[.pointer (some ⟨c, 0, none⟩), .string k, .string v, .bool is] h fun w h' => w = .tuple #[] ∧
    ∃ L' ml', Raw h' c d L' ml' ∧ L'.map (fun p : Nat × En => p.2) = ekeep d.most (L.map (fun p : Nat × En => p.2)) k v is ∧ L'.length ≤ d.most ∧ (∀ q, ownC c d L' q → ownC c d L q ∨ h.size ≤ q) ∧ Upd (ownC c d L) h h' := by
  refine HC_of_vc (args := [.pointer (some ⟨c, 0, none⟩), .string k, .string v, .bool is]) (base := 70) (cuts := []) (bigs := []) kM Tryz.func36 ?_
  rw [vcCKeep]
  refine ⟨_, rfl, _, hr.rm, _, hr.look k, _, reads_eql_nil uEp, ?_⟩
  cases hg : mGet ml k with
  | none =>
    have hf := hr.miss hg
    refine br_intro (fun _ => ?_) fun e => by cases e
    refine ⟨_, rfl, _, hr.rmost, br_intro (fun e => ?_) fun e => ?_⟩
    · have e : d.most = 0 := by simpa using e
      refine ⟨rfl, L, ml, hr, ?_, hmost, fun q hq => .inl hq, Upd.refl _ _⟩
      unfold ekeep
      rw [hf, if_neg (by decide), if_pos e]
    · have e : d.most ≠ 0 := by simpa using e
      have hkeep : ∀ L2 : List (Nat × En), L2 = (if L.length = d.most then L.tail else L) → ∀ b, (L2 ++ [(b, (⟨k, v, is⟩ : En))]).map (fun p : Nat × En => p.2) = ekeep d.most (L.map (fun p : Nat × En => p.2)) k v is := fun L2 e2 b => by
        unfold ekeep
        rw [hf, if_neg (by decide), if_neg e, List.map_append, List.length_map, e2]
        split
        · rw [List.map_tail]; rfl
        · rfl
      refine ⟨_, rfl, _, hr.rm, _, reads_len_map hr.map, _, rfl, _, hr.rmost, br_intro (fun e2 => ?_) fun e2 => ?_⟩
      · have hlen := hr.len
        have e2 : ml.length = d.most := Int.ofNat_inj.1 (beq_iff_eq.1 e2)
        cases hL : L with
        | nil => rw [hL, List.length_nil] at hlen; omega
        | cons p L1 =>
          obtain ⟨b, e0⟩ := p
          subst hL
          have rn := hr.rnew
          refine ⟨_, rfl, _, rn, ?_⟩
          refine (oldest_spec (K := fun h2 => ∃ p, some (Addr.mk c 0 none) = some p ∧ ∃ a, Reads Tryz.prog (Instr.loadAt 77 (.pointer (some (p.add 2)))) (h2.push (entBox ⟨k, ⟨#[]⟩, false⟩ none none)) (.map a) ∧
            SVC Tryz.prog (Instr.mapUpdate 77 (.map a) (.string k) (.pointer (some ⟨h2.size, 0, none⟩))) (h2.push (entBox ⟨k, ⟨#[]⟩, false⟩ none none)) fun _ h3 => ∃ p2, some (Addr.mk h2.size 0 none) = some p2 ∧
            SVC Tryz.prog (Instr.storeAt 9 (.pointer (some (p2.add 1))) (.string v)) h3 fun _ h4 => ∃ p3, some (Addr.mk h2.size 0 none) = some p3 ∧ SVC Tryz.prog (Instr.storeAt 4 (.pointer (some (p3.add 2))) (.bool is)) h4 fun _ h5 =>
            HC Tryz.prog 50 #[.pointer (some ⟨c, 0, none⟩), .pointer (some ⟨h2.size, 0, none⟩)] h5 fun w h' => w = .tuple #[] ∧ (Value.tuple #[] = .tuple #[] ∧
              ∃ L' ml', Raw h' c d L' ml' ∧ L'.map (fun p : Nat × En => p.2) = ekeep d.most (((b, e0) :: L1).map (fun p : Nat × En => p.2)) k v is ∧ L'.length ≤ d.most ∧ (∀ q, ownC c d L' q → ownC c d ((b, e0) :: L1) q ∨ h.size ≤ q) ∧ Upd (ownC c d ((b, e0) :: L1)) h h')) hr fun h2 hr2 u2 => ?_).mono fun _ _ h => h
          have hno2 : mGet (mDel ml e0.key) k = none := by
            have hnd : (mKeys ml).Nodup := by obtain ⟨_, _, _, _, h, _⟩ := hr.map; exact h
            rw [mGet_del hnd]; split <;> first | rfl | exact hg
          refine fresh_spec hr2 hno2 fun h' hr' u' z' => ⟨rfl, _, _, hr', hkeep L1 ?_ _, ?_, fun q hq => ?_, ?_⟩
          · rw [if_pos (by rw [← hlen]; exact e2)]; rfl
          · simp only [List.length_append, List.length_cons, List.length_nil] at hmost ⊢; omega
          · have hz := u2.size
            rcases hq with hq | hq | hq
            · exact .inl (.inl hq)
            · exact .inl (.inr (.inl hq))
            · simp only [List.map_append, List.map_cons, List.map_nil, List.mem_append, List.mem_cons, List.not_mem_nil, or_false] at hq
              rcases hq with hq | hq
              · exact .inl (.inr (.inr (List.mem_cons_of_mem _ hq)))
              · exact .inr (by omega)
          · refine u2.trans (u'.mono fun q hq => ?_)
            rcases hq with hq | hq | hq
            · exact .inl hq
            · exact .inr (.inl hq)
            · exact .inr (.inr (List.mem_cons_of_mem _ hq))
      · have hlen := hr.len
        have e2 : ml.length ≠ d.most := by
          intro e3; rw [e3] at e2; simp at e2
        refine fresh_spec hr hg fun h' hr' u' z' => ⟨rfl, _, _, hr', hkeep L ?_ _, ?_, fun q hq => ?_, u'⟩
        · rw [if_neg (by rw [← hlen]; exact e2)]
        · simp only [List.length_append, List.length_cons, List.length_nil]; omega
        · rcases hq with hq | hq | hq
          · exact .inl (.inl hq)
          · exact .inl (.inr (.inl hq))
          · simp only [List.map_append, List.map_cons, List.map_nil, List.mem_append, List.mem_cons, List.not_mem_nil, or_false] at hq
            rcases hq with hq | hq
            · exact .inl (.inr (.inr hq))
            · exact .inr (by omega)
  | some b =>
    obtain ⟨X, Y, e, rfl, hk, hf, hcut⟩ := hr.hit hg
    refine br_intro (fun e => by cases e) fun _ => ?_
    refine (out_spec hr.ring).mono ?_
    rintro w h46 ⟨rfl, r46, s46, u46⟩
    obtain ⟨pn, pe, b46⟩ := s46.en (b, e) (by simp)
    refine ⟨rfl, _, rfl, svc_ent_val b46 fun h49 z49 b49 u49 => ⟨_, rfl, svc_ent_is b49 fun h52 z52 b52 u52 => ?_⟩⟩
    have hs := hr.ring.shp
    have hnd := hs.nd
    rw [List.map_append, List.map_cons] at hnd
    obtain ⟨n1, n2, n3⟩ := List.nodup_append.1 hnd
    have hbc : c ≠ b := fun e2 => hs.ne (p := (b, e)) (by simp) e2.symm
    have hXY : ∀ p ∈ X ++ Y, p.1 ≠ b := fun p hp e2 => by
      rcases List.mem_append.1 hp with hp | hp
      · exact n3 _ (List.mem_map_of_mem (f := fun p : Nat × En => p.1) hp) _ List.mem_cons_self e2
      · have hh := List.mem_map_of_mem (f := fun p : Nat × En => p.1) hp
        rw [e2] at hh
        exact (List.nodup_cons.1 n2).1 hh
    have r52 : Ring h52 c d (X ++ Y) := (r46.updM u49.m hbc fun p hp => hXY p hp).updM u52.m hbc fun p hp => hXY p hp
    have hrb : d.r ≠ b := fun e2 => hr.rl (by rw [e2]; simp)
    have m46 : MapAt Me h46 d.r ml := hr.map.upd u46 fun hq => hq.elim hr.rc hr.rl
    have m52 : MapAt Me h52 d.r ml := (m46.upd u49 hrb).upd u52 hrb
    have u52' : Upd (fun q => q = c ∨ q ∈ (X ++ (b, e) :: Y).map (·.1)) h h52 := (u46.trans (u49.mono fun q hq => .inr (by rw [hq]; simp))).trans (u52.mono fun q hq => .inr (by rw [hq]; simp))
    refine (reput_spec (v := v) (is := is) (K := fun h' => Value.tuple #[] = .tuple #[] ∧ ∃ L' ml', Raw h' c d L' ml' ∧ L'.map (fun p : Nat × En => p.2) = ekeep d.most ((X ++ (b, e) :: Y).map (fun p : Nat × En => p.2)) k v is ∧ L'.length ≤ d.most ∧ (∀ q, ownC c d L' q → ownC c d (X ++ (b, e) :: Y) q ∨ h.size ≤ q) ∧ Upd (ownC c d (X ++ (b, e) :: Y)) h h') hr r52 ⟨pn, pe, b52⟩ m52 u52' fun h' r' u' => ⟨rfl, _, _, r', ?_, ?_, fun q hq => .inl ?_, u'.mono fun q hq => ?_⟩).mono fun _ _ h => h
    · unfold ekeep
      rw [hf, if_pos (by rfl), hcut, List.map_append, hk]; rfl
    · simp only [List.length_append, List.length_cons, List.length_nil] at hmost ⊢; omega
    · rcases hq with hq | hq | hq
      · exact .inl hq
      · exact .inr (.inl hq)
      · simp only [List.map_append, List.map_cons, List.map_nil, List.mem_append, List.mem_cons, List.not_mem_nil, or_false] at hq ⊢
        refine .inr (.inr ?_)
        simp only [List.map_append, List.map_cons, List.mem_append, List.mem_cons]
        rcases hq with (hq | hq) | hq
        · exact .inl hq
        · exact .inr (.inr hq)
        · exact .inr (.inl hq)
    · rcases hq with hq | hq
      · exact .inl hq
      · exact .inr (.inr hq)
end
end Go.Proofs.YtmdcfmhkfomoaaaGreatDoor
end

section
set_option linter.unusedVariables false
set_option linter.unusedSimpArgs false
set_option maxRecDepth 100000
namespace Go.Proofs.YtmdcfmhkfomoaaaGreatDoor
open Go Go.Vc Go.Proofs Go.Dk Go.Kv

/-- how often it was a hit. -/
theorem Raw.svc_hits {h : Heap} {c : Nat} {d : Cd} {L : List (Nat × En)} {ml : List (Str × Nat)} (hr : Raw h c d L ml) {n : Int} {K : Unit → Heap → Prop} (k : ∀ h', Raw h' c { d with hits := n } L ml → Upd (fun q => q = c) h h' → K () h') :
    SVC Tryz.prog (Instr.storeAt 3 (.pointer (some ((⟨c, 0, none⟩ : Addr).add 8))) (.int .i64 n)) h K := by
  obtain ⟨pn, pe, hb⟩ := hr.ring.shp.ca
  refine svc_store_box (k := 8) zI hb (by simp) rfl (one_int _ _) fun h' z' b' u' => k h' ⟨⟨⟨⟨pn, pe, by rw [b']; rfl⟩, fun p hp => ?_, hr.ring.shp.cl, hr.ring.shp.nd⟩, ?_⟩, hr.map.upd u' hr.rc, hr.get, hr.len, hr.kn, hr.rc, hr.rl⟩ u'
  · obtain ⟨pn, pe, hc⟩ := hr.ring.shp.en p hp
    exact ⟨pn, pe, u'.at hc (hr.ring.shp.ne hp)⟩
  · have hx : ∀ x, At_ c L x → nwf c h' x = nwf c h x ∧ elf c h' x = elf c h x := fun x hx => by
      have e : ∀ i, i = 3 ∨ i = 4 → cell h' (x.add i) = cell h (x.add i) := fun i hi => by
        rcases hx with rfl | ⟨p, hp, rfl⟩
        · rw [Addr.add_row, cell_at b', cell_at hb]
          rcases hi with rfl | rfl <;> rfl
        · refine cell_congr ?_
          obtain ⟨pn, pe, hc⟩ := hr.ring.shp.en p hp
          rw [Addr.add_block, u'.at hc (hr.ring.shp.ne hp), hc]
      unfold nwf elf
      rw [e 3 (.inl rfl), e 4 (.inr rfl)]; exact ⟨rfl, rfl⟩
    have hmem : ∀ x ∈ L.map (fun p => ad p.1), At_ c L x := fun x hm => by
      obtain ⟨p, hp, e⟩ := List.mem_map.1 hm
      exact .inr ⟨p, hp, e.symm⟩
    refine Ch.congr _ hr.ring.ch (fun x hm => ?_) (fun x hm => (hx x (hmem x hm)).2) (hx _ (.inl rfl)).2
    rcases List.mem_cons.1 hm with rfl | hm
    · exact (hx _ (.inl rfl)).1
    · exact (hx x (hmem x hm)).1
/-- a cache of so many entries ahead of a store. -/
structure CaS (S : Nat → (Nat → Prop) → Ps Str → Heap → Prop) (s c most u : Nat) (N : Nat → Prop) (P : Ps Str) (E : List En) (hits : Int) (h : Heap) : Prop where
  ex : ∃ r L ml, Raw h c ⟨s, most, r, hits⟩ L ml ∧ L.map (·.2) = E ∧ S u (fun q => N q ∨ ownC c ⟨s, most, r, hits⟩ L q) P h ∧ ∀ q, N q → ¬ ownC c ⟨s, most, r, hits⟩ L q
  len : E.length ≤ most
  lm : most ≤ 1024
  good : ∀ e ∈ E, GoodE P e
  kn : (ekeys E).Nodup
section
variable {S : Nat → (Nat → Prop) → Ps Str → Heap → Prop} {M s c most u : Nat} {N : Nat → Prop} {P : Ps Str} {E : List En} {hits : Int} {h : Heap}
theorem CaS.lt (hS : Sto M S s) (hc : CaS S s c most u N P E hits h) : ∀ q, N q → q < h.size := fun q hq => by
  obtain ⟨r, L, ml, hr, hE, hs, hN⟩ := hc.ex
  exact hS.lt hs q (.inl hq)
theorem Raw.kn' {d : Cd} {L : List (Nat × En)} {ml : List (Str × Nat)} (hr : Raw h c d L ml) : (ekeys (L.map (·.2))).Nodup := by
  have := hr.kn
  unfold ekeys
  rw [List.map_map]; exact this
theorem CaS.own (hS : Sto M S s) (hc : CaS S s c most u N P E hits h) {T N' : Nat → Prop} {h' : Heap} (u1 : UpdM T h h') (hT : ∀ q, q < h.size → T q → N q) (hN' : ∀ q, N' q → (N q ∨ h.size ≤ q) ∧ q < h'.size) : CaS S s c most u N' P E hits h' := by
  obtain ⟨r, L, ml, hr, hE, hs, hN⟩ := hc.ex
  have hlt := hr.lt
  have uT : UpdM N h h' := u1.of_sub hT
  have ho : ∀ q, ownC c ⟨s, most, r, hits⟩ L q → ¬ N q := fun q hq hn => hN q hn hq
  refine ⟨⟨r, L, ml, hr.updM uT (ho _ (.inl rfl)) (ho _ (.inr (.inl rfl))) fun p hp => ho _ (.inr (.inr (List.mem_map_of_mem (f := fun p : Nat × En => p.1) hp))), hE, hS.own hs u1 (fun q hl hq => .inl (hT q hl hq)) fun q hq => ?_, fun q hq ho' => ?_⟩, hc.len, hc.lm, hc.good, hc.kn⟩
  · rcases hq with hq | hq
    · exact ⟨(hN' q hq).1.imp .inl id, (hN' q hq).2⟩
    · exact ⟨.inl (.inr hq), Nat.lt_of_lt_of_le (hlt q hq) u1.size⟩
  · rcases (hN' q hq).1 with h1 | h1
    · exact hN q h1 ho'
    · have := hlt q ho'; omega
/-- what only the cache's own blocks turned on leaves the store be. -/
theorem sto_after (hS : Sto M S s) {O O' : Nat → Prop} {h' : Heap} (hs : S u (fun q => N q ∨ O q) P h) (u1 : Upd O h h') (hO : ∀ q, O' q → (O q ∨ h.size ≤ q) ∧ q < h'.size) : S u (fun q => N q ∨ O' q) P h' :=
  hS.own hs u1.m (fun q _ hq => .inr hq) fun q hq => by
    rcases hq with hq | hq
    · exact ⟨.inl (.inl hq), Nat.lt_of_lt_of_le (hS.lt hs q (.inl hq)) u1.size⟩
    · exact ⟨(hO q hq).1.imp .inr id, (hO q hq).2⟩
/-- one more is remembered. -/
theorem CaS.keep (hS : Sto M S s) {r : Nat} {L : List (Nat × En)} {ml : List (Str × Nat)} (hr : Raw h c ⟨s, most, r, hits⟩ L ml) (hl : L.length ≤ most) (lm : most ≤ 1024) (hs : S u (fun q => N q ∨ ownC c ⟨s, most, r, hits⟩ L q) P h) (hN : ∀ q, N q → ¬ ownC c ⟨s, most, r, hits⟩ L q) (k v : Str) (is : Bool) :
    HC Tryz.prog 36 #[.pointer (some ⟨c, 0, none⟩), .string k, .string v, .bool is] h fun w h' => w = .tuple #[] ∧ UpdM (fun q => ¬ N q) h h' ∧ ∃ L' ml', Raw h' c ⟨s, most, r, hits⟩ L' ml' ∧ L'.map (·.2) = ekeep most (L.map (·.2)) k v is ∧ L'.length ≤ most ∧
      S u (fun q => N q ∨ ownC c ⟨s, most, r, hits⟩ L' q) P h' ∧ (∀ q, N q → ¬ ownC c ⟨s, most, r, hits⟩ L' q) := by
  refine (keep_spec hr hl lm).mono ?_
  rintro w h' ⟨rfl, L', ml', hr', hE, hl', ho, u1⟩
  have hlt := hr'.lt
  refine ⟨rfl, u1.m.mono fun q hq hn => hN q hn hq, L', ml', hr', hE, hl', sto_after hS hs u1 fun q hq => ⟨ho q hq, hlt q hq⟩, fun q hn hq => ?_⟩
  rcases ho q hq with h1 | h1
  · exact hN q hn h1
  · have := hS.lt hs q (.inl hn); omega
set_option maxHeartbeats 1000000 in
theorem CaS.get (hS : Sto M S s) (hc : CaS S s c most u N P E hits h) (h0 : 0 ≤ hits) (h1 : hits < 1000000000) (k : Str) : HC Tryz.prog 40 #[.pointer (some ⟨c, 0, none⟩), .string k] h fun v h' => UpdM (fun q => ¬ N q) h h' ∧
    v = .tuple #[.string ((mGet P k).getD ⟨#[]⟩), .bool (mGet P k).isSome, .int .i64 0] ∧ CaS S s c most u N P (ekeep most E k ((mGet P k).getD ⟨#[]⟩) (mGet P k).isSome) (hits + if (efind k E).isSome then 1 else 0) h' := by
  obtain ⟨r, L, ml, hr, rfl, hs, hN⟩ := hc.ex
  have hgood := hc.good
  have hgg := good_get (most := most) hgood k
  have hll := ekeep_len (k := k) (v := (mGet P k).getD ⟨#[]⟩) (is := (mGet P k).isSome) hc.len
  have hl : L.length ≤ most := by have := hc.len; rw [List.length_map] at this; exact this
  refine HC_of_vc (args := [.pointer (some ⟨c, 0, none⟩), .string k]) (base := 61) (cuts := []) (bigs := []) kM Tryz.func40 ?_
  rw [vcCGet]
  refine ⟨_, reads_eql_nil uCp, br_intro (fun e => by cases e) fun _ => ⟨_, rfl, _, hr.rm, _, hr.look k, _, reads_neq_nil uEp, ?_⟩⟩
  cases hg : mGet ml k with
  | some b =>
    obtain ⟨X, Y, e, rfl, hk, hf, hcut⟩ := hr.hit hg
    have hge := hgood e (by simp)
    have hev : e.is = (mGet P k).isSome ∧ e.val = (mGet P k).getD ⟨#[]⟩ := hk ▸ hge
    refine br_intro (fun _ => ?_) fun e => by cases e
    refine ⟨_, rfl, _, hr.rhits, _, rfl, ?_⟩
    rw [wrap_i64 (by dsimp only; omega) (by dsimp only; omega)]
    refine hr.svc_hits fun h9 hr9 u9 => ?_
    refine (out_spec hr9.ring).mono ?_
    rintro w h11 ⟨rfl, r11, s11, u11⟩
    obtain ⟨pn, pe, b11⟩ := s11.en (b, e) (by simp)
    have m11 : MapAt Me h11 r ml := hr9.map.upd u11 fun hq => hq.elim hr.rc hr.rl
    refine ⟨rfl, (reput_spec (v := e.val) (is := e.is) hr9 r11 ⟨pn, pe, b11⟩ m11 u11 (K := fun h13 => _) fun h13 r13 u13 => ?_)⟩
    obtain ⟨pn', pe', b13⟩ := r13.ring.shp.en (b, ⟨e.key, e.val, e.is⟩) (by simp)
    refine ⟨_, rfl, _, reads_load kS (cell_cells b13 rfl), _, rfl, _, reads_load kB (cell_cells b13 rfl), ?_⟩
    have uu : Upd (ownC c ⟨s, most, r, hits⟩ (X ++ (b, e) :: Y)) h h13 := (u9.mono fun q hq => .inl hq).trans (u13.mono fun q hq => hq.imp id .inr)
    have hsub : ∀ q, ownC c ⟨s, most, r, hits + 1⟩ (X ++ Y ++ [(b, (⟨e.key, e.val, e.is⟩ : En))]) q → ownC c ⟨s, most, r, hits⟩ (X ++ (b, e) :: Y) q := fun q hq => by
      rcases hq with hq | hq | hq
      · exact .inl hq
      · exact .inr (.inl hq)
      · refine .inr (.inr ?_)
        simp only [List.map_append, List.map_cons, List.map_nil, List.mem_append, List.mem_cons, List.not_mem_nil, or_false] at hq ⊢
        rcases hq with (hq | hq) | hq
        · exact .inl hq
        · exact .inr (.inr hq)
        · exact .inr (.inl hq)
    have hlt := r13.lt
    have hEq : (X ++ Y ++ [(b, (⟨e.key, e.val, e.is⟩ : En))]).map (·.2) = ekeep most ((X ++ (b, e) :: Y).map (·.2)) k ((mGet P k).getD ⟨#[]⟩) (mGet P k).isSome := by
      unfold ekeep
      rw [hf, if_pos (by rfl), hcut, List.map_append, ← hev.1, ← hev.2, hk]; rfl
    have hkn := r13.kn'
    rw [hEq] at hkn
    refine ⟨uu.m.mono fun q hq hn => hN q hn hq, by rw [hev.1, hev.2], ?_⟩
    rw [hf]
    exact ⟨⟨r, _, ml, r13, hEq, sto_after hS hs uu fun q hq => ⟨.inl (hsub q hq), hlt q hq⟩, fun q hn hq => hN q hn (hsub q hq)⟩, hll, hc.lm, hgg, hkn⟩
  | none =>
    have hf := hr.miss hg
    refine br_intro (fun e => by cases e) fun _ => ?_
    refine ⟨_, rfl, _, hr.rs, (hS.get hs k).mono ?_⟩
    rintro v h21 ⟨s21, u21, rfl⟩
    have ho : ∀ q, ownC c ⟨s, most, r, hits⟩ L q → ¬ ¬ (N q ∨ ownC c ⟨s, most, r, hits⟩ L q) := fun q hq hn => hn (.inr hq)
    have r21 : Raw h21 c ⟨s, most, r, hits⟩ L ml := hr.updM u21 (ho _ (.inl rfl)) (ho _ (.inr (.inl rfl))) fun p hp => ho _ (.inr (.inr (List.mem_map_of_mem (f := fun p : Nat × En => p.1) hp)))
    refine ⟨_, _, _, rfl, br_intro (fun _ => ?_) fun e => by simp at e⟩
    refine (CaS.keep hS r21 hl hc.lm s21 hN k _ _).mono ?_
    rintro w h26 ⟨rfl, u26, L', ml', r26, hEq, hl', s26, hN'⟩
    have hkn := r26.kn'
    rw [hEq] at hkn
    refine ⟨rfl, (u21.mono fun q hq hn => hq (.inl hn)).trans u26, rfl, ?_⟩
    rw [hf]
    have e0 : hits + (if (none : Option En).isSome = true then 1 else 0) = hits := by simp
    rw [e0]
    exact ⟨⟨r, L', ml', r26, hEq, s26, hN'⟩, hll, hc.lm, hgg, hkn⟩
end
end Go.Proofs.YtmdcfmhkfomoaaaGreatDoor
end

section
set_option linter.unusedVariables false
set_option linter.unusedSimpArgs false
set_option maxRecDepth 100000
namespace Go.Proofs.YtmdcfmhkfomoaaaGreatDoor
open Go Go.Vc Go.Proofs Go.Dk Go.Kv

/-- a cache's ring, and its store beside. -/
structure CaR (S : Nat → (Nat → Prop) → Ps Str → Heap → Prop) (s c most u : Nat) (N : Nat → Prop) (P : Ps Str) (r : Nat) (L : List (Nat × En)) (ml : List (Str × Nat)) (hits : Int) (h : Heap) : Prop where
  raw : Raw h c ⟨s, most, r, hits⟩ L ml
  len : L.length ≤ most
  sto : S u (fun q => N q ∨ ownC c ⟨s, most, r, hits⟩ L q) P h
  dis : ∀ q, N q → ¬ ownC c ⟨s, most, r, hits⟩ L q
section
variable {S : Nat → (Nat → Prop) → Ps Str → Heap → Prop} {M s c most u : Nat} {N : Nat → Prop} {P : Ps Str} {E : List En} {hits : Int} {h : Heap}
theorem CaR.keep {r : Nat} {L : List (Nat × En)} {ml : List (Str × Nat)} (hS : Sto M S s) (hc : CaR S s c most u N P r L ml hits h) {h' : Heap} (k : Keep h.size h h') : CaR S s c most u N P r L ml hits h' := by
  have u1 : UpdM (fun _ => False) h h' := ((k.upd fun _ => False)).m
  refine ⟨hc.raw.updM u1 id id fun _ _ => id, hc.len, hS.own hc.sto u1 (fun _ _ h => h.elim) fun q hq => ⟨.inl hq, Nat.lt_of_lt_of_le (hS.lt hc.sto q hq) u1.size⟩, hc.dis⟩
theorem CaS.rr (hc : CaS S s c most u N P E hits h) : ∃ r L ml, CaR S s c most u N P r L ml hits h ∧ L.map (·.2) = E := by
  obtain ⟨r, L, ml, hr, rfl, hs, hN⟩ := hc.ex
  exact ⟨r, L, ml, ⟨hr, by have := hc.len; rw [List.length_map] at this; exact this, hs, hN⟩, rfl⟩
theorem CaR.cas {r : Nat} {L : List (Nat × En)} {ml : List (Str × Nat)} (hc : CaR S s c most u N P r L ml hits h) (lm : most ≤ 1024) (hE : L.map (·.2) = E) (hg : ∀ e ∈ E, GoodE P e) : CaS S s c most u N P E hits h := by
  refine ⟨⟨r, L, ml, hc.raw, hE, hc.sto, hc.dis⟩, ?_, lm, hg, ?_⟩
  · rw [← hE, List.length_map]; exact hc.len
  · have := hc.raw.kn'; rw [hE] at this; exact this
set_option maxHeartbeats 1000000 in
theorem CaS.apply (hS : Sto M S s) (hc : CaS S s c most u N P E hits h) {A : Option Addr} {n cc : Nat} {l : List Wr} (hs : Sl WrE h A n l) (hcc : n ≤ cc) (hn : n ≤ 9223372036854775807) (hA : n ≠ 0 → ∀ q, blk A q → N q) (hM : long l = false → u + n ≤ M) :
    HC Tryz.prog 18 #[.pointer (some ⟨c, 0, none⟩), .slice A n cc] h fun v h' => UpdM (fun q => ¬ N q) h h' ∧ (long l = true → CaS S s c most u N P E hits h' ∧ v = .int .i64 3) ∧
      (long l = false → CaS S s c most (u + n) N (doneAll P l) (l.foldl (eput most) E) hits h' ∧ v = .int .i64 0) := by
  obtain ⟨r, L, ml, hR, rfl⟩ := hc.rr
  have hl := hs.1
  have sP := hS.srt hR.sto
  have hgl := good_puts l sP hc.len hc.good
  refine HC_of_vc (args := [.pointer (some ⟨c, 0, none⟩), .slice A n cc]) (base := 38) (cuts := []) (bigs := []) kM Tryz.func18 ?_
  rw [vcCApply]
  refine ⟨_, reads_eql_nil uCp, br_intro (fun e => by cases e) fun _ => ⟨_, rfl, _, hR.raw.rs, (hS.apply hR.sto hs hcc hn (fun h0 q hq => .inl (hA h0 q hq)) hM).mono ?_⟩⟩
  rintro v h4 ⟨u4, a1, a2⟩
  have u4N : UpdM (fun q => ¬ N q) h h4 := u4.mono fun q hq hn => hq (.inl hn)
  have ho : ∀ q, ownC c ⟨s, most, r, hits⟩ L q → ¬ ¬ (N q ∨ ownC c ⟨s, most, r, hits⟩ L q) := fun q hq hn => hn (.inr hq)
  have r4 : Raw h4 c ⟨s, most, r, hits⟩ L ml := hR.raw.updM u4 (ho _ (.inl rfl)) (ho _ (.inr (.inl rfl))) fun p hp => ho _ (.inr (.inr (List.mem_map_of_mem (f := fun p : Nat × En => p.1) hp)))
  cases hlg : long l with
  | true =>
    obtain ⟨s4, rfl⟩ := a1 hlg
    refine ⟨_, rfl, br_intro (fun e => by simp at e) fun _ => ⟨u4N, fun _ => ⟨CaR.cas ⟨r4, hR.len, s4, hR.dis⟩ hc.lm rfl hc.good, rfl⟩, fun e => by cases e⟩⟩
  | false =>
    obtain ⟨s4, rfl⟩ := a2 hlg
    refine ⟨_, rfl, br_intro (fun _ => ?_) fun e => by simp at e⟩
    refine ⟨fun n8 H => ∃ j : Nat, n8 = j ∧ j ≤ n ∧ UpdM (fun q => ¬ N q) h H ∧ ∃ L' ml', CaR S s c most (u + n) N (doneAll P l) r L' ml' hits H ∧ L'.map (·.2) = (l.take j).foldl (eput most) (L.map (·.2)),
      fun n8 _ => n - n8.toNat, ⟨0, rfl, Nat.zero_le _, u4N, L, ml, ⟨r4, hR.len, s4, hR.dis⟩, rfl⟩, ?_⟩
    rintro n8 h9 ⟨j, rfl, hj, uH, L', ml', R9, hE9⟩
    refine br_intro (fun e => ?_) fun e => ?_
    · have e := of_decide_eq_true e
      have hq : l[j]? = some (l[j]'(by omega)) := List.getElem?_eq_getElem (by omega)
      have htk : l.take (j + 1) = l.take j ++ [l[j]'(by omega)] := List.take_succ_eq_append_getElem (by omega)
      generalize l[j]'(by omega) = w at hq htk
      obtain ⟨p10, ea, rd⟩ := wr_at (hs.updM uH fun h0 q hq hn => hn (hA h0 q hq)) hq
      refine ⟨p10, ⟨ea, by omega, e⟩, _, _, _, rd, svc_wr rfl ?_⟩
      have k15 := keep_push h9 (wrBox w)
      have b15 := push_at h9 (wrBox w)
      generalize h9.push (wrBox w) = h15 at k15 b15
      refine ⟨_, wr_g b15, ?_⟩
      have fin : ∀ (x : Str) (g : Bool) (h18 : Heap), (if w.gone then (⟨#[]⟩ : Str) else w.val) = x → w.gone = g → Keep h9.size h9 h18 →
          HC Tryz.prog 36 #[.pointer (some ⟨c, 0, none⟩), .string w.key, .string x, .bool !g] h18 fun v h23 => v = .tuple #[] ∧ (∃ j' : Nat, IntKind.i64.wrap ((j : Int) + 1) = j' ∧ j' ≤ n ∧ UpdM (fun q => ¬ N q) h h23 ∧ ∃ L' ml', CaR S s c most (u + n) N (doneAll P l) r L' ml' hits h23 ∧ L'.map (·.2) = (l.take j').foldl (eput most) (L.map (·.2))) ∧ n - (IntKind.i64.wrap ((j : Int) + 1)).toNat < n - (j : Int).toNat := by
        intro x g h18 ex eg k18
        subst ex
        subst eg
        have R18 := R9.keep hS k18
        refine (CaS.keep hS R18.raw R18.len hc.lm R18.sto R18.dis w.key _ _).mono ?_
        rintro v h23 ⟨rfl, u23, L2, ml2, r23, hEq, hl2, s23, d23⟩
        rw [wrap_i64 (by omega) (by omega)]
        exact ⟨rfl, ⟨j + 1, rfl, by omega, (uH.trans k18.m).trans u23, L2, ml2, ⟨r23, hl2, s23, d23⟩, by rw [hEq, hE9, htk, List.foldl_append]; rfl⟩, by omega⟩
      refine br_intro (fun eg => ?_) fun eg => ?_
      · refine svc_store_box (k := 1) zS b15 (by simp) rfl (one_string _) fun h18 z18 b18 u18 => ?_
        have b18 : h18[h9.size]? = some (wrBox ⟨w.key, ⟨#[]⟩, w.gone⟩) := by rw [b18]; rfl
        refine ⟨_, wr_k b18, _, wr_v b18, _, wr_g b18, fin _ _ h18 (by rw [eg]; rfl) rfl ?_⟩
        exact k15.trans (u18.keep k15.size fun q hq => Nat.le_of_eq hq.symm)
      · exact ⟨_, wr_k b15, _, wr_v b15, _, wr_g b15, fin _ _ h15 (by rw [eg]; rfl) rfl k15⟩
    · have e := of_decide_eq_false e
      have hjn : j = n := by omega
      subst hjn
      rw [← hl, List.take_length] at hE9
      exact ⟨uH, (fun e => by cases e), fun _ => ⟨R9.cas hc.lm hE9 hgl, rfl⟩⟩
theorem CaS.scan (hS : Sto M S s) (hc : CaS S s c most u N P E hits h) (hP : P.length ≤ 1000000) (k : Str) (n : Int) : HC Tryz.prog 37 #[.pointer (some ⟨c, 0, none⟩), .string k, .int .i64 n] h fun v h' => UpdM (fun q => ¬ N q) h h' ∧ CaS S s c most u N P E hits h' ∧
    ∃ a c, v = .tuple #[.slice a (Kv.scan P k n).length c, .int .i64 0] ∧ Sl StrPairE h' a (Kv.scan P k n).length (Kv.scan P k n) ∧ (∀ q, blk a q → h.size ≤ q ∧ q < h'.size) := by
  obtain ⟨r, L, ml, hR, rfl⟩ := hc.rr
  refine HC_of_vc (args := [.pointer (some ⟨c, 0, none⟩), .string k, .int .i64 n]) (base := 19) (cuts := []) (bigs := []) kM Tryz.func37 ?_
  rw [vcCScan]
  refine ⟨_, reads_eql_nil uCp, br_intro (fun e => by cases e) fun _ => ⟨_, rfl, _, hR.raw.rs, (hS.scan hR.sto hP k n).mono ?_⟩⟩
  rintro v h4 ⟨s4, u4, a, cp, rfl, sl, hb⟩
  have ho : ∀ q, ownC c ⟨s, most, r, hits⟩ L q → ¬ ¬ (N q ∨ ownC c ⟨s, most, r, hits⟩ L q) := fun q hq hn => hn (.inr hq)
  have r4 : Raw h4 c ⟨s, most, r, hits⟩ L ml := hR.raw.updM u4 (ho _ (.inl rfl)) (ho _ (.inr (.inl rfl))) fun p hp => ho _ (.inr (.inr (List.mem_map_of_mem (f := fun p : Nat × En => p.1) hp)))
  exact ⟨_, _, _, _, rfl, u4.mono fun q hq hn => hq (.inl hn), CaR.cas ⟨r4, hR.len, s4, hR.dis⟩ hc.lm rfl hc.good, a, cp, rfl, sl, hb⟩
/-- how many entries a new one may have. -/
def mostOf (n : Int) : Nat := (min (max n 0) 1024).toNat
set_option maxHeartbeats 1000000 in
theorem CaS.new (hS : Sto M S s) (hs : S u N P h) (hsl : s < h.size) (n : Int) : HC Tryz.prog 34 #[.pointer (some ⟨s, 0, none⟩), .int .i64 n] h fun v h' => Keep h.size h h' ∧ v = .pointer (some ⟨h.size + 1, 0, none⟩) ∧ CaS S s (h.size + 1) (mostOf n) u N P [] 0 h' := by
  refine HC_of_vc (args := [.pointer (some ⟨s, 0, none⟩), .int .i64 n]) (base := 28) (cuts := []) (bigs := []) kM Tryz.func34 ?_
  rw [vcCNew]
  refine ⟨_, reads_max, _, reads_min, ?_⟩
  have hv : (if (1024 : Int) < (if (0 : Int) > n then (0 : Int) else n) then (1024 : Int) else (if (0 : Int) > n then (0 : Int) else n)) = (mostOf n : Nat) := by
    unfold mostOf; split <;> split at * <;> omega
  rw [hv]
  have k1 := keep_push h (Obj.map #[] 0)
  have ma := MapAt.new Me h
  have z1 : (h.push (Obj.map #[] 0)).size = h.size + 1 := by simp
  refine ⟨_, rfl, _, rfl, _, rfl, ?_⟩
  have k2 := keep_push (h.push (Obj.map #[] 0)) (caBox ⟨s, mostOf n, h.size, 0⟩ none none)
  have b2 := push_at (h.push (Obj.map #[] 0)) (caBox ⟨s, mostOf n, h.size, 0⟩ none none)
  have zz : ((h.push (Obj.map #[] 0)).push (caBox ⟨s, mostOf n, h.size, 0⟩ none none)).size = h.size + 2 := by simp
  rw [z1] at b2 k2 ⊢
  have k02 := k1.trans (k2.mono (Nat.le_succ _))
  have m2 := ma.keep (k2.mono (by rw [z1]; exact Nat.le_refl _))
  clear k1 k2 ma z1
  generalize ((h.push (Obj.map #[] 0)).push (caBox ⟨s, mostOf n, h.size, 0⟩ none none)) = H at b2 k02 m2 zz
  have sh : Shp H (h.size + 1) ⟨s, mostOf n, h.size, 0⟩ [] := ⟨⟨_, _, b2⟩, fun p hp => (by cases hp), (fun hm => by cases hm), List.nodup_nil⟩
  have eC : (⟨h.size + 1, 0, none⟩ : Addr).add 3 = endA (h.size + 1) := Addr.add_row _ 0 3
  rw [eC]
  refine sh.store (.inl rfl) (.inl rfl) fun h6 s6 n6 e6 u6 => ⟨_, rfl, ?_⟩
  rw [eC]
  refine s6.store (.inl rfl) (.inr rfl) fun h9 s9 n9 e9 u9 => ?_
  have u69 := u6.trans u9
  have kk : Keep h.size h h9 := k02.trans (u69.keep (by omega) fun q hq => by have : q = h.size + 1 := hq; omega)
  have z9 := u69.size
  have m9 : MapAt Me h9 h.size [] := m2.upd u69 fun hq => by have : h.size = h.size + 1 := hq; omega
  have raw9 : Raw h9 (h.size + 1) ⟨s, mostOf n, h.size, 0⟩ [] [] := ⟨⟨s9, ?_, ?_⟩, m9, fun k b => ⟨fun h => (by cases h), fun h => (by obtain ⟨_, h, _⟩ := h; cases h)⟩, rfl, List.nodup_nil, Nat.ne_of_lt (Nat.lt_succ_self _), by simp⟩
  · have own9 : ∀ q, ownC (h.size + 1) ⟨s, mostOf n, h.size, 0⟩ [] q → h.size ≤ q ∧ q < h.size + 2 := fun q hq => by
      rcases hq with hq | hq | hq
      · omega
      · have : q = h.size := hq
        omega
      · cases hq
    refine ⟨kk, rfl, ⟨_, _, _, raw9, rfl, hS.own hs (kk.upd fun _ => False).m (fun _ _ h => h.elim) fun q hq => ?_, fun q hq ho => ?_⟩, Nat.zero_le _, ?_, fun e he => (by cases he), List.nodup_nil⟩
    · rcases hq with hq | hq
      · exact ⟨.inl hq, Nat.lt_of_lt_of_le (hS.lt hs q hq) kk.size⟩
      · have := own9 q hq; exact ⟨.inr this.1, by omega⟩
    · have := own9 q ho; have := hS.lt hs q hq; omega
    · unfold mostOf; omega
  · rw [n9, if_neg (fun h => by simp at h), n6, if_pos ⟨rfl, rfl⟩]
  · rw [e9, if_pos ⟨rfl, rfl⟩]
end
end Go.Proofs.YtmdcfmhkfomoaaaGreatDoor
end

section
set_option linter.unusedVariables false
set_option linter.unusedSimpArgs false
set_option maxRecDepth 100000
namespace Go.Proofs.YtmdcfmhkfomoaaaGreatDoor
open Go Go.Vc Go.Proofs Go.Dk Go.Kv

theorem appSs : App Tryz.prog 68 9 StrE.sz 16 (.string ⟨#[]⟩) := ⟨by kernel_rfl, by kernel_rfl, by kernel_rfl, by kernel_rfl, rfl, by decide, by decide⟩
theorem bsS (s : Str) : bsCells Tryz.prog 68 1 [(0, .string s)] = some (9, StrE.enc s) :=
  bs_one (v := .string s) appSs.und appSs.size appSs.zero appSs.zlen (by decide) (by decide) rfl
theorem bsWr (w : Wr) : bsCells Tryz.prog 49 1 [(0, .agg #[.string w.key, .string w.val, .bool w.gone])] = some (31, WrE.enc w) :=
  bs_one (sz := 3) (z := .agg #[.string ⟨#[]⟩, .string ⟨#[]⟩, .bool false]) (v := .agg #[.string w.key, .string w.val, .bool w.gone]) (by kernel_rfl) (by kernel_rfl) (by kernel_rfl) rfl (by decide) (by decide) rfl
theorem readsStr {h : Heap} {A : Option Addr} {n k : Nat} {l : List Str} {s : Str} (hs : Sl StrE h A n l) (hq : l[k]? = some s) :
    ∃ p, A = some p ∧ Reads Tryz.prog (Instr.loadAt 9 (.pointer (some (p.add (k * 1))))) h (.string s) := by
  obtain ⟨p, e, hp⟩ := hs.get hq
  exact ⟨p, e, reads_load kS (by have := hp 0 _ (rfl : (StrE.enc s)[0]? = some (.string s)); exact this)⟩
/-- one write in a row. -/
theorem svc_wr1 {w : Wr} {h : Heap} {K : Value → Heap → Prop} (k : ∀ h', Keep h.size h h' → h'.size = h.size + 1 → Sl WrE h' (some ⟨h.size, 0, none⟩) 1 [w] → K (.slice (some ⟨h.size, 0, none⟩) 1 1) h') :
    SVC Tryz.prog (Instr.buildSlice 49 1 (Array.mk [(0, .agg (Array.mk [.string w.key, .string w.val, .bool w.gone]))])) h K := by
  refine svc_buildSlice (bsWr w) (k _ (keep_push _ _) (by simp) ⟨rfl, .inr ⟨_, rfl, fun i y hy j u hu => ?_⟩⟩)
  cases i with
  | zero =>
    simp at hy; subst hy
    rw [Addr.add_row, cell_push, Nat.zero_mul]
    simpa using hu
  | succ i => simp at hy
section
variable {S : Nat → (Nat → Prop) → Ps Str → Heap → Prop} {M s c most u : Nat} {N : Nat → Prop} {P : Ps Str} {E : List En} {hits : Int} {h : Heap}
theorem CaS.get' (hS : Sto M S s) (hc : CaS S s c most u N P E hits h) (h0 : 0 ≤ hits) (h1 : hits < 1000000000) (k : Str) {E' : List En} {hits' : Int} (hE : ekeep most E k ((mGet P k).getD ⟨#[]⟩) (mGet P k).isSome = E') (hh : hits + (if (efind k E).isSome then 1 else 0) = hits') :
    HC Tryz.prog 40 #[.pointer (some ⟨c, 0, none⟩), .string k] h fun v h' => UpdM (fun q => ¬ N q) h h' ∧
      v = .tuple #[.string ((mGet P k).getD ⟨#[]⟩), .bool (mGet P k).isSome, .int .i64 0] ∧ CaS S s c most u N P E' hits' h' := by
  subst hE
  subst hh
  exact hc.get hS h0 h1 k
theorem turn_of {N : Nat → Prop} {h H H' : Heap} (t : Turn h H) (u : UpdM (fun q => ¬ N q) H H') (hN : ∀ q, q < h.size → N q) : Turn h H' :=
  UpdM.turn (S := fun q => ¬ N q) ((t.m (S := fun q => ¬ N q)).trans u) fun q hq hn => hn (hN q hq)
/-- a block that is the law's own is no business of the cache's. -/
theorem CaS.more (hS : Sto M S s) (hc : CaS S s c most u N P E hits h) {h' : Heap} (k : Keep h.size h h') : CaS S s c most u (fun q => N q ∨ (h.size ≤ q ∧ q < h'.size)) P E hits h' :=
  hc.own hS (k.upd fun _ => False).m (fun _ _ h => h.elim) fun q hq => by
    rcases hq with hq | hq
    · exact ⟨.inl hq, Nat.lt_of_lt_of_le (hc.lt hS q hq) k.size⟩
    · exact ⟨.inr hq.1, hq.2⟩
end
end Go.Proofs.YtmdcfmhkfomoaaaGreatDoor
end

section
set_option linter.unusedVariables false
set_option linter.unusedSimpArgs false
set_option maxRecDepth 100000
namespace Go.Proofs.YtmdcfmhkfomoaaaGreatDoor
open Go Go.Vc Go.Proofs Go.Dk Go.Kv

instance : Inhabited Wr := ⟨⟨⟨#[]⟩, ⟨#[]⟩, false⟩⟩
def WrOk (w : Wr) : Prop := w.key.size ≤ 9223372036854775807 ∧ w.val.size ≤ 9223372036854775807
theorem fldK {H : Type} {enc : TypeId × Value → H} {P : Program} {w : World} {base : Nat} {spare : Nat → Bool} {held : Bool} {n : Nat} {cs : List Value} {fs : Array Field} {xs : List (DataW H × List MemPlace)}
    (h : ∀ (i : Nat) (f : Field), fs[i]? = some f → DataW.trod enc P w base spare held n f.type ((cs.drop f.offset).take (P.cellsOf f.type)) = xs[i]?) (hl : xs.length = fs.size) (i : Nat) {f : Field} {t : TypeId} {o : Nat}
    (hf : fs[i]? = some f) (ht : f.type = t) (ho : f.offset = o) (hc : P.cellsOf f.type = 1) : ∃ x, DataW.trod enc P w base spare held n t ((cs.drop o).take 1) = some x := by
  have hi : i < xs.length := by rw [hl]; exact (Array.getElem?_eq_some_iff.1 hf).1
  have := h i f hf
  rw [ht, ho, ← ht, hc, ht, List.getElem?_eq_getElem hi] at this
  exact ⟨_, this⟩
theorem uI : Tryz.prog.underlying 3 = some (.int .i64) := by kernel_rfl
theorem uB : Tryz.prog.underlying 4 = some .bool := by kernel_rfl
theorem uW : Tryz.prog.underlying 31 = some (.struct #[(Tryz.prog.fieldsOf 31)[0]!, (Tryz.prog.fieldsOf 31)[1]!, (Tryz.prog.fieldsOf 31)[2]!]) := by kernel_rfl
theorem uWs : Tryz.prog.underlying 49 = some (.slice 31) := by kernel_rfl
theorem decWr : DecW WrE Tryz.prog 31 fun _ w => WrOk w := fun {H enc w base spare held n cs d} h => by
  obtain ⟨xs, m, _, _, hl, hx, hf⟩ := DataW.trod_struct uW h
  obtain ⟨_, f0⟩ := fldK (t := 9) (o := 0) hf hx 0 rfl (by kernel_rfl) (by kernel_rfl) (by kernel_rfl)
  obtain ⟨_, f1⟩ := fldK (t := 9) (o := 1) hf hx 1 rfl (by kernel_rfl) (by kernel_rfl) (by kernel_rfl)
  obtain ⟨_, f2⟩ := fldK (t := 4) (o := 2) hf hx 2 rfl (by kernel_rfl) (by kernel_rfl) (by kernel_rfl)
  have hl2 : cs.length = 3 := hl.trans (by kernel_rfl)
  match cs, hl2 with
  | [a, b, c], _ =>
    obtain ⟨s0, e0, g0⟩ := decStr uS f0
    obtain ⟨s1, e1, g1⟩ := decStr uS f1
    obtain ⟨s2, e2, g2⟩ := decBool uB f2
    simp [StrE, BoolE] at e0 e1 e2
    subst e0 e1 e2
    exact ⟨⟨s0, s1, s2⟩, rfl, g0, g1⟩
theorem kWs : scT Tryz.prog 49 = true := by kernel_rfl
theorem sl_lt {α : Type} {E : Enc α} {h : Heap} {a : Option Addr} {n : Nat} {xs : List α} (hz : 0 < E.sz) (hs : Sl E h a n xs) (hx : n ≠ 0) : ∀ q, blk a q → q < h.size := fun q hq => by
  cases xs with
  | nil => exact absurd hs.1.symm hx
  | cons x xs =>
    obtain ⟨p, hp, hc⟩ := hs.get (i := 0) (x := x) rfl
    obtain ⟨p', e, hq'⟩ := hq
    rw [hp] at e
    cases e
    have hj : 0 < (E.enc x).length := by rw [E.len]; exact hz
    have h4 := cell_lt (hc 0 _ (List.getElem?_eq_getElem hj))
    rw [Addr.add_block, hq'] at h4
    exact h4
end Go.Proofs.YtmdcfmhkfomoaaaGreatDoor
end

section
set_option linter.unusedVariables false
set_option linter.unusedSimpArgs false
set_option maxRecDepth 100000
namespace Go.Proofs.YtmdcfmhkfomoaaaGreatDoor
open Go Go.Vc Go.Proofs Go.Dk Go.Kv

instance : Inhabited Id' := ⟨⟨id0, id0_ok⟩⟩
theorem fldN {H : Type} {enc : TypeId × Value → H} {P : Program} {w : World} {base : Nat} {spare : Nat → Bool} {held : Bool} {n : Nat} {cs : List Value} {fs : Array Field} {xs : List (DataW H × List MemPlace)}
    (h : ∀ (i : Nat) (f : Field), fs[i]? = some f → DataW.trod enc P w base spare held n f.type ((cs.drop f.offset).take (P.cellsOf f.type)) = xs[i]?) (hl : xs.length = fs.size) (i : Nat) {f : Field} {t : TypeId} {o c : Nat}
    (hf : fs[i]? = some f) (ht : f.type = t) (ho : f.offset = o) (hc : P.cellsOf f.type = c) : ∃ x, DataW.trod enc P w base spare held n t ((cs.drop o).take c) = some x := by
  have hi : i < xs.length := by rw [hl]; exact (Array.getElem?_eq_some_iff.1 hf).1
  have := h i f hf
  rw [ht, ho, ← ht, hc, ht, List.getElem?_eq_getElem hi] at this
  exact ⟨_, this⟩
theorem uId : Tryz.prog.underlying 24 = some (.struct #[(Tryz.prog.fieldsOf 24)[0]!, (Tryz.prog.fieldsOf 24)[1]!]) := by kernel_rfl
theorem u32 : Tryz.prog.underlying 22 = some (.array 32 5) := by kernel_rfl
theorem uU : Tryz.prog.underlying 5 = some (.int .u8) := by kernel_rfl
instance : DecidableEq Idn := fun i j => if h : i.kind = j.kind ∧ i.sum = j.sum then isTrue (by cases i; cases j; simp_all) else isFalse (fun e => h (by subst e; exact ⟨rfl, rfl⟩))
section
variable {i : Id'}
theorem cId : Tryz.prog.cellsOf 24 = 33 := by kernel_rfl
theorem decId : DecW IdE Tryz.prog 24 fun _ _ => True := fun {H enc w base spare held n cs d} h => by
  obtain ⟨xs, m, _, _, hl, hx, hf⟩ := DataW.trod_struct uId h
  obtain ⟨_, f0⟩ := fldN (t := 5) (o := 0) (c := 1) hf hx 0 rfl (by kernel_rfl) (by kernel_rfl) (by kernel_rfl)
  obtain ⟨_, f1⟩ := fldN (t := 22) (o := 1) (c := 32) hf hx 1 rfl (by kernel_rfl) (by kernel_rfl) (by kernel_rfl)
  have hl2 : cs.length = 33 := hl.trans cId
  obtain ⟨b, e0, _⟩ := decByte uU f0
  obtain ⟨l, hl3, e1⟩ := dec_arr8 u32 uU (by kernel_rfl) (by kernel_rfl) f1
  refine ⟨⟨⟨b, l⟩, hl3⟩, ?_, trivial⟩
  have e0 : cs.take 1 = [.int .u8 (b.toNat : Int)] := e0
  have e1 : (cs.drop 1).take 32 = l.map fun b => .int .u8 (b.toNat : Int) := e1
  rw [List.take_of_length_le (by rw [List.length_drop]; omega)] at e1
  show cs = .int .u8 (b.toNat : Int) :: l.map fun b => .int .u8 (b.toNat : Int)
  rw [← List.take_append_drop 1 cs, e0, e1]; rfl
theorem fId : (Value.agg (idC i.1).toArray).formed Tryz.prog 24 = true := by
  unfold Value.formed
  simp only [uId]
  rw [cId, List.size_toArray, idC_len i.2]; rfl
theorem lits_id (d : Nat) : Tryz.prog.keyLits (d + 3) 24 (idC i.1) = some (idLits i.1) := by
  have t0 : ((Tryz.prog.fieldsOf 24)[0]!).type = 5 := by kernel_rfl
  have o0 : ((Tryz.prog.fieldsOf 24)[0]!).offset = 0 := by kernel_rfl
  have t1 : ((Tryz.prog.fieldsOf 24)[1]!).type = 22 := by kernel_rfl
  have o1 : ((Tryz.prog.fieldsOf 24)[1]!).offset = 1 := by kernel_rfl
  have c0 : Tryz.prog.cellsOf 5 = 1 := by kernel_rfl
  have c1 : Tryz.prog.cellsOf 22 = 32 := by kernel_rfl
  refine lits_struct2 (l0 := [byteLit i.1.kind]) uId ((idC_len i.2).trans cId.symm) (by kernel_rfl) ?_ ?_
  · rw [t0, o0, c0]; exact lits_byte uU (d + 1) i.1.kind
  · rw [t1, o1, c1]
    have : ((idC i.1).drop 1).take 32 = i.1.sum.map fun b => .int .u8 (b.toNat : Int) := by
      unfold idC
      rw [List.drop_succ_cons, List.drop_zero, List.take_of_length_le (by rw [List.length_map, i.2]; exact Nat.le_refl _)]
    rw [this]
    exact lits_arr8 u32 uU c0 c1 d i.2
/-- two objects' names compared. -/
theorem reads_id {h : Heap} {x y : Operand} {i j : Id'} : Reads Tryz.prog (eqSem .eql 24 x y (.agg (idC i.1).toArray) (.agg (idC j.1).toArray)) h (.bool (decide (i.1 = j.1))) ∧ Reads Tryz.prog (eqSem .neq 24 x y (.agg (idC i.1).toArray) (.agg (idC j.1).toArray)) h (.bool !(decide (i.1 = j.1))) :=
  reads_deep (m := 3) (D := 3) (by decide) (by kernel_rfl) (by kernel_rfl) fId fId (lits_id 0) (lits_id 0) ⟨fun e => by rw [of_decide_eq_true e], fun e => decide_eq_true (idLits_inj e)⟩
theorem open_id {H : Type} {enc : TypeId × Value → H} {w : World} {base : Nat} {spare : Nat → Bool} {held : Bool} {cs : Array Value} {d : DataW H} {ps : List MemPlace}
    (h : DataW.Trod enc Tryz.prog w base spare held 24 (.agg cs) d ps) : ∃ i : Id', cs = (idC i.1).toArray := by
  obtain ⟨i, e, _⟩ := open_arg decId h
  refine ⟨i, ?_⟩
  have e : cs.toList = idC i.1 := e
  rw [← e]
end
end Go.Proofs.YtmdcfmhkfomoaaaGreatDoor
end
