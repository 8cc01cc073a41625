/-
  Texts of this seat, laid one behind the other: VcJ ScL ScT KwS VcK ScS ScF ScG. Conditions: none.
-/
import Derived.Test.YtbfolflejhkehaaGreatDoorZl4
import Derived.Lib.LaidU8
import Derived.Lay
import Derived.Test.YtbfolflejhkehaaGreatDoorRows
import Derived.ProofKit
import Derived.SizedLaws
import Derived.Handed
import Derived.HandedShaped
section
set_option linter.unusedSimpArgs false
set_option linter.unusedVariables false
namespace Go.Vc
open Go

theorem flat_bytes (l : List UInt8) : l.flatMap ByteE.enc = l.map fun b => Value.int .u8 (b.toNat : Int) := by
  induction l with
  | nil => rfl
  | cons b l ih => rw [List.flatMap_cons, ih]; rfl
end Go.Vc
end

section
set_option linter.unusedVariables false
set_option linter.unusedSimpArgs false
set_option maxRecDepth 100000
namespace Go.Proofs.YtbfolflejhkehaaGreatDoor
open Go Go.Vc Go.Proofs Go.Dk Go.Sc

theorem tz_spec {h : Heap} (g : Lib0 h) : HC Tryz.prog 214 #[.int .u64 16] h fun u h2 => u = .int .i64 4 ∧ h2 = h := by
  refine HC_of_vc (args := [.int .u64 16]) (base := 8) (cuts := []) (bigs := []) hm Tryz.func214 ?_
  rw [vcTz]
  refine HC.mono (R := fun u h2 => u = .int .i64 4 ∧ h2 = h) ?_ ?_
  · refine HC_of_vc (args := [.int .u64 16]) (base := 14) (cuts := []) (bigs := []) hm Tryz.func259 ?_
    rw [vcTz64]
    exact ⟨by decide, ⟨by decide, by decide⟩, 4, reads_load (by kernel_rfl) g.trz, rfl, rfl⟩
  · rintro v h1 ⟨rfl, rfl⟩
    exact ⟨_, rfl, rfl, rfl⟩
theorem alive_spec {h : Heap} (g : Lib0 h) : HC Tryz.prog 5 #[] h fun w h' => w = .bool true ∧ Keep h.size h h' :=
  alive_HC Tryz.cloneC_calls Tryz.cloneP_calls fun h' st => tz_spec (g.keep ⟨st.1, st.2⟩)
theorem nil_toList : (ByteArray.mk (Array.mk [])).toList = [] := by rw [ByteArray.toList_eq]
theorem reads_bneq {h : Heap} {x y : Operand} {a b : Bool} : Reads Tryz.prog (eqSem .neq 4 x y (.bool a) (.bool b)) h (.bool !(a == b)) :=
  (Go.Ce.eqsem_of (r := a == b) (fun op w => by cases op <;> rfl) (fun w => Go.Ce.eq_run fun d => run_eqSc (by rw [Tryz.underlying4]; rfl) d w) rfl rfl).2
/-- a row of noughts, as it lies. -/
theorem svc_zeros {h : Heap} {n : Nat} {K : Value → Heap → Prop} (hn : n ≤ 281474976710656) (k : K (.slice (some ⟨h.size, 0, none⟩) n n) (h.push (.cells ((List.replicate n (0 : UInt8)).flatMap ByteE.enc).toArray 5 (0, 0)))) :
    SVC Tryz.prog (Instr.makeSlice 23 (.int .i64 n) (.int .i64 n)) h K := by
  refine ⟨fun w hw => ?_⟩
  subst hw
  have hi : (Tryz.prog.info? 5).map (·.bytes) = some 1 := app_bs.bytes
  have hz : (Tryz.prog.info? 5).bind (·.zero) = some (.int .u8 0) := app_bs.zero
  have hs : szOf Tryz.prog 5 = some 1 := app_bs.size
  cases hi' : Tryz.prog.info? 5 with
  | none => simp [hi'] at hi
  | some inf =>
    simp [hi'] at hi hz
    have hsz : inf.size = 1 := by simpa [szOf, hi'] using hs
    have hr := run_make (P := Tryz.prog) w 23 5 inf (.int .u8 0) undBs hi' hz .i64 .i64 n n (by omega) (Int.le_refl _) (by rw [hi]; omega) (by omega)
    rw [hsz, Int.toNat_natCast, Nat.mul_one] at hr
    have hc : madeCells (Value.cells (.int .u8 0)) n = ((List.replicate n (0 : UInt8)).flatMap ByteE.enc).toArray := by
      apply Array.toList_inj.1
      rw [flat_bytes, List.map_replicate]
      apply List.ext_getElem?
      intro i
      rw [madeCells]
      simp [List.getElem?_replicate, Value.cells, Nat.mod_one]
      by_cases hlt : i < n <;> simp [hlt]
    rw [hc] at hr
    exact ⟨_, _, hr, Sane.push rfl, k⟩
def fillX (n j : Nat) : List UInt8 := List.replicate j (10 : UInt8) ++ List.replicate (n - j) 0
theorem fillX_len {n j : Nat} (h : j ≤ n) : (fillX n j).length = n := by unfold fillX; simp; omega
theorem fill_set {n j : Nat} (h : j < n) : (fillX n j).set j 10 = fillX n (j + 1) := by
  unfold fillX
  rw [List.set_append_right _ _ (by simp), List.length_replicate, Nat.sub_self]
  obtain ⟨m, hm⟩ : ∃ m, n - j = m + 1 := ⟨n - j - 1, by omega⟩
  rw [hm, List.replicate_succ, List.set_cons_zero, show n - (j + 1) = m by omega, List.replicate_succ' (n := j)]
  simp
theorem fill_cells {n j : Nat} (h : j < n) : (((fillX n j).flatMap ByteE.enc).toArray.toList.set j (.int .u8 10)).toArray = ((fillX n (j + 1)).flatMap ByteE.enc).toArray := by
  rw [← fill_set h, flat_bytes, flat_bytes, List.map_set]; rfl
set_option maxHeartbeats 2000000 in
theorem limits_spec {h : Heap} (g : Lib0 h) (a b : Int) : HC Tryz.prog 3 #[.int .i64 a, .int .i64 b] h fun v h' => Keep h.size h h' ∧ v = .bool true := by
  refine HC_of_vc (args := [.int .i64 a, .int .i64 b]) (base := 105) (cuts := []) (bigs := []) hm Tryz.func3 ?_
  rw [vc25Limits]
  refine (alive_spec g).mono ?_
  rintro v h1 ⟨rfl, k1⟩
  refine ⟨true, rfl, br_intro (fun e => by cases e) fun _ => br_intro (fun _ => ⟨k1, rfl⟩) fun e => ?_⟩
  simp only [Bool.or_eq_false_iff, decide_eq_false_iff_not] at e
  obtain ⟨n, rfl⟩ : ∃ n : Nat, a = n := ⟨a.toNat, by omega⟩
  obtain ⟨m, rfl⟩ : ∃ m : Nat, b = m := ⟨b.toNat, by omega⟩
  have hn1 : 1 ≤ n ∧ n ≤ 70000 := by omega
  have hm6 : m ≤ 600 := by omega
  refine svc_zeros (by omega) ⟨_, _, _, rfl, ?_⟩
  have f0 : (List.replicate n (0 : UInt8)) = fillX n 0 := by unfold fillX; rfl
  rw [f0]
  have kb := keep_push h1 (.cells ((fillX n 0).flatMap ByteE.enc).toArray 5 (0, 0))
  have bb := push_at h1 (.cells ((fillX n 0).flatMap ByteE.enc).toArray 5 (0, 0))
  generalize h1.push (.cells ((fillX n 0).flatMap ByteE.enc).toArray 5 (0, 0)) = h4 at kb bb
  refine ⟨fun n10 G => ∃ j : Nat, n10 = j ∧ j ≤ n ∧ Keep h1.size h1 G ∧ G[h1.size]? = some (.cells ((fillX n j).flatMap ByteE.enc).toArray 5 (0, 0)), fun n10 _ => n - n10.toNat, ⟨0, rfl, Nat.zero_le _, kb, bb⟩, ?_⟩
  rintro n10 G ⟨j, rfl, hj, kG, bG⟩
  have k0G := k1.trans (kG.mono k1.size)
  refine br_intro (fun hlt => ?_) fun hge => ?_
  · have hlt : j < n := by simpa using hlt
    refine ⟨_, ⟨rfl, by omega, by omega⟩, ?_⟩
    rw [Int.toNat_natCast, Nat.mul_one]
    refine svc_store_box (by kernel_rfl) bG (by rw [List.size_toArray, flat_len, fillX_len hj]; show j < n * 1; omega) rfl (one_int _ _) fun h14 z14 b14 u14 => ?_
    rw [wrap_i64 (by omega) (by omega)]
    refine ⟨⟨j + 1, rfl, by omega, kG.trans (u14.keep kG.size fun q hq => by omega), ?_⟩, by dsimp only; omega⟩
    rw [b14, fill_cells hlt]
  · have hge : j = n := by
      have : ¬ j < n := by simpa using hge
      omega
    subst hge
    have fn : fillX j j = List.replicate j 10 := by unfold fillX; rw [Nat.sub_self]; exact List.append_nil _
    rw [fn] at bG
    have sl := sl_bytes bG
    rw [List.length_replicate] at sl
    refine ⟨strL (List.replicate j 10), reads_string undBs undB undS sl, ?_⟩
    have hsz : (strL (List.replicate j 10)).size = j := by rw [strL_len, List.length_replicate]
    -- what the first script says
    have run1 : HC Tryz.prog 6 #[.string (strL (List.replicate j 10))] G fun v h' => Keep G.size G h' ∧ v = .tuple #[.string ⟨#[]⟩, .int .i64 0, .int .i64 (if 65536 < j then 3 else 0)] := by
      by_cases hlong : 65536 < j
      · refine (run_long _ (by rw [hsz]; exact hlong)).mono ?_
        rintro v h' ⟨rfl, rfl⟩
        exact ⟨Keep.refl _ _, by rw [if_pos hlong]⟩
      · have hsp : splitL 10 (bytesL (strL (List.replicate j 10))) = List.replicate (j + 1) [] := split_blank j
        refine (run_spec (g.keep k0G) _ (by rw [hsz]; omega) fun _ l hl => ?_).mono ?_
        · rw [hsp, blank_cmds] at hl; cases hl
        rintro v h' ⟨k, rfl⟩
        refine ⟨k, ?_⟩
        rw [hsp, if_neg hlong, runV_none (fault_blank _ _ _), blank_cmds] <;> rfl
    refine run1.mono ?_
    rintro v h17 ⟨k17, rfl⟩
    have k017 := k0G.trans (k17.mono k0G.size)
    refine ⟨_, _, _, rfl, _, fun _ => reads_bneq, br_intro (fun e => ?_) fun _ => ?_⟩
    · exfalso
      rw [nil_toList] at e
      by_cases hlong : 65536 < j
      · rw [if_pos hlong] at e
        have h2 : decide ((j : Int) > 65536) = true := decide_eq_true (by omega)
        rw [h2] at e
        revert e; decide
      · rw [if_neg hlong] at e
        have h2 : decide ((j : Int) > 65536) = false := decide_eq_false (by omega)
        rw [h2] at e
        revert e; decide
    refine ⟨fun s24 n25 G2 => ∃ i : Nat, n25 = i ∧ i ≤ m ∧ bytesL s24 = nums i ∧ G2 = h17, fun _ n25 _ => m - n25.toNat, ⟨0, rfl, Nat.zero_le _, rfl, rfl⟩, ?_⟩
    rintro s24 n25 G2 ⟨i, rfl, hi, hs24, rfl⟩
    have hl24 : s24.size = 4 * i := by rw [← bl_len, hs24, nums_len]
    refine br_intro (fun hlt => ?_) fun hge => ?_
    · have hlt : i < m := by simpa using hlt
      rw [wrap_i64 (by omega) (by omega)]
      refine ⟨by rw [imax]; omega, ⟨i + 1, rfl, by omega, ?_, rfl⟩, by dsimp only; omega⟩
      rw [bl_app, hs24, nums_succ] <;> rfl
    · have hge : i = m := by
        have : ¬ i < m := by simpa using hge
        omega
      subst hge
      have hsp : splitL 10 (bytesL s24) = [] :: List.replicate i numW := by rw [hs24, nums_split]
      refine (run_spec (g.keep k017) s24 (by omega) fun _ l hl => ?_).mono ?_
      · rw [hsp, nums_cmds] at hl
        rw [List.eq_of_mem_replicate hl]; exact num_hd
      rintro v h28 ⟨k28, rfl⟩
      have k028 := k017.trans (k28.mono k017.size)
      rw [hsp]
      have hnf := nums_fault i
      by_cases hm5 : i ≤ 512
      · rw [if_pos hm5] at hnf
        rw [runV_none hnf, nums_cmds, List.length_replicate]
        refine ⟨_, _, _, rfl, br_intro (fun e => absurd (of_decide_eq_true e) (by omega)) fun _ => ⟨k028, ?_⟩⟩
        have e1 : (strL (says i)).size = 2 * i := by rw [strL_len, says_len]
        rw [e1, wrap_i64 (by omega) (by omega)]
        have e2 : (((2 * i : Nat) : Int) == 2 * (i : Int)) = true := by rw [beq_iff_eq]; omega
        rw [e2]; rfl
      · rw [if_neg hm5] at hnf
        rw [runV_some hnf]
        refine ⟨_, _, _, rfl, br_intro (fun _ => ⟨k028, ?_⟩) fun e => absurd (of_decide_eq_false e) (by omega)⟩
        have e1 := nil_toList
        show Value.bool ((ByteArray.mk (Array.mk [])).toList == [] && _ && _) = _
        rw [e1]; rfl
end Go.Proofs.YtbfolflejhkehaaGreatDoor
end

section
namespace Go.Sc
open Go Go.Vc
theorem trod_iface {H : Type} {enc : TypeId × Value → H} {P : Program} {w : World} {base : Nat} {sp : Nat → Bool} {held : Bool} {fuel : Nat} {t : TypeId} {cs : List Value} {x : DataW H × List MemPlace} {ms : Array (String × TypeId)}
    (ht : P.underlying t = some (.interface ms)) (h : DataW.trod enc P w base sp held fuel t cs = some x) : cs = [.nilIface] ∨ ∃ u v, cs = [.iface u v] := by
  cases fuel with
  | zero => simp [DataW.trod] at h
  | succ n =>
    unfold DataW.trod at h
    rw [ht] at h
    split at h <;> simp_all
theorem heap_of_var {P : Program} {w : World} {n : String} {g : Nat} {cs : Array Value} (hg : P.globalNamed n = some g) (hv : w.var? P n = some cs) : ∃ t f, w.heap[g]? = some (.cells cs t f) := by
  unfold World.var? at hv
  rw [hg] at hv
  have hv : (match w.heap[g]? with | some (Obj.cells cs _ _) => some cs | _ => none) = some cs := hv
  cases hh : w.heap[g]? with
  | none => rw [hh] at hv; cases hv
  | some o =>
    rw [hh] at hv
    cases o with
    | cells c t f =>
      have hc : c = cs := Option.some.inj hv
      rw [hc]; exact ⟨t, f, rfl⟩
    | _ => cases hv
theorem tab_of {P : Program} {w : World} {n : String} {g : Nat} {t e : TypeId} {N : Nat} {k : IntKind} {zs : List Int} (hg : P.globalNamed n = some g) (hty : (P.globals[g]?).map (·.type) = some t) (ht : P.underlying t = some (.array N e))
    (he : P.underlying e = some (.int k)) (hce : P.cellsOf e = 1) (hct : P.cellsOf t = N) (h : Lib.VarReads P w n (Lib.tabData k zs)) : ∃ t f, w.heap[g]? = some (.cells (zs.map fun z => Value.int k z).toArray t f) := by
  obtain ⟨g', t', cs, fuel, p, hg', ht', hv, hd⟩ := h
  obtain rfl := Option.some.inj (hg.symm.trans hg')
  obtain rfl := Option.some.inj (hty.symm.trans ht')
  have hcs := Lib.cells_of_tab ht he hce hct hd
  obtain ⟨a, b, hh⟩ := heap_of_var hg hv
  refine ⟨a, b, ?_⟩
  rw [hh, ← hcs]
theorem if_of {P : Program} {w : World} {n : String} {g : Nat} {t : TypeId} {ms : Array (String × TypeId)} {d : DataW Unit} (hg : P.globalNamed n = some g) (hty : (P.globals[g]?).map (·.type) = some t) (ht : P.underlying t = some (.interface ms))
    (h : Lib.VarReads P w n d) : ∃ ev, cell w.heap ⟨g, 0, none⟩ = some ev ∧ (ev = .nilIface ∨ ∃ te pe, ev = .iface te pe) := by
  obtain ⟨g', t', cs, fuel, p, hg', ht', hv, hd⟩ := h
  obtain rfl := Option.some.inj (hg.symm.trans hg')
  obtain rfl := Option.some.inj (hty.symm.trans ht')
  obtain ⟨a, b, hh⟩ := heap_of_var hg hv
  have h0 : ∀ v, cs.toList = [v] → cell w.heap ⟨g, 0, none⟩ = some v := fun v hv => by
    rw [cell_at hh, ← Array.getElem?_toList, hv]; rfl
  rcases trod_iface ht hd with e | ⟨u, v, e⟩
  · exact ⟨_, h0 _ e, .inl rfl⟩
  · exact ⟨_, h0 _ e, .inr ⟨_, _, rfl⟩⟩
end Go.Sc
end

section
namespace Go.Proofs.YtbfolflejhkehaaGreatDoor
open Go Go.Vc Go.Sc

abbrev laidRows : List (String × DataW Unit) := [("unicode/utf8.first", Rows.laid_unicode_utf8_first), ("unicode/utf8.acceptRanges", Rows.laid_unicode_utf8_acceptRanges), ("strconv.ErrSyntax", Rows.laid_strconv_ErrSyntax), ("strconv.ErrRange", Rows.laid_strconv_ErrRange), ("internal/strconv.uint64pow10", Rows.laid_internal_strconv_uint64pow10), ("math/bits.deBruijn32tab", Rows.laid_math_bits_deBruijn32tab), ("math/bits.deBruijn64tab", Rows.laid_math_bits_deBruijn64tab), ("rootstock/sha.table", Rows.laid_rootstock_sha_table), ("strconv.isPrint16", Rows.laid_strconv_isPrint16), ("strconv.isNotPrint16", Rows.laid_strconv_isNotPrint16), ("strconv.isPrint32", Rows.laid_strconv_isPrint32), ("strconv.isNotPrint32", Rows.laid_strconv_isNotPrint32), ("strconv.isGraphic", Rows.laid_strconv_isGraphic)]
noncomputable def laidWorld (os : Os) : World := World.laidAll Tryz.prog os laidRows
set_option maxRecDepth 100000 in
theorem laidWorld_met (os : Os) (args : Array Value) : laidMet Tryz.prog laidRows ((laidWorld os).forCall (fun _ _ => 0) ⟨#[], args, []⟩).memory :=
  laidMet_laidAll args (by kernel_rfl) (by kernel_rfl)
theorem is_pow : (Rows.laid_internal_strconv_uint64pow10 : DataW Unit) = Lib.tabData .u64 Lib.pow10Tab := rfl
theorem is_deb : (Rows.laid_math_bits_deBruijn64tab : DataW Unit) = Lib.tabData .u8 [0, 1, 56, 2, 57, 49, 28, 3, 61, 58, 42, 50, 38, 29, 17, 4, 62, 47, 59, 36, 45, 43, 51, 22, 53, 39, 33, 30, 24, 18, 12, 5, 63, 55, 48, 27, 60, 41, 37, 16, 46, 35, 44, 21, 52, 32, 23, 11, 54, 26, 40, 15, 34, 20, 31, 10, 25, 14, 19, 9, 13, 8, 7, 6] := rfl
set_option maxRecDepth 100000 in
theorem lib0_of {W : World} (h : laidMet Tryz.prog laidRows W) (hsh : W.ShapedOpen Tryz.prog) : Lib0 W.heap := by
  have r4 := Lib.laidMet.reads h (n := "internal/strconv.uint64pow10") (d := Rows.laid_internal_strconv_uint64pow10) (.tail _ (.tail _ (.tail _ (.tail _ (.head _)))))
  have r6 := Lib.laidMet.reads h (n := "math/bits.deBruijn64tab") (d := Rows.laid_math_bits_deBruijn64tab) (.tail _ (.tail _ (.tail _ (.tail _ (.tail _ (.tail _ (.head _)))))))
  have r2 := Lib.laidMet.reads h (n := "strconv.ErrSyntax") (d := Rows.laid_strconv_ErrSyntax) (.tail _ (.tail _ (.head _)))
  have r3 := Lib.laidMet.reads h (n := "strconv.ErrRange") (d := Rows.laid_strconv_ErrRange) (.tail _ (.tail _ (.tail _ (.head _))))
  rw [is_pow] at r4
  rw [is_deb] at r6
  obtain ⟨a, b, hh⟩ := tab_of (t := 400) (e := 5) (N := 64) (g := 8) (by kernel_rfl) (by kernel_rfl) (by kernel_rfl) (by kernel_rfl) (by kernel_rfl) (by kernel_rfl) r6
  exact ⟨tab_of (t := 353) (e := 70) (N := 20) (by kernel_rfl) (by kernel_rfl) (by kernel_rfl) (by kernel_rfl) (by kernel_rfl) (by kernel_rfl) r4, Tryz.laysSplit.s1_3 W hsh,
    if_of (t := 60) (by kernel_rfl) (by kernel_rfl) Tryz.underlying60 r2, if_of (t := 60) (by kernel_rfl) (by kernel_rfl) Tryz.underlying60 r3, by rw [cell_at hh]; rfl⟩
end Go.Proofs.YtbfolflejhkehaaGreatDoor
end

section
set_option linter.unusedVariables false
namespace Go.Vc
open Go Go.RowKit

/-- as DecW, of data whose parts are no longer than memory reaches. -/
def DecZ {α : Type} (E : Enc α) (P : Program) (e : TypeId) (good : World → α → Prop) : Prop :=
  ∀ {H : Type} {enc : TypeId × Value → H} {w : World} {base : Nat} {spare : Nat → Bool} {held : Bool} {n : Nat} {cs : List Value} {d : DataW H × List MemPlace},
    DataW.trod enc P w base spare held n e cs = some d → (∀ k ∈ d.1.weights P e, k ≤ reachBytes) → ∃ x, cs = E.enc x ∧ good w x
theorem DecW.z {α : Type} {E : Enc α} {P : Program} {e : TypeId} {good : World → α → Prop} (h : DecW E P e good) : DecZ E P e good := fun hd _ => h hd
theorem decStrZ {P : Program} {e : TypeId} (he : P.underlying e = some .string) : DecZ StrE P e fun _ s => s.size ≤ reachBytes := fun {H enc w base spare held n cs d} h hw => by
  obtain ⟨s, rfl, rfl, hs⟩ := DataW.trod_string he h
  refine ⟨s, rfl, ?_⟩
  have := hw s.data.toList.length (by simp [DataW.weights])
  rw [Array.length_toList] at this
  exact this
theorem weights_mem_all {H : Type} {P : Program} {e : TypeId} : ∀ {l : List (DataW H)} {d : DataW H}, d ∈ l → ∀ k ∈ d.weights P e, k ∈ DataW.weightsAll P e l
  | x :: l, d, hd, k, hk => by
    simp only [DataW.weightsAll, List.mem_append]
    rcases List.mem_cons.1 hd with rfl | hd
    · exact .inl hk
    · exact .inr (weights_mem_all hd k hk)
theorem decSliceZ {α : Type} [Inhabited α] {E : Enc α} {good : World → α → Prop} {P : Program} {t e : TypeId} (ht : P.underlying t = some (.slice e)) (ce : P.cellsOf e = E.sz) (cb : 0 < P.bytesOf e) (dec : DecZ E P e good) :
    DecZ SliceE P t fun w s => SlG E good w s ∧ s.2.1 ≤ reachBytes := fun {H enc w base spare held fuel cs d} hf hw => by
  rcases DataW.trod_slice ht hf with ⟨hcs, _⟩ | ⟨x, len, cap, elems, rest, n, _, hcs, hd, hb, hl, hm, hel, hx, _⟩
  · exact ⟨(none, 0, 0), hcs, ⟨[], Sl.nil _ _, Nat.le_refl _, by show (0 : Nat) ≤ _; omega, by simp⟩, Nat.zero_le _⟩
  · subst hd
    have hwt : DataW.weights P t (DataW.slice (elems.map (·.1)) (rest.map (·.1))) = ((elems.map (·.1)).length + (rest.map (·.1)).length) * P.bytesOf e :: (DataW.weightsAll P e (elems.map (·.1)) ++ DataW.weightsAll P e (rest.map (·.1))) := by
      simp [DataW.weights, ht]
    dsimp only at hw
    rw [hwt] at hw
    have hlen : len ≤ reachBytes := by
      have h1 := hw _ List.mem_cons_self
      rw [List.length_map, hel] at h1
      have h2 : len + (rest.map (·.1)).length ≤ (len + (rest.map (·.1)).length) * P.bytesOf e := Nat.le_mul_of_pos_right _ cb
      omega
    unfold maxLen at hm
    refine ⟨(some x, len, cap), hcs, ?_, hlen⟩
    have each : ∀ i, i < len → ∃ y : α, (∀ j v, (E.enc y)[j]? = some v → cell w.heap (x.add (i * E.sz + j)) = some v) ∧ good w y := fun i hi => by
      have h1 := hx i hi
      have hi2 : i < elems.length := by omega
      rw [List.getElem?_eq_getElem hi2, ce] at h1
      obtain ⟨cs', h2, h3⟩ := Option.bind_eq_some_iff.1 h1
      obtain ⟨_, hlen, hcell⟩ := World.cells?_some h2
      obtain ⟨y, rfl, hg⟩ := dec h3 fun k hk => hw k (List.mem_cons_of_mem _ (List.mem_append_left _ (weights_mem_all (List.mem_map_of_mem (f := fun p : DataW H × List MemPlace => p.1) (List.getElem_mem hi2)) k hk)))
      refine ⟨y, fun j v hv => ?_, hg⟩
      have hj : j < E.sz := by rw [← E.len y]; exact (List.getElem?_eq_some_iff.1 hv).1
      have := hcell j hj
      rw [Addr.add_add] at this
      rw [← cell_eq, this, hv]
    obtain ⟨X, hX⟩ := Deep.choose_lt each
    refine ⟨(List.range len).map X, ⟨by simp, .inr ⟨x, rfl, fun i y hy j v hv => ?_⟩⟩, hl, by show len ≤ _; omega, fun y hy => ?_⟩
    · have hi : i < len := by have := (List.getElem?_eq_some_iff.1 hy).1; simpa using this
      simp [hi] at hy
      subst hy
      exact (hX i hi).1 j v hv
    · obtain ⟨i, hi, rfl⟩ := List.mem_map.1 hy
      exact (hX i (List.mem_range.1 hi)).2
theorem open_slZ {α : Type} [Inhabited α] {E : Enc α} {good : World → α → Prop} {P : Program} {t e : TypeId} {H : Type} {enc : TypeId × Value → H} {w : World} {base : Nat} {spare : Nat → Bool} {held : Bool} {a : Option Addr} {n c : Nat} {d : DataW H} {ps : List MemPlace}
    (ht : P.underlying t = some (.slice e)) (ce : P.cellsOf e = E.sz) (cb : 0 < P.bytesOf e) (dec : DecZ E P e good) (h : DataW.Trod enc P w base spare held t (.slice a n c) d ps) (hw : ∀ k ∈ d.weights P t, k ≤ reachBytes) : SlG E good w (a, n, c) := by
  obtain ⟨fuel, hf⟩ := h
  obtain ⟨s, e0, g⟩ := decSliceZ ht ce cb dec hf hw
  have : (a, n, c) = s := by
    simp [Value.cells, SliceE] at e0
    obtain ⟨rfl, rfl, rfl⟩ := e0
    rfl
  rw [this]; exact g.1
/-- a part's sizes, out of all of them. -/
theorem weights_at {H : Type} {P : Program} {ts : List TypeId} {ds : List (DataW H)} (h : (DataW.weightsEach P ts ds).all (· ≤ reachBytes) = true) {j : Nat} {t : TypeId} {d : DataW H} (ht : ts[j]? = some t) (hd : ds[j]? = some d) : ∀ k ∈ d.weights P t, k ≤ reachBytes := fun k hk => by
  have := List.all_eq_true.1 h k (DataW.weights_mem_each ht hd k hk)
  exact of_decide_eq_true this
end Go.Vc
end

section
namespace Go.Sc
open Go
variable {H : Type} {enc : TypeId × Value → H}
theorem handed_and_shaped {a : Assume} {C : Checked} {os : Os} {f : FuncId} {fn : Func} {s : ChangeSpec} {conds : List PathCond} {apart fresh handsOn again : Bool} {X : World → Array Value → Prop}
    (hX : ∀ (w w' : World) (args : Array Value), w.heap = w'.heap → X w args → X w' args)
    (own : ownKnob C.prog.godebug = none) (started : os.Started) (noInit : C.prog.inits.idxOf? f = none) (hfn : C.prog.funcs[f]? = some fn)
    (witness : ∃ (w : World) (tape : Tape) (i : Input), w.os = os ∧ (w.forCall tape i).Shaped C.prog ∧ i.vars = [] ∧ Input.okWide C.prog (w.forCall tape i) .any w.heap.size f i ∧
      ((s.pre enc C.prog fn conds apart (w.forCall tape i).memory i.args ∧ X (w.forCall tape i).memory i.args) ∧ sizedMet enc C.prog fn (OpenSpec.ofChange s) apart (w.forCall tape i).memory i.args) ∧ a.holds C.prog (lone (Frame.enter C.prog f i.args .normal) [] (w.forCall tape i)))
    (contract : ∀ (W : World) (base : Nat) (args : Array Value) (ds gs : List (DataW H)) (before : List MemPlace),
      (∀ (j : Nat) t v, fn.params[j]? = some t → args[j]? = some v → Value.okWide C.prog W .any base t v) →
      DataW.Whole enc C.prog fn.params.toList s.vars apart W args.toList ds gs before →
      (DataW.weightsEach C.prog (fn.params.toList ++ s.plain.varTypes C.prog) (ds ++ gs)).all (· ≤ reachBytes) = true → X W args → W.ShapedOpen C.prog →
      Calls C.prog f args W fun e W' => ∃ v, e = .returned v ∧ s.post enc C.prog fn apart fresh handsOn again W args v W') :
    ReturnsInHanded a C os f .any (fun w args => (s.pre enc C.prog fn conds apart w args ∧ X w args) ∧ sizedMet enc C.prog fn (OpenSpec.ofChange s) apart w args) (s.post enc C.prog fn apart fresh handsOn again) := by
  refine returnsInHanded_of_calls own started noInit witness fun w tape i _ hsh _ hok hpre _ => ?_
  obtain ⟨_, _, _, gn, hgn, _, _, _, _, hval⟩ := hok
  cases Option.some.inj (hgn.symm.trans hfn)
  obtain ⟨⟨⟨ds, gs, before, hw, _⟩, hx⟩, hz⟩ := hpre
  refine (contract (w.forCall tape i) w.heap.size i.args ds gs before hval (DataW.Whole.of_heap (w' := w.forCall tape i) (by rfl) hw) (hz.weights hw) (hX _ _ _ (by rfl) hx) hsh).mono fun e W' ⟨v, he, hp⟩ => ?_
  cases he
  exact ChangeSpec.post_blind hp
end Go.Sc
end

section
set_option linter.unusedVariables false
set_option linter.unusedSimpArgs false
set_option maxRecDepth 100000
namespace Go.Proofs.YtbfolflejhkehaaGreatDoor
open Go Go.Vc Go.Proofs Go.Dk Go.Sc

set_option maxHeartbeats 1000000 in
theorem split25_spec {h : Heap} (s : Str) (c : UInt8) (hs : s.size ≤ 65536) : HC Tryz.prog 14 #[.string s, .int .u8 (c.toNat : Int)] h fun v h' =>
    Keep h.size h h' ∧ ∃ a cap, v = .slice a (splitS c s).length cap ∧ Vc.Own StrE 9 h.size h' a (splitS c s).length cap (splitS c s) := by
  refine HC_of_vc (args := [.string s, .int .u8 (c.toNat : Int)]) (base := 35) (cuts := []) (bigs := []) hm Tryz.func14 ?_
  rw [vc25Split]
  have hbl := bl_len s
  refine ⟨fun a k cp n5 n6 G => ∃ f i : Nat, n5 = f ∧ n6 = i ∧ f ≤ i ∧ i ≤ s.size + 1 ∧ k ≤ i ∧ Keep h.size h G ∧ ∃ done, Vc.Own StrE 9 h.size G a k cp done ∧
      (i ≤ s.size → splitS c s = done ++ (glue (piece (bytesL s) f i) (splitL c ((bytesL s).drop i))).map strL) ∧ (i = s.size + 1 → splitS c s = done),
    fun _ _ _ _ n6 _ => s.size + 1 - n6.toNat, ⟨0, 0, rfl, rfl, Nat.le_refl _, by omega, Nat.le_refl _, Keep.refl _ _, [], Vc.Own.nil _ _ _, fun _ => by rw [sp_start]; rfl, fun e => by omega⟩, ?_⟩
  rintro a k cp n5 n6 G ⟨f, i, rfl, rfl, hfi, hi, hk, kG, done, oG, h1, h2⟩
  refine br_intro (fun hle => ?_) fun hgt => ?_
  · have hle : i ≤ s.size := by simpa using hle
    have h1 := h1 hle
    have wi : IntKind.i64.wrap ((i : Int) + 1) = ((i + 1 : Nat) : Int) := wrap_i64 (by omega) (by omega)
    rw [wi]
    refine ⟨fun e => ?_, br_intro (fun e => ?_) fun e => ?_⟩
    · have e : ¬ (i : Int) = (s.size : Int) := by simpa using e
      exact ⟨by omega, by omega⟩
    · refine ⟨⟨by omega, by omega, by omega⟩, svc_append1 (x := s.extract (f : Int).toNat (i : Int).toNat) app_ss oG kG.size (bs_s _) (by show (4 * (k + 1) + 192) * 16 ≤ 2 ^ 48; omega) fun a' c' h14 o14 u14 b14 => ?_⟩
      rw [Int.toNat_natCast, Int.toNat_natCast, ext_piece] at o14
      refine ⟨⟨i + 1, i + 1, rfl, rfl, Nat.le_refl _, by omega, by omega, kG.trans (u14.keep kG.size fun q hq => (oG.block q hq).1), _, o14, fun hlt => ?_, fun heq => ?_⟩, by dsimp only; omega⟩
      · have hlt : i < s.size := by omega
        obtain ⟨b, hb, hbi⟩ := byteAt_eq hlt
        have e : (((i : Int) == (s.size : Int)) || (byteAt s (i : Int) == (c.toNat : Int))) = true := e
        rw [hbi, u8_beq] at e
        have hne : ((i : Int) == (s.size : Int)) = false := by rw [beq_eq_false_iff_ne]; omega
        rw [hne, Bool.false_or] at e
        have e := of_decide_eq_true e
        subst e
        rw [h1, sp_hit hb, List.map_cons, List.append_assoc]; rfl
      · have heq : i = s.size := by omega
        rw [h1, sp_end (by omega)]; rfl
    · have e : (((i : Int) == (s.size : Int)) || (byteAt s (i : Int) == (c.toNat : Int))) = false := e
      rw [Bool.or_eq_false_iff] at e
      have hne : ¬ (i : Int) = (s.size : Int) := by simpa using e.1
      have hlt : i < s.size := by omega
      obtain ⟨b, hb, hbi⟩ := byteAt_eq hlt
      have e2 := e.2
      rw [hbi, u8_beq] at e2
      refine ⟨⟨f, i + 1, rfl, rfl, by omega, by omega, by omega, kG, done, oG, fun _ => ?_, fun e => by omega⟩, by dsimp only; omega⟩
      rw [h1, sp_miss hfi hb (of_decide_eq_false e2)]
  · have hgt : i = s.size + 1 := by
      have : ¬ i ≤ s.size := by simpa using hgt
      omega
    have h2 := h2 hgt
    subst h2
    have hl := oG.1
    subst hl
    exact ⟨kG, a, cp, rfl, oG⟩
theorem command25_spec {h : Heap} (g : Lib0 h) (s : Str) (hs : s.size ≤ 65536) : HC Tryz.prog 15 #[.string s] h fun v h' => Keep h.size h h' ∧ v = .bool (cmdP (bytesL s)) := by
  refine HC_of_vc (args := [.string s]) (base := 49) (cuts := []) (bigs := []) hm Tryz.func15 ?_
  rw [vc25Command]
  refine (split25_spec s 32 hs).mono ?_
  rintro v h1 ⟨k1, a, cap, rfl, own⟩
  obtain ⟨x0, hx0⟩ := splitS_pos 32 s
  have hd0 := words_hd hx0
  have hpos : 0 < (splitS 32 s).length := (List.getElem?_eq_some_iff.1 hx0).1
  have wl : (wordsP (bytesL s)).length = (splitS 32 s).length := (splitS_len 32 s).symm
  obtain ⟨p0, rfl, hp0⟩ := own.sl.get hx0
  refine ⟨_, _, _, rfl, _, ⟨rfl, by omega, by omega⟩, x0, reads_load scS ?_, (shape25_spec x0).mono ?_⟩
  · exact add0 (hp0 0 (.string x0) rfl)
  rintro v h8 ⟨hh, rfl⟩
  rw [hh]
  clear hh
  cases hsp : shapeP (bytesL x0) with
  | none =>
    refine ⟨_, _, rfl, br_intro (fun _ => ⟨k1, ?_⟩) fun e => by simp at e⟩
    rw [cmd_none (by rw [← hd0]; exact hsp)]
  | some kt =>
    obtain ⟨k, t⟩ := kt
    have hle := shapeP_le hsp
    have hcm := cmd_some (l := bytesL s) (k := k) (t := t) (by rw [← hd0]; exact hsp)
    rw [wl] at hcm
    have w1 : IntKind.i64.wrap ((1 : Int) + (k : Int)) = ((k + 1 : Nat) : Int) := by rw [wrap_i64 (by omega) (by omega)]; omega
    have w2 : IntKind.i64.wrap (((k + 1 : Nat) : Int) + (t : Int)) = ((1 + k + t : Nat) : Int) := by rw [wrap_i64 (by omega) (by omega)]; omega
    refine ⟨(k : Int), (t : Int), rfl, ?_⟩
    rw [w1, w2]
    have hneg : decide ((k : Int) < 0) = false := decide_eq_false (by omega)
    rw [hneg, Bool.false_or]
    refine br_intro (fun e => ?_) fun e => ?_
    · have hne : (splitS 32 s).length ≠ 1 + k + t := by
        intro h2
        rw [h2] at e
        simp at e
      refine ⟨k1, ?_⟩
      rw [hcm, decide_eq_false hne]; rfl
    · have heq : (splitS 32 s).length = 1 + k + t := by
        have e := bne_eq_false_iff_eq.1 e
        omega
      have hcm : cmdP (bytesL s) = (((wordsP (bytesL s)).drop 1).take k).all numOk := by rw [hcm, decide_eq_true heq]; rfl
      refine ⟨fun _ n14 G => ∃ j : Nat, n14 = ((j + 1 : Nat) : Int) ∧ j ≤ k ∧ (((wordsP (bytesL s)).drop 1).take j).all numOk = true ∧ Keep h1.size h1 G, fun _ n14 _ => k + 1 - n14.toNat, ⟨0, rfl, Nat.zero_le _, rfl, Keep.refl _ _⟩, ?_⟩
      rintro b13 n14 G ⟨j, rfl, hj, hall, kG⟩
      have k0G := k1.trans (kG.mono k1.size)
      refine br_intro (fun hlt => ?_) fun hge => ?_
      · have hlt : j < k := by
          have : ((j + 1 : Nat) : Int) ≤ (k : Int) := of_decide_eq_true hlt
          omega
        obtain ⟨x, hx⟩ : ∃ x, (splitS 32 s)[j + 1]? = some x := ⟨_, List.getElem?_eq_getElem (by omega)⟩
        have hxw := words_at hx
        have hxd : ((wordsP (bytesL s)).drop 1)[j]? = some (bytesL x) := by rw [List.getElem?_drop, Nat.add_comm]; exact hxw
        obtain ⟨p16, e16, c16⟩ := own.sl.get hx
        cases e16
        have rdx : ∀ G', Keep h1.size h1 G' → Reads Tryz.prog (Instr.loadAt 9 (.pointer (some (p0.add ((((j + 1 : Nat) : Int)).toNat * 1))))) G' (.string x) := fun G' kG' => by
          obtain ⟨p17, e17, c17⟩ := (own_sub own kG').sl.get hx
          cases e17
          rw [Int.toNat_natCast]; exact reads_load scS (c17 0 (.string x) rfl)
        refine ⟨p0, ⟨rfl, by omega, by omega⟩, x, rdx G kG, (atoi_spec (g.keep k0G) x (by have := words_le hx; omega)).mono ?_⟩
        rintro v h19 ⟨k19, ev, rfl, hev⟩
        have k019 := k0G.trans (k19.mono k0G.size)
        have k119 := kG.trans (k19.mono kG.size)
        have hrng := atoiV_rng (bytesL x)
        refine ⟨_, _, rfl, fun G' => Keep h1.size h1 G', k119, (itoa_spec (g.keep k019) hrng.1 hrng.2).mono ?_⟩
        rintro v h24 ⟨k24, rfl⟩
        have k124 := k119.trans (k24.mono k119.size)
        have hno := numOk_ref (bytesL x)
        refine ⟨_, rfl, k124, p0, ⟨rfl, by omega, by omega⟩, x, rdx, ?_⟩
        rw [beq_dec']
        refine br_intro (fun e => ?_) fun e => ?_
        · have hne : strL (Lib.itoa (atoiV (bytesL x))) ≠ x := by simpa using e
          have hne : Lib.itoa (atoiV (bytesL x)) ≠ bytesL x := fun h2 => hne (by rw [h2]; exact strL_bl x)
          rw [decide_eq_false hne] at hno
          refine ⟨k1.trans (k124.mono k1.size), ?_⟩
          rw [hcm, all_false hxd hlt hno.symm]
        · have heq : strL (Lib.itoa (atoiV (bytesL x))) = x := by simpa using e
          have heq : Lib.itoa (atoiV (bytesL x)) = bytesL x := congrArg bytesL heq
          rw [decide_eq_true heq] at hno
          rw [wrap_i64 (by omega) (by omega)]
          exact ⟨⟨j + 1, by omega, by omega, all_snoc hxd hall hno.symm, k124⟩, by dsimp only; omega⟩
      · have hge : j = k := by
          have : ¬ ((j + 1 : Nat) : Int) ≤ (k : Int) := of_decide_eq_false hge
          omega
        subst hge
        refine ⟨k0G, ?_⟩
        rw [hcm, hall]
def faultV (L : List (List UInt8)) : Int := match faultP L 0 0 with
  | some i => (i : Int)
  | none => 0
theorem faultV_some {L : List (List UInt8)} {i : Nat} (h : faultP L 0 0 = some i) : faultV L = (i : Int) := by simp only [faultV, h]
theorem faultV_none' {L : List (List UInt8)} (h : faultP L 0 0 = none) : faultV L = 0 := by simp only [faultV, h]
theorem fault_cons' (l : List UInt8) (ls : List (List UInt8)) (i n : Nat) : faultP (l :: ls) i n = if l = [] then faultP ls (i + 1) n else if cmdP l = false ∨ n = 512 then some (i + 1) else faultP ls (i + 1) (n + 1) := rfl
theorem fault25_spec {h : Heap} (g : Lib0 h) (s : Str) (hs : s.size ≤ 65536) : HC Tryz.prog 8 #[.string s] h fun v h' => Keep h.size h h' ∧ v = .int .i64 (faultV (splitL 10 (bytesL s))) := by
  refine HC_of_vc (args := [.string s]) (base := 28) (cuts := []) (bigs := []) hm Tryz.func8 ?_
  rw [vc25Fault]
  refine (split25_spec s 10 hs).mono ?_
  rintro v h1 ⟨k1, a, cap, rfl, own⟩
  have hlen : (splitS 10 s).length = (splitL 10 (bytesL s)).length := splitS_len 10 s
  have hcount := split_count (c := 10) (bytesL s)
  rw [bl_len] at hcount
  generalize hL : splitL 10 (bytesL s) = L at hlen hcount
  have hget : ∀ {j : Nat} {l : List UInt8}, L[j]? = some l → (splitS 10 s)[j]? = some (strL l) := fun {j l} hl => splitS_get (by rw [hL]; exact hl)
  have hsz : ∀ l ∈ L, l.length ≤ s.size := fun l hl => by
    have := split_le (c := 10) (l := bytesL s) (x := l) (by rw [hL]; exact hl)
    rw [bl_len] at this; exact this
  refine ⟨_, _, _, rfl, fun _ n8 n9 G => ∃ j k : Nat, n9 = j ∧ n8 = k ∧ j ≤ L.length ∧ k ≤ 512 ∧ faultP (L.drop j) j k = faultP L 0 0 ∧ Keep h1.size h1 G, fun _ _ n9 _ => L.length - n9.toNat, ⟨0, 0, rfl, rfl, Nat.zero_le _, by omega, rfl, Keep.refl _ _⟩, ?_⟩
  rintro n7 n8 n9 G ⟨j, k, rfl, rfl, hj, hk, hf, kG⟩
  have k0G := k1.trans (kG.mono k1.size)
  rw [hlen]
  refine br_intro (fun hlt => ?_) fun hge => ?_
  · have hlt : j < L.length := by simpa using hlt
    obtain ⟨l, hl⟩ : ∃ l, L[j]? = some l := ⟨_, List.getElem?_eq_getElem hlt⟩
    have hd : L.drop j = l :: L.drop (j + 1) := by
      rw [List.drop_eq_getElem_cons hlt]
      rw [List.getElem?_eq_getElem hlt] at hl
      rw [Option.some.inj hl]
    rw [hd, fault_cons'] at hf
    obtain ⟨p11, e11, c11⟩ := (own_sub own kG).sl.get (hget hl)
    refine ⟨p11, ⟨e11, by omega, by omega⟩, strL l, by rw [Int.toNat_natCast]; exact reads_load scS (c11 0 (.string (strL l)) rfl), ?_⟩
    have wj : IntKind.i64.wrap ((j : Int) + 1) = ((j + 1 : Nat) : Int) := wrap_i64 (by omega) (by omega)
    have wk : IntKind.i64.wrap ((k : Int) + 1) = ((k + 1 : Nat) : Int) := wrap_i64 (by omega) (by omega)
    rw [wj, wk]
    refine br_lit (fun e => ?_) fun e => ?_
    · have e : l = [] := e
      rw [if_pos e] at hf
      exact ⟨⟨j + 1, k, rfl, rfl, by omega, hk, hf, kG⟩, by dsimp only; omega⟩
    · have e : l ≠ [] := e
      rw [if_neg e] at hf
      refine (command25_spec (g.keep k0G) (strL l) (by rw [strL_len]; have := hsz l (List.mem_of_getElem? hl); omega)).mono ?_
      rintro v h14 ⟨k14, rfl⟩
      have k014 := k0G.trans (k14.mono k0G.size)
      refine ⟨_, rfl, br_intro (fun hb => ?_) fun hb => ?_⟩
      · refine ⟨k014, ?_⟩
        have hor : cmdP l = false ∨ k = 512 := by
          simp only [Bool.or_eq_true, Bool.not_eq_true', beq_iff_eq] at hb
          rcases hb with hb | hb
          · exact .inl hb
          · exact .inr (by omega)
        rw [if_pos hor] at hf
        rw [faultV_some hf.symm]
      · have hor : cmdP l = true ∧ k ≠ 512 := by
          simp only [Bool.or_eq_false_iff, Bool.not_eq_false', beq_eq_false_iff_ne, ne_eq] at hb
          exact ⟨hb.1, fun e => hb.2 (by omega)⟩
        rw [if_neg (by rw [hor.1]; simp [hor.2])] at hf
        exact ⟨⟨j + 1, k + 1, rfl, rfl, by omega, by omega, hf, kG.trans (k14.mono kG.size)⟩, by dsimp only; omega⟩
  · have hge : j = L.length := by
      have : ¬ j < L.length := by simpa using hge
      omega
    rw [hge, List.drop_length] at hf
    have hf : faultP L 0 0 = none := hf.symm
    exact ⟨k0G, by rw [faultV_none' hf]⟩
/-- what a call of joined says. -/
def JoinOk (L : List Str) (s : Str) : Prop := L.length ≤ 40 ∧ (∀ l ∈ L, (10 : UInt8) ∉ bytesL l) ∧ bytesL s = joinL 10 (L.map bytesL) ∧ s.size ≤ 4097
set_option maxHeartbeats 1000000 in
theorem joined_spec {h : Heap} {A : Option Addr} {n c : Nat} {L : List Str} (hs : Sl StrE h A n L) (hbig : ∀ l ∈ L, l.size ≤ 9000000000000000000) : HC Tryz.prog 7 #[.slice A n c] h fun v h' => h' = h ∧ ∃ s b, v = .tuple #[.string s, .bool b] ∧ (b = true → JoinOk L s) := by
  have hl := hs.1
  refine HC_of_vc (args := [.slice A n c]) (base := 43) (cuts := []) (bigs := []) hm Tryz.func7 ?_
  rw [vc25Joined]
  have no : ∀ {s : Str}, (h = h ∧ ∃ s' b, Value.tuple (Array.mk [Value.string s, Value.bool false]) = .tuple #[.string s', .bool b] ∧ (b = true → JoinOk L s')) := fun {s} => ⟨rfl, _, _, rfl, fun e => by cases e⟩
  refine br_intro (fun _ => no) fun e => ?_
  have h40 : n ≤ 40 := by
    have := of_decide_eq_false e
    omega
  refine ⟨fun _ _ s4 n5 G => ∃ j : Nat, n5 = j ∧ j ≤ n ∧ G = h ∧ (∀ l ∈ L.take j, (10 : UInt8) ∉ bytesL l) ∧ bytesL s4 = joinL 10 ((L.take j).map bytesL) ∧ s4.size ≤ 4097, fun _ _ _ n5 _ => n - n5.toNat,
    ⟨0, rfl, Nat.zero_le _, rfl, fun l hl => by simp at hl, rfl, by decide⟩, ?_⟩
  rintro s2 b3 s4 n5 G ⟨j, rfl, hj, rfl, h10, hj4, hz4⟩
  refine br_intro (fun hlt => ?_) fun hge => ?_
  · have hlt : j < n := by simpa using hlt
    obtain ⟨l, hlj⟩ : ∃ l, L[j]? = some l := ⟨_, List.getElem?_eq_getElem (by omega)⟩
    obtain ⟨p7, rfl, c7⟩ := hs.get hlj
    refine ⟨p7, ⟨rfl, by omega, by omega⟩, l, by rw [Int.toNat_natCast]; exact reads_load scS (c7 0 (.string l) rfl), ?_⟩
    have ht := take_snoc hlj
    refine br_intro (fun _ => no) fun e => ?_
    have hll : s4.size + l.size ≤ 4096 := by
      have e := of_decide_eq_false e
      by_cases hb : l.size ≤ 9000000000000000000
      · rw [wrap_i64 (by omega) (by omega)] at e; omega
      · exact absurd (hbig _ (List.mem_of_getElem? hlj)) hb
    refine ⟨fun _ _ n13 H => ∃ i : Nat, n13 = i ∧ i ≤ l.size ∧ H = G ∧ ∀ q, q < i → (bytesL l)[q]? ≠ some 10, fun _ _ n13 _ => l.size - n13.toNat, ⟨0, rfl, Nat.zero_le _, rfl, fun q hq => by omega⟩, ?_⟩
    rintro s11 b12 n13 H ⟨i, rfl, hi, rfl, hq⟩
    refine br_intro (fun hlt => ?_) fun hge => ?_
    · have hlt : i < l.size := by simpa using hlt
      obtain ⟨b, hb, hbi⟩ := byteAt_eq hlt
      refine ⟨⟨by omega, by omega⟩, ?_⟩
      rw [hbi]
      refine br_intro (fun _ => no) fun e => ?_
      have e : (((b.toNat : Nat) : Int) == (((10 : UInt8).toNat : Nat) : Int)) = false := e
      rw [u8_beq] at e
      have e := of_decide_eq_false e
      rw [wrap_i64 (by omega) (by omega)]
      refine ⟨⟨i + 1, rfl, by omega, rfl, fun q hq2 => ?_⟩, by dsimp only; omega⟩
      by_cases h2 : q = i
      · subst h2; rw [hb]; exact fun h3 => e (Option.some.inj h3)
      · exact hq q (by omega)
    · have hge : i = l.size := by
        have : ¬ i < l.size := by simpa using hge
        omega
      have hl10 : (10 : UInt8) ∉ bytesL l := fun hm => by
        obtain ⟨q, hq2⟩ := List.mem_iff_getElem?.1 hm
        have := (List.getElem?_eq_some_iff.1 hq2).1
        rw [bl_len] at this
        exact hq q (by omega) hq2
      have h10' : ∀ x ∈ L.take (j + 1), (10 : UInt8) ∉ bytesL x := fun x hx => by
        rw [ht] at hx
        rcases List.mem_append.1 hx with hx | hx
        · exact h10 x hx
        · rw [List.mem_singleton.1 hx]; exact hl10
      have wj : IntKind.i64.wrap ((j : Int) + 1) = ((j + 1 : Nat) : Int) := wrap_i64 (by omega) (by omega)
      rw [wj]
      have sa : ∀ (a b : Str), (a ++ b).size = a.size + b.size := fun a b => by rw [← bl_len, bl_app, List.length_append, bl_len, bl_len]
      have s1 : (ByteArray.mk (Array.mk [(10 : UInt8)])).size = 1 := rfl
      refine br_intro (fun hp => ?_) fun hp => ?_
      · have hp : 0 < j := by simpa using hp
        refine ⟨by rw [imax]; omega, by rw [imax, sa, s1]; omega, ⟨j + 1, rfl, by omega, rfl, h10', ?_, by rw [sa, sa, s1]; omega⟩, by dsimp only; omega⟩
        rw [bl_app, bl_app, hj4, ht, List.map_append, List.map_singleton, joinL_snoc]
        · rw [List.append_assoc]; rfl
        · intro h0
          have := congrArg List.length h0
          rw [List.length_map, List.length_take, List.length_nil] at this
          omega
      · have hp : j = 0 := by
          have : ¬ (0 : Int) < (j : Int) := by simpa using hp
          omega
        subst hp
        refine ⟨by rw [imax]; omega, ⟨0 + 1, rfl, by omega, rfl, h10', ?_, by rw [sa]; omega⟩, by dsimp only; omega⟩
        rw [bl_app, hj4, ht]; rfl
  · have hge : j = n := by
      have : ¬ j < n := by simpa using hge
      omega
    subst hge
    rw [← hl, List.take_length] at h10 hj4
    exact ⟨rfl, _, _, rfl, fun _ => ⟨by omega, h10, hj4, hz4⟩⟩
end Go.Proofs.YtbfolflejhkehaaGreatDoor
end

section
set_option linter.unusedVariables false
set_option linter.unusedSimpArgs false
set_option maxRecDepth 100000
namespace Go.Proofs.YtbfolflejhkehaaGreatDoor
open Go Go.Vc Go.Proofs Go.Dk Go.Sc

def oddV : List Value := odds.map fun l => .string (strL l)
theorem blt_odd : Blt Tryz.prog 32 [((0 : Nat), Value.string (ByteArray.mk (Array.mk [(119 : UInt8), (104 : UInt8), (97 : UInt8), (116 : UInt8)]))),
 ((1 : Nat), Value.string (ByteArray.mk (Array.mk [(32 : UInt8)]))),
 ((2 : Nat), Value.string (ByteArray.mk (Array.mk [(110 : UInt8), (117 : UInt8), (109 : UInt8), (32 : UInt8)]))),
 ((3 : Nat), Value.string (ByteArray.mk (Array.mk [(114 : UInt8), (117 : UInt8), (110 : UInt8)]))),
 ((4 : Nat), Value.string (ByteArray.mk (Array.mk [(97 : UInt8), (114 : UInt8), (109 : UInt8), (32 : UInt8), (49 : UInt8)]))),
 ((5 : Nat), Value.string (ByteArray.mk (Array.mk [(108 : UInt8), (111 : UInt8), (103 : UInt8), (32 : UInt8), (48 : UInt8), (49 : UInt8), (32 : UInt8), (109 : UInt8), (97 : UInt8), (105 : UInt8), (110 : UInt8)]))),
 ((6 : Nat), Value.string (ByteArray.mk (Array.mk [(112 : UInt8), (117 : UInt8), (116 : UInt8), (32 : UInt8), (109 : UInt8), (97 : UInt8), (105 : UInt8), (110 : UInt8), (32 : UInt8), (97 : UInt8)]))),
 ((7 : Nat), Value.string (ByteArray.mk (Array.mk [(114 : UInt8), (117 : UInt8), (110 : UInt8), (32 : UInt8), (57 : UInt8), (50 : UInt8), (50 : UInt8), (51 : UInt8), (51 : UInt8), (55 : UInt8), (50 : UInt8),
   (48 : UInt8), (51 : UInt8), (54 : UInt8), (56 : UInt8), (53 : UInt8), (52 : UInt8), (55 : UInt8), (55 : UInt8), (53 : UInt8), (56 : UInt8), (48 : UInt8), (56 : UInt8)])))] oddV.toArray := ⟨builtL_eq (cs := oddV) (by kernel_rfl)⟩
theorem isz_odd : IsZ Tryz.prog 32 (List.replicate 8 (Value.string ⟨#[]⟩)).toArray := ⟨by kernel_rfl⟩
theorem odd_at {r : Nat} (h : r < 8) : ∃ o, odds[r]? = some o ∧ oddV[r]? = some (.string (strL o)) := by
  have hl : r < odds.length := h
  refine ⟨odds[r], List.getElem?_eq_getElem hl, ?_⟩
  unfold oddV
  rw [List.getElem?_map, List.getElem?_eq_getElem hl]; rfl
theorem odd_len : ∀ o ∈ odds, o.length ≤ 23 := by decide
theorem kind_at (b : Int) : ∃ r : Nat, r < 8 ∧ IntKind.i64.wrap ((IntKind.u64.wrap b).tmod 8) = (r : Int) := by
  have h0 : IntKind.u64.wrap b = b % 18446744073709551616 := IntKind.wrap_u64 b
  have h1 : 0 ≤ b % 18446744073709551616 := Int.emod_nonneg _ (by decide)
  have h2 : (b % 18446744073709551616).tmod 8 = (b % 18446744073709551616) % 8 := Int.tmod_eq_emod_of_nonneg h1
  have h3 : 0 ≤ (b % 18446744073709551616) % 8 ∧ (b % 18446744073709551616) % 8 < 8 := ⟨Int.emod_nonneg _ (by decide), Int.emod_lt_of_pos _ (by decide)⟩
  refine ⟨((b % 18446744073709551616) % 8).toNat, by omega, ?_⟩
  rw [h0, h2, wrap_i64 (by omega) (by omega)]
  omega
theorem faultP_pos : ∀ (L : List (List UInt8)) (i n k : Nat), faultP L i n = some k → 0 < k
  | [], i, n, k, h => by cases h
  | l :: ls, i, n, k, h => by
    rw [fault_cons] at h
    split at h
    · exact faultP_pos ls _ _ k h
    · split at h
      · cases h; omega
      · exact faultP_pos ls _ _ k h
theorem faultV_none {L : List (List UInt8)} (h : ¬ faultV L > 0) : faultP L 0 0 = none := by
  cases hf : faultP L 0 0 with
  | none => rfl
  | some k =>
    have := faultP_pos L 0 0 k hf
    unfold faultV at h
    rw [hf] at h
    exact absurd (show (k : Int) > 0 by omega) h
set_option maxHeartbeats 2000000 in
theorem faults_spec {h : Heap} (g : Lib0 h) {A : Option Addr} {n c : Nat} {L : List Str} (hs : Sl StrE h A n L) (hbig : ∀ l ∈ L, l.size ≤ 9000000000000000000) (a b : Int) :
    HC Tryz.prog 4 #[.slice A n c, .int .i64 a, .int .i64 b] h fun v h' => Keep h.size h h' ∧ v = .bool true := by
  have hl := hs.1
  refine HC_of_vc (args := [.slice A n c, .int .i64 a, .int .i64 b]) (base := 87) (cuts := []) (bigs := []) hm Tryz.func4 ?_
  rw [vc25Faults]
  refine (alive_spec g).mono ?_
  rintro v h1 ⟨rfl, k1⟩
  refine ⟨true, rfl, br_intro (fun e => by cases e) fun _ => (joined_spec (hs.keep k1) hbig).mono ?_⟩
  rintro v h4 ⟨rfl, s5, b6, rfl, hjoin⟩
  refine ⟨_, _, rfl, br_intro (fun e => ?_) fun _ => ⟨k1, rfl⟩⟩
  have e : (!b6 || decide (a < 0) || decide (a > (n : Int))) = false := by
    cases hb : (!b6 || decide (a < 0) || decide (a > (n : Int))) with
    | false => rfl
    | true => rw [hb] at e; cases e
  simp only [Bool.or_eq_false_iff, Bool.not_eq_false', decide_eq_false_iff_not] at e
  obtain ⟨j40, j10, jeq, jsz⟩ := hjoin e.1.1
  obtain ⟨p, rfl⟩ : ∃ p : Nat, a = p := ⟨a.toNat, by omega⟩
  have hp : p ≤ n := by omega
  refine (fault25_spec (g.keep k1) s5 (by omega)).mono ?_
  rintro v h8 ⟨k8, rfl⟩
  have k08 := k1.trans (k8.mono k1.size)
  refine ⟨_, rfl, br_intro (fun _ => ⟨k08, rfl⟩) fun e9 => ?_⟩
  have hf0 := faultV_none (of_decide_eq_false e9)
  have j10' : ∀ x ∈ L.map bytesL, (10 : UInt8) ∉ x := fun x hx => by
    obtain ⟨y, hy, rfl⟩ := List.mem_map.1 hx
    exact j10 y hy
  rw [jeq] at hf0
  have hf := fault_join (L.map bytesL) j10' hf0
  have hlm : (L.map bytesL).length = n := by rw [List.length_map, hl]
  have htl : (termL 10 (L.map bytesL)).length ≤ 4098 := termL_le (n := 4097) (by rw [← jeq, bl_len]; exact jsz)
  refine ⟨_, blt_odd, _, isz_odd, svc_store_new (v := .agg oddV.toArray) (by kernel_rfl) rfl ?_ ?_⟩
  · intro v hv
    have hv : v ∈ oddV := hv
    unfold oddV at hv
    obtain ⟨l, _, rfl⟩ := List.mem_map.1 hv
    exact one_string _
  have kb := keep_push h8 (.cells (Value.cells (.agg oddV.toArray)) 32 (0, 0))
  have bb := push_at h8 (.cells (Value.cells (.agg oddV.toArray)) 32 (0, 0))
  generalize h8.push (.cells (Value.cells (.agg oddV.toArray)) 32 (0, 0)) = h13 at kb bb
  have k013 := k08.trans (kb.mono k08.size)
  obtain ⟨r, hr, er⟩ := kind_at b
  obtain ⟨o, ho, hov⟩ := odd_at hr
  have hom := List.mem_of_getElem? ho
  have hol := odd_len o hom
  rw [er]
  refine ⟨fun s16 n17 G => ∃ i : Nat, n17 = i ∧ i ≤ n + 1 ∧ bytesL s16 = termL 10 (insAt (L.map bytesL) p o i) ∧ G = h13, fun _ n17 _ => n + 1 - n17.toNat, ⟨0, rfl, Nat.zero_le _, by rw [ins_zero]; rfl, rfl⟩, ?_⟩
  rintro s16 n17 G ⟨i, rfl, hi, hs16, rfl⟩
  have hmono := ins_mono (L := L.map bytesL) (a := p) (i := i) (o := o) (by omega) (by omega)
  have hsz : s16.size ≤ 4122 := by rw [← bl_len, hs16]; omega
  have sa : ∀ (a b : Str), (a ++ b).size = a.size + b.size := fun a b => by rw [← bl_len, bl_app, List.length_append, bl_len, bl_len]
  have s1 : (ByteArray.mk (Array.mk [(10 : UInt8)])).size = 1 := rfl
  have hso : (strL o).size = o.length := strL_len o
  have line : ∀ {i : Nat} {x : Str}, L[i]? = some x → x.size ≤ 4097 ∧ (L.map bytesL)[i]? = some (bytesL x) := fun {i x} hx => by
    refine ⟨?_, by rw [List.getElem?_map, hx]; rfl⟩
    have hm := List.mem_of_getElem? (show (L.map bytesL)[i]? = some (bytesL x) by rw [List.getElem?_map, hx]; rfl)
    have h2 : (bytesL x).length + 1 ≤ (termL 10 (L.map bytesL)).length := by
      obtain ⟨X, Y, e⟩ := List.append_of_mem hm
      rw [e, termL_app, termL_cons]; simp; omega
    rw [bl_len] at h2; omega
  refine br_intro (fun hle => ?_) fun hgt => ?_
  · have hle : i ≤ n := by simpa using hle
    have wi : IntKind.i64.wrap ((i : Int) + 1) = ((i + 1 : Nat) : Int) := wrap_i64 (by omega) (by omega)
    rw [wi]
    refine br_intro (fun hat => ?_) fun hat => ?_
    · have hat : i = p := by
        have : (i : Int) = (p : Int) := by simpa using hat
        omega
      subst hat
      refine ⟨by decide, ⟨by omega, by omega⟩, strL o, ?_, by rw [imax, hso]; omega, by rw [imax, sa, hso]; omega, ?_⟩
      · rw [Int.toNat_natCast, Nat.mul_one]
        exact reads_load scS (cell_cells bb (by
          show oddV.toArray[r]? = _
          rw [List.getElem?_toArray]; exact hov))
      refine br_intro (fun hlt => ?_) fun hge => ?_
      · have hlt : i < n := by simpa using hlt
        obtain ⟨x, hx⟩ : ∃ x, L[i]? = some x := ⟨_, List.getElem?_eq_getElem (by omega)⟩
        obtain ⟨hxs, hxl⟩ := line hx
        obtain ⟨p20, e20, c20⟩ := (hs.keep k013).get hx
        refine ⟨p20, ⟨e20, by omega, by omega⟩, x, by rw [Int.toNat_natCast]; exact reads_load scS (c20 0 (.string x) rfl), by rw [imax, sa, sa, s1, hso]; omega, by rw [imax, sa, sa, sa, s1, hso]; omega,
          ⟨i + 1, rfl, by omega, ?_, rfl⟩, by dsimp only; omega⟩
        rw [ins_at_lt hxl, termL_snoc, termL_snoc, bl_app, bl_app, bl_app, bl_app, hs16] <;> rfl
      · have hge : i = n := by
          have : ¬ i < n := by simpa using hge
          omega
        refine ⟨⟨i + 1, rfl, by omega, ?_, rfl⟩, by dsimp only; omega⟩
        rw [ins_at_end (by omega), termL_snoc, bl_app, bl_app, hs16] <;> rfl
    · have hat : i ≠ p := by
        have : ¬ (i : Int) = (p : Int) := by simpa using hat
        omega
      refine br_intro (fun hlt => ?_) fun hge => ?_
      · have hlt : i < n := by simpa using hlt
        obtain ⟨x, hx⟩ : ∃ x, L[i]? = some x := ⟨_, List.getElem?_eq_getElem (by omega)⟩
        obtain ⟨hxs, hxl⟩ := line hx
        obtain ⟨p22, e22, c22⟩ := (hs.keep k013).get hx
        refine ⟨p22, ⟨e22, by omega, by omega⟩, x, by rw [Int.toNat_natCast]; exact reads_load scS (c22 0 (.string x) rfl), by rw [imax]; omega, by rw [imax, sa]; omega,
          ⟨i + 1, rfl, by omega, ?_, rfl⟩, by dsimp only; omega⟩
        rw [ins_lt hxl hat, termL_snoc, bl_app, bl_app, hs16] <;> rfl
      · have hge : i = n := by
          have : ¬ i < n := by simpa using hge
          omega
        refine ⟨⟨i + 1, rfl, by omega, ?_, rfl⟩, by dsimp only; omega⟩
        rw [ins_end (by omega) hat (by omega), hs16]
  · have hgt : i = n + 1 := by
      have : ¬ i ≤ n := by simpa using hgt
      omega
    subst hgt
    have hs16 : bytesL s16 = termL 10 ((L.map bytesL).take p ++ o :: (L.map bytesL).drop p) := by
      rw [hs16, ← hlm, ins_all (by omega)]
    have hfo := fault_odd j10' hf (a := p) (by omega) hom
    rw [← hs16] at hfo
    refine (run_spec (g.keep k013) s16 (by omega) fun h2 => by rw [hfo] at h2; cases h2).mono ?_
    rintro v h25 ⟨k25, rfl⟩
    rw [runV_some hfo]
    refine ⟨_, _, _, rfl, k013.trans (k25.mono k013.size), ?_⟩
    rw [nil_toList, wrap_i64 (by omega) (by omega)]
    have e2 : (((p + 1 : Nat) : Int) == (p : Int) + 1) = true := by rw [beq_iff_eq]; omega
    rw [e2]; rfl
end Go.Proofs.YtbfolflejhkehaaGreatDoor
end
