/-
  slices.IndexFunc and slices.DeleteFunc at the writes that wait. Conditions: none.
-/
import Derived.Test.YtembbemljejjbaaDk5
import Derived.Test.YtembbemljejjbaaVcU
import Derived.Test.YtembbemljejjbaaG4
set_option linter.unusedVariables false
set_option linter.unusedSimpArgs false
set_option maxRecDepth 100000
namespace Go.Proofs.Ytembbemljejjbaa
open Go Go.Vc Go.Proofs Go.Dk

/-- a predicate on writes, as a function value: it only looks, where X holds. -/
def PredC (f : Nat) (cap : Array Value) (p : Wt → Bool) (X : Heap → Prop) : Prop :=
  fnOk Try.prog f = true ∧ ∀ h w, X h → HC Try.prog f (Array.mk [.agg (WtE.enc w).toArray] ++ cap) h fun v h' => Keep h.size h h' ∧ v = .bool (p w)

theorem idxF_spec {f : Nat} {cap : Array Value} {p : Wt → Bool} {X : Heap → Prop} (hp : PredC f cap p X) (hX : ∀ h h' : Heap, X h → Keep h.size h h' → X h') {h : Heap} {A : Option Addr} {n c : Nat} {ws : List Wt}
    (hs : Sl WtE h A n ws) (hx : X h) (hn : n ≤ 1099511627776) :
    HC Try.prog 91 #[.slice A n c, .func (.func f) #[] cap] h
      fun v h' => Keep h.size h h' ∧ v = .int .i64 (match ws.findIdx? p with | some k => (k : Int) | none => -1) := by
  have hl := hs.1
  refine HC_of_vc (args := [.slice A n c, .func (.func f) #[] cap]) (base := 19) (cuts := []) (bigs := []) hm Try.func91 ?_
  rw [vcIdxF]
  refine ⟨fun _ n3 h4 => ∃ k : Nat, n3 = k ∧ k ≤ n ∧ Keep h.size h h4 ∧ ∀ j w, j < k → ws[j]? = some w → p w = false, fun _ n3 _ => n - n3.toNat, ⟨0, rfl, by omega, Keep.refl _ _, fun j w hj => by omega⟩, ?_⟩
  rintro _ n3 h4 ⟨k, rfl, hk, k4, hall⟩
  refine br_intro (fun hlt => ?_) (fun hge => ⟨k4, ?_⟩)
  · have hlt : k < n := by simpa using hlt
    have hw : ws[k]? = some (ws[k]'(by omega)) := List.getElem?_eq_getElem (by omega)
    generalize ws[k]'(by omega) = w at hw
    obtain ⟨q, hA, hq⟩ := reads_wt (c := c) (hs.keep k4) hw
    refine ⟨q, ⟨hA, by omega, by omega⟩, _, hq, br_intro (fun _ => (hp.2 h4 w (hX _ _ hx k4)).mono ?_) (fun e => by rw [hp.1] at e; cases e)⟩
    rintro v h11 ⟨k11, rfl⟩
    have kk := k4.trans (k11.mono k4.size)
    refine ⟨_, rfl, br_intro (fun e => ⟨kk, ?_⟩) (fun e => ?_)⟩
    · have : ws.findIdx? p = some k := List.findIdx?_eq_some_iff_getElem.2 ⟨by omega, by rw [List.getElem?_eq_getElem (by omega)] at hw; cases hw; exact e, fun j hj => by
        have := hall j _ hj (List.getElem?_eq_getElem (by omega)); simp [this]⟩
      rw [this]
    · rw [wrap_i64 (by omega) (by omega)]
      refine ⟨⟨k + 1, rfl, hlt, kk, fun j w' hj hw' => ?_⟩, by dsimp only; omega⟩
      by_cases hjk : j = k
      · subst hjk; rw [hw] at hw'; cases hw'; exact e
      · exact hall j w' (by omega) hw'
  · have hk' : k = n := by have : ¬ (k : Int) < n := by simpa using hge
                           omega
    subst hk'
    have : ws.findIdx? p = none := List.findIdx?_eq_none_iff.2 fun w hw => by
      obtain ⟨j, hj, rfl⟩ := List.getElem_of_mem hw
      exact hall j _ (by omega) (List.getElem?_eq_getElem hj)
    rw [this]

theorem zc_enc : (zc Try.prog 98).toList = WtE.enc ⟨⟨#[]⟩, 0, zp⟩ := by kernel_rfl
theorem zc_one : oneCells (Value.agg (zc Try.prog 98)).cells.toList := by
  have h : (Value.agg (zc Try.prog 98)).cells.toList = WtE.enc ⟨⟨#[]⟩, 0, zp⟩ := zc_enc
  rw [h]; exact WtE_one _
theorem filter_take {p : Wt → Bool} {ws : List Wt} {j : Nat} {w : Wt} (hw : ws[j]? = some w) : (ws.take (j + 1)).filter (fun w => !p w) = (ws.take j).filter (fun w => !p w) ++ if p w then [] else [w] := by
  have hj := (List.getElem?_eq_some_iff.1 hw).1
  have he := (List.getElem?_eq_some_iff.1 hw).2
  rw [List.take_succ_eq_append_getElem hj, he, List.filter_append]
  congr 1
  cases h : p w <;> simp [h]

set_option maxHeartbeats 1000000 in
theorem delF_spec {f : Nat} {cap : Array Value} {p : Wt → Bool} {X : Heap → Prop} {A : Option Addr} (hp : PredC f cap p X) (hX : ∀ h h' : Heap, X h → Keep h.size h h' → X h') (hXu : ∀ h h' : Heap, X h → Upd (blk A) h h' → X h')
    {h : Heap} {n c : Nat} {ws : List Wt} (ho : Own WtE 98 0 h A n c ws) (hx : X h) (hn : n ≤ 1099511627776) :
    HC Try.prog 55 #[.slice A n c, .func (.func f) #[] cap] h
      fun v h' => Own WtE 98 0 h' A (ws.filter fun w => !p w).length c (ws.filter fun w => !p w) ∧ Upd (blk A) h h' ∧ v = .slice A (ws.filter fun w => !p w).length c := by
  have hl := ho.1
  have hnc := ho.2.1
  refine HC_of_vc (args := [.slice A n c, .func (.func f) #[] cap]) (base := 42) (cuts := []) (bigs := []) hm Try.func55 ?_
  rw [vcDelF]
  refine (idxF_spec hp hX ho.sl hx hn).mono ?_
  rintro v h1 ⟨k1, rfl⟩
  have ho1 := ho.upd (k1.upd fun _ => False) fun _ _ h => h
  cases hf : ws.findIdx? p with
  | none =>
    have hall := List.findIdx?_eq_none_iff.1 hf
    have hfil : (ws.filter fun w => !p w) = ws := List.filter_eq_self.2 fun w hw => by simp [hall w hw]
    refine ⟨_, rfl, br_intro (fun _ => ?_) (fun e => by simp at e)⟩
    rw [hfil, hl]
    exact ⟨ho1, k1.upd _, rfl⟩
  | some k =>
    obtain ⟨hkl, hpk, hbef⟩ := List.findIdx?_eq_some_iff_getElem.1 hf
    have hb1 : (((k : Nat) : Int) == -1) = false := by rw [beq_eq_false_iff_ne]; omega
    refine ⟨_, rfl, br_intro (fun e => by rw [hb1] at e; cases e) (fun _ => ?_)⟩
    obtain ⟨b, cells, rfl, _, hb, hcs, rest, hrest⟩ : ∃ b cells, A = some ⟨b, 0, none⟩ ∧ 0 ≤ b ∧ h1[b]? = some (.cells cells 98 (0, 0)) ∧ cells.size = c * WtE.sz ∧ ∃ rest, cells.toList = ws.flatMap WtE.enc ++ rest := by
      rcases ho1.2.2 with ⟨_, e⟩ | h0
      · omega
      · exact h0
    have eb : ∀ q, q = b → blk (some (⟨b, 0, none⟩ : Addr)) q := fun q e => ⟨_, rfl, e.symm⟩
    refine ⟨fun n5 n6 h7 => ∃ (i j : Nat) (R : List Wt) (cells : Array Value) (rest : List Value), n5 = i ∧ n6 = j ∧ j ≤ n ∧ i < j ∧ R.length = n ∧ R.take i = (ws.take j).filter (fun w => !p w) ∧ R.drop j = ws.drop j ∧
        h7[b]? = some (.cells cells 98 (0, 0)) ∧ cells.size = c * WtE.sz ∧ cells.toList = R.flatMap WtE.enc ++ rest ∧ Upd (blk (some ⟨b, 0, none⟩)) h h7 ∧ X h7,
      fun _ n6 _ => n - n6.toNat, ⟨k, k + 1, ws, cells, rest, rfl, by show IntKind.i64.wrap ((k : Int) + 1) = _; rw [wrap_i64 (by omega) (by omega)]; rfl, by omega, by omega, hl, ?_, rfl, hb, hcs, hrest, k1.upd _, hX _ _ hx k1⟩, ?_⟩
    · rw [filter_take (List.getElem?_eq_getElem hkl), hpk]
      simp only [if_true, List.append_nil]
      refine (List.filter_eq_self.2 fun w hw => ?_).symm
      obtain ⟨j, hj, rfl⟩ := List.getElem_of_mem hw
      simp only [List.length_take] at hj
      have := hbef j (by omega)
      simpa using this
    rintro _ _ h7 ⟨i, j, R, cells, rest, rfl, rfl, hjn, hij, hRl, hRt, hRd, hb, hcs, hrest, u7, x7⟩
    refine br_intro (fun hlt => ?_) (fun hge => ?_)
    · have hlt : j < n := by simpa using hlt
      have hw : ws[j]? = some (ws[j]'(by omega)) := List.getElem?_eq_getElem (by omega)
      generalize ws[j]'(by omega) = w at hw
      have hRw : R[j]? = some w := by
        have := congrArg (fun l => l[0]?) hRd
        simpa [hw] using this
      have hsl : Sl WtE h7 (some ⟨b, 0, none⟩) n R := ⟨hRl, .inr ⟨_, rfl, fun i x hxx j v hv => by
        rw [Addr.add_row, Nat.zero_add, cell_at hb, ← Array.getElem?_toList, hrest]
        have := flat_get (E := WtE) R hxx hv
        rw [List.getElem?_append_left (List.getElem?_eq_some_iff.1 this).1]; exact this⟩⟩
      obtain ⟨q, hA, hq⟩ := reads_wt (c := c) hsl hRw
      cases hA
      refine ⟨⟨b, 0, none⟩, ⟨rfl, by omega, by omega⟩, _, hq, zc Try.prog 98, ⟨rfl⟩, svc_store_wt ⟨rfl⟩ ?_⟩
      have hat := push_at h7 (.cells (WtE.enc w).toArray 98 (0, 0))
      have kp := keep_push h7 (.cells (WtE.enc w).toArray 98 (0, 0))
      refine ⟨_, reads_load_agg agWrite (WtE.len w) (cells_all hat), br_intro (fun _ => (hp.2 _ w (hX _ _ x7 kp)).mono ?_) (fun e => by rw [hp.1] at e; cases e)⟩
      rintro v h15 ⟨k15, rfl⟩
      have k715 : Keep h7.size h7 h15 := kp.trans (k15.mono kp.size)
      have hb15 := k715.at hb (at_lt hb)
      have x15 : X h15 := hX _ _ x7 k715
      have u15 := u7.keep' k715
      have hat15 := k15.at hat (by simp)
      have hwj : IntKind.i64.wrap ((j : Int) + 1) = ((j + 1 : Nat) : Int) := by rw [wrap_i64 (by omega) (by omega)]; rfl
      have hwi : IntKind.i64.wrap ((i : Int) + 1) = ((i + 1 : Nat) : Int) := by rw [wrap_i64 (by omega) (by omega)]; rfl
      have hdrop : R.drop (j + 1) = ws.drop (j + 1) := by
        have := congrArg (List.drop 1) hRd
        simpa [List.drop_drop] using this
      refine ⟨_, rfl, br_intro (fun e => ?_) (fun e => ?_)⟩
      · have e : p w = false := by simpa using e
        refine ⟨_, reads_load_agg agWrite (WtE.len w) (cells_all hat15), ⟨b, 0, none⟩, ⟨rfl, by omega, by omega⟩, ?_⟩
        rw [Addr.add_row, Nat.zero_add, Int.toNat_natCast]
        refine svc_store_at (v := .agg (WtE.enc w).toArray) ?_ hb15 ?_ (WtE_one w) fun h20 s20 b20 u20 => ?_
        · show szOf _ _ = some (WtE.enc w).toArray.size; rw [List.size_toArray, WtE.len]; exact szWrite
        · show i * 514 + (WtE.enc w).toArray.size ≤ _
          rw [List.size_toArray, WtE.len, hcs]
          show i * 514 + 514 ≤ c * 514
          omega
        · have hset : putL cells.toList (i * 514) (WtE.enc w) = (R.set i w).flatMap WtE.enc ++ rest := by
            rw [hrest]; exact putL_flat (E := WtE) R rest i w (by omega)
          have b20' : h20[b]? = some (.cells ((R.set i w).flatMap WtE.enc ++ rest).toArray 98 (0, 0)) := by rw [← hset]; exact b20
          rw [hwi, hwj]
          refine ⟨⟨i + 1, j + 1, R.set i w, _, rest, rfl, rfl, hlt, by omega, by simpa using hRl, ?_, ?_, b20', ?_, by simp, u15.trans (u20.mono eb), hXu _ _ x15 (u20.mono eb)⟩, by dsimp only; omega⟩
          · rw [filter_take hw, e, ← hRt]
            simp only [Bool.false_eq_true, if_false]
            rw [List.take_succ_eq_append_getElem (by simp; omega), List.getElem_set_self, List.take_set_of_le (Nat.le_refl _)]
          · rw [List.drop_set_of_lt (by omega), hdrop]
          · have := congrArg List.length hset
            rw [putL_len, Array.length_toList] at this
            simp only [List.size_toArray]; omega
      · have e : p w = true := by simpa using e
        rw [hwj]
        refine ⟨⟨i, j + 1, R, cells, rest, rfl, rfl, hlt, by omega, hRl, ?_, hdrop, hb15, hcs, hrest, u15, x15⟩, by dsimp only; omega⟩
        rw [filter_take hw, e, ← hRt]; simp
    · have hjn' : j = n := by have : ¬ (j : Int) < n := by simpa using hge
                              omega
      subst hjn'
      have ht : ws.take j = ws := List.take_of_length_le (by omega)
      rw [ht] at hRt
      have hm : (ws.filter fun w => !p w).length = i := by rw [← hRt, List.length_take]; omega
      have esub : subA (some (⟨b, 0, none⟩ : Addr)) (i : Int).toNat c 514 = some ⟨b, i * 514, none⟩ := by
        rw [Int.toNat_natCast, subA, if_neg (by omega)]; simp [Addr.add_row]
      refine ⟨⟨by omega, by omega, by omega, by omega⟩, ?_⟩
      rw [esub]
      refine svc_clear_tail app_wt.und app_wt.zero app_wt.zlen zc_one hb (by rw [hcs]; show i * 514 + (j - (i : Int).toNat) * 514 ≤ c * 514; rw [Int.toNat_natCast]; omega) fun h22 cells' s22 b22 z22 t22 u22 => ?_
      refine ⟨rfl, ⟨by omega, by omega, by omega⟩, ?_⟩
      rw [Int.toNat_natCast, hm]
      refine ⟨⟨hm, by omega, .inr ⟨b, cells', rfl, Nat.zero_le _, b22, by rw [z22, hcs], cells'.toList.drop (i * 514), ?_⟩⟩, u7.trans (u22.mono eb), rfl⟩
      have h1 : cells'.toList = cells'.toList.take (i * 514) ++ cells'.toList.drop (i * 514) := (List.take_append_drop _ _).symm
      have h2 : (R.flatMap WtE.enc ++ rest).take (i * 514) = (R.take i).flatMap WtE.enc := by
        have hl1 : ((R.take i).flatMap WtE.enc).length = i * 514 := by rw [flat_len, List.length_take]; show min i R.length * 514 = _; congr 1; omega
        have : R.flatMap WtE.enc = (R.take i).flatMap WtE.enc ++ (R.drop i).flatMap WtE.enc := by rw [← List.flatMap_append, List.take_append_drop]
        rw [this, List.append_assoc, ← hl1, List.take_left]
      rw [t22, hrest, h2, hRt] at h1
      exact h1
end Go.Proofs.Ytembbemljejjbaa
