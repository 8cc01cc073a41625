/-
  Contracts of the reference's Keys and Of. Conditions: stated at each.
-/
import Derived.Test.YtepnckpaknabpaaD3
set_option linter.unusedVariables false
namespace Go.Proofs.Ytepnckpaknabpaa
open Go Go.Vc Go.Proofs

def StrE : Enc Str := ⟨1, fun s => [.string s], fun _ => rfl, fun p v h => by simp at h; subst h; exact one_string _⟩
abbrev Sd := Option Addr × Nat × Nat
def SliE : Enc Sd := ⟨1, fun s => [.slice s.1 s.2.1 s.2.2], fun _ => rfl, fun p v h => by simp at h; subst h; exact one_slice _ _ _⟩
theorem sc22 : scT Try.prog 22 = true := by kernel_rfl
theorem sc4 : scT Try.prog 4 = true := by kernel_rfl
theorem app29 : App Try.prog 29 9 StrE.sz 16 (.string ⟨#[]⟩) := ⟨by kernel_rfl, by kernel_rfl, by kernel_rfl, by kernel_rfl, rfl, by decide, by decide⟩
theorem bs29 (x : Str) : bsCells Try.prog 29 1 [(0, .string x)] = some (9, StrE.enc x) := by kernel_rfl

theorem str_at {h : Heap} {a : Option Addr} {n : Nat} {xs : List Str} (hs : Sl StrE h a n xs) {i : Nat} (hi : i < n) :
    ∃ p, a = some p ∧ ∃ hx : i < xs.length, cell h (p.add (i * 1)) = some (.string xs[i]) := by
  have hx : i < xs.length := by rw [hs.1]; exact hi
  obtain ⟨p, e, hp⟩ := hs.get (List.getElem?_eq_getElem hx)
  exact ⟨p, e, hx, by have := hp 0 _ rfl; rwa [Nat.add_zero] at this⟩
theorem sli_at {h : Heap} {a : Option Addr} {n : Nat} {xs : List Sd} (hs : Sl SliE h a n xs) {i : Nat} (hi : i < n) :
    ∃ p, a = some p ∧ ∃ hx : i < xs.length, cell h (p.add (i * 1)) = some (.slice xs[i].1 xs[i].2.1 xs[i].2.2) := by
  have hx : i < xs.length := by rw [hs.1]; exact hi
  obtain ⟨p, e, hp⟩ := hs.get (List.getElem?_eq_getElem hx)
  exact ⟨p, e, hx, by have := hp 0 _ rfl; rwa [Nat.add_zero] at this⟩

def add1 (acc : List Pr) (p : Pr) : List Pr := doneGo p.1 ⟨#[]⟩ acc false
def keysL (L : List (List Pr)) : List Str := (L.flatten.foldl add1 []).map (·.1)
theorem doneGo_len (k v : Str) : ∀ (xs : List Pr) (d : Bool), (doneGo k v xs d).length ≤ xs.length + 1 ∧ (d = true → (doneGo k v xs d).length ≤ xs.length)
  | [], d => by cases d <;> simp [doneGo]
  | p :: ps, d => by
    have h1 := doneGo_len k v ps (d || ge p.1 k)
    have h2 : (doneGo k v ps (d || ge p.1 k)).length ≤ ps.length + 1 := h1.1
    simp only [doneGo, List.length_append, List.length_cons]
    have a1 : (if (p.1.toList == k.toList) = true then ([] : List Pr) else [p]).length ≤ 1 := by split <;> simp
    generalize (if (p.1.toList == k.toList) = true then ([] : List Pr) else [p]) = t at *
    cases d with
    | true =>
      have := h1.2 (by simp)
      simp at this ⊢; omega
    | false =>
      cases hg : ge p.1 k with
      | true =>
        have := h1.2 (by simp [hg])
        simp [hg] at this ⊢; omega
      | false =>
        simp [hg] at h2 ⊢
        omega
theorem fold_len : ∀ (l acc : List Pr), (l.foldl add1 acc).length ≤ acc.length + l.length
  | [], acc => by simp
  | p :: l, acc => by
    have := fold_len l (add1 acc p)
    have h2 := (doneGo_len p.1 ⟨#[]⟩ acc false).1
    simp only [List.foldl_cons, List.length_cons]
    unfold add1 at this h2 ⊢
    omega

/-- lists, each where a slice says. -/
def Lists (h : Heap) (ds : List Sd) (L : List (List Pr)) : Prop := ds.length = L.length ∧ ∀ i (h1 : i < ds.length) (h2 : i < L.length), Sl PairE h ds[i].1 ds[i].2.1 L[i]

theorem keys_spec {h : Heap} {A0 : Option Addr} {n0 c0 : Nat} {ds : List Sd} {L : List (List Pr)} (hs : Sl SliE h A0 n0 ds) (hL : Lists h ds L) (hn : L.flatten.length ≤ 268435456) (hn0 : n0 ≤ 1073741824) :
    HC Try.prog 29 #[.slice A0 n0 c0] h fun v h' => Keep h.size h h' ∧ ∃ a c, v = .slice a (keysL L).length c ∧ Sl StrE h' a (keysL L).length (keysL L) := by
  refine HC_of_vc (args := [.slice A0 n0 c0]) (base := 43) (cuts := []) (bigs := []) hm Try.func29 ?_
  rw [vc29]
  have hnL : n0 = L.length := by rw [← hs.1, hL.1]
  refine ⟨fun a2 k3 k4 n5 h6 => ∃ (k : Nat) (acc : List Pr), n5 = k ∧ k ≤ n0 ∧ Keep h.size h h6 ∧ Sl PairE h6 a2 k3 acc ∧ acc = (L.take k).flatten.foldl add1 [],
    fun _ _ _ n5 _ => n0 - n5.toNat, ⟨0, [], rfl, by omega, Keep.refl _ _, Sl.nil _ _, by simp⟩, ?_⟩
  rintro a2 k3 k4 n5 h6 ⟨k, acc, rfl, hk, hkeep, hacc, hg⟩
  refine br_intro (fun hlt => ?_) (fun hge => ?_)
  · have hlt : k < n0 := by simpa using hlt
    obtain ⟨p, rfl, hx, cc⟩ := sli_at hs hlt
    have hxL : k < L.length := by omega
    have hin := hL.2 k hx hxL
    refine ⟨p, ⟨rfl, by omega, by omega⟩, _, _, _, reads_load sc22 (hkeep.cell_some cc), ?_⟩
    generalize hd : ds[k] = d at *
    have hlen := hin.1
    have hsum : (L.take k).flatten.length + L[k].length ≤ 268435456 := by
      have : (L.take (k + 1)).flatten.length ≤ L.flatten.length := by
        conv => rhs; rw [← List.take_append_drop (k + 1) L, List.flatten_append, List.length_append]
        omega
      rw [List.take_succ_eq_append_getElem hxL, List.flatten_append, List.length_append] at this
      simp only [List.flatten_cons, List.flatten_nil, List.append_nil] at this
      omega
    refine ⟨fun a13 k14 k15 n16 h17 => ∃ (j : Nat) (acc' : List Pr), n16 = j ∧ j ≤ d.2.1 ∧ Keep h.size h h17 ∧ Sl PairE h17 a13 k14 acc' ∧ acc' = (L[k].take j).foldl add1 acc,
      fun _ _ _ n16 _ => d.2.1 - n16.toNat, ⟨0, acc, rfl, by omega, hkeep, hacc, by simp⟩, ?_⟩
    rintro a13 k14 k15 n16 h17 ⟨j, acc', rfl, hj, hkeep', hacc', hg'⟩
    refine br_intro (fun hlt' => ?_) (fun hge' => ?_)
    · have hlt' : j < d.2.1 := by simpa using hlt'
      obtain ⟨q, e, hy, c1, c2⟩ := pair_at hin hlt'
      refine ⟨q, ⟨e, by omega, by omega⟩, _, _, pair_load (hkeep'.cell_some c1) (hkeep'.cell_some c2), ?_⟩
      refine svc_store_new (v := .agg _) sz38 rfl (one_str _ _) ?_
      refine ⟨_, reads_load sc9 (by rw [cell_push]; rfl), ?_⟩
      have hk' := hkeep'.of_push hkeep'.size (Obj.cells #[.string L[k][j].1, .string L[k][j].2] 38)
      have hl : acc'.length ≤ 268435456 := by
        rw [hg', hg]
        have f1 := fold_len (L[k].take j) ((L.take k).flatten.foldl add1 [])
        have f2 := fold_len (L.take k).flatten []
        simp only [List.length_take, List.length_nil] at f1 f2
        omega
      refine (done_spec (s0 := L[k][j].1) (s1 := ⟨#[]⟩) (b := false) (hacc'.keep (Keep.push _ _ _ (Nat.le_refl _))) (by rw [← hacc'.1]; omega)).mono ?_
      rintro v h25 ⟨k25, a, c, rfl, _, hsl⟩
      refine ⟨_, _, _, rfl, ?_⟩
      rw [wrap_i64 (by omega) (by omega)]
      refine ⟨⟨j + 1, _, rfl, hlt', hk'.trans (k25.mono hk'.size), hsl, ?_⟩, by dsimp only; omega⟩
      rw [List.take_succ_eq_append_getElem hy, List.foldl_append, ← hg']
      rfl
    · have : j = d.2.1 := by simp at hge'; omega
      subst this
      rw [List.take_of_length_le (by rw [hlen]; exact Nat.le_refl _)] at hg'
      rw [wrap_i64 (by omega) (by omega)]
      refine ⟨⟨k + 1, acc', rfl, hlt, hkeep', hacc', ?_⟩, by dsimp only; omega⟩
      rw [List.take_succ_eq_append_getElem hxL, List.flatten_append, List.foldl_append, ← hg, hg']
      simp
  · have : k = n0 := by simp at hge; omega
    subst this
    rw [List.take_of_length_le (by omega)] at hg
    have hlen := hacc.1
    have hl : acc.length ≤ 268435456 := by
      rw [hg]
      have f2 := fold_len L.flatten []
      simp only [List.length_nil] at f2
      omega
    refine ⟨fun a31 k32 k33 n34 h35 => ∃ (j : Nat) (out : List Str), n34 = j ∧ j ≤ k3 ∧ Keep h6.size h6 h35 ∧ Own StrE 9 h6.size h35 a31 k32 k33 out ∧ out = (acc.take j).map (·.1),
      fun _ _ _ n34 _ => k3 - n34.toNat, ⟨0, [], rfl, by omega, Keep.refl _ _, Own.nil _ _ _, by simp⟩, ?_⟩
    rintro a31 k32 k33 n34 h35 ⟨j, out, rfl, hj, hkeep', own, ho⟩
    refine br_intro (fun hlt' => ?_) (fun hge' => ?_)
    · have hlt' : j < k3 := by simpa using hlt'
      obtain ⟨q, e, hy, c1, c2⟩ := pair_at hacc hlt'
      refine ⟨q, ⟨e, by omega, by omega⟩, _, _, pair_load (hkeep'.cell_some c1) (hkeep'.cell_some c2), ?_⟩
      refine svc_store_new (v := .agg _) sz38 rfl (one_str _ _) ?_
      refine ⟨_, reads_load sc9 (by rw [cell_push]; rfl), ?_⟩
      have hk' := hkeep'.of_push hkeep'.size (Obj.cells #[.string acc[j].1, .string acc[j].2] 38)
      have own' : Own StrE 9 h6.size (h35.push (Obj.cells #[.string acc[j].1, .string acc[j].2] 38)) a31 k32 k33 out :=
        own.upd (S := fun _ => False) ⟨by simp, fun i hi _ => push_old _ _ hi⟩ (fun _ _ h => h)
      have hk32 : k32 = j := by rw [← own.1, ho]; simp; omega
      refine svc_append1 (x := acc[j].1) app29 own' hk'.size (bs29 _) (by omega) fun a' c' h' o' u' _ => ?_
      rw [wrap_i64 (by omega) (by omega)]
      refine ⟨⟨j + 1, _, rfl, hlt', hk'.trans (u'.keep hk'.size (fun i hi => (own.block i hi).1)), o', ?_⟩, by dsimp only; omega⟩
      rw [List.take_succ_eq_append_getElem hy, List.map_append, ← ho]
      rfl
    · have : j = k3 := by simp at hge'; omega
      subst this
      rw [List.take_of_length_le (by rw [hlen]; exact Nat.le_refl _)] at ho
      have ek : keysL L = out := by rw [ho, hg]; rfl
      rw [ek]
      have := own.1
      subst this
      exact ⟨hkeep.trans (hkeep'.mono hkeep.size), _, _, rfl, own.sl⟩

/- the reference's Of -/
def chgOf (xs ys : List Pr) (k : Str) : Chg := ⟨k, (entL xs k).1, (entL ys k).1, (entL xs k).2, (entL ys k).2⟩
def parts (c : Chg) : Bool := !(c.o.toList == c.n.toList) || (c.was != c.is_)
def refL (xs ys : List Pr) : List Chg := ((keysL [xs, ys]).map (chgOf xs ys)).filter parts
theorem bs61 (a b : Option Addr) (n c m d : Nat) : bsCells Try.prog 61 2 [(0, .slice a n c), (1, .slice b m d)] = some (22, [.slice a n c, .slice b m d]) := by kernel_rfl
theorem eqBool (x y : Operand) (b c : Bool) (h : Heap) : Reads Try.prog (eqSem .neq 4 x y (.bool b) (.bool c)) h (.bool (b != c)) :=
  ⟨fun w _ => by
    have hu : Try.prog.underlying 4 = some .bool := by kernel_rfl
    simp [eqSem, eqGuard, binOp, Op.equal, Op.maxDepth, run_equalIn_bool w 9999 4 b c hu]
    cases b <;> cases c <;> rfl⟩

theorem refOf_spec {h : Heap} {A0 A1 : Option Addr} {n0 c0 n1 c1 : Nat} {xs ys : List Pr} (h0 : Sl PairE h A0 n0 xs) (h1 : Sl PairE h A1 n1 ys) (hn0 : n0 ≤ 134217728) (hn1 : n1 ≤ 134217728) :
    HC Try.prog 17 #[.slice A0 n0 c0, .slice A1 n1 c1] h fun v h' => Keep h.size h h' ∧ ∃ a c, v = .slice a (refL xs ys).length c ∧ Sl ChangeE h' a (refL xs ys).length (refL xs ys) := by
  refine HC_of_vc (args := [.slice A0 n0 c0, .slice A1 n1 c1]) (base := 54) (cuts := []) (bigs := []) hm Try.func17 ?_
  rw [vc17]
  have l0 := h0.1
  have l1 := h1.1
  refine svc_buildSlice (bs61 _ _ _ _ _ _) ⟨_, _, _, rfl, ?_⟩
  have kp := Keep.push h.size h (Obj.cells #[.slice A0 n0 c0, .slice A1 n1 c1] 22) (Nat.le_refl _)
  have hsl : Sl SliE (h.push (Obj.cells #[.slice A0 n0 c0, .slice A1 n1 c1] 22)) (some ⟨h.size, 0, none⟩) 2 [(A0, n0, c0), (A1, n1, c1)] :=
    ⟨rfl, .inr ⟨_, rfl, fun i x hx j v hv => by
      rw [Addr.add_row, cell_push]
      match i, hx with
      | 0, hx => simp at hx; subst hx; match j, hv with | 0, hv => simpa [SliE] using hv | j + 1, hv => simp [SliE] at hv
      | 1, hx => simp at hx; subst hx; match j, hv with | 0, hv => simpa [SliE] using hv | j + 1, hv => simp [SliE] at hv
      | i + 2, hx => simp at hx⟩⟩
  have hLs : Lists (h.push (Obj.cells #[.slice A0 n0 c0, .slice A1 n1 c1] 22)) [(A0, n0, c0), (A1, n1, c1)] [xs, ys] :=
    ⟨rfl, fun i i1 i2 => by
      match i, i1 with
      | 0, _ => exact h0.keep kp
      | 1, _ => exact h1.keep kp⟩
  refine (keys_spec hsl hLs (by simp; omega) (by omega)).mono ?_
  rintro v h6 ⟨k6, a7, c7, rfl, hkeys⟩
  refine ⟨_, _, _, rfl, ?_⟩
  have kh6 : Keep h.size h h6 := kp.trans (k6.mono kp.size)
  generalize hks : keysL [xs, ys] = ks at *
  have hkl : ks.length ≤ 268435456 := by
    rw [← hks]; unfold keysL
    rw [List.length_map]
    have := fold_len [xs, ys].flatten []
    simp at this ⊢; omega
  have href : refL xs ys = ((ks).map (chgOf xs ys)).filter parts := by rw [refL, hks]
  rw [href]
  refine ⟨fun a12 k13 k14 n15 h16 => ∃ (k : Nat) (out : List Chg), n15 = k ∧ k ≤ ks.length ∧ Keep h6.size h6 h16 ∧ Own ChangeE 40 h6.size h16 a12 k13 k14 out ∧ k13 ≤ k ∧ out = ((ks.take k).map (chgOf xs ys)).filter parts,
    fun _ _ _ n15 _ => ks.length - n15.toNat, ⟨0, [], rfl, by omega, Keep.refl _ _, Own.nil _ _ _, by omega, by simp⟩, ?_⟩
  rintro a12 k13 k14 n15 h16 ⟨k, out, rfl, hk, hkeep, own, hk13, ho⟩
  refine br_intro (fun hlt => ?_) (fun hge => ?_)
  · have hlt : k < ks.length := by simpa using hlt
    obtain ⟨p, rfl, hx, cc⟩ := str_at hkeys hlt
    refine ⟨p, ⟨rfl, by omega, by omega⟩, _, reads_load sc9 (hkeep.cell_some cc), ?_⟩
    generalize hkey : ks[k] = key at *
    refine svc_store_new (v := .agg _) sz40 rfl (fun v hv => ChangeE.one ⟨key, ⟨#[]⟩, ⟨#[]⟩, false, false⟩ v hv) ?_
    generalize hh20 : h16.push (Obj.cells (Value.agg (Array.mk [.string key, .string ⟨#[]⟩, .string ⟨#[]⟩, .bool false, .bool false])).cells 40) = h20
    have v20 : h20[h16.size]? = some (.cells #[.string key, .string ⟨#[]⟩, .string ⟨#[]⟩, .bool false, .bool false] 40 (0, 0)) := by rw [← hh20]; exact push_at _ _
    have k20 : Keep h16.size h16 h20 := by rw [← hh20]; exact Keep.push _ _ _ (Nat.le_refl _)
    have kk20 : Keep h.size h h20 := (kh6.trans (hkeep.mono kh6.size)).trans (k20.mono (Nat.le_trans kh6.size hkeep.size))
    refine (entry_spec (s := key) (h0.keep kk20) (by omega)).mono ?_
    rintro v h22 ⟨k22, rfl⟩
    refine ⟨_, _, rfl, ?_⟩
    have v22 := k22.at v20 (at_lt v20)
    refine svc_store_cell (o := 1) (v := .string (entL xs key).1) (by kernel_rfl) (by simpa [Addr.add] using v22) (by simp) rfl (one_string _) fun h26 s26 v26 o26 => ?_
    refine svc_store_cell (o := 3) (v := .bool (entL xs key).2) (by kernel_rfl) (by simpa [Addr.add] using v26) (by simp) rfl (one_bool _) fun h28 s28 v28 o28 => ?_
    have kk28 : Keep h.size h h28 := by
      refine (kk20.trans (k22.mono kk20.size)).trans ⟨by omega, fun i hi => ?_⟩
      have : i ≠ h16.size := by have := kh6.size; have := hkeep.size; omega
      rw [o28 i this, o26 i this]
    refine (entry_spec (s := key) (h1.keep kk28) (by omega)).mono ?_
    rintro v h30 ⟨k30, rfl⟩
    refine ⟨_, _, rfl, ?_⟩
    have v30 := k30.at v28 (at_lt v28)
    refine svc_store_cell (o := 2) (v := .string (entL ys key).1) (by kernel_rfl) (by simpa [Addr.add] using v30) (by simp) rfl (one_string _) fun h34 s34 v34 o34 => ?_
    refine svc_store_cell (o := 4) (v := .bool (entL ys key).2) (by kernel_rfl) (by simpa [Addr.add] using v34) (by simp) rfl (one_bool _) fun h36 s36 v36 o36 => ?_
    have v36' : h36[h16.size]? = some (.cells (ChangeE.enc (chgOf xs ys key)).toArray 40 (0, 0)) := v36
    have rd : ∀ {o : Nat} {v : Value}, (ChangeE.enc (chgOf xs ys key))[o]? = some v → cell h36 ((Addr.mk h16.size 0 none).add o) = some v := fun hv => by rw [Addr.add_row, cell_at v36']; simpa using hv
    have u36 : Upd (fun i => i = h16.size) h16 h36 := by
      have e1 : Upd (fun i => i = h16.size) h16 h20 := k20.upd _
      have e2 : Upd (fun i => i = h16.size) h20 h22 := k22.upd _
      have e3 : Upd (fun i => i = h16.size) h22 h28 := (upd_of_one s26 o26).trans (upd_of_one s28 o28)
      have e4 : Upd (fun i => i = h16.size) h28 h30 := k30.upd _
      exact e1.trans (e2.trans (e3.trans (e4.trans ((upd_of_one s34 o34).trans (upd_of_one s36 o36)))))
    have own36 : Own ChangeE 40 h6.size h36 a12 k13 k14 out := own.upd u36 (fun i hi => by have := (own.block i hi).2; omega)
    have k36 : Keep h6.size h6 h36 := hkeep.trans (u36.keep hkeep.size (fun i hi => by have := hkeep.size; omega))
    refine ⟨_, reads_load sc9 (rd (o := 1) rfl), _, reads_load sc9 (rd (o := 2) rfl), _, fun _ => reads_load sc4 (rd (o := 3) rfl), _, fun _ => reads_load sc4 (rd (o := 4) rfl), _, fun _ => eqBool _ _ _ _ _, ?_⟩
    have hout : ((ks.take (k + 1)).map (chgOf xs ys)).filter parts = out ++ (if parts (chgOf xs ys key) then [chgOf xs ys key] else []) := by
      rw [List.take_succ_eq_append_getElem hx, List.map_append, List.filter_append, ← ho, hkey]
      simp [List.filter_cons]
    rw [wrap_i64 (by omega) (by omega)]
    refine br_intro (fun hc => ?_) (fun hc => ?_)
    · have hp : parts (chgOf xs ys key) = true := hc
      refine ⟨_, _, _, _, _, chg_load (k := 0) (p := Addr.mk h16.size 0 none) (x := chgOf xs ys key) (fun j v hv => by rw [Nat.zero_add]; exact rd hv), ?_⟩
      refine svc_append1 (x := chgOf xs ys key) app26 own36 k36.size (bs26 _) (by omega) fun a' c' h' o' u' _ => ?_
      refine ⟨⟨k + 1, _, rfl, hlt, k36.trans (u'.keep k36.size (fun i hi => (own.block i hi).1)), o', by omega, by rw [hout, if_pos hp]⟩, by dsimp only; omega⟩
    · have hp : parts (chgOf xs ys key) = false := hc
      exact ⟨⟨k + 1, out, rfl, hlt, k36, own36, by omega, by rw [hout, if_neg (by simp [hp])]; simp⟩, by dsimp only; omega⟩
  · have : k = ks.length := by simp at hge; omega
    subst this
    rw [List.take_of_length_le (Nat.le_refl _)] at ho
    rw [← ho]
    have := own.1
    subst this
    exact ⟨kh6.trans (hkeep.mono kh6.size), _, _, rfl, own.sl⟩
end Go.Proofs.Ytepnckpaknabpaa
