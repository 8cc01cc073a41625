/-
  Contracts of diff.Apply and of sorted, given a contract of the library's sorted keys of a map. Conditions: stated at each.
-/
import Derived.Test.YtepnckpaknabpaaA1
set_option linter.unusedVariables false
namespace Go.Proofs.Ytepnckpaknabpaa
open Go Go.Vc Go.Proofs

noncomputable def M56 : Mk Try.prog 56 9 9 Str Str := strMk Try.prog 56 9 9 Str (fun v => .string v) (by kernel_rfl) (by kernel_rfl)
/-- strings as long as the form lets them be. -/
def Bd (l : List Str) : Prop := ∀ k ∈ l, k.size ≤ 9223372036854775807
/-- the library's sorted keys of a map. -/
def SortedKeys : Prop := ∀ (h : Heap) (r : Nat) (m : List (Str × Str)), MapAt M56 h r m → m.length ≤ 1073741824 → Bd (mKeys m) → HC Try.prog 37 #[.map (some r)] h fun v h1 => Keep h.size h h1 ∧
  HC Try.prog 36 #[v] h1 fun v2 h2 => Keep h.size h h2 ∧ ∃ a c K, Srt K ∧ (∀ q, q ∈ K ↔ q ∈ mKeys m) ∧ K.length = m.length ∧ v2 = .slice a K.length c ∧ Sl StrE h2 a K.length K

theorem ent_mem : ∀ (us : List Pr) (k : Str), (entL us k).2 = true ↔ k ∈ ks us
  | [], k => by simp [entL, ks]
  | p :: us, k => by
    by_cases h : p.1 = k
    · subst h; rw [ent_here]; simp [ks]
    · rw [ent_past h, ent_mem us k]
      simp only [ks, List.map_cons, List.mem_cons]
      exact ⟨.inr, fun hh => hh.resolve_left fun e => h e.symm⟩
theorem mem_mGet (m : List (Str × Str)) (k : Str) : k ∈ mKeys m ↔ (mGet m k).isSome = true := by
  cases hg : mGet m k with
  | none => simp [mGet_none.1 hg]
  | some v =>
    simp only [Option.isSome_some, iff_true]
    exact Classical.byContradiction fun hn => by rw [mGet_none.2 hn] at hg; cases hg
/-- a map holds what a list of pairs by rising keys holds. -/
def Like (m : List (Str × Str)) (us : List Pr) : Prop := Srt (ks us) ∧ ∀ k, mGet m k = if (entL us k).2 then some (entL us k).1 else none
theorem Like.keys {m : List (Str × Str)} {us : List Pr} (h : Like m us) {K : List Str} (hK : Srt K) (hm : ∀ q, q ∈ K ↔ q ∈ mKeys m) : K.map (fun k => (k, (mGet m k).getD ⟨#[]⟩)) = us := by
  have e : K = ks us := srt_ext hK h.1 fun q => by
    rw [hm, mem_mGet, h.2 q, ← ent_mem]
    cases (entL us q).2 <;> simp
  subst e
  have key : ∀ l : List Pr, Srt (ks l) → (ks l).map (fun k => (k, (entL l k).1)) = l := by
    intro l
    induction l with
    | nil => intro _; rfl
    | cons p l ih =>
      intro hs
      have hp := List.pairwise_cons.1 (show Srt (p.1 :: ks l) from hs)
      show (p.1, (entL (p :: l) p.1).1) :: (ks l).map (fun k => (k, (entL (p :: l) k).1)) = p :: l
      rw [ent_here]
      congr 1
      conv => rhs; rw [← ih hp.2]
      exact List.map_congr_left fun q hq => by rw [ent_past (ne_of_lt (hp.1 q hq))]
  conv => rhs; rw [← key us h.1]
  refine List.map_congr_left fun q hq => ?_
  rw [h.2 q, if_pos ((ent_mem us q).2 hq)]
  rfl
theorem look56 {h : Heap} {r : Nat} {m : List (Str × Str)} {us : List Pr} (hma : MapAt M56 h r m) (hl : Like m us) (k : Str) :
    Reads Try.prog (Instr.lookup 56 (.map (some r)) (.string k) false) h (.string (entL us k).1) ∧ Reads Try.prog (Instr.lookup 56 (.map (some r)) (.string k) true) h (.tuple (Array.mk [.string (entL us k).1, .bool (entL us k).2])) := by
  have ht := reads_lookup (k := k) (z := .string ⟨#[]⟩) hma (by kernel_rfl)
  have h2 := hl.2 k
  cases he : (entL us k).2 with
  | true => rw [he, if_pos rfl] at h2; rw [h2] at ht; exact ht
  | false => rw [he, if_neg (by simp)] at h2; rw [h2] at ht; rw [ent_false us k he]; exact ht
theorem Like.put {m : List (Str × Str)} {us : List Pr} (h : Like m us) (k v : Str) : Like (mPut m k v) (doneGo k v us false) := by
  refine ⟨(doneGo_srt k v us h.1).1, fun q => ?_⟩
  rw [mGet_put, done_ent_false]
  by_cases hq : q = k
  · subst hq; rw [if_pos rfl, if_pos rfl]; rfl
  · rw [if_neg (fun e => hq e.symm), if_neg hq, h.2 q]
theorem Like.del {m : List (Str × Str)} {us : List Pr} (h : Like m us) (hn : (mKeys m).Nodup) (k v : Str) : Like (mDel m k) (doneGo k v us true) := by
  refine ⟨(done_srt_true k v us h.1).1, fun q => ?_⟩
  rw [mGet_del hn, done_ent_true]
  by_cases hq : q = k
  · subst hq; rw [if_pos rfl, if_pos rfl]; rfl
  · rw [if_neg (fun e => hq e.symm), if_neg hq, h.2 q]
theorem len_put (m : List (Str × Str)) (k v : Str) : (mPut m k v).length ≤ m.length + 1 := by
  induction m with
  | nil => simp [mPut]
  | cons p m ih =>
    simp only [mPut]
    split
    · simp
    · simp only [List.length_cons]; omega
theorem len_del (m : List (Str × Str)) (k : Str) : (mDel m k).length ≤ m.length := (mDel_sub m k).length_le
def putS (xs : List Pr) (m : List (Str × Str)) : List (Str × Str) := xs.foldl (fun m p => mPut m p.1 p.2) m
theorem putS_get : ∀ (xs : List Pr) (m : List (Str × Str)) (k : Str), Srt (ks xs) → (k ∈ ks xs → mGet (putS xs m) k = some (entL xs k).1) ∧ (k ∉ ks xs → mGet (putS xs m) k = mGet m k)
  | [], m, k, _ => ⟨fun h => by simp [ks] at h, fun _ => rfl⟩
  | p :: xs, m, k, h => by
    have hp := List.pairwise_cons.1 (show Srt (p.1 :: ks xs) from h)
    have : putS (p :: xs) m = putS xs (mPut m p.1 p.2) := rfl
    rw [this]
    obtain ⟨i1, i2⟩ := putS_get xs (mPut m p.1 p.2) k hp.2
    by_cases hk : p.1 = k
    · subst hk
      have : p.1 ∉ ks xs := above hp.1
      refine ⟨fun _ => ?_, fun hn => absurd (by simp [ks]) hn⟩
      rw [i2 this, mGet_put, if_pos rfl, ent_here]
    · have e : k ∈ ks (p :: xs) ↔ k ∈ ks xs := by simp only [ks, List.map_cons, List.mem_cons]; exact ⟨fun h => h.resolve_left (fun e => hk e.symm), .inr⟩
      refine ⟨fun hm => ?_, fun hn => ?_⟩
      · rw [i1 (e.1 hm), ent_past hk]
      · rw [i2 (fun hm => hn (e.2 hm)), mGet_put, if_neg hk]
theorem putS_like {xs : List Pr} (h : Srt (ks xs)) : Like (putS xs []) xs := by
  refine ⟨h, fun k => ?_⟩
  obtain ⟨i1, i2⟩ := putS_get xs [] k h
  cases he : (entL xs k).2 with
  | true => rw [i1 ((ent_mem xs k).1 he)]; rfl
  | false => rw [i2 (fun hm => by rw [(ent_mem xs k).2 hm] at he; cases he)]; rfl
theorem putS_len : ∀ (xs : List Pr) (m : List (Str × Str)), (putS xs m).length ≤ m.length + xs.length
  | [], m => by simp [putS]
  | p :: xs, m => by
    have h1 := putS_len xs (mPut m p.1 p.2)
    have h2 := len_put m p.1 p.2
    have : putS (p :: xs) m = putS xs (mPut m p.1 p.2) := rfl
    rw [this, List.length_cons]; omega

theorem putS_keys : ∀ (xs : List Pr) (m : List (Str × Str)) (q : Str), q ∈ mKeys (putS xs m) → q ∈ mKeys m ∨ q ∈ ks xs
  | [], m, q, h => .inl h
  | p :: xs, m, q, h => by
    rcases putS_keys xs (mPut m p.1 p.2) q h with h | h
    · rcases (mKeys_put m p.1 p.2 q).1 h with e | h
      · exact .inr (by simp [ks, e])
      · exact .inl h
    · exact .inr (List.mem_cons_of_mem _ h)

theorem sorted_spec (hS : SortedKeys) {h : Heap} {r : Nat} {m : List (Str × Str)} {us : List Pr} (hma : MapAt M56 h r m) (hl : Like m us) (hn : m.length ≤ 1073741824) (hbd : Bd (mKeys m)) :
    HC Try.prog 34 #[.map (some r)] h fun v h' => Keep h.size h h' ∧ ∃ a n c, v = .slice a n c ∧ Own PairE 38 h.size h' a n c us := by
  refine HC_of_vc (args := [.map (some r)]) (base := 24) (cuts := []) (bigs := []) hm Try.func34 ?_
  rw [vc34]
  refine (hS h r m hma hn hbd).mono ?_
  rintro v h1 ⟨k1, hc⟩
  refine ⟨v, rfl, hc.mono ?_⟩
  rintro v2 h4 ⟨k4, a5, c7, K, hK, hKm, hKn, rfl, hsl⟩
  refine ⟨_, _, _, rfl, ?_⟩
  have hus := hl.keys hK hKm
  have hKl : K.length ≤ 1073741824 := by omega
  refine ⟨fun a10 k11 k12 n13 h14 => ∃ k : Nat, n13 = k ∧ k ≤ K.length ∧ Keep h4.size h4 h14 ∧ Own PairE 38 h4.size h14 a10 k11 k12 ((K.take k).map fun k => (k, (mGet m k).getD ⟨#[]⟩)) ∧ k11 ≤ k,
    fun _ _ _ n13 _ => K.length - n13.toNat, ⟨0, rfl, by omega, Keep.refl _ _, Own.nil _ _ _, by omega⟩, ?_⟩
  rintro a10 k11 k12 n13 h14 ⟨k, rfl, hk, hkeep, own, hk11⟩
  refine br_intro (fun hlt => ?_) (fun hge => ?_)
  · have hlt : k < K.length := by simpa using hlt
    obtain ⟨p, rfl, hx, cc⟩ := str_at hsl hlt
    have htake : K.take (k + 1) = K.take k ++ [K[k]] := List.take_succ_eq_append_getElem hx
    refine ⟨p, ⟨rfl, by omega, by omega⟩, _, reads_load sc9 (hkeep.cell_some cc), ?_⟩
    generalize K[k] = key at *
    have kk14 := k4.trans (hkeep.mono k4.size)
    refine ⟨_, (look56 (hma.keep kk14) hl key).1, ?_⟩
    have e1 : (mGet m key).getD ⟨#[]⟩ = (entL us key).1 := by
      rw [hl.2 key]
      cases he : (entL us key).2 with
      | true => rfl
      | false => rw [ent_false us key he]; rfl
    refine svc_append1 (x := (key, (entL us key).1)) app22 own hkeep.size (bs22 _ _) (by omega) fun a' c' h' o' u' b' => ?_
    rw [wrap_i64 (by omega) (by omega)]
    refine ⟨⟨k + 1, rfl, hlt, hkeep.trans (u'.keep hkeep.size fun i hi => (own.block i hi).1), ?_, by omega⟩, by dsimp only; omega⟩
    rw [htake, List.map_append, List.map_cons, List.map_nil, e1]
    exact o'
  · have : k = K.length := by simp at hge; omega
    subst this
    rw [List.take_of_length_le (Nat.le_refl _), hus] at own
    exact ⟨k4.trans (hkeep.mono k4.size), _, _, _, rfl, own.mono k4.size⟩

theorem ne_cond' (x y : Str × Bool) : ((y.2 != x.2) || !y.1.toList == x.1.toList) = !eqE y x := by
  unfold eqE
  generalize (y.1.toList == x.1.toList) = a
  obtain ⟨_, x⟩ := x; obtain ⟨_, y⟩ := y
  cases a <;> cases x <;> cases y <;> rfl

theorem apply_spec (hS : SortedKeys) {h : Heap} {A0 A1 : Option Addr} {n0 c0 n1 c1 : Nat} {xs : List Pr} {cs : List Chg} (h0 : Sl PairE h A0 n0 xs) (h1 : Sl ChangeE h A1 n1 cs)
    (hn0 : n0 ≤ 268435456) (hn1 : n1 ≤ 268435456) (hx : Srt (ks xs)) (hbx : Bd (ks xs)) (hbc : Bd (cs.map (·.k))) :
    HC Try.prog 25 #[.slice A0 n0 c0, .slice A1 n1 c1] h fun v h' => Keep h.size h h' ∧ ∃ a n c e, v = .tuple #[.slice a n c, .int .i64 e] ∧ Own PairE 38 h.size h' a n c ((applyL xs cs).getD []) ∧
      e = (if (applyL xs cs).isSome then 0 else 4) := by
  refine HC_of_vc (args := [.slice A0 n0 c0, .slice A1 n1 c1]) (base := 63) (cuts := []) (bigs := []) hm Try.func25 ?_
  rw [vc25]
  have l0 := h0.1
  have l1 := h1.1
  refine ⟨fun n2 h3 => ∃ k : Nat, n2 = k ∧ k ≤ n0 ∧ Keep h.size h h3 ∧ MapAt M56 h3 h.size (putS (xs.take k) []), fun n2 _ => n0 - n2.toNat,
    ⟨0, rfl, by omega, Keep.push _ _ _ (Nat.le_refl _), by simpa [putS] using MapAt.new M56 h⟩, ?_⟩
  rintro n2 h3 ⟨k, rfl, hk, hkeep, hma⟩
  refine br_intro (fun hlt => ?_) (fun hge => ?_)
  · have hlt : k < n0 := by simpa using hlt
    obtain ⟨p, rfl, hxk, c1, c2⟩ := pair_at h0 hlt
    refine ⟨p, ⟨rfl, by omega, by omega⟩, _, _, pair_load (hkeep.cell_some c1) (hkeep.cell_some c2), ?_⟩
    refine svc_store_new (v := .agg _) sz38 rfl (one_str _ _) ?_
    refine ⟨_, reads_load sc9 (by rw [cell_push]; rfl), _, reads_load sc9 (by rw [Addr.add_row, cell_push]; rfl), ?_⟩
    have hk' := hkeep.of_push hkeep.size (Obj.cells #[.string xs[k].1, .string xs[k].2] 38)
    refine svc_mapUpdate (M := M56) (k := xs[k].1) (v := xs[k].2) (hma.keep (Keep.push _ _ _ (Nat.le_refl _))) fun h' hsz u hma' => ?_
    rw [wrap_i64 (by omega) (by omega)]
    refine ⟨⟨k + 1, rfl, hlt, hk'.trans (u.keep hk'.size fun i hi => by subst hi; exact Nat.le_refl _), ?_⟩, by dsimp only; omega⟩
    rw [List.take_succ_eq_append_getElem hxk, putS, List.foldl_append]
    exact hma'
  · have hkn0 : k = n0 := by simp at hge; omega
    rw [List.take_of_length_le (by omega)] at hma
    have pl := putS_len xs []
    refine ⟨fun _ _ _ _ n19 h20 => ∃ (k : Nat) (m : List (Str × Str)) (us : List Pr), n19 = k ∧ k ≤ n1 ∧ Keep h.size h h20 ∧ MapAt M56 h20 h.size m ∧ Like m us ∧ m.length ≤ n0 + k ∧ applyL us (cs.drop k) = applyL xs cs ∧ Bd (mKeys m),
      fun _ _ _ _ n19 _ => n1 - n19.toNat, ⟨0, _, xs, rfl, by omega, hkeep, hma, putS_like hx, by simp at pl; omega, by simp, fun q hq => (putS_keys xs [] q hq).elim (fun h => by simp [mKeys] at h) (hbx q)⟩, ?_⟩
    rintro a15 k16 k17 n18 n19 h20 ⟨k, m, us, rfl, hk, hkeep, hma, hl, hml, hg, hbm⟩
    refine br_intro (fun hlt => ?_) (fun hge => ?_)
    · have hlt : k < n1 := by simpa using hlt
      obtain ⟨p, rfl, hxk, cc⟩ := chg_at h1 hlt
      refine ⟨p, ⟨rfl, by omega, by omega⟩, _, _, _, _, _, chg_load (x := cs[k]) (fun j v hv => hkeep.cell_some (cc j v hv)), ?_⟩
      rw [List.drop_eq_getElem_cons hxk, applyL] at hg
      have hck : cs[k].k.size ≤ 9223372036854775807 := hbc _ (List.mem_map_of_mem (List.getElem_mem hxk))
      generalize cs[k] = c at *
      refine svc_store_new (v := .agg _) sz40 rfl (fun v hv => ChangeE.one c v hv) ?_
      generalize hh28 : h20.push (Obj.cells (Value.agg (Array.mk [.string c.k, .string c.o, .string c.n, .bool c.was, .bool c.is_])).cells 40) = h28
      have k28 : Keep h20.size h20 h28 := by rw [← hh28]; exact Keep.push _ _ _ (Nat.le_refl _)
      have v28 : h28[h20.size]? = some (.cells #[.string c.k, .string c.o, .string c.n, .bool c.was, .bool c.is_] 40 (0, 0)) := by rw [← hh28]; exact push_at _ _
      have kk28 := hkeep.trans (k28.mono hkeep.size)
      have hma28 := hma.keep k28
      have lk := (look56 hma28 hl c.k).2
      refine ⟨_, reads_load sc9 (by rw [cell_at v28]; rfl), _, _, lk, _, reads_load sc4 (by rw [Addr.add_row, cell_at v28]; rfl), _, eqBool _ _ _ _ _, _, fun _ => reads_load sc9 (by rw [Addr.add_row, cell_at v28]; rfl), ?_⟩
      rw [ne_cond' (c.o, c.was) (entL us c.k)]
      refine br_intro (fun hne => ?_) (fun heq => ?_)
      · rw [if_neg (by simpa using hne)] at hg
        rw [← hg]
        exact ⟨kk28, _, _, _, _, rfl, Own.nil _ _ _, rfl⟩
      · rw [if_pos (by simpa using heq)] at hg
        refine ⟨_, reads_load sc4 (by rw [Addr.add_row, cell_at v28]; rfl), ?_⟩
        refine br_intro (fun his => ?_) (fun his => ?_)
        · refine ⟨_, reads_load sc9 (by rw [cell_at v28]; rfl), ?_⟩
          refine svc_delete (M := M56) (k := c.k) hma28 fun h38 s38 u38 m38 => ⟨rfl, ?_⟩
          rw [wrap_i64 (by omega) (by omega)]
          have hnd : (mKeys m).Nodup := by obtain ⟨_, _, _, _, hn, _⟩ := hma28; exact hn
          refine ⟨⟨k + 1, _, _, rfl, hlt, kk28.trans (u38.keep kk28.size fun i hi => by omega), m38, hl.del hnd c.k c.n, by have := len_del m c.k; omega, ?_, fun q hq => hbm q (((mDel_sub m c.k).map _).subset hq)⟩, by dsimp only; omega⟩
          rw [his] at hg; exact hg
        · refine ⟨_, reads_load sc9 (by rw [cell_at v28]; rfl), _, reads_load sc9 (by rw [Addr.add_row, cell_at v28]; rfl), ?_⟩
          refine svc_mapUpdate (M := M56) (k := c.k) (v := c.n) hma28 fun h42 s42 u42 m42 => ?_
          rw [wrap_i64 (by omega) (by omega)]
          refine ⟨⟨k + 1, _, _, rfl, hlt, kk28.trans (u42.keep kk28.size fun i hi => by omega), m42, hl.put c.k c.n, by have := len_put m c.k c.n; omega, ?_, fun q hq => ((mKeys_put m c.k c.n q).1 hq).elim (fun e => e ▸ hck) (hbm q)⟩, by dsimp only; omega⟩
          rw [his] at hg; exact hg
    · have : k = n1 := by simp at hge; omega
      subst this
      rw [List.drop_eq_nil_of_le (by omega), applyL] at hg
      rw [← hg]
      refine (sorted_spec hS hma hl (by omega) hbm).mono ?_
      rintro v h44 ⟨k44, a, n, c, rfl, own⟩
      exact ⟨_, _, _, rfl, hkeep.trans (k44.mono hkeep.size), _, _, _, _, rfl, own.mono hkeep.size, rfl⟩
end Go.Proofs.Ytepnckpaknabpaa
