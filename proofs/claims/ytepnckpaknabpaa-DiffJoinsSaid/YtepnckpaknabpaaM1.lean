/-
  Contracts of merge's of, next, past, and of the comparisons of lists; odd of the laws of merge. Conditions: stated at each.
-/
import Derived.Test.YtepnckpaknabpaaD6
import Derived.Test.YtepnckpaknabpaaVcM
import Derived.Test.YtepnckpaknabpaaG4
set_option linter.unusedVariables false
namespace Go.Proofs.Ytepnckpaknabpaa
open Go Go.Vc Go.Proofs

/- of -/
noncomputable def M49 : Mk Try.prog 49 9 54 Str (Str × Bool) := strMk Try.prog 49 9 54 (Str × Bool) (fun v => .agg (Array.mk [.string v.1, .bool v.2])) (by kernel_rfl) (by kernel_rfl)
def putAll (xs : List Pr) (m : List (Str × (Str × Bool))) : List (Str × (Str × Bool)) := xs.foldl (fun m p => mPut m p.1 (p.2, true)) m
theorem putAll_get : ∀ (xs : List Pr) (m : List (Str × (Str × Bool))) (k : Str), Srt (ks xs) →
    (k ∈ ks xs → mGet (putAll xs m) k = some (entL xs k)) ∧ (k ∉ ks xs → mGet (putAll xs m) k = mGet m k)
  | [], m, k, _ => ⟨fun h => by simp [ks] at h, fun _ => rfl⟩
  | p :: xs, m, k, h => by
    have hp := List.pairwise_cons.1 (show Srt (p.1 :: ks xs) from h)
    have : putAll (p :: xs) m = putAll xs (mPut m p.1 (p.2, true)) := rfl
    rw [this]
    obtain ⟨i1, i2⟩ := putAll_get xs (mPut m p.1 (p.2, true)) k hp.2
    by_cases hk : p.1 = k
    · subst hk
      have : p.1 ∉ ks xs := above hp.1
      refine ⟨fun _ => ?_, fun hn => absurd (by simp [ks]) hn⟩
      rw [i2 this, mGet_put, if_pos rfl, ent_here]
    · have e : k ∈ ks (p :: xs) ↔ k ∈ ks xs := by simp only [ks, List.map_cons, List.mem_cons]; exact ⟨fun h => h.resolve_left (fun e => hk e.symm), .inr⟩
      refine ⟨fun hm => ?_, fun hn => ?_⟩
      · rw [i1 (e.1 hm), ent_past hk]
      · rw [i2 (fun hm => hn (e.2 hm)), mGet_put, if_neg hk]
theorem mlook {h : Heap} {r : Nat} {xs : List Pr} {k : Str} (hm : MapAt M49 h r (putAll xs [])) (hx : Srt (ks xs)) :
    Reads Try.prog (Instr.lookup 49 (.map (some r)) (.string k) false) h (.agg (Array.mk [.string (entL xs k).1, .bool (entL xs k).2])) := by
  have := (reads_lookup (k := k) (z := .agg (Array.mk [.string ⟨#[]⟩, .bool false])) hm (by kernel_rfl)).1
  obtain ⟨i1, i2⟩ := putAll_get xs [] k hx
  by_cases hk : k ∈ ks xs
  · rw [i1 hk] at this; exact this
  · rw [i2 hk] at this
    rw [ent_none hk]; exact this
theorem mof_spec {h : Heap} {A0 : Option Addr} {n0 c0 : Nat} {xs : List Pr} (hs : Sl PairE h A0 n0 xs) (hn : n0 ≤ 9223372036854775807) :
    HC Try.prog 30 #[.slice A0 n0 c0] h fun v h' => Keep h.size h h' ∧ v = .map (some h.size) ∧ MapAt M49 h' h.size (putAll xs []) := by
  refine HC_of_vc (args := [.slice A0 n0 c0]) (base := 21) (cuts := []) (bigs := []) hm Try.func30 ?_
  rw [vc30]
  refine ⟨fun n2 h3 => ∃ k : Nat, n2 = k ∧ k ≤ n0 ∧ Keep h.size h h3 ∧ MapAt M49 h3 h.size (putAll (xs.take k) []), fun n2 _ => n0 - n2.toNat,
    ⟨0, rfl, by omega, Keep.push _ _ _ (Nat.le_refl _), by simpa [putAll] using MapAt.new M49 h⟩, ?_⟩
  rintro n2 h3 ⟨k, rfl, hk, hkeep, hma⟩
  have hlt3 := hma.lt
  refine br_intro (fun hlt => ?_) (fun hge => ?_)
  · have hlt : k < n0 := by simpa using hlt
    obtain ⟨p, rfl, hx, c1, c2⟩ := pair_at hs hlt
    refine ⟨p, ⟨rfl, by omega, by omega⟩, _, _, pair_load (hkeep.cell_some c1) (hkeep.cell_some c2), ?_⟩
    refine svc_store_new (v := .agg _) sz38 rfl (one_str _ _) ?_
    refine ⟨_, reads_load sc9 (by rw [cell_push]; rfl), _, reads_load sc9 (by rw [Addr.add_row, cell_push]; rfl), ?_⟩
    have hk' := hkeep.of_push hkeep.size (Obj.cells #[.string xs[k].1, .string xs[k].2] 38)
    refine svc_mapUpdate (M := M49) (k := xs[k].1) (v := (xs[k].2, true)) (hma.keep (Keep.push _ _ _ (Nat.le_refl _))) fun h' hsz u hma' => ?_
    rw [wrap_i64 (by omega) (by omega)]
    refine ⟨⟨k + 1, rfl, hlt, hk'.trans (u.keep hk'.size fun i hi => by subst hi; exact Nat.le_refl _), ?_⟩, by dsimp only; omega⟩
    rw [List.take_succ_eq_append_getElem hx, putAll, List.foldl_append]
    exact hma'
  · have : k = n0 := by simp at hge; omega
    subst this
    rw [List.take_of_length_le (by rw [hs.1]; exact Nat.le_refl _)] at hma
    exact ⟨hkeep, rfl, hma⟩

/- next -/
def nxtL : List (List Pr) → Str → Bool → Str × Bool
  | [], s, b => (s, b)
  | [] :: L, s, b => nxtL L s b
  | (p :: _) :: L, s, b => if !b || lt p.1 s then nxtL L p.1 true else nxtL L s b
theorem nxtL_prop : ∀ (L : List (List Pr)) (s : Str) (b : Bool), ((nxtL L s b).2 = false → b = false ∧ ∀ l ∈ L, l = []) ∧
    ((nxtL L s b).2 = true → ((b = true ∧ (nxtL L s b).1 = s) ∨ ∃ l ∈ L, ∃ p l', l = p :: l' ∧ (nxtL L s b).1 = p.1) ∧ (b = true → lt s (nxtL L s b).1 = false) ∧
      ∀ l ∈ L, ∀ p l', l = p :: l' → lt p.1 (nxtL L s b).1 = false)
  | [], s, b => by
    refine ⟨fun h => ⟨h, by simp⟩, fun h => ⟨.inl ⟨h, rfl⟩, fun _ => lt_irrefl _, by simp⟩⟩
  | [] :: L, s, b => by
    obtain ⟨h1, h2⟩ := nxtL_prop L s b
    simp only [nxtL]
    refine ⟨fun h => ⟨(h1 h).1, fun l hl => (List.mem_cons.1 hl).elim id ((h1 h).2 l)⟩, fun h => ?_⟩
    obtain ⟨g1, g2, g3⟩ := h2 h
    refine ⟨g1.imp id fun ⟨l, hl, r⟩ => ⟨l, List.mem_cons_of_mem _ hl, r⟩, g2, fun l hl p l' e => ?_⟩
    rcases List.mem_cons.1 hl with rfl | hl
    · cases e
    · exact g3 l hl p l' e
  | (q :: t) :: L, s, b => by
    simp only [nxtL]
    split
    · rename_i hc
      obtain ⟨h1, h2⟩ := nxtL_prop L q.1 true
      refine ⟨fun h => (by have := (h1 h).1; cases this), fun h => ?_⟩
      obtain ⟨g1, g2, g3⟩ := h2 h
      have gq := g2 rfl
      refine ⟨.inr ?_, fun hb => ?_, fun l hl p l' e => ?_⟩
      · rcases g1 with ⟨_, e⟩ | ⟨l, hl, r⟩
        · exact ⟨_, List.mem_cons_self, q, t, rfl, e⟩
        · exact ⟨l, List.mem_cons_of_mem _ hl, r⟩
      · subst hb
        have hq : lt q.1 s = true := by simpa using hc
        cases hx : lt s (nxtL L q.1 true).1 with
        | false => rfl
        | true => rw [lt_trans hq hx] at gq; cases gq
      · rcases List.mem_cons.1 hl with rfl | hl
        · cases e; exact gq
        · exact g3 l hl p l' e
    · rename_i hc
      obtain ⟨h1, h2⟩ := nxtL_prop L s b
      have hb : b = true := by cases b <;> simp_all
      have hq : lt q.1 s = false := by subst hb; simpa using hc
      refine ⟨fun h => (by have := (h1 h).1; rw [hb] at this; cases this), fun h => ?_⟩
      obtain ⟨g1, g2, g3⟩ := h2 h
      refine ⟨g1.imp id fun ⟨l, hl, r⟩ => ⟨l, List.mem_cons_of_mem _ hl, r⟩, g2, fun l hl p l' e => ?_⟩
      rcases List.mem_cons.1 hl with rfl | hl
      · cases e
        cases hx : lt q.1 (nxtL L s b).1 with
        | false => rfl
        | true =>
          have g2' := g2 hb
          cases hy : lt (nxtL L s b).1 s with
          | true => rw [lt_trans hx hy] at hq; cases hq
          | false => rw [lt_total hy g2'] at hx; rw [hx] at hq; cases hq
      · exact g3 l hl p l' e

theorem next_spec {h : Heap} {A0 : Option Addr} {n0 c0 : Nat} {ds : List Sd} {L : List (List Pr)} (hs : Sl SliE h A0 n0 ds) (hL : Lists h ds L) (hn : n0 ≤ 9223372036854775807) :
    HC Try.prog 31 #[.slice A0 n0 c0] h fun v h' => Keep h.size h h' ∧ v = .tuple #[.string (nxtL L ⟨#[]⟩ false).1, .bool (nxtL L ⟨#[]⟩ false).2] := by
  refine HC_of_vc (args := [.slice A0 n0 c0]) (base := 36) (cuts := []) (bigs := []) hm Try.func31 ?_
  rw [vc31]
  have hnL : n0 = L.length := by rw [← hs.1, hL.1]
  refine ⟨fun s2 b3 n4 h5 => ∃ k : Nat, n4 = k ∧ k ≤ n0 ∧ Keep h.size h h5 ∧ nxtL (L.drop k) s2 b3 = nxtL L ⟨#[]⟩ false, fun _ _ n4 _ => n0 - n4.toNat, ⟨0, rfl, by omega, Keep.refl _ _, by simp⟩, ?_⟩
  rintro s2 b3 n4 h5 ⟨k, rfl, hk, hkeep, hg⟩
  refine br_intro (fun hlt => ?_) (fun hge => ?_)
  · have hlt : k < n0 := by simpa using hlt
    obtain ⟨p, rfl, hx, cc⟩ := sli_at hs hlt
    have hxL : k < L.length := by omega
    have hin := hL.2 k hx hxL
    rw [List.drop_eq_getElem_cons hxL] at hg
    refine ⟨p, ⟨rfl, by omega, by omega⟩, _, _, _, reads_load sc22 (hkeep.cell_some cc), ?_⟩
    rw [wrap_i64 (by omega) (by omega)]
    generalize hd : ds[k] = d at *
    generalize hl : L[k] = l at *
    have hlen := hin.1
    match l, hin, hlen, hg with
    | [], hin, hlen, hg =>
      have h0 : d.2.1 = 0 := by simpa using hlen.symm
      refine ⟨p, fun hc => by simp [h0] at hc, ⟨#[]⟩, fun hc => by simp [h0] at hc, ?_⟩
      refine br_intro (fun hc => by simp [h0] at hc) (fun _ => ?_)
      exact ⟨⟨k + 1, rfl, hlt, hkeep, hg⟩, by dsimp only; omega⟩
    | x :: l', hin, hlen, hg =>
      obtain ⟨q, e, hpos, d1, _⟩ := pair_head hin
      simp only [nxtL] at hg
      refine ⟨q, fun _ => ⟨e, by omega, by omega⟩, _, fun _ => reads_load sc9 (hkeep.cell_some d1), ?_⟩
      refine br_intro (fun hc => ?_) (fun hc => ?_)
      · have hc' : (!b3 || lt x.1 s2) = true := by simpa [hpos, lt] using hc
        rw [if_pos hc'] at hg
        refine ⟨q, ⟨e, by omega, by omega⟩, _, reads_load sc9 (hkeep.cell_some d1), ⟨k + 1, rfl, hlt, hkeep, hg⟩, by dsimp only; omega⟩
      · have hc' : ¬ (!b3 || lt x.1 s2) = true := by
          have : (!b3 || lt x.1 s2) = false := by simpa [hpos, lt] using hc
          rw [this]; simp
        rw [if_neg hc'] at hg
        exact ⟨⟨k + 1, rfl, hlt, hkeep, hg⟩, by dsimp only; omega⟩
  · have : k = n0 := by simp at hge; omega
    subst this
    rw [List.drop_eq_nil_of_le (by omega)] at hg
    rw [← hg]
    exact ⟨hkeep, rfl⟩

/- past -/
def pst : List Pr → Str → List Pr
  | [], _ => []
  | p :: l, k => if p.1.toList == k.toList then l else p :: l
theorem past_spec {h : Heap} {A0 : Option Addr} {n0 c0 : Nat} {s : Str} {xs : List Pr} (hs : Sl PairE h A0 n0 xs) (hc : n0 ≤ c0) :
    HC Try.prog 32 #[.slice A0 n0 c0, .string s] h fun v h' => h' = h ∧ ∃ a n c, v = .slice a n c ∧ n ≤ c ∧ ∀ g, Sl PairE g A0 n0 xs → Sl PairE g a n (pst xs s) := by
  refine HC_of_vc (args := [.slice A0 n0 c0, .string s]) (base := 19) (cuts := []) (bigs := []) hm Try.func32 ?_
  rw [vc32]
  have hlen := hs.1
  match xs, hs, hlen with
  | [], hs, hlen =>
    have h0 : n0 = 0 := by simpa using hlen.symm
    refine ⟨⟨0, 0, none⟩, fun hc => by simp [h0] at hc, ⟨#[]⟩, fun hc => by simp [h0] at hc, ?_⟩
    exact br_intro (fun hc => by simp [h0] at hc) (fun _ => ⟨rfl, _, _, _, rfl, hc, fun g hg => hg⟩)
  | x :: l, hs, hlen =>
    obtain ⟨q, e, hpos, d1, _⟩ := pair_head hs
    refine ⟨q, fun _ => ⟨e, by omega, by omega⟩, _, fun _ => reads_load sc9 d1, ?_⟩
    refine br_intro (fun hk => ?_) (fun hk => ?_)
    · have hk' : (x.1.toList == s.toList) = true := by simpa [hpos] using hk
      refine ⟨⟨by omega, by omega, by omega, by omega⟩, rfl, _, _, _, rfl, by omega, ?_⟩
      rw [pst, if_pos hk']
      exact fun g hg => hg.tail hc
    · have hk' : (x.1.toList == s.toList) = false := by simpa [hpos] using hk
      refine ⟨rfl, _, _, _, rfl, hc, ?_⟩
      rw [pst, if_neg (by rw [hk']; simp)]
      exact fun g hg => hg

/- the comparisons -/
theorem flat38 : Flat Try.prog 38 (Try.prog.fieldsOf 38) := ⟨by kernel_rfl, by kernel_rfl, by kernel_rfl⟩
theorem eq38 (x y : Pr) : eqFl Try.prog (PairE.enc x) (PairE.enc y) (Try.prog.fieldsOf 38).toList = some (x.1.toList == y.1.toList && (x.2.toList == y.2.toList && true)) := by kernel_rfl
theorem pr_beq {x y : Pr} : (x.1.toList == y.1.toList && (x.2.toList == y.2.toList && true)) = decide (x = y) := by
  rw [Bool.eq_iff_iff]
  simp only [Bool.and_eq_true, eq_beq, Bool.and_true, decide_eq_true_eq]
  exact ⟨fun ⟨a, b⟩ => Prod.ext a b, fun e => by subst e; exact ⟨rfl, rfl⟩⟩
theorem drop_eq {α : Type} [DecidableEq α] {xs ys : List α} {k : Nat} (h : k < xs.length) (h' : k < ys.length) : (xs.drop k = ys.drop k) ↔ (xs[k] = ys[k] ∧ xs.drop (k + 1) = ys.drop (k + 1)) := by
  rw [List.drop_eq_getElem_cons h, List.drop_eq_getElem_cons h', List.cons.injEq]
theorem same8_spec {h : Heap} {A0 A1 : Option Addr} {n0 c0 n1 c1 : Nat} {xs ys : List Pr} (h0 : Sl PairE h A0 n0 xs) (h1 : Sl PairE h A1 n1 ys) (hn : n0 ≤ 9223372036854775807) :
    HC Try.prog 22 #[.slice A0 n0 c0, .slice A1 n1 c1] h fun v h' => Keep h.size h h' ∧ v = .bool (decide (xs = ys)) := by
  refine HC_of_vc (args := [.slice A0 n0 c0, .slice A1 n1 c1]) (base := 26) (cuts := []) (bigs := []) hm Try.func22 ?_
  rw [vc22]
  have l0 := h0.1
  have l1 := h1.1
  refine br_intro (fun he => ?_) (fun he => ?_)
  · refine ⟨Keep.refl _ _, ?_⟩
    have : xs ≠ ys := fun e => by subst e; simp at he; omega
    simp [this]
  have hnn : n0 = n1 := by simp at he; omega
  subst hnn
  refine ⟨fun _ n3 h4 => ∃ k : Nat, n3 = k ∧ k ≤ n0 ∧ Keep h.size h h4 ∧ (xs = ys ↔ xs.drop k = ys.drop k), fun _ n3 _ => n0 - n3.toNat, ⟨0, rfl, by omega, Keep.refl _ _, by simp⟩, ?_⟩
  rintro b2 n3 h4 ⟨k, rfl, hk, hkeep, hg⟩
  refine br_intro (fun hlt => ?_) (fun hge => ?_)
  · have hlt : k < n0 := by simpa using hlt
    obtain ⟨p, rfl, hx, c1, c2⟩ := pair_at h0 hlt
    obtain ⟨q, rfl, hy, d1, d2⟩ := pair_at h1 hlt
    refine ⟨p, ⟨rfl, by omega, by omega⟩, _, _, pair_load (hkeep.cell_some c1) (hkeep.cell_some c2), q, ⟨rfl, by omega, by omega⟩, _, _, pair_load (hkeep.cell_some d1) (hkeep.cell_some d2), _,
      (reads_eq (xs := (PairE.enc xs[k]).toArray) (ys := (PairE.enc ys[k]).toArray) flat38 (eq38 _ _)).2, ?_⟩
    rw [pr_beq]
    rw [drop_eq hx hy] at hg
    refine br_intro (fun hne => ?_) (fun heq => ?_)
    · have : xs[k] ≠ ys[k] := by simpa using hne
      exact ⟨hkeep, by simp [hg, this]⟩
    · have : xs[k] = ys[k] := by simpa using heq
      rw [wrap_i64 (by omega) (by omega)]
      exact ⟨⟨k + 1, rfl, hlt, hkeep, by rw [hg]; simp [this]⟩, by dsimp only; omega⟩
  · have : k = n0 := by simp at hge; omega
    subst this
    rw [List.drop_eq_nil_of_le (by omega), List.drop_eq_nil_of_le (by omega)] at hg
    exact ⟨hkeep, by simp [hg]⟩
theorem same4_spec {h : Heap} {A0 A1 : Option Addr} {n0 c0 n1 c1 : Nat} {xs ys : List Str} (h0 : Sl StrE h A0 n0 xs) (h1 : Sl StrE h A1 n1 ys) (hn : n0 ≤ 9223372036854775807) :
    HC Try.prog 23 #[.slice A0 n0 c0, .slice A1 n1 c1] h fun v h' => Keep h.size h h' ∧ v = .bool (decide (xs = ys)) := by
  refine HC_of_vc (args := [.slice A0 n0 c0, .slice A1 n1 c1]) (base := 26) (cuts := []) (bigs := []) hm Try.func23 ?_
  rw [vc23]
  have l0 := h0.1
  have l1 := h1.1
  refine br_intro (fun he => ?_) (fun he => ?_)
  · refine ⟨Keep.refl _ _, ?_⟩
    have : xs ≠ ys := fun e => by subst e; simp at he; omega
    simp [this]
  have hnn : n0 = n1 := by simp at he; omega
  subst hnn
  refine ⟨fun _ n3 h4 => ∃ k : Nat, n3 = k ∧ k ≤ n0 ∧ Keep h.size h h4 ∧ (xs = ys ↔ xs.drop k = ys.drop k), fun _ n3 _ => n0 - n3.toNat, ⟨0, rfl, by omega, Keep.refl _ _, by simp⟩, ?_⟩
  rintro b2 n3 h4 ⟨k, rfl, hk, hkeep, hg⟩
  refine br_intro (fun hlt => ?_) (fun hge => ?_)
  · have hlt : k < n0 := by simpa using hlt
    obtain ⟨p, rfl, hx, c1⟩ := str_at h0 hlt
    obtain ⟨q, rfl, hy, d1⟩ := str_at h1 hlt
    refine ⟨p, ⟨rfl, by omega, by omega⟩, _, reads_load sc9 (hkeep.cell_some c1), q, ⟨rfl, by omega, by omega⟩, _, reads_load sc9 (hkeep.cell_some d1), ?_⟩
    rw [drop_eq hx hy] at hg
    refine br_intro (fun hne => ?_) (fun heq => ?_)
    · have : xs[k] ≠ ys[k] := fun e => by rw [e] at hne; simp at hne
      exact ⟨hkeep, by simp [hg, this]⟩
    · have : xs[k] = ys[k] := str_ext (by simpa using heq)
      rw [wrap_i64 (by omega) (by omega)]
      exact ⟨⟨k + 1, rfl, hlt, hkeep, by rw [hg]; simp [this]⟩, by dsimp only; omega⟩
  · have : k = n0 := by simp at hge; omega
    subst this
    rw [List.drop_eq_nil_of_le (by omega), List.drop_eq_nil_of_le (by omega)] at hg
    exact ⟨hkeep, by simp [hg]⟩

/- odd -/
theorem odd20_spec {h : Heap} {A0 : Option Addr} {n0 c0 : Nat} {xs : List Pr} (hs : Sl PairE h A0 n0 xs) (hn : n0 ≤ 9223372036854775807) :
    HC Try.prog 19 #[.slice A0 n0 c0] h fun v h' => Keep h.size h h' ∧ ∃ b, v = .bool b ∧ (b = false → n0 ≤ 300 ∧ riseL xs = true) := by
  refine HC_of_vc (args := [.slice A0 n0 c0]) (base := 30) (cuts := []) (bigs := []) hm Try.func19 ?_
  rw [vc19]
  refine br_intro (fun _ => ⟨Keep.refl _ _, true, rfl, fun h => by cases h⟩) (fun hle => ?_)
  have hle : n0 ≤ 300 := by simp at hle; omega
  refine ⟨fun _ _ n4 h5 => ∃ k : Nat, n4 = k ∧ k ≤ n0 ∧ Keep h.size h h5, fun _ _ n4 _ => n0 - n4.toNat, ⟨0, rfl, by omega, Keep.refl _ _⟩, ?_⟩
  rintro b2 n3 n4 h5 ⟨k, rfl, hk, hkeep⟩
  refine br_intro (fun hlt => ?_) (fun hge => ?_)
  · have hlt : k < n0 := by simpa using hlt
    obtain ⟨p, rfl, hx, c1, c2⟩ := pair_at hs hlt
    refine ⟨p, ⟨rfl, by omega, by omega⟩, _, _, pair_load (hkeep.cell_some c1) (hkeep.cell_some c2), ?_⟩
    refine svc_store_new (v := .agg _) sz38 rfl (one_str _ _) ?_
    refine ⟨_, reads_load sc9 (by rw [cell_push]; rfl), _, reads_load sc9 (by rw [Addr.add_row, cell_push]; rfl), ?_⟩
    have hk' := hkeep.of_push hkeep.size (Obj.cells #[.string xs[k].1, .string xs[k].2] 38)
    refine br_intro (fun _ => ⟨hk', true, rfl, fun h => by cases h⟩) (fun _ => ?_)
    rw [wrap_i64 (n := (k : Int) + 1) (by omega) (by omega)]
    exact ⟨⟨k + 1, rfl, hlt, hk'⟩, by dsimp only; omega⟩
  · refine (rises_spec (hs.keep hkeep) hn).mono ?_
    rintro v h6 ⟨k6, rfl⟩
    exact ⟨_, rfl, hkeep.trans (k6.mono hkeep.size), _, rfl, fun h => ⟨hle, by simpa using h⟩⟩
end Go.Proofs.Ytepnckpaknabpaa
