/-
  Contracts of the functions over lists of pairs: Entry, Rises, odd, Done. Conditions: stated at each.
-/
import Derived.Test.YtepnckpaknabpaaD1
set_option linter.unusedVariables false
namespace Go.Proofs.Ytepnckpaknabpaa
open Go Go.Vc Go.Proofs

/- Entry -/
def entL (xs : List Pr) (s : Str) : Str × Bool := match xs with
  | [] => (⟨#[]⟩, false)
  | p :: ps => if p.1.toList == s.toList then (p.2, true) else entL ps s
theorem getL_ent (s : Str) : ∀ (xs : List Pr) (k : Nat), (getL xs s k = -1 ∧ entL xs s = (⟨#[]⟩, false)) ∨ ∃ i : Nat, ∃ hi : i < xs.length, getL xs s k = (k + i : Nat) ∧ entL xs s = (xs[i].2, true)
  | [], k => .inl ⟨rfl, rfl⟩
  | p :: ps, k => by
    unfold getL entL
    cases h : p.1.toList == s.toList with
    | true => exact .inr ⟨0, by simp, by simp, by simp⟩
    | false =>
      simp only [Bool.false_eq_true, if_false]
      rcases getL_ent s ps (k + 1) with ⟨h1, h2⟩ | ⟨i, hi, h1, h2⟩
      · exact .inl ⟨h1, h2⟩
      · exact .inr ⟨i + 1, by simp; omega, by rw [show (k : Int) + 1 = ((k + 1 : Nat) : Int) by simp, h1]; omega, by simpa using h2⟩
theorem entry_spec {h : Heap} {A0 : Option Addr} {n0 c0 : Nat} {s : Str} {xs : List Pr} (hs : Sl PairE h A0 n0 xs) (hn : n0 ≤ 9223372036854775807) :
    HC Try.prog 24 #[.slice A0 n0 c0, .string s] h fun v h' => Keep h.size h h' ∧ v = .tuple #[.string (entL xs s).1, .bool (entL xs s).2] := by
  refine HC_of_vc (args := [.slice A0 n0 c0, .string s]) (base := 17) (cuts := []) (bigs := []) hm Try.func24 ?_
  rw [vc24]
  refine (get_spec hs hn).mono ?_
  rintro v h1 ⟨hk, rfl⟩
  refine ⟨_, rfl, ?_⟩
  rcases getL_ent s xs 0 with ⟨h1, h2⟩ | ⟨i, hi, h1, h2⟩
  · rw [show (0 : Int) = ((0 : Nat) : Int) from rfl, h1, h2]
    exact ⟨hk, rfl⟩
  · rw [show (0 : Int) = ((0 : Nat) : Int) from rfl, h1, h2]
    refine br_intro (fun hlt => absurd (of_decide_eq_true hlt) (by omega)) (fun _ => ?_)
    have hin : i < n0 := by rw [← hs.1]; exact hi
    obtain ⟨p, rfl, hx, c1, c2⟩ := pair_at hs hin
    refine ⟨p, ⟨rfl, by omega, by omega⟩, _, reads_load sc9 ?_, hk, rfl⟩
    rw [Addr.add_add]
    simpa using hk.cell_some c2

/- Rises -/
abbrev lt (a b : Str) : Bool := Op.bytesLess a.toList b.toList
def riseL : List Pr → Bool
  | a :: b :: r => lt a.1 b.1 && riseL (b :: r)
  | _ => true
theorem rise_step {xs : List Pr} {k : Nat} (h0 : 0 < k) (hk : k < xs.length) : riseL (xs.drop (k - 1)) = (lt (xs[k - 1]'(by omega)).1 xs[k].1 && riseL (xs.drop k)) := by
  rw [List.drop_eq_getElem_cons (show k - 1 < xs.length by omega), show k - 1 + 1 = k by omega, List.drop_eq_getElem_cons hk, riseL]
theorem rises_spec {h : Heap} {A0 : Option Addr} {n0 c0 : Nat} {xs : List Pr} (hs : Sl PairE h A0 n0 xs) (hn : n0 ≤ 9223372036854775807) :
    HC Try.prog 28 #[.slice A0 n0 c0] h fun v h' => Keep h.size h h' ∧ v = .bool (riseL xs) := by
  refine HC_of_vc (args := [.slice A0 n0 c0]) (base := 26) (cuts := []) (bigs := []) hm Try.func28 ?_
  rw [vc28]
  refine ⟨fun _ n3 h4 => ∃ k : Nat, n3 = k ∧ k ≤ n0 ∧ Keep h.size h h4 ∧ riseL xs = riseL (xs.drop (k - 1)), fun _ n3 _ => n0 - n3.toNat, ⟨0, rfl, by omega, Keep.refl _ _, by simp⟩, ?_⟩
  rintro b2 n3 h4 ⟨k, rfl, hk, hkeep, hg⟩
  refine br_intro (fun hlt => ?_) (fun hge => ?_)
  · have hlt : k < n0 := by simpa using hlt
    by_cases h0 : 0 < k
    · have hw : IntKind.i64.wrap ((k : Int) - 1) = ((k - 1 : Nat) : Int) := by rw [wrap_i64 (by omega) (by omega)]; omega
      rw [hw]
      obtain ⟨p, rfl, hx1, c1, _⟩ := pair_at hs (show k - 1 < n0 by omega)
      obtain ⟨q, e, hx, c2, _⟩ := pair_at hs hlt
      cases e
      refine ⟨p, fun _ => ⟨rfl, by omega, by omega⟩, _, fun _ => reads_load sc9 (hkeep.cell_some c1), p, fun _ => ⟨rfl, by omega, by omega⟩, _, fun _ => reads_load sc9 (hkeep.cell_some c2), ?_⟩
      rw [rise_step h0 hx] at hg
      refine br_intro (fun he => ?_) (fun he => ?_)
      · simp [h0] at he
        exact ⟨hkeep, by rw [hg]; simp [lt, he]⟩
      · simp [h0] at he
        rw [wrap_i64 (by omega) (by omega)]
        exact ⟨⟨k + 1, rfl, hlt, hkeep, by rw [hg]; simp [lt, he]⟩, by dsimp only; omega⟩
    · have h0' : k = 0 := by omega
      subst h0'
      obtain ⟨p, rfl, hx1, c1, _⟩ := pair_at hs hlt
      refine ⟨p, fun hh => absurd (of_decide_eq_true hh) (by simp), ⟨#[]⟩, fun hh => absurd (of_decide_eq_true hh) (by simp), p, fun hh => absurd (of_decide_eq_true hh) (by simp), ⟨#[]⟩, fun hh => absurd (of_decide_eq_true hh) (by simp), ?_⟩
      refine br_intro (fun he => by simp at he) (fun he => ?_)
      exact ⟨⟨1, rfl, hlt, hkeep, by simp⟩, by dsimp only; rw [wrap_i64 (by omega) (by omega)]; omega⟩
  · have : k = n0 := by simp at hge; omega
    subst this
    refine ⟨hkeep, ?_⟩
    rw [hg]
    have : (xs.drop (k - 1)).length ≤ 1 := by rw [List.length_drop, hs.1]; omega
    match hd : xs.drop (k - 1), this with
    | [], _ => rfl
    | [_], _ => rfl
    | _ :: _ :: _, h => simp at h

/- odd -/
theorem odd_spec {h : Heap} {A0 : Option Addr} {n0 c0 : Nat} {xs : List Pr} (hs : Sl PairE h A0 n0 xs) (hn : n0 ≤ 9223372036854775807) :
    HC Try.prog 14 #[.slice A0 n0 c0] h fun v h' => Keep h.size h h' ∧ ∃ b, v = .bool b ∧ (b = false → n0 ≤ 300 ∧ riseL xs = true) := by
  refine HC_of_vc (args := [.slice A0 n0 c0]) (base := 30) (cuts := []) (bigs := []) hm Try.func14 ?_
  rw [vc14]
  refine br_intro (fun _ => ⟨Keep.refl _ _, true, rfl, fun h => by cases h⟩) (fun hle => ?_)
  have hle : n0 ≤ 300 := by simp at hle; omega
  refine ⟨fun _ _ n4 h5 => ∃ k : Nat, n4 = k ∧ k ≤ n0 ∧ Keep h.size h h5, fun _ _ n4 _ => n0 - n4.toNat, ⟨0, rfl, by omega, Keep.refl _ _⟩, ?_⟩
  rintro b2 n3 n4 h5 ⟨k, rfl, hk, hkeep⟩
  refine br_intro (fun hlt => ?_) (fun hge => ?_)
  · have hlt : k < n0 := by simpa using hlt
    obtain ⟨p, rfl, hx, c1, c2⟩ := pair_at hs hlt
    refine ⟨p, ⟨rfl, by omega, by omega⟩, _, _, pair_load (hkeep.cell_some c1) (hkeep.cell_some c2), ?_⟩
    refine svc_store_new (v := .agg _) sz38 rfl (one_str _ _) ?_
    refine ⟨_, reads_load sc9 (by rw [cell_push]; rfl), _, reads_load sc9 (by rw [Addr.add_row, cell_push]; rfl), ?_⟩
    have hk' := hkeep.of_push hkeep.size (Obj.cells #[.string xs[k].1, .string xs[k].2] 38)
    refine br_intro (fun _ => ⟨hk', true, rfl, fun h => by cases h⟩) (fun _ => ?_)
    rw [wrap_i64 (n := (k : Int) + 1) (by omega) (by omega)]
    exact ⟨⟨k + 1, rfl, hlt, hk'⟩, by dsimp only; omega⟩
  · refine (rises_spec (hs.keep hkeep) hn).mono ?_
    rintro v h6 ⟨k6, rfl⟩
    exact ⟨_, rfl, hkeep.trans (k6.mono hkeep.size), _, rfl, fun h => ⟨hle, by simpa using h⟩⟩

/- Done -/
def ge (a b : Str) : Bool := !lt a b
def doneGo (k v : Str) : List Pr → Bool → List Pr
  | [], d => if d then [] else [(k, v)]
  | p :: ps, d => (if !d && ge p.1 k then [(k, v)] else []) ++ ((if p.1.toList == k.toList then [] else [p]) ++ doneGo k v ps (d || ge p.1 k))
theorem app22 : App Try.prog 22 38 PairE.sz 32 (.agg #[.string ⟨#[]⟩, .string ⟨#[]⟩]) := ⟨by kernel_rfl, by kernel_rfl, by kernel_rfl, by kernel_rfl, rfl, by decide, by decide⟩
theorem bs22 (x y : Str) : bsCells Try.prog 22 1 [(0, .agg (Array.mk [.string x, .string y]))] = some (38, PairE.enc (x, y)) := by kernel_rfl

theorem done_spec {h : Heap} {A0 : Option Addr} {n0 c0 : Nat} {s0 s1 : Str} {b : Bool} {xs : List Pr} (hs : Sl PairE h A0 n0 xs) (hn : n0 ≤ 1073741824) :
    HC Try.prog 35 #[.slice A0 n0 c0, .agg #[.string s0, .string s1, .bool b]] h fun v h' => Keep h.size h h' ∧ ∃ a c, v = .slice a (doneGo s0 s1 xs b).length c ∧ (doneGo s0 s1 xs b).length ≤ c ∧ Sl PairE h' a (doneGo s0 s1 xs b).length (doneGo s0 s1 xs b) := by
  refine HC_of_vc (args := [.slice A0 n0 c0, .agg #[.string s0, .string s1, .bool b]]) (base := 55) (cuts := []) (bigs := []) hm Try.func35 ?_
  rw [vc35]
  have box0 : (h.push (Obj.cells (Array.mk [Value.string s0, Value.string s1, Value.bool b]) 60))[h.size]? = some (.cells (Array.mk [Value.string s0, Value.string s1, Value.bool b]) 60 (0, 0)) := push_at _ _
  have sc4 : scT Try.prog 4 = true := by kernel_rfl
  refine ⟨b, reads_load sc4 (by rw [Addr.add_row, cell_push]; rfl), ?_⟩
  refine ⟨fun a3 k4 k5 b6 n7 h8 => ∃ (k : Nat) (out : List Pr), n7 = k ∧ k ≤ n0 ∧ Keep h.size h h8 ∧ h8[h.size]? = some (.cells (Array.mk [Value.string s0, Value.string s1, Value.bool b]) 60 (0, 0)) ∧
      Own PairE 38 (h.size + 1) h8 a3 k4 k5 out ∧ k4 ≤ 2 * k ∧ out ++ doneGo s0 s1 (xs.drop k) b6 = doneGo s0 s1 xs b,
    fun _ _ _ _ n7 _ => n0 - n7.toNat, ⟨0, [], rfl, by omega, Keep.push _ _ _ (Nat.le_refl _), box0, Own.nil _ _ _, by omega, by simp⟩, ?_⟩
  rintro a3 k4 k5 b6 n7 h8 ⟨k, out, rfl, hk, hkeep, hbox, hown, hk4, hg⟩
  have hsz8 := at_lt hbox
  refine br_intro (fun hlt => ?_) (fun hge => ?_)
  · have hlt : k < n0 := by simpa using hlt
    obtain ⟨p, rfl, hx, c1, c2⟩ := pair_at hs hlt
    refine ⟨p, ⟨rfl, by omega, by omega⟩, _, _, pair_load (hkeep.cell_some c1) (hkeep.cell_some c2), ?_⟩
    refine svc_store_new (v := .agg _) sz38 rfl (one_str _ _) ?_
    rw [List.drop_eq_getElem_cons hx, doneGo] at hg
    generalize hq : xs[k] = q at *
    have u8 := (Upd.refl (blk a3) h8).push (Obj.cells #[.string q.1, .string q.2] 38)
    have notA : ∀ i, i < h.size + 1 → ¬ blk a3 i := fun i hi hb => by have := (hown.block i hb).1; omega
    have hk13 := hkeep.of_push hkeep.size (Obj.cells #[.string q.1, .string q.2] 38)
    have box13 : (h8.push (Obj.cells #[.string q.1, .string q.2] 38))[h.size]? = _ := (push_old _ _ hsz8).trans hbox
    have var13 : (h8.push (Obj.cells #[.string q.1, .string q.2] 38))[h8.size]? = some (.cells #[.string q.1, .string q.2] 38 (0, 0)) := push_at _ _
    have own13 : Own PairE 38 (h.size + 1) (h8.push (Obj.cells #[.string q.1, .string q.2] 38)) a3 k4 k5 out :=
      hown.upd (S := fun _ => False) ⟨by simp, fun i hi _ => push_old _ _ hi⟩ (fun _ _ h => h)
    have rd : ∀ {h' : Heap} {o : Nat} {v : Value}, h'[h8.size]? = some (.cells #[.string q.1, .string q.2] 38 (0, 0)) → (#[Value.string q.1, Value.string q.2])[o]? = some v →
        cell h' ((Addr.mk h8.size 0 none).add o) = some v := fun hb hv => by rw [Addr.add_row, cell_at hb]; simpa using hv
    have rb : ∀ {h' : Heap} {o : Nat} {v : Value}, h'[h.size]? = some (.cells (Array.mk [Value.string s0, Value.string s1, Value.bool b]) 60 (0, 0)) → (#[Value.string s0, Value.string s1, Value.bool b])[o]? = some v →
        cell h' ((Addr.mk h.size 0 none).add o) = some v := fun hb hv => by rw [Addr.add_row, cell_at hb]; simpa using hv
    -- what stands behind the first if
    have tail : ∀ (a : Option Addr) (n c : Nat) (h' : Heap) (out' : List Pr) (d : Bool), Own PairE 38 (h.size + 1) h' a n c out' → Keep h.size h h' →
        h'[h.size]? = some (.cells (Array.mk [Value.string s0, Value.string s1, Value.bool b]) 60 (0, 0)) → n ≤ 2 * (k + 1) → out' ++ doneGo s0 s1 (xs.drop (k + 1)) d = doneGo s0 s1 xs b →
        (∃ (k_1 : Nat) (out : List Pr), IntKind.i64.wrap ((k : Int) + 1) = (k_1 : Int) ∧ k_1 ≤ n0 ∧ Keep h.size h h' ∧ h'[h.size]? = some (.cells (Array.mk [Value.string s0, Value.string s1, Value.bool b]) 60 (0, 0)) ∧
          Own PairE 38 (h.size + 1) h' a n c out ∧ n ≤ 2 * k_1 ∧ out ++ doneGo s0 s1 (xs.drop k_1) d = doneGo s0 s1 xs b) ∧ n0 - (IntKind.i64.wrap ((k : Int) + 1)).toNat < n0 - ((k : Int)).toNat := by
      intro a n c h' out' d o1 o2 o3 o4 o5
      rw [wrap_i64 (by omega) (by omega)]
      exact ⟨⟨k + 1, out', rfl, hlt, o2, o3, o1, o4, o5⟩, by omega⟩
    refine ⟨_, fun _ => reads_load sc9 (rd (o := 0) var13 rfl), _, fun _ => reads_load sc9 (rb (o := 0) box13 rfl), ?_⟩
    refine br_intro (fun hc => ?_) (fun hc => ?_)
    · refine ⟨_, reads_load sc9 (rb (o := 0) box13 rfl), _, reads_load sc9 (rb (o := 1) box13 rfl), ?_⟩
      refine svc_append1 (x := (s0, s1)) app22 own13 (by simp; omega) (bs22 _ _) (by omega) fun a1 c1' h24 own24 u24 b24 => ?_
      have box24 := u24.at box13 (notA _ (by omega))
      have var24 := u24.at var13 (fun hb => by have := (hown.block _ hb).2; omega)
      have k24 : Keep h.size h h24 := hk13.trans (u24.keep hk13.size (fun i hb => by have := (hown.block i hb).1; omega))
      have hb6 : b6 = false ∧ ge q.1 s0 = true := by simpa [ge, lt] using hc
      refine ⟨_, reads_load sc9 (rd (o := 0) var24 rfl), _, reads_load sc9 (rb (o := 0) box24 rfl), ?_⟩
      rw [hb6.1, hb6.2] at hg
      refine br_intro (fun he => ?_) (fun he => ?_)
      · refine ⟨_, _, pair_load (k := 0) (p := Addr.mk h8.size 0 none) (rd (o := 0) var24 rfl) (rd (o := 1) var24 rfl), ?_⟩
        refine svc_append1 (x := q) app22 own24 (by have := u24.size; simp at this; omega) (bs22 _ _) (by omega) fun a2 c2' h38 own38 u38 b38 => ?_
        have nb : ∀ i, blk a1 i → h.size + 1 ≤ i := fun i hb => (own24.block i hb).1
        refine tail _ _ _ _ _ _ own38 (k24.trans (u38.keep k24.size (fun i hb => by have := nb i hb; omega))) (u38.at box24 (fun hb => by have := nb _ hb; omega)) (by omega) ?_
        rw [← hg]; simp at he; simp [he]
      · refine tail _ _ _ _ _ _ own24 k24 box24 (by omega) ?_
        rw [← hg]; simp at he; simp [he]
    · have hd : (!b6 && ge q.1 s0) = false := by simpa [ge, lt] using hc
      refine ⟨_, reads_load sc9 (rd (o := 0) var13 rfl), _, reads_load sc9 (rb (o := 0) box13 rfl), ?_⟩
      have hb6 : (b6 || ge q.1 s0) = b6 := by cases b6 <;> simp_all
      rw [hd, hb6] at hg
      refine br_intro (fun he => ?_) (fun he => ?_)
      · refine ⟨_, _, pair_load (k := 0) (p := Addr.mk h8.size 0 none) (rd (o := 0) var13 rfl) (rd (o := 1) var13 rfl), ?_⟩
        refine svc_append1 (x := q) app22 own13 (by simp; omega) (bs22 _ _) (by omega) fun a2 c2' h38 own38 u38 b38 => ?_
        refine tail _ _ _ _ _ _ own38 (hk13.trans (u38.keep hk13.size (fun i hb => by have := (hown.block i hb).1; omega))) (u38.at box13 (notA _ (by omega))) (by omega) ?_
        rw [← hg]; simp at he; simp [he]
      · refine tail _ _ _ _ _ _ own13 hk13 box13 (by omega) ?_
        rw [← hg]; simp at he; simp [he]
  · have : k = n0 := by simp at hge; omega
    subst this
    rw [List.drop_eq_nil_of_le (by rw [hs.1]; exact Nat.le_refl _), doneGo] at hg
    have fin : ∀ (a : Option Addr) (n c : Nat) (h' : Heap), Own PairE 38 (h.size + 1) h' a n c (doneGo s0 s1 xs b) → Keep h.size h h' →
        Keep h.size h h' ∧ ∃ a_1 c_1, Value.slice a n c = .slice a_1 (doneGo s0 s1 xs b).length c_1 ∧ (doneGo s0 s1 xs b).length ≤ c_1 ∧ Sl PairE h' a_1 (doneGo s0 s1 xs b).length (doneGo s0 s1 xs b) := by
      intro a n c h' o1 o2
      have := o1.1
      subst this
      exact ⟨o2, a, c, rfl, o1.2.1, o1.sl⟩
    refine br_intro (fun hc => ?_) (fun hc => ?_)
    · have hb6 : b6 = false := by simpa using hc
      rw [hb6] at hg
      have rb : ∀ {o : Nat} {v : Value}, (#[Value.string s0, Value.string s1, Value.bool b])[o]? = some v → cell h8 ((Addr.mk h.size 0 none).add o) = some v := fun hv => by rw [Addr.add_row, cell_at hbox]; simpa using hv
      refine ⟨_, reads_load sc9 (rb (o := 0) rfl), _, reads_load sc9 (rb (o := 1) rfl), ?_⟩
      refine svc_append1 (x := (s0, s1)) app22 hown (by omega) (bs22 _ _) (by omega) fun a1 c1' h24 own24 u24 b24 => ?_
      have e : out ++ [(s0, s1)] = doneGo s0 s1 xs b := by rw [← hg]; rfl
      rw [e] at own24
      exact fin _ _ _ _ own24 (hkeep.trans (u24.keep hkeep.size (fun i hb => by have := (hown.block i hb).1; omega)))
    · have hb6 : b6 = true := by simpa using hc
      rw [hb6] at hg
      simp at hg
      subst hg
      exact fin _ _ _ _ hown hkeep
end Go.Proofs.Ytepnckpaknabpaa
