/-
  Contracts of diff.Of and of the comparison of two lists of changes. Conditions: stated at each.
-/
import Derived.Test.YtepnckpaknabpaaD2
set_option linter.unusedVariables false
namespace Go.Proofs.Ytepnckpaknabpaa
open Go Go.Vc Go.Proofs

structure Chg where
  k : Str
  o : Str
  n : Str
  was : Bool
  is_ : Bool
def ChangeE : Enc Chg := ⟨5, fun c => [.string c.k, .string c.o, .string c.n, .bool c.was, .bool c.is_], fun _ => rfl, fun p v h => by
  simp at h; rcases h with rfl | rfl | rfl | rfl | rfl <;> first | exact one_string _ | exact one_bool _⟩
theorem ag40 : agT Try.prog 40 5 = true := by kernel_rfl
theorem sz40 : szOf Try.prog 40 = some 5 := by kernel_rfl
theorem flat40 : Flat Try.prog 40 (Try.prog.fieldsOf 40) := ⟨by kernel_rfl, by kernel_rfl, by kernel_rfl⟩
theorem eq40 (x y : Chg) : eqFl Try.prog (ChangeE.enc x) (ChangeE.enc y) (Try.prog.fieldsOf 40).toList =
    some (x.k.toList == y.k.toList && (x.o.toList == y.o.toList && (x.n.toList == y.n.toList && (x.was == y.was && (x.is_ == y.is_ && true))))) := by kernel_rfl

theorem chg_load {h : Heap} {p : Addr} {k : Nat} {x : Chg} (hp : ∀ j v, (ChangeE.enc x)[j]? = some v → cell h (p.add (k + j)) = some v) :
    Reads Try.prog (Instr.loadAt 40 (.pointer (some (p.add k)))) h (.agg (Array.mk [.string x.k, .string x.o, .string x.n, .bool x.was, .bool x.is_])) :=
  reads_load_agg (cs := ChangeE.enc x) ag40 rfl fun j v hv => by rw [Addr.add_add]; exact hp j v hv
theorem chg_at {h : Heap} {a : Option Addr} {n : Nat} {xs : List Chg} (hs : Sl ChangeE h a n xs) {i : Nat} (hi : i < n) :
    ∃ p, a = some p ∧ ∃ hx : i < xs.length, ∀ j v, (ChangeE.enc xs[i])[j]? = some v → cell h (p.add (i * 5 + j)) = some v := by
  have hx : i < xs.length := by rw [hs.1]; exact hi
  obtain ⟨p, e, hp⟩ := hs.get (List.getElem?_eq_getElem hx)
  exact ⟨p, e, hx, hp⟩

theorem same_spec {h : Heap} {A0 A1 : Option Addr} {n0 c0 c1 : Nat} {xs : List Chg} (h0 : Sl ChangeE h A0 n0 xs) (h1 : Sl ChangeE h A1 n0 xs) (hn : n0 ≤ 9223372036854775807) :
    HC Try.prog 15 #[.slice A0 n0 c0, .slice A1 n0 c1] h fun v h' => Keep h.size h h' ∧ v = .bool true := by
  refine HC_of_vc (args := [.slice A0 n0 c0, .slice A1 n0 c1]) (base := 26) (cuts := []) (bigs := []) hm Try.func15 ?_
  rw [vc15]
  refine br_intro (fun he => by simp at he) (fun _ => ?_)
  refine ⟨fun _ n3 h4 => ∃ k : Nat, n3 = k ∧ k ≤ n0 ∧ Keep h.size h h4, fun _ n3 _ => n0 - n3.toNat, ⟨0, rfl, by omega, Keep.refl _ _⟩, ?_⟩
  rintro b2 n3 h4 ⟨k, rfl, hk, hkeep⟩
  refine br_intro (fun hlt => ?_) (fun hge => ⟨hkeep, rfl⟩)
  have hlt : k < n0 := by simpa using hlt
  obtain ⟨p, rfl, hx, c1⟩ := chg_at h0 hlt
  obtain ⟨q, rfl, _, c2⟩ := chg_at h1 hlt
  refine ⟨p, ⟨rfl, by omega, by omega⟩, _, _, _, _, _, chg_load (x := xs[k]) (fun j v hv => hkeep.cell_some (c1 j v hv)), q, ⟨rfl, by omega, by omega⟩, _, _, _, _, _,
    chg_load (x := xs[k]) (fun j v hv => hkeep.cell_some (c2 j v hv)), _, (reads_eq (xs := (ChangeE.enc xs[k]).toArray) (ys := (ChangeE.enc xs[k]).toArray) flat40 (eq40 _ _)).2, ?_⟩
  refine br_intro (fun he => by simp at he) (fun _ => ?_)
  rw [wrap_i64 (by omega) (by omega)]
  exact ⟨⟨k + 1, rfl, hlt, hkeep⟩, by dsimp only; omega⟩

/- diff.Of -/
def ofL : List Pr → List Pr → List Chg
  | [], [] => []
  | a :: us, [] => ⟨a.1, a.2, ⟨#[]⟩, true, false⟩ :: ofL us []
  | [], b :: bs => ⟨b.1, ⟨#[]⟩, b.2, false, true⟩ :: ofL [] bs
  | a :: us, b :: bs =>
    if lt a.1 b.1 then ⟨a.1, a.2, ⟨#[]⟩, true, false⟩ :: ofL us (b :: bs)
    else if lt b.1 a.1 then ⟨b.1, ⟨#[]⟩, b.2, false, true⟩ :: ofL (a :: us) bs
    else (if a.2.toList == b.2.toList then [] else [⟨a.1, a.2, b.2, true, true⟩]) ++ ofL us bs
termination_by us bs => us.length + bs.length
theorem app26 : App Try.prog 26 40 ChangeE.sz 56 (.agg #[.string ⟨#[]⟩, .string ⟨#[]⟩, .string ⟨#[]⟩, .bool false, .bool false]) := ⟨by kernel_rfl, by kernel_rfl, by kernel_rfl, by kernel_rfl, rfl, by decide, by decide⟩
theorem bs26 (x : Chg) : bsCells Try.prog 26 1 [(0, .agg (Array.mk [.string x.k, .string x.o, .string x.n, .bool x.was, .bool x.is_]))] = some (40, ChangeE.enc x) := by kernel_rfl

theorem pair_head {h : Heap} {a : Option Addr} {n : Nat} {x : Pr} {xs : List Pr} (hs : Sl PairE h a n (x :: xs)) :
    ∃ p, a = some p ∧ 0 < n ∧ cell h p = some (.string x.1) ∧ cell h (p.add 1) = some (.string x.2) := by
  obtain ⟨p, e, hp⟩ := hs.head
  refine ⟨p, e, by have := hs.1; simp at this; omega, ?_, hp 1 _ rfl⟩
  have := hp 0 _ rfl
  rwa [Addr.add_zero] at this

theorem of_spec {h : Heap} {A0 A1 : Option Addr} {n0 c0 n1 c1 : Nat} {xs ys : List Pr} (h0 : Sl PairE h A0 n0 xs) (h1 : Sl PairE h A1 n1 ys) (hc0 : n0 ≤ c0) (hc1 : n1 ≤ c1) (hn0 : n0 ≤ 1073741824) (hn1 : n1 ≤ 1073741824) :
    HC Try.prog 16 #[.slice A0 n0 c0, .slice A1 n1 c1] h fun v h' => Keep h.size h h' ∧ ∃ a c, v = .slice a (ofL xs ys).length c ∧ (ofL xs ys).length ≤ c ∧ Sl ChangeE h' a (ofL xs ys).length (ofL xs ys) := by
  refine HC_of_vc (args := [.slice A0 n0 c0, .slice A1 n1 c1]) (base := 107) (cuts := []) (bigs := []) hm Try.func16 ?_
  rw [vc16]
  refine ⟨fun a2 k3 k4 a5 k6 k7 a8 k9 k10 h11 => ∃ us bs out, Sl PairE h a2 k3 us ∧ k3 ≤ k4 ∧ Sl PairE h a5 k6 bs ∧ k6 ≤ k7 ∧ k3 ≤ n0 ∧ k6 ≤ n1 ∧ k9 + k3 + k6 ≤ n0 + n1 ∧ Keep h.size h h11 ∧
      Own ChangeE 40 h.size h11 a8 k9 k10 out ∧ out ++ ofL us bs = ofL xs ys,
    fun _ k3 _ _ k6 _ _ _ _ _ => k3 + k6, ⟨xs, ys, [], h0, hc0, h1, hc1, by omega, by omega, by omega, Keep.refl _ _, Own.nil _ _ _, rfl⟩, ?_⟩
  rintro a2 k3 k4 a5 k6 k7 a8 k9 k10 h11 ⟨us, bs, out, sa, l1, sb, l2, m1, m2, m3, hk, own, hg⟩
  have la := sa.1
  have lb := sb.1
  have fin : ∀ (a : Option Addr) (n c : Nat) (h' : Heap), Own ChangeE 40 h.size h' a n c (ofL xs ys) → Keep h.size h h' →
      Keep h.size h h' ∧ ∃ a_1 c_1, Value.slice a n c = .slice a_1 (ofL xs ys).length c_1 ∧ (ofL xs ys).length ≤ c_1 ∧ Sl ChangeE h' a_1 (ofL xs ys).length (ofL xs ys) := by
    intro a n c h' o1 o2
    have := o1.1
    subst this
    exact ⟨o2, a, c, rfl, o1.2.1, o1.sl⟩
  have nb : ∀ i, blk a8 i → h.size ≤ i := fun i hi => (own.block i hi).1
  have kp : ∀ {h' : Heap}, Upd (blk a8) h11 h' → Keep h.size h h' := fun u => hk.trans (u.keep hk.size nb)
  -- one element more, and a head less
  have takeA : ∀ (x : Pr) (us' : List Pr) (c : Chg) (rest : List Chg), us = x :: us' → ofL us bs = c :: rest → rest = ofL us' bs → ∀ a' c' h', Own ChangeE 40 h.size h' a' (k9 + 1) c' (out ++ [c]) → Upd (blk a8) h11 h' →
      (∃ us_1 bs_1 out_1, Sl PairE h (subA a2 1 k4 2) (k3 - 1) us_1 ∧ k3 - 1 ≤ k4 - 1 ∧ Sl PairE h a5 k6 bs_1 ∧ k6 ≤ k7 ∧ k3 - 1 ≤ n0 ∧ k6 ≤ n1 ∧ k9 + 1 + (k3 - 1) + k6 ≤ n0 + n1 ∧ Keep h.size h h' ∧
        Own ChangeE 40 h.size h' a' (k9 + 1) c' out_1 ∧ out_1 ++ ofL us_1 bs_1 = ofL xs ys) ∧ k3 - 1 + k6 < k3 + k6 := by
    intro x us' c rest e1 e2 e3 a' c' h' o' u'
    subst e1
    simp only [List.length_cons] at la
    exact ⟨⟨us', bs, out ++ [c], sa.tail l1, by omega, sb, l2, by omega, m2, by omega, kp u', o', by rw [← hg, e2, e3]; simp⟩, by omega⟩
  have takeB : ∀ (x : Pr) (bs' : List Pr) (c : Chg) (rest : List Chg), bs = x :: bs' → ofL us bs = c :: rest → rest = ofL us bs' → ∀ a' c' h', Own ChangeE 40 h.size h' a' (k9 + 1) c' (out ++ [c]) → Upd (blk a8) h11 h' →
      (∃ us_1 bs_1 out_1, Sl PairE h a2 k3 us_1 ∧ k3 ≤ k4 ∧ Sl PairE h (subA a5 1 k7 2) (k6 - 1) bs_1 ∧ k6 - 1 ≤ k7 - 1 ∧ k3 ≤ n0 ∧ k6 - 1 ≤ n1 ∧ k9 + 1 + k3 + (k6 - 1) ≤ n0 + n1 ∧ Keep h.size h h' ∧
        Own ChangeE 40 h.size h' a' (k9 + 1) c' out_1 ∧ out_1 ++ ofL us_1 bs_1 = ofL xs ys) ∧ k3 + (k6 - 1) < k3 + k6 := by
    intro x bs' c rest e1 e2 e3 a' c' h' o' u'
    subst e1
    simp only [List.length_cons] at lb
    exact ⟨⟨us, bs', out ++ [c], sa, l1, sb.tail l2, by omega, m1, by omega, by omega, kp u', o', by rw [← hg, e2, e3]; simp⟩, by omega⟩
  match us, bs, sa, sb, la, lb, hg, takeA, takeB with
  | [], [], sa, sb, la, lb, hg, takeA, takeB =>
    refine br_intro (fun hc => by simp at la lb hc; omega) (fun _ => ?_)
    rw [ofL, List.append_nil] at hg
    subst hg
    exact fin _ _ _ _ own hk
  | x :: us', [], sa, sb, la, lb, hg, takeA, takeB =>
    have hk6 : k6 = 0 := by simp at lb; exact lb.symm
    subst hk6
    obtain ⟨p, rfl, hpos, d1, d2⟩ := pair_head sa
    refine br_intro (fun hc => ?_) (fun hc => by simp at hc; omega)
    refine ⟨p, fun hc => by simp at hc, ⟨#[]⟩, fun hc => by simp at hc, p, fun hc => by simp at hc, ⟨#[]⟩, fun hc => by simp at hc, ?_⟩
    refine br_intro (fun _ => ?_) (fun hc => by simp at hc)
    refine ⟨p, ⟨rfl, by omega, by omega⟩, _, reads_load sc9 (hk.cell_some d1), p, ⟨rfl, by omega, by omega⟩, _, reads_load sc9 (hk.cell_some d2), ?_⟩
    refine svc_append1 (x := ⟨x.1, x.2, ⟨#[]⟩, true, false⟩) app26 own hk.size (bs26 ⟨x.1, x.2, ⟨#[]⟩, true, false⟩) (by omega) fun a' c' h' o' u' _ => ?_
    exact ⟨⟨by omega, by omega, by omega, by omega⟩, takeA x us' _ (ofL us' []) rfl (by rw [ofL]) rfl a' c' h' o' u'⟩
  | [], y :: bs', sa, sb, la, lb, hg, takeA, takeB =>
    have hk3 : k3 = 0 := by simp at la; exact la.symm
    subst hk3
    obtain ⟨q, rfl, hpos, e1, e2⟩ := pair_head sb
    have hne : k6 ≠ 0 := by omega
    refine br_intro (fun hc => ?_) (fun hc => by simp at hc; omega)
    refine ⟨q, fun hc => by simp at hc, ⟨#[]⟩, fun hc => by simp at hc, q, fun hc => by simp at hc, ⟨#[]⟩, fun hc => by simp at hc, ?_⟩
    refine br_intro (fun hc => by simp [hne] at hc) (fun _ => ?_)
    refine ⟨q, fun hc => by simp at hc, ⟨#[]⟩, fun hc => by simp at hc, q, fun hc => by simp at hc, ⟨#[]⟩, fun hc => by simp at hc, ?_⟩
    refine br_intro (fun _ => ?_) (fun hc => by simp at hc)
    refine ⟨q, ⟨rfl, by omega, by omega⟩, _, reads_load sc9 (hk.cell_some e1), q, ⟨rfl, by omega, by omega⟩, _, reads_load sc9 (hk.cell_some e2), ?_⟩
    refine svc_append1 (x := ⟨y.1, ⟨#[]⟩, y.2, false, true⟩) app26 own hk.size (bs26 ⟨y.1, ⟨#[]⟩, y.2, false, true⟩) (by omega) fun a' c' h' o' u' _ => ?_
    exact ⟨⟨by omega, by omega, by omega, by omega⟩, takeB y bs' _ (ofL [] bs') rfl (by rw [ofL]) rfl a' c' h' o' u'⟩
  | x :: us', y :: bs', sa, sb, la, lb, hg, takeA, takeB =>
    obtain ⟨p, rfl, hpos, d1, d2⟩ := pair_head sa
    obtain ⟨q, rfl, hpos', e1, e2⟩ := pair_head sb
    have hne : k6 ≠ 0 := by omega
    have hne3 : k3 ≠ 0 := by omega
    have hb : ∀ (P : Prop), P → (P ∧ (0 : Int) ≤ 0 ∧ (0 : Int) < (k3 : Int)) := fun P hP => ⟨hP, by omega, by omega⟩
    refine br_intro (fun hc => ?_) (fun hc => by simp at hc; omega)
    refine ⟨p, fun _ => ⟨rfl, by omega, by omega⟩, _, fun _ => reads_load sc9 (hk.cell_some d1), q, fun _ => ⟨rfl, by omega, by omega⟩, _, fun _ => reads_load sc9 (hk.cell_some e1), ?_⟩
    refine br_intro (fun hc => ?_) (fun hc => ?_)
    · have hlt : lt x.1 y.1 = true := by simpa [hne, hpos, lt] using hc
      refine ⟨p, ⟨rfl, by omega, by omega⟩, _, reads_load sc9 (hk.cell_some d1), p, ⟨rfl, by omega, by omega⟩, _, reads_load sc9 (hk.cell_some d2), ?_⟩
      refine svc_append1 (x := ⟨x.1, x.2, ⟨#[]⟩, true, false⟩) app26 own hk.size (bs26 ⟨x.1, x.2, ⟨#[]⟩, true, false⟩) (by omega) fun a' c' h' o' u' _ => ?_
      exact ⟨⟨by omega, by omega, by omega, by omega⟩, takeA x us' _ (ofL us' (y :: bs')) rfl (by rw [ofL, if_pos hlt]) rfl a' c' h' o' u'⟩
    · have hnlt : lt x.1 y.1 = false := by simpa [hne, hpos, lt] using hc
      refine ⟨q, fun _ => ⟨rfl, by omega, by omega⟩, _, fun _ => reads_load sc9 (hk.cell_some e1), p, fun _ => ⟨rfl, by omega, by omega⟩, _, fun _ => reads_load sc9 (hk.cell_some d1), ?_⟩
      refine br_intro (fun hc => ?_) (fun hc => ?_)
      · have hlt : lt y.1 x.1 = true := by simpa [hne3, lt] using hc
        refine ⟨q, ⟨rfl, by omega, by omega⟩, _, reads_load sc9 (hk.cell_some e1), q, ⟨rfl, by omega, by omega⟩, _, reads_load sc9 (hk.cell_some e2), ?_⟩
        refine svc_append1 (x := ⟨y.1, ⟨#[]⟩, y.2, false, true⟩) app26 own hk.size (bs26 ⟨y.1, ⟨#[]⟩, y.2, false, true⟩) (by omega) fun a' c' h' o' u' _ => ?_
        exact ⟨⟨by omega, by omega, by omega, by omega⟩, takeB y bs' _ (ofL (x :: us') bs') rfl (by rw [ofL, if_neg (by simp [hnlt]), if_pos hlt]) rfl a' c' h' o' u'⟩
      · have hnlt2 : lt y.1 x.1 = false := by simpa [hne3, lt] using hc
        rw [ofL, if_neg (by simp [hnlt]), if_neg (by simp [hnlt2])] at hg
        simp only [List.length_cons] at la lb
        refine ⟨p, ⟨rfl, by omega, by omega⟩, _, reads_load sc9 (hk.cell_some d2), q, ⟨rfl, by omega, by omega⟩, _, reads_load sc9 (hk.cell_some e2), ?_⟩
        refine br_intro (fun hv => ?_) (fun hv => ?_)
        · refine ⟨p, ⟨rfl, by omega, by omega⟩, _, reads_load sc9 (hk.cell_some d1), p, ⟨rfl, by omega, by omega⟩, _, reads_load sc9 (hk.cell_some d2), q, ⟨rfl, by omega, by omega⟩, _, reads_load sc9 (hk.cell_some e2), ?_⟩
          refine svc_append1 (x := ⟨x.1, x.2, y.2, true, true⟩) app26 own hk.size (bs26 ⟨x.1, x.2, y.2, true, true⟩) (by omega) fun a' c' h' o' u' _ => ?_
          have hv' : (x.2.toList == y.2.toList) = false := by simpa using hv
          rw [if_neg (by rw [hv']; simp)] at hg
          exact ⟨⟨by omega, by omega, by omega, by omega⟩, ⟨by omega, by omega, by omega, by omega⟩, ⟨us', bs', _, sa.tail l1, by omega, sb.tail l2, by omega, by omega, by omega, by omega, kp u', o', by rw [← hg]; simp⟩, by dsimp only; omega⟩
        · have hv' : (x.2.toList == y.2.toList) = true := by simpa using hv
          rw [if_pos hv'] at hg
          exact ⟨⟨by omega, by omega, by omega, by omega⟩, ⟨by omega, by omega, by omega, by omega⟩, ⟨us', bs', _, sa.tail l1, by omega, sb.tail l2, by omega, by omega, by omega, by omega, hk, own, by rw [← hg]; simp⟩, by dsimp only; omega⟩
end Go.Proofs.Ytepnckpaknabpaa
