/-
  Contract of the law DiffOf: called with two slices that read as lists of pairs it returns true. Conditions: the slices' lengths are at most their capacities.
-/
import Derived.Test.YtepnckpaknabpaaD5
set_option linter.unusedVariables false
namespace Go.Proofs.Ytepnckpaknabpaa
open Go Go.Vc Go.Proofs

theorem sl_new {h : Heap} {x : Pr} : Sl PairE (h.push (.cells (PairE.enc x).toArray 38 (0, 0))) (some ⟨h.size, 0, none⟩) 1 [x] :=
  ⟨rfl, .inr ⟨_, rfl, fun i y hy j v hv => by
    cases i with
    | zero => simp at hy; subst hy; rw [Addr.add_row, cell_push, Nat.zero_mul]; simpa using hv
    | succ i => simp at hy⟩⟩
theorem alive_of : ofL [((⟨#[97]⟩ : Str), (⟨#[49]⟩ : Str))] [((⟨#[98]⟩ : Str), (⟨#[50]⟩ : Str))] = [⟨⟨#[97]⟩, ⟨#[49]⟩, ⟨#[]⟩, true, false⟩, ⟨⟨#[98]⟩, ⟨#[]⟩, ⟨#[50]⟩, false, true⟩] := by
  rw [ofL, if_pos (by simp [lt, ByteArray.toList_eq, Op.bytesLess]), ofL, ofL]

theorem alive_spec (h : Heap) : HC Try.prog 13 #[] h fun v h' => Keep h.size h h' ∧ v = .bool true := by
  refine HC_of_vc (args := []) (base := 24) (cuts := []) (bigs := []) hm Try.func13 ?_
  rw [vc13]
  refine svc_buildSlice (bs22 _ _) ⟨_, _, _, rfl, ?_⟩
  refine svc_buildSlice (bs22 _ _) ⟨_, _, _, rfl, ?_⟩
  have k1 := Keep.push h.size h (Obj.cells (PairE.enc ((⟨#[97]⟩ : Str), (⟨#[49]⟩ : Str))).toArray 38) (Nat.le_refl _)
  have k2 := Keep.push (h.push (Obj.cells (PairE.enc ((⟨#[97]⟩ : Str), (⟨#[49]⟩ : Str))).toArray 38)).size _ (Obj.cells (PairE.enc ((⟨#[98]⟩ : Str), (⟨#[50]⟩ : Str))).toArray 38) (Nat.le_refl _)
  refine (of_spec (c0 := 1) (c1 := 1) ((sl_new (x := ((⟨#[97]⟩ : Str), (⟨#[49]⟩ : Str)))).keep k2) (sl_new (x := ((⟨#[98]⟩ : Str), (⟨#[50]⟩ : Str)))) (by omega) (by omega) (by omega) (by omega)).mono ?_
  rintro v h11 ⟨k3, a, c, rfl, _, hsl⟩
  rw [alive_of] at hsl ⊢
  have kk := (k1.trans (k2.mono k1.size)).trans (k3.mono (Nat.le_trans k1.size k2.size))
  refine ⟨_, _, _, rfl, ?_⟩
  obtain ⟨p, rfl, hx, c1⟩ := chg_at hsl (i := 0) (by simp)
  obtain ⟨q, e, hy, c2⟩ := chg_at hsl (i := 1) (by simp)
  cases e
  refine ⟨p, fun _ => ⟨rfl, by simp, by simp⟩, _, _, _, _, _, fun _ => ?_, _, fun _ => (reads_eq (xs := (ChangeE.enc ⟨⟨#[97]⟩, ⟨#[49]⟩, ⟨#[]⟩, true, false⟩).toArray) (ys := (ChangeE.enc ⟨⟨#[97]⟩, ⟨#[49]⟩, ⟨#[]⟩, true, false⟩).toArray) flat40 (eq40 _ _)).1,
    p, fun _ => ⟨rfl, by simp, by simp⟩, _, _, _, _, _, fun _ => chg_load (k := 5) (p := p) (x := ⟨⟨#[98]⟩, ⟨#[]⟩, ⟨#[50]⟩, false, true⟩) c2, _,
    fun _ => (reads_eq (xs := (ChangeE.enc ⟨⟨#[98]⟩, ⟨#[]⟩, ⟨#[50]⟩, false, true⟩).toArray) (ys := (ChangeE.enc ⟨⟨#[98]⟩, ⟨#[]⟩, ⟨#[50]⟩, false, true⟩).toArray) flat40 (eq40 _ _)).1, kk, ?_⟩
  · have := chg_load (k := 0) (p := p) (x := ⟨⟨#[97]⟩, ⟨#[49]⟩, ⟨#[]⟩, true, false⟩) c1
    rwa [Addr.add_zero] at this
  · simp

theorem law_spec {h : Heap} {A0 A1 : Option Addr} {n0 c0 n1 c1 : Nat} {xs ys : List Pr} (h0 : Sl PairE h A0 n0 xs) (h1 : Sl PairE h A1 n1 ys) (hc0 : n0 ≤ c0) (hc1 : n1 ≤ c1)
    (hn0 : n0 ≤ 9223372036854775807) (hn1 : n1 ≤ 9223372036854775807) :
    HC Try.prog 3 #[.slice A0 n0 c0, .slice A1 n1 c1] h fun v h' => Keep h.size h h' ∧ v = .bool true := by
  refine HC_of_vc (args := [.slice A0 n0 c0, .slice A1 n1 c1]) (base := 27) (cuts := []) (bigs := []) hm Try.func3 ?_
  rw [vc3]
  refine (alive_spec h).mono ?_
  rintro v h2 ⟨k2, rfl⟩
  refine ⟨_, rfl, br_intro (fun e => by cases e) (fun _ => ?_)⟩
  refine (odd_spec (h0.keep k2) hn0).mono ?_
  rintro v h4 ⟨k4, b5, rfl, hb5⟩
  have kk4 := k2.trans (k4.mono k2.size)
  refine ⟨_, rfl, br_intro (fun e => ?_) (fun _ => ⟨kk4, rfl⟩)⟩
  have hb5' : b5 = false := by cases b5 <;> simp_all
  obtain ⟨m0, r0⟩ := hb5 hb5'
  refine (odd_spec (h1.keep kk4) hn1).mono ?_
  rintro v h7 ⟨k7, b8, rfl, hb8⟩
  have kk7 := kk4.trans (k7.mono kk4.size)
  refine ⟨_, rfl, br_intro (fun _ => ⟨kk7, rfl⟩) (fun e => ?_)⟩
  obtain ⟨m1, r1⟩ := hb8 e
  refine (of_spec (h0.keep kk7) (h1.keep kk7) hc0 hc1 (by omega) (by omega)).mono ?_
  rintro v h10 ⟨k10, a, c, rfl, _, s10⟩
  have kk10 := kk7.trans (k10.mono kk7.size)
  refine ⟨_, _, _, rfl, ?_⟩
  refine (refOf_spec (c0 := c0) (c1 := c1) (h0.keep kk10) (h1.keep kk10) (by omega) (by omega)).mono ?_
  rintro v h15 ⟨k15, a', c', rfl, s15⟩
  have kk15 := kk10.trans (k15.mono kk10.size)
  refine ⟨_, _, _, rfl, ?_⟩
  rw [← of_ref r0 r1] at s15 ⊢
  have hlen : (ofL xs ys).length ≤ 9223372036854775807 := by
    rw [of_ref r0 r1, refL]
    have f1 := List.length_filter_le parts ((keysL [xs, ys]).map (chgOf xs ys))
    have f2 := fold_len [xs, ys].flatten []
    have f3 : (keysL [xs, ys]).length = ([xs, ys].flatten.foldl add1 []).length := by simp [keysL]
    have f4 := h0.1
    have f5 := h1.1
    simp only [List.length_map, List.flatten_cons, List.flatten_nil, List.append_nil, List.length_append, List.length_nil] at f1 f2 f3
    omega
  refine (same_spec (s10.keep k15) s15 hlen).mono ?_
  rintro v h20 ⟨k20, rfl⟩
  have kk20 := kk15.trans (k20.mono kk15.size)
  refine ⟨_, rfl, ?_⟩
  refine (of_spec (h0.keep kk20) (h0.keep kk20) hc0 hc0 (by omega) (by omega)).mono ?_
  rintro v h23 ⟨k23, a'', c'', rfl, _, s23⟩
  refine ⟨_, _, _, rfl, kk20.trans (k23.mono kk20.size), ?_⟩
  rw [of_self]; rfl
end Go.Proofs.Ytepnckpaknabpaa
