/-
  DiskCuts, walked: whatever pages and cuts, the law returns true. Conditions: none.
-/
import Derived.Test.YtembbemljejjbaaDkL
import Derived.Test.YtembbemljejjbaaDkC1
import Derived.Test.YtembbemljejjbaaGC
set_option linter.unusedVariables false
set_option linter.unusedSimpArgs false
set_option maxRecDepth 100000
namespace Go.Proofs.Ytembbemljejjbaa
open Go Go.Vc Go.Proofs Go.Dk

theorem two_new : Two 0 (new 50) := ⟨new_ok 50, rfl, rfl, rfl, rfl, rfl, fun h => (by omega), fun h => (by omega), fun q _ _ => rfl, fun q => rfl, fun w hw => (by cases hw), rfl⟩
theorem cuts_spec {h : Heap} {pages cut keep : Int} {syncs : Bool} (hk : 0 ≤ keep ∧ keep < 18446744073709551616) :
    HC Try.prog 6 #[.int .i64 pages, .int .i64 cut, .bool syncs, .int .u64 keep] h fun v h' => Keep h.size h h' ∧ v = .bool true := by
  refine HC_of_vc (args := [.int .i64 pages, .int .i64 cut, .bool syncs, .int .u64 keep]) (base := 100) (cuts := [13]) (bigs := []) hm Try.func6 ?_
  rw [vcCuts]
  refine (alive_spec h).mono ?_
  rintro v h1 ⟨k1, rfl⟩
  refine ⟨_, rfl, br_intro (fun e => by cases e) fun _ => br_intro (fun _ => ⟨k1, rfl⟩) fun e1 => ?_⟩
  have e1 : ((1 ≤ pages ∧ pages ≤ 20) ∧ 0 ≤ cut) ∧ cut ≤ 20 := by simpa using e1
  obtain ⟨k, rfl⟩ : ∃ k : Nat, cut = k := ⟨cut.toNat, by omega⟩
  refine (St.new k1 50).mono ?_
  rintro v h4 ⟨d, rfl, st4⟩
  refine ⟨_, rfl, fun n8 h9 => ∃ (i : Nat) (x : D), n8 = i ∧ (i : Int) ≤ pages ∧ St h d x h9 ∧ Two i x, fun n8 _ => (pages - n8).toNat, ⟨0, _, rfl, by omega, st4, two_new⟩, ?_⟩
  rintro n8 h9 ⟨i, x, rfl, hi, st9, tw⟩
  refine br_intro (fun hlt => ?_) (fun hge => ?_)
  · have hlt : (i : Int) < pages := by simpa using hlt
    refine svc_one fun b h11 k11 sl11 => ⟨_, _, _, rfl, ?_⟩
    obtain ⟨w1, w2, w3, w4⟩ := tw.write (b := ⟨#[b]⟩) (c := ⟨#[0]⟩) (by omega) (by show 1 ≤ 512; omega) (by decide)
    refine (st9.write' k11 (s := ef) (i := (i : Int)) (b := ⟨#[b]⟩) sl11 (fun q ⟨a, e, eq⟩ => by cases e; exact Nat.le_of_eq eq) (by have := tw.len; omega)).mono ?_
    rintro v h16 ⟨st16, rfl⟩
    refine ⟨_, rfl, svc_one fun c h19 k19 sl19 => ⟨_, _, _, rfl, ?_⟩⟩
    obtain ⟨w1, w2, w3, w4⟩ := tw.write (b := ⟨#[b]⟩) (c := ⟨#[c]⟩) (by omega) (by show 1 ≤ 512; omega) (by show 1 ≤ 512; omega)
    refine (st16.write' k19 (s := eg) (i := (i : Int)) (b := ⟨#[c]⟩) sl19 (fun q ⟨a, e, eq⟩ => by cases e; exact Nat.le_of_eq eq) (by omega)).mono ?_
    rintro v h24 ⟨st24, rfl⟩
    rw [wrap_i64 (by omega) (by omega)]
    exact ⟨_, rfl, ⟨i + 1, _, rfl, by omega, st24, w3⟩, by dsimp only; omega⟩
  have hi' : (i : Int) = pages := by have : ¬ (i : Int) < pages := by simpa using hge
                                     omega
  have h20 : i ≤ 20 := by omega
  have h0 : 0 < i := by omega
  refine ⟨fun h30 => ∃ x, St h d x h30 ∧ Pre i syncs x, br_intro (fun hsy => ?_) (fun hsy => ?_), ?_⟩
  · subst hsy
    refine (st9.sync (s := ef) (by have := tw.len; omega)).mono ?_
    rintro v h28 ⟨st28, rfl⟩
    exact ⟨_, rfl, _, st28, tw.sync h0 h20⟩
  · subst hsy
    exact ⟨x, st9, tw.pre h0 h20⟩
  clear st9 tw hge
  rintro h30 ⟨x, st30, pr⟩
  obtain ⟨y, z, ec, wy, er, wz, r1, r2, r3, r4, r5, r6⟩ := pr.end_ k keep
  refine (st30.cut (s := ef) (n := (k : Int)) (by have := pr.len; omega) (by omega)).mono ?_
  rintro v h32 ⟨st32, rfl⟩
  rw [ec] at st32
  rw [ec]
  refine ⟨_, rfl, br_intro (fun _ => ?_) (fun e => by cases e)⟩
  refine (st32.remove (s := eg) (by show y.waits.length ≤ _; omega)).mono ?_
  rintro v h35 ⟨st35, rfl⟩
  have er' : Dk.remove (0, y).2 eg = (0, z) := er
  rw [er'] at st35
  have st35 : St h d z h35 := st35
  rw [er']
  refine ⟨_, rfl, br_intro (fun e => by cases e) (fun _ => ?_)⟩
  refine (st35.off hk (by show z.waits.length ≤ _; omega)).mono ?_
  rintro v h38 ⟨st38, rfl⟩
  refine ⟨rfl, st38.on.mono ?_⟩
  rintro v h40 ⟨st40, rfl⟩
  refine ⟨rfl, (st40.count ef).mono ?_⟩
  rintro v h42 ⟨rfl, rfl⟩
  have r1 : count (on (off keep z)) ef ≤ k := r1
  have r2 : count (on (off keep z)) ef ≤ i := r2
  refine ⟨_, rfl, _, fun _ => reads_min, br_intro (fun _ => ?_) (fun e => ?_)⟩
  · refine (st40.has ef).mono ?_
    rintro v h44 ⟨rfl, rfl⟩
    have r4' : has (on (off keep z)) ef = true := r4
    have r5' : has (on (off keep z)) eg = false := r5
    refine ⟨_, rfl, br_intro (fun _ => ?_) (fun e => ?_)⟩
    · refine (st40.has eg).mono ?_
      rintro v h47 ⟨rfl, rfl⟩
      refine ⟨_, rfl, br_intro (fun _ => ?_) (fun e => ?_)⟩
      · refine st40.free.mono ?_
        rintro v h50 ⟨st50, rfl⟩
        have r6' : free (on (off keep z)) = 50 - (count (on (off keep z)) ef : Nat) := r6
        refine ⟨_, rfl, st50.base, ?_⟩
        rw [wrap_i64 (by omega) (by omega), ← r6']
        simp
      · have e : (bif has (on (off keep z)) eg then false else true) = false := e
        rw [r5'] at e; cases e
    · have e : has (on (off keep z)) ef = false := e
      rw [r4'] at e; cases e
  · exfalso
    have e : (decide ((count (on (off keep z)) ef : Int) ≤ k) && decide ((count (on (off keep z)) ef : Int) ≤ pages) && (!syncs || (count (on (off keep z)) ef : Int) == (if pages < (k : Int) then pages else k))) = false := e
    have a1 : decide ((count (on (off keep z)) ef : Int) ≤ k) = true := decide_eq_true (by omega)
    have a2 : decide ((count (on (off keep z)) ef : Int) ≤ pages) = true := decide_eq_true (by omega)
    rw [a1, a2] at e
    cases hsy : syncs with
    | false => rw [hsy] at e; cases e
    | true =>
      rw [hsy] at e
      have a3 : count (on (off keep z)) ef = min k i := r3 hsy
      have : (count (on (off keep z)) ef : Int) = (if pages < (k : Int) then pages else k) := by split <;> omega
      rw [this] at e
      simp at e
end Go.Proofs.Ytembbemljejjbaa
