/-
  DiskRoom, walked: whatever room and names, the law returns true. Conditions: none.
-/
import Derived.Test.YtembbemljejjbaaDkL
import Derived.Test.YtembbemljejjbaaDkC2
import Derived.Test.YtembbemljejjbaaVcT
import Derived.Test.YtembbemljejjbaaGR
set_option linter.unusedVariables false
set_option linter.unusedSimpArgs false
set_option maxRecDepth 100000
namespace Go.Proofs.Ytembbemljejjbaa
open Go Go.Vc Go.Proofs Go.Dk

theorem up_new (room : Int) : Up (min (max room 0) 4096).toNat (new room) := ⟨new_ok room, rfl, rfl, rfl⟩
theorem reads_str {h : Heap} {A : Option Addr} {n : Nat} {ns : List Str} {k : Nat} {s : Str} (hs : Sl StrE h A n ns) (hk : ns[k]? = some s) : ∃ p, A = some p ∧ Reads Try.prog (Instr.loadAt 9 (.pointer (some (p.add (k * 1))))) h (.string s) := by
  obtain ⟨p, hA, hp⟩ := hs.get hk
  refine ⟨p, hA, reads_load scS ?_⟩
  have := hp 0 (.string s) rfl
  exact this
theorem mem_ext {b : Bool} (h : ¬ b = true) : b = false := by cases b <;> simp_all

theorem room_spec {h : Heap} {room : Int} {A : Option Addr} {n c : Nat} {ns : List Str} (hsl : Sl StrE h A n ns) :
    HC Try.prog 5 #[.int .i64 room, .slice A n c] h fun v h' => Keep h.size h h' ∧ v = .bool true := by
  have hl := hsl.1
  refine HC_of_vc (args := [.int .i64 room, .slice A n c]) (base := 116) (cuts := []) (bigs := []) hm Try.func5 ?_
  rw [vcRoom]
  refine (alive_spec h).mono ?_
  rintro v h1 ⟨k1, rfl⟩
  refine ⟨_, rfl, br_intro (fun e => by cases e) fun _ => br_intro (fun _ => ⟨k1, rfl⟩) fun e1 => ?_⟩
  have e1 : (0 ≤ room ∧ room ≤ 40) ∧ (n : Int) ≤ 60 := by simpa using e1
  obtain ⟨r, rfl⟩ : ∃ r : Nat, room = r := ⟨room.toNat, by omega⟩
  have hr : (min (max (r : Int) 0) 4096).toNat = r := by omega
  refine (St.new k1 r).mono ?_
  rintro v h4 ⟨d, rfl, st4⟩
  have up4 := up_new r
  rw [hr] at up4
  refine ⟨_, rfl, fun _ n9 h10 => ∃ (i : Nat) (x : D), n9 = i ∧ i ≤ n ∧ St h d x h10 ∧ Up r x ∧ free x = max ((r : Int) - i) 0 ∧ x.waits.length ≤ i ∧ ∀ q, (mGet x.now q).isSome = true → q ∈ ns,
    fun _ n9 _ => n - n9.toNat, ⟨0, _, rfl, Nat.zero_le _, st4, up4, ?_, Nat.le_refl _, fun q hq => by cases hq⟩, ?_⟩
  · have := up4.empty fun q hq => by cases hq
    omega
  rintro _ n9 h10 ⟨i, x, rfl, hi, st, up, hf, hw, hn⟩
  refine br_intro (fun hlt => ?_) (fun hge => ?_)
  · have hlt : i < n := by simpa using hlt
    have hs : ns[i]? = some (ns[i]'(by omega)) := List.getElem?_eq_getElem (by omega)
    generalize ns[i]'(by omega) = s at hs
    obtain ⟨p, hA, hp⟩ := reads_str (hsl.keep st.base) hs
    have hmem : s ∈ ns := List.mem_of_getElem? hs
    refine ⟨p, ⟨hA, by omega, by omega⟩, s, hp, br_intro (fun _ => ⟨st.base, rfl⟩) fun _ => br_intro (fun e2 => ?_) (fun e2 => ?_)⟩
    · have e2 : (r : Int) ≤ i := by simpa using e2
      refine (st.count s).mono ?_
      rintro v h14 ⟨rfl, rfl⟩
      refine ⟨_, rfl, svc_lit (b := 120) fun h22 k22 s22 l22 => ⟨_, _, _, rfl, ?_⟩⟩
      obtain ⟨w1, w2, w3, w4⟩ := up.write (s := s) (b := ⟨#[120]⟩) (by decide)
      obtain ⟨w5, w6⟩ := w3 (by omega)
      refine (st.write' k22 (s := s) (i := (count x s : Nat)) (b := ⟨#[120]⟩) l22 (fun q ⟨a, e, eq⟩ => by cases e; exact Nat.le_of_eq eq) (by omega)).mono ?_
      rintro v h27 ⟨st27, rfl⟩
      rw [w6] at st27
      rw [w5]
      refine ⟨_, rfl, br_intro (fun _ => ?_) (fun e => by cases e)⟩
      refine st27.free.mono ?_
      rintro v h30 ⟨st30, rfl⟩
      refine ⟨_, rfl, _, fun _ => reads_max, br_intro (fun e => ?_) (fun _ => ?_)⟩
      · exfalso
        rw [wrap_i64 (by rw [wrap_i64 (by omega) (by omega)]; omega) (by rw [wrap_i64 (by omega) (by omega)]; omega), wrap_i64 (by omega) (by omega), if_pos (by omega), hf] at e
        have : max ((r : Int) - i) 0 = 0 := by omega
        rw [this] at e; cases e
      · rw [wrap_i64 (by omega) (by omega)]
        exact ⟨⟨i + 1, x, rfl, hlt, st30, up, by omega, by omega, hn⟩, by dsimp only; omega⟩
    · have e2 : (i : Int) < r := by simpa using e2
      refine (st.count s).mono ?_
      rintro v h14 ⟨rfl, rfl⟩
      refine ⟨_, rfl, svc_lit (b := 120) fun h22 k22 s22 l22 => ⟨_, _, _, rfl, ?_⟩⟩
      obtain ⟨w1, w2, w3, w4⟩ := up.write (s := s) (b := ⟨#[120]⟩) (by decide)
      obtain ⟨w5, w6, w7⟩ := w4 (by omega)
      refine (st.write' k22 (s := s) (i := (count x s : Nat)) (b := ⟨#[120]⟩) l22 (fun q ⟨a, e, eq⟩ => by cases e; exact Nat.le_of_eq eq) (by omega)).mono ?_
      rintro v h27 ⟨st27, rfl⟩
      rw [w5]
      refine ⟨_, rfl, br_intro (fun _ => ?_) (fun e => by cases e)⟩
      refine st27.free.mono ?_
      rintro v h30 ⟨st30, rfl⟩
      refine ⟨_, rfl, _, fun _ => reads_max, br_intro (fun e => ?_) (fun _ => ?_)⟩
      · exfalso
        rw [wrap_i64 (by rw [wrap_i64 (by omega) (by omega)]; omega) (by rw [wrap_i64 (by omega) (by omega)]; omega), wrap_i64 (by omega) (by omega), w6, hf] at e
        have h2 : (if (0 : Int) > (r : Int) - i - 1 then 0 else (r : Int) - i - 1) = max ((r : Int) - i) 0 - 1 := by split <;> omega
        rw [h2] at e
        simp at e
      · rw [wrap_i64 (by omega) (by omega)]
        exact ⟨⟨i + 1, _, rfl, hlt, st30, w1, by rw [w6, hf]; omega, by omega, fun q hq => (w7 q hq).elim (fun e => e ▸ hmem) (hn q)⟩, by dsimp only; omega⟩
  have hi' : i = n := by have : ¬ (i : Int) < n := by simpa using hge
                         omega
  refine ⟨fun _ n56 h57 => ∃ (j : Nat) (x : D), n56 = j ∧ j ≤ n ∧ St h d x h57 ∧ Up r x ∧ x.waits.length ≤ 60 ∧ ∀ q, (mGet x.now q).isSome = true → q ∈ ns.drop j, fun _ n56 _ => n - n56.toNat,
    ⟨0, x, rfl, Nat.zero_le _, st, up, by omega, fun q hq => by rw [List.drop_zero]; exact hn q hq⟩, ?_⟩
  clear st up hf hw hn
  rintro _ n56 h57 ⟨j, x, rfl, hj, st, up, hw, hn⟩
  refine br_intro (fun hlt => ?_) (fun hge => ?_)
  · have hlt : j < n := by simpa using hlt
    have hs : ns[j]? = some (ns[j]'(by omega)) := List.getElem?_eq_getElem (by omega)
    have hdr : ns.drop j = ns[j]'(by omega) :: ns.drop (j + 1) := List.drop_eq_getElem_cons (by omega)
    generalize ns[j]'(by omega) = s at hs hdr
    obtain ⟨p, hA, hp⟩ := reads_str (hsl.keep st.base) hs
    refine ⟨p, ⟨hA, by omega, by omega⟩, s, hp, (st.count s).mono ?_⟩
    rintro v h61 ⟨rfl, rfl⟩
    refine ⟨_, rfl, st.free.mono ?_⟩
    rintro v h64 ⟨st64, rfl⟩
    refine ⟨_, rfl, (st64.has s).mono ?_⟩
    rintro v h67 ⟨rfl, rfl⟩
    obtain ⟨b1, b2, b3⟩ := up.bounds s
    refine ⟨_, rfl, fun _ => by decide, br_intro (fun hh => ?_) (fun hh => ?_)⟩
    · have hdiv : ((count x s : Nat) : Int).tdiv 2 = ((count x s / 2 : Nat) : Int) := by rw [Int.tdiv_eq_ediv_of_nonneg (by omega)]; omega
      obtain ⟨y, z, ec, wy, upy, fy, er, wz, upz, fz, nz⟩ := up.clear hh (count x s / 2)
      rw [hdiv, wrap_i64 (by omega) (by omega)]
      refine (st64.cut (s := s) (n := ((count x s / 2 : Nat) : Int)) (by omega) (by omega)).mono ?_
      rintro v h70 ⟨st70, rfl⟩
      rw [ec] at st70
      rw [ec]
      have st70 : St h d y h70 := st70
      refine ⟨_, rfl, br_intro (fun _ => ?_) (fun e => by cases e)⟩
      refine st70.free.mono ?_
      rintro v h73 ⟨st73, rfl⟩
      refine ⟨_, rfl, fun _ => by decide, br_intro (fun _ => ?_) (fun e => ?_)⟩
      · refine (st73.remove (s := s) (by omega)).mono ?_
        rintro v h76 ⟨st76, rfl⟩
        rw [er] at st76
        rw [er]
        have st76 : St h d z h76 := st76
        refine ⟨_, rfl, br_intro (fun _ => ?_) (fun e => by cases e)⟩
        refine st76.free.mono ?_
        rintro v h79 ⟨st79, rfl⟩
        refine ⟨_, rfl, br_intro (fun e => ?_) (fun _ => ?_)⟩
        · exfalso
          rw [wrap_i64 (by omega) (by omega), fz] at e
          simp at e
        · rw [wrap_i64 (by omega) (by omega)]
          refine ⟨⟨j + 1, z, rfl, hlt, st79, upz, by omega, fun q hq => ?_⟩, by dsimp only; omega⟩
          obtain ⟨q1, q2⟩ := nz q hq
          have := hn q q2
          rw [hdr] at this
          exact (List.mem_cons.1 this).resolve_left q1
      · exfalso
        have h3 : IntKind.i64.wrap (IntKind.i64.wrap (free x + (count x s : Nat)) - ((count x s / 2 : Nat) : Int)) = free y := by
          rw [wrap_i64 (n := free x + (count x s : Nat)) (by omega) (by omega), wrap_i64 (by omega) (by omega), fy]; omega
        rw [h3] at e
        simp at e
    · rw [wrap_i64 (by omega) (by omega)]
      refine ⟨⟨j + 1, x, rfl, hlt, st64, up, hw, fun q hq => ?_⟩, by dsimp only; omega⟩
      have := hn q hq
      rw [hdr] at this
      refine (List.mem_cons.1 this).resolve_left fun e => ?_
      subst e
      have hh : has x q = false := hh
      unfold has at hh
      rw [up.down, hq] at hh
      cases hh
  · have hj' : j = n := by have : ¬ (j : Int) < n := by simpa using hge
                           omega
    refine st.free.mono ?_
    rintro v h82 ⟨st82, rfl⟩
    have := up.empty fun q hq => by have := hn q hq; rw [hj', List.drop_of_length_le (by omega)] at this; cases this
    rw [this]
    exact ⟨_, rfl, st82.base, by simp⟩
end Go.Proofs.Ytembbemljejjbaa
