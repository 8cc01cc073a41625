/-
  The disk, plainly: as many pages are taken as there is room for. Conditions: none.
-/
import Derived.Test.YtembbemljejjbaaDkC1
set_option linter.unusedSimpArgs false
set_option linter.unusedVariables false
namespace Go.Dk
open Go Go.Vc

/-- a disk that is on, and none of whose acts takes the power away. -/
structure Up (room : Nat) (x : D) : Prop where
  ok : Ok x
  down : x.down = false
  fuse : x.fuse = 0
  room : x.room = room

theorem Up.write {room : Nat} {x : D} (h : Up room x) {s b : Str} (hb : b.size ≤ 512) :
    let r := Dk.write x s (Dk.count x s : Nat) b
    Up room r.2 ∧ r.2.waits.length ≤ x.waits.length + 1 ∧ (free x < 1 → r.1 = 7 ∧ r.2 = x) ∧ (1 ≤ free x → r.1 = 0 ∧ free r.2 = free x - 1 ∧ ∀ q, (mGet r.2.now q).isSome = true → q = s ∨ (mGet x.now q).isSome = true) := by
  have hc : Dk.count x s = (pgs x.now s).length := by simp [Dk.count, h.down]
  have h1 : ¬ 512 < b.size := by omega
  have h2 : ¬ (((pgs x.now s).length : Int) < 0 ∨ ((pgs x.now s).length : Int) < ((pgs x.now s).length : Nat)) := by omega
  dsimp only
  rw [hc]
  by_cases hf : free x < 1
  · have hw : Dk.write x s ((pgs x.now s).length : Nat) b = (7, x) := by
      unfold Dk.write
      rw [if_neg (by simp [h.down]), if_neg h1, if_neg h2, if_pos ⟨rfl, hf⟩]
    rw [hw]
    exact ⟨h, Nat.le_succ _, fun _ => ⟨rfl, rfl⟩, fun h0 => by omega⟩
  · have hw := write_ok (n := s) (b := b) (i := (pgs x.now s).length) h.down h.fuse hb rfl (by omega)
    have ok1 := ok_write (s := s) (b := b) (k := (pgs x.now s).length) h.ok (Nat.le_refl _) hb fun _ => by omega
    rw [hw]
    refine ⟨⟨ok1, h.down, by show x.fuse - 1 = 0; rw [h.fuse], h.room⟩, by simp, fun h0 => absurd h0 hf, fun _ => ⟨rfl, ?_, fun q hq => ?_⟩⟩
    · have := tot_put h.ok.now s (setP (pgs x.now s) (pgs x.now s).length (pad b))
      rw [setP_len] at this
      show (x.room : Int) - (tot (put s (setP (pgs x.now s) (pgs x.now s).length (pad b)) x.now) : Nat) = (x.room : Int) - (tot x.now : Nat) - 1
      omega
    · have hq : (mGet (put s (setP (pgs x.now s) (pgs x.now s).length (pad b)) x.now) q).isSome = true := hq
      rw [get_put h.ok.now] at hq
      by_cases e : q = s
      · exact .inl e
      · rw [if_neg e] at hq; exact .inr hq

theorem Up.clear {room : Nat} {x : D} (h : Up room x) {s : Str} (hs : Dk.has x s = true) (k : Nat) :
    ∃ y z, Dk.cut x s k = (0, y) ∧ y.waits.length ≤ x.waits.length ∧ Up room y ∧ free y = free x + ((Dk.count x s : Nat) - min k (Dk.count x s) : Nat) ∧
      Dk.remove y s = (0, z) ∧ z.waits.length ≤ x.waits.length ∧ Up room z ∧ free z = free x + (Dk.count x s : Nat) ∧ ∀ q, (mGet z.now q).isSome = true → q ≠ s ∧ (mGet x.now q).isSome = true := by
  have hs0 : (mGet x.now s).isSome = true := by simpa [Dk.has, h.down] using hs
  have hc : Dk.count x s = (pgs x.now s).length := by simp [Dk.count, h.down]
  have hc0 : (!x.down && (mGet x.now s).isSome && decide ((k : Int) < 0)) = false := by
    have : decide ((k : Int) < 0) = false := decide_eq_false (by omega)
    rw [this, Bool.and_false]
  have hcut : Dk.cut x s k = (0, { act x with now := put s ((pgs x.now s).take k) x.now, safe := put s ((pgs x.safe s).take k) x.safe, waits := drop x.waits s k }) := by
    unfold Dk.cut; rw [hc0, may0 h.down h.fuse hs0]; rfl
  have ln : ∀ {ws : List Wt} {s : Str} {k : Int}, (drop ws s k).length ≤ ws.length := List.length_filter_le _ _
  have okc := ok_cut (ok_act h.ok) s k
  have sN : SrtF x.now := h.ok.now
  have t1 := tot_put sN s ((pgs x.now s).take k)
  rw [List.length_take] at t1
  generalize hy : ({ act x with now := put s ((pgs x.now s).take k) x.now, safe := put s ((pgs x.safe s).take k) x.safe, waits := drop x.waits s k } : D) = y at hcut
  have ey1 : y.now = put s ((pgs x.now s).take k) x.now := by rw [← hy]
  have ey3 : y.waits = drop x.waits s k := by rw [← hy]
  have upy : Up room y := by
    rw [← hy]; exact ⟨okc, h.down, by show x.fuse - 1 = 0; rw [h.fuse], h.room⟩
  have hrm : Dk.remove y s = (0, { act y with now := del s y.now, safe := del s y.safe, waits := drop y.waits s 0 }) := by
    unfold Dk.remove; rw [may0 upy.down upy.fuse (by rw [ey1]; exact isSome_put sN _ _)]; rfl
  have okz := ok_remove (ok_act upy.ok) s
  have t2 := tot_del upy.ok.now s
  have t3 : (pgs y.now s).length = min k (pgs x.now s).length := by rw [ey1, pgs_put sN, if_pos rfl, List.length_take]
  have fy : free y = free x + ((Dk.count x s : Nat) - min k (Dk.count x s) : Nat) := by
    unfold free; rw [upy.room, h.room, ey1, hc]; omega
  refine ⟨y, _, hcut, by rw [ey3]; exact ln, upy, fy, hrm, ?_, ⟨okz, upy.down, by show y.fuse - 1 = 0; rw [upy.fuse], upy.room⟩, ?_, fun q hq => ?_⟩
  · show (drop y.waits s 0).length ≤ _
    rw [ey3]; exact Nat.le_trans ln ln
  · show (y.room : Int) - (tot (del s y.now) : Nat) = _
    rw [upy.room]
    unfold free
    rw [h.room, hc]
    rw [ey1] at t2 t3
    rw [ey1]
    omega
  · have hq : (mGet (del s y.now) q).isSome = true := hq
    rw [get_del] at hq
    by_cases e : q = s
    · rw [if_pos e] at hq; cases hq
    · rw [if_neg e, ey1, get_put sN, if_neg e] at hq; exact ⟨e, hq⟩
theorem Up.bounds {room : Nat} {x : D} (h : Up room x) (s : Str) : 0 ≤ free x ∧ free x ≤ room ∧ Dk.count x s ≤ room := by
  have h1 := h.ok.tot
  have h2 := tot_put h.ok.now s []
  have hc : Dk.count x s = (pgs x.now s).length := by simp [Dk.count, h.down]
  simp at h2
  rw [h.room] at h1
  unfold free
  rw [h.room, hc]
  omega
theorem Up.empty {room : Nat} {x : D} (h : Up room x) (hn : ∀ q, ¬ (mGet x.now q).isSome = true) : free x = room := by
  have : x.now = [] := fs_ext h.ok.now List.Pairwise.nil fun q => by
    have := hn q
    cases hg : mGet x.now q with
    | none => rfl
    | some _ => rw [hg] at this; exact absurd rfl this
  unfold free
  rw [this, h.room]
  simp [tot]
end Go.Dk
