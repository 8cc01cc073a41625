/-
  The disk, plainly: a file moved. Conditions: none.
-/
import Derived.Test.YtembbemljejjbaaDkC0
set_option linter.unusedSimpArgs false
set_option linter.unusedVariables false
namespace Go.Dk
open Go Go.Vc

theorem pgs_moved {F : Fs} (h : SrtF F) (a b n : Str) : pgs (moved a b F) n = if n = b then pgs F a else if n = a then [] else pgs F n := by
  unfold moved
  rw [pgs_put (srt_del h a)]; split
  · rfl
  · rw [pgs_del]
theorem srt_moved {F : Fs} (h : SrtF F) (a b : Str) : SrtF (moved a b F) := srt_put (srt_del h a) _ _
theorem get_moved {F : Fs} (h : SrtF F) (a b n : Str) : mGet (moved a b F) n = if n = b then some (pgs F a) else if n = a then none else mGet F n := by
  unfold moved
  rw [get_put (srt_del h a)]; split
  · rfl
  · rw [get_del]
theorem tot_moved {F : Fs} (h : SrtF F) {a b : Str} (hab : a ≠ b) : tot (moved a b F) + (pgs F b).length = tot F := by
  have h1 := tot_put (srt_del h a) b (pgs F a)
  have h2 := tot_del h a
  rw [pgs_del, if_neg (Ne.symm hab)] at h1
  unfold moved
  omega
theorem mem_turn {ws : List Wt} {a b : Str} {w : Wt} (h : w ∈ (drop ws b 0).map (turnW a b)) :
    ∃ v ∈ ws, v.n ≠ b ∧ w.i = v.i ∧ w.p = v.p ∧ w.n = (if v.n = a then b else v.n) := by
  obtain ⟨v, hv, rfl⟩ := List.mem_map.1 h
  obtain ⟨h1, h2⟩ := mem_drop hv
  refine ⟨v, h1, fun e => h2 ⟨e, by omega⟩, ?_, ?_, ?_⟩ <;> (unfold turnW; split <;> rfl)
theorem ok_rename {x : D} (h : Ok x) {a b : Str} (hab : a ≠ b) : Ok { x with now := moved a b x.now, safe := moved a b x.safe, waits := (drop x.waits b 0).map (turnW a b) } := by
  refine ⟨srt_moved h.now _ _, srt_moved h.safe _ _, h.room, ?_, fun n => ?_, fun w hw => ?_, fun n p hp => ?_, fun n p hp => ?_, h.fuse, h.keep⟩
  · have h1 := tot_moved h.now hab
    have h2 := h.tot
    show Dk.tot (moved a b x.now) ≤ x.room
    omega
  · show (pgs (moved a b x.safe) n).length ≤ (pgs (moved a b x.now) n).length
    rw [pgs_moved h.safe, pgs_moved h.now]; split
    · exact h.fewer a
    · split
      · exact Nat.le_refl _
      · exact h.fewer n
  · obtain ⟨v, hv, h1, h2, h3, h4⟩ := mem_turn hw
    have h5 := h.waits v hv
    show w.i < (pgs (moved a b x.now) w.n).length ∧ w.p.size = 512
    rw [pgs_moved h.now, h2, h3, h4]
    by_cases e : v.n = a
    · rw [if_pos e, if_pos rfl, ← e]; exact h5
    · rw [if_neg e, if_neg h1, if_neg e]; exact h5
  · have hp : p ∈ pgs (moved a b x.now) n := hp
    rw [pgs_moved h.now] at hp; split at hp
    · exact h.pnow _ _ hp
    · split at hp
      · cases hp
      · exact h.pnow _ _ hp
  · have hp : p ∈ pgs (moved a b x.safe) n := hp
    rw [pgs_moved h.safe] at hp; split at hp
    · exact h.psafe _ _ hp
    · split at hp
      · cases hp
      · exact h.psafe _ _ hp
end Go.Dk
