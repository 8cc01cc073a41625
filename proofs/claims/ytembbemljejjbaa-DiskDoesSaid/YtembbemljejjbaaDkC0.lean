/-
  The disk, plainly: files cut and removed. Conditions: none.
-/
import Derived.Test.YtembbemljejjbaaDkB
set_option linter.unusedSimpArgs false
set_option linter.unusedVariables false
namespace Go.Dk
open Go Go.Vc

theorem mem_drop {ws : List Wt} {s : Str} {k : Int} {w : Wt} (h : w ∈ drop ws s k) : w ∈ ws ∧ ¬ (w.n = s ∧ k ≤ (w.i : Int)) := by
  unfold drop at h
  obtain ⟨h1, h2⟩ := List.mem_filter.1 h
  refine ⟨h1, fun h3 => ?_⟩
  rw [decide_eq_true h3.1, decide_eq_true h3.2] at h2
  cases h2
theorem ok_remove {x : D} (h : Ok x) (s : Str) : Ok { x with now := del s x.now, safe := del s x.safe, waits := drop x.waits s 0 } := by
  refine ⟨srt_del h.now _, srt_del h.safe _, h.room, ?_, fun n => ?_, fun w hw => ?_, fun n p hp => ?_, fun n p hp => ?_, h.fuse, h.keep⟩
  · have h1 := tot_del h.now s
    have h2 := h.tot
    show Dk.tot (del s x.now) ≤ x.room
    omega
  · show (pgs (del s x.safe) n).length ≤ (pgs (del s x.now) n).length
    rw [pgs_del, pgs_del]; split
    · exact Nat.le_refl _
    · exact h.fewer n
  · obtain ⟨h1, h2⟩ := mem_drop hw
    have h3 := h.waits w h1
    have h4 : w.n ≠ s := fun e => h2 ⟨e, by omega⟩
    show w.i < (pgs (del s x.now) w.n).length ∧ _
    rw [pgs_del, if_neg h4]; exact h3
  · have hp : p ∈ pgs (del s x.now) n := hp
    rw [pgs_del] at hp; split at hp
    · cases hp
    · exact h.pnow _ _ hp
  · have hp : p ∈ pgs (del s x.safe) n := hp
    rw [pgs_del] at hp; split at hp
    · cases hp
    · exact h.psafe _ _ hp
theorem ok_cut {x : D} (h : Ok x) (s : Str) (k : Nat) : Ok { x with now := put s ((pgs x.now s).take k) x.now, safe := put s ((pgs x.safe s).take k) x.safe, waits := drop x.waits s k } := by
  refine ⟨srt_put h.now _ _, srt_put h.safe _ _, h.room, ?_, fun n => ?_, fun w hw => ?_, fun n p hp => ?_, fun n p hp => ?_, h.fuse, h.keep⟩
  · have h1 := tot_put h.now s ((pgs x.now s).take k)
    have h2 := h.tot
    rw [List.length_take] at h1
    show Dk.tot (put s ((pgs x.now s).take k) x.now) ≤ x.room
    omega
  · show (pgs (put s ((pgs x.safe s).take k) x.safe) n).length ≤ (pgs (put s ((pgs x.now s).take k) x.now) n).length
    rw [pgs_put h.safe, pgs_put h.now]; split
    · rename_i e; have := h.fewer s; simp only [List.length_take]; omega
    · exact h.fewer n
  · obtain ⟨h1, h2⟩ := mem_drop hw
    have h3 := h.waits w h1
    show w.i < (pgs (put s ((pgs x.now s).take k) x.now) w.n).length ∧ _
    rw [pgs_put h.now]; split
    · rename_i e
      have : w.i < k := by by_cases h4 : w.i < k; exact h4; exact absurd ⟨e, by omega⟩ h2
      rw [e] at h3
      simp only [List.length_take]
      exact ⟨by omega, h3.2⟩
    · exact h3
  · have hp : p ∈ pgs (put s ((pgs x.now s).take k) x.now) n := hp
    rw [pgs_put h.now] at hp; split at hp
    · exact h.pnow _ _ (List.mem_of_mem_take hp)
    · exact h.pnow _ _ hp
  · have hp : p ∈ pgs (put s ((pgs x.safe s).take k) x.safe) n := hp
    rw [pgs_put h.safe] at hp; split at hp
    · exact h.psafe _ _ (List.mem_of_mem_take hp)
    · exact h.psafe _ _ hp
theorem put_put {F : Fs} (hF : SrtF F) (n : Str) (a b : List Str) : put n a (put n b F) = put n a F :=
  fs_ext (srt_put (srt_put hF _ _) _ _) (srt_put hF _ _) fun q => by rw [get_put (srt_put hF _ _), get_put hF, get_put hF]; split <;> rfl
theorem del_put {F : Fs} (hF : SrtF F) (n : Str) (a : List Str) : del n (put n a F) = del n F :=
  fs_ext (srt_del (srt_put hF _ _) _) (srt_del hF _) fun q => by rw [get_del, get_del, get_put hF]; split <;> rfl
end Go.Dk
