/-
  A tied row is well formed, if its listed names are its named ones, each once. Conditions: none.
-/
import GoSem.ClaimLaidByText
import Derived.KernelRfl
namespace Go.Sc
open Go
theorem eraseDups_nodup {l : List String} (h : l.Nodup) : l.eraseDups = l := by
  induction l with
  | nil => rfl
  | cons a l ih =>
    obtain ⟨h1, h2⟩ := List.nodup_cons.1 h
    rw [List.eraseDups_cons, List.filter_eq_self.2 (fun b hb => ?_), ih h2]
    have : b ≠ a := fun e => h1 (by rw [← e]; exact hb)
    simp [this]
theorem wf1_of {s : OpenSpec} {c : OpenClaim} (hf : c.followed = none) (hnm : ∀ x ∈ c.laid, x.1 ∈ c.named) (hnd : (c.laid.map (·.1)).Nodup) (hch : c.change.wf s.bare = true)
    (ho : c.outside = []) (hst : c.shortTexts = none) (hag : c.again = false) : c.wf s = true := by
  have hnl : c.namedList = c.named := by unfold OpenClaim.namedList; rw [hf]
  have hall : ∀ x ∈ c.laid, c.namedList.contains x.1 = true := fun x hx => by rw [hnl]; exact List.contains_iff_mem.2 (hnm x hx)
  have her : ((c.laid.map (·.1)).eraseDups.length == c.laid.length) = true := by rw [eraseDups_nodup hnd, List.length_map, beq_self_eq_true]
  have hal : (c.laid.all fun x => c.namedList.contains x.1) = true := List.all_eq_true.2 hall
  unfold OpenClaim.wf OpenClaim.laidWf
  rw [hch, ho, hst, hag, her, hal, hf]
  cases c.start <;> rfl
theorem wf_of {s : OpenSpec} {c : OpenClaim} (hu : c.unfollowed = true) (hf : c.followed = none) (hnm : ∀ x ∈ c.laid, x.1 ∈ c.named) (hnd : (c.laid.map (·.1)).Nodup) (hw : c.wf s = true) : c.wfByText s = true := by
  have hnl : c.namedList = c.named := by unfold OpenClaim.namedList; rw [hf]
  have hall : ∀ x ∈ c.laid, c.namedList.contains x.1 = true := fun x hx => by rw [hnl]; exact List.contains_iff_mem.2 (hnm x hx)
  have hfil : (c.laid.filter fun x => c.namedList.contains x.1) = c.laid := List.filter_eq_self.2 hall
  have her : ((c.laid.map (·.1)).eraseDups.length == c.laid.length) = true := by rw [eraseDups_nodup hnd, List.length_map, beq_self_eq_true]
  have hag : c.again = false ∨ c.again = true := by cases c.again <;> simp
  unfold OpenClaim.wfByText
  rw [if_pos hu, hfil, her]
  show (c.wf s && true && !(c.again && !c.laid.isEmpty)) = true
  have hl : c.laidWf = true := by
    unfold OpenClaim.wf at hw
    rw [Bool.and_eq_true] at hw
    exact hw.2
  unfold OpenClaim.laidWf at hl
  rw [Bool.and_eq_true] at hl
  rw [hw, hl.2]; rfl
end Go.Sc
