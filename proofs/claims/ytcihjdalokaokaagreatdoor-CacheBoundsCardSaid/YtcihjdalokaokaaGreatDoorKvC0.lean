/-
  cmp.Compare at strings, and the closures that sort by keys. Conditions: none.
-/
import Derived.Test.YtcihjdalokaokaaGreatDoorKvB
import Derived.WalkKit
import Derived.Shelf.SlSortCmp.WholeK
import Derived.Shelf.SlSortCmp.NoneTotal
import Derived.Shelf.Lay
import Derived.Shelf.SlGeneric
import Derived.Ground.SlsfProg
set_option linter.unusedVariables false
set_option linter.unusedSimpArgs false
set_option maxRecDepth 100000
namespace Go.Proofs
open Go Go.RowKit Go.Sort Go.Shelf
def cmpS (a b : ByteArray) : Int := if Op.bytesLess a.toList b.toList then -1 else if Op.bytesLess b.toList a.toList then 1 else 0
theorem cmpS_gt {a b : ByteArray} (h : Op.bytesLess a.toList b.toList = false) : cmpS a b = if (!(Op.bytesLess a.toList b.toList || a.toList == b.toList)) = true then 1 else 0 := by
  unfold cmpS
  rw [if_neg (by rw [h]; decide), h, Bool.false_or]
  cases h2 : (a.toList == b.toList) with
  | true =>
    have : a = b := Go.Dk.eq_beq.1 h2
    subst this
    rw [h]; rfl
  | false =>
    have hne : a ≠ b := fun e => by subst e; simp at h2
    cases h3 : Op.bytesLess b.toList a.toList with
    | true => rfl
    | false => exact absurd (Go.Dk.lt_total h h3) hne
theorem run_gtrS (P : Program) (t : TypeId) (a b : ByteArray) (w : World) : (binOp .gtr t (.string a) (.string b)).run P w = .ok (.bool (!(Op.bytesLess a.toList b.toList || a.toList == b.toList))) w := by
  simp [binOp, Op.stringOp]
attribute [local go_sem] run_gtrS
set_option maxHeartbeats 1000000 in
theorem Tryz.compareS (a b : ByteArray) (W : World) : Calls Tryz.prog 136 #[.string a, .string b] W fun e w' => e = .returned (.int .i64 (cmpS a b)) ∧ w' = W := by
  cases h1 : Op.bytesLess a.toList b.toList with
  | true =>
    have hc : cmpS a b = -1 := by unfold cmpS; rw [if_pos h1]
    rw [hc]
    go_enter Tryz.func136, Tryz.ntmps136
    go_wp2
    go_ret
    exact ⟨rfl, rfl⟩
  | false =>
    have hc := cmpS_gt h1
    generalize cmpS a b = r at hc ⊢
    rw [h1] at hc
    go_enter Tryz.func136, Tryz.ntmps136
    go_wp2
    · rename_i hx
      go_ret
      refine ⟨?_, rfl⟩
      rw [hc, Bool.false_or, if_pos hx]; rfl
    · rename_i hx
      go_ret
      refine ⟨?_, rfl⟩
      rw [hc, Bool.false_or, if_neg (by rw [hx]; decide)]; rfl
def Tryz.encPr (x : ByteArray × ByteArray) : List Value := [.string x.1, .string x.2]
def Tryz.encWr (x : Go.Kv.Wr) : List Value := [.string x.key, .string x.val, .bool x.gone]
set_option maxHeartbeats 1000000 in
theorem Tryz.lessPr (x y : ByteArray × ByteArray) (W : World) : Calls Tryz.prog 305 #[.agg #[.string x.1, .string x.2], .agg #[.string y.1, .string y.2]] W fun e w' => e = .returned (.int .i64 (cmpS x.1 y.1)) ∧ ∃ q os', w' = grow (W.drewN q) os' := by
  have hcon := fun W' => Tryz.compareS x.1 y.1 W'
  generalize cmpS x.1 y.1 = r at hcon ⊢
  go_enter Tryz.func305, Tryz.ntmps305
  go_wp2_with (go_at_call 136; refine (hcon _).mono ?_; rintro e w' ⟨rfl, rfl⟩)
  go_ret
  exact ⟨rfl, 0, _, by rw [alloc_eq_grow, alloc_eq_grow, grow_grow]; rfl⟩
shelf_lay_g SlLaysF0.n6 Slsf 6 at Tryz 304 as Tryz.sortPr
set_option maxHeartbeats 1000000 in
theorem Tryz.lessWr (x y : Go.Kv.Wr) (W : World) : Calls Tryz.prog 140 #[.agg #[.string x.key, .string x.val, .bool x.gone], .agg #[.string y.key, .string y.val, .bool y.gone]] W fun e w' => e = .returned (.int .i64 (cmpS x.key y.key)) ∧ ∃ q os', w' = grow (W.drewN q) os' := by
  have hcon := fun W' => Tryz.compareS x.key y.key W'
  generalize cmpS x.key y.key = r at hcon ⊢
  go_enter Tryz.func140, Tryz.ntmps140
  go_wp2_with (go_at_call 136; refine (hcon _).mono ?_; rintro e w' ⟨rfl, rfl⟩)
  go_ret
  exact ⟨rfl, 0, _, by rw [alloc_eq_grow, alloc_eq_grow, grow_grow]; rfl⟩
shelf_lay_g SlLaysF0.n6 Slsf 6 at Tryz 139 as Tryz.sortWr
theorem cmpS_lt (a b : ByteArray) : decide (cmpS a b < 0) = Go.Dk.lt a b := by
  unfold cmpS
  show _ = Op.bytesLess a.toList b.toList
  cases h1 : Op.bytesLess a.toList b.toList with
  | true => rfl
  | false => cases h2 : Op.bytesLess b.toList a.toList <;> simp
/-- a strict weak order by keys. -/
theorem swoKey {α : Type} (f : α → ByteArray) : SWO (ltOf fun x y : α => cmpS (f x) (f y)) where
  irrefl x := by unfold ltOf; rw [cmpS_lt]; exact Go.Dk.lt_irrefl _
  trans x y z h1 h2 := by unfold ltOf at *; rw [cmpS_lt] at *; exact Go.Dk.lt_trans h1 h2
  ntrans x y z h1 h2 := by
    unfold ltOf at *; rw [cmpS_lt] at *
    cases h3 : Go.Dk.lt (f x) (f z) with
    | false => rfl
    | true =>
      cases h4 : Go.Dk.lt (f y) (f x) with
      | true => rw [Go.Dk.lt_trans h4 h3] at h2; cases h2
      | false =>
        have e := Go.Dk.lt_total h1 h4
        rw [e, h2] at h3; cases h3
end Go.Proofs
