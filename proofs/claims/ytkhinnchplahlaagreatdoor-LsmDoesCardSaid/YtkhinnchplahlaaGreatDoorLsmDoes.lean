/-
  LsmDoes: for every input the law returns true, and its arguments read behind the call as they read before. Conditions: none.
-/
import Derived.Test.YtkhinnchplahlaaGreatDoorRows
import Derived.Test.YtkhinnchplahlaaGreatDoorX6
import Derived.Test.YtkhinnchplahlaaGreatDoorCards
import Derived.Test.YtkhinnchplahlaaGreatDoorTie
import Derived.SevenTiedAt
namespace Go.Proofs.YtkhinnchplahlaaGreatDoor.lsmDoes
open Go.ChangeShapes Go.WideShapes Go.ChangeAt Go.RowKit
open Go.ChangeMaps (open_string shut_string)
open Go.Vc
set_option linter.unusedVariables false

theorem own : ownKnob Tryz.prog.godebug = none := by kernel_rfl
theorem laidOut : laidOutB Tryz.prog = true := by kernel_rfl

set_option maxRecDepth 100000 in
theorem lifted (os : Os) (started : os.Started) (H : Type) (enc : TypeId × Value → H) :
    ReturnsInHanded {} Tryz.checked os 6 .any (fun w args => (Rows.lsmDoesSpec.pre enc Tryz.prog Tryz.f6 Rows.lsmDoesRow.domain false w args ∧ laidMet Tryz.prog laidRows w) ∧ sizedMet enc Tryz.prog Tryz.f6 (OpenSpec.ofChange Rows.lsmDoesSpec) false w args) (Rows.lsmDoesSpec.post enc Tryz.prog Tryz.f6 false true false false) := by
  refine returnsInHanded_of_change_and (C := Tryz.checked) (X := fun w _ => laidMet Tryz.prog laidRows w) (fun _ _ _ hh h => h.of_heap hh) own started (by kernel_rfl) Tryz.func6
    (ChangeSpec.witness_at (enc := enc) (C := Tryz.checked) (os := os) (X := fun w _ => laidMet Tryz.prog laidRows w) false (laidWorld os) #[.slice none 0 0] 8 rfl (by kernel_rfl) (by kernel_rfl) (by kernel_rfl) (by kernel_rfl) (by kernel_rfl) (laidWorld_met os _)) ?_
  intro W base args ds gs before hval0 hW hcnd hz hlaid _
  have hval : ∀ (j : Nat) t v, Tryz.f6.params[j]? = some t → args[j]? = some v → Value.okWide Tryz.prog W .any base t v := hval0
  have hW' := hW
  obtain ⟨p, q, hA0, hV, rfl, hfz, hnd⟩ := hW
  have hA : DataW.TrodAll enc Tryz.prog W 0 (fun _ => true) true Tryz.f6.params.toList args.toList ds p := hA0
  rw [Tryz.params6] at hA hval
  obtain ⟨v0, vs0, d0, ds0, p0, q0, hargs, rfl, rfl, h0, r0x⟩ := trodAll_cons hA
  obtain ⟨rfl, rfl, rfl⟩ := trodAll_nil r0x
  obtain rfl : args = #[v0] := by cases args; simp_all
  obtain ⟨rfl, rfl⟩ := trodVars_none hV
  have lt0 : ∀ x ∈ p0, x.block < W.heap.size := by obtain ⟨m, hm⟩ := h0; exact DataW.trod_lt m _ _ _ hm
  obtain ⟨a0, len0, cap0, rfl⟩ := okWide_slice Tryz.underlying22 (hval 0 22 v0 rfl rfl)
  obtain ⟨z0, w0, le0, bd0, gd0⟩ := open_slZ Tryz.underlying22 (by kernel_rfl) (of_decide_eq_true (by kernel_rfl)) decSp h0 (weights_at hz (j := 0) (by kernel_rfl) rfl)
  clear hA0 hval0
  refine (calls_of_HC (does11_spec (h := W.heap) (tab_of_laid hlaid) w0 gd0 bd0)).mono fun e W' ⟨he, bel⟩ => ?_
  subst he
  exact ⟨_, rfl, _, _, _, [], _, [], hW', trodAll_mk1 (shut_bool Tryz.underlying4 _), (trodAll_cons_mk (Below.trod laidOut (by kernel_rfl) (of_decide_eq_true (by kernel_rfl)) h0 bel lt0) trodAll_mk0), rfl, bel.frame _, fun h => by cases h⟩

theorem fIn : Tryz.prog.inPlace 6 = Rows.lsmDoesRow.inPlace := by kernel_rfl
theorem fUn : Tryz.prog.unfollowed 6 = Rows.lsmDoesRow.unfollowed := by kernel_rfl
theorem fRe : Tryz.prog.recurses 6 = Rows.lsmDoesRow.recurses := by kernel_rfl
theorem fVa : Tryz.prog.varsNamed 6 = Rows.lsmDoesRow.named := by kernel_rfl
theorem facts : joinedFacts Tryz.prog 6 Tryz.f6 Rows.lsmDoesSpec Rows.lsmDoesRow = true := by
  unfold joinedFacts
  rw [fIn, fUn, fRe, fVa]
  kernel_rfl
theorem over : Rows.lsmDoesRow.holds Tryz.pinned (OpenSpec.ofChange Rows.lsmDoesSpec) :=
  OpenClaim.holds_of_wide 6 Tryz.f6 rfl rfl rfl rfl rfl rfl rfl ⟨rfl, rfl, rfl, rfl, rfl⟩ rfl rfl rfl rfl rfl (by kernel_rfl) Tryz.func6 facts
    (of_decide_eq_true (by kernel_rfl)) (by unfold Func.isWrapper; first | (rw [if_pos (by decide +kernel)]; kernel_rfl) | (rw [if_neg (by decide +kernel)]; exact ⟨rfl, rfl⟩))
    (fun os started H enc _ => lifted os started H enc)

theorem wfT : Rows.lsmDoesRow.wfByText (OpenSpec.ofChange Rows.lsmDoesSpec) = true := by kernel_rfl
theorem goesT : false = Rows.lsmDoesRow.goesBy Tryz.prog := by kernel_rfl
theorem looksT : true = Tryz.prog.looks [] := by kernel_rfl
theorem nameT : Tryz.prog.funcNamed Rows.lsmDoesRow.func = some 6 := by kernel_rfl
/-- THE STATEMENT -/
theorem proved : Rows.LsmDoesCardSaid :=
  Claim7.holds_tied_plain_at .later [] [.data, .data, .data, .sentinel, .sentinel] true Rows.lsmDoesCard.stood.harness true over (fun _ h => by cases h) wfT (fun _ h => by cases h) lsmDoes_row_tie rfl ⟨rfl, rfl⟩ (by kernel_rfl) rfl
    (fun f fn hf hfn => by
      obtain rfl : f = 6 := Option.some.inj (nameT.symm.trans hf) |>.symm
      obtain rfl : fn = Tryz.f6 := (Option.some.inj (Tryz.func6.symm.trans hfn)).symm
      exact ⟨looksT, fun j t ht => by
        rw [Tryz.params6] at ht
        have hm := Array.mem_of_getElem? ht
        have hall : ∀ t ∈ #[22], Tryz.prog.wantsStandIn t = false := by
          intro t ht
          simp only [List.mem_toArray, List.mem_cons, List.not_mem_nil, or_false] at ht
          rcases ht with rfl <;> kernel_rfl
        exact hall t hm⟩)
    goesT
#print axioms proved
end Go.Proofs.YtkhinnchplahlaaGreatDoor.lsmDoes
