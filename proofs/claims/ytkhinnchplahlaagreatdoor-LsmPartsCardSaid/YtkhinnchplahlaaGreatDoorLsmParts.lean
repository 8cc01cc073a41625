/-
  LsmParts: for every input the law returns true, and its arguments read behind the call as they read before. Conditions: none.
-/
import Derived.Test.YtkhinnchplahlaaGreatDoorRows
import Derived.Test.YtkhinnchplahlaaGreatDoorW5
import Derived.Test.YtkhinnchplahlaaGreatDoorCards
import Derived.Test.YtkhinnchplahlaaGreatDoorTie
import Derived.SevenTiedAt
namespace Go.Proofs.YtkhinnchplahlaaGreatDoor.lsmParts
open Go.ChangeShapes Go.WideShapes Go.ChangeAt Go.RowKit
open Go.ChangeMaps (open_string shut_string)
open Go.Vc
set_option linter.unusedVariables false

theorem own : ownKnob Tryz.prog.godebug = none := by kernel_rfl
theorem laidOut : laidOutB Tryz.prog = true := by kernel_rfl

set_option maxRecDepth 100000 in
theorem lifted (os : Os) (started : os.Started) (H : Type) (enc : TypeId × Value → H) :
    ReturnsInHanded {} Tryz.checked os 5 .any (fun w args => (Rows.lsmPartsSpec.pre enc Tryz.prog Tryz.f5 Rows.lsmPartsRow.domain false w args ∧ laidMet Tryz.prog laidRows w) ∧ sizedMet enc Tryz.prog Tryz.f5 (OpenSpec.ofChange Rows.lsmPartsSpec) false w args) (Rows.lsmPartsSpec.post enc Tryz.prog Tryz.f5 false true false false) := by
  refine returnsInHanded_of_change_and (C := Tryz.checked) (X := fun w _ => laidMet Tryz.prog laidRows w) (fun _ _ _ hh h => h.of_heap hh) own started (by kernel_rfl) Tryz.func5
    (ChangeSpec.witness_at (enc := enc) (C := Tryz.checked) (os := os) (X := fun w _ => laidMet Tryz.prog laidRows w) false (laidWorld os) #[.slice none 0 0, .int .i64 0] 8 rfl (by kernel_rfl) (by kernel_rfl) (by kernel_rfl) (by kernel_rfl) (by kernel_rfl) (laidWorld_met os _)) ?_
  intro W base args ds gs before hval0 hW hcnd hz hlaid _
  have hval : ∀ (j : Nat) t v, Tryz.f5.params[j]? = some t → args[j]? = some v → Value.okWide Tryz.prog W .any base t v := hval0
  have hW' := hW
  obtain ⟨p, q, hA0, hV, rfl, hfz, hnd⟩ := hW
  have hA : DataW.TrodAll enc Tryz.prog W 0 (fun _ => true) true Tryz.f5.params.toList args.toList ds p := hA0
  rw [Tryz.params5] at hA hval
  obtain ⟨v0, vs0, d0, ds0, p0, q0, hargs, rfl, rfl, h0, r0x⟩ := trodAll_cons hA
  obtain ⟨v1, vs1, d1, ds1, p1, q1, rfl, rfl, rfl, h1, r1x⟩ := trodAll_cons r0x
  obtain ⟨rfl, rfl, rfl⟩ := trodAll_nil r1x
  obtain rfl : args = #[v0, v1] := by cases args; simp_all
  obtain ⟨rfl, rfl⟩ := trodVars_none hV
  have lt0 : ∀ x ∈ p0, x.block < W.heap.size := by obtain ⟨m, hm⟩ := h0; exact DataW.trod_lt m _ _ _ hm
  obtain ⟨a0, len0, cap0, rfl⟩ := okWide_slice Tryz.underlying32 (hval 0 32 v0 rfl rfl)
  obtain ⟨z0, w0, le0, bd0, gd0⟩ := open_slZ Tryz.underlying32 (by kernel_rfl) (of_decide_eq_true (by kernel_rfl)) decWr h0 (weights_at hz (j := 0) (by kernel_rfl) rfl)
  have lt1 : ∀ x ∈ p1, x.block < W.heap.size := by obtain ⟨m, hm⟩ := h1; exact DataW.trod_lt m _ _ _ hm
  obtain ⟨n1, rfl⟩ := okWide_int Tryz.underlying3 (hval 1 3 v1 rfl rfl)
  have r1 := open_int Tryz.underlying3 h1
  clear hA0 hval0
  refine (calls_of_HC (parts_spec (h := W.heap) (tab_of_laid hlaid) w0 le0 bd0 n1)).mono fun e W' ⟨he, bel⟩ => ?_
  subst he
  exact ⟨_, rfl, _, _, _, [], _, [], hW', trodAll_mk1 (shut_bool Tryz.underlying4 _), (trodAll_cons_mk (Below.trod laidOut (by kernel_rfl) (of_decide_eq_true (by kernel_rfl)) h0 bel lt0) (trodAll_cons_mk (Below.trod laidOut (by kernel_rfl) (of_decide_eq_true (by kernel_rfl)) h1 bel lt1) trodAll_mk0)), rfl, bel.frame _, fun h => by cases h⟩

theorem fIn : Tryz.prog.inPlace 5 = Rows.lsmPartsRow.inPlace := by kernel_rfl
theorem fUn : Tryz.prog.unfollowed 5 = Rows.lsmPartsRow.unfollowed := by kernel_rfl
theorem fRe : Tryz.prog.recurses 5 = Rows.lsmPartsRow.recurses := by kernel_rfl
theorem fVa : Tryz.prog.varsNamed 5 = Rows.lsmPartsRow.named := by kernel_rfl
theorem facts : joinedFacts Tryz.prog 5 Tryz.f5 Rows.lsmPartsSpec Rows.lsmPartsRow = true := by
  unfold joinedFacts
  rw [fIn, fUn, fRe, fVa]
  kernel_rfl
theorem over : Rows.lsmPartsRow.holds Tryz.pinned (OpenSpec.ofChange Rows.lsmPartsSpec) :=
  OpenClaim.holds_of_wide 5 Tryz.f5 rfl rfl rfl rfl rfl rfl rfl ⟨rfl, rfl, rfl, rfl, rfl⟩ rfl rfl rfl rfl rfl (by kernel_rfl) Tryz.func5 facts
    (of_decide_eq_true (by kernel_rfl)) (by unfold Func.isWrapper; first | (rw [if_pos (by decide +kernel)]; kernel_rfl) | (rw [if_neg (by decide +kernel)]; exact ⟨rfl, rfl⟩))
    (fun os started H enc _ => lifted os started H enc)

theorem wfT : Rows.lsmPartsRow.wfByText (OpenSpec.ofChange Rows.lsmPartsSpec) = true := by kernel_rfl
theorem goesT : false = Rows.lsmPartsRow.goesBy Tryz.prog := by kernel_rfl
theorem looksT : true = Tryz.prog.looks [] := by kernel_rfl
theorem nameT : Tryz.prog.funcNamed Rows.lsmPartsRow.func = some 5 := by kernel_rfl
/-- THE STATEMENT -/
theorem proved : Rows.LsmPartsCardSaid :=
  Claim7.holds_tied_plain_at .later [] [.data, .data, .data, .sentinel, .sentinel] true Rows.lsmPartsCard.stood.harness true over (fun _ h => by cases h) wfT (fun _ h => by cases h) lsmParts_row_tie rfl ⟨rfl, rfl⟩ (by kernel_rfl) rfl
    (fun f fn hf hfn => by
      obtain rfl : f = 5 := Option.some.inj (nameT.symm.trans hf) |>.symm
      obtain rfl : fn = Tryz.f5 := (Option.some.inj (Tryz.func5.symm.trans hfn)).symm
      exact ⟨looksT, fun j t ht => by
        rw [Tryz.params5] at ht
        have hm := Array.mem_of_getElem? ht
        have hall : ∀ t ∈ #[32, 3], Tryz.prog.wantsStandIn t = false := by
          intro t ht
          simp only [List.mem_toArray, List.mem_cons, List.not_mem_nil, or_false] at ht
          rcases ht with rfl | rfl <;> kernel_rfl
        exact hall t hm⟩)
    goesT
#print axioms proved
end Go.Proofs.YtkhinnchplahlaaGreatDoor.lsmParts
