/-
  CacheSames: for every input the law returns true, and its arguments read behind the call as they read before. Conditions: none.
-/
import Derived.Test.YtkhinnchplahlaaGreatDoorRows
import Derived.Test.YtkhinnchplahlaaGreatDoorU6
import Derived.Test.YtkhinnchplahlaaGreatDoorCards
import Derived.Test.YtkhinnchplahlaaGreatDoorTie
import Derived.SevenTiedAt
namespace Go.Proofs.YtkhinnchplahlaaGreatDoor.cacheSames
open Go.ChangeShapes Go.WideShapes Go.ChangeAt Go.RowKit
open Go.ChangeMaps (open_string shut_string)
open Go.Vc
set_option linter.unusedVariables false

theorem own : ownKnob Tryz.prog.godebug = none := by kernel_rfl
theorem laidOut : laidOutB Tryz.prog = true := by kernel_rfl

set_option maxRecDepth 100000 in
theorem lifted (os : Os) (started : os.Started) (H : Type) (enc : TypeId × Value → H) :
    ReturnsInHanded {} Tryz.checked os 7 .any (fun w args => (Rows.cacheSamesSpec.pre enc Tryz.prog Tryz.f7 Rows.cacheSamesRow.domain false w args ∧ laidMet Tryz.prog laidRows w) ∧ sizedMet enc Tryz.prog Tryz.f7 (OpenSpec.ofChange Rows.cacheSamesSpec) false w args) (Rows.cacheSamesSpec.post enc Tryz.prog Tryz.f7 false true false false) := by
  refine returnsInHanded_of_change_and (C := Tryz.checked) (X := fun w _ => laidMet Tryz.prog laidRows w) (fun _ _ _ hh h => h.of_heap hh) own started (by kernel_rfl) Tryz.func7
    (ChangeSpec.witness_at (enc := enc) (C := Tryz.checked) (os := os) (X := fun w _ => laidMet Tryz.prog laidRows w) false (laidWorld os) #[.int .i64 0, .int .i64 0, .slice none 0 0] 8 rfl (by kernel_rfl) (by kernel_rfl) (by kernel_rfl) (by kernel_rfl) (by kernel_rfl) (laidWorld_met os _)) ?_
  intro W base args ds gs before hval0 hW hcnd hz hlaid _
  have hval : ∀ (j : Nat) t v, Tryz.f7.params[j]? = some t → args[j]? = some v → Value.okWide Tryz.prog W .any base t v := hval0
  have hW' := hW
  obtain ⟨p, q, hA0, hV, rfl, hfz, hnd⟩ := hW
  have hA : DataW.TrodAll enc Tryz.prog W 0 (fun _ => true) true Tryz.f7.params.toList args.toList ds p := hA0
  rw [Tryz.params7] at hA hval
  obtain ⟨v0, vs0, d0, ds0, p0, q0, hargs, rfl, rfl, h0, r0x⟩ := trodAll_cons hA
  obtain ⟨v1, vs1, d1, ds1, p1, q1, rfl, rfl, rfl, h1, r1x⟩ := trodAll_cons r0x
  obtain ⟨v2, vs2, d2, ds2, p2, q2, rfl, rfl, rfl, h2, r2x⟩ := trodAll_cons r1x
  obtain ⟨rfl, rfl, rfl⟩ := trodAll_nil r2x
  obtain rfl : args = #[v0, v1, v2] := by cases args; simp_all
  obtain ⟨rfl, rfl⟩ := trodVars_none hV
  have lt0 : ∀ x ∈ p0, x.block < W.heap.size := by obtain ⟨m, hm⟩ := h0; exact DataW.trod_lt m _ _ _ hm
  obtain ⟨n0, rfl⟩ := okWide_int Tryz.underlying3 (hval 0 3 v0 rfl rfl)
  have r0 := open_int Tryz.underlying3 h0
  have lt1 : ∀ x ∈ p1, x.block < W.heap.size := by obtain ⟨m, hm⟩ := h1; exact DataW.trod_lt m _ _ _ hm
  obtain ⟨n1, rfl⟩ := okWide_int Tryz.underlying3 (hval 1 3 v1 rfl rfl)
  have r1 := open_int Tryz.underlying3 h1
  have lt2 : ∀ x ∈ p2, x.block < W.heap.size := by obtain ⟨m, hm⟩ := h2; exact DataW.trod_lt m _ _ _ hm
  obtain ⟨a2, len2, cap2, rfl⟩ := okWide_slice Tryz.underlying54 (hval 2 54 v2 rfl rfl)
  obtain ⟨z2, w2, le2, bd2, gd2⟩ := open_slZ Tryz.underlying54 (by kernel_rfl) (of_decide_eq_true (by kernel_rfl)) decCl h2 (weights_at hz (j := 2) (by kernel_rfl) rfl)
  clear hA0 hval0
  refine (calls_of_HC (sames_spec (h := W.heap) (tab_of_laid hlaid) w2 gd2 bd2 n0 n1)).mono fun e W' ⟨he, bel⟩ => ?_
  subst he
  exact ⟨_, rfl, _, _, _, [], _, [], hW', trodAll_mk1 (shut_bool Tryz.underlying4 _), (trodAll_cons_mk (Below.trod laidOut (by kernel_rfl) (of_decide_eq_true (by kernel_rfl)) h0 bel lt0) (trodAll_cons_mk (Below.trod laidOut (by kernel_rfl) (of_decide_eq_true (by kernel_rfl)) h1 bel lt1) (trodAll_cons_mk (Below.trod laidOut (by kernel_rfl) (of_decide_eq_true (by kernel_rfl)) h2 bel lt2) trodAll_mk0))), rfl, bel.frame _, fun h => by cases h⟩

theorem fIn : Tryz.prog.inPlace 7 = Rows.cacheSamesRow.inPlace := by kernel_rfl
theorem fUn : Tryz.prog.unfollowed 7 = Rows.cacheSamesRow.unfollowed := by kernel_rfl
theorem fRe : Tryz.prog.recurses 7 = Rows.cacheSamesRow.recurses := by kernel_rfl
theorem fVa : Tryz.prog.varsNamed 7 = Rows.cacheSamesRow.named := by kernel_rfl
theorem facts : joinedFacts Tryz.prog 7 Tryz.f7 Rows.cacheSamesSpec Rows.cacheSamesRow = true := by
  unfold joinedFacts
  rw [fIn, fUn, fRe, fVa]
  kernel_rfl
theorem over : Rows.cacheSamesRow.holds Tryz.pinned (OpenSpec.ofChange Rows.cacheSamesSpec) :=
  OpenClaim.holds_of_wide 7 Tryz.f7 rfl rfl rfl rfl rfl rfl rfl ⟨rfl, rfl, rfl, rfl, rfl⟩ rfl rfl rfl rfl rfl (by kernel_rfl) Tryz.func7 facts
    (of_decide_eq_true (by kernel_rfl)) (by unfold Func.isWrapper; first | (rw [if_pos (by decide +kernel)]; kernel_rfl) | (rw [if_neg (by decide +kernel)]; exact ⟨rfl, rfl⟩))
    (fun os started H enc _ => lifted os started H enc)

theorem wfT : Rows.cacheSamesRow.wfByText (OpenSpec.ofChange Rows.cacheSamesSpec) = true := by kernel_rfl
theorem goesT : false = Rows.cacheSamesRow.goesBy Tryz.prog := by kernel_rfl
theorem looksT : true = Tryz.prog.looks [] := by kernel_rfl
theorem nameT : Tryz.prog.funcNamed Rows.cacheSamesRow.func = some 7 := by kernel_rfl
/-- THE STATEMENT -/
theorem proved : Rows.CacheSamesCardSaid :=
  Claim7.holds_tied_plain_at .later [] [.data, .data, .data, .sentinel, .sentinel] true Rows.cacheSamesCard.stood.harness true over (fun _ h => by cases h) wfT (fun _ h => by cases h) cacheSames_row_tie rfl ⟨rfl, rfl⟩ (by kernel_rfl) rfl
    (fun f fn hf hfn => by
      obtain rfl : f = 7 := Option.some.inj (nameT.symm.trans hf) |>.symm
      obtain rfl : fn = Tryz.f7 := (Option.some.inj (Tryz.func7.symm.trans hfn)).symm
      exact ⟨looksT, fun j t ht => by
        rw [Tryz.params7] at ht
        have hm := Array.mem_of_getElem? ht
        have hall : ∀ t ∈ #[3, 3, 54], Tryz.prog.wantsStandIn t = false := by
          intro t ht
          simp only [List.mem_toArray, List.mem_cons, List.not_mem_nil, or_false] at ht
          rcases ht with rfl | rfl | rfl <;> kernel_rfl
        exact hall t hm⟩)
    goesT
#print axioms proved
end Go.Proofs.YtkhinnchplahlaaGreatDoor.cacheSames
