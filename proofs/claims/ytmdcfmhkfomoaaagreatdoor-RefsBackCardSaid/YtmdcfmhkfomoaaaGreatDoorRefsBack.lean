/-
  RefsBack: for every input the law returns true, and its arguments read behind the call as they read before. Conditions: none.
-/
import Derived.Test.YtmdcfmhkfomoaaaGreatDoorRows
import Derived.Test.YtmdcfmhkfomoaaaGreatDoorZBB
import Derived.Test.YtmdcfmhkfomoaaaGreatDoorZV
import Derived.Test.YtmdcfmhkfomoaaaGreatDoorKwL
import Derived.Test.YtmdcfmhkfomoaaaGreatDoorCards
import Derived.Test.YtmdcfmhkfomoaaaGreatDoorTie
import Derived.SevenTiedAt
namespace Go.Proofs.YtmdcfmhkfomoaaaGreatDoor.refsBack
open Go.ChangeShapes Go.WideShapes Go.ChangeAt Go.RowKit
open Go.ChangeMaps (open_string shut_string)
open Go.Vc
set_option linter.unusedVariables false

theorem own : ownKnob Tryz.prog.godebug = none := by kernel_rfl
theorem laidOut : laidOutB Tryz.prog = true := by kernel_rfl

set_option maxRecDepth 100000 in
theorem lifted (os : Os) (started : os.Started) (H : Type) (enc : TypeId × Value → H) :
    ReturnsInHanded {} Tryz.checked os 7 .any (fun w args => (Rows.refsBackSpec.pre enc Tryz.prog Tryz.f7 Rows.refsBackRow.domain false w args ∧ laidMet Tryz.prog laidRows w) ∧ sizedMet enc Tryz.prog Tryz.f7 (OpenSpec.ofChange Rows.refsBackSpec) false w args) (Rows.refsBackSpec.post enc Tryz.prog Tryz.f7 false true false false) := by
  refine returnsInHanded_of_change_and (C := Tryz.checked) (X := fun w _ => laidMet Tryz.prog laidRows w) (fun _ _ _ hh h => h.of_heap hh) own started (by kernel_rfl) Tryz.func7
    (ChangeSpec.witness_at (enc := enc) (C := Tryz.checked) (os := os) (X := fun w _ => laidMet Tryz.prog laidRows w) false (laidWorld os) #[.slice none 0 0, .slice none 0 0, .string ⟨#[]⟩, .int .i64 0] 8 rfl (by kernel_rfl) (by kernel_rfl) (by kernel_rfl) (by kernel_rfl) (by kernel_rfl) (laidWorld_met os _)) ?_
  intro W base args ds gs before hval0 hW hcnd _ hlaid _
  have hval : ∀ (j : Nat) t v, Tryz.f7.params[j]? = some t → args[j]? = some v → Value.okWide Tryz.prog W .any base t v := hval0
  have hW' := hW
  obtain ⟨p, q, hA0, hV, rfl, hfz, hnd⟩ := hW
  have hA : DataW.TrodAll enc Tryz.prog W 0 (fun _ => true) true Tryz.f7.params.toList args.toList ds p := hA0
  rw [Tryz.params7] at hA hval
  obtain ⟨v0, vs0, d0, ds0, p0, q0, hargs, rfl, rfl, h0, r0x⟩ := trodAll_cons hA
  obtain ⟨v1, vs1, d1, ds1, p1, q1, rfl, rfl, rfl, h1, r1x⟩ := trodAll_cons r0x
  obtain ⟨v2, vs2, d2, ds2, p2, q2, rfl, rfl, rfl, h2, r2x⟩ := trodAll_cons r1x
  obtain ⟨v3, vs3, d3, ds3, p3, q3, rfl, rfl, rfl, h3, r3x⟩ := trodAll_cons r2x
  obtain ⟨rfl, rfl, rfl⟩ := trodAll_nil r3x
  obtain rfl : args = #[v0, v1, v2, v3] := by cases args; simp_all
  obtain ⟨rfl, rfl⟩ := trodVars_none hV
  have lt0 : ∀ x ∈ p0, x.block < W.heap.size := by obtain ⟨m, hm⟩ := h0; exact DataW.trod_lt m _ _ _ hm
  obtain ⟨a0, len0, cap0, rfl⟩ := okWide_slice Tryz.underlying68 (hval 0 68 v0 rfl rfl)
  obtain ⟨z0, w0, le0, bd0, gd0⟩ := open_sl Tryz.underlying68 (by kernel_rfl) (decStr Tryz.underlying9) h0
  have lt1 : ∀ x ∈ p1, x.block < W.heap.size := by obtain ⟨m, hm⟩ := h1; exact DataW.trod_lt m _ _ _ hm
  obtain ⟨a1, len1, cap1, rfl⟩ := okWide_slice Tryz.underlying69 (hval 1 69 v1 rfl rfl)
  obtain ⟨z1, w1, le1, bd1, gd1⟩ := open_sl Tryz.underlying69 (by kernel_rfl) decId h1
  have lt2 : ∀ x ∈ p2, x.block < W.heap.size := by obtain ⟨m, hm⟩ := h2; exact DataW.trod_lt m _ _ _ hm
  obtain ⟨s2, rfl⟩ := okWide_string Tryz.underlying9 (hval 2 9 v2 rfl rfl)
  have ss2 := open_str Tryz.underlying9 h2
  have lt3 : ∀ x ∈ p3, x.block < W.heap.size := by obtain ⟨m, hm⟩ := h3; exact DataW.trod_lt m _ _ _ hm
  obtain ⟨n3, rfl⟩ := okWide_int Tryz.underlying3 (hval 3 3 v3 rfl rfl)
  have r3 := open_int Tryz.underlying3 h3
  clear hA0 hval0
  refine (calls_of_HC (back_spec (h := W.heap) (d := s2) (dr := n3) w0 w1 bd0 bd1)).mono fun e W' ⟨he, bel⟩ => ?_
  subst he
  exact ⟨_, rfl, _, _, _, [], _, [], hW', trodAll_mk1 (shut_bool Tryz.underlying4 _), (trodAll_cons_mk (Below.trod laidOut (by kernel_rfl) (of_decide_eq_true (by kernel_rfl)) h0 bel lt0) (trodAll_cons_mk (Below.trod laidOut (by kernel_rfl) (of_decide_eq_true (by kernel_rfl)) h1 bel lt1) (trodAll_cons_mk (Below.trod laidOut (by kernel_rfl) (of_decide_eq_true (by kernel_rfl)) h2 bel lt2) (trodAll_cons_mk (Below.trod laidOut (by kernel_rfl) (of_decide_eq_true (by kernel_rfl)) h3 bel lt3) trodAll_mk0)))), rfl, bel.frame _, fun h => by cases h⟩

theorem fIn : Tryz.prog.inPlace 7 = Rows.refsBackRow.inPlace := by kernel_rfl
theorem fUn : Tryz.prog.unfollowed 7 = Rows.refsBackRow.unfollowed := by kernel_rfl
theorem fRe : Tryz.prog.recurses 7 = Rows.refsBackRow.recurses := by kernel_rfl
theorem fVa : Tryz.prog.varsNamed 7 = Rows.refsBackRow.named := by kernel_rfl
theorem facts : joinedFacts Tryz.prog 7 Tryz.f7 Rows.refsBackSpec Rows.refsBackRow = true := by
  unfold joinedFacts
  rw [fIn, fUn, fRe, fVa]
  kernel_rfl
theorem over : Rows.refsBackRow.holds Tryz.pinned (OpenSpec.ofChange Rows.refsBackSpec) :=
  OpenClaim.holds_of_wide 7 Tryz.f7 rfl rfl rfl rfl rfl rfl rfl ⟨rfl, rfl, rfl, rfl, rfl⟩ rfl rfl rfl rfl rfl (by kernel_rfl) Tryz.func7 facts
    (of_decide_eq_true (by kernel_rfl)) (by unfold Func.isWrapper; first | (rw [if_pos (by decide +kernel)]; kernel_rfl) | (rw [if_neg (by decide +kernel)]; exact ⟨rfl, rfl⟩))
    (fun os started H enc _ => lifted os started H enc)

theorem wfT : Rows.refsBackRow.wfByText (OpenSpec.ofChange Rows.refsBackSpec) = true := by kernel_rfl
theorem goesT : false = Rows.refsBackRow.goesBy Tryz.prog := by kernel_rfl
theorem looksT : true = Tryz.prog.looks [] := by kernel_rfl
theorem nameT : Tryz.prog.funcNamed Rows.refsBackRow.func = some 7 := by kernel_rfl
/-- THE STATEMENT -/
theorem proved : Rows.RefsBackCardSaid :=
  Claim7.holds_tied_plain_at .later [] [.data, .data, .data, .sentinel, .sentinel] true Rows.refsBackCard.stood.harness true over (fun _ h => by cases h) wfT (fun _ h => by cases h) refsBack_row_tie rfl ⟨rfl, rfl⟩ (by kernel_rfl) rfl
    (fun f fn hf hfn => by
      obtain rfl : f = 7 := Option.some.inj (nameT.symm.trans hf) |>.symm
      obtain rfl : fn = Tryz.f7 := (Option.some.inj (Tryz.func7.symm.trans hfn)).symm
      exact ⟨looksT, fun j t ht => by
        rw [Tryz.params7] at ht
        have hm := Array.mem_of_getElem? ht
        have hall : ∀ t ∈ #[68, 69, 9, 3], Tryz.prog.wantsStandIn t = false := by
          intro t ht
          simp only [List.mem_toArray, List.mem_cons, List.not_mem_nil, or_false] at ht
          rcases ht with rfl | rfl | rfl | rfl <;> kernel_rfl
        exact hall t hm⟩)
    goesT
#print axioms proved
end Go.Proofs.YtmdcfmhkfomoaaaGreatDoor.refsBack
