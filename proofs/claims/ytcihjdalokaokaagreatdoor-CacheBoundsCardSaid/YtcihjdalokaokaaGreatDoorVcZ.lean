/-
  Methods of what an interface value holds. Conditions: none.
-/
import Derived.Test.YtcihjdalokaokaaGreatDoorVcE
set_option linter.unusedSimpArgs false
set_option linter.unusedVariables false
namespace Go.Vc
open Go

/-- a method with a value's receiver, of a type's own. -/
def methB (P : Program) (t : TypeId) (name : String) (f : Nat) : Bool :=
  (match P.info? t with
    | some i => match i.methods.find? (·.name == name) with
      | some m => m.path.isEmpty && (match m.func with | some (g, false) => Nat.beq g f | _ => false)
      | none => false
    | none => false) && (match P.underlying t with | some (.pointer _) => false | some _ => true | none => false) && fnOk P f
theorem meth_val {P : Program} {t : TypeId} {v : Value} {name : String} {f : Nat} (h : methB P t name f = true) : Meth P (.iface t v) name f v := by
  unfold methB at h
  simp only [Bool.and_eq_true] at h
  obtain ⟨⟨h1, h2⟩, h3⟩ := h
  cases hi : P.info? t with
  | none => simp [hi] at h1
  | some i =>
    simp only [hi] at h1
    cases hm : i.methods.find? (·.name == name) with
    | none => simp [hm] at h1
    | some m =>
      simp only [hm, Bool.and_eq_true] at h1
      obtain ⟨hp, hf⟩ := h1
      have hp : m.path = #[] := by simpa using hp
      have hf : m.func = some (f, false) := by
        cases hfu : m.func with
        | none => simp [hfu] at hf
        | some q =>
          obtain ⟨g, b⟩ := q
          cases b with
          | true => simp [hfu] at hf
          | false => simp only [hfu] at hf; rw [Nat.eq_of_beq_eq_true hf]
      unfold fnOk at h3
      cases hfn : P.funcs[f]? with
      | none => simp [hfn] at h3
      | some fn =>
        simp only [hfn, Bool.and_eq_true, Bool.not_eq_true', beq_eq_false_iff_ne] at h3
        obtain ⟨h4, h5⟩ := h3
        cases hb : fn.body with
        | none => rw [hb] at h5; simp at h5
        | some body =>
          refine ⟨fun w args => ?_⟩
          have hfuel : ∃ n, P.types.size + Made.depth = n + 1 := by
            refine ⟨P.types.size + Made.depth - 1, ?_⟩
            have : 0 < P.types.size + Made.depth := Nat.lt_of_lt_of_le (by decide : 0 < Made.depth) (Nat.le_add_left _ _)
            omega
          obtain ⟨n, hn⟩ := hfuel
          have hu : ∃ d, P.underlying t = some d ∧ ∀ e, d ≠ .pointer e := by
            cases hd : P.underlying t with
            | none => simp [hd] at h2
            | some d => exact ⟨d, rfl, fun e he => by subst he; simp [hd] at h2⟩
          obtain ⟨d, hd, hne⟩ := hu
          have hr : ∀ x, (receiverAt t (.val v) false x).run P w = .ok v w := fun x => by
            have hru := run_underlying hd w
            unfold receiverAt
            cases d <;> simp [hru, Place.get] at hne ⊢
          have hmth : (method (n + 1) t v name).run P w = .ok (f, v) w := by
            unfold method
            simp [typeInfo, hi, hm, hp, follow, hf, hr]
          unfold callMethod
          simp [hn, hmth, callFunc, hfn, h4, hb]
end Go.Vc
