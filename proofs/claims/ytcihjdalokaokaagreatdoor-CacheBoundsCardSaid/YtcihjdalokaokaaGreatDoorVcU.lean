/-
  Rows of the call's own: an element put in its place, a tail cleared. Conditions: none.
-/
import Derived.Test.YtcihjdalokaokaaGreatDoorVcQ
set_option linter.unusedSimpArgs false
set_option linter.unusedVariables false
namespace Go.Vc
open Go

theorem putL_nil_off : ∀ (vs xs rest : List Value) (k : Nat), k = xs.length → vs.length ≤ rest.length → putL (xs ++ rest) k vs = xs ++ vs ++ rest.drop vs.length := fun vs xs rest k hk h => by
  subst hk; exact putL_prefix vs xs rest h
theorem putL_flat {α : Type} {E : Enc α} (R : List α) (rest : List Value) (i : Nat) (x : α) (hi : i < R.length) : putL (R.flatMap E.enc ++ rest) (i * E.sz) (E.enc x) = (R.set i x).flatMap E.enc ++ rest := by
  have h1 : R = R.take i ++ R[i] :: R.drop (i + 1) := by simp
  have h2 : R.set i x = R.take i ++ x :: R.drop (i + 1) := by rw [List.set_eq_take_append_cons_drop, if_pos hi]
  have hl : ((R.take i).flatMap E.enc).length = i * E.sz := by rw [flat_len, List.length_take]; congr 1; omega
  have e0 : R.flatMap E.enc = (R.take i).flatMap E.enc ++ (E.enc R[i] ++ (R.drop (i + 1)).flatMap E.enc) := by
    have := congrArg (List.flatMap E.enc) h1
    rw [List.flatMap_append, List.flatMap_cons] at this
    exact this
  have e1 : R.flatMap E.enc ++ rest = (R.take i).flatMap E.enc ++ (E.enc R[i] ++ ((R.drop (i + 1)).flatMap E.enc ++ rest)) := by
    rw [e0, List.append_assoc, List.append_assoc]
  rw [e1, putL_nil_off _ _ _ _ hl.symm (by simp [E.len]), h2]
  have e2 : (E.enc R[i] ++ ((R.drop (i + 1)).flatMap E.enc ++ rest)).drop (E.enc x).length = (R.drop (i + 1)).flatMap E.enc ++ rest := by
    rw [E.len, ← E.len R[i], List.drop_left]
  rw [e2]
  simp [List.flatMap_append, List.flatMap_cons, List.append_assoc]
theorem putL_take : ∀ (vs cs : List Value) (o : Nat), (putL cs o vs).take o = cs.take o
  | [], cs, o => rfl
  | v :: vs, cs, o => by
    have h1 := putL_take vs (cs.set o v) (o + 1)
    have : (putL (cs.set o v) (o + 1) vs).take o = ((putL (cs.set o v) (o + 1) vs).take (o + 1)).take o := by rw [List.take_take]; congr 1; omega
    show (putL (cs.set o v) (o + 1) vs).take o = cs.take o
    rw [this, h1, List.take_take, show min o (o + 1) = o by omega, List.take_set_of_le (Nat.le_refl _)]

theorem svc_clear_tail {P : Program} {t e sz : Nat} {z : Value} {ty : TypeId} {h : Heap} {b o m c : Nat} {old : Array Value} {T : TypeId} {K : Value → Heap → Prop} (hu : P.underlying t = some (.slice e)) (hz : (P.info? e).bind (·.zero) = some z)
    (hzs : z.cells.size = sz) (hone : oneCells z.cells.toList) (hb : h[b]? = some (.cells old T (0, 0))) (ho : o + m * sz ≤ old.size)
    (k : ∀ h' cells', h'.size = h.size → h'[b]? = some (.cells cells' T (0, 0)) → cells'.size = old.size → cells'.toList.take o = old.toList.take o → Upd (fun i => i = b) h h' → K (.tuple #[]) h') :
    SVC P (Builtin.clear_ #[t] ty #[.slice (some ⟨b, o, none⟩) m c]) h K := by
  refine ⟨fun w hw => ?_⟩
  subst hw
  have hzero : (zeroValue e).run P w = .ok z w := by
    cases hi : P.info? e with
    | none => simp [hi] at hz
    | some i => simp [hi] at hz; simp [zeroValue, typeInfo, hi, hz]
  cases m with
  | zero => exact ⟨.tuple #[], w, by simp [Builtin.clear_, run_underlying hu], Sane.refl w, k _ old rfl hb rfl rfl (Upd.refl _ _)⟩
  | succ m =>
    have hzc : (Builtin.zeroCells z.cells (m + 1)).size = (m + 1) * sz := by simp [Builtin.zeroCells, hzs]
    have honeZ : ∀ v ∈ (Builtin.zeroCells z.cells (m + 1)).toList, (∀ c, v ≠ .agg c) ∧ (∀ c, v ≠ .tuple c) := fun v hv => by
      simp only [Builtin.zeroCells, Array.toList_map, Array.toList_range, List.mem_map, List.mem_range] at hv
      obtain ⟨i, hi, rfl⟩ := hv
      have hp : 0 < z.cells.size := Nat.pos_of_ne_zero fun e0 => by rw [e0] at hi; omega
      have hlt : i % z.cells.size < z.cells.size := Nat.mod_lt _ hp
      rw [getElem!_pos z.cells (i % z.cells.size) hlt]
      exact hone _ (by simp)
    obtain ⟨w', cells', h1, h2, h3, h4, h5, h6, h7⟩ := run_storeCells (P := P) b T (Builtin.zeroCells z.cells (m + 1)).toList o old w 0 hb (by simp [hzc]; omega) honeZ
    refine ⟨.tuple #[], w', ?_, h2, k _ cells' h3 h4 h5 ?_ (upd_of_one h3 h7)⟩
    · simp [Builtin.clear_, run_underlying hu, hzero]
      rw [h1]; rfl
    · rw [h6]; exact putL_take _ _ _
end Go.Vc
