/-
  What turns, apart from the machine's own blocks. Conditions: none.
-/
import Derived.Test.YtcihjdalokaokaaGreatDoorVcX
import Derived.Test.YtcihjdalokaokaaGreatDoorVcE
set_option linter.unusedSimpArgs false
set_option linter.unusedVariables false
namespace Go.Vc
open Go

/-- only blocks of S have turned, or the machine's own; others may have come. -/
structure UpdM (S : Nat → Prop) (h h' : Heap) : Prop where
  size : h.size ≤ h'.size
  stay : ∀ (q : Nat) (o : Obj), h[q]? = some o → isMark o = false → ¬ S q → h'[q]? = some o
section
variable {S T : Nat → Prop} {h h' a b c : Heap}
theorem Upd.m (u : Upd S h h') : UpdM S h h' := ⟨u.size, fun q o hq _ hs => u.at hq hs⟩
theorem Keep.m (k : Keep h.size h h') : UpdM S h h' := (k.upd S).m
theorem Turn.m (t : Turn h h') : UpdM S h h' := ⟨t.size, fun q o hq hm _ => t.stay q o hq hm⟩
theorem UpdM.turn (u : UpdM S h h') (hS : ∀ q, q < h.size → ¬ S q) : Turn h h' := ⟨u.size, fun q o hq hm => u.stay q o hq hm (hS q (at_lt hq))⟩
theorem UpdM.refl (S : Nat → Prop) (h : Heap) : UpdM S h h := ⟨Nat.le_refl _, fun _ _ hq _ _ => hq⟩
theorem UpdM.trans (u : UpdM S a b) (v : UpdM S b c) : UpdM S a c := ⟨Nat.le_trans u.size v.size, fun q o hq hm hs => v.stay q o (u.stay q o hq hm hs) hm hs⟩
theorem UpdM.of_sub (u : UpdM S h h') (hs : ∀ q, q < h.size → S q → T q) : UpdM T h h' := ⟨u.size, fun q o hq hm ht => u.stay q o hq hm fun s => ht (hs q (at_lt hq) s)⟩
theorem UpdM.mono (u : UpdM S h h') (hs : ∀ q, S q → T q) : UpdM T h h' := u.of_sub fun q _ => hs q
theorem UpdM.trans' (u : UpdM S a b) (v : UpdM T b c) (hs : ∀ q, q < a.size → T q → S q) : UpdM S a c := ⟨Nat.le_trans u.size v.size, fun q o hq hm ht => v.stay q o (u.stay q o hq hm ht) hm fun t => ht (hs q (at_lt hq) t)⟩
theorem UpdM.cells (u : UpdM S h h') {q : Nat} {cs : Array Value} {t : TypeId} {f : Nat × Nat} (hq : h[q]? = some (.cells cs t f)) (hs : ¬ S q) : h'[q]? = some (.cells cs t f) := u.stay q _ hq rfl hs
theorem UpdM.cell (u : UpdM S h h') {p : Addr} {v : Value} (hc : Vc.cell h p = some v) (hs : ¬ S p.block) : Vc.cell h' p = some v := by
  have hc0 := hc
  unfold Vc.cell at hc
  cases hb : h[p.block]? with
  | none => rw [hb] at hc; cases hc
  | some o =>
    rw [hb] at hc
    cases o with
    | cells cs t f =>
      have := u.cells hb hs
      unfold Vc.cell
      rw [this]; exact hc
    | _ => cases hc
theorem Sl.updM {α : Type} {E : Enc α} {x : Option Addr} {n : Nat} {xs : List α} (hs : Sl E h x n xs) (u : UpdM S h h') (hS : n ≠ 0 → ∀ b, blk x b → ¬ S b) : Sl E h' x n xs :=
  ⟨hs.1, by
    by_cases hn : n = 0
    · exact .inl (List.eq_nil_of_length_eq_zero (by rw [hs.1]; exact hn))
    · exact hs.2.imp id fun ⟨p, e, hp⟩ => ⟨p, e, fun i x hx j v hv => u.cell (hp i x hx j v hv) (by rw [Addr.add_block]; exact hS hn _ ⟨p, e, rfl⟩)⟩⟩
theorem Own.updM {α : Type} {E : Enc α} {t : TypeId} {B : Nat} {x : Option Addr} {n c : Nat} {xs : List α} (ho : Own E t B h x n c xs) (u : UpdM S h h') (hs : ∀ b, blk x b → ¬ S b) : Own E t B h' x n c xs := by
  obtain ⟨hl, hc, hr⟩ := ho
  refine ⟨hl, hc, hr.imp id ?_⟩
  rintro ⟨b, cells, rfl, hB, hb, rest⟩
  exact ⟨b, cells, rfl, hB, u.cells hb (hs b ⟨_, rfl, rfl⟩), rest⟩
theorem MapAt.updM {κ ν : Type} [DecidableEq κ] {P : Program} {t kt et : TypeId} {M : Mk P t kt et κ ν} {r : Nat} {m : List (κ × ν)} (hm : MapAt M h r m) (u : UpdM S h h') (hs : ¬ S r) : MapAt M h' r m := by
  obtain ⟨es, clock, hb, rest⟩ := hm; exact ⟨es, clock, u.stay _ _ hb rfl hs, rest⟩
end
end Go.Vc
