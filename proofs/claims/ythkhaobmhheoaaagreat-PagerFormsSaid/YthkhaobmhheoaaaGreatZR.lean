/-
  Texts of this seat, laid one behind the other: PgR1. Conditions: none.
-/
import Derived.RangeFuncBox
import Derived.RangeFuncLeaves
import Derived.Shelf.Abstract
import Derived.WalkKit
import Derived.OwnWalkIn
import Derived.TacticsInMore
import Derived.RegionIn
import Derived.Deep.RegionWith
import Derived.LoopNIn
import Derived.LoopIn
import Derived.Test.YthkhaobmhheoaaaGreatZA
section
namespace Go.Proofs
open Go.RowKit Go.Shelf

attribute [local go_sem] Oper.semAt_some

def isB : Option Value → Bool
  | some (.int .u8 _) => true
  | _ => false
def ofB : Option Value → ByteArray
  | some (.int .u8 n) => ⟨#[UInt8.ofNat n.toNat]⟩
  | _ => ⟨#[]⟩
theorem isB_some (n : Int) : isB (some (.int .u8 n)) = true := rfl
theorem ofB_some (n : Int) : ofB (some (.int .u8 n)) = ⟨#[UInt8.ofNat n.toNat]⟩ := rfl
theorem conv1 (w : World) (p : Addr) (h : isB (w.cell? p) = true) : (convert 22 9 (.slice (some p) 1 1)).run Tryz.prog w = .ok (.string (ofB (w.cell? p))) w := by
  cases hc : w.cell? p with
  | none => rw [hc] at h; cases h
  | some v =>
    rw [hc] at h
    cases v <;> try (cases h; done)
    rename_i k n
    cases k <;> try (cases h; done)
    rw [run_convert_bytes_string w 22 9 5 (some p) 1 1 YthkhaobmhheoaaaGreat.undBs YthkhaobmhheoaaaGreat.undB YthkhaobmhheoaaaGreat.undS]
    have hl := run_loadCells_list (P := Tryz.prog) w p ([n].map (Value.int .u8)) (fun j v hj => by
      match j, hj with
      | 0, hj =>
        have e : p.add 0 = p := by unfold Addr.add; split <;> simp_all
        simp at hj
        subst hj
        rw [e]; exact hc
      | j + 1, hj => simp at hj)
    rw [run_bytesToString w p 1 1 [n] hl]
    rfl
theorem calm_cells {w w' : World} (h : Go.Vc.Calm w w') : ∀ p : Addr, p.block < w.heap.size → w'.cell? p = w.cell? p := fun p hp => Go.Vc.cell_congr (h.block p.block hp)
theorem calm_refl (w : World) : Go.Vc.Calm w w := ⟨rfl, rfl, rfl, Nat.le_refl _, fun _ _ => rfl⟩
theorem calm_alloc {w w' : World} (h : Go.Vc.Calm w w') (o : Obj) : Go.Vc.Calm w (w'.alloc o) :=
  ⟨h.tape, h.os, h.output, Nat.le_trans h.size (by show w'.heap.size ≤ (w'.heap.push o).size; simp), fun b hb => by
    show (w'.heap.push o)[b]? = _
    rw [Array.getElem?_push, if_neg (by have := h.size; omega)]
    exact h.block b hb⟩
theorem calm_drew {w w' : World} (h : Go.Vc.Calm w w') : Go.Vc.Calm w w'.drew := ⟨h.tape, h.os, h.output, h.size, h.block⟩
theorem calm_trans {a b c : World} (h : Go.Vc.Calm a b) (k : Go.Vc.Calm b c) : Go.Vc.Calm a c :=
  ⟨k.tape.trans h.tape, k.os.trans h.os, k.output.trans h.output, Nat.le_trans h.size k.size, fun q hq => (k.block q (Nat.lt_of_lt_of_le hq h.size)).trans (h.block q hq)⟩
attribute [local go_sem] conv1 isB_some ofB_some

set_option maxRecDepth 100000 in
set_option maxHeartbeats 2000000 in
theorem Tryz.ruint (x : Nat) : x < 18446744073709551616 → ∀ W : World, Calls Tryz.prog 83 #[.int .u64 x] W fun e W' => e = .returned (.string ⟨(Go.Cd.uintB x).toArray⟩) ∧ Go.Vc.Calm W W' := by
  induction x using Nat.strongRecOn with | ind x ih => 
  intro hx W
  by_cases hlt : x < 128
  · go_enter Tryz.func83, Tryz.ntmps83
    go_wp2
    go_ret
    refine ⟨?_, calm_alloc (calm_refl _) _⟩
    rw [Go.Cd.uintB_small hlt]; rfl
  · obtain ⟨R, hR⟩ : ∃ R : ByteArray, R = ⟨(Go.Cd.uintB (x / 128)).toArray⟩ := ⟨_, rfl⟩
    have ih' : ∀ W : World, Calls Tryz.prog 83 #[.int .u64 (IntKind.u64.wrap ((x : Int) / 128))] W fun e W' => e = .returned (.string R) ∧ Go.Vc.Calm W W' := by
      have e : IntKind.u64.wrap ((x : Int) / 128) = ((x / 128 : Nat) : Int) := by
        have : (x : Int) / 128 = ((x / 128 : Nat) : Int) := by omega
        rw [this]
        simp [IntKind.wrap, IntKind.signed, IntKind.bits]; omega
      rw [e, hR]
      exact ih (x / 128) (by omega) (by omega)
    have hs : R.size ≤ 10 := by
      rw [hR]
      have := Go.Cd.uintB_len10 (n := x / 128) (by omega)
      show (Go.Cd.uintB (x / 128)).toArray.size ≤ 10
      rw [List.size_toArray]; exact this
    have h1 : (1 : Int) + (R.size : Int) ≤ 9223372036854775807 := by omega
    have h2 : 1 + R.size ≤ 9223372036854775807 := by omega
    have h3 : ¬ (9223372036854775807 < (1 : Int) + (R.size : Int)) := by omega
    have key : ((⟨#[UInt8.ofNat (128 + x % 128)]⟩ : ByteArray) ++ R) = ⟨(Go.Cd.uintB x).toArray⟩ := by
      rw [Go.Cd.uintB_big hlt, hR]
      apply ByteArray.ext
      rw [ByteArray.data_append, Nat.add_comm]
      simp
    rw [← key]
    clear ih hR key
    go_enter Tryz.func83, Tryz.ntmps83
    go_wp2
    go_region_with (go_at_call 83; refine (ih' _).mono ?_; rintro e w' ⟨rfl, hc⟩; have hcc := calm_cells hc)
    all_goals go_wp2
    all_goals go_ret
    · exact ⟨by simp [Act.put], calm_trans (calm_drew (calm_alloc (calm_refl _) _)) hc⟩
    · exact ⟨by simp [Act.put], calm_trans (calm_drew (calm_alloc (calm_refl _) _)) hc⟩
    · exact ⟨by simp [Act.put], calm_alloc (calm_trans (calm_drew (calm_refl _)) hc) _⟩
end Go.Proofs
end
