/-
  Texts of this seat, laid one behind the other: PgC. Conditions: none.
-/
import Derived.RangeFuncBox
import Derived.RangeFuncLeaves
import Derived.Shelf.Abstract
import Derived.WalkKit
import Derived.OwnWalkIn
import Derived.TacticsInMore
import Derived.LoopNIn
import Derived.LoopIn
import Derived.Test.YthkhaobmhheoaaaGreatZA
section
namespace Go.Proofs
open Go.RowKit Go.Shelf

attribute [local go_sem] Oper.semAt_some

set_option maxRecDepth 100000 in
set_option maxHeartbeats 2000000 in
theorem Tryz.chunk1_in (l B1 B2 : Nat) (p : Addr) (len cap : Nat) (hlen : len ≤ 1073741824) (hcap : len ≤ cap) (J : Nat → World → Prop) (Jx : World → Prop)
    (hJ : ∀ k W, J k W → W.cell? ⟨B1, 0, none⟩ = some (.slice (some p) len cap) ∧ W.cell? ⟨B2, 0, none⟩ = some (.int .i64 512))
    (hY : ∀ k W, J k W → 512 * k < len → YieldAt Fence.wide 0 Tryz.prog l #[.slice (some (p.add (512 * k))) (min 512 (len - 512 * k)) (min 512 (len - 512 * k))] W fun e W' =>
      (e = .returned (.bool true) ∧ J (k + 1) W') ∨ (e = .returned (.bool false) ∧ Jx W'))
    (hJd : ∀ k W, J k W → J k W.drew) (W : World) (h0 : J 0 W) :
    CallsIn Fence.wide 1 Tryz.prog 109 #[.func (.yield l) #[] #[], .pointer (some ⟨B1, 0, none⟩), .pointer (some ⟨B2, 0, none⟩)] W fun e W' => (∃ v, e = .returned v) ∧ (J ((len + 511) / 512) W' ∨ Jx W') := by
  refine callsIn_of_wp Tryz.func109 rfl trivial ?_ rfl
  simp only [Tryz.ntmps109, List.size_toArray, List.length_cons, List.length_nil, Nat.reduceAdd, Nat.reduceSub, Array.replicate_succ, Array.replicate_zero, List.push_toArray, List.append_toArray, List.nil_append, List.cons_append]
  gi_wp2
  gi_loopw [4] (fun i wr => ∃ k : Nat, 512 * k < len + 512 ∧ i = .int .i64 ((512 * k : Nat) : Int) ∧ J k wr) (fun i _ => len + 512 - (intOf i).toNat)
  case atStart => exact ⟨0, by omega, rfl, h0⟩
  case round =>
    obtain ⟨k, hk, rfl, hJs⟩ := hrel
    obtain ⟨hc1, hc2⟩ := hJ k wr hJs
    by_cases hlt : 512 * k < len
    · gi_wp2
      gi_region
      have hif : (if ((len - 512 * k : Nat) : Int) < 512 then ((len - 512 * k : Nat) : Int) else 512) = ((min 512 (len - 512 * k) : Nat) : Int) := by split <;> omega
      have hif2 : min (512 : Int) ((len - 512 * k : Nat) : Int) = ((min 512 (len - 512 * k) : Nat) : Int) := by omega
      first | rw [hif] | rw [hif2]
      obtain ⟨fn, tmps, assign, body, hy, hR⟩ := hY k wr.drew (hJd k wr hJs) hlt
      obtain ⟨hd1, hd2⟩ := hJ k wr.drew (hJd k wr hJs)
      generalize he : min 512 (len - 512 * k) = e at hy hR
      have he1 : 512 * k + e ≤ len := by omega
      have he2 : 0 < e := by omega
      gi_wp2
      refine hR.mono ?_
      rintro e' W3 (⟨rfl, hJ3⟩ | ⟨rfl, hJx3⟩)
      · obtain ⟨hc1', hc2'⟩ := hJ _ _ hJ3
        gi_wp2
        go_roundw
        case rel => exact ⟨k + 1, by omega, by simp; omega, hJ3⟩
        case measure => simp [intOf]; omega
      · gi_wp2
        refine bodyPost_ret (results_none rfl _ _ _) rfl ?_
        exact ⟨⟨_, rfl⟩, .inr hJx3⟩
    · obtain rfl : k = (len + 511) / 512 := by omega
      gi_wp2
      go_end0
      exact ⟨⟨_, rfl⟩, .inl hJs⟩
end Go.Proofs
namespace Go.Proofs.YthkhaobmhheoaaaGreat
open Go Go.Vc Go.Proofs

/-- the parts of a slice. -/
def parts (p : Addr) (n : Nat) : List (Option Addr × Nat × Nat) := (List.range ((n + 511) / 512)).map fun k => (some (p.add (512 * k)), min 512 (n - 512 * k), min 512 (n - 512 * k))
theorem parts_len (p : Addr) (n : Nat) : (parts p n).length = (n + 511) / 512 := by simp [parts]
theorem parts_at {p : Addr} {n k : Nat} (hk : 512 * k < n) : (parts p n)[k]? = some (some (p.add (512 * k)), min 512 (n - 512 * k), min 512 (n - 512 * k)) := by
  unfold parts
  rw [List.getElem?_map, List.getElem?_range (by omega)]; rfl
/-- the iterator's two boxes. -/
def ChunkC (B1 B2 : Nat) (p : Addr) (n c : Nat) (H : Heap) : Prop :=
  H[B1]? = some (.cells #[.slice (some p) n c] 22 (0, 0)) ∧ H[B2]? = some (.cells #[.int .i64 512] 3 (0, 0))
theorem ChunkC.turn {B1 B2 : Nat} {p : Addr} {n c : Nat} {h h' : Heap} (hc : ChunkC B1 B2 p n c h) (t : Turn h h') : ChunkC B1 B2 p n c h' := ⟨t.stay _ _ hc.1 rfl, t.stay _ _ hc.2 rfl⟩
theorem roundIn_any {n m : Nat} {P : Program} {l : Nat} {f : FuncId} {tmps : Array Value} {assign body : Code} {w : World} {R : Ending → World → Prop} (h : RoundIn Fence.wide n P l f tmps assign body w R) : RoundIn Fence.wide m P l f tmps assign body w R :=
  ⟨h.1, fun c cs _ => h.2 c cs (room_wide _)⟩
theorem yieldAt_any {n m : Nat} {P : Program} {l : Nat} {args : Array Value} {w : World} {R : Ending → World → Prop} (h : YieldAt Fence.wide n P l args w R) : YieldAt Fence.wide m P l args w R :=
  let ⟨fn, tmps, a, b, h1, h2⟩ := h; ⟨fn, tmps, a, b, h1, roundIn_any h2⟩
theorem chunk_gives {B1 B2 : Nat} {p : Addr} {n c : Nat} (hn : n ≤ 1073741824) (hc : n ≤ c) :
    Gives Tryz.prog (.func (.func 109) #[] #[.pointer (some ⟨B1, 0, none⟩), .pointer (some ⟨B2, 0, none⟩)]) (ChunkC B1 B2 p n c) (parts p n) := by
  refine ⟨109, _, rfl, enters_of Tryz.func109 (by kernel_rfl) rfl, fun m l J Jx W hJ hJx hC hY h0 => ?_⟩
  refine ((callsIn_wide (n := 1)).1 (Tryz.chunk1_in l B1 B2 p n c hn hc J Jx (fun k W hj => ?_) (fun k W hj hlt => ?_) (fun k W hj => hJ k W _ hj ⟨rfl, rfl, rfl, Nat.le_refl _, fun _ _ => rfl⟩) W h0)).mono ?_
  · obtain ⟨h1, h2⟩ := hC k W hj
    rw [cell_eq, cell_eq, cell_at h1, cell_at h2]
    exact ⟨rfl, rfl⟩
  · exact yieldAt_any (hY k _ W hj (parts_at hlt))
  · rintro e W' ⟨he, h⟩
    rw [parts_len]
    exact ⟨he, h⟩
theorem chunk_spec {h : Heap} {p : Addr} {n c : Nat} :
    HC Tryz.prog 70 #[.slice (some p) n c, .int .i64 512] h fun v h' => Keep h.size h h' ∧ h'.size = h.size + 2 ∧ v = .func (.func 109) #[] #[.pointer (some ⟨h.size, 0, none⟩), .pointer (some ⟨h.size + 1, 0, none⟩)] ∧ ChunkC h.size (h.size + 1) p n c h' := by
  refine HC_of_vc (args := [.slice (some p) n c, .int .i64 512]) (base := 9) (cuts := []) (bigs := []) hm Tryz.func70 ?_
  rw [vcChunk]
  simp only [Array.size_push]
  refine ⟨512, reads_load scI (cell_cells0 (push2_1 _ _ _) rfl), br_intro (fun e => by cases e) fun _ => ⟨(keep_push h _).trans (Keep.push _ _ _ (by simp)), by simp, trivial, push2_0 _ _ _, push2_1 _ _ _⟩⟩
end Go.Proofs.YthkhaobmhheoaaaGreat
end
