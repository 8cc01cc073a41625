/-
  maps.Clone at the disk's two map types, off the shelf's contract. Conditions: none.
-/
import Derived.Shelf.SlMaps.Clone
import Derived.Ground.SlmcProg
import Derived.Test.YtembbemljejjbaaProg
namespace Go.Proofs
open Go.RowKit Go.Maps Go.Shelf

section
open Go.Shelf
def Try.cloneC_ren : Go.Shelf.Ren := ⟨fun | 5 => 88 | 7 => 118 | n => n, fun | 23 => 84 | 25 => 9 | 3 => 3 | 4 => 4 | 20 => 20 | n => n, fun | n => n⟩
theorem Try.cloneC : Go.Proofs.SlLaysW.n5 Try.prog Try.cloneC_ren := {
  mixed := by kernel_rfl
  f5 := ⟨Try.f88.name, by decide, Try.func88.trans (congrArg some (by kernel_rfl))⟩
  f7 := Try.func118.trans (congrArg some (by kernel_rfl))
  t4 := Try.underlying4
  a4 := Try.isAgg4
  z4 := Try.sizeOf4
  v4 := Try.zeroValue4
  t20 := Try.underlying20
  a20 := Try.isAgg20
  z20 := Try.sizeOf20
  v20 := Try.zeroValue20
  t23 := Try.underlying84
  a23 := Try.isAgg84
  z23 := Try.sizeOf84
  v23 := Try.zeroValue84 }
end
section
open Go.Shelf
def Try.cloneP_ren : Go.Shelf.Ren := ⟨fun | 5 => 89 | 7 => 118 | n => n, fun | 23 => 85 | 25 => 94 | 3 => 96 | 4 => 4 | 20 => 20 | n => n, fun | n => n⟩
theorem Try.cloneP : Go.Proofs.SlLaysW.n5 Try.prog Try.cloneP_ren := {
  mixed := by kernel_rfl
  f5 := ⟨Try.f89.name, by decide, Try.func89.trans (congrArg some (by kernel_rfl))⟩
  f7 := Try.func118.trans (congrArg some (by kernel_rfl))
  t4 := Try.underlying4
  a4 := Try.isAgg4
  z4 := Try.sizeOf4
  v4 := Try.zeroValue4
  t20 := Try.underlying20
  a20 := Try.isAgg20
  z20 := Try.sizeOf20
  v20 := Try.zeroValue20
  t23 := Try.underlying85
  a23 := Try.isAgg85
  z23 := Try.sizeOf85
  v23 := Try.zeroValue85 }
end
theorem Try.cloneC_calls (b : Nat) (es : Array MapEntry) (clock : Nat) (w : World) (hb : w.heap[b]? = some (.map es clock)) :
    Calls Try.prog 88 #[.map (some b)] w fun e w' => e = .returned (.map (some w.heap.size)) ∧ w' = w.alloc (.map es clock) := AnyW.maps_Clone Try.cloneC b es clock w hb
theorem Try.cloneP_calls (b : Nat) (es : Array MapEntry) (clock : Nat) (w : World) (hb : w.heap[b]? = some (.map es clock)) :
    Calls Try.prog 89 #[.map (some b)] w fun e w' => e = .returned (.map (some w.heap.size)) ∧ w' = w.alloc (.map es clock) := AnyW.maps_Clone Try.cloneP b es clock w hb
end Go.Proofs
