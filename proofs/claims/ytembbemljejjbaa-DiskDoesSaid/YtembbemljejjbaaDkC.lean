/-
  maps.Clone at the disk's two map types, off the shelf's contract. Conditions: none.
-/
import Derived.Shelf.SlMaps.Clone
import Derived.Ground.SlmcProg
import Derived.Test.YtembbemljejjbaaProg
namespace Go.Proofs
open Go.RowKit Go.Maps Go.Shelf

shelf_lay_g SlLaysW.n5 Slmc 5 at Try 88 as Try.cloneC
shelf_lay_g SlLaysW.n5 Slmc 5 at Try 89 as Try.cloneP
theorem Try.cloneC_calls (b : Nat) (es : Array MapEntry) (clock : Nat) (w : World) (hb : w.heap[b]? = some (.map es clock)) :
    Calls Try.prog 88 #[.map (some b)] w fun e w' => e = .returned (.map (some w.heap.size)) ∧ w' = w.alloc (.map es clock) := AnyW.maps_Clone Try.cloneC b es clock w hb
theorem Try.cloneP_calls (b : Nat) (es : Array MapEntry) (clock : Nat) (w : World) (hb : w.heap[b]? = some (.map es clock)) :
    Calls Try.prog 89 #[.map (some b)] w fun e w' => e = .returned (.map (some w.heap.size)) ∧ w' = w.alloc (.map es clock) := AnyW.maps_Clone Try.cloneP b es clock w hb
end Go.Proofs
