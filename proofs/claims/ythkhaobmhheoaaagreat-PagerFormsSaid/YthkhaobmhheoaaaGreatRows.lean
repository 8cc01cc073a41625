/-
  No cell of these rows narrows 'for every input' (looked for: loops, veiled, ifaces, maps, wideKeys, modest, calm, conditions, laid).
  DERIVED. THE GIVEN ROWS OF THIS SEAT. 8 by the template 'for every input the law returns true; each argument reads behind the call as it read before'; 0 by the template 'total and deterministic' (their statements: YthkhaobmhheoaaaGreatTotals.lean).
  GIVEN WITH THE SEED: the statements are not yours to turn. If you find one false, say at which input.
  Laid BY PROGRAM, IN A SANDBOX (cutbox-rows.mjs): the forced cells as the released guide's own fill.sh prints them over the translation f163f606952ff2c7… (all of the seat's roots in one cut). By AI agents, Wed Nov 11 2026. No macro, syntax, notation, axiom, sorry.
-/
import Derived.Test.YthkhaobmhheoaaaGreatChecked
import GoSem.Claim
import GoSem.ClaimJoined
import GoSem.ClaimMapViews
import Derived.JoinedTies
import Derived.KernelRfl
namespace Go.Proofs.YthkhaobmhheoaaaGreat
/- THE CELL 'sum', in the pinned program and in every row, IS THE sha256 OF THE DUMP (.gsa) THAT YthkhaobmhheoaaaGreatProg.lean LOADS. Nothing in Lean hashes anything: it is a label: what it is worth is what the hold of that sum in a sandbox is worth. -/
noncomputable def Tryz.pinned : Pinned := { name := "ythkhaobmhheoaaagreat", sum := "f163f606952ff2c72484a711d0a1f4f266ebfdfa8167e319fdc8c2d0b5f053cb", checked := Tryz.checked }
namespace Rows
def none {H : Type} : Left H := { results := [], args := [] }

/-- 'rootstocklaw06.PagerForms': WHATEVER THE INPUT: true; the input reads as it did. -/
def pagerFormsSpec : ChangeSpec := { name := "pagerForms", fn := fun _ => fun
  | [d1, d2] => { results := [.lit (.bool true)], args := [d1, d2] }
  | _ => none }
def pagerFormsRow : OpenClaim := { program := "ythkhaobmhheoaaagreat", sum := "f163f606952ff2c72484a711d0a1f4f266ebfdfa8167e319fdc8c2d0b5f053cb", func := "rootstock/rootstocklaw06.PagerForms", spec := "pagerForms", inPlace := ["maps.clone"], unfollowed := true, recurses := true, plainKeys := false, apart := false }
def PagerFormsSaid : Prop := pagerFormsRow.holds Tryz.pinned (OpenSpec.ofChange pagerFormsSpec)

/-- ITS FALSE NEIGHBOUR: 'it returns false'. Refute it at one input. -/
def pagerFormsWrong : ChangeSpec := { name := "pagerForms", fn := fun _ => fun
  | [d1, d2] => { results := [.lit (.bool false)], args := [d1, d2] }
  | _ => none }
def PagerFormsWrongFalsely : Prop := pagerFormsRow.holds Tryz.pinned (OpenSpec.ofChange pagerFormsWrong)

/-- 'rootstocklaw06.PagerLoses': WHATEVER THE INPUT: true; the input reads as it did. -/
def pagerLosesSpec : ChangeSpec := { name := "pagerLoses", fn := fun _ => fun
  | [d1, d2] => { results := [.lit (.bool true)], args := [d1, d2] }
  | _ => none }
def pagerLosesRow : OpenClaim := { program := "ythkhaobmhheoaaagreat", sum := "f163f606952ff2c72484a711d0a1f4f266ebfdfa8167e319fdc8c2d0b5f053cb", func := "rootstock/rootstocklaw06.PagerLoses", spec := "pagerLoses", inPlace := ["maps.clone"], unfollowed := true, recurses := true, plainKeys := false, apart := false }
def PagerLosesSaid : Prop := pagerLosesRow.holds Tryz.pinned (OpenSpec.ofChange pagerLosesSpec)

/-- ITS FALSE NEIGHBOUR: 'it returns false'. Refute it at one input. -/
def pagerLosesWrong : ChangeSpec := { name := "pagerLoses", fn := fun _ => fun
  | [d1, d2] => { results := [.lit (.bool false)], args := [d1, d2] }
  | _ => none }
def PagerLosesWrongFalsely : Prop := pagerLosesRow.holds Tryz.pinned (OpenSpec.ofChange pagerLosesWrong)

/-- 'rootstocklaw08.BtreeScans': WHATEVER THE INPUT: true; the input reads as it did. -/
def btreeScansSpec : ChangeSpec := { name := "btreeScans", fn := fun _ => fun
  | [d1, d2] => { results := [.lit (.bool true)], args := [d1, d2] }
  | _ => none }
def btreeScansRow : OpenClaim := { program := "ythkhaobmhheoaaagreat", sum := "f163f606952ff2c72484a711d0a1f4f266ebfdfa8167e319fdc8c2d0b5f053cb", func := "rootstock/rootstocklaw08.BtreeScans", spec := "btreeScans", inPlace := ["maps.clone", "slices.overlaps[string]", "slices.overlaps[int]"], unfollowed := true, recurses := true, plainKeys := false, apart := false }
def BtreeScansSaid : Prop := btreeScansRow.holds Tryz.pinned (OpenSpec.ofChange btreeScansSpec)

/-- ITS FALSE NEIGHBOUR: 'it returns false'. Refute it at one input. -/
def btreeScansWrong : ChangeSpec := { name := "btreeScans", fn := fun _ => fun
  | [d1, d2] => { results := [.lit (.bool false)], args := [d1, d2] }
  | _ => none }
def BtreeScansWrongFalsely : Prop := btreeScansRow.holds Tryz.pinned (OpenSpec.ofChange btreeScansWrong)

/-- 'rootstocklaw08.BtreeDepth': WHATEVER THE INPUT: true; the input reads as it did. -/
def btreeDepthSpec : ChangeSpec := { name := "btreeDepth", fn := fun _ => fun
  | [d] => { results := [.lit (.bool true)], args := [d] }
  | _ => none }
def btreeDepthRow : OpenClaim := { program := "ythkhaobmhheoaaagreat", sum := "f163f606952ff2c72484a711d0a1f4f266ebfdfa8167e319fdc8c2d0b5f053cb", func := "rootstock/rootstocklaw08.BtreeDepth", spec := "btreeDepth", inPlace := ["maps.clone", "slices.overlaps[string]", "slices.overlaps[int]"], unfollowed := true, recurses := true, plainKeys := false, apart := false }
def BtreeDepthSaid : Prop := btreeDepthRow.holds Tryz.pinned (OpenSpec.ofChange btreeDepthSpec)

/-- ITS FALSE NEIGHBOUR: 'it returns false'. Refute it at one input. -/
def btreeDepthWrong : ChangeSpec := { name := "btreeDepth", fn := fun _ => fun
  | [d] => { results := [.lit (.bool false)], args := [d] }
  | _ => none }
def BtreeDepthWrongFalsely : Prop := btreeDepthRow.holds Tryz.pinned (OpenSpec.ofChange btreeDepthWrong)

/-- 'rootstocklaw08.BtreeTwins': WHATEVER THE INPUT: true; the input reads as it did. -/
def btreeTwinsSpec : ChangeSpec := { name := "btreeTwins", fn := fun _ => fun
  | [d1, d2] => { results := [.lit (.bool true)], args := [d1, d2] }
  | _ => none }
def btreeTwinsRow : OpenClaim := { program := "ythkhaobmhheoaaagreat", sum := "f163f606952ff2c72484a711d0a1f4f266ebfdfa8167e319fdc8c2d0b5f053cb", func := "rootstock/rootstocklaw08.BtreeTwins", spec := "btreeTwins", inPlace := ["maps.clone", "slices.overlaps[string]", "slices.overlaps[int]"], unfollowed := true, recurses := true, plainKeys := false, apart := false }
def BtreeTwinsSaid : Prop := btreeTwinsRow.holds Tryz.pinned (OpenSpec.ofChange btreeTwinsSpec)

/-- ITS FALSE NEIGHBOUR: 'it returns false'. Refute it at one input. -/
def btreeTwinsWrong : ChangeSpec := { name := "btreeTwins", fn := fun _ => fun
  | [d1, d2] => { results := [.lit (.bool false)], args := [d1, d2] }
  | _ => none }
def BtreeTwinsWrongFalsely : Prop := btreeTwinsRow.holds Tryz.pinned (OpenSpec.ofChange btreeTwinsWrong)

/-- 'rootstocklaw08.BtreeFull': WHATEVER THE INPUT: true; the input reads as it did. -/
def btreeFullSpec : ChangeSpec := { name := "btreeFull", fn := fun _ => fun
  | [d1, d2] => { results := [.lit (.bool true)], args := [d1, d2] }
  | _ => none }
def btreeFullRow : OpenClaim := { program := "ythkhaobmhheoaaagreat", sum := "f163f606952ff2c72484a711d0a1f4f266ebfdfa8167e319fdc8c2d0b5f053cb", func := "rootstock/rootstocklaw08.BtreeFull", spec := "btreeFull", inPlace := ["maps.clone", "slices.overlaps[string]", "slices.overlaps[int]"], unfollowed := true, recurses := true, plainKeys := false, apart := false }
def BtreeFullSaid : Prop := btreeFullRow.holds Tryz.pinned (OpenSpec.ofChange btreeFullSpec)

/-- ITS FALSE NEIGHBOUR: 'it returns false'. Refute it at one input. -/
def btreeFullWrong : ChangeSpec := { name := "btreeFull", fn := fun _ => fun
  | [d1, d2] => { results := [.lit (.bool false)], args := [d1, d2] }
  | _ => none }
def BtreeFullWrongFalsely : Prop := btreeFullRow.holds Tryz.pinned (OpenSpec.ofChange btreeFullWrong)

/-- 'rootstocklaw08.BtreeLoses': WHATEVER THE INPUT: true; the input reads as it did. -/
def btreeLosesSpec : ChangeSpec := { name := "btreeLoses", fn := fun _ => fun
  | [d] => { results := [.lit (.bool true)], args := [d] }
  | _ => none }
def btreeLosesRow : OpenClaim := { program := "ythkhaobmhheoaaagreat", sum := "f163f606952ff2c72484a711d0a1f4f266ebfdfa8167e319fdc8c2d0b5f053cb", func := "rootstock/rootstocklaw08.BtreeLoses", spec := "btreeLoses", inPlace := ["maps.clone", "slices.overlaps[string]", "slices.overlaps[int]"], unfollowed := true, recurses := true, plainKeys := false, apart := false }
def BtreeLosesSaid : Prop := btreeLosesRow.holds Tryz.pinned (OpenSpec.ofChange btreeLosesSpec)

/-- ITS FALSE NEIGHBOUR: 'it returns false'. Refute it at one input. -/
def btreeLosesWrong : ChangeSpec := { name := "btreeLoses", fn := fun _ => fun
  | [d] => { results := [.lit (.bool false)], args := [d] }
  | _ => none }
def BtreeLosesWrongFalsely : Prop := btreeLosesRow.holds Tryz.pinned (OpenSpec.ofChange btreeLosesWrong)

/-- 'rootstocklaw08.BtreeDoes': WHATEVER THE INPUT: true; the input reads as it did. -/
def btreeDoesSpec : ChangeSpec := { name := "btreeDoes", fn := fun _ => fun
  | [d] => { results := [.lit (.bool true)], args := [d] }
  | _ => none }
def btreeDoesRow : OpenClaim := { program := "ythkhaobmhheoaaagreat", sum := "f163f606952ff2c72484a711d0a1f4f266ebfdfa8167e319fdc8c2d0b5f053cb", func := "rootstock/rootstocklaw08.BtreeDoes", spec := "btreeDoes", inPlace := ["maps.clone", "slices.overlaps[string]", "slices.overlaps[int]"], unfollowed := true, recurses := true, plainKeys := false, apart := false }
def BtreeDoesSaid : Prop := btreeDoesRow.holds Tryz.pinned (OpenSpec.ofChange btreeDoesSpec)

/-- ITS FALSE NEIGHBOUR: 'it returns false'. Refute it at one input. -/
def btreeDoesWrong : ChangeSpec := { name := "btreeDoes", fn := fun _ => fun
  | [d] => { results := [.lit (.bool false)], args := [d] }
  | _ => none }
def BtreeDoesWrongFalsely : Prop := btreeDoesRow.holds Tryz.pinned (OpenSpec.ofChange btreeDoesWrong)

/- THE SECOND FORM. 'bulk': how many values and letters a reading holds, each counted each time it is reached (what is shared counts as often as it is met; a slice's spare places count too). A statement '..UptoSaid' is the law's where the arguments, and the package variables that the reading takes, are together of bulk at most 1048576: NARROWER than '..Said'. Prove '..Said' where nothing that the law and all that it calls make is longer than what came in: it says more and counts as full. Else prove '..UptoSaid'. A law counts once. -/
mutual
def uptoBulk {H : Type} : DataW H → Nat
  | .lit (.string bytes) => bytes.length + 1
  | .lit _ => 1
  | .nil => 1
  | .ptr d => uptoBulk d + 1
  | .slice elems spare => uptoBulkAll elems + uptoBulkAll spare + 1
  | .agg parts => uptoBulkAll parts + 1
  | .iface _ d => uptoBulk d + 1
  | .map entries => uptoBulkEntries entries + 1
  | .held _ => 1
def uptoBulkAll {H : Type} : List (DataW H) → Nat
  | [] => 0
  | d :: r => uptoBulk d + uptoBulkAll r
def uptoBulkEntries {H : Type} : List (Lit × DataW H) → Nat
  | [] => 0
  | x :: r => uptoBulkEntry x + uptoBulkEntries r
def uptoBulkEntry {H : Type} : Lit × DataW H → Nat
  | (.string bytes, d) => bytes.length + uptoBulk d + 1
  | (_, d) => uptoBulk d + 1
 end
def uptoSmall : (H : Type) → List (DataW H) → Bool := fun _ ds => decide (uptoBulkAll ds ≤ 1048576)
def OpenSpec.upto (s : _root_.Go.ChangeSpec) : _root_.Go.OpenSpec := { _root_.Go.OpenSpec.ofChange s with cond := some uptoSmall }

/-- 'rootstocklaw06.PagerForms', WHERE WHAT IT READS IS OF BULK AT MOST 1048576: true; the input reads as it did. -/
def pagerFormsUptoRow : OpenClaim := { program := "ythkhaobmhheoaaagreat", sum := "f163f606952ff2c72484a711d0a1f4f266ebfdfa8167e319fdc8c2d0b5f053cb", func := "rootstock/rootstocklaw06.PagerForms", spec := "pagerForms", inPlace := ["maps.clone"], unfollowed := true, recurses := true, plainKeys := false, apart := false, narrowed := true }
def PagerFormsUptoSaid : Prop := pagerFormsUptoRow.holds Tryz.pinned (OpenSpec.upto pagerFormsSpec)

/-- 'rootstocklaw06.PagerLoses', WHERE WHAT IT READS IS OF BULK AT MOST 1048576: true; the input reads as it did. -/
def pagerLosesUptoRow : OpenClaim := { program := "ythkhaobmhheoaaagreat", sum := "f163f606952ff2c72484a711d0a1f4f266ebfdfa8167e319fdc8c2d0b5f053cb", func := "rootstock/rootstocklaw06.PagerLoses", spec := "pagerLoses", inPlace := ["maps.clone"], unfollowed := true, recurses := true, plainKeys := false, apart := false, narrowed := true }
def PagerLosesUptoSaid : Prop := pagerLosesUptoRow.holds Tryz.pinned (OpenSpec.upto pagerLosesSpec)

/-- 'rootstocklaw08.BtreeScans', WHERE WHAT IT READS IS OF BULK AT MOST 1048576: true; the input reads as it did. -/
def btreeScansUptoRow : OpenClaim := { program := "ythkhaobmhheoaaagreat", sum := "f163f606952ff2c72484a711d0a1f4f266ebfdfa8167e319fdc8c2d0b5f053cb", func := "rootstock/rootstocklaw08.BtreeScans", spec := "btreeScans", inPlace := ["maps.clone", "slices.overlaps[string]", "slices.overlaps[int]"], unfollowed := true, recurses := true, plainKeys := false, apart := false, narrowed := true }
def BtreeScansUptoSaid : Prop := btreeScansUptoRow.holds Tryz.pinned (OpenSpec.upto btreeScansSpec)

/-- 'rootstocklaw08.BtreeDepth', WHERE WHAT IT READS IS OF BULK AT MOST 1048576: true; the input reads as it did. -/
def btreeDepthUptoRow : OpenClaim := { program := "ythkhaobmhheoaaagreat", sum := "f163f606952ff2c72484a711d0a1f4f266ebfdfa8167e319fdc8c2d0b5f053cb", func := "rootstock/rootstocklaw08.BtreeDepth", spec := "btreeDepth", inPlace := ["maps.clone", "slices.overlaps[string]", "slices.overlaps[int]"], unfollowed := true, recurses := true, plainKeys := false, apart := false, narrowed := true }
def BtreeDepthUptoSaid : Prop := btreeDepthUptoRow.holds Tryz.pinned (OpenSpec.upto btreeDepthSpec)

/-- 'rootstocklaw08.BtreeTwins', WHERE WHAT IT READS IS OF BULK AT MOST 1048576: true; the input reads as it did. -/
def btreeTwinsUptoRow : OpenClaim := { program := "ythkhaobmhheoaaagreat", sum := "f163f606952ff2c72484a711d0a1f4f266ebfdfa8167e319fdc8c2d0b5f053cb", func := "rootstock/rootstocklaw08.BtreeTwins", spec := "btreeTwins", inPlace := ["maps.clone", "slices.overlaps[string]", "slices.overlaps[int]"], unfollowed := true, recurses := true, plainKeys := false, apart := false, narrowed := true }
def BtreeTwinsUptoSaid : Prop := btreeTwinsUptoRow.holds Tryz.pinned (OpenSpec.upto btreeTwinsSpec)

/-- 'rootstocklaw08.BtreeFull', WHERE WHAT IT READS IS OF BULK AT MOST 1048576: true; the input reads as it did. -/
def btreeFullUptoRow : OpenClaim := { program := "ythkhaobmhheoaaagreat", sum := "f163f606952ff2c72484a711d0a1f4f266ebfdfa8167e319fdc8c2d0b5f053cb", func := "rootstock/rootstocklaw08.BtreeFull", spec := "btreeFull", inPlace := ["maps.clone", "slices.overlaps[string]", "slices.overlaps[int]"], unfollowed := true, recurses := true, plainKeys := false, apart := false, narrowed := true }
def BtreeFullUptoSaid : Prop := btreeFullUptoRow.holds Tryz.pinned (OpenSpec.upto btreeFullSpec)

/-- 'rootstocklaw08.BtreeLoses', WHERE WHAT IT READS IS OF BULK AT MOST 1048576: true; the input reads as it did. -/
def btreeLosesUptoRow : OpenClaim := { program := "ythkhaobmhheoaaagreat", sum := "f163f606952ff2c72484a711d0a1f4f266ebfdfa8167e319fdc8c2d0b5f053cb", func := "rootstock/rootstocklaw08.BtreeLoses", spec := "btreeLoses", inPlace := ["maps.clone", "slices.overlaps[string]", "slices.overlaps[int]"], unfollowed := true, recurses := true, plainKeys := false, apart := false, narrowed := true }
def BtreeLosesUptoSaid : Prop := btreeLosesUptoRow.holds Tryz.pinned (OpenSpec.upto btreeLosesSpec)

/-- 'rootstocklaw08.BtreeDoes', WHERE WHAT IT READS IS OF BULK AT MOST 1048576: true; the input reads as it did. -/
def btreeDoesUptoRow : OpenClaim := { program := "ythkhaobmhheoaaagreat", sum := "f163f606952ff2c72484a711d0a1f4f266ebfdfa8167e319fdc8c2d0b5f053cb", func := "rootstock/rootstocklaw08.BtreeDoes", spec := "btreeDoes", inPlace := ["maps.clone", "slices.overlaps[string]", "slices.overlaps[int]"], unfollowed := true, recurses := true, plainKeys := false, apart := false, narrowed := true }
def BtreeDoesUptoSaid : Prop := btreeDoesUptoRow.holds Tryz.pinned (OpenSpec.upto btreeDoesSpec)

end Rows
end Go.Proofs.YthkhaobmhheoaaaGreat
