/-
  No cell of these rows narrows 'for every input' (looked for: loops, veiled, ifaces, maps, wideKeys, modest, calm, conditions, laid).
  DERIVED. THE GIVEN ROWS OF THIS SEAT. 10 by the template 'for every input the law returns true; each argument reads behind the call as it read before'; 0 by the template 'total and deterministic' (their statements: YtepnckpaknabpaaTotals.lean).
  GIVEN WITH THE SEED: the statements are not yours to turn. If you find one false, say at which input.
  Laid BY PROGRAM, IN A SANDBOX (cutbox-rows.mjs): the forced cells as the released guide's own fill.sh prints them over the translation e5dd1f5f34df00ef… (all of the seat's roots in one cut). By AI agents, Wed Nov 11 2026. No macro, syntax, notation, axiom, sorry.
-/
import Derived.Test.YtepnckpaknabpaaChecked
import GoSem.Claim
import GoSem.ClaimJoined
import GoSem.ClaimMapViews
import Derived.JoinedTies
import Derived.KernelRfl
namespace Go.Proofs.Ytepnckpaknabpaa
/- THE CELL 'sum', in the pinned program and in every row, IS THE sha256 OF THE DUMP (.gsa) THAT YtepnckpaknabpaaProg.lean LOADS. Nothing in Lean hashes anything: it is a label: what it is worth is what the hold of that sum in a sandbox is worth. -/
noncomputable def Try.pinned : Pinned := { name := "ytepnckpaknabpaa", sum := "e5dd1f5f34df00efbc818bfe59bc9448e78fec102ea4d28a2b4284c116343420", checked := Try.checked }
namespace Rows
def none {H : Type} : Left H := { results := [], args := [] }

/-- 'rootstocklaw19.DiffOf': WHATEVER THE INPUT: true; the input reads as it did. -/
def diffOfSpec : ChangeSpec := { name := "diffOf", fn := fun _ => fun
  | [d1, d2] => { results := [.lit (.bool true)], args := [d1, d2] }
  | _ => none }
def diffOfRow : OpenClaim := { program := "ytepnckpaknabpaa", sum := "e5dd1f5f34df00efbc818bfe59bc9448e78fec102ea4d28a2b4284c116343420", func := "rootstock/rootstocklaw19.DiffOf", spec := "diffOf", apart := false }
def DiffOfSaid : Prop := diffOfRow.holds Try.pinned (OpenSpec.ofChange diffOfSpec)

/-- ITS FALSE NEIGHBOUR: 'it returns false'. Refute it at one input. -/
def diffOfWrong : ChangeSpec := { name := "diffOf", fn := fun _ => fun
  | [d1, d2] => { results := [.lit (.bool false)], args := [d1, d2] }
  | _ => none }
def DiffOfWrongFalsely : Prop := diffOfRow.holds Try.pinned (OpenSpec.ofChange diffOfWrong)

/-- 'rootstocklaw20.MergeOf': WHATEVER THE INPUT: true; the input reads as it did. -/
def mergeOfSpec : ChangeSpec := { name := "mergeOf", fn := fun _ => fun
  | [d1, d2, d3] => { results := [.lit (.bool true)], args := [d1, d2, d3] }
  | _ => none }
def mergeOfRow : OpenClaim := { program := "ytepnckpaknabpaa", sum := "e5dd1f5f34df00efbc818bfe59bc9448e78fec102ea4d28a2b4284c116343420", func := "rootstock/rootstocklaw20.MergeOf", spec := "mergeOf", apart := false }
def MergeOfSaid : Prop := mergeOfRow.holds Try.pinned (OpenSpec.ofChange mergeOfSpec)

/-- ITS FALSE NEIGHBOUR: 'it returns false'. Refute it at one input. -/
def mergeOfWrong : ChangeSpec := { name := "mergeOf", fn := fun _ => fun
  | [d1, d2, d3] => { results := [.lit (.bool false)], args := [d1, d2, d3] }
  | _ => none }
def MergeOfWrongFalsely : Prop := mergeOfRow.holds Try.pinned (OpenSpec.ofChange mergeOfWrong)

/-- 'rootstocklaw20.MergeTurns': WHATEVER THE INPUT: true; the input reads as it did. -/
def mergeTurnsSpec : ChangeSpec := { name := "mergeTurns", fn := fun _ => fun
  | [d1, d2, d3] => { results := [.lit (.bool true)], args := [d1, d2, d3] }
  | _ => none }
def mergeTurnsRow : OpenClaim := { program := "ytepnckpaknabpaa", sum := "e5dd1f5f34df00efbc818bfe59bc9448e78fec102ea4d28a2b4284c116343420", func := "rootstock/rootstocklaw20.MergeTurns", spec := "mergeTurns", apart := false }
def MergeTurnsSaid : Prop := mergeTurnsRow.holds Try.pinned (OpenSpec.ofChange mergeTurnsSpec)

/-- ITS FALSE NEIGHBOUR: 'it returns false'. Refute it at one input. -/
def mergeTurnsWrong : ChangeSpec := { name := "mergeTurns", fn := fun _ => fun
  | [d1, d2, d3] => { results := [.lit (.bool false)], args := [d1, d2, d3] }
  | _ => none }
def MergeTurnsWrongFalsely : Prop := mergeTurnsRow.holds Try.pinned (OpenSpec.ofChange mergeTurnsWrong)

/-- 'rootstocklaw20.MergeEntries': WHATEVER THE INPUT: true; the input reads as it did. -/
def mergeEntriesSpec : ChangeSpec := { name := "mergeEntries", fn := fun _ => fun
  | [d1, d2, d3, d4] => { results := [.lit (.bool true)], args := [d1, d2, d3, d4] }
  | _ => none }
def mergeEntriesRow : OpenClaim := { program := "ytepnckpaknabpaa", sum := "e5dd1f5f34df00efbc818bfe59bc9448e78fec102ea4d28a2b4284c116343420", func := "rootstock/rootstocklaw20.MergeEntries", spec := "mergeEntries", apart := false }
def MergeEntriesSaid : Prop := mergeEntriesRow.holds Try.pinned (OpenSpec.ofChange mergeEntriesSpec)

/-- ITS FALSE NEIGHBOUR: 'it returns false'. Refute it at one input. -/
def mergeEntriesWrong : ChangeSpec := { name := "mergeEntries", fn := fun _ => fun
  | [d1, d2, d3, d4] => { results := [.lit (.bool false)], args := [d1, d2, d3, d4] }
  | _ => none }
def MergeEntriesWrongFalsely : Prop := mergeEntriesRow.holds Try.pinned (OpenSpec.ofChange mergeEntriesWrong)

/-- 'rootstocklaw20.MergeKeeps': WHATEVER THE INPUT: true; the input reads as it did. -/
def mergeKeepsSpec : ChangeSpec := { name := "mergeKeeps", fn := fun _ => fun
  | [d1, d2, d3] => { results := [.lit (.bool true)], args := [d1, d2, d3] }
  | _ => none }
def mergeKeepsRow : OpenClaim := { program := "ytepnckpaknabpaa", sum := "e5dd1f5f34df00efbc818bfe59bc9448e78fec102ea4d28a2b4284c116343420", func := "rootstock/rootstocklaw20.MergeKeeps", spec := "mergeKeeps", apart := false }
def MergeKeepsSaid : Prop := mergeKeepsRow.holds Try.pinned (OpenSpec.ofChange mergeKeepsSpec)

/-- ITS FALSE NEIGHBOUR: 'it returns false'. Refute it at one input. -/
def mergeKeepsWrong : ChangeSpec := { name := "mergeKeeps", fn := fun _ => fun
  | [d1, d2, d3] => { results := [.lit (.bool false)], args := [d1, d2, d3] }
  | _ => none }
def MergeKeepsWrongFalsely : Prop := mergeKeepsRow.holds Try.pinned (OpenSpec.ofChange mergeKeepsWrong)

/-- 'rootstocklaw20.MergeApart': WHATEVER THE INPUT: true; the input reads as it did. -/
def mergeApartSpec : ChangeSpec := { name := "mergeApart", fn := fun _ => fun
  | [d1, d2, d3] => { results := [.lit (.bool true)], args := [d1, d2, d3] }
  | _ => none }
def mergeApartRow : OpenClaim := { program := "ytepnckpaknabpaa", sum := "e5dd1f5f34df00efbc818bfe59bc9448e78fec102ea4d28a2b4284c116343420", func := "rootstock/rootstocklaw20.MergeApart", spec := "mergeApart", apart := false }
def MergeApartSaid : Prop := mergeApartRow.holds Try.pinned (OpenSpec.ofChange mergeApartSpec)

/-- ITS FALSE NEIGHBOUR: 'it returns false'. Refute it at one input. -/
def mergeApartWrong : ChangeSpec := { name := "mergeApart", fn := fun _ => fun
  | [d1, d2, d3] => { results := [.lit (.bool false)], args := [d1, d2, d3] }
  | _ => none }
def MergeApartWrongFalsely : Prop := mergeApartRow.holds Try.pinned (OpenSpec.ofChange mergeApartWrong)

/-- 'rootstocklaw19.DiffApplies': WHATEVER THE INPUT: true; the input reads as it did. -/
def diffAppliesSpec : ChangeSpec := { name := "diffApplies", fn := fun _ => fun
  | [d1, d2] => { results := [.lit (.bool true)], args := [d1, d2] }
  | _ => none }
def diffAppliesRow : OpenClaim := { program := "ytepnckpaknabpaa", sum := "e5dd1f5f34df00efbc818bfe59bc9448e78fec102ea4d28a2b4284c116343420", func := "rootstock/rootstocklaw19.DiffApplies", spec := "diffApplies", unfollowed := true, recurses := true, apart := false }
def DiffAppliesSaid : Prop := diffAppliesRow.holds Try.pinned (OpenSpec.ofChange diffAppliesSpec)

/-- ITS FALSE NEIGHBOUR: 'it returns false'. Refute it at one input. -/
def diffAppliesWrong : ChangeSpec := { name := "diffApplies", fn := fun _ => fun
  | [d1, d2] => { results := [.lit (.bool false)], args := [d1, d2] }
  | _ => none }
def DiffAppliesWrongFalsely : Prop := diffAppliesRow.holds Try.pinned (OpenSpec.ofChange diffAppliesWrong)

/-- 'rootstocklaw19.DiffJoins': WHATEVER THE INPUT: true; the input reads as it did. -/
def diffJoinsSpec : ChangeSpec := { name := "diffJoins", fn := fun _ => fun
  | [d1, d2, d3] => { results := [.lit (.bool true)], args := [d1, d2, d3] }
  | _ => none }
def diffJoinsRow : OpenClaim := { program := "ytepnckpaknabpaa", sum := "e5dd1f5f34df00efbc818bfe59bc9448e78fec102ea4d28a2b4284c116343420", func := "rootstock/rootstocklaw19.DiffJoins", spec := "diffJoins", unfollowed := true, recurses := true, apart := false }
def DiffJoinsSaid : Prop := diffJoinsRow.holds Try.pinned (OpenSpec.ofChange diffJoinsSpec)

/-- ITS FALSE NEIGHBOUR: 'it returns false'. Refute it at one input. -/
def diffJoinsWrong : ChangeSpec := { name := "diffJoins", fn := fun _ => fun
  | [d1, d2, d3] => { results := [.lit (.bool false)], args := [d1, d2, d3] }
  | _ => none }
def DiffJoinsWrongFalsely : Prop := diffJoinsRow.holds Try.pinned (OpenSpec.ofChange diffJoinsWrong)

/-- 'rootstocklaw19.DiffBack': WHATEVER THE INPUT: true; the input reads as it did. -/
def diffBackSpec : ChangeSpec := { name := "diffBack", fn := fun _ => fun
  | [d1, d2] => { results := [.lit (.bool true)], args := [d1, d2] }
  | _ => none }
def diffBackRow : OpenClaim := { program := "ytepnckpaknabpaa", sum := "e5dd1f5f34df00efbc818bfe59bc9448e78fec102ea4d28a2b4284c116343420", func := "rootstock/rootstocklaw19.DiffBack", spec := "diffBack", unfollowed := true, recurses := true, apart := false }
def DiffBackSaid : Prop := diffBackRow.holds Try.pinned (OpenSpec.ofChange diffBackSpec)

/-- ITS FALSE NEIGHBOUR: 'it returns false'. Refute it at one input. -/
def diffBackWrong : ChangeSpec := { name := "diffBack", fn := fun _ => fun
  | [d1, d2] => { results := [.lit (.bool false)], args := [d1, d2] }
  | _ => none }
def DiffBackWrongFalsely : Prop := diffBackRow.holds Try.pinned (OpenSpec.ofChange diffBackWrong)

/-- 'rootstocklaw19.DiffKeeps': WHATEVER THE INPUT: true; the input reads as it did. -/
def diffKeepsSpec : ChangeSpec := { name := "diffKeeps", fn := fun _ => fun
  | [d1, d2] => { results := [.lit (.bool true)], args := [d1, d2] }
  | _ => none }
def diffKeepsRow : OpenClaim := { program := "ytepnckpaknabpaa", sum := "e5dd1f5f34df00efbc818bfe59bc9448e78fec102ea4d28a2b4284c116343420", func := "rootstock/rootstocklaw19.DiffKeeps", spec := "diffKeeps", unfollowed := true, recurses := true, apart := false }
def DiffKeepsSaid : Prop := diffKeepsRow.holds Try.pinned (OpenSpec.ofChange diffKeepsSpec)

/-- ITS FALSE NEIGHBOUR: 'it returns false'. Refute it at one input. -/
def diffKeepsWrong : ChangeSpec := { name := "diffKeeps", fn := fun _ => fun
  | [d1, d2] => { results := [.lit (.bool false)], args := [d1, d2] }
  | _ => none }
def DiffKeepsWrongFalsely : Prop := diffKeepsRow.holds Try.pinned (OpenSpec.ofChange diffKeepsWrong)

/- THE SECOND FORM. 'bulk': how many values and letters a reading holds, each counted each time it is reached (what is shared counts as often as it is met; a slice's spare places count too). A statement '..UptoSaid' is the law's where the arguments, and the package variables that the reading takes, are together of bulk at most 1048576: NARROWER than '..Said'. Prove '..Said' where nothing that the law and all that it calls make is longer than what came in: it says more and counts as full. Else prove '..UptoSaid'. A law counts once. -/
mutual
def uptoBulk {H : Type} : DataW H → Nat
  | .lit (.string bytes) => bytes.length + 1
  | .lit _ => 1
  | .nil => 1
  | .ptr d => uptoBulk d + 1
  | .slice elems spare => uptoBulkAll elems + uptoBulkAll spare + 1
  | .agg parts => uptoBulkAll parts + 1
  | .iface _ d => uptoBulk d + 1
  | .map entries => uptoBulkEntries entries + 1
  | .held _ => 1
def uptoBulkAll {H : Type} : List (DataW H) → Nat
  | [] => 0
  | d :: r => uptoBulk d + uptoBulkAll r
def uptoBulkEntries {H : Type} : List (Lit × DataW H) → Nat
  | [] => 0
  | x :: r => uptoBulkEntry x + uptoBulkEntries r
def uptoBulkEntry {H : Type} : Lit × DataW H → Nat
  | (.string bytes, d) => bytes.length + uptoBulk d + 1
  | (_, d) => uptoBulk d + 1
 end
def uptoSmall : (H : Type) → List (DataW H) → Bool := fun _ ds => decide (uptoBulkAll ds ≤ 1048576)
def OpenSpec.upto (s : _root_.Go.ChangeSpec) : _root_.Go.OpenSpec := { _root_.Go.OpenSpec.ofChange s with cond := some uptoSmall }

/-- 'rootstocklaw19.DiffOf', WHERE WHAT IT READS IS OF BULK AT MOST 1048576: true; the input reads as it did. -/
def diffOfUptoRow : OpenClaim := { program := "ytepnckpaknabpaa", sum := "e5dd1f5f34df00efbc818bfe59bc9448e78fec102ea4d28a2b4284c116343420", func := "rootstock/rootstocklaw19.DiffOf", spec := "diffOf", apart := false, narrowed := true }
def DiffOfUptoSaid : Prop := diffOfUptoRow.holds Try.pinned (OpenSpec.upto diffOfSpec)

/-- 'rootstocklaw20.MergeOf', WHERE WHAT IT READS IS OF BULK AT MOST 1048576: true; the input reads as it did. -/
def mergeOfUptoRow : OpenClaim := { program := "ytepnckpaknabpaa", sum := "e5dd1f5f34df00efbc818bfe59bc9448e78fec102ea4d28a2b4284c116343420", func := "rootstock/rootstocklaw20.MergeOf", spec := "mergeOf", apart := false, narrowed := true }
def MergeOfUptoSaid : Prop := mergeOfUptoRow.holds Try.pinned (OpenSpec.upto mergeOfSpec)

/-- 'rootstocklaw20.MergeTurns', WHERE WHAT IT READS IS OF BULK AT MOST 1048576: true; the input reads as it did. -/
def mergeTurnsUptoRow : OpenClaim := { program := "ytepnckpaknabpaa", sum := "e5dd1f5f34df00efbc818bfe59bc9448e78fec102ea4d28a2b4284c116343420", func := "rootstock/rootstocklaw20.MergeTurns", spec := "mergeTurns", apart := false, narrowed := true }
def MergeTurnsUptoSaid : Prop := mergeTurnsUptoRow.holds Try.pinned (OpenSpec.upto mergeTurnsSpec)

/-- 'rootstocklaw20.MergeEntries', WHERE WHAT IT READS IS OF BULK AT MOST 1048576: true; the input reads as it did. -/
def mergeEntriesUptoRow : OpenClaim := { program := "ytepnckpaknabpaa", sum := "e5dd1f5f34df00efbc818bfe59bc9448e78fec102ea4d28a2b4284c116343420", func := "rootstock/rootstocklaw20.MergeEntries", spec := "mergeEntries", apart := false, narrowed := true }
def MergeEntriesUptoSaid : Prop := mergeEntriesUptoRow.holds Try.pinned (OpenSpec.upto mergeEntriesSpec)

/-- 'rootstocklaw20.MergeKeeps', WHERE WHAT IT READS IS OF BULK AT MOST 1048576: true; the input reads as it did. -/
def mergeKeepsUptoRow : OpenClaim := { program := "ytepnckpaknabpaa", sum := "e5dd1f5f34df00efbc818bfe59bc9448e78fec102ea4d28a2b4284c116343420", func := "rootstock/rootstocklaw20.MergeKeeps", spec := "mergeKeeps", apart := false, narrowed := true }
def MergeKeepsUptoSaid : Prop := mergeKeepsUptoRow.holds Try.pinned (OpenSpec.upto mergeKeepsSpec)

/-- 'rootstocklaw20.MergeApart', WHERE WHAT IT READS IS OF BULK AT MOST 1048576: true; the input reads as it did. -/
def mergeApartUptoRow : OpenClaim := { program := "ytepnckpaknabpaa", sum := "e5dd1f5f34df00efbc818bfe59bc9448e78fec102ea4d28a2b4284c116343420", func := "rootstock/rootstocklaw20.MergeApart", spec := "mergeApart", apart := false, narrowed := true }
def MergeApartUptoSaid : Prop := mergeApartUptoRow.holds Try.pinned (OpenSpec.upto mergeApartSpec)

/-- 'rootstocklaw19.DiffApplies', WHERE WHAT IT READS IS OF BULK AT MOST 1048576: true; the input reads as it did. -/
def diffAppliesUptoRow : OpenClaim := { program := "ytepnckpaknabpaa", sum := "e5dd1f5f34df00efbc818bfe59bc9448e78fec102ea4d28a2b4284c116343420", func := "rootstock/rootstocklaw19.DiffApplies", spec := "diffApplies", unfollowed := true, recurses := true, apart := false, narrowed := true }
def DiffAppliesUptoSaid : Prop := diffAppliesUptoRow.holds Try.pinned (OpenSpec.upto diffAppliesSpec)

/-- 'rootstocklaw19.DiffJoins', WHERE WHAT IT READS IS OF BULK AT MOST 1048576: true; the input reads as it did. -/
def diffJoinsUptoRow : OpenClaim := { program := "ytepnckpaknabpaa", sum := "e5dd1f5f34df00efbc818bfe59bc9448e78fec102ea4d28a2b4284c116343420", func := "rootstock/rootstocklaw19.DiffJoins", spec := "diffJoins", unfollowed := true, recurses := true, apart := false, narrowed := true }
def DiffJoinsUptoSaid : Prop := diffJoinsUptoRow.holds Try.pinned (OpenSpec.upto diffJoinsSpec)

/-- 'rootstocklaw19.DiffBack', WHERE WHAT IT READS IS OF BULK AT MOST 1048576: true; the input reads as it did. -/
def diffBackUptoRow : OpenClaim := { program := "ytepnckpaknabpaa", sum := "e5dd1f5f34df00efbc818bfe59bc9448e78fec102ea4d28a2b4284c116343420", func := "rootstock/rootstocklaw19.DiffBack", spec := "diffBack", unfollowed := true, recurses := true, apart := false, narrowed := true }
def DiffBackUptoSaid : Prop := diffBackUptoRow.holds Try.pinned (OpenSpec.upto diffBackSpec)

/-- 'rootstocklaw19.DiffKeeps', WHERE WHAT IT READS IS OF BULK AT MOST 1048576: true; the input reads as it did. -/
def diffKeepsUptoRow : OpenClaim := { program := "ytepnckpaknabpaa", sum := "e5dd1f5f34df00efbc818bfe59bc9448e78fec102ea4d28a2b4284c116343420", func := "rootstock/rootstocklaw19.DiffKeeps", spec := "diffKeeps", unfollowed := true, recurses := true, apart := false, narrowed := true }
def DiffKeepsUptoSaid : Prop := diffKeepsUptoRow.holds Try.pinned (OpenSpec.upto diffKeepsSpec)

end Rows
end Go.Proofs.Ytepnckpaknabpaa
