/-
  No cell of these rows narrows 'for every input' (looked for: loops, veiled, ifaces, maps, wideKeys, modest, calm, conditions, laid).
  DERIVED. THE GIVEN ROWS OF THIS SEAT. 10 by the template 'for every input the law returns true; each argument reads behind the call as it read before'; 0 by the template 'total and deterministic' (their statements: YtembbemljejjbaaTotals.lean).
  GIVEN WITH THE SEED: the statements are not yours to turn. If you find one false, say at which input.
  Laid BY PROGRAM, IN A SANDBOX (cutbox-rows.mjs): the forced cells as the released guide's own fill.sh prints them over the translation 29e2a5fda4da18ce… (all of the seat's roots in one cut). By AI agents, Wed Nov 11 2026. No macro, syntax, notation, axiom, sorry.
-/
import Derived.Test.YtembbemljejjbaaChecked
import GoSem.Claim
import GoSem.ClaimJoined
import GoSem.ClaimMapViews
import Derived.JoinedTies
import Derived.KernelRfl
namespace Go.Proofs.Ytembbemljejjbaa
/- THE CELL 'sum', in the pinned program and in every row, IS THE sha256 OF THE DUMP (.gsa) THAT YtembbemljejjbaaProg.lean LOADS. Nothing in Lean hashes anything: it is a label: what it is worth is what the hold of that sum in a sandbox is worth. -/
noncomputable def Try.pinned : Pinned := { name := "ytembbemljejjbaa", sum := "29e2a5fda4da18ce7246d0d8676eaff73e178d55859be3eb1436457db52f9157", checked := Try.checked }
namespace Rows
def none {H : Type} : Left H := { results := [], args := [] }

/-- 'rootstocklaw05.DiskKeeps': WHATEVER THE INPUT: true; the input reads as it did. -/
def diskKeepsSpec : ChangeSpec := { name := "diskKeeps", fn := fun _ => fun
  | [d] => { results := [.lit (.bool true)], args := [d] }
  | _ => none }
def diskKeepsRow : OpenClaim := { program := "ytembbemljejjbaa", sum := "29e2a5fda4da18ce7246d0d8676eaff73e178d55859be3eb1436457db52f9157", func := "rootstock/rootstocklaw05.DiskKeeps", spec := "diskKeeps", inPlace := ["maps.clone"], plainKeys := false, apart := false }
def DiskKeepsSaid : Prop := diskKeepsRow.holds Try.pinned (OpenSpec.ofChange diskKeepsSpec)

/-- ITS FALSE NEIGHBOUR: 'it returns false'. Refute it at one input. -/
def diskKeepsWrong : ChangeSpec := { name := "diskKeeps", fn := fun _ => fun
  | [d] => { results := [.lit (.bool false)], args := [d] }
  | _ => none }
def DiskKeepsWrongFalsely : Prop := diskKeepsRow.holds Try.pinned (OpenSpec.ofChange diskKeepsWrong)

/-- 'rootstocklaw05.DiskLoses': WHATEVER THE INPUT: true; the input reads as it did. -/
def diskLosesSpec : ChangeSpec := { name := "diskLoses", fn := fun _ => fun
  | [d1, d2, d3, d4, d5] => { results := [.lit (.bool true)], args := [d1, d2, d3, d4, d5] }
  | _ => none }
def diskLosesRow : OpenClaim := { program := "ytembbemljejjbaa", sum := "29e2a5fda4da18ce7246d0d8676eaff73e178d55859be3eb1436457db52f9157", func := "rootstock/rootstocklaw05.DiskLoses", spec := "diskLoses", inPlace := ["maps.clone"], unfollowed := true, recurses := true, plainKeys := false, apart := false }
def DiskLosesSaid : Prop := diskLosesRow.holds Try.pinned (OpenSpec.ofChange diskLosesSpec)

/-- ITS FALSE NEIGHBOUR: 'it returns false'. Refute it at one input. -/
def diskLosesWrong : ChangeSpec := { name := "diskLoses", fn := fun _ => fun
  | [d1, d2, d3, d4, d5] => { results := [.lit (.bool false)], args := [d1, d2, d3, d4, d5] }
  | _ => none }
def DiskLosesWrongFalsely : Prop := diskLosesRow.holds Try.pinned (OpenSpec.ofChange diskLosesWrong)

/-- 'rootstocklaw05.DiskRoom': WHATEVER THE INPUT: true; the input reads as it did. -/
def diskRoomSpec : ChangeSpec := { name := "diskRoom", fn := fun _ => fun
  | [d1, d2] => { results := [.lit (.bool true)], args := [d1, d2] }
  | _ => none }
def diskRoomRow : OpenClaim := { program := "ytembbemljejjbaa", sum := "29e2a5fda4da18ce7246d0d8676eaff73e178d55859be3eb1436457db52f9157", func := "rootstock/rootstocklaw05.DiskRoom", spec := "diskRoom", inPlace := ["maps.clone"], unfollowed := true, recurses := true, plainKeys := false, apart := false }
def DiskRoomSaid : Prop := diskRoomRow.holds Try.pinned (OpenSpec.ofChange diskRoomSpec)

/-- ITS FALSE NEIGHBOUR: 'it returns false'. Refute it at one input. -/
def diskRoomWrong : ChangeSpec := { name := "diskRoom", fn := fun _ => fun
  | [d1, d2] => { results := [.lit (.bool false)], args := [d1, d2] }
  | _ => none }
def DiskRoomWrongFalsely : Prop := diskRoomRow.holds Try.pinned (OpenSpec.ofChange diskRoomWrong)

/-- 'rootstocklaw05.DiskCuts': WHATEVER THE INPUT: true; the input reads as it did. -/
def diskCutsSpec : ChangeSpec := { name := "diskCuts", fn := fun _ => fun
  | [d1, d2, d3, d4] => { results := [.lit (.bool true)], args := [d1, d2, d3, d4] }
  | _ => none }
def diskCutsRow : OpenClaim := { program := "ytembbemljejjbaa", sum := "29e2a5fda4da18ce7246d0d8676eaff73e178d55859be3eb1436457db52f9157", func := "rootstock/rootstocklaw05.DiskCuts", spec := "diskCuts", inPlace := ["maps.clone"], unfollowed := true, recurses := true, plainKeys := false, apart := false }
def DiskCutsSaid : Prop := diskCutsRow.holds Try.pinned (OpenSpec.ofChange diskCutsSpec)

/-- ITS FALSE NEIGHBOUR: 'it returns false'. Refute it at one input. -/
def diskCutsWrong : ChangeSpec := { name := "diskCuts", fn := fun _ => fun
  | [d1, d2, d3, d4] => { results := [.lit (.bool false)], args := [d1, d2, d3, d4] }
  | _ => none }
def DiskCutsWrongFalsely : Prop := diskCutsRow.holds Try.pinned (OpenSpec.ofChange diskCutsWrong)

/-- 'rootstocklaw05.DiskRenames': WHATEVER THE INPUT: true; the input reads as it did. -/
def diskRenamesSpec : ChangeSpec := { name := "diskRenames", fn := fun _ => fun
  | [d1, d2, d3, d4] => { results := [.lit (.bool true)], args := [d1, d2, d3, d4] }
  | _ => none }
def diskRenamesRow : OpenClaim := { program := "ytembbemljejjbaa", sum := "29e2a5fda4da18ce7246d0d8676eaff73e178d55859be3eb1436457db52f9157", func := "rootstock/rootstocklaw05.DiskRenames", spec := "diskRenames", inPlace := ["maps.clone"], unfollowed := true, recurses := true, plainKeys := false, apart := false }
def DiskRenamesSaid : Prop := diskRenamesRow.holds Try.pinned (OpenSpec.ofChange diskRenamesSpec)

/-- ITS FALSE NEIGHBOUR: 'it returns false'. Refute it at one input. -/
def diskRenamesWrong : ChangeSpec := { name := "diskRenames", fn := fun _ => fun
  | [d1, d2, d3, d4] => { results := [.lit (.bool false)], args := [d1, d2, d3, d4] }
  | _ => none }
def DiskRenamesWrongFalsely : Prop := diskRenamesRow.holds Try.pinned (OpenSpec.ofChange diskRenamesWrong)

/-- 'rootstocklaw05.DiskTwins': WHATEVER THE INPUT: true; the input reads as it did. -/
def diskTwinsSpec : ChangeSpec := { name := "diskTwins", fn := fun _ => fun
  | [d1, d2] => { results := [.lit (.bool true)], args := [d1, d2] }
  | _ => none }
def diskTwinsRow : OpenClaim := { program := "ytembbemljejjbaa", sum := "29e2a5fda4da18ce7246d0d8676eaff73e178d55859be3eb1436457db52f9157", func := "rootstock/rootstocklaw05.DiskTwins", spec := "diskTwins", inPlace := ["maps.clone"], unfollowed := true, recurses := true, plainKeys := false, apart := false }
def DiskTwinsSaid : Prop := diskTwinsRow.holds Try.pinned (OpenSpec.ofChange diskTwinsSpec)

/-- ITS FALSE NEIGHBOUR: 'it returns false'. Refute it at one input. -/
def diskTwinsWrong : ChangeSpec := { name := "diskTwins", fn := fun _ => fun
  | [d1, d2] => { results := [.lit (.bool false)], args := [d1, d2] }
  | _ => none }
def DiskTwinsWrongFalsely : Prop := diskTwinsRow.holds Try.pinned (OpenSpec.ofChange diskTwinsWrong)

/-- 'rootstocklaw05.DiskDoes': WHATEVER THE INPUT: true; the input reads as it did. -/
def diskDoesSpec : ChangeSpec := { name := "diskDoes", fn := fun _ => fun
  | [d1, d2] => { results := [.lit (.bool true)], args := [d1, d2] }
  | _ => none }
def diskDoesRow : OpenClaim := { program := "ytembbemljejjbaa", sum := "29e2a5fda4da18ce7246d0d8676eaff73e178d55859be3eb1436457db52f9157", func := "rootstock/rootstocklaw05.DiskDoes", spec := "diskDoes", inPlace := ["maps.clone"], unfollowed := true, recurses := true, plainKeys := false, apart := false }
def DiskDoesSaid : Prop := diskDoesRow.holds Try.pinned (OpenSpec.ofChange diskDoesSpec)

/-- ITS FALSE NEIGHBOUR: 'it returns false'. Refute it at one input. -/
def diskDoesWrong : ChangeSpec := { name := "diskDoes", fn := fun _ => fun
  | [d1, d2] => { results := [.lit (.bool false)], args := [d1, d2] }
  | _ => none }
def DiskDoesWrongFalsely : Prop := diskDoesRow.holds Try.pinned (OpenSpec.ofChange diskDoesWrong)

/-- 'rootstocklaw06.PagerCommits': WHATEVER THE INPUT: true; the input reads as it did. -/
def pagerCommitsSpec : ChangeSpec := { name := "pagerCommits", fn := fun _ => fun
  | [d1, d2] => { results := [.lit (.bool true)], args := [d1, d2] }
  | _ => none }
def pagerCommitsRow : OpenClaim := { program := "ytembbemljejjbaa", sum := "29e2a5fda4da18ce7246d0d8676eaff73e178d55859be3eb1436457db52f9157", func := "rootstock/rootstocklaw06.PagerCommits", spec := "pagerCommits", inPlace := ["maps.clone"], unfollowed := true, recurses := true, plainKeys := false, apart := false }
def PagerCommitsSaid : Prop := pagerCommitsRow.holds Try.pinned (OpenSpec.ofChange pagerCommitsSpec)

/-- ITS FALSE NEIGHBOUR: 'it returns false'. Refute it at one input. -/
def pagerCommitsWrong : ChangeSpec := { name := "pagerCommits", fn := fun _ => fun
  | [d1, d2] => { results := [.lit (.bool false)], args := [d1, d2] }
  | _ => none }
def PagerCommitsWrongFalsely : Prop := pagerCommitsRow.holds Try.pinned (OpenSpec.ofChange pagerCommitsWrong)

/-- 'rootstocklaw06.PagerKeeps': WHATEVER THE INPUT: true; the input reads as it did. -/
def pagerKeepsSpec : ChangeSpec := { name := "pagerKeeps", fn := fun _ => fun
  | [d] => { results := [.lit (.bool true)], args := [d] }
  | _ => none }
def pagerKeepsRow : OpenClaim := { program := "ytembbemljejjbaa", sum := "29e2a5fda4da18ce7246d0d8676eaff73e178d55859be3eb1436457db52f9157", func := "rootstock/rootstocklaw06.PagerKeeps", spec := "pagerKeeps", inPlace := ["maps.clone"], unfollowed := true, recurses := true, plainKeys := false, apart := false }
def PagerKeepsSaid : Prop := pagerKeepsRow.holds Try.pinned (OpenSpec.ofChange pagerKeepsSpec)

/-- ITS FALSE NEIGHBOUR: 'it returns false'. Refute it at one input. -/
def pagerKeepsWrong : ChangeSpec := { name := "pagerKeeps", fn := fun _ => fun
  | [d] => { results := [.lit (.bool false)], args := [d] }
  | _ => none }
def PagerKeepsWrongFalsely : Prop := pagerKeepsRow.holds Try.pinned (OpenSpec.ofChange pagerKeepsWrong)

/-- 'rootstocklaw06.PagerAgain': WHATEVER THE INPUT: true; the input reads as it did. -/
def pagerAgainSpec : ChangeSpec := { name := "pagerAgain", fn := fun _ => fun
  | [d] => { results := [.lit (.bool true)], args := [d] }
  | _ => none }
def pagerAgainRow : OpenClaim := { program := "ytembbemljejjbaa", sum := "29e2a5fda4da18ce7246d0d8676eaff73e178d55859be3eb1436457db52f9157", func := "rootstock/rootstocklaw06.PagerAgain", spec := "pagerAgain", inPlace := ["maps.clone"], unfollowed := true, recurses := true, plainKeys := false, apart := false }
def PagerAgainSaid : Prop := pagerAgainRow.holds Try.pinned (OpenSpec.ofChange pagerAgainSpec)

/-- ITS FALSE NEIGHBOUR: 'it returns false'. Refute it at one input. -/
def pagerAgainWrong : ChangeSpec := { name := "pagerAgain", fn := fun _ => fun
  | [d] => { results := [.lit (.bool false)], args := [d] }
  | _ => none }
def PagerAgainWrongFalsely : Prop := pagerAgainRow.holds Try.pinned (OpenSpec.ofChange pagerAgainWrong)

/- THE SECOND FORM. 'bulk': how many values and letters a reading holds, each counted each time it is reached (what is shared counts as often as it is met; a slice's spare places count too). A statement '..UptoSaid' is the law's where the arguments, and the package variables that the reading takes, are together of bulk at most 1048576: NARROWER than '..Said'. Prove '..Said' where nothing that the law and all that it calls make is longer than what came in: it says more and counts as full. Else prove '..UptoSaid'. A law counts once. -/
mutual
def uptoBulk {H : Type} : DataW H → Nat
  | .lit (.string bytes) => bytes.length + 1
  | .lit _ => 1
  | .nil => 1
  | .ptr d => uptoBulk d + 1
  | .slice elems spare => uptoBulkAll elems + uptoBulkAll spare + 1
  | .agg parts => uptoBulkAll parts + 1
  | .iface _ d => uptoBulk d + 1
  | .map entries => uptoBulkEntries entries + 1
  | .held _ => 1
def uptoBulkAll {H : Type} : List (DataW H) → Nat
  | [] => 0
  | d :: r => uptoBulk d + uptoBulkAll r
def uptoBulkEntries {H : Type} : List (Lit × DataW H) → Nat
  | [] => 0
  | x :: r => uptoBulkEntry x + uptoBulkEntries r
def uptoBulkEntry {H : Type} : Lit × DataW H → Nat
  | (.string bytes, d) => bytes.length + uptoBulk d + 1
  | (_, d) => uptoBulk d + 1
 end
def uptoSmall : (H : Type) → List (DataW H) → Bool := fun _ ds => decide (uptoBulkAll ds ≤ 1048576)
def OpenSpec.upto (s : _root_.Go.ChangeSpec) : _root_.Go.OpenSpec := { _root_.Go.OpenSpec.ofChange s with cond := some uptoSmall }

/-- 'rootstocklaw05.DiskKeeps', WHERE WHAT IT READS IS OF BULK AT MOST 1048576: true; the input reads as it did. -/
def diskKeepsUptoRow : OpenClaim := { program := "ytembbemljejjbaa", sum := "29e2a5fda4da18ce7246d0d8676eaff73e178d55859be3eb1436457db52f9157", func := "rootstock/rootstocklaw05.DiskKeeps", spec := "diskKeeps", inPlace := ["maps.clone"], plainKeys := false, apart := false, narrowed := true }
def DiskKeepsUptoSaid : Prop := diskKeepsUptoRow.holds Try.pinned (OpenSpec.upto diskKeepsSpec)

/-- 'rootstocklaw05.DiskLoses', WHERE WHAT IT READS IS OF BULK AT MOST 1048576: true; the input reads as it did. -/
def diskLosesUptoRow : OpenClaim := { program := "ytembbemljejjbaa", sum := "29e2a5fda4da18ce7246d0d8676eaff73e178d55859be3eb1436457db52f9157", func := "rootstock/rootstocklaw05.DiskLoses", spec := "diskLoses", inPlace := ["maps.clone"], unfollowed := true, recurses := true, plainKeys := false, apart := false, narrowed := true }
def DiskLosesUptoSaid : Prop := diskLosesUptoRow.holds Try.pinned (OpenSpec.upto diskLosesSpec)

/-- 'rootstocklaw05.DiskRoom', WHERE WHAT IT READS IS OF BULK AT MOST 1048576: true; the input reads as it did. -/
def diskRoomUptoRow : OpenClaim := { program := "ytembbemljejjbaa", sum := "29e2a5fda4da18ce7246d0d8676eaff73e178d55859be3eb1436457db52f9157", func := "rootstock/rootstocklaw05.DiskRoom", spec := "diskRoom", inPlace := ["maps.clone"], unfollowed := true, recurses := true, plainKeys := false, apart := false, narrowed := true }
def DiskRoomUptoSaid : Prop := diskRoomUptoRow.holds Try.pinned (OpenSpec.upto diskRoomSpec)

/-- 'rootstocklaw05.DiskCuts', WHERE WHAT IT READS IS OF BULK AT MOST 1048576: true; the input reads as it did. -/
def diskCutsUptoRow : OpenClaim := { program := "ytembbemljejjbaa", sum := "29e2a5fda4da18ce7246d0d8676eaff73e178d55859be3eb1436457db52f9157", func := "rootstock/rootstocklaw05.DiskCuts", spec := "diskCuts", inPlace := ["maps.clone"], unfollowed := true, recurses := true, plainKeys := false, apart := false, narrowed := true }
def DiskCutsUptoSaid : Prop := diskCutsUptoRow.holds Try.pinned (OpenSpec.upto diskCutsSpec)

/-- 'rootstocklaw05.DiskRenames', WHERE WHAT IT READS IS OF BULK AT MOST 1048576: true; the input reads as it did. -/
def diskRenamesUptoRow : OpenClaim := { program := "ytembbemljejjbaa", sum := "29e2a5fda4da18ce7246d0d8676eaff73e178d55859be3eb1436457db52f9157", func := "rootstock/rootstocklaw05.DiskRenames", spec := "diskRenames", inPlace := ["maps.clone"], unfollowed := true, recurses := true, plainKeys := false, apart := false, narrowed := true }
def DiskRenamesUptoSaid : Prop := diskRenamesUptoRow.holds Try.pinned (OpenSpec.upto diskRenamesSpec)

/-- 'rootstocklaw05.DiskTwins', WHERE WHAT IT READS IS OF BULK AT MOST 1048576: true; the input reads as it did. -/
def diskTwinsUptoRow : OpenClaim := { program := "ytembbemljejjbaa", sum := "29e2a5fda4da18ce7246d0d8676eaff73e178d55859be3eb1436457db52f9157", func := "rootstock/rootstocklaw05.DiskTwins", spec := "diskTwins", inPlace := ["maps.clone"], unfollowed := true, recurses := true, plainKeys := false, apart := false, narrowed := true }
def DiskTwinsUptoSaid : Prop := diskTwinsUptoRow.holds Try.pinned (OpenSpec.upto diskTwinsSpec)

/-- 'rootstocklaw05.DiskDoes', WHERE WHAT IT READS IS OF BULK AT MOST 1048576: true; the input reads as it did. -/
def diskDoesUptoRow : OpenClaim := { program := "ytembbemljejjbaa", sum := "29e2a5fda4da18ce7246d0d8676eaff73e178d55859be3eb1436457db52f9157", func := "rootstock/rootstocklaw05.DiskDoes", spec := "diskDoes", inPlace := ["maps.clone"], unfollowed := true, recurses := true, plainKeys := false, apart := false, narrowed := true }
def DiskDoesUptoSaid : Prop := diskDoesUptoRow.holds Try.pinned (OpenSpec.upto diskDoesSpec)

/-- 'rootstocklaw06.PagerCommits', WHERE WHAT IT READS IS OF BULK AT MOST 1048576: true; the input reads as it did. -/
def pagerCommitsUptoRow : OpenClaim := { program := "ytembbemljejjbaa", sum := "29e2a5fda4da18ce7246d0d8676eaff73e178d55859be3eb1436457db52f9157", func := "rootstock/rootstocklaw06.PagerCommits", spec := "pagerCommits", inPlace := ["maps.clone"], unfollowed := true, recurses := true, plainKeys := false, apart := false, narrowed := true }
def PagerCommitsUptoSaid : Prop := pagerCommitsUptoRow.holds Try.pinned (OpenSpec.upto pagerCommitsSpec)

/-- 'rootstocklaw06.PagerKeeps', WHERE WHAT IT READS IS OF BULK AT MOST 1048576: true; the input reads as it did. -/
def pagerKeepsUptoRow : OpenClaim := { program := "ytembbemljejjbaa", sum := "29e2a5fda4da18ce7246d0d8676eaff73e178d55859be3eb1436457db52f9157", func := "rootstock/rootstocklaw06.PagerKeeps", spec := "pagerKeeps", inPlace := ["maps.clone"], unfollowed := true, recurses := true, plainKeys := false, apart := false, narrowed := true }
def PagerKeepsUptoSaid : Prop := pagerKeepsUptoRow.holds Try.pinned (OpenSpec.upto pagerKeepsSpec)

/-- 'rootstocklaw06.PagerAgain', WHERE WHAT IT READS IS OF BULK AT MOST 1048576: true; the input reads as it did. -/
def pagerAgainUptoRow : OpenClaim := { program := "ytembbemljejjbaa", sum := "29e2a5fda4da18ce7246d0d8676eaff73e178d55859be3eb1436457db52f9157", func := "rootstock/rootstocklaw06.PagerAgain", spec := "pagerAgain", inPlace := ["maps.clone"], unfollowed := true, recurses := true, plainKeys := false, apart := false, narrowed := true }
def PagerAgainUptoSaid : Prop := pagerAgainUptoRow.holds Try.pinned (OpenSpec.upto pagerAgainSpec)

end Rows
end Go.Proofs.Ytembbemljejjbaa
