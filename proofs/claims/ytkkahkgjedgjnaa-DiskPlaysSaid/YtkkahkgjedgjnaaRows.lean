/-
  No cell of these rows narrows 'for every input' (looked for: loops, veiled, ifaces, maps, wideKeys, modest, calm, conditions, laid).
  DERIVED. THE GIVEN ROWS OF THIS SEAT. 13 by the template 'for every input the law returns true; each argument reads behind the call as it read before'; 0 by the template 'total and deterministic' (their statements: YtkkahkgjedgjnaaTotals.lean).
  GIVEN WITH THE SEED: the statements are not yours to turn. If you find one false, say at which input.
  Laid BY PROGRAM, IN A SANDBOX (cutbox-rows.mjs): the forced cells as the released guide's own fill.sh prints them over the translation 29cf793ee754f228… (all of the seat's roots in one cut). By AI agents, Wed Nov 11 2026. No macro, syntax, notation, axiom, sorry.
-/
import Derived.Test.YtkkahkgjedgjnaaChecked
import GoSem.Claim
import GoSem.ClaimJoined
import GoSem.ClaimMapViews
import Derived.JoinedTies
import Derived.KernelRfl
namespace Go.Proofs.Ytkkahkgjedgjnaa
/- THE CELL 'sum', in the pinned program and in every row, IS THE sha256 OF THE DUMP (.gsa) THAT YtkkahkgjedgjnaaProg.lean LOADS. Nothing in Lean hashes anything: it is a label: what it is worth is what the hold of that sum in a sandbox is worth. -/
noncomputable def Try.pinned : Pinned := { name := "ytkkahkgjedgjnaa", sum := "29cf793ee754f2282a2ca8845a4955dabd1e59c95e580c59dded0743061de756", checked := Try.checked }
namespace Rows
def none {H : Type} : Left H := { results := [], args := [] }

/-- 'gafferlaw10.BadgeRises': WHATEVER THE INPUT: true; the input reads as it did. -/
def badgeRisesSpec : ChangeSpec := { name := "badgeRises", fn := fun _ => fun
  | [d1, d2] => { results := [.lit (.bool true)], args := [d1, d2] }
  | _ => none }
def badgeRisesRow : OpenClaim := { program := "ytkkahkgjedgjnaa", sum := "29cf793ee754f2282a2ca8845a4955dabd1e59c95e580c59dded0743061de756", func := "gaffer/gafferlaw10.BadgeRises", spec := "badgeRises", unfollowed := true, recurses := true, apart := false }
def BadgeRisesSaid : Prop := badgeRisesRow.holds Try.pinned (OpenSpec.ofChange badgeRisesSpec)

/-- ITS FALSE NEIGHBOUR: 'it returns false'. Refute it at one input. -/
def badgeRisesWrong : ChangeSpec := { name := "badgeRises", fn := fun _ => fun
  | [d1, d2] => { results := [.lit (.bool false)], args := [d1, d2] }
  | _ => none }
def BadgeRisesWrongFalsely : Prop := badgeRisesRow.holds Try.pinned (OpenSpec.ofChange badgeRisesWrong)

/-- 'gafferlaw10.BadgeBlocks': WHATEVER THE INPUT: true; the input reads as it did. -/
def badgeBlocksSpec : ChangeSpec := { name := "badgeBlocks", fn := fun _ => fun
  | [d1, d2, d3] => { results := [.lit (.bool true)], args := [d1, d2, d3] }
  | _ => none }
def badgeBlocksRow : OpenClaim := { program := "ytkkahkgjedgjnaa", sum := "29cf793ee754f2282a2ca8845a4955dabd1e59c95e580c59dded0743061de756", func := "gaffer/gafferlaw10.BadgeBlocks", spec := "badgeBlocks", unfollowed := true, recurses := true, apart := false }
def BadgeBlocksSaid : Prop := badgeBlocksRow.holds Try.pinned (OpenSpec.ofChange badgeBlocksSpec)

/-- ITS FALSE NEIGHBOUR: 'it returns false'. Refute it at one input. -/
def badgeBlocksWrong : ChangeSpec := { name := "badgeBlocks", fn := fun _ => fun
  | [d1, d2, d3] => { results := [.lit (.bool false)], args := [d1, d2, d3] }
  | _ => none }
def BadgeBlocksWrongFalsely : Prop := badgeBlocksRow.holds Try.pinned (OpenSpec.ofChange badgeBlocksWrong)

/-- 'gafferlaw10.BadgeDoes': WHATEVER THE INPUT: true; the input reads as it did. -/
def badgeDoesSpec : ChangeSpec := { name := "badgeDoes", fn := fun _ => fun
  | [d1, d2, d3] => { results := [.lit (.bool true)], args := [d1, d2, d3] }
  | _ => none }
def badgeDoesRow : OpenClaim := { program := "ytkkahkgjedgjnaa", sum := "29cf793ee754f2282a2ca8845a4955dabd1e59c95e580c59dded0743061de756", func := "gaffer/gafferlaw10.BadgeDoes", spec := "badgeDoes", unfollowed := true, recurses := true, apart := false }
def BadgeDoesSaid : Prop := badgeDoesRow.holds Try.pinned (OpenSpec.ofChange badgeDoesSpec)

/-- ITS FALSE NEIGHBOUR: 'it returns false'. Refute it at one input. -/
def badgeDoesWrong : ChangeSpec := { name := "badgeDoes", fn := fun _ => fun
  | [d1, d2, d3] => { results := [.lit (.bool false)], args := [d1, d2, d3] }
  | _ => none }
def BadgeDoesWrongFalsely : Prop := badgeDoesRow.holds Try.pinned (OpenSpec.ofChange badgeDoesWrong)

/-- 'gafferlaw10.BadgeTwins': WHATEVER THE INPUT: true; the input reads as it did. -/
def badgeTwinsSpec : ChangeSpec := { name := "badgeTwins", fn := fun _ => fun
  | [d1, d2, d3] => { results := [.lit (.bool true)], args := [d1, d2, d3] }
  | _ => none }
def badgeTwinsRow : OpenClaim := { program := "ytkkahkgjedgjnaa", sum := "29cf793ee754f2282a2ca8845a4955dabd1e59c95e580c59dded0743061de756", func := "gaffer/gafferlaw10.BadgeTwins", spec := "badgeTwins", unfollowed := true, recurses := true, apart := false }
def BadgeTwinsSaid : Prop := badgeTwinsRow.holds Try.pinned (OpenSpec.ofChange badgeTwinsSpec)

/-- ITS FALSE NEIGHBOUR: 'it returns false'. Refute it at one input. -/
def badgeTwinsWrong : ChangeSpec := { name := "badgeTwins", fn := fun _ => fun
  | [d1, d2, d3] => { results := [.lit (.bool false)], args := [d1, d2, d3] }
  | _ => none }
def BadgeTwinsWrongFalsely : Prop := badgeTwinsRow.holds Try.pinned (OpenSpec.ofChange badgeTwinsWrong)

/-- 'gafferlaw04.DiskLasts': WHATEVER THE INPUT: true; the input reads as it did. -/
def diskLastsSpec : ChangeSpec := { name := "diskLasts", fn := fun _ => fun
  | [d] => { results := [.lit (.bool true)], args := [d] }
  | _ => none }
def diskLastsRow : OpenClaim := { program := "ytkkahkgjedgjnaa", sum := "29cf793ee754f2282a2ca8845a4955dabd1e59c95e580c59dded0743061de756", func := "gaffer/gafferlaw04.DiskLasts", spec := "diskLasts", apart := false }
def DiskLastsSaid : Prop := diskLastsRow.holds Try.pinned (OpenSpec.ofChange diskLastsSpec)

/-- ITS FALSE NEIGHBOUR: 'it returns false'. Refute it at one input. -/
def diskLastsWrong : ChangeSpec := { name := "diskLasts", fn := fun _ => fun
  | [d] => { results := [.lit (.bool false)], args := [d] }
  | _ => none }
def DiskLastsWrongFalsely : Prop := diskLastsRow.holds Try.pinned (OpenSpec.ofChange diskLastsWrong)

/-- 'gafferlaw04.DiskKeeps': WHATEVER THE INPUT: true; the input reads as it did. -/
def diskKeepsSpec : ChangeSpec := { name := "diskKeeps", fn := fun _ => fun
  | [d1, d2] => { results := [.lit (.bool true)], args := [d1, d2] }
  | _ => none }
def diskKeepsRow : OpenClaim := { program := "ytkkahkgjedgjnaa", sum := "29cf793ee754f2282a2ca8845a4955dabd1e59c95e580c59dded0743061de756", func := "gaffer/gafferlaw04.DiskKeeps", spec := "diskKeeps", apart := false }
def DiskKeepsSaid : Prop := diskKeepsRow.holds Try.pinned (OpenSpec.ofChange diskKeepsSpec)

/-- ITS FALSE NEIGHBOUR: 'it returns false'. Refute it at one input. -/
def diskKeepsWrong : ChangeSpec := { name := "diskKeeps", fn := fun _ => fun
  | [d1, d2] => { results := [.lit (.bool false)], args := [d1, d2] }
  | _ => none }
def DiskKeepsWrongFalsely : Prop := diskKeepsRow.holds Try.pinned (OpenSpec.ofChange diskKeepsWrong)

/-- 'gafferlaw04.DiskDoes': WHATEVER THE INPUT: true; the input reads as it did. -/
def diskDoesSpec : ChangeSpec := { name := "diskDoes", fn := fun _ => fun
  | [d1, d2] => { results := [.lit (.bool true)], args := [d1, d2] }
  | _ => none }
def diskDoesRow : OpenClaim := { program := "ytkkahkgjedgjnaa", sum := "29cf793ee754f2282a2ca8845a4955dabd1e59c95e580c59dded0743061de756", func := "gaffer/gafferlaw04.DiskDoes", spec := "diskDoes", apart := false }
def DiskDoesSaid : Prop := diskDoesRow.holds Try.pinned (OpenSpec.ofChange diskDoesSpec)

/-- ITS FALSE NEIGHBOUR: 'it returns false'. Refute it at one input. -/
def diskDoesWrong : ChangeSpec := { name := "diskDoes", fn := fun _ => fun
  | [d1, d2] => { results := [.lit (.bool false)], args := [d1, d2] }
  | _ => none }
def DiskDoesWrongFalsely : Prop := diskDoesRow.holds Try.pinned (OpenSpec.ofChange diskDoesWrong)

/-- 'gafferlaw04.DiskTwins': WHATEVER THE INPUT: true; the input reads as it did. -/
def diskTwinsSpec : ChangeSpec := { name := "diskTwins", fn := fun _ => fun
  | [d1, d2, d3] => { results := [.lit (.bool true)], args := [d1, d2, d3] }
  | _ => none }
def diskTwinsRow : OpenClaim := { program := "ytkkahkgjedgjnaa", sum := "29cf793ee754f2282a2ca8845a4955dabd1e59c95e580c59dded0743061de756", func := "gaffer/gafferlaw04.DiskTwins", spec := "diskTwins", apart := false }
def DiskTwinsSaid : Prop := diskTwinsRow.holds Try.pinned (OpenSpec.ofChange diskTwinsSpec)

/-- ITS FALSE NEIGHBOUR: 'it returns false'. Refute it at one input. -/
def diskTwinsWrong : ChangeSpec := { name := "diskTwins", fn := fun _ => fun
  | [d1, d2, d3] => { results := [.lit (.bool false)], args := [d1, d2, d3] }
  | _ => none }
def DiskTwinsWrongFalsely : Prop := diskTwinsRow.holds Try.pinned (OpenSpec.ofChange diskTwinsWrong)

/-- 'gafferlaw04.DiskCuts': WHATEVER THE INPUT: true; the input reads as it did. -/
def diskCutsSpec : ChangeSpec := { name := "diskCuts", fn := fun _ => fun
  | [d] => { results := [.lit (.bool true)], args := [d] }
  | _ => none }
def diskCutsRow : OpenClaim := { program := "ytkkahkgjedgjnaa", sum := "29cf793ee754f2282a2ca8845a4955dabd1e59c95e580c59dded0743061de756", func := "gaffer/gafferlaw04.DiskCuts", spec := "diskCuts", unfollowed := true, recurses := true, apart := false }
def DiskCutsSaid : Prop := diskCutsRow.holds Try.pinned (OpenSpec.ofChange diskCutsSpec)

/-- ITS FALSE NEIGHBOUR: 'it returns false'. Refute it at one input. -/
def diskCutsWrong : ChangeSpec := { name := "diskCuts", fn := fun _ => fun
  | [d] => { results := [.lit (.bool false)], args := [d] }
  | _ => none }
def DiskCutsWrongFalsely : Prop := diskCutsRow.holds Try.pinned (OpenSpec.ofChange diskCutsWrong)

/-- 'gafferlaw04.DiskRefuses': WHATEVER THE INPUT: true; the input reads as it did. -/
def diskRefusesSpec : ChangeSpec := { name := "diskRefuses", fn := fun _ => fun
  | [d1, d2] => { results := [.lit (.bool true)], args := [d1, d2] }
  | _ => none }
def diskRefusesRow : OpenClaim := { program := "ytkkahkgjedgjnaa", sum := "29cf793ee754f2282a2ca8845a4955dabd1e59c95e580c59dded0743061de756", func := "gaffer/gafferlaw04.DiskRefuses", spec := "diskRefuses", apart := false }
def DiskRefusesSaid : Prop := diskRefusesRow.holds Try.pinned (OpenSpec.ofChange diskRefusesSpec)

/-- ITS FALSE NEIGHBOUR: 'it returns false'. Refute it at one input. -/
def diskRefusesWrong : ChangeSpec := { name := "diskRefuses", fn := fun _ => fun
  | [d1, d2] => { results := [.lit (.bool false)], args := [d1, d2] }
  | _ => none }
def DiskRefusesWrongFalsely : Prop := diskRefusesRow.holds Try.pinned (OpenSpec.ofChange diskRefusesWrong)

/-- 'gafferlaw04.DiskDies': WHATEVER THE INPUT: true; the input reads as it did. -/
def diskDiesSpec : ChangeSpec := { name := "diskDies", fn := fun _ => fun
  | [d1, d2] => { results := [.lit (.bool true)], args := [d1, d2] }
  | _ => none }
def diskDiesRow : OpenClaim := { program := "ytkkahkgjedgjnaa", sum := "29cf793ee754f2282a2ca8845a4955dabd1e59c95e580c59dded0743061de756", func := "gaffer/gafferlaw04.DiskDies", spec := "diskDies", apart := false }
def DiskDiesSaid : Prop := diskDiesRow.holds Try.pinned (OpenSpec.ofChange diskDiesSpec)

/-- ITS FALSE NEIGHBOUR: 'it returns false'. Refute it at one input. -/
def diskDiesWrong : ChangeSpec := { name := "diskDies", fn := fun _ => fun
  | [d1, d2] => { results := [.lit (.bool false)], args := [d1, d2] }
  | _ => none }
def DiskDiesWrongFalsely : Prop := diskDiesRow.holds Try.pinned (OpenSpec.ofChange diskDiesWrong)

/-- 'gafferlaw04.DiskLoads': WHATEVER THE INPUT: true; the input reads as it did. -/
def diskLoadsSpec : ChangeSpec := { name := "diskLoads", fn := fun _ => fun
  | [d1, d2] => { results := [.lit (.bool true)], args := [d1, d2] }
  | _ => none }
def diskLoadsRow : OpenClaim := { program := "ytkkahkgjedgjnaa", sum := "29cf793ee754f2282a2ca8845a4955dabd1e59c95e580c59dded0743061de756", func := "gaffer/gafferlaw04.DiskLoads", spec := "diskLoads", apart := false }
def DiskLoadsSaid : Prop := diskLoadsRow.holds Try.pinned (OpenSpec.ofChange diskLoadsSpec)

/-- ITS FALSE NEIGHBOUR: 'it returns false'. Refute it at one input. -/
def diskLoadsWrong : ChangeSpec := { name := "diskLoads", fn := fun _ => fun
  | [d1, d2] => { results := [.lit (.bool false)], args := [d1, d2] }
  | _ => none }
def DiskLoadsWrongFalsely : Prop := diskLoadsRow.holds Try.pinned (OpenSpec.ofChange diskLoadsWrong)

/-- 'gafferlaw04.DiskPlays': WHATEVER THE INPUT: true; the input reads as it did. -/
def diskPlaysSpec : ChangeSpec := { name := "diskPlays", fn := fun _ => fun
  | [d] => { results := [.lit (.bool true)], args := [d] }
  | _ => none }
def diskPlaysRow : OpenClaim := { program := "ytkkahkgjedgjnaa", sum := "29cf793ee754f2282a2ca8845a4955dabd1e59c95e580c59dded0743061de756", func := "gaffer/gafferlaw04.DiskPlays", spec := "diskPlays", unfollowed := true, recurses := true, apart := false }
def DiskPlaysSaid : Prop := diskPlaysRow.holds Try.pinned (OpenSpec.ofChange diskPlaysSpec)

/-- ITS FALSE NEIGHBOUR: 'it returns false'. Refute it at one input. -/
def diskPlaysWrong : ChangeSpec := { name := "diskPlays", fn := fun _ => fun
  | [d] => { results := [.lit (.bool false)], args := [d] }
  | _ => none }
def DiskPlaysWrongFalsely : Prop := diskPlaysRow.holds Try.pinned (OpenSpec.ofChange diskPlaysWrong)

/- THE SECOND FORM. 'bulk': how many values and letters a reading holds, each counted each time it is reached (what is shared counts as often as it is met; a slice's spare places count too). A statement '..UptoSaid' is the law's where the arguments, and the package variables that the reading takes, are together of bulk at most 1048576: NARROWER than '..Said'. Prove '..Said' where nothing that the law and all that it calls make is longer than what came in: it says more and counts as full. Else prove '..UptoSaid'. A law counts once. -/
mutual
def uptoBulk {H : Type} : DataW H → Nat
  | .lit (.string bytes) => bytes.length + 1
  | .lit _ => 1
  | .nil => 1
  | .ptr d => uptoBulk d + 1
  | .slice elems spare => uptoBulkAll elems + uptoBulkAll spare + 1
  | .agg parts => uptoBulkAll parts + 1
  | .iface _ d => uptoBulk d + 1
  | .map entries => uptoBulkEntries entries + 1
  | .held _ => 1
def uptoBulkAll {H : Type} : List (DataW H) → Nat
  | [] => 0
  | d :: r => uptoBulk d + uptoBulkAll r
def uptoBulkEntries {H : Type} : List (Lit × DataW H) → Nat
  | [] => 0
  | x :: r => uptoBulkEntry x + uptoBulkEntries r
def uptoBulkEntry {H : Type} : Lit × DataW H → Nat
  | (.string bytes, d) => bytes.length + uptoBulk d + 1
  | (_, d) => uptoBulk d + 1
 end
def uptoSmall : (H : Type) → List (DataW H) → Bool := fun _ ds => decide (uptoBulkAll ds ≤ 1048576)
def OpenSpec.upto (s : _root_.Go.ChangeSpec) : _root_.Go.OpenSpec := { _root_.Go.OpenSpec.ofChange s with cond := some uptoSmall }

/-- 'gafferlaw10.BadgeRises', WHERE WHAT IT READS IS OF BULK AT MOST 1048576: true; the input reads as it did. -/
def badgeRisesUptoRow : OpenClaim := { program := "ytkkahkgjedgjnaa", sum := "29cf793ee754f2282a2ca8845a4955dabd1e59c95e580c59dded0743061de756", func := "gaffer/gafferlaw10.BadgeRises", spec := "badgeRises", unfollowed := true, recurses := true, apart := false, narrowed := true }
def BadgeRisesUptoSaid : Prop := badgeRisesUptoRow.holds Try.pinned (OpenSpec.upto badgeRisesSpec)

/-- 'gafferlaw10.BadgeBlocks', WHERE WHAT IT READS IS OF BULK AT MOST 1048576: true; the input reads as it did. -/
def badgeBlocksUptoRow : OpenClaim := { program := "ytkkahkgjedgjnaa", sum := "29cf793ee754f2282a2ca8845a4955dabd1e59c95e580c59dded0743061de756", func := "gaffer/gafferlaw10.BadgeBlocks", spec := "badgeBlocks", unfollowed := true, recurses := true, apart := false, narrowed := true }
def BadgeBlocksUptoSaid : Prop := badgeBlocksUptoRow.holds Try.pinned (OpenSpec.upto badgeBlocksSpec)

/-- 'gafferlaw10.BadgeDoes', WHERE WHAT IT READS IS OF BULK AT MOST 1048576: true; the input reads as it did. -/
def badgeDoesUptoRow : OpenClaim := { program := "ytkkahkgjedgjnaa", sum := "29cf793ee754f2282a2ca8845a4955dabd1e59c95e580c59dded0743061de756", func := "gaffer/gafferlaw10.BadgeDoes", spec := "badgeDoes", unfollowed := true, recurses := true, apart := false, narrowed := true }
def BadgeDoesUptoSaid : Prop := badgeDoesUptoRow.holds Try.pinned (OpenSpec.upto badgeDoesSpec)

/-- 'gafferlaw10.BadgeTwins', WHERE WHAT IT READS IS OF BULK AT MOST 1048576: true; the input reads as it did. -/
def badgeTwinsUptoRow : OpenClaim := { program := "ytkkahkgjedgjnaa", sum := "29cf793ee754f2282a2ca8845a4955dabd1e59c95e580c59dded0743061de756", func := "gaffer/gafferlaw10.BadgeTwins", spec := "badgeTwins", unfollowed := true, recurses := true, apart := false, narrowed := true }
def BadgeTwinsUptoSaid : Prop := badgeTwinsUptoRow.holds Try.pinned (OpenSpec.upto badgeTwinsSpec)

/-- 'gafferlaw04.DiskLasts', WHERE WHAT IT READS IS OF BULK AT MOST 1048576: true; the input reads as it did. -/
def diskLastsUptoRow : OpenClaim := { program := "ytkkahkgjedgjnaa", sum := "29cf793ee754f2282a2ca8845a4955dabd1e59c95e580c59dded0743061de756", func := "gaffer/gafferlaw04.DiskLasts", spec := "diskLasts", apart := false, narrowed := true }
def DiskLastsUptoSaid : Prop := diskLastsUptoRow.holds Try.pinned (OpenSpec.upto diskLastsSpec)

/-- 'gafferlaw04.DiskKeeps', WHERE WHAT IT READS IS OF BULK AT MOST 1048576: true; the input reads as it did. -/
def diskKeepsUptoRow : OpenClaim := { program := "ytkkahkgjedgjnaa", sum := "29cf793ee754f2282a2ca8845a4955dabd1e59c95e580c59dded0743061de756", func := "gaffer/gafferlaw04.DiskKeeps", spec := "diskKeeps", apart := false, narrowed := true }
def DiskKeepsUptoSaid : Prop := diskKeepsUptoRow.holds Try.pinned (OpenSpec.upto diskKeepsSpec)

/-- 'gafferlaw04.DiskDoes', WHERE WHAT IT READS IS OF BULK AT MOST 1048576: true; the input reads as it did. -/
def diskDoesUptoRow : OpenClaim := { program := "ytkkahkgjedgjnaa", sum := "29cf793ee754f2282a2ca8845a4955dabd1e59c95e580c59dded0743061de756", func := "gaffer/gafferlaw04.DiskDoes", spec := "diskDoes", apart := false, narrowed := true }
def DiskDoesUptoSaid : Prop := diskDoesUptoRow.holds Try.pinned (OpenSpec.upto diskDoesSpec)

/-- 'gafferlaw04.DiskTwins', WHERE WHAT IT READS IS OF BULK AT MOST 1048576: true; the input reads as it did. -/
def diskTwinsUptoRow : OpenClaim := { program := "ytkkahkgjedgjnaa", sum := "29cf793ee754f2282a2ca8845a4955dabd1e59c95e580c59dded0743061de756", func := "gaffer/gafferlaw04.DiskTwins", spec := "diskTwins", apart := false, narrowed := true }
def DiskTwinsUptoSaid : Prop := diskTwinsUptoRow.holds Try.pinned (OpenSpec.upto diskTwinsSpec)

/-- 'gafferlaw04.DiskCuts', WHERE WHAT IT READS IS OF BULK AT MOST 1048576: true; the input reads as it did. -/
def diskCutsUptoRow : OpenClaim := { program := "ytkkahkgjedgjnaa", sum := "29cf793ee754f2282a2ca8845a4955dabd1e59c95e580c59dded0743061de756", func := "gaffer/gafferlaw04.DiskCuts", spec := "diskCuts", unfollowed := true, recurses := true, apart := false, narrowed := true }
def DiskCutsUptoSaid : Prop := diskCutsUptoRow.holds Try.pinned (OpenSpec.upto diskCutsSpec)

/-- 'gafferlaw04.DiskRefuses', WHERE WHAT IT READS IS OF BULK AT MOST 1048576: true; the input reads as it did. -/
def diskRefusesUptoRow : OpenClaim := { program := "ytkkahkgjedgjnaa", sum := "29cf793ee754f2282a2ca8845a4955dabd1e59c95e580c59dded0743061de756", func := "gaffer/gafferlaw04.DiskRefuses", spec := "diskRefuses", apart := false, narrowed := true }
def DiskRefusesUptoSaid : Prop := diskRefusesUptoRow.holds Try.pinned (OpenSpec.upto diskRefusesSpec)

/-- 'gafferlaw04.DiskDies', WHERE WHAT IT READS IS OF BULK AT MOST 1048576: true; the input reads as it did. -/
def diskDiesUptoRow : OpenClaim := { program := "ytkkahkgjedgjnaa", sum := "29cf793ee754f2282a2ca8845a4955dabd1e59c95e580c59dded0743061de756", func := "gaffer/gafferlaw04.DiskDies", spec := "diskDies", apart := false, narrowed := true }
def DiskDiesUptoSaid : Prop := diskDiesUptoRow.holds Try.pinned (OpenSpec.upto diskDiesSpec)

/-- 'gafferlaw04.DiskLoads', WHERE WHAT IT READS IS OF BULK AT MOST 1048576: true; the input reads as it did. -/
def diskLoadsUptoRow : OpenClaim := { program := "ytkkahkgjedgjnaa", sum := "29cf793ee754f2282a2ca8845a4955dabd1e59c95e580c59dded0743061de756", func := "gaffer/gafferlaw04.DiskLoads", spec := "diskLoads", apart := false, narrowed := true }
def DiskLoadsUptoSaid : Prop := diskLoadsUptoRow.holds Try.pinned (OpenSpec.upto diskLoadsSpec)

/-- 'gafferlaw04.DiskPlays', WHERE WHAT IT READS IS OF BULK AT MOST 1048576: true; the input reads as it did. -/
def diskPlaysUptoRow : OpenClaim := { program := "ytkkahkgjedgjnaa", sum := "29cf793ee754f2282a2ca8845a4955dabd1e59c95e580c59dded0743061de756", func := "gaffer/gafferlaw04.DiskPlays", spec := "diskPlays", unfollowed := true, recurses := true, apart := false, narrowed := true }
def DiskPlaysUptoSaid : Prop := diskPlaysUptoRow.holds Try.pinned (OpenSpec.upto diskPlaysSpec)

end Rows
end Go.Proofs.Ytkkahkgjedgjnaa
