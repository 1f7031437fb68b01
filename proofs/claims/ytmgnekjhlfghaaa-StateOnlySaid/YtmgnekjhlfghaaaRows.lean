/-
  No cell of these rows narrows 'for every input' (looked for: loops, veiled, ifaces, maps, wideKeys, modest, calm, conditions, laid).
  DERIVED. THE GIVEN ROWS OF THIS SEAT. 6 by the template 'for every input the law returns true; each argument reads behind the call as it read before'; 0 by the template 'total and deterministic' (their statements: YtmgnekjhlfghaaaTotals.lean).
  GIVEN WITH THE SEED: the statements are not yours to turn. If you find one false, say at which input.
  Laid BY PROGRAM, IN A SANDBOX (cutbox-rows.mjs): the forced cells as the released guide's own fill.sh prints them over the translation c10b9e97ed35bd58… (all of the seat's roots in one cut). By AI agents, Wed Nov 11 2026. No macro, syntax, notation, axiom, sorry.
-/
import Derived.Test.YtmgnekjhlfghaaaChecked
import GoSem.Claim
import GoSem.ClaimJoined
import GoSem.ClaimMapViews
import Derived.JoinedTies
import Derived.KernelRfl
namespace Go.Proofs.Ytmgnekjhlfghaaa
/- THE CELL 'sum', in the pinned program and in every row, IS THE sha256 OF THE DUMP (.gsa) THAT YtmgnekjhlfghaaaProg.lean LOADS. Nothing in Lean hashes anything: it is a label: what it is worth is what the hold of that sum in a sandbox is worth. -/
noncomputable def Try.pinned : Pinned := { name := "ytmgnekjhlfghaaa", sum := "c10b9e97ed35bd58a323359725dc501d079189dcaf86555ba7624756b012e61e", checked := Try.checked }
namespace Rows
def none {H : Type} : Left H := { results := [], args := [] }

/-- 'gafferlaw17.StateRefuses': WHATEVER THE INPUT: true; the input reads as it did. -/
def stateRefusesSpec : ChangeSpec := { name := "stateRefuses", fn := fun _ => fun
  | [d1, d2] => { results := [.lit (.bool true)], args := [d1, d2] }
  | _ => none }
def stateRefusesRow : OpenClaim := { program := "ytmgnekjhlfghaaa", sum := "c10b9e97ed35bd58a323359725dc501d079189dcaf86555ba7624756b012e61e", func := "gaffer/gafferlaw17.StateRefuses", spec := "stateRefuses", inPlace := ["internal/abi.NoEscape", "internal/bytealg.IndexByteString", "internal/bytealg.IndexString"], unfollowed := true, recurses := true, named := ["internal/bytealg.MaxLen"], apart := false }
def StateRefusesSaid : Prop := stateRefusesRow.holds Try.pinned (OpenSpec.ofChange stateRefusesSpec)

/-- ITS FALSE NEIGHBOUR: 'it returns false'. Refute it at one input. -/
def stateRefusesWrong : ChangeSpec := { name := "stateRefuses", fn := fun _ => fun
  | [d1, d2] => { results := [.lit (.bool false)], args := [d1, d2] }
  | _ => none }
def StateRefusesWrongFalsely : Prop := stateRefusesRow.holds Try.pinned (OpenSpec.ofChange stateRefusesWrong)

/-- 'gafferlaw17.StateTwins': WHATEVER THE INPUT: true; the input reads as it did. -/
def stateTwinsSpec : ChangeSpec := { name := "stateTwins", fn := fun _ => fun
  | [d1, d2] => { results := [.lit (.bool true)], args := [d1, d2] }
  | _ => none }
def stateTwinsRow : OpenClaim := { program := "ytmgnekjhlfghaaa", sum := "c10b9e97ed35bd58a323359725dc501d079189dcaf86555ba7624756b012e61e", func := "gaffer/gafferlaw17.StateTwins", spec := "stateTwins", inPlace := ["internal/abi.NoEscape", "internal/bytealg.IndexByteString", "internal/bytealg.IndexString"], unfollowed := true, recurses := true, named := ["internal/bytealg.MaxLen"], apart := false }
def StateTwinsSaid : Prop := stateTwinsRow.holds Try.pinned (OpenSpec.ofChange stateTwinsSpec)

/-- ITS FALSE NEIGHBOUR: 'it returns false'. Refute it at one input. -/
def stateTwinsWrong : ChangeSpec := { name := "stateTwins", fn := fun _ => fun
  | [d1, d2] => { results := [.lit (.bool false)], args := [d1, d2] }
  | _ => none }
def StateTwinsWrongFalsely : Prop := stateTwinsRow.holds Try.pinned (OpenSpec.ofChange stateTwinsWrong)

/-- 'gafferlaw17.StateCuts': WHATEVER THE INPUT: true; the input reads as it did. -/
def stateCutsSpec : ChangeSpec := { name := "stateCuts", fn := fun _ => fun
  | [d1, d2, d3] => { results := [.lit (.bool true)], args := [d1, d2, d3] }
  | _ => none }
def stateCutsRow : OpenClaim := { program := "ytmgnekjhlfghaaa", sum := "c10b9e97ed35bd58a323359725dc501d079189dcaf86555ba7624756b012e61e", func := "gaffer/gafferlaw17.StateCuts", spec := "stateCuts", inPlace := ["internal/abi.NoEscape", "internal/bytealg.IndexByteString", "internal/bytealg.IndexString"], unfollowed := true, recurses := true, named := ["internal/bytealg.MaxLen"], apart := false }
def StateCutsSaid : Prop := stateCutsRow.holds Try.pinned (OpenSpec.ofChange stateCutsSpec)

/-- ITS FALSE NEIGHBOUR: 'it returns false'. Refute it at one input. -/
def stateCutsWrong : ChangeSpec := { name := "stateCuts", fn := fun _ => fun
  | [d1, d2, d3] => { results := [.lit (.bool false)], args := [d1, d2, d3] }
  | _ => none }
def StateCutsWrongFalsely : Prop := stateCutsRow.holds Try.pinned (OpenSpec.ofChange stateCutsWrong)

/-- 'gafferlaw17.StateGrows': WHATEVER THE INPUT: true; the input reads as it did. -/
def stateGrowsSpec : ChangeSpec := { name := "stateGrows", fn := fun _ => fun
  | [d1, d2] => { results := [.lit (.bool true)], args := [d1, d2] }
  | _ => none }
def stateGrowsRow : OpenClaim := { program := "ytmgnekjhlfghaaa", sum := "c10b9e97ed35bd58a323359725dc501d079189dcaf86555ba7624756b012e61e", func := "gaffer/gafferlaw17.StateGrows", spec := "stateGrows", inPlace := ["internal/abi.NoEscape", "internal/bytealg.IndexByteString", "internal/bytealg.IndexString"], unfollowed := true, recurses := true, named := ["internal/bytealg.MaxLen"], apart := false }
def StateGrowsSaid : Prop := stateGrowsRow.holds Try.pinned (OpenSpec.ofChange stateGrowsSpec)

/-- ITS FALSE NEIGHBOUR: 'it returns false'. Refute it at one input. -/
def stateGrowsWrong : ChangeSpec := { name := "stateGrows", fn := fun _ => fun
  | [d1, d2] => { results := [.lit (.bool false)], args := [d1, d2] }
  | _ => none }
def StateGrowsWrongFalsely : Prop := stateGrowsRow.holds Try.pinned (OpenSpec.ofChange stateGrowsWrong)

/-- 'gafferlaw17.StateFinds': WHATEVER THE INPUT: true; the input reads as it did. -/
def stateFindsSpec : ChangeSpec := { name := "stateFinds", fn := fun _ => fun
  | [d1, d2] => { results := [.lit (.bool true)], args := [d1, d2] }
  | _ => none }
def stateFindsRow : OpenClaim := { program := "ytmgnekjhlfghaaa", sum := "c10b9e97ed35bd58a323359725dc501d079189dcaf86555ba7624756b012e61e", func := "gaffer/gafferlaw17.StateFinds", spec := "stateFinds", inPlace := ["internal/abi.NoEscape", "internal/bytealg.IndexByteString", "internal/bytealg.IndexString"], unfollowed := true, recurses := true, named := ["internal/bytealg.MaxLen"], apart := false }
def StateFindsSaid : Prop := stateFindsRow.holds Try.pinned (OpenSpec.ofChange stateFindsSpec)

/-- ITS FALSE NEIGHBOUR: 'it returns false'. Refute it at one input. -/
def stateFindsWrong : ChangeSpec := { name := "stateFinds", fn := fun _ => fun
  | [d1, d2] => { results := [.lit (.bool false)], args := [d1, d2] }
  | _ => none }
def StateFindsWrongFalsely : Prop := stateFindsRow.holds Try.pinned (OpenSpec.ofChange stateFindsWrong)

/-- 'gafferlaw17.StateOnly': WHATEVER THE INPUT: true; the input reads as it did. -/
def stateOnlySpec : ChangeSpec := { name := "stateOnly", fn := fun _ => fun
  | [d1, d2, d3] => { results := [.lit (.bool true)], args := [d1, d2, d3] }
  | _ => none }
def stateOnlyRow : OpenClaim := { program := "ytmgnekjhlfghaaa", sum := "c10b9e97ed35bd58a323359725dc501d079189dcaf86555ba7624756b012e61e", func := "gaffer/gafferlaw17.StateOnly", spec := "stateOnly", inPlace := ["internal/bytealg.IndexByteString", "internal/bytealg.IndexString", "internal/abi.NoEscape"], unfollowed := true, recurses := true, named := ["internal/bytealg.MaxLen"], apart := false }
def StateOnlySaid : Prop := stateOnlyRow.holds Try.pinned (OpenSpec.ofChange stateOnlySpec)

/-- ITS FALSE NEIGHBOUR: 'it returns false'. Refute it at one input. -/
def stateOnlyWrong : ChangeSpec := { name := "stateOnly", fn := fun _ => fun
  | [d1, d2, d3] => { results := [.lit (.bool false)], args := [d1, d2, d3] }
  | _ => none }
def StateOnlyWrongFalsely : Prop := stateOnlyRow.holds Try.pinned (OpenSpec.ofChange stateOnlyWrong)

/- THE SECOND FORM. 'bulk': how many values and letters a reading holds, each counted each time it is reached (what is shared counts as often as it is met; a slice's spare places count too). A statement '..UptoSaid' is the law's where the arguments, and the package variables that the reading takes, are together of bulk at most 1048576: NARROWER than '..Said'. Prove '..Said' where nothing that the law and all that it calls make is longer than what came in: it says more and counts as full. Else prove '..UptoSaid'. A law counts once. -/
mutual
def uptoBulk {H : Type} : DataW H → Nat
  | .lit (.string bytes) => bytes.length + 1
  | .lit _ => 1
  | .nil => 1
  | .ptr d => uptoBulk d + 1
  | .slice elems spare => uptoBulkAll elems + uptoBulkAll spare + 1
  | .agg parts => uptoBulkAll parts + 1
  | .iface _ d => uptoBulk d + 1
  | .map entries => uptoBulkEntries entries + 1
  | .held _ => 1
def uptoBulkAll {H : Type} : List (DataW H) → Nat
  | [] => 0
  | d :: r => uptoBulk d + uptoBulkAll r
def uptoBulkEntries {H : Type} : List (Lit × DataW H) → Nat
  | [] => 0
  | x :: r => uptoBulkEntry x + uptoBulkEntries r
def uptoBulkEntry {H : Type} : Lit × DataW H → Nat
  | (.string bytes, d) => bytes.length + uptoBulk d + 1
  | (_, d) => uptoBulk d + 1
 end
def uptoSmall : (H : Type) → List (DataW H) → Bool := fun _ ds => decide (uptoBulkAll ds ≤ 1048576)
def OpenSpec.upto (s : _root_.Go.ChangeSpec) : _root_.Go.OpenSpec := { _root_.Go.OpenSpec.ofChange s with cond := some uptoSmall }

/-- 'gafferlaw17.StateRefuses', WHERE WHAT IT READS IS OF BULK AT MOST 1048576: true; the input reads as it did. -/
def stateRefusesUptoRow : OpenClaim := { program := "ytmgnekjhlfghaaa", sum := "c10b9e97ed35bd58a323359725dc501d079189dcaf86555ba7624756b012e61e", func := "gaffer/gafferlaw17.StateRefuses", spec := "stateRefuses", inPlace := ["internal/abi.NoEscape", "internal/bytealg.IndexByteString", "internal/bytealg.IndexString"], unfollowed := true, recurses := true, named := ["internal/bytealg.MaxLen"], apart := false, narrowed := true }
def StateRefusesUptoSaid : Prop := stateRefusesUptoRow.holds Try.pinned (OpenSpec.upto stateRefusesSpec)

/-- 'gafferlaw17.StateTwins', WHERE WHAT IT READS IS OF BULK AT MOST 1048576: true; the input reads as it did. -/
def stateTwinsUptoRow : OpenClaim := { program := "ytmgnekjhlfghaaa", sum := "c10b9e97ed35bd58a323359725dc501d079189dcaf86555ba7624756b012e61e", func := "gaffer/gafferlaw17.StateTwins", spec := "stateTwins", inPlace := ["internal/abi.NoEscape", "internal/bytealg.IndexByteString", "internal/bytealg.IndexString"], unfollowed := true, recurses := true, named := ["internal/bytealg.MaxLen"], apart := false, narrowed := true }
def StateTwinsUptoSaid : Prop := stateTwinsUptoRow.holds Try.pinned (OpenSpec.upto stateTwinsSpec)

/-- 'gafferlaw17.StateCuts', WHERE WHAT IT READS IS OF BULK AT MOST 1048576: true; the input reads as it did. -/
def stateCutsUptoRow : OpenClaim := { program := "ytmgnekjhlfghaaa", sum := "c10b9e97ed35bd58a323359725dc501d079189dcaf86555ba7624756b012e61e", func := "gaffer/gafferlaw17.StateCuts", spec := "stateCuts", inPlace := ["internal/abi.NoEscape", "internal/bytealg.IndexByteString", "internal/bytealg.IndexString"], unfollowed := true, recurses := true, named := ["internal/bytealg.MaxLen"], apart := false, narrowed := true }
def StateCutsUptoSaid : Prop := stateCutsUptoRow.holds Try.pinned (OpenSpec.upto stateCutsSpec)

/-- 'gafferlaw17.StateGrows', WHERE WHAT IT READS IS OF BULK AT MOST 1048576: true; the input reads as it did. -/
def stateGrowsUptoRow : OpenClaim := { program := "ytmgnekjhlfghaaa", sum := "c10b9e97ed35bd58a323359725dc501d079189dcaf86555ba7624756b012e61e", func := "gaffer/gafferlaw17.StateGrows", spec := "stateGrows", inPlace := ["internal/abi.NoEscape", "internal/bytealg.IndexByteString", "internal/bytealg.IndexString"], unfollowed := true, recurses := true, named := ["internal/bytealg.MaxLen"], apart := false, narrowed := true }
def StateGrowsUptoSaid : Prop := stateGrowsUptoRow.holds Try.pinned (OpenSpec.upto stateGrowsSpec)

/-- 'gafferlaw17.StateFinds', WHERE WHAT IT READS IS OF BULK AT MOST 1048576: true; the input reads as it did. -/
def stateFindsUptoRow : OpenClaim := { program := "ytmgnekjhlfghaaa", sum := "c10b9e97ed35bd58a323359725dc501d079189dcaf86555ba7624756b012e61e", func := "gaffer/gafferlaw17.StateFinds", spec := "stateFinds", inPlace := ["internal/abi.NoEscape", "internal/bytealg.IndexByteString", "internal/bytealg.IndexString"], unfollowed := true, recurses := true, named := ["internal/bytealg.MaxLen"], apart := false, narrowed := true }
def StateFindsUptoSaid : Prop := stateFindsUptoRow.holds Try.pinned (OpenSpec.upto stateFindsSpec)

/-- 'gafferlaw17.StateOnly', WHERE WHAT IT READS IS OF BULK AT MOST 1048576: true; the input reads as it did. -/
def stateOnlyUptoRow : OpenClaim := { program := "ytmgnekjhlfghaaa", sum := "c10b9e97ed35bd58a323359725dc501d079189dcaf86555ba7624756b012e61e", func := "gaffer/gafferlaw17.StateOnly", spec := "stateOnly", inPlace := ["internal/bytealg.IndexByteString", "internal/bytealg.IndexString", "internal/abi.NoEscape"], unfollowed := true, recurses := true, named := ["internal/bytealg.MaxLen"], apart := false, narrowed := true }
def StateOnlyUptoSaid : Prop := stateOnlyUptoRow.holds Try.pinned (OpenSpec.upto stateOnlySpec)

end Rows
end Go.Proofs.Ytmgnekjhlfghaaa
