/-
  No cell of these rows narrows 'for every input' (looked for: loops, veiled, ifaces, maps, wideKeys, modest, calm, conditions, laid).
  DERIVED. THE GIVEN ROWS OF THIS SEAT. 8 by the template 'for every input the law returns true; each argument reads behind the call as it read before'; 0 by the template 'total and deterministic' (their statements: YthdcpenhfccagaaTotals.lean).
  GIVEN WITH THE SEED: the statements are not yours to turn. If you find one false, say at which input.
  Laid BY PROGRAM, IN A SANDBOX (cutbox-rows.mjs): the forced cells as the released guide's own fill.sh prints them over the translation 65d6fc8904ce0e14… (all of the seat's roots in one cut). By AI agents, Wed Nov 11 2026. No macro, syntax, notation, axiom, sorry.
-/
import Derived.Test.YthdcpenhfccagaaChecked
import GoSem.Claim
import GoSem.ClaimJoined
import GoSem.ClaimMapViews
import Derived.JoinedTies
import Derived.KernelRfl
namespace Go.Proofs.Ythdcpenhfccagaa
/- THE CELL 'sum', in the pinned program and in every row, IS THE sha256 OF THE DUMP (.gsa) THAT YthdcpenhfccagaaProg.lean LOADS. Nothing in Lean hashes anything: it is a label: what it is worth is what the hold of that sum in a sandbox is worth. -/
noncomputable def Try.pinned : Pinned := { name := "ythdcpenhfccagaa", sum := "65d6fc8904ce0e14886c31a2db2907d63dc6b3bf83f59e5831fd415e1b51a48d", checked := Try.checked }
namespace Rows
def none {H : Type} : Left H := { results := [], args := [] }

/-- 'gafferlaw11.QueueEnds': WHATEVER THE INPUT: true; the input reads as it did. -/
def queueEndsSpec : ChangeSpec := { name := "queueEnds", fn := fun _ => fun
  | [d1, d2] => { results := [.lit (.bool true)], args := [d1, d2] }
  | _ => none }
def queueEndsRow : OpenClaim := { program := "ythdcpenhfccagaa", sum := "65d6fc8904ce0e14886c31a2db2907d63dc6b3bf83f59e5831fd415e1b51a48d", func := "gaffer/gafferlaw11.QueueEnds", spec := "queueEnds", unfollowed := true, recurses := true, apart := false }
def QueueEndsSaid : Prop := queueEndsRow.holds Try.pinned (OpenSpec.ofChange queueEndsSpec)

/-- ITS FALSE NEIGHBOUR: 'it returns false'. Refute it at one input. -/
def queueEndsWrong : ChangeSpec := { name := "queueEnds", fn := fun _ => fun
  | [d1, d2] => { results := [.lit (.bool false)], args := [d1, d2] }
  | _ => none }
def QueueEndsWrongFalsely : Prop := queueEndsRow.holds Try.pinned (OpenSpec.ofChange queueEndsWrong)

/-- 'gafferlaw11.QueueRefuses': WHATEVER THE INPUT: true; the input reads as it did. -/
def queueRefusesSpec : ChangeSpec := { name := "queueRefuses", fn := fun _ => fun
  | [d1, d2] => { results := [.lit (.bool true)], args := [d1, d2] }
  | _ => none }
def queueRefusesRow : OpenClaim := { program := "ythdcpenhfccagaa", sum := "65d6fc8904ce0e14886c31a2db2907d63dc6b3bf83f59e5831fd415e1b51a48d", func := "gaffer/gafferlaw11.QueueRefuses", spec := "queueRefuses", unfollowed := true, recurses := true, apart := false }
def QueueRefusesSaid : Prop := queueRefusesRow.holds Try.pinned (OpenSpec.ofChange queueRefusesSpec)

/-- ITS FALSE NEIGHBOUR: 'it returns false'. Refute it at one input. -/
def queueRefusesWrong : ChangeSpec := { name := "queueRefuses", fn := fun _ => fun
  | [d1, d2] => { results := [.lit (.bool false)], args := [d1, d2] }
  | _ => none }
def QueueRefusesWrongFalsely : Prop := queueRefusesRow.holds Try.pinned (OpenSpec.ofChange queueRefusesWrong)

/-- 'gafferlaw11.QueueTwins': WHATEVER THE INPUT: true; the input reads as it did. -/
def queueTwinsSpec : ChangeSpec := { name := "queueTwins", fn := fun _ => fun
  | [d1, d2, d3] => { results := [.lit (.bool true)], args := [d1, d2, d3] }
  | _ => none }
def queueTwinsRow : OpenClaim := { program := "ythdcpenhfccagaa", sum := "65d6fc8904ce0e14886c31a2db2907d63dc6b3bf83f59e5831fd415e1b51a48d", func := "gaffer/gafferlaw11.QueueTwins", spec := "queueTwins", unfollowed := true, recurses := true, apart := false }
def QueueTwinsSaid : Prop := queueTwinsRow.holds Try.pinned (OpenSpec.ofChange queueTwinsSpec)

/-- ITS FALSE NEIGHBOUR: 'it returns false'. Refute it at one input. -/
def queueTwinsWrong : ChangeSpec := { name := "queueTwins", fn := fun _ => fun
  | [d1, d2, d3] => { results := [.lit (.bool false)], args := [d1, d2, d3] }
  | _ => none }
def QueueTwinsWrongFalsely : Prop := queueTwinsRow.holds Try.pinned (OpenSpec.ofChange queueTwinsWrong)

/-- 'gafferlaw11.QueueKeeps': WHATEVER THE INPUT: true; the input reads as it did. -/
def queueKeepsSpec : ChangeSpec := { name := "queueKeeps", fn := fun _ => fun
  | [d] => { results := [.lit (.bool true)], args := [d] }
  | _ => none }
def queueKeepsRow : OpenClaim := { program := "ythdcpenhfccagaa", sum := "65d6fc8904ce0e14886c31a2db2907d63dc6b3bf83f59e5831fd415e1b51a48d", func := "gaffer/gafferlaw11.QueueKeeps", spec := "queueKeeps", unfollowed := true, recurses := true, apart := false }
def QueueKeepsSaid : Prop := queueKeepsRow.holds Try.pinned (OpenSpec.ofChange queueKeepsSpec)

/-- ITS FALSE NEIGHBOUR: 'it returns false'. Refute it at one input. -/
def queueKeepsWrong : ChangeSpec := { name := "queueKeeps", fn := fun _ => fun
  | [d] => { results := [.lit (.bool false)], args := [d] }
  | _ => none }
def QueueKeepsWrongFalsely : Prop := queueKeepsRow.holds Try.pinned (OpenSpec.ofChange queueKeepsWrong)

/-- 'gafferlaw11.QueueFinds': WHATEVER THE INPUT: true; the input reads as it did. -/
def queueFindsSpec : ChangeSpec := { name := "queueFinds", fn := fun _ => fun
  | [d1, d2] => { results := [.lit (.bool true)], args := [d1, d2] }
  | _ => none }
def queueFindsRow : OpenClaim := { program := "ythdcpenhfccagaa", sum := "65d6fc8904ce0e14886c31a2db2907d63dc6b3bf83f59e5831fd415e1b51a48d", func := "gaffer/gafferlaw11.QueueFinds", spec := "queueFinds", unfollowed := true, recurses := true, apart := false }
def QueueFindsSaid : Prop := queueFindsRow.holds Try.pinned (OpenSpec.ofChange queueFindsSpec)

/-- ITS FALSE NEIGHBOUR: 'it returns false'. Refute it at one input. -/
def queueFindsWrong : ChangeSpec := { name := "queueFinds", fn := fun _ => fun
  | [d1, d2] => { results := [.lit (.bool false)], args := [d1, d2] }
  | _ => none }
def QueueFindsWrongFalsely : Prop := queueFindsRow.holds Try.pinned (OpenSpec.ofChange queueFindsWrong)

/-- 'gafferlaw11.QueueDoes': WHATEVER THE INPUT: true; the input reads as it did. -/
def queueDoesSpec : ChangeSpec := { name := "queueDoes", fn := fun _ => fun
  | [d1, d2] => { results := [.lit (.bool true)], args := [d1, d2] }
  | _ => none }
def queueDoesRow : OpenClaim := { program := "ythdcpenhfccagaa", sum := "65d6fc8904ce0e14886c31a2db2907d63dc6b3bf83f59e5831fd415e1b51a48d", func := "gaffer/gafferlaw11.QueueDoes", spec := "queueDoes", unfollowed := true, recurses := true, apart := false }
def QueueDoesSaid : Prop := queueDoesRow.holds Try.pinned (OpenSpec.ofChange queueDoesSpec)

/-- ITS FALSE NEIGHBOUR: 'it returns false'. Refute it at one input. -/
def queueDoesWrong : ChangeSpec := { name := "queueDoes", fn := fun _ => fun
  | [d1, d2] => { results := [.lit (.bool false)], args := [d1, d2] }
  | _ => none }
def QueueDoesWrongFalsely : Prop := queueDoesRow.holds Try.pinned (OpenSpec.ofChange queueDoesWrong)

/-- 'gafferlaw11.QueueStays': WHATEVER THE INPUT: true; the input reads as it did. -/
def queueStaysSpec : ChangeSpec := { name := "queueStays", fn := fun _ => fun
  | [d1, d2] => { results := [.lit (.bool true)], args := [d1, d2] }
  | _ => none }
def queueStaysRow : OpenClaim := { program := "ythdcpenhfccagaa", sum := "65d6fc8904ce0e14886c31a2db2907d63dc6b3bf83f59e5831fd415e1b51a48d", func := "gaffer/gafferlaw11.QueueStays", spec := "queueStays", unfollowed := true, recurses := true, apart := false }
def QueueStaysSaid : Prop := queueStaysRow.holds Try.pinned (OpenSpec.ofChange queueStaysSpec)

/-- ITS FALSE NEIGHBOUR: 'it returns false'. Refute it at one input. -/
def queueStaysWrong : ChangeSpec := { name := "queueStays", fn := fun _ => fun
  | [d1, d2] => { results := [.lit (.bool false)], args := [d1, d2] }
  | _ => none }
def QueueStaysWrongFalsely : Prop := queueStaysRow.holds Try.pinned (OpenSpec.ofChange queueStaysWrong)

/-- 'gafferlaw11.QueueLoads': WHATEVER THE INPUT: true; the input reads as it did. -/
def queueLoadsSpec : ChangeSpec := { name := "queueLoads", fn := fun _ => fun
  | [d1, d2, d3] => { results := [.lit (.bool true)], args := [d1, d2, d3] }
  | _ => none }
def queueLoadsRow : OpenClaim := { program := "ythdcpenhfccagaa", sum := "65d6fc8904ce0e14886c31a2db2907d63dc6b3bf83f59e5831fd415e1b51a48d", func := "gaffer/gafferlaw11.QueueLoads", spec := "queueLoads", unfollowed := true, recurses := true, apart := false }
def QueueLoadsSaid : Prop := queueLoadsRow.holds Try.pinned (OpenSpec.ofChange queueLoadsSpec)

/-- ITS FALSE NEIGHBOUR: 'it returns false'. Refute it at one input. -/
def queueLoadsWrong : ChangeSpec := { name := "queueLoads", fn := fun _ => fun
  | [d1, d2, d3] => { results := [.lit (.bool false)], args := [d1, d2, d3] }
  | _ => none }
def QueueLoadsWrongFalsely : Prop := queueLoadsRow.holds Try.pinned (OpenSpec.ofChange queueLoadsWrong)

/- THE SECOND FORM. 'bulk': how many values and letters a reading holds, each counted each time it is reached (what is shared counts as often as it is met; a slice's spare places count too). A statement '..UptoSaid' is the law's where the arguments, and the package variables that the reading takes, are together of bulk at most 1048576: NARROWER than '..Said'. Prove '..Said' where nothing that the law and all that it calls make is longer than what came in: it says more and counts as full. Else prove '..UptoSaid'. A law counts once. -/
mutual
def uptoBulk {H : Type} : DataW H → Nat
  | .lit (.string bytes) => bytes.length + 1
  | .lit _ => 1
  | .nil => 1
  | .ptr d => uptoBulk d + 1
  | .slice elems spare => uptoBulkAll elems + uptoBulkAll spare + 1
  | .agg parts => uptoBulkAll parts + 1
  | .iface _ d => uptoBulk d + 1
  | .map entries => uptoBulkEntries entries + 1
  | .held _ => 1
def uptoBulkAll {H : Type} : List (DataW H) → Nat
  | [] => 0
  | d :: r => uptoBulk d + uptoBulkAll r
def uptoBulkEntries {H : Type} : List (Lit × DataW H) → Nat
  | [] => 0
  | x :: r => uptoBulkEntry x + uptoBulkEntries r
def uptoBulkEntry {H : Type} : Lit × DataW H → Nat
  | (.string bytes, d) => bytes.length + uptoBulk d + 1
  | (_, d) => uptoBulk d + 1
 end
def uptoSmall : (H : Type) → List (DataW H) → Bool := fun _ ds => decide (uptoBulkAll ds ≤ 1048576)
def OpenSpec.upto (s : _root_.Go.ChangeSpec) : _root_.Go.OpenSpec := { _root_.Go.OpenSpec.ofChange s with cond := some uptoSmall }

/-- 'gafferlaw11.QueueEnds', WHERE WHAT IT READS IS OF BULK AT MOST 1048576: true; the input reads as it did. -/
def queueEndsUptoRow : OpenClaim := { program := "ythdcpenhfccagaa", sum := "65d6fc8904ce0e14886c31a2db2907d63dc6b3bf83f59e5831fd415e1b51a48d", func := "gaffer/gafferlaw11.QueueEnds", spec := "queueEnds", unfollowed := true, recurses := true, apart := false, narrowed := true }
def QueueEndsUptoSaid : Prop := queueEndsUptoRow.holds Try.pinned (OpenSpec.upto queueEndsSpec)

/-- 'gafferlaw11.QueueRefuses', WHERE WHAT IT READS IS OF BULK AT MOST 1048576: true; the input reads as it did. -/
def queueRefusesUptoRow : OpenClaim := { program := "ythdcpenhfccagaa", sum := "65d6fc8904ce0e14886c31a2db2907d63dc6b3bf83f59e5831fd415e1b51a48d", func := "gaffer/gafferlaw11.QueueRefuses", spec := "queueRefuses", unfollowed := true, recurses := true, apart := false, narrowed := true }
def QueueRefusesUptoSaid : Prop := queueRefusesUptoRow.holds Try.pinned (OpenSpec.upto queueRefusesSpec)

/-- 'gafferlaw11.QueueTwins', WHERE WHAT IT READS IS OF BULK AT MOST 1048576: true; the input reads as it did. -/
def queueTwinsUptoRow : OpenClaim := { program := "ythdcpenhfccagaa", sum := "65d6fc8904ce0e14886c31a2db2907d63dc6b3bf83f59e5831fd415e1b51a48d", func := "gaffer/gafferlaw11.QueueTwins", spec := "queueTwins", unfollowed := true, recurses := true, apart := false, narrowed := true }
def QueueTwinsUptoSaid : Prop := queueTwinsUptoRow.holds Try.pinned (OpenSpec.upto queueTwinsSpec)

/-- 'gafferlaw11.QueueKeeps', WHERE WHAT IT READS IS OF BULK AT MOST 1048576: true; the input reads as it did. -/
def queueKeepsUptoRow : OpenClaim := { program := "ythdcpenhfccagaa", sum := "65d6fc8904ce0e14886c31a2db2907d63dc6b3bf83f59e5831fd415e1b51a48d", func := "gaffer/gafferlaw11.QueueKeeps", spec := "queueKeeps", unfollowed := true, recurses := true, apart := false, narrowed := true }
def QueueKeepsUptoSaid : Prop := queueKeepsUptoRow.holds Try.pinned (OpenSpec.upto queueKeepsSpec)

/-- 'gafferlaw11.QueueFinds', WHERE WHAT IT READS IS OF BULK AT MOST 1048576: true; the input reads as it did. -/
def queueFindsUptoRow : OpenClaim := { program := "ythdcpenhfccagaa", sum := "65d6fc8904ce0e14886c31a2db2907d63dc6b3bf83f59e5831fd415e1b51a48d", func := "gaffer/gafferlaw11.QueueFinds", spec := "queueFinds", unfollowed := true, recurses := true, apart := false, narrowed := true }
def QueueFindsUptoSaid : Prop := queueFindsUptoRow.holds Try.pinned (OpenSpec.upto queueFindsSpec)

/-- 'gafferlaw11.QueueDoes', WHERE WHAT IT READS IS OF BULK AT MOST 1048576: true; the input reads as it did. -/
def queueDoesUptoRow : OpenClaim := { program := "ythdcpenhfccagaa", sum := "65d6fc8904ce0e14886c31a2db2907d63dc6b3bf83f59e5831fd415e1b51a48d", func := "gaffer/gafferlaw11.QueueDoes", spec := "queueDoes", unfollowed := true, recurses := true, apart := false, narrowed := true }
def QueueDoesUptoSaid : Prop := queueDoesUptoRow.holds Try.pinned (OpenSpec.upto queueDoesSpec)

/-- 'gafferlaw11.QueueStays', WHERE WHAT IT READS IS OF BULK AT MOST 1048576: true; the input reads as it did. -/
def queueStaysUptoRow : OpenClaim := { program := "ythdcpenhfccagaa", sum := "65d6fc8904ce0e14886c31a2db2907d63dc6b3bf83f59e5831fd415e1b51a48d", func := "gaffer/gafferlaw11.QueueStays", spec := "queueStays", unfollowed := true, recurses := true, apart := false, narrowed := true }
def QueueStaysUptoSaid : Prop := queueStaysUptoRow.holds Try.pinned (OpenSpec.upto queueStaysSpec)

/-- 'gafferlaw11.QueueLoads', WHERE WHAT IT READS IS OF BULK AT MOST 1048576: true; the input reads as it did. -/
def queueLoadsUptoRow : OpenClaim := { program := "ythdcpenhfccagaa", sum := "65d6fc8904ce0e14886c31a2db2907d63dc6b3bf83f59e5831fd415e1b51a48d", func := "gaffer/gafferlaw11.QueueLoads", spec := "queueLoads", unfollowed := true, recurses := true, apart := false, narrowed := true }
def QueueLoadsUptoSaid : Prop := queueLoadsUptoRow.holds Try.pinned (OpenSpec.upto queueLoadsSpec)

end Rows
end Go.Proofs.Ythdcpenhfccagaa
