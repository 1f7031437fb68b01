/-
  No cell of these rows narrows 'for every input' (looked for: loops, veiled, ifaces, maps, wideKeys, modest, calm, conditions, laid).
  DERIVED. THE GIVEN ROWS OF THIS SEAT. 7 by the template 'for every input the law returns true; each argument reads behind the call as it read before'; 0 by the template 'total and deterministic' (their statements: YtdobbmlaokolmaaTotals.lean).
  GIVEN WITH THE SEED: the statements are not yours to turn. If you find one false, say at which input.
  Laid BY PROGRAM, IN A SANDBOX (cutbox-rows.mjs): the forced cells as the released guide's own fill.sh prints them over the translation 8525c4ec90ec4b99… (all of the seat's roots in one cut). By AI agents, Wed Nov 11 2026. No macro, syntax, notation, axiom, sorry.
-/
import Derived.Test.YtdobbmlaokolmaaChecked
import GoSem.Claim
import GoSem.ClaimJoined
import GoSem.ClaimMapViews
import Derived.JoinedTies
import Derived.KernelRfl
namespace Go.Proofs.Ytdobbmlaokolmaa
/- THE CELL 'sum', in the pinned program and in every row, IS THE sha256 OF THE DUMP (.gsa) THAT YtdobbmlaokolmaaProg.lean LOADS. Nothing in Lean hashes anything: it is a label: what it is worth is what the hold of that sum in a sandbox is worth. -/
noncomputable def Try.pinned : Pinned := { name := "ytdobbmlaokolmaa", sum := "8525c4ec90ec4b9909fa98a84edd25327def8058af0f7a9f944436bfb78139f4", checked := Try.checked }
namespace Rows
def none {H : Type} : Left H := { results := [], args := [] }

/-- 'gafferlaw08.RecordChecks': WHATEVER THE INPUT: true; the input reads as it did. -/
def recordChecksSpec : ChangeSpec := { name := "recordChecks", fn := fun _ => fun
  | [d] => { results := [.lit (.bool true)], args := [d] }
  | _ => none }
def recordChecksRow : OpenClaim := { program := "ytdobbmlaokolmaa", sum := "8525c4ec90ec4b9909fa98a84edd25327def8058af0f7a9f944436bfb78139f4", func := "gaffer/gafferlaw08.RecordChecks", spec := "recordChecks", inPlace := ["internal/bytealg.IndexByteString", "internal/bytealg.IndexString", "internal/abi.NoEscape"], unfollowed := true, recurses := true, named := ["internal/bytealg.MaxLen"], apart := false }
def RecordChecksSaid : Prop := recordChecksRow.holds Try.pinned (OpenSpec.ofChange recordChecksSpec)

/-- ITS FALSE NEIGHBOUR: 'it returns false'. Refute it at one input. -/
def recordChecksWrong : ChangeSpec := { name := "recordChecks", fn := fun _ => fun
  | [d] => { results := [.lit (.bool false)], args := [d] }
  | _ => none }
def RecordChecksWrongFalsely : Prop := recordChecksRow.holds Try.pinned (OpenSpec.ofChange recordChecksWrong)

/-- 'gafferlaw08.RecordEncodes': WHATEVER THE INPUT: true; the input reads as it did. -/
def recordEncodesSpec : ChangeSpec := { name := "recordEncodes", fn := fun _ => fun
  | [d] => { results := [.lit (.bool true)], args := [d] }
  | _ => none }
def recordEncodesRow : OpenClaim := { program := "ytdobbmlaokolmaa", sum := "8525c4ec90ec4b9909fa98a84edd25327def8058af0f7a9f944436bfb78139f4", func := "gaffer/gafferlaw08.RecordEncodes", spec := "recordEncodes", inPlace := ["internal/bytealg.IndexByteString", "internal/bytealg.IndexString", "internal/abi.NoEscape"], unfollowed := true, recurses := true, named := ["internal/bytealg.MaxLen"], apart := false }
def RecordEncodesSaid : Prop := recordEncodesRow.holds Try.pinned (OpenSpec.ofChange recordEncodesSpec)

/-- ITS FALSE NEIGHBOUR: 'it returns false'. Refute it at one input. -/
def recordEncodesWrong : ChangeSpec := { name := "recordEncodes", fn := fun _ => fun
  | [d] => { results := [.lit (.bool false)], args := [d] }
  | _ => none }
def RecordEncodesWrongFalsely : Prop := recordEncodesRow.holds Try.pinned (OpenSpec.ofChange recordEncodesWrong)

/-- 'gafferlaw08.RecordDecodes': WHATEVER THE INPUT: true; the input reads as it did. -/
def recordDecodesSpec : ChangeSpec := { name := "recordDecodes", fn := fun _ => fun
  | [d] => { results := [.lit (.bool true)], args := [d] }
  | _ => none }
def recordDecodesRow : OpenClaim := { program := "ytdobbmlaokolmaa", sum := "8525c4ec90ec4b9909fa98a84edd25327def8058af0f7a9f944436bfb78139f4", func := "gaffer/gafferlaw08.RecordDecodes", spec := "recordDecodes", inPlace := ["internal/bytealg.IndexByteString", "internal/bytealg.IndexString", "internal/abi.NoEscape"], unfollowed := true, recurses := true, named := ["internal/bytealg.MaxLen"], apart := false }
def RecordDecodesSaid : Prop := recordDecodesRow.holds Try.pinned (OpenSpec.ofChange recordDecodesSpec)

/-- ITS FALSE NEIGHBOUR: 'it returns false'. Refute it at one input. -/
def recordDecodesWrong : ChangeSpec := { name := "recordDecodes", fn := fun _ => fun
  | [d] => { results := [.lit (.bool false)], args := [d] }
  | _ => none }
def RecordDecodesWrongFalsely : Prop := recordDecodesRow.holds Try.pinned (OpenSpec.ofChange recordDecodesWrong)

/-- 'gafferlaw08.RecordReturns': WHATEVER THE INPUT: true; the input reads as it did. -/
def recordReturnsSpec : ChangeSpec := { name := "recordReturns", fn := fun _ => fun
  | [d1, d2, d3] => { results := [.lit (.bool true)], args := [d1, d2, d3] }
  | _ => none }
def recordReturnsRow : OpenClaim := { program := "ytdobbmlaokolmaa", sum := "8525c4ec90ec4b9909fa98a84edd25327def8058af0f7a9f944436bfb78139f4", func := "gaffer/gafferlaw08.RecordReturns", spec := "recordReturns", inPlace := ["internal/bytealg.IndexByteString", "internal/bytealg.IndexString", "internal/abi.NoEscape"], unfollowed := true, recurses := true, named := ["internal/bytealg.MaxLen"], apart := false }
def RecordReturnsSaid : Prop := recordReturnsRow.holds Try.pinned (OpenSpec.ofChange recordReturnsSpec)

/-- ITS FALSE NEIGHBOUR: 'it returns false'. Refute it at one input. -/
def recordReturnsWrong : ChangeSpec := { name := "recordReturns", fn := fun _ => fun
  | [d1, d2, d3] => { results := [.lit (.bool false)], args := [d1, d2, d3] }
  | _ => none }
def RecordReturnsWrongFalsely : Prop := recordReturnsRow.holds Try.pinned (OpenSpec.ofChange recordReturnsWrong)

/-- 'gafferlaw08.RecordOnly': WHATEVER THE INPUT: true; the input reads as it did. -/
def recordOnlySpec : ChangeSpec := { name := "recordOnly", fn := fun _ => fun
  | [d1, d2] => { results := [.lit (.bool true)], args := [d1, d2] }
  | _ => none }
def recordOnlyRow : OpenClaim := { program := "ytdobbmlaokolmaa", sum := "8525c4ec90ec4b9909fa98a84edd25327def8058af0f7a9f944436bfb78139f4", func := "gaffer/gafferlaw08.RecordOnly", spec := "recordOnly", inPlace := ["internal/bytealg.IndexByteString", "internal/bytealg.IndexString", "internal/abi.NoEscape"], unfollowed := true, recurses := true, named := ["internal/bytealg.MaxLen"], apart := false }
def RecordOnlySaid : Prop := recordOnlyRow.holds Try.pinned (OpenSpec.ofChange recordOnlySpec)

/-- ITS FALSE NEIGHBOUR: 'it returns false'. Refute it at one input. -/
def recordOnlyWrong : ChangeSpec := { name := "recordOnly", fn := fun _ => fun
  | [d1, d2] => { results := [.lit (.bool false)], args := [d1, d2] }
  | _ => none }
def RecordOnlyWrongFalsely : Prop := recordOnlyRow.holds Try.pinned (OpenSpec.ofChange recordOnlyWrong)

/-- 'gafferlaw08.RecordJoins': WHATEVER THE INPUT: true; the input reads as it did. -/
def recordJoinsSpec : ChangeSpec := { name := "recordJoins", fn := fun _ => fun
  | [d1, d2] => { results := [.lit (.bool true)], args := [d1, d2] }
  | _ => none }
def recordJoinsRow : OpenClaim := { program := "ytdobbmlaokolmaa", sum := "8525c4ec90ec4b9909fa98a84edd25327def8058af0f7a9f944436bfb78139f4", func := "gaffer/gafferlaw08.RecordJoins", spec := "recordJoins", inPlace := ["internal/bytealg.IndexByteString", "internal/bytealg.IndexString", "internal/abi.NoEscape"], unfollowed := true, recurses := true, named := ["internal/bytealg.MaxLen"], apart := false }
def RecordJoinsSaid : Prop := recordJoinsRow.holds Try.pinned (OpenSpec.ofChange recordJoinsSpec)

/-- ITS FALSE NEIGHBOUR: 'it returns false'. Refute it at one input. -/
def recordJoinsWrong : ChangeSpec := { name := "recordJoins", fn := fun _ => fun
  | [d1, d2] => { results := [.lit (.bool false)], args := [d1, d2] }
  | _ => none }
def RecordJoinsWrongFalsely : Prop := recordJoinsRow.holds Try.pinned (OpenSpec.ofChange recordJoinsWrong)

/-- 'gafferlaw08.RecordTells': WHATEVER THE INPUT: true; the input reads as it did. -/
def recordTellsSpec : ChangeSpec := { name := "recordTells", fn := fun _ => fun
  | [d] => { results := [.lit (.bool true)], args := [d] }
  | _ => none }
def recordTellsRow : OpenClaim := { program := "ytdobbmlaokolmaa", sum := "8525c4ec90ec4b9909fa98a84edd25327def8058af0f7a9f944436bfb78139f4", func := "gaffer/gafferlaw08.RecordTells", spec := "recordTells", inPlace := ["internal/bytealg.IndexByteString", "internal/bytealg.IndexString", "internal/abi.NoEscape"], unfollowed := true, recurses := true, named := ["internal/bytealg.MaxLen"], apart := false }
def RecordTellsSaid : Prop := recordTellsRow.holds Try.pinned (OpenSpec.ofChange recordTellsSpec)

/-- ITS FALSE NEIGHBOUR: 'it returns false'. Refute it at one input. -/
def recordTellsWrong : ChangeSpec := { name := "recordTells", fn := fun _ => fun
  | [d] => { results := [.lit (.bool false)], args := [d] }
  | _ => none }
def RecordTellsWrongFalsely : Prop := recordTellsRow.holds Try.pinned (OpenSpec.ofChange recordTellsWrong)

/- THE SECOND FORM. 'bulk': how many values and letters a reading holds, each counted each time it is reached (what is shared counts as often as it is met; a slice's spare places count too). A statement '..UptoSaid' is the law's where the arguments, and the package variables that the reading takes, are together of bulk at most 1048576: NARROWER than '..Said'. Prove '..Said' where nothing that the law and all that it calls make is longer than what came in: it says more and counts as full. Else prove '..UptoSaid'. A law counts once. -/
mutual
def uptoBulk {H : Type} : DataW H → Nat
  | .lit (.string bytes) => bytes.length + 1
  | .lit _ => 1
  | .nil => 1
  | .ptr d => uptoBulk d + 1
  | .slice elems spare => uptoBulkAll elems + uptoBulkAll spare + 1
  | .agg parts => uptoBulkAll parts + 1
  | .iface _ d => uptoBulk d + 1
  | .map entries => uptoBulkEntries entries + 1
  | .held _ => 1
def uptoBulkAll {H : Type} : List (DataW H) → Nat
  | [] => 0
  | d :: r => uptoBulk d + uptoBulkAll r
def uptoBulkEntries {H : Type} : List (Lit × DataW H) → Nat
  | [] => 0
  | x :: r => uptoBulkEntry x + uptoBulkEntries r
def uptoBulkEntry {H : Type} : Lit × DataW H → Nat
  | (.string bytes, d) => bytes.length + uptoBulk d + 1
  | (_, d) => uptoBulk d + 1
 end
def uptoSmall : (H : Type) → List (DataW H) → Bool := fun _ ds => decide (uptoBulkAll ds ≤ 1048576)
def OpenSpec.upto (s : _root_.Go.ChangeSpec) : _root_.Go.OpenSpec := { _root_.Go.OpenSpec.ofChange s with cond := some uptoSmall }

/-- 'gafferlaw08.RecordChecks', WHERE WHAT IT READS IS OF BULK AT MOST 1048576: true; the input reads as it did. -/
def recordChecksUptoRow : OpenClaim := { program := "ytdobbmlaokolmaa", sum := "8525c4ec90ec4b9909fa98a84edd25327def8058af0f7a9f944436bfb78139f4", func := "gaffer/gafferlaw08.RecordChecks", spec := "recordChecks", inPlace := ["internal/bytealg.IndexByteString", "internal/bytealg.IndexString", "internal/abi.NoEscape"], unfollowed := true, recurses := true, named := ["internal/bytealg.MaxLen"], apart := false, narrowed := true }
def RecordChecksUptoSaid : Prop := recordChecksUptoRow.holds Try.pinned (OpenSpec.upto recordChecksSpec)

/-- 'gafferlaw08.RecordEncodes', WHERE WHAT IT READS IS OF BULK AT MOST 1048576: true; the input reads as it did. -/
def recordEncodesUptoRow : OpenClaim := { program := "ytdobbmlaokolmaa", sum := "8525c4ec90ec4b9909fa98a84edd25327def8058af0f7a9f944436bfb78139f4", func := "gaffer/gafferlaw08.RecordEncodes", spec := "recordEncodes", inPlace := ["internal/bytealg.IndexByteString", "internal/bytealg.IndexString", "internal/abi.NoEscape"], unfollowed := true, recurses := true, named := ["internal/bytealg.MaxLen"], apart := false, narrowed := true }
def RecordEncodesUptoSaid : Prop := recordEncodesUptoRow.holds Try.pinned (OpenSpec.upto recordEncodesSpec)

/-- 'gafferlaw08.RecordDecodes', WHERE WHAT IT READS IS OF BULK AT MOST 1048576: true; the input reads as it did. -/
def recordDecodesUptoRow : OpenClaim := { program := "ytdobbmlaokolmaa", sum := "8525c4ec90ec4b9909fa98a84edd25327def8058af0f7a9f944436bfb78139f4", func := "gaffer/gafferlaw08.RecordDecodes", spec := "recordDecodes", inPlace := ["internal/bytealg.IndexByteString", "internal/bytealg.IndexString", "internal/abi.NoEscape"], unfollowed := true, recurses := true, named := ["internal/bytealg.MaxLen"], apart := false, narrowed := true }
def RecordDecodesUptoSaid : Prop := recordDecodesUptoRow.holds Try.pinned (OpenSpec.upto recordDecodesSpec)

/-- 'gafferlaw08.RecordReturns', WHERE WHAT IT READS IS OF BULK AT MOST 1048576: true; the input reads as it did. -/
def recordReturnsUptoRow : OpenClaim := { program := "ytdobbmlaokolmaa", sum := "8525c4ec90ec4b9909fa98a84edd25327def8058af0f7a9f944436bfb78139f4", func := "gaffer/gafferlaw08.RecordReturns", spec := "recordReturns", inPlace := ["internal/bytealg.IndexByteString", "internal/bytealg.IndexString", "internal/abi.NoEscape"], unfollowed := true, recurses := true, named := ["internal/bytealg.MaxLen"], apart := false, narrowed := true }
def RecordReturnsUptoSaid : Prop := recordReturnsUptoRow.holds Try.pinned (OpenSpec.upto recordReturnsSpec)

/-- 'gafferlaw08.RecordOnly', WHERE WHAT IT READS IS OF BULK AT MOST 1048576: true; the input reads as it did. -/
def recordOnlyUptoRow : OpenClaim := { program := "ytdobbmlaokolmaa", sum := "8525c4ec90ec4b9909fa98a84edd25327def8058af0f7a9f944436bfb78139f4", func := "gaffer/gafferlaw08.RecordOnly", spec := "recordOnly", inPlace := ["internal/bytealg.IndexByteString", "internal/bytealg.IndexString", "internal/abi.NoEscape"], unfollowed := true, recurses := true, named := ["internal/bytealg.MaxLen"], apart := false, narrowed := true }
def RecordOnlyUptoSaid : Prop := recordOnlyUptoRow.holds Try.pinned (OpenSpec.upto recordOnlySpec)

/-- 'gafferlaw08.RecordJoins', WHERE WHAT IT READS IS OF BULK AT MOST 1048576: true; the input reads as it did. -/
def recordJoinsUptoRow : OpenClaim := { program := "ytdobbmlaokolmaa", sum := "8525c4ec90ec4b9909fa98a84edd25327def8058af0f7a9f944436bfb78139f4", func := "gaffer/gafferlaw08.RecordJoins", spec := "recordJoins", inPlace := ["internal/bytealg.IndexByteString", "internal/bytealg.IndexString", "internal/abi.NoEscape"], unfollowed := true, recurses := true, named := ["internal/bytealg.MaxLen"], apart := false, narrowed := true }
def RecordJoinsUptoSaid : Prop := recordJoinsUptoRow.holds Try.pinned (OpenSpec.upto recordJoinsSpec)

/-- 'gafferlaw08.RecordTells', WHERE WHAT IT READS IS OF BULK AT MOST 1048576: true; the input reads as it did. -/
def recordTellsUptoRow : OpenClaim := { program := "ytdobbmlaokolmaa", sum := "8525c4ec90ec4b9909fa98a84edd25327def8058af0f7a9f944436bfb78139f4", func := "gaffer/gafferlaw08.RecordTells", spec := "recordTells", inPlace := ["internal/bytealg.IndexByteString", "internal/bytealg.IndexString", "internal/abi.NoEscape"], unfollowed := true, recurses := true, named := ["internal/bytealg.MaxLen"], apart := false, narrowed := true }
def RecordTellsUptoSaid : Prop := recordTellsUptoRow.holds Try.pinned (OpenSpec.upto recordTellsSpec)

end Rows
end Go.Proofs.Ytdobbmlaokolmaa
