/-
  No cell of these rows narrows 'for every input' (looked for: loops, veiled, ifaces, maps, wideKeys, modest, calm, conditions, laid).
  DERIVED. THE GIVEN ROWS OF THIS SEAT. 6 by the template 'for every input the law returns true; each argument reads behind the call as it read before'; 0 by the template 'total and deterministic' (their statements: YthghnlgojmedgaaTotals.lean).
  GIVEN WITH THE SEED: the statements are not yours to turn. If you find one false, say at which input.
  Laid BY PROGRAM, IN A SANDBOX (cutbox-rows.mjs): the forced cells as the released guide's own fill.sh prints them over the translation 740c2a1e7ad08c40… (all of the seat's roots in one cut). By AI agents, Wed Nov 11 2026. No macro, syntax, notation, axiom, sorry.
-/
import Derived.Test.YthghnlgojmedgaaChecked
import GoSem.Claim
import GoSem.ClaimJoined
import GoSem.ClaimMapViews
import Derived.JoinedTies
import Derived.KernelRfl
namespace Go.Proofs.Ythghnlgojmedgaa
/- THE CELL 'sum', in the pinned program and in every row, IS THE sha256 OF THE DUMP (.gsa) THAT YthghnlgojmedgaaProg.lean LOADS. Nothing in Lean hashes anything: it is a label: what it is worth is what the hold of that sum in a sandbox is worth. -/
noncomputable def Try.pinned : Pinned := { name := "ythghnlgojmedgaa", sum := "740c2a1e7ad08c407ffef0d9ae714c3dc03dd8d7bb4177547b1aa47c2ab9c5d2", checked := Try.checked }
namespace Rows
def none {H : Type} : Left H := { results := [], args := [] }

/-- 'gafferlaw09.WalKeeps': WHATEVER THE INPUT: true; the input reads as it did. -/
def walKeepsSpec : ChangeSpec := { name := "walKeeps", fn := fun _ => fun
  | [d] => { results := [.lit (.bool true)], args := [d] }
  | _ => none }
def walKeepsRow : OpenClaim := { program := "ythghnlgojmedgaa", sum := "740c2a1e7ad08c407ffef0d9ae714c3dc03dd8d7bb4177547b1aa47c2ab9c5d2", func := "gaffer/gafferlaw09.WalKeeps", spec := "walKeeps", inPlace := ["internal/abi.NoEscape", "internal/bytealg.MakeNoZero"], unfollowed := true, recurses := true, apart := false }
def WalKeepsSaid : Prop := walKeepsRow.holds Try.pinned (OpenSpec.ofChange walKeepsSpec)

/-- ITS FALSE NEIGHBOUR: 'it returns false'. Refute it at one input. -/
def walKeepsWrong : ChangeSpec := { name := "walKeeps", fn := fun _ => fun
  | [d] => { results := [.lit (.bool false)], args := [d] }
  | _ => none }
def WalKeepsWrongFalsely : Prop := walKeepsRow.holds Try.pinned (OpenSpec.ofChange walKeepsWrong)

/-- 'gafferlaw09.WalTells': WHATEVER THE INPUT: true; the input reads as it did. -/
def walTellsSpec : ChangeSpec := { name := "walTells", fn := fun _ => fun
  | [d1, d2, d3] => { results := [.lit (.bool true)], args := [d1, d2, d3] }
  | _ => none }
def walTellsRow : OpenClaim := { program := "ythghnlgojmedgaa", sum := "740c2a1e7ad08c407ffef0d9ae714c3dc03dd8d7bb4177547b1aa47c2ab9c5d2", func := "gaffer/gafferlaw09.WalTells", spec := "walTells", inPlace := ["internal/abi.NoEscape", "internal/bytealg.MakeNoZero"], unfollowed := true, recurses := true, apart := false }
def WalTellsSaid : Prop := walTellsRow.holds Try.pinned (OpenSpec.ofChange walTellsSpec)

/-- ITS FALSE NEIGHBOUR: 'it returns false'. Refute it at one input. -/
def walTellsWrong : ChangeSpec := { name := "walTells", fn := fun _ => fun
  | [d1, d2, d3] => { results := [.lit (.bool false)], args := [d1, d2, d3] }
  | _ => none }
def WalTellsWrongFalsely : Prop := walTellsRow.holds Try.pinned (OpenSpec.ofChange walTellsWrong)

/-- 'gafferlaw09.WalMends': WHATEVER THE INPUT: true; the input reads as it did. -/
def walMendsSpec : ChangeSpec := { name := "walMends", fn := fun _ => fun
  | [d1, d2] => { results := [.lit (.bool true)], args := [d1, d2] }
  | _ => none }
def walMendsRow : OpenClaim := { program := "ythghnlgojmedgaa", sum := "740c2a1e7ad08c407ffef0d9ae714c3dc03dd8d7bb4177547b1aa47c2ab9c5d2", func := "gaffer/gafferlaw09.WalMends", spec := "walMends", inPlace := ["internal/abi.NoEscape", "internal/bytealg.MakeNoZero"], unfollowed := true, recurses := true, apart := false }
def WalMendsSaid : Prop := walMendsRow.holds Try.pinned (OpenSpec.ofChange walMendsSpec)

/-- ITS FALSE NEIGHBOUR: 'it returns false'. Refute it at one input. -/
def walMendsWrong : ChangeSpec := { name := "walMends", fn := fun _ => fun
  | [d1, d2] => { results := [.lit (.bool false)], args := [d1, d2] }
  | _ => none }
def WalMendsWrongFalsely : Prop := walMendsRow.holds Try.pinned (OpenSpec.ofChange walMendsWrong)

/-- 'gafferlaw09.WalRooms': WHATEVER THE INPUT: true; the input reads as it did. -/
def walRoomsSpec : ChangeSpec := { name := "walRooms", fn := fun _ => fun
  | [d1, d2] => { results := [.lit (.bool true)], args := [d1, d2] }
  | _ => none }
def walRoomsRow : OpenClaim := { program := "ythghnlgojmedgaa", sum := "740c2a1e7ad08c407ffef0d9ae714c3dc03dd8d7bb4177547b1aa47c2ab9c5d2", func := "gaffer/gafferlaw09.WalRooms", spec := "walRooms", inPlace := ["internal/abi.NoEscape", "internal/bytealg.MakeNoZero"], unfollowed := true, recurses := true, apart := false }
def WalRoomsSaid : Prop := walRoomsRow.holds Try.pinned (OpenSpec.ofChange walRoomsSpec)

/-- ITS FALSE NEIGHBOUR: 'it returns false'. Refute it at one input. -/
def walRoomsWrong : ChangeSpec := { name := "walRooms", fn := fun _ => fun
  | [d1, d2] => { results := [.lit (.bool false)], args := [d1, d2] }
  | _ => none }
def WalRoomsWrongFalsely : Prop := walRoomsRow.holds Try.pinned (OpenSpec.ofChange walRoomsWrong)

/-- 'gafferlaw09.WalTwins': WHATEVER THE INPUT: true; the input reads as it did. -/
def walTwinsSpec : ChangeSpec := { name := "walTwins", fn := fun _ => fun
  | [d1, d2] => { results := [.lit (.bool true)], args := [d1, d2] }
  | _ => none }
def walTwinsRow : OpenClaim := { program := "ythghnlgojmedgaa", sum := "740c2a1e7ad08c407ffef0d9ae714c3dc03dd8d7bb4177547b1aa47c2ab9c5d2", func := "gaffer/gafferlaw09.WalTwins", spec := "walTwins", inPlace := ["internal/abi.NoEscape", "internal/bytealg.MakeNoZero"], unfollowed := true, recurses := true, apart := false }
def WalTwinsSaid : Prop := walTwinsRow.holds Try.pinned (OpenSpec.ofChange walTwinsSpec)

/-- ITS FALSE NEIGHBOUR: 'it returns false'. Refute it at one input. -/
def walTwinsWrong : ChangeSpec := { name := "walTwins", fn := fun _ => fun
  | [d1, d2] => { results := [.lit (.bool false)], args := [d1, d2] }
  | _ => none }
def WalTwinsWrongFalsely : Prop := walTwinsRow.holds Try.pinned (OpenSpec.ofChange walTwinsWrong)

/-- 'gafferlaw09.WalLives': WHATEVER THE INPUT: true; the input reads as it did. -/
def walLivesSpec : ChangeSpec := { name := "walLives", fn := fun _ => fun
  | [d1, d2] => { results := [.lit (.bool true)], args := [d1, d2] }
  | _ => none }
def walLivesRow : OpenClaim := { program := "ythghnlgojmedgaa", sum := "740c2a1e7ad08c407ffef0d9ae714c3dc03dd8d7bb4177547b1aa47c2ab9c5d2", func := "gaffer/gafferlaw09.WalLives", spec := "walLives", inPlace := ["internal/abi.NoEscape", "internal/bytealg.MakeNoZero"], unfollowed := true, recurses := true, apart := false }
def WalLivesSaid : Prop := walLivesRow.holds Try.pinned (OpenSpec.ofChange walLivesSpec)

/-- ITS FALSE NEIGHBOUR: 'it returns false'. Refute it at one input. -/
def walLivesWrong : ChangeSpec := { name := "walLives", fn := fun _ => fun
  | [d1, d2] => { results := [.lit (.bool false)], args := [d1, d2] }
  | _ => none }
def WalLivesWrongFalsely : Prop := walLivesRow.holds Try.pinned (OpenSpec.ofChange walLivesWrong)

/- THE SECOND FORM. 'bulk': how many values and letters a reading holds, each counted each time it is reached (what is shared counts as often as it is met; a slice's spare places count too). A statement '..UptoSaid' is the law's where the arguments, and the package variables that the reading takes, are together of bulk at most 1048576: NARROWER than '..Said'. Prove '..Said' where nothing that the law and all that it calls make is longer than what came in: it says more and counts as full. Else prove '..UptoSaid'. A law counts once. -/
mutual
def uptoBulk {H : Type} : DataW H → Nat
  | .lit (.string bytes) => bytes.length + 1
  | .lit _ => 1
  | .nil => 1
  | .ptr d => uptoBulk d + 1
  | .slice elems spare => uptoBulkAll elems + uptoBulkAll spare + 1
  | .agg parts => uptoBulkAll parts + 1
  | .iface _ d => uptoBulk d + 1
  | .map entries => uptoBulkEntries entries + 1
  | .held _ => 1
def uptoBulkAll {H : Type} : List (DataW H) → Nat
  | [] => 0
  | d :: r => uptoBulk d + uptoBulkAll r
def uptoBulkEntries {H : Type} : List (Lit × DataW H) → Nat
  | [] => 0
  | x :: r => uptoBulkEntry x + uptoBulkEntries r
def uptoBulkEntry {H : Type} : Lit × DataW H → Nat
  | (.string bytes, d) => bytes.length + uptoBulk d + 1
  | (_, d) => uptoBulk d + 1
 end
def uptoSmall : (H : Type) → List (DataW H) → Bool := fun _ ds => decide (uptoBulkAll ds ≤ 1048576)
def OpenSpec.upto (s : _root_.Go.ChangeSpec) : _root_.Go.OpenSpec := { _root_.Go.OpenSpec.ofChange s with cond := some uptoSmall }

/-- 'gafferlaw09.WalKeeps', WHERE WHAT IT READS IS OF BULK AT MOST 1048576: true; the input reads as it did. -/
def walKeepsUptoRow : OpenClaim := { program := "ythghnlgojmedgaa", sum := "740c2a1e7ad08c407ffef0d9ae714c3dc03dd8d7bb4177547b1aa47c2ab9c5d2", func := "gaffer/gafferlaw09.WalKeeps", spec := "walKeeps", inPlace := ["internal/abi.NoEscape", "internal/bytealg.MakeNoZero"], unfollowed := true, recurses := true, apart := false, narrowed := true }
def WalKeepsUptoSaid : Prop := walKeepsUptoRow.holds Try.pinned (OpenSpec.upto walKeepsSpec)

/-- 'gafferlaw09.WalTells', WHERE WHAT IT READS IS OF BULK AT MOST 1048576: true; the input reads as it did. -/
def walTellsUptoRow : OpenClaim := { program := "ythghnlgojmedgaa", sum := "740c2a1e7ad08c407ffef0d9ae714c3dc03dd8d7bb4177547b1aa47c2ab9c5d2", func := "gaffer/gafferlaw09.WalTells", spec := "walTells", inPlace := ["internal/abi.NoEscape", "internal/bytealg.MakeNoZero"], unfollowed := true, recurses := true, apart := false, narrowed := true }
def WalTellsUptoSaid : Prop := walTellsUptoRow.holds Try.pinned (OpenSpec.upto walTellsSpec)

/-- 'gafferlaw09.WalMends', WHERE WHAT IT READS IS OF BULK AT MOST 1048576: true; the input reads as it did. -/
def walMendsUptoRow : OpenClaim := { program := "ythghnlgojmedgaa", sum := "740c2a1e7ad08c407ffef0d9ae714c3dc03dd8d7bb4177547b1aa47c2ab9c5d2", func := "gaffer/gafferlaw09.WalMends", spec := "walMends", inPlace := ["internal/abi.NoEscape", "internal/bytealg.MakeNoZero"], unfollowed := true, recurses := true, apart := false, narrowed := true }
def WalMendsUptoSaid : Prop := walMendsUptoRow.holds Try.pinned (OpenSpec.upto walMendsSpec)

/-- 'gafferlaw09.WalRooms', WHERE WHAT IT READS IS OF BULK AT MOST 1048576: true; the input reads as it did. -/
def walRoomsUptoRow : OpenClaim := { program := "ythghnlgojmedgaa", sum := "740c2a1e7ad08c407ffef0d9ae714c3dc03dd8d7bb4177547b1aa47c2ab9c5d2", func := "gaffer/gafferlaw09.WalRooms", spec := "walRooms", inPlace := ["internal/abi.NoEscape", "internal/bytealg.MakeNoZero"], unfollowed := true, recurses := true, apart := false, narrowed := true }
def WalRoomsUptoSaid : Prop := walRoomsUptoRow.holds Try.pinned (OpenSpec.upto walRoomsSpec)

/-- 'gafferlaw09.WalTwins', WHERE WHAT IT READS IS OF BULK AT MOST 1048576: true; the input reads as it did. -/
def walTwinsUptoRow : OpenClaim := { program := "ythghnlgojmedgaa", sum := "740c2a1e7ad08c407ffef0d9ae714c3dc03dd8d7bb4177547b1aa47c2ab9c5d2", func := "gaffer/gafferlaw09.WalTwins", spec := "walTwins", inPlace := ["internal/abi.NoEscape", "internal/bytealg.MakeNoZero"], unfollowed := true, recurses := true, apart := false, narrowed := true }
def WalTwinsUptoSaid : Prop := walTwinsUptoRow.holds Try.pinned (OpenSpec.upto walTwinsSpec)

/-- 'gafferlaw09.WalLives', WHERE WHAT IT READS IS OF BULK AT MOST 1048576: true; the input reads as it did. -/
def walLivesUptoRow : OpenClaim := { program := "ythghnlgojmedgaa", sum := "740c2a1e7ad08c407ffef0d9ae714c3dc03dd8d7bb4177547b1aa47c2ab9c5d2", func := "gaffer/gafferlaw09.WalLives", spec := "walLives", inPlace := ["internal/abi.NoEscape", "internal/bytealg.MakeNoZero"], unfollowed := true, recurses := true, apart := false, narrowed := true }
def WalLivesUptoSaid : Prop := walLivesUptoRow.holds Try.pinned (OpenSpec.upto walLivesSpec)

end Rows
end Go.Proofs.Ythghnlgojmedgaa
