/-
  A queue's rows as plain data.
-/
import Derived.Test.YthdcpenhfccagaaGen
import Derived.Test.YthdcpenhfccagaaProg
import Derived.WalkSpells
import Derived.WalkLawsBesides
import Derived.BigRegion
import Derived.BigQuiet
import Derived.Deep.QuietTactic
import Derived.Handy
import Derived.Deep.Cut
import Derived.RegionTactic
import Derived.Deep.RegionLaw
import Derived.Deep.RegionHeld3
namespace Go.Proofs.Ythdcpenhfccagaa
open Go.RowKit
set_option linter.unusedVariables false
set_option linter.unusedSimpArgs false

@[ext] structure QR where
  job : Int
  st : Int
  at_ : Int
  ba : Int
  node : Int
  life : Int
  code : Int
  bits : Int

def QR.zero : QR := ⟨0, 0, 0, 0, 0, 0, 0, 0⟩
def QR.f (r : QR) : List Value := [.int .i64 r.job, .int .i64 r.st, .int .i64 r.at_, .int .i64 r.ba, .int .i64 r.node, .int .i64 r.life, .int .i64 r.code, .int .u64 r.bits]
def qL : Lay QR where
  f := QR.f
  d := .zero
  sz := 8
  len := fun _ => rfl
  pos := by decide
  one := fun a u hu => by simp [QR.f] at hu; rcases hu with rfl | rfl | rfl | rfl | rfl | rfl | rfl | rfl <;> rfl

/-- A queue's state. -/
structure QS where
  att : Int
  rows : List QR

end Go.Proofs.Ythdcpenhfccagaa
