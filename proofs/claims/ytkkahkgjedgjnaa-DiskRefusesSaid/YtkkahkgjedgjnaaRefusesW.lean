/-
  DiskRefuses' walk, of its arguments as they come in.
-/
import Derived.Test.YtkkahkgjedgjnaaInD
import Derived.Test.YtkkahkgjedgjnaaRefuses
namespace Go.Proofs.Ytkkahkgjedgjnaa
open Go.RowKit
set_option linter.unusedVariables false

theorem refuses_walk (w : World) (a : Option Addr) (na ca : Nat) (V : Nat → Value) (hS : SlIn w 1 16 a na ca V) (hq : ∀ i, i < na → Str (V (i * 1)))
    (b : Option Addr) (nb cb : Nat) (U : Nat → Value) (hT : SlIn w 2 24 b nb cb U) (hq0 : ∀ i, i < nb → I64 (U (i * 2))) (hq1 : ∀ i, i < nb → Str (U (i * 2 + 1)))
    (n : Int) (n1 : -9223372036854775808 ≤ n) (n2 : n ≤ 9223372036854775807) (m : Int) (m1 : -9223372036854775808 ≤ m) (m2 : m ≤ 9223372036854775807) (k : Int) (k1 : -9223372036854775808 ≤ k) (k2 : k ≤ 9223372036854775807) :
    Calls Try.prog 12 #[.agg #[.slice a na ca, .slice b nb cb, .int .i64 n, .int .i64 m], .int .i64 k] w fun e w' => e = .returned (.bool true) ∧ Fr [] w w' := by
  obtain ⟨ss, hl, hI, _, _⟩ := strs_of hS hq
  obtain ⟨ws, hl2, hI2, hb, _⟩ := wrs_of hT hq0 hq1
  exact refuses_any w a b na ca nb cb n m k k1 k2 ss ws hl hl2 hI hI2 hb

end Go.Proofs.Ytkkahkgjedgjnaa
