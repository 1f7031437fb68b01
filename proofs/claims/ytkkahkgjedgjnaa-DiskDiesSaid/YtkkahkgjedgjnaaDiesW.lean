/-
  DiskDies' walk, of its arguments as they come in.
-/
import Derived.Test.YtkkahkgjedgjnaaInD
import Derived.Test.YtkkahkgjedgjnaaDies
namespace Go.Proofs.Ytkkahkgjedgjnaa
open Go.RowKit
set_option linter.unusedVariables false

theorem dies_walk (w : World) (a : Option Addr) (na ca : Nat) (V : Nat → Value) (hS : SlIn w 1 16 a na ca V) (hq : ∀ i, i < na → Str (V (i * 1)))
    (b : Option Addr) (nb cb : Nat) (U : Nat → Value) (hT : SlIn w 2 24 b nb cb U) (hq0 : ∀ i, i < nb → I64 (U (i * 2))) (hq1 : ∀ i, i < nb → Str (U (i * 2 + 1)))
    (n : Int) (n1 : -9223372036854775808 ≤ n) (n2 : n ≤ 9223372036854775807) (m : Int) (m1 : -9223372036854775808 ≤ m) (m2 : m ≤ 9223372036854775807)
    (s : Option Addr) (ns cs : Nat) (Y : Nat → Value) (hY : SlIn w 5 48 s ns cs Y) (hy0 : ∀ i, i < ns → I64 (Y (i * 5))) (hy1 : ∀ i, i < ns → I64 (Y (i * 5 + 1))) (hy2 : ∀ i, i < ns → I64 (Y (i * 5 + 2))) (hy3 : ∀ i, i < ns → I64 (Y (i * 5 + 3))) (hy4 : ∀ i, i < ns → Str (Y (i * 5 + 4))) :
    Calls Try.prog 13 #[.agg #[.slice a na ca, .slice b nb cb, .int .i64 n, .int .i64 m], .slice s ns cs] w fun e w' => e = .returned (.bool true) ∧ Fr [] w w' := by
  obtain ⟨ss, hl, hI, _, _⟩ := strs_of hS hq
  exact dies_any w a b na ca nb cb n m ss hl hI s ns cs Y hY hy0 hy1 hy2 hy3 hy4

end Go.Proofs.Ytkkahkgjedgjnaa
