/-
  DiskKeeps' walk, of its arguments as they come in.
-/
import Derived.Test.YtkkahkgjedgjnaaInD
import Derived.Test.YtkkahkgjedgjnaaKeeps
namespace Go.Proofs.Ytkkahkgjedgjnaa
open Go.RowKit
set_option linter.unusedVariables false

theorem keeps_walk (w : World) (n : Int) (n1 : -9223372036854775808 ≤ n) (n2 : n ≤ 9223372036854775807)
    (s : Option Addr) (ns cs : Nat) (Y : Nat → Value) (hY : SlIn w 5 48 s ns cs Y) (hy0 : ∀ i, i < ns → I64 (Y (i * 5))) (hy1 : ∀ i, i < ns → I64 (Y (i * 5 + 1))) (hy2 : ∀ i, i < ns → I64 (Y (i * 5 + 2))) (hy3 : ∀ i, i < ns → I64 (Y (i * 5 + 3))) (hy4 : ∀ i, i < ns → Str (Y (i * 5 + 4))) :
    Calls Try.prog 8 #[.int .i64 n, .slice s ns cs] w fun e w' => e = .returned (.bool true) ∧ Fr [] w w' :=
  keeps_any w n n1 n2 s ns cs Y hY hy0 hy1 hy2 hy3 hy4

end Go.Proofs.Ytkkahkgjedgjnaa
