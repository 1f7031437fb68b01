/-
  Merged, in build order: WRep.
-/
import Derived.Shelf.LaysM
import Derived.Shelf.Strings.Repeat
import Derived.Test.YthghnlgojmedgaaProg
/-
  The shelf's contract at this dump (written by the kit's tool lay-plain.mjs): strings.Repeat.
-/
namespace Go.Proofs.Ythghnlgojmedgaa
open Go.Shelf
def sh_lays105_ren : Go.Shelf.Ren := ⟨fun | 105 => 53 | 212 => 61 | 99 => 62 | 165 => 63 | 166 => 55 | 170 => 64 | 169 => 56 | 263 => 71 | 264 => 72 | 206 => 73 | 240 => 65 | 241 => 74 | 276 => 75 | 277 => 79 | n => n, fun | 9 => 9 | 3 => 3 | 4 => 4 | 20 => 20 | 0 => 0 | 46 => 86 | 109 => 104 | 5 => 5 | 72 => 95 | 76 => 98 | 51 => 113 | 146 => 114 | 53 => 68 | 148 => 116 | 70 => 93 | 37 => 47 | 75 => 97 | 127 => 108 | 164 => 118 | 80 => 62 | n => n, fun | n => n⟩
theorem sh_lays105 : Go.Proofs.Lays.n105 Try.prog sh_lays105_ren := {
  mixed := by kernel_rfl
  f99 := Try.func62.trans (congrArg some (by kernel_rfl))
  f105 := Try.func53.trans (congrArg some (by kernel_rfl))
  f165 := Try.func63.trans (congrArg some (by kernel_rfl))
  f166 := Try.func55.trans (congrArg some (by kernel_rfl))
  f169 := Try.func56.trans (congrArg some (by kernel_rfl))
  f170 := Try.func64.trans (congrArg some (by kernel_rfl))
  f206 := Try.func73.trans (congrArg some (by kernel_rfl))
  f212 := Try.func61.trans (congrArg some (by kernel_rfl))
  f240 := Try.func65.trans (congrArg some (by kernel_rfl))
  f241 := Try.func74.trans (congrArg some (by kernel_rfl))
  f263 := Try.func71.trans (congrArg some (by kernel_rfl))
  f264 := Try.func72.trans (congrArg some (by kernel_rfl))
  f276 := Try.func75.trans (congrArg some (by kernel_rfl))
  f277 := Try.func79.trans (congrArg some (by kernel_rfl))
  t0 := Try.underlying0
  a0 := Try.isAgg0
  z0 := Try.sizeOf0
  v0 := Try.zeroValue0
  t3 := Try.underlying3
  a3 := Try.isAgg3
  z3 := Try.sizeOf3
  v3 := Try.zeroValue3
  t4 := Try.underlying4
  a4 := Try.isAgg4
  z4 := Try.sizeOf4
  v4 := Try.zeroValue4
  t5 := Try.underlying5
  a5 := Try.isAgg5
  z5 := Try.sizeOf5
  v5 := Try.zeroValue5
  t9 := Try.underlying9
  a9 := Try.isAgg9
  z9 := Try.sizeOf9
  v9 := Try.zeroValue9
  t20 := Try.underlying20
  a20 := Try.isAgg20
  z20 := Try.sizeOf20
  v20 := Try.zeroValue20
  t37 := Try.underlying47
  a37 := Try.isAgg47
  z37 := Try.sizeOf47
  v37 := Try.zeroValue47
  t46 := Try.underlying86
  a46 := Try.isAgg86
  z46 := Try.sizeOf86
  v46 := Try.zeroValue86
  t51 := Try.underlying113
  a51 := Try.isAgg113
  z51 := Try.sizeOf113
  v51 := Try.zeroValue113
  t53 := Try.underlying68
  a53 := Try.isAgg68
  z53 := Try.sizeOf68
  v53 := Try.zeroValue68
  t70 := Try.underlying93
  a70 := Try.isAgg93
  z70 := Try.sizeOf93
  v70 := Try.zeroValue93
  t72 := Try.underlying95
  a72 := Try.isAgg95
  z72 := Try.sizeOf95
  v72 := Try.zeroValue95
  t75 := Try.underlying97
  a75 := Try.isAgg97
  z75 := Try.sizeOf97
  v75 := Try.zeroValue97
  t76 := Try.underlying98
  a76 := Try.isAgg98
  z76 := Try.sizeOf98
  v76 := Try.zeroValue98
  t109 := Try.underlying104
  a109 := Try.isAgg104
  z109 := Try.sizeOf104
  v109 := Try.zeroValue104
  t127 := Try.underlying108
  a127 := Try.isAgg108
  z127 := Try.sizeOf108
  v127 := Try.zeroValue108
  t146 := Try.underlying114
  a146 := Try.isAgg114
  z146 := Try.sizeOf114
  v146 := Try.zeroValue114
  t148 := Try.underlying116
  a148 := Try.isAgg116
  z148 := Try.sizeOf116
  v148 := Try.zeroValue116
  t164 := Try.underlying118
  a164 := Try.isAgg118
  z164 := Try.sizeOf118
  v164 := Try.zeroValue118 }
theorem sh_Builder_Extra_105 : Builder.Extra Try.prog sh_lays105_ren := {
  sizeBuilder := by kernel_rfl
  liesBuilder := by kernel_rfl
  t5 := Try.underlying5
  a5 := Try.isAgg5
  z5 := Try.sizeOf5
  v5 := Try.zeroValue5
  infoByte := by kernel_rfl
  cellsByte := by kernel_rfl
  sizeByte := by kernel_rfl
  neB5 := by decide }
open Go.RowKit Go.Lib in
theorem sh_strings_Repeat (s : ByteArray) (c : Nat) (w : World) (hc : c ≤ 9223372036854775807) (hlen : s.size * c ≤ 140737488355328) :
    Calls Try.prog 53 #[.string s, .int .i64 c] w fun e w' => e = .returned (.string ⟨(Lib.repeatL s.data.toList c).toArray⟩) ∧ Below w.heap.size w w' := Any.strings_Repeat sh_lays105 sh_Builder_Extra_105 s c w hc hlen

end Go.Proofs.Ythghnlgojmedgaa
