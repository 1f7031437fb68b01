/-
  gafferlaw08: fixed: what it reckons.
-/
import Derived.Test.YtdobbmlaokolmaaRB
namespace Go.Proofs.Ytdobbmlaokolmaa
open Go.RowKit
set_option linter.unusedVariables false
set_option linter.unusedSimpArgs false

theorem nf_small (n : Nat) (h : n < 128) : nf n = ⟨#[n.toUInt8]⟩ := by
  unfold nf; rw [Lib.uvarint_small (by omega)]

def fxG : CV := ⟨3, 0, 1, 2, 0, 1, 0, 0, ⟨#[]⟩, []⟩
def fxX : CV := ⟨5, 0, 0, 2, 0, 0, 0, 0, ⟨#[]⟩, []⟩
def fxR : CV := ⟨1, 300, 0, 0, 0, 0, 0, 0, ⟨#[]⟩, []⟩
theorem empty_toList : (⟨#[]⟩ : ByteArray).toList = [] := by simp [ByteArray.toList_eq]
theorem fxG_check : fxG.check = 0 := by
  simp only [CV.check, CV.r1, CV.r2, CV.r3, CV.r4, CV.r5, CV.r6, CV.r7, CV.noRes, fxG, empty_toList]
  decide
theorem fxX_check : fxX.check = 0 := by
  simp only [CV.check, CV.r1, CV.r2, CV.r3, CV.r4, CV.r5, CV.r6, CV.r7, CV.noRes, fxX, empty_toList]
  decide
theorem fxR_check : fxR.check = 0 := by
  simp only [CV.check, CV.r1, CV.r2, CV.r3, CV.r4, CV.r5, CV.r6, CV.r7, CV.noRes, fxR, empty_toList]
  decide
theorem fxG_put : fxG.put = [3, 1, 2, 0, 1] := by
  have h : (hasS 3).data.toList = [106, 98, 115] := by decide
  simp only [CV.put, fxG, h, List.flatMap_cons, List.flatMap_nil, CV.putL]
  simp [nf_small]
theorem fxX_put : fxX.put = [5, 2] := by
  have h : (hasS 5).data.toList = [98] := by decide
  simp only [CV.put, fxX, h, List.flatMap_cons, List.flatMap_nil, CV.putL]
  simp [nf_small]
theorem fx_encode : encode [fxG, fxX] = (⟨#[2, 3, 1, 2, 0, 1, 5, 2]⟩, 0) := by
  simp [encode, encGo, fxG_check, fxX_check, fxG_put, fxX_put, inB, nf_small]
theorem fx_change : rdChange ⟨#[1, 1, 172, 2]⟩ 1 = some (fxR, 4) := by
  have h1 : rdNum ⟨#[1, 1, 172, 2]⟩ 1 6 = some (1, 2) := by decide
  have h2 : rdNum ⟨#[1, 1, 172, 2]⟩ 2 1099511627776 = some (300, 4) := by decide
  have h : (hasS ((1 : Nat) : Int)).data.toList = [110] := by decide
  have hc := fxR_check
  unfold fxR at hc
  simp only [rdChange, h1, Option.bind_some, h, rdLets, rdLet, if_true, h2, Option.map_some, CV.zero, fxR]
  simp [hc]
theorem fx_decode : decode ⟨#[1, 1, 172, 2]⟩ = some [fxR] := by
  have h1 : rdNum ⟨#[1, 1, 172, 2]⟩ 0 16 = some (1, 1) := by decide
  have h2 : (⟨#[1, 1, 172, 2]⟩ : ByteArray).size = 4 := rfl
  simp [decode, h1, h2, rdAll, fx_change]
end Go.Proofs.Ytdobbmlaokolmaa
