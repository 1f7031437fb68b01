/-
  Merged, in build order: Disk0.
-/
import Derived.Test.YthghnlgojmedgaaGreatProg
import Derived.WalkSpells
import Derived.WalkLawsBesides
import Derived.BigRegion
import Derived.BigQuiet
import Derived.Deep.QuietTactic
import Derived.Handy
import Derived.Lib.BufferWrite
import Derived.Laws.CopyOwn
import Derived.Deep.Cut
import Derived.Test.YthghnlgojmedgaaGreatM4
/-
  A disk's state as plain data, and what it is in memory.
-/
namespace Go.Proofs.YthghnlgojmedgaaGreat
open Go.RowKit
set_option linter.unusedVariables false

structure DS where
  sec : List ByteArray
  raw : List (Int × ByteArray)
  armed : Int
  bytes : Int
  dead : Bool

def cutB (new old : ByteArray) (k : Nat) : ByteArray := new.extract 0 k ++ old.extract k old.size

def sAt (l : List ByteArray) (i : Nat) : ByteArray := l.getD i ByteArray.empty

def DS.write (d : DS) (i : Int) (data : ByteArray) : Int × DS :=
  if d.dead = true then (2, d) else if i < 0 ∨ d.sec.length ≤ i then (40, d) else if data.size ≠ 128 then (41, d)
  else if d.armed = 1 then (2, { d with sec := d.sec.set i.toNat (cutB data (sAt d.sec i.toNat) d.bytes.toNat), dead := true })
  else (0, { d with armed := max 0 (d.armed - 1), sec := d.sec.set i.toNat data, raw := d.raw ++ [(i, data)] })

def DS.arm (d : DS) (n b : Int) : Int × DS :=
  if d.dead = true then (2, d) else if n < 0 ∨ b < 0 ∨ 128 < b then (1, d) else (0, { d with armed := n, bytes := b })

def DS.revive (d : DS) : DS := { d with dead := false, armed := 0 }
def DS.forget (d : DS) : DS := { d with raw := [] }

/-- What may be. -/
structure DS.wf (d : DS) : Prop where
  n1 : 1 ≤ d.sec.length
  n2 : d.sec.length ≤ 1026
  sz : ∀ i, i < d.sec.length → (sAt d.sec i).size = 128
  a0 : 0 ≤ d.armed
  a1 : d.armed ≤ 9223372036854775807
  b0 : 0 ≤ d.bytes
  b1 : d.bytes ≤ 128

/-- Byte j of a text, as a number. -/
def sget (s : ByteArray) (j : Nat) : Int := ((s.data.toList.getD j 0).toNat : Int)

def rawCells (l : List (Int × ByteArray)) : List Value := l.flatMap fun x => [.int .i64 x.1, .string x.2]

/-- The sectors' cells. -/
structure Secs (cur : Array Value) (cap : Nat) (sec : List ByteArray) : Prop where
  le : sec.length ≤ cap
  mx : cap ≤ maxLen
  sz : cur.size = cap * 128
  at_ : ∀ i, i < sec.length → ∀ j, j < 128 → cur[i * 128 + j]? = some (.int .u8 (sget (sAt sec i) j))

/-- A disk stands in block D; all that it may write to are the blocks F. -/
def Dk (w : World) (F : List Nat) (D : Nat) (d : DS) : Prop :=
  ∃ (S cap : Nat) (rv : Value) (cur : Array Value), F = D :: S :: rv.ownBlock.toList ∧
    w.heap[D]? = some (.cells #[.slice (some ⟨S, 0, none⟩) d.sec.length cap, rv, .int .i64 d.armed, .int .i64 d.bytes, .bool d.dead] 54 (0, 0)) ∧
    w.heap[S]? = some (.cells cur 73 (0, 0)) ∧ Secs cur cap d.sec ∧ w.ownsRow 0 86 2 rv d.raw.length (rawCells d.raw)

theorem owns_keep {S : List Nat} {w w' : World} {B e size n : Nat} {v : Value} {xs : List Value} (h : w.ownsRow B e size v n xs) (hF : Fr S w w') (hS : ∀ g, g ∈ v.ownBlock.toList → g ∉ S) : w'.ownsRow B e size v n xs := by
  obtain ⟨h1, h2⟩ := h
  refine ⟨h1, ?_⟩
  rcases h2 with h2 | ⟨g', cap', cur, hv, hg, hh, r⟩
  · exact .inl h2
  · subst hv
    exact Or.inr ⟨g', cap', cur, rfl, hg, hF.keep hh (hS g' (by simp [Value.ownBlock])), r⟩

theorem Dk.keep {w w' : World} {F G : List Nat} {D : Nat} {d : DS} (h : Dk w F D d) (hF : Fr G w w') (hd : ∀ x, x ∈ F → x ∉ G) : Dk w' F D d := by
  obtain ⟨S, cap, rv, cur, rfl, h1, h2, h3, h4⟩ := h
  exact ⟨S, cap, rv, cur, rfl, hF.keep h1 (hd _ (by simp)), hF.keep h2 (hd _ (by simp)), h3, owns_keep h4 hF (fun g hg => hd g (by simp [hg]))⟩

theorem owns_lt {w : World} {B e size n : Nat} {v : Value} {xs : List Value} (h : w.ownsRow B e size v n xs) : ∀ x, x ∈ v.ownBlock.toList → x < w.heap.size := by
  intro x hx
  obtain ⟨h1, h2⟩ := h
  rcases h2 with ⟨rfl, _⟩ | ⟨g', cap', cur, rfl, hg, hh, r⟩
  · simp [Value.ownBlock] at hx
  · simp [Value.ownBlock] at hx; subst hx; exact lt_of_block hh

theorem Dk.lt {w : World} {F : List Nat} {D : Nat} {d : DS} (h : Dk w F D d) : ∀ x, x ∈ F → x < w.heap.size := by
  obtain ⟨S, cap, rv, cur, rfl, h1, h2, h3, h4⟩ := h
  intro x hx
  simp only [List.mem_cons] at hx
  rcases hx with rfl | rfl | hx
  · exact lt_of_block h1
  · exact lt_of_block h2
  · exact owns_lt h4 x hx

/-! ### The simple functions -/
theorem disk_size (w : World) (F : List Nat) (D : Nat) (d : DS) (h : Dk w F D d) :
    Calls Tryz.prog 42 #[.pointer (some ⟨D, 0, none⟩)] w fun e w' => e = .returned (.int .i64 d.sec.length) ∧ w = w' := by
  obtain ⟨S, cap, rv, cur, rfl, h1, h2, h3, h4⟩ := h
  have c0 : w.cell? ⟨D, 0, none⟩ = some (.slice (some ⟨S, 0, none⟩) d.sec.length cap) := cell_blk h1 rfl
  go_enter Tryz.func42, Tryz.ntmps42
  go_wp2
  go_ret
  exact ⟨rfl, rfl⟩

theorem disk_dead (w : World) (F : List Nat) (D : Nat) (d : DS) (h : Dk w F D d) :
    Calls Tryz.prog 22 #[.pointer (some ⟨D, 0, none⟩)] w fun e w' => e = .returned (.bool d.dead) ∧ w = w' := by
  obtain ⟨S, cap, rv, cur, rfl, h1, h2, h3, h4⟩ := h
  have c4 : w.cell? ⟨D, 4, none⟩ = some (.bool d.dead) := cell_blk h1 rfl
  go_enter Tryz.func22, Tryz.ntmps22
  go_wp2
  go_ret
  exact ⟨rfl, rfl⟩

theorem disk_is_yes (w : World) (F : List Nat) (D : Nat) (d : DS) (i : Int) (h : Dk w F D d) (hi0 : 0 ≤ i) (hi1 : i < d.sec.length) :
    Calls Tryz.prog 44 #[.pointer (some ⟨D, 0, none⟩), .int .i64 i] w fun e w' => e = .returned (.bool true) ∧ w = w' := by
  obtain ⟨S, cap, rv, cur, rfl, h1, h2, h3, h4⟩ := h
  have c0 : w.cell? ⟨D, 0, none⟩ = some (.slice (some ⟨S, 0, none⟩) d.sec.length cap) := cell_blk h1 rfl
  go_enter Tryz.func44, Tryz.ntmps44
  go_wp2
  go_ret
  exact ⟨rfl, rfl⟩

theorem disk_is_no (w : World) (F : List Nat) (D : Nat) (d : DS) (i : Int) (h : Dk w F D d) (hi : i < 0 ∨ d.sec.length ≤ i) :
    Calls Tryz.prog 44 #[.pointer (some ⟨D, 0, none⟩), .int .i64 i] w fun e w' => e = .returned (.bool false) ∧ w = w' := by
  obtain ⟨S, cap, rv, cur, rfl, h1, h2, h3, h4⟩ := h
  have c0 : w.cell? ⟨D, 0, none⟩ = some (.slice (some ⟨S, 0, none⟩) d.sec.length cap) := cell_blk h1 rfl
  by_cases hn : i < 0
  · have hn' : ¬ 0 ≤ i := by omega
    clear hi
    go_enter Tryz.func44, Tryz.ntmps44
    go_wp2
    go_ret
    exact ⟨rfl, rfl⟩
  · have hn' : ¬ i < d.sec.length := by omega
    clear hi
    go_enter Tryz.func44, Tryz.ntmps44
    go_wp2
    go_ret
    exact ⟨rfl, rfl⟩


theorem disk_revive (w : World) (F : List Nat) (D : Nat) (d : DS) (h : Dk w F D d) :
    Calls Tryz.prog 55 #[.pointer (some ⟨D, 0, none⟩)] w fun e w' => e = .returned (.tuple #[]) ∧ Fr [D] w w' ∧ Dk w' F D d.revive := by
  have hk := h
  obtain ⟨S, cap, rv, cur, rfl, h1, h2, h3, h4⟩ := h
  have c4 : w.cell? ⟨D, 4, none⟩ = some (.bool d.dead) := cell_blk h1 rfl
  have f4 : w.frozen? ⟨D, 4, none⟩ = false := free_blk h1
  have c2 : w.cell? ⟨D, 2, none⟩ = some (.int .i64 d.armed) := cell_blk h1 rfl
  have f2 : w.frozen? ⟨D, 2, none⟩ = false := free_blk h1
  have hne := ne_of_elem h2 h1 (by decide)
  go_enter Tryz.func55, Tryz.ntmps55
  go_wp2
  go_end0
  have hF : Fr [D] w ((w.setCell ⟨D, 4, none⟩ (.bool false)).setCell ⟨D, 2, none⟩ (.int .i64 0)) := ((Fr.refl _ _).setCell (.inl (by simp)) _).setCell (.inl (by simp)) _
  refine ⟨rfl, hF, ⟨S, cap, rv, cur, rfl, blk_setCell_at _ (blk_setCell_at _ h1), hF.keep h2 (by simpa using hne), h3, owns_keep h4 hF ?_⟩⟩
  intro g hg
  obtain ⟨_, hr⟩ := h4
  rcases hr with ⟨rfl, _⟩ | ⟨g', cap', cur', rfl, _, hh, _⟩
  · simp [Value.ownBlock] at hg
  · simp [Value.ownBlock] at hg; subst hg; simpa using ne_of_elem hh h1 (by decide)

end Go.Proofs.YthghnlgojmedgaaGreat
