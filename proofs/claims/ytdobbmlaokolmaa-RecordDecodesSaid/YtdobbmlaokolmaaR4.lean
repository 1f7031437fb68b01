/-
  record: Encode.
-/
import Derived.Test.YtdobbmlaokolmaaR1
import Derived.Test.YtdobbmlaokolmaaR3
namespace Go.Proofs.Ytdobbmlaokolmaa
open Go.RowKit
set_option linter.unusedVariables false
set_option linter.unusedSimpArgs false

theorem inB_iff {n a b : Int} : inB n a b = true ↔ a ≤ n ∧ n ≤ b := by simp [inB]
theorem rgt_z {k : Int} {l : UInt8} {z m : Bool} (h : rgt (hasL k l) z m = true) : (hasL k l = true ∧ m = true) ∨ (hasL k l = false ∧ z = true) := by
  cases hk : hasL k l
  · rw [hk] at h; exact .inr ⟨rfl, h⟩
  · rw [hk] at h; exact .inl ⟨rfl, h⟩

theorem CV.fits {c : CV} (h : c.check = 0) (hb : 0 ≤ c.bits ∧ c.bits < 18446744073709551616) : c.Fits := by
  unfold CV.check at h
  split at h
  case isFalse => simp at h
  case isTrue h1 =>
    split at h
    case isFalse => simp at h
    case isTrue h2 =>
      simp only [Bool.and_eq_true, CV.r1, CV.r2, CV.r3, CV.r4, CV.r5, CV.r6, CV.r7] at h2
      obtain ⟨⟨⟨⟨⟨⟨r1, r2⟩, r3⟩, r4⟩, r5⟩, r6⟩, r7⟩ := h2
      have q1 := rgt_z r1; have q2 := rgt_z r2; have q3 := rgt_z r3; have q4 := rgt_z r4; have q5 := rgt_z r5; have q6 := rgt_z r6; have q7 := rgt_z r7
      simp only [inB_iff, Bool.and_eq_true, beq_iff_eq, CV.noRes] at h1 q1 q2 q4 q5 q7
      refine ⟨h1, by omega, by omega, by omega, by omega, by omega, by omega, hb, ?_, ?_, ?_⟩
      · simp only [inB_iff] at q3
        rcases q3 with q | ⟨_, q⟩
        · omega
        · have : c.prog.size = 0 := by rw [List.isEmpty_iff] at q; have := congrArg List.length q; rw [show c.prog.toList.length = c.prog.size from by simp [ByteArray.toList_eq]] at this; exact this
          omega
      · rcases q6 with q | ⟨_, q⟩
        · have := q.2; simp only [textsB, Bool.and_eq_true, inB_iff] at this; omega
        · simp only [beq_iff_eq] at q; omega
      · intro s hs
        rcases q6 with q | ⟨_, q⟩
        · have := q.2
          simp only [textsB, Bool.and_eq_true, Bool.not_eq_true', List.any_eq_false, decide_eq_true_eq] at this
          have := this.2 s hs; omega
        · simp only [beq_iff_eq] at q
          have : c.texts = [] := List.eq_nil_of_length_eq_zero (by omega)
          rw [this] at hs; cases hs

/-- Changes, one behind the other. -/
def encGo : List CV → List UInt8 → Except Int (List UInt8)
  | [], s => .ok s
  | c :: l, s => if c.check = 0 then encGo l (s ++ c.put) else .error c.check
/-- Encode. -/
def encode (l : List CV) : ByteArray × Int :=
  if inB l.length 1 16 then
    match encGo l (nf l.length).data.toList with
    | .error e => (⟨#[]⟩, e)
    | .ok s => if 2048 < s.length then (⟨#[]⟩, 82) else (⟨s.toArray⟩, 0)
  else (⟨#[]⟩, 82)

/-- A row of changes, that is read. -/
structure ChIn (w : World) (a : Option Addr) (n cap : Nat) (l : List (CV × TS)) : Prop where
  row : In w 10 a n cap (cL.at_ l)
  len : l.length = n
  one : ∀ x, x ∈ l → In w 1 x.2.a x.1.texts.length x.2.c (sL.at_ x.1.texts) ∧ 0 ≤ x.1.bits ∧ x.1.bits < 18446744073709551616

theorem ChIn.fr0 {w w' : World} {a : Option Addr} {n cap : Nat} {l : List (CV × TS)} (h : ChIn w a n cap l) (hF : Fr [] w w') : ChIn w' a n cap l := ⟨h.row.fr0 hF, h.len, fun x hx => ⟨(h.one x hx).1.fr0 hF, (h.one x hx).2⟩⟩

theorem ch_cells {w : World} {b o n cap : Nat} {l : List (CV × TS)} (h : In w 10 (some ⟨b, o, none⟩) n cap (cL.at_ l)) (k : Nat) (hk : k < n) (x : CV × TS) (hx : cL.nth l k = x) :
    w.cell? ⟨b, o + k * 10, none⟩ = some (.int .i64 x.1.kind) ∧ w.cell? ⟨b, o + k * 10 + 1, none⟩ = some (.int .i64 x.1.n) ∧ w.cell? ⟨b, o + k * 10 + 2, none⟩ = some (.int .i64 x.1.job) ∧ w.cell? ⟨b, o + k * 10 + 3, none⟩ = some (.int .i64 x.1.badge) ∧
    w.cell? ⟨b, o + k * 10 + 4, none⟩ = some (.int .i64 x.1.slot) ∧ w.cell? ⟨b, o + k * 10 + 5, none⟩ = some (.int .i64 x.1.life) ∧ w.cell? ⟨b, o + k * 10 + 6, none⟩ = some (.int .i64 x.1.code) ∧ w.cell? ⟨b, o + k * 10 + 7, none⟩ = some (.int .u64 x.1.bits) ∧
    w.cell? ⟨b, o + k * 10 + 8, none⟩ = some (.string x.1.prog) ∧ w.cell? ⟨b, o + k * 10 + 9, none⟩ = some (.slice x.2.a x.1.texts.length x.2.c) := by
  have key : ∀ q, q < 10 → w.cell? ⟨b, o + (k * 10 + q), none⟩ = some ((x.1.f x.2).getD q undef) := fun q hq => by
    have := h.cell b o rfl (k * 10 + q) (by omega)
    rw [show cL.at_ l (k * 10 + q) = (cL.f (cL.nth l k)).getD q undef from cL.at_add l k q hq, hx] at this
    exact this
  have e : ∀ q, o + k * 10 + q = o + (k * 10 + q) := fun q => by omega
  refine ⟨key 0 (by decide), ?_, ?_, ?_, ?_, ?_, ?_, ?_, ?_, ?_⟩
  · rw [e]; exact key 1 (by decide)
  · rw [e]; exact key 2 (by decide)
  · rw [e]; exact key 3 (by decide)
  · rw [e]; exact key 4 (by decide)
  · rw [e]; exact key 5 (by decide)
  · rw [e]; exact key 6 (by decide)
  · rw [e]; exact key 7 (by decide)
  · rw [e]; exact key 8 (by decide)
  · rw [e]; exact key 9 (by decide)

end Go.Proofs.Ytdobbmlaokolmaa
