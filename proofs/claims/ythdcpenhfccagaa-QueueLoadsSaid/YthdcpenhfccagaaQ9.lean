/-
  Queue: rows and clones as things.
-/
import Derived.Test.YthdcpenhfccagaaOps11
namespace Go.Proofs.Ythdcpenhfccagaa
open Go.RowKit
set_option linter.unusedVariables false

section
variable {W : Base} {w : World} {R : List Thing}

def RwT (a : Option Addr) (l : List QR) : Thing := InT 8 a l.length l.length (qL.at_ l)

theorem St.rw_ (H : St W w R) (i : Nat) {a : Option Addr} {l : List QR} (hi : R[i]? = some (RwT a l)) : In w 8 a l.length l.length (qL.at_ l) := H.in_ i hi

theorem st_rowsT (H : St W w R) (i : Nat) {Q : Nat} {q : QS} (hi : R[i]? = some (QkT Q q)) (hl : q.rows.length ≤ 8) :
    Calls Try.prog 19 #[.pointer (some ⟨Q, 0, none⟩)] w fun e w' => ∃ a, e = .returned (.slice a q.rows.length q.rows.length) ∧ St W w' (R ++ [RwT a q.rows]) := by
  refine (st_rows H i hi hl).mono ?_
  rintro e w' ⟨a, rfl, hF, hW, hb⟩
  refine ⟨a, rfl, H.new hF inferInstance ⟨rfl, hW.toIn (Nat.le_refl _) (by unfold maxLen; omega), fun p hp => ?_⟩ fun x hx => ?_⟩
  · subst hp
    rcases hW with ⟨h, _⟩ | ⟨g, cur, h, hh, _⟩
    · cases h
    · cases h; exact lt_of_block hh
  · simp only [Option.mem_toList, Option.map_eq_some_iff] at hx
    obtain ⟨p, rfl, rfl⟩ := hx
    rcases hW with ⟨h, _⟩ | ⟨g, cur, h, hh, _⟩
    · cases h
    · cases h; exact hb g 0 rfl

theorem st_qcloneT (H : St W w R) (i : Nat) {Q : Nat} {q : QS} (hi : R[i]? = some (QkT Q q)) (hl : q.rows.length ≤ 8) :
    Calls Try.prog 21 #[.pointer (some ⟨Q, 0, none⟩)] w fun e w' => ∃ C, e = .returned (.pointer (some ⟨C, 0, none⟩)) ∧ St W w' (R ++ [QkT C q]) :=
  (st_qclone H i hi hl).mono fun e w' ⟨C, h1, hF, F, hC, hb⟩ => ⟨C, h1, H.new hF inferInstance hC hb⟩

theorem st_qsame (H : St W w R) {a b : Option Addr} {n ca cb : Nat} {l : List QR} (ha : In w 8 a n ca (qL.at_ l)) (hb : In w 8 b n cb (qL.at_ l)) (hn : l.length = n) :
    Calls Try.prog 22 #[.slice a n ca, .slice b n cb] w fun e w' => e = .returned (.bool true) ∧ St W w' R :=
  (qsame_self w a b n ca cb l hn ha hb).mono fun e w' ⟨h1, h2⟩ => ⟨h1, H.same h2⟩

theorem st_headT (H : St W w R) (i : Nat) {Q : Nat} {q : QS} (hi : R[i]? = some (QkT Q q)) (hl : q.rows.length ≤ 8) :
    Calls Try.prog 15 #[.pointer (some ⟨Q, 0, none⟩)] w fun e w' => e = .returned (.int .i64 q.head) ∧ St W w' R :=
  (st_head H i hi hl).mono fun e w' ⟨h1, h2⟩ => ⟨h1, H.same h2⟩

theorem st_fixed11 (H : St W w R) : Calls Try.prog 12 #[] w fun e w' => e = .returned (.bool true) ∧ St W w' R :=
  (fixed11 w).mono fun e w' ⟨h1, h2⟩ => ⟨h1, H.same h2⟩

/-- One call of a script: what 'does' answers, and the queue behind it, by name. -/
theorem st_doesZ (H : St W w R) (i : Nat) {Q : Nat} {q : QS} (hi : R[i]? = some (QkT Q q)) (hw : q.wf) {o : Op11} {z : Bool} {q' : QS} (hz : o.run q = (z, q')) :
    Calls Try.prog 20 #[.pointer (some ⟨Q, 0, none⟩), .agg #[.int .i64 o.on, .int .i64 o.kind, .int .i64 o.job, .int .i64 o.badge, .int .i64 o.node, .int .i64 o.life, .int .i64 o.code, .int .u64 o.bits]] w fun e w' => e = .returned (.bool z) ∧ St W w' (R.set i (QkT Q q')) := by
  have h := st_does H i hi hw o.on o.kind o.job o.badge o.node o.life o.code o.bits
  rw [show q.does o.kind o.job o.badge o.node o.life o.code o.bits = (z, q') from hz] at h
  exact h
theorem run_wf {q : QS} (hw : q.wf) {o : Op11} {z : Bool} {q' : QS} (hz : o.run q = (z, q')) : q'.wf := by
  have h := does_wf hw o.kind o.job o.badge o.node o.life o.code o.bits
  rw [show q.does o.kind o.job o.badge o.node o.life o.code o.bits = (z, q') from hz] at h
  exact h
end

end Go.Proofs.Ythdcpenhfccagaa
