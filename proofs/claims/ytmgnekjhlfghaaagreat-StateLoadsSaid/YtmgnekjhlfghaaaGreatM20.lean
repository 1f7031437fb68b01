/-
  Merged, in build order: U0 U1 U2 T0 T1 T2 IsB UX0 UX1 T3 T4 T5.
-/
import Derived.IntWalk
import Derived.Test.YtmgnekjhlfghaaaGreatM18
import Derived.Test.YtmgnekjhlfghaaaGreatM19
import Derived.Test.YtmgnekjhlfghaaaGreatM6
import Derived.Test.YtmgnekjhlfghaaaGreatM4
import Derived.Test.YtmgnekjhlfghaaaGreatM8
import Derived.BigQuiet
import Derived.Deep.QuietTactic
/-
  The document's queue in memory: its block; its list, which is read alone. Its calls that ask: Head, held, Row, Find, Open, Copy, New.
-/
namespace Go.Proofs.YtmgnekjhlfghaaaGreat
open Go.RowKit QLd
set_option linter.unusedVariables false
set_option linter.unusedSimpArgs false

def XqT (X : Nat) (q : QS) : Thing := fun w F G => ∃ rv : Value, F = [X] ∧ G = rv.ownBlock.toList ∧ w.heap[X]? = some (.cells #[.int .i64 q.att, rv] 39 (0, 0)) ∧ w.ownsRow 0 51 8 rv q.rows.length (qL.cells q.rows)
instance (X : Nat) (q : QS) : Loc (XqT X q) where
  keep := fun ⟨rv, h1, h2, h3, h4⟩ hF hd hg => ⟨rv, h1, h2, hF.keep h3 (hd _ (by simp [h1])), ownsRow_keep h4 hF (fun g h => hg g (by rw [h2]; exact h))⟩
  lt := fun ⟨rv, h1, h2, h3, h4⟩ => ⟨fun x hx => by subst h1; simp at hx; subst hx; exact lt_of_block h3, fun x hx => by subst h2; exact ownsRow_lt h4 x hx⟩

/-- What a call that asks wants of it. -/
structure XqIn (w : World) (X : Nat) (q : QS) (a : Option Addr) (c : Nat) : Prop where
  blk : w.heap[X]? = some (.cells #[.int .i64 q.att, .slice a q.rows.length c] 39 (0, 0))
  inn : In w 8 a q.rows.length c (qL.at_ q.rows)
theorem XqIn.fr0 {w w' : World} {X : Nat} {q : QS} {a : Option Addr} {c : Nat} (h : XqIn w X q a c) (hF : Fr [] w w') : XqIn w' X q a c := ⟨hF.keep h.blk (by simp), h.inn.fr0 hF⟩
theorem XqIn.c0 {w : World} {X : Nat} {q : QS} {a : Option Addr} {c : Nat} (h : XqIn w X q a c) : w.cell? ⟨X, 0, none⟩ = some (.int .i64 q.att) := cell_blk h.blk rfl
theorem XqIn.c1 {w : World} {X : Nat} {q : QS} {a : Option Addr} {c : Nat} (h : XqIn w X q a c) : w.cell? ⟨X, 1, none⟩ = some (.slice a q.rows.length c) := cell_blk h.blk rfl

theorem St.xq {W : Base} {w : World} {R : List Thing} (H : St W w R) (i : Nat) {X : Nat} {q : QS} (hi : R[i]? = some (XqT X q)) : ∃ a c, XqIn w X q a c := by
  obtain ⟨F, G, rv, _, _, h3, h4⟩ := H.getG i hi
  obtain ⟨a, c, rfl, h5, _⟩ := own_slice h4
  exact ⟨a, c, h3, h5⟩

theorem x_head (w : World) (X : Nat) (q : QS) (a : Option Addr) (c : Nat) (h : XqIn w X q a c) (hl : q.rows.length ≤ 8) :
    Calls Tryz.prog 96 #[.pointer (some ⟨X, 0, none⟩)] w fun e w' => e = .returned (.int .i64 q.head) ∧ w = w' := by
  have c1 := h.c1
  have H := hid h
  unfold QS.head
  clear h
  go_enter Tryz.func96, Tryz.ntmps96
  go_wp2_with fail
  go_loop [3] (fun i => ∃ k : Nat, k ≤ q.rows.length ∧ i = .int .i64 k ∧ ∀ j, j < k → (qL.nth q.rows j).pHead = false) (fun i => q.rows.length - (intOf i).toNat)
  case atStart => exact ⟨0, Nat.zero_le _, rfl, fun j hj => absurd hj (Nat.not_lt_zero _)⟩
  case round =>
    obtain ⟨k, hk, rfl, hall⟩ := hrel
    have HAll := hid hall
    clear hall
    by_cases hlt : k < q.rows.length
    · obtain ⟨b, o, rfl⟩ := H.out.inn.sm (by omega)
      obtain ⟨_, x1, _⟩ := qrow_cells H.out.inn k hlt
      cases hp : (qL.nth q.rows k).pHead
      · have HP := hid hp
        have e1 : ((qL.nth q.rows k).st == 1) = false := hp
        generalize (qL.nth q.rows k).st = x at x1 e1
        clear hp
        go_wp2_with fail
        go_round
        case rel => exact ⟨k + 1, by omega, by go_num, fun j hj => by by_cases hjk : j = k; (subst hjk; exact HP.out); exact HAll.out j (by omega)⟩
        case measure => simp [intOf]; omega
      · have HP := hid hp
        have e1 : ((qL.nth q.rows k).st == 1) = true := hp
        generalize (qL.nth q.rows k).st = x at x1 e1
        clear hp
        go_wp2_with fail
        go_ret
        exact ⟨by rw [fIdx_some hlt HP.out HAll.out]; rfl, rfl⟩
    · obtain rfl : k = q.rows.length := by omega
      go_wp2_with fail
      go_ret
      exact ⟨by rw [fIdx_none HAll.out]; rfl, rfl⟩

theorem x_held (w : World) (X : Nat) (q : QS) (a : Option Addr) (c : Nat) (h : XqIn w X q a c) (hl : q.rows.length ≤ 8) (bg : Int) :
    Calls Tryz.prog 128 #[.pointer (some ⟨X, 0, none⟩), .int .i64 bg] w fun e w' => e = .returned (.int .i64 (fIdx (QR.pHeld bg) q.rows + 1)) ∧ w = w' := by
  have c1 := h.c1
  have H := hid h
  clear h
  go_enter Tryz.func128, Tryz.ntmps128
  go_wp2_with fail
  go_loop [5] (fun i => ∃ k : Nat, k ≤ q.rows.length ∧ i = .int .i64 k ∧ ∀ j, j < k → (qL.nth q.rows j).pHeld bg = false) (fun i => q.rows.length - (intOf i).toNat)
  case atStart => exact ⟨0, Nat.zero_le _, rfl, fun j hj => absurd hj (Nat.not_lt_zero _)⟩
  case round =>
    obtain ⟨k, hk, rfl, hall⟩ := hrel
    have HAll := hid hall
    clear hall
    by_cases hlt : k < q.rows.length
    · obtain ⟨b, o, rfl⟩ := H.out.inn.sm (by omega)
      obtain ⟨_, x1, _, x3, _⟩ := qrow_cells H.out.inn k hlt
      cases hp : (qL.nth q.rows k).pHeld bg
      · have HP := hid hp
        generalize qL.nth q.rows k = x at x1 x3 hp
        cases e1 : (x.st == 2)
        · clear hp
          go_wp2_with fail
          go_round
          case rel => exact ⟨k + 1, by omega, by go_num, fun j hj => by by_cases hjk : j = k; (subst hjk; exact HP.out); exact HAll.out j (by omega)⟩
          case measure => simp [intOf]; omega
        · have e2 : (x.ba == bg) = false := by simpa [QR.pHeld, e1] using hp
          clear hp
          go_wp2_with fail
          go_round
          case rel => exact ⟨k + 1, by omega, by go_num, fun j hj => by by_cases hjk : j = k; (subst hjk; exact HP.out); exact HAll.out j (by omega)⟩
          case measure => simp [intOf]; omega
      · have HP := hid hp
        generalize qL.nth q.rows k = x at x1 x3 hp
        obtain ⟨e1, e2⟩ : (x.st == 2) = true ∧ (x.ba == bg) = true := by simpa only [QR.pHeld, Bool.and_eq_true] using hp
        clear hp
        go_wp2_with fail
        go_ret
        exact ⟨by rw [fIdx_some hlt HP.out HAll.out]; rfl, rfl⟩
    · obtain rfl : k = q.rows.length := by omega
      go_wp2_with fail
      go_ret
      exact ⟨by rw [fIdx_none HAll.out]; rfl, rfl⟩

theorem x_find (w : World) (X : Nat) (q : QS) (a : Option Addr) (c : Nat) (h : XqIn w X q a c) (hl : q.rows.length ≤ 8) (bg : Int) {x : QR} {z : Bool} (hj : q.find bg = (x, z)) :
    Calls Tryz.prog 34 #[.pointer (some ⟨X, 0, none⟩), .int .i64 bg] w fun e w' => e = .returned (.tuple #[.agg #[.int .i64 x.job, .int .i64 x.st, .int .i64 x.at_, .int .i64 x.ba, .int .i64 x.node, .int .i64 x.life, .int .i64 x.code, .int .u64 x.bits], .bool z]) ∧ Fr [] w w' := by
  have c1 := h.c1
  have hX := lt_of_block h.blk
  have H := hid h
  unfold QS.find at hj
  have HJ := hid hj
  clear h hj
  go_enter Tryz.func34, Tryz.ntmps34
  go_wp2_with fail
  go_loop [6] (fun i => ∃ k : Nat, k ≤ q.rows.length ∧ i = .int .i64 k ∧ ∀ j, j < k → (qL.nth q.rows j).pFind bg = false) (fun i => q.rows.length - (intOf i).toNat)
  case atStart => exact ⟨0, Nat.zero_le _, rfl, fun j hj => absurd hj (Nat.not_lt_zero _)⟩
  case round =>
    obtain ⟨k, hk, rfl, hall⟩ := hrel
    have HAll := hid hall
    clear hall
    by_cases hlt : k < q.rows.length
    · obtain ⟨b, o, rfl⟩ := H.out.inn.sm (by omega)
      obtain ⟨r0, r1, r2, r3, r4, r5, r6, r7⟩ := qrow_cells H.out.inn k hlt
      have hbl : b < w.heap.size := World.block_lt_of_cell? w ⟨b, o + k * 8, none⟩ r0
      cases hp : (qL.nth q.rows k).pFind bg
      · have HP := hid hp
        clear r0 r1 r2 r4 r5 r6 r7
        generalize qL.nth q.rows k = y at r3 hp
        cases e1 : decide (0 < bg)
        · clear hp
          go_wp2_with fail
          go_round
          case rel => exact ⟨k + 1, by omega, by go_num, fun j hj => by by_cases hjk : j = k; (subst hjk; exact HP.out); exact HAll.out j (by omega)⟩
          case measure => simp [intOf]; omega
        · have e2 : (y.ba == bg) = false := by simpa [QR.pFind, e1] using hp
          clear hp
          go_wp2_with fail
          go_round
          case rel => exact ⟨k + 1, by omega, by go_num, fun j hj => by by_cases hjk : j = k; (subst hjk; exact HP.out); exact HAll.out j (by omega)⟩
          case measure => simp [intOf]; omega
      · have HP := hid hp
        have HX : Hid (qL.nth q.rows k = x ∧ z = true) := hid (by
          have h1 := HJ.out
          rw [fIdx_some hlt HP.out HAll.out, row_at hlt rfl] at h1
          obtain ⟨h2, h3⟩ := (Prod.mk.injEq _ _ _ _).mp h1
          exact ⟨h2, h3.symm⟩)
        obtain ⟨hx, rfl⟩ := HX.out
        rw [hx] at r0 r1 r2 r3 r4 r5 r6 r7 hp
        obtain ⟨e2, e1⟩ : (x.ba == bg) = true ∧ decide (0 < bg) = true := by simpa only [QR.pFind, Bool.and_eq_true] using hp
        clear hp hx
        go_wp2_with fail
        exact bodyPost_ret (v := .tuple #[.agg #[.int .i64 x.job, .int .i64 x.st, .int .i64 x.at_, .int .i64 x.ba, .int .i64 x.node, .int .i64 x.life, .int .i64 x.code, .int .u64 x.bits], .bool true]) (by simp [results, Tryz.results34, go_sem]) rfl ⟨rfl, (Fr.refl _ _).alloc _⟩
    · obtain rfl : k = q.rows.length := by omega
      have HX : Hid (QR.zero = x ∧ z = false) := hid (by
        have h1 := HJ.out
        rw [fIdx_none HAll.out, row_no (.inl (by omega))] at h1
        obtain ⟨h2, h3⟩ := (Prod.mk.injEq _ _ _ _).mp h1
        exact ⟨h2, h3.symm⟩)
      obtain ⟨hx, rfl⟩ := HX.out
      subst hx
      go_wp2_with fail
      exact bodyPost_ret (v := .tuple #[.agg #[.int .i64 0, .int .i64 0, .int .i64 0, .int .i64 0, .int .i64 0, .int .i64 0, .int .i64 0, .int .u64 0], .bool false]) (by simp [results, Tryz.results34, go_sem]) rfl ⟨rfl, (Fr.refl _ _).alloc _⟩

theorem st_of_may {att : Int} {r : QR} {j : Int} (h : r.may att j = true) : 1 ≤ r.st ∧ r.st ≤ 4 := by
  have h8 := (may_facts h).2.2.2.2.2.2.2
  unfold QR.kc at h8
  split at h8
  · omega
  split at h8
  · omega
  split at h8
  · omega
  split at h8
  · omega
  · cases h8

end Go.Proofs.YtmgnekjhlfghaaaGreat

/-
  The document's queue: its calls that change it: set, Submit, Grant, Expire, Settle; Copy, New, Load.
-/
namespace Go.Proofs.YtmgnekjhlfghaaaGreat
open Go.RowKit QLd
set_option linter.unusedVariables false
set_option linter.unusedSimpArgs false

/-- A row of a list is written over. -/
def setRow8 (w : World) (g k : Nat) (x : QR) : World := (((((((w.setCell ⟨g, k * 8, none⟩ (.int .i64 x.job)).setCell ⟨g, k * 8 + 1, none⟩ (.int .i64 x.st)).setCell ⟨g, k * 8 + 2, none⟩ (.int .i64 x.at_)).setCell ⟨g, k * 8 + 3, none⟩ (.int .i64 x.ba)).setCell ⟨g, k * 8 + 4, none⟩ (.int .i64 x.node)).setCell ⟨g, k * 8 + 5, none⟩ (.int .i64 x.life)).setCell ⟨g, k * 8 + 6, none⟩ (.int .i64 x.code)).setCell ⟨g, k * 8 + 7, none⟩ (.int .u64 x.bits)
theorem setRow8_fr (w : World) (g k : Nat) (x : QR) : Fr [g] w (setRow8 w g k x) := by
  unfold setRow8
  exact ((((((((Fr.refl [g] w).setCell (.inl (by simp)) _).setCell (.inl (by simp)) _).setCell (.inl (by simp)) _).setCell (.inl (by simp)) _).setCell (.inl (by simp)) _).setCell (.inl (by simp)) _).setCell (.inl (by simp)) _).setCell (.inl (by simp)) _
theorem setRow8_row {w : World} {g c n k : Nat} {l : List QR} (h : w.ownsRow 0 51 8 (.slice (some ⟨g, 0, none⟩) n c) n (qL.cells l)) (hk : k < l.length) (x : QR) :
    (setRow8 w g k x).ownsRow 0 51 8 (.slice (some ⟨g, 0, none⟩) n c) n (qL.cells (l.set k x)) := by
  have h0 := row_set0 h hk
  generalize qL.nth l k = y at h0
  have h1 := row_setk (q := 0) (x := ⟨x.job, y.st, y.at_, y.ba, y.node, y.life, y.code, y.bits⟩) (v := .int .i64 x.job) h0 hk (by omega) rfl
  have h2 := row_setk (q := 1) (x := ⟨x.job, x.st, y.at_, y.ba, y.node, y.life, y.code, y.bits⟩) (v := .int .i64 x.st) h1 hk (by omega) rfl
  have h3 := row_setk (q := 2) (x := ⟨x.job, x.st, x.at_, y.ba, y.node, y.life, y.code, y.bits⟩) (v := .int .i64 x.at_) h2 hk (by omega) rfl
  have h4 := row_setk (q := 3) (x := ⟨x.job, x.st, x.at_, x.ba, y.node, y.life, y.code, y.bits⟩) (v := .int .i64 x.ba) h3 hk (by omega) rfl
  have h5 := row_setk (q := 4) (x := ⟨x.job, x.st, x.at_, x.ba, x.node, y.life, y.code, y.bits⟩) (v := .int .i64 x.node) h4 hk (by omega) rfl
  have h6 := row_setk (q := 5) (x := ⟨x.job, x.st, x.at_, x.ba, x.node, x.life, y.code, y.bits⟩) (v := .int .i64 x.life) h5 hk (by omega) rfl
  have h7 := row_setk (q := 6) (x := ⟨x.job, x.st, x.at_, x.ba, x.node, x.life, x.code, y.bits⟩) (v := .int .i64 x.code) h6 hk (by omega) rfl
  exact row_setk (q := 7) (x := x) (v := .int .u64 x.bits) h7 hk (by omega) rfl

section
variable {W : Base} {w : World} {R : List Thing}

/-- The list of a queue of the document is another one, in new memory. -/
theorem St.xq_new (H : St W w R) (i : Nat) {X : Nat} {q q' : QS} (hi : R[i]? = some (XqT X q)) :
    ∃ a c, XqIn w X q a c ∧ (a = none → c = 0) ∧ ∀ (w' : World) (rv : Value), Fr [X] w w' → w'.heap[X]? = some (.cells #[.int .i64 q'.att, rv] 39 (0, 0)) → w'.ownsRow 0 51 8 rv q'.rows.length (qL.cells q'.rows) → (∀ x, x ∈ rv.ownBlock.toList → w.heap.size ≤ x) → St W w' (R.set i (XqT X q')) := by
  obtain ⟨F, G, ⟨rv, rfl, rfl, h3, h4⟩, _, hd, hback⟩ := H.atG i hi
  have hlt := lt_of_block h3
  obtain ⟨a, c, rfl, h5, h6, _⟩ := own_slice h4
  refine ⟨a, c, ⟨h3, h5⟩, h6, fun w' rv' hF hX hr hn => hback w' [X] rv'.ownBlock.toList (XqT X q') inferInstance ⟨rv', rfl, rfl, hX, hr⟩ hF (fun x hx => .inl hx) (fun x hx => .inr (.inr (hn x hx))) (fun x hx hx2 => ?_)⟩
  simp at hx
  subst hx
  have := hn x hx2
  omega

set_option maxHeartbeats 1600000 in
set_option maxRecDepth 100000 in
theorem st_xset (H : St W w R) (i : Nat) {X : Nat} {q : QS} (hi : R[i]? = some (XqT X q)) (hl : q.rows.length ≤ 8) (k : Nat) (hk : k < q.rows.length) (x : QR) (hx : x.job = k + 1) :
    Calls Tryz.prog 127 #[.pointer (some ⟨X, 0, none⟩), .agg #[.int .i64 x.job, .int .i64 x.st, .int .i64 x.at_, .int .i64 x.ba, .int .i64 x.node, .int .i64 x.life, .int .i64 x.code, .int .u64 x.bits]] w fun e w' => e = .returned (.tuple #[]) ∧ St W w' (R.set i (XqT X { q with rows := q.rows.set k x })) := by
  obtain ⟨a, c, hX, hac, hback⟩ := H.xq_new (q' := { q with rows := q.rows.set k x }) i hi
  have c1 := hX.c1
  have hXl := lt_of_block hX.blk
  obtain ⟨b, o, rfl⟩ := hX.inn.sm (by omega)
  obtain ⟨i0, hi0, hz0, hz1, hz2⟩ := info_parts info_qrow
  have HI := hid (And.intro hi0 (And.intro hz0 (And.intro hz1 hz2)))
  have HX := hid hX
  have HB := hid hback
  obtain ⟨job, st, at_, ba, node, life, code, bits⟩ := x
  simp only at hx
  subst hx
  clear hX hback hi0 hz0 hz1 hz2 H hi hac
  go_enter Tryz.func127, Tryz.ntmps127
  go_wp2_with (at_builtin; refine wpList_copied rfl (.tmp 5) (.tmp 9) 37 rfl 51 i0 (.agg #[.int .i64 0, .int .i64 0, .int .i64 0, .int .i64 0, .int .i64 0, .int .i64 0, .int .i64 0, .int .u64 0]) 8 64 Tryz.underlying37 HI.out.1 HI.out.2.1 HI.out.2.2.1 HI.out.2.2.2 rfl (by decide) (w.heap.size + 1) rfl (blk_alloc_at _ _ _ (by simp)) (some ⟨b, o, none⟩) q.rows.length c (qL.at_ q.rows) rfl ?qa (fun j _ => qL.at_one _ j) (by omega) ?_)
  case qa => exact HX.out.inn.fr0 (((Fr.refl [] w).alloc _).alloc _)
  intro g cg w1 ho hF1 hg
  rw [show (List.range (q.rows.length * 8)).map (qL.at_ q.rows) = qL.cells q.rows from qL.range q.rows] at ho
  have hF : Fr [] w w1 := (((Fr.refl [] w).alloc (.cells #[.int .i64 ((k : Int) + 1), .int .i64 st, .int .i64 at_, .int .i64 ba, .int .i64 node, .int .i64 life, .int .i64 code, .int .u64 bits] 51)).alloc (.cells #[] 51)).step hF1 (by intro x hx; simp at hx; subst hx; exact .inr (by omega))
  have hg' : w.heap.size < g := by rcases hg with h | h <;> first | omega | (simp at h; omega)
  have hrb := hF1.keep (blk_alloc_lt (.cells #[] 51) (blk_alloc_at w (.cells #[.int .i64 ((k : Int) + 1), .int .i64 st, .int .i64 at_, .int .i64 ba, .int .i64 node, .int .i64 life, .int .i64 code, .int .u64 bits] 51) _ rfl)) (by simp)
  have c1' := hF.cell0 c1
  have y0 := cell_blk (i := 0) hrb rfl
  have y1 := cell_blk (i := 1) hrb rfl
  have y2 := cell_blk (i := 2) hrb rfl
  have y3 := cell_blk (i := 3) hrb rfl
  have y4 := cell_blk (i := 4) hrb rfl
  have y5 := cell_blk (i := 5) hrb rfl
  have y6 := cell_blk (i := 6) hrb rfl
  have y7 := cell_blk (i := 7) hrb rfl
  have hW := ownsRow_W ho _ (fun j hj => qL.get _ j hj)
  have d0 := hW.cell (k * 8) (by omega)
  have d1 := hW.cell (k * 8 + 1) (by omega)
  have d2 := hW.cell (k * 8 + 2) (by omega)
  have d3 := hW.cell (k * 8 + 3) (by omega)
  have d4 := hW.cell (k * 8 + 4) (by omega)
  have d5 := hW.cell (k * 8 + 5) (by omega)
  have d6 := hW.cell (k * 8 + 6) (by omega)
  have d7 := hW.cell (k * 8 + 7) (by omega)
  have f0 := hW.free (k * 8)
  have f1 := hW.free (k * 8 + 1)
  have f2 := hW.free (k * 8 + 2)
  have f3 := hW.free (k * 8 + 3)
  have f4 := hW.free (k * 8 + 4)
  have f5 := hW.free (k * 8 + 5)
  have f6 := hW.free (k * 8 + 6)
  have f7 := hW.free (k * 8 + 7)
  rw [Nat.zero_add] at d0 d1 d2 d3 d4 d5 d6 d7 f0 f1 f2 f3 f4 f5 f6 f7
  have hXb := hF.keep HX.out.blk (by simp)
  have fX : w1.frozen? ⟨X, 1, none⟩ = false := free_blk hXb
  have HZ := hid (And.intro ho (And.intro hF (And.intro hg' hXb)))
  have hgX : g ≠ X := by omega
  have hgw : g ≠ w.heap.size := by omega
  clear ho hF hF1 hg hrb hW hXb
  go_wp2_with fail
  go_end0
  refine ⟨rfl, ?_⟩
  have h1 := setRow8_row HZ.out.1 hk ⟨(k : Int) + 1, st, at_, ba, node, life, code, bits⟩
  have h2 := setRow8_fr w1 g k ⟨(k : Int) + 1, st, at_, ba, node, life, code, bits⟩
  have h3 := h2.keep HZ.out.2.2.2 (by simp; omega)
  have h4 : Fr [X] w (setRow8 w1 g k ⟨(k : Int) + 1, st, at_, ba, node, life, code, bits⟩) := (HZ.out.2.1.mono (by simp)).step h2 (by intro x hx; simp at hx; subst hx; exact .inr (by have := HZ.out.2.2.1; omega))
  refine HB.out _ (.slice (some ⟨g, 0, none⟩) q.rows.length cg) (h4.setCell (p := ⟨X, 1, none⟩) (.inl (by simp)) _) (by show _ = _; exact blk_setCell_at (i := 1) (.slice (some ⟨g, 0, none⟩) q.rows.length cg) h3) ?_ (by simp [Value.ownBlock]; have := HZ.out.2.2.1; omega)
  simp only [List.length_set]
  exact ownsRow_keep (S := [X]) h1 ((Fr.refl _ _).setCell (.inl (by simp)) _) (fun x hx => by simp [Value.ownBlock] at hx; subst hx; simpa using hgX)

theorem st_xnew (H : St W w R) (n : Int) (h1 : 1 ≤ n) (h2 : n ≤ 8) :
    Calls Tryz.prog 24 #[.int .i64 n] w fun e w' => ∃ X, e = .returned (.tuple #[.pointer (some ⟨X, 0, none⟩), .int .i64 0]) ∧ St W w' (R ++ [XqT X ⟨n, []⟩]) := by
  have g1 : ¬ n < 1 := by omega
  have g2 : ¬ 8 < n := by omega
  have HH := hid H
  clear H
  go_enter Tryz.func24, Tryz.ntmps24
  go_wp2
  go_ret2
  exact ⟨_, rfl, HH.out.newOf (F := [w.heap.size]) (G := []) ((Fr.refl _ _).alloc _) inferInstance ⟨.slice none 0 0, rfl, rfl, blk_alloc_at _ _ _ rfl, World.ownsRow_nil _ _ _ _⟩ (by simp) (by simp) (by simp)⟩

theorem xnew_bad (w : World) (n : Int) (h : n < 1 ∨ 8 < n) :
    Calls Tryz.prog 24 #[.int .i64 n] w fun e w' => e = .returned (.tuple #[.pointer none, .int .i64 1]) ∧ w = w' := by
  by_cases h1 : n < 1
  · clear h
    go_enter Tryz.func24, Tryz.ntmps24
    go_wp2
    go_ret2
    exact ⟨rfl, rfl⟩
  · have h2 : 8 < n := by omega
    clear h
    go_enter Tryz.func24, Tryz.ntmps24
    go_wp2
    go_ret2
    exact ⟨rfl, rfl⟩

theorem st_xcopy (H : St W w R) (i : Nat) {X : Nat} {q : QS} (hi : R[i]? = some (XqT X q)) :
    Calls Tryz.prog 77 #[.pointer (some ⟨X, 0, none⟩)] w fun e w' => ∃ Y, e = .returned (.pointer (some ⟨Y, 0, none⟩)) ∧ St W w' (R ++ [XqT Y q]) := by
  obtain ⟨F, G, ⟨rv, hF, hG, hX, hR⟩, hFW, hd, hback⟩ := H.atG i hi
  subst hF hG
  obtain ⟨a, c, rfl, h5, _⟩ := own_slice hR
  have c0 : w.cell? ⟨X, 0, none⟩ = some (.int .i64 q.att) := cell_blk hX rfl
  have c1 : w.cell? ⟨X, 1, none⟩ = some (.slice a q.rows.length c) := cell_blk hX rfl
  have HB := hid (And.intro hX (And.intro hR H))
  clear hX hR hback hd hFW H h5
  go_enter Tryz.func77, Tryz.ntmps77
  go_wp2
  go_ret
  obtain ⟨b1, b2, H⟩ := HB.out
  refine ⟨_, rfl, H.newOf (F := [w.heap.size]) (G := (Value.slice a q.rows.length c).ownBlock.toList) ((Fr.refl _ _).alloc _) inferInstance ⟨_, rfl, rfl, blk_alloc_at _ _ _ rfl, ownsRow_keep (S := []) b2 ((Fr.refl [] _).alloc _) (by simp)⟩ (by simp) (fun x hx => .inr (.inr ⟨i, _, hi, ?_⟩)) ?_⟩
  · rintro F' G' ⟨rv', rfl, rfl, hX', _⟩
    rw [b1] at hX'
    simp only [Option.some.injEq, Obj.cells.injEq, Array.mk.injEq, List.cons.injEq, and_true, true_and] at hX'
    rw [← hX']
    exact hx
  · intro x hx hx2
    simp at hx
    subst hx
    have := ownsRow_lt b2 _ hx2
    omega

set_option maxHeartbeats 1600000 in
set_option maxRecDepth 100000 in
theorem st_xsubmit (H : St W w R) (i : Nat) {X : Nat} {q : QS} (hi : R[i]? = some (XqT X q)) (hl : q.rows.length ≤ 8) :
    Calls Tryz.prog 79 #[.pointer (some ⟨X, 0, none⟩)] w fun e w' => e = .returned (.tuple #[.int .i64 q.submit.1, .int .i64 q.submit.2.1]) ∧ St W w' (R.set i (XqT X q.submit.2.2)) := by
  have HS := hid (H.set_self hi)
  obtain ⟨a, c, hX, hac, hback⟩ := H.xq_new (q' := q.submit.2.2) i hi
  have c1 := hX.c1
  have hXl := lt_of_block hX.blk
  by_cases h8 : 8 ≤ q.rows.length
  · have e : q.submit = (0, 110, q) := by unfold QS.submit; rw [if_pos h8]
    rw [e]
    have h8' : (8 : Int) < (q.rows.length : Int) + 1 := by omega
    clear e hX hback H hi hac
    go_enter Tryz.func79, Tryz.ntmps79
    go_wp2
    go_ret2
    exact ⟨rfl, HS.out⟩
  have e : q.submit = ((q.rows.length : Int) + 1, 0, { q with rows := q.rows ++ [QR.mk (q.rows.length + 1) 1 0 0 0 0 0 0] }) := by unfold QS.submit; rw [if_neg h8]
  rw [e] at hback ⊢
  have h8' : ¬ (8 : Int) < (q.rows.length : Int) + 1 := by omega
  obtain ⟨i0, hi0, hz0, hz1, hz2⟩ := info_parts info_qrow
  have HI := hid (And.intro hi0 (And.intro hz0 (And.intro hz1 hz2)))
  have HX := hid hX
  have HB := hid hback
  clear e hX hback hi0 hz0 hz1 hz2 H hi hac HS
  go_enter Tryz.func79, Tryz.ntmps79
  go_wp2_with (at_builtin; refine wpList_copied rfl (.tmp 14) (.tmp 18) 37 rfl 51 i0 (.agg #[.int .i64 0, .int .i64 0, .int .i64 0, .int .i64 0, .int .i64 0, .int .i64 0, .int .i64 0, .int .u64 0]) 8 64 Tryz.underlying37 HI.out.1 HI.out.2.1 HI.out.2.2.1 HI.out.2.2.2 rfl (by decide) w.heap.size rfl (blk_alloc_at _ _ _ rfl) a q.rows.length c (qL.at_ q.rows) rfl ?qa (fun j _ => qL.at_one _ j) (by omega) ?_)
  case qa => exact HX.out.inn.fr0 ((Fr.refl [] w).alloc _)
  intro g cg w1 ho hF1 hg
  rw [show (List.range (q.rows.length * 8)).map (qL.at_ q.rows) = qL.cells q.rows from qL.range q.rows] at ho
  have hF : Fr [] w w1 := ((Fr.refl [] w).alloc (.cells #[] 51)).step hF1 (by intro x hx; simp at hx; subst hx; exact .inr (Nat.le_refl _))
  have hg' : w.heap.size ≤ g := by rcases hg with h | h <;> first | omega | (simp at h; omega)
  have H1 := hid (And.intro ho (And.intro hF hg'))
  clear ho hF hF1 hg hg'
  go_wp2_with (at_builtin; refine wpList_append_blk rfl (.tmp 19) (.tmp 22) 37 rfl 51 i0 (.agg #[.int .i64 0, .int .i64 0, .int .i64 0, .int .i64 0, .int .i64 0, .int .i64 0, .int .i64 0, .int .u64 0]) 8 64 Tryz.underlying37 HI.out.1 HI.out.2.1 HI.out.2.2.1 HI.out.2.2.2 rfl (by decide) (.slice (some ⟨g, 0, none⟩) q.rows.length cg) q.rows.length _ rfl (ownsRow_keep (S := []) H1.out.1 ((Fr.refl [] _).alloc _) (by simp)) ⟨w1.heap.size, 0, none⟩ 1 1 (QR.f (QR.mk (q.rows.length + 1) 1 0 0 0 0 0 0)) rfl rfl ?qb ?qc ?qd ?qe ?_)
  case qb => exact news_alloc w1 (QR.f (QR.mk (q.rows.length + 1) 1 0 0 0 0 0 0)) _
  case qc => exact qL.one _
  case qd => unfold maxLen; omega
  case qe => omega
  intro v w2 ho hF hb hn
  obtain ⟨g2, c2, rfl, _⟩ := ownsRow_shape ho (by omega)
  have hs : qL.cells q.rows ++ QR.f (QR.mk (q.rows.length + 1) 1 0 0 0 0 0 0) = qL.cells (q.rows ++ [QR.mk (q.rows.length + 1) 1 0 0 0 0 0 0]) := qL.snoc _ _
  rw [hs] at ho
  have hFw : Fr [] w w2 := (H1.out.2.1.alloc (.cells (QR.f (QR.mk (q.rows.length + 1) 1 0 0 0 0 0 0)).toArray 51)).step hF (by intro x hx; simp [Value.ownBlock] at hx; subst hx; exact .inr H1.out.2.2)
  have hg2 : w.heap.size ≤ g2 := by
    rcases hb g2 (by simp [Value.ownBlock]) with h | h
    · simp [Value.ownBlock] at h; have := H1.out.2.2; omega
    · have := H1.out.2.1.size; first | omega | (simp at h; omega)
  have hXb := hFw.keep HX.out.blk (by simp)
  have fX : w2.frozen? ⟨X, 1, none⟩ = false := free_blk hXb
  have e1 := cell_blk (i := 1) hXb rfl
  have H2 := hid (And.intro ho (And.intro hFw (And.intro hg2 hXb)))
  clear ho hF hb hn hs hFw hg2 hXb
  go_wp2_with fail
  go_ret2
  refine ⟨rfl, HB.out _ (.slice (some ⟨g2, 0, none⟩) (q.rows.length + 1) c2) ((H2.out.2.1.mono (by simp)).setCell (p := ⟨X, 1, none⟩) (.inl (by simp)) _) (by show _ = _; exact blk_setCell_at (i := 1) (.slice (some ⟨g2, 0, none⟩) (q.rows.length + 1) c2) H2.out.2.2.2) ?_ (by simp [Value.ownBlock]; exact H2.out.2.2.1)⟩
  simp only [List.length_append, List.length_singleton]
  exact ownsRow_keep (S := [X]) H2.out.1 ((Fr.refl _ _).setCell (.inl (by simp)) _) (fun x hx => by simp [Value.ownBlock] at hx; subst hx; have := H2.out.2.2.1; simp; omega)
theorem st_rowsMay (H : St W w R) (att : Int) (h1 : 1 ≤ att) (h2 : att ≤ 8) (a : Option Addr) (n cap : Nat) (l : List QR) (hn : l.length = n) (ha : In w 8 a n cap (qL.at_ l)) (z : Bool) (hz : z = true ↔ (⟨att, l⟩ : QS).wf) :
    Calls Tryz.prog 115 #[.int .i64 att, .slice a n cap] w fun e w' => e = .returned (.bool z) ∧ St W w' R :=
  (rowsMay_any w att a n cap l hn ha).mono fun e w' ⟨y, he, hy, hF⟩ => by
    rw [rm_wf h1 h2] at hy
    have : y = z := by rw [Bool.eq_iff_iff, hy, hz]
    exact ⟨by rw [he, this], H.same hF⟩


set_option maxHeartbeats 1600000 in
set_option maxRecDepth 100000 in
theorem st_xload (H : St W w R) (n : Int) (hn1 : 1 ≤ n) (hn8 : n ≤ 8) (a : Option Addr) (m cap : Nat) (l : List QR) (hm : l.length = m) (ha : In w 8 a m cap (qL.at_ l)) (hw : (⟨n, l⟩ : QS).wf) :
    Calls Tryz.prog 61 #[.int .i64 n, .slice a m cap] w fun e w' => ∃ X, e = .returned (.tuple #[.pointer (some ⟨X, 0, none⟩), .int .i64 0]) ∧ St W w' (R ++ [XqT X ⟨n, l⟩]) := by
  subst hm
  have hl8 : l.length ≤ 8 := hw.n
  have HA := hid (fun (wx : World) (hx : Fr [] w wx) => ha.fr0 hx)
  have HW := hid hw
  have H0 := hid H
  obtain ⟨i0, hi0, hz0, hz1, hz2⟩ := info_parts info_qrow
  have HI := hid (And.intro hi0 (And.intro hz0 (And.intro hz1 hz2)))
  clear ha hw hi0 hz0 hz1 hz2 H
  go_enter Tryz.func61, Tryz.ntmps61
  go_wp2_with fail
  refine (st_xnew (St.refl w) n hn1 hn8).mono ?_
  rintro e w1 ⟨X, rfl, H1⟩
  have HH := hid H1
  clear H1
  go_wp2_with fail
  refine (st_rowsMay HH.out n hn1 hn8 a _ cap l rfl (HA.out _ HH.out.fr) true ⟨fun _ => HW.out, fun _ => rfl⟩).mono ?_
  clear HH
  rintro e w2 ⟨rfl, H2⟩
  simp only [List.nil_append] at H2
  obtain ⟨a2, c2, hX, _, hback⟩ := H2.xq_new (q' := ⟨n, l⟩) 0 rfl
  have hXl := lt_of_block hX.blk
  have hFr := H2.fr
  have HX := hid (And.intro hX (And.intro hback hFr))
  clear hX hback H2 hFr
  go_wp2_with (at_builtin; refine wpList_copied rfl (.tmp 21) (.tmp 22) 37 rfl 51 i0 (.agg #[.int .i64 0, .int .i64 0, .int .i64 0, .int .i64 0, .int .i64 0, .int .i64 0, .int .i64 0, .int .u64 0]) 8 64 Tryz.underlying37 HI.out.1 HI.out.2.1 HI.out.2.2.1 HI.out.2.2.2 rfl (by decide) w2.heap.size rfl (blk_alloc_at _ _ _ rfl) a l.length cap (qL.at_ l) rfl ?qa (fun j _ => qL.at_one _ j) (by omega) ?_)
  case qa => exact HA.out _ (HX.out.2.2.alloc _)
  intro g cg w3 ho hF1 hg
  rw [show (List.range (l.length * 8)).map (qL.at_ l) = qL.cells l from qL.range l] at ho
  have hF : Fr [] w2 w3 := ((Fr.refl [] w2).alloc (.cells #[] 51)).step hF1 (by intro x hx; simp at hx; subst hx; exact .inr (Nat.le_refl _))
  have hg' : w2.heap.size ≤ g := by rcases hg with h | h <;> first | omega | (simp at h; omega)
  have hXb := hF.keep HX.out.1.blk (by simp)
  have fX : w3.frozen? ⟨X, 1, none⟩ = false := free_blk hXb
  have e1 := cell_blk (i := 1) hXb rfl
  have H1 := hid (And.intro ho (And.intro hF (And.intro hg' hXb)))
  clear ho hF hF1 hg hg' hXb
  go_wp2_with fail
  go_ret2
  have h1 : St (.of w) (w3.setCell ⟨X, 1, none⟩ (.slice (some ⟨g, 0, none⟩) l.length cg)) [XqT X ⟨n, l⟩] := HX.out.2.1 _ (.slice (some ⟨g, 0, none⟩) l.length cg) ((H1.out.2.1.mono (by simp)).setCell (p := ⟨X, 1, none⟩) (.inl (by simp)) _) (by show _ = _; exact blk_setCell_at (i := 1) (.slice (some ⟨g, 0, none⟩) l.length cg) H1.out.2.2.2) (ownsRow_keep (S := [X]) H1.out.1 ((Fr.refl _ _).setCell (.inl (by simp)) _) (fun x hx => by simp [Value.ownBlock] at hx; subst hx; have := H1.out.2.2.1; simp; omega)) (by simp [Value.ownBlock]; exact H1.out.2.2.1)
  obtain ⟨F, G, hXq, hFb, hFG, _⟩ := h1.atG 0 rfl
  refine ⟨X, rfl, H0.out.newOf h1.fr inferInstance hXq (fun x hx => (hFb x hx).elim (fun h => by cases h) id) (fun x hx => .inl ?_) hFG⟩
  obtain ⟨rv, _, rfl, hb, _⟩ := hXq
  rw [blk_setCell_at (i := 1) (.slice (some ⟨g, 0, none⟩) l.length cg) H1.out.2.2.2] at hb
  simp only [Option.some.injEq, Obj.cells.injEq, and_true] at hb
  have h2 := congrArg (fun c => c[1]?) hb
  simp at h2
  subst h2
  simp [Value.ownBlock] at hx
  subst hx
  have := HX.out.2.2.size
  have := H1.out.2.2.1
  omega

theorem st_xload_bad (H : St W w R) (n : Int) (hn1 : 1 ≤ n) (hn8 : n ≤ 8) (a : Option Addr) (m cap : Nat) (l : List QR) (hm : l.length = m) (ha : In w 8 a m cap (qL.at_ l)) (hw : ¬ (⟨n, l⟩ : QS).wf) :
    Calls Tryz.prog 61 #[.int .i64 n, .slice a m cap] w fun e w' => e = .returned (.tuple #[.pointer none, .int .i64 114]) ∧ St W w' R := by
  have HA := hid (fun (wx : World) (hx : Fr [] w wx) => ha.fr0 hx)
  have HM := hid hm
  have HW := hid hw
  have H0 := hid H
  clear ha hw hm H
  go_enter Tryz.func61, Tryz.ntmps61
  go_wp2_with fail
  refine (st_xnew (St.refl w) n hn1 hn8).mono ?_
  rintro e w1 ⟨X, rfl, H1⟩
  have HH := hid H1
  clear H1
  go_wp2_with fail
  refine (st_rowsMay HH.out n hn1 hn8 a _ cap l HM.out (HA.out _ HH.out.fr) false ⟨(fun h => by cases h), fun h => absurd h HW.out⟩).mono ?_
  clear HH
  rintro e w2 ⟨rfl, H2⟩
  go_wp2_with fail
  go_ret2
  exact ⟨rfl, H0.out.same H2.fr⟩

end
end Go.Proofs.YtmgnekjhlfghaaaGreat

/-
  The document's queue: Grant, Expire, Settle.
-/
namespace Go.Proofs.YtmgnekjhlfghaaaGreat
open Go.RowKit QLd
set_option linter.unusedVariables false
set_option linter.unusedSimpArgs false

section
variable {W : Base} {w : World} {R : List Thing}

set_option maxHeartbeats 3200000 in
set_option maxRecDepth 100000 in
theorem st_xgrant (H : St W w R) (i : Nat) {X : Nat} {q : QS} (hi : R[i]? = some (XqT X q)) (hw : q.wf) (job badge node life : Int) :
    Calls Tryz.prog 80 #[.pointer (some ⟨X, 0, none⟩), .int .i64 job, .int .i64 badge, .agg #[.int .i64 node, .int .i64 life]] w fun e w' => e = .returned (.int .i64 (q.grant job badge node life).1) ∧ St W w' (R.set i (XqT X (q.grant job badge node life).2)) := by
  have hn8 := hw.n
  obtain ⟨a, c, hX⟩ := H.xq i hi
  have c1 := hX.c1
  have hXl := lt_of_block hX.blk
  have HX := hid hX
  have HK := hid (fun (wx : World) (hx : Fr [] w wx) => (H.same hx).set_self hi)
  clear hX
  by_cases hj : job < 1 ∨ (q.rows.length : Int) < job
  · have e : q.grant job badge node life = (111, q) := by unfold QS.grant; rw [if_pos hj]
    rw [e]
    clear e
    rcases hj with hj | hj
    · go_enter Tryz.func80, Tryz.ntmps80
      go_wp2_with fail
      go_ret
      exact ⟨rfl, HK.out _ ((Fr.refl _ _).alloc _)⟩
    · by_cases hj2 : job < 1
      all_goals
        go_enter Tryz.func80, Tryz.ntmps80
        go_wp2_with fail
        go_ret
        exact ⟨rfl, HK.out _ ((Fr.refl _ _).alloc _)⟩
  obtain ⟨k, rfl⟩ : ∃ k : Nat, job = k + 1 := ⟨(job - 1).toNat, by omega⟩
  have hk : k < q.rows.length := by omega
  have hkk : ((k : Int) + 1 - 1).toNat = k := by omega
  obtain ⟨b, o, rfl⟩ := HX.out.inn.sm (by omega)
  obtain ⟨r0, r1, r2, r3, r4, r5, r6, r7⟩ := qrow_cells HX.out.inn k hk
  have hbl : b < w.heap.size := World.block_lt_of_cell? w ⟨b, o + k * 8, none⟩ r0
  have hmx := HX.out.inn.max
  have HR := hid (rfl : qL.nth q.rows k = qL.nth q.rows k)
  obtain ⟨x, hx⟩ : ∃ x, qL.nth q.rows k = x := ⟨_, rfl⟩
  rw [hx] at r0 r1 r2 r3 r4 r5 r6 r7
  have hm := may_facts (hw.ok k hk)
  rw [hx] at hm
  have hk1 : ¬ ((k : Int) + 1 < 1) := by omega
  have hk2 : ¬ ((q.rows.length : Int) < (k : Int) + 1) := by omega
  by_cases hst : x.st = 1
  case neg =>
    have e : q.grant (k + 1) badge node life = (112, q) := by unfold QS.grant; rw [if_neg hj, hkk, hx, if_pos hst]
    rw [e]
    have hst1 : (x.st == 1) = false := by rw [beq_eq_false_iff_ne]; exact hst
    have hst2 : (x.st != 1) = true := by rw [bne_iff_ne]; exact hst
    clear e hst hx hm hkk
    go_enter Tryz.func80, Tryz.ntmps80
    go_wp2_with fail
    go_ret
    exact ⟨rfl, HK.out _ (((Fr.refl _ _).alloc _).alloc _)⟩
  have hst1 : (x.st == 1) = true := by rw [beq_iff_eq]; exact hst
  have hst2 : (x.st != 1) = false := by rw [bne_eq_false_iff_eq]; exact hst
  have HM := hid (And.intro hst (And.intro hm hx))
  have hst9 : ¬ (qL.nth q.rows (((k : Int) + 1 - 1).toNat)).st ≠ 1 := by rw [hkk, hx]; simpa using hst
  have HST := hid hst9
  have HJ := hid hj
  have HKK := hid hkk
  clear hst hx hm hkk hst9 hj HR
  by_cases hbb : 1099511627776 < badge ∨ badge < 1
  · have e : q.grant (k + 1) badge node life = (113, q) := by
      unfold QS.grant; rw [if_neg HJ.out, if_neg HST.out, if_pos (.inl (by unfold inB; simp; omega))]
    rw [e]
    clear e
    rcases hbb with hbb | hbb
    · go_enter Tryz.func80, Tryz.ntmps80
      go_wp2_with fail
      go_ret
      exact ⟨rfl, HK.out _ (((Fr.refl _ _).alloc _).alloc _)⟩
    · have hbb2 : ¬ 1099511627776 < badge := by omega
      go_enter Tryz.func80, Tryz.ntmps80
      go_wp2_with fail
      go_ret
      exact ⟨rfl, HK.out _ (((Fr.refl _ _).alloc _).alloc _)⟩
  have hb1 : ¬ 1099511627776 < badge := by omega
  have hb2 : ¬ badge < 1 := by omega
  have hin : inB badge 1 1099511627776 = true := by unfold inB; simp; omega
  have HIN := hid hin
  clear hin hbb
  generalize hgr : q.grant (k + 1) badge node life = gr
  have HG := hid hgr
  clear hgr
  go_enter Tryz.func80, Tryz.ntmps80
  go_wp2_with fail
  go_loop [10] (fun i => ∃ j : Nat, j ≤ q.rows.length ∧ i = .int .i64 j ∧ ∀ m, m < j → (qL.nth q.rows m).pGrant badge = false) (fun i => q.rows.length - (intOf i).toNat)
  case atStart => exact ⟨0, Nat.zero_le _, rfl, fun j hj => absurd hj (Nat.not_lt_zero _)⟩
  case round =>
    obtain ⟨j, hjl, rfl, hall⟩ := hrel
    have HAll := hid hall
    clear hall
    by_cases hlt : j < q.rows.length
    · obtain ⟨_, _, _, y3, _⟩ := qrow_cells HX.out.inn j hlt
      cases hp : (qL.nth q.rows j).pGrant badge
      · have HP := hid hp
        have hge : ¬ badge ≤ (qL.nth q.rows j).ba := by simpa [QR.pGrant] using hp
        generalize (qL.nth q.rows j).ba = y at y3 hge
        clear hp
        go_wp2_with fail
        go_round
        case rel => exact ⟨j + 1, by omega, by go_num, fun m hm => by by_cases hjm : m = j; (subst hjm; exact HP.out); exact HAll.out m (by omega)⟩
        case measure => simp [intOf]; omega
      · have HP := hid hp
        have hge : badge ≤ (qL.nth q.rows j).ba := by simpa [QR.pGrant] using hp
        have hfi := fIdx_some (p := QR.pGrant badge) hlt HP.out HAll.out
        have e : q.grant (k + 1) badge node life = (113, q) := by
          unfold QS.grant; rw [if_neg HJ.out, if_neg HST.out, if_pos (.inr (by rw [hfi]; omega))]
        have HE := hid (HG.out.symm.trans e)
        generalize (qL.nth q.rows j).ba = y at y3 hge
        clear e hfi hp
        go_wp2_with fail
        go_ret
        rw [HE.out]
        exact ⟨rfl, HK.out _ (((Fr.refl _ _).alloc _).alloc _)⟩
    · obtain rfl : j = q.rows.length := by omega
      have hfi := fIdx_none HAll.out
      have hno : ¬ (inB badge 1 1099511627776 = false ∨ 0 ≤ fIdx (QR.pGrant badge) q.rows) := by rw [HIN.out, hfi]; simp
      have HNO := hid hno
      clear hno hfi
      cases hho : holdB node life
      · have e : q.grant (k + 1) badge node life = (1, q) := by
          unfold QS.grant; rw [if_neg HJ.out, if_neg HST.out, if_neg HNO.out, if_pos hho]
        have HE := hid (HG.out.symm.trans e)
        have HHO := hid hho
        clear e hho
        go_wp2_with fail
        refine (holderMay _ _ _).mono ?_
        rw [HHO.out]
        rintro e w1 ⟨rfl, rfl⟩
        go_wp2_with fail
        go_ret
        rw [HE.out]
        exact ⟨rfl, HK.out _ ((((Fr.refl _ _).alloc _).alloc _).alloc _)⟩
      · have e : q.grant (k + 1) badge node life = (0, { q with rows := q.rows.set k ⟨k + 1, 2, x.at_ + 1, badge, node, life, 0, 0⟩ }) := by
          unfold QS.grant
          rw [if_neg HJ.out, if_neg HST.out, if_neg HNO.out, if_neg (by rw [hho]; simp), HKK.out, HM.out.2.2]
          obtain ⟨m0, m1, _⟩ := HM.out
          have hkb := (kb_iff x).1 m1.2.2.2.2.2.2.1
          have m1 := m1.1
          have h3 := hkb.2.resolve_left (by omega)
          obtain ⟨jb, s, at2, ba, no, li, co, bi⟩ := x
          simp only at h3 m1 ⊢
          rw [h3.1, h3.2, m1]
        have HE := hid (HG.out.symm.trans e)
        have HHO := hid hho
        have hat := HM.out.2.1.2.1
        have hat2 := HM.out.2.1.2.2.1
        have hat3 := hw.a2
        have hat4 : x.at_ + 1 ≤ 9223372036854775807 := by omega
        clear e hho
        go_wp2_with fail
        refine (holderMay _ _ _).mono ?_
        rw [HHO.out]
        rintro e w1 ⟨rfl, rfl⟩
        go_wp2_with fail
        refine (st_xset (((H.alloc_ (.cells #[.int .i64 node, .int .i64 life] 46)).alloc_ (.cells #[.int .i64 x.job, .int .i64 x.st, .int .i64 x.at_, .int .i64 x.ba, .int .i64 x.node, .int .i64 x.life, .int .i64 x.code, .int .u64 x.bits] 51)).alloc_ (.cells #[.int .i64 node, .int .i64 life] 46)) i hi hn8 k hk ⟨k + 1, 2, x.at_ + 1, badge, node, life, 0, 0⟩ rfl).mono ?_
        rintro e w2 ⟨rfl, H2⟩
        go_wp2_with fail
        go_ret
        rw [HE.out]
        exact ⟨rfl, H2⟩

set_option maxHeartbeats 3200000 in
set_option maxRecDepth 100000 in
theorem st_xexpire (H : St W w R) (i : Nat) {X : Nat} {q : QS} (hi : R[i]? = some (XqT X q)) (hw : q.wf) (bg : Int) :
    Calls Tryz.prog 82 #[.pointer (some ⟨X, 0, none⟩), .int .i64 bg] w fun e w' => e = .returned (.tuple #[.int .i64 (q.expire bg).1, .int .i64 (q.expire bg).2.1]) ∧ St W w' (R.set i (XqT X (q.expire bg).2.2)) := by
  have hn8 := hw.n
  obtain ⟨a, c, hX⟩ := H.xq i hi
  have c0 := hX.c0
  have c1 := hX.c1
  have hXl := lt_of_block hX.blk
  have HX := hid hX
  have HH := hid (x_held w X q a c hX hn8 bg)
  by_cases hneg : fIdx (QR.pHeld bg) q.rows < 0
  · have e : q.expire bg = (0, 113, q) := by unfold QS.expire; rw [if_pos hneg]
    rw [e]
    have hm1 : fIdx (QR.pHeld bg) q.rows = -1 := by have := fIdx_bd (QR.pHeld bg) q.rows; omega
    rw [hm1] at HH
    have HS := hid (H.set_self hi)
    clear e hm1 hneg hX
    go_enter Tryz.func82, Tryz.ntmps82
    go_wp2_with fail
    refine HH.out.mono ?_
    rintro e w1 ⟨rfl, rfl⟩
    go_wp2_with fail
    go_ret2
    exact ⟨rfl, HS.out⟩
  obtain ⟨k, hk⟩ : ∃ k : Nat, fIdx (QR.pHeld bg) q.rows = k := ⟨(fIdx (QR.pHeld bg) q.rows).toNat, by omega⟩
  obtain ⟨f1, f2, f3⟩ := held_facts hw hneg
  have e : q.expire bg = ((qL.nth q.rows k).job, 0, { q with rows := q.rows.set k { qL.nth q.rows k with st := if q.att ≤ (qL.nth q.rows k).at_ then 4 else 1, node := 0, life := 0 } }) := by
    unfold QS.expire; rw [if_neg hneg, hk, Int.toNat_natCast]
  rw [e]
  rw [hk] at HH f1 f2 f3
  rw [Int.toNat_natCast] at f1 f2 f3
  have hm := may_facts (hw.ok k f1)
  obtain ⟨b, o, rfl⟩ := hX.inn.sm (by omega)
  obtain ⟨r0, r1, r2, r3, r4, r5, r6, r7⟩ := qrow_cells hX.inn k f1
  have hbl : b < w.heap.size := World.block_lt_of_cell? w ⟨b, o + k * 8, none⟩ r0
  have hmx := hX.inn.max
  generalize qL.nth q.rows k = x at r0 r1 r2 r3 r4 r5 r6 r7 hm
  obtain ⟨job, st, at_, ba, no, li, co, bi⟩ := x
  simp only at r0 r1 r2 r3 r4 r5 r6 r7 hm ⊢
  obtain ⟨rfl, m2, m3, _⟩ := hm
  have g1 : ¬ ((k : Int) + 1 = 0) := by omega
  have g2 : ((k : Int) + 1 == 0) = false := by rw [beq_eq_false_iff_ne]; exact g1
  clear e hneg hk f2 f3 hX
  by_cases hatt : q.att ≤ at_
  · obtain rfl : at_ = q.att := by omega
    rw [if_pos (Int.le_refl _)]
    have g3 : (q.att == q.att) = true := by simp
    go_enter Tryz.func82, Tryz.ntmps82
    go_wp2_with fail
    refine HH.out.mono ?_
    rintro e w1 ⟨rfl, rfl⟩
    go_wp2_with fail
    go_quiet (fail)
    go_wp2_with fail
    refine (st_xset (H.same ((((Fr.refl [] w).alloc (.cells #[.int .i64 ((k : Int) + 1), .int .i64 1, .int .i64 q.att, .int .i64 ba, .int .i64 0, .int .i64 0, .int .i64 co, .int .u64 bi] 51)).drewN _).setCell (p := ⟨w.heap.size, 1, none⟩) (.inr (Nat.le_refl _)) (.int .i64 4))) i hi hn8 k f1 ⟨(k : Int) + 1, 4, q.att, ba, 0, 0, co, bi⟩ rfl).mono ?_
    rintro e w2 ⟨rfl, H2⟩
    go_wp2_with fail
    go_ret2
    exact ⟨rfl, H2⟩
  · rw [if_neg hatt]
    have g3 : (at_ == q.att) = false := by rw [beq_eq_false_iff_ne]; omega
    go_enter Tryz.func82, Tryz.ntmps82
    go_wp2_with fail
    refine HH.out.mono ?_
    rintro e w1 ⟨rfl, rfl⟩
    go_wp2_with fail
    go_quiet (fail)
    go_wp2_with fail
    refine (st_xset (((H.alloc_ (.cells #[.int .i64 ((k : Int) + 1), .int .i64 1, .int .i64 at_, .int .i64 ba, .int .i64 0, .int .i64 0, .int .i64 co, .int .u64 bi] 51)).drewN _)) i hi hn8 k f1 ⟨(k : Int) + 1, 1, at_, ba, 0, 0, co, bi⟩ rfl).mono ?_
    rintro e w2 ⟨rfl, H2⟩
    go_wp2_with fail
    go_ret2
    exact ⟨rfl, H2⟩

set_option maxHeartbeats 3200000 in
set_option maxRecDepth 100000 in
theorem st_xsettle (H : St W w R) (i : Nat) {X : Nat} {q : QS} (hi : R[i]? = some (XqT X q)) (hw : q.wf) (bg code bits : Int) :
    Calls Tryz.prog 83 #[.pointer (some ⟨X, 0, none⟩), .int .i64 bg, .agg #[.int .i64 code, .int .u64 bits]] w fun e w' => e = .returned (.tuple #[.int .i64 (q.settle bg code bits).1, .int .i64 (q.settle bg code bits).2.1]) ∧ St W w' (R.set i (XqT X (q.settle bg code bits).2.2)) := by
  have hn8 := hw.n
  have H := H.alloc_ (.cells #[.int .i64 code, .int .u64 bits] 49)
  obtain ⟨a, c, hX⟩ := H.xq i hi
  have c1 := hX.c1
  have hXl := lt_of_block hX.blk
  have HX := hid hX
  have HH := hid (x_held _ X q a c hX hn8 bg)
  by_cases hneg : fIdx (QR.pHeld bg) q.rows < 0
  · have e : q.settle bg code bits = (0, 113, q) := by unfold QS.settle; rw [if_pos hneg]
    rw [e]
    have hm1 : fIdx (QR.pHeld bg) q.rows = -1 := by have := fIdx_bd (QR.pHeld bg) q.rows; omega
    rw [hm1] at HH
    have HS := hid (H.set_self hi)
    clear e hm1 hneg hX c1 hXl H
    go_enter Tryz.func83, Tryz.ntmps83
    go_wp2_with fail
    refine HH.out.mono ?_
    rintro e w1 ⟨rfl, rfl⟩
    go_wp2_with fail
    go_ret2
    exact ⟨rfl, HS.out⟩
  obtain ⟨k, hk⟩ : ∃ k : Nat, fIdx (QR.pHeld bg) q.rows = k := ⟨(fIdx (QR.pHeld bg) q.rows).toNat, by omega⟩
  obtain ⟨f1, f2, f3⟩ := held_facts hw hneg
  rw [hk] at HH f1 f2 f3
  rw [Int.toNat_natCast] at f1 f2 f3
  have g1 : ¬ ((k : Int) + 1 = 0) := by omega
  have g2 : ((k : Int) + 1 == 0) = false := by rw [beq_eq_false_iff_ne]; exact g1
  have HC := hid (resultMay ((w.alloc (.cells #[.int .i64 code, .int .u64 bits] 49))) code bits)
  cases hrs : resB code bits
  · have e : q.settle bg code bits = (0, 1, q) := by unfold QS.settle; rw [if_neg hneg, if_pos hrs]
    rw [e]
    rw [hrs] at HC
    have HS := hid ((H.alloc_ (.cells #[.int .i64 code, .int .u64 bits] 49)).set_self hi)
    clear e hrs hneg hk hX c1 hXl H f2 f3
    go_enter Tryz.func83, Tryz.ntmps83
    go_wp2_with fail
    refine HH.out.mono ?_
    rintro e w1 ⟨rfl, rfl⟩
    go_wp2_with fail
    refine HC.out.mono ?_
    rintro e w1 ⟨rfl, rfl⟩
    go_wp2_with fail
    go_ret2
    exact ⟨rfl, HS.out⟩
  have e : q.settle bg code bits = ((qL.nth q.rows k).job, 0, { q with rows := q.rows.set k { qL.nth q.rows k with st := 3, node := 0, life := 0, code := code, bits := bits } }) := by
    unfold QS.settle; rw [if_neg hneg, if_neg (by rw [hrs]; simp), hk, Int.toNat_natCast]
  rw [e]
  rw [hrs] at HC
  have hm := may_facts (hw.ok k f1)
  have HCC := hid (And.intro (blk_alloc_at w (.cells #[.int .i64 code, .int .u64 bits] 49) _ rfl) (H.alloc_ (.cells #[.int .i64 code, .int .u64 bits] 49)))
  have hX2 := hX.fr0 ((Fr.refl [] _).alloc (.cells #[.int .i64 code, .int .u64 bits] 49))
  have c1 := hX2.c1
  have hXl := lt_of_block hX2.blk
  obtain ⟨b, o, rfl⟩ := hX2.inn.sm (by omega)
  obtain ⟨r0, r1, r2, r3, r4, r5, r6, r7⟩ := qrow_cells hX2.inn k f1
  have hbl := World.block_lt_of_cell? _ _ r0
  simp only at hbl
  have hmx := hX2.inn.max
  have hcb := blk_alloc_lt (.cells #[.int .i64 code, .int .u64 bits] 49) (blk_alloc_at w (.cells #[.int .i64 code, .int .u64 bits] 49) _ rfl)
  have q0 := cell_blk (i := 0) hcb rfl
  have q1 := cell_blk (i := 1) hcb rfl
  have hcl := lt_of_block hcb
  have HW2 := hid (H.alloc_ (.cells #[.int .i64 code, .int .u64 bits] 49))
  generalize qL.nth q.rows k = x at r0 r1 r2 r3 r4 r5 r6 r7 hm
  obtain ⟨job, st, at_, ba, no, li, co, bi⟩ := x
  simp only at r0 r1 r2 r3 r4 r5 r6 r7 hm ⊢
  obtain ⟨rfl, m2, m3, _⟩ := hm
  clear e hrs hneg hk f2 f3 hX hX2 H hcb HCC
  go_enter Tryz.func83, Tryz.ntmps83
  go_wp2_with fail
  refine HH.out.mono ?_
  rintro e w1 ⟨rfl, rfl⟩
  go_wp2_with fail
  refine HC.out.mono ?_
  rintro e w1 ⟨rfl, rfl⟩
  go_wp2_with fail
  refine (st_xset (HW2.out.alloc_ (.cells #[.int .i64 ((k : Int) + 1), .int .i64 3, .int .i64 at_, .int .i64 ba, .int .i64 0, .int .i64 0, .int .i64 code, .int .u64 bits] 51)) i hi hn8 k f1 ⟨(k : Int) + 1, 3, at_, ba, 0, 0, code, bits⟩ rfl).mono ?_
  rintro e w2 ⟨rfl, H2⟩
  go_wp2_with fail
  go_ret2
  exact ⟨rfl, H2⟩

end
end Go.Proofs.YtmgnekjhlfghaaaGreat

/-
  The document's state in memory: its block, its queue; its lists, which are read alone.
-/
namespace Go.Proofs.YtmgnekjhlfghaaaGreat
open Go.RowKit
set_option linter.unusedVariables false
set_option linter.unusedSimpArgs false

/-- A row that is read alone. -/
def RoT (e : TypeId) (size : Nat) (v : Value) (n : Nat) (xs : List Value) : Thing := fun w F G => F = [] ∧ G = v.ownBlock.toList ∧ w.ownsRow 0 e size v n xs
instance (e : TypeId) (size : Nat) (v : Value) (n : Nat) (xs : List Value) : Loc (RoT e size v n xs) where
  keep := fun ⟨h1, h2, h3⟩ hF hd hg => ⟨h1, h2, ownsRow_keep h3 hF (fun g h => hg g (by rw [h2]; exact h))⟩
  lt := fun ⟨h1, h2, h3⟩ => ⟨fun x hx => (by subst h1; cases hx), fun x hx => (by subst h2; exact ownsRow_lt h3 x hx)⟩
section
variable {W : Base} {w : World} {R : List Thing}
/-- What was owned is read alone from now on. -/
theorem St.ro (H : St W w R) (i : Nat) {e : TypeId} {size n : Nat} {v : Value} {xs : List Value} (hi : R[i]? = some (RowT e size v n xs)) : St W w (R.set i (RoT e size v n xs)) := by
  obtain ⟨F, G, ⟨hG, hF, h⟩, _, _, hback⟩ := H.atG i hi
  subst hG hF
  exact hback w [] _ (RoT e size v n xs) inferInstance ⟨rfl, rfl, h⟩ (Fr.refl _ _) (by simp) (fun x hx => .inl hx) (by simp)
theorem St.roRow (H : St W w R) (i : Nat) {e : TypeId} {size n : Nat} {v : Value} {xs : List Value} (hi : R[i]? = some (RoT e size v n xs)) : w.ownsRow 0 e size v n xs := by
  obtain ⟨F, G, _, _, h⟩ := H.getG i hi; exact h
/-- What is read alone may be read by another one, too. -/
theorem St.roTwo (H : St W w R) (i : Nat) {e : TypeId} {size n : Nat} {v : Value} {xs : List Value} (hi : R[i]? = some (RoT e size v n xs)) : St W w (R ++ [RoT e size v n xs]) :=
  H.newOf (Fr.refl _ _) inferInstance ⟨rfl, rfl, H.roRow i hi⟩ (by simp) (fun x hx => .inr (.inr ⟨i, _, hi, fun F' G' h => by rw [h.2.1]; exact hx⟩)) (by simp)
end

/-- A log that is read alone. -/
def lgR (x : List ByteArray × TS) : Thing := RoT 9 1 (.slice x.2.a x.1.length x.2.c) x.1.length (sL.cells x.1)
abbrev xO (X Q : Nat) (res : Int) (pv lv : Value) : Obj := .cells #[.int .i64 res, .pointer (some ⟨Q, 0, none⟩), pv, lv] 44
/-- The document's state's things. -/
def xsL (X Q : Nat) (q : QS) (res : Int) (pv : Value) (progs : List ByteArray) (lv : Value) (ll : List (List ByteArray × TS)) : List Thing :=
  [BlkT X (xO X Q res pv lv), XqT Q q, RoT 9 1 pv progs.length (sL.cells progs), RoT 41 1 lv ll.length (tL.cells ll)] ++ ll.map lgR
theorem xsL_loc (X Q : Nat) (q : QS) (res : Int) (pv : Value) (progs : List ByteArray) (lv : Value) (ll : List (List ByteArray × TS)) : ∀ A, A ∈ xsL X Q q res pv progs lv ll → Loc A := by
  intro A hA
  simp only [xsL, List.cons_append, List.nil_append, List.mem_cons, List.mem_map] at hA
  rcases hA with rfl | rfl | rfl | rfl | ⟨x, _, rfl⟩
  · exact (inferInstance : Loc (own (Blk1 _ _)))
  · exact inferInstance
  · exact inferInstance
  · exact inferInstance
  · exact (inferInstance : Loc (RoT _ _ _ _ _))
/-- The document's state, as one thing. -/
def XsT (X : Nat) (v : SV) : Thing := fun w F G => ∃ (Q : Nat) (pv lv : Value) (ll : List (List ByteArray × TS)), ll.map (·.1) = v.logs ∧ PackG (xsL X Q v.q v.res pv v.progs lv ll) w F G
instance (X : Nat) (v : SV) : Loc (XsT X v) where
  keep := fun ⟨Q, pv, lv, ll, h1, h2⟩ hF hd hg => ⟨Q, pv, lv, ll, h1, h2.keep hF hd hg⟩
  lt := fun ⟨Q, pv, lv, ll, h1, h2⟩ => h2.lt
section
variable {W : Base} {w : World} {R : List Thing}
theorem St.xs (H : St W w R) (i : Nat) {X : Nat} {v : SV} (hi : R[i]? = some (XsT X v)) : ∃ (Q : Nat) (pv lv : Value) (ll : List (List ByteArray × TS)), ll.map (·.1) = v.logs ∧ St W w (R.set i NilT ++ xsL X Q v.q v.res pv v.progs lv ll) := by
  obtain ⟨F, G, ⟨Q, pv, lv, ll, h1, h2⟩, h3⟩ := H.unpack2 i hi
  exact ⟨Q, pv, lv, ll, h1, h3 _ h2⟩
theorem St.xsBack {i X Q : Nat} {q : QS} {res : Int} {pv lv : Value} {progs : List ByteArray} {ll : List (List ByteArray × TS)} (hil : i < R.length) (H : St W w (R.set i NilT ++ xsL X Q q res pv progs lv ll)) : St W w (R.set i (XsT X ⟨q, res, progs, ll.map (·.1)⟩)) := by
  have h := H.pack2 i (List.getElem?_set_self hil) (xsL_loc _ _ _ _ _ _ _ _) (B := XsT X ⟨q, res, progs, ll.map (·.1)⟩) inferInstance (fun F G hP => ⟨Q, pv, lv, ll, rfl, hP⟩)
  rwa [List.set_set] at h
theorem St.xsEnd {X Q : Nat} {q : QS} {res : Int} {pv lv : Value} {progs : List ByteArray} {ll : List (List ByteArray × TS)} (H : St W w (R ++ xsL X Q q res pv progs lv ll)) : St W w (R ++ [XsT X ⟨q, res, progs, ll.map (·.1)⟩]) :=
  H.packEnd2 (xsL_loc _ _ _ _ _ _ _ _) inferInstance (fun F G hP => ⟨Q, pv, lv, ll, rfl, hP⟩)
end
end Go.Proofs.YtmgnekjhlfghaaaGreat

/-
  The document's state: New, Copy.
-/
namespace Go.Proofs.YtmgnekjhlfghaaaGreat
open Go.RowKit
set_option linter.unusedVariables false
set_option linter.unusedSimpArgs false

section
variable {W : Base} {w : World} {R : List Thing}
theorem St.roShape (H : St W w R) (i : Nat) {e : TypeId} {sz n : Nat} {v : Value} {xs : List Value} (hi : R[i]? = some (RoT e sz v n xs)) : ∃ a c, v = .slice a n c := by
  rcases ownsRow_one (H.roRow i hi) with ⟨h1, h2, _⟩ | ⟨g, c, h1, h2, h3⟩
  · subst h2; exact ⟨none, 0, h1⟩
  · exact ⟨_, c, h1⟩
theorem St.roNil (H : St W w R) (e : TypeId) (size : Nat) : St W w (R ++ [RoT e size (.slice none 0 0) 0 []]) :=
  H.newOf (Fr.refl _ _) inferInstance ⟨rfl, rfl, World.ownsRow_nil _ _ _ _⟩ (by simp) (by simp [Value.ownBlock]) (by simp)
/-- Rows that are read alone may be read by another one, too. -/
theorem St.roAll : ∀ (L : List Thing) {R : List Thing}, St W w R → (∀ A, A ∈ L → A ∈ R ∧ ∃ e size v n xs, A = RoT e size v n xs) → St W w (R ++ L)
  | [], R, H, _ => by rw [List.append_nil]; exact H
  | A :: L, R, H, h => by
    obtain ⟨h1, e, size, v, n, xs, rfl⟩ := h A (List.mem_cons_self ..)
    obtain ⟨i, hi⟩ := List.mem_iff_getElem?.1 h1
    have h2 := St.roAll L (H.roTwo i hi) (fun B hB => ⟨List.mem_append_left _ (h B (List.mem_cons_of_mem _ hB)).1, (h B (List.mem_cons_of_mem _ hB)).2⟩)
    rw [List.append_assoc] at h2
    exact h2
set_option maxHeartbeats 1000000 in
theorem st_tnew (H : St W w R) (n : Int) (h1 : 1 ≤ n) (h2 : n ≤ 8) :
    Calls Tryz.prog 7 #[.int .i64 n] w fun e w' => ∃ X, e = .returned (.tuple #[.pointer (some ⟨X, 0, none⟩), .int .i64 0]) ∧ St W w' (R ++ [XsT X (SV.new n)]) := by
  have HQ := hid (st_xnew H n h1 h2)
  go_enter Tryz.func7, Tryz.ntmps7
  go_wp2_with (go_at_call 24; refine HQ.out.mono ?_; rintro e w1 ⟨Q, rfl, H1⟩; have H1 := hid H1)
  go_wp2_with fail
  go_ret2
  refine ⟨w1.heap.size, rfl, ?_⟩
  have H2 := H1.out.alloc (xO w1.heap.size Q 0 (.slice none 0 0) (.slice none 0 0))
  have H3 := H2.roNil 9 1
  have H4 := H3.roNil 41 1
  have h5 : St W (w1.alloc (xO w1.heap.size Q 0 (.slice none 0 0) (.slice none 0 0))) (R ++ xsL w1.heap.size Q ⟨n, []⟩ 0 (.slice none 0 0) [] (.slice none 0 0) []) := H4.perm (by
    rw [List.append_assoc, List.append_assoc, List.append_assoc]
    exact List.Perm.append_left _ (List.Perm.swap _ _ _))
  exact h5.xsEnd
theorem tnew_bad (w : World) (n : Int) (h : n < 1 ∨ 8 < n) :
    Calls Tryz.prog 7 #[.int .i64 n] w fun e w' => e = .returned (.tuple #[.pointer none, .int .i64 1]) ∧ w = w' := by
  have HQ := hid (xnew_bad w n h)
  clear h
  go_enter Tryz.func7, Tryz.ntmps7
  go_wp2_with (go_at_call 24; refine HQ.out.mono ?_; rintro e w1 ⟨rfl, rfl⟩)
  go_ret2
  exact ⟨rfl, rfl⟩
set_option maxHeartbeats 1000000 in
theorem st_tcopy (H : St W w R) (i : Nat) {X : Nat} {v : SV} (hi : R[i]? = some (XsT X v)) :
    Calls Tryz.prog 28 #[.pointer (some ⟨X, 0, none⟩)] w fun e w' => ∃ Y, e = .returned (.pointer (some ⟨Y, 0, none⟩)) ∧ St W w' (R ++ [XsT Y v]) := by
  have hil := lt_of_get hi
  have hself : R.set i (XsT X v) = R := things_set_self hi
  obtain ⟨Q, pv, lv, ll, hll, H1⟩ := H.xs i hi
  obtain ⟨q, res, progs, logs⟩ := v
  simp only at hll H1
  subst hll
  obtain ⟨pa, pc, rfl⟩ := H1.roShape ((R.set i NilT).length + 2) (by rw [get_behind]; rfl)
  obtain ⟨la, lc, rfl⟩ := H1.roShape ((R.set i NilT).length + 3) (by rw [get_behind]; rfl)
  have b1 := H1.blk ((R.set i NilT).length + 0) (by rw [get_behind]; rfl)
  have c0 := cell_blk (i := 0) b1 rfl
  have c1 := cell_blk (i := 1) b1 rfl
  have c2 := cell_blk (i := 2) b1 rfl
  have c3 := cell_blk (i := 3) b1 rfl
  have hlX := lt_of_block b1
  have H2 := H1.alloc (xO w.heap.size Q res (.slice pa progs.length pc) (.slice la ll.length lc))
  have HC := hid (st_xcopy H2 ((R.set i NilT).length + 1) (X := Q) (q := q) (by rw [List.append_assoc, get_behind]; rfl))
  have HS := hid (And.intro hil hself)
  clear H H1 H2 b1 hi hil hself
  go_enter Tryz.func28, Tryz.ntmps28
  go_wp2_with fail
  refine HC.out.mono ?_
  rintro e w1 ⟨Q2, rfl, H⟩
  rw [List.append_assoc (R.set i NilT ++ xsL X Q q res (.slice pa progs.length pc) progs (.slice la ll.length lc) (ll))] at H
  have bY := H.blk ((R.set i NilT ++ xsL X Q q res (.slice pa progs.length pc) progs (.slice la ll.length lc) ll).length + 0) (by rw [get_behind]; rfl)
  have y0 := cell_blk (i := 0) bY rfl
  have y1 := cell_blk (i := 1) bY rfl
  have f1 := free_blk (i := 1) bY
  have hlY := lt_of_block bY
  have H3 := H.setBlk ((R.set i NilT ++ xsL X Q q res (.slice pa progs.length pc) progs (.slice la ll.length lc) ll).length + 0) (by rw [get_behind]; rfl) 1 (.pointer (some ⟨Q2, 0, none⟩))
  rw [List.set_append_right _ _ (by omega), Nat.add_sub_cancel_left] at H3
  have H3 : St W (w1.setCell ⟨w.heap.size, 1, none⟩ (.pointer (some ⟨Q2, 0, none⟩))) ((R.set i NilT ++ xsL X Q q res (.slice pa progs.length pc) progs (.slice la ll.length lc) ll) ++ [BlkT w.heap.size (xO w.heap.size Q2 res (.slice pa progs.length pc) (.slice la ll.length lc)), XqT Q2 q]) := H3
  have H4 := H3.roAll ([RoT 9 1 (.slice pa progs.length pc) progs.length (sL.cells progs), RoT 41 1 (.slice la ll.length lc) ll.length (tL.cells ll)] ++ ll.map lgR) (fun A hA => by
    rcases List.mem_append.1 hA with h | h
    · refine ⟨List.mem_append_left _ (List.mem_append_right _ (List.mem_append_left _ ?_)), ?_⟩
      · simp only [List.mem_cons, List.not_mem_nil, or_false] at h
        rcases h with rfl | rfl <;> simp
      · simp only [List.mem_cons, List.not_mem_nil, or_false] at h
        rcases h with rfl | rfl <;> exact ⟨_, _, _, _, _, rfl⟩
    · refine ⟨List.mem_append_left _ (List.mem_append_right _ (List.mem_append_right _ h)), ?_⟩
      obtain ⟨x, _, rfl⟩ := List.mem_map.1 h
      exact ⟨_, _, _, _, _, rfl⟩)
  rw [List.append_assoc (R.set i NilT ++ xsL X Q q res (.slice pa progs.length pc) progs (.slice la ll.length lc) ll)] at H4
  have H5 : St W (w1.setCell ⟨w.heap.size, 1, none⟩ (.pointer (some ⟨Q2, 0, none⟩))) ((R.set i NilT ++ xsL X Q q res (.slice pa progs.length pc) progs (.slice la ll.length lc) ll) ++ xsL w.heap.size Q2 q res (.slice pa progs.length pc) progs (.slice la ll.length lc) ll) := H4
  have H6 := H5.xsEnd
  rw [List.append_assoc] at H6
  have H7 : St W (w1.setCell ⟨w.heap.size, 1, none⟩ (.pointer (some ⟨Q2, 0, none⟩))) ((R ++ [XsT w.heap.size ⟨q, res, progs, ll.map (·.1)⟩]).set i NilT ++ xsL X Q q res (.slice pa progs.length pc) progs (.slice la ll.length lc) ll) := by
    rw [List.set_append_left _ _ HS.out.1, List.append_assoc]
    exact H6.perm (List.Perm.append_left _ List.perm_append_comm)
  have H8 := H7.xsBack (by simp; have := HS.out.1; omega)
  rw [List.set_append_left _ _ HS.out.1, HS.out.2] at H8
  have H8 := hid H8
  clear H H3 H4 H5 H6 H7 bY HC c0 c1 c2 c3
  go_wp2_with fail
  go_ret
  exact ⟨w.heap.size, rfl, H8.out⟩
end
end Go.Proofs.YtmgnekjhlfghaaaGreat

/-
  The document's state: with.
-/
namespace Go.Proofs.YtmgnekjhlfghaaaGreat
open Go.RowKit
set_option linter.unusedVariables false
set_option linter.unusedSimpArgs false

theorem gt_set {ll : List (List ByteArray × TS)} {k : Nat} (hk : k < ll.length) (a : Option Addr) (c : Nat) (l : List ByteArray) : (tL.cells ll).set k (.slice a l.length c) = tL.cells (ll.set k (l, ⟨a, c⟩)) := by
  have := tL.set_cell ll k 0 (.slice a l.length c) (l, ⟨a, c⟩) hk (by decide) (by simp [tL])
  rw [show k * tL.sz + 0 = k by show k * 1 + 0 = k; omega] at this
  exact this
section
variable {W : Base} {w : World} {R : List Thing}
set_option maxHeartbeats 1000000 in
theorem st_with (H : St W w R) (a : Option Addr) (c : Nat) (ll : List (List ByteArray × TS)) (hI : In w 1 a ll.length c (tL.at_ ll)) (h8 : ll.length ≤ 8) (k : Nat) (hk : k < ll.length) (ya : Option Addr) (yc : Nat) (y : List ByteArray) :
    Calls Tryz.prog 81 #[.slice a ll.length c, .int .i64 ((k : Int) + 1), .slice ya y.length yc] w fun e w' => ∃ g cap, e = .returned (.slice (some ⟨g, 0, none⟩) ll.length cap) ∧ St W w' (R ++ [RowT 41 1 (.slice (some ⟨g, 0, none⟩) ll.length cap) ll.length (tL.cells (ll.set k (y, ⟨ya, yc⟩)))]) := by
  obtain ⟨i0, hi0, hz0, hz1, hz2⟩ := info_parts info_gt
  have HI := hid (And.intro hi0 (And.intro hz0 (And.intro hz1 hz2)))
  have HIn := hid (hI.fr0 ((Fr.refl [] w).alloc (.cells #[] 41)))
  have hw1 : IntKind.i64.wrap ((k : Int) + 1 - 1) = (k : Int) := by rw [show (k : Int) + 1 - 1 = (k : Int) by omega]; exact IntWalk.i64_in _ (by omega)
  have H1 : St W (w.alloc (.cells #[] 41)) (R ++ [RowT 41 1 (.slice (some ⟨w.heap.size, 0, none⟩) 0 0) 0 []]) :=
    H.new (A := Row1 41 1 (.slice (some ⟨w.heap.size, 0, none⟩) 0 0) 0 []) (F := [w.heap.size]) ((Fr.refl _ _).alloc _) inferInstance ⟨rfl, ⟨by simp, Or.inr ⟨_, _, #[], rfl, Nat.zero_le _, blk_alloc_at _ _ _ rfl, Nat.le_refl _, by decide, by simp, by simp⟩⟩⟩ (by simp)
  have HA := hid (H1.append R.length (e := 41) (size := 1) (n := 0) (v := .slice (some ⟨w.heap.size, 0, none⟩) 0 0) (xs := []) (by simp)).2
  have HK := hid hk
  clear H H1 hI hi0 hz0 hz1 hz2
  go_enter Tryz.func81, Tryz.ntmps81
  go_wp2_with (at_builtin; refine wpList_copied rfl (.tmp 8) (.tmp 9) 42 rfl 41 i0 (.slice none 0 0) 1 24 Tryz.underlying42 HI.out.1 HI.out.2.1 HI.out.2.2.1 HI.out.2.2.2 rfl (by decide) w.heap.size rfl (blk_alloc_at _ _ _ rfl) a ll.length c (tL.at_ ll) rfl HIn.out (fun j _ => tL.at_one _ j) (by omega) ?_)
  intro g cg w1 ho hF1 hg
  rw [show (List.range ll.length).map (tL.at_ ll) = tL.cells ll by have := tL.range ll; rwa [show ll.length * tL.sz = ll.length from Nat.mul_one _] at this] at ho
  have H2 := HA.out _ w1 _ _ ho (by simpa [Value.ownBlock] using hF1) (by simpa [Value.ownBlock] using hg)
  rw [List.set_append_right _ _ (Nat.le_refl _), Nat.sub_self] at H2
  have H2 : St W w1 (R ++ [RowT 41 1 (.slice (some ⟨g, 0, none⟩) ll.length cg) ll.length (tL.cells ll)]) := H2
  have r0 := (ownsRow_cell ho k (gt_get hk)).1
  have r1 := (ownsRow_cell ho k (gt_get hk)).2
  have H3 := H2.setRowCell (g := g) (cap := cg) (e := 41) (size := 1) (n := ll.length) (xs := tL.cells ll) R.length (by simp) k (.slice ya y.length yc)
  rw [List.set_append_right _ _ (Nat.le_refl _), Nat.sub_self, gt_set hk] at H3
  have H3 : St W (w1.setCell ⟨g, k, none⟩ (.slice ya y.length yc)) (R ++ [RowT 41 1 (.slice (some ⟨g, 0, none⟩) ll.length cg) ll.length (tL.cells (ll.set k (y, ⟨ya, yc⟩)))]) := H3
  have H3 := hid H3
  have hk1 : (k : Int) < ll.length := by omega
  have hk0 : (0 : Int) ≤ k := by omega
  clear ho hF1 hg H2 HA hk
  go_wp2_with fail
  go_ret
  exact ⟨g, cg, rfl, H3.out⟩
end
end Go.Proofs.YtmgnekjhlfghaaaGreat

/-
  Whether a call returns that something holds. Of no program.
-/
namespace Go.Proofs.YtmgnekjhlfghaaaGreat
open Go.RowKit
set_option linter.unusedVariables false

theorem bytes_ne {a b : ByteArray} (h : a ≠ b) : (a.toList == b.toList) = false := by
  rw [beq_eq_false_iff_ne]
  intro e
  rw [ByteArray.toList_eq, ByteArray.toList_eq] at e
  apply h
  cases a; cases b
  simp only [ByteArray.mk.injEq]
  exact Array.toList_inj.1 e

/-- It returns whether P holds. -/
def IsB (P : Prop) (e : Ending) : Prop := ∃ z : Bool, e = .returned (.bool z) ∧ (z = true ↔ P)
theorem IsB.no {P : Prop} (h : ¬ P) : IsB P (.returned (.bool false)) := ⟨false, rfl, ⟨fun h => (by cases h), fun k => absurd k h⟩⟩
theorem IsB.yes {P : Prop} (h : P) : IsB P (.returned (.bool true)) := ⟨true, rfl, ⟨fun _ => h, fun _ => rfl⟩⟩

end Go.Proofs.YtmgnekjhlfghaaaGreat

/-
  gafferref08: within, Texts, zero, Check.
-/
namespace Go.Proofs.YtmgnekjhlfghaaaGreat
open Go.RowKit
set_option linter.unusedVariables false
set_option linter.unusedSimpArgs false

theorem within_walk (w : World) (n low high : Int) :
    Calls Tryz.prog 123 #[.int .i64 n, .int .i64 low, .int .i64 high] w fun e w' => e = .returned (.bool (inB n low high)) ∧ w = w' := by
  unfold inB
  by_cases h1 : low ≤ n
  · by_cases h2 : n ≤ high
    · go_enter Tryz.func123, Tryz.ntmps123
      go_wp2
      go_ret
      exact ⟨by simp [h1, h2], rfl⟩
    · go_enter Tryz.func123, Tryz.ntmps123
      go_wp2
      go_ret
      exact ⟨by simp [h1, h2], rfl⟩
  · go_enter Tryz.func123, Tryz.ntmps123
    go_wp2
    go_ret
    exact ⟨by rw [decide_eq_false_iff_not.2 (by omega : ¬ low ≤ n)]; rfl, rfl⟩

theorem rtexts_walk (w : World) (a : Option Addr) (n cap : Nat) (l : List ByteArray) (hl : l.length = n) (h : In w 1 a n cap (sL.at_ l)) :
    Calls Tryz.prog 124 #[.slice a n cap] w fun e w' => e = .returned (.bool (textsB l)) ∧ w = w' := by
  have hm := h.max
  by_cases h1 : n < 1
  · have hz : textsB l = false := by cases hb : textsB l; rfl; have := (textsB_iff.1 hb).1; omega
    rw [hz]
    have h1' : (n : Int) < 1 := by omega
    clear h hz
    go_enter Tryz.func124, Tryz.ntmps124
    go_wp2
    go_ret
    exact ⟨rfl, rfl⟩
  by_cases h8 : 8 < n
  · have hz : textsB l = false := by cases hb : textsB l; rfl; have := (textsB_iff.1 hb).1; omega
    rw [hz]
    have h1' : ¬ (n : Int) < 1 := by omega
    have h2' : (8 : Int) < n := by omega
    clear h hz
    go_enter Tryz.func124, Tryz.ntmps124
    go_wp2
    go_ret
    exact ⟨rfl, rfl⟩
  have h1' : ¬ (n : Int) < 1 := by omega
  have h2' : ¬ (8 : Int) < n := by omega
  have hH := hid h
  have hB := hid (And.intro h1 h8)
  have hL := hid hl
  obtain ⟨Z, hZ⟩ : ∃ Z, textsB l = Z := ⟨_, rfl⟩
  rw [hZ]
  have hZ := hid hZ
  clear h h1 h8 hl
  go_enter Tryz.func124, Tryz.ntmps124
  go_wp2
  go_loopw [3] (fun i wr => ∃ k : Nat, k ≤ n ∧ i = .int .i64 k ∧ (∀ j, j < k → (sL.nth l j).size ≤ 32) ∧ w = wr) (fun i _ => n - (intOf i).toNat)
  case atStart => exact ⟨0, Nat.zero_le _, rfl, fun j hj => absurd hj (Nat.not_lt_zero _), rfl⟩
  case round =>
    obtain ⟨k, hk, rfl, hall, rfl⟩ := hrel
    have HAll := hid hall
    clear hall
    by_cases hlt : k < n
    · obtain ⟨bb, ob, rfl⟩ := hH.out.sm (by omega)
      have c0 := str_cells hH.out k hlt
      by_cases hs : 32 < (sL.nth l k).size
      · have hz : Z = false := by
          rw [← hZ.out]
          cases hb : textsB l
          · rfl
          · have := (textsB_iff.1 hb).2 (sL.nth l k) (sL.mem_nth (by have := hL.out; omega)); omega
        subst hz
        generalize sL.nth l k = x at c0 hs
        go_wp2
        go_ret
        exact ⟨rfl, rfl⟩
      · have HS := hid hs
        have hs' : ((sL.nth l k).size : Int) ≤ 32 := by omega
        generalize hx : sL.nth l k = x at c0 hs hs' HS
        have hx := hid hx
        clear hs
        go_wp2
        go_roundw
        case rel => exact ⟨k + 1, by omega, by go_num, fun j hj => by by_cases hjk : j = k; (subst hjk; rw [hx.out]; have := HS.out; omega); exact HAll.out j (by omega), trivial⟩
        case measure => simp [intOf]; omega
    · have hz : Z = true := by
        rw [← hZ.out]
        refine textsB_iff.2 ⟨by have := hL.out; have := hB.out; omega, fun s hs => ?_⟩
        obtain ⟨k', hk', rfl⟩ := List.getElem_of_mem hs
        have := HAll.out k' (by have := hL.out; omega)
        rwa [show sL.nth l k' = l[k'] from by simp [Lay.nth, List.getD_eq_getElem?_getD, hk']] at this
      subst hz
      go_wp2
      go_ret
      exact ⟨rfl, rfl⟩

/-- Nothing but its kind. -/
def CV.Bare (c : CV) : Prop := c.n = 0 ∧ c.job = 0 ∧ c.badge = 0 ∧ c.slot = 0 ∧ c.life = 0 ∧ c.code = 0 ∧ c.bits = 0 ∧ c.prog.size = 0 ∧ c.texts.length = 0

set_option maxHeartbeats 4000000 in
set_option maxRecDepth 100000 in
theorem zero_walk (w : World) (c : CV) (a : Option Addr) (cap : Nat) (hm : c.texts.length ≤ 9223372036854775807) :
    Calls Tryz.prog 125 #[.agg #[.int .i64 c.kind, .int .i64 c.n, .int .i64 c.job, .int .i64 c.badge, .int .i64 c.slot, .int .i64 c.life, .int .i64 c.code, .int .u64 c.bits, .string c.prog, .slice a c.texts.length cap]] w fun e w' => IsB c.Bare e ∧ Fr [] w w' := by
  obtain ⟨kind, n, job, badge, slot, life, code, bits, prog, texts⟩ := c
  simp only at hm ⊢
  have HF : Fr [] w (w.alloc (.cells #[.int .i64 kind, .int .i64 n, .int .i64 job, .int .i64 badge, .int .i64 slot, .int .i64 life, .int .i64 code, .int .u64 bits, .string prog, .slice a texts.length cap] 80)) := (Fr.refl _ _).alloc _
  have HF := hid HF
  by_cases h0 : n = 0
  case neg =>
    have e0 : (n == 0) = false := by rw [beq_eq_false_iff_ne]; exact h0
    have HN := hid h0
    clear h0
    go_enter Tryz.func125, Tryz.ntmps125
    go_wp2
    all_goals go_ret
    all_goals exact ⟨IsB.no (fun h => absurd h.1 HN.out), HF.out⟩
  subst h0
  by_cases h1 : job = 0
  case neg =>
    have e1 : (job == 0) = false := by rw [beq_eq_false_iff_ne]; exact h1
    have HN := hid h1
    clear h1
    go_enter Tryz.func125, Tryz.ntmps125
    go_wp2
    all_goals go_ret
    all_goals exact ⟨IsB.no (fun h => absurd h.2.1 HN.out), HF.out⟩
  subst h1
  by_cases h2 : badge = 0
  case neg =>
    have e2 : (badge == 0) = false := by rw [beq_eq_false_iff_ne]; exact h2
    have HN := hid h2
    clear h2
    go_enter Tryz.func125, Tryz.ntmps125
    go_wp2
    all_goals go_ret
    all_goals exact ⟨IsB.no (fun h => absurd h.2.2.1 HN.out), HF.out⟩
  subst h2
  by_cases h3 : slot = 0
  case neg =>
    have e3 : (slot == 0) = false := by rw [beq_eq_false_iff_ne]; exact h3
    have HN := hid h3
    clear h3
    go_enter Tryz.func125, Tryz.ntmps125
    go_wp2
    all_goals go_ret
    all_goals exact ⟨IsB.no (fun h => absurd h.2.2.2.1 HN.out), HF.out⟩
  subst h3
  by_cases h4 : life = 0
  case neg =>
    have e4 : (life == 0) = false := by rw [beq_eq_false_iff_ne]; exact h4
    have HN := hid h4
    clear h4
    go_enter Tryz.func125, Tryz.ntmps125
    go_wp2
    all_goals go_ret
    all_goals exact ⟨IsB.no (fun h => absurd h.2.2.2.2.1 HN.out), HF.out⟩
  subst h4
  by_cases h5 : code = 0
  case neg =>
    have e5 : (code == 0) = false := by rw [beq_eq_false_iff_ne]; exact h5
    have HN := hid h5
    go_enter Tryz.func125, Tryz.ntmps125
    go_wp2
    all_goals go_ret
    all_goals exact ⟨IsB.no (fun h => absurd h.2.2.2.2.2.1 HN.out), HF.out⟩
  subst h5
  by_cases h6 : bits = 0
  case neg =>
    have e6 : (bits == 0) = false := by rw [beq_eq_false_iff_ne]; exact h6
    have HN := hid h6
    go_enter Tryz.func125, Tryz.ntmps125
    go_wp2
    all_goals go_ret
    all_goals exact ⟨IsB.no (fun h => absurd h.2.2.2.2.2.2.1 HN.out), HF.out⟩
  subst h6
  by_cases h8 : prog.size = 0
  case neg =>
    have e8 : prog.toList.isEmpty = false := by cases hb : prog.toList.isEmpty; rfl; exact absurd (size0.1 hb) h8
    have HN := hid h8
    clear h8
    go_enter Tryz.func125, Tryz.ntmps125
    go_wp2
    all_goals go_ret
    all_goals exact ⟨IsB.no (fun h => absurd h.2.2.2.2.2.2.2.1 HN.out), HF.out⟩
  have e8 : prog.toList.isEmpty = true := size0.2 h8
  have H8 := hid h8
  clear h8
  by_cases h9 : texts.length = 0
  case neg =>
    have e9 : ((texts.length : Int) == 0) = false := by rw [beq_eq_false_iff_ne]; omega
    have HN := hid h9
    clear h9
    go_enter Tryz.func125, Tryz.ntmps125
    go_wp2
    all_goals go_ret
    all_goals exact ⟨IsB.no (fun h => absurd h.2.2.2.2.2.2.2.2 HN.out), HF.out⟩
  have e9 : ((texts.length : Int) == 0) = true := by rw [beq_iff_eq]; omega
  have H9 := hid h9
  clear h9
  go_enter Tryz.func125, Tryz.ntmps125
  go_wp2
  all_goals go_ret
  all_goals exact ⟨IsB.yes ⟨rfl, rfl, rfl, rfl, rfl, rfl, rfl, H8.out, H9.out⟩, HF.out⟩

end Go.Proofs.YtmgnekjhlfghaaaGreat

/-
  gafferref08: Check.
-/
namespace Go.Proofs.YtmgnekjhlfghaaaGreat
open Go.RowKit
set_option linter.unusedVariables false
set_option linter.unusedSimpArgs false

theorem ck1 {c : CV} (hk : c.kind = 1) : c.check = 0 ↔ (inB c.n 1 1099511627776 = true) ∧ CV.Bare { c with n := 0 } := by
  have hp : (⟨#[]⟩ : ByteArray).size = 0 := rfl
  have hl : ([] : List ByteArray).length = 0 := rfl
  rw [check_iff, hk]
  simp only [show hasL 1 110 = true from by decide, show hasL 1 106 = false from by decide, show hasL 1 112 = false from by decide, show hasL 1 98 = false from by decide, show hasL 1 115 = false from by decide, show hasL 1 116 = false from by decide, show hasL 1 114 = false from by decide, if_true, true_and, and_true, Bool.false_eq_true, if_false, CV.Bare, inB_iff, textsB_iff, Bool.or_eq_true, beq_iff_eq, hp, hl]
  omega
theorem ck2 {c : CV} (hk : c.kind = 2) : c.check = 0 ↔ (inB c.job 1 8 = true ∧ inB c.prog.size 1 1024 = true) ∧ CV.Bare { c with job := 0, prog := ⟨#[]⟩ } := by
  have hp : (⟨#[]⟩ : ByteArray).size = 0 := rfl
  have hl : ([] : List ByteArray).length = 0 := rfl
  rw [check_iff, hk]
  simp only [show hasL 2 110 = false from by decide, show hasL 2 106 = true from by decide, show hasL 2 112 = true from by decide, show hasL 2 98 = false from by decide, show hasL 2 115 = false from by decide, show hasL 2 116 = false from by decide, show hasL 2 114 = false from by decide, if_true, true_and, and_true, Bool.false_eq_true, if_false, CV.Bare, inB_iff, textsB_iff, Bool.or_eq_true, beq_iff_eq, hp, hl]
  omega
theorem ck3 {c : CV} (hk : c.kind = 3) : c.check = 0 ↔ (inB c.job 1 8 = true ∧ inB c.badge 1 1099511627776 = true ∧ inB c.slot 0 7 = true ∧ inB c.life 1 1099511627776 = true) ∧ CV.Bare { c with job := 0, badge := 0, slot := 0, life := 0 } := by
  have hp : (⟨#[]⟩ : ByteArray).size = 0 := rfl
  have hl : ([] : List ByteArray).length = 0 := rfl
  rw [check_iff, hk]
  simp only [show hasL 3 110 = false from by decide, show hasL 3 106 = true from by decide, show hasL 3 112 = false from by decide, show hasL 3 98 = true from by decide, show hasL 3 115 = true from by decide, show hasL 3 116 = false from by decide, show hasL 3 114 = false from by decide, if_true, true_and, and_true, Bool.false_eq_true, if_false, CV.Bare, inB_iff, textsB_iff, Bool.or_eq_true, beq_iff_eq, hp, hl]
  omega
theorem ck4 {c : CV} (hk : c.kind = 4) : c.check = 0 ↔ (inB c.badge 1 1099511627776 = true ∧ textsB c.texts = true) ∧ CV.Bare { c with badge := 0, texts := [] } := by
  have hp : (⟨#[]⟩ : ByteArray).size = 0 := rfl
  have hl : ([] : List ByteArray).length = 0 := rfl
  rw [check_iff, hk]
  simp only [show hasL 4 110 = false from by decide, show hasL 4 106 = false from by decide, show hasL 4 112 = false from by decide, show hasL 4 98 = true from by decide, show hasL 4 115 = false from by decide, show hasL 4 116 = true from by decide, show hasL 4 114 = false from by decide, if_true, true_and, and_true, Bool.false_eq_true, if_false, CV.Bare, inB_iff, textsB_iff, Bool.or_eq_true, beq_iff_eq, hp, hl]
  constructor
  · rintro ⟨_, g1, g2, g3, g4, g5, g6, g7⟩
    exact ⟨⟨g4, g6⟩, by omega⟩
  · rintro ⟨⟨g4, g6⟩, g⟩
    exact ⟨by omega, by omega, by omega, by omega, g4, by omega, g6, by omega⟩
theorem ck5 {c : CV} (hk : c.kind = 5) : c.check = 0 ↔ (inB c.badge 1 1099511627776 = true) ∧ CV.Bare { c with badge := 0 } := by
  have hp : (⟨#[]⟩ : ByteArray).size = 0 := rfl
  have hl : ([] : List ByteArray).length = 0 := rfl
  rw [check_iff, hk]
  simp only [show hasL 5 110 = false from by decide, show hasL 5 106 = false from by decide, show hasL 5 112 = false from by decide, show hasL 5 98 = true from by decide, show hasL 5 115 = false from by decide, show hasL 5 116 = false from by decide, show hasL 5 114 = false from by decide, if_true, true_and, and_true, Bool.false_eq_true, if_false, CV.Bare, inB_iff, textsB_iff, Bool.or_eq_true, beq_iff_eq, hp, hl]
  omega
theorem ck6 {c : CV} (hk : c.kind = 6) : c.check = 0 ↔ (inB c.badge 1 1099511627776 = true ∧ inB c.code 0 7 = true ∧ ((c.code == 0) || (c.bits == 0)) = true) ∧ CV.Bare { c with badge := 0, code := 0, bits := 0 } := by
  have hp : (⟨#[]⟩ : ByteArray).size = 0 := rfl
  have hl : ([] : List ByteArray).length = 0 := rfl
  rw [check_iff, hk]
  simp only [show hasL 6 110 = false from by decide, show hasL 6 106 = false from by decide, show hasL 6 112 = false from by decide, show hasL 6 98 = true from by decide, show hasL 6 115 = false from by decide, show hasL 6 116 = false from by decide, show hasL 6 114 = true from by decide, if_true, true_and, and_true, Bool.false_eq_true, if_false, CV.Bare, inB_iff, textsB_iff, Bool.or_eq_true, beq_iff_eq, hp, hl]
  omega

theorem check_vals (c : CV) : (c.check = 80 ∧ (c.kind < 1 ∨ 6 < c.kind)) ∨ (c.check = 81 ∧ 1 ≤ c.kind ∧ c.kind ≤ 6) ∨ c.check = 0 ∧ 1 ≤ c.kind ∧ c.kind ≤ 6 := by
  unfold CV.check
  cases h : inB c.kind 1 6
  · left
    refine ⟨by simp, ?_⟩
    have : ¬ (1 ≤ c.kind ∧ c.kind ≤ 6) := fun h2 => by rw [inB_iff.2 h2] at h; cases h
    omega
  · right
    have := inB_iff.1 h
    rw [if_pos rfl]
    split
    · exact .inr ⟨rfl, this⟩
    · exact .inl ⟨rfl, this⟩

theorem val81 {c : CV} (h1 : 1 ≤ c.kind) (h6 : c.kind ≤ 6) (h : ¬ c.check = 0) : c.check = 81 := by
  have := check_vals c
  omega

set_option maxHeartbeats 4000000 in
set_option maxRecDepth 100000 in
theorem rcheck_walk (w : World) (c : CV) (t : TS) (ht : In w 1 t.a c.texts.length t.c (sL.at_ c.texts)) :
    Calls Tryz.prog 78 #[.agg (c.f t).toArray] w fun e w' => e = .returned (.int .i64 c.check) ∧ Fr [] w w' := by
  have hm := ht.max
  obtain ⟨Z, hZ⟩ : ∃ Z, c.check = Z := ⟨_, rfl⟩
  rw [hZ]
  have hv := check_vals c
  rw [hZ] at hv
  have hc1 := fun h => ck1 (c := c) h
  rw [hZ] at hc1
  have hc2 := fun h => ck2 (c := c) h
  rw [hZ] at hc2
  have hc3 := fun h => ck3 (c := c) h
  rw [hZ] at hc3
  have hc4 := fun h => ck4 (c := c) h
  rw [hZ] at hc4
  have hc5 := fun h => ck5 (c := c) h
  rw [hZ] at hc5
  have hc6 := fun h => ck6 (c := c) h
  rw [hZ] at hc6
  obtain ⟨kind, n, job, badge, slot, life, code, bits, prog, texts⟩ := c
  obtain ⟨ta, tc⟩ := t
  simp only at ht hm hv hc1 hc2 hc3 hc4 hc5 hc6
  have hT := hid ht
  clear hZ ht
  show Calls _ _ #[.agg #[.int .i64 kind, .int .i64 n, .int .i64 job, .int .i64 badge, .int .i64 slot, .int .i64 life, .int .i64 code, .int .u64 bits, .string prog, .slice ta texts.length tc]] _ _
  by_cases hk : ¬ (1 ≤ kind ∧ kind ≤ 6)
  · have hz : Z = 80 := by omega
    subst hz
    have n1 : (kind == 1) = false := by rw [beq_eq_false_iff_ne]; omega
    have n2 : (kind == 2) = false := by rw [beq_eq_false_iff_ne]; omega
    have n3 : (kind == 3) = false := by rw [beq_eq_false_iff_ne]; omega
    have n4 : (kind == 4) = false := by rw [beq_eq_false_iff_ne]; omega
    have n5 : (kind == 5) = false := by rw [beq_eq_false_iff_ne]; omega
    have n6 : (kind == 6) = false := by rw [beq_eq_false_iff_ne]; omega
    clear hv hc1 hc2 hc3 hc4 hc5 hc6 hk
    go_enter Tryz.func78, Tryz.ntmps78
    go_wp2_with fail
    go_ret
    exact ⟨rfl, ((Fr.refl _ _).alloc _).alloc _⟩
  have hk : kind = 1 ∨ kind = 2 ∨ kind = 3 ∨ kind = 4 ∨ kind = 5 ∨ kind = 6 := by omega
  rcases hk with rfl | rfl | rfl | rfl | rfl | rfl
  · have HV := hid (show ¬ Z = 0 → Z = 81 from fun h => by omega)
    have HC := hid (hc1 rfl)
    clear hv hc1 hc2 hc3 hc4 hc5 hc6 hk
    rcases q0 : inB n 1 1099511627776 with _ | _
    · have HN := hid (show ¬ Z = 0 from fun h => by have h1 := (HC.out.1 h).1; simp [q0] at h1)
      have hz := HV.out HN.out
      subst hz
      go_enter Tryz.func78, Tryz.ntmps78
      go_wp2_with (first
        | (go_at_call 123; refine (within_walk _ _ _ _).mono ?_; rintro e w1 ⟨rfl, rfl⟩))
      all_goals go_ret
      all_goals exact ⟨rfl, ((Fr.refl _ _).alloc _).alloc _⟩
    have HO := hid (q0)
    go_enter Tryz.func78, Tryz.ntmps78
    go_wp2_with (first
      | (go_at_call 123; refine (within_walk _ _ _ _).mono ?_; rintro e w1 ⟨rfl, rfl⟩))
    refine (zero_walk _ ⟨1, 0, job, badge, slot, life, code, bits, prog, texts⟩ ta tc hm).mono ?_
    rintro e w1 ⟨⟨z, rfl, hz⟩, hF⟩
    have HZ := hid hz
    have hF1 := hid hF
    clear hz hF
    cases z
    · have hz := HV.out (fun h => absurd (HZ.out.2 (HC.out.1 h).2) (by decide))
      subst hz
      go_wp2_with fail
      go_ret
      exact ⟨rfl, (((Fr.refl _ _).alloc _).alloc _).trans hF1.out⟩
    · have hz := HC.out.2 ⟨HO.out, HZ.out.1 rfl⟩
      subst hz
      go_wp2_with fail
      go_ret
      exact ⟨rfl, (((Fr.refl _ _).alloc _).alloc _).trans hF1.out⟩
  · have HV := hid (show ¬ Z = 0 → Z = 81 from fun h => by omega)
    have HC := hid (hc2 rfl)
    clear hv hc1 hc2 hc3 hc4 hc5 hc6 hk
    rcases q0 : inB job 1 8 with _ | _
    · have HN := hid (show ¬ Z = 0 from fun h => by have h1 := (HC.out.1 h).1; simp [q0] at h1)
      have hz := HV.out HN.out
      subst hz
      go_enter Tryz.func78, Tryz.ntmps78
      go_wp2_with (first
        | (go_at_call 123; refine (within_walk _ _ _ _).mono ?_; rintro e w1 ⟨rfl, rfl⟩))
      all_goals go_ret
      all_goals exact ⟨rfl, ((Fr.refl _ _).alloc _).alloc _⟩
    rcases q1 : inB (prog.size : Int) 1 1024 with _ | _
    · have HN := hid (show ¬ Z = 0 from fun h => by have h1 := (HC.out.1 h).1; simp [q1] at h1)
      have hz := HV.out HN.out
      subst hz
      go_enter Tryz.func78, Tryz.ntmps78
      go_wp2_with (first
        | (go_at_call 123; refine (within_walk _ _ _ _).mono ?_; rintro e w1 ⟨rfl, rfl⟩))
      all_goals go_ret
      all_goals exact ⟨rfl, ((Fr.refl _ _).alloc _).alloc _⟩
    have HO := hid (And.intro q0 (q1))
    go_enter Tryz.func78, Tryz.ntmps78
    go_wp2_with (first
      | (go_at_call 123; refine (within_walk _ _ _ _).mono ?_; rintro e w1 ⟨rfl, rfl⟩))
    refine (zero_walk _ ⟨2, n, 0, badge, slot, life, code, bits, ⟨#[]⟩, texts⟩ ta tc hm).mono ?_
    rintro e w1 ⟨⟨z, rfl, hz⟩, hF⟩
    have HZ := hid hz
    have hF1 := hid hF
    clear hz hF
    cases z
    · have hz := HV.out (fun h => absurd (HZ.out.2 (HC.out.1 h).2) (by decide))
      subst hz
      go_wp2_with fail
      go_ret
      exact ⟨rfl, (((Fr.refl _ _).alloc _).alloc _).trans hF1.out⟩
    · have hz := HC.out.2 ⟨HO.out, HZ.out.1 rfl⟩
      subst hz
      go_wp2_with fail
      go_ret
      exact ⟨rfl, (((Fr.refl _ _).alloc _).alloc _).trans hF1.out⟩
  · have HV := hid (show ¬ Z = 0 → Z = 81 from fun h => by omega)
    have HC := hid (hc3 rfl)
    clear hv hc1 hc2 hc3 hc4 hc5 hc6 hk
    rcases q0 : inB job 1 8 with _ | _
    · have HN := hid (show ¬ Z = 0 from fun h => by have h1 := (HC.out.1 h).1; simp [q0] at h1)
      have hz := HV.out HN.out
      subst hz
      go_enter Tryz.func78, Tryz.ntmps78
      go_wp2_with (first
        | (go_at_call 123; refine (within_walk _ _ _ _).mono ?_; rintro e w1 ⟨rfl, rfl⟩))
      all_goals go_ret
      all_goals exact ⟨rfl, ((Fr.refl _ _).alloc _).alloc _⟩
    rcases q1 : inB badge 1 1099511627776 with _ | _
    · have HN := hid (show ¬ Z = 0 from fun h => by have h1 := (HC.out.1 h).1; simp [q1] at h1)
      have hz := HV.out HN.out
      subst hz
      go_enter Tryz.func78, Tryz.ntmps78
      go_wp2_with (first
        | (go_at_call 123; refine (within_walk _ _ _ _).mono ?_; rintro e w1 ⟨rfl, rfl⟩))
      all_goals go_ret
      all_goals exact ⟨rfl, ((Fr.refl _ _).alloc _).alloc _⟩
    rcases q2 : inB slot 0 7 with _ | _
    · have HN := hid (show ¬ Z = 0 from fun h => by have h1 := (HC.out.1 h).1; simp [q2] at h1)
      have hz := HV.out HN.out
      subst hz
      go_enter Tryz.func78, Tryz.ntmps78
      go_wp2_with (first
        | (go_at_call 123; refine (within_walk _ _ _ _).mono ?_; rintro e w1 ⟨rfl, rfl⟩))
      all_goals go_ret
      all_goals exact ⟨rfl, ((Fr.refl _ _).alloc _).alloc _⟩
    rcases q3 : inB life 1 1099511627776 with _ | _
    · have HN := hid (show ¬ Z = 0 from fun h => by have h1 := (HC.out.1 h).1; simp [q3] at h1)
      have hz := HV.out HN.out
      subst hz
      go_enter Tryz.func78, Tryz.ntmps78
      go_wp2_with (first
        | (go_at_call 123; refine (within_walk _ _ _ _).mono ?_; rintro e w1 ⟨rfl, rfl⟩))
      all_goals go_ret
      all_goals exact ⟨rfl, ((Fr.refl _ _).alloc _).alloc _⟩
    have HO := hid (And.intro q0 (And.intro q1 (And.intro q2 (q3))))
    go_enter Tryz.func78, Tryz.ntmps78
    go_wp2_with (first
      | (go_at_call 123; refine (within_walk _ _ _ _).mono ?_; rintro e w1 ⟨rfl, rfl⟩))
    refine (zero_walk _ ⟨3, n, 0, 0, 0, 0, code, bits, prog, texts⟩ ta tc hm).mono ?_
    rintro e w1 ⟨⟨z, rfl, hz⟩, hF⟩
    have HZ := hid hz
    have hF1 := hid hF
    clear hz hF
    cases z
    · have hz := HV.out (fun h => absurd (HZ.out.2 (HC.out.1 h).2) (by decide))
      subst hz
      go_wp2_with fail
      go_ret
      exact ⟨rfl, (((Fr.refl _ _).alloc _).alloc _).trans hF1.out⟩
    · have hz := HC.out.2 ⟨HO.out, HZ.out.1 rfl⟩
      subst hz
      go_wp2_with fail
      go_ret
      exact ⟨rfl, (((Fr.refl _ _).alloc _).alloc _).trans hF1.out⟩
  · have HV := hid (show ¬ Z = 0 → Z = 81 from fun h => by omega)
    have HC := hid (hc4 rfl)
    clear hv hc1 hc2 hc3 hc4 hc5 hc6 hk
    rcases q0 : inB badge 1 1099511627776 with _ | _
    · have HN := hid (show ¬ Z = 0 from fun h => by have h1 := (HC.out.1 h).1; simp [q0] at h1)
      have hz := HV.out HN.out
      subst hz
      go_enter Tryz.func78, Tryz.ntmps78
      go_wp2_with (first
        | (go_at_call 123; refine (within_walk _ _ _ _).mono ?_; rintro e w1 ⟨rfl, rfl⟩)
        | (go_at_call 124; refine (rtexts_walk _ _ _ _ texts rfl (hT.out.fr0 (((Fr.refl _ _).alloc _).alloc _))).mono ?_; rintro e w1 ⟨rfl, rfl⟩))
      all_goals go_ret
      all_goals exact ⟨rfl, ((Fr.refl _ _).alloc _).alloc _⟩
    rcases q1 : textsB texts with _ | _
    · have HN := hid (show ¬ Z = 0 from fun h => by have h1 := (HC.out.1 h).1; simp [q1] at h1)
      have hz := HV.out HN.out
      subst hz
      go_enter Tryz.func78, Tryz.ntmps78
      go_wp2_with (first
        | (go_at_call 123; refine (within_walk _ _ _ _).mono ?_; rintro e w1 ⟨rfl, rfl⟩)
        | (go_at_call 124; refine (rtexts_walk _ _ _ _ texts rfl (hT.out.fr0 (((Fr.refl _ _).alloc _).alloc _))).mono ?_; rintro e w1 ⟨rfl, rfl⟩))
      all_goals go_ret
      all_goals exact ⟨rfl, ((Fr.refl _ _).alloc _).alloc _⟩
    have HO := hid (And.intro q0 (q1))
    go_enter Tryz.func78, Tryz.ntmps78
    go_wp2_with (first
      | (go_at_call 123; refine (within_walk _ _ _ _).mono ?_; rintro e w1 ⟨rfl, rfl⟩)
      | (go_at_call 124; refine (rtexts_walk _ _ _ _ texts rfl (hT.out.fr0 (((Fr.refl _ _).alloc _).alloc _))).mono ?_; rintro e w1 ⟨rfl, rfl⟩))
    refine (zero_walk _ ⟨4, n, job, 0, slot, life, code, bits, prog, []⟩ none 0 (Nat.zero_le _)).mono ?_
    rintro e w1 ⟨⟨z, rfl, hz⟩, hF⟩
    have HZ := hid hz
    have hF1 := hid hF
    clear hz hF
    cases z
    · have hz := HV.out (fun h => absurd (HZ.out.2 (HC.out.1 h).2) (by decide))
      subst hz
      go_wp2_with fail
      go_ret
      exact ⟨rfl, (((Fr.refl _ _).alloc _).alloc _).trans hF1.out⟩
    · have hz := HC.out.2 ⟨HO.out, HZ.out.1 rfl⟩
      subst hz
      go_wp2_with fail
      go_ret
      exact ⟨rfl, (((Fr.refl _ _).alloc _).alloc _).trans hF1.out⟩
  · have HV := hid (show ¬ Z = 0 → Z = 81 from fun h => by omega)
    have HC := hid (hc5 rfl)
    clear hv hc1 hc2 hc3 hc4 hc5 hc6 hk
    rcases q0 : inB badge 1 1099511627776 with _ | _
    · have HN := hid (show ¬ Z = 0 from fun h => by have h1 := (HC.out.1 h).1; simp [q0] at h1)
      have hz := HV.out HN.out
      subst hz
      go_enter Tryz.func78, Tryz.ntmps78
      go_wp2_with (first
        | (go_at_call 123; refine (within_walk _ _ _ _).mono ?_; rintro e w1 ⟨rfl, rfl⟩))
      all_goals go_ret
      all_goals exact ⟨rfl, ((Fr.refl _ _).alloc _).alloc _⟩
    have HO := hid (q0)
    go_enter Tryz.func78, Tryz.ntmps78
    go_wp2_with (first
      | (go_at_call 123; refine (within_walk _ _ _ _).mono ?_; rintro e w1 ⟨rfl, rfl⟩))
    refine (zero_walk _ ⟨5, n, job, 0, slot, life, code, bits, prog, texts⟩ ta tc hm).mono ?_
    rintro e w1 ⟨⟨z, rfl, hz⟩, hF⟩
    have HZ := hid hz
    have hF1 := hid hF
    clear hz hF
    cases z
    · have hz := HV.out (fun h => absurd (HZ.out.2 (HC.out.1 h).2) (by decide))
      subst hz
      go_wp2_with fail
      go_ret
      exact ⟨rfl, (((Fr.refl _ _).alloc _).alloc _).trans hF1.out⟩
    · have hz := HC.out.2 ⟨HO.out, HZ.out.1 rfl⟩
      subst hz
      go_wp2_with fail
      go_ret
      exact ⟨rfl, (((Fr.refl _ _).alloc _).alloc _).trans hF1.out⟩
  · have HV := hid (show ¬ Z = 0 → Z = 81 from fun h => by omega)
    have HC := hid (hc6 rfl)
    clear hv hc1 hc2 hc3 hc4 hc5 hc6 hk
    rcases q0 : inB badge 1 1099511627776 with _ | _
    · have HN := hid (show ¬ Z = 0 from fun h => by have h1 := (HC.out.1 h).1; simp [q0] at h1)
      have hz := HV.out HN.out
      subst hz
      go_enter Tryz.func78, Tryz.ntmps78
      go_wp2_with (first
        | (go_at_call 123; refine (within_walk _ _ _ _).mono ?_; rintro e w1 ⟨rfl, rfl⟩))
      all_goals go_ret
      all_goals exact ⟨rfl, ((Fr.refl _ _).alloc _).alloc _⟩
    rcases q1 : inB code 0 7 with _ | _
    · have HN := hid (show ¬ Z = 0 from fun h => by have h1 := (HC.out.1 h).1; simp [q1] at h1)
      have hz := HV.out HN.out
      subst hz
      go_enter Tryz.func78, Tryz.ntmps78
      go_wp2_with (first
        | (go_at_call 123; refine (within_walk _ _ _ _).mono ?_; rintro e w1 ⟨rfl, rfl⟩))
      all_goals go_ret
      all_goals exact ⟨rfl, ((Fr.refl _ _).alloc _).alloc _⟩
    rcases q2 : (code == 0) with _ | _
    · rcases q3 : (bits == 0) with _ | _
      · have HN := hid (show ¬ Z = 0 from fun h => by have h1 := (HC.out.1 h).1; simp [q2, q3] at h1)
        have hz := HV.out HN.out
        subst hz
        go_enter Tryz.func78, Tryz.ntmps78
        go_wp2_with (first
          | (go_at_call 123; refine (within_walk _ _ _ _).mono ?_; rintro e w1 ⟨rfl, rfl⟩))
        all_goals go_ret
        all_goals exact ⟨rfl, ((Fr.refl _ _).alloc _).alloc _⟩
      · have HO := hid (show _ from And.intro q0 (And.intro q1 (show ((code == 0) || (bits == 0)) = true by rw [q3]; simp)))
        go_enter Tryz.func78, Tryz.ntmps78
        go_wp2_with (first
          | (go_at_call 123; refine (within_walk _ _ _ _).mono ?_; rintro e w1 ⟨rfl, rfl⟩))
        refine (zero_walk _ ⟨6, n, job, 0, slot, life, 0, 0, prog, texts⟩ ta tc hm).mono ?_
        rintro e w1 ⟨⟨z, rfl, hz⟩, hF⟩
        have HZ := hid hz
        have hF1 := hid hF
        clear hz hF
        cases z
        · have hz := HV.out (fun h => absurd (HZ.out.2 (HC.out.1 h).2) (by decide))
          subst hz
          go_wp2_with fail
          go_ret
          exact ⟨rfl, (((Fr.refl _ _).alloc _).alloc _).trans hF1.out⟩
        · have hz := HC.out.2 ⟨HO.out, HZ.out.1 rfl⟩
          subst hz
          go_wp2_with fail
          go_ret
          exact ⟨rfl, (((Fr.refl _ _).alloc _).alloc _).trans hF1.out⟩
    · have HO := hid (show _ from And.intro q0 (And.intro q1 (show ((code == 0) || (bits == 0)) = true by rw [q2]; simp)))
      go_enter Tryz.func78, Tryz.ntmps78
      go_wp2_with (first
        | (go_at_call 123; refine (within_walk _ _ _ _).mono ?_; rintro e w1 ⟨rfl, rfl⟩))
      refine (zero_walk _ ⟨6, n, job, 0, slot, life, 0, 0, prog, texts⟩ ta tc hm).mono ?_
      rintro e w1 ⟨⟨z, rfl, hz⟩, hF⟩
      have HZ := hid hz
      have hF1 := hid hF
      clear hz hF
      cases z
      · have hz := HV.out (fun h => absurd (HZ.out.2 (HC.out.1 h).2) (by decide))
        subst hz
        go_wp2_with fail
        go_ret
        exact ⟨rfl, (((Fr.refl _ _).alloc _).alloc _).trans hF1.out⟩
      · have hz := HC.out.2 ⟨HO.out, HZ.out.1 rfl⟩
        subst hz
        go_wp2_with fail
        go_ret
        exact ⟨rfl, (((Fr.refl _ _).alloc _).alloc _).trans hF1.out⟩

end Go.Proofs.YtmgnekjhlfghaaaGreat

/-
  The document's state: one change (one): what is refused, a reserve, an expiry, a settling.
-/
namespace Go.Proofs.YtmgnekjhlfghaaaGreat
open Go.RowKit
set_option linter.unusedVariables false
set_option linter.unusedSimpArgs false

section
variable {W : Base} {w : World} {R : List Thing}
/-- What a change comes to. -/
def XDoTo (W : Base) (R : List Thing) (i X : Nat) (o : Option SV) (e : Ending) (w' : World) : Prop :=
  ∃ v', e = .returned (.bool o.isSome) ∧ St W w' (R.set i (XsT X v')) ∧ ∀ u, o = some u → v' = u
theorem XDoTo.no {i X : Nat} {o : Option SV} {w' : World} {v : SV} (h : o = none) (H : St W w' (R.set i (XsT X v))) : XDoTo W R i X o (.returned (.bool false)) w' := by
  subst h; exact ⟨v, rfl, H, fun u hu => by cases hu⟩
theorem XDoTo.yes {i X : Nat} {o : Option SV} {w' : World} {v : SV} (h : o = some v) (H : St W w' (R.set i (XsT X v))) : XDoTo W R i X o (.returned (.bool true)) w' := by
  subst h; exact ⟨v, rfl, H, fun u hu => by cases hu; rfl⟩
theorem XDoTo.of {i X : Nat} {o : Option SV} {w' : World} {v : SV} {z : Bool} (hz : o.isSome = z) (H : St W w' (R.set i (XsT X v))) (h : ∀ u, o = some u → v = u) : XDoTo W R i X o (.returned (.bool z)) w' := by
  subst hz; exact ⟨v, rfl, H, h⟩
set_option maxHeartbeats 2000000 in
set_option maxRecDepth 100000 in
theorem st_tone_no (H : St W w R) (i : Nat) {X : Nat} {v : SV} (hi : R[i]? = some (XsT X v)) (c : CV) (t : TS) (ht : In w 1 t.a c.texts.length t.c (sL.at_ c.texts)) (hc : ¬ c.check = 0) :
    Calls Tryz.prog 29 #[.pointer (some ⟨X, 0, none⟩), .agg (c.f t).toArray] w (XDoTo W R i X (v.one c)) := by
  have hil := lt_of_get hi
  have hself : R.set i (XsT X v) = R := things_set_self hi
  have hno : v.one c = none := by unfold SV.one; rw [if_neg hc]
  rw [hno]
  have HT := hid (rcheck_walk (w.alloc (chO c t)) c t (ht.fr0 ((Fr.refl _ _).alloc _)))
  have HH := hid (And.intro H hself)
  have e1 : (c.check == 0) = false := by rw [beq_eq_false_iff_ne]; exact hc
  have e2 : (c.check != 0) = true := by simp [bne, e1]
  obtain ⟨Z, hZ⟩ : ∃ Z, c.check = Z := ⟨_, rfl⟩
  rw [hZ] at e1 e2
  simp only [hZ] at HT
  clear H hi hself hno hc hZ ht
  go_enter Tryz.func29, Tryz.ntmps29
  unfold CV.f at HT ⊢
  go_wp2_with fail
  refine HT.out.mono ?_
  rintro e w1 ⟨rfl, hF⟩
  have HF := hid hF
  clear hF HT
  go_wp2_with fail
  go_ret
  exact XDoTo.no rfl (v := v) (by rw [HH.out.2]; exact (HH.out.1.alloc_ _).same HF.out)
set_option maxHeartbeats 2000000 in
set_option maxRecDepth 100000 in
theorem st_tone_reserve (H : St W w R) (i : Nat) {X : Nat} {v : SV} (hi : R[i]? = some (XsT X v)) (c : CV) (t : TS) (ht : In w 1 t.a c.texts.length t.c (sL.at_ c.texts)) (hc : c.check = 0) (hk : c.kind = 1) :
    Calls Tryz.prog 29 #[.pointer (some ⟨X, 0, none⟩), .agg (c.f t).toArray] w (XDoTo W R i X (v.reserve c.n)) := by
  obtain ⟨Z, hZ⟩ : ∃ Z, v.reserve c.n = Z := ⟨_, rfl⟩
  rw [hZ]
  have hil := lt_of_get hi
  obtain ⟨Q, pv, lv, ll, hll, H1⟩ := H.xs i hi
  obtain ⟨q, res, progs, logs⟩ := v
  obtain ⟨kind, n, job, badge, slot, life, code, bits, prog, texts⟩ := c
  simp only at hll H1 hk
  subst hll hk
  have H2 := H1.alloc (chO ⟨1, n, job, badge, slot, life, code, bits, prog, texts⟩ t)
  have HT := rcheck_walk (w.alloc (chO ⟨1, n, job, badge, slot, life, code, bits, prog, texts⟩ t)) ⟨1, n, job, badge, slot, life, code, bits, prog, texts⟩ t (ht.fr0 ((Fr.refl _ _).alloc _))
  rw [hc] at HT
  have HT := hid HT
  have H2 := hid H2
  have HL := hid hil
  clear H hi ht H1 hil hc
  go_enter Tryz.func29, Tryz.ntmps29
  unfold CV.f at HT ⊢
  go_wp2_with fail
  refine HT.out.mono ?_
  rintro e w1 ⟨rfl, hF⟩
  have H3 := H2.out.same hF
  have bX := H3.blk ((R.set i NilT).length + 0) (by rw [List.append_assoc, get_behind]; rfl)
  have bC := H3.blk ((R.set i NilT ++ xsL X Q q res pv progs lv ll).length + 0) (by rw [get_behind]; rfl)
  have x0 := cell_blk (i := 0) bX rfl
  have x1 := cell_blk (i := 1) bX rfl
  have hlX := lt_of_block bX
  have k0 := cell_blk (i := 0) bC rfl
  have hlC := lt_of_block bC
  clear hF HT H2
  have hz : (if n ≤ res then none else some ⟨q, n, progs, ll.map (·.1)⟩) = Z := hZ
  have HZ := hid hz
  have k1 := cell_blk (i := 1) bC rfl
  have f0 := free_blk (i := 0) bX
  clear hz hZ
  have HH := hid H3
  clear H3 bX bC
  by_cases h : n ≤ res
  · have hd : decide (n ≤ res) = true := decide_eq_true h
    go_wp2_with fail
    go_quiet (fail)
    go_wp2_with fail
    go_ret
    exact XDoTo.no (by rw [← HZ.out, if_pos h]) (St.xsBack HL.out (HH.out.drewN _).drop)
  · have hd : decide (n ≤ res) = false := decide_eq_false h
    go_wp2_with fail
    go_quiet (fail)
    go_wp2_with fail
    go_ret
    have H4 := (HH.out.drewN nq).drop.setBlk ((R.set i NilT).length + 0) (by rw [get_behind]; rfl) 0 (.int .i64 n)
    rw [List.set_append_right _ _ (by omega), Nat.add_sub_cancel_left] at H4
    exact XDoTo.yes (by rw [← HZ.out, if_neg (by omega)]) (St.xsBack HL.out H4)
theorem xs_setQ {A T : List Thing} {X Q : Nat} {q q' : QS} {res : Int} {pv lv : Value} {progs : List ByteArray} {ll : List (List ByteArray × TS)} :
    ((A ++ xsL X Q q res pv progs lv ll) ++ T).set (A.length + 1) (XqT Q q') = (A ++ xsL X Q q' res pv progs lv ll) ++ T := by
  rw [List.append_assoc, List.set_append_right _ _ (by omega), Nat.add_sub_cancel_left, List.append_assoc]; rfl
set_option maxHeartbeats 2000000 in
set_option maxRecDepth 100000 in
theorem st_tone_expire (H : St W w R) (i : Nat) {X : Nat} {v : SV} (hi : R[i]? = some (XsT X v)) (hv : v.wf) (c : CV) (t : TS) (ht : In w 1 t.a c.texts.length t.c (sL.at_ c.texts)) (hc : c.check = 0) (hk : c.kind = 5) :
    Calls Tryz.prog 29 #[.pointer (some ⟨X, 0, none⟩), .agg (c.f t).toArray] w (XDoTo W R i X (v.expire c.badge)) := by
  have hq := hid hv.q
  obtain ⟨Z, hZ⟩ : ∃ Z, v.expire c.badge = Z := ⟨_, rfl⟩
  rw [hZ]
  clear hv
  have hil := lt_of_get hi
  obtain ⟨Q, pv, lv, ll, hll, H1⟩ := H.xs i hi
  obtain ⟨q, res, progs, logs⟩ := v
  obtain ⟨kind, n, job, badge, slot, life, code, bits, prog, texts⟩ := c
  simp only at hll H1 hk
  subst hll hk
  have H2 := H1.alloc (chO ⟨5, n, job, badge, slot, life, code, bits, prog, texts⟩ t)
  have HT := rcheck_walk (w.alloc (chO ⟨5, n, job, badge, slot, life, code, bits, prog, texts⟩ t)) ⟨5, n, job, badge, slot, life, code, bits, prog, texts⟩ t (ht.fr0 ((Fr.refl _ _).alloc _))
  rw [hc] at HT
  have HT := hid HT
  have H2 := hid H2
  have HL := hid hil
  clear H hi ht H1 hil hc
  go_enter Tryz.func29, Tryz.ntmps29
  unfold CV.f at HT ⊢
  go_wp2_with fail
  refine HT.out.mono ?_
  rintro e w1 ⟨rfl, hF⟩
  have H3 := H2.out.same hF
  have bX := H3.blk ((R.set i NilT).length + 0) (by rw [List.append_assoc, get_behind]; rfl)
  have bC := H3.blk ((R.set i NilT ++ xsL X Q q res pv progs lv ll).length + 0) (by rw [get_behind]; rfl)
  have x0 := cell_blk (i := 0) bX rfl
  have x1 := cell_blk (i := 1) bX rfl
  have hlX := lt_of_block bX
  have k0 := cell_blk (i := 0) bC rfl
  have hlC := lt_of_block bC
  clear hF HT H2
  have k3 := cell_blk (i := 3) bC rfl
  have hz : (if (q.expire badge).2.1 ≠ 0 then none else some ⟨(q.expire badge).2.2, res, progs, ll.map (·.1)⟩) = Z := hZ
  clear hZ
  have HE := hid (st_xexpire H3.drew ((R.set i NilT).length + 1) (X := Q) (q := q) (by rw [List.append_assoc, get_behind]; rfl) hq.out badge)
  clear H3 bX bC
  obtain ⟨r1, r2, r3, hr⟩ : ∃ r1 r2 r3, q.expire badge = (r1, r2, r3) := ⟨_, _, _, rfl⟩
  rw [hr] at HE hz
  have HZ := hid hz
  clear hz hr
  simp only [xs_setQ] at HE
  go_wp2_with fail
  go_region_held3 (fun wx : World => wx.cell? ⟨X, 1, none⟩ = some (.pointer (some ⟨Q, 0, none⟩)) ∧ wx.cell? ⟨w.heap.size, 3, none⟩ = some (.int .i64 badge)) ((first | exact ⟨x1, k3⟩ | exact hNow))
    ((go_at_call 82; refine HE.out.mono ?_; rintro e w2 ⟨rfl, H4⟩; have hNow := And.intro (cell_blk (i := 1) (v := .pointer (some ⟨Q, 0, none⟩)) (H4.blk ((R.set i NilT).length + 0) (by rw [List.append_assoc, get_behind]; rfl)) rfl) (cell_blk (i := 3) (v := .int .i64 badge) (H4.blk ((R.set i NilT ++ xsL X Q r3 res pv progs lv ll).length + 0) (by rw [get_behind]; rfl)) rfl); have H4 := hid H4))
  go_wp2_with fail
  go_ret
  refine XDoTo.of ?_ (St.xsBack HL.out H4.out.drop) ?_
  · rw [← HZ.out]
    by_cases h0 : r2 = 0
    · subst h0; rfl
    · rw [if_pos h0, show (r2 == 0) = false by rw [beq_eq_false_iff_ne]; exact h0]; rfl
  · intro u hu
    rw [← HZ.out] at hu
    by_cases h0 : r2 = 0
    · rw [if_neg (fun h => h h0)] at hu; exact Option.some.inj hu
    · rw [if_pos h0] at hu; cases hu
end
end Go.Proofs.YtmgnekjhlfghaaaGreat

/-
  The document's state: one change (one): a settling.
-/
namespace Go.Proofs.YtmgnekjhlfghaaaGreat
open Go.RowKit
set_option linter.unusedVariables false
set_option linter.unusedSimpArgs false

section
variable {W : Base} {w : World} {R : List Thing}
set_option maxHeartbeats 2000000 in
set_option maxRecDepth 100000 in
theorem st_tone_settle (H : St W w R) (i : Nat) {X : Nat} {v : SV} (hi : R[i]? = some (XsT X v)) (hv : v.wf) (c : CV) (t : TS) (ht : In w 1 t.a c.texts.length t.c (sL.at_ c.texts)) (hc : c.check = 0) (hk : c.kind = 6) :
    Calls Tryz.prog 29 #[.pointer (some ⟨X, 0, none⟩), .agg (c.f t).toArray] w (XDoTo W R i X (v.settle c.badge c.code c.bits)) := by
  have hq := hid hv.q
  obtain ⟨Z, hZ⟩ : ∃ Z, v.settle c.badge c.code c.bits = Z := ⟨_, rfl⟩
  rw [hZ]
  clear hv
  have hil := lt_of_get hi
  obtain ⟨Q, pv, lv, ll, hll, H1⟩ := H.xs i hi
  obtain ⟨q, res, progs, logs⟩ := v
  obtain ⟨kind, n, job, badge, slot, life, code, bits, prog, texts⟩ := c
  simp only at hll H1 hk
  subst hll hk
  have H2 := H1.alloc (chO ⟨6, n, job, badge, slot, life, code, bits, prog, texts⟩ t)
  have HT := rcheck_walk (w.alloc (chO ⟨6, n, job, badge, slot, life, code, bits, prog, texts⟩ t)) ⟨6, n, job, badge, slot, life, code, bits, prog, texts⟩ t (ht.fr0 ((Fr.refl _ _).alloc _))
  rw [hc] at HT
  have HT := hid HT
  have H2 := hid H2
  have HL := hid hil
  clear H hi ht H1 hil hc
  go_enter Tryz.func29, Tryz.ntmps29
  unfold CV.f at HT ⊢
  go_wp2_with fail
  refine HT.out.mono ?_
  rintro e w1 ⟨rfl, hF⟩
  have H3 := H2.out.same hF
  have bX := H3.blk ((R.set i NilT).length + 0) (by rw [List.append_assoc, get_behind]; rfl)
  have bC := H3.blk ((R.set i NilT ++ xsL X Q q res pv progs lv ll).length + 0) (by rw [get_behind]; rfl)
  have x0 := cell_blk (i := 0) bX rfl
  have x1 := cell_blk (i := 1) bX rfl
  have hlX := lt_of_block bX
  have k0 := cell_blk (i := 0) bC rfl
  have hlC := lt_of_block bC
  clear hF HT H2
  have k3 := cell_blk (i := 3) bC rfl
  have k6 := cell_blk (i := 6) bC rfl
  have k7 := cell_blk (i := 7) bC rfl
  have hz : (if (q.settle badge code bits).2.1 ≠ 0 then none else some ⟨(q.settle badge code bits).2.2, res, progs, ll.map (·.1)⟩) = Z := hZ
  clear hZ
  have HE := hid (st_xsettle H3.drew ((R.set i NilT).length + 1) (X := Q) (q := q) (by rw [List.append_assoc, get_behind]; rfl) hq.out badge code bits)
  clear H3 bX bC
  obtain ⟨r1, r2, r3, hr⟩ : ∃ r1 r2 r3, q.settle badge code bits = (r1, r2, r3) := ⟨_, _, _, rfl⟩
  rw [hr] at HE hz
  have HZ := hid hz
  clear hz hr
  simp only [xs_setQ] at HE
  go_wp2_with fail
  go_region_held3 (fun wx : World => wx.cell? ⟨X, 1, none⟩ = some (.pointer (some ⟨Q, 0, none⟩)) ∧ wx.cell? ⟨w.heap.size, 3, none⟩ = some (.int .i64 badge) ∧ wx.cell? ⟨w.heap.size, 6, none⟩ = some (.int .i64 code) ∧ wx.cell? ⟨w.heap.size, 7, none⟩ = some (.int .u64 bits)) ((first | exact ⟨x1, k3, k6, k7⟩ | exact hNow))
    ((go_at_call 83; refine HE.out.mono ?_; rintro e w2 ⟨rfl, H4⟩; have hNow := And.intro (cell_blk (i := 1) (v := .pointer (some ⟨Q, 0, none⟩)) (H4.blk ((R.set i NilT).length + 0) (by rw [List.append_assoc, get_behind]; rfl)) rfl) (And.intro (cell_blk (i := 3) (v := .int .i64 badge) (H4.blk ((R.set i NilT ++ xsL X Q r3 res pv progs lv ll).length + 0) (by rw [get_behind]; rfl)) rfl) (And.intro (cell_blk (i := 6) (v := .int .i64 code) (H4.blk ((R.set i NilT ++ xsL X Q r3 res pv progs lv ll).length + 0) (by rw [get_behind]; rfl)) rfl) (cell_blk (i := 7) (v := .int .u64 bits) (H4.blk ((R.set i NilT ++ xsL X Q r3 res pv progs lv ll).length + 0) (by rw [get_behind]; rfl)) rfl))); have H4 := hid H4))
  go_wp2_with fail
  go_ret
  refine XDoTo.of ?_ (St.xsBack HL.out H4.out.drop) ?_
  · rw [← HZ.out]
    by_cases h0 : r2 = 0
    · subst h0; rfl
    · rw [if_pos h0, show (r2 == 0) = false by rw [beq_eq_false_iff_ne]; exact h0]; rfl
  · intro u hu
    rw [← HZ.out] at hu
    by_cases h0 : r2 = 0
    · rw [if_neg (fun h => h h0)] at hu; exact Option.some.inj hu
    · rw [if_pos h0] at hu; cases hu
end
end Go.Proofs.YtmgnekjhlfghaaaGreat

/-
  The document's state: one change (one): a submission.
-/
namespace Go.Proofs.YtmgnekjhlfghaaaGreat
open Go.RowKit
set_option linter.unusedVariables false
set_option linter.unusedSimpArgs false

section
variable {W : Base} {w : World} {R : List Thing}
set_option maxHeartbeats 2000000 in
set_option maxRecDepth 100000 in
theorem st_tone_submit_no (H : St W w R) (i : Nat) {X : Nat} {v : SV} (hi : R[i]? = some (XsT X v)) (hv : v.wf) (c : CV) (t : TS) (ht : In w 1 t.a c.texts.length t.c (sL.at_ c.texts)) (hc : c.check = 0) (hk : c.kind = 2) (hj : ¬ c.job = (v.progs.length : Int) + 1) :
    Calls Tryz.prog 29 #[.pointer (some ⟨X, 0, none⟩), .agg (c.f t).toArray] w (XDoTo W R i X (v.submit c.job c.prog)) := by
  have hno : v.submit c.job c.prog = none := by unfold SV.submit; rw [if_pos hj]
  rw [hno]
  rw [hv.np] at hj
  have hn8 := hv.q.n
  clear hv hno
  have hil := lt_of_get hi
  obtain ⟨Q, pv, lv, ll, hll, H1⟩ := H.xs i hi
  obtain ⟨q, res, progs, logs⟩ := v
  obtain ⟨kind, n, job, badge, slot, life, code, bits, prog, texts⟩ := c
  simp only at hll H1 hk
  subst hll hk
  have H2 := H1.alloc (chO ⟨2, n, job, badge, slot, life, code, bits, prog, texts⟩ t)
  have HT := rcheck_walk (w.alloc (chO ⟨2, n, job, badge, slot, life, code, bits, prog, texts⟩ t)) ⟨2, n, job, badge, slot, life, code, bits, prog, texts⟩ t (ht.fr0 ((Fr.refl _ _).alloc _))
  rw [hc] at HT
  have HT := hid HT
  have H2 := hid H2
  have HL := hid hil
  clear H hi ht H1 hil hc
  go_enter Tryz.func29, Tryz.ntmps29
  unfold CV.f at HT ⊢
  go_wp2_with fail
  refine HT.out.mono ?_
  rintro e w1 ⟨rfl, hF⟩
  have H3 := H2.out.same hF
  have bX := H3.blk ((R.set i NilT).length + 0) (by rw [List.append_assoc, get_behind]; rfl)
  have bC := H3.blk ((R.set i NilT ++ xsL X Q q res pv progs lv ll).length + 0) (by rw [get_behind]; rfl)
  have x0 := cell_blk (i := 0) bX rfl
  have x1 := cell_blk (i := 1) bX rfl
  have hlX := lt_of_block bX
  have k0 := cell_blk (i := 0) bC rfl
  have hlC := lt_of_block bC
  clear hF HT H2
  have k2 := cell_blk (i := 2) bC rfl
  obtain ⟨qa, qc, hX⟩ := H3.xq ((R.set i NilT).length + 1) (X := Q) (q := q) (by rw [List.append_assoc, get_behind]; rfl)
  have q1 := hX.c1
  have hlQ := lt_of_block hX.blk
  have hj1 : (job == (q.rows.length : Int) + 1) = false := by rw [beq_eq_false_iff_ne]; exact hj
  have hj2 : (job != (q.rows.length : Int) + 1) = true := by simp [bne, hj1]
  have hw1 : IntKind.i64.wrap ((q.rows.length : Int) + 1) = (q.rows.length : Int) + 1 := IntWalk.i64_in _ (by have : q.rows.length ≤ 8 := hn8; omega)
  have HH := hid H3
  clear H3 bX bC hX hj hn8
  go_wp2_with fail
  go_quiet (fail)
  go_wp2_with fail
  go_ret
  exact XDoTo.no rfl (St.xsBack HL.out (HH.out.drewN _).drop)
end
end Go.Proofs.YtmgnekjhlfghaaaGreat
