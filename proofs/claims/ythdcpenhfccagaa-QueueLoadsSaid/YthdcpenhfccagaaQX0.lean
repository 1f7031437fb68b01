/-
  The document's queue in memory: its block; its list, which is read alone. Its calls that ask: Head, held, Row, Find, Open, Copy, New.
-/
import Derived.Test.YthdcpenhfccagaaQR1
import Derived.Test.YthdcpenhfccagaaQAt
import Derived.IntWalk
namespace Go.Proofs.Ythdcpenhfccagaa
open Go.RowKit
set_option linter.unusedVariables false
set_option linter.unusedSimpArgs false

def XqT (X : Nat) (q : QS) : Thing := fun w F G => ∃ rv : Value, F = [X] ∧ G = rv.ownBlock.toList ∧ w.heap[X]? = some (.cells #[.int .i64 q.att, rv] 79 (0, 0)) ∧ w.ownsRow 0 37 8 rv q.rows.length (qL.cells q.rows)
instance (X : Nat) (q : QS) : Loc (XqT X q) where
  keep := fun ⟨rv, h1, h2, h3, h4⟩ hF hd hg => ⟨rv, h1, h2, hF.keep h3 (hd _ (by simp [h1])), ownsRow_keep h4 hF (fun g h => hg g (by rw [h2]; exact h))⟩
  lt := fun ⟨rv, h1, h2, h3, h4⟩ => ⟨fun x hx => by subst h1; simp at hx; subst hx; exact lt_of_block h3, fun x hx => by subst h2; exact ownsRow_lt h4 x hx⟩

/-- What a call that asks wants of it. -/
structure XqIn (w : World) (X : Nat) (q : QS) (a : Option Addr) (c : Nat) : Prop where
  blk : w.heap[X]? = some (.cells #[.int .i64 q.att, .slice a q.rows.length c] 79 (0, 0))
  inn : In w 8 a q.rows.length c (qL.at_ q.rows)
theorem XqIn.fr0 {w w' : World} {X : Nat} {q : QS} {a : Option Addr} {c : Nat} (h : XqIn w X q a c) (hF : Fr [] w w') : XqIn w' X q a c := ⟨hF.keep h.blk (by simp), h.inn.fr0 hF⟩
theorem XqIn.c0 {w : World} {X : Nat} {q : QS} {a : Option Addr} {c : Nat} (h : XqIn w X q a c) : w.cell? ⟨X, 0, none⟩ = some (.int .i64 q.att) := cell_blk h.blk rfl
theorem XqIn.c1 {w : World} {X : Nat} {q : QS} {a : Option Addr} {c : Nat} (h : XqIn w X q a c) : w.cell? ⟨X, 1, none⟩ = some (.slice a q.rows.length c) := cell_blk h.blk rfl

theorem St.xq {W : Base} {w : World} {R : List Thing} (H : St W w R) (i : Nat) {X : Nat} {q : QS} (hi : R[i]? = some (XqT X q)) : ∃ a c, XqIn w X q a c := by
  obtain ⟨F, G, rv, _, _, h3, h4⟩ := H.getG i hi
  obtain ⟨a, c, rfl, h5, _⟩ := own_slice h4
  exact ⟨a, c, h3, h5⟩

theorem x_head (w : World) (X : Nat) (q : QS) (a : Option Addr) (c : Nat) (h : XqIn w X q a c) (hl : q.rows.length ≤ 8) :
    Calls Try.prog 45 #[.pointer (some ⟨X, 0, none⟩)] w fun e w' => e = .returned (.int .i64 q.head) ∧ w = w' := by
  have c1 := h.c1
  have H := hid h
  unfold QS.head
  clear h
  go_enter Try.func45, Try.ntmps45
  go_wp2_with fail
  go_loop [3] (fun i => ∃ k : Nat, k ≤ q.rows.length ∧ i = .int .i64 k ∧ ∀ j, j < k → (qL.nth q.rows j).pHead = false) (fun i => q.rows.length - (intOf i).toNat)
  case atStart => exact ⟨0, Nat.zero_le _, rfl, fun j hj => absurd hj (Nat.not_lt_zero _)⟩
  case round =>
    obtain ⟨k, hk, rfl, hall⟩ := hrel
    have HAll := hid hall
    clear hall
    by_cases hlt : k < q.rows.length
    · obtain ⟨b, o, rfl⟩ := H.out.inn.sm (by omega)
      obtain ⟨_, x1, _⟩ := qrow_cells H.out.inn k hlt
      cases hp : (qL.nth q.rows k).pHead
      · have HP := hid hp
        have e1 : ((qL.nth q.rows k).st == 1) = false := hp
        generalize (qL.nth q.rows k).st = x at x1 e1
        clear hp
        go_wp2_with fail
        go_round
        case rel => exact ⟨k + 1, by omega, by go_num, fun j hj => by by_cases hjk : j = k; (subst hjk; exact HP.out); exact HAll.out j (by omega)⟩
        case measure => simp [intOf]; omega
      · have HP := hid hp
        have e1 : ((qL.nth q.rows k).st == 1) = true := hp
        generalize (qL.nth q.rows k).st = x at x1 e1
        clear hp
        go_wp2_with fail
        go_ret
        exact ⟨by rw [fIdx_some hlt HP.out HAll.out]; rfl, rfl⟩
    · obtain rfl : k = q.rows.length := by omega
      go_wp2_with fail
      go_ret
      exact ⟨by rw [fIdx_none HAll.out]; rfl, rfl⟩

theorem x_held (w : World) (X : Nat) (q : QS) (a : Option Addr) (c : Nat) (h : XqIn w X q a c) (hl : q.rows.length ≤ 8) (bg : Int) :
    Calls Try.prog 60 #[.pointer (some ⟨X, 0, none⟩), .int .i64 bg] w fun e w' => e = .returned (.int .i64 (fIdx (QR.pHeld bg) q.rows + 1)) ∧ w = w' := by
  have c1 := h.c1
  have H := hid h
  clear h
  go_enter Try.func60, Try.ntmps60
  go_wp2_with fail
  go_loop [5] (fun i => ∃ k : Nat, k ≤ q.rows.length ∧ i = .int .i64 k ∧ ∀ j, j < k → (qL.nth q.rows j).pHeld bg = false) (fun i => q.rows.length - (intOf i).toNat)
  case atStart => exact ⟨0, Nat.zero_le _, rfl, fun j hj => absurd hj (Nat.not_lt_zero _)⟩
  case round =>
    obtain ⟨k, hk, rfl, hall⟩ := hrel
    have HAll := hid hall
    clear hall
    by_cases hlt : k < q.rows.length
    · obtain ⟨b, o, rfl⟩ := H.out.inn.sm (by omega)
      obtain ⟨_, x1, _, x3, _⟩ := qrow_cells H.out.inn k hlt
      cases hp : (qL.nth q.rows k).pHeld bg
      · have HP := hid hp
        generalize qL.nth q.rows k = x at x1 x3 hp
        cases e1 : (x.st == 2)
        · clear hp
          go_wp2_with fail
          go_round
          case rel => exact ⟨k + 1, by omega, by go_num, fun j hj => by by_cases hjk : j = k; (subst hjk; exact HP.out); exact HAll.out j (by omega)⟩
          case measure => simp [intOf]; omega
        · have e2 : (x.ba == bg) = false := by simpa [QR.pHeld, e1] using hp
          clear hp
          go_wp2_with fail
          go_round
          case rel => exact ⟨k + 1, by omega, by go_num, fun j hj => by by_cases hjk : j = k; (subst hjk; exact HP.out); exact HAll.out j (by omega)⟩
          case measure => simp [intOf]; omega
      · have HP := hid hp
        generalize qL.nth q.rows k = x at x1 x3 hp
        obtain ⟨e1, e2⟩ : (x.st == 2) = true ∧ (x.ba == bg) = true := by simpa only [QR.pHeld, Bool.and_eq_true] using hp
        clear hp
        go_wp2_with fail
        go_ret
        exact ⟨by rw [fIdx_some hlt HP.out HAll.out]; rfl, rfl⟩
    · obtain rfl : k = q.rows.length := by omega
      go_wp2_with fail
      go_ret
      exact ⟨by rw [fIdx_none HAll.out]; rfl, rfl⟩

theorem x_row (w : World) (X : Nat) (q : QS) (a : Option Addr) (c : Nat) (h : XqIn w X q a c) (hl : q.rows.length ≤ 8) (j : Int) {x : QR} {z : Bool} (hj : q.row j = (x, z)) :
    Calls Try.prog 51 #[.pointer (some ⟨X, 0, none⟩), .int .i64 j] w fun e w' => e = .returned (.tuple #[.agg #[.int .i64 x.job, .int .i64 x.st, .int .i64 x.at_, .int .i64 x.ba, .int .i64 x.node, .int .i64 x.life, .int .i64 x.code, .int .u64 x.bits], .bool z]) ∧ Fr [] w w' := by
  have c1 := h.c1
  have hX := lt_of_block h.blk
  have H := hid h
  clear h
  by_cases h1 : j < 1
  · rw [row_no (.inl h1)] at hj
    obtain ⟨rfl, rfl⟩ := (Prod.mk.injEq _ _ _ _).mp hj
    clear hj
    go_enter Try.func51, Try.ntmps51
    go_wp2_with fail
    exact bodyPost_ret (v := .tuple #[.agg #[.int .i64 0, .int .i64 0, .int .i64 0, .int .i64 0, .int .i64 0, .int .i64 0, .int .i64 0, .int .u64 0], .bool false]) (by simp [results, Try.results51, go_sem]) rfl ⟨rfl, (Fr.refl _ _).alloc _⟩
  by_cases h2 : (q.rows.length : Int) < j
  · rw [row_no (.inr h2)] at hj
    obtain ⟨rfl, rfl⟩ := (Prod.mk.injEq _ _ _ _).mp hj
    clear hj
    go_enter Try.func51, Try.ntmps51
    go_wp2_with fail
    exact bodyPost_ret (v := .tuple #[.agg #[.int .i64 0, .int .i64 0, .int .i64 0, .int .i64 0, .int .i64 0, .int .i64 0, .int .i64 0, .int .u64 0], .bool false]) (by simp [results, Try.results51, go_sem]) rfl ⟨rfl, (Fr.refl _ _).alloc _⟩
  obtain ⟨k, rfl⟩ : ∃ k : Nat, j = k + 1 := ⟨(j - 1).toNat, by omega⟩
  have hk : k < q.rows.length := by omega
  rw [row_at hk rfl] at hj
  obtain ⟨hjx, rfl⟩ := (Prod.mk.injEq _ _ _ _).mp hj
  obtain ⟨b, o, rfl⟩ := H.out.inn.sm (by omega)
  obtain ⟨r0, r1, r2, r3, r4, r5, r6, r7⟩ := qrow_cells H.out.inn k hk
  rw [hjx] at r0 r1 r2 r3 r4 r5 r6 r7
  have hbl : b < w.heap.size := World.block_lt_of_cell? w ⟨b, o + k * 8, none⟩ r0
  clear hj hjx
  go_enter Try.func51, Try.ntmps51
  go_wp2_with fail
  exact bodyPost_ret (v := .tuple #[.agg #[.int .i64 x.job, .int .i64 x.st, .int .i64 x.at_, .int .i64 x.ba, .int .i64 x.node, .int .i64 x.life, .int .i64 x.code, .int .u64 x.bits], .bool true]) (by simp [results, Try.results51, go_sem]) rfl ⟨rfl, (Fr.refl _ _).alloc _⟩

set_option maxHeartbeats 800000 in
theorem x_find (w : World) (X : Nat) (q : QS) (a : Option Addr) (c : Nat) (h : XqIn w X q a c) (hl : q.rows.length ≤ 8) (bg : Int) {x : QR} {z : Bool} (hj : q.find bg = (x, z)) :
    Calls Try.prog 52 #[.pointer (some ⟨X, 0, none⟩), .int .i64 bg] w fun e w' => e = .returned (.tuple #[.agg #[.int .i64 x.job, .int .i64 x.st, .int .i64 x.at_, .int .i64 x.ba, .int .i64 x.node, .int .i64 x.life, .int .i64 x.code, .int .u64 x.bits], .bool z]) ∧ Fr [] w w' := by
  have c1 := h.c1
  have hX := lt_of_block h.blk
  have H := hid h
  unfold QS.find at hj
  have HJ := hid hj
  clear h hj
  go_enter Try.func52, Try.ntmps52
  go_wp2_with fail
  go_loop [6] (fun i => ∃ k : Nat, k ≤ q.rows.length ∧ i = .int .i64 k ∧ ∀ j, j < k → (qL.nth q.rows j).pFind bg = false) (fun i => q.rows.length - (intOf i).toNat)
  case atStart => exact ⟨0, Nat.zero_le _, rfl, fun j hj => absurd hj (Nat.not_lt_zero _)⟩
  case round =>
    obtain ⟨k, hk, rfl, hall⟩ := hrel
    have HAll := hid hall
    clear hall
    by_cases hlt : k < q.rows.length
    · obtain ⟨b, o, rfl⟩ := H.out.inn.sm (by omega)
      obtain ⟨r0, r1, r2, r3, r4, r5, r6, r7⟩ := qrow_cells H.out.inn k hlt
      have hbl : b < w.heap.size := World.block_lt_of_cell? w ⟨b, o + k * 8, none⟩ r0
      cases hp : (qL.nth q.rows k).pFind bg
      · have HP := hid hp
        clear r0 r1 r2 r4 r5 r6 r7
        generalize qL.nth q.rows k = y at r3 hp
        cases e1 : decide (0 < bg)
        · clear hp
          go_wp2_with fail
          go_round
          case rel => exact ⟨k + 1, by omega, by go_num, fun j hj => by by_cases hjk : j = k; (subst hjk; exact HP.out); exact HAll.out j (by omega)⟩
          case measure => simp [intOf]; omega
        · have e2 : (y.ba == bg) = false := by simpa [QR.pFind, e1] using hp
          clear hp
          go_wp2_with fail
          go_round
          case rel => exact ⟨k + 1, by omega, by go_num, fun j hj => by by_cases hjk : j = k; (subst hjk; exact HP.out); exact HAll.out j (by omega)⟩
          case measure => simp [intOf]; omega
      · have HP := hid hp
        have HX : Hid (qL.nth q.rows k = x ∧ z = true) := hid (by
          have h1 := HJ.out
          rw [fIdx_some hlt HP.out HAll.out, row_at hlt rfl] at h1
          obtain ⟨h2, h3⟩ := (Prod.mk.injEq _ _ _ _).mp h1
          exact ⟨h2, h3.symm⟩)
        obtain ⟨hx, rfl⟩ := HX.out
        rw [hx] at r0 r1 r2 r3 r4 r5 r6 r7 hp
        obtain ⟨e2, e1⟩ : (x.ba == bg) = true ∧ decide (0 < bg) = true := by simpa only [QR.pFind, Bool.and_eq_true] using hp
        clear hp hx
        go_wp2_with fail
        exact bodyPost_ret (v := .tuple #[.agg #[.int .i64 x.job, .int .i64 x.st, .int .i64 x.at_, .int .i64 x.ba, .int .i64 x.node, .int .i64 x.life, .int .i64 x.code, .int .u64 x.bits], .bool true]) (by simp [results, Try.results52, go_sem]) rfl ⟨rfl, (Fr.refl _ _).alloc _⟩
    · obtain rfl : k = q.rows.length := by omega
      have HX : Hid (QR.zero = x ∧ z = false) := hid (by
        have h1 := HJ.out
        rw [fIdx_none HAll.out, row_no (.inl (by omega))] at h1
        obtain ⟨h2, h3⟩ := (Prod.mk.injEq _ _ _ _).mp h1
        exact ⟨h2, h3.symm⟩)
      obtain ⟨hx, rfl⟩ := HX.out
      subst hx
      go_wp2_with fail
      exact bodyPost_ret (v := .tuple #[.agg #[.int .i64 0, .int .i64 0, .int .i64 0, .int .i64 0, .int .i64 0, .int .i64 0, .int .i64 0, .int .u64 0], .bool false]) (by simp [results, Try.results52, go_sem]) rfl ⟨rfl, (Fr.refl _ _).alloc _⟩

theorem st_of_may {att : Int} {r : QR} {j : Int} (h : r.may att j = true) : 1 ≤ r.st ∧ r.st ≤ 4 := by
  have h8 := (may_facts h).2.2.2.2.2.2.2
  unfold QR.kc at h8
  split at h8
  · omega
  split at h8
  · omega
  split at h8
  · omega
  split at h8
  · omega
  · cases h8

set_option maxHeartbeats 1600000 in
set_option maxRecDepth 100000 in
theorem x_open (w : World) (X : Nat) (q : QS) (a : Option Addr) (c : Nat) (h : XqIn w X q a c) (hw : q.wf) :
    Calls Try.prog 53 #[.pointer (some ⟨X, 0, none⟩)] w fun e w' => e = .returned (.tuple #[.int .i64 q.opened.1, .int .i64 q.opened.2]) ∧ Fr [] w w' := by
  have c0 := h.c0
  have c1 := h.c1
  have HA := hid h
  have hn8 := hw.n
  have ha1 := hw.a1
  have ha2 := hw.a2
  have HW := hid hw
  clear h hw
  go_enter Try.func53, Try.ntmps53
  go_wp2_with fail
  go_loopw [4, 5, 6] (fun u v i wr => ∃ (k : Nat), k ≤ q.rows.length ∧ i = .int .i64 k ∧ u = .int .i64 (opn q.att q.rows k).1 ∧ v = .int .i64 (opn q.att q.rows k).2 ∧ Fr [] w wr) (fun _ _ i _ => q.rows.length - (intOf i).toNat)
  case atStart => exact ⟨0, Nat.zero_le _, rfl, rfl, rfl, Fr.refl _ _⟩
  case round =>
    obtain ⟨k, hk, rfl, rfl, rfl, hF⟩ := hrel
    obtain ⟨b1, b2, b3, b4⟩ := opn_bd HW.out k hk
    by_cases hlt : k < q.rows.length
    · obtain ⟨bb, ob, rfl⟩ := HA.out.inn.sm (by omega)
      obtain ⟨r0, r1, r2, r3, r4, r5, r6, r7⟩ := qrow_cells (HA.out.inn.fr0 hF) k hlt
      have c0' := hF.cell0 c0
      have c1' := hF.cell0 c1
      have hm := may_facts (HW.out.ok k hlt)
      have hst := st_of_may (HW.out.ok k hlt)
      have hm1 := hm.2.1
      have hm2 := hm.2.2.1
      have HO := hid (show opn q.att q.rows (k + 1) = if (qL.nth q.rows k).st = 1 ∨ (qL.nth q.rows k).st = 2 then ((opn q.att q.rows k).1 + 1, (opn q.att q.rows k).2 + (q.att - (qL.nth q.rows k).at_)) else opn q.att q.rows k from rfl)
      generalize qL.nth q.rows k = x at r0 r1 r2 r3 r4 r5 r6 r7 hm1 hm2 HO hst
      generalize hgo : opn q.att q.rows k = o at b1 b2 b3 b4 HO ⊢
      obtain ⟨o1, o2⟩ := o
      simp only [] at b1 b2 b3 b4
      clear hgo hm
      have HF := hid hF
      clear hF
      by_cases hs : x.st < 3
      · have HS := hid (HO.out.trans (if_pos (by omega)))
        have w1 : IntKind.i64.wrap (q.att - x.at_) = q.att - x.at_ := IntWalk.i64_in _ (by omega)
        have w2 : IntKind.i64.wrap (o2 + (q.att - x.at_)) = o2 + (q.att - x.at_) := IntWalk.i64_in _ (by omega)
        have w3 : IntKind.i64.wrap (o1 + 1) = o1 + 1 := IntWalk.i64_in _ (by omega)
        clear hst
        go_wp2_with fail
        go_quiet (fail)
        clear w1 w2 w3
        go_wp2_with fail
        go_roundw
        case rel => exact ⟨k + 1, by omega, by go_num, by rw [HS.out], by rw [HS.out], HF.out.drewN _⟩
        case measure => simp [intOf]; omega
      · have HS := hid (HO.out.trans (if_neg (by omega)))
        clear hst
        go_wp2_with fail
        go_roundw
        case rel => exact ⟨k + 1, by omega, by go_num, by rw [HS.out], by rw [HS.out], HF.out⟩
        case measure => simp [intOf]; omega
    · obtain rfl : k = q.rows.length := by omega
      have c1' := hF.cell0 c1
      have HF := hid hF
      clear hF
      go_wp2_with fail
      go_ret2
      exact ⟨rfl, HF.out⟩

end Go.Proofs.Ythdcpenhfccagaa
