/-
  A queue in memory; first, Head, held, Row, Find, Rows, Open, Clone, Submit.
-/
import Derived.Test.YthdcpenhfccagaaQ2
namespace Go.Proofs.Ythdcpenhfccagaa
open Go.RowKit
set_option linter.unusedVariables false
set_option linter.unusedSimpArgs false

/-- The first place of one that is as asked; -1: none is. -/
def fIdx (p : QR → Bool) : List QR → Int
  | [] => -1
  | x :: r => if p x = true then 0 else if fIdx p r < 0 then -1 else fIdx p r + 1

theorem fIdx_none {p : QR → Bool} {l : List QR} (h : ∀ k, k < l.length → p (qL.nth l k) = false) : fIdx p l = -1 := by
  induction l with
  | nil => rfl
  | cons x r ih =>
    have h0 := h 0 (by simp)
    have h0' : p x = false := h0
    have hr : fIdx p r = -1 := ih fun k hk => h (k + 1) (by simpa using hk)
    unfold fIdx
    rw [if_neg (by rw [h0']; simp), if_pos (by rw [hr]; decide)]
theorem fIdx_some {p : QR → Bool} {l : List QR} {k : Nat} (hk : k < l.length) (h : p (qL.nth l k) = true) (ha : ∀ j, j < k → p (qL.nth l j) = false) : fIdx p l = k := by
  induction l generalizing k with
  | nil => simp at hk
  | cons x r ih =>
    match k with
    | 0 =>
      have h' : p x = true := h
      unfold fIdx; rw [if_pos h']; rfl
    | k + 1 =>
      have h0 : p x = false := ha 0 (by omega)
      have hr := ih (k := k) (by simpa using hk) h (fun j hj => ha (j + 1) (by omega))
      unfold fIdx
      rw [if_neg (by rw [h0]; simp), hr, if_neg (by omega)]; rfl
theorem fIdx_cases (p : QR → Bool) (l : List QR) : (∃ k, k < l.length ∧ p (qL.nth l k) = true ∧ (∀ j, j < k → p (qL.nth l j) = false) ∧ fIdx p l = k) ∨ (∀ k, k < l.length → p (qL.nth l k) = false) ∧ fIdx p l = -1 := by
  by_cases h : ∃ k, k < l.length ∧ p (qL.nth l k) = true
  · have hmin : ∃ k, (k < l.length ∧ p (qL.nth l k) = true) ∧ ∀ j, j < k → ¬ (j < l.length ∧ p (qL.nth l j) = true) := by
      obtain ⟨k, hk⟩ := h
      induction k using Nat.strongRecOn with
      | _ k ih =>
        by_cases hj : ∃ j, j < k ∧ (j < l.length ∧ p (qL.nth l j) = true)
        · obtain ⟨j, h1, h2⟩ := hj; exact ih j h1 h2
        · exact ⟨k, hk, fun j h1 h2 => hj ⟨j, h1, h2⟩⟩
    obtain ⟨k, ⟨h1, h2⟩, h3⟩ := hmin
    have h4 : ∀ j, j < k → p (qL.nth l j) = false := fun j hj => by
      cases hp : p (qL.nth l j)
      · rfl
      · exact absurd ⟨by omega, hp⟩ (h3 j hj)
    exact .inl ⟨k, h1, h2, h4, fIdx_some h1 h2 h4⟩
  · have h1 : ∀ k, k < l.length → p (qL.nth l k) = false := fun k hk => by
      cases hp : p (qL.nth l k)
      · rfl
      · exact absurd ⟨k, hk, hp⟩ h
    exact .inr ⟨h1, fIdx_none h1⟩
theorem fIdx_bd (p : QR → Bool) (l : List QR) : -1 ≤ fIdx p l ∧ fIdx p l < l.length := by
  rcases fIdx_cases p l with ⟨k, h1, _, _, h⟩ | ⟨_, h⟩ <;> omega

/-! ### In memory -/
def Qk1 (Q : Nat) (q : QS) : Thing1 := fun w F => ∃ rv, F = Q :: rv.ownBlock.toList ∧ w.heap[Q]? = some (.cells #[.int .i64 q.att, rv] 69 (0, 0)) ∧ w.ownsRow 0 37 8 rv q.rows.length (qL.cells q.rows)
def QkT (Q : Nat) (q : QS) : Thing := own (Qk1 Q q)
instance (Q : Nat) (q : QS) : Loc1 (Qk1 Q q) where
  keep := fun ⟨rv, h1, h2, h3⟩ hF hd => ⟨rv, h1, hF.keep h2 (hd _ (by simp [h1])), ownsRow_keep h3 hF (fun g hg => hd g (by rw [h1]; exact List.mem_cons_of_mem _ hg))⟩
  lt := fun ⟨rv, h1, h2, h3⟩ x hx => by
    subst h1
    simp only [List.mem_cons] at hx
    rcases hx with rfl | hx
    · exact lt_of_block h2
    · exact ownsRow_lt h3 x hx

theorem own_slice {w : World} {rv : Value} {l : List QR} (h : w.ownsRow 0 37 8 rv l.length (qL.cells l)) : ∃ a c, rv = .slice a l.length c ∧ In w 8 a l.length c (qL.at_ l) ∧ (a = none → c = 0) ∧ (∀ b off, a = some ⟨b, off, none⟩ → b ∈ rv.ownBlock.toList ∧ off = 0) := by
  rcases ownsRow_one h with ⟨rfl, h0, h1⟩ | ⟨g, cap, rfl, _, _⟩
  · rw [h0]
    exact ⟨none, 0, rfl, ⟨Nat.le_refl _, by decide, fun h => absurd h (Nat.lt_irrefl _), fun b off e => by cases e⟩, fun _ => rfl, fun b off e => by cases e⟩
  · exact ⟨_, _, rfl, ownsRow_in h _ (fun j hj => qL.get l j hj), (fun h => by cases h), fun b off e => by cases e; simp [Value.ownBlock]⟩

theorem St.qk {W : Base} {w : World} {R : List Thing} (H : St W w R) (i : Nat) {Q : Nat} {q : QS} (hi : R[i]? = some (QkT Q q)) :
    ∃ a c, w.heap[Q]? = some (.cells #[.int .i64 q.att, .slice a q.rows.length c] 69 (0, 0)) ∧ In w 8 a q.rows.length c (qL.at_ q.rows) ∧ (a = none → c = 0) := by
  obtain ⟨F, ⟨rv, _, h2, h3⟩, _⟩ := H.get i hi
  obtain ⟨a, c, rfl, h4, h5, _⟩ := own_slice h3
  exact ⟨a, c, h2, h4, h5⟩

/-! ### The closures -/
theorem enter_head1 (args : Array Value) (w : World) : (callFunc 33 args).run Try.prog w = .ok (.enter 33 args) w := run_enter Try.func33 (by kernel_rfl) rfl args w
theorem enter_grant1 (args : Array Value) (w : World) : (callFunc 35 args).run Try.prog w = .ok (.enter 35 args) w := run_enter Try.func35 (by kernel_rfl) rfl args w
theorem enter_held1 (args : Array Value) (w : World) : (callFunc 48 args).run Try.prog w = .ok (.enter 48 args) w := run_enter Try.func48 (by kernel_rfl) rfl args w
theorem enter_find1 (args : Array Value) (w : World) : (callFunc 42 args).run Try.prog w = .ok (.enter 42 args) w := run_enter Try.func42 (by kernel_rfl) rfl args w

def QR.pHead (r : QR) : Bool := r.st == 1
def QR.pGrant (b : Int) (r : QR) : Bool := decide (b ≤ r.ba)
def QR.pHeld (b : Int) (r : QR) : Bool := r.st == 2 && r.ba == b
def QR.pFind (b : Int) (r : QR) : Bool := r.ba == b && decide (0 < b)

theorem head1_any (w : World) (x : QR) : Calls Try.prog 33 #[.agg #[.int .i64 x.job, .int .i64 x.st, .int .i64 x.at_, .int .i64 x.ba, .int .i64 x.node, .int .i64 x.life, .int .i64 x.code, .int .u64 x.bits]] w fun e w' => e = .returned (.bool x.pHead) ∧ Fr [] w w' := by
  go_enter Try.func33, Try.ntmps33
  go_wp2
  go_ret
  exact ⟨rfl, (Fr.refl _ _).alloc _⟩
theorem grant1_any (w : World) (x : QR) (B : Nat) (b : Int) (hc : w.cell? ⟨B, 0, none⟩ = some (.int .i64 b)) : Calls Try.prog 35 #[.agg #[.int .i64 x.job, .int .i64 x.st, .int .i64 x.at_, .int .i64 x.ba, .int .i64 x.node, .int .i64 x.life, .int .i64 x.code, .int .u64 x.bits], .pointer (some ⟨B, 0, none⟩)] w fun e w' => e = .returned (.bool (x.pGrant b)) ∧ Fr [] w w' := by
  have hB : B < w.heap.size := World.block_lt_of_cell? w ⟨B, 0, none⟩ hc
  go_enter Try.func35, Try.ntmps35
  go_wp2
  go_ret
  exact ⟨rfl, (Fr.refl _ _).alloc _⟩
theorem held1_any (w : World) (x : QR) (B : Nat) (b : Int) (hc : w.cell? ⟨B, 0, none⟩ = some (.int .i64 b)) : Calls Try.prog 48 #[.agg #[.int .i64 x.job, .int .i64 x.st, .int .i64 x.at_, .int .i64 x.ba, .int .i64 x.node, .int .i64 x.life, .int .i64 x.code, .int .u64 x.bits], .pointer (some ⟨B, 0, none⟩)] w fun e w' => e = .returned (.bool (x.pHeld b)) ∧ Fr [] w w' := by
  have hB : B < w.heap.size := World.block_lt_of_cell? w ⟨B, 0, none⟩ hc
  unfold QR.pHeld
  cases h : (x.st == 2)
  all_goals
    go_enter Try.func48, Try.ntmps48
    go_wp2
    go_ret
    exact ⟨by simp, (Fr.refl _ _).alloc _⟩
theorem find1_any (w : World) (x : QR) (B : Nat) (b : Int) (hc : w.cell? ⟨B, 0, none⟩ = some (.int .i64 b)) : Calls Try.prog 42 #[.agg #[.int .i64 x.job, .int .i64 x.st, .int .i64 x.at_, .int .i64 x.ba, .int .i64 x.node, .int .i64 x.life, .int .i64 x.code, .int .u64 x.bits], .pointer (some ⟨B, 0, none⟩)] w fun e w' => e = .returned (.bool (x.pFind b)) ∧ Fr [] w w' := by
  have hB : B < w.heap.size := World.block_lt_of_cell? w ⟨B, 0, none⟩ hc
  unfold QR.pFind
  cases h : (x.ba == b)
  all_goals
    go_enter Try.func42, Try.ntmps42
    go_wp2
    go_ret
    exact ⟨by simp, (Fr.refl _ _).alloc _⟩

/-! ### first -/
theorem first_any (w : World) (b : Option Addr) (cb n : Nat) (l : List QR) (hln : l.length = n) (hb : In w 8 b n cb (qL.at_ l)) (fid : Nat) (cap : Array Value) (p : QR → Bool) (he : ∀ args wx, (callFunc fid args).run Try.prog wx = .ok (.enter fid args) wx)
    (hf : ∀ (x : QR) wx, Fr [] w wx → Calls Try.prog fid (#[.agg #[.int .i64 x.job, .int .i64 x.st, .int .i64 x.at_, .int .i64 x.ba, .int .i64 x.node, .int .i64 x.life, .int .i64 x.code, .int .u64 x.bits]] ++ cap) wx fun e w' => e = .returned (.bool (p x)) ∧ Fr [] wx w') :
    Calls Try.prog 32 #[.slice b n cb, .func (.func fid) #[] cap] w fun e w' => e = .returned (.int .i64 (fIdx p l)) ∧ Fr [] w w' := by
  have HC := hid (index_qrow w b cb n l hln hb fid cap (fun k => p (qL.nth l k)) he (fun k wx _ hF => hf (qL.nth l k) wx hF))
  have HL := hid hln
  clear hb he hf hln
  go_enter Try.func32, Try.ntmps32
  go_wp2_with fail
  refine HC.out.mono ?_
  rintro e w1 ⟨z, rfl, hF, hz⟩
  have hfz : fIdx p l = z := by
    rcases hz with ⟨k, h1, h2, h3, rfl⟩ | ⟨h1, rfl⟩
    · exact fIdx_some (by rw [HL.out]; exact h1) h2 h3
    · exact fIdx_none (by rw [HL.out]; exact h1)
  have HF := hid (And.intro hF hfz)
  clear hfz hz hF
  go_wp2_with fail
  go_ret
  exact ⟨by rw [HF.out.2]; rfl, HF.out.1⟩

section
variable {W : Base} {w : World} {R : List Thing}

def QS.head (q : QS) : Int := fIdx QR.pHead q.rows + 1

theorem st_head (H : St W w R) (i : Nat) {Q : Nat} {q : QS} (hi : R[i]? = some (QkT Q q)) (hl : q.rows.length ≤ 8) :
    Calls Try.prog 15 #[.pointer (some ⟨Q, 0, none⟩)] w fun e w' => e = .returned (.int .i64 q.head) ∧ Fr [] w w' := by
  obtain ⟨a, c, h1, h2, _⟩ := H.qk i hi
  have c1 := cell_blk (i := 1) h1 rfl
  have HF := hid (first_any w a c _ q.rows rfl h2 33 #[] QR.pHead enter_head1 (fun x wx _ => head1_any wx x))
  have hb := fIdx_bd QR.pHead q.rows
  unfold QS.head
  generalize fIdx QR.pHead q.rows = z at HF hb
  obtain ⟨hb1, hb2⟩ := hb
  clear h1 h2 H hi
  go_enter Try.func15, Try.ntmps15
  go_wp2_with fail
  refine HF.out.mono ?_
  rintro e w1 ⟨rfl, hF⟩
  go_wp2_with fail
  go_ret
  exact ⟨rfl, hF⟩

theorem st_rows (H : St W w R) (i : Nat) {Q : Nat} {q : QS} (hi : R[i]? = some (QkT Q q)) (hl : q.rows.length ≤ 8) :
    Calls Try.prog 19 #[.pointer (some ⟨Q, 0, none⟩)] w fun e w' => ∃ a, e = .returned (.slice a q.rows.length q.rows.length) ∧ Fr [] w w' ∧ WRow w' 37 8 a q.rows.length (qL.at_ q.rows) ∧ ∀ b off, a = some ⟨b, off, none⟩ → w.heap.size ≤ b := by
  obtain ⟨a, c, h1, h2, h3⟩ := H.qk i hi
  have c1 := cell_blk (i := 1) h1 rfl
  have HC := hid (clone_qrow w a c q.rows h2 h3 (by omega))
  clear h1 h2 h3 H hi
  go_enter Try.func19, Try.ntmps19
  go_wp2_with fail
  refine HC.out.mono ?_
  rintro e w1 ⟨a', c', rfl, hF, ho, hb, hn⟩
  obtain ⟨hle, hmx⟩ : q.rows.length ≤ c' ∧ c' ≤ maxLen := by
    rcases ownsRow_one ho with ⟨he, h0, _⟩ | ⟨g, cap, he, h1, h2⟩
    · simp only [Value.slice.injEq] at he; obtain ⟨_, _, rfl⟩ := he; exact ⟨by omega, by decide⟩
    · simp only [Value.slice.injEq] at he; obtain ⟨_, _, rfl⟩ := he; exact ⟨h1, h2⟩
  unfold maxLen at hmx
  have HZ := hid (And.intro hF (And.intro ho hb))
  clear hF ho hb
  go_wp2_with fail
  refine (clip_qrow w1 a' _ _ hle hmx hn).mono ?_
  rintro e w2 ⟨rfl, rfl⟩
  go_wp2_with fail
  go_ret
  refine ⟨a', rfl, HZ.out.1, ownsRow_W HZ.out.2.1 _ (fun j hj => qL.get _ j hj), fun b off e => HZ.out.2.2 b ?_⟩
  rcases ownsRow_one HZ.out.2.1 with ⟨he, _, _⟩ | ⟨g, cap, he, _, _⟩
  · simp only [Value.slice.injEq] at he; rw [he.1] at e; cases e
  · simp only [Value.slice.injEq] at he; rw [he.1] at e ⊢; cases e; simp [Value.ownBlock]

theorem st_qclone (H : St W w R) (i : Nat) {Q : Nat} {q : QS} (hi : R[i]? = some (QkT Q q)) (hl : q.rows.length ≤ 8) :
    Calls Try.prog 21 #[.pointer (some ⟨Q, 0, none⟩)] w fun e w' => ∃ C, e = .returned (.pointer (some ⟨C, 0, none⟩)) ∧ Fr [] w w' ∧ ∃ F, Qk1 C q w' F ∧ ∀ x, x ∈ F → w.heap.size ≤ x := by
  obtain ⟨a, c, h1, h2, h3⟩ := H.qk i hi
  have c0 := cell_blk (i := 0) h1 rfl
  have c1 := cell_blk (i := 1) h1 rfl
  have HC := hid (clone_qrow w.drew a c q.rows (h2.fr0 ((Fr.refl [] w).drew)) h3 (by omega))
  clear h1 h2 h3 H hi
  go_enter Try.func21, Try.ntmps21
  go_wp2_with fail
  go_region_held3 (fun wx : World => wx.cell? ⟨Q, 0, none⟩ = some (.int .i64 q.att) ∧ wx.cell? ⟨Q, 1, none⟩ = some (.slice a q.rows.length c)) ((first | exact hN2 | exact hNow | exact ⟨c0, c1⟩))
    (first | (go_at_call 39; refine HC.out.mono ?_; rintro e w1 ⟨a', c', rfl, hF, ho, hb, hn⟩; have hNow := And.intro (hF.cell0 (w := w.drew) c0) (hF.cell0 (w := w.drew) c1); have hN2 := And.intro (((Fr.refl [] w1).alloc (.cells #[.int .i64 q.att, .slice a' q.rows.length c'] 69)).cell0 hNow.1) (((Fr.refl [] w1).alloc (.cells #[.int .i64 q.att, .slice a' q.rows.length c'] 69)).cell0 hNow.2); have HZ := hid (And.intro hF (And.intro ho hb)); clear hF ho hb))
  go_wp2_with fail
  go_ret
  have hs := HZ.out.1.size
  have hs' : w.drew.heap.size = w.heap.size := rfl
  refine ⟨w1.heap.size, rfl, ((Fr.refl [] w).drew.trans HZ.out.1).alloc _, _, ⟨.slice a' q.rows.length c', rfl, blk_alloc_at _ _ _ rfl, ownsRow_keep (S := []) HZ.out.2.1 ((Fr.refl [] _).alloc _) (by simp)⟩, fun x hx => ?_⟩
  simp only [List.mem_cons] at hx
  rcases hx with rfl | hx
  · omega
  · exact HZ.out.2.2 x hx
end

end Go.Proofs.Ythdcpenhfccagaa
