/-
  pack.Reader: face.
-/
import Derived.Test.YtdobbmlaokolmaaPk4
namespace Go.Proofs.Ytdobbmlaokolmaa
open Go.RowKit
set_option linter.unusedVariables false
set_option linter.unusedSimpArgs false

theorem get_behind {α : Type} (R T : List α) (k : Nat) : (R ++ T)[R.length + k]? = T[k]? := by
  rw [List.getElem?_append_right (by omega), Nat.add_sub_cancel_left]
theorem St.drop {W : Base} {w : World} {R T : List Thing} (H : St W w (R ++ T)) : St W w R := by
  have h := H.take R.length
  rwa [List.take_left'] at h
  rfl
theorem St.dropSet {W : Base} {w : World} {R T : List Thing} {k : Nat} {A : Thing} (H : St W w ((R ++ T).set (R.length + k) A)) : St W w R := by
  rw [List.set_append_right _ _ (by omega)] at H
  exact H.drop
/-- What a read that may give up comes to. -/
def ReadTo {α : Type} (V : α → Value) (W : Base) (R : List Thing) (i r : Nat) (s : RS) (x : Except Int (α × Nat)) (e : Ending) (w' : World) : Prop :=
  match x with
  | .ok (n, p) => e = .returned (V n) ∧ St W w' (R.set i (RdT r { s with at_ := p }))
  | .error c => e = .panicked (gu c) ∧ ∃ p, p ≤ s.b.size ∧ St W w' (R.set i (RdT r { s with at_ := p }))
/-- What a face comes to. -/
def RS.face {α : Type} (s : RS) (x : Except Int (α × Nat)) : RS :=
  if s.e = 0 then match x with | .ok (n, p) => { s with at_ := p } | .error c => { s with e := c } else s
def RS.got {α : Type} (s : RS) (z : α) (x : Except Int (α × Nat)) : α :=
  if s.e = 0 then match x with | .ok (n, p) => n | .error c => z else z
section
variable {W : Base} {w : World} {R : List Thing}

set_option maxHeartbeats 1600000 in
theorem st_face_u (H : St W w R) (i : Nat) {r : Nat} {s : RS} (hi : R[i]? = some (RdT r s)) {fid : FuncId} {caps : Array Value} {X : Except Int (Nat × Nat)}
    (hent : ∀ w : World, (callFunc fid caps).run Try.prog w = .ok (.enter fid caps) w)
    (hcall : ∀ T w', St W w' (R ++ T) → Calls Try.prog fid caps w' (ReadTo (fun n : Nat => Value.int .u64 n) W (R ++ T) i r s X)) :
    Calls Try.prog 65 #[.pointer (some ⟨r, 0, none⟩), .func (.func fid) #[] caps] w fun e w' => e = .returned ((fun n : Nat => Value.int .u64 n) (s.got 0 X)) ∧ St W w' (R.set i (RdT r (s.face X))) := by
  have hmf : ∀ (fn : Fn) (first cap : Array Value) (w : World), (Instr.makeFunc fn first cap).run Try.prog w = .ok (.func fn first cap) w := fun _ _ _ _ => rfl
  obtain ⟨c0, c1, c2, f, hl⟩ := H.rd i hi
  have hil := lt_of_get hi
  generalize hg : s.got 0 X = g
  generalize hs : s.face X = s'
  have hg := hid hg
  have hs := hid hs
  by_cases h0 : s.e = 0
  · rw [h0] at c2
    have h0 := hid h0
    have H := hid H
    have hcall := hid hcall
    clear f
    go_enter_defers Try.func65, Try.ntmps65
    go_wp2_with fail
    obtain ⟨T, hT, H2⟩ : ∃ T, T = [BlkT w.heap.size (.cells #[Value.pointer (some ⟨r, 0, none⟩)] 52), BlkT (w.heap.size + 1) (.cells #[Value.int .u64 0] 22), BlkT (w.heap.size + 1 + 1) (.cells #[Value.int .i64 s.at_] 3)] ∧ St W (((w.alloc (.cells #[.pointer (some ⟨r, 0, none⟩)] 52)).alloc (.cells #[Value.int .u64 0] 22)).alloc (.cells #[.int .i64 s.at_] 3)) (R ++ T) := by
      refine ⟨_, rfl, ?_⟩
      have h := ((H.out.alloc (.cells #[.pointer (some ⟨r, 0, none⟩)] 52)).allocAt (.cells #[Value.int .u64 0] 22) (w.heap.size + 1) (by simp)).allocAt (.cells #[.int .i64 s.at_] 3) (w.heap.size + 1 + 1) (by simp)
      simpa using h
    generalize ((w.alloc (.cells #[.pointer (some ⟨r, 0, none⟩)] 52)).alloc (.cells #[Value.int .u64 0] 22)).alloc (.cells #[.int .i64 s.at_] 3) = wx at H2 ⊢
    generalize w.heap.size + 1 + 1 = fb at hT ⊢
    generalize w.heap.size + 1 = xb at hT ⊢
    generalize w.heap.size = pb at hT ⊢
    refine (hcall.out T wx H2).mono ?_
    clear H2 H c0 c1 c2 hl
    rintro e w1 hx
    cases hX : X with
    | ok p =>
      obtain ⟨n, p⟩ := p
      rw [hX] at hx
      obtain ⟨rfl, H⟩ := hx
      have e1 : g = n := by simp only [← hg.out, RS.got, if_pos h0.out, hX]
      have e2 : s' = { s with at_ := p } := by simp only [← hs.out, RS.face, if_pos h0.out, hX]
      subst e1 e2
      clear hcall hX
      rw [List.set_append_left _ _ hil, hT] at H
      have hxb := H.blk _ (get_behind _ _ 1)
      have x0 : w1.cell? ⟨xb, 0, none⟩ = some (Value.int .u64 0) := cell_blk hxb rfl
      have x1 : w1.frozen? ⟨xb, 0, none⟩ = false := free_blk hxb
      have H2 := hid (H.setBlk _ (get_behind _ _ 1) 0 (Value.int .u64 g))
      have hxb2 := blk_setCell_at (i := 0) (Value.int .u64 g) hxb
      have y0 : (((w1.setCell ⟨xb, 0, none⟩ (Value.int .u64 g))).alloc (.cells #[.int .i64 0] 99)).cell? ⟨xb, 0, none⟩ = some (Value.int .u64 g) := cell_blk (blk_alloc_lt _ hxb2) rfl
      clear H hxb hxb2
      dsimp only
      go_wp2_with fail
      refine leaves_cons (by simp) (run_enter Try.func84 (by kernel_rfl) rfl _ _) ?_
      refine catch_idle_u.mono ?_
      rintro e u' w'' ⟨rfl, rfl, rfl⟩
      refine ⟨_, ?_, rfl, ?_⟩
      · simp [results, Try.results65, go_sem, y0]
      · exact (H2.out.alloc_ _).dropSet
    | error c =>
      rw [hX] at hx
      obtain ⟨rfl, p, hp, H⟩ := hx
      have e1 : g = 0 := by simp only [← hg.out, RS.got, if_pos h0.out, hX]
      have e2 : s' = { s with e := c } := by simp only [← hs.out, RS.face, if_pos h0.out, hX]
      subst e1 e2
      clear hcall hX
      rw [List.set_append_left _ _ hil, hT] at H
      have hib : i < (R.set i (RdT r { s with at_ := p }) ++ [BlkT pb (.cells #[Value.pointer (some ⟨r, 0, none⟩)] 52), BlkT xb (.cells #[Value.int .u64 0] 22), BlkT fb (.cells #[Value.int .i64 s.at_] 3)]).length := by simp; omega
      have hi2 : (R.set i (RdT r { s with at_ := p }) ++ [BlkT pb (.cells #[Value.pointer (some ⟨r, 0, none⟩)] 52), BlkT xb (.cells #[Value.int .u64 0] 22), BlkT fb (.cells #[Value.int .i64 s.at_] 3)])[i]? = some (RdT r { s with at_ := p }) := by
        rw [List.getElem?_append_left (by simpa using hil), List.getElem?_set_self hil]
      have hpb := H.blk _ (get_behind _ _ 0)
      have hxb := H.blk _ (get_behind _ _ 1)
      have hfb := H.blk _ (get_behind _ _ 2)
      have hrb := H.blk i hi2
      have H6 : St W (((((w1.alloc (.cells #[.int .i64 c] 99)).setCell ⟨r, 1, none⟩ (.int .i64 s.at_)).setCell ⟨r, 2, none⟩ (.int .i64 c)).setCell ⟨xb, 0, none⟩ (Value.int .u64 0)).drew) (R.set i (RdT r { s with e := c })) := by
        have H5 := ((H.alloc_ (.cells #[.int .i64 c] 99)).setBlk i hi2 1 (.int .i64 s.at_)).setBlk i (List.getElem?_set_self hib) 2 (.int .i64 c)
        rw [List.set_set, List.set_append_left _ _ (by simpa using hil), List.set_set] at H5
        exact (H5.setBlk _ (get_behind _ _ 1) 0 (Value.int .u64 0)).drew.dropSet
      have y0 : ((((((w1.alloc (.cells #[.int .i64 c] 99)).setCell ⟨r, 1, none⟩ (.int .i64 s.at_)).setCell ⟨r, 2, none⟩ (.int .i64 c)).setCell ⟨xb, 0, none⟩ (Value.int .u64 0)).drew)).cell? ⟨xb, 0, none⟩ = some (Value.int .u64 0) := by
        have hrx : xb ≠ r := ne_of_elem hxb hrb (by decide)
        exact cell_blk (blk_drew (blk_setCell_at (i := 0) _ (blk_setCell_ne _ (blk_setCell_ne _ (blk_alloc_lt _ hxb) hrx) hrx))) rfl
      dsimp only
      have H6 := hid H6
      clear H
      go_wp2_with fail
      refine leaves_cons (by simp) (run_enter Try.func84 (by kernel_rfl) rfl _ _) ?_
      refine (catch_pan_u hrb hfb hpb hxb).mono ?_
      rintro e u' w'' ⟨rfl, ⟨pe, rfl⟩, rfl⟩
      refine ⟨_, ?_, rfl, H6.out⟩
      simp [results, Try.results65, go_sem, y0]
  · have e1 : g = 0 := by simp only [← hg.out, RS.got, if_neg h0]
    have e2 : s' = s := by simp only [← hs.out, RS.face, if_neg h0]
    rw [e1, e2, things_set_self hi]
    have e3 : (s.e == 0) = false := by rw [beq_eq_false_iff_ne]; exact h0
    have H := hid H
    clear hcall hs hg
    have z := hid (H.out.alloc_ (.cells #[.pointer (some ⟨r, 0, none⟩)] 52))
    go_enter_defers Try.func65, Try.ntmps65
    go_wp2_with fail
    refine ⟨_, ?_, rfl, (H.out.alloc_ _).alloc_ _⟩
    simp [results, Try.results65, go_sem]
set_option maxHeartbeats 1600000 in
theorem st_face_i (H : St W w R) (i : Nat) {r : Nat} {s : RS} (hi : R[i]? = some (RdT r s)) {fid : FuncId} {caps : Array Value} {X : Except Int (Nat × Nat)}
    (hent : ∀ w : World, (callFunc fid caps).run Try.prog w = .ok (.enter fid caps) w)
    (hcall : ∀ T w', St W w' (R ++ T) → Calls Try.prog fid caps w' (ReadTo (fun n : Nat => Value.int .i64 n) W (R ++ T) i r s X)) :
    Calls Try.prog 74 #[.pointer (some ⟨r, 0, none⟩), .func (.func fid) #[] caps] w fun e w' => e = .returned ((fun n : Nat => Value.int .i64 n) (s.got 0 X)) ∧ St W w' (R.set i (RdT r (s.face X))) := by
  have hmf : ∀ (fn : Fn) (first cap : Array Value) (w : World), (Instr.makeFunc fn first cap).run Try.prog w = .ok (.func fn first cap) w := fun _ _ _ _ => rfl
  obtain ⟨c0, c1, c2, f, hl⟩ := H.rd i hi
  have hil := lt_of_get hi
  generalize hg : s.got 0 X = g
  generalize hs : s.face X = s'
  have hg := hid hg
  have hs := hid hs
  by_cases h0 : s.e = 0
  · rw [h0] at c2
    have h0 := hid h0
    have H := hid H
    have hcall := hid hcall
    clear f
    go_enter_defers Try.func74, Try.ntmps74
    go_wp2_with fail
    obtain ⟨T, hT, H2⟩ : ∃ T, T = [BlkT w.heap.size (.cells #[Value.pointer (some ⟨r, 0, none⟩)] 52), BlkT (w.heap.size + 1) (.cells #[Value.int .i64 0] 3), BlkT (w.heap.size + 1 + 1) (.cells #[Value.int .i64 s.at_] 3)] ∧ St W (((w.alloc (.cells #[.pointer (some ⟨r, 0, none⟩)] 52)).alloc (.cells #[Value.int .i64 0] 3)).alloc (.cells #[.int .i64 s.at_] 3)) (R ++ T) := by
      refine ⟨_, rfl, ?_⟩
      have h := ((H.out.alloc (.cells #[.pointer (some ⟨r, 0, none⟩)] 52)).allocAt (.cells #[Value.int .i64 0] 3) (w.heap.size + 1) (by simp)).allocAt (.cells #[.int .i64 s.at_] 3) (w.heap.size + 1 + 1) (by simp)
      simpa using h
    generalize ((w.alloc (.cells #[.pointer (some ⟨r, 0, none⟩)] 52)).alloc (.cells #[Value.int .i64 0] 3)).alloc (.cells #[.int .i64 s.at_] 3) = wx at H2 ⊢
    have hne : w.heap.size + 1 ≠ w.heap.size + 1 + 1 := by omega
    generalize w.heap.size + 1 + 1 = fb at hT hne ⊢
    generalize w.heap.size + 1 = xb at hT hne ⊢
    generalize w.heap.size = pb at hT ⊢
    refine (hcall.out T wx H2).mono ?_
    clear H2 H c0 c1 c2 hl
    rintro e w1 hx
    cases hX : X with
    | ok p =>
      obtain ⟨n, p⟩ := p
      rw [hX] at hx
      obtain ⟨rfl, H⟩ := hx
      have e1 : g = n := by simp only [← hg.out, RS.got, if_pos h0.out, hX]
      have e2 : s' = { s with at_ := p } := by simp only [← hs.out, RS.face, if_pos h0.out, hX]
      subst e1 e2
      clear hcall hX
      rw [List.set_append_left _ _ hil, hT] at H
      have hxb := H.blk _ (get_behind _ _ 1)
      have x0 : w1.cell? ⟨xb, 0, none⟩ = some (Value.int .i64 0) := cell_blk hxb rfl
      have x1 : w1.frozen? ⟨xb, 0, none⟩ = false := free_blk hxb
      have H2 := hid (H.setBlk _ (get_behind _ _ 1) 0 (Value.int .i64 g))
      have hxb2 := blk_setCell_at (i := 0) (Value.int .i64 g) hxb
      have y0 : (((w1.setCell ⟨xb, 0, none⟩ (Value.int .i64 g))).alloc (.cells #[.int .i64 0] 99)).cell? ⟨xb, 0, none⟩ = some (Value.int .i64 g) := cell_blk (blk_alloc_lt _ hxb2) rfl
      clear H hxb hxb2
      dsimp only
      go_wp2_with fail
      refine leaves_cons (by simp) (run_enter Try.func87 (by kernel_rfl) rfl _ _) ?_
      refine catch_idle_i.mono ?_
      rintro e u' w'' ⟨rfl, rfl, rfl⟩
      refine ⟨_, ?_, rfl, ?_⟩
      · simp [results, Try.results74, go_sem, y0]
      · exact (H2.out.alloc_ _).dropSet
    | error c =>
      rw [hX] at hx
      obtain ⟨rfl, p, hp, H⟩ := hx
      have e1 : g = 0 := by simp only [← hg.out, RS.got, if_pos h0.out, hX]
      have e2 : s' = { s with e := c } := by simp only [← hs.out, RS.face, if_pos h0.out, hX]
      subst e1 e2
      clear hcall hX
      rw [List.set_append_left _ _ hil, hT] at H
      have hib : i < (R.set i (RdT r { s with at_ := p }) ++ [BlkT pb (.cells #[Value.pointer (some ⟨r, 0, none⟩)] 52), BlkT xb (.cells #[Value.int .i64 0] 3), BlkT fb (.cells #[Value.int .i64 s.at_] 3)]).length := by simp; omega
      have hi2 : (R.set i (RdT r { s with at_ := p }) ++ [BlkT pb (.cells #[Value.pointer (some ⟨r, 0, none⟩)] 52), BlkT xb (.cells #[Value.int .i64 0] 3), BlkT fb (.cells #[Value.int .i64 s.at_] 3)])[i]? = some (RdT r { s with at_ := p }) := by
        rw [List.getElem?_append_left (by simpa using hil), List.getElem?_set_self hil]
      have hpb := H.blk _ (get_behind _ _ 0)
      have hxb := H.blk _ (get_behind _ _ 1)
      have hfb := H.blk _ (get_behind _ _ 2)
      have hrb := H.blk i hi2
      have H6 : St W (((((w1.alloc (.cells #[.int .i64 c] 99)).setCell ⟨r, 1, none⟩ (.int .i64 s.at_)).setCell ⟨r, 2, none⟩ (.int .i64 c)).setCell ⟨xb, 0, none⟩ (Value.int .i64 0)).drew) (R.set i (RdT r { s with e := c })) := by
        have H5 := ((H.alloc_ (.cells #[.int .i64 c] 99)).setBlk i hi2 1 (.int .i64 s.at_)).setBlk i (List.getElem?_set_self hib) 2 (.int .i64 c)
        rw [List.set_set, List.set_append_left _ _ (by simpa using hil), List.set_set] at H5
        exact (H5.setBlk _ (get_behind _ _ 1) 0 (Value.int .i64 0)).drew.dropSet
      have y0 : ((((((w1.alloc (.cells #[.int .i64 c] 99)).setCell ⟨r, 1, none⟩ (.int .i64 s.at_)).setCell ⟨r, 2, none⟩ (.int .i64 c)).setCell ⟨xb, 0, none⟩ (Value.int .i64 0)).drew)).cell? ⟨xb, 0, none⟩ = some (Value.int .i64 0) := by
        have hrx : xb ≠ r := ne_of_elem hxb hrb (by decide)
        exact cell_blk (blk_drew (blk_setCell_at (i := 0) _ (blk_setCell_ne _ (blk_setCell_ne _ (blk_alloc_lt _ hxb) hrx) hrx))) rfl
      dsimp only
      have H6 := hid H6
      clear H
      go_wp2_with fail
      refine leaves_cons (by simp) (run_enter Try.func87 (by kernel_rfl) rfl _ _) ?_
      refine (catch_pan_i hrb hfb hpb hxb hne).mono ?_
      rintro e u' w'' ⟨rfl, ⟨pe, rfl⟩, rfl⟩
      refine ⟨_, ?_, rfl, H6.out⟩
      simp [results, Try.results74, go_sem, y0]
  · have e1 : g = 0 := by simp only [← hg.out, RS.got, if_neg h0]
    have e2 : s' = s := by simp only [← hs.out, RS.face, if_neg h0]
    rw [e1, e2, things_set_self hi]
    have e3 : (s.e == 0) = false := by rw [beq_eq_false_iff_ne]; exact h0
    have H := hid H
    clear hcall hs hg
    have z := hid (H.out.alloc_ (.cells #[.pointer (some ⟨r, 0, none⟩)] 52))
    go_enter_defers Try.func74, Try.ntmps74
    go_wp2_with fail
    refine ⟨_, ?_, rfl, (H.out.alloc_ _).alloc_ _⟩
    simp [results, Try.results74, go_sem]
set_option maxHeartbeats 1600000 in
theorem st_face_s (H : St W w R) (i : Nat) {r : Nat} {s : RS} (hi : R[i]? = some (RdT r s)) {fid : FuncId} {caps : Array Value} {X : Except Int (ByteArray × Nat)}
    (hent : ∀ w : World, (callFunc fid caps).run Try.prog w = .ok (.enter fid caps) w)
    (hcall : ∀ T w', St W w' (R ++ T) → Calls Try.prog fid caps w' (ReadTo (fun n : ByteArray => Value.string n) W (R ++ T) i r s X)) :
    Calls Try.prog 69 #[.pointer (some ⟨r, 0, none⟩), .func (.func fid) #[] caps] w fun e w' => e = .returned ((fun n : ByteArray => Value.string n) (s.got ⟨#[]⟩ X)) ∧ St W w' (R.set i (RdT r (s.face X))) := by
  have hmf : ∀ (fn : Fn) (first cap : Array Value) (w : World), (Instr.makeFunc fn first cap).run Try.prog w = .ok (.func fn first cap) w := fun _ _ _ _ => rfl
  obtain ⟨c0, c1, c2, f, hl⟩ := H.rd i hi
  have hil := lt_of_get hi
  generalize hg : s.got ⟨#[]⟩ X = g
  generalize hs : s.face X = s'
  have hg := hid hg
  have hs := hid hs
  by_cases h0 : s.e = 0
  · rw [h0] at c2
    have h0 := hid h0
    have H := hid H
    have hcall := hid hcall
    clear f
    go_enter_defers Try.func69, Try.ntmps69
    go_wp2_with fail
    obtain ⟨T, hT, H2⟩ : ∃ T, T = [BlkT w.heap.size (.cells #[Value.pointer (some ⟨r, 0, none⟩)] 52), BlkT (w.heap.size + 1) (.cells #[Value.string ⟨#[]⟩] 9), BlkT (w.heap.size + 1 + 1) (.cells #[Value.int .i64 s.at_] 3)] ∧ St W (((w.alloc (.cells #[.pointer (some ⟨r, 0, none⟩)] 52)).alloc (.cells #[Value.string ⟨#[]⟩] 9)).alloc (.cells #[.int .i64 s.at_] 3)) (R ++ T) := by
      refine ⟨_, rfl, ?_⟩
      have h := ((H.out.alloc (.cells #[.pointer (some ⟨r, 0, none⟩)] 52)).allocAt (.cells #[Value.string ⟨#[]⟩] 9) (w.heap.size + 1) (by simp)).allocAt (.cells #[.int .i64 s.at_] 3) (w.heap.size + 1 + 1) (by simp)
      simpa using h
    generalize ((w.alloc (.cells #[.pointer (some ⟨r, 0, none⟩)] 52)).alloc (.cells #[Value.string ⟨#[]⟩] 9)).alloc (.cells #[.int .i64 s.at_] 3) = wx at H2 ⊢
    generalize w.heap.size + 1 + 1 = fb at hT ⊢
    generalize w.heap.size + 1 = xb at hT ⊢
    generalize w.heap.size = pb at hT ⊢
    refine (hcall.out T wx H2).mono ?_
    clear H2 H c0 c1 c2 hl
    rintro e w1 hx
    cases hX : X with
    | ok p =>
      obtain ⟨n, p⟩ := p
      rw [hX] at hx
      obtain ⟨rfl, H⟩ := hx
      have e1 : g = n := by simp only [← hg.out, RS.got, if_pos h0.out, hX]
      have e2 : s' = { s with at_ := p } := by simp only [← hs.out, RS.face, if_pos h0.out, hX]
      subst e1 e2
      clear hcall hX
      rw [List.set_append_left _ _ hil, hT] at H
      have hxb := H.blk _ (get_behind _ _ 1)
      have x0 : w1.cell? ⟨xb, 0, none⟩ = some (Value.string ⟨#[]⟩) := cell_blk hxb rfl
      have x1 : w1.frozen? ⟨xb, 0, none⟩ = false := free_blk hxb
      have H2 := hid (H.setBlk _ (get_behind _ _ 1) 0 (Value.string g))
      have hxb2 := blk_setCell_at (i := 0) (Value.string g) hxb
      have y0 : (((w1.setCell ⟨xb, 0, none⟩ (Value.string g))).alloc (.cells #[.int .i64 0] 99)).cell? ⟨xb, 0, none⟩ = some (Value.string g) := cell_blk (blk_alloc_lt _ hxb2) rfl
      clear H hxb hxb2
      dsimp only
      go_wp2_with fail
      refine leaves_cons (by simp) (run_enter Try.func85 (by kernel_rfl) rfl _ _) ?_
      refine catch_idle_s.mono ?_
      rintro e u' w'' ⟨rfl, rfl, rfl⟩
      refine ⟨_, ?_, rfl, ?_⟩
      · simp [results, Try.results69, go_sem, y0]
      · exact (H2.out.alloc_ _).dropSet
    | error c =>
      rw [hX] at hx
      obtain ⟨rfl, p, hp, H⟩ := hx
      have e1 : g = ⟨#[]⟩ := by simp only [← hg.out, RS.got, if_pos h0.out, hX]
      have e2 : s' = { s with e := c } := by simp only [← hs.out, RS.face, if_pos h0.out, hX]
      subst e1 e2
      clear hcall hX
      rw [List.set_append_left _ _ hil, hT] at H
      have hib : i < (R.set i (RdT r { s with at_ := p }) ++ [BlkT pb (.cells #[Value.pointer (some ⟨r, 0, none⟩)] 52), BlkT xb (.cells #[Value.string ⟨#[]⟩] 9), BlkT fb (.cells #[Value.int .i64 s.at_] 3)]).length := by simp; omega
      have hi2 : (R.set i (RdT r { s with at_ := p }) ++ [BlkT pb (.cells #[Value.pointer (some ⟨r, 0, none⟩)] 52), BlkT xb (.cells #[Value.string ⟨#[]⟩] 9), BlkT fb (.cells #[Value.int .i64 s.at_] 3)])[i]? = some (RdT r { s with at_ := p }) := by
        rw [List.getElem?_append_left (by simpa using hil), List.getElem?_set_self hil]
      have hpb := H.blk _ (get_behind _ _ 0)
      have hxb := H.blk _ (get_behind _ _ 1)
      have hfb := H.blk _ (get_behind _ _ 2)
      have hrb := H.blk i hi2
      have H6 : St W (((((w1.alloc (.cells #[.int .i64 c] 99)).setCell ⟨r, 1, none⟩ (.int .i64 s.at_)).setCell ⟨r, 2, none⟩ (.int .i64 c)).setCell ⟨xb, 0, none⟩ (Value.string ⟨#[]⟩)).drew) (R.set i (RdT r { s with e := c })) := by
        have H5 := ((H.alloc_ (.cells #[.int .i64 c] 99)).setBlk i hi2 1 (.int .i64 s.at_)).setBlk i (List.getElem?_set_self hib) 2 (.int .i64 c)
        rw [List.set_set, List.set_append_left _ _ (by simpa using hil), List.set_set] at H5
        exact (H5.setBlk _ (get_behind _ _ 1) 0 (Value.string ⟨#[]⟩)).drew.dropSet
      have y0 : ((((((w1.alloc (.cells #[.int .i64 c] 99)).setCell ⟨r, 1, none⟩ (.int .i64 s.at_)).setCell ⟨r, 2, none⟩ (.int .i64 c)).setCell ⟨xb, 0, none⟩ (Value.string ⟨#[]⟩)).drew)).cell? ⟨xb, 0, none⟩ = some (Value.string ⟨#[]⟩) := by
        have hrx : xb ≠ r := ne_of_elem hxb hrb (by decide)
        exact cell_blk (blk_drew (blk_setCell_at (i := 0) _ (blk_setCell_ne _ (blk_setCell_ne _ (blk_alloc_lt _ hxb) hrx) hrx))) rfl
      dsimp only
      have H6 := hid H6
      clear H
      go_wp2_with fail
      refine leaves_cons (by simp) (run_enter Try.func85 (by kernel_rfl) rfl _ _) ?_
      refine (catch_pan_s hrb hfb hpb hxb).mono ?_
      rintro e u' w'' ⟨rfl, ⟨pe, rfl⟩, rfl⟩
      refine ⟨_, ?_, rfl, H6.out⟩
      simp [results, Try.results69, go_sem, y0]
  · have e1 : g = ⟨#[]⟩ := by simp only [← hg.out, RS.got, if_neg h0]
    have e2 : s' = s := by simp only [← hs.out, RS.face, if_neg h0]
    rw [e1, e2, things_set_self hi]
    have e3 : (s.e == 0) = false := by rw [beq_eq_false_iff_ne]; exact h0
    have H := hid H
    clear hcall hs hg
    have z := hid (H.out.alloc_ (.cells #[.pointer (some ⟨r, 0, none⟩)] 52))
    go_enter_defers Try.func69, Try.ntmps69
    go_wp2_with fail
    refine ⟨_, ?_, rfl, (H.out.alloc_ _).alloc_ _⟩
    simp [results, Try.results69, go_sem]
end
end Go.Proofs.Ytdobbmlaokolmaa
