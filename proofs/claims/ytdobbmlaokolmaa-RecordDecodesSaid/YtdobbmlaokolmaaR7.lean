/-
  record: the reader: change: what it reads, and its things.
-/
import Derived.Test.YtdobbmlaokolmaaR6
import Derived.Test.YtdobbmlaokolmaaR4
import Derived.Test.YtdobbmlaokolmaaRow
namespace Go.Proofs.Ytdobbmlaokolmaa
open Go.RowKit
set_option linter.unusedVariables false
set_option linter.unusedSimpArgs false

/-! ### What is read -/
def rdTexts (b : ByteArray) : Nat → Nat → List ByteArray → Option (List ByteArray × Nat)
  | 0, p, acc => some (acc, p)
  | n + 1, p, acc => match rdText b p 32 with
    | .ok (t, q) => rdTexts b n q (acc ++ [t])
    | .error _ => none
def rdNum (b : ByteArray) (p : Nat) (most : Int) : Option (Nat × Nat) := match rdMost b p most 21 with
  | .ok x => some x
  | .error _ => none
def rdLet (b : ByteArray) (c : CV) (p : Nat) (l : UInt8) : Option (CV × Nat) :=
  if l = 110 then (rdNum b p 1099511627776).map fun x => ({ c with n := x.1 }, x.2)
  else if l = 106 then (rdNum b p 8).map fun x => ({ c with job := x.1 }, x.2)
  else if l = 112 then match rdText b p 1024 with | .ok (t, q) => some ({ c with prog := t }, q) | .error _ => none
  else if l = 98 then (rdNum b p 1099511627776).map fun x => ({ c with badge := x.1 }, x.2)
  else if l = 115 then (rdNum b p 7).bind fun x => (rdNum b x.2 1099511627776).map fun y => ({ c with slot := x.1, life := y.1 }, y.2)
  else if l = 116 then match rdMost b p 8 23 with | .ok (n, q) => (rdTexts b n q []).map fun x => ({ c with texts := x.1 }, x.2) | .error _ => none
  else (rdNum b p 7).bind fun x => match rdBits b x.2 with | .ok (n, q) => some ({ c with code := x.1, bits := n }, q) | .error _ => none
def rdLets (b : ByteArray) : List UInt8 → CV → Nat → Option (CV × Nat)
  | [], c, p => some (c, p)
  | l :: ls, c, p => (rdLet b c p l).bind fun x => rdLets b ls x.1 x.2
/-- A change, read. -/
def rdChange (b : ByteArray) (p : Nat) : Option (CV × Nat) :=
  (rdNum b p 6).bind fun x => (rdLets b (hasS x.1).data.toList { CV.zero with kind := x.1 } x.2).bind fun y => if y.1.check = 0 then some y else none

theorem rdNum_ok {b : ByteArray} {p : Nat} {m : Int} {n q : Nat} (h : rdMost b p m 21 = .ok (n, q)) : rdNum b p m = some (n, q) := by unfold rdNum; rw [h]
theorem rdNum_no {b : ByteArray} {p : Nat} {m : Int} {c : Int} (h : rdMost b p m 21 = .error c) : rdNum b p m = none := by unfold rdNum; rw [h]

theorem info_str : (Try.prog.info? 9).map (fun i => (i.zero, i.size, i.bytes)) = some (some (.string ByteArray.empty), 1, 16) := by kernel_rfl
theorem clip_str (w : World) (a : Option Addr) (n cap : Nat) (h1 : n ≤ cap) (h2 : cap ≤ 9223372036854775807) (h3 : a = none → cap = 0) :
    Calls Try.prog 56 #[.slice a n cap] w fun e w' => e = .returned (.slice a n n) ∧ w = w' := by
  go_enter Try.func56, Try.ntmps56
  go_wp2
  go_ret
  exact ⟨rfl, rfl⟩
theorem clip_ch (w : World) (a : Option Addr) (n cap : Nat) (h1 : n ≤ cap) (h2 : cap ≤ 9223372036854775807) (h3 : a = none → cap = 0) :
    Calls Try.prog 38 #[.slice a n cap] w fun e w' => e = .returned (.slice a n n) ∧ w = w' := by
  go_enter Try.func38, Try.ntmps38
  go_wp2
  go_ret
  exact ⟨rfl, rfl⟩

/-! ### Things -/
/-- A change's texts, cut to their length. -/
def Tx1 (t : TS) (l : List ByteArray) : Thing1 := fun w F => F = (t.a.map (·.block)).toList ∧ WRow w 9 1 t.a l.length (sL.at_ l) ∧ t.c = l.length ∧ l.length ≤ maxLen
def TxT (t : TS) (l : List ByteArray) : Thing := own (Tx1 t l)
instance (t : TS) (l : List ByteArray) : Loc1 (Tx1 t l) where
  keep := fun ⟨h1, h2, h3⟩ hF hd => ⟨h1, h2.keep hF (fun g hg => hd g (by rw [h1, hg]; simp)), h3⟩
  lt := fun ⟨h1, h2, h3⟩ x hx => by
    rw [h1] at hx
    rcases h2 with ⟨h, _⟩ | ⟨g, cur, h, hh, _⟩
    · rw [h] at hx; simp at hx
    · rw [h] at hx; simp at hx; subst hx; exact lt_of_block hh

section
variable {W : Base} {w : World} {R : List Thing}

theorem St.tx (H : St W w R) (i : Nat) {t : TS} {l : List ByteArray} (hi : R[i]? = some (TxT t l)) : In w 1 t.a l.length t.c (sL.at_ l) := by
  obtain ⟨F, ⟨h1, h2, h3, h4⟩, _⟩ := H.get i hi
  exact h2.toIn (by omega) (by omega)

/-- change's things: its receiver, its result, its change, the change's texts, its letters. -/
def chT (r rb zb cb ib : Nat) (c : CV) (t : TS) (s : ByteArray) (k : Nat) : List Thing :=
  [BlkT rb (.cells #[.pointer (some ⟨r, 0, none⟩)] 55), BlkT zb (.cells (CV.zero.f ⟨none, 0⟩).toArray 27), BlkT cb (.cells (c.f t).toArray 27), TxT t c.texts, BlkT ib (.stringIter s k)]

theorem St.chSet {r rb zb cb ib : Nat} {c : CV} {t : TS} {s : ByteArray} {k : Nat} (H : St W w (R ++ chT r rb zb cb ib c t s k)) (j : Nat) (v : Value) (c' : CV) (h : (c.f t).toArray.setIfInBounds j v = (c'.f t).toArray) (ht : c'.texts = c.texts) :
    St W (w.setCell ⟨cb, j, none⟩ v) (R ++ chT r rb zb cb ib c' t s k) := by
  have h1 := H.setBlk (R.length + 2) (by rw [get_behind]; rfl) j v
  rw [List.set_append_right _ _ (by omega), Nat.add_sub_cancel_left, h] at h1
  simp only [chT, ht]
  exact h1

theorem St.ch {r rb zb cb ib : Nat} {c : CV} {t : TS} {s : ByteArray} {k : Nat} (H : St W w (R ++ chT r rb zb cb ib c t s k)) : w.heap[rb]? = some (.cells #[.pointer (some ⟨r, 0, none⟩)] 55) ∧ w.heap[zb]? = some (.cells (CV.zero.f ⟨none, 0⟩).toArray 27 ) ∧
    w.heap[cb]? = some (.cells (c.f t).toArray 27) ∧ w.heap[ib]? = some (.stringIter s k) :=
  ⟨H.blk (R.length + 0) (by rw [get_behind]; rfl), H.blk (R.length + 1) (by rw [get_behind]; rfl), H.blk (R.length + 2) (by rw [get_behind]; rfl), H.blk (R.length + 4) (by rw [get_behind]; rfl)⟩

theorem St.chNext {r rb zb cb ib : Nat} {c : CV} {t : TS} {s : ByteArray} {k : Nat} (H : St W w (R ++ chT r rb zb cb ib c t s k)) (k' : Nat) : St W (w.iterAt ib s k') (R ++ chT r rb zb cb ib c t s k') := by
  have h1 := H.setIter (R.length + 4) (by rw [get_behind]; rfl) k'
  rw [List.set_append_right _ _ (by omega), Nat.add_sub_cancel_left] at h1
  exact h1

/-! The reader's calls ahead of other things. -/
variable {T : List Thing} {i : Nat}
def Pan (W : Base) (R : List Thing) (i r : Nat) (e : Ending) (w' : World) : Prop := e = .panicked wg ∧ ∃ s', St W w' (R.set i (RdT r s'))

theorem get_rd (hil : i < R.length) (A : Thing) : ((R.set i A) ++ T)[i]? = some A := by rw [List.getElem?_append_left (by simpa using hil), List.getElem?_set_self hil]
theorem set_rd (hil : i < R.length) (A B : Thing) : ((R.set i A) ++ T).set i B = (R.set i B) ++ T := by rw [List.set_append_left _ _ (by simpa using hil), List.set_set]

theorem stc_num_ok {r p : Nat} {b : ByteArray} (H : St W w (R.set i (RdT r ⟨b, p, 0⟩) ++ T)) (hil : i < R.length) (hw : RS.wf ⟨b, p, 0⟩) {m : Int} {n q : Nat} (hm0 : 0 ≤ m) (hm : m < 9223372036854775808) (hX : rdMost b p m 21 = .ok (n, q)) :
    Calls Try.prog 35 #[rdr r, .int .i64 m] w fun e w' => e = .returned (.int .i64 n) ∧ St W w' (R.set i (RdT r ⟨b, q, 0⟩) ++ T) := by
  obtain ⟨m, rfl⟩ := Int.eq_ofNat_of_zero_le hm0
  have hm : m < 9223372036854775808 := by omega
  have h := st_num_ok H i (get_rd hil _) hw rfl hm hX
  rw [set_rd hil] at h
  exact h
theorem stc_num_no {r p : Nat} {b : ByteArray} (H : St W w (R.set i (RdT r ⟨b, p, 0⟩) ++ T)) (hil : i < R.length) (hw : RS.wf ⟨b, p, 0⟩) {m c : Int} (hm0 : 0 ≤ m) (hm : m < 9223372036854775808) (hX : rdMost b p m 21 = .error c) :
    Calls Try.prog 35 #[rdr r, .int .i64 m] w (Pan W R i r) := by
  obtain ⟨m, rfl⟩ := Int.eq_ofNat_of_zero_le hm0
  have hm : m < 9223372036854775808 := by omega
  have h := st_num_no H i (get_rd hil _) hw rfl hm hX
  rw [set_rd hil] at h
  exact h.mono fun e w' ⟨h1, h2⟩ => ⟨h1, _, h2.drop⟩
theorem stc_sure {r : Nat} {s : RS} (H : St W w (R.set i (RdT r s) ++ T)) (hil : i < R.length) (he : s.e = 0) :
    Calls Try.prog 53 #[rdr r] w fun e w' => e = .returned (.tuple #[]) ∧ St W w' (R.set i (RdT r s) ++ T) := st_sure H i (get_rd hil _) he
theorem stc_sure_no {r : Nat} {s : RS} (H : St W w (R.set i (RdT r s) ++ T)) (hil : i < R.length) (he : ¬ s.e = 0) :
    Calls Try.prog 53 #[rdr r] w (Pan W R i r) := (st_sure_no H i (get_rd hil _) he).mono fun e w' ⟨h1, h2⟩ => ⟨h1, _, h2.drop⟩
theorem stc_Text {r : Nat} {s : RS} (H : St W w (R.set i (RdT r s) ++ T)) (hil : i < R.length) (hw : s.wf) {m : Int} (hm : m ≤ 9223372036854775807) :
    Calls Try.prog 54 #[.pointer (some ⟨r, 0, none⟩), .int .i64 m] w fun e w' => e = .returned (.string (s.got ⟨#[]⟩ (rdText s.b s.at_ m))) ∧ St W w' (R.set i (RdT r (s.face (rdText s.b s.at_ m))) ++ T) := by
  have h := st_Text H i (get_rd hil _) hw hm
  rw [set_rd hil] at h
  exact h
theorem stc_List {r : Nat} {s : RS} (H : St W w (R.set i (RdT r s) ++ T)) (hil : i < R.length) (hw : s.wf) {m : Int} (hm : m ≤ 9223372036854775807) :
    Calls Try.prog 55 #[.pointer (some ⟨r, 0, none⟩), .int .i64 m] w fun e w' => e = .returned (.int .i64 (s.got 0 (rdMost s.b s.at_ (max 0 m) 23) : Nat)) ∧ St W w' (R.set i (RdT r (s.face (rdMost s.b s.at_ (max 0 m) 23))) ++ T) := by
  have h := st_List H i (get_rd hil _) hw hm
  rw [set_rd hil] at h
  exact h
theorem stc_Bits {r : Nat} {s : RS} (H : St W w (R.set i (RdT r s) ++ T)) (hil : i < R.length) (hw : s.wf) :
    Calls Try.prog 57 #[.pointer (some ⟨r, 0, none⟩)] w fun e w' => e = .returned (.int .u64 (s.got 0 (rdBits s.b s.at_) : Nat)) ∧ St W w' (R.set i (RdT r (s.face (rdBits s.b s.at_))) ++ T) := by
  have h := st_Bits H i (get_rd hil _) hw
  rw [set_rd hil] at h
  exact h
end
end Go.Proofs.Ytdobbmlaokolmaa
