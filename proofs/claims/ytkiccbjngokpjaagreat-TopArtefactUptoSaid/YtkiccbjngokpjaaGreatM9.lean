/-
  Merged, in build order: Pk4 Pk5 Pk6.
-/
import Derived.Defers
import Derived.Recover
import Derived.Test.YtkiccbjngokpjaaGreatM8
/-
  pack.Reader: face: the deferred closure.
-/
namespace Go.Proofs.YtkiccbjngokpjaaGreat
open Go.RowKit
set_option linter.unusedVariables false
set_option linter.unusedSimpArgs false

/-- A region that begins with 'recover'. -/
theorem wpS_region_rec {P : Program} {Q : Exit → Act → List Frame → World → Prop} {a : Act} {cs cs' : List Frame} {w : World} {id : Nat} {ops : Array Oper} {o : Oper} {rest : List Oper} {v : Value}
    (hops : ops.toList = o :: rest) (hw : Region.wanted o (yielded ops a.tmps) = true) (hr : (execOp a.eval o).run P w = .ok .recover w)
    (hv : recoverD cs = some (v, cs') ∨ (recoverD cs = none ∧ v = .nilIface ∧ cs' = cs))
    (h : wpList P ops (fun e a' w' => Q e a' cs' w') rest (a.put o.dst v) w) : (Code.region id ops false).wpS P Q a cs w := by
  intro b k hb hro
  have ho : ops[0]? = some o := by rw [← Array.getElem?_toList, hops]; rfl
  have hsz : List.range ops.size = 0 :: List.range' 1 rest.length := by
    rw [← Array.length_toList, hops, List.range_eq_range', List.length_cons, List.range'_succ]
  have hl := wpOps_eq_wpList (P := P) (ops := ops) (Q := fun e a' w' => Q e a' cs' w') rest 1 (fun j => by rw [← Array.getElem?_toList, hops, Nat.add_comm, List.getElem?_cons_succ])
  rw [← hl] at h
  obtain ⟨e, a', w', hq, harr⟩ := wp_ops _ _ _ h b k cs'
  refine ⟨e, a', cs', w', hq, .of_steps (.head (step_region (id := id)) (.one (step_lone_go ?_))) harr⟩
  have hfin : ∀ v, (b.at a (.inRegion ops (0 :: List.range' 1 rest.length) :: k)).finish v = b.at (a.put o.dst v) (.inRegion ops (List.range' 1 rest.length) :: k) := by
    intro v; rw [Frame.finish_at, ho]; rfl
  have hk : (b.at a (.inRegion ops (0 :: List.range' 1 rest.length) :: k)).kind = .deferred := hb
  have htr := tryRecover_deferred hk cs
  rw [hsz, stepG_op ho hw, ← hfin]
  rcases hv with hv | ⟨hv, rfl, rfl⟩
  · simp only [Frame.at] at htr ⊢
    simp [stepG.apply, hr, htr, hv]
  · simp only [Frame.at] at htr ⊢
    simp [stepG.apply, hr, htr, hv]

section
variable {W : Base} {w : World} {R : List Thing}

set_option maxHeartbeats 1600000 in
theorem catch_pan_u {r fb pb xb : Nat} {b : ByteArray} {at_ fr : Nat} {ee c : Int} {x : Value}
    (hr : w.heap[r]? = some (.cells #[.string b, .int .i64 at_, .int .i64 ee] 157))
    (hf : w.heap[fb]? = some (.cells #[.int .i64 fr] 3)) (hp : w.heap[pb]? = some (.cells #[.pointer (some ⟨r, 0, none⟩)] 134)) (hx : w.heap[xb]? = some (.cells #[x] 59)) :
    CallsD Tryz.prog 118 #[.pointer (some ⟨fb, 0, none⟩), .pointer (some ⟨pb, 0, none⟩), .pointer (some ⟨xb, 0, none⟩)] (.panicking (gu c)) w fun e u' w' => e = .returned (.tuple #[]) ∧ (∃ pe, u' = .panicking [{ v := pe, recovered := true }]) ∧ w' = ((((w.alloc (.cells #[.int .i64 c] 172)).setCell ⟨r, 1, none⟩ (.int .i64 fr)).setCell ⟨r, 2, none⟩ (.int .i64 c)).setCell ⟨xb, 0, none⟩ (.int .u64 0)).drew := by
  have hta : ∀ w : World, (Instr.typeAssert (Value.iface 172 (Value.agg #[Value.int IntKind.i64 c])) 20 172 true).run Tryz.prog w = .ok (.tuple #[.agg #[.int .i64 c], .bool true]) w := fun _ => by kernel_rfl
  refine callsD_of_wpS Tryz.func118 rfl fun c₀ cs hu => ?_
  apply wpS_seq
  refine wpS_region_rec rfl rfl rfl (.inl (by simp only [recoverD, hu, gu]; exact rfl)) ?_
  simp only [Tryz.ntmps118, List.size_toArray, List.length_cons, List.length_nil, Nat.reduceAdd, Nat.reduceSub, Array.replicate_succ,
     Array.replicate_zero, List.push_toArray, List.append_toArray, List.nil_append, List.cons_append]
  go_wp2_with fail
  refine wpS_of_wp ?_
  go_wp2_with fail
  have g := blk_alloc_at w (Obj.cells #[.int .i64 c] 172) _ rfl
  have kr := blk_alloc_lt (Obj.cells #[.int .i64 c] 172) hr
  have kf := blk_alloc_lt (Obj.cells #[.int .i64 c] 172) hf
  have kp := blk_alloc_lt (Obj.cells #[.int .i64 c] 172) hp
  have kx := blk_alloc_lt (Obj.cells #[.int .i64 c] 172) hx
  generalize hwx : w.alloc (Obj.cells #[.int .i64 c] 172) = wx at g kr kf kp kx ⊢
  generalize hgb : w.heap.size = gb at g ⊢
  have n1 : r ≠ fb := by rintro rfl; rw [kr] at kf; cases kf
  have n2 : r ≠ pb := by rintro rfl; rw [kr] at kp; cases kp
  have n3 : r ≠ xb := by rintro rfl; rw [kr] at kx; cases kx
  have n4 : r ≠ gb := by rintro rfl; rw [kr] at g; cases g
  have n5 : xb ≠ fb := by rintro rfl; rw [kx] at kf; cases kf
  have n6 : xb ≠ pb := by rintro rfl; rw [kx] at kp; cases kp
  have n7 : xb ≠ gb := by rintro rfl; rw [kx] at g; cases g
  have c1 : wx.cell? ⟨r, 1, none⟩ = some (.int .i64 at_) := cell_blk kr rfl
  have c2 : wx.cell? ⟨r, 2, none⟩ = some (.int .i64 ee) := cell_blk kr rfl
  have c3 : wx.cell? ⟨pb, 0, none⟩ = some (.pointer (some ⟨r, 0, none⟩)) := cell_blk kp rfl
  have c4 : wx.cell? ⟨fb, 0, none⟩ = some (.int .i64 fr) := cell_blk kf rfl
  have c5 : wx.cell? ⟨xb, 0, none⟩ = some x := cell_blk kx rfl
  have c6 : wx.cell? ⟨gb, 0, none⟩ = some (.int .i64 c) := cell_blk g rfl
  have z1 : wx.frozen? ⟨r, 1, none⟩ = false := free_blk kr
  have z2 : wx.frozen? ⟨r, 2, none⟩ = false := free_blk kr
  have z5 : wx.frozen? ⟨xb, 0, none⟩ = false := free_blk kx
  clear hr hf hp hx g kr kf kp kx hta
  have hwx := hid hwx
  clear hgb
  go_region
  have hwx := hwx.out
  subst hwx
  exact ⟨rfl, _, rfl, _, results_none rfl _ _ _, rfl, ⟨_, rfl⟩, rfl⟩

set_option maxHeartbeats 1600000 in
theorem catch_idle_u {fb pb xb : Nat} :
    CallsD Tryz.prog 118 #[.pointer (some ⟨fb, 0, none⟩), .pointer (some ⟨pb, 0, none⟩), .pointer (some ⟨xb, 0, none⟩)] .returning w fun e u' w' => e = .returned (.tuple #[]) ∧ u' = .returning ∧ w' = w.alloc (.cells #[.int .i64 0] 172) := by
  have hta : ∀ w : World, (Instr.typeAssert Value.nilIface 20 172 true).run Tryz.prog w = .ok (.tuple #[.agg #[.int .i64 0], .bool false]) w := fun _ => by kernel_rfl
  refine callsD_of_wpS Tryz.func118 rfl fun c₀ cs hu => ?_
  apply wpS_seq
  refine wpS_region_rec rfl rfl rfl (.inr ⟨by simp only [recoverD, hu], rfl, rfl⟩) ?_
  simp only [Tryz.ntmps118, List.size_toArray, List.length_cons, List.length_nil, Nat.reduceAdd, Nat.reduceSub, Array.replicate_succ,
     Array.replicate_zero, List.push_toArray, List.append_toArray, List.nil_append, List.cons_append]
  go_wp2_with fail
  refine wpS_of_wp ?_
  go_wp2_with fail
  exact ⟨rfl, .returning, by rw [← hu], _, results_none rfl _ _ _, rfl, rfl, rfl⟩

set_option maxHeartbeats 1600000 in
theorem catch_pan_s {r fb pb xb : Nat} {b : ByteArray} {at_ fr : Nat} {ee c : Int} {x : Value}
    (hr : w.heap[r]? = some (.cells #[.string b, .int .i64 at_, .int .i64 ee] 157))
    (hf : w.heap[fb]? = some (.cells #[.int .i64 fr] 3)) (hp : w.heap[pb]? = some (.cells #[.pointer (some ⟨r, 0, none⟩)] 134)) (hx : w.heap[xb]? = some (.cells #[x] 9)) :
    CallsD Tryz.prog 120 #[.pointer (some ⟨fb, 0, none⟩), .pointer (some ⟨pb, 0, none⟩), .pointer (some ⟨xb, 0, none⟩)] (.panicking (gu c)) w fun e u' w' => e = .returned (.tuple #[]) ∧ (∃ pe, u' = .panicking [{ v := pe, recovered := true }]) ∧ w' = ((((w.alloc (.cells #[.int .i64 c] 172)).setCell ⟨r, 1, none⟩ (.int .i64 fr)).setCell ⟨r, 2, none⟩ (.int .i64 c)).setCell ⟨xb, 0, none⟩ (.string ⟨#[]⟩)).drew := by
  have hta : ∀ w : World, (Instr.typeAssert (Value.iface 172 (Value.agg #[Value.int IntKind.i64 c])) 20 172 true).run Tryz.prog w = .ok (.tuple #[.agg #[.int .i64 c], .bool true]) w := fun _ => by kernel_rfl
  refine callsD_of_wpS Tryz.func120 rfl fun c₀ cs hu => ?_
  apply wpS_seq
  refine wpS_region_rec rfl rfl rfl (.inl (by simp only [recoverD, hu, gu]; exact rfl)) ?_
  simp only [Tryz.ntmps120, List.size_toArray, List.length_cons, List.length_nil, Nat.reduceAdd, Nat.reduceSub, Array.replicate_succ,
     Array.replicate_zero, List.push_toArray, List.append_toArray, List.nil_append, List.cons_append]
  go_wp2_with fail
  refine wpS_of_wp ?_
  go_wp2_with fail
  have g := blk_alloc_at w (Obj.cells #[.int .i64 c] 172) _ rfl
  have kr := blk_alloc_lt (Obj.cells #[.int .i64 c] 172) hr
  have kf := blk_alloc_lt (Obj.cells #[.int .i64 c] 172) hf
  have kp := blk_alloc_lt (Obj.cells #[.int .i64 c] 172) hp
  have kx := blk_alloc_lt (Obj.cells #[.int .i64 c] 172) hx
  generalize hwx : w.alloc (Obj.cells #[.int .i64 c] 172) = wx at g kr kf kp kx ⊢
  generalize hgb : w.heap.size = gb at g ⊢
  have n1 : r ≠ fb := by rintro rfl; rw [kr] at kf; cases kf
  have n2 : r ≠ pb := by rintro rfl; rw [kr] at kp; cases kp
  have n3 : r ≠ xb := by rintro rfl; rw [kr] at kx; cases kx
  have n4 : r ≠ gb := by rintro rfl; rw [kr] at g; cases g
  have n5 : xb ≠ fb := by rintro rfl; rw [kx] at kf; cases kf
  have n6 : xb ≠ pb := by rintro rfl; rw [kx] at kp; cases kp
  have n7 : xb ≠ gb := by rintro rfl; rw [kx] at g; cases g
  have c1 : wx.cell? ⟨r, 1, none⟩ = some (.int .i64 at_) := cell_blk kr rfl
  have c2 : wx.cell? ⟨r, 2, none⟩ = some (.int .i64 ee) := cell_blk kr rfl
  have c3 : wx.cell? ⟨pb, 0, none⟩ = some (.pointer (some ⟨r, 0, none⟩)) := cell_blk kp rfl
  have c4 : wx.cell? ⟨fb, 0, none⟩ = some (.int .i64 fr) := cell_blk kf rfl
  have c5 : wx.cell? ⟨xb, 0, none⟩ = some x := cell_blk kx rfl
  have c6 : wx.cell? ⟨gb, 0, none⟩ = some (.int .i64 c) := cell_blk g rfl
  have z1 : wx.frozen? ⟨r, 1, none⟩ = false := free_blk kr
  have z2 : wx.frozen? ⟨r, 2, none⟩ = false := free_blk kr
  have z5 : wx.frozen? ⟨xb, 0, none⟩ = false := free_blk kx
  clear hr hf hp hx g kr kf kp kx hta
  have hwx := hid hwx
  clear hgb
  go_region
  have hwx := hwx.out
  subst hwx
  exact ⟨rfl, _, rfl, _, results_none rfl _ _ _, rfl, ⟨_, rfl⟩, rfl⟩

set_option maxHeartbeats 1600000 in
theorem catch_idle_s {fb pb xb : Nat} :
    CallsD Tryz.prog 120 #[.pointer (some ⟨fb, 0, none⟩), .pointer (some ⟨pb, 0, none⟩), .pointer (some ⟨xb, 0, none⟩)] .returning w fun e u' w' => e = .returned (.tuple #[]) ∧ u' = .returning ∧ w' = w.alloc (.cells #[.int .i64 0] 172) := by
  have hta : ∀ w : World, (Instr.typeAssert Value.nilIface 20 172 true).run Tryz.prog w = .ok (.tuple #[.agg #[.int .i64 0], .bool false]) w := fun _ => by kernel_rfl
  refine callsD_of_wpS Tryz.func120 rfl fun c₀ cs hu => ?_
  apply wpS_seq
  refine wpS_region_rec rfl rfl rfl (.inr ⟨by simp only [recoverD, hu], rfl, rfl⟩) ?_
  simp only [Tryz.ntmps120, List.size_toArray, List.length_cons, List.length_nil, Nat.reduceAdd, Nat.reduceSub, Array.replicate_succ,
     Array.replicate_zero, List.push_toArray, List.append_toArray, List.nil_append, List.cons_append]
  go_wp2_with fail
  refine wpS_of_wp ?_
  go_wp2_with fail
  exact ⟨rfl, .returning, by rw [← hu], _, results_none rfl _ _ _, rfl, rfl, rfl⟩

end
end Go.Proofs.YtkiccbjngokpjaaGreat

/-
  pack.Reader: face.
-/
namespace Go.Proofs.YtkiccbjngokpjaaGreat
open Go.RowKit
set_option linter.unusedVariables false
set_option linter.unusedSimpArgs false

theorem get_behind {α : Type} (R T : List α) (k : Nat) : (R ++ T)[R.length + k]? = T[k]? := by
  rw [List.getElem?_append_right (by omega), Nat.add_sub_cancel_left]
theorem St.drop {W : Base} {w : World} {R T : List Thing} (H : St W w (R ++ T)) : St W w R := by
  have h := H.take R.length
  rwa [List.take_left'] at h
  rfl
theorem St.dropSet {W : Base} {w : World} {R T : List Thing} {k : Nat} {A : Thing} (H : St W w ((R ++ T).set (R.length + k) A)) : St W w R := by
  rw [List.set_append_right _ _ (by omega)] at H
  exact H.drop
/-- What a read that may give up comes to. -/
def ReadTo {α : Type} (V : α → Value) (W : Base) (R : List Thing) (i r : Nat) (s : RS) (x : Except Int (α × Nat)) (e : Ending) (w' : World) : Prop :=
  match x with
  | .ok (n, p) => e = .returned (V n) ∧ St W w' (R.set i (RdT r { s with at_ := p }))
  | .error c => e = .panicked (gu c) ∧ ∃ p, p ≤ s.b.size ∧ St W w' (R.set i (RdT r { s with at_ := p }))
/-- What a face comes to. -/
def RS.face {α : Type} (s : RS) (x : Except Int (α × Nat)) : RS :=
  if s.e = 0 then match x with | .ok (n, p) => { s with at_ := p } | .error c => { s with e := c } else s
def RS.got {α : Type} (s : RS) (z : α) (x : Except Int (α × Nat)) : α :=
  if s.e = 0 then match x with | .ok (n, p) => n | .error c => z else z
section
variable {W : Base} {w : World} {R : List Thing}

set_option maxHeartbeats 1600000 in
theorem st_face_u (H : St W w R) (i : Nat) {r : Nat} {s : RS} (hi : R[i]? = some (RdT r s)) {fid : FuncId} {caps : Array Value} {X : Except Int (Nat × Nat)}
    (hent : ∀ w : World, (callFunc fid caps).run Tryz.prog w = .ok (.enter fid caps) w)
    (hcall : ∀ T w', St W w' (R ++ T) → Calls Tryz.prog fid caps w' (ReadTo (fun n : Nat => Value.int .u64 n) W (R ++ T) i r s X)) :
    Calls Tryz.prog 101 #[.pointer (some ⟨r, 0, none⟩), .func (.func fid) #[] caps] w fun e w' => e = .returned ((fun n : Nat => Value.int .u64 n) (s.got 0 X)) ∧ St W w' (R.set i (RdT r (s.face X))) := by
  have hmf : ∀ (fn : Fn) (first cap : Array Value) (w : World), (Instr.makeFunc fn first cap).run Tryz.prog w = .ok (.func fn first cap) w := fun _ _ _ _ => rfl
  obtain ⟨c0, c1, c2, f, hl⟩ := H.rd i hi
  have hil := lt_of_get hi
  generalize hg : s.got 0 X = g
  generalize hs : s.face X = s'
  have hg := hid hg
  have hs := hid hs
  by_cases h0 : s.e = 0
  · rw [h0] at c2
    have h0 := hid h0
    have H := hid H
    have hcall := hid hcall
    clear f
    go_enter_defers Tryz.func101, Tryz.ntmps101
    go_wp2_with fail
    obtain ⟨T, hT, H2⟩ : ∃ T, T = [BlkT w.heap.size (.cells #[Value.pointer (some ⟨r, 0, none⟩)] 134), BlkT (w.heap.size + 1) (.cells #[Value.int .u64 0] 59), BlkT (w.heap.size + 1 + 1) (.cells #[Value.int .i64 s.at_] 3)] ∧ St W (((w.alloc (.cells #[.pointer (some ⟨r, 0, none⟩)] 134)).alloc (.cells #[Value.int .u64 0] 59)).alloc (.cells #[.int .i64 s.at_] 3)) (R ++ T) := by
      refine ⟨_, rfl, ?_⟩
      have h := ((H.out.alloc (.cells #[.pointer (some ⟨r, 0, none⟩)] 134)).allocAt (.cells #[Value.int .u64 0] 59) (w.heap.size + 1) (by simp)).allocAt (.cells #[.int .i64 s.at_] 3) (w.heap.size + 1 + 1) (by simp)
      simpa using h
    generalize ((w.alloc (.cells #[.pointer (some ⟨r, 0, none⟩)] 134)).alloc (.cells #[Value.int .u64 0] 59)).alloc (.cells #[.int .i64 s.at_] 3) = wx at H2 ⊢
    generalize w.heap.size + 1 + 1 = fb at hT ⊢
    generalize w.heap.size + 1 = xb at hT ⊢
    generalize w.heap.size = pb at hT ⊢
    refine (hcall.out T wx H2).mono ?_
    clear H2 H c0 c1 c2 hl
    rintro e w1 hx
    cases hX : X with
    | ok p =>
      obtain ⟨n, p⟩ := p
      rw [hX] at hx
      obtain ⟨rfl, H⟩ := hx
      have e1 : g = n := by simp only [← hg.out, RS.got, if_pos h0.out, hX]
      have e2 : s' = { s with at_ := p } := by simp only [← hs.out, RS.face, if_pos h0.out, hX]
      subst e1 e2
      clear hcall hX
      rw [List.set_append_left _ _ hil, hT] at H
      have hxb := H.blk _ (get_behind _ _ 1)
      have x0 : w1.cell? ⟨xb, 0, none⟩ = some (Value.int .u64 0) := cell_blk hxb rfl
      have x1 : w1.frozen? ⟨xb, 0, none⟩ = false := free_blk hxb
      have H2 := hid (H.setBlk _ (get_behind _ _ 1) 0 (Value.int .u64 g))
      have hxb2 := blk_setCell_at (i := 0) (Value.int .u64 g) hxb
      have y0 : (((w1.setCell ⟨xb, 0, none⟩ (Value.int .u64 g))).alloc (.cells #[.int .i64 0] 172)).cell? ⟨xb, 0, none⟩ = some (Value.int .u64 g) := cell_blk (blk_alloc_lt _ hxb2) rfl
      clear H hxb hxb2
      dsimp only
      go_wp2_with fail
      refine leaves_cons (by simp) (run_enter Tryz.func118 (by kernel_rfl) rfl _ _) ?_
      refine catch_idle_u.mono ?_
      rintro e u' w'' ⟨rfl, rfl, rfl⟩
      refine ⟨_, ?_, rfl, ?_⟩
      · simp [results, Tryz.results101, go_sem, y0]
      · exact (H2.out.alloc_ _).dropSet
    | error c =>
      rw [hX] at hx
      obtain ⟨rfl, p, hp, H⟩ := hx
      have e1 : g = 0 := by simp only [← hg.out, RS.got, if_pos h0.out, hX]
      have e2 : s' = { s with e := c } := by simp only [← hs.out, RS.face, if_pos h0.out, hX]
      subst e1 e2
      clear hcall hX
      rw [List.set_append_left _ _ hil, hT] at H
      have hib : i < (R.set i (RdT r { s with at_ := p }) ++ [BlkT pb (.cells #[Value.pointer (some ⟨r, 0, none⟩)] 134), BlkT xb (.cells #[Value.int .u64 0] 59), BlkT fb (.cells #[Value.int .i64 s.at_] 3)]).length := by simp; omega
      have hi2 : (R.set i (RdT r { s with at_ := p }) ++ [BlkT pb (.cells #[Value.pointer (some ⟨r, 0, none⟩)] 134), BlkT xb (.cells #[Value.int .u64 0] 59), BlkT fb (.cells #[Value.int .i64 s.at_] 3)])[i]? = some (RdT r { s with at_ := p }) := by
        rw [List.getElem?_append_left (by simpa using hil), List.getElem?_set_self hil]
      have hpb := H.blk _ (get_behind _ _ 0)
      have hxb := H.blk _ (get_behind _ _ 1)
      have hfb := H.blk _ (get_behind _ _ 2)
      have hrb := H.blk i hi2
      have H6 : St W (((((w1.alloc (.cells #[.int .i64 c] 172)).setCell ⟨r, 1, none⟩ (.int .i64 s.at_)).setCell ⟨r, 2, none⟩ (.int .i64 c)).setCell ⟨xb, 0, none⟩ (Value.int .u64 0)).drew) (R.set i (RdT r { s with e := c })) := by
        have H5 := ((H.alloc_ (.cells #[.int .i64 c] 172)).setBlk i hi2 1 (.int .i64 s.at_)).setBlk i (List.getElem?_set_self hib) 2 (.int .i64 c)
        rw [List.set_set, List.set_append_left _ _ (by simpa using hil), List.set_set] at H5
        exact (H5.setBlk _ (get_behind _ _ 1) 0 (Value.int .u64 0)).drew.dropSet
      have y0 : ((((((w1.alloc (.cells #[.int .i64 c] 172)).setCell ⟨r, 1, none⟩ (.int .i64 s.at_)).setCell ⟨r, 2, none⟩ (.int .i64 c)).setCell ⟨xb, 0, none⟩ (Value.int .u64 0)).drew)).cell? ⟨xb, 0, none⟩ = some (Value.int .u64 0) := by
        have hrx : xb ≠ r := ne_of_elem hxb hrb (by decide)
        exact cell_blk (blk_drew (blk_setCell_at (i := 0) _ (blk_setCell_ne _ (blk_setCell_ne _ (blk_alloc_lt _ hxb) hrx) hrx))) rfl
      dsimp only
      have H6 := hid H6
      clear H
      go_wp2_with fail
      refine leaves_cons (by simp) (run_enter Tryz.func118 (by kernel_rfl) rfl _ _) ?_
      refine (catch_pan_u hrb hfb hpb hxb).mono ?_
      rintro e u' w'' ⟨rfl, ⟨pe, rfl⟩, rfl⟩
      refine ⟨_, ?_, rfl, H6.out⟩
      simp [results, Tryz.results101, go_sem, y0]
  · have e1 : g = 0 := by simp only [← hg.out, RS.got, if_neg h0]
    have e2 : s' = s := by simp only [← hs.out, RS.face, if_neg h0]
    rw [e1, e2, things_set_self hi]
    have e3 : (s.e == 0) = false := by rw [beq_eq_false_iff_ne]; exact h0
    have H := hid H
    clear hcall hs hg
    have z := hid (H.out.alloc_ (.cells #[.pointer (some ⟨r, 0, none⟩)] 134))
    go_enter_defers Tryz.func101, Tryz.ntmps101
    go_wp2_with fail
    refine ⟨_, ?_, rfl, (H.out.alloc_ _).alloc_ _⟩
    simp [results, Tryz.results101, go_sem]
set_option maxHeartbeats 1600000 in
theorem st_face_s (H : St W w R) (i : Nat) {r : Nat} {s : RS} (hi : R[i]? = some (RdT r s)) {fid : FuncId} {caps : Array Value} {X : Except Int (ByteArray × Nat)}
    (hent : ∀ w : World, (callFunc fid caps).run Tryz.prog w = .ok (.enter fid caps) w)
    (hcall : ∀ T w', St W w' (R ++ T) → Calls Tryz.prog fid caps w' (ReadTo (fun n : ByteArray => Value.string n) W (R ++ T) i r s X)) :
    Calls Tryz.prog 110 #[.pointer (some ⟨r, 0, none⟩), .func (.func fid) #[] caps] w fun e w' => e = .returned ((fun n : ByteArray => Value.string n) (s.got ⟨#[]⟩ X)) ∧ St W w' (R.set i (RdT r (s.face X))) := by
  have hmf : ∀ (fn : Fn) (first cap : Array Value) (w : World), (Instr.makeFunc fn first cap).run Tryz.prog w = .ok (.func fn first cap) w := fun _ _ _ _ => rfl
  obtain ⟨c0, c1, c2, f, hl⟩ := H.rd i hi
  have hil := lt_of_get hi
  generalize hg : s.got ⟨#[]⟩ X = g
  generalize hs : s.face X = s'
  have hg := hid hg
  have hs := hid hs
  by_cases h0 : s.e = 0
  · rw [h0] at c2
    have h0 := hid h0
    have H := hid H
    have hcall := hid hcall
    clear f
    go_enter_defers Tryz.func110, Tryz.ntmps110
    go_wp2_with fail
    obtain ⟨T, hT, H2⟩ : ∃ T, T = [BlkT w.heap.size (.cells #[Value.pointer (some ⟨r, 0, none⟩)] 134), BlkT (w.heap.size + 1) (.cells #[Value.string ⟨#[]⟩] 9), BlkT (w.heap.size + 1 + 1) (.cells #[Value.int .i64 s.at_] 3)] ∧ St W (((w.alloc (.cells #[.pointer (some ⟨r, 0, none⟩)] 134)).alloc (.cells #[Value.string ⟨#[]⟩] 9)).alloc (.cells #[.int .i64 s.at_] 3)) (R ++ T) := by
      refine ⟨_, rfl, ?_⟩
      have h := ((H.out.alloc (.cells #[.pointer (some ⟨r, 0, none⟩)] 134)).allocAt (.cells #[Value.string ⟨#[]⟩] 9) (w.heap.size + 1) (by simp)).allocAt (.cells #[.int .i64 s.at_] 3) (w.heap.size + 1 + 1) (by simp)
      simpa using h
    generalize ((w.alloc (.cells #[.pointer (some ⟨r, 0, none⟩)] 134)).alloc (.cells #[Value.string ⟨#[]⟩] 9)).alloc (.cells #[.int .i64 s.at_] 3) = wx at H2 ⊢
    generalize w.heap.size + 1 + 1 = fb at hT ⊢
    generalize w.heap.size + 1 = xb at hT ⊢
    generalize w.heap.size = pb at hT ⊢
    refine (hcall.out T wx H2).mono ?_
    clear H2 H c0 c1 c2 hl
    rintro e w1 hx
    cases hX : X with
    | ok p =>
      obtain ⟨n, p⟩ := p
      rw [hX] at hx
      obtain ⟨rfl, H⟩ := hx
      have e1 : g = n := by simp only [← hg.out, RS.got, if_pos h0.out, hX]
      have e2 : s' = { s with at_ := p } := by simp only [← hs.out, RS.face, if_pos h0.out, hX]
      subst e1 e2
      clear hcall hX
      rw [List.set_append_left _ _ hil, hT] at H
      have hxb := H.blk _ (get_behind _ _ 1)
      have x0 : w1.cell? ⟨xb, 0, none⟩ = some (Value.string ⟨#[]⟩) := cell_blk hxb rfl
      have x1 : w1.frozen? ⟨xb, 0, none⟩ = false := free_blk hxb
      have H2 := hid (H.setBlk _ (get_behind _ _ 1) 0 (Value.string g))
      have hxb2 := blk_setCell_at (i := 0) (Value.string g) hxb
      have y0 : (((w1.setCell ⟨xb, 0, none⟩ (Value.string g))).alloc (.cells #[.int .i64 0] 172)).cell? ⟨xb, 0, none⟩ = some (Value.string g) := cell_blk (blk_alloc_lt _ hxb2) rfl
      clear H hxb hxb2
      dsimp only
      go_wp2_with fail
      refine leaves_cons (by simp) (run_enter Tryz.func120 (by kernel_rfl) rfl _ _) ?_
      refine catch_idle_s.mono ?_
      rintro e u' w'' ⟨rfl, rfl, rfl⟩
      refine ⟨_, ?_, rfl, ?_⟩
      · simp [results, Tryz.results110, go_sem, y0]
      · exact (H2.out.alloc_ _).dropSet
    | error c =>
      rw [hX] at hx
      obtain ⟨rfl, p, hp, H⟩ := hx
      have e1 : g = ⟨#[]⟩ := by simp only [← hg.out, RS.got, if_pos h0.out, hX]
      have e2 : s' = { s with e := c } := by simp only [← hs.out, RS.face, if_pos h0.out, hX]
      subst e1 e2
      clear hcall hX
      rw [List.set_append_left _ _ hil, hT] at H
      have hib : i < (R.set i (RdT r { s with at_ := p }) ++ [BlkT pb (.cells #[Value.pointer (some ⟨r, 0, none⟩)] 134), BlkT xb (.cells #[Value.string ⟨#[]⟩] 9), BlkT fb (.cells #[Value.int .i64 s.at_] 3)]).length := by simp; omega
      have hi2 : (R.set i (RdT r { s with at_ := p }) ++ [BlkT pb (.cells #[Value.pointer (some ⟨r, 0, none⟩)] 134), BlkT xb (.cells #[Value.string ⟨#[]⟩] 9), BlkT fb (.cells #[Value.int .i64 s.at_] 3)])[i]? = some (RdT r { s with at_ := p }) := by
        rw [List.getElem?_append_left (by simpa using hil), List.getElem?_set_self hil]
      have hpb := H.blk _ (get_behind _ _ 0)
      have hxb := H.blk _ (get_behind _ _ 1)
      have hfb := H.blk _ (get_behind _ _ 2)
      have hrb := H.blk i hi2
      have H6 : St W (((((w1.alloc (.cells #[.int .i64 c] 172)).setCell ⟨r, 1, none⟩ (.int .i64 s.at_)).setCell ⟨r, 2, none⟩ (.int .i64 c)).setCell ⟨xb, 0, none⟩ (Value.string ⟨#[]⟩)).drew) (R.set i (RdT r { s with e := c })) := by
        have H5 := ((H.alloc_ (.cells #[.int .i64 c] 172)).setBlk i hi2 1 (.int .i64 s.at_)).setBlk i (List.getElem?_set_self hib) 2 (.int .i64 c)
        rw [List.set_set, List.set_append_left _ _ (by simpa using hil), List.set_set] at H5
        exact (H5.setBlk _ (get_behind _ _ 1) 0 (Value.string ⟨#[]⟩)).drew.dropSet
      have y0 : ((((((w1.alloc (.cells #[.int .i64 c] 172)).setCell ⟨r, 1, none⟩ (.int .i64 s.at_)).setCell ⟨r, 2, none⟩ (.int .i64 c)).setCell ⟨xb, 0, none⟩ (Value.string ⟨#[]⟩)).drew)).cell? ⟨xb, 0, none⟩ = some (Value.string ⟨#[]⟩) := by
        have hrx : xb ≠ r := ne_of_elem hxb hrb (by decide)
        exact cell_blk (blk_drew (blk_setCell_at (i := 0) _ (blk_setCell_ne _ (blk_setCell_ne _ (blk_alloc_lt _ hxb) hrx) hrx))) rfl
      dsimp only
      have H6 := hid H6
      clear H
      go_wp2_with fail
      refine leaves_cons (by simp) (run_enter Tryz.func120 (by kernel_rfl) rfl _ _) ?_
      refine (catch_pan_s hrb hfb hpb hxb).mono ?_
      rintro e u' w'' ⟨rfl, ⟨pe, rfl⟩, rfl⟩
      refine ⟨_, ?_, rfl, H6.out⟩
      simp [results, Tryz.results110, go_sem, y0]
  · have e1 : g = ⟨#[]⟩ := by simp only [← hg.out, RS.got, if_neg h0]
    have e2 : s' = s := by simp only [← hs.out, RS.face, if_neg h0]
    rw [e1, e2, things_set_self hi]
    have e3 : (s.e == 0) = false := by rw [beq_eq_false_iff_ne]; exact h0
    have H := hid H
    clear hcall hs hg
    have z := hid (H.out.alloc_ (.cells #[.pointer (some ⟨r, 0, none⟩)] 134))
    go_enter_defers Tryz.func110, Tryz.ntmps110
    go_wp2_with fail
    refine ⟨_, ?_, rfl, (H.out.alloc_ _).alloc_ _⟩
    simp [results, Tryz.results110, go_sem]
end
end Go.Proofs.YtkiccbjngokpjaaGreat

/-
  pack.Reader: Num, list, List.
-/
namespace Go.Proofs.YtkiccbjngokpjaaGreat
open Go.RowKit
set_option linter.unusedVariables false
set_option linter.unusedSimpArgs false

section
variable {W : Base} {w : World} {R : List Thing}

theorem numTo_read {i r : Nat} {s : RS} {X : Except Int (Nat × Nat)} {e : Ending} {w' : World} (h : NumTo W R i r s X e w') : ReadTo (fun n : Nat => Value.int .u64 n) W R i r s X e w' := by
  cases X with
  | ok p => exact h
  | error c => exact h

theorem rdMost_le {b : ByteArray} {at_ : Nat} {most over : Int} {n p : Nat} (h : rdMost b at_ most over = .ok (n, p)) : (n : Int) ≤ most := by
  unfold rdMost at h
  split at h
  · cases h
  · split at h
    · cases h
    · cases h; omega

theorem st_num1 (H : St W w R) (i : Nat) {r : Nat} {s : RS} (hi : R[i]? = some (RdT r s)) (hw : s.wf) {j k pb nb : Nat} {most : Nat} (hm : most < 18446744073709551616)
    (hj : R[j]? = some (BlkT pb (.cells #[Value.pointer (some ⟨r, 0, none⟩)] 134))) (hk : R[k]? = some (BlkT nb (.cells #[Value.int .u64 most] 59))) :
    Calls Tryz.prog 102 #[.pointer (some ⟨pb, 0, none⟩), .pointer (some ⟨nb, 0, none⟩)] w (ReadTo (fun n : Nat => Value.int .u64 n) W R i r s (rdMost s.b s.at_ most 21)) := by
  have p0 : w.cell? ⟨pb, 0, none⟩ = some (.pointer (some ⟨r, 0, none⟩)) := cell_blk (H.blk j hj) rfl
  have n0 : w.cell? ⟨nb, 0, none⟩ = some (.int .u64 most) := cell_blk (H.blk k hk) rfl
  generalize hX : rdMost s.b s.at_ most 21 = X
  have hc := hid (st_number H i hi hw most hm 21)
  rw [hX] at hc
  have hX := hid hX
  clear H hi hj hk
  go_enter Tryz.func102, Tryz.ntmps102
  go_wp2_with fail
  refine hc.out.mono ?_
  rintro e w1 h0
  have h1 := numTo_read h0
  clear h0
  cases X with
  | ok p =>
    obtain ⟨rfl, h⟩ := h1
    dsimp only
    have hh := hid h
    clear h
    go_wp2_with fail
    go_ret
    exact ⟨rfl, hh.out⟩
  | error c =>
    obtain ⟨rfl, h⟩ := h1
    dsimp only
    have hh := hid h
    clear h
    go_wp2_with fail
    exact ⟨rfl, rfl, hh.out⟩

theorem enter_num1 (args : Array Value) (w : World) : (callFunc 102 args).run Tryz.prog w = .ok (.enter 102 args) w := run_enter Tryz.func102 (by kernel_rfl) rfl args w

theorem st_Num (H : St W w R) (i : Nat) {r : Nat} {s : RS} (hi : R[i]? = some (RdT r s)) (hw : s.wf) {most : Nat} (hm : most < 18446744073709551616) :
    Calls Tryz.prog 66 #[.pointer (some ⟨r, 0, none⟩), .int .u64 most] w fun e w' => e = .returned (.int .u64 (s.got 0 (rdMost s.b s.at_ most 21) : Nat)) ∧ St W w' (R.set i (RdT r (s.face (rdMost s.b s.at_ most 21)))) := by
  have hmf : ∀ (fn : Fn) (first cap : Array Value) (w : World), (Instr.makeFunc fn first cap).run Tryz.prog w = .ok (.func fn first cap) w := fun _ _ _ _ => rfl
  generalize hX : rdMost s.b s.at_ most 21 = X
  generalize hs : s.face X = s'
  generalize hg : s.got 0 X = g
  have hX := hid hX
  have hs := hid hs
  have hg := hid hg
  have hil := lt_of_get hi
  have H := hid H
  go_enter Tryz.func66, Tryz.ntmps66
  go_wp2_with fail
  have H2 := (H.out.alloc (.cells #[Value.pointer (some ⟨r, 0, none⟩)] 134)).allocAt (.cells #[Value.int .u64 most] 59) (w.heap.size + 1) (by simp)
  rw [List.append_assoc] at H2
  refine (st_face_u (X := X) H2 i (by rw [List.getElem?_append_left hil]; exact hi) (enter_num1 _) ?_).mono ?_
  · intro T w' H3
    rw [← hX.out]
    refine st_num1 H3 i ?_ hw (j := R.length + 0) (k := R.length + 1) hm ?_ ?_
    · rw [List.append_assoc, List.getElem?_append_left hil]; exact hi
    · rw [List.append_assoc, get_behind]; rfl
    · rw [List.append_assoc, get_behind]; rfl
  rintro e w1 ⟨rfl, H4⟩
  rw [hg.out, hs.out, List.set_append_left _ _ hil] at *
  have H4 := hid H4.drop
  go_wp2_with fail
  go_ret
  exact ⟨rfl, H4.out⟩

set_option maxHeartbeats 1600000 in
theorem st_list (H : St W w R) (i : Nat) {r : Nat} {s : RS} (hi : R[i]? = some (RdT r s)) (hw : s.wf) (m : Int) (hm : m ≤ 9223372036854775807) :
    Calls Tryz.prog 114 #[.pointer (some ⟨r, 0, none⟩), .int .i64 m] w (ReadTo (fun n : Nat => Value.int .i64 n) W R i r s (rdMost s.b s.at_ (max 0 m) 23)) := by
  obtain ⟨M, hM⟩ : ∃ M : Nat, max 0 m = (M : Int) := ⟨(max 0 m).toNat, by omega⟩
  have hm64 : M ≤ 9223372036854775807 := by omega
  have hc := st_number H i hi hw M (by omega) 23
  rw [hM]
  generalize hX : rdMost s.b s.at_ M 23 = X
  rw [hX] at hc
  have hc := hid hc
  have hle : ∀ n p, X = .ok (n, p) → (n : Int) ≤ 9223372036854775807 := fun n p h => by
    have := rdMost_le (hX.trans h); omega
  have hle := hid hle
  clear H hi hX
  by_cases h0 : 0 < m
  · have e1 : m = (M : Int) := by omega
    subst e1
    clear hM
    go_enter Tryz.func114, Tryz.ntmps114
    go_wp2_with fail
    refine hc.out.mono ?_
    rintro e w1 h0
    have h1 := numTo_read h0
    clear h0
    cases X with
    | ok p =>
      obtain ⟨rfl, h⟩ := h1
      dsimp only
      have hh := hid h
      have hw := IntWalk.i64_in p.1 (by have := hle.out p.1 p.2 rfl; omega)
      clear h hle
      go_wp2_with fail
      go_ret
      exact ⟨rfl, hh.out⟩
    | error c =>
      obtain ⟨rfl, h⟩ := h1
      dsimp only
      have hh := hid h
      clear h
      go_wp2_with fail
      exact ⟨rfl, rfl, hh.out⟩
  · have e1 : M = 0 := by omega
    subst e1
    have g1 : ¬ 0 < m := h0
    clear hM
    go_enter Tryz.func114, Tryz.ntmps114
    go_wp2_with fail
    refine hc.out.mono ?_
    rintro e w1 h0
    have h1 := numTo_read h0
    clear h0
    cases X with
    | ok p =>
      obtain ⟨rfl, h⟩ := h1
      dsimp only
      have hh := hid h
      have hw := IntWalk.i64_in p.1 (by have := hle.out p.1 p.2 rfl; omega)
      clear h hle
      go_wp2_with fail
      go_ret
      exact ⟨rfl, hh.out⟩
    | error c =>
      obtain ⟨rfl, h⟩ := h1
      dsimp only
      have hh := hid h
      clear h
      go_wp2_with fail
      exact ⟨rfl, rfl, hh.out⟩

end
end Go.Proofs.YtkiccbjngokpjaaGreat
