/-
  pack.Reader: face: the deferred closure.
-/
import Derived.Test.YtdobbmlaokolmaaPk3
import Derived.Defers
import Derived.Recover
namespace Go.Proofs.Ytdobbmlaokolmaa
open Go.RowKit
set_option linter.unusedVariables false
set_option linter.unusedSimpArgs false

/-- A region that begins with 'recover'. -/
theorem wpS_region_rec {P : Program} {Q : Exit → Act → List Frame → World → Prop} {a : Act} {cs cs' : List Frame} {w : World} {id : Nat} {ops : Array Oper} {o : Oper} {rest : List Oper} {v : Value}
    (hops : ops.toList = o :: rest) (hw : Region.wanted o (yielded ops a.tmps) = true) (hr : (execOp a.eval o).run P w = .ok .recover w)
    (hv : recoverD cs = some (v, cs') ∨ (recoverD cs = none ∧ v = .nilIface ∧ cs' = cs))
    (h : wpList P ops (fun e a' w' => Q e a' cs' w') rest (a.put o.dst v) w) : (Code.region id ops false).wpS P Q a cs w := by
  intro b k hb hro
  have ho : ops[0]? = some o := by rw [← Array.getElem?_toList, hops]; rfl
  have hsz : List.range ops.size = 0 :: List.range' 1 rest.length := by
    rw [← Array.length_toList, hops, List.range_eq_range', List.length_cons, List.range'_succ]
  have hl := wpOps_eq_wpList (P := P) (ops := ops) (Q := fun e a' w' => Q e a' cs' w') rest 1 (fun j => by rw [← Array.getElem?_toList, hops, Nat.add_comm, List.getElem?_cons_succ])
  rw [← hl] at h
  obtain ⟨e, a', w', hq, harr⟩ := wp_ops _ _ _ h b k cs'
  refine ⟨e, a', cs', w', hq, .of_steps (.head (step_region (id := id)) (.one (step_lone_go ?_))) harr⟩
  have hfin : ∀ v, (b.at a (.inRegion ops (0 :: List.range' 1 rest.length) :: k)).finish v = b.at (a.put o.dst v) (.inRegion ops (List.range' 1 rest.length) :: k) := by
    intro v; rw [Frame.finish_at, ho]; rfl
  have hk : (b.at a (.inRegion ops (0 :: List.range' 1 rest.length) :: k)).kind = .deferred := hb
  have htr := tryRecover_deferred hk cs
  rw [hsz, stepG_op ho hw, ← hfin]
  rcases hv with hv | ⟨hv, rfl, rfl⟩
  · simp only [Frame.at] at htr ⊢
    simp [stepG.apply, hr, htr, hv]
  · simp only [Frame.at] at htr ⊢
    simp [stepG.apply, hr, htr, hv]

section
variable {W : Base} {w : World} {R : List Thing}

set_option maxHeartbeats 1600000 in
theorem catch_pan_u {r fb pb xb : Nat} {b : ByteArray} {at_ fr : Nat} {ee c : Int} {x : Value}
    (hr : w.heap[r]? = some (.cells #[.string b, .int .i64 at_, .int .i64 ee] 77))
    (hf : w.heap[fb]? = some (.cells #[.int .i64 fr] 3)) (hp : w.heap[pb]? = some (.cells #[.pointer (some ⟨r, 0, none⟩)] 52)) (hx : w.heap[xb]? = some (.cells #[x] 22)) :
    CallsD Try.prog 84 #[.pointer (some ⟨fb, 0, none⟩), .pointer (some ⟨pb, 0, none⟩), .pointer (some ⟨xb, 0, none⟩)] (.panicking (gu c)) w fun e u' w' => e = .returned (.tuple #[]) ∧ (∃ pe, u' = .panicking [{ v := pe, recovered := true }]) ∧ w' = ((((w.alloc (.cells #[.int .i64 c] 99)).setCell ⟨r, 1, none⟩ (.int .i64 fr)).setCell ⟨r, 2, none⟩ (.int .i64 c)).setCell ⟨xb, 0, none⟩ (.int .u64 0)).drew := by
  have hta : ∀ w : World, (Instr.typeAssert (Value.iface 99 (Value.agg #[Value.int IntKind.i64 c])) 20 99 true).run Try.prog w = .ok (.tuple #[.agg #[.int .i64 c], .bool true]) w := fun _ => by kernel_rfl
  refine callsD_of_wpS Try.func84 rfl fun c₀ cs hu => ?_
  apply wpS_seq
  refine wpS_region_rec rfl rfl rfl (.inl (by simp only [recoverD, hu, gu]; exact rfl)) ?_
  simp only [Try.ntmps84, List.size_toArray, List.length_cons, List.length_nil, Nat.reduceAdd, Nat.reduceSub, Array.replicate_succ,
     Array.replicate_zero, List.push_toArray, List.append_toArray, List.nil_append, List.cons_append]
  go_wp2_with fail
  refine wpS_of_wp ?_
  go_wp2_with fail
  have g := blk_alloc_at w (Obj.cells #[.int .i64 c] 99) _ rfl
  have kr := blk_alloc_lt (Obj.cells #[.int .i64 c] 99) hr
  have kf := blk_alloc_lt (Obj.cells #[.int .i64 c] 99) hf
  have kp := blk_alloc_lt (Obj.cells #[.int .i64 c] 99) hp
  have kx := blk_alloc_lt (Obj.cells #[.int .i64 c] 99) hx
  generalize hwx : w.alloc (Obj.cells #[.int .i64 c] 99) = wx at g kr kf kp kx ⊢
  generalize hgb : w.heap.size = gb at g ⊢
  have n1 : r ≠ fb := by rintro rfl; rw [kr] at kf; cases kf
  have n2 : r ≠ pb := by rintro rfl; rw [kr] at kp; cases kp
  have n3 : r ≠ xb := by rintro rfl; rw [kr] at kx; cases kx
  have n4 : r ≠ gb := by rintro rfl; rw [kr] at g; cases g
  have n5 : xb ≠ fb := by rintro rfl; rw [kx] at kf; cases kf
  have n6 : xb ≠ pb := by rintro rfl; rw [kx] at kp; cases kp
  have n7 : xb ≠ gb := by rintro rfl; rw [kx] at g; cases g
  have c1 : wx.cell? ⟨r, 1, none⟩ = some (.int .i64 at_) := cell_blk kr rfl
  have c2 : wx.cell? ⟨r, 2, none⟩ = some (.int .i64 ee) := cell_blk kr rfl
  have c3 : wx.cell? ⟨pb, 0, none⟩ = some (.pointer (some ⟨r, 0, none⟩)) := cell_blk kp rfl
  have c4 : wx.cell? ⟨fb, 0, none⟩ = some (.int .i64 fr) := cell_blk kf rfl
  have c5 : wx.cell? ⟨xb, 0, none⟩ = some x := cell_blk kx rfl
  have c6 : wx.cell? ⟨gb, 0, none⟩ = some (.int .i64 c) := cell_blk g rfl
  have z1 : wx.frozen? ⟨r, 1, none⟩ = false := free_blk kr
  have z2 : wx.frozen? ⟨r, 2, none⟩ = false := free_blk kr
  have z5 : wx.frozen? ⟨xb, 0, none⟩ = false := free_blk kx
  clear hr hf hp hx g kr kf kp kx hta
  have hwx := hid hwx
  clear hgb
  go_region
  have hwx := hwx.out
  subst hwx
  exact ⟨rfl, _, rfl, _, results_none rfl _ _ _, rfl, ⟨_, rfl⟩, rfl⟩

set_option maxHeartbeats 1600000 in
theorem catch_idle_u {fb pb xb : Nat} :
    CallsD Try.prog 84 #[.pointer (some ⟨fb, 0, none⟩), .pointer (some ⟨pb, 0, none⟩), .pointer (some ⟨xb, 0, none⟩)] .returning w fun e u' w' => e = .returned (.tuple #[]) ∧ u' = .returning ∧ w' = w.alloc (.cells #[.int .i64 0] 99) := by
  have hta : ∀ w : World, (Instr.typeAssert Value.nilIface 20 99 true).run Try.prog w = .ok (.tuple #[.agg #[.int .i64 0], .bool false]) w := fun _ => by kernel_rfl
  refine callsD_of_wpS Try.func84 rfl fun c₀ cs hu => ?_
  apply wpS_seq
  refine wpS_region_rec rfl rfl rfl (.inr ⟨by simp only [recoverD, hu], rfl, rfl⟩) ?_
  simp only [Try.ntmps84, List.size_toArray, List.length_cons, List.length_nil, Nat.reduceAdd, Nat.reduceSub, Array.replicate_succ,
     Array.replicate_zero, List.push_toArray, List.append_toArray, List.nil_append, List.cons_append]
  go_wp2_with fail
  refine wpS_of_wp ?_
  go_wp2_with fail
  exact ⟨rfl, .returning, by rw [← hu], _, results_none rfl _ _ _, rfl, rfl, rfl⟩
set_option maxHeartbeats 1600000 in
theorem catch_pan_i {r fb pb xb : Nat} {b : ByteArray} {at_ fr : Nat} {ee c : Int} {x : Value}
    (hr : w.heap[r]? = some (.cells #[.string b, .int .i64 at_, .int .i64 ee] 77))
    (hf : w.heap[fb]? = some (.cells #[.int .i64 fr] 3)) (hp : w.heap[pb]? = some (.cells #[.pointer (some ⟨r, 0, none⟩)] 52)) (hx : w.heap[xb]? = some (.cells #[x] 3)) (hne : xb ≠ fb) :
    CallsD Try.prog 87 #[.pointer (some ⟨fb, 0, none⟩), .pointer (some ⟨pb, 0, none⟩), .pointer (some ⟨xb, 0, none⟩)] (.panicking (gu c)) w fun e u' w' => e = .returned (.tuple #[]) ∧ (∃ pe, u' = .panicking [{ v := pe, recovered := true }]) ∧ w' = ((((w.alloc (.cells #[.int .i64 c] 99)).setCell ⟨r, 1, none⟩ (.int .i64 fr)).setCell ⟨r, 2, none⟩ (.int .i64 c)).setCell ⟨xb, 0, none⟩ (.int .i64 0)).drew := by
  have hta : ∀ w : World, (Instr.typeAssert (Value.iface 99 (Value.agg #[Value.int IntKind.i64 c])) 20 99 true).run Try.prog w = .ok (.tuple #[.agg #[.int .i64 c], .bool true]) w := fun _ => by kernel_rfl
  refine callsD_of_wpS Try.func87 rfl fun c₀ cs hu => ?_
  apply wpS_seq
  refine wpS_region_rec rfl rfl rfl (.inl (by simp only [recoverD, hu, gu]; exact rfl)) ?_
  simp only [Try.ntmps87, List.size_toArray, List.length_cons, List.length_nil, Nat.reduceAdd, Nat.reduceSub, Array.replicate_succ,
     Array.replicate_zero, List.push_toArray, List.append_toArray, List.nil_append, List.cons_append]
  go_wp2_with fail
  refine wpS_of_wp ?_
  go_wp2_with fail
  have g := blk_alloc_at w (Obj.cells #[.int .i64 c] 99) _ rfl
  have kr := blk_alloc_lt (Obj.cells #[.int .i64 c] 99) hr
  have kf := blk_alloc_lt (Obj.cells #[.int .i64 c] 99) hf
  have kp := blk_alloc_lt (Obj.cells #[.int .i64 c] 99) hp
  have kx := blk_alloc_lt (Obj.cells #[.int .i64 c] 99) hx
  generalize hwx : w.alloc (Obj.cells #[.int .i64 c] 99) = wx at g kr kf kp kx ⊢
  generalize hgb : w.heap.size = gb at g ⊢
  have n1 : r ≠ fb := by rintro rfl; rw [kr] at kf; cases kf
  have n2 : r ≠ pb := by rintro rfl; rw [kr] at kp; cases kp
  have n3 : r ≠ xb := by rintro rfl; rw [kr] at kx; cases kx
  have n4 : r ≠ gb := by rintro rfl; rw [kr] at g; cases g
  have n5 : xb ≠ fb := hne
  have n6 : xb ≠ pb := by rintro rfl; rw [kx] at kp; cases kp
  have n7 : xb ≠ gb := by rintro rfl; rw [kx] at g; cases g
  have c1 : wx.cell? ⟨r, 1, none⟩ = some (.int .i64 at_) := cell_blk kr rfl
  have c2 : wx.cell? ⟨r, 2, none⟩ = some (.int .i64 ee) := cell_blk kr rfl
  have c3 : wx.cell? ⟨pb, 0, none⟩ = some (.pointer (some ⟨r, 0, none⟩)) := cell_blk kp rfl
  have c4 : wx.cell? ⟨fb, 0, none⟩ = some (.int .i64 fr) := cell_blk kf rfl
  have c5 : wx.cell? ⟨xb, 0, none⟩ = some x := cell_blk kx rfl
  have c6 : wx.cell? ⟨gb, 0, none⟩ = some (.int .i64 c) := cell_blk g rfl
  have z1 : wx.frozen? ⟨r, 1, none⟩ = false := free_blk kr
  have z2 : wx.frozen? ⟨r, 2, none⟩ = false := free_blk kr
  have z5 : wx.frozen? ⟨xb, 0, none⟩ = false := free_blk kx
  clear hr hf hp hx g kr kf kp kx hta
  have hwx := hid hwx
  clear hgb
  go_region
  have hwx := hwx.out
  subst hwx
  exact ⟨rfl, _, rfl, _, results_none rfl _ _ _, rfl, ⟨_, rfl⟩, rfl⟩

set_option maxHeartbeats 1600000 in
theorem catch_idle_i {fb pb xb : Nat} :
    CallsD Try.prog 87 #[.pointer (some ⟨fb, 0, none⟩), .pointer (some ⟨pb, 0, none⟩), .pointer (some ⟨xb, 0, none⟩)] .returning w fun e u' w' => e = .returned (.tuple #[]) ∧ u' = .returning ∧ w' = w.alloc (.cells #[.int .i64 0] 99) := by
  have hta : ∀ w : World, (Instr.typeAssert Value.nilIface 20 99 true).run Try.prog w = .ok (.tuple #[.agg #[.int .i64 0], .bool false]) w := fun _ => by kernel_rfl
  refine callsD_of_wpS Try.func87 rfl fun c₀ cs hu => ?_
  apply wpS_seq
  refine wpS_region_rec rfl rfl rfl (.inr ⟨by simp only [recoverD, hu], rfl, rfl⟩) ?_
  simp only [Try.ntmps87, List.size_toArray, List.length_cons, List.length_nil, Nat.reduceAdd, Nat.reduceSub, Array.replicate_succ,
     Array.replicate_zero, List.push_toArray, List.append_toArray, List.nil_append, List.cons_append]
  go_wp2_with fail
  refine wpS_of_wp ?_
  go_wp2_with fail
  exact ⟨rfl, .returning, by rw [← hu], _, results_none rfl _ _ _, rfl, rfl, rfl⟩
set_option maxHeartbeats 1600000 in
theorem catch_pan_s {r fb pb xb : Nat} {b : ByteArray} {at_ fr : Nat} {ee c : Int} {x : Value}
    (hr : w.heap[r]? = some (.cells #[.string b, .int .i64 at_, .int .i64 ee] 77))
    (hf : w.heap[fb]? = some (.cells #[.int .i64 fr] 3)) (hp : w.heap[pb]? = some (.cells #[.pointer (some ⟨r, 0, none⟩)] 52)) (hx : w.heap[xb]? = some (.cells #[x] 9)) :
    CallsD Try.prog 85 #[.pointer (some ⟨fb, 0, none⟩), .pointer (some ⟨pb, 0, none⟩), .pointer (some ⟨xb, 0, none⟩)] (.panicking (gu c)) w fun e u' w' => e = .returned (.tuple #[]) ∧ (∃ pe, u' = .panicking [{ v := pe, recovered := true }]) ∧ w' = ((((w.alloc (.cells #[.int .i64 c] 99)).setCell ⟨r, 1, none⟩ (.int .i64 fr)).setCell ⟨r, 2, none⟩ (.int .i64 c)).setCell ⟨xb, 0, none⟩ (.string ⟨#[]⟩)).drew := by
  have hta : ∀ w : World, (Instr.typeAssert (Value.iface 99 (Value.agg #[Value.int IntKind.i64 c])) 20 99 true).run Try.prog w = .ok (.tuple #[.agg #[.int .i64 c], .bool true]) w := fun _ => by kernel_rfl
  refine callsD_of_wpS Try.func85 rfl fun c₀ cs hu => ?_
  apply wpS_seq
  refine wpS_region_rec rfl rfl rfl (.inl (by simp only [recoverD, hu, gu]; exact rfl)) ?_
  simp only [Try.ntmps85, List.size_toArray, List.length_cons, List.length_nil, Nat.reduceAdd, Nat.reduceSub, Array.replicate_succ,
     Array.replicate_zero, List.push_toArray, List.append_toArray, List.nil_append, List.cons_append]
  go_wp2_with fail
  refine wpS_of_wp ?_
  go_wp2_with fail
  have g := blk_alloc_at w (Obj.cells #[.int .i64 c] 99) _ rfl
  have kr := blk_alloc_lt (Obj.cells #[.int .i64 c] 99) hr
  have kf := blk_alloc_lt (Obj.cells #[.int .i64 c] 99) hf
  have kp := blk_alloc_lt (Obj.cells #[.int .i64 c] 99) hp
  have kx := blk_alloc_lt (Obj.cells #[.int .i64 c] 99) hx
  generalize hwx : w.alloc (Obj.cells #[.int .i64 c] 99) = wx at g kr kf kp kx ⊢
  generalize hgb : w.heap.size = gb at g ⊢
  have n1 : r ≠ fb := by rintro rfl; rw [kr] at kf; cases kf
  have n2 : r ≠ pb := by rintro rfl; rw [kr] at kp; cases kp
  have n3 : r ≠ xb := by rintro rfl; rw [kr] at kx; cases kx
  have n4 : r ≠ gb := by rintro rfl; rw [kr] at g; cases g
  have n5 : xb ≠ fb := by rintro rfl; rw [kx] at kf; cases kf
  have n6 : xb ≠ pb := by rintro rfl; rw [kx] at kp; cases kp
  have n7 : xb ≠ gb := by rintro rfl; rw [kx] at g; cases g
  have c1 : wx.cell? ⟨r, 1, none⟩ = some (.int .i64 at_) := cell_blk kr rfl
  have c2 : wx.cell? ⟨r, 2, none⟩ = some (.int .i64 ee) := cell_blk kr rfl
  have c3 : wx.cell? ⟨pb, 0, none⟩ = some (.pointer (some ⟨r, 0, none⟩)) := cell_blk kp rfl
  have c4 : wx.cell? ⟨fb, 0, none⟩ = some (.int .i64 fr) := cell_blk kf rfl
  have c5 : wx.cell? ⟨xb, 0, none⟩ = some x := cell_blk kx rfl
  have c6 : wx.cell? ⟨gb, 0, none⟩ = some (.int .i64 c) := cell_blk g rfl
  have z1 : wx.frozen? ⟨r, 1, none⟩ = false := free_blk kr
  have z2 : wx.frozen? ⟨r, 2, none⟩ = false := free_blk kr
  have z5 : wx.frozen? ⟨xb, 0, none⟩ = false := free_blk kx
  clear hr hf hp hx g kr kf kp kx hta
  have hwx := hid hwx
  clear hgb
  go_region
  have hwx := hwx.out
  subst hwx
  exact ⟨rfl, _, rfl, _, results_none rfl _ _ _, rfl, ⟨_, rfl⟩, rfl⟩

set_option maxHeartbeats 1600000 in
theorem catch_idle_s {fb pb xb : Nat} :
    CallsD Try.prog 85 #[.pointer (some ⟨fb, 0, none⟩), .pointer (some ⟨pb, 0, none⟩), .pointer (some ⟨xb, 0, none⟩)] .returning w fun e u' w' => e = .returned (.tuple #[]) ∧ u' = .returning ∧ w' = w.alloc (.cells #[.int .i64 0] 99) := by
  have hta : ∀ w : World, (Instr.typeAssert Value.nilIface 20 99 true).run Try.prog w = .ok (.tuple #[.agg #[.int .i64 0], .bool false]) w := fun _ => by kernel_rfl
  refine callsD_of_wpS Try.func85 rfl fun c₀ cs hu => ?_
  apply wpS_seq
  refine wpS_region_rec rfl rfl rfl (.inr ⟨by simp only [recoverD, hu], rfl, rfl⟩) ?_
  simp only [Try.ntmps85, List.size_toArray, List.length_cons, List.length_nil, Nat.reduceAdd, Nat.reduceSub, Array.replicate_succ,
     Array.replicate_zero, List.push_toArray, List.append_toArray, List.nil_append, List.cons_append]
  go_wp2_with fail
  refine wpS_of_wp ?_
  go_wp2_with fail
  exact ⟨rfl, .returning, by rw [← hu], _, results_none rfl _ _ _, rfl, rfl, rfl⟩

end
end Go.Proofs.Ytdobbmlaokolmaa
