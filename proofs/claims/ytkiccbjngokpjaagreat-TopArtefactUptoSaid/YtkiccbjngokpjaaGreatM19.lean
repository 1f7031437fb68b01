/-
  Merged, in build order: Nt0.
-/
import Derived.Lib.SliceRun
import Derived.Deep.RegionLaw
import Derived.Test.YtkiccbjngokpjaaGreatM18
/-
  net: datagrams; slices.Delete of one.
-/
namespace Go.Proofs.YtkiccbjngokpjaaGreat
open Go.RowKit
set_option linter.unusedVariables false
set_option linter.unusedSimpArgs false

/-! ### Cells set one by one -/
def setsA (cur : Array Value) : Nat → List Value → Array Value
  | _, [] => cur
  | o, v :: r => setsA (cur.setIfInBounds o v) (o + 1) r
theorem blk_setCells {b : Nat} {e : TypeId} {f : Nat × Nat} : ∀ (vs : List Value) (o : Nat) (w : World) (cur : Array Value), w.heap[b]? = some (.cells cur e f) → (w.setCells b o vs).heap[b]? = some (.cells (setsA cur o vs) e f)
  | [], _, _, _, h => h
  | v :: r, o, w, cur, h => blk_setCells r (o + 1) _ _ (blk_setCell_at v h)
theorem Fr.setCells {b : Nat} {S : List Nat} (hb : b ∈ S) : ∀ (vs : List Value) (o : Nat) (w w0 : World), Fr S w0 w → Fr S w0 (w.setCells b o vs)
  | [], _, _, _, h => h
  | v :: r, o, w, w0, h => Fr.setCells hb r (o + 1) _ w0 (h.setCell (.inl hb) v)
theorem setsA_size : ∀ (vs : List Value) (o : Nat) (cur : Array Value), (setsA cur o vs).size = cur.size
  | [], _, _ => rfl
  | v :: r, o, cur => by rw [setsA, setsA_size r]; simp
theorem setsA_list : ∀ (vs : List Value) (o : Nat) (cur : Array Value), o + vs.length ≤ cur.size → (setsA cur o vs).toList = cur.toList.take o ++ vs ++ cur.toList.drop (o + vs.length)
  | [], o, cur, _ => by simp [setsA]
  | v :: r, o, cur, h => by
    simp only [List.length_cons] at h
    rw [setsA, setsA_list r (o + 1) _ (by simp; omega)]
    rw [Array.toList_setIfInBounds]
    have ho : o < cur.toList.length := by simp; omega
    have e1 : (cur.toList.set o v).take (o + 1) = cur.toList.take o ++ [v] := by
      rw [List.take_add_one, List.take_set_of_le (Nat.le_refl _), List.getElem?_set_self ho]; rfl
    have e2 : (cur.toList.set o v).drop (o + 1 + r.length) = cur.toList.drop (o + (r.length + 1)) := by
      rw [List.drop_set_of_lt (by omega), show o + 1 + r.length = o + (r.length + 1) by omega]
    rw [e1, e2]
    simp

/-! ### Datagrams -/
structure Dg where
  num : Int
  fn : Int
  fl : Int
  tn : Int
  tl : Int
  data : ByteArray
def Dg.f (d : Dg) : List Value := [.int .i64 d.num, .int .i64 d.fn, .int .i64 d.fl, .int .i64 d.tn, .int .i64 d.tl, .string d.data]
def dgL : Lay Dg := ⟨Dg.f, ⟨0, 0, 0, 0, 0, ⟨#[]⟩⟩, 6, fun _ => rfl, by decide, fun a u hu => by simp [Dg.f] at hu; rcases hu with rfl | rfl | rfl | rfl | rfl | rfl <;> rfl⟩
abbrev adV (n l : Int) : Value := .agg #[.int .i64 n, .int .i64 l]
abbrev dgV (d : Dg) : Value := .agg #[.int .i64 d.num, .int .i64 d.fn, .int .i64 d.fl, .int .i64 d.tn, .int .i64 d.tl, .string d.data]
abbrev dgZ : Value := .agg #[.int .i64 0, .int .i64 0, .int .i64 0, .int .i64 0, .int .i64 0, .string ByteArray.empty]
theorem zero_dg (w : World) : (zeroValue 72).run Tryz.prog w = .ok dgZ w := by kernel_rfl
theorem info_dg : (Tryz.prog.info? 72).map (fun i => (i.zero, i.size, i.bytes)) = some (some dgZ, 6, 56) := by kernel_rfl

theorem cells_eraseIdx {α : Type} (L : Lay α) (l : List α) (k : Nat) : L.cells (l.eraseIdx k) = L.cells (l.take k) ++ L.cells (l.drop (k + 1)) := by
  rw [List.eraseIdx_eq_take_drop_succ]
  simp [Lay.cells]
theorem cells_take {α : Type} (L : Lay α) : ∀ (l : List α) (k : Nat), (L.cells l).take (k * L.sz) = L.cells (l.take k)
  | [], k => by simp [Lay.cells]
  | x :: l, 0 => by simp [Lay.cells]
  | x :: l, k + 1 => by
    have e : L.cells (x :: l) = L.f x ++ L.cells l := rfl
    have h := L.len x
    rw [e, List.take_succ_cons, Nat.succ_mul, Nat.add_comm, List.take_append, List.take_of_length_le (by omega), h, Nat.add_sub_cancel_left, cells_take L l k]
    rfl
theorem cells_drop {α : Type} (L : Lay α) : ∀ (l : List α) (k : Nat), (L.cells l).drop (k * L.sz) = L.cells (l.drop k)
  | [], k => by simp [Lay.cells]
  | x :: l, 0 => by simp [Lay.cells]
  | x :: l, k + 1 => by
    have e : L.cells (x :: l) = L.f x ++ L.cells l := rfl
    have h := L.len x
    rw [e, List.drop_succ_cons, Nat.succ_mul, Nat.add_comm, List.drop_append, List.drop_of_length_le (by omega), h, Nat.add_sub_cancel_left, cells_drop L l k, List.nil_append]

/-- 'clear' of a slice of one element. -/
theorem run_clear_one {P : Program} (w : World) (t e ty : TypeId) (z : Value) (n : Nat) (ht : P.underlying t = some (.slice e)) (hv : ∀ w, (zeroValue e).run P w = .ok z w) (hzn : z.cells.size = n) (h1 : ∀ u ∈ z.cells.toList, u.oneCell' = true) (b o c : Nat)
    (hc : ∀ j, j < n → (w.cell? ⟨b, o + j, none⟩).isSome = true) (hf : ∀ j, j < n → w.frozen? ⟨b, o + j, none⟩ = false) :
    (Builtin.clear_ #[t] ty #[.slice (some ⟨b, o, none⟩) 1 c]).run P w = .ok (.tuple #[]) (w.setCells b o z.cells.toList) := by
  have hzc : (Builtin.zeroCells z.cells 1).toList = z.cells.toList := by
    simp [Builtin.zeroCells]
    apply List.ext_getElem
    · simp
    · intro i h1 h2
      simp at h1
      simp [Nat.mod_eq_of_lt h1]
      exact getElem!_pos z.cells i h1
  have hst := run_storeCells_cells (P := P) b o z.cells.toList 0 w (by simpa [hzn] using hc) (by simpa [hzn] using hf) h1
  simp only [Nat.add_zero] at hst
  simp [Builtin.clear_, run_underlying ht, hv, hzc, hst]

section
variable {W : Base} {w : World} {R : List Thing}
set_option maxHeartbeats 4000000 in
set_option maxRecDepth 1000000 in
theorem st_delete (H : St W w R) (i : Nat) (b : List Dg) (v : Value) (hi : R[i]? = some (RowT 72 6 v b.length (dgL.cells b))) (k : Nat) (hk : k < b.length) :
    Calls Tryz.prog 44 #[v, .int .i64 k, .int .i64 ((k : Int) + 1)] w fun e w' => ∃ a c, e = .returned (.slice a (b.length - 1 : Nat) c) ∧ St W w' (R.set i (RowT 72 6 (.slice a (b.length - 1 : Nat) c) (b.length - 1) (dgL.cells (b.eraseIdx k)))) := by
  obtain ⟨F, ⟨hF, hrow⟩, hFs, hset⟩ := H.at i hi
  have hrow0 := hrow
  obtain ⟨hxl, hrow⟩ := hrow
  rcases hrow with ⟨_, h0⟩ | ⟨g, cap, cur, rfl, _, hb, hnc, hcm, hcs, htk⟩
  · omega
  have hF : F = [g] := hF
  subst hF
  obtain ⟨n, hn⟩ : ∃ n, b.length = n := ⟨_, rfl⟩
  have hl6 : (dgL.cells b).length = n * 6 := by rw [hxl, hn]
  have hnews : (dgL.cells (b.drop (k + 1))).length = (n - (k + 1)) * 6 := by
    rw [dgL.cells_len, List.length_drop, hn]; rfl
  rw [hn] at hk hnc htk
  have hget : ∀ j, j < n * 6 → w.cell? ⟨g, j, none⟩ = some ((dgL.cells b).getD j undef) ∧ w.frozen? ⟨g, j, none⟩ = false := fun j hj => by
    have h1 : (dgL.cells b)[j]? = some ((dgL.cells b).getD j undef) := by
      rw [List.getD_eq_getElem?_getD, List.getElem?_eq_getElem (by omega)]; rfl
    exact ownsRow_cell hrow0 j h1
  obtain ⟨A, hA, hsrc⟩ : ∃ A : Addr, (if cap = k + 1 then some (⟨g, 0, none⟩ : Addr) else some ⟨g, (k + 1) * 6, none⟩) = some A ∧ Hid (∀ t u, (dgL.cells (b.drop (k + 1)))[t]? = some u → w.drew.cell? (A.add t) = some u) := by
    by_cases h : cap = k + 1
    · refine ⟨⟨g, 0, none⟩, by simp [h], fun t u hu => ?_⟩
      have h0 : (dgL.cells (b.drop (k + 1))).length = 0 := by rw [hnews]; omega
      rw [List.length_eq_zero_iff.1 h0] at hu
      simp at hu
    · refine ⟨⟨g, (k + 1) * 6, none⟩, by simp [h], fun t u hu => ?_⟩
      have ht : t < (n - (k + 1)) * 6 := by
        have := (List.getElem?_eq_some_iff.1 hu).1
        rwa [hnews] at this
      have hu2 : (dgL.cells b)[(k + 1) * 6 + t]? = some u := by
        have e := cells_drop dgL b (k + 1)
        rw [← e, List.getElem?_drop] at hu
        exact hu
      rw [Addr.add_lit]
      exact (ownsRow_cell hrow0 _ hu2).1
  have s1 : Hid ((dgL.cells (b.drop (k + 1))).length = (n - (k + 1)) * 6) := hnews
  have s2 : Hid (∀ u ∈ dgL.cells (b.drop (k + 1)), u.oneCell' = true) := dgL.cells_one _
  have s3 : Hid (∀ t, t < (dgL.cells (b.drop (k + 1))).length → (w.drew.cell? ⟨g, 0 + k * 6 + t, none⟩).isSome = true ∧ w.drew.frozen? ⟨g, 0 + k * 6 + t, none⟩ = false) := by
    intro t ht
    rw [hnews] at ht
    obtain ⟨h1, h2⟩ := hget (0 + k * 6 + t) (by omega)
    exact ⟨by show (w.cell? _).isSome = true; rw [h1]; rfl, h2⟩
  obtain ⟨W1, hW1⟩ : ∃ W1, W1 = w.drew.setCells g (0 + k * 6) (dgL.cells (b.drop (k + 1))) := ⟨_, rfl⟩
  have hb0 : w.drew.heap[g]? = some (.cells cur 72 (0, 0)) := hb
  have hbW1 : W1.heap[g]? = some (.cells (setsA cur (0 + k * 6) (dgL.cells (b.drop (k + 1)))) 72 (0, 0)) := by
    rw [hW1]; exact blk_setCells _ _ _ _ hb0
  have hcl : ∀ ty c, (Builtin.clear_ #[92] ty #[.slice (some ⟨g, (n - 1) * 6, none⟩) 1 c]).run Tryz.prog W1 = .ok (.tuple #[]) (W1.setCells g ((n - 1) * 6) dgZ.cells.toList) := fun ty c =>
    run_clear_one W1 92 72 ty dgZ 6 Tryz.underlying92 zero_dg rfl (by intro u hu; simp [Value.cells] at hu; rcases hu with rfl | rfl <;> rfl) g ((n - 1) * 6) c
      (fun j hj => by
        obtain ⟨u, hu⟩ : ∃ u, (setsA cur (0 + k * 6) (dgL.cells (b.drop (k + 1))))[(n - 1) * 6 + j]? = some u := ⟨_, Array.getElem?_eq_getElem (by rw [setsA_size]; omega)⟩
        rw [cell_blk hbW1 hu]
        rfl)
      (fun j hj => free_blk hbW1)
  have HD := hid (show St W (W1.setCells g ((n - 1) * 6) dgZ.cells.toList) (R.set i (RowT 72 6 (.slice (some ⟨g, 0, none⟩) (n - 1 : Nat) cap) (n - 1) (dgL.cells (b.eraseIdx k)))) from by
    refine hset _ [g] (Row1 72 6 (.slice (some ⟨g, 0, none⟩) (n - 1 : Nat) cap) (n - 1) (dgL.cells (b.eraseIdx k))) inferInstance ⟨rfl, ?_, .inr ⟨g, cap, _, rfl, Nat.zero_le _, blk_setCells _ _ _ _ hbW1, by omega, hcm, ?_, ?_⟩⟩ ?_ (fun x hx => .inl hx)
    · rw [dgL.cells_len, List.length_eraseIdx, hn, if_pos hk]; rfl
    · rw [setsA_size, setsA_size]; exact hcs
    · have hzl : (dgZ.cells.toList).length = 6 := rfl
      rw [setsA_list _ _ _ (by rw [setsA_size, hzl]; omega), setsA_list _ _ _ (by rw [hnews]; omega)]
      have hc6 : cur.toList.length = cap * 6 := by simpa using hcs
      have e1 : cur.toList.take (0 + k * 6) = dgL.cells (b.take k) := by
        rw [← cells_take dgL b k, ← htk, List.take_take]
        congr 1
        show 0 + k * 6 = min (k * 6) (n * 6)
        omega
      rw [e1]
      have e2 : (dgL.cells (b.take k) ++ dgL.cells (b.drop (k + 1))).length = (n - 1) * 6 := by
        rw [List.length_append, hnews, dgL.cells_len, List.length_take, hn]
        have h6 : dgL.sz = 6 := rfl
        rw [h6]
        omega
      generalize hX : dgL.cells (b.take k) ++ dgL.cells (b.drop (k + 1)) = X at e2 ⊢
      have hA : ∀ Y : List Value, List.take ((n - 1) * 6) (X ++ Y) = X := fun Y => by
        rw [List.take_append_of_le_length (by rw [e2]; exact Nat.le_refl _), List.take_of_length_le (by rw [e2]; exact Nat.le_refl _)]
      rw [hA, cells_eraseIdx, hX, List.append_assoc, hA]
    · rw [hW1]
      exact Fr.setCells (by simp) _ _ _ _ (Fr.setCells (by simp) _ _ _ _ ((Fr.refl [g] w).drew)))
  have hCL := hid hcl
  obtain ⟨i0, hi0, hz0, hz1, hz2⟩ := info_parts info_dg
  have hW := hid hW1
  have hL := hid (And.intro hn (And.intro hk (And.intro hnc hcm)))
  have hkc : k ≤ cap := by omega
  have hk1 : k + 1 ≤ cap := by omega
  have hk2 : (k : Int) + 1 ≤ n := by omega
  have hnc2 : (n : Int) ≤ cap := by omega
  have hroom : k + (n - (k + 1)) ≤ cap := by omega
  have hn2 : k + (n - (k + 1)) = n - 1 := by omega
  have hp2 : ((k : Int) + 1).toNat = k + 1 := by omega
  have hp0 : (0 : Int) ≤ (k : Int) + 1 := by omega
  have hn3 : n - (n - 1) = 1 := by omega
  have hbig : (cap : Int) ≤ 9223372036854775807 := by unfold maxLen at hcm; omega
  clear hnews hget hcl hset hrow0 hFs hb hbW1 hb0 hW1 hi htk hl6 hxl hnc hk hcs hcm H
  rw [hn]
  go_enter Tryz.func44, Tryz.ntmps44
  go_wp2_with fail
  go_region_law (refine step_append_room rfl (.tmp 22) (.tmp 25) 92 rfl 72 i0 6 Tryz.underlying92 hi0 hz1 g 0 k cap (by simp [Act.eval, Act.put]) A (n - (k + 1)) (cap - (k + 1)) (dgL.cells (b.drop (k + 1))) (by simp [Act.eval, Act.put]) s1.out hsrc.out s2.out hroom s3.out ?_; rw [← hW.out])
  go_wp2_with fail
  rw [hCL.out]
  simp only [Result.andThen]
  rw [Oper.upon_value]
  go_wp2_with fail
  go_ret
  exact ⟨_, _, rfl, HD.out⟩
end

end Go.Proofs.YtkiccbjngokpjaaGreat
