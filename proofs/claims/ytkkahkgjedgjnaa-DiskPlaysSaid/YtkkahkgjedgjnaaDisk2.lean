/-
  copy from a text into a row that is known whole; what it does to the sectors.
-/
import Derived.Test.YtkkahkgjedgjnaaDisk1
namespace Go.Proofs.Ytkkahkgjedgjnaa
open Go.RowKit
set_option linter.unusedVariables false
set_option linter.unusedSimpArgs false

/-- The row behind a copy of the first k bytes of s to place o on. -/
def laid (cur : Array Value) (o : Nat) (s : ByteArray) (k : Nat) : Array Value :=
  (cur.toList.take o ++ ((s.data.toList.take k).map (fun b => Value.int .u8 b.toNat) ++ cur.toList.drop (o + k))).toArray

theorem laid_size {cur : Array Value} {o : Nat} {s : ByteArray} {k : Nat} (hk : k ≤ s.size) (hfit : o + k ≤ cur.size) : (laid cur o s k).size = cur.size := by
  have : s.data.toList.length = s.size := rfl
  simp [laid]; omega

theorem laid_at {cur : Array Value} {o : Nat} {s : ByteArray} {k q : Nat} (hk : k ≤ s.size) (hfit : o + k ≤ cur.size) :
    (laid cur o s k)[q]? = if o ≤ q ∧ q < o + k then some (.int .u8 (sget s (q - o))) else cur[q]? := by
  have hs : s.data.toList.length = s.size := rfl
  have e : (laid cur o s k)[q]? = (cur.toList.take o ++ ((s.data.toList.take k).map (fun b => Value.int .u8 b.toNat) ++ cur.toList.drop (o + k)))[q]? := by simp [laid]
  rw [e]
  by_cases h1 : q < o
  · rw [if_neg (by omega), List.getElem?_append_left (by simp; omega), List.getElem?_take, if_pos h1]; simp
  · rw [List.getElem?_append_right (by simp; omega)]
    have hto : (cur.toList.take o).length = o := by simp; omega
    rw [hto]
    by_cases h2 : q < o + k
    · rw [if_pos ⟨by omega, h2⟩, List.getElem?_append_left (by simp; omega), List.getElem?_map, List.getElem?_take, if_pos (by omega), List.getElem?_eq_getElem (by omega)]
      simp [sget, List.getD, List.getElem?_eq_getElem (show q - o < s.data.toList.length by omega)]
    · rw [if_neg (by omega), List.getElem?_append_right (by simp; omega)]
      simp only [List.length_map, List.length_take, List.getElem?_drop]
      rw [show o + k + (q - o - min k s.data.toList.length) = q by omega]
      simp

theorem run_copy_str {P : Program} (w : World) (dT sT ty elem : TypeId) (g o dLen dCap k : Nat) (s : ByteArray) (cur : Array Value) (t : TypeId)
    (hu : P.underlying dT = some (.slice elem)) (hs : (P.info? elem).map (·.size) = some 1) (hg : w.heap[g]? = some (.cells cur t (0, 0))) (hk : Nat.min s.size dLen = k) (hfit : o + k ≤ cur.size) :
    (Builtin.copy_ #[dT, sT] ty #[.slice (some ⟨g, o, none⟩) dLen dCap, .string s]).run P w = .ok (goInt k) (w.setRow g (laid cur o s k)) := by
  have hsl : s.data.toList.length = s.size := rfl
  have hks : k ≤ s.size := by rw [← hk]; exact Nat.min_le_left _ _
  have hlen : ((s.data.toList.take k).map (fun b => Value.int .u8 b.toNat)).length = k := by simp; omega
  have hst := run_storeCells_at P g o t ((s.data.toList.take k).map (fun b => Value.int .u8 b.toNat)) 0 cur w hg (by rw [hlen]; simpa using hfit) (by
    intro v hv
    obtain ⟨b, _, rfl⟩ := List.mem_map.1 hv
    rfl)
  rw [hlen] at hst
  simp only [Nat.add_zero] at hst
  cases hq : P.info? elem with
  | none => simp [hq] at hs
  | some i =>
    simp [Builtin.copy_, run_underlying hu, Builtin.lenOf, Builtin.firstCells, sizeOf, typeInfo, hq, hk]
    rw [← List.map_take, hst]
    simp [Result.andThen, laid]

theorem wpList_copy_str {P : Program} {w : World} {ops : Array Oper} {rest : List Oper} {o : Oper} {a : Act} {Q : Exit → Act → World → Prop} (hgd : o.guard = none) (d x : Operand) (dT sT : TypeId)
    (ho : o.op = .call { callee := .builtin .copy, args := #[d, x], argTypes := #[dT, sT] }) (elem : TypeId) (hu : P.underlying dT = some (.slice elem)) (hs : (P.info? elem).map (·.size) = some 1)
    (g off dLen dCap k : Nat) (s : ByteArray) (cur : Array Value) (t : TypeId) (hd : a.eval d = .slice (some ⟨g, off, none⟩) dLen dCap) (hx : a.eval x = .string s)
    (hg : w.heap[g]? = some (.cells cur t (0, 0))) (hk : Nat.min s.size dLen = k) (hfit : off + k ≤ cur.size)
    (h : wpList P ops Q rest (a.put o.dst (goInt k)) (w.setRow g (laid cur off s k))) : wpList P ops Q (o :: rest) a w := by
  refine wpList_plain hgd fun K hK => ?_
  have hrun := run_copy_str (P := P) w dT sT o.type elem g off dLen dCap k s cur t hu hs hg hk hfit
  unfold Oper.wp
  simp [execOp, ho, resolve, invoke, builtin, hd, hx, hrun, Result.andThen]
  exact hK _ _ h

theorem step_copy_str {P : Program} {ops : Array Oper} {o : Oper} {a : Act} {w : World} {K : Act → World → Prop} {Q : Exit → Act → World → Prop} {E : Prop} (hgd : o.guard = none) (d x : Operand) (dT sT : TypeId)
    (ho : o.op = .call { callee := .builtin .copy, args := #[d, x], argTypes := #[dT, sT] }) (elem : TypeId) (hu : P.underlying dT = some (.slice elem)) (hs : (P.info? elem).map (·.size) = some 1)
    (g off dLen dCap k : Nat) (s : ByteArray) (cur : Array Value) (t : TypeId) (hd : a.eval d = .slice (some ⟨g, off, none⟩) dLen dCap) (hx : a.eval x = .string s)
    (hg : w.heap[g]? = some (.cells cur t (0, 0))) (hk : Nat.min s.size dLen = k) (hfit : off + k ≤ cur.size)
    (h : K (a.put o.dst (goInt k)) (w.setRow g (laid cur off s k))) : if Region.wanted o (yielded ops a.tmps) = true then Oper.wp P o a w K Q else E := by
  have hw : Region.wanted o (yielded ops a.tmps) = true := by simp [Region.wanted, hgd]
  rw [if_pos hw]
  have hrun := run_copy_str (P := P) w dT sT o.type elem g off dLen dCap k s cur t hu hs hg hk hfit
  unfold Oper.wp
  simp [execOp, ho, resolve, invoke, builtin, hd, hx, hrun, Result.andThen]
  exact h

theorem blk_setRow_at {w : World} {g : Nat} {c cs : Array Value} {t : TypeId} {f : Nat × Nat} (h : w.heap[g]? = some (.cells c t f)) : (w.setRow g cs).heap[g]? = some (.cells cs t f) := by
  have hlt := lt_of_block h
  have h' : w.heap[g] = .cells c t f := by simpa [Array.getElem?_eq_getElem hlt] using h
  show (w.heap.modify g _)[g]? = _
  rw [Array.getElem?_eq_getElem (by simpa using hlt), Array.getElem_modify_self, h']

theorem blk_setRow_ne {w : World} {g k : Nat} {cs : Array Value} {x : Obj} (h : w.heap[k]? = some x) (hne : k ≠ g) : (w.setRow g cs).heap[k]? = some x := by
  show (w.heap.modify g _)[k]? = _
  rw [Array.getElem?_modify, if_neg (by omega)]; exact h

theorem Fr.setRow {S : List Nat} {a b : World} (h : Fr S a b) {g : Nat} (hp : g ∈ S ∨ a.heap.size ≤ g) (cs : Array Value) : Fr S a (b.setRow g cs) :=
  h.step (S' := [g]) ⟨rfl, rfl, rfl, by simp [World.setRow], fun k hk hn => by
    show (b.heap.modify g _)[k]? = _
    rw [Array.getElem?_modify, if_neg (by simp at hn; omega)]⟩ (fun x hx => by simp at hx; subst hx; exact hp)

theorem sAt_set (l : List ByteArray) (i j : Nat) (s : ByteArray) (hi : i < l.length) : sAt (l.set i s) j = if j = i then s else sAt l j := by
  unfold sAt
  by_cases hj : j = i
  · subst hj; rw [if_pos rfl]; simp [List.getD, hi]
  · rw [if_neg hj]; simp [List.getD, List.getElem?_set, Ne.symm hj]

theorem cutB_size (new old : ByteArray) (k : Nat) (hn : new.size = 128) (ho : old.size = 128) (hk : k ≤ 128) : (cutB new old k).size = 128 := by
  unfold cutB; simp [ByteArray.size_append, ByteArray.size_extract]; omega

theorem toList_extract (s : ByteArray) (i j : Nat) : (s.extract i j).data.toList = (s.data.toList.drop i).take (j - i) := by
  simp [ByteArray.data_extract]

theorem cutB_at (new old : ByteArray) (k j : Nat) (hn : new.size = 128) (ho : old.size = 128) (hk : k ≤ 128) : sget (cutB new old k) j = if j < k then sget new j else sget old j := by
  have h1 : new.data.toList.length = 128 := hn
  have h2 : old.data.toList.length = 128 := ho
  have e : (cutB new old k).data.toList = new.data.toList.take k ++ old.data.toList.drop k := by
    unfold cutB
    rw [ByteArray.data_append, Array.toList_append, toList_extract, toList_extract, ho]
    simp
    rw [List.take_of_length_le (by simp; omega)]
  unfold sget
  rw [e]
  by_cases hj : j < k
  · rw [if_pos hj]
    simp only [List.getD]
    rw [List.getElem?_append_left (by simp; omega), List.getElem?_take, if_pos hj]
  · rw [if_neg hj]
    simp only [List.getD]
    rw [List.getElem?_append_right (by simp; omega), List.getElem?_drop]
    congr 3
    simp; congr 1; omega

theorem cutB_full (new old : ByteArray) (hn : new.size = 128) (ho : old.size = 128) : cutB new old 128 = new := by
  have h1 : new.data.toList.length = 128 := hn
  have h2 : old.data.toList.length = 128 := ho
  have e : (cutB new old 128).data.toList = new.data.toList := by
    unfold cutB
    rw [ByteArray.data_append, Array.toList_append, toList_extract, toList_extract, ho]
    simp [h2]
    rw [List.take_of_length_le (by omega)]
  cases new; cases h : cutB _ old 128; simp_all

/-- One sector's first k bytes are overwritten. -/
theorem Secs.laid {cur : Array Value} {cap : Nat} {sec : List ByteArray} (h : Secs cur cap sec) {i k : Nat} {data : ByteArray} (hi : i < sec.length) (hn : data.size = 128) (hold : (sAt sec i).size = 128) (hk : k ≤ 128) :
    Secs (laid cur (i * 128) data k) cap (sec.set i (cutB data (sAt sec i) k)) := by
  have hfit : i * 128 + k ≤ cur.size := by
    have := h.le; have := h.sz
    have : (i + 1) * 128 ≤ cap * 128 := Nat.mul_le_mul_right _ (by omega)
    omega
  refine ⟨by simpa using h.le, h.mx, by rw [laid_size (by omega) hfit]; exact h.sz, fun i' hi' j hj => ?_⟩
  have hi'' : i' < sec.length := by simpa using hi'
  rw [laid_at (by omega) hfit, sAt_set _ _ _ _ hi]
  by_cases hii : i' = i
  · subst hii
    rw [if_pos rfl, cutB_at _ _ _ _ hn hold hk]
    by_cases hjk : j < k
    · rw [if_pos ⟨by omega, by omega⟩, if_pos hjk, show i' * 128 + j - i' * 128 = j by omega]
    · rw [if_neg (by omega), if_neg hjk]; exact h.at_ _ hi'' _ hj
  · rw [if_neg hii, if_neg (by omega)]; exact h.at_ _ hi'' _ hj

end Go.Proofs.Ytkkahkgjedgjnaa
