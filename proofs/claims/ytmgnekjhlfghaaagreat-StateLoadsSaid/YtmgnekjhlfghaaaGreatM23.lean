/-
  Merged, in build order: Bd.
-/
import Derived.Lib.Builder
import Derived.Lib.AppendStr
import Derived.Lib.UnsafeStr
import Derived.Shelf.RegionOpenPlain
import Derived.Test.YtmgnekjhlfghaaaGreatM8
import Derived.Test.YtmgnekjhlfghaaaGreatM11
/-
  strings.Builder as a thing: WriteString, String (its copyCheck is walked here: the shelf's is not laid for this dump).
-/
namespace Go.Proofs.YtmgnekjhlfghaaaGreat
open Go.RowKit
set_option linter.unusedVariables false
set_option linter.unusedSimpArgs false

section
open Go.Lib
theorem append_str_blk {P : Program} (w : World) (base : Nat) (t u ty e : TypeId) (i : TypeInfo) (ht : P.underlying t = some (.slice e)) (hu : P.underlying u = some .string) (hi : P.info? e = some i) (hz : i.zero = some (.int .u8 0))
    (hsize : i.size = 1) (hby : i.bytes = 1)
    (v : Value) (n : Nat) (xs : List Value) (hown : w.ownsRow base e 1 v n xs) (s : ByteArray)
    (h63 : n + s.size ≤ maxLen) (hbytes : n + s.size ≤ 140737488355328) (hbase : base ≤ w.heap.size) :
    ∃ v' w', (Builtin.append_ #[t, u] ty #[v, .string s]).run P w = .ok v' w' ∧ w'.ownsRow base e 1 v' (n + s.size) (xs ++ strCells s) ∧ w.grownBy w' v.ownBlock ∧
      (∀ x, x ∈ v'.ownBlock.toList → x ∈ v.ownBlock.toList ∨ w.heap.size ≤ x) := by
  have hsmall : n + s.size ≤ 9223372036854775807 := by simp only [maxLen] at h63; omega
  have hxl : xs.length = n := by simpa using hown.1
  have hlen : (xs ++ strCells s).length = (n + s.size) * 1 := by rw [List.length_append, hxl, strCells_length, Nat.mul_one]
  have grown : ∀ (old : Nat), old < n + s.size → ∀ (row : Option Nat),
      (w.drew.alloc (.cells (xs.toArray ++ (strCells s).toArray ++ Builtin.zeroCells (Value.int .u8 0).cells (grownCap w (n + s.size) old e - (n + s.size))) e)).ownsRow base e 1
        (.slice (some ⟨w.heap.size, 0, none⟩) (n + s.size) (grownCap w (n + s.size) old e)) (n + s.size) (xs ++ strCells s) ∧
      w.grownBy (w.drew.alloc (.cells (xs.toArray ++ (strCells s).toArray ++ Builtin.zeroCells (Value.int .u8 0).cells (grownCap w (n + s.size) old e - (n + s.size))) e)) row := by
    intro old ho row
    have hge := grownCap_ge w (n + s.size) old e
    have hcm : grownCap w (n + s.size) old e ≤ maxLen := grownCap_le_maxLen w (n + s.size) old e h63
    refine ⟨⟨hlen, .inr ⟨w.heap.size, _, _, rfl, hbase, heap_alloc_new w.drew _, hge, hcm, ?_, ?_⟩⟩, ⟨rfl, rfl, rfl, by simp, fun k hk _ => Lib.alloc_old w.drew _ k hk⟩⟩
    · have hz1 : (Value.int IntKind.u8 0).cells.size = 1 := rfl
      simp only [Array.size_append, List.size_toArray, size_zeroCells, hz1, hxl, strCells_length]
      omega
    · simp only [Array.toList_append, List.append_assoc]
      rw [← List.append_assoc, ← hlen]
      exact List.take_left
  rcases hown.2 with ⟨rfl, rfl⟩ | ⟨g, cap, cur, rfl, hbg, hg, hnc, hcm, hcs, htake⟩
  · have hx : xs = [] := List.eq_nil_of_length_eq_zero hxl
    subst hx
    by_cases hm : s.size = 0
    · have hn : strCells s = [] := List.eq_nil_of_length_eq_zero (by rw [strCells_length]; exact hm)
      refine ⟨.slice none 0 0, w, ?_, by rw [hm, hn]; exact World.ownsRow_nil w base e 1, ⟨rfl, rfl, rfl, Nat.le_refl _, fun _ _ _ => rfl⟩, by simp [Value.ownBlock]⟩
      have hf := run_firstCells_string (P := P) w 1 s
      rw [hm] at hf
      simp [Builtin.append_, run_underlying ht, run_underlying hu, sizeOf, typeInfo, hi, hsize, Builtin.lenOf, hm, hf]
    · have hr := run_append_nil_string (P := P) w t u ty e i (.int .u8 0) ht hu hi hz s (by omega) (by omega) (by rw [hby]; omega)
      have hgr := grown 0 (by omega) (Value.ownBlock (.slice none 0 0))
      simp only [Nat.zero_add, List.nil_append, Array.empty_append] at hgr ⊢
      have e1 : (s.data.map fun b => Value.int .u8 b.toNat) = (strCells s).toArray := by
        apply Array.ext'
        simp [strCells]
      rw [e1] at hr
      exact ⟨_, _, hr, hgr.1, hgr.2, by simp [Value.ownBlock]⟩
  · by_cases hroom : n + s.size ≤ cap
    · have hcs' : cur.size = cap := by simpa using hcs
      have hr := run_append_room_string (P := P) w t u ty e i ht hu hi hsize g n cap cur hg s hroom (by omega)
      refine ⟨_, _, hr, ⟨hlen, .inr ⟨g, cap, _, rfl, hbg, setRow_heap w g cur _ e _ hg, hroom, hcm, ?_, ?_⟩⟩, ⟨rfl, rfl, rfl, by simp, fun k _ hk => setRow_other w g k _ (fun e => hk (by simp [Value.ownBlock, e]))⟩, by simp [Value.ownBlock]⟩
      · simp only [List.size_toArray, List.length_append, List.length_take, List.length_drop, Array.length_toList, strCells_length]
        omega
      · have ht' : cur.toList.take n = xs := by simpa using htake
        rw [ht', ← hlen]
        exact List.take_left
    · have holds : ∀ j u, xs[j]? = some u → w.cell? ((⟨g, 0, none⟩ : Addr).add j) = some u := hown.cells (g := g) rfl
      have hr := run_append_grow_string (P := P) w t u ty e i (.int .u8 0) ht hu hi hz ⟨g, 0, none⟩ n cap xs (by rw [hsize]; simpa using hxl) holds s (by omega) (by omega) (by rw [hby]; exact growslice_fits (by omega) (by omega))
      have hgr := grown cap (by omega) (Value.ownBlock (.slice (some ⟨g, 0, none⟩) n cap))
      exact ⟨_, _, hr, hgr.1, hgr.2, by simp [Value.ownBlock]⟩

theorem wpList_append_str_blk {P : Program} {w : World} {ops : Array Oper} {rest : List Oper} {o : Oper} {a : Act} {Q : Exit → Act → World → Prop} (hgd : o.guard = none) (sl x : Operand) (t u : TypeId)
    (ho : o.op = .call { callee := .builtin .append, args := #[sl, x], argTypes := #[t, u] })
    (base : Nat) (e : TypeId) (i : TypeInfo) (ht : P.underlying t = some (.slice e)) (hu : P.underlying u = some .string) (hi : P.info? e = some i) (hz : i.zero = some (.int .u8 0))
    (hsize : i.size = 1) (hby : i.bytes = 1)
    (v : Value) (n : Nat) (xs : List Value) (hs : a.eval sl = v) (hown : w.ownsRow base e 1 v n xs) (s : ByteArray) (hx : a.eval x = .string s)
    (h63 : n + s.size ≤ maxLen) (hbytes : n + s.size ≤ 140737488355328) (hbase : base ≤ w.heap.size)
    (h : ∀ v' w', w'.ownsRow base e 1 v' (n + s.size) (xs ++ strCells s) → w.grownBy w' v.ownBlock → (∀ x, x ∈ v'.ownBlock.toList → x ∈ v.ownBlock.toList ∨ w.heap.size ≤ x) → wpList P ops Q rest (a.put o.dst v') w') : wpList P ops Q (o :: rest) a w := by
  refine wpList_plain hgd fun K hK => ?_
  obtain ⟨v', w', hr, h2, h3, h4⟩ := append_str_blk (P := P) w base t u o.type e i ht hu hi hz hsize hby v n xs hown s h63 hbytes hbase
  unfold Oper.wp execOp
  simp only [ho, resolve, invoke, builtin, Sem.run_bind, Sem.run_pure, Result.andThen_ok, List.map_toArray, List.map_cons, List.map_nil, hs, hx, hr]
  exact hK _ _ (h v' w' h2 h3 h4)
end

/-- A builder in block b that holds l. -/
def Bd1 (b : Nat) (l : List UInt8) : Thing1 := fun w F => ∃ p v, F = b :: v.ownBlock.toList ∧ (p = .pointer none ∨ p = .pointer (some ⟨b, 0, none⟩)) ∧ w.heap[b]? = some (.cells #[p, v] 96 (0, 0)) ∧ w.ownsRow 0 5 1 v l.length (Lib.byteCells l)
def BdT (b : Nat) (l : List UInt8) : Thing := own (Bd1 b l)
instance (b : Nat) (l : List UInt8) : Loc1 (Bd1 b l) where
  keep := fun ⟨p, v, h1, h2, h3, h4⟩ hF hd => ⟨p, v, h1, h2, hF.keep h3 (hd b (by rw [h1]; simp)), ownsRow_keep h4 hF (fun g hg => hd g (by rw [h1]; exact List.mem_cons_of_mem _ hg))⟩
  lt := fun ⟨p, v, h1, h2, h3, h4⟩ x hx => by
    rw [h1] at hx
    rcases List.mem_cons.1 hx with rfl | hx
    · exact lt_of_block h3
    · exact ownsRow_lt h4 x hx
/-- A place in the list that holds nothing. -/
def Gone1 : Thing1 := fun w F => F = []
def GoneT : Thing := own Gone1
instance : Loc1 Gone1 where
  keep := fun h _ _ => h
  lt := fun h x hx => by rw [h] at hx; cases hx

theorem St.builder {W : Base} {w : World} {R : List Thing} (H : St W w R) : St W (w.alloc (.cells #[.pointer none, .slice none 0 0] 96)) (R ++ [BdT w.heap.size []]) :=
  H.new (F := [w.heap.size]) ((Fr.refl _ _).alloc _) inferInstance ⟨.pointer none, .slice none 0 0, rfl, .inl rfl, blk_alloc_at _ _ _ rfl, World.ownsRow_nil _ _ _ _⟩ (fun x hx => by simp at hx; omega)

theorem bd_size : (Tryz.prog.info? 96).map (·.size) = some 2 := by kernel_rfl
theorem bd_lies : liesAt Tryz.prog Tryz.prog.depth 96 (2 / Tryz.prog.cellsOf 96) 0 96 1 = true := by kernel_rfl
theorem bd_byte : Tryz.prog.cellsOf 5 = 1 := by kernel_rfl

set_option maxHeartbeats 1000000 in
set_option maxRecDepth 100000 in
theorem bd_used (b : Nat) (w : World) (h0 : w.cell? ⟨b, 0, none⟩ = some (.pointer (some ⟨b, 0, none⟩))) :
    Calls Tryz.prog 90 #[.pointer (some ⟨b, 0, none⟩)] w fun e w' => e = .returned (.tuple #[]) ∧ w' = w := by
  obtain ⟨j, hj, _⟩ := Option.map_eq_some_iff.1 bd_size
  go_enter Tryz.func90, Tryz.ntmps90
  go_wp2
  rw [Lib.run_neq_ptr_same w _ Tryz.underlying93 hj]
  go_wp2
  go_end0
  exact ⟨rfl, rfl⟩

set_option maxHeartbeats 1000000 in
set_option maxRecDepth 100000 in
theorem bd_fresh (b : Nat) (w : World) (h0 : w.cell? ⟨b, 0, none⟩ = some (.pointer none)) (hsh : w.shape? b = some (96, 2)) (hfz : w.frozen? ⟨b, 0, none⟩ = false) :
    Calls Tryz.prog 90 #[.pointer (some ⟨b, 0, none⟩)] w fun e w' => e = .returned (.tuple #[]) ∧ w' = w.setCell ⟨b, 0, none⟩ (.pointer (some ⟨b, 0, none⟩)) := by
  obtain ⟨j, hj, hjs⟩ := Option.map_eq_some_iff.1 bd_size
  go_enter Tryz.func90, Tryz.ntmps90
  go_wp2
  rw [Lib.run_to_unsafe w ⟨b, 0, none⟩ Tryz.underlying93 Tryz.underlying168 hj (by rw [hjs]; decide) hsh (Nat.zero_lt_succ 1)]
  simp only [Result.andThen]
  rw [Oper.upon_value]
  go_wp2
  rw [run_callFunc_extern Tryz.func132 (by kernel_rfl) (by kernel_rfl) (by kernel_rfl) (e := Extern.AbiNoEscape.same) (by kernel_rfl)]
  rw [Lib.run_noEscape]
  simp only [Result.andThen]
  rw [Oper.upon_value]
  go_wp2
  rw [Lib.run_from_unsafe w ⟨b, 0, none⟩ Tryz.underlying168 Tryz.underlying93 hj hsh bd_lies]
  simp only [Result.andThen]
  rw [Oper.upon_value]
  go_wp2
  go_end0
  exact ⟨rfl, rfl⟩

theorem bd_check (b : Nat) (p v : Value) (w : World) (hp : p = .pointer none ∨ p = .pointer (some ⟨b, 0, none⟩)) (hb : w.heap[b]? = some (.cells #[p, v] 96 (0, 0))) :
    Calls Tryz.prog 90 #[.pointer (some ⟨b, 0, none⟩)] w fun e w' => e = .returned (.tuple #[]) ∧ w'.heap[b]? = some (.cells #[.pointer (some ⟨b, 0, none⟩), v] 96 (0, 0)) ∧ Fr [b] w w' := by
  have hc := cell_blk (i := 0) hb rfl
  rcases hp with rfl | rfl
  · refine (bd_fresh b w hc (by simp [World.shape?, hb]) (free_blk hb)).mono ?_
    rintro e w' ⟨rfl, rfl⟩
    exact ⟨rfl, blk_setCell_at _ hb, (Fr.refl _ _).setCell (.inl (by simp)) _⟩
  · refine (bd_used b w hc).mono ?_
    rintro e w' ⟨rfl, rfl⟩
    exact ⟨rfl, hb, Fr.refl _ _⟩

set_option maxHeartbeats 2000000 in
set_option maxRecDepth 100000 in
theorem bd_write (b : Nat) (p v : Value) (l : List UInt8) (s : ByteArray) (w : World) (hp : p = .pointer none ∨ p = .pointer (some ⟨b, 0, none⟩)) (hb : w.heap[b]? = some (.cells #[p, v] 96 (0, 0)))
    (ho : w.ownsRow 0 5 1 v l.length (Lib.byteCells l)) (hlen : l.length + s.size ≤ 140737488355328) :
    Calls Tryz.prog 37 #[.pointer (some ⟨b, 0, none⟩), .string s] w fun e w' => e = .returned (.tuple #[.int .i64 s.size, .nilIface]) ∧ ∃ v', w'.heap[b]? = some (.cells #[.pointer (some ⟨b, 0, none⟩), v'] 96 (0, 0)) ∧
      w'.ownsRow 0 5 1 v' (l.length + s.size) (Lib.byteCells (l ++ s.data.toList)) ∧ Fr (b :: v.ownBlock.toList) w w' ∧ ∀ x, x ∈ v'.ownBlock.toList → x ∈ v.ownBlock.toList ∨ w.heap.size ≤ x := by
  obtain ⟨i0, hi, hz0, hz1, hz2⟩ := info_parts info_u8
  have HI := hid (And.intro hi (And.intro hz0 (And.intro hz1 hz2)))
  clear hi hz0 hz1 hz2
  have hnb : b ∉ v.ownBlock.toList := ownsRow_ne ho hb (by decide)
  go_enter Tryz.func37, Tryz.ntmps37
  go_wp2_with (go_at_call 90; refine (bd_check b p v _ hp hb).mono ?_)
  rintro e w1 ⟨rfl, hbk, hF1⟩
  have hown : w1.ownsRow 0 5 1 v l.length (Lib.byteCells l) := ownsRow_keep ho hF1 (fun g hg h => hnb (by simp at h; subst h; exact hg))
  have c0 : w1.cell? ⟨b, 0, none⟩ = some (.pointer (some ⟨b, 0, none⟩)) := cell_blk hbk rfl
  have c1 : w1.cell? ⟨b, 1, none⟩ = some v := cell_blk hbk rfl
  obtain ⟨ao1, n1, cap1, rfl⟩ : ∃ ao n' cap, v = .slice ao n' cap := by
    rcases hown.2 with ⟨hv, _⟩ | ⟨g, cap, cur, hv, _⟩
    · exact ⟨_, _, _, hv⟩
    · exact ⟨_, _, _, hv⟩
  go_wp2_with (at_builtin; refine wpList_append_str_blk rfl _ _ 94 9 rfl 0 5 i0 Tryz.underlying94 Tryz.underlying9 HI.out.1 HI.out.2.1 HI.out.2.2.1 HI.out.2.2.2 (.slice ao1 n1 cap1) l.length (Lib.byteCells l) rfl hown s rfl ?c3 ?c4 ?c5 ?_)
  case c3 => unfold maxLen; omega
  case c4 => omega
  case c5 => omega
  intro v' w2 hown' hgrow hbl
  have hF2 : Fr (Value.slice ao1 n1 cap1).ownBlock.toList w1 w2 := Fr.of_grown hgrow
  have hb2 : w2.heap[b]? = some (.cells #[.pointer (some ⟨b, 0, none⟩), .slice ao1 n1 cap1] 96 (0, 0)) := hF2.keep hbk hnb
  have d0 : w2.cell? ⟨b, 0, none⟩ = some (.pointer (some ⟨b, 0, none⟩)) := cell_blk hb2 rfl
  have d1 : w2.cell? ⟨b, 1, none⟩ = some (.slice ao1 n1 cap1) := cell_blk hb2 rfl
  have f1 : w2.frozen? ⟨b, 1, none⟩ = false := free_blk hb2
  obtain ⟨ao, n', cap, rfl⟩ : ∃ ao n' cap, v' = .slice ao n' cap := by
    rcases hown'.2 with ⟨hv, _⟩ | ⟨g, cap, cur, hv, _⟩
    · exact ⟨_, _, _, hv⟩
    · exact ⟨_, _, _, hv⟩
  have hnb2 : b ∉ (Value.slice ao n' cap).ownBlock.toList := ownsRow_ne hown' hb2 (by decide)
  go_wp2
  go_ret2
  refine ⟨rfl, _, blk_setCell_at _ hb2, ?_, ?_, ?_⟩
  · have : Lib.byteCells (l ++ s.data.toList) = Lib.byteCells l ++ Lib.strCells s := by rw [Lib.byteCells_append, Lib.strCells_eq]
    rw [this]
    exact ownsRow_keep hown' ((Fr.refl [b] _).setCell (.inl (by simp)) _) (fun g hg h => hnb2 (by simp at h; subst h; exact hg))
  · refine ((((Fr.refl _ _).trans (hF1.mono (fun x hx => by simp at hx; simp [hx]))).trans (hF2.mono (fun x hx => List.mem_cons_of_mem _ hx))).setCell (.inl (by simp)) _)
  · intro x hx
    rcases hbl x (by simpa using hx) with h | h
    · exact .inl (by simpa using h)
    · exact .inr (Nat.le_trans hF1.size h)

theorem st_bwrite {W : Base} {w : World} {R : List Thing} (H : St W w R) (i : Nat) {b : Nat} {l : List UInt8} (s : ByteArray) (hi : R[i]? = some (BdT b l)) (hlen : l.length + s.size ≤ 140737488355328) :
    Calls Tryz.prog 37 #[.pointer (some ⟨b, 0, none⟩), .string s] w fun e w' => e = .returned (.tuple #[.int .i64 s.size, .nilIface]) ∧ St W w' (R.set i (BdT b (l ++ s.data.toList))) := by
  obtain ⟨F, ⟨p, v, rfl, hp, hb, ho⟩, hF, hset⟩ := H.at i hi
  refine (bd_write b p v l s w hp hb ho hlen).mono ?_
  rintro e w' ⟨rfl, v', hb', ho', hF', hbl⟩
  refine ⟨rfl, hset w' (b :: v'.ownBlock.toList) _ inferInstance ⟨_, v', rfl, .inr rfl, hb', by simpa using ho'⟩ hF' (fun x hx => ?_)⟩
  rcases List.mem_cons.1 hx with rfl | hx
  · exact .inl (by simp)
  · exact (hbl x hx).imp (List.mem_cons_of_mem _) id

set_option maxHeartbeats 2000000 in
set_option maxRecDepth 100000 in
theorem bd_string (b : Nat) (p v : Value) (l : List UInt8) (w : World) (hb : w.heap[b]? = some (.cells #[p, v] 96 (0, 0))) (ho : w.ownsRow 0 5 1 v l.length (Lib.byteCells l)) (h0 : l ≠ []) :
    Calls Tryz.prog 41 #[.pointer (some ⟨b, 0, none⟩)] w fun e w' => e = .returned (.string ⟨l.toArray⟩) ∧ Fr v.ownBlock.toList w w' := by
  have hl0 : l.length ≠ 0 := by simpa using h0
  obtain ⟨g, cap, cur, rfl, hbg, hg, hnc, hcm, hcs, htake⟩ : ∃ g cap cur, v = .slice (some ⟨g, 0, none⟩) l.length cap ∧ 0 ≤ g ∧ w.heap[g]? = some (.cells cur 5 (0, 0)) ∧ l.length ≤ cap ∧ cap ≤ maxLen ∧ cur.size = cap * 1 ∧ cur.toList.take (l.length * 1) = Lib.byteCells l := by
    rcases ho.2 with ⟨_, hz⟩ | ⟨g, cap, cur, hv, r⟩
    · exact absurd hz hl0
    · exact ⟨g, cap, cur, hv, r⟩
  have c1 : w.drew.cell? ⟨b, 1, none⟩ = some (.slice (some ⟨g, 0, none⟩) l.length cap) := cell_blk (blk_drew hb) rfl
  have hSD : (Builtin.unsafeSliceData_ #[94] 147 #[.slice (some ⟨g, 0, none⟩) l.length cap]).run Tryz.prog w.drew = .ok (.pointer (some ⟨g, 0, none⟩)) w.drew :=
    Lib.run_unsafeSliceData_row _ _ _ _ _ _ (by omega)
  have hUS : (Builtin.unsafeString_ #[147, 3] 9 #[.pointer (some ⟨g, 0, none⟩), .int .i64 l.length]).run Tryz.prog w.drew = .ok (.string ⟨l.toArray⟩) (w.drew.freeze ⟨g, 0, none⟩ l.length) := by
    refine Lib.run_unsafeString_row w.drew 147 3 9 5 Tryz.underlying147 bd_byte g cur.size (by have hg' : w.drew.heap[g]? = some (.cells cur 5 (0, 0)) := hg; simp [World.shape?, hg']) l h0 (by omega) (by unfold maxLen at hcm; omega) ?_
    intro j x hx
    have := ho.cells (g := g) rfl j (.int .u8 x.toNat) (by simp [Lib.byteCells, hx])
    exact this
  have hfr : Fr (Value.slice (some ⟨g, 0, none⟩) l.length cap).ownBlock.toList w (w.drew.freeze ⟨g, 0, none⟩ l.length) := by
    refine ((Fr.refl _ _).drew).trans ?_
    unfold World.freeze
    split
    · exact Fr.refl _ _
    · exact ⟨rfl, rfl, rfl, by simp, fun k hk hS => by
        simp only [Array.getElem?_modify]
        rw [if_neg (by intro e; exact hS (by simp [Value.ownBlock, e]))]⟩
  clear ho hb hg
  have mixed : Tryz.prog.follows .mixedOrders = true := by kernel_rfl
  go_enter Tryz.func41, Tryz.ntmps41
  go_wp2
  go_region_o
  all_goals (go_wp2; go_ret; exact ⟨rfl, hfr⟩)

theorem st_bstring {W : Base} {w : World} {R : List Thing} (H : St W w R) (i : Nat) {b : Nat} {l : List UInt8} (hi : R[i]? = some (BdT b l)) (h0 : l ≠ []) :
    Calls Tryz.prog 41 #[.pointer (some ⟨b, 0, none⟩)] w fun e w' => e = .returned (.string ⟨l.toArray⟩) ∧ St W w' (R.set i GoneT) := by
  obtain ⟨F, ⟨p, v, rfl, hp, hb, ho⟩, hF, hset⟩ := H.at i hi
  refine (bd_string b p v l w hb ho h0).mono ?_
  rintro e w' ⟨rfl, hF'⟩
  exact ⟨rfl, hset w' [] Gone1 inferInstance rfl (hF'.mono (fun x hx => List.mem_cons_of_mem _ hx)) (fun x hx => by cases hx)⟩

end Go.Proofs.YtmgnekjhlfghaaaGreat
