/-
  Merged, in build order: Disk1 Disk2.
-/
import Derived.Test.YthghnlgojmedgaaGreatM14
/-
  Arm, Read, New of the package disk.
-/
namespace Go.Proofs.YthghnlgojmedgaaGreat
open Go.RowKit
set_option linter.unusedVariables false

theorem disk_arm (w : World) (F : List Nat) (D : Nat) (d : DS) (n b : Int) (h : Dk w F D d) :
    Calls Tryz.prog 53 #[.pointer (some ⟨D, 0, none⟩), .int .i64 n, .int .i64 b] w fun e w' => e = .returned (.int .i64 (d.arm n b).1) ∧ Fr [D] w w' ∧ Dk w' F D (d.arm n b).2 := by
  have hk := h
  obtain ⟨S, cap, rv, cur, rfl, h1, h2, h3, h4⟩ := h
  have c4 : w.cell? ⟨D, 4, none⟩ = some (.bool d.dead) := cell_blk h1 rfl
  by_cases hd : d.dead = true
  · rw [hd] at c4
    have hr : d.arm n b = (2, d) := by unfold DS.arm; rw [if_pos hd]
    rw [hr]
    have HK := hid hk
    clear hd hr hk h1 h2 h3 h4
    go_enter Tryz.func53, Tryz.ntmps53
    go_wp2
    go_ret
    exact ⟨rfl, Fr.refl _ _, HK.out⟩
  have hd' : d.dead = false := by simpa using hd
  by_cases hb : n < 0 ∨ b < 0 ∨ 128 < b
  · have hr : d.arm n b = (1, d) := by unfold DS.arm; rw [if_neg hd, if_pos hb]
    rw [hr]
    rw [hd'] at c4
    have HK := hid hk
    clear hd hr hk h1 h2 h3 h4 hd'
    by_cases hn : n < 0
    · go_enter Tryz.func53, Tryz.ntmps53
      go_wp2
      go_ret
      exact ⟨rfl, Fr.refl _ _, HK.out⟩
    by_cases hb0 : b < 0
    · go_enter Tryz.func53, Tryz.ntmps53
      go_wp2
      go_ret
      exact ⟨rfl, Fr.refl _ _, HK.out⟩
    · have hb1 : 128 < b := by omega
      clear hb
      go_enter Tryz.func53, Tryz.ntmps53
      go_wp2
      go_ret
      exact ⟨rfl, Fr.refl _ _, HK.out⟩
  · have hr : d.arm n b = (0, { d with armed := n, bytes := b }) := by unfold DS.arm; rw [if_neg hd, if_neg hb]
    rw [hr]
    rw [hd'] at c4
    have g1 : ¬ n < 0 := by omega
    have g2 : ¬ b < 0 := by omega
    have g3 : ¬ 128 < b := by omega
    have c2 : w.cell? ⟨D, 2, none⟩ = some (.int .i64 d.armed) := cell_blk h1 rfl
    have f2 : w.frozen? ⟨D, 2, none⟩ = false := free_blk h1
    have c3 : w.cell? ⟨D, 3, none⟩ = some (.int .i64 d.bytes) := cell_blk h1 rfl
    have f3 : w.frozen? ⟨D, 3, none⟩ = false := free_blk h1
    have hne := ne_of_elem h2 h1 (by decide)
    have hF : Fr [D] w ((w.setCell ⟨D, 2, none⟩ (.int .i64 n)).setCell ⟨D, 3, none⟩ (.int .i64 b)) := ((Fr.refl _ _).setCell (.inl (by simp)) _).setCell (.inl (by simp)) _
    have hrow : ∀ g, g ∈ rv.ownBlock.toList → g ∉ [D] := by
      intro g hg
      obtain ⟨_, hr⟩ := h4
      rcases hr with ⟨rfl, _⟩ | ⟨g', cap', cur', rfl, _, hh, _⟩
      · simp [Value.ownBlock] at hg
      · simp [Value.ownBlock] at hg; subst hg; simpa using ne_of_elem hh h1 (by decide)
    have hfin : Dk ((w.setCell ⟨D, 2, none⟩ (.int .i64 n)).setCell ⟨D, 3, none⟩ (.int .i64 b)) (D :: S :: rv.ownBlock.toList) D { d with armed := n, bytes := b } :=
      ⟨S, cap, rv, cur, rfl, blk_setCell_at _ (blk_setCell_at _ h1), hF.keep h2 (by simpa using hne), h3, owns_keep h4 hF hrow⟩
    have HK := hid (And.intro hF hfin)
    clear hd hr hk h2 h3 h4 hd' hb hF hfin hrow hne h1
    go_enter Tryz.func53, Tryz.ntmps53
    go_wp2
    go_ret
    exact ⟨rfl, HK.out.1, HK.out.2⟩

/-- A text out of its bytes, wherever they lie. -/
theorem foldl_push (l : List UInt8) (r : ByteArray) : l.foldl (fun r n => r.push n) r = ⟨(r.data.toList ++ l).toArray⟩ := by
  induction l generalizing r with
  | nil => simp
  | cons x l ih => rw [List.foldl_cons, ih]; simp [ByteArray.push]

theorem run_text {P : Program} (w : World) (src dst e : TypeId) (g off len cap : Nat) (s : ByteArray) (hsrc : P.underlying src = some (.slice e)) (he : P.underlying e = some (.int .u8)) (hdst : P.underlying dst = some .string)
    (hsz : s.size = len) (h : ∀ j, j < len → w.cell? ⟨g, off + j, none⟩ = some (.int .u8 (sget s j))) :
    (convert src dst (.slice (some ⟨g, off, none⟩) len cap)).run P w = .ok (.string s) w := by
  have hl : s.data.toList.length = len := by rw [← hsz]; rfl
  rw [run_convert_bytes_string w src dst e _ _ _ hsrc he hdst]
  have hld := run_loadCells_list (P := P) w ⟨g, off, none⟩ ((s.data.toList.map fun b => ((b.toNat : Nat) : Int)).map (Value.int .u8)) (by
    intro j v hv
    simp only [List.getElem?_map, Option.map_map] at hv
    have hj : j < len := by
      rcases Nat.lt_or_ge j len with h1 | h1
      · exact h1
      · rw [List.getElem?_eq_none (by omega)] at hv; simp at hv
    have e1 : (⟨g, off, none⟩ : Addr).add j = ⟨g, off + j, none⟩ := by unfold Addr.add; by_cases hj : j = 0 <;> simp [hj]
    rw [e1, h j hj, ← hv]
    simp [sget, List.getD, List.getElem?_eq_getElem (show j < s.data.toList.length by omega)])
  have := run_bytesToString (P := P) w ⟨g, off, none⟩ len cap (s.data.toList.map fun b => ((b.toNat : Nat) : Int)) (by rw [← hld]; simp [hl])
  rw [this]
  congr 2
  rw [List.foldl_map]
  have : (fun (r : ByteArray) (b : UInt8) => r.push (UInt8.ofNat ((b.toNat : Int)).toNat)) = fun r b => r.push b := by funext r b; simp
  rw [this, foldl_push]
  simp

theorem wpList_text {P : Program} {w : World} {ops : Array Oper} {rest : List Oper} {o : Oper} {a : Act} {Q : Exit → Act → World → Prop} (hgd : o.guard = none) (src dst : TypeId) (x : Operand) (ho : o.op = .convert src dst x)
    (e : TypeId) (hsrc : P.underlying src = some (.slice e)) (he : P.underlying e = some (.int .u8)) (hdst : P.underlying dst = some .string)
    (g off len cap : Nat) (s : ByteArray) (hx : a.eval x = .slice (some ⟨g, off, none⟩) len cap) (hsz : s.size = len) (hc : ∀ j, j < len → w.cell? ⟨g, off + j, none⟩ = some (.int .u8 (sget s j)))
    (h : wpList P ops Q rest (a.put o.dst (.string s)) w) : wpList P ops Q (o :: rest) a w := by
  refine wpList_plain hgd fun K hK => ?_
  have hrun := run_text (P := P) w src dst e g off len cap s hsrc he hdst hsz hc
  unfold Oper.wp
  simp [execOp, ho, hx, hrun, Result.andThen]
  exact hK _ _ h

theorem disk_read_no (w : World) (F : List Nat) (D : Nat) (d : DS) (i : Int) (h : Dk w F D d) (code : Int) (hc : d.dead = true ∧ code = 2 ∨ d.dead = false ∧ (i < 0 ∨ d.sec.length ≤ i) ∧ code = 40) :
    Calls Tryz.prog 63 #[.pointer (some ⟨D, 0, none⟩), .int .i64 i] w fun e w' => e = .returned (.tuple #[.string ByteArray.empty, .int .i64 code]) ∧ w = w' := by
  have hk := h
  obtain ⟨S, cap, rv, cur, rfl, h1, h2, h3, h4⟩ := h
  have c4 : w.cell? ⟨D, 4, none⟩ = some (.bool d.dead) := cell_blk h1 rfl
  rcases hc with ⟨hd, rfl⟩ | ⟨hd, hi, rfl⟩
  · rw [hd] at c4
    clear h1 h2 h3 h4 hk hd
    go_enter Tryz.func63, Tryz.ntmps63
    go_wp2
    go_ret2
    exact ⟨rfl, rfl⟩
  · rw [hd] at c4
    have hno := disk_is_no w _ D d i hk hi
    have HN := hid hno
    clear h1 h2 h3 h4 hk hd hi hno
    go_enter Tryz.func63, Tryz.ntmps63
    go_wp2_with fail
    refine HN.out.mono ?_
    rintro e w1 ⟨rfl, rfl⟩
    go_wp2_with fail
    go_ret2
    exact ⟨rfl, rfl⟩

theorem disk_read_yes (w : World) (F : List Nat) (D : Nat) (d : DS) (k : Nat) (h : Dk w F D d) (hw : d.wf) (hd : d.dead = false) (hk : k < d.sec.length) :
    Calls Tryz.prog 63 #[.pointer (some ⟨D, 0, none⟩), .int .i64 k] w fun e w' => e = .returned (.tuple #[.string (sAt d.sec k), .int .i64 0]) ∧ w = w' := by
  have hyes := disk_is_yes w _ D d k h (by omega) (by omega)
  obtain ⟨S, cap, rv, cur, rfl, h1, h2, h3, h4⟩ := h
  have c4 : w.cell? ⟨D, 4, none⟩ = some (.bool d.dead) := cell_blk h1 rfl
  have c0 : w.cell? ⟨D, 0, none⟩ = some (.slice (some ⟨S, 0, none⟩) d.sec.length cap) := cell_blk h1 rfl
  rw [hd] at c4
  have HN := hid hyes
  have hle := h3.le
  clear h1 h4 hd hyes
  go_enter Tryz.func63, Tryz.ntmps63
  go_wp2_with fail
  refine HN.out.mono ?_
  rintro e w1 ⟨rfl, rfl⟩
  go_wp2_with (with_reducible refine wpList_text rfl 71 9 (.tmp 20) rfl 5 Tryz.underlying71 Tryz.underlying5 Tryz.underlying9 _ _ _ _ (sAt d.sec k) rfl (hw.sz k hk) ?qc ?_)
  case qc =>
    intro j hj
    exact cell_blk h2 (h3.at_ k hk j hj)
  go_ret2
  exact ⟨rfl, rfl⟩

theorem disk_new_bad (w : World) (n : Int) (h : n < 1 ∨ 1026 < n) :
    Calls Tryz.prog 5 #[.int .i64 n] w fun e w' => e = .returned (.tuple #[.pointer none, .int .i64 40]) ∧ w = w' := by
  rcases h with h | h
  · go_enter Tryz.func5, Tryz.ntmps5
    go_wp2
    go_ret2
    exact ⟨rfl, rfl⟩
  · have : ¬ n < 1 := by omega
    go_enter Tryz.func5, Tryz.ntmps5
    go_wp2
    go_ret2
    exact ⟨rfl, rfl⟩

theorem info_sector : (Tryz.prog.info? 73).map (fun i => (i.zero, i.size, i.bytes)) = some (some (.agg (Array.replicate 128 (.int .u8 0))), 128, 128) := by kernel_rfl

def zeroSec : ByteArray := ⟨Array.replicate 128 0⟩
/-- A new disk. -/
def DS.new (n : Nat) : DS := ⟨List.replicate n zeroSec, [], 0, 0, false⟩

theorem zero_gen (n j : Nat) : ((Array.replicate n (0 : UInt8)).toList.getD j 0).toNat = 0 := by
  rw [Array.toList_replicate]
  by_cases hj : j < n <;> simp [List.getD, hj]
theorem zero_at (j : Nat) : sget zeroSec j = 0 := by
  show (((Array.replicate 128 (0 : UInt8)).toList.getD j 0).toNat : Int) = 0
  rw [zero_gen]; rfl

theorem made_at (N q : Nat) (hq : q < N) : (madeCells (Value.agg (Array.replicate 128 (.int .u8 0))).cells N)[q]? = some (.int .u8 0) := by
  unfold madeCells
  simp only [Array.getElem?_map]
  rw [Array.getElem?_range, if_pos hq]
  simp only [Option.map_some, Value.cells, Array.size_replicate]
  rw [getElem!_pos _ _ (by simp; omega)]
  simp

theorem secs_new (n : Nat) (h2 : n ≤ 1026) (cur : Array Value) (hs : cur.size = n * 128) (hc : cur.toList.take (n * 128) = (madeCells (Value.agg (Array.replicate 128 (.int .u8 0))).cells (n * 128)).toList) : Secs cur n (List.replicate n zeroSec) := by
  have hcur : cur = madeCells (Value.agg (Array.replicate 128 (.int .u8 0))).cells (n * 128) := by
    apply Array.toList_inj.1
    rw [← hc, List.take_of_length_le (by simp [hs])]
  refine ⟨by simp, by unfold maxLen; omega, hs, fun i hi j hj => ?_⟩
  have hi' : i < n := by simpa using hi
  have e : sAt (List.replicate n zeroSec) i = zeroSec := by unfold sAt; simp [List.getD, hi']
  rw [hcur, made_at _ _ (by omega), e, zero_at]

theorem disk_new_ok (w : World) (n : Nat) (h1 : 1 ≤ n) (h2 : n ≤ 1026) :
    Calls Tryz.prog 5 #[.int .i64 n] w fun e w' => ∃ D F, e = .returned (.tuple #[.pointer (some ⟨D, 0, none⟩), .int .i64 0]) ∧ Fr [] w w' ∧ Dk w' F D (DS.new n) ∧ ∀ x, x ∈ F → w.heap.size ≤ x := by
  obtain ⟨i0, hi, hz0, hz1, hz2⟩ := info_parts info_sector
  have HI := hid (And.intro hi (And.intro hz0 (And.intro hz1 hz2)))
  clear hi hz0 hz1 hz2
  go_enter Tryz.func5, Tryz.ntmps5
  go_wp2_with (at_make; refine wpList_make_full _ rfl (.tmp 10) (.tmp 10) 52 rfl 0 73 i0 _ 128 Tryz.underlying52 HI.out.1 HI.out.2.1 HI.out.2.2.1 .i64 .i64 n n n rfl rfl rfl rfl ?qa ?qb ?qc ?_)
  case qa => rw [HI.out.2.2.2]; omega
  case qb => unfold maxLen; omega
  case qc => omega
  intro w1 hown hgrow
  have hF := Fr.of_grown hgrow
  obtain ⟨hl, hr⟩ := hown
  rcases hr with ⟨hr, _⟩ | ⟨g, cap, cur, hv, _, hh, hle, hmx, hsz, htk⟩
  · simp at hr
  simp only [Value.slice.injEq, Option.some.injEq, Addr.mk.injEq, and_true, true_and] at hv
  obtain ⟨rfl, rfl⟩ := hv
  have hsec := secs_new n h2 cur hsz htk
  have HH := hid (And.intro hh (And.intro hF hsec))
  clear hl hh hF hsec hgrow hle hmx hsz htk
  go_wp2
  go_ret2
  refine ⟨w1.heap.size, _, rfl, (HH.out.2.1.mono (by simp)).alloc _, ⟨w.heap.size, n, .slice none 0 0, cur, rfl, ?_, blk_alloc_lt _ HH.out.1, HH.out.2.2, World.ownsRow_nil _ _ _ _⟩, ?_⟩
  · rw [blk_alloc_at _ _ _ rfl]; simp [DS.new]
  · have := HH.out.2.1.size
    intro x hx
    simp [Value.ownBlock] at hx
    rcases hx with rfl | rfl
    · exact this
    · exact Nat.le_refl _

end Go.Proofs.YthghnlgojmedgaaGreat

/-
  copy from a text into a row that is known whole; what it does to the sectors.
-/
namespace Go.Proofs.YthghnlgojmedgaaGreat
open Go.RowKit
set_option linter.unusedVariables false
set_option linter.unusedSimpArgs false

/-- The row behind a copy of the first k bytes of s to place o on. -/
def laid (cur : Array Value) (o : Nat) (s : ByteArray) (k : Nat) : Array Value :=
  (cur.toList.take o ++ ((s.data.toList.take k).map (fun b => Value.int .u8 b.toNat) ++ cur.toList.drop (o + k))).toArray

theorem laid_size {cur : Array Value} {o : Nat} {s : ByteArray} {k : Nat} (hk : k ≤ s.size) (hfit : o + k ≤ cur.size) : (laid cur o s k).size = cur.size := by
  have : s.data.toList.length = s.size := rfl
  simp [laid]; omega

theorem laid_at {cur : Array Value} {o : Nat} {s : ByteArray} {k q : Nat} (hk : k ≤ s.size) (hfit : o + k ≤ cur.size) :
    (laid cur o s k)[q]? = if o ≤ q ∧ q < o + k then some (.int .u8 (sget s (q - o))) else cur[q]? := by
  have hs : s.data.toList.length = s.size := rfl
  have e : (laid cur o s k)[q]? = (cur.toList.take o ++ ((s.data.toList.take k).map (fun b => Value.int .u8 b.toNat) ++ cur.toList.drop (o + k)))[q]? := by simp [laid]
  rw [e]
  by_cases h1 : q < o
  · rw [if_neg (by omega), List.getElem?_append_left (by simp; omega), List.getElem?_take, if_pos h1]; simp
  · rw [List.getElem?_append_right (by simp; omega)]
    have hto : (cur.toList.take o).length = o := by simp; omega
    rw [hto]
    by_cases h2 : q < o + k
    · rw [if_pos ⟨by omega, h2⟩, List.getElem?_append_left (by simp; omega), List.getElem?_map, List.getElem?_take, if_pos (by omega), List.getElem?_eq_getElem (by omega)]
      simp [sget, List.getD, List.getElem?_eq_getElem (show q - o < s.data.toList.length by omega)]
    · rw [if_neg (by omega), List.getElem?_append_right (by simp; omega)]
      simp only [List.length_map, List.length_take, List.getElem?_drop]
      rw [show o + k + (q - o - min k s.data.toList.length) = q by omega]
      simp

theorem run_copy_str {P : Program} (w : World) (dT sT ty elem : TypeId) (g o dLen dCap k : Nat) (s : ByteArray) (cur : Array Value) (t : TypeId)
    (hu : P.underlying dT = some (.slice elem)) (hs : (P.info? elem).map (·.size) = some 1) (hg : w.heap[g]? = some (.cells cur t (0, 0))) (hk : Nat.min s.size dLen = k) (hfit : o + k ≤ cur.size) :
    (Builtin.copy_ #[dT, sT] ty #[.slice (some ⟨g, o, none⟩) dLen dCap, .string s]).run P w = .ok (goInt k) (w.setRow g (laid cur o s k)) := by
  have hsl : s.data.toList.length = s.size := rfl
  have hks : k ≤ s.size := by rw [← hk]; exact Nat.min_le_left _ _
  have hlen : ((s.data.toList.take k).map (fun b => Value.int .u8 b.toNat)).length = k := by simp; omega
  have hst := run_storeCells_at P g o t ((s.data.toList.take k).map (fun b => Value.int .u8 b.toNat)) 0 cur w hg (by rw [hlen]; simpa using hfit) (by
    intro v hv
    obtain ⟨b, _, rfl⟩ := List.mem_map.1 hv
    rfl)
  rw [hlen] at hst
  simp only [Nat.add_zero] at hst
  cases hq : P.info? elem with
  | none => simp [hq] at hs
  | some i =>
    simp [Builtin.copy_, run_underlying hu, Builtin.lenOf, Builtin.firstCells, sizeOf, typeInfo, hq, hk]
    rw [← List.map_take, hst]
    simp [Result.andThen, laid]

theorem wpList_copy_str {P : Program} {w : World} {ops : Array Oper} {rest : List Oper} {o : Oper} {a : Act} {Q : Exit → Act → World → Prop} (hgd : o.guard = none) (d x : Operand) (dT sT : TypeId)
    (ho : o.op = .call { callee := .builtin .copy, args := #[d, x], argTypes := #[dT, sT] }) (elem : TypeId) (hu : P.underlying dT = some (.slice elem)) (hs : (P.info? elem).map (·.size) = some 1)
    (g off dLen dCap k : Nat) (s : ByteArray) (cur : Array Value) (t : TypeId) (hd : a.eval d = .slice (some ⟨g, off, none⟩) dLen dCap) (hx : a.eval x = .string s)
    (hg : w.heap[g]? = some (.cells cur t (0, 0))) (hk : Nat.min s.size dLen = k) (hfit : off + k ≤ cur.size)
    (h : wpList P ops Q rest (a.put o.dst (goInt k)) (w.setRow g (laid cur off s k))) : wpList P ops Q (o :: rest) a w := by
  refine wpList_plain hgd fun K hK => ?_
  have hrun := run_copy_str (P := P) w dT sT o.type elem g off dLen dCap k s cur t hu hs hg hk hfit
  unfold Oper.wp
  simp [execOp, ho, resolve, invoke, builtin, hd, hx, hrun, Result.andThen]
  exact hK _ _ h

theorem step_copy_str {P : Program} {ops : Array Oper} {o : Oper} {a : Act} {w : World} {K : Act → World → Prop} {Q : Exit → Act → World → Prop} {E : Prop} (hgd : o.guard = none) (d x : Operand) (dT sT : TypeId)
    (ho : o.op = .call { callee := .builtin .copy, args := #[d, x], argTypes := #[dT, sT] }) (elem : TypeId) (hu : P.underlying dT = some (.slice elem)) (hs : (P.info? elem).map (·.size) = some 1)
    (g off dLen dCap k : Nat) (s : ByteArray) (cur : Array Value) (t : TypeId) (hd : a.eval d = .slice (some ⟨g, off, none⟩) dLen dCap) (hx : a.eval x = .string s)
    (hg : w.heap[g]? = some (.cells cur t (0, 0))) (hk : Nat.min s.size dLen = k) (hfit : off + k ≤ cur.size)
    (h : K (a.put o.dst (goInt k)) (w.setRow g (laid cur off s k))) : if Region.wanted o (yielded ops a.tmps) = true then Oper.wp P o a w K Q else E := by
  have hw : Region.wanted o (yielded ops a.tmps) = true := by simp [Region.wanted, hgd]
  rw [if_pos hw]
  have hrun := run_copy_str (P := P) w dT sT o.type elem g off dLen dCap k s cur t hu hs hg hk hfit
  unfold Oper.wp
  simp [execOp, ho, resolve, invoke, builtin, hd, hx, hrun, Result.andThen]
  exact h

theorem blk_setRow_at {w : World} {g : Nat} {c cs : Array Value} {t : TypeId} {f : Nat × Nat} (h : w.heap[g]? = some (.cells c t f)) : (w.setRow g cs).heap[g]? = some (.cells cs t f) := by
  have hlt := lt_of_block h
  have h' : w.heap[g] = .cells c t f := by simpa [Array.getElem?_eq_getElem hlt] using h
  show (w.heap.modify g _)[g]? = _
  rw [Array.getElem?_eq_getElem (by simpa using hlt), Array.getElem_modify_self, h']

theorem blk_setRow_ne {w : World} {g k : Nat} {cs : Array Value} {x : Obj} (h : w.heap[k]? = some x) (hne : k ≠ g) : (w.setRow g cs).heap[k]? = some x := by
  show (w.heap.modify g _)[k]? = _
  rw [Array.getElem?_modify, if_neg (by omega)]; exact h

theorem Fr.setRow {S : List Nat} {a b : World} (h : Fr S a b) {g : Nat} (hp : g ∈ S ∨ a.heap.size ≤ g) (cs : Array Value) : Fr S a (b.setRow g cs) :=
  h.step (S' := [g]) ⟨rfl, rfl, rfl, by simp [World.setRow], fun k hk hn => by
    show (b.heap.modify g _)[k]? = _
    rw [Array.getElem?_modify, if_neg (by simp at hn; omega)]⟩ (fun x hx => by simp at hx; subst hx; exact hp)

theorem sAt_set (l : List ByteArray) (i j : Nat) (s : ByteArray) (hi : i < l.length) : sAt (l.set i s) j = if j = i then s else sAt l j := by
  unfold sAt
  by_cases hj : j = i
  · subst hj; rw [if_pos rfl]; simp [List.getD, hi]
  · rw [if_neg hj]; simp [List.getD, List.getElem?_set, Ne.symm hj]

theorem cutB_size (new old : ByteArray) (k : Nat) (hn : new.size = 128) (ho : old.size = 128) (hk : k ≤ 128) : (cutB new old k).size = 128 := by
  unfold cutB; simp [ByteArray.size_append, ByteArray.size_extract]; omega

theorem toList_extract (s : ByteArray) (i j : Nat) : (s.extract i j).data.toList = (s.data.toList.drop i).take (j - i) := by
  simp [ByteArray.data_extract]

theorem cutB_at (new old : ByteArray) (k j : Nat) (hn : new.size = 128) (ho : old.size = 128) (hk : k ≤ 128) : sget (cutB new old k) j = if j < k then sget new j else sget old j := by
  have h1 : new.data.toList.length = 128 := hn
  have h2 : old.data.toList.length = 128 := ho
  have e : (cutB new old k).data.toList = new.data.toList.take k ++ old.data.toList.drop k := by
    unfold cutB
    rw [ByteArray.data_append, Array.toList_append, toList_extract, toList_extract, ho]
    simp
    rw [List.take_of_length_le (by simp; omega)]
  unfold sget
  rw [e]
  by_cases hj : j < k
  · rw [if_pos hj]
    simp only [List.getD]
    rw [List.getElem?_append_left (by simp; omega), List.getElem?_take, if_pos hj]
  · rw [if_neg hj]
    simp only [List.getD]
    rw [List.getElem?_append_right (by simp; omega), List.getElem?_drop]
    congr 3
    simp; congr 1; omega

theorem cutB_full (new old : ByteArray) (hn : new.size = 128) (ho : old.size = 128) : cutB new old 128 = new := by
  have h1 : new.data.toList.length = 128 := hn
  have h2 : old.data.toList.length = 128 := ho
  have e : (cutB new old 128).data.toList = new.data.toList := by
    unfold cutB
    rw [ByteArray.data_append, Array.toList_append, toList_extract, toList_extract, ho]
    simp [h2]
    rw [List.take_of_length_le (by omega)]
  cases new; cases h : cutB _ old 128; simp_all

/-- One sector's first k bytes are overwritten. -/
theorem Secs.laid {cur : Array Value} {cap : Nat} {sec : List ByteArray} (h : Secs cur cap sec) {i k : Nat} {data : ByteArray} (hi : i < sec.length) (hn : data.size = 128) (hold : (sAt sec i).size = 128) (hk : k ≤ 128) :
    Secs (laid cur (i * 128) data k) cap (sec.set i (cutB data (sAt sec i) k)) := by
  have hfit : i * 128 + k ≤ cur.size := by
    have := h.le; have := h.sz
    have : (i + 1) * 128 ≤ cap * 128 := Nat.mul_le_mul_right _ (by omega)
    omega
  refine ⟨by simpa using h.le, h.mx, by rw [laid_size (by omega) hfit]; exact h.sz, fun i' hi' j hj => ?_⟩
  have hi'' : i' < sec.length := by simpa using hi'
  rw [laid_at (by omega) hfit, sAt_set _ _ _ _ hi]
  by_cases hii : i' = i
  · subst hii
    rw [if_pos rfl, cutB_at _ _ _ _ hn hold hk]
    by_cases hjk : j < k
    · rw [if_pos ⟨by omega, by omega⟩, if_pos hjk, show i' * 128 + j - i' * 128 = j by omega]
    · rw [if_neg (by omega), if_neg hjk]; exact h.at_ _ hi'' _ hj
  · rw [if_neg hii, if_neg (by omega)]; exact h.at_ _ hi'' _ hj

end Go.Proofs.YthghnlgojmedgaaGreat
