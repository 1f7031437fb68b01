/-
  Merged, in build order: UCp USm USn.
-/
import Derived.Laws.MakeOwn
import Derived.Test.YtmgnekjhlfghaaaGreatM28
import Derived.Test.YtmgnekjhlfghaaaGreatM21
import Derived.Test.YtmgnekjhlfghaaaGreatM24
import Derived.BigQuiet
import Derived.Deep.QuietTactic
import Derived.Test.YtmgnekjhlfghaaaGreatM19
import Derived.Test.YtmgnekjhlfghaaaGreatM20
/-
  gafferref08: Copy (as XCp, for State's dump).
-/
namespace Go.Proofs.YtmgnekjhlfghaaaGreat
open Go.RowKit
set_option linter.unusedVariables false
set_option linter.unusedSimpArgs false

/-- A row of changes of a block of the walk's own. -/
theorem in_new {w : World} {g : Nat} {l : List (CV × TS)} (h : w.heap[g]? = some (.cells (cL.cells l).toArray 80 (0, 0))) (hl : l.length ≤ maxLen) : In w 10 (some ⟨g, 0, none⟩) l.length l.length (cL.at_ l) := by
  refine WRow.toIn (e := 80) (.inr ⟨g, _, rfl, h, ?_, fun j hj => ?_⟩) (Nat.le_refl _) hl
  · have := cL.cells_len l
    rw [List.size_toArray, this]; exact Nat.le_refl _
  · rw [List.getElem?_toArray]; exact cL.get l j hj

theorem info_ch : (Tryz.prog.info? 80).map (fun i => (i.zero, i.size, i.bytes)) = some (some (.agg #[.int .i64 0, .int .i64 0, .int .i64 0, .int .i64 0, .int .i64 0, .int .i64 0, .int .i64 0, .int .u64 0, .string ⟨#[]⟩, .slice none 0 0]), 10, 104) := by kernel_rfl
theorem info_str : (Tryz.prog.info? 9).map (fun i => (i.zero, i.size, i.bytes)) = some (some (.string ByteArray.empty), 1, 16) := by kernel_rfl
theorem St.keepOne {W : Base} {w : World} {R T : List Thing} {A : Thing} (H : St W w (R ++ T)) (j : Nat) (hj : T[j]? = some A) : St W w (R ++ [A]) := H.lastOf (List.mem_of_getElem? hj)
/-- A change's texts, with room. -/
def RwX (x : CV × TS) : Thing := RowT 9 1 (.slice x.2.a x.1.texts.length x.2.c) x.1.texts.length (sL.cells x.1.texts)
def rws (l : List (CV × TS)) : List Thing := l.map RwX
def Roomy (x : CV × TS) : Prop := (∃ g, x.2.a = some ⟨g, 0, none⟩) ∧ x.2.c = x.1.texts.length + 2
/-- A row of changes with room for two. -/
def OutT (g n : Nat) (l : List (CV × TS)) (k : Nat) : Thing := RowT 80 10 (.slice (some ⟨g, 0, none⟩) k (n + 2)) k (cL.cells l)

theorem sL_range (l : List ByteArray) : (List.range (l.length * 1)).map (sL.at_ l) = sL.cells l := sL.range l

section
variable {W : World} {w : World} {R : List Thing}

/-- What Copy comes to. -/
def CpTo (W : World) (R : List Thing) (n : Nat) (l : List (CV × TS)) (e : Ending) (w' : World) : Prop := ∃ (g : Nat) (l' : List (CV × TS)), e = .returned (.slice (some ⟨g, 0, none⟩) n (n + 2)) ∧ l'.map (·.1) = l.map (·.1) ∧ (∀ x, x ∈ l' → Roomy x) ∧
      St (.of W) w' (R ++ (OutT g n l' n :: rws l'))

set_option maxHeartbeats 4000000 in
set_option maxRecDepth 100000 in
theorem st_copy (H : St (.of W) w R) {a : Option Addr} {n cap : Nat} {l : List (CV × TS)} (hC : ChArg W a n cap l) :
    Calls Tryz.prog 93 #[.slice a n cap] w (CpTo W R n l) := by
  obtain ⟨i0, hi0, hz0, hz1, hz2⟩ := info_parts info_ch
  obtain ⟨i1, hi1, hy0, hy1, hy2⟩ := info_parts info_str
  have HI := hid (And.intro hi0 (And.intro hz0 (And.intro hz1 hz2)))
  have HJ := hid (And.intro hi1 (And.intro hy0 (And.intro hy1 hy2)))
  have hcap := hC.cap
  have hle := hC.le
  have hw2 : IntKind.i64.wrap ((n : Int) + 2) = (n : Int) + 2 := IntWalk.i64_in _ (by omega)
  have hn2 : ((n + 2 : Nat) : Int) = (n : Int) + 2 := by omega
  obtain ⟨w1, hmk, ho, hg⟩ := run_make_own (P := Tryz.prog) w 0 22 80 i0 _ 10 Tryz.underlying22 hi0 hz0 hz1 .i64 .i64 (n + 2) (by rw [hz2]; omega) (by unfold maxLen; omega) (Nat.zero_le _)
  rw [hn2] at hmk
  have H1 : St (.of W) w1 (R ++ [OutT w.heap.size n [] 0]) := H.new (F := [w.heap.size]) (Fr.of_grown hg) inferInstance ⟨rfl, ho⟩ (fun x hx => by simp at hx; omega)
  have H1 := hid H1
  have HC := hid hC
  have hm := hC.row.max
  clear hi0 hz0 hz1 hz2 hi1 hy0 hy1 hy2 ho hg H hC
  generalize w.heap.size = g at hmk H1
  go_enter Tryz.func93, Tryz.ntmps93
  go_wp2_with fail
  go_loopw [3, 4] (fun ov iv wr => ∃ (k : Nat) (l' : List (CV × TS)), k ≤ n ∧ ov = .slice (some ⟨g, 0, none⟩) k (n + 2) ∧ iv = .int .i64 k ∧ l'.length = k ∧ l'.map (·.1) = (l.map (·.1)).take k ∧ (∀ x, x ∈ l' → Roomy x) ∧ St (.of W) wr (R ++ (OutT g n l' k :: rws l'))) (fun _ iv _ => n - (intOf iv).toNat)
  case atStart => exact ⟨0, [], Nat.zero_le _, rfl, rfl, rfl, by simp, by simp, H1.out⟩
  case round =>
    obtain ⟨k, l', hk, rfl, rfl, hll, hmap, hroomy, H⟩ := hrel
    by_cases hlt : k < n
    · have hF : Fr [] W wr := H.fr
      obtain ⟨bb, ob, rfl⟩ := HC.out.row.sm (by omega)
      obtain ⟨x, hx⟩ : ∃ x, cL.nth l k = x := ⟨_, rfl⟩
      have hkl : k < l.length := by rw [HC.out.len]; exact hlt
      have hget : (l.map (·.1))[k]? = some x.1 := by rw [List.getElem?_map, show l[k]? = some x by rw [← hx]; exact cL.nth_get hkl]; rfl
      obtain ⟨c0, c1, c2, c3, c4, c5, c6, c7, c8, c9⟩ := ch_cells (HC.out.row.fr0 hF) k hlt x hx
      have hone := HC.out.one x (by rw [← hx]; exact cL.mem_nth hkl)
      have htl := hone.tx.le
      have htc := hone.tx.cap
      have hw3 : IntKind.i64.wrap ((x.1.texts.length : Int) + 2) = (x.1.texts.length : Int) + 2 := IntWalk.i64_in _ (by omega)
      have hn3 : ((x.1.texts.length + 2 : Nat) : Int) = (x.1.texts.length : Int) + 2 := by omega
      have H2 := H.alloc (.cells #[.int .i64 x.1.kind, .int .i64 x.1.n, .int .i64 x.1.job, .int .i64 x.1.badge, .int .i64 x.1.slot, .int .i64 x.1.life, .int .i64 x.1.code, .int .u64 x.1.bits, .string x.1.prog, .slice x.2.a x.1.texts.length x.2.c] 80)
      obtain ⟨w2, hmk2, ho2, hg2⟩ := run_make_own (P := Tryz.prog) (wr.alloc (.cells #[.int .i64 x.1.kind, .int .i64 x.1.n, .int .i64 x.1.job, .int .i64 x.1.badge, .int .i64 x.1.slot, .int .i64 x.1.life, .int .i64 x.1.code, .int .u64 x.1.bits, .string x.1.prog, .slice x.2.a x.1.texts.length x.2.c] 80)) 0 41 9 i1 _ 1 Tryz.underlying41 HJ.out.1 HJ.out.2.1 HJ.out.2.2.1 .i64 .i64 (x.1.texts.length + 2) (by rw [HJ.out.2.2.2]; omega) (by unfold maxLen; omega) (Nat.zero_le _)
      rw [hn3] at hmk2
      have hsz : (wr.alloc (.cells #[.int .i64 x.1.kind, .int .i64 x.1.n, .int .i64 x.1.job, .int .i64 x.1.badge, .int .i64 x.1.slot, .int .i64 x.1.life, .int .i64 x.1.code, .int .u64 x.1.bits, .string x.1.prog, .slice x.2.a x.1.texts.length x.2.c] 80)).heap.size = wr.heap.size + 1 := by simp
      rw [hsz] at hmk2 ho2
      have H3 := H2.new (A := Row1 9 1 (.slice (some ⟨wr.heap.size + 1, 0, none⟩) 0 (x.1.texts.length + 2)) 0 (sL.cells [])) (F := [wr.heap.size + 1]) (Fr.of_grown hg2) inferInstance ⟨rfl, ho2⟩ (fun y hy => by simp at hy; rw [hsz]; omega)
      rw [List.append_assoc] at H3
      have hin := hone.tx.row.fr0 (show Fr [] W w2 from H3.fr)
      have b3 := H3.blk ((R ++ (OutT g n l' k :: rws l')).length + 0) (by rw [get_behind]; rfl)
      have k9 : w2.cell? ⟨wr.heap.size, 9, none⟩ = some (.slice x.2.a x.1.texts.length x.2.c) := cell_blk (i := 9) b3 rfl
      have H3 := hid H3
      have HG := hid (And.intro hget (And.intro hmap (And.intro hroomy (And.intro hll hone))))
      have hin := hid hin
      have ho2 := hid ho2
      clear H H2 hg2 b3 hx hkl hget hmap hroomy hll hF hsz
      go_wp2_with (at_builtin; refine wpList_append_in rfl (.tmp 26) (.tmp 28) 41 rfl 9 i1 1 Tryz.underlying41 HJ.out.1 HJ.out.2.2.1 (by decide) (wr.heap.size + 1) 0 (x.1.texts.length + 2) [] rfl ho2.out x.2.a x.1.texts.length x.2.c (sL.at_ x.1.texts) rfl hin.out (fun j _ => sL.at_one _ j) (by omega) ?_)
      intro w3 ho3 hF3
      have hsr : List.map (sL.at_ x.1.texts) (List.range x.1.texts.length) = sL.cells x.1.texts := by have := sL_range x.1.texts; rwa [Nat.mul_one] at this
      simp only [Nat.zero_add, List.nil_append, Nat.mul_one, hsr] at ho3
      have hi3 : ((R ++ (OutT g n l' k :: rws l')) ++ ([BlkT wr.heap.size (.cells #[.int .i64 x.1.kind, .int .i64 x.1.n, .int .i64 x.1.job, .int .i64 x.1.badge, .int .i64 x.1.slot, .int .i64 x.1.life, .int .i64 x.1.code, .int .u64 x.1.bits, .string x.1.prog, .slice x.2.a x.1.texts.length x.2.c] 80)] ++ [own (Row1 9 1 (.slice (some ⟨wr.heap.size + 1, 0, none⟩) 0 (x.1.texts.length + 2)) 0 (sL.cells []))]))[(R ++ (OutT g n l' k :: rws l')).length + 1]? = some (RowT 9 1 (.slice (some ⟨wr.heap.size + 1, 0, none⟩) 0 (x.1.texts.length + 2)) 0 (sL.cells [])) := by rw [get_behind]; rfl
      have H4 := (H3.out.append _ hi3).2 _ w3 x.1.texts.length (sL.cells x.1.texts) ho3 (by simpa [Value.ownBlock] using hF3) (fun y hy => .inl hy)
      rw [List.set_append_right _ _ (by omega), Nat.add_sub_cancel_left] at H4
      have b3 := H4.blk ((R ++ (OutT g n l' k :: rws l')).length + 0) (by rw [get_behind]; rfl)
      have m0 : w3.cell? ⟨wr.heap.size, 0, none⟩ = some (.int .i64 x.1.kind) := cell_blk (i := 0) b3 rfl
      have m1 : w3.cell? ⟨wr.heap.size, 1, none⟩ = some (.int .i64 x.1.n) := cell_blk (i := 1) b3 rfl
      have m2 : w3.cell? ⟨wr.heap.size, 2, none⟩ = some (.int .i64 x.1.job) := cell_blk (i := 2) b3 rfl
      have m3 : w3.cell? ⟨wr.heap.size, 3, none⟩ = some (.int .i64 x.1.badge) := cell_blk (i := 3) b3 rfl
      have m4 : w3.cell? ⟨wr.heap.size, 4, none⟩ = some (.int .i64 x.1.slot) := cell_blk (i := 4) b3 rfl
      have m5 : w3.cell? ⟨wr.heap.size, 5, none⟩ = some (.int .i64 x.1.life) := cell_blk (i := 5) b3 rfl
      have m6 : w3.cell? ⟨wr.heap.size, 6, none⟩ = some (.int .i64 x.1.code) := cell_blk (i := 6) b3 rfl
      have m7 : w3.cell? ⟨wr.heap.size, 7, none⟩ = some (.int .u64 x.1.bits) := cell_blk (i := 7) b3 rfl
      have m8 : w3.cell? ⟨wr.heap.size, 8, none⟩ = some (.string x.1.prog) := cell_blk (i := 8) b3 rfl
      have m9 : w3.cell? ⟨wr.heap.size, 9, none⟩ = some (.slice x.2.a x.1.texts.length x.2.c) := cell_blk (i := 9) b3 rfl
      have f9 : w3.frozen? ⟨wr.heap.size, 9, none⟩ = false := free_blk b3
      have H5 := H4.setBlk ((R ++ (OutT g n l' k :: rws l')).length + 0) (by rw [get_behind]; rfl) 9 (.slice (some ⟨wr.heap.size + 1, 0, none⟩) x.1.texts.length (x.1.texts.length + 2))
      rw [List.set_append_right _ _ (by omega), Nat.add_sub_cancel_left] at H5
      have H5 := hid H5
      clear b3 hi3 H4 ho3 hF3
      obtain ⟨y, hy⟩ : ∃ y : CV × TS, y = (x.1, ⟨some ⟨wr.heap.size + 1, 0, none⟩, x.1.texts.length + 2⟩) := ⟨_, rfl⟩
      have hcy : (cL.cells [y]).toArray = #[.int .i64 x.1.kind, .int .i64 x.1.n, .int .i64 x.1.job, .int .i64 x.1.badge, .int .i64 x.1.slot, .int .i64 x.1.life, .int .i64 x.1.code, .int .u64 x.1.bits, .string x.1.prog, .slice (some ⟨wr.heap.size + 1, 0, none⟩) x.1.texts.length (x.1.texts.length + 2)] := by subst hy; rfl
      have H6 := H5.out.alloc_ (.cells (cL.cells [y]).toArray 80)
      have hi6 : ((R ++ (OutT g n l' k :: rws l')) ++ ([BlkT wr.heap.size (.cells #[.int .i64 x.1.kind, .int .i64 x.1.n, .int .i64 x.1.job, .int .i64 x.1.badge, .int .i64 x.1.slot, .int .i64 x.1.life, .int .i64 x.1.code, .int .u64 x.1.bits, .string x.1.prog, .slice x.2.a x.1.texts.length x.2.c] 80)].set 0 (BlkT wr.heap.size (.cells (#[.int .i64 x.1.kind, .int .i64 x.1.n, .int .i64 x.1.job, .int .i64 x.1.badge, .int .i64 x.1.slot, .int .i64 x.1.life, .int .i64 x.1.code, .int .u64 x.1.bits, .string x.1.prog, .slice x.2.a x.1.texts.length x.2.c].setIfInBounds 9 (.slice (some ⟨wr.heap.size + 1, 0, none⟩) x.1.texts.length (x.1.texts.length + 2))) 80)) ++ [RowT 9 1 (.slice (some ⟨wr.heap.size + 1, 0, none⟩) x.1.texts.length (x.1.texts.length + 2)) x.1.texts.length (sL.cells x.1.texts)]))[R.length]? = some (OutT g n l' k) := by
        rw [List.append_assoc, List.getElem?_append_right (Nat.le_refl _), Nat.sub_self]; rfl
      have hin6 := in_new (l := [y]) (blk_alloc_at (w3.setCell ⟨wr.heap.size, 9, none⟩ (.slice (some ⟨wr.heap.size + 1, 0, none⟩) x.1.texts.length (x.1.texts.length + 2))) (.cells (cL.cells [y]).toArray 80) w3.heap.size (by simp)) (by show 1 ≤ maxLen; unfold maxLen; omega)
      have hap := H6.append _ hi6
      rw [hcy] at hin6 hap
      have hap := hid hap
      have hin6 := hid hin6
      clear H6 hi6
      go_wp2_with (at_builtin; refine wpList_append_in rfl (.tmp 31) (.tmp 33) 22 rfl 80 i0 10 Tryz.underlying22 HI.out.1 HI.out.2.2.1 (by decide) g k (n + 2) (cL.cells l') rfl hap.out.1 (some ⟨w3.heap.size, 0, none⟩) 1 1 (cL.at_ [y]) rfl hin6.out (fun j _ => cL.at_one _ j) (by omega) ?_)
      intro w5 ho5 hF5
      have ho6 : w5.ownsRow 0 80 10 (.slice (some ⟨g, 0, none⟩) (k + 1) (n + 2)) (k + 1) (cL.cells (l' ++ [y])) := by rw [← cL.snoc, hy]; exact ho5
      have H7 := hap.out.2 _ w5 (k + 1) _ ho6 (by simpa [Value.ownBlock] using hF5) (fun z hz => .inl hz)
      rw [List.set_append_left _ _ (by simp)] at H7
      have H8 := H7.keepOne 1 rfl
      have e8 : (R ++ (OutT g n l' k :: rws l')).set R.length (RowT 80 10 (.slice (some ⟨g, 0, none⟩) (k + 1) (n + 2)) (k + 1) (cL.cells (l' ++ [y]))) ++ [RowT 9 1 (.slice (some ⟨wr.heap.size + 1, 0, none⟩) x.1.texts.length (x.1.texts.length + 2)) x.1.texts.length (sL.cells x.1.texts)] = R ++ (OutT g n (l' ++ [y]) (k + 1) :: rws (l' ++ [y])) := by
        rw [List.set_append_right _ _ (Nat.le_refl _), Nat.sub_self]
        subst hy
        simp [rws, RwX, OutT]
      rw [e8] at H8
      have H8 := hid H8
      have HY := hid hy
      clear H7 e8 ho5 ho6 hF5 hap hin6 hcy hy m0 m1 m2 m3 m4 m5 m6 m7 m8 m9 f9 c0 c1 c2 c3 c4 c5 c6 c7 c8 c9 k9 hmk2
      go_wp2_with fail
      go_roundw
      case rel =>
        refine ⟨k + 1, l' ++ [y], by omega, rfl, by go_num, by rw [List.length_append, HG.out.2.2.2.1]; rfl, ?_, fun z hz => ?_, H8.out⟩
        · rw [List.map_append, HG.out.2.1, List.take_add_one, HG.out.1, HY.out]; rfl
        · rcases List.mem_append.1 hz with hz | hz
          · exact HG.out.2.2.1 z hz
          · rw [List.mem_singleton.1 hz, HY.out]; exact ⟨⟨_, rfl⟩, rfl⟩
      case measure => simp [intOf]; omega
    · obtain rfl : k = n := by omega
      have HH := hid (And.intro hll (And.intro hmap (And.intro hroomy H)))
      clear hll hmap hroomy H
      go_wp2_with fail
      go_ret
      refine ⟨g, l', rfl, ?_, HH.out.2.2.1, HH.out.2.2.2⟩
      rw [HH.out.2.1, List.take_of_length_le (by rw [List.length_map, HC.out.len]; exact Nat.le_refl _)]
end
end Go.Proofs.YtmgnekjhlfghaaaGreat

/-
  gafferref08: SameOne (as XSm, for State's dump).
-/
namespace Go.Proofs.YtmgnekjhlfghaaaGreat
open Go.RowKit
set_option linter.unusedVariables false
set_option linter.unusedSimpArgs false

set_option maxHeartbeats 4000000 in
set_option maxRecDepth 100000 in
theorem sameOne_walk (w : World) (c d : CV) (t u : TS) (ht : In w 1 t.a c.texts.length t.c (sL.at_ c.texts)) (hu : In w 1 u.a d.texts.length u.c (sL.at_ d.texts)) :
    Calls Tryz.prog 133 #[.agg (c.f t).toArray, .agg (d.f u).toArray] w fun e w' => IsB (c = d) e ∧ Fr [] w w' := by
  obtain ⟨ck, cn, cj, cb, cs, cl, cc, ci, cp, ct⟩ := c
  obtain ⟨dk, dn, dj, db, ds, dl, dc, di, dp, dt⟩ := d
  obtain ⟨ta, tc⟩ := t
  obtain ⟨ua, uc⟩ := u
  simp only at ht hu
  have hm1 := ht.max
  have hm2 := hu.max
  show Calls _ _ #[.agg #[.int .i64 ck, .int .i64 cn, .int .i64 cj, .int .i64 cb, .int .i64 cs, .int .i64 cl, .int .i64 cc, .int .u64 ci, .string cp, .slice ta ct.length tc], .agg #[.int .i64 dk, .int .i64 dn, .int .i64 dj, .int .i64 db, .int .i64 ds, .int .i64 dl, .int .i64 dc, .int .u64 di, .string dp, .slice ua dt.length uc]] _ _
  by_cases hl : ct.length = dt.length
  case neg =>
    have h1 : ((ct.length : Int) == dt.length) = false := by rw [beq_eq_false_iff_ne]; omega
    have h2 : ((ct.length : Int) != dt.length) = true := by rw [bne_iff_ne]; omega
    have HL := hid hl
    clear hl ht hu
    go_enter Tryz.func133, Tryz.ntmps133
    go_wp2
    go_ret
    exact ⟨IsB.no (fun h => absurd (by injection h with _ _ _ _ _ _ _ _ _ h; rw [h]) HL.out), ((Fr.refl _ _).alloc _).alloc _⟩
  have HA := hid ht
  have HB := hid hu
  have hl1 : ((ct.length : Int) == dt.length) = true := by rw [beq_iff_eq]; omega
  have hl2 : ((ct.length : Int) != dt.length) = false := by rw [bne_eq_false_iff_eq]; omega
  have HL := hid hl
  clear hl ht hu
  have hb1 := blk_alloc_lt (.cells #[.int .i64 dk, .int .i64 dn, .int .i64 dj, .int .i64 db, .int .i64 ds, .int .i64 dl, .int .i64 dc, .int .u64 di, .string dp, .slice ua dt.length uc] 80) (blk_alloc_at w (.cells #[.int .i64 ck, .int .i64 cn, .int .i64 cj, .int .i64 cb, .int .i64 cs, .int .i64 cl, .int .i64 cc, .int .u64 ci, .string cp, .slice ta ct.length tc] 80) _ rfl)
  have hb2 := blk_alloc_at (w.alloc (.cells #[.int .i64 ck, .int .i64 cn, .int .i64 cj, .int .i64 cb, .int .i64 cs, .int .i64 cl, .int .i64 cc, .int .u64 ci, .string cp, .slice ta ct.length tc] 80)) (.cells #[.int .i64 dk, .int .i64 dn, .int .i64 dj, .int .i64 db, .int .i64 ds, .int .i64 dl, .int .i64 dc, .int .u64 di, .string dp, .slice ua dt.length uc] 80) (w.heap.size + 1) (by simp)
  have hf : Fr [] w ((w.alloc (.cells #[.int .i64 ck, .int .i64 cn, .int .i64 cj, .int .i64 cb, .int .i64 cs, .int .i64 cl, .int .i64 cc, .int .u64 ci, .string cp, .slice ta ct.length tc] 80)).alloc (.cells #[.int .i64 dk, .int .i64 dn, .int .i64 dj, .int .i64 db, .int .i64 ds, .int .i64 dl, .int .i64 dc, .int .u64 di, .string dp, .slice ua dt.length uc] 80)) := ((Fr.refl _ _).alloc _).alloc _
  have HH := hid (And.intro hb1 (And.intro hb2 hf))
  clear hb1 hb2 hf
  go_enter Tryz.func133, Tryz.ntmps133
  go_wp2_with fail
  generalize ((w.alloc (.cells #[.int .i64 ck, .int .i64 cn, .int .i64 cj, .int .i64 cb, .int .i64 cs, .int .i64 cl, .int .i64 cc, .int .u64 ci, .string cp, .slice ta ct.length tc] 80)).alloc (.cells #[.int .i64 dk, .int .i64 dn, .int .i64 dj, .int .i64 db, .int .i64 ds, .int .i64 dl, .int .i64 dc, .int .u64 di, .string dp, .slice ua dt.length uc] 80)) = w0 at HH ⊢
  generalize w.heap.size + 1 = b2 at HH ⊢
  generalize w.heap.size = b1 at HH ⊢
  go_loopw [5] (fun i wr => ∃ k : Nat, k ≤ ct.length ∧ i = .int .i64 k ∧ (∀ j, j < k → sL.nth ct j = sL.nth dt j) ∧ Fr [] w0 wr) (fun i _ => ct.length - (intOf i).toNat)
  case atStart => exact ⟨0, Nat.zero_le _, rfl, fun j hj => absurd hj (Nat.not_lt_zero _), Fr.refl _ _⟩
  case round =>
    obtain ⟨k, hk, rfl, hall, hFw⟩ := hrel
    have HAll := hid hall
    clear hall
    have g1 := hFw.keep HH.out.1 (by simp)
    have g2 := hFw.keep HH.out.2.1 (by simp)
    have k0 : wr.cell? ⟨b1, 0, none⟩ = some (.int .i64 ck) := cell_blk (i := 0) g1 rfl
    have m0 : wr.cell? ⟨b2, 0, none⟩ = some (.int .i64 dk) := cell_blk (i := 0) g2 rfl
    have k1 : wr.cell? ⟨b1, 1, none⟩ = some (.int .i64 cn) := cell_blk (i := 1) g1 rfl
    have m1 : wr.cell? ⟨b2, 1, none⟩ = some (.int .i64 dn) := cell_blk (i := 1) g2 rfl
    have k2 : wr.cell? ⟨b1, 2, none⟩ = some (.int .i64 cj) := cell_blk (i := 2) g1 rfl
    have m2 : wr.cell? ⟨b2, 2, none⟩ = some (.int .i64 dj) := cell_blk (i := 2) g2 rfl
    have k3 : wr.cell? ⟨b1, 3, none⟩ = some (.int .i64 cb) := cell_blk (i := 3) g1 rfl
    have m3 : wr.cell? ⟨b2, 3, none⟩ = some (.int .i64 db) := cell_blk (i := 3) g2 rfl
    have k4 : wr.cell? ⟨b1, 4, none⟩ = some (.int .i64 cs) := cell_blk (i := 4) g1 rfl
    have m4 : wr.cell? ⟨b2, 4, none⟩ = some (.int .i64 ds) := cell_blk (i := 4) g2 rfl
    have k5 : wr.cell? ⟨b1, 5, none⟩ = some (.int .i64 cl) := cell_blk (i := 5) g1 rfl
    have m5 : wr.cell? ⟨b2, 5, none⟩ = some (.int .i64 dl) := cell_blk (i := 5) g2 rfl
    have k6 : wr.cell? ⟨b1, 6, none⟩ = some (.int .i64 cc) := cell_blk (i := 6) g1 rfl
    have m6 : wr.cell? ⟨b2, 6, none⟩ = some (.int .i64 dc) := cell_blk (i := 6) g2 rfl
    have k7 : wr.cell? ⟨b1, 7, none⟩ = some (.int .u64 ci) := cell_blk (i := 7) g1 rfl
    have m7 : wr.cell? ⟨b2, 7, none⟩ = some (.int .u64 di) := cell_blk (i := 7) g2 rfl
    have k8 : wr.cell? ⟨b1, 8, none⟩ = some (.string cp) := cell_blk (i := 8) g1 rfl
    have m8 : wr.cell? ⟨b2, 8, none⟩ = some (.string dp) := cell_blk (i := 8) g2 rfl
    have k9 : wr.cell? ⟨b1, 9, none⟩ = some (.slice ta ct.length tc) := cell_blk (i := 9) g1 rfl
    have m9 : wr.cell? ⟨b2, 9, none⟩ = some (.slice ua dt.length uc) := cell_blk (i := 9) g2 rfl
    clear g1 g2
    have HF := hid (HH.out.2.2.trans hFw)
    have HW := hid hFw
    clear hFw
    by_cases hlt : k < ct.length
    · have hlt2 : k < dt.length := by have := HL.out; omega
      obtain ⟨ba, oa, rfl⟩ := HA.out.sm (by omega)
      obtain ⟨bb, ob, rfl⟩ := HB.out.sm (by omega)
      have c1 := str_cells (HA.out.fr0 HF.out) k hlt
      have c2 := str_cells (HB.out.fr0 HF.out) k hlt2
      by_cases heq : sL.nth ct k = sL.nth dt k
      · rw [← heq] at c2
        have HE := hid heq
        clear heq
        go_wp2
        go_quiet (fail)
        go_wp2
        go_roundw
        case rel => exact ⟨k + 1, by omega, by go_num, fun j hj => by by_cases hjk : j = k; (subst hjk; exact HE.out); exact HAll.out j (by omega), HW.out.drewN _⟩
        case measure => simp [intOf]; omega
      · have h3 := bytes_ne heq
        have HE := hid heq
        clear heq
        go_wp2
        go_quiet (fail)
        go_wp2
        go_ret
        exact ⟨IsB.no (fun h => absurd (by injection h with _ _ _ _ _ _ _ _ _ h; rw [h]) HE.out), HF.out.drewN _⟩
    · obtain rfl : k = ct.length := by omega
      have HE := hid (show ct = dt from sL.ext HL.out HAll.out)
      by_cases h0 : ck = dk
      case neg =>
        have e0 : (ck == dk) = false := by rw [beq_eq_false_iff_ne]; exact h0
        have HN := hid h0
        clear h0
        go_wp2
        all_goals go_ret
        all_goals exact ⟨IsB.no (fun h => absurd (by injection h) HN.out), HF.out⟩
      subst h0
      by_cases h1 : cn = dn
      case neg =>
        have e1 : (cn == dn) = false := by rw [beq_eq_false_iff_ne]; exact h1
        have HN := hid h1
        clear h1
        go_wp2
        all_goals go_ret
        all_goals exact ⟨IsB.no (fun h => absurd (by injection h) HN.out), HF.out⟩
      subst h1
      by_cases h2 : cj = dj
      case neg =>
        have e2 : (cj == dj) = false := by rw [beq_eq_false_iff_ne]; exact h2
        have HN := hid h2
        clear h2
        go_wp2
        all_goals go_ret
        all_goals exact ⟨IsB.no (fun h => absurd (by injection h) HN.out), HF.out⟩
      subst h2
      by_cases h3 : cb = db
      case neg =>
        have e3 : (cb == db) = false := by rw [beq_eq_false_iff_ne]; exact h3
        have HN := hid h3
        clear h3
        go_wp2
        all_goals go_ret
        all_goals exact ⟨IsB.no (fun h => absurd (by injection h) HN.out), HF.out⟩
      subst h3
      by_cases h4 : cs = ds
      case neg =>
        have e4 : (cs == ds) = false := by rw [beq_eq_false_iff_ne]; exact h4
        have HN := hid h4
        clear h4
        go_wp2
        all_goals go_ret
        all_goals exact ⟨IsB.no (fun h => absurd (by injection h) HN.out), HF.out⟩
      subst h4
      by_cases h5 : cl = dl
      case neg =>
        have e5 : (cl == dl) = false := by rw [beq_eq_false_iff_ne]; exact h5
        have HN := hid h5
        clear h5
        go_wp2
        all_goals go_ret
        all_goals exact ⟨IsB.no (fun h => absurd (by injection h) HN.out), HF.out⟩
      subst h5
      by_cases h6 : cc = dc
      case neg =>
        have e6 : (cc == dc) = false := by rw [beq_eq_false_iff_ne]; exact h6
        have HN := hid h6
        go_wp2
        all_goals go_ret
        all_goals exact ⟨IsB.no (fun h => absurd (by injection h) HN.out), HF.out⟩
      subst h6
      by_cases h7 : ci = di
      case neg =>
        have e7 : (ci == di) = false := by rw [beq_eq_false_iff_ne]; exact h7
        have HN := hid h7
        go_wp2
        all_goals go_ret
        all_goals exact ⟨IsB.no (fun h => absurd (by injection h) HN.out), HF.out⟩
      subst h7
      by_cases h8 : cp = dp
      case neg =>
        have e8 := bytes_ne h8
        have HN := hid h8
        clear h8
        go_wp2
        all_goals go_ret
        all_goals exact ⟨IsB.no (fun h => absurd (by injection h) HN.out), HF.out⟩
      subst h8
      go_wp2
      all_goals go_ret
      all_goals exact ⟨IsB.yes (by rw [HE.out]), HF.out⟩

end Go.Proofs.YtmgnekjhlfghaaaGreat

/-
  gafferref08: Same.
-/
namespace Go.Proofs.YtmgnekjhlfghaaaGreat
open Go.RowKit
set_option linter.unusedVariables false
set_option linter.unusedSimpArgs false

set_option maxHeartbeats 4000000 in
set_option maxRecDepth 100000 in
theorem same_walk (w : World) (a b : Option Addr) (n m ca cb : Nat) (l r : List (CV × TS)) (ha : ChIn w a n ca l) (hb : ChIn w b m cb r) :
    Calls Tryz.prog 94 #[.slice a n ca, .slice b m cb] w fun e w' => IsB (l.map (·.1) = r.map (·.1)) e ∧ Fr [] w w' := by
  have hm1 := ha.row.max
  have hm2 := hb.row.max
  have hll : (l.map (·.1)).length = n := by rw [List.length_map, ha.len]
  have hlr : (r.map (·.1)).length = m := by rw [List.length_map, hb.len]
  by_cases hl : n = m
  case neg =>
    have h1 : ((n : Int) == m) = false := by rw [beq_eq_false_iff_ne]; omega
    have h2 : ((n : Int) != m) = true := by rw [bne_iff_ne]; omega
    have HL := hid (show ¬ l.map (·.1) = r.map (·.1) from fun h => hl (by rw [← hll, ← hlr, h]))
    clear hl ha hb hll hlr
    go_enter Tryz.func94, Tryz.ntmps94
    go_wp2
    go_ret
    exact ⟨IsB.no HL.out, Fr.refl _ _⟩
  subst hl
  have HA := hid ha
  have HB := hid hb
  have HL := hid (And.intro hll hlr)
  clear ha hb hll hlr
  go_enter Tryz.func94, Tryz.ntmps94
  go_wp2_with fail
  go_loopw [5] (fun i wr => ∃ k : Nat, k ≤ n ∧ i = .int .i64 k ∧ (∀ j, j < k → (l.map (·.1))[j]? = (r.map (·.1))[j]?) ∧ Fr [] w wr) (fun i _ => n - (intOf i).toNat)
  case atStart => exact ⟨0, Nat.zero_le _, rfl, fun j hj => absurd hj (Nat.not_lt_zero _), Fr.refl _ _⟩
  case round =>
    obtain ⟨k, hk, rfl, hall, hFw⟩ := hrel
    have HAll := hid hall
    clear hall
    by_cases hlt : k < n
    · obtain ⟨ba, oa, rfl⟩ := HA.out.row.sm (by omega)
      obtain ⟨bb, ob, rfl⟩ := HB.out.row.sm (by omega)
      obtain ⟨x, hx⟩ : ∃ x, cL.nth l k = x := ⟨_, rfl⟩
      obtain ⟨y, hy⟩ : ∃ y, cL.nth r k = y := ⟨_, rfl⟩
      have hkl : k < l.length := by rw [HA.out.len]; exact hlt
      have hkr : k < r.length := by rw [HB.out.len]; exact hlt
      have hgx : (l.map (·.1))[k]? = some x.1 := by rw [List.getElem?_map, show l[k]? = some x by rw [← hx]; exact cL.nth_get hkl]; rfl
      have hgy : (r.map (·.1))[k]? = some y.1 := by rw [List.getElem?_map, show r[k]? = some y by rw [← hy]; exact cL.nth_get hkr]; rfl
      have hC := And.intro (ch_cells (HA.out.row.fr0 hFw.drew) k hlt x hx) (ch_cells (HB.out.row.fr0 hFw.drew) k hlt y hy)
      have hs := sameOne_walk wr.drew x.1 y.1 x.2 y.2 ((HA.out.one x (by rw [← hx]; exact cL.mem_nth hkl)).1.fr0 hFw.drew) ((HB.out.one y (by rw [← hy]; exact cL.mem_nth hkr)).1.fr0 hFw.drew)
      have HCC := hid (show ∀ w2, Fr [] wr.drew w2 → (fun wx : World => (wx.cell? ⟨ba, oa + k * 10, none⟩ = some (.int .i64 x.1.kind) ∧ wx.cell? ⟨ba, oa + k * 10 + 1, none⟩ = some (.int .i64 x.1.n) ∧ wx.cell? ⟨ba, oa + k * 10 + 2, none⟩ = some (.int .i64 x.1.job) ∧ wx.cell? ⟨ba, oa + k * 10 + 3, none⟩ = some (.int .i64 x.1.badge) ∧ wx.cell? ⟨ba, oa + k * 10 + 4, none⟩ = some (.int .i64 x.1.slot) ∧ wx.cell? ⟨ba, oa + k * 10 + 5, none⟩ = some (.int .i64 x.1.life) ∧ wx.cell? ⟨ba, oa + k * 10 + 6, none⟩ = some (.int .i64 x.1.code) ∧ wx.cell? ⟨ba, oa + k * 10 + 7, none⟩ = some (.int .u64 x.1.bits) ∧ wx.cell? ⟨ba, oa + k * 10 + 8, none⟩ = some (.string x.1.prog) ∧ wx.cell? ⟨ba, oa + k * 10 + 9, none⟩ = some (.slice x.2.a x.1.texts.length x.2.c)) ∧ (wx.cell? ⟨bb, ob + k * 10, none⟩ = some (.int .i64 y.1.kind) ∧ wx.cell? ⟨bb, ob + k * 10 + 1, none⟩ = some (.int .i64 y.1.n) ∧ wx.cell? ⟨bb, ob + k * 10 + 2, none⟩ = some (.int .i64 y.1.job) ∧ wx.cell? ⟨bb, ob + k * 10 + 3, none⟩ = some (.int .i64 y.1.badge) ∧ wx.cell? ⟨bb, ob + k * 10 + 4, none⟩ = some (.int .i64 y.1.slot) ∧ wx.cell? ⟨bb, ob + k * 10 + 5, none⟩ = some (.int .i64 y.1.life) ∧ wx.cell? ⟨bb, ob + k * 10 + 6, none⟩ = some (.int .i64 y.1.code) ∧ wx.cell? ⟨bb, ob + k * 10 + 7, none⟩ = some (.int .u64 y.1.bits) ∧ wx.cell? ⟨bb, ob + k * 10 + 8, none⟩ = some (.string y.1.prog) ∧ wx.cell? ⟨bb, ob + k * 10 + 9, none⟩ = some (.slice y.2.a y.1.texts.length y.2.c))) w2 from fun w2 hF2 => ⟨⟨hF2.cell0 hC.1.1, hF2.cell0 hC.1.2.1, hF2.cell0 hC.1.2.2.1, hF2.cell0 hC.1.2.2.2.1, hF2.cell0 hC.1.2.2.2.2.1, hF2.cell0 hC.1.2.2.2.2.2.1, hF2.cell0 hC.1.2.2.2.2.2.2.1, hF2.cell0 hC.1.2.2.2.2.2.2.2.1, hF2.cell0 hC.1.2.2.2.2.2.2.2.2.1, hF2.cell0 hC.1.2.2.2.2.2.2.2.2.2⟩, ⟨hF2.cell0 hC.2.1, hF2.cell0 hC.2.2.1, hF2.cell0 hC.2.2.2.1, hF2.cell0 hC.2.2.2.2.1, hF2.cell0 hC.2.2.2.2.2.1, hF2.cell0 hC.2.2.2.2.2.2.1, hF2.cell0 hC.2.2.2.2.2.2.2.1, hF2.cell0 hC.2.2.2.2.2.2.2.2.1, hF2.cell0 hC.2.2.2.2.2.2.2.2.2.1, hF2.cell0 hC.2.2.2.2.2.2.2.2.2.2⟩⟩)
      have hs := hid hs
      have HG := hid (And.intro hgx (And.intro hgy hFw))
      clear hx hy hkl hkr hgx hgy hFw
      go_wp2_with fail
      go_region_held3 (fun wx : World => (wx.cell? ⟨ba, oa + k * 10, none⟩ = some (.int .i64 x.1.kind) ∧ wx.cell? ⟨ba, oa + k * 10 + 1, none⟩ = some (.int .i64 x.1.n) ∧ wx.cell? ⟨ba, oa + k * 10 + 2, none⟩ = some (.int .i64 x.1.job) ∧ wx.cell? ⟨ba, oa + k * 10 + 3, none⟩ = some (.int .i64 x.1.badge) ∧ wx.cell? ⟨ba, oa + k * 10 + 4, none⟩ = some (.int .i64 x.1.slot) ∧ wx.cell? ⟨ba, oa + k * 10 + 5, none⟩ = some (.int .i64 x.1.life) ∧ wx.cell? ⟨ba, oa + k * 10 + 6, none⟩ = some (.int .i64 x.1.code) ∧ wx.cell? ⟨ba, oa + k * 10 + 7, none⟩ = some (.int .u64 x.1.bits) ∧ wx.cell? ⟨ba, oa + k * 10 + 8, none⟩ = some (.string x.1.prog) ∧ wx.cell? ⟨ba, oa + k * 10 + 9, none⟩ = some (.slice x.2.a x.1.texts.length x.2.c)) ∧ (wx.cell? ⟨bb, ob + k * 10, none⟩ = some (.int .i64 y.1.kind) ∧ wx.cell? ⟨bb, ob + k * 10 + 1, none⟩ = some (.int .i64 y.1.n) ∧ wx.cell? ⟨bb, ob + k * 10 + 2, none⟩ = some (.int .i64 y.1.job) ∧ wx.cell? ⟨bb, ob + k * 10 + 3, none⟩ = some (.int .i64 y.1.badge) ∧ wx.cell? ⟨bb, ob + k * 10 + 4, none⟩ = some (.int .i64 y.1.slot) ∧ wx.cell? ⟨bb, ob + k * 10 + 5, none⟩ = some (.int .i64 y.1.life) ∧ wx.cell? ⟨bb, ob + k * 10 + 6, none⟩ = some (.int .i64 y.1.code) ∧ wx.cell? ⟨bb, ob + k * 10 + 7, none⟩ = some (.int .u64 y.1.bits) ∧ wx.cell? ⟨bb, ob + k * 10 + 8, none⟩ = some (.string y.1.prog) ∧ wx.cell? ⟨bb, ob + k * 10 + 9, none⟩ = some (.slice y.2.a y.1.texts.length y.2.c))) ((first | exact hNow | exact hC))
        ((go_at_call 133; refine hs.out.mono ?_; rintro e w2 ⟨⟨z, rfl, hz⟩, hF2⟩; have hNow := HCC.out w2 hF2; have HZ := hid (And.intro hz hF2)))
      cases z
      · go_wp2_with fail
        go_ret
        exact ⟨IsB.no (fun h => absurd (by have h1 := HG.out.1; rw [h, HG.out.2.1] at h1; exact HZ.out.1.2 (Option.some.inj h1).symm) (by decide)), HG.out.2.2.drew.trans HZ.out.2⟩
      · go_wp2_with fail
        go_roundw
        case rel =>
          refine ⟨k + 1, by omega, by go_num, fun j hj => ?_, HG.out.2.2.drew.trans HZ.out.2⟩
          by_cases hjk : j = k
          · subst hjk; rw [HG.out.1, HG.out.2.1, HZ.out.1.1 rfl]
          · exact HAll.out j (by omega)
        case measure => simp [intOf]; omega
    · obtain rfl : k = n := by omega
      have HE := hid (show l.map (·.1) = r.map (·.1) from List.ext_getElem? fun j => by
        by_cases hj : j < k
        · exact HAll.out j hj
        · rw [List.getElem?_eq_none (by have := HL.out.1; omega), List.getElem?_eq_none (by have := HL.out.2; omega)])
      go_wp2_with fail
      go_ret
      exact ⟨IsB.yes HE.out, hFw⟩

end Go.Proofs.YtmgnekjhlfghaaaGreat
