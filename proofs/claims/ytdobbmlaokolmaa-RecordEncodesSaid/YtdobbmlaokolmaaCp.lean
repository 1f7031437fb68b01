/-
  gafferref08: Copy.
-/
import Derived.Test.YtdobbmlaokolmaaRoom
import Derived.Test.YtdobbmlaokolmaaRD
import Derived.Test.YtdobbmlaokolmaaChArg
import Derived.Laws.MakeOwn
namespace Go.Proofs.Ytdobbmlaokolmaa
open Go.RowKit
set_option linter.unusedVariables false
set_option linter.unusedSimpArgs false

/-- A change's texts, with room. -/
def RwX (x : CV × TS) : Thing := RowT 9 1 (.slice x.2.a x.1.texts.length x.2.c) x.1.texts.length (sL.cells x.1.texts)
def rws (l : List (CV × TS)) : List Thing := l.map RwX
def Roomy (x : CV × TS) : Prop := (∃ g, x.2.a = some ⟨g, 0, none⟩) ∧ x.2.c = x.1.texts.length + 2
/-- A row of changes with room for two. -/
def OutT (g n : Nat) (l : List (CV × TS)) (k : Nat) : Thing := RowT 27 10 (.slice (some ⟨g, 0, none⟩) k (n + 2)) k (cL.cells l)

theorem sL_range (l : List ByteArray) : (List.range (l.length * 1)).map (sL.at_ l) = sL.cells l := sL.range l

section
variable {W : World} {w : World} {R : List Thing}

/-- What Copy comes to. -/
def CpTo (W : World) (R : List Thing) (n : Nat) (l : List (CV × TS)) (e : Ending) (w' : World) : Prop := ∃ (g : Nat) (l' : List (CV × TS)), e = .returned (.slice (some ⟨g, 0, none⟩) n (n + 2)) ∧ l'.map (·.1) = l.map (·.1) ∧ (∀ x, x ∈ l' → Roomy x) ∧
      St (.of W) w' (R ++ (OutT g n l' n :: rws l'))

set_option maxHeartbeats 4000000 in
set_option maxRecDepth 100000 in
theorem st_copy (H : St (.of W) w R) {a : Option Addr} {n cap : Nat} {l : List (CV × TS)} (hC : ChArg W a n cap l) :
    Calls Try.prog 10 #[.slice a n cap] w (CpTo W R n l) := by
  obtain ⟨i0, hi0, hz0, hz1, hz2⟩ := info_parts info_ch
  obtain ⟨i1, hi1, hy0, hy1, hy2⟩ := info_parts info_str
  have HI := hid (And.intro hi0 (And.intro hz0 (And.intro hz1 hz2)))
  have HJ := hid (And.intro hi1 (And.intro hy0 (And.intro hy1 hy2)))
  have hcap := hC.cap
  have hle := hC.le
  have hw2 : IntKind.i64.wrap ((n : Int) + 2) = (n : Int) + 2 := IntWalk.i64_in _ (by omega)
  have hn2 : ((n + 2 : Nat) : Int) = (n : Int) + 2 := by omega
  obtain ⟨w1, hmk, ho, hg⟩ := run_make_own (P := Try.prog) w 0 28 27 i0 _ 10 Try.underlying28 hi0 hz0 hz1 .i64 .i64 (n + 2) (by rw [hz2]; omega) (by unfold maxLen; omega) (Nat.zero_le _)
  rw [hn2] at hmk
  have H1 : St (.of W) w1 (R ++ [OutT w.heap.size n [] 0]) := H.new (F := [w.heap.size]) (Fr.of_grown hg) inferInstance ⟨rfl, ho⟩ (fun x hx => by simp at hx; omega)
  have H1 := hid H1
  have HC := hid hC
  have hm := hC.row.max
  clear hi0 hz0 hz1 hz2 hi1 hy0 hy1 hy2 ho hg H hC
  generalize w.heap.size = g at hmk H1
  go_enter Try.func10, Try.ntmps10
  go_wp2_with fail
  go_loopw [3, 4] (fun ov iv wr => ∃ (k : Nat) (l' : List (CV × TS)), k ≤ n ∧ ov = .slice (some ⟨g, 0, none⟩) k (n + 2) ∧ iv = .int .i64 k ∧ l'.length = k ∧ l'.map (·.1) = (l.map (·.1)).take k ∧ (∀ x, x ∈ l' → Roomy x) ∧ St (.of W) wr (R ++ (OutT g n l' k :: rws l'))) (fun _ iv _ => n - (intOf iv).toNat)
  case atStart => exact ⟨0, [], Nat.zero_le _, rfl, rfl, rfl, by simp, by simp, H1.out⟩
  case round =>
    obtain ⟨k, l', hk, rfl, rfl, hll, hmap, hroomy, H⟩ := hrel
    by_cases hlt : k < n
    · have hF : Fr [] W wr := H.fr
      obtain ⟨bb, ob, rfl⟩ := HC.out.row.sm (by omega)
      obtain ⟨x, hx⟩ : ∃ x, cL.nth l k = x := ⟨_, rfl⟩
      have hkl : k < l.length := by rw [HC.out.len]; exact hlt
      have hget : (l.map (·.1))[k]? = some x.1 := by rw [List.getElem?_map, show l[k]? = some x by rw [← hx]; exact cL.nth_get hkl]; rfl
      obtain ⟨c0, c1, c2, c3, c4, c5, c6, c7, c8, c9⟩ := ch_cells (HC.out.row.fr0 hF) k hlt x hx
      have hone := HC.out.one x (by rw [← hx]; exact cL.mem_nth hkl)
      have htl := hone.tx.le
      have htc := hone.tx.cap
      have hw3 : IntKind.i64.wrap ((x.1.texts.length : Int) + 2) = (x.1.texts.length : Int) + 2 := IntWalk.i64_in _ (by omega)
      have hn3 : ((x.1.texts.length + 2 : Nat) : Int) = (x.1.texts.length : Int) + 2 := by omega
      have H2 := H.alloc (.cells #[.int .i64 x.1.kind, .int .i64 x.1.n, .int .i64 x.1.job, .int .i64 x.1.badge, .int .i64 x.1.slot, .int .i64 x.1.life, .int .i64 x.1.code, .int .u64 x.1.bits, .string x.1.prog, .slice x.2.a x.1.texts.length x.2.c] 27)
      obtain ⟨w2, hmk2, ho2, hg2⟩ := run_make_own (P := Try.prog) (wr.alloc (.cells #[.int .i64 x.1.kind, .int .i64 x.1.n, .int .i64 x.1.job, .int .i64 x.1.badge, .int .i64 x.1.slot, .int .i64 x.1.life, .int .i64 x.1.code, .int .u64 x.1.bits, .string x.1.prog, .slice x.2.a x.1.texts.length x.2.c] 27)) 0 25 9 i1 _ 1 Try.underlying25 HJ.out.1 HJ.out.2.1 HJ.out.2.2.1 .i64 .i64 (x.1.texts.length + 2) (by rw [HJ.out.2.2.2]; omega) (by unfold maxLen; omega) (Nat.zero_le _)
      rw [hn3] at hmk2
      have hsz : (wr.alloc (.cells #[.int .i64 x.1.kind, .int .i64 x.1.n, .int .i64 x.1.job, .int .i64 x.1.badge, .int .i64 x.1.slot, .int .i64 x.1.life, .int .i64 x.1.code, .int .u64 x.1.bits, .string x.1.prog, .slice x.2.a x.1.texts.length x.2.c] 27)).heap.size = wr.heap.size + 1 := by simp
      rw [hsz] at hmk2 ho2
      have H3 := H2.new (A := Row1 9 1 (.slice (some ⟨wr.heap.size + 1, 0, none⟩) 0 (x.1.texts.length + 2)) 0 (sL.cells [])) (F := [wr.heap.size + 1]) (Fr.of_grown hg2) inferInstance ⟨rfl, ho2⟩ (fun y hy => by simp at hy; rw [hsz]; omega)
      rw [List.append_assoc] at H3
      have hin := hone.tx.row.fr0 (show Fr [] W w2 from H3.fr)
      have b3 := H3.blk ((R ++ (OutT g n l' k :: rws l')).length + 0) (by rw [get_behind]; rfl)
      have k9 : w2.cell? ⟨wr.heap.size, 9, none⟩ = some (.slice x.2.a x.1.texts.length x.2.c) := cell_blk (i := 9) b3 rfl
      have H3 := hid H3
      have HG := hid (And.intro hget (And.intro hmap (And.intro hroomy (And.intro hll hone))))
      have hin := hid hin
      have ho2 := hid ho2
      clear H H2 hg2 b3 hx hkl hget hmap hroomy hll hF hsz
      go_wp2_with (at_builtin; refine wpList_append_in rfl (.tmp 26) (.tmp 28) 25 rfl 9 i1 1 Try.underlying25 HJ.out.1 HJ.out.2.2.1 (by decide) (wr.heap.size + 1) 0 (x.1.texts.length + 2) [] rfl ho2.out x.2.a x.1.texts.length x.2.c (sL.at_ x.1.texts) rfl hin.out (fun j _ => sL.at_one _ j) (by omega) ?_)
      intro w3 ho3 hF3
      have hsr : List.map (sL.at_ x.1.texts) (List.range x.1.texts.length) = sL.cells x.1.texts := by have := sL_range x.1.texts; rwa [Nat.mul_one] at this
      simp only [Nat.zero_add, List.nil_append, Nat.mul_one, hsr] at ho3
      have hi3 : ((R ++ (OutT g n l' k :: rws l')) ++ ([BlkT wr.heap.size (.cells #[.int .i64 x.1.kind, .int .i64 x.1.n, .int .i64 x.1.job, .int .i64 x.1.badge, .int .i64 x.1.slot, .int .i64 x.1.life, .int .i64 x.1.code, .int .u64 x.1.bits, .string x.1.prog, .slice x.2.a x.1.texts.length x.2.c] 27)] ++ [own (Row1 9 1 (.slice (some ⟨wr.heap.size + 1, 0, none⟩) 0 (x.1.texts.length + 2)) 0 (sL.cells []))]))[(R ++ (OutT g n l' k :: rws l')).length + 1]? = some (RowT 9 1 (.slice (some ⟨wr.heap.size + 1, 0, none⟩) 0 (x.1.texts.length + 2)) 0 (sL.cells [])) := by rw [get_behind]; rfl
      have H4 := (H3.out.append _ hi3).2 _ w3 x.1.texts.length (sL.cells x.1.texts) ho3 (by simpa [Value.ownBlock] using hF3) (fun y hy => .inl hy)
      rw [List.set_append_right _ _ (by omega), Nat.add_sub_cancel_left] at H4
      have b3 := H4.blk ((R ++ (OutT g n l' k :: rws l')).length + 0) (by rw [get_behind]; rfl)
      have m0 : w3.cell? ⟨wr.heap.size, 0, none⟩ = some (.int .i64 x.1.kind) := cell_blk (i := 0) b3 rfl
      have m1 : w3.cell? ⟨wr.heap.size, 1, none⟩ = some (.int .i64 x.1.n) := cell_blk (i := 1) b3 rfl
      have m2 : w3.cell? ⟨wr.heap.size, 2, none⟩ = some (.int .i64 x.1.job) := cell_blk (i := 2) b3 rfl
      have m3 : w3.cell? ⟨wr.heap.size, 3, none⟩ = some (.int .i64 x.1.badge) := cell_blk (i := 3) b3 rfl
      have m4 : w3.cell? ⟨wr.heap.size, 4, none⟩ = some (.int .i64 x.1.slot) := cell_blk (i := 4) b3 rfl
      have m5 : w3.cell? ⟨wr.heap.size, 5, none⟩ = some (.int .i64 x.1.life) := cell_blk (i := 5) b3 rfl
      have m6 : w3.cell? ⟨wr.heap.size, 6, none⟩ = some (.int .i64 x.1.code) := cell_blk (i := 6) b3 rfl
      have m7 : w3.cell? ⟨wr.heap.size, 7, none⟩ = some (.int .u64 x.1.bits) := cell_blk (i := 7) b3 rfl
      have m8 : w3.cell? ⟨wr.heap.size, 8, none⟩ = some (.string x.1.prog) := cell_blk (i := 8) b3 rfl
      have m9 : w3.cell? ⟨wr.heap.size, 9, none⟩ = some (.slice x.2.a x.1.texts.length x.2.c) := cell_blk (i := 9) b3 rfl
      have f9 : w3.frozen? ⟨wr.heap.size, 9, none⟩ = false := free_blk b3
      have H5 := H4.setBlk ((R ++ (OutT g n l' k :: rws l')).length + 0) (by rw [get_behind]; rfl) 9 (.slice (some ⟨wr.heap.size + 1, 0, none⟩) x.1.texts.length (x.1.texts.length + 2))
      rw [List.set_append_right _ _ (by omega), Nat.add_sub_cancel_left] at H5
      have H5 := hid H5
      clear b3 hi3 H4 ho3 hF3
      obtain ⟨y, hy⟩ : ∃ y : CV × TS, y = (x.1, ⟨some ⟨wr.heap.size + 1, 0, none⟩, x.1.texts.length + 2⟩) := ⟨_, rfl⟩
      have hcy : (cL.cells [y]).toArray = #[.int .i64 x.1.kind, .int .i64 x.1.n, .int .i64 x.1.job, .int .i64 x.1.badge, .int .i64 x.1.slot, .int .i64 x.1.life, .int .i64 x.1.code, .int .u64 x.1.bits, .string x.1.prog, .slice (some ⟨wr.heap.size + 1, 0, none⟩) x.1.texts.length (x.1.texts.length + 2)] := by subst hy; rfl
      have H6 := H5.out.alloc_ (.cells (cL.cells [y]).toArray 27)
      have hi6 : ((R ++ (OutT g n l' k :: rws l')) ++ ([BlkT wr.heap.size (.cells #[.int .i64 x.1.kind, .int .i64 x.1.n, .int .i64 x.1.job, .int .i64 x.1.badge, .int .i64 x.1.slot, .int .i64 x.1.life, .int .i64 x.1.code, .int .u64 x.1.bits, .string x.1.prog, .slice x.2.a x.1.texts.length x.2.c] 27)].set 0 (BlkT wr.heap.size (.cells (#[.int .i64 x.1.kind, .int .i64 x.1.n, .int .i64 x.1.job, .int .i64 x.1.badge, .int .i64 x.1.slot, .int .i64 x.1.life, .int .i64 x.1.code, .int .u64 x.1.bits, .string x.1.prog, .slice x.2.a x.1.texts.length x.2.c].setIfInBounds 9 (.slice (some ⟨wr.heap.size + 1, 0, none⟩) x.1.texts.length (x.1.texts.length + 2))) 27)) ++ [RowT 9 1 (.slice (some ⟨wr.heap.size + 1, 0, none⟩) x.1.texts.length (x.1.texts.length + 2)) x.1.texts.length (sL.cells x.1.texts)]))[R.length]? = some (OutT g n l' k) := by
        rw [List.append_assoc, List.getElem?_append_right (Nat.le_refl _), Nat.sub_self]; rfl
      have hin6 := in_new (l := [y]) (blk_alloc_at (w3.setCell ⟨wr.heap.size, 9, none⟩ (.slice (some ⟨wr.heap.size + 1, 0, none⟩) x.1.texts.length (x.1.texts.length + 2))) (.cells (cL.cells [y]).toArray 27) w3.heap.size (by simp)) (by show 1 ≤ maxLen; unfold maxLen; omega)
      have hap := H6.append _ hi6
      rw [hcy] at hin6 hap
      have hap := hid hap
      have hin6 := hid hin6
      clear H6 hi6
      go_wp2_with (at_builtin; refine wpList_append_in rfl (.tmp 31) (.tmp 33) 28 rfl 27 i0 10 Try.underlying28 HI.out.1 HI.out.2.2.1 (by decide) g k (n + 2) (cL.cells l') rfl hap.out.1 (some ⟨w3.heap.size, 0, none⟩) 1 1 (cL.at_ [y]) rfl hin6.out (fun j _ => cL.at_one _ j) (by omega) ?_)
      intro w5 ho5 hF5
      have ho6 : w5.ownsRow 0 27 10 (.slice (some ⟨g, 0, none⟩) (k + 1) (n + 2)) (k + 1) (cL.cells (l' ++ [y])) := by rw [← cL.snoc, hy]; exact ho5
      have H7 := hap.out.2 _ w5 (k + 1) _ ho6 (by simpa [Value.ownBlock] using hF5) (fun z hz => .inl hz)
      rw [List.set_append_left _ _ (by simp)] at H7
      have H8 := H7.keepOne 1 rfl
      have e8 : (R ++ (OutT g n l' k :: rws l')).set R.length (RowT 27 10 (.slice (some ⟨g, 0, none⟩) (k + 1) (n + 2)) (k + 1) (cL.cells (l' ++ [y]))) ++ [RowT 9 1 (.slice (some ⟨wr.heap.size + 1, 0, none⟩) x.1.texts.length (x.1.texts.length + 2)) x.1.texts.length (sL.cells x.1.texts)] = R ++ (OutT g n (l' ++ [y]) (k + 1) :: rws (l' ++ [y])) := by
        rw [List.set_append_right _ _ (Nat.le_refl _), Nat.sub_self]
        subst hy
        simp [rws, RwX, OutT]
      rw [e8] at H8
      have H8 := hid H8
      have HY := hid hy
      clear H7 e8 ho5 ho6 hF5 hap hin6 hcy hy m0 m1 m2 m3 m4 m5 m6 m7 m8 m9 f9 c0 c1 c2 c3 c4 c5 c6 c7 c8 c9 k9 hmk2
      go_wp2_with fail
      go_roundw
      case rel =>
        refine ⟨k + 1, l' ++ [y], by omega, rfl, by go_num, by rw [List.length_append, HG.out.2.2.2.1]; rfl, ?_, fun z hz => ?_, H8.out⟩
        · rw [List.map_append, HG.out.2.1, List.take_add_one, HG.out.1, HY.out]; rfl
        · rcases List.mem_append.1 hz with hz | hz
          · exact HG.out.2.2.1 z hz
          · rw [List.mem_singleton.1 hz, HY.out]; exact ⟨⟨_, rfl⟩, rfl⟩
      case measure => simp [intOf]; omega
    · obtain rfl : k = n := by omega
      have HH := hid (And.intro hll (And.intro hmap (And.intro hroomy H)))
      clear hll hmap hroomy H
      go_wp2_with fail
      go_ret
      refine ⟨g, l', rfl, ?_, HH.out.2.2.1, HH.out.2.2.2⟩
      rw [HH.out.2.1, List.take_of_length_le (by rw [List.length_map, HC.out.len]; exact Nat.le_refl _)]
end
end Go.Proofs.Ytdobbmlaokolmaa
