/-
  Merged, in build order: Ld3 Ld4 Ld5.
-/
import Derived.Deep.CutRange
import Derived.Deep.CutBlock
import Derived.Test.YtmgnekjhlfghaaaM25
import Derived.Test.YtmgnekjhlfghaaaM6
import Derived.Test.YtmgnekjhlfghaaaM22
/-
  state: Load: the walk.
-/
namespace Go.Proofs.Ytmgnekjhlfghaaa
open Go.RowKit
set_option linter.unusedVariables false
set_option linter.unusedSimpArgs false

section
variable {W : Base} {w : World} {R : List Thing}
/-- What a Load comes to. -/
def LoadTo (W : Base) (R : List Thing) (o : Option SV) (e : Ending) (w' : World) : Prop :=
  match o with
  | some u => ∃ S, e = .returned (.tuple #[.pointer (some ⟨S, 0, none⟩), .int .i64 0]) ∧ St W w' (R ++ [SkT S u])
  | none => e = .returned (.tuple #[.pointer none, .int .i64 171]) ∧ St W w' R
theorem LoadTo.no {o : Option SV} {w' : World} (h : o = none) (H : St W w' R) : LoadTo W R o (.returned (.tuple #[.pointer none, .int .i64 171])) w' := by subst h; exact ⟨rfl, H⟩
theorem LoadTo.yes {o : Option SV} {u : SV} {S : Nat} {w' : World} (h : o = some u) (H : St W w' (R ++ [SkT S u])) : LoadTo W R o (.returned (.tuple #[.pointer (some ⟨S, 0, none⟩), .int .i64 0])) w' := by subst h; exact ⟨S, rfl, H⟩
/-- Load's things. -/
def ldR (v : Value) (rows : List QR) (S Q : Nat) (n res : Int) (pv lv : Value) (ps : List ByteArray) (ll : List (List ByteArray × TS)) : List Thing :=
  RowT 54 8 v rows.length (qL.cells rows) :: skL S Q ⟨n, []⟩ res pv ps lv ll
theorem perm_load {α : Type} (R M : List α) (a b s q p l q2 : α) : ((R ++ (a :: b :: s :: q :: p :: l :: M)) ++ [q2]).Perm ((R ++ (s :: q2 :: p :: l :: M)) ++ [a, b, q]) := by
  classical
  rw [List.perm_iff_count]
  intro x
  simp only [List.count_append, List.count_cons, List.count_nil]
  omega
theorem perm_end {α : Type} (M : List α) (x y : α) : ((M ++ [x]) ++ [y]).Perm ((M ++ [y]) ++ [x]) := by
  rw [List.append_assoc, List.append_assoc]
  exact List.Perm.append_left _ (List.Perm.swap _ _ _)
theorem ba_nil {b : ByteArray} (h : b.size = 0) : b = ⟨#[]⟩ := by
  obtain ⟨⟨l⟩⟩ := b
  have : l = [] := List.length_eq_zero_iff.1 h
  subst this; rfl
theorem ba_some {b : ByteArray} (h : ¬ b.size = 0) : b.toList.isEmpty = false := by
  cases hb : b.toList with
  | nil =>
    rw [ByteArray.toList_eq] at hb
    exact absurd (show b.data.size = 0 from by rw [← Array.length_toList, hb]; rfl) h
  | cons _ _ => rfl
theorem St.blkIn (H : St W w R) {b : Nat} {o : Obj} (hm : BlkT b o ∈ R) : w.heap[b]? = some o := by
  obtain ⟨i, hi⟩ := List.mem_iff_getElem?.1 hm
  exact H.blk i hi
theorem St.rowIn (H : St W w R) {e : TypeId} {size n : Nat} {v : Value} {xs : List Value} (hm : RowT e size v n xs ∈ R) : ∃ a c, v = .slice a n c := by
  obtain ⟨i, hi⟩ := List.mem_iff_getElem?.1 hm
  obtain ⟨a, c, h, _⟩ := H.rowShape i hi
  exact ⟨a, c, h⟩
theorem St.endRow {A B : List Thing} {e : TypeId} {size n : Nat} {v : Value} {xs : List Value} (H : St W w (A ++ (B ++ [RowT e size v n xs]))) :
    w.ownsRow 0 e size v n xs ∧ ∀ (v' : Value) (w' : World) (n' : Nat) (xs' : List Value), w'.ownsRow 0 e size v' n' xs' → Fr v.ownBlock.toList w w' → (∀ x, x ∈ v'.ownBlock.toList → x ∈ v.ownBlock.toList ∨ w.heap.size ≤ x) → St W w' (A ++ (B ++ [RowT e size v' n' xs'])) := by
  rw [← List.append_assoc] at H
  obtain ⟨h1, h2⟩ := H.append (A ++ B).length (e := e) (size := size) (n := n) (v := v) (xs := xs) (by simp)
  refine ⟨h1, fun v' w' n' xs' a b c => ?_⟩
  have h := h2 v' w' n' xs' a b c
  rw [List.set_append_right _ _ (Nat.le_refl _), Nat.sub_self, List.append_assoc] at h
  exact h
theorem ld_text {T : List Thing} {r : Nat} {s : RS} (H : St W w (R ++ (RdT r s :: T))) (hw : s.wf) {m : Int} (hm : m ≤ 9223372036854775807) :
    Calls Try.prog 45 #[.pointer (some ⟨r, 0, none⟩), .int .i64 m] w fun e w' => e = .returned (.string (s.tG m)) ∧ St W w' (R ++ (RdT r (s.tF m) :: T)) := by
  have h := st_Text H (R.length + 0) (r := r) (s := s) (by rw [get_behind]; rfl) hw hm
  rw [List.set_append_right _ _ (by omega), Nat.add_sub_cancel_left] at h
  exact h
theorem ld_list {T : List Thing} {r : Nat} {s : RS} (H : St W w (R ++ (RdT r s :: T))) (hw : s.wf) {m : Int} (hm : m ≤ 9223372036854775807) :
    Calls Try.prog 46 #[.pointer (some ⟨r, 0, none⟩), .int .i64 m] w fun e w' => e = .returned (.int .i64 (s.lG m : Nat)) ∧ St W w' (R ++ (RdT r (s.lF m) :: T)) := by
  have h := st_List H (R.length + 0) (r := r) (s := s) (by rw [get_behind]; rfl) hw hm
  rw [List.set_append_right _ _ (by omega), Nat.add_sub_cancel_left] at h
  exact h
theorem ld_row {T : List Thing} {r : Nat} {s : RS} (H : St W w (R ++ (RdT r s :: T))) (hw : s.wf) (job : Int) :
    Calls Try.prog 44 #[.pointer (some ⟨r, 0, none⟩), .int .i64 job] w fun e w' => e = .returned (.agg (QR.f (s.row job)).toArray) ∧ St W w' (R ++ (RdT r s.rowF :: T)) := by
  have h := st_srow H (R.length + 0) (r := r) (s := s) (by rw [get_behind]; rfl) hw job
  rw [List.set_append_right _ _ (by omega), Nat.add_sub_cancel_left] at h
  exact h
theorem St.ld0 {S r : Nat} {n : Int} {s : RS} (H : St W w (R ++ [SkT S (SV.new n), RdT r s])) : ∃ (Q : Nat) (pv lv : Value), St W w (R ++ (RdT r s :: ldR (.slice none 0 0) [] S Q n 0 pv lv [] [])) := by
  obtain ⟨Q, pv, lv, ll, hll, H1⟩ := H.sk R.length (S := S) (v := SV.new n) (by simp)
  have h0 : ll = [] := by simpa [SV.new] using hll
  subst h0
  have H2 := H1.new (A := Row1 54 8 (.slice none 0 0) 0 (qL.cells [])) (F := []) (Fr.refl _ _) inferInstance ⟨rfl, World.ownsRow_nil _ _ _ _⟩ (by simp)
  refine ⟨Q, pv, lv, H2.sub (B := [NilT]) ?_⟩
  have e : (R ++ [SkT S (SV.new n), RdT r s]).set R.length NilT = R ++ [NilT, RdT r s] := by simp
  rw [e, List.append_assoc, List.append_assoc, List.append_assoc]
  refine List.Perm.append_left _ ?_
  show (NilT :: RdT r s :: (skL S Q ⟨n, []⟩ 0 pv [] lv [] ++ [RowT 54 8 (.slice none 0 0) 0 (qL.cells [])])).Perm (RdT r s :: RowT 54 8 (.slice none 0 0) 0 (qL.cells []) :: (skL S Q ⟨n, []⟩ 0 pv [] lv [] ++ [NilT]))
  refine (List.Perm.swap _ _ _).trans (List.Perm.cons _ ?_)
  generalize skL S Q ⟨n, []⟩ 0 pv [] lv [] = K
  exact (List.Perm.cons _ (List.perm_append_singleton _ _)).trans ((List.Perm.swap _ _ _).trans (List.Perm.cons _ (List.perm_append_singleton _ _).symm))

set_option maxHeartbeats 4000000 in
set_option maxRecDepth 100000 in
theorem st_sload (H : St W w R) (n : Int) (hn1 : 1 ≤ n) (hn8 : n ≤ 8) (b : ByteArray) (hb : b.size ≤ 140737488355328) :
    Calls Try.prog 22 #[.int .i64 n, .string b] w (LoadTo W R (loadS n b)) := by
  have hw0 : RS.wf ⟨b, 0, 0⟩ := ⟨Nat.zero_le _, hb⟩
  obtain ⟨L0, hL0⟩ : ∃ L0, loadS n b = L0 := ⟨_, rfl⟩
  rw [hL0]
  obtain ⟨rs, hrs⟩ : ∃ rs : Nat, (⟨b, 0, 0⟩ : RS).nG 1099511627776 = rs := ⟨_, rfl⟩
  have hrs1 : rs ≤ 1099511627776 := by rw [← hrs]; exact RS.nG_le _ _
  obtain ⟨s1, hs1⟩ : ∃ s1, (⟨b, 0, 0⟩ : RS).nF 1099511627776 = s1 := ⟨_, rfl⟩
  have hw1 : s1.wf := by rw [← hs1]; exact RS.nF_wf hw0 _
  obtain ⟨m, hm⟩ : ∃ m : Nat, s1.nG 8 = m := ⟨_, rfl⟩
  have hm1 : m ≤ 8 := by rw [← hm]; exact RS.nG_le _ _
  obtain ⟨s2, hs2⟩ : ∃ s2, s1.nF 8 = s2 := ⟨_, rfl⟩
  have hw2 : s2.wf := by rw [← hs2]; exact RS.nF_wf hw1 _
  unfold loadS at hL0
  simp only [hrs, hs1, hm, hs2] at hL0
  have HL0 := hid hL0
  have HW := hid (And.intro hw0 (And.intro hw1 hw2))
  have HE := hid (And.intro hrs (And.intro hs1 (And.intro hm hs2)))
  have H0 := hid (st_snew H n hn1 hn8)
  have HN := hid (And.intro hn1 hn8)
  clear H hL0 hw0 hw1 hw2 hrs hs1 hm hs2
  go_enter Try.func22, Try.ntmps22
  go_wp2_with fail
  refine H0.out.mono ?_
  rintro e w1 ⟨S, rfl, H⟩
  have HA := hid (st_read0 H b)
  clear H H0
  go_wp2_with fail
  refine HA.out.mono ?_
  rintro e w2 ⟨r, rfl, H⟩
  have HB := st_Num H (R.length + 1) (r := r) (s := ⟨b, 0, 0⟩) (by rw [List.append_assoc, get_behind]; rfl) HW.out.1 (most := 1099511627776) (by decide)
  rw [show (⟨b, 0, 0⟩ : RS).got 0 (rdMost (⟨b, 0, 0⟩ : RS).b (⟨b, 0, 0⟩ : RS).at_ (1099511627776 : Nat) 21) = rs from HE.out.1, show (⟨b, 0, 0⟩ : RS).face (rdMost (⟨b, 0, 0⟩ : RS).b (⟨b, 0, 0⟩ : RS).at_ (1099511627776 : Nat) 21) = s1 from HE.out.2.1] at HB
  have HB := hid HB
  clear H HA
  go_wp2_with fail
  refine HB.out.mono ?_
  rintro e w3 ⟨rfl, H⟩
  have H : St W w3 (R ++ [SkT S (SV.new n), RdT r s1]) := by simpa using H
  obtain ⟨Q, pv, lv, H⟩ := H.ld0
  have bS := H.blk (R.length + 2) (by rw [get_behind]; rfl)
  have c1 := cell_blk (i := 1) bS rfl
  have f1 := free_blk (i := 1) bS
  have hlS := lt_of_block bS
  have H4 : St W (w3.setCell ⟨S, 1, none⟩ (.int .i64 rs)) (R ++ (RdT r s1 :: ldR (.slice none 0 0) [] S Q n rs pv lv [] [])) := by
    have h := H.setBlk (R.length + 2) (by rw [get_behind]; rfl) 1 (.int .i64 rs)
    rw [List.set_append_right _ _ (by omega), Nat.add_sub_cancel_left] at h
    exact h
  have HC := st_Num H4 (R.length + 0) (r := r) (s := s1) (by rw [get_behind]; rfl) HW.out.2.1 (most := 8) (by decide)
  rw [show s1.got 0 (rdMost s1.b s1.at_ (8 : Nat) 21) = m from HE.out.2.2.1, show s1.face (rdMost s1.b s1.at_ (8 : Nat) 21) = s2 from HE.out.2.2.2, List.set_append_right _ _ (by omega), Nat.add_sub_cancel_left] at HC
  have HC := hid HC
  have hw1 : IntKind.i64.wrap (rs : Int) = rs := IntWalk.i64_in _ (by omega)
  clear H H4 bS HB
  go_wp2_with fail
  refine HC.out.mono ?_
  rintro e w4 ⟨rfl, H⟩
  have hwm : IntKind.i64.wrap (m : Int) = m := IntWalk.i64_in _ (by omega)
  have H : St W w4 (R ++ (RdT r s2 :: ldR (.slice none 0 0) [] S Q n rs pv lv [] [])) := H
  have H := hid H
  have HHL := hid HL0.out
  have HM := hid (And.intro hm1 hrs1)
  clear hw1 c1 f1 hlS HC hrs1 hm1 HL0
  go_wp2_with fail
  go_loopw [36, 9] (fun iv rv wr => ∃ (k : Nat) (j : JS) (pv lv : Value) (ll : List (List ByteArray × TS)), k ≤ m ∧ iv = .int .i64 k ∧ Hid (jb rs s2 k = some j) ∧ Hid (j.ok k) ∧ ll.map (·.1) = j.ls ∧ St W wr (R ++ (RdT r j.s :: ldR rv j.rows S Q n rs pv lv j.ps ll))) (fun iv _ _ => m - (intOf iv).toNat)
  case atStart => exact ⟨0, ⟨s2, [], [], []⟩, pv, lv, [], Nat.zero_le _, rfl, hid rfl, hid ⟨HW.out.2.2, rfl, rfl, rfl⟩, rfl, H.out⟩
  case round =>
    obtain ⟨k, j, pv, lv, ll, hk, rfl, hj, hok, hll, H⟩ := hrel
    by_cases hkl : k < m
    · have hok1 := hok.out.wf
      have hk8 : k < 8 := by have := HM.out.1; omega
      have hwk : IntKind.i64.wrap ((k : Int) + 1) = (k : Int) + 1 := IntWalk.i64_in _ (by omega)
      have HR := hid (ld_row H hok1 ((k : Int) + 1))
      have hws1 := RS.rowF_wf hok1
      obtain ⟨x, hx⟩ : ∃ x, j.s.row ((k : Int) + 1) = x := ⟨_, rfl⟩
      obtain ⟨t1, ht1⟩ : ∃ t1, j.s.rowF = t1 := ⟨_, rfl⟩
      rw [hx, ht1] at HR
      rw [ht1] at hws1
      have HX := hid (And.intro hx ht1)
      have HKK := hid (And.intro hkl hk8)
      have HLL := hid hll
      clear H hx ht1 hok1 hll
      go_wp2_with fail
      refine HR.out.mono ?_
      rintro e w5 ⟨rfl, H⟩
      have H5 := H.alloc (.cells #[.int .i64 x.job, .int .i64 x.st, .int .i64 x.at_, .int .i64 x.ba, .int .i64 x.node, .int .i64 x.life, .int .i64 x.code, .int .u64 x.bits] 54)
      rw [List.append_assoc] at H5
      have HT := hid (ld_text H5 hws1 (m := 1024) (by decide))
      clear H H5 HR
      unfold QR.f
      go_wp2_with fail
      refine HT.out.mono ?_
      rintro e w6 ⟨rfl, H⟩
      generalize w5.heap.size = xb at H ⊢
      have hws2 := RS.tF_wf hws1 1024
      obtain ⟨t2, ht2⟩ : ∃ t2, t1.tF 1024 = t2 := ⟨_, rfl⟩
      obtain ⟨pt, hpt⟩ : ∃ pt, t1.tG 1024 = pt := ⟨_, rfl⟩
      rw [ht2] at H hws2
      rw [hpt]
      have HLs := hid (ld_list H hws2 (m := 32) (by decide))
      have hws3 := RS.lF_wf hws2 32
      have hl32 := RS.lG_le t2 (m := 32) (by decide)
      obtain ⟨t3, ht3⟩ : ∃ t3, t2.lF 32 = t3 := ⟨_, rfl⟩
      obtain ⟨nl, hnl⟩ : ∃ nl, t2.lG 32 = nl := ⟨_, rfl⟩
      rw [ht3] at HLs hws3
      rw [hnl] at HLs hl32
      have HX2 := hid (And.intro ht2 (And.intro hpt (And.intro ht3 hnl)))
      have HW3 := hid hws3
      have HNL := hid hl32
      clear H HT ht2 hpt ht3 hnl hws1 hws2 hws3 hl32
      go_wp2_with fail
      refine HLs.out.mono ?_
      rintro e w7 ⟨rfl, H⟩
      have H8 := H.new (A := Row1 9 1 (.slice none 0 0) 0 (sL.cells [])) (F := []) (Fr.refl _ _) inferInstance ⟨rfl, World.ownsRow_nil _ _ _ _⟩ (by simp)
      obtain ⟨LX, hLX⟩ : ∃ LX, ldR u9 j.rows S Q n rs pv lv j.ps ll ++ [BlkT xb (.cells #[.int .i64 x.job, .int .i64 x.st, .int .i64 x.at_, .int .i64 x.ba, .int .i64 x.node, .int .i64 x.life, .int .i64 x.code, .int .u64 x.bits] 54)] = LX := ⟨_, rfl⟩
      have H8 : St W w7 (R ++ (RdT r t3 :: (LX ++ [RowT 9 1 (.slice none 0 0) 0 (sL.cells [])]))) := by
        rw [List.append_assoc] at H8
        rw [← hLX]
        exact H8
      have H8 := hid H8
      have HLX := hid hLX
      clear H HLs hLX
      go_wp2_with fail
      obtain ⟨wo, hwo⟩ : ∃ wo : World, wo = wr := ⟨_, rfl⟩
      subst hwo
      go_loopw [47, 13] (fun iv uv wr => ∃ q : Nat, q ≤ nl ∧ iv = .int .i64 q ∧ St W wr (R ++ (RdT r (txF t3 q) :: (LX ++ [RowT 9 1 uv q (sL.cells (tx t3 q))])))) (fun iv _ _ => nl - (intOf iv).toNat)
      case atStart => exact ⟨0, Nat.zero_le _, rfl, H8.out⟩
      case round =>
        obtain ⟨q, hq, rfl, H⟩ := hrel
        by_cases hql : q < nl
        · have HT2 := hid (ld_text H (txF_wf HW3.out q) (m := 32) (by decide))
          obtain ⟨i0, hi0, hz0, hz1, hz2⟩ := info_parts info_gs
          have HI := hid (And.intro hi0 (And.intro hz0 (And.intro hz1 hz2)))
          have hq32 : q < 32 := by have := HNL.out; omega
          obtain ⟨pq, hpq⟩ : ∃ pq, (txF t3 q).tG 32 = pq := ⟨_, rfl⟩
          have htx := hid (show sL.cells (tx t3 q) ++ [.string pq] = sL.cells (tx t3 (q + 1)) by rw [← hpq]; exact sL.snoc _ _)
          rw [hpq] at HT2
          clear H hi0 hz0 hz1 hz2 hpq H8
          go_wp2_with fail
          refine HT2.out.mono ?_
          rintro e w8 ⟨rfl, H⟩
          have HAP := hid ((H.alloc_ (.cells #[.string pq] 9)).endRow (A := R) (B := RdT r (txF t3 (q + 1)) :: LX))
          clear H HT2
          go_wp2_with (at_builtin; refine wpList_append_blk rfl (.tmp 49) (.tmp 52) 39 rfl 9 i0 (.string ByteArray.empty) 1 16 Try.underlying39 HI.out.1 HI.out.2.1 HI.out.2.2.1 HI.out.2.2.2 rfl (by decide) u13 q (sL.cells (tx t3 q)) rfl HAP.out.1 ⟨w8.heap.size, 0, none⟩ 1 1 [.string pq] rfl rfl (news_alloc w8 [.string pq] 9) (by intro u hu; simp at hu; subst hu; rfl) (by unfold maxLen; omega) (by omega) ?_)
          intro v' w9 ho hF hb hn
          have H9 := hid (HAP.out.2 v' w9 (q + 1) (sL.cells (tx t3 (q + 1))) (by rw [← htx.out]; exact ho) (by simpa using hF) (by simpa using hb))
          clear ho hF hb hn HAP
          go_wp2_with fail
          exact ⟨⟨q + 1, by omega, by go_num, H9.out⟩, by simp [intOf]; omega⟩
        · obtain rfl : q = nl := by omega
          have hnx : j.next rs k = if (rs : Int) < x.ba ∨ pt.size = 0 ∨ (x.at_ = 0 ∧ 0 < q) then none else some ⟨txF t3 q, j.rows ++ [x], j.ps ++ [pt], j.ls ++ [tx t3 q]⟩ := by
            unfold JS.next
            simp only [HX.out.1, HX.out.2, HX2.out.1, HX2.out.2.1, HX2.out.2.2.1, HX2.out.2.2.2]
          have hjn : jb rs s2 (k + 1) = j.next rs k := by rw [jb, hj.out]; rfl
          have bS := H.blkIn (b := S) (o := .cells #[.pointer (some ⟨Q, 0, none⟩), .int .i64 rs, pv, lv] 65) (by rw [← HLX.out]; simp [ldR, skL])
          have c1 := cell_blk (i := 1) bS rfl
          have hlS := lt_of_block bS
          have bX := H.blkIn (b := xb) (by rw [← HLX.out]; exact List.mem_append_right _ (List.mem_cons_of_mem _ (List.mem_append_left _ (List.mem_append_right _ (List.mem_singleton.2 rfl)))))
          have x2 := cell_blk (i := 2) bX rfl
          have x3 := cell_blk (i := 3) bX rfl
          have hlX := lt_of_block bX
          obtain ⟨la, lc, rfl⟩ := H.rowIn (e := 9) (size := 1) (v := u13) (n := q) (xs := sL.cells (tx t3 q)) (by simp)
          have H := hid H
          clear hql hq H8
          by_cases hbad : (rs : Int) < x.ba ∨ pt.size = 0 ∨ (x.at_ = 0 ∧ 0 < q)
          · rw [if_pos hbad] at hnx
            have hno : L0 = none := by
              have h := HHL.out
              rw [jb_none (hjn.trans hnx) m (by have := HKK.out.1; omega)] at h
              exact h.symm
            have hno := hid hno
            clear hnx hjn bS bX
            by_cases h1 : (rs : Int) < x.ba
            · have hd1 : decide ((rs : Int) < x.ba) = true := decide_eq_true h1
              clear h1 hbad
              go_wp2_with fail
              go_quiet (fail)
              go_wp2_with fail
              exact bodyPost_ret (v := .tuple #[.pointer none, .int .i64 171]) (by simp [results, Try.results22, go_sem]) rfl (LoadTo.no hno.out (H.out.drewN _).drop)
            · have hd1 : decide ((rs : Int) < x.ba) = false := decide_eq_false h1
              by_cases h2 : pt.size = 0
              · have hs : pt = ⟨#[]⟩ := ba_nil h2
                subst hs
                clear h1 hbad h2
                go_wp2_with fail
                go_quiet (fail)
                go_wp2_with fail
                exact bodyPost_ret (v := .tuple #[.pointer none, .int .i64 171]) (by simp [results, Try.results22, go_sem]) rfl (LoadTo.no hno.out (H.out.drewN _).drop)
              · have hs := ba_some h2
                have h3 : x.at_ = 0 ∧ 0 < q := by rcases hbad with h | h | h <;> first | exact h | exact absurd h h1 | exact absurd h h2
                have hd3 : (x.at_ == 0) = true := by rw [beq_iff_eq]; exact h3.1
                have hd4 : decide (0 < q) = true := decide_eq_true h3.2
                have h04 : 0 < q := h3.2
                clear h1 hbad h2 h3
                go_wp2_with fail
                go_quiet (fail)
                go_wp2_with fail
                exact bodyPost_ret (v := .tuple #[.pointer none, .int .i64 171]) (by simp [results, Try.results22, go_sem]) rfl (LoadTo.no hno.out (H.out.drewN _).drop)
          · rw [if_neg hbad] at hnx
            have HNX := hid (And.intro (hjn.trans hnx) hnx)
            have hd1 : decide ((rs : Int) < x.ba) = false := decide_eq_false (fun h => hbad (.inl h))
            have hs := ba_some (fun h => hbad (.inr (.inl h)))
            obtain ⟨fa, hfa⟩ : ∃ fa, (x.at_ == 0) = fa := ⟨_, rfl⟩
            have hd4 : fa = true → decide (0 < q) = false ∧ ¬ 0 < q := fun h => have h5 : ¬ 0 < q := (fun h4 => hbad (.inr (.inr ⟨by rw [h] at hfa; exact eq_of_beq hfa, h4⟩))); ⟨decide_eq_false h5, h5⟩
            clear hnx hjn hbad
            go_upto_region 19 with (fail)
            go_cut [11, 12, 13, 36, 75] from 36 to 100 (fun s11 s12 s13 s36 s75 wx => s75 = .bool false ∧ s36 = .int .i64 k ∧ s11 = .pointer (some ⟨xb, 0, none⟩) ∧ s12 = .string pt ∧ s13 = .slice la q lc ∧ ∃ nq, wx = wr.drewN nq)
            case first =>
              cases fa
              · clear hd4
                go_wp2_with fail
                go_quiet (fail)
                go_wp2_with fail
                go_meet
                exact ⟨rfl, rfl, rfl, rfl, rfl, _, rfl⟩
              · obtain ⟨hd4, hd5⟩ := hd4 rfl
                go_wp2_with fail
                go_quiet (fail)
                go_wp2_with fail
                go_meet
                exact ⟨rfl, rfl, rfl, rfl, rfl, _, rfl⟩
            case rest =>
              obtain ⟨rfl, rfl, rfl, rfl, rfl, nq, rfl⟩ := hcut
              have H10 := hid (H.out.drewN nq)
              have bX := H10.out.blkIn (b := xb) (by rw [← HLX.out]; exact List.mem_append_right _ (List.mem_cons_of_mem _ (List.mem_append_left _ (List.mem_append_right _ (List.mem_singleton.2 rfl)))))
              have x0 := cell_blk (i := 0) bX rfl
              have x1 := cell_blk (i := 1) bX rfl
              have x2 := cell_blk (i := 2) bX rfl
              have x3 := cell_blk (i := 3) bX rfl
              have x4 := cell_blk (i := 4) bX rfl
              have x5 := cell_blk (i := 5) bX rfl
              have x6 := cell_blk (i := 6) bX rfl
              have x7 := cell_blk (i := 7) bX rfl
              have hlX := lt_of_block bX
              have H11 : St W (wr.drewN nq) (R ++ (RdT r (txF t3 q) :: RowT 54 8 u9 j.rows.length (qL.cells j.rows) :: BlkT S (.cells #[.pointer (some ⟨Q, 0, none⟩), .int .i64 rs, pv, lv] 65) :: QkT Q ⟨n, []⟩ :: RowT 9 1 pv j.ps.length (sL.cells j.ps) :: RowT 39 1 lv ll.length (tL.cells ll) :: (ll.map (fun x => own (lg1 x)) ++ [RowT 9 1 (.slice la q lc) q (sL.cells (tx t3 q))]))) := by
                have h := H10.out
                rw [← HLX.out] at h
                refine h.sub (B := [BlkT xb (.cells #[.int .i64 x.job, .int .i64 x.st, .int .i64 x.at_, .int .i64 x.ba, .int .i64 x.node, .int .i64 x.life, .int .i64 x.code, .int .u64 x.bits] 54)]) ?_
                refine (List.Perm.append_left R ?_).trans (List.Perm.of_eq (List.append_assoc R _ _).symm)
                exact List.Perm.cons _ (List.Perm.cons _ (List.Perm.cons _ (List.Perm.cons _ (List.Perm.cons _ (List.Perm.cons _ (perm_end _ _ _))))))
              obtain ⟨TL, hTL⟩ : ∃ TL, ll.map (fun x => own (lg1 x)) ++ [RowT 9 1 (.slice la q lc) q (sL.cells (tx t3 q))] = TL := ⟨_, rfl⟩
              rw [hTL] at H11
              have HTL := hid hTL
              obtain ⟨i0, hi0, hz0, hz1, hz2⟩ := info_parts info_qrow
              have HI := hid (And.intro hi0 (And.intro hz0 (And.intro hz1 hz2)))
              have HA1 := (H11.alloc_ (.cells (QR.f x).toArray 54)).append (R.length + 1) (by rw [get_behind]; rfl)
              simp only [List.set_append_right _ _ (Nat.le_add_right R.length 1), Nat.add_sub_cancel_left] at HA1
              have HA1 := hid HA1
              have hjr : j.rows.length ≤ 8 := by have := hok.out.rows; have := HKK.out.2; omega
              have HJR := hid hjr
              clear bX bS c1 hlS hd1 hs hd4 hfa H H11 hTL hi0 hz0 hz1 hz2 hjr
              go_wp2_with (at_builtin; refine wpList_append_blk rfl (.tmp 76) (.tmp 78) 79 rfl 54 i0 (.agg #[.int .i64 0, .int .i64 0, .int .i64 0, .int .i64 0, .int .i64 0, .int .i64 0, .int .i64 0, .int .u64 0]) 8 64 Try.underlying79 HI.out.1 HI.out.2.1 HI.out.2.2.1 HI.out.2.2.2 rfl (by decide) u9 j.rows.length (qL.cells j.rows) rfl HA1.out.1 ⟨wr.heap.size, 0, none⟩ 1 1 (QR.f x) rfl rfl ?qb (qL.one x) (by have := HJR.out; unfold maxLen; omega) (by have := HJR.out; omega) ?_)
              case qb => exact news_alloc (wr.drewN nq) (QR.f x) _
              intro v1 w11 ho hF hb hn
              have H12 : St W w11 (R ++ (RdT r (txF t3 q) :: RowT 54 8 v1 (j.rows.length + 1) (qL.cells (j.rows ++ [x])) :: BlkT S (.cells #[.pointer (some ⟨Q, 0, none⟩), .int .i64 rs, pv, lv] 65) :: QkT Q ⟨n, []⟩ :: RowT 9 1 pv j.ps.length (sL.cells j.ps) :: RowT 39 1 lv ll.length (tL.cells ll) :: TL)) := HA1.out.2 v1 w11 (j.rows.length + 1) (qL.cells (j.rows ++ [x])) (by rw [← qL.snoc]; exact ho) hF (by simpa using hb)
              have HHo := hid ho
              clear ho hF hb hn HA1
              obtain ⟨pa, pc, rfl⟩ := H12.rowIn (e := 9) (size := 1) (v := pv) (n := j.ps.length) (xs := sL.cells j.ps) (by simp)
              obtain ⟨i1, hi0, hz0, hz1, hz2⟩ := info_parts info_gs
              have HI1 := hid (And.intro hi0 (And.intro hz0 (And.intro hz1 hz2)))
              have bS := H12.blk (R.length + 2) (by rw [get_behind]; rfl)
              have c2 := cell_blk (i := 2) bS rfl
              have f2 := free_blk (i := 2) bS
              have hlS := lt_of_block bS
              have HA2 := (H12.alloc_ (.cells #[.string pt] 9)).append (R.length + 4) (by rw [get_behind]; rfl)
              simp only [List.set_append_right _ _ (Nat.le_add_right R.length 4), Nat.add_sub_cancel_left] at HA2
              have HA2 := hid HA2
              have hjp : j.ps.length ≤ 8 := by have := hok.out.ps; have := HKK.out.2; omega
              have HJP := hid hjp
              clear H12 bS hi0 hz0 hz1 hz2 hjp x0 x1 x2 x3 x4 x5 x6 x7 hlX
              go_wp2_with (at_builtin; refine wpList_append_blk rfl (.tmp 84) (.tmp 86) 39 rfl 9 i1 (.string ByteArray.empty) 1 16 Try.underlying39 HI1.out.1 HI1.out.2.1 HI1.out.2.2.1 HI1.out.2.2.2 rfl (by decide) (.slice pa j.ps.length pc) j.ps.length (sL.cells j.ps) rfl HA2.out.1 ⟨w11.heap.size, 0, none⟩ 1 1 [.string pt] rfl rfl (news_alloc w11 [.string pt] 9) (by intro u hu; simp at hu; subst hu; rfl) (by have := HJP.out; unfold maxLen; omega) (by have := HJP.out; omega) ?_)
              intro v2 w12 ho hF hb hn
              have H13 : St W w12 (R ++ (RdT r (txF t3 q) :: RowT 54 8 v1 (j.rows.length + 1) (qL.cells (j.rows ++ [x])) :: BlkT S (.cells #[.pointer (some ⟨Q, 0, none⟩), .int .i64 rs, .slice pa j.ps.length pc, lv] 65) :: QkT Q ⟨n, []⟩ :: RowT 9 1 v2 (j.ps.length + 1) (sL.cells (j.ps ++ [pt])) :: RowT 39 1 lv ll.length (tL.cells ll) :: TL)) := HA2.out.2 v2 w12 (j.ps.length + 1) (sL.cells (j.ps ++ [pt])) (by rw [← sL.snoc]; exact ho) hF (by simpa using hb)
              obtain ⟨g2, cap2, rfl, _⟩ := ownsRow_shape ho (by omega)
              have bS := H13.blk (R.length + 2) (by rw [get_behind]; rfl)
              have c2' := cell_blk (i := 2) bS rfl
              have f2' := free_blk (i := 2) bS
              have hlS' := lt_of_block bS
              have H14 : St W (w12.setCell ⟨S, 2, none⟩ (.slice (some ⟨g2, 0, none⟩) (j.ps.length + 1) cap2)) (R ++ (RdT r (txF t3 q) :: RowT 54 8 v1 (j.rows.length + 1) (qL.cells (j.rows ++ [x])) :: BlkT S (.cells #[.pointer (some ⟨Q, 0, none⟩), .int .i64 rs, .slice (some ⟨g2, 0, none⟩) (j.ps.length + 1) cap2, lv] 65) :: QkT Q ⟨n, []⟩ :: RowT 9 1 (.slice (some ⟨g2, 0, none⟩) (j.ps.length + 1) cap2) (j.ps.length + 1) (sL.cells (j.ps ++ [pt])) :: RowT 39 1 lv ll.length (tL.cells ll) :: TL)) := by
                have h := H13.setBlk (R.length + 2) (by rw [get_behind]; rfl) 2 (.slice (some ⟨g2, 0, none⟩) (j.ps.length + 1) cap2)
                rw [List.set_append_right _ _ (by omega), Nat.add_sub_cancel_left] at h
                exact h
              obtain ⟨la2, lc2, rfl⟩ := H14.rowIn (e := 39) (size := 1) (v := lv) (n := ll.length) (xs := tL.cells ll) (by simp)
              obtain ⟨i2, hi0, hz0, hz1, hz2⟩ := info_parts info_gt
              have HI2 := hid (And.intro hi0 (And.intro hz0 (And.intro hz1 hz2)))
              have bS2 := H14.blk (R.length + 2) (by rw [get_behind]; rfl)
              have c3 := cell_blk (i := 3) bS2 rfl
              have f3 := free_blk (i := 3) bS2
              have HA3 := (H14.alloc_ (.cells #[.slice la q lc] 39)).append (R.length + 5) (by rw [get_behind]; rfl)
              simp only [List.set_append_right _ _ (Nat.le_add_right R.length 5), Nat.add_sub_cancel_left] at HA3
              have HA3 := hid HA3
              have hjl : ll.length ≤ 8 := by have := hok.out.ls; have := HKK.out.2; have h9 := congrArg List.length HLL.out; simp at h9; omega
              have HJL := hid hjl
              clear H13 H14 bS bS2 hi0 hz0 hz1 hz2 hjl HA2 c2 f2 hlS ho hF hb hn
              go_wp2_with (at_builtin; refine wpList_append_blk rfl (.tmp 94) (.tmp 96) 63 rfl 39 i2 (.slice none 0 0) 1 24 Try.underlying63 HI2.out.1 HI2.out.2.1 HI2.out.2.2.1 HI2.out.2.2.2 rfl (by decide) (.slice la2 ll.length lc2) ll.length (tL.cells ll) rfl HA3.out.1 ⟨w12.heap.size, 0, none⟩ 1 1 [.slice la q lc] rfl rfl ?qn (by intro u hu; simp at hu; subst hu; rfl) (by have := HJL.out; unfold maxLen; omega) (by have := HJL.out; omega) ?_)
              case qn =>
                have h := news_alloc (w12.setCell ⟨S, 2, none⟩ (.slice (some ⟨g2, 0, none⟩) (j.ps.length + 1) cap2)) [.slice la q lc] 39
                rwa [show (w12.setCell ⟨S, 2, none⟩ (.slice (some ⟨g2, 0, none⟩) (j.ps.length + 1) cap2)).heap.size = w12.heap.size by simp [World.setCell]] at h
              intro v3 w13 ho hF hb hn
              have H15 : St W w13 (R ++ (RdT r (txF t3 q) :: RowT 54 8 v1 (j.rows.length + 1) (qL.cells (j.rows ++ [x])) :: BlkT S (.cells #[.pointer (some ⟨Q, 0, none⟩), .int .i64 rs, .slice (some ⟨g2, 0, none⟩) (j.ps.length + 1) cap2, .slice la2 ll.length lc2] 65) :: QkT Q ⟨n, []⟩ :: RowT 9 1 (.slice (some ⟨g2, 0, none⟩) (j.ps.length + 1) cap2) (j.ps.length + 1) (sL.cells (j.ps ++ [pt])) :: RowT 39 1 v3 (ll.length + 1) (tL.cells (ll ++ [(tx t3 q, (⟨la, lc⟩ : TS))])) :: TL)) := HA3.out.2 v3 w13 (ll.length + 1) (tL.cells (ll ++ [(tx t3 q, (⟨la, lc⟩ : TS))])) (by rw [← tL.snoc]; show w13.ownsRow _ _ _ _ _ (tL.cells ll ++ [.slice la (tx t3 q).length lc]); rw [tx_len]; exact ho) (by simpa using hF) (by simpa using hb)
              obtain ⟨g3, cap3, rfl, _⟩ := ownsRow_shape ho (by omega)
              have bS := H15.blk (R.length + 2) (by rw [get_behind]; rfl)
              have c3' := cell_blk (i := 3) bS rfl
              have f3' := free_blk (i := 3) bS
              have hlS2 := lt_of_block bS
              have H16 : St W (w13.setCell ⟨S, 3, none⟩ (.slice (some ⟨g3, 0, none⟩) (ll.length + 1) cap3)) (R ++ (RdT r (txF t3 q) :: RowT 54 8 v1 (j.rows.length + 1) (qL.cells (j.rows ++ [x])) :: BlkT S (.cells #[.pointer (some ⟨Q, 0, none⟩), .int .i64 rs, .slice (some ⟨g2, 0, none⟩) (j.ps.length + 1) cap2, .slice (some ⟨g3, 0, none⟩) (ll.length + 1) cap3] 65) :: QkT Q ⟨n, []⟩ :: RowT 9 1 (.slice (some ⟨g2, 0, none⟩) (j.ps.length + 1) cap2) (j.ps.length + 1) (sL.cells (j.ps ++ [pt])) :: RowT 39 1 (.slice (some ⟨g3, 0, none⟩) (ll.length + 1) cap3) (ll.length + 1) (tL.cells (ll ++ [(tx t3 q, (⟨la, lc⟩ : TS))])) :: TL)) := by
                have h := H15.setBlk (R.length + 2) (by rw [get_behind]; rfl) 3 (.slice (some ⟨g3, 0, none⟩) (ll.length + 1) cap3)
                rw [List.set_append_right _ _ (by omega), Nat.add_sub_cancel_left] at h
                exact h
              have H16 := hid H16
              clear H15 bS ho hF hb hn HA3 c2' f2' c3 f3 hlS'
              have hwk2 : IntKind.i64.wrap ((k : Int) + 1) = (k : Int) + 1 := hwk
              go_wp2_with fail
              go_roundw
              case rel =>
                refine ⟨k + 1, _, .slice (some ⟨g2, 0, none⟩) (j.ps.length + 1) cap2, .slice (some ⟨g3, 0, none⟩) (ll.length + 1) cap3, ll ++ [(tx t3 q, (⟨la, lc⟩ : TS))], HKK.out.1, by go_num, hid HNX.out.1, hid (JS.next_ok hok.out HNX.out.2), by rw [List.map_append, HLL.out]; rfl, ?_⟩
                have h := H16.out
                rw [← HTL.out] at h
                simpa [ldR, skL, lg1, RowT, tx_len] using h
              case measure => simp [intOf]; have := HKK.out.1; omega
    · obtain rfl : k = m := by omega
      have HL2 := HHL.out
      rw [hj.out] at HL2
      dsimp only [Option.bind_some] at HL2
      have HEN := st_end H (R.length + 0) (r := r) (s := j.s) (by rw [get_behind]; rfl)
      obtain ⟨e1, e2, hE⟩ : ∃ e1 e2, j.s.end_ = (e1, e2) := ⟨_, _, rfl⟩
      rw [hE] at HEN HL2
      have HEN := hid HEN
      obtain ⟨ra, rc, rfl⟩ := H.rowIn (e := 54) (size := 8) (v := u9) (n := j.rows.length) (xs := qL.cells j.rows) (by simp [ldR])
      have HLL := hid hll
      clear hE hll hkl hk
      by_cases he : e1 = 0
      · subst he
        rw [if_neg (fun h => h rfl)] at HL2
        have HL2 := hid HL2
        clear H
        go_wp2_with fail
        refine HEN.out.mono ?_
        rintro e w5 ⟨rfl, H⟩
        have hin := H.lay qL (R.length + 1) (a := ra) (c := rc) (l := j.rows) (by rw [get_behind]; rfl)
        have HQ := hid (qload_any w5 n HN.out.1 HN.out.2 ra j.rows.length rc j.rows rfl hin)
        have H := hid H
        clear hin HEN
        go_wp2_with fail
        refine HQ.out.mono ?_
        rintro e w6 h
        rcases h with ⟨hwf, Q2, rfl, h6⟩ | ⟨hwf, rfl, hF⟩
        · have h7 := HL2.out
          rw [if_pos hwf] at h7
          have h7 := hid h7
          have H6 := st_of_one H.out h6
          have H6 : St W w6 ((R ++ (RdT r j.s :: RowT 54 8 (.slice ra j.rows.length rc) j.rows.length (qL.cells j.rows) :: BlkT S (.cells #[.pointer (some ⟨Q, 0, none⟩), .int .i64 rs, pv, lv] 65) :: QkT Q ⟨n, []⟩ :: RowT 9 1 pv j.ps.length (sL.cells j.ps) :: RowT 39 1 lv ll.length (tL.cells ll) :: ll.map (fun x => own (lg1 x)))) ++ [QkT Q2 ⟨n, j.rows⟩]) := H6
          have bS := H6.blkIn (b := S) (o := .cells #[.pointer (some ⟨Q, 0, none⟩), .int .i64 rs, pv, lv] 65) (by simp)
          have c0 := cell_blk (i := 0) bS rfl
          have f0 := free_blk (i := 0) bS
          have hlS := lt_of_block bS
          have H7 : St W (w6.setCell ⟨S, 0, none⟩ (.pointer (some ⟨Q2, 0, none⟩))) ((R ++ (RdT r j.s :: RowT 54 8 (.slice ra j.rows.length rc) j.rows.length (qL.cells j.rows) :: BlkT S (.cells #[.pointer (some ⟨Q2, 0, none⟩), .int .i64 rs, pv, lv] 65) :: QkT Q ⟨n, []⟩ :: RowT 9 1 pv j.ps.length (sL.cells j.ps) :: RowT 39 1 lv ll.length (tL.cells ll) :: ll.map (fun x => own (lg1 x)))) ++ [QkT Q2 ⟨n, j.rows⟩]) := by
            rw [List.append_assoc] at H6
            have h := H6.setBlk (R.length + 2) (by rw [get_behind]; rfl) 0 (.pointer (some ⟨Q2, 0, none⟩))
            rw [List.set_append_right _ _ (by omega), Nat.add_sub_cancel_left] at h
            rw [List.append_assoc]
            exact h
          have H8 := hid (St.skEnd (H7.sub (perm_load _ _ _ _ _ _ _ _ _)))
          clear bS H6 H7 h6 HQ H hwf
          go_wp2_with fail
          refine bodyPost_ret (v := .tuple #[.pointer (some ⟨S, 0, none⟩), .int .i64 0]) (by simp [results, Try.results22, go_sem]) rfl (LoadTo.yes h7.out.symm ?_)
          have h9 := H8.out
          rw [HLL.out] at h9
          exact h9
        · have h7 := HL2.out
          rw [if_neg hwf] at h7
          have h7 := hid h7
          have H6 := hid (H.out.same hF)
          clear HQ H hwf hF
          go_wp2_with fail
          exact bodyPost_ret (v := .tuple #[.pointer none, .int .i64 171]) (by simp [results, Try.results22, go_sem]) rfl (LoadTo.no h7.out.symm H6.out.drop)
      · rw [if_pos he] at HL2
        have HL2 := hid HL2
        have he1 : (e1 == 0) = false := by rw [beq_eq_false_iff_ne]; exact he
        have he2 : (e1 != 0) = true := by simp [bne, he1]
        clear H he
        go_wp2_with fail
        refine HEN.out.mono ?_
        rintro e w5 ⟨rfl, H⟩
        have H := hid H
        go_wp2_with fail
        exact bodyPost_ret (v := .tuple #[.pointer none, .int .i64 171]) (by simp [results, Try.results22, go_sem]) rfl (LoadTo.no HL2.out.symm H.out.drop)
end
end Go.Proofs.Ytmgnekjhlfghaaa

/-
  state: Load of a state's bytes is that state: plain.
-/
namespace Go.Proofs.Ytmgnekjhlfghaaa
open Go.RowKit
set_option linter.unusedVariables false
set_option linter.unusedSimpArgs false

theorem n_ok {b : ByteArray} {p q n m : Nat} (h : Rds b p (bl (nf n)) q) (hn : n ≤ m) (hm : m < 18446744073709551616) : RS.nG ⟨b, p, 0⟩ m = n ∧ RS.nF ⟨b, p, 0⟩ m = ⟨b, q, 0⟩ := by
  have e : rdMost b p (m : Int) 21 = .ok (n, q) := rdMost_iff.2 ⟨h, by omega, by omega⟩
  constructor
  · unfold RS.nG RS.got; rw [if_pos rfl]; dsimp only; rw [e]
  · unfold RS.nF RS.face; rw [if_pos rfl]; dsimp only; rw [e]
theorem l_ok {b : ByteArray} {p q n : Nat} (h : Rds b p (bl (nf n)) q) (hn : n ≤ 32) : RS.lG ⟨b, p, 0⟩ 32 = n ∧ RS.lF ⟨b, p, 0⟩ 32 = ⟨b, q, 0⟩ := by
  have e : rdMost b p (max 0 32 : Int) 23 = .ok (n, q) := rdMost_iff.2 ⟨h, by rw [show (max 0 32 : Int) = 32 from rfl]; omega, by omega⟩
  constructor
  · unfold RS.lG RS.got; rw [if_pos rfl]; dsimp only; rw [e]
  · unfold RS.lF RS.face; rw [if_pos rfl]; dsimp only; rw [e]
theorem t_ok {b : ByteArray} (hb : b.size ≤ 140737488355328) {p q : Nat} {t : ByteArray} {m : Int} (hm : 0 ≤ m) (h : Rds b p (bl (tf t)) q) (ht : (t.size : Int) ≤ m) : RS.tG ⟨b, p, 0⟩ m = t ∧ RS.tF ⟨b, p, 0⟩ m = ⟨b, q, 0⟩ := by
  have e : rdText b p m = .ok (t, q) := (rdText_iff hm (by omega)).2 ⟨h, ht⟩
  constructor
  · unfold RS.tG RS.got; rw [if_pos rfl]; dsimp only; rw [e]
  · unfold RS.tF RS.face; rw [if_pos rfl]; dsimp only; rw [e]
theorem b_ok {b : ByteArray} {p q n : Nat} (h : Rds b p (bl (bf n)) q) (hn : n < 18446744073709551616) : RS.bG ⟨b, p, 0⟩ = n ∧ RS.bF ⟨b, p, 0⟩ = ⟨b, q, 0⟩ := by
  have e : rdBits b p = .ok (n, q) := rdBits_iff.2 ⟨h, hn⟩
  constructor
  · unfold RS.bG RS.got; rw [if_pos rfl]; dsimp only; rw [e]
  · unfold RS.bF RS.face; rw [if_pos rfl]; dsimp only; rw [e]
theorem tx_ok {b : ByteArray} (hb : b.size ≤ 140737488355328) : ∀ (l : List ByteArray) {p q : Nat}, (∀ t, t ∈ l → t.size ≤ 32) → Rds b p (l.flatMap fun t => bl (tf t)) q → ∀ k, k ≤ l.length → ∃ r, tx ⟨b, p, 0⟩ k = l.take k ∧ txF ⟨b, p, 0⟩ k = ⟨b, r, 0⟩ ∧ Rds b r ((l.drop k).flatMap fun t => bl (tf t)) q := by
  intro l p q hl h k
  induction k with
  | zero => exact fun _ => ⟨p, rfl, rfl, h⟩
  | succ k ih =>
    intro hk
    obtain ⟨r, h1, h2, h3⟩ := ih (by omega)
    rw [List.drop_eq_getElem_cons (show k < l.length by omega), List.flatMap_cons] at h3
    obtain ⟨r2, h4, h5⟩ := Rds.append.1 h3
    have h6 := t_ok hb (m := 32) (by decide) h4 (by have := hl _ (List.getElem_mem (show k < l.length by omega)); omega)
    refine ⟨r2, ?_, ?_, h5⟩
    · rw [tx, h1, h2, h6.1, List.take_add_one, List.getElem?_eq_getElem (show k < l.length by omega)]; rfl
    · rw [txF, h2, h6.2]
theorem row_ok {b : ByteArray} {p q : Nat} {x : QR} (h : Rds b p ((rowN x).flatMap (fun n => bl (nf n.toNat)) ++ bl (bf x.bits.toNat)) q)
    (h1 : 0 ≤ x.st ∧ x.st ≤ 4) (h2 : 0 ≤ x.at_ ∧ x.at_ ≤ 8) (h3 : 0 ≤ x.ba ∧ x.ba ≤ 1099511627776) (h4 : 0 ≤ x.node ∧ x.node ≤ 9) (h5 : 0 ≤ x.life ∧ x.life ≤ 1099511627776) (h6 : 0 ≤ x.code ∧ x.code ≤ 7) (h7 : 0 ≤ x.bits ∧ x.bits < 18446744073709551616) :
    RS.row ⟨b, p, 0⟩ x.job = x ∧ RS.rowF ⟨b, p, 0⟩ = ⟨b, q, 0⟩ := by
  unfold rowN at h
  simp only [List.flatMap_cons, List.flatMap_nil, List.append_nil, List.append_assoc] at h
  obtain ⟨p1, r1, h⟩ := Rds.append.1 h
  obtain ⟨p2, r2, h⟩ := Rds.append.1 h
  obtain ⟨p3, r3, h⟩ := Rds.append.1 h
  obtain ⟨p4, r4, h⟩ := Rds.append.1 h
  obtain ⟨p5, r5, h⟩ := Rds.append.1 h
  obtain ⟨p6, r6, h⟩ := Rds.append.1 h
  have e1 := n_ok (m := 4) r1 (by omega) (by decide)
  have e2 := n_ok (m := 8) r2 (by omega) (by decide)
  have e3 := n_ok (m := 1099511627776) r3 (by omega) (by decide)
  have e4 := n_ok (m := 9) r4 (by omega) (by decide)
  have e5 := n_ok (m := 1099511627776) r5 (by omega) (by decide)
  have e6 := n_ok (m := 7) r6 (by omega) (by decide)
  have e7 := b_ok h (by omega)
  unfold RS.row RS.rowF
  rw [e1.2, e2.2, e3.2, e4.2, e5.2, e6.2]
  refine ⟨?_, e7.2⟩
  rw [e1.1, e2.1, e3.1, e4.1, e5.1, e6.1, e7.1]
  cases x
  simp only at h1 h2 h3 h4 h5 h6 h7
  simp only [QR.mk.injEq]
  refine ⟨trivial, ?_, ?_, ?_, ?_, ?_, ?_, ?_⟩ <;> omega
theorem jb_ok {v : SV} (hv : v.wf) {b : ByteArray} (hb : b.size ≤ 140737488355328) {p0 : Nat} : ∀ (k : Nat) {q : Nat}, k ≤ v.q.rows.length → Rds b p0 ((List.range k).flatMap v.job) q →
    jb v.res ⟨b, p0, 0⟩ k = some ⟨⟨b, q, 0⟩, v.q.rows.take k, v.progs.take k, v.logs.take k⟩ := by
  intro k
  induction k with
  | zero =>
    intro q _ h
    obtain ⟨rfl, _⟩ := Rds.nil.1 h
    rfl
  | succ k ih =>
    intro q hk h
    rw [List.range_succ, List.flatMap_append] at h
    obtain ⟨r, ha, hc⟩ := Rds.append.1 h
    simp only [List.flatMap_cons, List.flatMap_nil, List.append_nil] at hc
    unfold SV.job jobB at hc
    have hk1 : k < v.q.rows.length := by omega
    have hkp : k < v.progs.length := by rw [hv.np]; exact hk1
    have hkl : k < v.logs.length := by rw [hv.nl]; exact hk1
    have hm := hv.q.ok k hk1
    obtain ⟨m1, m2, m3, m4, m5, _, _, _⟩ := may_facts hm
    have hf := row_facts hv hk1
    obtain ⟨s1, s2, s3, s4⟩ := row_small hv hk1
    have hbd := hv.bd _ (qL.mem_nth hk1)
    have hbt := hv.bt _ (qL.mem_nth hk1)
    have hlf := hf.1 (qL.nth v.q.rows k).life (by simp [rowN])
    have hpn : sL.nth v.progs k = v.progs[k] := by have := sL.nth_get hkp; rw [List.getElem?_eq_getElem hkp] at this; exact (Option.some.inj this).symm
    have hpr := hv.pr _ (List.getElem_mem hkp)
    have hln : v.logs.getD k [] = v.logs[k] := by rw [List.getD_eq_getElem?_getD, List.getElem?_eq_getElem hkl]; rfl
    have hlg := hv.lg _ (List.getElem_mem hkl)
    have hat := hv.at0 k hk1
    have hqn : v.q.rows[k]? = some (qL.nth v.q.rows k) := qL.nth_get hk1
    rw [hln] at hc hat
    rw [hpn] at hc
    have hpk : v.progs[k]? = some v.progs[k] := List.getElem?_eq_getElem hkp
    have hlk : v.logs[k]? = some v.logs[k] := List.getElem?_eq_getElem hkl
    generalize v.progs[k] = pr at hc hpr hpk
    generalize v.logs[k] = lg at hc hlg hat hlk
    generalize qL.nth v.q.rows k = x at *
    obtain ⟨r1, g1, g⟩ := Rds.append.1 hc
    obtain ⟨r4, g, g5⟩ := Rds.append.1 g
    rw [bl_app, bl_app] at g
    obtain ⟨r3, g, g4⟩ := Rds.append.1 g
    obtain ⟨r2, g2, g3⟩ := Rds.append.1 g
    have hrow := row_ok (Rds.append.2 ⟨r1, g1, g2⟩) s1 s2 ⟨m4, m5⟩ s3 hlf s4 hbt
    have ht := t_ok hb (m := 1024) (by decide) g3 (by omega)
    have hl := l_ok g4 hlg.1
    obtain ⟨r5, x1, x2, x3⟩ := tx_ok hb lg hlg.2 g5 lg.length (Nat.le_refl _)
    rw [List.drop_length, List.flatMap_nil] at x3
    obtain ⟨rfl, _⟩ := Rds.nil.1 x3
    rw [List.take_length] at x1
    rw [m1] at hrow
    rw [jb, ih (by omega) ha]
    show JS.next ⟨⟨b, r, 0⟩, v.q.rows.take k, v.progs.take k, v.logs.take k⟩ v.res k = _
    unfold JS.next
    dsimp only
    rw [hrow.1, hrow.2, ht.1, ht.2, hl.1, hl.2, x1, x2]
    rw [if_neg, List.take_add_one, List.take_add_one, List.take_add_one, hqn, hpk, hlk]
    · rfl
    · rintro (h | h | ⟨h1, h2⟩)
      · omega
      · omega
      · have := hat h1
        rw [this] at h2
        exact absurd h2 (by decide)
/-- Load of a state's bytes is that state. -/
theorem loadS_bytes {v : SV} (hv : v.wf) : loadS v.q.att ⟨v.bytes.toArray⟩ = some v := by
  have hsz : (⟨v.bytes.toArray⟩ : ByteArray).size = v.bytes.length := by simp [ByteArray.size]
  have hle := bytes_le hv
  have hb : (⟨v.bytes.toArray⟩ : ByteArray).size ≤ 140737488355328 := by omega
  have h0 : Rds ⟨v.bytes.toArray⟩ 0 v.bytes v.bytes.length := ⟨by rw [bl_mk]; simp, by simp, by omega⟩
  generalize hbb : (⟨v.bytes.toArray⟩ : ByteArray) = b at *
  unfold SV.bytes SV.head at h0
  rw [bl_app] at h0
  obtain ⟨p2, h1, h2⟩ := Rds.append.1 h0
  obtain ⟨p1, h3, h4⟩ := Rds.append.1 h1
  have hr := hv.res
  have hn8 := hv.q.n
  have hnp := hv.np
  have e1 := n_ok (m := 1099511627776) h3 (by omega) (by decide)
  have e2 := n_ok (m := 8) h4 (by omega) (by decide)
  have ej := jb_ok hv hb v.q.rows.length (Nat.le_refl _) h2
  unfold loadS
  dsimp only
  rw [e1.1, e1.2, e2.1, e2.2, show ((v.res.toNat : Nat) : Int) = v.res by omega, hnp, ej]
  rw [Option.bind_some]
  dsimp only
  rw [if_neg, List.take_length, List.take_of_length_le (by omega), List.take_of_length_le (by have := hv.nl; omega), if_pos hv.q]
  intro h
  apply h
  unfold RS.end_
  rw [if_neg (by intro h5; have := h5.2; simp only at this; rw [hsz] at this; unfold SV.bytes SV.head at this; rw [bl_app] at this; omega)]
  rfl
end Go.Proofs.Ytmgnekjhlfghaaa

/-
  state: what shows the same is the same; its attempts stay: plain.
-/
namespace Go.Proofs.Ytmgnekjhlfghaaa
open Go.RowKit
set_option linter.unusedVariables false
set_option linter.unusedSimpArgs false

theorem does_att {v u : SV} {c : CV} (h : v.does c = some u) : u.q.att = v.q.att := by
  unfold SV.does at h
  split at h
  · unfold SV.reserve at h; split at h; (cases h); (cases h; rfl)
  · split at h
    · unfold SV.submit at h
      split at h
      · cases h
      · split at h
        · cases h
        · cases h; show v.q.submit.2.2.att = _; unfold QS.submit; split <;> rfl
    · split at h
      · unfold SV.grant at h
        split at h
        · cases h
        · split at h
          · cases h
          · cases h; show (v.q.grant _ _ _ _).2.att = _; unfold QS.grant; (repeat' split) <;> rfl
      · split at h
        · unfold SV.log at h
          split at h
          · cases h
          · split at h
            · cases h
            · split at h
              · cases h
              · cases h; rfl
        · split at h
          · unfold SV.expire at h
            split at h
            · cases h
            · cases h; show (v.q.expire _).2.2.att = _; unfold QS.expire; split <;> rfl
          · unfold SV.settle at h
            split at h
            · cases h
            · cases h; show (v.q.settle _ _ _).2.2.att = _; unfold QS.settle; (repeat' split) <;> rfl
theorem go_att : ∀ (l : List CV) {v u : SV} {i : Nat}, v.go l i = .ok u → u.q.att = v.q.att
  | [], v, u, i, h => by cases h; rfl
  | c :: l, v, u, i, h => by
    unfold SV.go at h
    split at h
    · cases h
    · next v' h1 =>
      rw [go_att l h]
      unfold SV.one at h1
      split at h1
      · exact does_att h1
      · cases h1
theorem put_att (v : SV) (l : List CV) : (v.put l).q.att = v.q.att := by
  unfold SV.put
  split
  · next u h => exact go_att l h
  · rfl
/-- The bytes as one text. -/
def SV.text (v : SV) : ByteArray := ⟨v.bytes.toArray⟩
theorem text_inj {v u : SV} (hv : v.wf) (hu : u.wf) (ha : v.q.att = u.q.att) (h : v.text = u.text) : v = u := by
  have h1 := loadS_bytes hv
  have h2 := loadS_bytes hu
  rw [ha, show (⟨v.bytes.toArray⟩ : ByteArray) = ⟨u.bytes.toArray⟩ from h, h2] at h1
  exact (Option.some.inj h1).symm
theorem places_inj {v u : SV} (hv : v.wf) (hu : u.wf) (ha : v.q.att = u.q.att) (hr : v.res = u.res) (h : v.places = u.places) : v = u := by
  have hlen : v.q.rows.length = u.q.rows.length := by have := congrArg List.length h; simpa [SV.places] using this
  have hk : ∀ k, k < v.q.rows.length → v.place k = u.place k := fun k hk => by
    have h1 := congrArg (fun m => m[k]?) h
    simpa [SV.places, List.getElem?_range hk, List.getElem?_range (show k < u.q.rows.length by omega)] using h1
  have e1 : v.q.rows = u.q.rows := qL.ext hlen (fun k h => congrArg PV.r (hk k h))
  have e2 : v.progs = u.progs := sL.ext (by rw [hv.np, hu.np, hlen]) (fun k h => congrArg PV.prog (hk k (by rw [← hv.np]; exact h)))
  have e3 : v.logs = u.logs := by
    refine List.ext_getElem? fun k => ?_
    by_cases h1 : k < v.q.rows.length
    · have h2 := congrArg PV.log (hk k h1)
      unfold SV.place at h2
      simp only at h2
      have h3 : k < v.logs.length := by rw [hv.nl]; exact h1
      have h4 : k < u.logs.length := by rw [hu.nl]; omega
      rw [List.getD_eq_getElem?_getD, List.getD_eq_getElem?_getD, List.getElem?_eq_getElem h3, List.getElem?_eq_getElem h4] at h2
      rw [List.getElem?_eq_getElem h3, List.getElem?_eq_getElem h4]
      exact congrArg some h2
    · rw [List.getElem?_eq_none (by rw [hv.nl]; omega), List.getElem?_eq_none (by rw [hu.nl]; omega)]
  obtain ⟨⟨a1, r1⟩, s1, p1, l1⟩ := v
  obtain ⟨⟨a2, r2⟩, s2, p2, l2⟩ := u
  simp only at ha hr e1 e2 e3
  subst ha hr e1 e2 e3
  rfl
theorem text_small {v : SV} (hv : v.wf) : v.text.size ≤ 140737488355328 := by
  have h1 := bytes_le hv
  have h2 : v.text.size = v.bytes.length := by simp [SV.text, ByteArray.size]
  omega
theorem loadS_text {v : SV} (hv : v.wf) {n : Int} (hn : v.q.att = n) : loadS n v.text = some v := by rw [← hn]; exact loadS_bytes hv
theorem ret_ints (v : SV) (l : List CV) : ∃ r1 r2 : Int, v.ret l = .tuple #[.int .i64 r1, .int .i64 r2] := by
  unfold SV.ret
  split
  · exact ⟨_, _, rfl⟩
  · exact ⟨_, _, rfl⟩
section
variable {W : Base} {w : World} {R : List Thing}
theorem st_applyR (H : St W w R) (i : Nat) {S : Nat} {v : SV} (hi : R[i]? = some (SkT S v)) (hv : v.wf) (a : Option Addr) (n cap : Nat) (l : List (CV × TS)) (hC : ∀ (wx : World) (T : List Thing), St W wx (R ++ T) → ChIn wx a n cap l) (u : SV) (hu : v.put (l.map (·.1)) = u) {r : Value} (hr : v.ret (l.map (·.1)) = r) :
    Calls Try.prog 12 #[.pointer (some ⟨S, 0, none⟩), .slice a n cap] w fun e w' => e = .returned r ∧ St W w' (R.set i (SkT S u)) := by
  refine (st_sapply H i hi hv a n cap l hC).mono ?_
  rintro e w' ⟨rfl, H'⟩
  rw [hu] at H'
  exact ⟨by rw [← hr], H'⟩
theorem st_text (H : St W w R) (i : Nat) {S : Nat} {v : SV} (hi : R[i]? = some (SkT S v)) (hv : v.wf) {t : ByteArray} (ht : v.text = t) :
    Calls Try.prog 11 #[.pointer (some ⟨S, 0, none⟩)] w fun e w' => e = .returned (.string t) ∧ St W w' R := by
  subst ht
  exact st_sbytes H i hi hv
end
end Go.Proofs.Ytmgnekjhlfghaaa
