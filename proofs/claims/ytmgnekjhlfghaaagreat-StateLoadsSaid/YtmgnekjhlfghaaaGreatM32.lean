/-
  Merged, in build order: Ld3.
-/
import Derived.Deep.CutRange
import Derived.Deep.CutBlock
import Derived.Test.YtmgnekjhlfghaaaGreatM30
import Derived.Test.YtmgnekjhlfghaaaGreatM9
/-
  state: Load: the walk.
-/
namespace Go.Proofs.YtmgnekjhlfghaaaGreat
open Go.RowKit QLd
set_option linter.unusedVariables false
set_option linter.unusedSimpArgs false

section
variable {W : Base} {w : World} {R : List Thing}
/-- What a Load comes to. -/
def LoadTo (W : Base) (R : List Thing) (o : Option SV) (e : Ending) (w' : World) : Prop :=
  match o with
  | some u => ∃ S, e = .returned (.tuple #[.pointer (some ⟨S, 0, none⟩), .int .i64 0]) ∧ St W w' (R ++ [SkT S u])
  | none => e = .returned (.tuple #[.pointer none, .int .i64 171]) ∧ St W w' R
theorem LoadTo.no {o : Option SV} {w' : World} (h : o = none) (H : St W w' R) : LoadTo W R o (.returned (.tuple #[.pointer none, .int .i64 171])) w' := by subst h; exact ⟨rfl, H⟩
theorem LoadTo.yes {o : Option SV} {u : SV} {S : Nat} {w' : World} (h : o = some u) (H : St W w' (R ++ [SkT S u])) : LoadTo W R o (.returned (.tuple #[.pointer (some ⟨S, 0, none⟩), .int .i64 0])) w' := by subst h; exact ⟨S, rfl, H⟩
/-- Load's things. -/
def ldR (v : Value) (rows : List QR) (S Q : Nat) (n res : Int) (pv lv : Value) (ps : List ByteArray) (ll : List (List ByteArray × TS)) : List Thing :=
  RowT 51 8 v rows.length (qL.cells rows) :: skL S Q ⟨n, []⟩ res pv ps lv ll
theorem perm_load {α : Type} (R M : List α) (a b s q p l q2 : α) : ((R ++ (a :: b :: s :: q :: p :: l :: M)) ++ [q2]).Perm ((R ++ (s :: q2 :: p :: l :: M)) ++ [a, b, q]) := by
  classical
  rw [List.perm_iff_count]
  intro x
  simp only [List.count_append, List.count_cons, List.count_nil]
  omega
theorem perm_end {α : Type} (M : List α) (x y : α) : ((M ++ [x]) ++ [y]).Perm ((M ++ [y]) ++ [x]) := by
  rw [List.append_assoc, List.append_assoc]
  exact List.Perm.append_left _ (List.Perm.swap _ _ _)
theorem ba_nil {b : ByteArray} (h : b.size = 0) : b = ⟨#[]⟩ := by
  obtain ⟨⟨l⟩⟩ := b
  have : l = [] := List.length_eq_zero_iff.1 h
  subst this; rfl
theorem ba_some {b : ByteArray} (h : ¬ b.size = 0) : b.toList.isEmpty = false := by
  cases hb : b.toList with
  | nil =>
    rw [ByteArray.toList_eq] at hb
    exact absurd (show b.data.size = 0 from by rw [← Array.length_toList, hb]; rfl) h
  | cons _ _ => rfl
theorem St.blkInL (H : St W w R) {b : Nat} {o : Obj} (hm : BlkT b o ∈ R) : w.heap[b]? = some o := by
  obtain ⟨i, hi⟩ := List.mem_iff_getElem?.1 hm
  exact H.blk i hi
theorem St.rowIn (H : St W w R) {e : TypeId} {size n : Nat} {v : Value} {xs : List Value} (hm : RowT e size v n xs ∈ R) : ∃ a c, v = .slice a n c := by
  obtain ⟨i, hi⟩ := List.mem_iff_getElem?.1 hm
  obtain ⟨a, c, h, _⟩ := H.rowShape i hi
  exact ⟨a, c, h⟩
theorem St.endRow {A B : List Thing} {e : TypeId} {size n : Nat} {v : Value} {xs : List Value} (H : St W w (A ++ (B ++ [RowT e size v n xs]))) :
    w.ownsRow 0 e size v n xs ∧ ∀ (v' : Value) (w' : World) (n' : Nat) (xs' : List Value), w'.ownsRow 0 e size v' n' xs' → Fr v.ownBlock.toList w w' → (∀ x, x ∈ v'.ownBlock.toList → x ∈ v.ownBlock.toList ∨ w.heap.size ≤ x) → St W w' (A ++ (B ++ [RowT e size v' n' xs'])) := by
  rw [← List.append_assoc] at H
  obtain ⟨h1, h2⟩ := H.append (A ++ B).length (e := e) (size := size) (n := n) (v := v) (xs := xs) (by simp)
  refine ⟨h1, fun v' w' n' xs' a b c => ?_⟩
  have h := h2 v' w' n' xs' a b c
  rw [List.set_append_right _ _ (Nat.le_refl _), Nat.sub_self, List.append_assoc] at h
  exact h
theorem ld_text {T : List Thing} {r : Nat} {s : RS} (H : St W w (R ++ (RdT r s :: T))) (hw : s.wf) {m : Int} (hm : m ≤ 9223372036854775807) :
    Calls Tryz.prog 52 #[.pointer (some ⟨r, 0, none⟩), .int .i64 m] w fun e w' => e = .returned (.string (s.tG m)) ∧ St W w' (R ++ (RdT r (s.tF m) :: T)) := by
  have h := st_Text H (R.length + 0) (r := r) (s := s) (by rw [get_behind]; rfl) hw hm
  rw [List.set_append_right _ _ (by omega), Nat.add_sub_cancel_left] at h
  exact h
theorem ld_list {T : List Thing} {r : Nat} {s : RS} (H : St W w (R ++ (RdT r s :: T))) (hw : s.wf) {m : Int} (hm : m ≤ 9223372036854775807) :
    Calls Tryz.prog 53 #[.pointer (some ⟨r, 0, none⟩), .int .i64 m] w fun e w' => e = .returned (.int .i64 (s.lG m : Nat)) ∧ St W w' (R ++ (RdT r (s.lF m) :: T)) := by
  have h := st_List H (R.length + 0) (r := r) (s := s) (by rw [get_behind]; rfl) hw hm
  rw [List.set_append_right _ _ (by omega), Nat.add_sub_cancel_left] at h
  exact h
theorem ld_row {T : List Thing} {r : Nat} {s : RS} (H : St W w (R ++ (RdT r s :: T))) (hw : s.wf) (job : Int) :
    Calls Tryz.prog 51 #[.pointer (some ⟨r, 0, none⟩), .int .i64 job] w fun e w' => e = .returned (.agg (QR.f (s.row job)).toArray) ∧ St W w' (R ++ (RdT r s.rowF :: T)) := by
  have h := st_srow H (R.length + 0) (r := r) (s := s) (by rw [get_behind]; rfl) hw job
  rw [List.set_append_right _ _ (by omega), Nat.add_sub_cancel_left] at h
  exact h
theorem St.ld0 {S r : Nat} {n : Int} {s : RS} (H : St W w (R ++ [SkT S (SV.new n), RdT r s])) : ∃ (Q : Nat) (pv lv : Value), St W w (R ++ (RdT r s :: ldR (.slice none 0 0) [] S Q n 0 pv lv [] [])) := by
  obtain ⟨Q, pv, lv, ll, hll, H1⟩ := H.sk R.length (S := S) (v := SV.new n) (by simp)
  have h0 : ll = [] := by simpa [SV.new] using hll
  subst h0
  have H2 := H1.new (A := Row1 51 8 (.slice none 0 0) 0 (qL.cells [])) (F := []) (Fr.refl _ _) inferInstance ⟨rfl, World.ownsRow_nil _ _ _ _⟩ (by simp)
  refine ⟨Q, pv, lv, H2.sub (B := [NilT]) ?_⟩
  have e : (R ++ [SkT S (SV.new n), RdT r s]).set R.length NilT = R ++ [NilT, RdT r s] := by simp
  rw [e, List.append_assoc, List.append_assoc, List.append_assoc]
  refine List.Perm.append_left _ ?_
  show (NilT :: RdT r s :: (skL S Q ⟨n, []⟩ 0 pv [] lv [] ++ [RowT 51 8 (.slice none 0 0) 0 (qL.cells [])])).Perm (RdT r s :: RowT 51 8 (.slice none 0 0) 0 (qL.cells []) :: (skL S Q ⟨n, []⟩ 0 pv [] lv [] ++ [NilT]))
  refine (List.Perm.swap _ _ _).trans (List.Perm.cons _ ?_)
  generalize skL S Q ⟨n, []⟩ 0 pv [] lv [] = K
  exact (List.Perm.cons _ (List.perm_append_singleton _ _)).trans ((List.Perm.swap _ _ _).trans (List.Perm.cons _ (List.perm_append_singleton _ _).symm))

set_option maxHeartbeats 4000000 in
set_option maxRecDepth 100000 in
theorem st_sload (H : St W w R) (n : Int) (hn1 : 1 ≤ n) (hn8 : n ≤ 8) (b : ByteArray) (hb : b.size ≤ 140737488355328) :
    Calls Tryz.prog 21 #[.int .i64 n, .string b] w (LoadTo W R (loadS n b)) := by
  have hw0 : RS.wf ⟨b, 0, 0⟩ := ⟨Nat.zero_le _, hb⟩
  obtain ⟨L0, hL0⟩ : ∃ L0, loadS n b = L0 := ⟨_, rfl⟩
  rw [hL0]
  obtain ⟨rs, hrs⟩ : ∃ rs : Nat, (⟨b, 0, 0⟩ : RS).nG 1099511627776 = rs := ⟨_, rfl⟩
  have hrs1 : rs ≤ 1099511627776 := by rw [← hrs]; exact RS.nG_le _ _
  obtain ⟨s1, hs1⟩ : ∃ s1, (⟨b, 0, 0⟩ : RS).nF 1099511627776 = s1 := ⟨_, rfl⟩
  have hw1 : s1.wf := by rw [← hs1]; exact RS.nF_wf hw0 _
  obtain ⟨m, hm⟩ : ∃ m : Nat, s1.nG 8 = m := ⟨_, rfl⟩
  have hm1 : m ≤ 8 := by rw [← hm]; exact RS.nG_le _ _
  obtain ⟨s2, hs2⟩ : ∃ s2, s1.nF 8 = s2 := ⟨_, rfl⟩
  have hw2 : s2.wf := by rw [← hs2]; exact RS.nF_wf hw1 _
  unfold loadS at hL0
  simp only [hrs, hs1, hm, hs2] at hL0
  have HL0 := hid hL0
  have HW := hid (And.intro hw0 (And.intro hw1 hw2))
  have HE := hid (And.intro hrs (And.intro hs1 (And.intro hm hs2)))
  have H0 := hid (st_snew H n hn1 hn8)
  have HN := hid (And.intro hn1 hn8)
  clear H hL0 hw0 hw1 hw2 hrs hs1 hm hs2
  go_enter Tryz.func21, Tryz.ntmps21
  go_wp2_with fail
  refine H0.out.mono ?_
  rintro e w1 ⟨S, rfl, H⟩
  have HA := hid (st_read0 H b)
  clear H H0
  go_wp2_with fail
  refine HA.out.mono ?_
  rintro e w2 ⟨r, rfl, H⟩
  have HB := st_Num H (R.length + 1) (r := r) (s := ⟨b, 0, 0⟩) (by rw [List.append_assoc, get_behind]; rfl) HW.out.1 (most := 1099511627776) (by decide)
  rw [show (⟨b, 0, 0⟩ : RS).got 0 (rdMost (⟨b, 0, 0⟩ : RS).b (⟨b, 0, 0⟩ : RS).at_ (1099511627776 : Nat) 21) = rs from HE.out.1, show (⟨b, 0, 0⟩ : RS).face (rdMost (⟨b, 0, 0⟩ : RS).b (⟨b, 0, 0⟩ : RS).at_ (1099511627776 : Nat) 21) = s1 from HE.out.2.1] at HB
  have HB := hid HB
  clear H HA
  go_wp2_with fail
  refine HB.out.mono ?_
  rintro e w3 ⟨rfl, H⟩
  have H : St W w3 (R ++ [SkT S (SV.new n), RdT r s1]) := by simpa using H
  obtain ⟨Q, pv, lv, H⟩ := H.ld0
  have bS := H.blk (R.length + 2) (by rw [get_behind]; rfl)
  have c1 := cell_blk (i := 1) bS rfl
  have f1 := free_blk (i := 1) bS
  have hlS := lt_of_block bS
  have H4 : St W (w3.setCell ⟨S, 1, none⟩ (.int .i64 rs)) (R ++ (RdT r s1 :: ldR (.slice none 0 0) [] S Q n rs pv lv [] [])) := by
    have h := H.setBlk (R.length + 2) (by rw [get_behind]; rfl) 1 (.int .i64 rs)
    rw [List.set_append_right _ _ (by omega), Nat.add_sub_cancel_left] at h
    exact h
  have HC := st_Num H4 (R.length + 0) (r := r) (s := s1) (by rw [get_behind]; rfl) HW.out.2.1 (most := 8) (by decide)
  rw [show s1.got 0 (rdMost s1.b s1.at_ (8 : Nat) 21) = m from HE.out.2.2.1, show s1.face (rdMost s1.b s1.at_ (8 : Nat) 21) = s2 from HE.out.2.2.2, List.set_append_right _ _ (by omega), Nat.add_sub_cancel_left] at HC
  have HC := hid HC
  have hw1 : IntKind.i64.wrap (rs : Int) = rs := IntWalk.i64_in _ (by omega)
  clear H H4 bS HB
  go_wp2_with fail
  refine HC.out.mono ?_
  rintro e w4 ⟨rfl, H⟩
  have hwm : IntKind.i64.wrap (m : Int) = m := IntWalk.i64_in _ (by omega)
  have H : St W w4 (R ++ (RdT r s2 :: ldR (.slice none 0 0) [] S Q n rs pv lv [] [])) := H
  have H := hid H
  have HHL := hid HL0.out
  have HM := hid (And.intro hm1 hrs1)
  clear hw1 c1 f1 hlS HC hrs1 hm1 HL0
  go_wp2_with fail
  go_loopw [36, 9] (fun iv rv wr => ∃ (k : Nat) (j : JS) (pv lv : Value) (ll : List (List ByteArray × TS)), k ≤ m ∧ iv = .int .i64 k ∧ Hid (jb rs s2 k = some j) ∧ Hid (j.ok k) ∧ ll.map (·.1) = j.ls ∧ St W wr (R ++ (RdT r j.s :: ldR rv j.rows S Q n rs pv lv j.ps ll))) (fun iv _ _ => m - (intOf iv).toNat)
  case atStart => exact ⟨0, ⟨s2, [], [], []⟩, pv, lv, [], Nat.zero_le _, rfl, hid rfl, hid ⟨HW.out.2.2, rfl, rfl, rfl⟩, rfl, H.out⟩
  case round =>
    obtain ⟨k, j, pv, lv, ll, hk, rfl, hj, hok, hll, H⟩ := hrel
    by_cases hkl : k < m
    · have hok1 := hok.out.wf
      have hk8 : k < 8 := by have := HM.out.1; omega
      have hwk : IntKind.i64.wrap ((k : Int) + 1) = (k : Int) + 1 := IntWalk.i64_in _ (by omega)
      have HR := hid (ld_row H hok1 ((k : Int) + 1))
      have hws1 := RS.rowF_wf hok1
      obtain ⟨x, hx⟩ : ∃ x, j.s.row ((k : Int) + 1) = x := ⟨_, rfl⟩
      obtain ⟨t1, ht1⟩ : ∃ t1, j.s.rowF = t1 := ⟨_, rfl⟩
      rw [hx, ht1] at HR
      rw [ht1] at hws1
      have HX := hid (And.intro hx ht1)
      have HKK := hid (And.intro hkl hk8)
      have HLL := hid hll
      clear H hx ht1 hok1 hll
      go_wp2_with fail
      refine HR.out.mono ?_
      rintro e w5 ⟨rfl, H⟩
      have H5 := H.alloc (.cells #[.int .i64 x.job, .int .i64 x.st, .int .i64 x.at_, .int .i64 x.ba, .int .i64 x.node, .int .i64 x.life, .int .i64 x.code, .int .u64 x.bits] 51)
      rw [List.append_assoc] at H5
      have HT := hid (ld_text H5 hws1 (m := 1024) (by decide))
      clear H H5 HR
      unfold QR.f
      go_wp2_with fail
      refine HT.out.mono ?_
      rintro e w6 ⟨rfl, H⟩
      generalize w5.heap.size = xb at H ⊢
      have hws2 := RS.tF_wf hws1 1024
      obtain ⟨t2, ht2⟩ : ∃ t2, t1.tF 1024 = t2 := ⟨_, rfl⟩
      obtain ⟨pt, hpt⟩ : ∃ pt, t1.tG 1024 = pt := ⟨_, rfl⟩
      rw [ht2] at H hws2
      rw [hpt]
      have HLs := hid (ld_list H hws2 (m := 32) (by decide))
      have hws3 := RS.lF_wf hws2 32
      have hl32 := RS.lG_le t2 (m := 32) (by decide)
      obtain ⟨t3, ht3⟩ : ∃ t3, t2.lF 32 = t3 := ⟨_, rfl⟩
      obtain ⟨nl, hnl⟩ : ∃ nl, t2.lG 32 = nl := ⟨_, rfl⟩
      rw [ht3] at HLs hws3
      rw [hnl] at HLs hl32
      have HX2 := hid (And.intro ht2 (And.intro hpt (And.intro ht3 hnl)))
      have HW3 := hid hws3
      have HNL := hid hl32
      clear H HT ht2 hpt ht3 hnl hws1 hws2 hws3 hl32
      go_wp2_with fail
      refine HLs.out.mono ?_
      rintro e w7 ⟨rfl, H⟩
      have H8 := H.new (A := Row1 9 1 (.slice none 0 0) 0 (sL.cells [])) (F := []) (Fr.refl _ _) inferInstance ⟨rfl, World.ownsRow_nil _ _ _ _⟩ (by simp)
      obtain ⟨LX, hLX⟩ : ∃ LX, ldR u9 j.rows S Q n rs pv lv j.ps ll ++ [BlkT xb (.cells #[.int .i64 x.job, .int .i64 x.st, .int .i64 x.at_, .int .i64 x.ba, .int .i64 x.node, .int .i64 x.life, .int .i64 x.code, .int .u64 x.bits] 51)] = LX := ⟨_, rfl⟩
      have H8 : St W w7 (R ++ (RdT r t3 :: (LX ++ [RowT 9 1 (.slice none 0 0) 0 (sL.cells [])]))) := by
        rw [List.append_assoc] at H8
        rw [← hLX]
        exact H8
      have H8 := hid H8
      have HLX := hid hLX
      clear H HLs hLX
      go_wp2_with fail
      obtain ⟨wo, hwo⟩ : ∃ wo : World, wo = wr := ⟨_, rfl⟩
      subst hwo
      go_loopw [47, 13] (fun iv uv wr => ∃ q : Nat, q ≤ nl ∧ iv = .int .i64 q ∧ St W wr (R ++ (RdT r (txF t3 q) :: (LX ++ [RowT 9 1 uv q (sL.cells (tx t3 q))])))) (fun iv _ _ => nl - (intOf iv).toNat)
      case atStart => exact ⟨0, Nat.zero_le _, rfl, H8.out⟩
      case round =>
        obtain ⟨q, hq, rfl, H⟩ := hrel
        by_cases hql : q < nl
        · have HT2 := hid (ld_text H (txF_wf HW3.out q) (m := 32) (by decide))
          obtain ⟨i0, hi0, hz0, hz1, hz2⟩ := info_parts info_gs
          have HI := hid (And.intro hi0 (And.intro hz0 (And.intro hz1 hz2)))
          have hq32 : q < 32 := by have := HNL.out; omega
          obtain ⟨pq, hpq⟩ : ∃ pq, (txF t3 q).tG 32 = pq := ⟨_, rfl⟩
          have htx := hid (show sL.cells (tx t3 q) ++ [.string pq] = sL.cells (tx t3 (q + 1)) by rw [← hpq]; exact sL.snoc _ _)
          rw [hpq] at HT2
          clear H hi0 hz0 hz1 hz2 hpq H8
          go_wp2_with fail
          refine HT2.out.mono ?_
          rintro e w8 ⟨rfl, H⟩
          have HAP := hid ((H.alloc_ (.cells #[.string pq] 9)).endRow (A := R) (B := RdT r (txF t3 (q + 1)) :: LX))
          clear H HT2
          go_wp2_with (at_builtin; refine wpList_append_blk rfl (.tmp 49) (.tmp 52) 41 rfl 9 i0 (.string ByteArray.empty) 1 16 Tryz.underlying41 HI.out.1 HI.out.2.1 HI.out.2.2.1 HI.out.2.2.2 rfl (by decide) u13 q (sL.cells (tx t3 q)) rfl HAP.out.1 ⟨w8.heap.size, 0, none⟩ 1 1 [.string pq] rfl rfl (news_alloc w8 [.string pq] 9) (by intro u hu; simp at hu; subst hu; rfl) (by unfold maxLen; omega) (by omega) ?_)
          intro v' w9 ho hF hb hn
          have H9 := hid (HAP.out.2 v' w9 (q + 1) (sL.cells (tx t3 (q + 1))) (by rw [← htx.out]; exact ho) (by simpa using hF) (by simpa using hb))
          clear ho hF hb hn HAP
          go_wp2_with fail
          exact ⟨⟨q + 1, by omega, by go_num, H9.out⟩, by simp [intOf]; omega⟩
        · obtain rfl : q = nl := by omega
          have hnx : j.next rs k = if (rs : Int) < x.ba ∨ pt.size = 0 ∨ (x.at_ = 0 ∧ 0 < q) then none else some ⟨txF t3 q, j.rows ++ [x], j.ps ++ [pt], j.ls ++ [tx t3 q]⟩ := by
            unfold JS.next
            simp only [HX.out.1, HX.out.2, HX2.out.1, HX2.out.2.1, HX2.out.2.2.1, HX2.out.2.2.2]
          have hjn : jb rs s2 (k + 1) = j.next rs k := by rw [jb, hj.out]; rfl
          have bS := H.blkInL (b := S) (o := .cells #[.pointer (some ⟨Q, 0, none⟩), .int .i64 rs, pv, lv] 75) (by rw [← HLX.out]; simp [ldR, skL])
          have c1 := cell_blk (i := 1) bS rfl
          have hlS := lt_of_block bS
          have bX := H.blkInL (b := xb) (by rw [← HLX.out]; exact List.mem_append_right _ (List.mem_cons_of_mem _ (List.mem_append_left _ (List.mem_append_right _ (List.mem_singleton.2 rfl)))))
          have x2 := cell_blk (i := 2) bX rfl
          have x3 := cell_blk (i := 3) bX rfl
          have hlX := lt_of_block bX
          obtain ⟨la, lc, rfl⟩ := H.rowIn (e := 9) (size := 1) (v := u13) (n := q) (xs := sL.cells (tx t3 q)) (by simp)
          have H := hid H
          clear hql hq H8
          by_cases hbad : (rs : Int) < x.ba ∨ pt.size = 0 ∨ (x.at_ = 0 ∧ 0 < q)
          · rw [if_pos hbad] at hnx
            have hno : L0 = none := by
              have h := HHL.out
              rw [jb_none (hjn.trans hnx) m (by have := HKK.out.1; omega)] at h
              exact h.symm
            have hno := hid hno
            clear hnx hjn bS bX
            by_cases h1 : (rs : Int) < x.ba
            · have hd1 : decide ((rs : Int) < x.ba) = true := decide_eq_true h1
              clear h1 hbad
              go_wp2_with fail
              go_quiet (fail)
              go_wp2_with fail
              exact bodyPost_ret (v := .tuple #[.pointer none, .int .i64 171]) (by simp [results, Tryz.results21, go_sem]) rfl (LoadTo.no hno.out (H.out.drewN _).drop)
            · have hd1 : decide ((rs : Int) < x.ba) = false := decide_eq_false h1
              by_cases h2 : pt.size = 0
              · have hs : pt = ⟨#[]⟩ := ba_nil h2
                subst hs
                clear h1 hbad h2
                go_wp2_with fail
                go_quiet (fail)
                go_wp2_with fail
                exact bodyPost_ret (v := .tuple #[.pointer none, .int .i64 171]) (by simp [results, Tryz.results21, go_sem]) rfl (LoadTo.no hno.out (H.out.drewN _).drop)
              · have hs := ba_some h2
                have h3 : x.at_ = 0 ∧ 0 < q := by rcases hbad with h | h | h <;> first | exact h | exact absurd h h1 | exact absurd h h2
                have hd3 : (x.at_ == 0) = true := by rw [beq_iff_eq]; exact h3.1
                have hd4 : decide (0 < q) = true := decide_eq_true h3.2
                have h04 : 0 < q := h3.2
                clear h1 hbad h2 h3
                go_wp2_with fail
                go_quiet (fail)
                go_wp2_with fail
                exact bodyPost_ret (v := .tuple #[.pointer none, .int .i64 171]) (by simp [results, Tryz.results21, go_sem]) rfl (LoadTo.no hno.out (H.out.drewN _).drop)
          · rw [if_neg hbad] at hnx
            have HNX := hid (And.intro (hjn.trans hnx) hnx)
            have hd1 : decide ((rs : Int) < x.ba) = false := decide_eq_false (fun h => hbad (.inl h))
            have hs := ba_some (fun h => hbad (.inr (.inl h)))
            obtain ⟨fa, hfa⟩ : ∃ fa, (x.at_ == 0) = fa := ⟨_, rfl⟩
            have hd4 : fa = true → decide (0 < q) = false ∧ ¬ 0 < q := fun h => have h5 : ¬ 0 < q := (fun h4 => hbad (.inr (.inr ⟨by rw [h] at hfa; exact eq_of_beq hfa, h4⟩))); ⟨decide_eq_false h5, h5⟩
            clear hnx hjn hbad
            go_upto_region 19 with (fail)
            go_cut [11, 12, 13, 36, 75] from 36 to 100 (fun s11 s12 s13 s36 s75 wx => s75 = .bool false ∧ s36 = .int .i64 k ∧ s11 = .pointer (some ⟨xb, 0, none⟩) ∧ s12 = .string pt ∧ s13 = .slice la q lc ∧ ∃ nq, wx = wr.drewN nq)
            case first =>
              cases fa
              · clear hd4
                go_wp2_with fail
                go_quiet (fail)
                go_wp2_with fail
                go_meet
                exact ⟨rfl, rfl, rfl, rfl, rfl, _, rfl⟩
              · obtain ⟨hd4, hd5⟩ := hd4 rfl
                go_wp2_with fail
                go_quiet (fail)
                go_wp2_with fail
                go_meet
                exact ⟨rfl, rfl, rfl, rfl, rfl, _, rfl⟩
            case rest =>
              obtain ⟨rfl, rfl, rfl, rfl, rfl, nq, rfl⟩ := hcut
              have H10 := hid (H.out.drewN nq)
              have bX := H10.out.blkInL (b := xb) (by rw [← HLX.out]; exact List.mem_append_right _ (List.mem_cons_of_mem _ (List.mem_append_left _ (List.mem_append_right _ (List.mem_singleton.2 rfl)))))
              have x0 := cell_blk (i := 0) bX rfl
              have x1 := cell_blk (i := 1) bX rfl
              have x2 := cell_blk (i := 2) bX rfl
              have x3 := cell_blk (i := 3) bX rfl
              have x4 := cell_blk (i := 4) bX rfl
              have x5 := cell_blk (i := 5) bX rfl
              have x6 := cell_blk (i := 6) bX rfl
              have x7 := cell_blk (i := 7) bX rfl
              have hlX := lt_of_block bX
              have H11 : St W (wr.drewN nq) (R ++ (RdT r (txF t3 q) :: RowT 51 8 u9 j.rows.length (qL.cells j.rows) :: BlkT S (.cells #[.pointer (some ⟨Q, 0, none⟩), .int .i64 rs, pv, lv] 75) :: QkT Q ⟨n, []⟩ :: RowT 9 1 pv j.ps.length (sL.cells j.ps) :: RowT 41 1 lv ll.length (tL.cells ll) :: (ll.map (fun x => own (lg1 x)) ++ [RowT 9 1 (.slice la q lc) q (sL.cells (tx t3 q))]))) := by
                have h := H10.out
                rw [← HLX.out] at h
                refine h.sub (B := [BlkT xb (.cells #[.int .i64 x.job, .int .i64 x.st, .int .i64 x.at_, .int .i64 x.ba, .int .i64 x.node, .int .i64 x.life, .int .i64 x.code, .int .u64 x.bits] 51)]) ?_
                refine (List.Perm.append_left R ?_).trans (List.Perm.of_eq (List.append_assoc R _ _).symm)
                exact List.Perm.cons _ (List.Perm.cons _ (List.Perm.cons _ (List.Perm.cons _ (List.Perm.cons _ (List.Perm.cons _ (perm_end _ _ _))))))
              obtain ⟨TL, hTL⟩ : ∃ TL, ll.map (fun x => own (lg1 x)) ++ [RowT 9 1 (.slice la q lc) q (sL.cells (tx t3 q))] = TL := ⟨_, rfl⟩
              rw [hTL] at H11
              have HTL := hid hTL
              obtain ⟨i0, hi0, hz0, hz1, hz2⟩ := info_parts info_qrow
              have HI := hid (And.intro hi0 (And.intro hz0 (And.intro hz1 hz2)))
              have HA1 := (H11.alloc_ (.cells (QR.f x).toArray 51)).append (R.length + 1) (by rw [get_behind]; rfl)
              simp only [List.set_append_right _ _ (Nat.le_add_right R.length 1), Nat.add_sub_cancel_left] at HA1
              have HA1 := hid HA1
              have hjr : j.rows.length ≤ 8 := by have := hok.out.rows; have := HKK.out.2; omega
              have HJR := hid hjr
              clear bX bS c1 hlS hd1 hs hd4 hfa H H11 hTL hi0 hz0 hz1 hz2 hjr
              go_wp2_with (at_builtin; refine wpList_append_blk rfl (.tmp 76) (.tmp 78) 37 rfl 51 i0 (.agg #[.int .i64 0, .int .i64 0, .int .i64 0, .int .i64 0, .int .i64 0, .int .i64 0, .int .i64 0, .int .u64 0]) 8 64 Tryz.underlying37 HI.out.1 HI.out.2.1 HI.out.2.2.1 HI.out.2.2.2 rfl (by decide) u9 j.rows.length (qL.cells j.rows) rfl HA1.out.1 ⟨wr.heap.size, 0, none⟩ 1 1 (QR.f x) rfl rfl ?qb (qL.one x) (by have := HJR.out; unfold maxLen; omega) (by have := HJR.out; omega) ?_)
              case qb => exact news_alloc (wr.drewN nq) (QR.f x) _
              intro v1 w11 ho hF hb hn
              have H12 : St W w11 (R ++ (RdT r (txF t3 q) :: RowT 51 8 v1 (j.rows.length + 1) (qL.cells (j.rows ++ [x])) :: BlkT S (.cells #[.pointer (some ⟨Q, 0, none⟩), .int .i64 rs, pv, lv] 75) :: QkT Q ⟨n, []⟩ :: RowT 9 1 pv j.ps.length (sL.cells j.ps) :: RowT 41 1 lv ll.length (tL.cells ll) :: TL)) := HA1.out.2 v1 w11 (j.rows.length + 1) (qL.cells (j.rows ++ [x])) (by rw [← qL.snoc]; exact ho) hF (by simpa using hb)
              have HHo := hid ho
              clear ho hF hb hn HA1
              obtain ⟨pa, pc, rfl⟩ := H12.rowIn (e := 9) (size := 1) (v := pv) (n := j.ps.length) (xs := sL.cells j.ps) (by simp)
              obtain ⟨i1, hi0, hz0, hz1, hz2⟩ := info_parts info_gs
              have HI1 := hid (And.intro hi0 (And.intro hz0 (And.intro hz1 hz2)))
              have bS := H12.blk (R.length + 2) (by rw [get_behind]; rfl)
              have c2 := cell_blk (i := 2) bS rfl
              have f2 := free_blk (i := 2) bS
              have hlS := lt_of_block bS
              have HA2 := (H12.alloc_ (.cells #[.string pt] 9)).append (R.length + 4) (by rw [get_behind]; rfl)
              simp only [List.set_append_right _ _ (Nat.le_add_right R.length 4), Nat.add_sub_cancel_left] at HA2
              have HA2 := hid HA2
              have hjp : j.ps.length ≤ 8 := by have := hok.out.ps; have := HKK.out.2; omega
              have HJP := hid hjp
              clear H12 bS hi0 hz0 hz1 hz2 hjp x0 x1 x2 x3 x4 x5 x6 x7 hlX
              go_wp2_with (at_builtin; refine wpList_append_blk rfl (.tmp 84) (.tmp 86) 41 rfl 9 i1 (.string ByteArray.empty) 1 16 Tryz.underlying41 HI1.out.1 HI1.out.2.1 HI1.out.2.2.1 HI1.out.2.2.2 rfl (by decide) (.slice pa j.ps.length pc) j.ps.length (sL.cells j.ps) rfl HA2.out.1 ⟨w11.heap.size, 0, none⟩ 1 1 [.string pt] rfl rfl (news_alloc w11 [.string pt] 9) (by intro u hu; simp at hu; subst hu; rfl) (by have := HJP.out; unfold maxLen; omega) (by have := HJP.out; omega) ?_)
              intro v2 w12 ho hF hb hn
              have H13 : St W w12 (R ++ (RdT r (txF t3 q) :: RowT 51 8 v1 (j.rows.length + 1) (qL.cells (j.rows ++ [x])) :: BlkT S (.cells #[.pointer (some ⟨Q, 0, none⟩), .int .i64 rs, .slice pa j.ps.length pc, lv] 75) :: QkT Q ⟨n, []⟩ :: RowT 9 1 v2 (j.ps.length + 1) (sL.cells (j.ps ++ [pt])) :: RowT 41 1 lv ll.length (tL.cells ll) :: TL)) := HA2.out.2 v2 w12 (j.ps.length + 1) (sL.cells (j.ps ++ [pt])) (by rw [← sL.snoc]; exact ho) hF (by simpa using hb)
              obtain ⟨g2, cap2, rfl, _⟩ := ownsRow_shape ho (by omega)
              have bS := H13.blk (R.length + 2) (by rw [get_behind]; rfl)
              have c2' := cell_blk (i := 2) bS rfl
              have f2' := free_blk (i := 2) bS
              have hlS' := lt_of_block bS
              have H14 : St W (w12.setCell ⟨S, 2, none⟩ (.slice (some ⟨g2, 0, none⟩) (j.ps.length + 1) cap2)) (R ++ (RdT r (txF t3 q) :: RowT 51 8 v1 (j.rows.length + 1) (qL.cells (j.rows ++ [x])) :: BlkT S (.cells #[.pointer (some ⟨Q, 0, none⟩), .int .i64 rs, .slice (some ⟨g2, 0, none⟩) (j.ps.length + 1) cap2, lv] 75) :: QkT Q ⟨n, []⟩ :: RowT 9 1 (.slice (some ⟨g2, 0, none⟩) (j.ps.length + 1) cap2) (j.ps.length + 1) (sL.cells (j.ps ++ [pt])) :: RowT 41 1 lv ll.length (tL.cells ll) :: TL)) := by
                have h := H13.setBlk (R.length + 2) (by rw [get_behind]; rfl) 2 (.slice (some ⟨g2, 0, none⟩) (j.ps.length + 1) cap2)
                rw [List.set_append_right _ _ (by omega), Nat.add_sub_cancel_left] at h
                exact h
              obtain ⟨la2, lc2, rfl⟩ := H14.rowIn (e := 41) (size := 1) (v := lv) (n := ll.length) (xs := tL.cells ll) (by simp)
              obtain ⟨i2, hi0, hz0, hz1, hz2⟩ := info_parts info_gt
              have HI2 := hid (And.intro hi0 (And.intro hz0 (And.intro hz1 hz2)))
              have bS2 := H14.blk (R.length + 2) (by rw [get_behind]; rfl)
              have c3 := cell_blk (i := 3) bS2 rfl
              have f3 := free_blk (i := 3) bS2
              have HA3 := (H14.alloc_ (.cells #[.slice la q lc] 41)).append (R.length + 5) (by rw [get_behind]; rfl)
              simp only [List.set_append_right _ _ (Nat.le_add_right R.length 5), Nat.add_sub_cancel_left] at HA3
              have HA3 := hid HA3
              have hjl : ll.length ≤ 8 := by have := hok.out.ls; have := HKK.out.2; have h9 := congrArg List.length HLL.out; simp at h9; omega
              have HJL := hid hjl
              clear H13 H14 bS bS2 hi0 hz0 hz1 hz2 hjl HA2 c2 f2 hlS ho hF hb hn
              go_wp2_with (at_builtin; refine wpList_append_blk rfl (.tmp 94) (.tmp 96) 42 rfl 41 i2 (.slice none 0 0) 1 24 Tryz.underlying42 HI2.out.1 HI2.out.2.1 HI2.out.2.2.1 HI2.out.2.2.2 rfl (by decide) (.slice la2 ll.length lc2) ll.length (tL.cells ll) rfl HA3.out.1 ⟨w12.heap.size, 0, none⟩ 1 1 [.slice la q lc] rfl rfl ?qn (by intro u hu; simp at hu; subst hu; rfl) (by have := HJL.out; unfold maxLen; omega) (by have := HJL.out; omega) ?_)
              case qn =>
                have h := news_alloc (w12.setCell ⟨S, 2, none⟩ (.slice (some ⟨g2, 0, none⟩) (j.ps.length + 1) cap2)) [.slice la q lc] 41
                rwa [show (w12.setCell ⟨S, 2, none⟩ (.slice (some ⟨g2, 0, none⟩) (j.ps.length + 1) cap2)).heap.size = w12.heap.size by simp [World.setCell]] at h
              intro v3 w13 ho hF hb hn
              have H15 : St W w13 (R ++ (RdT r (txF t3 q) :: RowT 51 8 v1 (j.rows.length + 1) (qL.cells (j.rows ++ [x])) :: BlkT S (.cells #[.pointer (some ⟨Q, 0, none⟩), .int .i64 rs, .slice (some ⟨g2, 0, none⟩) (j.ps.length + 1) cap2, .slice la2 ll.length lc2] 75) :: QkT Q ⟨n, []⟩ :: RowT 9 1 (.slice (some ⟨g2, 0, none⟩) (j.ps.length + 1) cap2) (j.ps.length + 1) (sL.cells (j.ps ++ [pt])) :: RowT 41 1 v3 (ll.length + 1) (tL.cells (ll ++ [(tx t3 q, (⟨la, lc⟩ : TS))])) :: TL)) := HA3.out.2 v3 w13 (ll.length + 1) (tL.cells (ll ++ [(tx t3 q, (⟨la, lc⟩ : TS))])) (by rw [← tL.snoc]; show w13.ownsRow _ _ _ _ _ (tL.cells ll ++ [.slice la (tx t3 q).length lc]); rw [tx_len]; exact ho) (by simpa using hF) (by simpa using hb)
              obtain ⟨g3, cap3, rfl, _⟩ := ownsRow_shape ho (by omega)
              have bS := H15.blk (R.length + 2) (by rw [get_behind]; rfl)
              have c3' := cell_blk (i := 3) bS rfl
              have f3' := free_blk (i := 3) bS
              have hlS2 := lt_of_block bS
              have H16 : St W (w13.setCell ⟨S, 3, none⟩ (.slice (some ⟨g3, 0, none⟩) (ll.length + 1) cap3)) (R ++ (RdT r (txF t3 q) :: RowT 51 8 v1 (j.rows.length + 1) (qL.cells (j.rows ++ [x])) :: BlkT S (.cells #[.pointer (some ⟨Q, 0, none⟩), .int .i64 rs, .slice (some ⟨g2, 0, none⟩) (j.ps.length + 1) cap2, .slice (some ⟨g3, 0, none⟩) (ll.length + 1) cap3] 75) :: QkT Q ⟨n, []⟩ :: RowT 9 1 (.slice (some ⟨g2, 0, none⟩) (j.ps.length + 1) cap2) (j.ps.length + 1) (sL.cells (j.ps ++ [pt])) :: RowT 41 1 (.slice (some ⟨g3, 0, none⟩) (ll.length + 1) cap3) (ll.length + 1) (tL.cells (ll ++ [(tx t3 q, (⟨la, lc⟩ : TS))])) :: TL)) := by
                have h := H15.setBlk (R.length + 2) (by rw [get_behind]; rfl) 3 (.slice (some ⟨g3, 0, none⟩) (ll.length + 1) cap3)
                rw [List.set_append_right _ _ (by omega), Nat.add_sub_cancel_left] at h
                exact h
              have H16 := hid H16
              clear H15 bS ho hF hb hn HA3 c2' f2' c3 f3 hlS'
              have hwk2 : IntKind.i64.wrap ((k : Int) + 1) = (k : Int) + 1 := hwk
              go_wp2_with fail
              go_roundw
              case rel =>
                refine ⟨k + 1, _, .slice (some ⟨g2, 0, none⟩) (j.ps.length + 1) cap2, .slice (some ⟨g3, 0, none⟩) (ll.length + 1) cap3, ll ++ [(tx t3 q, (⟨la, lc⟩ : TS))], HKK.out.1, by go_num, hid HNX.out.1, hid (JS.next_ok hok.out HNX.out.2), by rw [List.map_append, HLL.out]; rfl, ?_⟩
                have h := H16.out
                rw [← HTL.out] at h
                simpa [ldR, skL, lg1, RowT, tx_len] using h
              case measure => simp [intOf]; have := HKK.out.1; omega
    · obtain rfl : k = m := by omega
      have HL2 := HHL.out
      rw [hj.out] at HL2
      dsimp only [Option.bind_some] at HL2
      have HEN := st_end H (R.length + 0) (r := r) (s := j.s) (by rw [get_behind]; rfl)
      obtain ⟨e1, e2, hE⟩ : ∃ e1 e2, j.s.end_ = (e1, e2) := ⟨_, _, rfl⟩
      rw [hE] at HEN HL2
      have HEN := hid HEN
      obtain ⟨ra, rc, rfl⟩ := H.rowIn (e := 51) (size := 8) (v := u9) (n := j.rows.length) (xs := qL.cells j.rows) (by simp [ldR])
      have HLL := hid hll
      clear hE hll hkl hk
      by_cases he : e1 = 0
      · subst he
        rw [if_neg (fun h => h rfl)] at HL2
        have HL2 := hid HL2
        clear H
        go_wp2_with fail
        refine HEN.out.mono ?_
        rintro e w5 ⟨rfl, H⟩
        have hin := H.lay qL (R.length + 1) (a := ra) (c := rc) (l := j.rows) (by rw [get_behind]; rfl)
        have HQ := hid (qload_any w5 n HN.out.1 HN.out.2 ra j.rows.length rc j.rows rfl hin)
        have H := hid H
        clear hin HEN
        go_wp2_with fail
        refine HQ.out.mono ?_
        rintro e w6 h
        rcases h with ⟨hwf, Q2, rfl, h6⟩ | ⟨hwf, rfl, hF⟩
        · have h7 := HL2.out
          rw [if_pos hwf] at h7
          have h7 := hid h7
          have H6 := st_of_one H.out h6
          have H6 : St W w6 ((R ++ (RdT r j.s :: RowT 51 8 (.slice ra j.rows.length rc) j.rows.length (qL.cells j.rows) :: BlkT S (.cells #[.pointer (some ⟨Q, 0, none⟩), .int .i64 rs, pv, lv] 75) :: QkT Q ⟨n, []⟩ :: RowT 9 1 pv j.ps.length (sL.cells j.ps) :: RowT 41 1 lv ll.length (tL.cells ll) :: ll.map (fun x => own (lg1 x)))) ++ [QkT Q2 ⟨n, j.rows⟩]) := H6
          have bS := H6.blkInL (b := S) (o := .cells #[.pointer (some ⟨Q, 0, none⟩), .int .i64 rs, pv, lv] 75) (by simp)
          have c0 := cell_blk (i := 0) bS rfl
          have f0 := free_blk (i := 0) bS
          have hlS := lt_of_block bS
          have H7 : St W (w6.setCell ⟨S, 0, none⟩ (.pointer (some ⟨Q2, 0, none⟩))) ((R ++ (RdT r j.s :: RowT 51 8 (.slice ra j.rows.length rc) j.rows.length (qL.cells j.rows) :: BlkT S (.cells #[.pointer (some ⟨Q2, 0, none⟩), .int .i64 rs, pv, lv] 75) :: QkT Q ⟨n, []⟩ :: RowT 9 1 pv j.ps.length (sL.cells j.ps) :: RowT 41 1 lv ll.length (tL.cells ll) :: ll.map (fun x => own (lg1 x)))) ++ [QkT Q2 ⟨n, j.rows⟩]) := by
            rw [List.append_assoc] at H6
            have h := H6.setBlk (R.length + 2) (by rw [get_behind]; rfl) 0 (.pointer (some ⟨Q2, 0, none⟩))
            rw [List.set_append_right _ _ (by omega), Nat.add_sub_cancel_left] at h
            rw [List.append_assoc]
            exact h
          have H8 := hid (St.skEnd (H7.sub (perm_load _ _ _ _ _ _ _ _ _)))
          clear bS H6 H7 h6 HQ H hwf
          go_wp2_with fail
          refine bodyPost_ret (v := .tuple #[.pointer (some ⟨S, 0, none⟩), .int .i64 0]) (by simp [results, Tryz.results21, go_sem]) rfl (LoadTo.yes h7.out.symm ?_)
          have h9 := H8.out
          rw [HLL.out] at h9
          exact h9
        · have h7 := HL2.out
          rw [if_neg hwf] at h7
          have h7 := hid h7
          have H6 := hid (H.out.same hF)
          clear HQ H hwf hF
          go_wp2_with fail
          exact bodyPost_ret (v := .tuple #[.pointer none, .int .i64 171]) (by simp [results, Tryz.results21, go_sem]) rfl (LoadTo.no h7.out.symm H6.out.drop)
      · rw [if_pos he] at HL2
        have HL2 := hid HL2
        have he1 : (e1 == 0) = false := by rw [beq_eq_false_iff_ne]; exact he
        have he2 : (e1 != 0) = true := by simp [bne, he1]
        clear H he
        go_wp2_with fail
        refine HEN.out.mono ?_
        rintro e w5 ⟨rfl, H⟩
        have H := hid H
        go_wp2_with fail
        exact bodyPost_ret (v := .tuple #[.pointer none, .int .i64 171]) (by simp [results, Tryz.results21, go_sem]) rfl (LoadTo.no HL2.out.symm H.out.drop)
end
end Go.Proofs.YtmgnekjhlfghaaaGreat
