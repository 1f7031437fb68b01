/-
  Merged, in build order: S5 S8 S9 SA Wv SD SE SF SG NeIf SH ChArg.
-/
import Derived.Test.YtmgnekjhlfghaaaGreatM22
import Derived.Test.YtmgnekjhlfghaaaGreatM6
import Derived.Test.YtmgnekjhlfghaaaGreatM23
import Derived.Test.YtmgnekjhlfghaaaGreatM8
import Derived.Test.YtmgnekjhlfghaaaGreatM19
import Derived.Test.YtmgnekjhlfghaaaGreatM5
import Derived.Test.YtmgnekjhlfghaaaGreatM20
import Derived.Test.YtmgnekjhlfghaaaGreatM18
import Derived.Test.YtmgnekjhlfghaaaGreatM7
/-
  state: the bytes of a state: plain; num.
-/
namespace Go.Proofs.YtmgnekjhlfghaaaGreat
open Go.RowKit
set_option linter.unusedVariables false
set_option linter.unusedSimpArgs false

/-- A row's numbers. -/
def rowN (r : QR) : List Int := [r.st, r.at_, r.ba, r.node, r.life, r.code]
/-- A job's bytes. -/
def jobB (r : QR) (p : ByteArray) (l : List ByteArray) : List UInt8 :=
  (rowN r).flatMap (fun n => bl (nf n.toNat)) ++ (bl (bf r.bits.toNat ++ tf p ++ nf l.length) ++ l.flatMap fun t => bl (tf t))
def SV.job (v : SV) (k : Nat) : List UInt8 := jobB (qL.nth v.q.rows k) (sL.nth v.progs k) (v.logs.getD k [])
def SV.head (v : SV) : List UInt8 := bl (nf v.res.toNat ++ nf v.progs.length)
/-- A state's bytes. -/
def SV.bytes (v : SV) : List UInt8 := v.head ++ (List.range v.q.rows.length).flatMap v.job

theorem row_facts {v : SV} (hv : v.wf) {k : Nat} (hk : k < v.q.rows.length) :
    (∀ n, n ∈ rowN (qL.nth v.q.rows k) → 0 ≤ n ∧ n ≤ 1099511627776) ∧ 0 ≤ (qL.nth v.q.rows k).bits ∧ (qL.nth v.q.rows k).bits < 18446744073709551616 := by
  have hm := hv.q.ok k hk
  obtain ⟨_, h2, h3, h4, h5, _, h7, h8⟩ := may_facts hm
  have ha := hv.q.a2
  have hmem : qL.nth v.q.rows k ∈ v.q.rows := qL.mem_nth hk
  refine ⟨?_, hv.bt _ hmem⟩
  obtain ⟨b1, b2⟩ := (kb_iff _).1 h7
  have hst : (qL.nth v.q.rows k).st = 1 ∨ (qL.nth v.q.rows k).st = 2 ∨ (qL.nth v.q.rows k).st = 3 ∨ (qL.nth v.q.rows k).st = 4 := by
    unfold QR.kc at h8
    split at h8
    · exact .inl (by assumption)
    · split at h8
      · exact .inr (.inl (by assumption))
      · split at h8
        · exact .inr (.inr (.inl (by assumption)))
        · split at h8
          · exact .inr (.inr (.inr (by assumption)))
          · cases h8
  have hhold : (0 ≤ (qL.nth v.q.rows k).node ∧ (qL.nth v.q.rows k).node ≤ 9) ∧ 0 ≤ (qL.nth v.q.rows k).life ∧ (qL.nth v.q.rows k).life ≤ 1099511627776 := by
    rcases b1 with h | h
    · rw [kc_2 h] at h8
      simp only [holdB, Bool.and_eq_true, decide_eq_true_eq, inB] at h8
      omega
    · omega
  have hcode : 0 ≤ (qL.nth v.q.rows k).code ∧ (qL.nth v.q.rows k).code ≤ 7 := by
    rcases b2 with h | h
    · rw [kc_3 h] at h8
      simp only [resB, Bool.and_eq_true, decide_eq_true_eq, inB] at h8
      omega
    · omega
  intro n hn
  simp only [rowN, List.mem_cons, List.not_mem_nil, or_false] at hn
  rcases hn with rfl | rfl | rfl | rfl | rfl | rfl <;> omega

theorem snum_walk (w : World) (n : Nat) (hn : n < 9223372036854775808) :
    Calls Tryz.prog 38 #[.int .i64 n] w fun e w' => e = .returned (.string (nf n)) ∧ Fr [] w w' := by
  go_enter Tryz.func38, Tryz.ntmps38
  go_wp2_with (go_at_call 91; refine (pack_num _ n (by omega)).mono ?_; rintro e w1 ⟨rfl, hF⟩)
  go_wp2_with fail
  go_ret
  exact ⟨rfl, hF⟩
end Go.Proofs.YtmgnekjhlfghaaaGreat

/-
  state: a state has at most 17000 bytes: plain.
-/
namespace Go.Proofs.YtmgnekjhlfghaaaGreat
set_option linter.unusedVariables false
set_option linter.unusedSimpArgs false

theorem nf_k (k n : Nat) (hn : n < 128 ^ (k + 1)) : (bl (nf n)).length ≤ k + 1 := by
  have := Lib.uvarint_length k n hn
  show (Lib.uvarint n).toArray.toList.length ≤ k + 1
  simpa using this
theorem flat_le {α : Type} {f : α → List UInt8} {m : Nat} : ∀ (l : List α), (∀ x, x ∈ l → (f x).length ≤ m) → (l.flatMap f).length ≤ l.length * m
  | [], _ => by simp
  | x :: l, h => by
    have h1 := h x List.mem_cons_self
    have h2 := flat_le l (fun y hy => h y (List.mem_cons_of_mem _ hy))
    rw [List.flatMap_cons, List.length_append, List.length_cons, Nat.add_mul]
    omega
theorem text_le (s : ByteArray) (hs : s.size ≤ 32) : (bl (tf s)).length ≤ 33 := by
  have := nf_k 0 s.size (by omega)
  unfold tf; rw [bl_app, List.length_append, bl_len s]; omega
theorem prog_le (s : ByteArray) (hs : s.size ≤ 1024) : (bl (tf s)).length ≤ 1026 := by
  have := nf_k 1 s.size (by omega)
  unfold tf; rw [bl_app, List.length_append, bl_len s]; omega
theorem row_small {v : SV} (hv : v.wf) {k : Nat} (hk : k < v.q.rows.length) :
    (0 ≤ (qL.nth v.q.rows k).st ∧ (qL.nth v.q.rows k).st ≤ 4) ∧ (0 ≤ (qL.nth v.q.rows k).at_ ∧ (qL.nth v.q.rows k).at_ ≤ 8) ∧ (0 ≤ (qL.nth v.q.rows k).node ∧ (qL.nth v.q.rows k).node ≤ 9) ∧ (0 ≤ (qL.nth v.q.rows k).code ∧ (qL.nth v.q.rows k).code ≤ 7) := by
  have hm := hv.q.ok k hk
  obtain ⟨_, h2, h3, h4, h5, _, h7, h8⟩ := may_facts hm
  have ha := hv.q.a2
  obtain ⟨b1, b2⟩ := (kb_iff _).1 h7
  have hst : (qL.nth v.q.rows k).st = 1 ∨ (qL.nth v.q.rows k).st = 2 ∨ (qL.nth v.q.rows k).st = 3 ∨ (qL.nth v.q.rows k).st = 4 := by
    unfold QR.kc at h8
    split at h8
    · exact .inl (by assumption)
    · split at h8
      · exact .inr (.inl (by assumption))
      · split at h8
        · exact .inr (.inr (.inl (by assumption)))
        · split at h8
          · exact .inr (.inr (.inr (by assumption)))
          · cases h8
  have hhold : 0 ≤ (qL.nth v.q.rows k).node ∧ (qL.nth v.q.rows k).node ≤ 9 := by
    rcases b1 with h | h
    · rw [kc_2 h] at h8
      simp only [holdB, Bool.and_eq_true, decide_eq_true_eq, inB] at h8
      omega
    · omega
  have hcode : 0 ≤ (qL.nth v.q.rows k).code ∧ (qL.nth v.q.rows k).code ≤ 7 := by
    rcases b2 with h | h
    · rw [kc_3 h] at h8
      simp only [resB, Bool.and_eq_true, decide_eq_true_eq, inB] at h8
      omega
    · omega
  exact ⟨by omega, by omega, hhold, hcode⟩
theorem job_le {v : SV} (hv : v.wf) {k : Nat} (hk : k < v.q.rows.length) : (v.job k).length ≤ 2107 := by
  obtain ⟨r1, r2, r3, r4⟩ := row_small hv hk
  have hr := (row_facts hv hk).1
  have hba := hr (qL.nth v.q.rows k).ba (by simp [rowN])
  have hli := hr (qL.nth v.q.rows k).life (by simp [rowN])
  have hp : (sL.nth v.progs k).size ≤ 1024 := (hv.pr _ (sL.mem_nth (by rw [hv.np]; exact hk))).2
  have hkl : k < v.logs.length := by rw [hv.nl]; exact hk
  have hl := hv.lg (v.logs.getD k []) (by rw [List.getD, List.getElem?_eq_getElem hkl]; exact List.getElem_mem hkl)
  have h1 := nf_k 0 (qL.nth v.q.rows k).st.toNat (by omega)
  have h2 := nf_k 0 (qL.nth v.q.rows k).at_.toNat (by omega)
  have h3 := nf_k 5 (qL.nth v.q.rows k).ba.toNat (by omega)
  have h4 := nf_k 0 (qL.nth v.q.rows k).node.toNat (by omega)
  have h5 := nf_k 5 (qL.nth v.q.rows k).life.toNat (by omega)
  have h6 := nf_k 0 (qL.nth v.q.rows k).code.toNat (by omega)
  have h7 := prog_le _ hp
  have h8 := nf_k 0 (v.logs.getD k []).length (by omega)
  have h9 := flat_le (f := fun t => bl (tf t)) (m := 33) (v.logs.getD k []) (fun t ht => text_le t (hl.2 t ht))
  have hb : (bl (bf (qL.nth v.q.rows k).bits.toNat)).length = 8 := rfl
  unfold SV.job jobB rowN
  simp only [List.flatMap_cons, List.flatMap_nil, bl_app, List.length_append, List.length_nil]
  omega
theorem bytes_le {v : SV} (hv : v.wf) : v.bytes.length ≤ 17000 := by
  have h1 := nf_k 5 v.res.toNat (by have := hv.res; omega)
  have h2 := nf_k 0 v.progs.length (by have := hv.np; have := hv.q.n; omega)
  have h3 := flat_le (f := v.job) (m := 2107) (List.range v.q.rows.length) (fun k hk => job_le hv (List.mem_range.1 hk))
  have h4 := hv.q.n
  unfold SV.bytes SV.head
  rw [List.length_append, bl_app, List.length_append]
  rw [List.length_range] at h3
  omega
end Go.Proofs.YtmgnekjhlfghaaaGreat

/-
  state: Bytes.
-/
namespace Go.Proofs.YtmgnekjhlfghaaaGreat
open Go.RowKit
set_option linter.unusedVariables false
set_option linter.unusedSimpArgs false

theorem range_pre {α : Type} (f : Nat → List α) {k n : Nat} (h : k ≤ n) : (List.range k).flatMap f <+: (List.range n).flatMap f := by
  induction n with
  | zero => rw [Nat.le_zero.1 h]; exact List.prefix_refl _
  | succ n ih =>
    rcases Nat.lt_or_ge n k with h1 | h1
    · rw [show k = n + 1 by omega]; exact List.prefix_refl _
    · rw [List.range_succ, List.flatMap_append]
      exact (ih h1).trans (List.prefix_append _ _)
theorem pre_job {v : SV} {k : Nat} (hk : k < v.q.rows.length) {m : List UInt8} (hm : m <+: v.job k) : (v.head ++ (List.range k).flatMap v.job) ++ m <+: v.bytes := by
  unfold SV.bytes
  rw [List.append_assoc]
  refine (List.prefix_append_right_inj _).2 ?_
  refine List.IsPrefix.trans ?_ (range_pre v.job (show k + 1 ≤ v.q.rows.length from hk))
  rw [List.range_succ, List.flatMap_append]
  refine (List.prefix_append_right_inj _).2 ?_
  simpa using hm
theorem pre_le {v : SV} (hv : v.wf) {l : List UInt8} {s : ByteArray} (h : l ++ bl s <+: v.bytes) : l.length + s.size ≤ 140737488355328 := by
  have h1 := h.length_le
  have h2 := bytes_le hv
  rw [List.length_append, bl_len] at h1
  omega
/-- A job's bytes, up to the number j. -/
def jobN (v : SV) (k j : Nat) : List UInt8 := ((rowN (qL.nth v.q.rows k)).take j).flatMap fun n => bl (nf n.toNat)
def jobM (v : SV) (k : Nat) : ByteArray := bf (qL.nth v.q.rows k).bits.toNat ++ tf (sL.nth v.progs k) ++ nf (v.logs.getD k []).length
def jobT (v : SV) (k j : Nat) : List UInt8 := jobN v k 6 ++ (bl (jobM v k) ++ ((v.logs.getD k []).take j).flatMap fun t => bl (tf t))
theorem jobN_pre (v : SV) (k j : Nat) : jobN v k j <+: v.job k := by
  unfold jobN SV.job jobB
  refine List.IsPrefix.trans ?_ (List.prefix_append _ _)
  rw [← List.take_append_drop j (rowN (qL.nth v.q.rows k)), List.flatMap_append, List.take_append_drop]
  exact List.prefix_append _ _
theorem jobT_pre (v : SV) (k j : Nat) : jobT v k j <+: v.job k := by
  unfold jobT SV.job jobB jobN jobM
  rw [List.take_of_length_le (by simp [rowN])]
  refine (List.prefix_append_right_inj _).2 ((List.prefix_append_right_inj _).2 ?_)
  conv => rhs; rw [← List.take_append_drop j (v.logs.getD k []), List.flatMap_append]
  exact List.prefix_append _ _
end Go.Proofs.YtmgnekjhlfghaaaGreat

/-
  state: Bytes: the walk.
-/
namespace Go.Proofs.YtmgnekjhlfghaaaGreat
open Go.RowKit
set_option linter.unusedVariables false
set_option linter.unusedSimpArgs false

section
variable {W : Base} {w : World} {R : List Thing}
theorem get_end {A : Thing} : (R ++ [A])[R.length]? = some A := by simp
theorem snum_i (w : World) (z : Int) (h0 : 0 ≤ z) (h1 : z < 9223372036854775808) :
    Calls Tryz.prog 38 #[.int .i64 z] w fun e w' => e = .returned (.string (nf z.toNat)) ∧ Fr [] w w' := by
  have := snum_walk w z.toNat (by omega)
  rwa [show ((z.toNat : Nat) : Int) = z by omega] at this
/-- A row, boxed; its numbers, boxed. -/
abbrev qO (r : QR) : Obj := .cells #[.int .i64 r.job, .int .i64 r.st, .int .i64 r.at_, .int .i64 r.ba, .int .i64 r.node, .int .i64 r.life, .int .i64 r.code, .int .u64 r.bits] 51
abbrev nO (r : QR) : Obj := .cells #[.int .i64 r.st, .int .i64 r.at_, .int .i64 r.ba, .int .i64 r.node, .int .i64 r.life, .int .i64 r.code] 3
variable {S Q : Nat} {q : QS} {res : Int} {pv lv : Value} {progs : List ByteArray} {ll : List (List ByteArray × TS)}
theorem nO_at {r : QR} {j : Nat} {x : Int} (hx : (rowN r)[j]? = some x) : (#[.int .i64 r.st, .int .i64 r.at_, .int .i64 r.ba, .int .i64 r.node, .int .i64 r.life, .int .i64 r.code] : Array Value)[j]? = some (.int .i64 x) := by
  unfold rowN at hx
  match j, hx with
  | 0, h => cases h; rfl
  | 1, h => cases h; rfl
  | 2, h => cases h; rfl
  | 3, h => cases h; rfl
  | 4, h => cases h; rfl
  | 5, h => cases h; rfl
theorem nf_neS (n : Nat) : bl (nf n) ≠ [] := by
  show (Lib.uvarint n).toArray.toList ≠ []
  by_cases h : 127 < n
  · rw [Lib.uvarint_big (by omega)]; simp
  · rw [Lib.uvarint_small (by omega)]; simp
theorem sbits_i (w : World) (z : Int) (h0 : 0 ≤ z ∧ z < 18446744073709551616) :
    Calls Tryz.prog 39 #[.int .u64 z] w fun e w' => e = .returned (.string (bf z.toNat)) ∧ Fr [] w w' := by
  have := pack_bits w z.toNat (by omega)
  rwa [show ((z.toNat : Nat) : Int) = z by omega] at this
theorem get5 {A B C D : Thing} : ((((R ++ [A]) ++ [B]) ++ [C]) ++ [D])[R.length]? = some A := by simp
theorem set5 {A A' B C D : Thing} : ((((R ++ [A]) ++ [B]) ++ [C]) ++ [D]).set R.length A' = (((R ++ [A']) ++ [B]) ++ [C]) ++ [D] := by simp
theorem St.jobNow {b rb nb pg pc lg lc k : Nat} {l : List UInt8} {A : Thing} {r : QR} (H : St W w ((((R ++ skL S Q q res (.slice (some ⟨pg, 0, none⟩) progs.length pc) progs (.slice (some ⟨lg, 0, none⟩) ll.length lc) ll ++ [BdT b l]) ++ [A]) ++ [BlkT rb (qO r)]) ++ [BlkT nb (nO r)])) (hp : k < progs.length) (hl : k < ll.length) :
    w.cell? ⟨S, 2, none⟩ = some (.slice (some ⟨pg, 0, none⟩) progs.length pc) ∧ w.cell? ⟨S, 3, none⟩ = some (.slice (some ⟨lg, 0, none⟩) ll.length lc) ∧ w.cell? ⟨pg, k, none⟩ = some (.string (sL.nth progs k)) ∧ w.cell? ⟨lg, k, none⟩ = some (.slice (tL.nth ll k).2.a (tL.nth ll k).1.length (tL.nth ll k).2.c) ∧ w.cell? ⟨rb, 7, none⟩ = some (.int .u64 r.bits) := by
  have h0 := H.drop.drop.drop.drop
  have b1 := h0.skS
  have h2 := gs_cells (h0.lay sL _ sk_get2) k hp
  have h3 := (ownsRow_cell (h0.row _ sk_get3) k (gt_get hl)).1
  rw [Nat.zero_add, Nat.mul_one] at h2
  exact ⟨cell_blk b1 rfl, cell_blk b1 rfl, h2, h3, cell_blk (H.drop.chB) rfl⟩
theorem St.logIn {k : Nat} (H : St W w (R ++ skL S Q q res pv progs lv ll)) (hl : k < ll.length) : In w 1 (tL.nth ll k).2.a (tL.nth ll k).1.length (tL.nth ll k).2.c (sL.at_ (tL.nth ll k).1) :=
  H.lay sL _ (sk_getL (tL.nth_get hl))
theorem flat_snocS {α : Type} {l : List α} {k : Nat} {x : α} (f : α → List UInt8) (hx : l[k]? = some x) (p : List UInt8) : (p ++ (l.take k).flatMap f) ++ f x = p ++ (l.take (k + 1)).flatMap f := by
  rw [List.take_add_one, hx, List.append_assoc]
  simp
theorem jobN_snoc {v : SV} {k j : Nat} {x : Int} (hx : (rowN (qL.nth v.q.rows k))[j]? = some x) : jobN v k j ++ bl (nf x.toNat) = jobN v k (j + 1) := flat_snocS (fun n : Int => bl (nf n.toNat)) hx []
theorem jobT_zero (v : SV) (k : Nat) : jobN v k 6 ++ bl (jobM v k) = jobT v k 0 := by simp [jobT]
theorem jobT_snoc {v : SV} {k j : Nat} {x : ByteArray} (hx : (v.logs.getD k [])[j]? = some x) : jobT v k j ++ bl (tf x) = jobT v k (j + 1) := by
  unfold jobT
  rw [List.append_assoc, flat_snocS (fun t => bl (tf t)) hx (bl (jobM v k))]
theorem jobT_all (v : SV) (k : Nat) {n : Nat} (hn : (v.logs.getD k []).length = n) : jobT v k n = v.job k := by
  unfold jobT SV.job jobB jobN jobM
  rw [List.take_of_length_le (by simp [rowN]), List.take_of_length_le (by rw [hn]; exact Nat.le_refl _)]
theorem pre_next (v : SV) (k : Nat) : (v.head ++ (List.range k).flatMap v.job) ++ v.job k = v.head ++ (List.range (k + 1)).flatMap v.job := by
  rw [List.range_succ, List.flatMap_append, List.append_assoc]; simp
set_option maxHeartbeats 4000000 in
set_option maxRecDepth 100000 in
theorem st_sbytes (H : St W w R) (i : Nat) {S : Nat} {v : SV} (hi : R[i]? = some (SkT S v)) (hv : v.wf) :
    Calls Tryz.prog 17 #[.pointer (some ⟨S, 0, none⟩)] w fun e w' => e = .returned (.string ⟨v.bytes.toArray⟩) ∧ St W w' R := by
  have hil := lt_of_get hi
  have HI := hid hi
  have HV := hid hv
  obtain ⟨Q, pv, lv, ll, hll, H1⟩ := H.sk i hi
  have hn8 := hv.q.n
  have hres := hv.res
  have hnp := hv.np
  obtain ⟨pa, pc, rfl, -, -, -, hps⟩ := H1.rowShape _ sk_get2
  obtain ⟨la, lc, rfl, -, -, -, hls⟩ := H1.rowShape _ sk_get3
  have hlen : ll.length = v.logs.length := by rw [← hll, List.length_map]
  have HL := hid (And.intro hll (And.intro hlen (And.intro hps hls)))
  have hr0 : 0 ≤ v.res := hres.1
  have hr1 : v.res < 9223372036854775808 := by omega
  have hp1 : (v.progs.length : Int) < 9223372036854775808 := by omega
  have hp0 : (0 : Int) ≤ v.progs.length := by omega
  have hback := hid (fun (w' : World) (T : List Thing) (HB : St W w' ((R.set i NilT ++ skL S Q v.q v.res (.slice pa v.progs.length pc) v.progs (.slice la ll.length lc) ll) ++ T)) => show St W w' R by
    have h1 := HB.take (R.set i NilT ++ skL S Q v.q v.res (.slice pa v.progs.length pc) v.progs (.slice la ll.length lc) ll).length
    rw [List.take_left'] at h1
    · have h2 := h1.skBack hil
      rw [hll] at h2
      rwa [things_set_self hi] at h2
    · rfl)
  have H2 := hid H1.builder.drew
  have b1 := H2.out.drop.skS
  have hNow := And.intro (cell_blk (i := 1) (v := .int .i64 v.res) b1 rfl) (cell_blk (i := 2) (v := .slice pa v.progs.length pc) b1 rfl)
  clear hi hv H H1 hll hlen hps hls hn8 hres hnp b1
  go_enter Tryz.func17, Tryz.ntmps17
  go_wp2_with fail
  have hw0 : ([] : List UInt8).length + (nf v.res.toNat ++ nf v.progs.length).size ≤ 140737488355328 := pre_le HV.out (by
    show v.head <+: v.bytes
    exact List.prefix_append _ _)
  have HW0 := hid hw0
  have hcat : ¬ 9223372036854775807 < (nf v.res.toNat).size + (nf v.progs.length).size := by
    rw [ByteArray.size_append] at hw0; omega
  clear hw0
  have hres := hid (fun w => snum_i w v.res hr0 hr1)
  have hnp := hid (fun w => snum_walk w v.progs.length (by omega))
  go_region_held3 (fun wx : World => wx.cell? ⟨S, 1, none⟩ = some (.int .i64 v.res) ∧ wx.cell? ⟨S, 2, none⟩ = some (.slice pa v.progs.length pc)) ((first | exact hNow)) (first | (go_at_call 38; (first | with_reducible refine (hres.out _).mono ?_ | with_reducible refine (hnp.out _).mono ?_); rintro e1 w1 ⟨rfl, hF⟩; have H2 := hid (H2.out.same hF); have b1 := H2.out.drop.skS; have hNow := And.intro (cell_blk (i := 1) (v := .int .i64 v.res) b1 rfl) (cell_blk (i := 2) (v := .slice pa v.progs.length pc) b1 rfl); clear b1 hF) | (go_at_call 37; refine (st_bwrite H2.out ((R.set i NilT ++ skL S Q v.q v.res (.slice pa v.progs.length pc) v.progs (.slice la ll.length lc) ll)).length _ get_end HW0.out).mono ?_; rintro e2 w2 ⟨rfl, H3⟩; rw [set_one] at H3; have b1 := H3.drop.skS; have hNow := And.intro (cell_blk (i := 1) (v := .int .i64 v.res) b1 rfl) (cell_blk (i := 2) (v := .slice pa v.progs.length pc) b1 rfl); have H3 := hid H3; clear b1))
  have HB := hid (show St W w2 ((R.set i NilT ++ skL S Q v.q v.res (.slice pa v.progs.length pc) v.progs (.slice la ll.length lc) ll) ++ [BdT w.heap.size v.head]) by
    have h := H3.out
    rw [List.nil_append] at h
    exact h)
  clear hNow H3 H2 hcat hres hnp hp0 hp1 hr0 hr1
  have d0 := cell_blk (i := 0) HB.out.drop.skS rfl
  go_wp2_with (go_at_call 30; refine (st_rowsT HB.out ((R.set i NilT).length + 1) sk_get HV.out.q.n).mono ?_; rintro e w4 ⟨ra, rfl, H4⟩; have H4 := hid H4)
  clear HB d0
  go_loopw [30] (fun iv wr => ∃ k : Nat, k ≤ v.q.rows.length ∧ iv = .int .i64 k ∧ St W wr (((R.set i NilT ++ skL S Q v.q v.res (.slice pa v.progs.length pc) v.progs (.slice la ll.length lc) ll) ++ [BdT w.heap.size (v.head ++ (List.range k).flatMap v.job)]) ++ [RwT ra v.q.rows])) (fun iv _ => v.q.rows.length - (intOf iv).toNat)
  case atStart => exact ⟨0, Nat.zero_le _, rfl, by simpa using H4.out⟩
  case round =>
    clear H4
    obtain ⟨k, hk, rfl, H⟩ := hrel
    by_cases hlt : k < v.q.rows.length
    · have i1 := H.rw_ _ get_end
      obtain ⟨bb, ob, rfl⟩ := i1.sm (by omega)
      obtain ⟨y0, y1, y2, y3, y4, y5, y6, y7⟩ := qrow_cells i1 k hlt
      have hbl := World.block_lt_of_cell? _ _ y0
      simp only at hbl
      have HR := hid H
      clear i1 H
      go_wp2_with fail
      obtain ⟨wo, rfl⟩ : ∃ wo : World, wo = wr := ⟨_, rfl⟩
      clear y0 y1 y2 y3 y4 y5 y6 y7 hbl
      have HPRE := hid (fun (m : List UInt8) (hm : m <+: v.job k) => pre_job (v := v) hlt hm)
      have HNEXT := hid (pre_next v k)
      generalize hpre : v.head ++ (List.range k).flatMap v.job = pre at HR HPRE HNEXT
      clear hpre
      have HX := hid ((HR.out.alloc (qO (qL.nth v.q.rows k))).allocAt (nO (qL.nth v.q.rows k)) (wo.heap.size + 1) (by simp))
      have HF := hid (row_facts HV.out hlt)
      have HK := hid hlt
      clear hlt hk
      go_loopw [52] (fun jv wi => ∃ j : Nat, j ≤ 6 ∧ jv = .int .i64 j ∧ St W wi (((((R.set i NilT ++ skL S Q v.q v.res (.slice pa v.progs.length pc) v.progs (.slice la ll.length lc) ll) ++ [BdT w.heap.size (pre ++ jobN v k j)]) ++ [RwT (some ⟨bb, ob, none⟩) v.q.rows]) ++ [BlkT wo.heap.size (qO (qL.nth v.q.rows k))]) ++ [BlkT (wo.heap.size + 1) (nO (qL.nth v.q.rows k))])) (fun jv _ => 6 - (intOf jv).toNat)
      case atStart => exact ⟨0, Nat.zero_le _, rfl, by have h := HX.out; rw [← List.append_nil pre] at h; exact h⟩
      case round =>
        clear HX
        obtain ⟨j, hj, rfl, H⟩ := hrel
        by_cases hj6 : j < 6
        · obtain ⟨x, hx⟩ : ∃ x, (rowN (qL.nth v.q.rows k))[j]? = some x := ⟨_, List.getElem?_eq_getElem (by simpa [rowN] using hj6)⟩
          have c0 := cell_blk H.chB (nO_at hx)
          have hxb := HF.out.1 x (List.mem_of_getElem? hx)
          have HXX := hid (And.intro hx hxb)
          have HR2 := hid H
          have HJ := hid hj6
          clear hx hxb H hj hj6
          have hj0 : (0 : Int) ≤ j := by omega
          have hj1 : (j : Int) < 6 := by have := HJ.out; omega
          go_wp2_with (first
            | (go_at_call 38; refine (snum_i _ x HXX.out.2.1 (by have := HXX.out.2.2; omega)).mono ?_; rintro e w1 ⟨rfl, hF⟩; have H2 := HR2.out.same hF)
            | (go_at_call 37; refine (st_bwrite H2 ((R.set i NilT ++ skL S Q v.q v.res (.slice pa v.progs.length pc) v.progs (.slice la ll.length lc) ll)).length _ get5 (pre_le HV.out (by rw [List.append_assoc, jobN_snoc HXX.out.1]; exact HPRE.out _ (jobN_pre v k (j + 1))))).mono ?_; rintro e w2 ⟨rfl, H3⟩; rw [set5, List.append_assoc pre] at H3; have H3 := hid H3))
          go_roundw
          case rel =>
            refine ⟨j + 1, HJ.out, by go_num, ?_⟩
            have h := H3.out
            rw [show jobN v k j ++ (nf x.toNat).data.toList = jobN v k (j + 1) from jobN_snoc HXX.out.1] at h
            exact h
          case measure => have := HJ.out; simp [intOf]; omega
        · have hje : j = 6 := by omega
          subst hje
          have hkp : k < v.progs.length := by rw [HV.out.np]; exact HK.out
          have hkl : k < ll.length := by rw [HL.out.2.1, HV.out.nl]; exact HK.out
          obtain ⟨pg, rfl⟩ := HL.out.2.2.1 (by omega)
          obtain ⟨lg, rfl⟩ := HL.out.2.2.2 (by omega)
          have hNow := H.jobNow hkp hkl
          have hlog : v.logs.getD k [] = (tL.nth ll k).1 := by
            rw [← HL.out.1, List.getD, List.getElem?_map, tL.nth_get hkl]; rfl
          have hpt : (sL.nth v.progs k).size ≤ 1024 := (HV.out.pr _ (sL.mem_nth hkp)).2
          have hlm := HV.out.lg (v.logs.getD k []) (by rw [List.getD, List.getElem?_eq_getElem (by rw [← HL.out.2.1]; exact hkl)]; exact List.getElem_mem _)
          rw [hlog] at hlm
          have hm : pre ++ jobN v k 6 ++ bl (bf (qL.nth v.q.rows k).bits.toNat ++ tf (sL.nth v.progs k) ++ nf (tL.nth ll k).1.length) = pre ++ jobT v k 0 := by
            rw [List.append_assoc, ← jobT_zero]; unfold jobM; rw [hlog]
          have hsz := pre_le HV.out (l := pre ++ jobN v k 6) (s := bf (qL.nth v.q.rows k).bits.toNat ++ tf (sL.nth v.progs k) ++ nf (tL.nth ll k).1.length) (by rw [hm]; exact HPRE.out _ (jobT_pre v k 0))
          have hsz2 := hsz
          rw [ByteArray.size_append, ByteArray.size_append] at hsz2
          have hcat1 : ¬ 9223372036854775807 < (bf (qL.nth v.q.rows k).bits.toNat).size + (tf (sL.nth v.progs k)).size := by omega
          have hcat2 : ¬ 9223372036854775807 < (bf (qL.nth v.q.rows k).bits.toNat ++ tf (sL.nth v.progs k)).size + (nf (tL.nth ll k).1.length).size := by rw [ByteArray.size_append]; omega
          have hcat3 : ¬ 9223372036854775807 < (bf (qL.nth v.q.rows k).bits.toNat).size + (tf (sL.nth v.progs k)).size + (nf (tL.nth ll k).1.length).size := by omega
          have HSZ := hid hsz
          have HM := hid hm
          have HPT := hid hpt
          have HLM := hid (And.intro hlog hlm)
          have hk0 : (0 : Int) ≤ k := by omega
          have hk1 : (k : Int) < v.progs.length := by omega
          have hk2 : (k : Int) < ll.length := by omega
          have HX := hid H
          have HLI := hid (fun wx => St.logIn (W := W) (w := wx) (R := R.set i NilT) (S := S) (Q := Q) (q := v.q) (res := v.res) (pv := .slice (some ⟨pg, 0, none⟩) v.progs.length pc) (progs := v.progs) (lv := .slice (some ⟨lg, 0, none⟩) ll.length lc) (ll := ll) (k := k))
          have HKK := hid (And.intro hkp hkl)
          clear H hj hj6 hm hsz hsz2 hlm hlog hpt hkp hkl
          go_wp2_with fail
          go_region_held3 (fun wx : World => wx.cell? ⟨S, 2, none⟩ = some (.slice (some ⟨pg, 0, none⟩) v.progs.length pc) ∧ wx.cell? ⟨S, 3, none⟩ = some (.slice (some ⟨lg, 0, none⟩) ll.length lc) ∧ wx.cell? ⟨pg, k, none⟩ = some (.string (sL.nth v.progs k)) ∧ wx.cell? ⟨lg, k, none⟩ = some (.slice (tL.nth ll k).2.a (tL.nth ll k).1.length (tL.nth ll k).2.c) ∧ wx.cell? ⟨wo.heap.size, 7, none⟩ = some (.int .u64 (qL.nth v.q.rows k).bits)) ((first | exact hNow))
            (first
            | (go_at_call 39; refine (sbits_i _ _ HF.out.2).mono ?_; rintro e1 w1 ⟨rfl, hF⟩; have H2 := HX.out.drew.same hF; have hNow := H2.jobNow HKK.out.1 HKK.out.2; have H2 := hid H2; clear hF)
            | (go_at_call 40; refine (pack_text _ _ (by have := HPT.out; omega)).mono ?_; rintro e2 w2 ⟨rfl, hF⟩; have H3 := H2.out.same hF; have hNow := H3.jobNow HKK.out.1 HKK.out.2; have H3 := hid H3; clear hF)
            | (go_at_call 38; refine (snum_walk _ _ (by have := HLM.out.2.1; omega)).mono ?_; rintro e3 w3 ⟨rfl, hF⟩; have H4 := H3.out.same hF; have hNow := H4.jobNow HKK.out.1 HKK.out.2; have H4 := hid H4; clear hF)
            | (go_at_call 37; refine (st_bwrite H4.out (R.set i NilT ++ skL S Q v.q v.res (.slice (some ⟨pg, 0, none⟩) v.progs.length pc) v.progs (.slice (some ⟨lg, 0, none⟩) ll.length lc) ll).length _ get5 HSZ.out).mono ?_; rintro e4 w4 ⟨rfl, H5⟩; rw [set5] at H5; have hNow := H5.jobNow HKK.out.1 HKK.out.2; have H5 := hid H5))
          obtain ⟨c2, c3, cp, cl, cb⟩ := hNow
          clear cp cb hcat1 hcat2 hcat3 HX HSZ
          have HB := hid (show St W w4 (((((R.set i NilT ++ skL S Q v.q v.res (.slice (some ⟨pg, 0, none⟩) v.progs.length pc) v.progs (.slice (some ⟨lg, 0, none⟩) ll.length lc) ll) ++ [BdT w.heap.size (pre ++ jobT v k 0)]) ++ [RwT (some ⟨bb, ob, none⟩) v.q.rows]) ++ [BlkT wo.heap.size (qO (qL.nth v.q.rows k))]) ++ [BlkT (wo.heap.size + 1) (nO (qL.nth v.q.rows k))]) by
            have h := H5.out
            rw [show pre ++ jobN v k 6 ++ (bf (qL.nth v.q.rows k).bits.toNat ++ tf (sL.nth v.progs k) ++ nf (tL.nth ll k).1.length).data.toList = pre ++ jobT v k 0 from HM.out] at h
            exact h)
          clear H5 HM
          go_wp2_with fail
          clear c2 c3 cl
          go_loopw [92] (fun jv wi => ∃ j : Nat, j ≤ (tL.nth ll k).1.length ∧ jv = .int .i64 j ∧ St W wi (((((R.set i NilT ++ skL S Q v.q v.res (.slice (some ⟨pg, 0, none⟩) v.progs.length pc) v.progs (.slice (some ⟨lg, 0, none⟩) ll.length lc) ll) ++ [BdT w.heap.size (pre ++ jobT v k j)]) ++ [RwT (some ⟨bb, ob, none⟩) v.q.rows]) ++ [BlkT wo.heap.size (qO (qL.nth v.q.rows k))]) ++ [BlkT (wo.heap.size + 1) (nO (qL.nth v.q.rows k))])) (fun jv _ => (tL.nth ll k).1.length - (intOf jv).toNat)
          case atStart => exact ⟨0, Nat.zero_le _, rfl, HB.out⟩
          case round =>
            clear HB
            obtain ⟨j, hj, rfl, H⟩ := hrel
            by_cases hjl : j < (tL.nth ll k).1.length
            · have hin := HLI.out _ H.drop.drop.drop.drop HKK.out.2
              obtain ⟨ta, hta⟩ : ∃ ta, (tL.nth ll k).2.a = ta := ⟨_, rfl⟩
              rw [hta] at hin ⊢
              obtain ⟨tb, tof, rfl⟩ := hin.sm (by omega)
              have c0 := gs_cells hin j hjl
              rw [Nat.mul_one] at c0
              have hx : (v.logs.getD k [])[j]? = some (sL.nth (tL.nth ll k).1 j) := by rw [HLM.out.1]; exact sL.nth_get hjl
              have hx32 := HLM.out.2.2 _ (sL.mem_nth hjl)
              generalize sL.nth (tL.nth ll k).1 j = x at c0 hx hx32
              have HXX := hid (And.intro hx hx32)
              have HR2 := hid H
              have HJ := hid hjl
              clear hx hx32 H hj hjl hin hta
              have hj0 : (0 : Int) ≤ j := by omega
              have hj1 : (j : Int) < (tL.nth ll k).1.length := by have := HJ.out; omega
              go_wp2_with (first
                | (go_at_call 40; refine (pack_text _ x (by have := HXX.out.2; omega)).mono ?_; rintro e w1 ⟨rfl, hF⟩; have H2 := HR2.out.same hF)
                | (go_at_call 37; refine (st_bwrite H2 ((R.set i NilT ++ skL S Q v.q v.res (.slice (some ⟨pg, 0, none⟩) v.progs.length pc) v.progs (.slice (some ⟨lg, 0, none⟩) ll.length lc) ll)).length _ get5 (pre_le HV.out (by rw [List.append_assoc, jobT_snoc HXX.out.1]; exact HPRE.out _ (jobT_pre v k (j + 1))))).mono ?_; rintro e w2 ⟨rfl, H3⟩; rw [set5, List.append_assoc pre] at H3; have H3 := hid H3))
              go_roundw
              case rel =>
                have h32 := HLM.out.2.1
                have hjo := HJ.out
                refine ⟨j + 1, hjo, by rw [IntWalk.wrap64_in _ (by omega)]; rfl, ?_⟩
                have h := H3.out
                rw [show jobT v k j ++ (tf x).data.toList = jobT v k (j + 1) from jobT_snoc HXX.out.1] at h
                exact h
              case measure => have := HJ.out; have h32 := HLM.out.2.1; rw [IntWalk.wrap64_in _ (by omega)]; simp [intOf]; omega
            · have hje : j = (tL.nth ll k).1.length := by omega
              have HZ := hid (show St W wr ((R.set i NilT ++ skL S Q v.q v.res (.slice (some ⟨pg, 0, none⟩) v.progs.length pc) v.progs (.slice (some ⟨lg, 0, none⟩) ll.length lc) ll) ++ [BdT w.heap.size (v.head ++ (List.range (k + 1)).flatMap v.job)] ++ [RwT (some ⟨bb, ob, none⟩) v.q.rows]) by
                have h := H.drop.drop
                rw [hje, jobT_all v k (by rw [HLM.out.1]), HNEXT.out] at h
                exact h)
              have HJE := hid hje
              have hj1 : ¬ (j : Int) < (tL.nth ll k).1.length := by omega
              clear H hj hjl hje
              go_wp2_with fail
              go_roundw
              case rel => have hn8 := HV.out.q.n; have := HK.out; exact ⟨k + 1, HK.out, by rw [IntWalk.wrap64_in _ (by omega)]; rfl, HZ.out⟩
              case measure => have := HK.out; have hn8 := HV.out.q.n; rw [IntWalk.wrap64_in _ (by omega)]; simp [intOf]; omega
    · have hke : k = v.q.rows.length := by omega
      have HZ := hid H
      have HKE := hid hke
      have hk1 : ¬ (k : Int) < v.q.rows.length := by omega
      have hne : v.head ++ (List.range k).flatMap v.job ≠ [] := by
        intro h
        have h1 := (List.append_eq_nil_iff.1 h).1
        unfold SV.head at h1
        rw [bl_app] at h1
        exact nf_neS _ (List.append_eq_nil_iff.1 h1).1
      have HNE := hid hne
      clear H hlt hk hke hne
      go_wp2_with (go_at_call 41; refine (st_bstring HZ.out ((R.set i NilT ++ skL S Q v.q v.res (.slice pa v.progs.length pc) v.progs (.slice la ll.length lc) ll)).length get_at HNE.out).mono ?_; rintro e w2 ⟨rfl, H3⟩; rw [set_at, List.append_assoc] at H3)
      go_ret
      refine ⟨?_, hback.out _ _ H3⟩
      rw [HKE.out]; rfl
end
end Go.Proofs.YtmgnekjhlfghaaaGreat

/-
  A row of the call's own that is written into, with what it holds; less is said of things; a block is let go. Of no program.
-/
namespace Go.Proofs.YtmgnekjhlfghaaaGreat
open Go.RowKit
set_option linter.unusedVariables false
set_option linter.unusedSimpArgs false

/-- A row that is written into, with what it holds. -/
def Wv1 (e : TypeId) (sz : Nat) (a : Option Addr) (n : Nat) (V : Nat → Value) : Thing1 := fun w F => F = (a.map (·.block)).toList ∧ WRow w e sz a n V
def WvT (e : TypeId) (sz : Nat) (a : Option Addr) (n : Nat) (V : Nat → Value) : Thing := own (Wv1 e sz a n V)
instance (e : TypeId) (sz : Nat) (a : Option Addr) (n : Nat) (V : Nat → Value) : Loc1 (Wv1 e sz a n V) where
  keep := fun ⟨h1, h2⟩ hF hd => ⟨h1, h2.keep hF (fun g hg => hd g (by subst hg; rw [h1]; simp))⟩
  lt := fun ⟨h1, h2⟩ x hx => by
    subst h1
    rcases h2 with ⟨rfl, _⟩ | ⟨g, cur, rfl, hh, _⟩
    · simp at hx
    · simp at hx; subst hx; exact lt_of_block hh

section
variable {W : Base} {w : World} {R : List Thing}

/-- Things of which less is said. -/
theorem St.weaken {R' : List Thing} (H : St W w R) (hl : R'.length = R.length) (h : ∀ (i : Nat) (A A' : Thing), R[i]? = some A → R'[i]? = some A' → A' = A ∨ Loc A' ∧ ∀ F G, A w F G → A' w F G) : St W w R' := by
  obtain ⟨h1, Fs, Gs, h2, h3, h4⟩ := H
  refine ⟨h1, Fs, Gs, fun i A' hA' => ?_, by rw [hl]; exact h3, by rw [hl]; exact h4⟩
  have hlt := lt_of_get hA'
  rw [hl] at hlt
  obtain ⟨g1, g2, g3⟩ := h2 i _ (List.getElem?_eq_getElem hlt)
  rcases h i _ A' (List.getElem?_eq_getElem hlt) hA' with rfl | ⟨k1, k2⟩
  · exact ⟨g1, g2, g3⟩
  · exact ⟨k2 _ _ g1, k1, g3⟩

theorem St.wv (H : St W w R) (i : Nat) {e : TypeId} {sz n : Nat} {a : Option Addr} {V : Nat → Value} (hi : R[i]? = some (WvT e sz a n V)) : WRow w e sz a n V := by
  obtain ⟨F, ⟨_, h1⟩, _⟩ := H.get i hi; exact h1
theorem St.setWv (H : St W w R) (i : Nat) {e : TypeId} {sz n g : Nat} {V : Nat → Value} (hi : R[i]? = some (WvT e sz (some ⟨g, 0, none⟩) n V)) (j : Nat) (v : Value) : St W (w.setCell ⟨g, j, none⟩ v) (R.set i (WvT e sz (some ⟨g, 0, none⟩) n (fun i => if i = j then v else V i))) := by
  obtain ⟨F, ⟨rfl, h1⟩, h2, h3⟩ := H.at i hi
  exact h3 (w.setCell ⟨g, j, none⟩ v) [g] (Wv1 e sz (some ⟨g, 0, none⟩) n _) inferInstance ⟨rfl, h1.set j v⟩ ((Fr.refl _ _).setCell (.inl (by simp)) _) (fun x hx => .inl hx)

/-- The last of the things: less is said of it. -/
theorem St.weakEnd {A A' : Thing} (hL : Loc A') (h : ∀ F G, A w F G → A' w F G) (H : St W w (R ++ [A])) : St W w (R ++ [A']) := by
  refine H.weaken (by simp) (fun i B B' hB hB' => ?_)
  by_cases hi : i < R.length
  · rw [List.getElem?_append_left hi] at hB hB'
    rw [hB] at hB'
    exact .inl (Option.some.inj hB').symm
  · have h1 : i = R.length := by have := lt_of_get hB; simp at this; omega
    subst h1
    simp at hB hB'
    subst hB hB'
    exact .inr ⟨hL, h⟩
/-- A row that stands at the end: what it holds. -/
theorem St.wvEnd {α : Type} (L : Lay α) {e : TypeId} {a : Option Addr} {c : Nat} {l : List α} (H : St W w (R ++ [RowT e L.sz (.slice a l.length c) l.length (L.cells l)])) : St W w (R ++ [WvT e L.sz a l.length (L.at_ l)]) :=
  H.weakEnd (inferInstance : Loc (own (Wv1 _ _ _ _ _))) (fun F G ⟨h1, h2, h3⟩ => ⟨h1, by rw [h2]; cases a <;> rfl, ownsRow_W h3 _ (fun j hj => L.get l j hj)⟩)
/-- A block that is written into is let go. -/
theorem St.lose {w' : World} (H : St W w R) (i : Nat) {b : Nat} {o : Obj} (hi : R[i]? = some (BlkT b o)) (hF : Fr [b] w w') : St W w' (R.set i (own fun _ F => F = [])) := by
  obtain ⟨F, ⟨rfl, _⟩, _, h⟩ := H.at i hi
  exact h w' [] (fun _ F => F = []) ⟨fun h _ _ => h, fun h x hx => by rw [h] at hx; cases hx⟩ rfl hF (by simp)
end
end Go.Proofs.YtmgnekjhlfghaaaGreat

/-
  state: place, Find.
-/
namespace Go.Proofs.YtmgnekjhlfghaaaGreat
open Go.RowKit
set_option linter.unusedVariables false
set_option linter.unusedSimpArgs false

/-- A job, as it is seen. -/
structure PV where
  r : QR
  prog : ByteArray
  log : List ByteArray
def PV.zero : PV := ⟨.zero, ⟨#[]⟩, []⟩
def pF (x : PV × TS) : List Value := [.int .i64 x.1.r.job, .int .i64 x.1.r.st, .int .i64 x.1.r.at_, .int .i64 x.1.r.ba, .int .i64 x.1.r.node, .int .i64 x.1.r.life, .int .i64 x.1.r.code, .int .u64 x.1.r.bits, .string x.1.prog, .slice x.2.a x.1.log.length x.2.c]
def pL : Lay (PV × TS) where
  f := pF
  d := (.zero, ⟨none, 0⟩)
  sz := 10
  len := fun _ => rfl
  pos := by decide
  one := fun a u hu => by simp [pF] at hu; rcases hu with rfl | rfl | rfl | rfl | rfl | rfl | rfl | rfl | rfl | rfl <;> rfl
def SV.place (v : SV) (k : Nat) : PV := ⟨qL.nth v.q.rows k, sL.nth v.progs k, v.logs.getD k []⟩
/-- A log that was told. -/
def LgT (a : Option Addr) (l : List ByteArray) : Thing := WvT 9 1 a l.length (sL.at_ l)

section
variable {W : Base} {w : World} {R : List Thing} {S Q : Nat} {pv lv : Value} {v : SV} {ll : List (List ByteArray × TS)}
theorem St.skDone {T : List Thing} {i : Nat} (hi : R[i]? = some (SkT S v)) (hll : ll.map (·.1) = v.logs) (H : St W w ((R.set i NilT ++ skL S Q v.q v.res pv v.progs lv ll) ++ T)) : St W w (R ++ T) := by
  have hil := lt_of_get hi
  have h1 : St W w ((R ++ T).set i NilT ++ skL S Q v.q v.res pv v.progs lv ll) := H.perm (by
    rw [List.set_append_left _ _ hil, List.append_assoc, List.append_assoc]
    exact List.Perm.append_left _ List.perm_append_comm)
  have h2 := h1.skBack (by rw [List.length_append]; omega)
  rw [hll] at h2
  rwa [things_set_self (by rw [List.getElem?_append_left hil]; exact hi)] at h2

/-- The row that place sees. -/
theorem St.plNow {bx pg pc lg lc k : Nat} {r : QR} {T : List Thing} {q : QS} {res : Int} {progs : List ByteArray} (H : St W w ((R ++ skL S Q q res (.slice (some ⟨pg, 0, none⟩) progs.length pc) progs (.slice (some ⟨lg, 0, none⟩) ll.length lc) ll) ++ ([BlkT bx (qO r)] ++ T))) (hp : k < progs.length) (hl : k < ll.length) :
    w.cell? ⟨S, 2, none⟩ = some (.slice (some ⟨pg, 0, none⟩) progs.length pc) ∧ w.cell? ⟨S, 3, none⟩ = some (.slice (some ⟨lg, 0, none⟩) ll.length lc) ∧ w.cell? ⟨pg, k, none⟩ = some (.string (sL.nth progs k)) ∧ w.cell? ⟨lg, k, none⟩ = some (.slice (tL.nth ll k).2.a (tL.nth ll k).1.length (tL.nth ll k).2.c) ∧
    w.cell? ⟨bx, 0, none⟩ = some (.int .i64 r.job) ∧ w.cell? ⟨bx, 1, none⟩ = some (.int .i64 r.st) ∧ w.cell? ⟨bx, 2, none⟩ = some (.int .i64 r.at_) ∧ w.cell? ⟨bx, 3, none⟩ = some (.int .i64 r.ba) ∧ w.cell? ⟨bx, 4, none⟩ = some (.int .i64 r.node) ∧ w.cell? ⟨bx, 5, none⟩ = some (.int .i64 r.life) ∧ w.cell? ⟨bx, 6, none⟩ = some (.int .i64 r.code) ∧ w.cell? ⟨bx, 7, none⟩ = some (.int .u64 r.bits) := by
  have h0 := H.drop
  have b1 := h0.skS
  have h2 := gs_cells (h0.lay sL _ sk_get2) k hp
  have h3 := (ownsRow_cell (h0.row _ sk_get3) k (gt_get hl)).1
  rw [Nat.zero_add, Nat.mul_one] at h2
  have b2 : w.heap[bx]? = some (qO r) := H.blk ((R ++ skL S Q q res (.slice (some ⟨pg, 0, none⟩) progs.length pc) progs (.slice (some ⟨lg, 0, none⟩) ll.length lc) ll).length + 0) (by rw [get_behind]; rfl)
  exact ⟨cell_blk b1 rfl, cell_blk b1 rfl, h2, h3, cell_blk b2 rfl, cell_blk b2 rfl, cell_blk b2 rfl, cell_blk b2 rfl, cell_blk b2 rfl, cell_blk b2 rfl, cell_blk b2 rfl, cell_blk b2 rfl⟩
/-- A place, empty. -/
abbrev pZ : Obj := .cells #[.int .i64 0, .int .i64 0, .int .i64 0, .int .i64 0, .int .i64 0, .int .i64 0, .int .i64 0, .int .u64 0, .string ⟨#[]⟩, .slice none 0 0] 53
theorem perm_end3 {α : Type _} {T : List α} {a b c : α} : (T ++ ([a] ++ (b :: [c]))).Perm ((T ++ [c]) ++ [a, b]) := by
  rw [List.append_assoc]
  exact List.Perm.append_left _ (List.perm_append_comm (l₁ := [a, b]) (l₂ := [c]))
theorem St.blk10 {T rest : List Thing} {b : Nat} {u0 u1 u2 u3 u4 u5 u6 u7 u8 u9 : Value} {t : TypeId} (v0 v1 v2 v3 v4 v5 v6 v7 v8 v9 : Value) (H : St W w (T ++ (BlkT b (.cells #[u0, u1, u2, u3, u4, u5, u6, u7, u8, u9] t) :: rest))) :
    St W ((((((((((w.setCell ⟨b, 0, none⟩ v0).setCell ⟨b, 1, none⟩ v1).setCell ⟨b, 2, none⟩ v2).setCell ⟨b, 3, none⟩ v3).setCell ⟨b, 4, none⟩ v4).setCell ⟨b, 5, none⟩ v5).setCell ⟨b, 6, none⟩ v6).setCell ⟨b, 7, none⟩ v7).setCell ⟨b, 8, none⟩ v8).setCell ⟨b, 9, none⟩ v9) (T ++ (BlkT b (.cells #[v0, v1, v2, v3, v4, v5, v6, v7, v8, v9] t) :: rest)) := by
  have e : ∀ A B : Thing, (T ++ (A :: rest)).set T.length B = T ++ (B :: rest) := fun A B => by simp
  have g : ∀ A : Thing, (T ++ (A :: rest))[T.length]? = some A := fun A => by simp
  have h1 := H.setBlk T.length (g _) 0 v0
  simp only [e, List.setIfInBounds_toArray, List.set_cons_zero, List.set_cons_succ] at h1
  have h2 := h1.setBlk T.length (g _) 1 v1
  simp only [e, List.setIfInBounds_toArray, List.set_cons_zero, List.set_cons_succ] at h2
  have h3 := h2.setBlk T.length (g _) 2 v2
  simp only [e, List.setIfInBounds_toArray, List.set_cons_zero, List.set_cons_succ] at h3
  have h4 := h3.setBlk T.length (g _) 3 v3
  simp only [e, List.setIfInBounds_toArray, List.set_cons_zero, List.set_cons_succ] at h4
  have h5 := h4.setBlk T.length (g _) 4 v4
  simp only [e, List.setIfInBounds_toArray, List.set_cons_zero, List.set_cons_succ] at h5
  have h6 := h5.setBlk T.length (g _) 5 v5
  simp only [e, List.setIfInBounds_toArray, List.set_cons_zero, List.set_cons_succ] at h6
  have h7 := h6.setBlk T.length (g _) 6 v6
  simp only [e, List.setIfInBounds_toArray, List.set_cons_zero, List.set_cons_succ] at h7
  have h8 := h7.setBlk T.length (g _) 7 v7
  simp only [e, List.setIfInBounds_toArray, List.set_cons_zero, List.set_cons_succ] at h8
  have h9 := h8.setBlk T.length (g _) 8 v8
  simp only [e, List.setIfInBounds_toArray, List.set_cons_zero, List.set_cons_succ] at h9
  have h10 := h9.setBlk T.length (g _) 9 v9
  simp only [e, List.setIfInBounds_toArray, List.set_cons_zero, List.set_cons_succ] at h10
  exact h10
set_option maxHeartbeats 4000000 in
set_option maxRecDepth 100000 in
theorem st_splace (H : St W w R) (i : Nat) (hi : R[i]? = some (SkT S v)) (hv : v.wf) (k : Nat) (hk : k < v.q.rows.length) (r : QR) (hr : qL.nth v.q.rows k = r) :
    Calls Tryz.prog 31 #[.pointer (some ⟨S, 0, none⟩), .agg #[.int .i64 r.job, .int .i64 r.st, .int .i64 r.at_, .int .i64 r.ba, .int .i64 r.node, .int .i64 r.life, .int .i64 r.code, .int .u64 r.bits]] w fun e w' => ∃ a, e = .returned (.agg (pF (v.place k, ⟨a, (v.place k).log.length⟩)).toArray) ∧ St W w' (R ++ [LgT a (v.place k).log]) := by
  have HI := hid hi
  obtain ⟨Q, pv, lv, ll, hll, H1⟩ := H.sk i hi
  obtain ⟨pa, pc, rfl, -, -, -, hps⟩ := H1.rowShape _ sk_get2
  obtain ⟨la, lc, rfl, -, -, -, hls⟩ := H1.rowShape _ sk_get3
  have hlen : ll.length = v.logs.length := by rw [← hll, List.length_map]
  have hkp : k < v.progs.length := by rw [hv.np]; exact hk
  have hkl : k < ll.length := by rw [hlen, hv.nl]; exact hk
  obtain ⟨pg, rfl⟩ := hps (by omega)
  obtain ⟨lg, rfl⟩ := hls (by omega)
  have hlog : v.logs.getD k [] = (tL.nth ll k).1 := by
    rw [← hll, List.getD, List.getElem?_map, tL.nth_get hkl]; rfl
  have hlm := hv.lg (v.logs.getD k []) (by rw [List.getD, List.getElem?_eq_getElem (by rw [← hlen]; exact hkl)]; exact List.getElem_mem _)
  rw [hlog] at hlm
  have hjob : r.job = (k : Int) + 1 := by rw [← hr]; exact (may_facts (hv.q.ok k hk)).1
  have hn8 := hv.q.n
  have hw1 : IntKind.i64.wrap (r.job - 1) = (k : Int) := by rw [hjob, show (k : Int) + 1 - 1 = k by omega]; exact IntWalk.i64_in _ (by omega)
  have hpl : v.place k = ⟨r, sL.nth v.progs k, (tL.nth ll k).1⟩ := by unfold SV.place; rw [hr, hlog]
  rw [hpl]
  have hget := sk_getL (R := R.set i NilT) (S := S) (Q := Q) (q := v.q) (res := v.res) (pv := .slice (some ⟨pg, 0, none⟩) v.progs.length pc) (progs := v.progs) (lv := .slice (some ⟨lg, 0, none⟩) ll.length lc) (tL.nth_get hkl)
  have hk0 : (0 : Int) ≤ k := by omega
  have hk1 : (k : Int) < v.progs.length := by omega
  have hk2 : (k : Int) < ll.length := by omega
  have HKK := hid (And.intro hkp hkl)
  have HG := hid hget
  have HLL := hid hll
  have HLM := hid hlm
  have H2 := hid (show St W ((w.alloc (qO r)).alloc pZ) ((R.set i NilT ++ skL S Q v.q v.res (.slice (some ⟨pg, 0, none⟩) v.progs.length pc) v.progs (.slice (some ⟨lg, 0, none⟩) ll.length lc) ll) ++ ([BlkT w.heap.size (qO r)] ++ [BlkT (w.heap.size + 1) pZ])) by
    rw [← List.append_assoc]
    exact (H1.alloc (qO r)).allocAt pZ (w.heap.size + 1) (by simp))
  have hNow := H2.out.drew.plNow hkp hkl
  clear H H1 hi hll hps hls hlen hkp hkl hlog hlm hn8 hpl hget hr hk hjob hv
  go_enter Tryz.func31, Tryz.ntmps31
  go_wp2_with fail
  refine wp_region_held_drew (S := (fun wx : World => wx.cell? ⟨S, 2, none⟩ = some (.slice (some ⟨pg, 0, none⟩) v.progs.length pc) ∧ wx.cell? ⟨S, 3, none⟩ = some (.slice (some ⟨lg, 0, none⟩) ll.length lc) ∧ wx.cell? ⟨pg, k, none⟩ = some (.string (sL.nth v.progs k)) ∧ wx.cell? ⟨lg, k, none⟩ = some (.slice (tL.nth ll k).2.a (tL.nth ll k).1.length (tL.nth ll k).2.c) ∧ wx.cell? ⟨w.heap.size, 0, none⟩ = some (.int .i64 r.job) ∧ wx.cell? ⟨w.heap.size, 1, none⟩ = some (.int .i64 r.st) ∧ wx.cell? ⟨w.heap.size, 2, none⟩ = some (.int .i64 r.at_) ∧ wx.cell? ⟨w.heap.size, 3, none⟩ = some (.int .i64 r.ba) ∧ wx.cell? ⟨w.heap.size, 4, none⟩ = some (.int .i64 r.node) ∧ wx.cell? ⟨w.heap.size, 5, none⟩ = some (.int .i64 r.life) ∧ wx.cell? ⟨w.heap.size, 6, none⟩ = some (.int .i64 r.code) ∧ wx.cell? ⟨w.heap.size, 7, none⟩ = some (.int .u64 r.bits))) (by kernel_rfl) hNow (fun hHeld => ?_)
  clear hNow
  refine takeD (i := 0) (d := 5) (v := ?_) rfl rfl (by kernel_rfl) (by kernel_rfl) (by kernel_rfl) (fun _ _ _ h => h) (Or.inl ⟨by rfl, ?_⟩) hHeld ?_
  rotate_left
  · intro wq hSw; (try dsimp only at hSw); go_simp; all_goals (with_reducible rfl)
  simp only [Act.put, List.setIfInBounds_toArray, List.set_cons_zero, List.set_cons_succ]
  refine takeD (i := 1) (d := 6) (v := ?_) rfl rfl (by kernel_rfl) (by kernel_rfl) (by kernel_rfl) (fun _ _ _ h => h) (Or.inl ⟨by rfl, ?_⟩) hHeld ?_
  rotate_left
  · intro wq hSw; (try dsimp only at hSw); go_simp; all_goals (with_reducible rfl)
  simp only [Act.put, List.setIfInBounds_toArray, List.set_cons_zero, List.set_cons_succ]
  refine takeD (i := 2) (d := 7) (v := ?_) rfl rfl (by kernel_rfl) (by kernel_rfl) (by kernel_rfl) (fun _ _ _ h => h) (Or.inl ⟨by rfl, ?_⟩) hHeld ?_
  rotate_left
  · intro wq hSw; (try dsimp only at hSw); go_simp; all_goals (with_reducible rfl)
  simp only [Act.put, List.setIfInBounds_toArray, List.set_cons_zero, List.set_cons_succ]
  refine takeD (i := 3) (d := 8) (v := ?_) rfl rfl (by kernel_rfl) (by kernel_rfl) (by kernel_rfl) (fun _ _ _ h => h) (Or.inl ⟨by rfl, ?_⟩) hHeld ?_
  rotate_left
  · intro wq hSw; (try dsimp only at hSw); go_simp; all_goals (with_reducible rfl)
  simp only [Act.put, List.setIfInBounds_toArray, List.set_cons_zero, List.set_cons_succ]
  refine takeD (i := 4) (d := 9) (v := ?_) rfl rfl (by kernel_rfl) (by kernel_rfl) (by kernel_rfl) (fun _ _ _ h => h) (Or.inl ⟨by rfl, ?_⟩) hHeld ?_
  rotate_left
  · intro wq hSw; (try dsimp only at hSw); go_simp; all_goals (with_reducible rfl)
  simp only [Act.put, List.setIfInBounds_toArray, List.set_cons_zero, List.set_cons_succ]
  refine takeD (i := 5) (d := 10) (v := ?_) rfl rfl (by kernel_rfl) (by kernel_rfl) (by kernel_rfl) (fun _ _ _ h => h) (Or.inl ⟨by rfl, ?_⟩) hHeld ?_
  rotate_left
  · intro wq hSw; (try dsimp only at hSw); go_simp; all_goals (with_reducible rfl)
  simp only [Act.put, List.setIfInBounds_toArray, List.set_cons_zero, List.set_cons_succ]
  refine takeD (i := 6) (d := 11) (v := ?_) rfl rfl (by kernel_rfl) (by kernel_rfl) (by kernel_rfl) (fun _ _ _ h => h) (Or.inl ⟨by rfl, ?_⟩) hHeld ?_
  rotate_left
  · intro wq hSw; (try dsimp only at hSw); go_simp; all_goals (with_reducible rfl)
  simp only [Act.put, List.setIfInBounds_toArray, List.set_cons_zero, List.set_cons_succ]
  refine takeD (i := 7) (d := 12) (v := ?_) rfl rfl (by kernel_rfl) (by kernel_rfl) (by kernel_rfl) (fun _ _ _ h => h) (Or.inl ⟨by rfl, ?_⟩) hHeld ?_
  rotate_left
  · intro wq hSw; (try dsimp only at hSw); go_simp; all_goals (with_reducible rfl)
  simp only [Act.put, List.setIfInBounds_toArray, List.set_cons_zero, List.set_cons_succ]
  refine takeD (i := 8) (d := 13) (v := ?_) rfl rfl (by kernel_rfl) (by kernel_rfl) (by kernel_rfl) (fun _ _ _ h => h) (Or.inl ⟨by rfl, ?_⟩) hHeld ?_
  rotate_left
  · intro wq hSw; (try dsimp only at hSw); go_simp; all_goals (with_reducible rfl)
  simp only [Act.put, List.setIfInBounds_toArray, List.set_cons_zero, List.set_cons_succ]
  refine takeD (i := 9) (d := 14) (v := ?_) rfl rfl (by kernel_rfl) (by kernel_rfl) (by kernel_rfl) (fun _ _ _ h => h) (Or.inl ⟨by rfl, ?_⟩) hHeld ?_
  rotate_left
  · intro wq hSw; (try dsimp only at hSw); go_simp; all_goals (with_reducible rfl)
  simp only [Act.put, List.setIfInBounds_toArray, List.set_cons_zero, List.set_cons_succ]
  refine takeD (i := 10) (d := 15) (v := ?_) rfl rfl (by kernel_rfl) (by kernel_rfl) (by kernel_rfl) (fun _ _ _ h => h) (Or.inl ⟨by rfl, ?_⟩) hHeld ?_
  rotate_left
  · intro wq hSw; (try dsimp only at hSw); go_simp; all_goals (with_reducible rfl)
  simp only [Act.put, List.setIfInBounds_toArray, List.set_cons_zero, List.set_cons_succ]
  refine takeD (i := 11) (d := 16) (v := ?_) rfl rfl (by kernel_rfl) (by kernel_rfl) (by kernel_rfl) (fun _ _ _ h => h) (Or.inl ⟨by rfl, ?_⟩) hHeld ?_
  rotate_left
  · intro wq hSw; (try dsimp only at hSw); go_simp; all_goals (with_reducible rfl)
  simp only [Act.put, List.setIfInBounds_toArray, List.set_cons_zero, List.set_cons_succ]
  refine takeD (i := 12) (d := 17) (v := ?_) rfl rfl (by kernel_rfl) (by kernel_rfl) (by kernel_rfl) (fun _ _ _ h => h) (Or.inl ⟨by rfl, ?_⟩) hHeld ?_
  rotate_left
  · intro wq hSw; (try dsimp only at hSw); go_simp; all_goals (with_reducible rfl)
  simp only [Act.put, List.setIfInBounds_toArray, List.set_cons_zero, List.set_cons_succ]
  refine takeD (i := 13) (d := 18) (v := ?_) rfl rfl (by kernel_rfl) (by kernel_rfl) (by kernel_rfl) (fun _ _ _ h => h) (Or.inl ⟨by rfl, ?_⟩) hHeld ?_
  rotate_left
  · intro wq hSw; (try dsimp only at hSw); go_simp; all_goals (with_reducible rfl)
  simp only [Act.put, List.setIfInBounds_toArray, List.set_cons_zero, List.set_cons_succ]
  refine takeD (i := 14) (d := 19) (v := ?_) rfl rfl (by kernel_rfl) (by kernel_rfl) (by kernel_rfl) (fun _ _ _ h => h) (Or.inl ⟨by rfl, ?_⟩) hHeld ?_
  rotate_left
  · intro wq hSw; (try dsimp only at hSw); go_simp; all_goals (with_reducible rfl)
  simp only [Act.put, List.setIfInBounds_toArray, List.set_cons_zero, List.set_cons_succ]
  refine takeD (i := 15) (d := 20) (v := ?_) rfl rfl (by kernel_rfl) (by kernel_rfl) (by kernel_rfl) (fun _ _ _ h => h) (Or.inl ⟨by rfl, ?_⟩) hHeld ?_
  rotate_left
  · intro wq hSw; (try dsimp only at hSw); go_simp; all_goals (with_reducible rfl)
  simp only [Act.put, List.setIfInBounds_toArray, List.set_cons_zero, List.set_cons_succ]
  refine takeD (i := 16) (d := 21) (v := ?_) rfl rfl (by kernel_rfl) (by kernel_rfl) (by kernel_rfl) (fun _ _ _ h => h) (Or.inl ⟨by rfl, ?_⟩) hHeld ?_
  rotate_left
  · intro wq hSw; (try dsimp only at hSw); go_simp; all_goals (with_reducible rfl)
  simp only [Act.put, List.setIfInBounds_toArray, List.set_cons_zero, List.set_cons_succ]
  refine takeD (i := 17) (d := 22) (v := ?_) rfl rfl (by kernel_rfl) (by kernel_rfl) (by kernel_rfl) (fun _ _ _ h => h) (Or.inl ⟨by rfl, ?_⟩) hHeld ?_
  rotate_left
  · intro wq hSw; (try dsimp only at hSw); go_simp; all_goals (with_reducible rfl)
  simp only [Act.put, List.setIfInBounds_toArray, List.set_cons_zero, List.set_cons_succ]
  refine takeD (i := 18) (d := 23) (v := ?_) rfl rfl (by kernel_rfl) (by kernel_rfl) (by kernel_rfl) (fun _ _ _ h => h) (Or.inl ⟨by rfl, ?_⟩) hHeld ?_
  rotate_left
  · intro wq hSw; (try dsimp only at hSw); go_simp; all_goals (with_reducible rfl)
  simp only [Act.put, List.setIfInBounds_toArray, List.set_cons_zero, List.set_cons_succ]
  refine wpAnyH_ready (rs := [19]) (by kernel_rfl) (by simp) ?_
  refine AllReadyH.cons rfl (fun K hK => ?_) AllReadyH.nil
  go_simp
  go_at_call 63
  refine (st_clone_gs H2.out.drew _ (get_l HG.out) (by have := HLM.out.1; omega)).mono ?_
  rintro e1 w1 ⟨a1, c1, rfl, H3⟩
  rw [List.append_assoc] at H3
  have hN := H3.plNow HKK.out.1 HKK.out.2
  have HS := hid (H3.rowShape (((R.set i NilT ++ skL S Q v.q v.res (.slice (some ⟨pg, 0, none⟩) v.progs.length pc) v.progs (.slice (some ⟨lg, 0, none⟩) ll.length lc) ll)).length + 2) (by rw [get_behind]; rfl))
  have H3 := hid H3
  refine hK.out _ _ hN (fun hHeld => ?_)
  clear hK K hN
  refine wpAnyH_ready (rs := [20]) (by kernel_rfl) (by simp) ?_
  refine AllReadyH.cons rfl (fun K hK => ?_) AllReadyH.nil
  go_simp
  go_at_call 86
  refine (clip_gs _ a1 _ c1 (by obtain ⟨_, _, h, _, h1, _⟩ := HS.out; cases h; exact h1) (by obtain ⟨_, _, h, _, _, h1, _⟩ := HS.out; cases h; unfold maxLen at h1; omega) (by obtain ⟨_, _, h, h1, _⟩ := HS.out; cases h; exact h1)).mono ?_
  rintro e2 w2 ⟨rfl, rfl⟩
  refine hK.out _ _ hHeld (fun hHeld => ?_)
  clear hK K
  refine takeD (i := 21) (d := 26) (v := ?_) rfl rfl (by kernel_rfl) (by kernel_rfl) (by kernel_rfl) (fun _ _ _ h => h) (Or.inl ⟨by rfl, ?_⟩) hHeld ?_
  rotate_left
  · intro wq hSw; (try dsimp only at hSw); go_simp; all_goals (with_reducible rfl)
  simp only [Act.put, List.setIfInBounds_toArray, List.set_cons_zero, List.set_cons_succ]
  have bz : w1.heap[w.heap.size + 1]? = some pZ := H3.out.blk (((R.set i NilT ++ skL S Q v.q v.res (.slice (some ⟨pg, 0, none⟩) v.progs.length pc) v.progs (.slice (some ⟨lg, 0, none⟩) ll.length lc) ll)).length + 1) (by rw [get_behind]; rfl)
  have zz0 : w1.cell? ⟨w.heap.size + 1, 0, none⟩ = some (.int .i64 0) := cell_blk bz rfl
  have yy0 : w1.frozen? ⟨w.heap.size + 1, 0, none⟩ = false := free_blk bz
  have zz1 : w1.cell? ⟨w.heap.size + 1, 1, none⟩ = some (.int .i64 0) := cell_blk bz rfl
  have yy1 : w1.frozen? ⟨w.heap.size + 1, 1, none⟩ = false := free_blk bz
  have zz2 : w1.cell? ⟨w.heap.size + 1, 2, none⟩ = some (.int .i64 0) := cell_blk bz rfl
  have yy2 : w1.frozen? ⟨w.heap.size + 1, 2, none⟩ = false := free_blk bz
  have zz3 : w1.cell? ⟨w.heap.size + 1, 3, none⟩ = some (.int .i64 0) := cell_blk bz rfl
  have yy3 : w1.frozen? ⟨w.heap.size + 1, 3, none⟩ = false := free_blk bz
  have zz4 : w1.cell? ⟨w.heap.size + 1, 4, none⟩ = some (.int .i64 0) := cell_blk bz rfl
  have yy4 : w1.frozen? ⟨w.heap.size + 1, 4, none⟩ = false := free_blk bz
  have zz5 : w1.cell? ⟨w.heap.size + 1, 5, none⟩ = some (.int .i64 0) := cell_blk bz rfl
  have yy5 : w1.frozen? ⟨w.heap.size + 1, 5, none⟩ = false := free_blk bz
  have zz6 : w1.cell? ⟨w.heap.size + 1, 6, none⟩ = some (.int .i64 0) := cell_blk bz rfl
  have yy6 : w1.frozen? ⟨w.heap.size + 1, 6, none⟩ = false := free_blk bz
  have zz7 : w1.cell? ⟨w.heap.size + 1, 7, none⟩ = some (.int .u64 0) := cell_blk bz rfl
  have yy7 : w1.frozen? ⟨w.heap.size + 1, 7, none⟩ = false := free_blk bz
  have zz8 : w1.cell? ⟨w.heap.size + 1, 8, none⟩ = some (.string ⟨#[]⟩) := cell_blk bz rfl
  have yy8 : w1.frozen? ⟨w.heap.size + 1, 8, none⟩ = false := free_blk bz
  have zz9 : w1.cell? ⟨w.heap.size + 1, 9, none⟩ = some (.slice none 0 0) := cell_blk bz rfl
  have yy9 : w1.frozen? ⟨w.heap.size + 1, 9, none⟩ = false := free_blk bz
  refine wpAnyH_ready (rs := [22]) (by kernel_rfl) (by simp) ?_
  refine AllReadyH.cons rfl (fun K hK => ?_) AllReadyH.nil
  clear hHeld
  go_simp
  have H4 := St.blk10 (T := (R.set i NilT ++ skL S Q v.q v.res (.slice (some ⟨pg, 0, none⟩) v.progs.length pc) v.progs (.slice (some ⟨lg, 0, none⟩) ll.length lc) ll) ++ [BlkT w.heap.size (qO r)]) (rest := [RowT 9 1 (.slice a1 (tL.nth ll k).1.length c1) (tL.nth ll k).1.length (sL.cells (tL.nth ll k).1)]) (.int .i64 r.job) (.int .i64 r.st) (.int .i64 r.at_) (.int .i64 r.ba) (.int .i64 r.node) (.int .i64 r.life) (.int .i64 r.code) (.int .u64 r.bits) (.string (sL.nth v.progs k)) (.slice a1 (tL.nth ll k).1.length (tL.nth ll k).1.length) (by rw [List.append_assoc]; exact H3.out)
  rw [List.append_assoc] at H4
  have hN := H4.plNow HKK.out.1 HKK.out.2
  have b4 := H4.blk (((R.set i NilT ++ skL S Q v.q v.res (.slice (some ⟨pg, 0, none⟩) v.progs.length pc) v.progs (.slice (some ⟨lg, 0, none⟩) ll.length lc) ll)).length + 1) (by rw [get_behind]; rfl)
  have x0 := cell_blk (i := 0) b4 rfl
  have x1 := cell_blk (i := 1) b4 rfl
  have x2 := cell_blk (i := 2) b4 rfl
  have x3 := cell_blk (i := 3) b4 rfl
  have x4 := cell_blk (i := 4) b4 rfl
  have x5 := cell_blk (i := 5) b4 rfl
  have x6 := cell_blk (i := 6) b4 rfl
  have x7 := cell_blk (i := 7) b4 rfl
  have x8 := cell_blk (i := 8) b4 rfl
  have x9 := cell_blk (i := 9) b4 rfl
  have H4 := hid H4
  refine hK.out _ _ hN (fun _ => ?_)
  clear hK K hN zz0 zz1 zz2 zz3 zz4 zz5 zz6 zz7 zz8 zz9 yy0 yy1 yy2 yy3 yy4 yy5 yy6 yy7 yy8 yy9 bz b4
  refine wpAnyH_done (by kernel_rfl) ?_ _
  go_wp2_with fail
  (try simp only [Exit.inBlock, Exit.then])
  refine bodyPost_ret (v := .agg #[.int .i64 r.job, .int .i64 r.st, .int .i64 r.at_, .int .i64 r.ba, .int .i64 r.node, .int .i64 r.life, .int .i64 r.code, .int .u64 r.bits, .string (sL.nth v.progs k), .slice a1 (tL.nth ll k).1.length (tL.nth ll k).1.length]) (by simp [results, Tryz.results31, go_sem, x0, x1, x2, x3, x4, x5, x6, x7, x8, x9]) rfl ?_
  refine ⟨a1, rfl, ?_⟩
  have h5 : St W _ ((R.set i NilT ++ skL S Q v.q v.res (.slice (some ⟨pg, 0, none⟩) v.progs.length pc) v.progs (.slice (some ⟨lg, 0, none⟩) ll.length lc) ll) ++ [RowT 9 1 (.slice a1 (tL.nth ll k).1.length c1) (tL.nth ll k).1.length (sL.cells (tL.nth ll k).1)]) := H4.out.sub perm_end3
  exact (h5.skDone HI.out HLL.out).wvEnd sL
end
end Go.Proofs.YtmgnekjhlfghaaaGreat

/-
  state: Find.
-/
namespace Go.Proofs.YtmgnekjhlfghaaaGreat
open Go.RowKit
set_option linter.unusedVariables false
set_option linter.unusedSimpArgs false

section
variable {W : Base} {w : World} {R : List Thing} {S : Nat} {v : SV}
/-- A place, boxed. -/
abbrev pO (p : PV × TS) : Obj := .cells #[.int .i64 p.1.r.job, .int .i64 p.1.r.st, .int .i64 p.1.r.at_, .int .i64 p.1.r.ba, .int .i64 p.1.r.node, .int .i64 p.1.r.life, .int .i64 p.1.r.code, .int .u64 p.1.r.bits, .string p.1.prog, .slice p.2.a p.1.log.length p.2.c] 53
theorem St.toEnd {b : Nat} {o : Obj} (H : St W w (R ++ [BlkT b o])) : St W w (R ++ (BlkT b o :: [])) := H
def SV.sfind (v : SV) (b : Int) : PV × Bool := if (v.q.find b).2 = true then (v.place ((v.q.find b).1.job - 1).toNat, true) else (.zero, false)
theorem St.lgNone (H : St W w R) : St W w (R ++ [LgT none []]) := H.new (A := Wv1 9 1 none 0 (sL.at_ [])) (F := []) (Fr.refl _ _) inferInstance ⟨rfl, .inl ⟨rfl, rfl⟩⟩ (by simp)
theorem perm_find {α : Type _} {T : List α} {a b c : α} : (T ++ (a :: ([b] ++ [c]))).Perm ((T ++ [c]) ++ [a, b]) := by
  rw [List.append_assoc]
  exact List.Perm.append_left _ (List.perm_append_comm (l₁ := [a, b]) (l₂ := [c]))
set_option maxHeartbeats 4000000 in
set_option maxRecDepth 100000 in
theorem st_sfind (H : St W w R) (i : Nat) (hi : R[i]? = some (SkT S v)) (hv : v.wf) (b : Int) :
    Calls Tryz.prog 12 #[.pointer (some ⟨S, 0, none⟩), .int .i64 b] w fun e w' => ∃ a, e = .returned (.tuple #[.agg (pF ((v.sfind b).1, ⟨a, (v.sfind b).1.log.length⟩)).toArray, .bool (v.sfind b).2]) ∧ St W w' (R ++ [LgT a (v.sfind b).1.log]) := by
  have HI := hid hi
  obtain ⟨Q, pv, lv, ll, hll, H1⟩ := (H.alloc pZ).sk i (get_l hi)
  have b1 := H1.skS
  have s0 := cell_blk (i := 0) b1 rfl
  have hq := hid (st_find H1 _ sk_get1 hv.q.n b)
  have HH := hid (H.alloc pZ)
  have HV := hid hv
  clear H1 b1 hll H hi hv
  go_enter Tryz.func12, Tryz.ntmps12
  go_wp2_with fail
  refine hq.out.mono ?_
  rintro e w1 ⟨x, z, hx, rfl, hF⟩
  have HX := hid hx
  have H2 := hid (HH.out.same hF)
  have bz : w1.heap[w.heap.size]? = some pZ := H2.out.chB
  have hlb := lt_of_block bz
  have zz0 : w1.cell? ⟨w.heap.size, 0, none⟩ = some (.int .i64 0) := cell_blk bz rfl
  have yy0 : w1.frozen? ⟨w.heap.size, 0, none⟩ = false := free_blk bz
  have zz1 : w1.cell? ⟨w.heap.size, 1, none⟩ = some (.int .i64 0) := cell_blk bz rfl
  have yy1 : w1.frozen? ⟨w.heap.size, 1, none⟩ = false := free_blk bz
  have zz2 : w1.cell? ⟨w.heap.size, 2, none⟩ = some (.int .i64 0) := cell_blk bz rfl
  have yy2 : w1.frozen? ⟨w.heap.size, 2, none⟩ = false := free_blk bz
  have zz3 : w1.cell? ⟨w.heap.size, 3, none⟩ = some (.int .i64 0) := cell_blk bz rfl
  have yy3 : w1.frozen? ⟨w.heap.size, 3, none⟩ = false := free_blk bz
  have zz4 : w1.cell? ⟨w.heap.size, 4, none⟩ = some (.int .i64 0) := cell_blk bz rfl
  have yy4 : w1.frozen? ⟨w.heap.size, 4, none⟩ = false := free_blk bz
  have zz5 : w1.cell? ⟨w.heap.size, 5, none⟩ = some (.int .i64 0) := cell_blk bz rfl
  have yy5 : w1.frozen? ⟨w.heap.size, 5, none⟩ = false := free_blk bz
  have zz6 : w1.cell? ⟨w.heap.size, 6, none⟩ = some (.int .i64 0) := cell_blk bz rfl
  have yy6 : w1.frozen? ⟨w.heap.size, 6, none⟩ = false := free_blk bz
  have zz7 : w1.cell? ⟨w.heap.size, 7, none⟩ = some (.int .u64 0) := cell_blk bz rfl
  have yy7 : w1.frozen? ⟨w.heap.size, 7, none⟩ = false := free_blk bz
  have zz8 : w1.cell? ⟨w.heap.size, 8, none⟩ = some (.string ⟨#[]⟩) := cell_blk bz rfl
  have yy8 : w1.frozen? ⟨w.heap.size, 8, none⟩ = false := free_blk bz
  have zz9 : w1.cell? ⟨w.heap.size, 9, none⟩ = some (.slice none 0 0) := cell_blk bz rfl
  have yy9 : w1.frozen? ⟨w.heap.size, 9, none⟩ = false := free_blk bz
  clear hx hF bz s0
  cases z
  · go_upto_region 3 with (fail)
    go_cut [4, 5] from 6 (fun s4 s5 wx => s4 = .pointer (some ⟨w.heap.size, 0, none⟩) ∧ s5 = .bool false ∧ wx.heap[w.heap.size]? = some (pO (.zero, ⟨none, 0⟩)) ∧ St W wx R)
    case first =>
      go_wp2_with fail
      go_meet
      have H4 := St.blk10 (T := R) (rest := []) (.int .i64 0) (.int .i64 0) (.int .i64 0) (.int .i64 0) (.int .i64 0) (.int .i64 0) (.int .i64 0) (.int .u64 0) (.string ⟨#[]⟩) (.slice none 0 0) H2.out.toEnd
      have hb := (H4.alloc_ (qO x)).chB
      have hd := (H4.alloc_ (qO x)).drop
      clear H4
      exact ⟨rfl, rfl, hb, hd⟩
    case rest =>
      obtain ⟨rfl, rfl, hb, hd⟩ := hcut
      have x0 := cell_blk (i := 0) hb rfl
      have x1 := cell_blk (i := 1) hb rfl
      have x2 := cell_blk (i := 2) hb rfl
      have x3 := cell_blk (i := 3) hb rfl
      have x4 := cell_blk (i := 4) hb rfl
      have x5 := cell_blk (i := 5) hb rfl
      have x6 := cell_blk (i := 6) hb rfl
      have x7 := cell_blk (i := 7) hb rfl
      have x8 := cell_blk (i := 8) hb rfl
      have x9 := cell_blk (i := 9) hb rfl
      have hs : v.sfind b = (.zero, false) := by unfold SV.sfind; rw [HX.out]; rfl
      have HS := hid hs
      have HD := hid hd
      clear hs hd hb
      dsimp only at x0 x1 x2 x3 x4 x5 x6 x7 x8 x9
      go_wp2_with fail
      (try simp only [Exit.inBlock, Exit.then])
      refine bodyPost_ret (v := .tuple #[.agg #[.int .i64 0, .int .i64 0, .int .i64 0, .int .i64 0, .int .i64 0, .int .i64 0, .int .i64 0, .int .u64 0, .string ⟨#[]⟩, .slice none 0 0], .bool false]) (by simp [PV.zero, QR.zero, results, Tryz.results12, go_sem, x0, x1, x2, x3, x4, x5, x6, x7, x8, x9]) rfl ?_
      exact ⟨none, by rw [HS.out]; rfl, by rw [HS.out]; exact HD.out.lgNone⟩
  · obtain ⟨k, hk, hxk, hjob⟩ := sfind_at HV.out.q HX.out
    have HP := hid (st_splace (H2.out.alloc (qO x)) i (get_l (get_l HI.out)) HV.out k hk x hxk.symm)
    have HJ := hid (And.intro hk hjob)
    clear zz0 zz1 zz2 zz3 zz4 zz5 zz6 zz7 zz8 zz9 yy0 yy1 yy2 yy3 yy4 yy5 yy6 yy7 yy8 yy9 hk hxk hjob
    go_upto_region 4 with (fail)
    go_cut [4, 5] from 6 (fun s4 s5 wx => ∃ a, s4 = .pointer (some ⟨w.heap.size, 0, none⟩) ∧ s5 = .bool true ∧ wx.heap[w.heap.size]? = some (pO (v.place k, ⟨a, (v.place k).log.length⟩)) ∧ St W wx (R ++ [LgT a (v.place k).log]))
    case first =>
      go_wp2_with fail
      refine HP.out.mono ?_
      rintro e w2 ⟨a, rfl, H3⟩
      have bz : w2.heap[w.heap.size]? = some pZ := H3.drop.drop.chB
      have hlb := lt_of_block bz
      have zz0 : w2.cell? ⟨w.heap.size, 0, none⟩ = some (.int .i64 0) := cell_blk bz rfl
      have yy0 : w2.frozen? ⟨w.heap.size, 0, none⟩ = false := free_blk bz
      have zz1 : w2.cell? ⟨w.heap.size, 1, none⟩ = some (.int .i64 0) := cell_blk bz rfl
      have yy1 : w2.frozen? ⟨w.heap.size, 1, none⟩ = false := free_blk bz
      have zz2 : w2.cell? ⟨w.heap.size, 2, none⟩ = some (.int .i64 0) := cell_blk bz rfl
      have yy2 : w2.frozen? ⟨w.heap.size, 2, none⟩ = false := free_blk bz
      have zz3 : w2.cell? ⟨w.heap.size, 3, none⟩ = some (.int .i64 0) := cell_blk bz rfl
      have yy3 : w2.frozen? ⟨w.heap.size, 3, none⟩ = false := free_blk bz
      have zz4 : w2.cell? ⟨w.heap.size, 4, none⟩ = some (.int .i64 0) := cell_blk bz rfl
      have yy4 : w2.frozen? ⟨w.heap.size, 4, none⟩ = false := free_blk bz
      have zz5 : w2.cell? ⟨w.heap.size, 5, none⟩ = some (.int .i64 0) := cell_blk bz rfl
      have yy5 : w2.frozen? ⟨w.heap.size, 5, none⟩ = false := free_blk bz
      have zz6 : w2.cell? ⟨w.heap.size, 6, none⟩ = some (.int .i64 0) := cell_blk bz rfl
      have yy6 : w2.frozen? ⟨w.heap.size, 6, none⟩ = false := free_blk bz
      have zz7 : w2.cell? ⟨w.heap.size, 7, none⟩ = some (.int .u64 0) := cell_blk bz rfl
      have yy7 : w2.frozen? ⟨w.heap.size, 7, none⟩ = false := free_blk bz
      have zz8 : w2.cell? ⟨w.heap.size, 8, none⟩ = some (.string ⟨#[]⟩) := cell_blk bz rfl
      have yy8 : w2.frozen? ⟨w.heap.size, 8, none⟩ = false := free_blk bz
      have zz9 : w2.cell? ⟨w.heap.size, 9, none⟩ = some (.slice none 0 0) := cell_blk bz rfl
      have yy9 : w2.frozen? ⟨w.heap.size, 9, none⟩ = false := free_blk bz
      have H3 := hid H3
      clear bz
      unfold pF
      go_wp2_with fail
      go_meet
      have H4 := St.blk10 (T := R) (rest := [BlkT w1.heap.size (qO x)] ++ [LgT a (v.place k).log]) (.int .i64 (v.place k).r.job) (.int .i64 (v.place k).r.st) (.int .i64 (v.place k).r.at_) (.int .i64 (v.place k).r.ba) (.int .i64 (v.place k).r.node) (.int .i64 (v.place k).r.life) (.int .i64 (v.place k).r.code) (.int .u64 (v.place k).r.bits) (.string (v.place k).prog) (.slice a (v.place k).log.length (v.place k).log.length) (by
        have h := H3.out
        rw [List.append_assoc, List.append_assoc] at h
        exact h)
      have hb := H4.blk (R.length + 0) (by rw [get_behind]; rfl)
      have hd := H4.sub perm_find
      clear H4
      exact ⟨a, rfl, rfl, hb, hd⟩
    case rest =>
      obtain ⟨a, rfl, rfl, hb, hd⟩ := hcut
      have x0 := cell_blk (i := 0) hb rfl
      have x1 := cell_blk (i := 1) hb rfl
      have x2 := cell_blk (i := 2) hb rfl
      have x3 := cell_blk (i := 3) hb rfl
      have x4 := cell_blk (i := 4) hb rfl
      have x5 := cell_blk (i := 5) hb rfl
      have x6 := cell_blk (i := 6) hb rfl
      have x7 := cell_blk (i := 7) hb rfl
      have x8 := cell_blk (i := 8) hb rfl
      have x9 := cell_blk (i := 9) hb rfl
      have hs : v.sfind b = (v.place k, true) := by
        unfold SV.sfind; rw [HX.out, if_pos rfl]
        have := HJ.out.2
        rw [show (x.job - 1).toNat = k by omega]
      have HS := hid hs
      have HD := hid hd
      clear hs hd hb
      dsimp only at x0 x1 x2 x3 x4 x5 x6 x7 x8 x9
      go_wp2_with fail
      (try simp only [Exit.inBlock, Exit.then])
      refine bodyPost_ret (v := .tuple #[.agg (pF (v.place k, ⟨a, (v.place k).log.length⟩)).toArray, .bool true]) (by simp [pF, results, Tryz.results12, go_sem, x0, x1, x2, x3, x4, x5, x6, x7, x8, x9]) rfl ?_
      exact ⟨a, by rw [HS.out], by rw [HS.out]; exact HD.out⟩
end
end Go.Proofs.YtmgnekjhlfghaaaGreat

/-
  state: View.
-/
namespace Go.Proofs.YtmgnekjhlfghaaaGreat
open Go.RowKit
set_option linter.unusedVariables false
set_option linter.unusedSimpArgs false

theorem clip_gp (w : World) (a : Option Addr) (n cap : Nat) (h1 : n ≤ cap) (h2 : cap ≤ 9223372036854775807) (h3 : a = none → cap = 0) :
    Calls Tryz.prog 32 #[.slice a n cap] w fun e w' => e = .returned (.slice a n n) ∧ w = w' := by
  go_enter Tryz.func32, Tryz.ntmps32
  go_wp2
  go_ret
  exact ⟨rfl, rfl⟩
theorem info_gp : (Tryz.prog.info? 53).map (fun i => (i.zero, i.size, i.bytes)) = some (some (.agg #[.int .i64 0, .int .i64 0, .int .i64 0, .int .i64 0, .int .i64 0, .int .i64 0, .int .i64 0, .int .u64 0, .string ByteArray.empty, .slice none 0 0]), 10, 104) := by kernel_rfl

/-- The places, in order. -/
def SV.places (v : SV) : List PV := (List.range v.q.rows.length).map v.place
/-- What a view holds. -/
def lgx (x : PV × TS) : Thing1 := Wv1 9 1 x.2.a x.1.log.length (sL.at_ x.1.log)
def vw1 (a : Option Addr) (l : List (PV × TS)) : List Thing1 := Wv1 53 10 a l.length (pL.at_ l) :: l.map lgx
def VwT (a : Option Addr) (l : List (PV × TS)) : Thing := own (Pack1 (vw1 a l))
theorem vw1_loc (a : Option Addr) (l : List (PV × TS)) : ∀ A, A ∈ vw1 a l → Loc1 A := by
  intro A hA
  simp only [vw1, List.mem_cons, List.mem_map] at hA
  rcases hA with rfl | ⟨x, _, rfl⟩
  · exact inferInstance
  · exact (inferInstance : Loc1 (Wv1 _ _ _ _ _))

/-- View's things. -/
def viT (rb vb : Nat) (ra : Option Addr) (rows : List QR) (res : Int) (vl vr : Value) (l : List (PV × TS)) : List Thing :=
  [BlkT rb (.cells #[.int .i64 0, .slice none 0 0] 34), BlkT vb (.cells #[.int .i64 res, vl] 34), RwT ra rows, RowT 53 10 vr l.length (pL.cells l)] ++ l.map fun x => own (lgx x)

section
variable {W : Base} {w : World} {R : List Thing} {S : Nat} {v : SV} {rb vb : Nat} {ra : Option Addr} {rows : List QR} {res : Int} {vl vr : Value} {l : List (PV × TS)}
theorem St.wvAt {α : Type} (L : Lay α) (H : St W w R) (i : Nat) {e : TypeId} {a : Option Addr} {c : Nat} {l : List α} (hi : R[i]? = some (RowT e L.sz (.slice a l.length c) l.length (L.cells l))) : St W w (R.set i (WvT e L.sz a l.length (L.at_ l))) := by
  obtain ⟨F, ⟨h1, h2⟩, _, h⟩ := H.at i hi
  exact h w F (Wv1 e L.sz a l.length (L.at_ l)) inferInstance ⟨by rw [h1]; cases a <;> rfl, ownsRow_W h2 _ (fun j hj => L.get l j hj)⟩ (Fr.refl _ _) (fun x hx => .inl hx)
theorem St.lose2 {A : List Thing} {b1 b2 : Nat} {o1 o2 : Obj} {w' : World} (H : St W w (A ++ [BlkT b1 o1, BlkT b2 o2])) (hF : Fr [b2, b1] w w') : St W w' A := by
  obtain ⟨h1, Fs, Gs, h2, h3, h4⟩ := H
  obtain ⟨⟨_, e1, _⟩, _, g1, _⟩ := h2 A.length (BlkT b1 o1) (by rw [List.getElem?_append_right (Nat.le_refl _), Nat.sub_self]; rfl)
  obtain ⟨⟨_, e2, _⟩, _, g2, _⟩ := h2 (A.length + 1) (BlkT b2 o2) (by rw [List.getElem?_append_right (by omega), Nat.add_sub_cancel_left]; rfl)
  have m1 : b1 ∈ Fs A.length := by rw [e1]; simp
  have m2 : b2 ∈ Fs (A.length + 1) := by rw [e2]; simp
  refine ⟨h1.behind hF (fun x hx => ?_), Fs, Gs, fun i B hB => ?_, fun i j hi hj => h3 i j (by simp; omega) (by simp; omega), fun i j hi hj => h4 i j (by simp; omega) (by simp; omega)⟩
  · simp only [List.mem_cons, List.not_mem_nil, or_false] at hx
    rcases hx with rfl | rfl
    · exact g2 _ m2
    · exact g1 _ m1
  · have hi := lt_of_get hB
    obtain ⟨k1, k2, k3⟩ := h2 i B (get_l hB)
    refine ⟨k2.keep k1 hF (fun x hx hn => ?_) (fun x hx hn => ?_), k2, k3⟩
    · simp only [List.mem_cons, List.not_mem_nil, or_false] at hn
      rcases hn with rfl | rfl
      · exact h3 i (A.length + 1) (by simp; omega) (by simp) (by omega) _ hx m2
      · exact h3 i A.length (by simp; omega) (by simp) (by omega) _ hx m1
    · simp only [List.mem_cons, List.not_mem_nil, or_false] at hn
      rcases hn with rfl | rfl
      · exact h4 (A.length + 1) i (by simp) (by simp; omega) _ m2 hx
      · exact h4 A.length i (by simp) (by simp; omega) _ m1 hx
theorem St.viBlk {T : List Thing} (H : St W w (R ++ (viT rb vb ra rows res vl vr l ++ T))) : w.heap[rb]? = some (.cells #[.int .i64 0, .slice none 0 0] 34 (0, 0)) ∧ w.heap[vb]? = some (.cells #[.int .i64 res, vl] 34 (0, 0)) :=
  ⟨H.blk (R.length + 0) (by rw [get_behind]; rfl), H.blk (R.length + 1) (by rw [get_behind]; rfl)⟩
theorem St.vi0 (H : St W w (R ++ viT rb vb ra rows res vl vr l)) : St W w (R ++ (viT rb vb ra rows res vl vr l ++ [])) := by rw [List.append_nil]; exact H
theorem St.viRows {T : List Thing} (H : St W w (R ++ (viT rb vb ra rows res vl vr l ++ T))) : In w 8 ra rows.length rows.length (qL.at_ rows) := H.rw_ (R.length + 2) (by rw [get_behind]; rfl)
theorem St.viApp {xb : Nat} {o : Obj} {p : PV} {a : Option Addr} {c : Nat} (H : St W w (R ++ (viT rb vb ra rows res vl vr l ++ ([BlkT xb o] ++ [LgT a p.log])))) : w.ownsRow 0 53 10 vr l.length (pL.cells l) ∧
    ∀ (v' : Value) (w' : World), w'.ownsRow 0 53 10 v' (l.length + 1) (pL.cells (l ++ [(p, ⟨a, c⟩)])) → Fr vr.ownBlock.toList w w' → (∀ x, x ∈ v'.ownBlock.toList → x ∈ vr.ownBlock.toList ∨ w.heap.size ≤ x) → St W w' (R ++ viT rb vb ra rows res vl v' (l ++ [(p, ⟨a, c⟩)])) := by
  have H1 : St W w (R ++ (viT rb vb ra rows res vl vr l ++ [LgT a p.log])) := H.sub (B := [BlkT xb o]) (by
    rw [List.append_assoc, List.append_assoc]
    exact List.Perm.append_left _ (List.Perm.append_left _ (List.perm_append_comm (l₁ := [_]) (l₂ := [_]))))
  obtain ⟨h1, h2⟩ := H1.append (R.length + 3) (by rw [get_behind]; rfl)
  refine ⟨h1, fun v' w' ho hF hb => ?_⟩
  have h3 := h2 v' w' _ _ ho hF hb
  rw [List.set_append_right _ _ (by omega), Nat.add_sub_cancel_left] at h3
  have e : viT rb vb ra rows res vl v' (l ++ [(p, ⟨a, c⟩)]) = (viT rb vb ra rows res vl vr l ++ [LgT a p.log]).set 3 (RowT 53 10 v' (l.length + 1) (pL.cells (l ++ [(p, ⟨a, c⟩)]))) := by
    simp [viT, lgx, LgT, WvT]
  rw [e]
  exact h3
theorem St.viSet (H : St W w (R ++ viT rb vb ra rows res vl vr l)) (u : Value) : St W (w.setCell ⟨vb, 1, none⟩ u) (R ++ viT rb vb ra rows res u vr l) := by
  have h1 := H.setBlk (R.length + 1) (by rw [get_behind]; rfl) 1 u
  rw [List.set_append_right _ _ (by omega), Nat.add_sub_cancel_left] at h1
  exact h1
theorem St.viEnd {w' : World} {a : Option Addr} {c : Nat} (hF : Fr [rb, vb] w w') (H : St W w (R ++ viT rb vb ra rows res vl (.slice a l.length c) l)) : St W w' (R ++ [VwT a l]) := by
  have h1 := H.wvAt pL (R.length + 3) (by rw [get_behind]; rfl)
  rw [List.set_append_right _ _ (by omega), Nat.add_sub_cancel_left] at h1
  have h2 : St W w ((R ++ [BlkT vb (.cells #[.int .i64 res, vl] 34), BlkT rb (.cells #[.int .i64 0, .slice none 0 0] 34)]) ++ (vw1 a l).map own) := h1.sub (B := [RwT ra rows]) (by
    rw [List.append_assoc, List.append_assoc]
    refine List.Perm.append_left _ ?_
    have e : ((vw1 a l).map own : List Thing) = WvT 53 10 a l.length (pL.at_ l) :: l.map (fun x => own (lgx x)) := by simp [vw1, WvT]
    rw [e]
    show ([BlkT rb _, BlkT vb _, RwT ra rows, WvT _ _ _ _ _] ++ l.map fun x => own (lgx x)).Perm ([BlkT vb _, BlkT rb _] ++ ((WvT _ _ _ _ _ :: l.map fun x => own (lgx x)) ++ [RwT ra rows]))
    refine (List.Perm.swap _ _ _).trans (List.Perm.cons _ (List.Perm.cons _ ?_))
    exact (List.perm_append_comm (l₁ := [RwT ra rows])))
  have h3 := h2.packEnd (vw1_loc a l) (B := Pack1 (vw1 a l)) (fun F h => h)
  have h4 : St W w ((R ++ [VwT a l]) ++ [BlkT vb (.cells #[.int .i64 res, vl] 34), BlkT rb (.cells #[.int .i64 0, .slice none 0 0] 34)]) := h3.perm (by
    rw [List.append_assoc, List.append_assoc]
    exact List.Perm.append_left _ (List.perm_append_comm (l₁ := [_, _]) (l₂ := [_])))
  exact h4.lose2 hF
set_option maxHeartbeats 4000000 in
set_option maxRecDepth 100000 in
theorem st_sview (H : St W w R) (i : Nat) (hi : R[i]? = some (SkT S v)) (hv : v.wf) :
    Calls Tryz.prog 10 #[.pointer (some ⟨S, 0, none⟩)] w fun e w' => ∃ (a : Option Addr) (l : List (PV × TS)), e = .returned (.agg #[.int .i64 v.res, .slice a l.length l.length]) ∧ l.map (·.1) = v.places ∧ (∀ x, x ∈ l → x.2.c = x.1.log.length) ∧ St W w' (R ++ [VwT a l]) := by
  have HI := hid hi
  obtain ⟨Q, pv, lv, ll, hll, H1⟩ := H.sk i hi
  have H2 := (H1.alloc (.cells #[.int .i64 0, .slice none 0 0] 34)).allocAt (.cells #[.int .i64 v.res, .slice none 0 0] 34) (w.heap.size + 1) (by simp)
  have b1 := H1.skS
  have s0 := cell_blk (i := 0) b1 rfl
  have s1 := cell_blk (i := 1) b1 rfl
  have hlS := lt_of_block b1
  have HRW := hid (st_rowsT H2 ((R.set i NilT).length + 1) (get_l (get_l sk_get1)) hv.q.n)
  have HLL := hid hll
  have HV := hid hv
  clear H1 H2 b1 hll H hi hv
  go_enter Tryz.func10, Tryz.ntmps10
  go_wp2_with (go_at_call 30; refine HRW.out.mono ?_)
  rintro e w1 ⟨ra, rfl, H3⟩
  rw [List.append_assoc, List.append_assoc] at H3
  have H4 := (H3.skDone HI.out HLL.out).new (A := Row1 53 10 (.slice none 0 0) 0 (pL.cells [])) (F := []) (Fr.refl _ _) inferInstance ⟨rfl, World.ownsRow_nil _ _ _ _⟩ (by simp)
  rw [List.append_assoc] at H4
  obtain ⟨rb, hrb⟩ : ∃ rb, w.heap.size = rb := ⟨_, rfl⟩
  rw [hrb] at H4 ⊢
  obtain ⟨vb, hvb⟩ : ∃ vb, rb + 1 = vb := ⟨_, rfl⟩
  rw [hvb] at H4 ⊢
  have HH := hid (show St W w1 (R ++ viT rb vb ra v.q.rows v.res (.slice none 0 0) (.slice none 0 0) []) from H4)
  have hne : rb ≠ vb := by omega
  clear H3 H4 hrb hvb s0 s1 hlS HRW
  go_wp2_with fail
  go_loopw [18] (fun iv wr => ∃ (k : Nat) (u : Value) (l : List (PV × TS)), k ≤ v.q.rows.length ∧ iv = .int .i64 k ∧ l.length = k ∧ l.map (·.1) = (List.range k).map v.place ∧ (∀ x, x ∈ l → x.2.c = x.1.log.length) ∧ St W wr (R ++ viT rb vb ra v.q.rows v.res u u l)) (fun iv _ => v.q.rows.length - (intOf iv).toNat)
  case atStart => exact ⟨0, _, [], Nat.zero_le _, rfl, rfl, rfl, by simp, HH.out⟩
  case round =>
    clear HH
    obtain ⟨k, u, l, hk, rfl, hll, hl, hlc, H⟩ := hrel
    have H : St W wr (R ++ (viT rb vb ra v.q.rows v.res u u l ++ [])) := by rw [List.append_nil]; exact H
    by_cases hlt : k < v.q.rows.length
    · have i1 := H.viRows
      obtain ⟨bb, ob, rfl⟩ := i1.sm (by omega)
      obtain ⟨y0, y1, y2, y3, y4, y5, y6, y7⟩ := qrow_cells i1 k hlt
      have hbl := World.block_lt_of_cell? _ _ y0
      simp only at hbl
      have m0 : wr.cell? ⟨vb, 1, none⟩ = some u := cell_blk (i := 1) H.viBlk.2 rfl
      have hlv := lt_of_block H.viBlk.2
      have hn8 := HV.out.q.n
      have HP := hid (st_splace ((H.alloc (qO (qL.nth v.q.rows k))).drew) i (get_l (get_l HI.out)) HV.out k hlt _ rfl)
      have HJ := hid (And.intro hlt (And.intro hll (And.intro hl hlc)))
      have hk0 : (0 : Int) ≤ k := by omega
      have hk1 : (k : Int) < v.q.rows.length := by omega
      obtain ⟨i0, hz, hz0, hz1, hz2⟩ := info_parts info_gp
      have HZ := hid (And.intro hz (And.intro hz0 (And.intro hz1 hz2)))
      clear hz hz0 hz1 hz2 i1 H hll hl hlc hlt hk
      go_upto_region 5 with (fail)
      go_region_law (first
        | (go_simp; go_at_call 31; refine HP.out.mono ?_; rintro e w3 ⟨a, rfl, H3⟩; dsimp only [pF]; rw [List.append_assoc, List.append_assoc, List.append_nil] at H3; have e0 : w3.cell? ⟨vb, 1, none⟩ = some u := cell_blk (i := 1) H3.viBlk.2 rfl; have hl3 := lt_of_block H3.viBlk.2; have H3 := hid H3)
        | (refine step_append_blk rfl (.tmp 23) (.tmp 27) 32 rfl 53 i0 (.agg #[.int .i64 0, .int .i64 0, .int .i64 0, .int .i64 0, .int .i64 0, .int .i64 0, .int .i64 0, .int .u64 0, .string ByteArray.empty, .slice none 0 0]) 10 104 Tryz.underlying32 HZ.out.1 HZ.out.2.1 HZ.out.2.2.1 HZ.out.2.2.2 rfl (by decide) u l.length _ rfl (ownsRow_keep (S := []) (H3.out.viApp (c := (v.place k).log.length)).1 ((Fr.refl [] w3).alloc _) (by simp)) ⟨w3.heap.size, 0, none⟩ 1 1 (pF (v.place k, (⟨a, (v.place k).log.length⟩ : TS))) rfl rfl (news_alloc w3 (pF (v.place k, (⟨a, (v.place k).log.length⟩ : TS))) _) (pL.one (v.place k, (⟨a, (v.place k).log.length⟩ : TS))) (by have := HJ.out.1; have := HJ.out.2.1; unfold maxLen; omega) (by have := HJ.out.1; have := HJ.out.2.1; omega) ?_; intro v' w4 ho4 hF4 hb4 hn4; rw [show pL.cells l ++ pF (v.place k, (⟨a, (v.place k).log.length⟩ : TS)) = pL.cells (l ++ [(v.place k, (⟨a, (v.place k).log.length⟩ : TS))]) from pL.snoc l (v.place k, (⟨a, (v.place k).log.length⟩ : TS))] at ho4; obtain ⟨g', cap', rfl, _⟩ := ownsRow_shape ho4 (by omega); have H4 := (H3.out.alloc_ (.cells (pF (v.place k, (⟨a, (v.place k).log.length⟩ : TS))).toArray 53)).viApp.2 _ w4 ho4 hF4 hb4; have q0 : w4.cell? ⟨vb, 1, none⟩ = some u := cell_blk (i := 1) (H4.vi0).viBlk.2 rfl; have n0 := free_blk (i := 1) (H4.vi0).viBlk.2; have H4 := hid H4; clear ho4 hF4 hb4 hn4))
      all_goals go_wp2_with fail
      all_goals exact ⟨⟨k + 1, _, l ++ [(v.place k, (⟨a, (v.place k).log.length⟩ : TS))], HJ.out.1, rfl, by rw [List.length_append, HJ.out.2.1]; rfl, by rw [List.map_append, HJ.out.2.2.1, List.range_succ, List.map_append]; rfl, fun x hx => by rcases List.mem_append.1 hx with h | h; exact HJ.out.2.2.2 x h; rw [List.mem_singleton.1 h], H4.out.viSet _⟩, by have := HJ.out.1; simp [intOf]; omega⟩
    · have hke : k = v.q.rows.length := by omega
      have hlp : l.map (·.1) = v.places := by rw [hl, hke]; rfl
      have hk1 : ¬ (k : Int) < v.q.rows.length := by omega
      have hrow : wr.ownsRow 0 53 10 u l.length (pL.cells l) := H.row (R.length + 3) (by rw [get_behind]; rfl)
      obtain ⟨a, cap, rfl, hc1, hc2, hc3⟩ : ∃ a cap, u = .slice a l.length cap ∧ l.length ≤ cap ∧ cap ≤ maxLen ∧ (a = none → cap = 0) := by
        rcases ownsRow_one hrow with ⟨h1, h2, _⟩ | ⟨g, cap, h1, h2, h3⟩
        · exact ⟨none, 0, by rw [h1, h2], by rw [h2]; exact Nat.le_refl _, Nat.zero_le _, fun _ => rfl⟩
        · exact ⟨_, cap, h1, h2, h3, fun h => by cases h⟩
      have hcl := hid (fun w' => clip_gp w' a l.length cap hc1 (by unfold maxLen at hc2; omega) hc3)
      have b1 := H.viBlk
      have m0 : wr.cell? ⟨vb, 0, none⟩ = some (.int .i64 v.res) := cell_blk b1.2 rfl
      have m1 : wr.cell? ⟨vb, 1, none⟩ = some (.slice a l.length cap) := cell_blk b1.2 rfl
      have m2 := free_blk (i := 1) b1.2
      have m3 : wr.cell? ⟨rb, 0, none⟩ = some (.int .i64 0) := cell_blk b1.1 rfl
      have m4 : wr.cell? ⟨rb, 1, none⟩ = some (.slice none 0 0) := cell_blk b1.1 rfl
      have m5 := free_blk (i := 0) b1.1
      have m6 := free_blk (i := 1) b1.1
      have HZ := hid (And.intro hlp (And.intro hlc (show St W wr (R ++ viT rb vb ra v.q.rows v.res (.slice a l.length cap) (.slice a l.length cap) l) by rw [List.append_nil] at H; exact H)))
      clear hll hl hlc H hlt hk hke hlp hrow hc1 hc2 hc3 b1
      go_wp2_with (go_at_call 32; refine (hcl.out _).mono ?_; rintro e w4 ⟨rfl, rfl⟩)
      (try simp only [Exit.inBlock, Exit.then])
      refine bodyPost_ret (v := .agg #[.int .i64 v.res, .slice a l.length l.length]) (by simp [results, Tryz.results10, go_sem, m0, m1, m3, m4, hne, Ne.symm hne]) rfl ?_
      exact ⟨a, l, rfl, HZ.out.1, HZ.out.2.1, St.viEnd (by repeat (first | exact Fr.refl _ _ | refine Fr.setCell ?_ (.inl (by simp)) _)) HZ.out.2.2⟩
end
end Go.Proofs.YtmgnekjhlfghaaaGreat

/-
  gafferlaw17: fixed.
-/
namespace Go.Proofs.YtmgnekjhlfghaaaGreat
open Go.RowKit
set_option linter.unusedVariables false
set_option linter.unusedSimpArgs false

theorem Lay.in_blk {α : Type} (L : Lay α) {w : World} {g : Nat} {l : List α} {e : TypeId} (h : w.heap[g]? = some (.cells (L.cells l).toArray e (0, 0))) (hl : l.length ≤ maxLen) : In w L.sz (some ⟨g, 0, none⟩) l.length l.length (L.at_ l) := by
  refine WRow.toIn (e := e) (.inr ⟨g, _, rfl, h, ?_, fun j hj => ?_⟩) (Nat.le_refl _) hl
  · have := L.cells_len l
    rw [List.size_toArray, this]; exact Nat.le_refl _
  · rw [List.getElem?_toArray]; exact L.get l j hj
theorem nil_texts' (w : World) (c : Nat) (hc : c ≤ maxLen) : In w 1 none 0 c (sL.at_ []) := WRow.toIn (e := 9) (.inl ⟨rfl, rfl⟩) (Nat.zero_le _) hc

def fixL : List CV := [⟨2, 0, 1, 0, 0, 0, 0, 0, ⟨#[112]⟩, []⟩, ⟨1, 4, 0, 0, 0, 0, 0, 0, ⟨#[]⟩, []⟩, ⟨3, 0, 1, 2, 0, 1, 0, 0, ⟨#[]⟩, []⟩, ⟨4, 0, 0, 2, 0, 0, 0, 0, ⟨#[]⟩, [⟨#[97]⟩, ⟨#[98]⟩]⟩]
def fixM : List CV := [⟨1, 9, 0, 0, 0, 0, 0, 0, ⟨#[]⟩, []⟩, ⟨1, 4, 0, 0, 0, 0, 0, 0, ⟨#[]⟩, []⟩]
def fixV : SV := ⟨⟨1, [⟨1, 2, 1, 2, 2, 1, 0, 0⟩]⟩, 4, [⟨#[112]⟩], [[⟨#[97]⟩, ⟨#[98]⟩]]⟩
theorem fix_go : (SV.new 1).go fixL 0 = .ok fixV := by kernel_rfl
theorem fix_go2 : fixV.go fixM 0 = .error 1 := by kernel_rfl
theorem fix_find : fixV.sfind 2 = (⟨⟨1, 2, 1, 2, 2, 1, 0, 0⟩, ⟨#[112]⟩, [⟨#[97]⟩, ⟨#[98]⟩]⟩, true) := by kernel_rfl
theorem fix_bytes : (SV.new 1).bytes = [0, 0] := by kernel_rfl
theorem fix_wf : fixV.wf := go_wf (l := fixL) (by decide) (new_wf (by decide) (by decide)) fix_go
def fixT (tb : Nat) : List (CV × TS) := [(⟨2, 0, 1, 0, 0, 0, 0, 0, ⟨#[112]⟩, []⟩, ⟨none, 0⟩), (⟨1, 4, 0, 0, 0, 0, 0, 0, ⟨#[]⟩, []⟩, ⟨none, 0⟩), (⟨3, 0, 1, 2, 0, 1, 0, 0, ⟨#[]⟩, []⟩, ⟨none, 0⟩), (⟨4, 0, 0, 2, 0, 0, 0, 0, ⟨#[]⟩, [⟨#[97]⟩, ⟨#[98]⟩]⟩, ⟨some ⟨tb, 0, none⟩, 2⟩)]
def fixU : List (CV × TS) := [(⟨1, 9, 0, 0, 0, 0, 0, 0, ⟨#[]⟩, []⟩, ⟨none, 0⟩), (⟨1, 4, 0, 0, 0, 0, 0, 0, ⟨#[]⟩, []⟩, ⟨none, 0⟩)]
def fixO (tb : Nat) : Obj := .cells (cL.cells (fixT tb)).toArray 80
def fixP : Obj := .cells (cL.cells fixU).toArray 80
def fixQ : Obj := .cells (sL.cells [⟨#[97]⟩, ⟨#[98]⟩]).toArray 9
theorem fixT_in {W : Base} {R : List Thing} {tb cb : Nat} (i j : Nat) (hi : R[i]? = some (BlkT tb fixQ)) (hj : R[j]? = some (BlkT cb (fixO tb))) (wx : World) (T : List Thing) (H : St W wx (R ++ T)) : ChIn wx (some ⟨cb, 0, none⟩) 4 4 (fixT tb) := by
  refine ⟨cL.in_blk (H.blk j (get_l hj)) (show 4 ≤ maxLen by decide), rfl, fun x hx => ?_⟩
  simp only [fixT, List.mem_cons, List.not_mem_nil, or_false] at hx
  rcases hx with rfl | rfl | rfl | rfl
  · exact ⟨nil_texts' _ _ (by decide), by decide, by decide⟩
  · exact ⟨nil_texts' _ _ (by decide), by decide, by decide⟩
  · exact ⟨nil_texts' _ _ (by decide), by decide, by decide⟩
  · exact ⟨sL.in_blk (H.blk i (get_l hi)) (show 2 ≤ maxLen by decide), (show (0 : Int) ≤ 0 by decide), (show (0 : Int) < 18446744073709551616 by decide)⟩
theorem fixU_in {W : Base} {R : List Thing} {cb : Nat} (j : Nat) (hj : R[j]? = some (BlkT cb fixP)) (wx : World) (T : List Thing) (H : St W wx (R ++ T)) : ChIn wx (some ⟨cb, 0, none⟩) 2 2 fixU := by
  refine ⟨cL.in_blk (H.blk j (get_l hj)) (by decide), rfl, fun x hx => ?_⟩
  simp only [fixU, List.mem_cons, List.not_mem_nil, or_false] at hx
  rcases hx with rfl | rfl
  · exact ⟨nil_texts' _ _ (by decide), by decide, by decide⟩
  · exact ⟨nil_texts' _ _ (by decide), by decide, by decide⟩
theorem ret_ok {v u : SV} {l : List CV} (h : v.go l 0 = .ok u) : v.ret l = .tuple #[.int .i64 0, .int .i64 0] ∧ v.put l = u := by unfold SV.ret SV.put; rw [h]; exact ⟨rfl, rfl⟩
theorem ret_no {v : SV} {l : List CV} {k : Nat} (h : v.go l 0 = .error k) : v.ret l = .tuple #[.int .i64 (k : Nat), .int .i64 170] ∧ v.put l = v := by unfold SV.ret SV.put; rw [h]; exact ⟨rfl, rfl⟩
theorem st_apply_ok {W : Base} {w : World} {R : List Thing} (H : St W w R) (i : Nat) {S : Nat} {v u : SV} (hi : R[i]? = some (SkT S v)) (hv : v.wf) (a : Option Addr) (n cap : Nat) (l : List (CV × TS)) (hC : ∀ (wx : World) (T : List Thing), St W wx (R ++ T) → ChIn wx a n cap l) (h : v.go (l.map (·.1)) 0 = .ok u) :
    Calls Tryz.prog 8 #[.pointer (some ⟨S, 0, none⟩), .slice a n cap] w fun e w' => e = .returned (.tuple #[.int .i64 0, .int .i64 0]) ∧ St W w' (R.set i (SkT S u)) := by
  have := st_sapply H i hi hv a n cap l hC
  rwa [(ret_ok h).1, (ret_ok h).2] at this
theorem st_apply_no {W : Base} {w : World} {R : List Thing} (H : St W w R) (i : Nat) {S : Nat} {v : SV} {k : Nat} (hi : R[i]? = some (SkT S v)) (hv : v.wf) (a : Option Addr) (n cap : Nat) (l : List (CV × TS)) (hC : ∀ (wx : World) (T : List Thing), St W wx (R ++ T) → ChIn wx a n cap l) (h : v.go (l.map (·.1)) 0 = .error k) :
    Calls Tryz.prog 8 #[.pointer (some ⟨S, 0, none⟩), .slice a n cap] w fun e w' => e = .returned (.tuple #[.int .i64 (k : Nat), .int .i64 170]) ∧ St W w' R := by
  have := st_sapply H i hi hv a n cap l hC
  rwa [(ret_no h).1, (ret_no h).2, things_set_self hi] at this
theorem st_sreserved {W : Base} {w : World} {R : List Thing} (H : St W w R) (i : Nat) {S : Nat} {v : SV} (hi : R[i]? = some (SkT S v)) :
    Calls Tryz.prog 45 #[.pointer (some ⟨S, 0, none⟩)] w fun e w' => e = .returned (.int .i64 v.res) ∧ w = w' := by
  obtain ⟨Q, pv, lv, ll, hll, H1⟩ := H.sk i hi
  have s1 := cell_blk (i := 1) H1.skS rfl
  clear H1 H
  go_enter Tryz.func45, Tryz.ntmps45
  go_wp2
  go_ret
  exact ⟨rfl, rfl⟩
set_option maxHeartbeats 8000000 in
set_option maxRecDepth 100000 in
theorem fixed17 (w : World) : Calls Tryz.prog 19 #[] w fun e w' => e = .returned (.bool true) ∧ Fr [] w w' := by
  have H := St.refl w
  go_enter Tryz.func19, Tryz.ntmps19
  go_wp2_with fail
  refine (st_snew H 1 (by decide) (by decide)).mono ?_
  clear H
  rintro e w101 ⟨S, rfl, H⟩
  try simp only [List.nil_append, List.cons_append, List.set_cons_zero, List.set_cons_succ] at H
  go_wp2_with fail
  have hb := st_sbytes H 0 rfl (new_wf (n := 1) (by decide) (by decide))
  rw [fix_bytes] at hb
  refine (hb).mono ?_
  clear H
  rintro e w102 ⟨rfl, H⟩
  try simp only [List.nil_append, List.cons_append, List.set_cons_zero, List.set_cons_succ] at H
  go_wp2_with fail
  replace H := (H.alloc fixQ).allocAt (fixO w102.heap.size) (w102.heap.size + 1) (by simp)
  clear hb
  refine (st_apply_ok H 0 rfl (new_wf (by decide) (by decide)) (some ⟨w102.heap.size + 1, 0, none⟩) 4 4 (fixT w102.heap.size) (fixT_in 1 2 rfl rfl) fix_go).mono ?_
  clear H
  rintro e w103 ⟨rfl, H⟩
  try simp only [List.nil_append, List.cons_append, List.set_cons_zero, List.set_cons_succ] at H
  go_wp2_with fail
  replace H := (H.drop (R := [SkT S fixV]) (T := [_, _])).alloc fixP
  refine (st_apply_no H 0 rfl fix_wf (some ⟨w103.heap.size, 0, none⟩) 2 2 fixU (fixU_in 1 rfl) fix_go2).mono ?_
  clear H
  rintro e w104 ⟨rfl, H⟩
  try simp only [List.nil_append, List.cons_append, List.set_cons_zero, List.set_cons_succ] at H
  go_wp2_with fail
  have hf := st_sfind H 0 rfl fix_wf 2
  rw [fix_find] at hf
  refine hf.mono ?_
  clear H hf
  rintro e w105 ⟨a, rfl, H⟩
  dsimp only [pF]
  have hw := H.wv 2 rfl
  obtain ⟨g, rfl⟩ := hw.sm (by decide)
  have c1 : w105.cell? ⟨g, 1, none⟩ = some (.string ⟨#[98]⟩) := hw.cell 1 (by decide)
  have hg := World.block_lt_of_cell? _ _ c1
  simp only at hg
  have HR := hid (fun o => st_sreserved (H.alloc_ o) 0 rfl)
  have HH := hid H
  clear hw H
  go_wp2_with (go_at_call 45; refine (HR.out _).mono ?_; rintro e w6 ⟨rfl, rfl⟩)
  go_ret
  exact ⟨rfl, (HH.out.alloc_ _).fr⟩
end Go.Proofs.YtmgnekjhlfghaaaGreat

/-
  Two rows that are not the same. Of no program's memory.
-/
namespace Go.Proofs.YtmgnekjhlfghaaaGreat
open Go.RowKit
set_option linter.unusedVariables false

theorem ne_if {α : Type} {x y : QR} (h : x ≠ y) (a b : α) : (if x.job = y.job then if x.st = y.st then if x.at_ = y.at_ then if x.ba = y.ba then if x.node = y.node then if x.life = y.life then if x.code = y.code then if x.bits = y.bits then a else b else b else b else b else b else b else b else b) = b := by
  by_cases h1 : x.job = y.job
  case neg => rw [if_neg h1]
  by_cases h2 : x.st = y.st
  case neg => rw [if_pos h1, if_neg h2]
  by_cases h3 : x.at_ = y.at_
  case neg => rw [if_pos h1, if_pos h2, if_neg h3]
  by_cases h4 : x.ba = y.ba
  case neg => rw [if_pos h1, if_pos h2, if_pos h3, if_neg h4]
  by_cases h5 : x.node = y.node
  case neg => rw [if_pos h1, if_pos h2, if_pos h3, if_pos h4, if_neg h5]
  by_cases h6 : x.life = y.life
  case neg => rw [if_pos h1, if_pos h2, if_pos h3, if_pos h4, if_pos h5, if_neg h6]
  by_cases h7 : x.code = y.code
  case neg => rw [if_pos h1, if_pos h2, if_pos h3, if_pos h4, if_pos h5, if_pos h6, if_neg h7]
  by_cases h8 : x.bits = y.bits
  case neg => rw [if_pos h1, if_pos h2, if_pos h3, if_pos h4, if_pos h5, if_pos h6, if_pos h7, if_neg h8]
  exact absurd (QR.ext h1 h2 h3 h4 h5 h6 h7 h8) h

end Go.Proofs.YtmgnekjhlfghaaaGreat

/-
  gafferref17: SameTexts, SamePlace.
-/
namespace Go.Proofs.YtmgnekjhlfghaaaGreat
open Go.RowKit
set_option linter.unusedVariables false
set_option linter.unusedSimpArgs false

set_option maxHeartbeats 2000000 in
set_option maxRecDepth 100000 in
theorem sameTexts (w : World) (a b : Option Addr) (ca cb : Nat) (l r : List ByteArray) (ha : In w 1 a l.length ca (sL.at_ l)) (hb : In w 1 b r.length cb (sL.at_ r)) :
    Calls Tryz.prog 36 #[.slice a l.length ca, .slice b r.length cb] w fun e w' => IsB (l = r) e ∧ Fr [] w w' := by
  have hm1 := ha.max
  have hm2 := hb.max
  by_cases hl : l.length = r.length
  case neg =>
    have h1 : ((l.length : Int) == r.length) = false := by rw [beq_eq_false_iff_ne]; omega
    have h2 : ((l.length : Int) != r.length) = true := by rw [bne_iff_ne]; omega
    have HL := hid hl
    clear hl ha hb
    go_enter Tryz.func36, Tryz.ntmps36
    go_wp2
    go_ret
    exact ⟨IsB.no (fun h => HL.out (by rw [h])), Fr.refl _ _⟩
  have HA := hid ha
  have HB := hid hb
  have hl1 : ((l.length : Int) == r.length) = true := by rw [beq_iff_eq]; omega
  have hl2 : ((l.length : Int) != r.length) = false := by rw [bne_eq_false_iff_eq]; omega
  have HL := hid hl
  clear hl ha hb
  go_enter Tryz.func36, Tryz.ntmps36
  go_wp2_with fail
  go_loopw [5] (fun i wr => ∃ k : Nat, k ≤ l.length ∧ i = .int .i64 k ∧ (∀ j, j < k → sL.nth l j = sL.nth r j) ∧ Fr [] w wr) (fun i _ => l.length - (intOf i).toNat)
  case atStart => exact ⟨0, Nat.zero_le _, rfl, fun j hj => absurd hj (Nat.not_lt_zero _), Fr.refl _ _⟩
  case round =>
    obtain ⟨k, hk, rfl, hall, hFw⟩ := hrel
    have HAll := hid hall
    have HW := hid hFw
    clear hall hFw
    by_cases hlt : k < l.length
    · have hlt2 : k < r.length := by have := HL.out; omega
      obtain ⟨ba, oa, rfl⟩ := HA.out.sm (by omega)
      obtain ⟨bb, ob, rfl⟩ := HB.out.sm (by omega)
      have c1 := str_cells (HA.out.fr0 HW.out) k hlt
      have c2 := str_cells (HB.out.fr0 HW.out) k hlt2
      by_cases heq : sL.nth l k = sL.nth r k
      · rw [← heq] at c2
        have HE := hid heq
        clear heq
        go_wp2
        go_quiet (fail)
        go_wp2
        go_roundw
        case rel => exact ⟨k + 1, by omega, by go_num, fun j hj => by by_cases hjk : j = k; (subst hjk; exact HE.out); exact HAll.out j (by omega), HW.out.drewN _⟩
        case measure => simp [intOf]; omega
      · have h3 := bytes_ne heq
        have HE := hid heq
        clear heq
        go_wp2
        go_quiet (fail)
        go_wp2
        go_ret
        exact ⟨IsB.no (fun h => HE.out (by rw [h])), HW.out.drewN _⟩
    · obtain rfl : k = l.length := by omega
      have HE := hid (sL.ext HL.out HAll.out)
      go_wp2
      go_ret
      exact ⟨IsB.yes HE.out, HW.out⟩
/-- A place that is read. -/
def PvIn (w : World) (x : PV × TS) : Prop := In w 1 x.2.a x.1.log.length x.2.c (sL.at_ x.1.log)
theorem samePlace (w : World) (x y : PV × TS) (hx : PvIn w x) (hy : PvIn w y) :
    Calls Tryz.prog 14 #[.agg (pF x).toArray, .agg (pF y).toArray] w fun e w' => IsB (x.1 = y.1) e ∧ Fr [] w w' := by
  obtain ⟨⟨x, xp, xl⟩, ⟨xa, xc⟩⟩ := x
  obtain ⟨⟨y, yp, yl⟩, ⟨ya, yc⟩⟩ := y
  have hF : Fr [] w ((w.alloc (pO (⟨x, xp, xl⟩, ⟨xa, xc⟩))).alloc (pO (⟨y, yp, yl⟩, ⟨ya, yc⟩))) := ((Fr.refl _ _).alloc _).alloc _
  have hs := hid (sameTexts _ xa ya xc yc xl yl (In.fr0 hx hF) (In.fr0 hy hF))
  have HF := hid hF
  clear hx hy hF
  by_cases h1 : x = y
  case neg =>
    have hif := fun (a b : Result Next) => ne_if h1 a b
    have HN := hid h1
    clear h1
    go_enter Tryz.func14, Tryz.ntmps14
    dsimp only [pF]
    go_wp2_with fail
    go_ret
    exact ⟨IsB.no (fun h => HN.out (by injection h)), HF.out⟩
  subst h1
  have hxy : ((⟨x.job, x.st, x.at_, x.ba, x.node, x.life, x.code, x.bits⟩ : QR) == ⟨x.job, x.st, x.at_, x.ba, x.node, x.life, x.code, x.bits⟩) = true := (qr_eq _ _).2 rfl
  have hxx : (x == x) = true := (qr_eq _ _).2 rfl
  by_cases h2 : xp = yp
  case neg =>
    have h3 := bytes_ne h2
    have HN := hid h2
    clear h2
    go_enter Tryz.func14, Tryz.ntmps14
    dsimp only [pF]
    go_wp2_with fail
    go_ret
    exact ⟨IsB.no (fun h => HN.out (by injection h)), HF.out⟩
  subst h2
  go_enter Tryz.func14, Tryz.ntmps14
  dsimp only [pF]
  go_wp2_with fail
  refine hs.out.mono ?_
  rintro e w1 ⟨⟨z, rfl, hz⟩, hF1⟩
  have HZ := hid (And.intro hz hF1)
  clear hz hF1
  cases z
  · go_wp2_with fail
    go_ret
    exact ⟨IsB.no (fun h => absurd (HZ.out.1.2 (by injection h)) (by decide)), HF.out.trans HZ.out.2⟩
  · go_wp2_with fail
    go_ret
    exact ⟨IsB.yes (by rw [show xl = yl by simpa using HZ.out.1]), HF.out.trans HZ.out.2⟩

/-- Places that are read. -/
structure PlIn (w : World) (a : Option Addr) (n cap : Nat) (l : List (PV × TS)) : Prop where
  row : In w 10 a n cap (pL.at_ l)
  len : l.length = n
  one : ∀ x, x ∈ l → PvIn w x
theorem PlIn.fr0 {w w' : World} {a : Option Addr} {n cap : Nat} {l : List (PV × TS)} (h : PlIn w a n cap l) (hF : Fr [] w w') : PlIn w' a n cap l := ⟨h.row.fr0 hF, h.len, fun x hx => In.fr0 (h.one x hx) hF⟩
theorem pl_cells {w : World} {b o n cap : Nat} {l : List (PV × TS)} (h : In w 10 (some ⟨b, o, none⟩) n cap (pL.at_ l)) (k : Nat) (hk : k < n) (x : PV × TS) (hx : pL.nth l k = x) :
    w.cell? ⟨b, o + k * 10, none⟩ = some (.int .i64 x.1.r.job) ∧ w.cell? ⟨b, o + k * 10 + 1, none⟩ = some (.int .i64 x.1.r.st) ∧ w.cell? ⟨b, o + k * 10 + 2, none⟩ = some (.int .i64 x.1.r.at_) ∧ w.cell? ⟨b, o + k * 10 + 3, none⟩ = some (.int .i64 x.1.r.ba) ∧ w.cell? ⟨b, o + k * 10 + 4, none⟩ = some (.int .i64 x.1.r.node) ∧ w.cell? ⟨b, o + k * 10 + 5, none⟩ = some (.int .i64 x.1.r.life) ∧ w.cell? ⟨b, o + k * 10 + 6, none⟩ = some (.int .i64 x.1.r.code) ∧ w.cell? ⟨b, o + k * 10 + 7, none⟩ = some (.int .u64 x.1.r.bits) ∧ w.cell? ⟨b, o + k * 10 + 8, none⟩ = some (.string x.1.prog) ∧ w.cell? ⟨b, o + k * 10 + 9, none⟩ = some (.slice x.2.a x.1.log.length x.2.c) := by
  have hc : ∀ q, q < 10 → w.cell? ⟨b, o + k * 10 + q, none⟩ = some ((pL.f x).getD q undef) := fun q hq => by
    have h1 := h.cell b o rfl (k * 10 + q) (by omega)
    rw [show k * 10 + q = k * pL.sz + q from rfl, pL.at_add _ _ q hq, hx] at h1
    rw [Nat.add_assoc]; exact h1
  exact ⟨hc 0 (by decide), hc 1 (by decide), hc 2 (by decide), hc 3 (by decide), hc 4 (by decide), hc 5 (by decide), hc 6 (by decide), hc 7 (by decide), hc 8 (by decide), hc 9 (by decide)⟩
section
variable {W : Base} {w : World} {R : List Thing}
/-- A view's places can be read. -/
theorem St.plIn (H : St W w R) (i : Nat) {a : Option Addr} {l : List (PV × TS)} (hi : R[i]? = some (VwT a l)) (hc : ∀ x, x ∈ l → x.2.c = x.1.log.length) (h8 : l.length ≤ 8) (hlg : ∀ x, x ∈ l → x.1.log.length ≤ 32) : PlIn w a l.length l.length l := by
  obtain ⟨F, ⟨h0, FF, rfl, h1, h2⟩, _⟩ := H.get i hi
  have g0 : WRow w 53 10 a l.length (pL.at_ l) := (h1 0 (Wv1 53 10 a l.length (pL.at_ l)) rfl).2
  refine ⟨g0.toIn (Nat.le_refl _) (by unfold maxLen; omega), rfl, fun x hx => ?_⟩
  obtain ⟨k, hk, rfl⟩ := List.getElem_of_mem hx
  have g1 : WRow w 9 1 l[k].2.a l[k].1.log.length (sL.at_ l[k].1.log) := (h1 (k + 1) (lgx l[k]) (by simp [vw1, hk])).2
  have h3 := hlg _ hx
  unfold PvIn
  rw [hc _ hx]
  exact g1.toIn (Nat.le_refl _) (by unfold maxLen; omega)
end

set_option maxHeartbeats 4000000 in
set_option maxRecDepth 100000 in
theorem vsame_walkP (P : Prop) (w : World) (n m : Int) (a b : Option Addr) (na nb ca cb : Nat) (l r : List (PV × TS)) (ha : PlIn w a na ca l) (hb : PlIn w b nb cb r) (hP : P ↔ (n = m ∧ l.map (·.1) = r.map (·.1))) :
    Calls Tryz.prog 15 #[.agg #[.int .i64 n, .slice a na ca], .agg #[.int .i64 m, .slice b nb cb]] w fun e w' => IsB P e ∧ Fr [] w w' := by
  have HP := hid hP
  clear hP
  have hm1 := ha.row.max
  have hm2 := hb.row.max
  have hll : (l.map (·.1)).length = na := by rw [List.length_map, ha.len]
  have hlr : (r.map (·.1)).length = nb := by rw [List.length_map, hb.len]
  have hF : Fr [] w ((w.alloc (.cells #[.int .i64 n, .slice a na ca] 34)).alloc (.cells #[.int .i64 m, .slice b nb cb] 34)) := ((Fr.refl _ _).alloc _).alloc _
  have HF := hid hF
  by_cases hnm : n = m
  case neg =>
    have h1 : (n == m) = false := by rw [beq_eq_false_iff_ne]; exact hnm
    have h2 : (n != m) = true := by rw [bne_iff_ne]; exact hnm
    have HN := hid hnm
    clear hnm ha hb hll hlr hF
    go_enter Tryz.func15, Tryz.ntmps15
    go_wp2_with fail
    go_ret
    exact ⟨IsB.no (fun h => HN.out (HP.out.1 h).1), HF.out⟩
  subst hnm
  by_cases hl : na = nb
  case neg =>
    have h1 : ((na : Int) == nb) = false := by rw [beq_eq_false_iff_ne]; omega
    have h2 : ((na : Int) != nb) = true := by rw [bne_iff_ne]; omega
    have HL := hid (show ¬ l.map (·.1) = r.map (·.1) from fun h => hl (by rw [← hll, ← hlr, h]))
    clear hl ha hb hll hlr hF
    go_enter Tryz.func15, Tryz.ntmps15
    go_wp2_with fail
    go_ret
    exact ⟨IsB.no (fun h => HL.out (HP.out.1 h).2), HF.out⟩
  subst hl
  have hb1 := blk_alloc_lt (.cells #[.int .i64 n, .slice b na cb] 34) (blk_alloc_at w (.cells #[.int .i64 n, .slice a na ca] 34) _ rfl)
  have hb2 := blk_alloc_at (w.alloc (.cells #[.int .i64 n, .slice a na ca] 34)) (.cells #[.int .i64 n, .slice b na cb] 34) (w.heap.size + 1) (by simp)
  have HH := hid (And.intro hb1 (And.intro hb2 hF))
  have HA := hid (ha.fr0 hF)
  have HB := hid (hb.fr0 hF)
  have HL := hid (And.intro hll hlr)
  clear ha hb hll hlr hb1 hb2 hF HF
  go_enter Tryz.func15, Tryz.ntmps15
  go_wp2_with fail
  generalize ((w.alloc (.cells #[.int .i64 n, .slice a na ca] 34)).alloc (.cells #[.int .i64 n, .slice b na cb] 34)) = w0 at HH HA HB ⊢
  generalize w.heap.size + 1 = b2 at HH ⊢
  generalize w.heap.size = b1 at HH ⊢
  go_loopw [5] (fun i wr => ∃ k : Nat, k ≤ na ∧ i = .int .i64 k ∧ (∀ j, j < k → (l.map (·.1))[j]? = (r.map (·.1))[j]?) ∧ Fr [] w0 wr) (fun i _ => na - (intOf i).toNat)
  case atStart => exact ⟨0, Nat.zero_le _, rfl, fun j hj => absurd hj (Nat.not_lt_zero _), Fr.refl _ _⟩
  case round =>
    obtain ⟨k, hk, rfl, hall, hFw⟩ := hrel
    have HAll := hid hall
    clear hall
    have g1 := hFw.keep HH.out.1 (by simp)
    have g2 := hFw.keep HH.out.2.1 (by simp)
    have k1 : wr.cell? ⟨b1, 1, none⟩ = some (.slice a na ca) := cell_blk (i := 1) g1 rfl
    have k2 : wr.cell? ⟨b2, 1, none⟩ = some (.slice b na cb) := cell_blk (i := 1) g2 rfl
    by_cases hlt : k < na
    · obtain ⟨x, hx⟩ : ∃ x, pL.nth l k = x := ⟨_, rfl⟩
      obtain ⟨y, hy⟩ : ∃ y, pL.nth r k = y := ⟨_, rfl⟩
      have hkl : k < l.length := by rw [HA.out.len]; exact hlt
      have hkr : k < r.length := by rw [HB.out.len]; exact hlt
      have hgx : (l.map (·.1))[k]? = some x.1 := by rw [List.getElem?_map, show l[k]? = some x by rw [← hx]; exact pL.nth_get hkl]; rfl
      have hgy : (r.map (·.1))[k]? = some y.1 := by rw [List.getElem?_map, show r[k]? = some y by rw [← hy]; exact pL.nth_get hkr]; rfl
      obtain ⟨ba, oa, ea⟩ := HA.out.row.sm (by omega)
      obtain ⟨bb, ob, eb⟩ := HB.out.row.sm (by omega)
      subst ea eb
      have HCC := hid (show ∀ w2, Fr [] wr.drew w2 → ((fun wx : World => wx.cell? ⟨b1, 1, none⟩ = some (.slice (some ⟨ba, oa, none⟩) na ca) ∧ wx.cell? ⟨b2, 1, none⟩ = some (.slice (some ⟨bb, ob, none⟩) na cb) ∧ (wx.cell? ⟨ba, oa + k * 10, none⟩ = some (.int .i64 x.1.r.job) ∧ wx.cell? ⟨ba, oa + k * 10 + 1, none⟩ = some (.int .i64 x.1.r.st) ∧ wx.cell? ⟨ba, oa + k * 10 + 2, none⟩ = some (.int .i64 x.1.r.at_) ∧ wx.cell? ⟨ba, oa + k * 10 + 3, none⟩ = some (.int .i64 x.1.r.ba) ∧ wx.cell? ⟨ba, oa + k * 10 + 4, none⟩ = some (.int .i64 x.1.r.node) ∧ wx.cell? ⟨ba, oa + k * 10 + 5, none⟩ = some (.int .i64 x.1.r.life) ∧ wx.cell? ⟨ba, oa + k * 10 + 6, none⟩ = some (.int .i64 x.1.r.code) ∧ wx.cell? ⟨ba, oa + k * 10 + 7, none⟩ = some (.int .u64 x.1.r.bits) ∧ wx.cell? ⟨ba, oa + k * 10 + 8, none⟩ = some (.string x.1.prog) ∧ wx.cell? ⟨ba, oa + k * 10 + 9, none⟩ = some (.slice x.2.a x.1.log.length x.2.c)) ∧ (wx.cell? ⟨bb, ob + k * 10, none⟩ = some (.int .i64 y.1.r.job) ∧ wx.cell? ⟨bb, ob + k * 10 + 1, none⟩ = some (.int .i64 y.1.r.st) ∧ wx.cell? ⟨bb, ob + k * 10 + 2, none⟩ = some (.int .i64 y.1.r.at_) ∧ wx.cell? ⟨bb, ob + k * 10 + 3, none⟩ = some (.int .i64 y.1.r.ba) ∧ wx.cell? ⟨bb, ob + k * 10 + 4, none⟩ = some (.int .i64 y.1.r.node) ∧ wx.cell? ⟨bb, ob + k * 10 + 5, none⟩ = some (.int .i64 y.1.r.life) ∧ wx.cell? ⟨bb, ob + k * 10 + 6, none⟩ = some (.int .i64 y.1.r.code) ∧ wx.cell? ⟨bb, ob + k * 10 + 7, none⟩ = some (.int .u64 y.1.r.bits) ∧ wx.cell? ⟨bb, ob + k * 10 + 8, none⟩ = some (.string y.1.prog) ∧ wx.cell? ⟨bb, ob + k * 10 + 9, none⟩ = some (.slice y.2.a y.1.log.length y.2.c)))) w2 from fun w2 hF2 => ⟨hF2.cell0 k1, hF2.cell0 k2, pl_cells (HA.out.row.fr0 (hFw.drew.trans hF2)) k hlt x hx, pl_cells (HB.out.row.fr0 (hFw.drew.trans hF2)) k hlt y hy⟩)
      have hC := HCC.out _ (Fr.refl _ _)
      have hs := hid (samePlace wr.drew x y (In.fr0 (HA.out.one x (by rw [← hx]; exact pL.mem_nth hkl)) hFw.drew) (In.fr0 (HB.out.one y (by rw [← hy]; exact pL.mem_nth hkr)) hFw.drew))
      unfold pF at hs
      have HG := hid (And.intro hgx (And.intro hgy hFw))
      clear hx hy hkl hkr hgx hgy hFw g1 g2
      go_wp2_with fail
      go_region_held3 (fun wx : World => wx.cell? ⟨b1, 1, none⟩ = some (.slice (some ⟨ba, oa, none⟩) na ca) ∧ wx.cell? ⟨b2, 1, none⟩ = some (.slice (some ⟨bb, ob, none⟩) na cb) ∧ (wx.cell? ⟨ba, oa + k * 10, none⟩ = some (.int .i64 x.1.r.job) ∧ wx.cell? ⟨ba, oa + k * 10 + 1, none⟩ = some (.int .i64 x.1.r.st) ∧ wx.cell? ⟨ba, oa + k * 10 + 2, none⟩ = some (.int .i64 x.1.r.at_) ∧ wx.cell? ⟨ba, oa + k * 10 + 3, none⟩ = some (.int .i64 x.1.r.ba) ∧ wx.cell? ⟨ba, oa + k * 10 + 4, none⟩ = some (.int .i64 x.1.r.node) ∧ wx.cell? ⟨ba, oa + k * 10 + 5, none⟩ = some (.int .i64 x.1.r.life) ∧ wx.cell? ⟨ba, oa + k * 10 + 6, none⟩ = some (.int .i64 x.1.r.code) ∧ wx.cell? ⟨ba, oa + k * 10 + 7, none⟩ = some (.int .u64 x.1.r.bits) ∧ wx.cell? ⟨ba, oa + k * 10 + 8, none⟩ = some (.string x.1.prog) ∧ wx.cell? ⟨ba, oa + k * 10 + 9, none⟩ = some (.slice x.2.a x.1.log.length x.2.c)) ∧ (wx.cell? ⟨bb, ob + k * 10, none⟩ = some (.int .i64 y.1.r.job) ∧ wx.cell? ⟨bb, ob + k * 10 + 1, none⟩ = some (.int .i64 y.1.r.st) ∧ wx.cell? ⟨bb, ob + k * 10 + 2, none⟩ = some (.int .i64 y.1.r.at_) ∧ wx.cell? ⟨bb, ob + k * 10 + 3, none⟩ = some (.int .i64 y.1.r.ba) ∧ wx.cell? ⟨bb, ob + k * 10 + 4, none⟩ = some (.int .i64 y.1.r.node) ∧ wx.cell? ⟨bb, ob + k * 10 + 5, none⟩ = some (.int .i64 y.1.r.life) ∧ wx.cell? ⟨bb, ob + k * 10 + 6, none⟩ = some (.int .i64 y.1.r.code) ∧ wx.cell? ⟨bb, ob + k * 10 + 7, none⟩ = some (.int .u64 y.1.r.bits) ∧ wx.cell? ⟨bb, ob + k * 10 + 8, none⟩ = some (.string y.1.prog) ∧ wx.cell? ⟨bb, ob + k * 10 + 9, none⟩ = some (.slice y.2.a y.1.log.length y.2.c))) ((first | exact hC | exact HCC.out _ HZ.out.2))
        ((go_at_call 14; refine hs.out.mono ?_; rintro e w2 ⟨⟨z, rfl, hz⟩, hF2⟩; have hNow := HCC.out w2 hF2; have HZ := hid (And.intro hz hF2)))
      cases z
      · go_wp2_with fail
        go_ret
        exact ⟨IsB.no (fun h => absurd (by have h1 := HG.out.1; rw [(HP.out.1 h).2, HG.out.2.1] at h1; exact HZ.out.1.2 (Option.some.inj h1).symm) (by decide)), HH.out.2.2.trans (HG.out.2.2.drew.trans HZ.out.2)⟩
      · go_wp2_with fail
        go_roundw
        case rel =>
          refine ⟨k + 1, by omega, by go_num, fun j hj => ?_, HG.out.2.2.drew.trans HZ.out.2⟩
          by_cases hjk : j = k
          · subst hjk; rw [HG.out.1, HG.out.2.1, show x.1 = y.1 by simpa using HZ.out.1]
          · exact HAll.out j (by omega)
        case measure => simp [intOf]; omega
    · obtain rfl : k = na := by omega
      have HE := hid (show l.map (·.1) = r.map (·.1) from List.ext_getElem? fun j => by
        by_cases hj : j < k
        · exact HAll.out j hj
        · rw [List.getElem?_eq_none (by have := HL.out.1; omega), List.getElem?_eq_none (by have := HL.out.2; omega)])
      have HZ := hid hFw
      clear hFw g1 g2
      go_wp2_with fail
      go_ret
      exact ⟨IsB.yes (HP.out.2 (by simpa using HE.out)), HH.out.2.2.trans HZ.out⟩
theorem vsame_walk (w : World) (n m : Int) (a b : Option Addr) (na nb ca cb : Nat) (l r : List (PV × TS)) (ha : PlIn w a na ca l) (hb : PlIn w b nb cb r) :
    Calls Tryz.prog 15 #[.agg #[.int .i64 n, .slice a na ca], .agg #[.int .i64 m, .slice b nb cb]] w fun e w' => IsB (n = m ∧ l.map (·.1) = r.map (·.1)) e ∧ Fr [] w w' :=
  vsame_walkP _ w n m a b na nb ca cb l r ha hb Iff.rfl
end Go.Proofs.YtmgnekjhlfghaaaGreat

/-
  Changes that came in.
-/
namespace Go.Proofs.YtmgnekjhlfghaaaGreat
open Go.RowKit Go.ChangeShapes Go.WideShapes Go.ChangeAt
set_option linter.unusedVariables false

/-- Texts that came in. -/
structure TxArg (w : World) (t : TS) (l : List ByteArray) : Prop where
  row : In w 1 t.a l.length t.c (sL.at_ l)
  le : l.length ≤ t.c
  cap : t.c * 16 ≤ 140737488351232
  str : ∀ s, s ∈ l → s.size ≤ 140737488351232
/-- A change that came in. -/
structure OneArg (w : World) (x : CV × TS) : Prop where
  tx : TxArg w x.2 x.1.texts
  bits : 0 ≤ x.1.bits ∧ x.1.bits < 18446744073709551616
  prog : x.1.prog.size ≤ 140737488351232
  nums : ∀ z, z = x.1.kind ∨ z = x.1.n ∨ z = x.1.job ∨ z = x.1.badge ∨ z = x.1.slot ∨ z = x.1.life ∨ z = x.1.code → -9223372036854775808 ≤ z ∧ z ≤ 9223372036854775807
/-- A row of changes that came in. -/
structure ChArg (w : World) (a : Option Addr) (n cap : Nat) (l : List (CV × TS)) : Prop where
  row : In w 10 a n cap (cL.at_ l)
  len : l.length = n
  le : n ≤ cap
  cap : cap * 104 ≤ 140737488351232
  one : ∀ x, x ∈ l → OneArg w x
theorem ChArg.ch {w : World} {a : Option Addr} {n cap : Nat} {l : List (CV × TS)} (h : ChArg w a n cap l) : ChIn w a n cap l := ⟨h.row, h.len, fun x hx => ⟨(h.one x hx).tx.row, (h.one x hx).bits⟩⟩

theorem flat_ch : flat Tryz.prog 6 80 = some [.int .i64, .int .i64, .int .i64, .int .i64, .int .i64, .int .i64, .int .i64, .int .u64, .str, .other 41] := by kernel_rfl
theorem flat_str : flat Tryz.prog 6 9 = some [.str] := by kernel_rfl
theorem ch_bytes : Tryz.prog.bytesOf 80 = 104 := by kernel_rfl
theorem str_bytes : Tryz.prog.bytesOf 9 = 16 := by kernel_rfl

section
variable {H : Type} {enc : TypeId × Value → H} {w : World} {base : Nat} {spare : Nat → Bool} {held : Bool}

theorem tx_arg {v : Value} (hsp : ∀ b, spare b = true) (h : (Leaf.other 41).ok enc Tryz.prog w reachBytes base spare held v) : ∃ (t : TS) (l : List ByteArray), v = .slice t.a l.length t.c ∧ TxArg w t l := by
  obtain ⟨a, len, cap, V, rfl, hS, hL⟩ := in_flat Tryz.underlying41 flat_str (by decide) hsp h
  rw [str_bytes] at hS
  have hq : ∀ i, i < len → Str (V (i * 1)) := fun i hi => str_ok (hL i hi 0 _ rfl)
  have hV : ∀ i, i < len → V i = .string (strOf (V i)) ∧ (strOf (V i)).size ≤ 140737488351232 := fun i hi => by
    obtain ⟨s, hs, hz⟩ := hq i hi
    rw [Nat.mul_one] at hs
    rw [hs]; exact ⟨rfl, hz⟩
  have hlen : ((List.range len).map fun i => strOf (V i)).length = len := by simp
  refine ⟨⟨a, cap⟩, (List.range len).map fun i => strOf (V i), by rw [hlen], ?_, by rw [hlen]; exact hS.le, hS.rch, fun s hs => ?_⟩
  · rw [hlen]
    refine ⟨hS.le, hS.mx, hS.sm, fun b off e j hj => ?_⟩
    rw [hS.cell b off e j hj, (hV j (by simpa using hj)).1]
    have hj' : j < len := by simpa using hj
    rw [show sL.at_ ((List.range len).map fun i => strOf (V i)) j = .string (strOf (V j)) by
      have := sL.at_add ((List.range len).map fun i => strOf (V i)) j 0 (by decide)
      rw [show j * sL.sz + 0 = j by show j * 1 + 0 = j; omega] at this
      rw [this]
      simp [sL, Lay.nth, hj']]
  · obtain ⟨i, hi, rfl⟩ := List.mem_map.1 hs
    exact (hV i (by simpa using hi)).2

theorem one_arg {c : Nat → Value} (hsp : ∀ b, spare b = true)
    (h : ∀ (q : Nat) (L : Leaf), ([.int .i64, .int .i64, .int .i64, .int .i64, .int .i64, .int .i64, .int .i64, .int .u64, .str, .other 41] : List Leaf)[q]? = some L → L.ok enc Tryz.prog w reachBytes base spare held (c q)) :
    ∃ x : CV × TS, OneArg w x ∧ ∀ q, q < 10 → c q = (cL.f x).getD q undef := by
  obtain ⟨n0, e0, l0, u0⟩ := i64_ok (h 0 _ rfl)
  obtain ⟨n1, e1, l1, u1⟩ := i64_ok (h 1 _ rfl)
  obtain ⟨n2, e2, l2, u2⟩ := i64_ok (h 2 _ rfl)
  obtain ⟨n3, e3, l3, u3⟩ := i64_ok (h 3 _ rfl)
  obtain ⟨n4, e4, l4, u4⟩ := i64_ok (h 4 _ rfl)
  obtain ⟨n5, e5, l5, u5⟩ := i64_ok (h 5 _ rfl)
  obtain ⟨n6, e6, l6, u6⟩ := i64_ok (h 6 _ rfl)
  obtain ⟨n7, e7, l7, u7⟩ := u64_ok (h 7 _ rfl)
  obtain ⟨s, e8, hs⟩ := str_ok (h 8 _ rfl)
  obtain ⟨t, l, e9, ht⟩ := tx_arg hsp (h 9 _ rfl)
  refine ⟨(⟨n0, n1, n2, n3, n4, n5, n6, n7, s, l⟩, t), ⟨ht, ⟨l7, by show n7 < _; omega⟩, hs, ?_⟩, ?_⟩
  · rintro z (rfl | rfl | rfl | rfl | rfl | rfl | rfl)
    · exact ⟨l0, u0⟩
    · exact ⟨l1, u1⟩
    · exact ⟨l2, u2⟩
    · exact ⟨l3, u3⟩
    · exact ⟨l4, u4⟩
    · exact ⟨l5, u5⟩
    · exact ⟨l6, u6⟩
  · intro q hq
    match q, hq with
    | 0, _ => exact e0
    | 1, _ => exact e1
    | 2, _ => exact e2
    | 3, _ => exact e3
    | 4, _ => exact e4
    | 5, _ => exact e5
    | 6, _ => exact e6
    | 7, _ => exact e7
    | 8, _ => exact e8
    | 9, _ => exact e9

theorem ch_arg {v : Value} (hsp : ∀ b, spare b = true) (h : (Leaf.other 22).ok enc Tryz.prog w reachBytes base spare held v) :
    ∃ (a : Option Addr) (n cap : Nat) (l : List (CV × TS)), v = .slice a n cap ∧ ChArg w a n cap l := by
  obtain ⟨a, len, cap, V, rfl, hS, hL⟩ := in_flat Tryz.underlying22 flat_ch (by decide) hsp h
  rw [ch_bytes] at hS
  have hone : ∀ i, i < len → ∃ x : CV × TS, OneArg w x ∧ ∀ q, q < 10 → V (i * 10 + q) = (cL.f x).getD q undef := fun i hi => one_arg (c := fun q => V (i * 10 + q)) hsp (fun q L hq => hL i hi q L hq)
  let g : Nat → CV × TS := fun i => if h : i < len then Classical.choose (hone i h) else cL.d
  have hg : ∀ i, i < len → OneArg w (g i) ∧ ∀ q, q < 10 → V (i * 10 + q) = (cL.f (g i)).getD q undef := fun i hi => by
    have := Classical.choose_spec (hone i hi)
    simpa only [g, dif_pos hi] using this
  have hlen : ((List.range len).map g).length = len := by simp
  refine ⟨a, len, cap, (List.range len).map g, rfl, ?_, hlen, hS.le, hS.rch, fun x hx => ?_⟩
  · refine ⟨hS.le, hS.mx, hS.sm, fun b off e j hj => ?_⟩
    rw [hS.cell b off e j hj]
    have hk : j / 10 < len := by omega
    have hq : j % 10 < 10 := Nat.mod_lt _ (by decide)
    have e1 : V j = (cL.f (g (j / 10))).getD (j % 10) undef := by
      have := (hg (j / 10) hk).2 (j % 10) hq
      rwa [show j / 10 * 10 + j % 10 = j by omega] at this
    have e2 : cL.at_ ((List.range len).map g) j = (cL.f (g (j / 10))).getD (j % 10) undef := by
      have := cL.at_add ((List.range len).map g) (j / 10) (j % 10) hq
      rw [show j / 10 * cL.sz + j % 10 = j by show j / 10 * 10 + j % 10 = j; omega] at this
      rw [this]
      simp [Lay.nth, hk]
    rw [e1, e2]
  · obtain ⟨i, hi, rfl⟩ := List.mem_map.1 hx
    exact (hg i (by simpa using hi)).1
end
end Go.Proofs.YtmgnekjhlfghaaaGreat
