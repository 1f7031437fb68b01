/-
  Merged, in build order: Pk9 R0 Lex.
-/
import Derived.Lib.ConvBytes
import Derived.Lib.AtoiErrMem
import Derived.Test.YtmgnekjhlfghaaaGreatM15
import Derived.Test.YtmgnekjhlfghaaaGreatM5
import Derived.Test.YtmgnekjhlfghaaaGreatM8
import Derived.Test.YtmgnekjhlfghaaaGreatM9
/-
  pack.Reader: Bits.
-/
namespace Go.Proofs.YtmgnekjhlfghaaaGreat
open Go.RowKit
set_option linter.unusedVariables false
set_option linter.unusedSimpArgs false

/-- Bytes as a number, the greatest first. -/
def beN (b : ByteArray) (p : Nat) : Nat → Nat
  | 0 => 0
  | k + 1 => beN b p k * 256 + bAt b (p + k)
/-- 64 bits, read. -/
def rdBits (b : ByteArray) (at_ : Nat) : Except Int (Nat × Nat) :=
  if at_ + 8 ≤ b.size then .ok (beN b at_ 8, at_ + 8) else .error 20
theorem beN_lt (b : ByteArray) (p k : Nat) : beN b p k < 256 ^ k := by
  induction k with
  | zero => simp [beN]
  | succ k ih =>
    have := bAt_lt b (p + k)
    rw [beN, Nat.pow_succ]
    omega

set_option maxRecDepth 100000 in
theorem bits_slot (N c : Nat) (hN : N * 256 + c < 18446744073709551616) (hc : c < 256) : bits .or .u64 (IntKind.u64.wrap ((N : Int) * 256)) (c : Int) = ((N * 256 + c : Nat) : Int) := by
  have e1 : (N : Int) * 256 = ((N * 256 : Nat) : Int) := by push_cast; rfl
  rw [e1, u64_nat _ (by omega)]
  rw [bits_join .u64 64 (by decide) wraps_u64 8 _ _ (by omega) (by omega) (by omega) (by omega) (by omega) (by omega)]
  push_cast; rfl

section
variable {W : Base} {w : World} {R : List Thing}

set_option maxHeartbeats 1600000 in
theorem st_bits1 (H : St W w R) (i : Nat) {r : Nat} {s : RS} (hi : R[i]? = some (RdT r s)) (hw : s.wf) {j pb : Nat}
    (hj : R[j]? = some (BlkT pb (.cells #[Value.pointer (some ⟨r, 0, none⟩)] 112))) :
    Calls Tryz.prog 136 #[.pointer (some ⟨pb, 0, none⟩)] w (ReadTo (fun n : Nat => Value.int .u64 n) W R i r s (rdBits s.b s.at_)) := by
  have p0 : w.cell? ⟨pb, 0, none⟩ = some (.pointer (some ⟨r, 0, none⟩)) := cell_blk (H.blk j hj) rfl
  have hil := lt_of_get hi
  unfold rdBits
  by_cases hfit : s.at_ + 8 ≤ s.b.size
  · rw [if_pos hfit]
    go_enter Tryz.func136, Tryz.ntmps136
    go_wp2_with fail
    refine (st_take H i hi hw 8 (by omega) hfit).mono ?_
    clear H
    rintro e w1 ⟨rfl, H⟩
    have hsz : (s.b.extract s.at_ (s.at_ + 8)).size = 8 := by rw [ByteArray.size_extract]; omega
    have hbt : ∀ j, j < 8 → ((s.b.extract s.at_ (s.at_ + 8)).data.toList.getD j 0).toNat = bAt s.b (s.at_ + j) := fun j hj => by
      have h : j < (s.b.extract s.at_ (s.at_ + 8)).size := by omega
      have e := ByteArray.getElem_extract (i := j) (b := s.b) (start := s.at_) (stop := s.at_ + 8) h
      unfold bAt
      rw [List.getD_eq_getElem?_getD, List.getElem?_eq_getElem (show j < (s.b.extract s.at_ (s.at_ + 8)).data.toList.length from h), List.getD_eq_getElem?_getD, List.getElem?_eq_getElem (show s.at_ + j < s.b.data.toList.length by show s.at_ + j < s.b.size; omega)]
      exact congrArg UInt8.toNat e
    generalize s.b.extract s.at_ (s.at_ + 8) = t at hsz hbt ⊢
    have hcv := Lib.run_convert_string_bytes (P := Tryz.prog) w1 9 94 5 t Tryz.underlying9 Tryz.underlying94 Tryz.underlying5
    have hbt := hid hbt
    go_wp2_with fail
    have hcell : ∀ j, j < 8 → (Lib.bytesWorld w1 5 t).cell? ⟨w1.heap.size, j, none⟩ = some (.int .u8 (bAt s.b (s.at_ + j))) := fun j hj => by
      rw [Lib.bytesWorld_cell _ _ _ _ (by omega), hbt.out j hj]
    have HB := hid (H.same (Fr.of_below (Lib.bytesWorld_below w1 5 t) []))
    clear H hcv
    generalize Lib.bytesWorld w1 5 t = wB at hcell HB ⊢
    generalize grownCap w1 8 0 5 = cp
    generalize w1.heap.size = g at hcell ⊢
    go_loopw [2, 9] (fun nv iv wr => ∃ k, k ≤ 8 ∧ iv = .int .i64 (k : Nat) ∧ nv = .int .u64 (beN s.b s.at_ k) ∧ wr = wB) (fun _ iv _ => 8 - (intOf iv).toNat)
    case atStart => exact ⟨0, by omega, rfl, rfl, rfl⟩
    case round =>
      obtain ⟨k, hk, rfl, rfl, rfl⟩ := hrel
      by_cases hlt : k < 8
      · have hc := hcell k hlt
        have hc8 := bAt_lt s.b (s.at_ + k)
        have hN8 := beN_lt s.b s.at_ k
        have hn := hid (show beN s.b s.at_ (k + 1) = beN s.b s.at_ k * 256 + bAt s.b (s.at_ + k) from rfl)
        generalize hcb : bAt s.b (s.at_ + k) = c at hc hc8 hn
        have hcb := hid hcb
        generalize beN s.b s.at_ k = N at hN8 hn
        have hN9 : N * 256 + c < 18446744073709551616 := by
          have h1 : (256 : Nat) ^ k ≤ 256 ^ 7 := Nat.pow_le_pow_right (by omega) (by omega)
          have : (256 : Nat) ^ 7 = 72057594037927936 := rfl
          omega
        have hsl := hid (bits_slot N c hN9 hc8)
        clear hN8 hN9
        go_wp2_with fail
        refine ⟨⟨k + 1, by omega, rfl, ?_, trivial⟩, ?_⟩
        · rw [hn.out, ← hsl.out]
        · show 8 - ((k : Int) + 1).toNat < 8 - (k : Int).toNat
          omega
      · have hk8 : k = 8 := by omega
        subst hk8
        go_wp2_with fail
        go_ret
        exact ⟨rfl, HB.out⟩
  · rw [if_neg hfit]
    go_enter Tryz.func136, Tryz.ntmps136
    go_wp2_with fail
    refine (st_take_no H i hi hw 8 (by omega) (show s.b.size < s.at_ + 8 by omega)).mono ?_
    clear H
    rintro e w1 ⟨rfl, H⟩
    go_wp2_with fail
    exact ⟨rfl, rfl, s.at_, hw.le, by rw [things_set_self hi]; exact H⟩

theorem enter_bits1 (args : Array Value) (w : World) : (callFunc 136 args).run Tryz.prog w = .ok (.enter 136 args) w := run_enter Tryz.func136 (by kernel_rfl) rfl args w

theorem st_Bits (H : St W w R) (i : Nat) {r : Nat} {s : RS} (hi : R[i]? = some (RdT r s)) (hw : s.wf) :
    Calls Tryz.prog 101 #[.pointer (some ⟨r, 0, none⟩)] w fun e w' => e = .returned (.int .u64 (s.got 0 (rdBits s.b s.at_) : Nat)) ∧ St W w' (R.set i (RdT r (s.face (rdBits s.b s.at_)))) := by
  have hmf : ∀ (fn : Fn) (first cap : Array Value) (w : World), (Instr.makeFunc fn first cap).run Tryz.prog w = .ok (.func fn first cap) w := fun _ _ _ _ => rfl
  generalize hX : rdBits s.b s.at_ = X
  generalize hs : s.face X = s'
  generalize hg : s.got 0 X = g
  have hX := hid hX
  have hs := hid hs
  have hg := hid hg
  have hil := lt_of_get hi
  have H := hid H
  go_enter Tryz.func101, Tryz.ntmps101
  go_wp2_with fail
  have H2 := H.out.alloc (.cells #[Value.pointer (some ⟨r, 0, none⟩)] 112)
  refine (st_face_u (X := X) H2 i (by rw [List.getElem?_append_left hil]; exact hi) (enter_bits1 _) ?_).mono ?_
  · intro T w' H3
    rw [← hX.out]
    refine st_bits1 H3 i ?_ hw (j := R.length + 0) ?_
    · rw [List.append_assoc, List.getElem?_append_left hil]; exact hi
    · rw [List.append_assoc, get_behind]; rfl
  rintro e w1 ⟨rfl, H4⟩
  rw [hg.out, hs.out, List.set_append_left _ _ hil] at *
  have H4 := hid H4.drop
  go_wp2_with fail
  go_ret
  exact ⟨rfl, H4.out⟩

end
end Go.Proofs.YtmgnekjhlfghaaaGreat

/-
  record: a change; in, right, has, texts.
-/
namespace Go.Proofs.YtmgnekjhlfghaaaGreat
open Go.RowKit
set_option linter.unusedVariables false
set_option linter.unusedSimpArgs false

/-- Strings in a row. -/
def sL : Lay ByteArray where
  f := fun s => [.string s]
  d := ⟨#[]⟩
  sz := 1
  len := fun _ => rfl
  pos := by decide
  one := fun a u hu => by simp at hu; subst hu; rfl

/-- A change. -/
structure CV where
  kind : Int
  n : Int
  job : Int
  badge : Int
  slot : Int
  life : Int
  code : Int
  bits : Int
  prog : ByteArray
  texts : List ByteArray
/-- A texts' slice. -/
structure TS where
  a : Option Addr
  c : Nat
def CV.f (c : CV) (t : TS) : List Value := [.int .i64 c.kind, .int .i64 c.n, .int .i64 c.job, .int .i64 c.badge, .int .i64 c.slot, .int .i64 c.life, .int .i64 c.code, .int .u64 c.bits, .string c.prog, .slice t.a c.texts.length t.c]
def CV.zero : CV := ⟨0, 0, 0, 0, 0, 0, 0, 0, ⟨#[]⟩, []⟩
def cL : Lay (CV × TS) where
  f := fun x => x.1.f x.2
  d := (.zero, ⟨none, 0⟩)
  sz := 10
  len := fun _ => rfl
  pos := by decide
  one := fun a u hu => by simp [CV.f] at hu; rcases hu with rfl | rfl | rfl | rfl | rfl | rfl | rfl | rfl | rfl | rfl <;> rfl

/-! ### What the program's own do -/
def rgt (h z m : Bool) : Bool := if h then m else z
/-- A kind's fields. -/
def hasS (k : Int) : ByteArray :=
  if k = 1 then ⟨#[110]⟩ else if k = 2 then ⟨#[106, 112]⟩ else if k = 3 then ⟨#[106, 98, 115]⟩ else if k = 4 then ⟨#[98, 116]⟩ else if k = 5 then ⟨#[98]⟩ else if k = 6 then ⟨#[98, 114]⟩ else ⟨#[]⟩
def hasL (k : Int) (l : UInt8) : Bool := decide (0 ≤ Lib.indexByte (hasS k).data.toList l)
def textsB (l : List ByteArray) : Bool := inB l.length 1 8 && !(l.any fun s => decide (32 < s.size))

theorem in_walk (w : World) (n low high : Int) :
    Calls Tryz.prog 65 #[.int .i64 n, .int .i64 low, .int .i64 high] w fun e w' => e = .returned (.bool (inB n low high)) ∧ w = w' := by
  unfold inB
  by_cases h1 : low ≤ n
  · by_cases h2 : n ≤ high
    · go_enter Tryz.func65, Tryz.ntmps65
      go_wp2
      go_ret
      exact ⟨by simp [h1, h2], rfl⟩
    · go_enter Tryz.func65, Tryz.ntmps65
      go_wp2
      go_ret
      exact ⟨by simp [h1, h2], rfl⟩
  · go_enter Tryz.func65, Tryz.ntmps65
    go_wp2
    go_ret
    exact ⟨by rw [decide_eq_false (by omega : ¬ low ≤ n)]; rfl, rfl⟩

theorem right_walk (w : World) (h z m : Bool) :
    Calls Tryz.prog 69 #[.bool h, .bool z, .bool m] w fun e w' => e = .returned (.bool (rgt h z m)) ∧ w = w' := by
  unfold rgt
  cases h
  · go_enter Tryz.func69, Tryz.ntmps69
    go_wp2
    go_ret
    exact ⟨rfl, rfl⟩
  · go_enter Tryz.func69, Tryz.ntmps69
    go_wp2
    go_ret
    exact ⟨rfl, rfl⟩

theorem has_walk (w : World) (k : Int) :
    Calls Tryz.prog 68 #[.int .i64 k] w fun e w' => e = .returned (.string (hasS k)) ∧ w = w' := by
  unfold hasS
  by_cases h1 : k = 1
  · subst h1
    go_enter Tryz.func68, Tryz.ntmps68
    go_wp2
    go_ret
    exact ⟨rfl, rfl⟩
  by_cases h2 : k = 2
  · subst h2
    go_enter Tryz.func68, Tryz.ntmps68
    go_wp2
    go_ret
    exact ⟨rfl, rfl⟩
  by_cases h3 : k = 3
  · subst h3
    go_enter Tryz.func68, Tryz.ntmps68
    go_wp2
    go_ret
    exact ⟨rfl, rfl⟩
  by_cases h4 : k = 4
  · subst h4
    go_enter Tryz.func68, Tryz.ntmps68
    go_wp2
    go_ret
    exact ⟨rfl, rfl⟩
  by_cases h5 : k = 5
  · subst h5
    go_enter Tryz.func68, Tryz.ntmps68
    go_wp2
    go_ret
    exact ⟨rfl, rfl⟩
  by_cases h6 : k = 6
  · subst h6
    go_enter Tryz.func68, Tryz.ntmps68
    go_wp2
    go_ret
    exact ⟨rfl, rfl⟩
  have e1 : (k == 1) = false := by rw [beq_eq_false_iff_ne]; exact h1
  have e2 : (k == 2) = false := by rw [beq_eq_false_iff_ne]; exact h2
  have e3 : (k == 3) = false := by rw [beq_eq_false_iff_ne]; exact h3
  have e4 : (k == 4) = false := by rw [beq_eq_false_iff_ne]; exact h4
  have e5 : (k == 5) = false := by rw [beq_eq_false_iff_ne]; exact h5
  have e6 : (k == 6) = false := by rw [beq_eq_false_iff_ne]; exact h6
  rw [if_neg h1, if_neg h2, if_neg h3, if_neg h4, if_neg h5, if_neg h6]
  clear h1 h2 h3 h4 h5 h6
  go_enter Tryz.func68, Tryz.ntmps68
  go_wp2
  go_ret
  exact ⟨rfl, rfl⟩

theorem texts1_walk (w : World) (s : ByteArray) :
    Calls Tryz.prog 118 #[.string s] w fun e w' => e = .returned (.bool (decide (32 < s.size))) ∧ w = w' := by
  go_enter Tryz.func118, Tryz.ntmps118
  go_wp2
  all_goals
    go_ret
    exact ⟨by simp; try omega, rfl⟩

theorem enter_texts1 (args : Array Value) (w : World) : (callFunc 118 args).run Tryz.prog w = .ok (.enter 118 args) w := run_enter Tryz.func118 (by kernel_rfl) rfl args w

theorem str_cells {w : World} {b o n cap : Nat} {l : List ByteArray} (h : In w 1 (some ⟨b, o, none⟩) n cap (sL.at_ l)) (k : Nat) (hk : k < n) : w.cell? ⟨b, o + k, none⟩ = some (.string (sL.nth l k)) := by
  have c0 := h.cell b o rfl k (by omega)
  rw [show k = k * sL.sz + 0 by show k = k * 1 + 0; omega, sL.at_add _ _ 0 (by decide)] at c0
  simpa [sL, Lay.nth] using c0

set_option maxHeartbeats 800000 in
set_option maxRecDepth 100000 in
theorem index_str (w : World) (b : Option Addr) (cb n : Nat) (l : List ByteArray) (hln : l.length = n) (hb : In w 1 b n cb (sL.at_ l)) (fid : Nat) (cap : Array Value) (p : Nat → Bool) (he : ∀ args wx, (callFunc fid args).run Tryz.prog wx = .ok (.enter fid args) wx)
    (hf : ∀ k, k < n → Calls Tryz.prog fid (#[.string (sL.nth l k)] ++ cap) w fun e w' => e = .returned (.bool (p k)) ∧ w = w') :
    Calls Tryz.prog 145 #[.slice b n cb, .func (.func fid) #[] cap] w fun e w' => ∃ z : Int, e = .returned (.int .i64 z) ∧ w = w' ∧ ((∃ k, k < n ∧ p k = true ∧ (∀ j, j < k → p j = false) ∧ z = k) ∨ (∀ k, k < n → p k = false) ∧ z = -1) := by
  have hmb := hb.max
  have HB := hid hb
  have HF := hid hf
  have HE := hid he
  clear hb hf he
  go_enter Tryz.func145, Tryz.ntmps145
  go_wp2_with fail
  go_loopw [8] (fun i wr => ∃ k : Nat, k ≤ n ∧ i = .int .i64 k ∧ (∀ j, j < k → p j = false) ∧ w = wr) (fun i _ => n - (intOf i).toNat)
  case atStart => exact ⟨0, Nat.zero_le _, rfl, fun j hj => absurd hj (Nat.not_lt_zero _), rfl⟩
  case round =>
    obtain ⟨k, hk, rfl, hall, rfl⟩ := hrel
    have HAll := hid hall
    clear hall
    by_cases hlt : k < n
    · obtain ⟨bb, ob, rfl⟩ := HB.out.sm (by omega)
      have c0 := str_cells HB.out k hlt
      have HC := hid (HF.out k hlt)
      generalize hx : sL.nth l k = x at c0 HC
      clear hx
      cases hp : p k
      · rw [hp] at HC
        have HPk := hid hp
        clear hp
        go_wp2_with fail
        rw [HE.out, Oper.upon_enter]
        refine HC.out.mono ?_
        rintro e w1 ⟨rfl, rfl⟩
        go_wp2_with fail
        go_roundw
        case rel => exact ⟨k + 1, by omega, by go_num, fun j hj => by by_cases hjk : j = k; (subst hjk; exact HPk.out); exact HAll.out j (by omega), trivial⟩
        case measure => simp [intOf]; omega
      · rw [hp] at HC
        have HPk := hid hp
        clear hp
        go_wp2_with fail
        rw [HE.out, Oper.upon_enter]
        refine HC.out.mono ?_
        rintro e w1 ⟨rfl, rfl⟩
        go_wp2_with fail
        go_ret
        exact ⟨_, rfl, rfl, .inl ⟨k, hlt, HPk.out, HAll.out, rfl⟩⟩
    · obtain rfl : k = n := by omega
      go_wp2_with fail
      go_ret
      exact ⟨_, rfl, rfl, .inr ⟨HAll.out, rfl⟩⟩

theorem contains_str (w : World) (b : Option Addr) (cb : Nat) (l : List ByteArray) (hb : In w 1 b l.length cb (sL.at_ l)) (fid : Nat) (cap : Array Value) (p : ByteArray → Bool) (he : ∀ args wx, (callFunc fid args).run Tryz.prog wx = .ok (.enter fid args) wx)
    (hf : ∀ s, Calls Tryz.prog fid (#[.string s] ++ cap) w fun e w' => e = .returned (.bool (p s)) ∧ w = w') :
    Calls Tryz.prog 117 #[.slice b l.length cb, .func (.func fid) #[] cap] w fun e w' => e = .returned (.bool (l.any p)) ∧ w = w' := by
  have hc := hid (index_str w b cb l.length l rfl hb fid cap (fun k => p (sL.nth l k)) he (fun k _ => hf _))
  clear hb hf he
  go_enter Tryz.func117, Tryz.ntmps117
  go_wp2_with fail
  refine hc.out.mono ?_
  rintro e w1 ⟨z, rfl, rfl, hz⟩
  have hz := hid hz
  go_wp2_with fail
  all_goals
    go_ret
    refine ⟨?_, rfl⟩
    rcases hz.out with ⟨k, hk, hp, _, e⟩ | ⟨hall, e⟩
    · have : l.any p = true := List.any_eq_true.2 ⟨_, sL.mem_nth hk, hp⟩
      subst e
      simp [this]
    · have : l.any p = false := by
        rw [List.any_eq_false]
        intro x hx
        obtain ⟨k, hk, rfl⟩ := List.getElem_of_mem hx
        have := hall k hk
        rw [show sL.nth l k = l[k] from by simp [Lay.nth, List.getD_eq_getElem?_getD, hk]] at this
        simp [this]
      subst e
      simp [this]

theorem texts_walk (w : World) (a : Option Addr) (cap : Nat) (l : List ByteArray) (h : In w 1 a l.length cap (sL.at_ l)) :
    Calls Tryz.prog 70 #[.slice a l.length cap] w fun e w' => e = .returned (.bool (textsB l)) ∧ w = w' := by
  have hm := h.max
  have hc := hid (contains_str w a cap l h 118 #[] (fun s => decide (32 < s.size)) enter_texts1 (fun s => texts1_walk w s))
  clear h
  unfold textsB
  generalize hx : (l.any fun s => decide (32 < s.size)) = x at hc ⊢
  clear hx
  cases hi : inB (l.length : Int) 1 8
  · go_enter Tryz.func70, Tryz.ntmps70
    go_wp2_with (go_at_call 65; refine (in_walk _ _ _ _).mono ?_; rintro e w1 ⟨rfl, rfl⟩; rw [hi])
    go_ret
    exact ⟨rfl, rfl⟩
  · go_enter Tryz.func70, Tryz.ntmps70
    go_wp2_with (first | (go_at_call 65; refine (in_walk _ _ _ _).mono ?_; rintro e w1 ⟨rfl, rfl⟩; rw [hi]) | (go_at_call 117; refine hc.out.mono ?_; rintro e w1 ⟨rfl, rfl⟩))
    go_ret
    exact ⟨by simp, rfl⟩

end Go.Proofs.YtmgnekjhlfghaaaGreat

/-
  That a region may be walked in the text's order: by a small table of its operations (its destination, what it looks at, what it waits for). Of no program.
-/
namespace Go.Proofs.YtmgnekjhlfghaaaGreat
set_option linter.unusedVariables false

/-- What is asked of an operation: its destination, what it looks at, what it waits for. -/
def lexRow (ops : Array Oper) (o : Oper) : Option Nat × List Nat × List Nat :=
  (o.dst, o.looksAt ops, (o.after.toList.filter fun e => Region.binds .any e).map (·.on))
def rowApart (x y : Option Nat × List Nat × List Nat) : Bool :=
  (match x.1 with | some d => !(y.2.1.contains d) && y.1 != some d | none => true) &&
  (match y.1 with | some d => !(x.2.1.contains d) | none => true)
def rowsGood : Nat → List (Option Nat × List Nat × List Nat) → Bool
  | _, [] => true
  | k, x :: rest => x.2.2.all (fun i => Nat.blt i k) && rest.all (fun y => y.2.2.contains k || rowApart x y) && rowsGood (k + 1) rest

theorem rowApart_apart {ops : Array Oper} {x y : Oper} (h : rowApart (lexRow ops x) (lexRow ops y) = true) : x.apart ops y = true := h

theorem rowsGood_at : ∀ (D : List (Option Nat × List Nat × List Nat)) (k : Nat), rowsGood k D = true → ∀ (i : Nat) (x : Option Nat × List Nat × List Nat), D[i]? = some x →
    (∀ j, j ∈ x.2.2 → j < k + i) ∧ ∀ (j : Nat) (y : Option Nat × List Nat × List Nat), i < j → D[j]? = some y → (k + i) ∈ y.2.2 ∨ rowApart x y = true
  | [], _, _, i, x, hi => by simp at hi
  | z :: rest, k, h, i, x, hi => by
    simp only [rowsGood, Bool.and_eq_true] at h
    cases i with
    | zero =>
      simp at hi; subst hi
      refine ⟨fun j hj => by have := List.all_eq_true.1 h.1.1 j hj; simpa using this, fun j y hj hy => ?_⟩
      obtain ⟨j', rfl⟩ : ∃ j', j = j' + 1 := ⟨j - 1, by omega⟩
      have hm : y ∈ rest := List.mem_of_getElem? (by simpa using hy)
      have := List.all_eq_true.1 h.1.2 y hm
      simp only [Bool.or_eq_true, List.contains_iff_mem] at this
      exact this
    | succ i =>
      have := rowsGood_at rest (k + 1) h.2 i x (by simpa using hi)
      refine ⟨fun j hj => by have := this.1 j hj; omega, fun j y hj hy => ?_⟩
      obtain ⟨j', rfl⟩ : ∃ j', j = j' + 1 := ⟨j - 1, by omega⟩
      have h2 := this.2 j' y (by omega) (by simpa using hy)
      rwa [show k + 1 + i = k + (i + 1) by omega] at h2

theorem lexFrom_good {l : List Oper} {D : List (Option Nat × List Nat × List Nat)} (hD : l.map (lexRow l.toArray) = D) (hg : rowsGood 0 D = true) :
    ∀ (fuel k : Nat) (listed : Array Bool), k + fuel = l.length → listed.size = l.length → (∀ i, i < l.length → listed[i]? = some (decide (i < k))) → Region.lexFrom .any l.toArray fuel k listed = true := by
  intro fuel
  have hrow : ∀ (i : Nat) (o : Oper), l[i]? = some o → D[i]? = some (lexRow l.toArray o) := fun i o h => by rw [← hD, List.getElem?_map, h]; rfl
  have hgood := rowsGood_at D 0 hg
  induction fuel with
  | zero =>
    intro k listed hk hs hl
    rw [Region.lexFrom, List.isEmpty_iff]
    refine List.eq_nil_iff_forall_not_mem.2 fun i hi => ?_
    obtain ⟨h0, o, ho, _⟩ := mem_ready.1 hi
    have hlt : i < l.length := by
      have := (Array.getElem?_eq_some_iff.1 ho).1
      simpa using this
    have := hl i hlt
    simp [this] at h0
    omega
  | succ fuel ih =>
    intro k listed hk hs hl
    have hkl : k < l.length := by omega
    have ho : l[k]? = some l[k] := List.getElem?_eq_getElem hkl
    have hoA : l.toArray[k]? = some l[k] := by simp
    have hg0 := hgood k _ (hrow k _ ho)
    simp only [Region.lexFrom, Bool.and_eq_true, List.contains_iff_mem]
    refine ⟨⟨?_, ?_⟩, ?_⟩
    · refine mem_ready.2 ⟨?_, l[k], hoA, fun e he hb => ?_⟩
      · simp [hl k hkl]
      · have hm : e.on ∈ (lexRow l.toArray l[k]).2.2 := List.mem_map.2 ⟨e, List.mem_filter.2 ⟨by simpa using he, hb⟩, rfl⟩
        have := hg0.1 _ hm
        simp [hl e.on (by omega)]; omega
    · rw [Region.free, hoA]
      simp only [List.all_eq_true, List.mem_range, Bool.or_eq_true]
      intro j hj
      have hj' : j < l.length := by simpa using hj
      by_cases h1 : j = k
      · simp [h1]
      · by_cases h2 : j < k
        · left; right
          simp [hl j hj', h2]
        · right
          have hoj : l[j]? = some l[j] := List.getElem?_eq_getElem hj'
          have hojA : l.toArray[j]? = some l[j] := by simp
          rw [hojA]
          rcases hg0.2 j _ (by omega) (hrow j _ hoj) with h3 | h3
          · simp only [Bool.or_eq_true]
            left
            obtain ⟨e, he, hon⟩ := List.mem_map.1 h3
            obtain ⟨he1, he2⟩ := List.mem_filter.1 he
            rw [Array.any_eq_true']
            exact ⟨e, by simpa using he1, by simp [he2]; omega⟩
          · simp only [Bool.or_eq_true]
            exact .inr (rowApart_apart h3)
    · refine ih (k + 1) _ (by omega) (by simp [hs]) fun i hi => ?_
      by_cases h1 : i = k
      · subst h1
        rw [Array.getElem?_setIfInBounds_self_of_lt (by omega)]
        simp
      · rw [Array.getElem?_setIfInBounds_ne (by omega), hl i hi]
        congr 1
        simp only [decide_eq_decide]
        omega

/-- The table is laid; it is good. -/
theorem lexB_of {l : List Oper} {D : List (Option Nat × List Nat × List Nat)} (hn : Region.noSelect l.toArray = true) (hD : l.map (lexRow l.toArray) = D) (hg : rowsGood 0 D = true) : Region.lexB .any l.toArray = true := by
  rw [Region.lexB, hn, Bool.true_and]
  exact lexFrom_good hD hg _ 0 _ (by simp) (by simp) fun i hi => by simp [hi]

theorem lexB_of' {l : List Oper} (hn : Region.noSelect l.toArray = true) (hg : rowsGood 0 (l.map (lexRow l.toArray)) = true) : Region.lexB .any l.toArray = true := lexB_of hn rfl hg

/-- An operation whose guard's Bool isn't known. -/
theorem calmRow_sym {P : Program} {ops : Array Oper} {S : World → Prop} {Q : Act → Prop} {a : Act} {o : Oper} {rest : List Oper} {v : Value} (b : Bool) (hw : Region.wanted o (yielded ops a.tmps) = b) (hv : b = true → ∀ w, S w → calmTo P S v ((execOp a.eval o).run P w))
    (h : calmRow P ops S Q rest (a.put o.dst (if b then v else undef))) : calmRow P ops S Q (o :: rest) a := by
  cases b
  · exact calmRow_skip hw h
  · exact calmRow_take hw (hv rfl) h
/-- A pick by a Bool that isn't known. -/
theorem calmRow_pick {P : Program} {ops : Array Oper} {S : World → Prop} {Q : Act → Prop} {a : Act} {o : Oper} {rest : List Oper} (v : Value) (hw : Region.wanted o (yielded ops a.tmps) = true) (hv : ∀ w, S w → calmTo P S v ((execOp a.eval o).run P w))
    (h : calmRow P ops S Q rest (a.put o.dst v)) : calmRow P ops S Q (o :: rest) a := calmRow_take hw hv h

end Go.Proofs.YtmgnekjhlfghaaaGreat
