/-
  Merged, in build order: Ts8 Pr0 Pr1 Se0.
-/
import Derived.Test.YtkiccbjngokpjaaM25
import Derived.Test.YtkiccbjngokpjaaM26
import Derived.Test.YtkiccbjngokpjaaM17
import Derived.Test.YtkiccbjngokpjaaM16
import Derived.Test.YtkiccbjngokpjaaM20
/-
  the streams of top: newStream (a log); flowing.
-/
namespace Go.Proofs.Ytkiccbjngokpjaa
open Go.RowKit
set_option linter.unusedVariables false
set_option linter.unusedSimpArgs false

section
variable {W : Base} {w : World}
set_option maxHeartbeats 3200000 in
theorem st_newStream_no (win res : Int) (hb : ¬ (1 ≤ win ∧ win ≤ 8 ∧ 1 ≤ res ∧ res ≤ 16)) (art : Bool) :
    Calls Try.prog 6 #[.int .i64 win, .int .i64 res, .bool art] w fun e w' => e = .returned (.tuple #[.pointer none, .bool false]) ∧ w = w' := by
  by_cases h1 : win < 1
  · clear hb
    go_enter Try.func6, Try.ntmps6
    go_wp2_with fail
    go_ret2
    exact ⟨rfl, rfl⟩
  · by_cases h2 : 8 < win
    · clear hb
      go_enter Try.func6, Try.ntmps6
      go_wp2_with fail
      go_ret2
      exact ⟨rfl, rfl⟩
    · by_cases h3 : res < 1
      · clear hb
        go_enter Try.func6, Try.ntmps6
        go_wp2_with fail
        go_ret2
        exact ⟨rfl, rfl⟩
      · have h4 : 16 < res := by omega
        clear hb
        go_enter Try.func6, Try.ntmps6
        go_wp2_with fail
        go_ret2
        exact ⟨rfl, rfl⟩

set_option maxHeartbeats 6400000 in
set_option maxRecDepth 100000 in
theorem st_newStream_log (H : St W w []) (win res : Nat) (h1 : 1 ≤ win ∧ win ≤ 8) (h2 : 1 ≤ res ∧ res ≤ 16) :
    Calls Try.prog 6 #[.int .i64 win, .int .i64 res, .bool false] w fun e w' => ∃ X S P K N pv sv, e = .returned (.tuple #[ptr X, .bool true]) ∧ St W w' (smL X S P K N (.new win res) pv sv) := by
  have HN := hid (st_nnew H)
  have g1 : ¬ (win : Int) < 1 := by omega
  have g2 : ¬ (8 : Int) < win := by omega
  have g3 : ¬ (res : Int) < 1 := by omega
  have g4 : ¬ (16 : Int) < res := by omega
  have h1 := hid h1
  have h2 := hid h2
  clear H
  go_enter Try.func6, Try.ntmps6
  go_wp2_with fail
  refine HN.out.mono ?_
  rintro e w1 ⟨N, rfl, H1⟩
  have H1 : St W w1 [NtT N [] 0] := H1
  have HK := hid (st_knew H1)
  clear HN H1
  go_wp2_with fail
  refine HK.out.mono ?_
  rintro e w2 ⟨K, rfl, H2⟩
  have H2 := hid (H2.alloc (stO (.pointer none) (.pointer none) (ptr K) N win res 0 (.slice none 0 0) (.slice none 0 0)))
  clear HK
  have HW := hid (st_wnew H2.out win h1.out)
  go_wp2_with fail
  refine HW.out.mono ?_
  rintro e w3 ⟨P, rfl, H3⟩
  clear HW H2
  generalize w2.heap.size = X at H3 ⊢
  have H3 : St W w3 [NtT N [] 0, KnT K ⟨none⟩ 0, BlkT X (stO (.pointer none) (.pointer none) (ptr K) N win res 0 (.slice none 0 0) (.slice none 0 0)), WnT P (.new win)] := H3
  have b3 := H3.blk 2 rfl
  have f1 := free_blk (i := 1) b3
  have x1 := cell_blk (i := 1) b3 rfl
  have H4 := H3.setBlk 2 rfl 1 (ptr P)
  have H4 : St W (w3.setCell ⟨X, 1, none⟩ (ptr P)) [NtT N [] 0, KnT K ⟨none⟩ 0, BlkT X (stO (.pointer none) (ptr P) (ptr K) N win res 0 (.slice none 0 0) (.slice none 0 0)), WnT P (.new win)] := H4
  have b4 := H4.blk 2 rfl
  have f9 := free_blk (i := 9) b4
  have x9 := cell_blk (i := 9) b4 rfl
  have H5 := H4.setBlk 2 rfl 9 (.bool false)
  have H5 : St W ((w3.setCell ⟨X, 1, none⟩ (ptr P)).setCell ⟨X, 9, none⟩ (.bool false)) [NtT N [] 0, KnT K ⟨none⟩ 0, BlkT X (stO (.pointer none) (ptr P) (ptr K) N win res (0 : Nat) (.slice none 0 0) (.slice none 0 0)), WnT P (.new win)] := H5
  have HB := hid (st_begins_log H5 2 rfl h1.out h2.out (by omega))
  clear b3 b4 H3 H4 H5
  go_wp2_with fail
  refine HB.out.mono ?_
  rintro e w4 ⟨S, rfl, H6⟩
  have H7 := hid (show St W w4 (smL X S P K N (.new win res) (.slice none 0 0) (.slice none 0 0)) from by
    have h : St W w4 ([] ++ [NtT N [] 0, KnT K ⟨none⟩ 0, BlkT X (stO (ptr S) (ptr P) (ptr K) N win res ((0 + 1 : Nat) : Int) (.slice none 0 0) (.slice none 0 0)), WnT P (.new win), SnT S (.new win res)]) := H6
    have h2 := h.pickEnd [2, 4, 3, 0] (by decide) (by intro q hq; simp at hq ⊢; omega)
    have h3 := (h2.nilRow 9 1).nilRow 9 1
    exact h3)
  clear HB x1 f1 x9 f9
  go_wp2_with fail
  go_ret2
  exact ⟨_, _, _, _, _, _, _, rfl, H7.out⟩

abbrev bA : ByteArray := ⟨#[97]⟩
theorem hello_ok : (MV.of 1).Ok := by
  have hk : (MV.of 1).kind = 1 := rfl
  refine ⟨by rw [hk]; decide, by rw [hk]; decide, rfl, fun h => absurd (hk.symm.trans h.1) (by decide), fun f hf => ?_⟩
  have hl : fdsOf (MV.of 1).kind = [] := rfl
  rw [hl] at hf
  cases hf
theorem take_a : ((Wn.new 2).take 0 bA).2 = [bA] := by rfl
theorem item_a : ((Sn.new 2 2).put bA).items.length = 1 := by rfl
set_option maxHeartbeats 6400000 in
set_option maxRecDepth 100000 in
theorem st_flowing (w : World) : Calls Try.prog 5 #[] w fun e w' => e = .returned (.bool true) ∧ Fr [] w w' := by
  have HS0 := hid (st_snew (St.refl w) 2 2 (by decide) (by decide))
  go_enter Try.func5, Try.ntmps5
  go_wp2_with fail
  refine HS0.out.mono ?_
  rintro e w1 ⟨S, rfl, H1⟩
  have HW0 := hid (st_wnew H1 2 (by decide))
  clear HS0 H1
  go_wp2_with fail
  refine HW0.out.mono ?_
  rintro e w2 ⟨P, rfl, H2⟩
  have HN0 := hid (st_nnew H2)
  clear HW0 H2
  go_wp2_with fail
  refine HN0.out.mono ?_
  rintro e w3 ⟨N, rfl, H3⟩
  have HK0 := hid (st_knew H3)
  clear HN0 H3
  go_wp2_with fail
  refine HK0.out.mono ?_
  rintro e w4 ⟨K, rfl, H4⟩
  have H4 : St _ w4 [SnT S (.new 2 2), WnT P (.new 2), NtT N [] 0, KnT K ⟨none⟩ 0] := H4
  have HT := hid (st_wtake H4 1 rfl 0 bA (by rfl) (by decide) (by decide))
  clear HK0 H4
  go_wp2_with fail
  refine HT.out.mono ?_
  rintro e w5 ⟨v, z, rfl, hz, H5⟩
  rw [take_a] at H5 hz
  obtain rfl : z = 0 := hz (by simp)
  obtain ⟨la, lc, rfl, _, _⟩ := row_slice (H5.row 4 rfl)
  have HP := hid (st_kput_take (H5.take 4) 3 rfl 1 0 ⟨#[]⟩ (by decide) (by decide) (by rfl) (by decide) (fun _ => rfl) (by decide) (by decide) (by decide))
  clear HT hz
  go_wp2_with fail
  refine HP.out.mono ?_
  rintro e w6 ⟨rfl, H6⟩
  have H6 : St _ w6 [SnT S (.new 2 2), WnT P ((Wn.new 2).take 0 bA).1, NtT N [] 0, KnT K ((⟨none⟩ : Kn).put 1 0 ⟨#[]⟩) 1] := H6
  have HE := hid (st_wencode H6 (MV.of 1) hello_ok)
  clear HP H5
  dsimp only [MV.of, MV.f] at HE
  go_wp2_with fail
  refine HE.out.mono ?_
  rintro e w7 ⟨rfl, H7⟩
  have HPt := hid (st_sput H7 0 rfl bA (by rfl))
  clear HE H6 H7
  generalize MV.enc _ = en
  go_wp2_with fail
  refine HPt.out.mono ?_
  rintro e w8 ⟨rfl, H8⟩
  have H8 : St _ w8 [SnT S ((Sn.new 2 2).put bA), WnT P ((Wn.new 2).take 0 bA).1, NtT N [] 0, KnT K ((⟨none⟩ : Kn).put 1 0 ⟨#[]⟩) 1] := H8
  have HD := hid (st_sdue H8 0 rfl (by decide) (by decide) (by decide))
  clear HPt H8
  go_wp2_with fail
  refine HD.out.mono ?_
  rintro e w9 ⟨v9, rfl, H9⟩
  rw [item_a] at H9
  have H9 : St _ w9 ([SnT S ((Sn.new 2 2).put bA).due, WnT P ((Wn.new 2).take 0 bA).1, NtT N [] 0, KnT K ((⟨none⟩ : Kn).put 1 0 ⟨#[]⟩) 1] ++ [RowT 141 2 v9 1 (iL.cells ((Sn.new 2 2).put bA).items)]) := H9
  obtain ⟨da, dc, rfl, _, _⟩ := row_slice (H9.row 4 rfl)
  have HSd := hid (st_nsend H9 2 rfl 0 0 0 0 en (by decide))
  clear HD H9
  go_wp2_with fail
  refine HSd.out.mono ?_
  rintro e w10 ⟨rfl, H10⟩
  have hFr := hid H10.fr
  have e1 : nextN 0 = 1 := by rfl
  rw [e1]
  clear HSd H10
  go_wp2_with fail
  go_ret
  exact ⟨rfl, hFr.out⟩
end

end Go.Proofs.Ytkiccbjngokpjaa

/-
  A request over a net, plainly: a caller, a table, the net between; and that in calm one more is answered. Of no program.
-/
namespace Go.Proofs.Ytkiccbjngokpjaa
set_option linter.unusedVariables false
set_option linter.unusedSimpArgs false

/-- What is under way. -/
inductive Pq where
  | hello
  | req (b : Bool) (s n : Nat)
  | welcome (s : Nat)
  | stale (s n : Nat)
  | reply (b : Bool) (s n : Nat)
/-- What a caller has under way. -/
inductive Cq where
  | idle
  | hello
  | req (b : Bool) (s n : Nat)
def Cq.isIdle : Cq → Bool
  | .idle => true
  | _ => false
def Cq.isHello : Cq → Bool
  | .hello => true
  | _ => false
def Cq.isNum (u : Cq) (s n : Nat) : Bool := match u with
  | .req _ s' n' => s' == s && n' == n
  | _ => false
def Cq.isReq (u : Cq) (b : Bool) (s n : Nat) : Bool := match u with
  | .req b' s' n' => b' == b && (s' == s && n' == n)
  | _ => false
def Cq.pq : Cq → Pq
  | .req b s n => .req b s n
  | _ => .hello
theorem Cq.isHello_iff {u : Cq} : u.isHello = true ↔ u = .hello := by cases u <;> simp [Cq.isHello]
theorem Cq.isIdle_iff {u : Cq} : u.isIdle = true ↔ u = .idle := by cases u <;> simp [Cq.isIdle]
theorem Cq.isReq_iff {u : Cq} {b : Bool} {s n : Nat} : u.isReq b s n = true ↔ u = .req b s n := by cases u <;> simp [Cq.isReq]
theorem Cq.isNum_iff {u : Cq} {s n : Nat} : u.isNum s n = true ↔ ∃ b, u = .req b s n := by cases u <;> simp [Cq.isNum]

structure Cl where
  u : Cq
  timer : Nat
  res : Nat
  ses : Nat
  gre : Nat
  last : Nat
def Cl.new (res : Nat) : Cl := ⟨.idle, 0, res, 0, 0, 0⟩
def Cl.tick (c : Cl) : Cl := { c with timer := c.timer - 1 }
def Cl.asks (c : Cl) (b : Bool) : Cl := if c.u.isIdle then (if c.ses = 0 then { c with u := .hello, timer := 0, last := 0 } else { c with u := .req b c.ses (c.last + 1), timer := 0, last := c.last + 1 }) else c
def Cl.isDue (c : Cl) : Bool := !c.u.isIdle && c.timer == 0
def Cl.said (c : Cl) : Cl := { c with timer := c.res }
def Cl.welcomed (c : Cl) (s : Nat) : Cl := { c with u := .idle, timer := 0, ses := s, last := 0, gre := s }
def Cl.lapsed (c : Cl) : Cl := { c with u := .idle, timer := 0, ses := 0, last := 0 }
def Cl.answered (c : Cl) : Cl := { c with u := .idle, timer := 0 }
def Cl.hear (c : Cl) : Pq → Cl × Option (Nat × Nat)
  | .welcome s => if c.u.isHello && decide (c.gre < s) then (c.welcomed s, none) else (c, none)
  | .stale s n => if c.u.isNum s n then (c.lapsed, none) else (c, none)
  | .reply b s n => if c.u.isReq b s n then (c.answered, some (s, n)) else (c, none)
  | _ => (c, none)

theorem Cl.hear_welcome (c : Cl) (s : Nat) : c.hear (.welcome s) = if c.u.isHello && decide (c.gre < s) then (c.welcomed s, none) else (c, none) := rfl
theorem Cl.hear_stale (c : Cl) (s n : Nat) : c.hear (.stale s n) = if c.u.isNum s n then (c.lapsed, none) else (c, none) := rfl
theorem Cl.hear_reply (c : Cl) (b : Bool) (s n : Nat) : c.hear (.reply b s n) = if c.u.isReq b s n then (c.answered, some (s, n)) else (c, none) := rfl

structure Tb where
  live : Bool
  ses : Nat
  last : Nat
  rb : Bool
def Tb.new : Tb := ⟨false, 0, 0, false⟩

structure Pm where
  c : Cl
  t : Tb
  used : Nat
  acted : List (Nat × Nat)
  answered : List (Nat × Nat)
  bag : List (Int × Pq)
  sent : Int
def Pm.new (res : Nat) : Pm := ⟨.new res, .new, 0, [], [], [], 0⟩
def Pm.send (x : Pm) (p : Pq) : Pm := { x with bag := x.bag ++ [(nextN x.sent, p)], sent := nextN x.sent }
def Pm.opened (x : Pm) : Pm := { x with used := x.used + 1, t := ⟨true, x.used + 1, 0, false⟩ }
def Pm.acts (x : Pm) (b : Bool) (s n : Nat) : Pm := { x with acted := (s, n) :: x.acted, t := { x.t with last := x.t.last + 1, rb := b } }
def Pm.heard (x : Pm) (p : Pq) : Pm := { x with c := (x.c.hear p).1, answered := (x.c.hear p).2.toList ++ x.answered }
def Pm.comes (x : Pm) : Pq → Pm
  | .hello => if x.t.live then x.send (.welcome x.t.ses) else x.opened.send (.welcome (x.used + 1))
  | .req b s n => if x.t.live && x.t.ses == s then (if n == x.t.last then x.send (.reply x.t.rb s n) else if n == x.t.last + 1 then (x.acts b s n).send (.reply b s n) else x) else x.send (.stale s n)
  | .welcome s => x.heard (.welcome s)
  | .stale s n => x.heard (.stale s n)
  | .reply b s n => x.heard (.reply b s n)
def Pm.tick (x : Pm) : Pm := { x with c := x.c.tick }
def Pm.asks (x : Pm) (b : Bool) : Pm := { x with c := x.c.asks b }
def Pm.says (x : Pm) : Pm := if x.c.isDue then { x with c := x.c.said }.send x.c.u.pq else x
def Pm.drop (x : Pm) (k : Nat) : Pm := { x with bag := x.bag.eraseIdx k }
def Pm.place (x : Pm) (n : Int) : Nat := if x.bag.length = 0 then 0 else (n % (x.bag.length : Int)).toNat
def Pm.dlv (x : Pm) (k : Nat) : Pm := match x.bag[k]? with
  | none => x
  | some p => (x.drop k).comes p.2
def Pm.forget (x : Pm) : Pm := { x with t := .new }
def Pm.does (x : Pm) (kind n : Int) : Pm :=
  if kind = 1 then x.asks (decide (n % 2 ≠ 0))
  else if kind = 2 then x.tick.says
  else if kind = 3 then x.dlv (x.place n)
  else if kind = 4 then x.drop (x.place n)
  else if kind = 5 then (match x.bag[x.place n]? with | none => x | some p => x.send p.2)
  else if kind = 6 then x.forget
  else x
def Pm.dlvs : Nat → Pm → Pm
  | 0, x => x
  | n + 1, x => Pm.dlvs n (x.dlv 0)
def Pm.half (x : Pm) : Pm := (x.tick.asks false).says
def Pm.round (x : Pm) : Pm := Pm.dlvs x.half.bag.length x.half
def Pm.rounds : Nat → Pm → Pm
  | 0, x => x
  | n + 1, x => Pm.rounds n x.round

/-! ### What always holds -/
def Cl.reqOk (c : Cl) (b : Bool) (s n : Nat) : Prop := 1 ≤ s ∧ 1 ≤ n ∧ s ≤ c.gre ∧ (s = c.ses → n ≤ c.last) ∧ ∀ b', c.u = .req b' s n → b = b'
def PqOk (c : Cl) (t : Tb) (used : Nat) (acted : List (Nat × Nat)) : Pq → Prop
  | .hello => True
  | .req b s n => c.reqOk b s n
  | .welcome s => 1 ≤ s ∧ s ≤ used
  | .stale s n => 1 ≤ s ∧ 1 ≤ n ∧ s ≤ c.gre ∧ (t.live = true → s < used)
  | .reply b s n => c.reqOk b s n ∧ (s, n) ∈ acted
structure Pm.ok (x : Pm) : Prop where
  r1 : 1 ≤ x.c.res
  r16 : x.c.res ≤ 16
  tm : x.c.timer ≤ x.c.res
  g1 : x.c.gre ≤ x.used
  g2 : x.c.ses = 0 ∨ x.c.ses = x.c.gre
  l0 : x.c.ses = 0 → x.c.last = 0
  ur : ∀ b s n, x.c.u = .req b s n → s = x.c.ses ∧ n = x.c.last ∧ 1 ≤ s ∧ 1 ≤ n
  uh : x.c.u = .hello → x.c.ses = 0
  t1 : x.t.live = true → x.t.ses = x.used ∧ 1 ≤ x.used
  lp : x.c.ses = 0 → x.t.live = true → x.c.gre < x.used
  bg : ∀ p ∈ x.bag, PqOk x.c x.t x.used x.acted p.2
  tb : x.t.live = true → 1 ≤ x.t.last → x.c.reqOk x.t.rb x.t.ses x.t.last ∧ (x.t.ses, x.t.last) ∈ x.acted
  ac : ∀ p ∈ x.acted, 1 ≤ p.1 ∧ 1 ≤ p.2 ∧ p.1 ≤ x.used ∧ (x.t.live = true → p.1 = x.used → p.2 ≤ x.t.last) ∧ p.1 ≤ x.c.gre ∧ (p.1 = x.c.ses → p.2 ≤ x.c.last)
  an : x.acted.Nodup
  bn : x.answered.Nodup
  ba : ∀ p ∈ x.answered, p ∈ x.acted
  bu : ∀ b s n, x.c.u = .req b s n → (s, n) ∉ x.answered
  gd : x.t.live = true → x.c.ses = x.used → x.c.last ≤ x.t.last + 1 ∧ (x.c.u = .idle → x.c.last = x.t.last)

theorem Pm.new_ok {res : Nat} (h3 : 1 ≤ res) (h4 : res ≤ 16) : (Pm.new res).ok := by
  constructor <;> simp [Pm.new, Cl.new, Tb.new, h3, h4]

/-- No more are answered than acted. -/
theorem Pm.ok.le {x : Pm} (h : x.ok) : x.answered.length ≤ x.acted.length := h.bn.length_le_of_subset h.ba

theorem Pm.ok.tick {x : Pm} (h : x.ok) : x.tick.ok := by
  have := h.tm
  exact ⟨h.r1, h.r16, by show x.c.timer - 1 ≤ x.c.res; omega, h.g1, h.g2, h.l0, h.ur, h.uh, h.t1, h.lp, h.bg, h.tb, h.ac, h.an, h.bn, h.ba, h.bu, h.gd⟩

theorem Pm.ok.send {x : Pm} (h : x.ok) {p : Pq} (hp : PqOk x.c x.t x.used x.acted p) : (x.send p).ok :=
  ⟨h.r1, h.r16, h.tm, h.g1, h.g2, h.l0, h.ur, h.uh, h.t1, h.lp, fun q hq => by
    simp only [Pm.send, List.mem_append, List.mem_singleton] at hq
    rcases hq with hq | rfl
    · exact h.bg q hq
    · exact hp, h.tb, h.ac, h.an, h.bn, h.ba, h.bu, h.gd⟩
theorem Pm.ok.bagTo {x : Pm} (h : x.ok) (l : List (Int × Pq)) (hl : ∀ p ∈ l, p ∈ x.bag) : Pm.ok { x with bag := l } :=
  ⟨h.r1, h.r16, h.tm, h.g1, h.g2, h.l0, h.ur, h.uh, h.t1, h.lp, fun q hq => h.bg q (hl q hq), h.tb, h.ac, h.an, h.bn, h.ba, h.bu, h.gd⟩
theorem Pm.ok.drop {x : Pm} (h : x.ok) (k : Nat) : (x.drop k).ok := h.bagTo _ (fun p hp => List.mem_of_mem_eraseIdx hp)

theorem PqOk.mono {c c' : Cl} {t t' : Tb} {used used' : Nat} {acted acted' : List (Nat × Nat)} {p : Pq} (h : PqOk c t used acted p) (h1 : ∀ b s n, c.reqOk b s n → c'.reqOk b s n) (h2 : used ≤ used') (h3 : c.gre ≤ c'.gre) (h4 : ∀ s, s ≤ c.gre → (t.live = true → s < used) → t'.live = true → s < used') (h5 : ∀ q ∈ acted, q ∈ acted') : PqOk c' t' used' acted' p := by
  cases p with
  | hello => trivial
  | req b s n => exact h1 _ _ _ h
  | welcome s => exact ⟨h.1, Nat.le_trans h.2 h2⟩
  | stale s n => exact ⟨h.1, h.2.1, Nat.le_trans h.2.2.1 h3, h4 s h.2.2.1 h.2.2.2⟩
  | reply b s n => exact ⟨h1 _ _ _ h.1, h5 _ h.2⟩

theorem Pm.ok.asks {x : Pm} (h : x.ok) (b : Bool) : (x.asks b).ok := by
  unfold Pm.asks Cl.asks
  by_cases hi : x.c.u.isIdle = true
  · rw [if_pos hi]
    have hu := Cq.isIdle_iff.1 hi
    by_cases hs : x.c.ses = 0
    · rw [if_pos hs]
      have hr : ∀ b s n, x.c.reqOk b s n → Cl.reqOk { x.c with u := .hello, timer := 0, last := 0 } b s n := fun b s n hq => ⟨hq.1, hq.2.1, hq.2.2.1, fun e => by have := hq.1; simp only at e; omega, fun b' e => by cases e⟩
      refine ⟨h.r1, h.r16, Nat.zero_le _, h.g1, h.g2, fun _ => rfl, fun _ _ _ e => (by cases e), fun _ => hs, h.t1, h.lp, fun p hp => (h.bg p hp).mono hr (Nat.le_refl _) (Nat.le_refl _) (fun s _ e => e) (fun _ e => e), fun a b => ⟨hr _ _ _ (h.tb a b).1, (h.tb a b).2⟩, fun p hp => ?_, h.an, h.bn, h.ba, fun _ _ _ e => (by cases e), fun a e => ?_⟩
      · obtain ⟨k1, k2, k3, k4, k5, k6⟩ := h.ac p hp
        exact ⟨k1, k2, k3, k4, k5, fun e => by simp only at e; omega⟩
      · have := (h.t1 a).2
        simp only at e
        omega
    · rw [if_neg hs]
      have hg : x.c.ses = x.c.gre := h.g2.resolve_left hs
      have hr : ∀ b' s n, x.c.reqOk b' s n → Cl.reqOk { x.c with u := .req b x.c.ses (x.c.last + 1), timer := 0, last := x.c.last + 1 } b' s n := fun b' s n hq => ⟨hq.1, hq.2.1, hq.2.2.1, fun e => Nat.le_succ_of_le (hq.2.2.2.1 e), fun b'' e => by
        simp only [Cq.req.injEq] at e
        have := hq.2.2.2.1 e.2.1.symm
        omega⟩
      refine ⟨h.r1, h.r16, Nat.zero_le _, h.g1, h.g2, fun e => absurd e hs, fun b' s n e => ?_, fun e => (by cases e), h.t1, fun e => absurd e hs, fun p hp => (h.bg p hp).mono hr (Nat.le_refl _) (Nat.le_refl _) (fun s _ e => e) (fun _ e => e), fun a b => ⟨hr _ _ _ (h.tb a b).1, (h.tb a b).2⟩, fun p hp => ?_, h.an, h.bn, h.ba, fun b' s n e hm => ?_, fun a e => ?_⟩
      · simp only [Cq.req.injEq] at e
        simp only
        omega
      · obtain ⟨k1, k2, k3, k4, k5, k6⟩ := h.ac p hp
        exact ⟨k1, k2, k3, k4, k5, fun e => Nat.le_succ_of_le (k6 e)⟩
      · simp only [Cq.req.injEq] at e
        have := (h.ac _ (h.ba _ hm)).2.2.2.2.2 e.2.1.symm
        simp only at this
        omega
      · have := (h.gd a e).2 hu
        simp only
        exact ⟨by omega, fun e => by cases e⟩
  · rw [if_neg hi]
    exact h

theorem Pm.ok.said {x : Pm} (h : x.ok) : Pm.ok { x with c := x.c.said } :=
  ⟨h.r1, h.r16, Nat.le_refl _, h.g1, h.g2, h.l0, h.ur, h.uh, h.t1, h.lp, h.bg, h.tb, h.ac, h.an, h.bn, h.ba, h.bu, h.gd⟩
theorem Pm.ok.pq {x : Pm} (h : x.ok) : PqOk x.c x.t x.used x.acted x.c.u.pq := by
  rcases hu : x.c.u with _ | _ | ⟨b, s, n⟩
  · trivial
  · trivial
  · obtain ⟨h1, h2, h3, h4⟩ := h.ur b s n hu
    have := h.g2
    refine ⟨h3, h4, by omega, fun _ => by omega, fun b' e => ?_⟩
    rw [hu] at e
    injection e
theorem Pm.ok.says {x : Pm} (h : x.ok) : x.says.ok := by
  unfold Pm.says
  split
  · exact h.said.send (by
      have := h.pq
      exact this)
  · exact h

theorem Pm.ok.forget {x : Pm} (h : x.ok) : x.forget.ok :=
  ⟨h.r1, h.r16, h.tm, h.g1, h.g2, h.l0, h.ur, h.uh, fun e => (by cases e), fun _ e => (by cases e), fun p hp => (h.bg p hp).mono (fun _ _ _ e => e) (Nat.le_refl _) (Nat.le_refl _) (fun _ _ _ e => by cases e) (fun _ e => e), fun e => (by cases e), fun p hp => by
    obtain ⟨k1, k2, k3, k4, k5, k6⟩ := h.ac p hp
    exact ⟨k1, k2, k3, fun e => (by cases e), k5, k6⟩, h.an, h.bn, h.ba, h.bu, fun e => (by cases e)⟩

theorem Pm.ok.opened {x : Pm} (h : x.ok) (hl : x.t.live = false) : x.opened.ok := by
  have hg := h.g1
  refine ⟨h.r1, h.r16, h.tm, Nat.le_succ_of_le hg, h.g2, h.l0, h.ur, h.uh, fun _ => ⟨rfl, by simp [Pm.opened]⟩, fun _ _ => Nat.lt_succ_of_le hg, fun p hp => (h.bg p hp).mono (fun _ _ _ e => e) (Nat.le_succ _) (Nat.le_refl _) (fun s e _ _ => Nat.lt_succ_of_le (Nat.le_trans e hg)) (fun _ e => e), fun _ e => ?_, fun p hp => ?_, h.an, h.bn, h.ba, h.bu, fun _ e => ?_⟩
  · simp [Pm.opened] at e
  · obtain ⟨k1, k2, k3, k4, k5, k6⟩ := h.ac p hp
    refine ⟨k1, k2, Nat.le_succ_of_le k3, fun _ e => ?_, k5, k6⟩
    simp only [Pm.opened] at e
    omega
  · have := h.g2
    simp only [Pm.opened] at e
    omega

theorem Pm.ok.acts {x : Pm} (h : x.ok) {b : Bool} {s n : Nat} (hl : x.t.live = true) (hs : x.t.ses = s) (hn : n = x.t.last + 1) (hq : x.c.reqOk b s n) : (x.acts b s n).ok := by
  obtain ⟨hu1, hu2⟩ := h.t1 hl
  have hnew : (s, n) ∉ x.acted := fun hm => by
    have := (h.ac _ hm).2.2.2.1 hl (by simp only; omega)
    simp only at this
    omega
  refine ⟨h.r1, h.r16, h.tm, h.g1, h.g2, h.l0, h.ur, h.uh, h.t1, h.lp, fun p hp => (h.bg p hp).mono (fun _ _ _ e => e) (Nat.le_refl _) (Nat.le_refl _) (fun s _ e => e) (fun _ e => List.mem_cons_of_mem _ e), fun _ _ => ?_, fun p hp => ?_, List.nodup_cons.2 ⟨hnew, h.an⟩, h.bn, fun p hp => List.mem_cons_of_mem _ (h.ba p hp), h.bu, fun _ e => ?_⟩
  · simp only [Pm.acts]
    rw [hs, ← hn]
    exact ⟨hq, List.mem_cons_self⟩
  · rcases List.mem_cons.1 hp with rfl | hp
    · refine ⟨hq.1, hq.2.1, by simp only [Pm.acts]; omega, fun _ _ => by simp only [Pm.acts]; omega, hq.2.2.1, hq.2.2.2.1⟩
    · obtain ⟨k1, k2, k3, k4, k5, k6⟩ := h.ac p hp
      exact ⟨k1, k2, k3, fun a e => Nat.le_succ_of_le (k4 a e), k5, k6⟩
  · obtain ⟨k1, k2⟩ := h.gd hl e
    have h5 := hq.2.2.2.1 (by simp only [Pm.acts] at e; omega)
    simp only [Pm.acts]
    refine ⟨by omega, fun e => ?_⟩
    have := k2 e
    omega

theorem Pm.ok.heard {x : Pm} (h : x.ok) {p : Pq} (hp : PqOk x.c x.t x.used x.acted p) : (x.heard p).ok := by
  have hself : Pm.ok { x with c := x.c, answered := x.answered } := h
  cases p with
  | hello => exact h
  | req b s n => exact h
  | welcome s =>
    unfold Pm.heard Cl.hear
    by_cases hc : (x.c.u.isHello && decide (x.c.gre < s)) = true
    · simp only [hc, if_true]
      simp only [Bool.and_eq_true, decide_eq_true_eq] at hc
      have hu := Cq.isHello_iff.1 hc.1
      have hs0 := h.uh hu
      obtain ⟨hp1, hp2⟩ := hp
      have hr : ∀ b s' n, x.c.reqOk b s' n → (x.c.welcomed s).reqOk b s' n := fun b s' n hq => ⟨hq.1, hq.2.1, by have := hq.2.2.1; simp only [Cl.welcomed]; omega, fun e => by have := hq.2.2.1; simp only [Cl.welcomed] at e; omega, fun b' e => by simp [Cl.welcomed] at e⟩
      refine ⟨h.r1, h.r16, Nat.zero_le _, hp2, .inr rfl, fun e => by simp [Cl.welcomed], fun _ _ _ e => (by simp [Cl.welcomed] at e), fun e => (by simp [Cl.welcomed] at e), h.t1, fun e => ?_, fun p hp => (h.bg p hp).mono hr (Nat.le_refl _) (by simp only [Cl.welcomed]; omega) (fun s _ e => e) (fun _ e => e), fun a b => ⟨hr _ _ _ (h.tb a b).1, (h.tb a b).2⟩, fun p hp => ?_, h.an, h.bn, h.ba, fun _ _ _ e => (by simp [Cl.welcomed] at e), fun a e => ?_⟩
      · simp only [Cl.welcomed] at e
        omega
      · obtain ⟨k1, k2, k3, k4, k5, k6⟩ := h.ac p hp
        refine ⟨k1, k2, k3, k4, by simp only [Cl.welcomed]; omega, fun e => ?_⟩
        simp only [Cl.welcomed] at e
        omega
      · simp only [Cl.welcomed] at e ⊢
        have h0 : x.t.last = 0 := by
          rcases Nat.eq_zero_or_pos x.t.last with h0 | h0
          · exact h0
          · have := (h.tb a h0).1.2.2.1
            have := (h.t1 a).1
            omega
        exact ⟨by omega, fun _ => h0.symm⟩
    · simp only [hc]
      exact h
  | stale s n =>
    unfold Pm.heard Cl.hear
    by_cases hc : x.c.u.isNum s n = true
    · simp only [hc, if_true]
      obtain ⟨b, hu⟩ := Cq.isNum_iff.1 hc
      obtain ⟨u1, u2, u3, u4⟩ := h.ur _ _ _ hu
      have hg := h.g2
      obtain ⟨hp1, hp2, hp3, hp4⟩ := hp
      have hr : ∀ b s' n, x.c.reqOk b s' n → x.c.lapsed.reqOk b s' n := fun b s' n hq => ⟨hq.1, hq.2.1, hq.2.2.1, fun e => by have := hq.1; simp only [Cl.lapsed] at e; omega, fun b' e => by simp [Cl.lapsed] at e⟩
      refine ⟨h.r1, h.r16, Nat.zero_le _, h.g1, .inl rfl, fun _ => rfl, fun _ _ _ e => (by simp [Cl.lapsed] at e), fun e => rfl, h.t1, fun _ a => ?_, fun p hp => (h.bg p hp).mono hr (Nat.le_refl _) (Nat.le_refl _) (fun s _ e => e) (fun _ e => e), fun a b => ⟨hr _ _ _ (h.tb a b).1, (h.tb a b).2⟩, fun p hp => ?_, h.an, h.bn, h.ba, fun _ _ _ e => (by simp [Cl.lapsed] at e), fun a e => ?_⟩
      · have := hp4 a
        simp only [Cl.lapsed]
        omega
      · obtain ⟨k1, k2, k3, k4, k5, k6⟩ := h.ac p hp
        refine ⟨k1, k2, k3, k4, k5, fun e => ?_⟩
        simp only [Cl.lapsed] at e
        omega
      · have := (h.t1 a).2
        simp only [Cl.lapsed] at e
        omega
    · simp only [hc]
      exact h
  | reply b s n =>
    unfold Pm.heard Cl.hear
    by_cases hc : x.c.u.isReq b s n = true
    · simp only [hc, if_true]
      have hu := Cq.isReq_iff.1 hc
      obtain ⟨u1, u2, u3, u4⟩ := h.ur _ _ _ hu
      obtain ⟨hp1, hp2⟩ := hp
      have hr : ∀ b s' n, x.c.reqOk b s' n → x.c.answered.reqOk b s' n := fun b s' n hq => ⟨hq.1, hq.2.1, hq.2.2.1, hq.2.2.2.1, fun b' e => by simp [Cl.answered] at e⟩
      refine ⟨h.r1, h.r16, Nat.zero_le _, h.g1, h.g2, h.l0, fun _ _ _ e => (by simp [Cl.answered] at e), fun e => (by simp [Cl.answered] at e), h.t1, h.lp, fun p hp => (h.bg p hp).mono hr (Nat.le_refl _) (Nat.le_refl _) (fun s _ e => e) (fun _ e => e), fun a b => ⟨hr _ _ _ (h.tb a b).1, (h.tb a b).2⟩, h.ac, h.an, ?_, ?_, fun _ _ _ e => (by simp [Cl.answered] at e), fun a e => ?_⟩
      · show ([(s, n)] ++ x.answered).Nodup
        exact List.nodup_cons.2 ⟨h.bu _ _ _ hu, h.bn⟩
      · intro p hp
        rcases List.mem_cons.1 (show p ∈ (s, n) :: x.answered from hp) with rfl | hp
        · exact hp2
        · exact h.ba p hp
      · simp only [Cl.answered] at e ⊢
        have k1 := (h.ac _ hp2).2.2.2.1 a (by simp only; omega)
        simp only at k1
        obtain ⟨g3, g4⟩ := h.gd a e
        refine ⟨g3, fun _ => ?_⟩
        have hpos : 1 ≤ x.t.last := by omega
        have := (h.tb a hpos).1.2.2.2.1 (by rw [(h.t1 a).1, e])
        omega
    · simp only [hc]
      exact h

theorem Pm.ok.comes {x : Pm} (h : x.ok) {p : Pq} (hp : PqOk x.c x.t x.used x.acted p) : (x.comes p).ok := by
  cases p with
  | hello =>
    simp only [Pm.comes]
    rcases hl : x.t.live with _ | _
    · simp only [Bool.false_eq_true, if_false]
      exact (h.opened hl).send ⟨by omega, Nat.le_refl _⟩
    · simp only [if_true]
      obtain ⟨e1, e2⟩ := h.t1 hl
      exact h.send ⟨by omega, by omega⟩
  | req b s n =>
    simp only [Pm.comes]
    have hq : x.c.reqOk b s n := hp
    by_cases hc : (x.t.live && x.t.ses == s) = true
    · rw [if_pos hc]
      simp only [Bool.and_eq_true, beq_iff_eq] at hc
      by_cases h1 : (n == x.t.last) = true
      · rw [if_pos h1]
        rw [beq_iff_eq] at h1
        obtain ⟨t1, t2⟩ := h.tb hc.1 (by have := hq.2.1; omega)
        rw [← h1, hc.2] at t1 t2
        exact h.send ⟨t1, t2⟩
      · rw [if_neg h1]
        by_cases h2 : (n == x.t.last + 1) = true
        · rw [if_pos h2]
          rw [beq_iff_eq] at h2
          exact (h.acts hc.1 hc.2 h2 hq).send ⟨hq, List.mem_cons_self⟩
        · rw [if_neg h2]; exact h
    · rw [if_neg hc]
      refine h.send ⟨hq.1, hq.2.1, hq.2.2.1, fun hl => ?_⟩
      have h1 : x.t.ses ≠ s := fun e => hc (by simp [hl, e])
      have h2 := (h.t1 hl).1
      have h3 := h.g1
      have h4 := hq.2.2.1
      omega
  | welcome s => exact h.heard hp
  | stale s n => exact h.heard hp
  | reply b s n => exact h.heard hp

theorem Pm.ok.dlv {x : Pm} (h : x.ok) (k : Nat) : (x.dlv k).ok := by
  unfold Pm.dlv
  rcases hb : x.bag[k]? with _ | p
  · exact h
  · exact (h.drop k).comes (h.bg p (List.mem_of_getElem? hb))
theorem Pm.ok.dup {x : Pm} (h : x.ok) {k : Nat} {p : Int × Pq} (hb : x.bag[k]? = some p) : (x.send p.2).ok := h.send (h.bg p (List.mem_of_getElem? hb))
theorem Pm.ok.does {x : Pm} (h : x.ok) (kind n : Int) : (x.does kind n).ok := by
  unfold Pm.does
  split
  · exact h.asks _
  · split
    · exact h.tick.says
    · split
      · exact h.dlv _
      · split
        · exact h.drop _
        · split
          · rcases hb : x.bag[x.place n]? with _ | p
            · exact h
            · exact h.dup hb
          · split
            · exact h.forget
            · exact h
theorem Pm.ok.dlvs {x : Pm} (h : x.ok) (n : Nat) : (Pm.dlvs n x).ok := by
  induction n generalizing x with
  | zero => exact h
  | succ n ih => exact ih (h.dlv 0)
theorem Pm.ok.half {x : Pm} (h : x.ok) : x.half.ok := (h.tick.asks false).says
theorem Pm.ok.round {x : Pm} (h : x.ok) : x.round.ok := h.half.dlvs _
theorem Pm.ok.rounds {x : Pm} (h : x.ok) (n : Nat) : (Pm.rounds n x).ok := by
  induction n generalizing x with
  | zero => exact h
  | succ n ih => exact ih h.round

end Go.Proofs.Ytkiccbjngokpjaa

/-
  A request over a net, plainly: in calm.
-/
namespace Go.Proofs.Ytkiccbjngokpjaa
set_option linter.unusedVariables false
set_option linter.unusedSimpArgs false

def Pq.isBack : Pq → Bool
  | .hello => false
  | .req _ _ _ => false
  | _ => true
theorem Pm.comes_bag (x : Pm) (p : Pq) : (x.comes p).bag = x.bag ∨ ∃ k q, (x.comes p).bag = x.bag ++ [(k, q)] := by
  cases p with
  | hello =>
    simp only [Pm.comes]
    split
    · exact .inr ⟨_, _, rfl⟩
    · exact .inr ⟨_, _, rfl⟩
  | req b s n =>
    simp only [Pm.comes]
    split
    · split
      · exact .inr ⟨_, _, rfl⟩
      · split
        · exact .inr ⟨_, _, rfl⟩
        · exact .inl rfl
    · exact .inr ⟨_, _, rfl⟩
  | welcome s => exact .inl rfl
  | stale s n => exact .inl rfl
  | reply b s n => exact .inl rfl
theorem Pm.dlv_cons {x : Pm} {p : Int × Pq} {r : List (Int × Pq)} (h : x.bag = p :: r) : x.dlv 0 = ({ x with bag := r } : Pm).comes p.2 := by
  unfold Pm.dlv Pm.drop
  rw [h]
  rfl
/-- The state with its first datagram taken. -/
abbrev Pm.tl (x : Pm) (r : List (Int × Pq)) : Pm := { x with bag := r }
theorem Pm.ok.tl {x : Pm} (h : x.ok) {p : Int × Pq} {r : List (Int × Pq)} (hb : x.bag = p :: r) : (x.tl r).ok ∧ PqOk (x.tl r).c (x.tl r).t (x.tl r).used (x.tl r).acted p.2 :=
  ⟨h.bagTo r (fun q hq => by rw [hb]; simp [hq]), h.bg p (by rw [hb]; simp)⟩

theorem dlvs_inv (I : Nat → Pm → Prop) (hI : ∀ m (x : Pm) p r, x.ok → x.bag = p :: r → m ≤ r.length → I (m + 1) x → I m ((x.tl r).comes p.2)) : ∀ (n : Nat) (x : Pm), x.ok → n ≤ x.bag.length → I n x → I 0 (Pm.dlvs n x)
  | 0, x, _, _, h => h
  | n + 1, x, ho, hn, h => by
    rcases hb : x.bag with _ | ⟨p, r⟩
    · rw [hb] at hn; simp at hn
    have hr : n ≤ r.length := by rw [hb] at hn; simpa using hn
    have h1 := hI n x p r ho hb hr h
    have ho1 := ho.dlv 0
    have e := Pm.dlv_cons hb
    rw [e] at ho1
    have hl : n ≤ ((x.tl r).comes p.2).bag.length := by
      rcases Pm.comes_bag (x.tl r) p.2 with e | ⟨_, _, e⟩ <;> rw [e]
      · exact hr
      · simp; omega
    show I 0 (Pm.dlvs n (x.dlv 0))
    rw [e]
    exact dlvs_inv I hI n _ ho1 hl h1
theorem dlvs_reach (I J : Nat → Pm → Prop) (p0 : Pq) (hI : ∀ m (x : Pm) p r, x.ok → x.bag = p :: r → m ≤ r.length → I (m + 1) x → I m ((x.tl r).comes p.2))
    (hJ : ∀ m (x : Pm) p r, x.ok → x.bag = p :: r → m ≤ r.length → J (m + 1) x → J m ((x.tl r).comes p.2))
    (hIJ : ∀ m (x : Pm) p r, x.ok → x.bag = p :: r → m ≤ r.length → p.2 = p0 → I (m + 1) x → J m ((x.tl r).comes p.2)) : ∀ (n : Nat) (x : Pm), x.ok → n ≤ x.bag.length → (∃ k, (k, p0) ∈ x.bag.take n) → I n x → J 0 (Pm.dlvs n x)
  | 0, x, _, _, ⟨k, hk⟩, h => by simp at hk
  | n + 1, x, ho, hn, ⟨k, hk⟩, h => by
    rcases hb : x.bag with _ | ⟨p, r⟩
    · rw [hb] at hn; simp at hn
    have hr : n ≤ r.length := by rw [hb] at hn; simpa using hn
    have ho1 := ho.dlv 0
    have e := Pm.dlv_cons hb
    rw [e] at ho1
    have hl : n ≤ ((x.tl r).comes p.2).bag.length ∧ ((x.tl r).comes p.2).bag.take n = r.take n := by
      rcases Pm.comes_bag (x.tl r) p.2 with e | ⟨_, _, e⟩ <;> rw [e]
      · exact ⟨hr, rfl⟩
      · exact ⟨by simp; omega, List.take_append_of_le_length hr⟩
    show J 0 (Pm.dlvs n (x.dlv 0))
    rw [e]
    by_cases hp : p.2 = p0
    · exact dlvs_inv J hJ n _ ho1 hl.1 (hIJ n x p r ho hb hr hp h)
    · refine dlvs_reach I J p0 hI hJ hIJ n _ ho1 hl.1 ⟨k, ?_⟩ (hI n x p r ho hb hr h)
      rw [hl.2]
      rw [hb, List.take_succ_cons] at hk
      rcases List.mem_cons.1 hk with rfl | hk
      · exact absurd rfl hp
      · exact hk

/-- It is in the bag, behind the first ones. -/
def InBag (q : Pq) (m : Nat) (x : Pm) : Prop := ∃ k, (k, q) ∈ x.bag.drop m
theorem InBag.step {q : Pq} {m : Nat} {x : Pm} {p : Int × Pq} {r : List (Int × Pq)} (hb : x.bag = p :: r) (hr : m ≤ r.length) (h : InBag q (m + 1) x) : InBag q m ((x.tl r).comes p.2) := by
  obtain ⟨k, hk⟩ := h
  rw [hb, List.drop_succ_cons] at hk
  refine ⟨k, ?_⟩
  rcases Pm.comes_bag (x.tl r) p.2 with e | ⟨_, _, e⟩ <;> rw [e]
  · exact hk
  · rw [List.drop_append_of_le_length hr]; simp [hk]
theorem InBag.last {q : Pq} {m : Nat} {x : Pm} {k : Int} {r : List (Int × Pq)} (hr : m ≤ r.length) (h : x.bag = r ++ [(k, q)]) : InBag q m x :=
  ⟨k, by rw [h, List.drop_append_of_le_length hr]; simp⟩
theorem InBag.all {q : Pq} {x : Pm} (h : InBag q 0 x) : ∃ k, (k, q) ∈ x.bag := by
  obtain ⟨k, hk⟩ := h; exact ⟨k, by simpa using hk⟩

/-! ### What a datagram leaves -/
theorem Pm.heard_is (x : Pm) (p : Pq) : (x.heard p).t = x.t ∧ (x.heard p).used = x.used ∧ (x.heard p).acted = x.acted ∧ (x.heard p).bag = x.bag ∧ (x.heard p).c = (x.c.hear p).1 := ⟨rfl, rfl, rfl, rfl, rfl⟩
/-- The table: it lives on as it is; and is another one only where there was none. -/
theorem Pm.comes_t (x : Pm) (p : Pq) : (x.t.live = true → (x.comes p).t.live = true ∧ (x.comes p).used = x.used) ∧ (x.comes p).used ≤ x.used + 1 ∧ x.used ≤ (x.comes p).used ∧ ((x.comes p).used ≠ x.used → (x.comes p).t.live = true) ∧ ((x.comes p).t.live = true → x.t.live = false → (x.comes p).used = x.used + 1) := by
  cases p with
  | hello =>
    simp only [Pm.comes]
    rcases hl : x.t.live with _ | _
    · simp [Pm.send, Pm.opened]
    · simp [Pm.send, hl]
  | req b s n =>
    simp only [Pm.comes]
    split
    · rename_i hc
      simp only [Bool.and_eq_true] at hc
      split
      · simp [Pm.send, hc.1]
      · split
        · simp [Pm.send, Pm.acts, hc.1]
        · simp [hc.1]
    · rcases hl : x.t.live with _ | _ <;> simp [Pm.send, hl]
  | welcome s => rcases hl : x.t.live with _ | _ <;> simp [Pm.comes, Pm.heard, hl]
  | stale s n => rcases hl : x.t.live with _ | _ <;> simp [Pm.comes, Pm.heard, hl]
  | reply b s n => rcases hl : x.t.live with _ | _ <;> simp [Pm.comes, Pm.heard, hl]
theorem Pm.comes_c (x : Pm) (p : Pq) : (x.comes p).c = (x.c.hear p).1 ∧ (x.comes p).answered = (x.c.hear p).2.toList ++ x.answered := by
  cases p with
  | hello => simp only [Pm.comes]; split <;> exact ⟨rfl, rfl⟩
  | req b s n =>
    simp only [Pm.comes]
    split
    · split
      · exact ⟨rfl, rfl⟩
      · split <;> exact ⟨rfl, rfl⟩
    · exact ⟨rfl, rfl⟩
  | welcome s => exact ⟨rfl, rfl⟩
  | stale s n => exact ⟨rfl, rfl⟩
  | reply b s n => exact ⟨rfl, rfl⟩
theorem Pm.comes_acted (x : Pm) (p : Pq) : (x.comes p).acted = x.acted ∨ ∃ b s n, p = .req b s n ∧ x.t.live = true ∧ x.t.ses = s ∧ (x.comes p).acted = (s, n) :: x.acted := by
  cases p with
  | hello => simp only [Pm.comes]; split <;> exact .inl rfl
  | req b s n =>
    simp only [Pm.comes]
    split
    · rename_i hc
      simp only [Bool.and_eq_true, beq_iff_eq] at hc
      split
      · exact .inl rfl
      · split
        · exact .inr ⟨b, s, n, rfl, hc.1, hc.2, rfl⟩
        · exact .inl rfl
    · exact .inl rfl
  | welcome s => exact .inl rfl
  | stale s n => exact .inl rfl
  | reply b s n => exact .inl rfl
/-- What a caller hears. -/
theorem Cl.hear_is (c : Cl) (p : Pq) : c.hear p = (c, none) ∨ (∃ s, p = .welcome s ∧ c.u = .hello ∧ c.gre < s ∧ c.hear p = (c.welcomed s, none)) ∨ (∃ b s n, p = .stale s n ∧ c.u = .req b s n ∧ c.hear p = (c.lapsed, none)) ∨ ∃ b s n, p = .reply b s n ∧ c.u = .req b s n ∧ c.hear p = (c.answered, some (s, n)) := by
  cases p with
  | hello => exact .inl rfl
  | req b s n => exact .inl rfl
  | welcome s =>
    rw [Cl.hear_welcome]
    by_cases hc : (c.u.isHello && decide (c.gre < s)) = true
    · rw [if_pos hc]
      simp only [Bool.and_eq_true, decide_eq_true_eq] at hc
      exact .inr (.inl ⟨s, rfl, Cq.isHello_iff.1 hc.1, hc.2, rfl⟩)
    · rw [if_neg hc]
      exact .inl rfl
  | stale s n =>
    rw [Cl.hear_stale]
    by_cases hc : c.u.isNum s n = true
    · rw [if_pos hc]
      obtain ⟨b, hu⟩ := Cq.isNum_iff.1 hc
      exact .inr (.inr (.inl ⟨b, s, n, rfl, hu, rfl⟩))
    · rw [if_neg hc]
      exact .inl rfl
  | reply b s n =>
    rw [Cl.hear_reply]
    by_cases hc : c.u.isReq b s n = true
    · rw [if_pos hc]
      exact .inr (.inr (.inr ⟨b, s, n, rfl, Cq.isReq_iff.1 hc, rfl⟩))
    · rw [if_neg hc]
      exact .inl rfl

/-- The caller's session is the table's. -/
def Pm.good (x : Pm) : Prop := x.t.live = true ∧ x.c.ses = x.used
theorem Pm.good.comes {x : Pm} (h : x.good) (ho : x.ok) {p : Pq} (hp : PqOk x.c x.t x.used x.acted p) : (x.comes p).good := by
  obtain ⟨h1, h2⟩ := h
  obtain ⟨a1, a2⟩ := (Pm.comes_t x p).1 h1
  refine ⟨a1, ?_⟩
  rw [a2, (Pm.comes_c x p).1]
  have hu := (ho.t1 h1).2
  rcases Cl.hear_is x.c p with e | ⟨s, rfl, hu2, hg, e⟩ | ⟨b, s, n, rfl, hu2, e⟩ | ⟨b, s, n, rfl, hu2, e⟩ <;> rw [e]
  · exact h2
  · have := ho.uh hu2; omega
  · have := hp.2.2.2 h1
    have := (ho.ur _ _ _ hu2).1
    omega
  · exact h2

/-- Every welcome is of the session that is. -/
def Clean (x : Pm) : Prop := ∀ k s, (k, Pq.welcome s) ∈ x.bag → x.t.live = true ∧ s = x.used
def CleanAt (m : Nat) (x : Pm) : Prop := ∀ k s, (k, Pq.welcome s) ∈ x.bag.drop m → x.t.live = true ∧ s = x.used
theorem Pm.comes_welcome {x : Pm} (ho : x.ok) (p : Pq) : ∀ k s, (k, Pq.welcome s) ∈ (x.comes p).bag → (k, Pq.welcome s) ∈ x.bag ∨ (x.comes p).t.live = true ∧ s = (x.comes p).used := by
  intro k s hk
  cases p with
  | hello =>
    simp only [Pm.comes] at hk ⊢
    rcases hl : x.t.live with _ | _
    · rw [hl] at hk
      simp [Pm.send, Pm.opened] at hk ⊢
      rcases hk with hk | hk
      · exact .inl hk
      · exact .inr hk.2
    · rw [hl] at hk
      simp [Pm.send, hl] at hk ⊢
      rcases hk with hk | hk
      · exact .inl hk
      · exact .inr (hk.2.trans (ho.t1 hl).1)
  | req b s' n =>
    simp only [Pm.comes] at hk
    split at hk
    · split at hk
      · simp [Pm.send] at hk; exact .inl hk
      · split at hk
        · simp [Pm.send, Pm.acts] at hk; exact .inl hk
        · exact .inl hk
    · simp [Pm.send] at hk; exact .inl hk
  | welcome s => exact .inl hk
  | stale s n => exact .inl hk
  | reply b s n => exact .inl hk
theorem Clean.comes {x : Pm} (h : Clean x) (ho : x.ok) (p : Pq) : Clean (x.comes p) := by
  intro k s hk
  rcases Pm.comes_welcome ho p k s hk with hk | h1
  · obtain ⟨h1, h2⟩ := h k s hk
    obtain ⟨a1, a2⟩ := (Pm.comes_t x p).1 h1
    exact ⟨a1, by rw [a2]; exact h2⟩
  · exact h1
theorem clean_dlvs {x : Pm} (ho : x.ok) : Clean (Pm.dlvs x.bag.length x) := by
  have h := dlvs_inv CleanAt (fun m x p r ho hb hr h k s hk => by
    have hk2 : (k, Pq.welcome s) ∈ r.drop m ∨ ((x.tl r).comes p.2).t.live = true ∧ s = ((x.tl r).comes p.2).used := by
      rcases Pm.comes_bag (x.tl r) p.2 with e | ⟨k', q, e⟩
      · rw [e] at hk; exact .inl hk
      · rw [e, List.drop_append_of_le_length hr] at hk
        rcases List.mem_append.1 hk with hk | hk
        · exact .inl hk
        · have hmem : (k, Pq.welcome s) ∈ ((x.tl r).comes p.2).bag := by rw [e]; simp at hk ⊢; exact .inr hk
          rcases hb2 : ((x.tl r).comes p.2).bag with _ | _
          · rw [hb2] at hmem; cases hmem
          · cases hp : p.2 with
            | hello =>
              rw [hp] at e
              rcases hl : x.t.live with _ | _
              · simp [Pm.comes, hl, Pm.send, Pm.opened] at e ⊢
                simp at hk
                rw [← e.2] at hk
                right
                simpa using hk.2
              · simp [Pm.comes, hl, Pm.send] at e ⊢
                simp at hk
                rw [← e.2] at hk
                have := (ho.t1 hl).1
                simp at hk
                omega
            | req b s' n =>
              exfalso
              rw [hp] at e
              simp at hk
              rw [← hk.2] at e
              simp only [Pm.comes] at e
              split at e
              · split at e
                · simp [Pm.send] at e
                · split at e
                  · simp [Pm.send, Pm.acts] at e
                  · simp at e
              · simp [Pm.send] at e
            | welcome s => rw [hp] at e; exfalso; simp [Pm.comes, Pm.heard] at e
            | stale s n => rw [hp] at e; exfalso; simp [Pm.comes, Pm.heard] at e
            | reply b s n => rw [hp] at e; exfalso; simp [Pm.comes, Pm.heard] at e
    rcases hk2 with hk2 | h1
    · obtain ⟨h1, h2⟩ := h k s (by rw [hb, List.drop_succ_cons]; exact hk2)
      obtain ⟨a1, a2⟩ := (Pm.comes_t (x.tl r) p.2).1 h1
      exact ⟨a1, by rw [a2]; exact h2⟩
    · exact h1) x.bag.length x ho (Nat.le_refl _) (fun k s hk => by rw [List.drop_length] at hk; cases hk)
  intro k s hk
  exact h k s (by simpa using hk)
theorem Pm.round_clean {x : Pm} (ho : x.ok) : Clean x.round := clean_dlvs ho.half

/-! ### The half of a round -/
theorem Pm.says_is (x : Pm) : x.says.t = x.t ∧ x.says.used = x.used ∧ x.says.acted = x.acted ∧ x.says.answered = x.answered ∧ x.says.c.u = x.c.u ∧ x.says.c.ses = x.c.ses ∧ x.says.c.gre = x.c.gre ∧ x.says.c.last = x.c.last ∧ x.says.c.res = x.c.res ∧ (∀ p ∈ x.bag, p ∈ x.says.bag) ∧ (x.c.isDue = true → ∃ k, (k, x.c.u.pq) ∈ x.says.bag) ∧ (x.c.isDue = false → x.says = x) ∧ (∀ k s, (k, Pq.welcome s) ∈ x.says.bag → (k, Pq.welcome s) ∈ x.bag) ∧ x.says.bag.length ≤ x.bag.length + 1 := by
  unfold Pm.says
  rcases hd : x.c.isDue with _ | _
  · exact ⟨rfl, rfl, rfl, rfl, rfl, rfl, rfl, rfl, rfl, fun p h => h, fun e => (by cases e), fun _ => rfl, fun k s h => h, by simp⟩
  · simp only [if_true]
    refine ⟨rfl, rfl, rfl, rfl, rfl, rfl, rfl, rfl, rfl, fun p h => by simp [Pm.send, h], fun _ => ⟨_, by simp [Pm.send]; exact .inr rfl⟩, fun e => (by cases e), fun k s h => ?_, by simp [Pm.send]⟩
    simp only [Pm.send, List.mem_append, List.mem_singleton] at h
    rcases h with h | h
    · exact h
    · simp only [Prod.mk.injEq] at h
      exfalso
      have h2 := h.2
      rcases hu : x.c.u with _ | _ | ⟨b, s', n⟩ <;> rw [hu] at h2 <;> simp [Cq.pq] at h2
theorem Clean.half {x : Pm} (h : Clean x) : Clean x.half := by
  obtain ⟨e1, e2, _, _, _, _, _, _, _, _, _, _, e3, _⟩ := Pm.says_is (x.tick.asks false)
  intro k s hk
  obtain ⟨h1, h2⟩ := h k s (e3 k s hk)
  have e1' : x.half.t = x.t := e1
  have e2' : x.half.used = x.used := e2
  rw [e1', e2']
  exact ⟨h1, h2⟩
theorem Pm.good.half {x : Pm} (h : x.good) (ho : x.ok) : x.half.good := by
  obtain ⟨e1, e2, _, _, _, e6, _⟩ := Pm.says_is (x.tick.asks false)
  have e1' : x.half.t = x.t := e1
  have e2' : x.half.used = x.used := e2
  refine ⟨by rw [e1']; exact h.1, ?_⟩
  rw [e2']
  have e6' : x.half.c.ses = (x.tick.asks false).c.ses := e6
  rw [e6', ← h.2]
  have h1 := (ho.t1 h.1).2
  have h2 := h.2
  show (x.c.tick.asks false).ses = x.c.ses
  unfold Cl.asks
  split
  · split
    · rename_i h3
      have h3' : x.c.ses = 0 := h3
      omega
    · rfl
  · rfl
theorem Pm.good.dlvs {x : Pm} (h : x.good) (ho : x.ok) (n : Nat) (hn : n ≤ x.bag.length) : (Pm.dlvs n x).good :=
  dlvs_inv (fun _ y => y.good) (fun m y p r ho hb hr h => Pm.good.comes (x := y.tl r) h (ho.tl hb).1 (ho.tl hb).2) n x ho hn h
theorem Pm.good.round {x : Pm} (h : x.good) (ho : x.ok) : x.round.good := (h.half ho).dlvs ho.half _ (Nat.le_refl _)
theorem Pm.good.rounds {x : Pm} (h : x.good) (ho : x.ok) (n : Nat) : (Pm.rounds n x).good := by
  induction n generalizing x with
  | zero => exact h
  | succ n ih => exact ih (h.round ho) ho.round
theorem Pm.rounds_add (a b : Nat) (x : Pm) : Pm.rounds (a + b) x = Pm.rounds b (Pm.rounds a x) := by
  induction a generalizing x with
  | zero => simp [Pm.rounds]
  | succ a ih => rw [Nat.succ_add]; exact ih _
theorem Pm.comes_more (x : Pm) (p : Pq) : x.answered.length ≤ (x.comes p).answered.length := by
  rw [(Pm.comes_c x p).2]; simp
theorem Pm.dlvs_more {x : Pm} (ho : x.ok) (n : Nat) (hn : n ≤ x.bag.length) : x.answered.length ≤ (Pm.dlvs n x).answered.length :=
  dlvs_inv (fun _ y => x.answered.length ≤ y.answered.length) (fun m y p r ho hb hr h => Nat.le_trans h (Pm.comes_more (y.tl r) p.2)) n x ho hn (Nat.le_refl _)
theorem Pm.round_more {x : Pm} (ho : x.ok) : x.answered.length ≤ x.round.answered.length := by
  have h := Pm.dlvs_more ho.half x.half.bag.length (Nat.le_refl _)
  obtain ⟨_, _, _, e4, _⟩ := Pm.says_is (x.tick.asks false)
  have e4' : x.half.answered = x.answered := e4
  rw [e4'] at h
  exact h
theorem Pm.rounds_more {x : Pm} (ho : x.ok) (n : Nat) : x.answered.length ≤ (Pm.rounds n x).answered.length := by
  induction n generalizing x with
  | zero => exact Nat.le_refl _
  | succ n ih => exact Nat.le_trans (Pm.round_more ho) (ih ho.round)
theorem Pm.hear_res (c : Cl) (p : Pq) : (c.hear p).1.res = c.res := by
  rcases Cl.hear_is c p with e | ⟨s, rfl, hu2, hg, e⟩ | ⟨b, s, n, rfl, hu2, e⟩ | ⟨b, s, n, rfl, hu2, e⟩ <;> rw [e] <;> rfl
theorem Cl.asks_res (c : Cl) (b : Bool) : (c.asks b).res = c.res := by
  unfold Cl.asks
  split
  · split <;> rfl
  · rfl
theorem Pm.round_res {x : Pm} (ho : x.ok) : x.round.c.res = x.c.res := by
  have h := dlvs_inv (fun _ y => y.c.res = x.half.c.res) (fun m y p r ho hb hr h => by
    rw [(Pm.comes_c (y.tl r) p.2).1, Pm.hear_res]; exact h) x.half.bag.length x.half ho.half (Nat.le_refl _) rfl
  have e : x.half.c.res = x.c.res := by
    obtain ⟨_, _, _, _, _, _, _, _, e9, _⟩ := Pm.says_is (x.tick.asks false)
    exact (show x.half.c.res = (x.tick.asks false).c.res from e9).trans (Cl.asks_res _ _)
  exact h.trans e
theorem Pm.rounds_res {x : Pm} (ho : x.ok) (n : Nat) : (Pm.rounds n x).c.res = x.c.res := by
  induction n generalizing x with
  | zero => rfl
  | succ n ih => exact (ih ho.round).trans (Pm.round_res ho)

/-- A half, where something is under way. -/
theorem Pm.half_busy {x : Pm} (hu : x.c.u ≠ .idle) : x.half = x.tick.says := by
  unfold Pm.half Pm.asks Cl.asks
  have : x.tick.c.u.isIdle = false := by
    have hu2 : x.tick.c.u ≠ .idle := hu
    rcases h : x.tick.c.u with _ | _ | _
    · exact absurd h hu2
    · rfl
    · rfl
  rw [this]
  rfl
theorem Pm.half_said {x : Pm} (hu : x.c.u ≠ .idle) (ht : x.c.timer ≤ 1) : ∃ k, (k, x.c.u.pq) ∈ x.half.bag := by
  rw [Pm.half_busy hu]
  have hd : x.tick.c.isDue = true := by
    unfold Cl.isDue
    have hu2 : x.tick.c.u ≠ .idle := hu
    have h0 : x.tick.c.timer = 0 := by show x.c.timer - 1 = 0; omega
    rcases h : x.tick.c.u with _ | _ | _
    · exact absurd h hu2
    · rw [h0]; rfl
    · rw [h0]; rfl
  obtain ⟨_, _, _, _, _, _, _, _, _, _, e, _⟩ := Pm.says_is x.tick
  exact e hd
theorem Pm.half_wait {x : Pm} (hu : x.c.u ≠ .idle) (ht : 2 ≤ x.c.timer) : x.half = x.tick := by
  rw [Pm.half_busy hu]
  have hd : x.tick.c.isDue = false := by
    unfold Cl.isDue
    have h0 : (x.tick.c.timer == 0) = false := by
      have : x.tick.c.timer = x.c.timer - 1 := rfl
      rw [this, beq_eq_false_iff_ne]; omega
    rw [h0]; simp
  obtain ⟨_, _, _, _, _, _, _, _, _, _, _, e, _⟩ := Pm.says_is x.tick
  exact e hd
theorem Pm.half_bag (x : Pm) : ∀ p ∈ x.bag, p ∈ x.half.bag := by
  obtain ⟨_, _, _, _, _, _, _, _, _, e, _⟩ := Pm.says_is (x.tick.asks false)
  exact e
theorem Pm.half_idle {x : Pm} (hu : x.c.u = .idle) (hs : x.c.ses ≠ 0) : x.half.c.u = .req false x.c.ses (x.c.last + 1) ∧ x.half.c.ses = x.c.ses ∧ x.half.t = x.t ∧ x.half.used = x.used ∧ x.half.acted = x.acted ∧ x.half.answered = x.answered ∧ ∃ k, (k, Pq.req false x.c.ses (x.c.last + 1)) ∈ x.half.bag := by
  obtain ⟨e1, e2, e3, e4, e5, e6, e7, e8, e9, e10, e11, _⟩ := Pm.says_is (x.tick.asks false)
  have ha : (x.tick.asks false).c = { x.c.tick with u := .req false x.c.ses (x.c.last + 1), timer := 0, last := x.c.last + 1 } := by
    show x.c.tick.asks false = _
    unfold Cl.asks
    have h1 : x.c.tick.u.isIdle = true := Cq.isIdle_iff.2 hu
    have h2 : ¬ x.c.tick.ses = 0 := hs
    rw [if_pos h1, if_neg h2]
    rfl
  refine ⟨?_, ?_, e1, e2, e3, e4, ?_⟩
  · exact e5.trans (by rw [ha])
  · exact e6.trans (by rw [ha]; rfl)
  · have := e11 (by rw [ha]; rfl)
    rw [ha] at this
    exact this
theorem Pm.half_none {x : Pm} (hu : x.c.u = .idle) (hs : x.c.ses = 0) : x.half.c.u = .hello ∧ x.half.c.ses = 0 ∧ x.half.t = x.t ∧ x.half.used = x.used ∧ ∃ k, (k, Pq.hello) ∈ x.half.bag := by
  obtain ⟨e1, e2, e3, e4, e5, e6, e7, e8, e9, e10, e11, _⟩ := Pm.says_is (x.tick.asks false)
  have ha : (x.tick.asks false).c = { x.c.tick with u := .hello, timer := 0, last := 0 } := by
    show x.c.tick.asks false = _
    unfold Cl.asks
    have h1 : x.c.tick.u.isIdle = true := Cq.isIdle_iff.2 hu
    have h2 : x.c.tick.ses = 0 := hs
    rw [if_pos h1, if_pos h2]
  refine ⟨?_, ?_, e1, e2, ?_⟩
  · exact e5.trans (by rw [ha])
  · exact e6.trans (by rw [ha]; exact hs)
  · have := e11 (by rw [ha]; rfl)
    rw [ha] at this
    exact this

/-! ### In a session that is the table's, a request is answered -/
def RG (A : Nat) (b : Bool) (n t : Nat) (x : Pm) : Prop := x.good ∧ (A < x.answered.length ∨ (A ≤ x.answered.length ∧ x.c.u = .req b x.used n ∧ x.c.timer = t))
theorem RG.comes {A n t : Nat} {b : Bool} {x : Pm} (h : RG A b n t x) (ho : x.ok) {p : Pq} (hp : PqOk x.c x.t x.used x.acted p) : RG A b n t (x.comes p) := by
  refine ⟨h.1.comes ho hp, ?_⟩
  have hm := Pm.comes_more x p
  rcases h.2 with h2 | ⟨h2, h3, h4⟩
  · exact .inl (Nat.lt_of_lt_of_le h2 hm)
  · obtain ⟨a1, a2⟩ := (Pm.comes_t x p).1 h.1.1
    obtain ⟨c1, c2⟩ := Pm.comes_c x p
    rw [a2, c1, c2]
    rcases Cl.hear_is x.c p with e | ⟨s, rfl, hu2, hg, e⟩ | ⟨b', s, n', rfl, hu2, e⟩ | ⟨b', s, n', rfl, hu2, e⟩ <;> rw [e]
    · exact .inr ⟨by simpa using h2, h3, h4⟩
    · rw [h3] at hu2; cases hu2
    · have := hp.2.2.2 h.1.1
      have h5 := (ho.ur _ _ _ hu2).1
      have := h.1.2
      omega
    · refine .inl ?_
      simp
      omega
def RGR (A : Nat) (b : Bool) (n t : Nat) (m : Nat) (x : Pm) : Prop := RG A b n t x ∧ (A < x.answered.length ∨ InBag (.reply b x.used n) m x)
theorem rg_said {A n t : Nat} {b : Bool} {x : Pm} (h : RG A b n t x) (ho : x.ok) (hk : ∃ k, (k, Pq.req b x.used n) ∈ x.bag) : ∃ t', RG A b n t' (Pm.dlvs x.bag.length x) ∧ (A < (Pm.dlvs x.bag.length x).answered.length ∨ ∃ k, (k, Pq.reply b (Pm.dlvs x.bag.length x).used n) ∈ (Pm.dlvs x.bag.length x).bag) := by
  have key := dlvs_reach (fun _ y => RG A b n t y ∧ y.used = x.used) (RGR A b n t) (.req b x.used n)
    (fun m y p r ho hb hr h => ⟨RG.comes (x := y.tl r) h.1 (ho.tl hb).1 (ho.tl hb).2, by rw [((Pm.comes_t (y.tl r) p.2).1 h.1.1.1).2]; exact h.2⟩)
    (fun m y p r ho hb hr h => ⟨RG.comes (x := y.tl r) h.1 (ho.tl hb).1 (ho.tl hb).2, by
      rcases h.2 with h2 | h2
      · exact .inl (Nat.lt_of_lt_of_le h2 (Pm.comes_more (y.tl r) p.2))
      · refine .inr ?_
        rw [((Pm.comes_t (y.tl r) p.2).1 h.1.1.1).2]
        exact h2.step hb hr⟩)
    (fun m y p r ho hb hr hp h => by
      obtain ⟨hT, hpk⟩ := ho.tl hb
      refine ⟨RG.comes (x := y.tl r) h.1 hT hpk, ?_⟩
      rcases h.1.2 with h2 | ⟨h2, h3, h4⟩
      · exact .inl (Nat.lt_of_lt_of_le h2 (Pm.comes_more (y.tl r) p.2))
      · right
        rw [hp] at hpk ⊢
        rw [((Pm.comes_t (y.tl r) (.req b x.used n)).1 h.1.1.1).2]
        have hl : y.t.live = true := h.1.1.1
        have hs := (ho.t1 hl).1
        obtain ⟨u1, u2, u3, u4⟩ := ho.ur _ _ _ h3
        obtain ⟨g1, g2⟩ := ho.gd hl h.1.1.2
        have e1 : y.used = x.used := h.2
        have hle : y.t.last ≤ y.c.last := by
          rcases Nat.eq_zero_or_pos y.t.last with h0 | h0
          · omega
          · exact (ho.tb hl h0).1.2.2.2.1 (by rw [hs, h.1.1.2])
        have hc : ((y.tl r).t.live && (y.tl r).t.ses == x.used) = true := by simp [hl, hs, e1]
        show InBag (.reply b y.used n) m ((y.tl r).comes (.req b x.used n))
        simp only [Pm.comes]
        rw [if_pos hc, e1]
        by_cases h5 : n = y.t.last
        · have h5' : (n == (y.tl r).t.last) = true := by rw [beq_iff_eq]; exact h5
          rw [if_pos h5']
          have hrb : (y.tl r).t.rb = b := by
            have := (ho.tb hl (by omega)).1.2.2.2.2 b (by rw [h3, hs, h5])
            exact this
          rw [hrb]
          exact InBag.last hr rfl
        · have h5' : ¬ (n == (y.tl r).t.last) = true := by rw [beq_iff_eq]; exact h5
          have h6' : (n == (y.tl r).t.last + 1) = true := by rw [beq_iff_eq]; show n = y.t.last + 1; omega
          rw [if_neg h5', if_pos h6']
          exact InBag.last hr rfl) x.bag.length x ho (Nat.le_refl _) (by rw [List.take_length]; exact hk) ⟨h, rfl⟩
  refine ⟨t, key.1, ?_⟩
  rcases key.2 with k | k
  · exact .inl k
  · exact .inr k.all
/-- The half of a round, where a request is under way. -/
theorem RG.half {A n t : Nat} {b : Bool} {x : Pm} (h : RG A b n t x) (ho : x.ok) : A < x.half.answered.length ∨ ∃ t', RG A b n t' x.half ∧ (2 ≤ t → t' = t - 1) ∧ (t ≤ 1 → ∃ k, (k, Pq.req b x.half.used n) ∈ x.half.bag) := by
  obtain ⟨e1, e2, e3, e4, e5, e6, e7, e8, e9, e10, e11, _⟩ := Pm.says_is (x.tick.asks false)
  have e4' : x.half.answered = x.answered := e4
  have e2' : x.half.used = x.used := e2
  rcases h.2 with h2 | ⟨h2, h3, h4⟩
  · exact .inl (by rw [e4']; exact h2)
  · have hne : x.c.u ≠ .idle := by rw [h3]; simp
    have hu : x.half.c.u = .req b x.half.used n := by
      rw [e2', ← h3, Pm.half_busy hne]
      exact (Pm.says_is x.tick).2.2.2.2.1
    refine .inr ⟨x.half.c.timer, ⟨h.1.half ho, .inr ⟨by rw [e4']; exact h2, hu, rfl⟩⟩, fun ht => ?_, fun ht => ?_⟩
    · rw [Pm.half_wait hne (by omega), ← h4]; rfl
    · have := Pm.half_said hne (by omega)
      rw [h3] at this
      rw [e2']
      exact this
theorem rg_heard {A n t : Nat} {b : Bool} {x : Pm} (h : RG A b n t x) (ho : x.ok) (hk : ∃ k, (k, Pq.reply b x.used n) ∈ x.bag) : A < (Pm.dlvs x.bag.length x).answered.length := by
  exact dlvs_reach (fun _ y => RG A b n t y ∧ y.used = x.used) (fun _ y => A < y.answered.length) (.reply b x.used n)
    (fun m y p r ho hb hr h => ⟨RG.comes (x := y.tl r) h.1 (ho.tl hb).1 (ho.tl hb).2, by rw [((Pm.comes_t (y.tl r) p.2).1 h.1.1.1).2]; exact h.2⟩)
    (fun m y p r ho hb hr h => Nat.lt_of_lt_of_le h (Pm.comes_more (y.tl r) p.2))
    (fun m y p r ho hb hr hp h => by
      rcases h.1.2 with h2 | ⟨h2, h3, h4⟩
      · exact Nat.lt_of_lt_of_le h2 (Pm.comes_more (y.tl r) p.2)
      · rw [hp, (Pm.comes_c (y.tl r) _).2]
        have hq : (y.tl r).c.u.isReq b x.used n = true := Cq.isReq_iff.2 (by rw [← h.2]; exact h3)
        rw [Cl.hear_reply, if_pos hq]
        simp
        omega) x.bag.length x ho (Nat.le_refl _) (by rw [List.take_length]; exact hk) ⟨h, rfl⟩
theorem rg_reply {A n t : Nat} {b : Bool} {x : Pm} (h : RG A b n t x) (ho : x.ok) (hk : ∃ k, (k, Pq.reply b x.used n) ∈ x.bag) : A < x.round.answered.length := by
  rcases h.half ho with h1 | ⟨t', h1, _, _⟩
  · exact Nat.lt_of_lt_of_le h1 (Pm.dlvs_more ho.half _ (Nat.le_refl _))
  · obtain ⟨k, hk⟩ := hk
    have e2' : x.half.used = x.used := (Pm.says_is (x.tick.asks false)).2.1
    exact rg_heard h1 ho.half ⟨k, by rw [e2']; exact Pm.half_bag x _ hk⟩
theorem RG.will {A n : Nat} {b : Bool} : ∀ (T t : Nat) {x : Pm}, RG A b n t x → x.ok → t ≤ T → A < (Pm.rounds (T + 2) x).answered.length := by
  intro T
  induction T with
  | zero =>
    intro t x h ho ht
    rcases h.half ho with h1 | ⟨t', h1, _, h3⟩
    · exact Nat.lt_of_lt_of_le (Nat.lt_of_lt_of_le h1 (Pm.dlvs_more ho.half _ (Nat.le_refl _))) (Pm.rounds_more ho.round 1)
    · obtain ⟨t2, h4, h5⟩ := rg_said h1 ho.half (h3 (by omega))
      show A < x.round.round.answered.length
      rcases h5 with h5 | h5
      · exact Nat.lt_of_lt_of_le h5 (Pm.round_more ho.round)
      · exact rg_reply h4 ho.round h5
  | succ T ih =>
    intro t x h ho ht
    rcases h.half ho with h1 | ⟨t', h1, h2, h3⟩
    · exact Nat.lt_of_lt_of_le (Nat.lt_of_lt_of_le h1 (Pm.dlvs_more ho.half _ (Nat.le_refl _))) (Pm.rounds_more ho.round (T + 2))
    · rcases Nat.lt_or_ge t 2 with h4 | h4
      · obtain ⟨t2, h5, h6⟩ := rg_said h1 ho.half (h3 (by omega))
        show A < (Pm.rounds (T + 1) x.round.round).answered.length
        refine Nat.lt_of_lt_of_le ?_ (Pm.rounds_more ho.round.round (T + 1))
        rcases h6 with h6 | h6
        · exact Nat.lt_of_lt_of_le h6 (Pm.round_more ho.round)
        · exact rg_reply h5 ho.round h6
      · have h5 : RG A b n t' x.round := dlvs_inv (fun _ y => RG A b n t' y) (fun m y p r ho hb hr h => RG.comes (x := y.tl r) h (ho.tl hb).1 (ho.tl hb).2) _ x.half ho.half (Nat.le_refl _) h1
        exact ih t' h5 ho.round (by omega)
theorem Pm.good.will {x : Pm} (h : x.good) (ho : x.ok) : x.answered.length < (Pm.rounds (x.c.res + 2) x).answered.length := by
  have htm := ho.tm
  have hu1 := (ho.t1 h.1).2
  rcases hu : x.c.u with _ | _ | ⟨b, s, n⟩
  · have hs : x.c.ses ≠ 0 := by have := h.2; omega
    obtain ⟨a1, a2, a3, a4, a5, a6, a7⟩ := Pm.half_idle hu hs
    have hg := h.half ho
    have hR : RG x.answered.length false (x.c.last + 1) x.half.c.timer x.half := ⟨hg, .inr ⟨by rw [a6]; exact Nat.le_refl _, by rw [a1, a4, h.2], rfl⟩⟩
    obtain ⟨t2, h4, h5⟩ := rg_said hR ho.half (by rw [a4, ← h.2]; exact a7)
    have hr1 := ho.r1
    have e : x.c.res + 2 = 2 + x.c.res := by omega
    rw [e, Pm.rounds_add]
    refine Nat.lt_of_lt_of_le ?_ (Pm.rounds_more (ho.rounds 2) _)
    show x.answered.length < x.round.round.answered.length
    rcases h5 with h5 | h5
    · exact Nat.lt_of_lt_of_le h5 (Pm.round_more ho.round)
    · exact rg_reply h4 ho.round h5
  · have := ho.uh hu
    have := h.2
    omega
  · have h1 := (ho.ur _ _ _ hu).1
    exact RG.will (b := b) (n := n) x.c.res x.c.timer ⟨h, .inr ⟨Nat.le_refl _, by rw [hu, h1, h.2], rfl⟩⟩ ho htm

/-! ### In calm the caller has the table's session -/
def HC (t : Nat) (x : Pm) : Prop := Clean x ∧ (x.good ∨ (x.c.u = .hello ∧ x.c.timer = t))
theorem HC.comes {t : Nat} {x : Pm} (h : HC t x) (ho : x.ok) {k : Int} {p : Pq} (hp : PqOk x.c x.t x.used x.acted p) (hc : ∀ s, p = .welcome s → x.t.live = true ∧ s = x.used) : HC t (x.comes p) := by
  refine ⟨h.1.comes ho p, ?_⟩
  rcases h.2 with h2 | ⟨h2, h3⟩
  · exact .inl (h2.comes ho hp)
  · obtain ⟨c1, c2⟩ := Pm.comes_c x p
    rcases Cl.hear_is x.c p with e | ⟨s, rfl, hu2, hg, e⟩ | ⟨b', s, n', rfl, hu2, e⟩ | ⟨b', s, n', rfl, hu2, e⟩
    · refine .inr ?_
      rw [c1, e]
      exact ⟨h2, h3⟩
    · obtain ⟨k1, k2⟩ := hc s rfl
      obtain ⟨a1, a2⟩ := (Pm.comes_t x (.welcome s)).1 k1
      refine .inl ⟨a1, ?_⟩
      rw [a2, c1, e]
      exact k2
    · rw [h2] at hu2; cases hu2
    · rw [h2] at hu2; cases hu2
theorem HC.step {t : Nat} {x : Pm} {p : Int × Pq} {r : List (Int × Pq)} (h : HC t x) (ho : x.ok) (hb : x.bag = p :: r) : HC t ((x.tl r).comes p.2) := by
  obtain ⟨h1, h2⟩ := ho.tl hb
  refine HC.comes (k := 0) (x := x.tl r) ⟨fun k s hk => h.1 k s (by rw [hb]; simp [hk]), h.2⟩ h1 h2 (fun s e => h.1 p.1 s (by rw [hb, ← e]; simp))
theorem hc_said {t : Nat} {x : Pm} (h : HC t x) (ho : x.ok) (hk : ∃ k, (k, Pq.hello) ∈ x.bag) : HC t (Pm.dlvs x.bag.length x) ∧ ((Pm.dlvs x.bag.length x).good ∨ (Pm.dlvs x.bag.length x).t.live = true ∧ ∃ k, (k, Pq.welcome (Pm.dlvs x.bag.length x).used) ∈ (Pm.dlvs x.bag.length x).bag) := by
  have key := dlvs_reach (fun _ y => HC t y) (fun m y => HC t y ∧ (y.good ∨ y.t.live = true ∧ InBag (.welcome y.used) m y)) .hello
    (fun m y p r ho hb hr h => h.step ho hb)
    (fun m y p r ho hb hr h => ⟨h.1.step ho hb, by
      rcases h.2 with h2 | ⟨h2, h3⟩
      · exact .inl (Pm.good.comes (x := y.tl r) h2 (ho.tl hb).1 (ho.tl hb).2)
      · obtain ⟨a1, a2⟩ := (Pm.comes_t (y.tl r) p.2).1 h2
        refine .inr ⟨a1, ?_⟩
        rw [a2]
        exact h3.step hb hr⟩)
    (fun m y p r ho hb hr hp h => ⟨h.step ho hb, by
      right
      rw [hp]
      simp only [Pm.comes]
      rcases hl : y.t.live with _ | _
      · have hl' : (y.tl r).t.live = false := hl
        simp only [hl', Bool.false_eq_true, if_false]
        exact ⟨rfl, InBag.last hr rfl⟩
      · have hl' : (y.tl r).t.live = true := hl
        simp only [hl', if_true]
        refine ⟨hl, ?_⟩
        have e := (ho.t1 hl).1
        show InBag (.welcome y.used) m ((y.tl r).send (.welcome y.t.ses))
        rw [e]
        exact InBag.last hr rfl⟩) x.bag.length x ho (Nat.le_refl _) (by rw [List.take_length]; exact hk) h
  refine ⟨key.1, ?_⟩
  rcases key.2 with k | ⟨k1, k2⟩
  · exact .inl k
  · exact .inr ⟨k1, k2.all⟩
theorem hc_heard {t : Nat} {x : Pm} (h : HC t x) (ho : x.ok) (hl : x.t.live = true) (hk : ∃ k, (k, Pq.welcome x.used) ∈ x.bag) : (Pm.dlvs x.bag.length x).good := by
  exact dlvs_reach (fun _ y => HC t y ∧ y.t.live = true ∧ y.used = x.used) (fun _ y => y.good) (.welcome x.used)
    (fun m y p r ho hb hr h => by
      obtain ⟨a1, a2⟩ := (Pm.comes_t (y.tl r) p.2).1 h.2.1
      exact ⟨h.1.step ho hb, a1, by rw [a2]; exact h.2.2⟩)
    (fun m y p r ho hb hr h => Pm.good.comes (x := y.tl r) h (ho.tl hb).1 (ho.tl hb).2)
    (fun m y p r ho hb hr hp h => by
      rcases h.1.2 with h2 | ⟨h2, h3⟩
      · exact Pm.good.comes (x := y.tl r) h2 (ho.tl hb).1 (ho.tl hb).2
      · rw [hp]
        obtain ⟨a1, a2⟩ := (Pm.comes_t (y.tl r) (.welcome x.used)).1 h.2.1
        refine ⟨a1, ?_⟩
        rw [a2, (Pm.comes_c (y.tl r) _).1]
        have h4 := ho.lp (ho.uh h2) h.2.1
        have hq : ((y.tl r).c.u.isHello && decide ((y.tl r).c.gre < x.used)) = true := by
          have h5 : (y.tl r).c.gre < x.used := by rw [← h.2.2]; exact h4
          simp only [Bool.and_eq_true, decide_eq_true_eq]
          exact ⟨Cq.isHello_iff.2 h2, h5⟩
        rw [Cl.hear_welcome, if_pos hq]
        exact h.2.2.symm) x.bag.length x ho (Nat.le_refl _) (by rw [List.take_length]; exact hk) ⟨h, hl, rfl⟩
theorem HC.half {t : Nat} {x : Pm} (h : HC t x) (ho : x.ok) : x.half.good ∨ ∃ t', HC t' x.half ∧ (2 ≤ t → t' = t - 1) ∧ (t ≤ 1 → ∃ k, (k, Pq.hello) ∈ x.half.bag) := by
  rcases h.2 with h2 | ⟨h2, h3⟩
  · exact .inl (h2.half ho)
  · have hne : x.c.u ≠ .idle := by rw [h2]; simp
    refine .inr ⟨x.half.c.timer, ⟨h.1.half, .inr ⟨?_, rfl⟩⟩, fun ht => ?_, fun ht => ?_⟩
    · rw [← h2, Pm.half_busy hne]
      exact (Pm.says_is x.tick).2.2.2.2.1
    · rw [Pm.half_wait hne (by omega), ← h3]; rfl
    · have := Pm.half_said hne (by omega)
      rw [h2] at this
      exact this
theorem hc_welcome {t : Nat} {x : Pm} (h : HC t x) (ho : x.ok) (hl : x.t.live = true) (hk : ∃ k, (k, Pq.welcome x.used) ∈ x.bag) : x.round.good := by
  rcases h.half ho with h1 | ⟨t', h1, _, _⟩
  · exact h1.dlvs ho.half _ (Nat.le_refl _)
  · obtain ⟨k, hk⟩ := hk
    obtain ⟨e1, e2, _⟩ := Pm.says_is (x.tick.asks false)
    have e2' : x.half.used = x.used := e2
    have e1' : x.half.t = x.t := e1
    exact hc_heard h1 ho.half (by rw [e1']; exact hl) ⟨k, by rw [e2']; exact Pm.half_bag x _ hk⟩
theorem hc_half_said {t : Nat} {x : Pm} (h : HC t x.half) (ho : x.ok) (hk : ∃ k, (k, Pq.hello) ∈ x.half.bag) : x.round.round.good := by
  obtain ⟨h4, h5⟩ := hc_said h ho.half hk
  rcases h5 with h5 | ⟨h5, h6⟩
  · exact Pm.good.round h5 ho.round
  · exact hc_welcome h4 ho.round h5 h6
theorem HC.will : ∀ (T t : Nat) {x : Pm}, HC t x → x.ok → t ≤ T → (Pm.rounds (T + 2) x).good := by
  intro T
  induction T with
  | zero =>
    intro t x h ho ht
    rcases h.half ho with h1 | ⟨t', h1, _, h3⟩
    · exact (h1.dlvs ho.half _ (Nat.le_refl _)).rounds ho.round 1
    · exact hc_half_said h1 ho (h3 (by omega))
  | succ T ih =>
    intro t x h ho ht
    rcases h.half ho with h1 | ⟨t', h1, h2, h3⟩
    · exact (h1.dlvs ho.half _ (Nat.le_refl _)).rounds ho.round (T + 2)
    · rcases Nat.lt_or_ge t 2 with h4 | h4
      · exact (hc_half_said h1 ho (h3 (by omega))).rounds ho.round.round (T + 1)
      · have h5 : HC t' x.round := dlvs_inv (fun _ y => HC t' y) (fun m y p r ho hb hr h => h.step ho hb) _ x.half ho.half (Nat.le_refl _) h1
        exact ih t' h5 ho.round (by omega)
/-- Where there is no session, one is there within two rounds. -/
theorem none_will {x : Pm} (ho : x.ok) (hc : Clean x) (hu : x.c.u = .idle) (hs : x.c.ses = 0) : (Pm.rounds 2 x).good := by
  obtain ⟨a1, a2, a3, a4, a5⟩ := Pm.half_none hu hs
  exact hc_half_said (t := x.half.c.timer) ⟨hc.half, .inr ⟨a1, rfl⟩⟩ ho a5

/-! ### A request of a session that isn't the table's -/
def Pm.bad (x : Pm) : Prop := ¬ x.good
theorem bad_comes {x : Pm} (h : x.bad) (ho : x.ok) {p : Pq} (he : (x.comes p).c.ses = x.c.ses ∨ (x.comes p).c.ses = 0) (ho' : (x.comes p).ok) : (x.comes p).bad := by
  rintro ⟨h1, h2⟩
  obtain ⟨b1, b2, b3, b4, b5⟩ := Pm.comes_t x p
  rcases he with he | he
  · rcases hl : x.t.live with _ | _
    · have := b5 h1 hl
      have h3 := ho.g1
      have h4 := ho.g2
      have h5 := (ho'.t1 h1).2
      omega
    · exact h ⟨hl, by rw [← he, h2, (b1 hl).2]⟩
  · have := (ho'.t1 h1).2
    omega
/-- What a request that is under way is turned to: still under way, or nobody's. -/
def BR (b : Bool) (s n t : Nat) (x : Pm) : Prop := x.bad ∧ (x.c.u = .idle ∨ (x.c.u = .req b s n ∧ x.c.timer = t))
theorem BR.comes {b : Bool} {s n t : Nat} {x : Pm} (h : BR b s n t x) (ho : x.ok) {p : Pq} (hp : PqOk x.c x.t x.used x.acted p) : BR b s n t (x.comes p) := by
  obtain ⟨c1, c2⟩ := Pm.comes_c x p
  have ho' := ho.comes hp
  rcases Cl.hear_is x.c p with e | ⟨s, rfl, hu2, hg, e⟩ | ⟨b', s', n', rfl, hu2, e⟩ | ⟨b', s', n', rfl, hu2, e⟩ <;> rw [e] at c1
  · refine ⟨bad_comes h.1 ho (.inl (by rw [c1])) ho', ?_⟩
    rw [c1]
    exact h.2
  · rcases h.2 with h2 | ⟨h2, _⟩ <;> rw [h2] at hu2 <;> cases hu2
  · exact ⟨bad_comes h.1 ho (.inr (by rw [c1]; rfl)) ho', .inl (by rw [c1]; rfl)⟩
  · exact ⟨bad_comes h.1 ho (.inl (by rw [c1]; rfl)) ho', .inl (by rw [c1]; rfl)⟩
theorem BR.step {b : Bool} {s n t : Nat} {x : Pm} {p : Int × Pq} {r : List (Int × Pq)} (h : BR b s n t x) (ho : x.ok) (hb : x.bag = p :: r) : BR b s n t ((x.tl r).comes p.2) :=
  BR.comes (x := x.tl r) h (ho.tl hb).1 (ho.tl hb).2
theorem br_said {b : Bool} {s n t : Nat} {x : Pm} (h : BR b s n t x) (ho : x.ok) (hk : ∃ k, (k, Pq.req b s n) ∈ x.bag) : BR b s n t (Pm.dlvs x.bag.length x) ∧ ((Pm.dlvs x.bag.length x).c.u = .idle ∨ ∃ k, (k, Pq.stale s n) ∈ (Pm.dlvs x.bag.length x).bag) := by
  have key := dlvs_reach (fun _ y => BR b s n t y) (fun m y => BR b s n t y ∧ (y.c.u = .idle ∨ InBag (.stale s n) m y)) (.req b s n)
    (fun m y p r ho hb hr h => h.step ho hb)
    (fun m y p r ho hb hr h => ⟨h.1.step ho hb, by
      rcases h.2 with h2 | h2
      · left
        rw [(Pm.comes_c (y.tl r) p.2).1]
        rcases Cl.hear_is (y.tl r).c p.2 with e | ⟨s, _, hu2, hg, e⟩ | ⟨b', s', n', _, hu2, e⟩ | ⟨b', s', n', _, hu2, e⟩ <;> rw [e]
        · exact h2
        · rw [h2] at hu2; cases hu2
        · rw [h2] at hu2; cases hu2
        · rw [h2] at hu2; cases hu2
      · exact .inr (h2.step hb hr)⟩)
    (fun m y p r ho hb hr hp h => ⟨h.step ho hb, by
      rw [hp]
      rcases h.2 with h2 | ⟨h2, h3⟩
      · left
        rw [(Pm.comes_c (y.tl r) _).1]
        exact h2
      · right
        have hs := (ho.ur _ _ _ h2).1
        have hc : ¬ ((y.tl r).t.live && (y.tl r).t.ses == s) = true := by
          intro hc
          simp only [Bool.and_eq_true, beq_iff_eq] at hc
          exact h.1 ⟨hc.1, by rw [← hs, ← hc.2]; exact (ho.t1 hc.1).1⟩
        simp only [Pm.comes]
        rw [if_neg hc]
        exact InBag.last hr rfl⟩) x.bag.length x ho (Nat.le_refl _) (by rw [List.take_length]; exact hk) h
  refine ⟨key.1, ?_⟩
  rcases key.2 with k | k
  · exact .inl k
  · exact .inr k.all
theorem br_heard {b : Bool} {s n t : Nat} {x : Pm} (h : BR b s n t x) (ho : x.ok) (hk : x.c.u = .idle ∨ ∃ k, (k, Pq.stale s n) ∈ x.bag) : BR b s n t (Pm.dlvs x.bag.length x) ∧ (Pm.dlvs x.bag.length x).c.u = .idle := by
  have hidle : ∀ (y : Pm) (p : Pq), y.c.u = .idle → (y.comes p).c.u = .idle := fun y p h2 => by
    rw [(Pm.comes_c y p).1]
    rcases Cl.hear_is y.c p with e | ⟨s, _, hu2, hg, e⟩ | ⟨b', s', n', _, hu2, e⟩ | ⟨b', s', n', _, hu2, e⟩ <;> rw [e]
    · exact h2
    · rw [h2] at hu2; cases hu2
    · rw [h2] at hu2; cases hu2
    · rw [h2] at hu2; cases hu2
  rcases hk with hk | hk
  · exact dlvs_inv (fun _ y => BR b s n t y ∧ y.c.u = .idle) (fun m y p r ho hb hr h => ⟨h.1.step ho hb, hidle (y.tl r) p.2 h.2⟩) x.bag.length x ho (Nat.le_refl _) ⟨h, hk⟩
  · exact dlvs_reach (fun _ y => BR b s n t y) (fun _ y => BR b s n t y ∧ y.c.u = .idle) (.stale s n)
      (fun m y p r ho hb hr h => h.step ho hb)
      (fun m y p r ho hb hr h => ⟨h.1.step ho hb, hidle (y.tl r) p.2 h.2⟩)
      (fun m y p r ho hb hr hp h => ⟨h.step ho hb, by
        rw [hp]
        rcases h.2 with h2 | ⟨h2, h3⟩
        · exact hidle (y.tl r) _ h2
        · rw [(Pm.comes_c (y.tl r) _).1]
          have hq : (y.tl r).c.u.isNum s n = true := Cq.isNum_iff.2 ⟨b, h2⟩
          rw [Cl.hear_stale, if_pos hq]
          rfl⟩) x.bag.length x ho (Nat.le_refl _) (by rw [List.take_length]; exact hk) h
theorem Pm.bad.half {x : Pm} (h : x.bad) (ho : x.ok) : x.half.bad := by
  rintro ⟨h1, h2⟩
  obtain ⟨e1, e2, _, _, _, e6, _⟩ := Pm.says_is (x.tick.asks false)
  have e1' : x.half.t = x.t := e1
  have e2' : x.half.used = x.used := e2
  have e6' : x.half.c.ses = x.c.ses := e6.trans (by
    show (x.c.tick.asks false).ses = x.c.ses
    unfold Cl.asks
    split
    · split <;> rfl
    · rfl)
  exact h ⟨by rw [← e1']; exact h1, by rw [← e6', h2, e2']⟩
/-- Behind an answer, or a lapse: the table's session is there within four rounds. -/
theorem BR.half {b : Bool} {s n t : Nat} {x : Pm} (h : BR b s n t x) (ho : x.ok) (hu : x.c.u = .req b s n) (ht : x.c.timer = t) : ∃ t', BR b s n t' x.half ∧ (2 ≤ t → t' = t - 1 ∧ x.half.c.u = .req b s n) ∧ (t ≤ 1 → ∃ k, (k, Pq.req b s n) ∈ x.half.bag) := by
  have hne : x.c.u ≠ .idle := by rw [hu]; simp
  have hu' : x.half.c.u = .req b s n := by
    rw [← hu, Pm.half_busy hne]
    exact (Pm.says_is x.tick).2.2.2.2.1
  refine ⟨x.half.c.timer, ⟨h.1.half ho, .inr ⟨hu', rfl⟩⟩, fun h2 => ⟨?_, hu'⟩, fun h2 => ?_⟩
  · rw [Pm.half_wait hne (by omega), ← ht]; rfl
  · have := Pm.half_said hne (by omega)
    rw [hu] at this
    exact this
/-- A request that no table has acted on: its session lapses. -/
def BN (s n : Nat) (x : Pm) : Prop := x.bad ∧ ((x.c.u = .idle ∧ x.c.ses = 0) ∨ ((∃ b, x.c.u = .req b s n) ∧ (s, n) ∉ x.acted))
theorem BN.step {s n : Nat} {x : Pm} {p : Int × Pq} {r : List (Int × Pq)} (h : BN s n x) (ho : x.ok) (hb : x.bag = p :: r) : BN s n ((x.tl r).comes p.2) := by
  obtain ⟨hT, hp⟩ := ho.tl hb
  have ho' := hT.comes hp
  obtain ⟨c1, c2⟩ := Pm.comes_c (x.tl r) p.2
  rcases h.2 with ⟨h2, h3⟩ | ⟨⟨b, h2⟩, h3⟩
  · rcases Cl.hear_is (x.tl r).c p.2 with e | ⟨s, _, hu2, hg, e⟩ | ⟨b', s', n', _, hu2, e⟩ | ⟨b', s', n', _, hu2, e⟩
    · rw [e] at c1
      exact ⟨bad_comes (x := x.tl r) h.1 hT (.inl (by rw [c1])) ho', .inl (by rw [c1]; exact ⟨h2, h3⟩)⟩
    · rw [h2] at hu2; cases hu2
    · rw [h2] at hu2; cases hu2
    · rw [h2] at hu2; cases hu2
  · have hs := (ho.ur _ _ _ h2).1
    have hna : (s, n) ∉ ((x.tl r).comes p.2).acted := by
      rcases Pm.comes_acted (x.tl r) p.2 with e | ⟨b', s', n', e1, e2, e3, e⟩ <;> rw [e]
      · exact h3
      · intro hm
        rcases List.mem_cons.1 hm with hm | hm
        · simp only [Prod.mk.injEq] at hm
          exact h.1 ⟨e2, by rw [← hs, hm.1, ← e3]; exact (ho.t1 e2).1⟩
        · exact h3 hm
    rcases Cl.hear_is (x.tl r).c p.2 with e | ⟨s', _, hu2, hg, e⟩ | ⟨b', s', n', _, hu2, e⟩ | ⟨b', s', n', e0, hu2, e⟩
    · rw [e] at c1
      exact ⟨bad_comes (x := x.tl r) h.1 hT (.inl (by rw [c1])) ho', .inr ⟨⟨b, by rw [c1]; exact h2⟩, hna⟩⟩
    · rw [h2] at hu2; cases hu2
    · rw [e] at c1
      exact ⟨bad_comes (x := x.tl r) h.1 hT (.inr (by rw [c1]; rfl)) ho', .inl (by rw [c1]; exact ⟨rfl, rfl⟩)⟩
    · exfalso
      rw [h2] at hu2
      simp only [Cq.req.injEq] at hu2
      obtain ⟨rfl, rfl, rfl⟩ := hu2
      rw [e0] at hp
      exact h3 hp.2
theorem BN.dlvs {s n : Nat} {x : Pm} (h : BN s n x) (ho : x.ok) : BN s n (Pm.dlvs x.bag.length x) :=
  dlvs_inv (fun _ y => BN s n y) (fun m y p r ho hb hr h => h.step ho hb) x.bag.length x ho (Nat.le_refl _) h
theorem idle_will {x : Pm} (ho : x.ok) (hc : Clean x) (hb : x.bad) (hu : x.c.u = .idle) : (Pm.rounds 4 x).good := by
  by_cases hs : x.c.ses = 0
  · exact (none_will ho hc hu hs).rounds (ho.rounds 2) 2
  · obtain ⟨a1, a2, a3, a4, a5, a6, a7⟩ := Pm.half_idle hu hs
    have hbh := hb.half ho
    have hna : (x.c.ses, x.c.last + 1) ∉ x.acted := fun hm => by
      have := (ho.ac _ hm).2.2.2.2.2 rfl
      simp only at this
      omega
    have hN : BN x.c.ses (x.c.last + 1) x.half := ⟨hbh, .inr ⟨⟨_, a1⟩, by rw [a5]; exact hna⟩⟩
    have hR : BR false x.c.ses (x.c.last + 1) x.half.c.timer x.half := ⟨hbh, .inr ⟨a1, rfl⟩⟩
    obtain ⟨h1, h2⟩ := br_said hR ho.half a7
    have hN1 := hN.dlvs ho.half
    show (Pm.rounds 2 x.round.round).good
    have hcl := Pm.round_clean ho.round
    by_cases hi : x.round.c.u = .idle
    · have h0 : x.round.c.ses = 0 := by
        rcases hN1.2 with h3 | ⟨⟨b, h3⟩, _⟩
        · exact h3.2
        · have h3' : x.round.c.u = .req b x.c.ses (x.c.last + 1) := h3
          rw [h3'] at hi; cases hi
      exact (none_will ho.round (Pm.round_clean ho) hi h0).rounds (ho.round.rounds 2) 1
    · have hst : ∃ k, (k, Pq.stale x.c.ses (x.c.last + 1)) ∈ x.round.bag := h2.resolve_left hi
      obtain ⟨t', ht'⟩ : ∃ t', x.round.c.u = .req false x.c.ses (x.c.last + 1) ∧ x.round.c.timer = t' := by
        rcases h1.2 with h3 | ⟨h3, h4⟩
        · exact absurd h3 hi
        · exact ⟨_, h3, rfl⟩
      have hN2 : BN x.c.ses (x.c.last + 1) x.round := hN1
      have hB2 : BR false x.c.ses (x.c.last + 1) t' x.round := ⟨hN1.1, .inr ht'⟩
      obtain ⟨t2, h5, _, _⟩ := hB2.half ho.round ht'.1 ht'.2
      obtain ⟨k, hk⟩ := hst
      have h6 := (br_heard h5 ho.round.half (.inr ⟨k, Pm.half_bag _ _ hk⟩)).2
      have hne : x.round.c.u ≠ .idle := hi
      have hNh : BN x.c.ses (x.c.last + 1) x.round.half := by
        refine ⟨hN2.1.half ho.round, ?_⟩
        rcases hN2.2 with h7 | ⟨⟨b, h7⟩, h8⟩
        · exact absurd h7.1 hi
        · right
          have e3 : x.round.half.acted = x.round.acted := (Pm.says_is (x.round.tick.asks false)).2.2.1
          refine ⟨⟨b, ?_⟩, by rw [e3]; exact h8⟩
          rw [← h7, Pm.half_busy hne]
          exact (Pm.says_is x.round.tick).2.2.2.2.1
      have h9 := hNh.dlvs ho.round.half
      have h0 : x.round.round.c.ses = 0 := by
        rcases h9.2 with h3 | ⟨⟨b, h3⟩, _⟩
        · exact h3.2
        · have h3' : x.round.round.c.u = .req b x.c.ses (x.c.last + 1) := h3
          have h6' : x.round.round.c.u = .idle := h6
          rw [h3'] at h6'; cases h6'
      exact none_will ho.round.round hcl h6 h0
theorem BR.will {b : Bool} {s n : Nat} : ∀ (T t : Nat) {x : Pm}, BR b s n t x → x.ok → Clean x → t ≤ T → (Pm.rounds (T + 6) x).good := by
  intro T
  induction T with
  | zero =>
    intro t x h ho hc ht
    rcases h.2 with h2 | ⟨h2, h3⟩
    · exact (idle_will ho hc h.1 h2).rounds (ho.rounds 4) 2
    · obtain ⟨t', h4, _, h6⟩ := h.half ho h2 h3
      obtain ⟨h7, h8⟩ := br_said h4 ho.half (h6 (by omega))
      show (Pm.rounds 4 x.round.round).good
      have h7' : BR b s n t' x.round := h7
      have hcl := Pm.round_clean ho.round
      by_cases hi : x.round.c.u = .idle
      · exact (idle_will ho.round (Pm.round_clean ho) h7'.1 hi).rounds (ho.round.rounds 4) 1
      · have hst : ∃ k, (k, Pq.stale s n) ∈ x.round.bag := h8.resolve_left hi
        obtain ⟨k, hk⟩ := hst
        obtain ⟨h9, h10⟩ := h7'.2.resolve_left hi
        obtain ⟨t2, h11, _, _⟩ := h7'.half ho.round h9 h10
        have h12 := br_heard h11 ho.round.half (.inr ⟨k, Pm.half_bag _ _ hk⟩)
        exact idle_will ho.round.round hcl h12.1.1 h12.2
  | succ T ih =>
    intro t x h ho hc ht
    rcases h.2 with h2 | ⟨h2, h3⟩
    · exact (idle_will ho hc h.1 h2).rounds (ho.rounds 4) (T + 3)
    · rcases Nat.lt_or_ge t 2 with h4 | h4
      · have e : T + 1 + 6 = (T + 6) + 1 := by omega
        have := ih (x := x.round)
        obtain ⟨t', h4', _, h6⟩ := h.half ho h2 h3
        obtain ⟨h7, h8⟩ := br_said h4' ho.half (h6 (by omega))
        have h7' : BR b s n t' x.round := h7
        have hcl := Pm.round_clean ho.round
        show (Pm.rounds (T + 5) x.round.round).good
        by_cases hi : x.round.c.u = .idle
        · exact (idle_will ho.round (Pm.round_clean ho) h7'.1 hi).rounds (ho.round.rounds 4) (T + 2)
        · have hst : ∃ k, (k, Pq.stale s n) ∈ x.round.bag := h8.resolve_left hi
          obtain ⟨k, hk⟩ := hst
          obtain ⟨h9, h10⟩ := h7'.2.resolve_left hi
          obtain ⟨t2, h11, _, _⟩ := h7'.half ho.round h9 h10
          have h12 := br_heard h11 ho.round.half (.inr ⟨k, Pm.half_bag _ _ hk⟩)
          have h13 : (Pm.rounds 4 x.round.round).good := idle_will ho.round.round hcl h12.1.1 h12.2
          have e2 : T + 5 = 4 + (T + 1) := by omega
          rw [e2, Pm.rounds_add]
          exact h13.rounds (ho.round.round.rounds 4) (T + 1)
      · obtain ⟨t', h4', h5, h6⟩ := h.half ho h2 h3
        have h7 : BR b s n t' x.round := dlvs_inv (fun _ y => BR b s n t' y) (fun m y p r ho hb hr h => h.step ho hb) _ x.half ho.half (Nat.le_refl _) h4'
        exact ih t' h7 ho.round (Pm.round_clean ho) (by have := (h5 h4).1; omega)
/-- Within so many rounds the caller has the table's session. -/
theorem Clean.will {x : Pm} (ho : x.ok) (hc : Clean x) : (Pm.rounds (x.c.res + 6) x).good := by
  have htm := ho.tm
  by_cases hg : x.good
  · exact hg.rounds ho _
  · rcases hu : x.c.u with _ | _ | ⟨b, s, n⟩
    · have e : x.c.res + 6 = 4 + (x.c.res + 2) := by omega
      rw [e, Pm.rounds_add]
      exact (idle_will ho hc hg hu).rounds (ho.rounds 4) _
    · have e : x.c.res + 6 = (x.c.res + 2) + 4 := by omega
      rw [e, Pm.rounds_add]
      exact (HC.will x.c.res x.c.timer ⟨hc, .inr ⟨hu, rfl⟩⟩ ho htm).rounds (ho.rounds _) _
    · exact BR.will x.c.res x.c.timer (b := b) (s := s) (n := n) ⟨hg, .inr ⟨hu, rfl⟩⟩ ho hc htm
/-- In calm one more is answered, and the caller has a session. -/
theorem Pm.ok.calm {x : Pm} (ho : x.ok) : x.answered.length < (Pm.rounds (4 * (x.c.res + 3)) x).answered.length ∧ 0 < (Pm.rounds (4 * (x.c.res + 3)) x).c.ses := by
  have hr1 := ho.r1
  have e : 4 * (x.c.res + 3) = 1 + ((x.c.res + 6) + ((x.c.res + 2) + (2 * x.c.res + 3))) := by omega
  have e1 : x.round.c.res = x.c.res := Pm.round_res ho
  have h1 : (Pm.rounds (x.c.res + 6) x.round).good := by
    have := Clean.will ho.round (Pm.round_clean ho)
    rw [e1] at this
    exact this
  have ho2 := ho.round.rounds (x.c.res + 6)
  have h2 := h1.will ho2
  rw [Pm.rounds_res ho.round, e1] at h2
  rw [e, Pm.rounds_add 1, Pm.rounds_add, Pm.rounds_add]
  have e3 : Pm.rounds 1 x = x.round := rfl
  rw [e3]
  have ho3 := ho2.rounds (x.c.res + 2)
  have h3 := (h1.rounds ho2 (x.c.res + 2)).rounds ho3 (2 * x.c.res + 3)
  have hm1 := Pm.round_more ho
  have hm2 := Pm.rounds_more ho.round (x.c.res + 6)
  have hm3 := Pm.rounds_more ho3 (2 * x.c.res + 3)
  refine ⟨by omega, ?_⟩
  have h4 := h3.2
  have h5 := ((ho3.rounds (2 * x.c.res + 3)).t1 h3.1).2
  omega

/-! ### Sizes -/
theorem Pm.comes_len (x : Pm) (p : Pq) : (x.comes p).bag.length ≤ x.bag.length + 1 ∧ (x.comes p).acted.length ≤ x.acted.length + 1 ∧ (x.comes p).c.last ≤ x.c.last := by
  refine ⟨?_, ?_, ?_⟩
  · rcases Pm.comes_bag x p with e | ⟨_, _, e⟩ <;> rw [e] <;> simp
  · rcases Pm.comes_acted x p with e | ⟨_, _, _, _, _, _, e⟩ <;> rw [e] <;> simp
  · rw [(Pm.comes_c x p).1]
    rcases Cl.hear_is x.c p with e | ⟨s, _, hu2, hg, e⟩ | ⟨b', s', n', _, hu2, e⟩ | ⟨b', s', n', _, hu2, e⟩ <;> rw [e] <;> simp [Cl.welcomed, Cl.lapsed, Cl.answered]
theorem Cl.asks_last (c : Cl) (b : Bool) : (c.asks b).last ≤ c.last + 1 := by
  unfold Cl.asks
  split
  · split
    · exact Nat.zero_le _
    · exact Nat.le_refl _
  · exact Nat.le_succ _
theorem Pm.half_len (x : Pm) : x.half.bag.length ≤ x.bag.length + 1 ∧ x.half.acted = x.acted ∧ x.half.c.last ≤ x.c.last + 1 ∧ x.half.used = x.used := by
  obtain ⟨_, e2, e3, _, _, _, _, e8, _, _, _, _, _, e14⟩ := Pm.says_is (x.tick.asks false)
  exact ⟨e14, e3, Nat.le_trans (Nat.le_of_eq e8) (Cl.asks_last _ _), e2⟩
/-- How far a number of deliveries leads. -/
theorem Pm.dlvs_len {x : Pm} (ho : x.ok) (n : Nat) (hn : n ≤ x.bag.length) : (Pm.dlvs n x).bag.length ≤ x.bag.length ∧ (Pm.dlvs n x).acted.length ≤ x.acted.length + n ∧ (Pm.dlvs n x).c.last ≤ x.c.last ∧ (Pm.dlvs n x).used ≤ x.used + 1 ∧ x.bag.length ≤ (Pm.dlvs n x).bag.length + n := by
  have h := dlvs_inv (fun m y => y.bag.length ≤ x.bag.length ∧ y.acted.length + m ≤ x.acted.length + n ∧ y.c.last ≤ x.c.last ∧ (y.used = x.used ∨ (y.used = x.used + 1 ∧ y.t.live = true)) ∧ x.bag.length + m ≤ y.bag.length + n)
    (fun m y p r ho hb hr h => by
      obtain ⟨h1, h2, h3, h4, h5⟩ := h
      obtain ⟨a1, a2, a3⟩ := Pm.comes_len (y.tl r) p.2
      obtain ⟨b1, b2, b3, b4, b5⟩ := Pm.comes_t (y.tl r) p.2
      have a1' : ((y.tl r).comes p.2).bag.length ≤ r.length + 1 := a1
      have a2' : ((y.tl r).comes p.2).acted.length ≤ y.acted.length + 1 := a2
      have a3' : ((y.tl r).comes p.2).c.last ≤ y.c.last := a3
      have hl : r.length ≤ ((y.tl r).comes p.2).bag.length := by
        rcases Pm.comes_bag (y.tl r) p.2 with e | ⟨_, _, e⟩ <;> rw [e] <;> simp
      rw [hb, List.length_cons] at h1 h5
      refine ⟨by omega, by omega, by omega, ?_, by omega⟩
      rcases h4 with h4 | ⟨h4, h6⟩
      · have b2' : ((y.tl r).comes p.2).used ≤ y.used + 1 := b2
        have b3' : y.used ≤ ((y.tl r).comes p.2).used := b3
        rcases Nat.eq_or_lt_of_le b3' with e | e
        · exact .inl (by omega)
        · exact .inr ⟨by omega, b4 (by show _ ≠ y.used; omega)⟩
      · obtain ⟨k1, k2⟩ := b1 h6
        exact .inr ⟨by rw [k2]; exact h4, k1⟩) n x ho hn ⟨Nat.le_refl _, Nat.le_refl _, Nat.le_refl _, .inl rfl, by omega⟩
  obtain ⟨h1, h2, h3, h4, h5⟩ := h
  exact ⟨h1, by omega, h3, by omega, by omega⟩
/-- How far a happening leads. -/
theorem Pm.does_len (x : Pm) (kind n : Int) : (x.does kind n).bag.length ≤ x.bag.length + 1 ∧ (x.does kind n).acted.length ≤ x.acted.length + 1 ∧ (x.does kind n).c.last ≤ x.c.last + 1 ∧ (x.does kind n).used ≤ x.used + 1 := by
  have hd : ∀ k, (x.drop k).bag.length ≤ x.bag.length := fun k => by
    show (x.bag.eraseIdx k).length ≤ _
    rw [List.length_eraseIdx]
    split <;> omega
  unfold Pm.does
  split
  · exact ⟨Nat.le_succ _, Nat.le_succ _, Cl.asks_last _ _, Nat.le_succ _⟩
  · split
    · obtain ⟨_, e2, e3, _, _, _, _, e8, _, _, _, _, _, e14⟩ := Pm.says_is x.tick
      exact ⟨e14, by rw [e3]; exact Nat.le_succ _, by rw [e8]; exact Nat.le_succ _, by rw [e2]; exact Nat.le_succ _⟩
    · split
      · unfold Pm.dlv
        rcases hb : x.bag[x.place n]? with _ | p
        · exact ⟨Nat.le_succ _, Nat.le_succ _, Nat.le_succ _, Nat.le_succ _⟩
        · obtain ⟨a1, a2, a3⟩ := Pm.comes_len (x.drop (x.place n)) p.2
          have b2 := (Pm.comes_t (x.drop (x.place n)) p.2).2.1
          have := hd (x.place n)
          have a2' : ((x.drop (x.place n)).comes p.2).acted.length ≤ x.acted.length + 1 := a2
          have a3' : ((x.drop (x.place n)).comes p.2).c.last ≤ x.c.last := a3
          have b2' : ((x.drop (x.place n)).comes p.2).used ≤ x.used + 1 := b2
          exact ⟨by simp only; omega, a2', by simp only; omega, b2'⟩
      · split
        · have := hd (x.place n)
          exact ⟨by omega, Nat.le_succ _, Nat.le_succ _, Nat.le_succ _⟩
        · split
          · rcases hb : x.bag[x.place n]? with _ | p
            · exact ⟨Nat.le_succ _, Nat.le_succ _, Nat.le_succ _, Nat.le_succ _⟩
            · exact ⟨by simp [Pm.send], Nat.le_succ _, Nat.le_succ _, Nat.le_succ _⟩
          · split
            · exact ⟨Nat.le_succ _, Nat.le_succ _, Nat.le_succ _, Nat.le_succ _⟩
            · exact ⟨Nat.le_succ _, Nat.le_succ _, Nat.le_succ _, Nat.le_succ _⟩

end Go.Proofs.Ytkiccbjngokpjaa

/-
  session: a caller as a block; what it does.
-/
namespace Go.Proofs.Ytkiccbjngokpjaa
open Go.RowKit
set_option linter.unusedVariables false
set_option linter.unusedSimpArgs false

abbrev clO (m : MV) (tm res ses gre last : Int) : Obj := .cells #[.int .i64 m.kind, .int .i64 m.ses, .int .i64 m.num, .int .i64 m.job, .int .i64 m.bad, .int .i64 m.idx, .int .i64 m.cnt, .int .i64 m.code, .int .u64 m.bits, .string m.text, .string m.prog, .int .i64 tm, .int .i64 res, .int .i64 ses, .int .i64 gre, .int .i64 last] 61

section
variable {W : Base} {w : World} {R : List Thing}
theorem st_cnew (H : St W w R) (res : Int) (h1 : 1 ≤ res) (h2 : res ≤ 16) : Calls Try.prog 11 #[.int .i64 res] w fun e w' => ∃ C, e = .returned (.tuple #[ptr C, .int .i64 0]) ∧ St W w' (R ++ [BlkT C (clO (MV.of 0) 0 res 0 0 0)]) := by
  have HE := hid (H.alloc (clO (MV.of 0) 0 res 0 0 0))
  have g1 : ¬ res < 1 := by omega
  have g2 : ¬ (16 : Int) < res := by omega
  clear H
  dsimp only [MV.of] at HE
  go_enter Try.func11, Try.ntmps11
  go_wp2_with fail
  go_ret2
  exact ⟨_, rfl, HE.out⟩
theorem st_cnew_no (w : World) (res : Int) (h1 : res < 1 ∨ 16 < res) : Calls Try.prog 11 #[.int .i64 res] w fun e w' => e = .returned (.tuple #[.pointer none, .int .i64 133]) ∧ w = w' := by
  rcases h1 with h1 | h1
  · go_enter Try.func11, Try.ntmps11
    go_wp2_with fail
    go_ret2
    exact ⟨rfl, rfl⟩
  · have g1 : ¬ res < 1 := by omega
    go_enter Try.func11, Try.ntmps11
    go_wp2_with fail
    go_ret2
    exact ⟨rfl, rfl⟩
theorem st_busy {C : Nat} {m : MV} {tm res ses gre last : Int} (hb : w.heap[C]? = some (clO m tm res ses gre last)) :
    Calls Try.prog 39 #[ptr C] w fun e w' => e = .returned (.bool (!(m.kind == 0))) ∧ w = w' := by
  have x0 := cell_blk (i := 0) hb rfl
  clear hb
  go_enter Try.func39, Try.ntmps39
  go_wp2
  go_ret
  exact ⟨rfl, rfl⟩
theorem st_waits {C : Nat} {m : MV} {tm res ses gre last : Int} (hb : w.heap[C]? = some (clO m tm res ses gre last)) :
    Calls Try.prog 69 #[ptr C] w fun e w' => e = .returned (.int .i64 m.num) ∧ w = w' := by
  have x0 := cell_blk (i := 2) hb rfl
  clear hb
  go_enter Try.func69, Try.ntmps69
  go_wp2
  go_ret
  exact ⟨rfl, rfl⟩
theorem st_session {C : Nat} {m : MV} {tm res ses gre last : Int} (hb : w.heap[C]? = some (clO m tm res ses gre last)) :
    Calls Try.prog 20 #[ptr C] w fun e w' => e = .returned (.int .i64 ses) ∧ w = w' := by
  have x0 := cell_blk (i := 13) hb rfl
  clear hb
  go_enter Try.func20, Try.ntmps20
  go_wp2
  go_ret
  exact ⟨rfl, rfl⟩
theorem st_tick (H : St W w R) (i : Nat) {C : Nat} {m : MV} {tm res ses gre last : Int} (hi : R[i]? = some (BlkT C (clO m tm res ses gre last))) (t1 : Int) (h1 : max 0 (wrap64 (tm - 1)) = t1) :
    Calls Try.prog 14 #[ptr C] w fun e w' => e = .returned (.tuple #[]) ∧ St W w' (R.set i (BlkT C (clO m t1 res ses gre last))) := by
  have hb := H.blk i hi
  have x0 := cell_blk (i := 11) hb rfl
  have f0 := free_blk (i := 11) hb
  have HE := hid (show St W (w.setCell ⟨C, 11, none⟩ (.int .i64 t1)) (R.set i (BlkT C (clO m t1 res ses gre last))) from H.setBlk i hi 11 (.int .i64 t1))
  clear hb H hi
  go_enter Try.func14, Try.ntmps14
  go_wp2
  go_end0
  exact ⟨rfl, HE.out⟩

theorem St.blk12 {i C : Nat} {m0 : MV} {tm res ses gre last : Int} (m : MV) (H : St W w R) (hi : R[i]? = some (BlkT C (clO m0 tm res ses gre last))) :
    St W ((((((((((((w.setCell ⟨C, 0, none⟩ (.int .i64 m.kind)).setCell ⟨C, 1, none⟩ (.int .i64 m.ses)).setCell ⟨C, 2, none⟩ (.int .i64 m.num)).setCell ⟨C, 3, none⟩ (.int .i64 m.job)).setCell ⟨C, 4, none⟩ (.int .i64 m.bad)).setCell ⟨C, 5, none⟩ (.int .i64 m.idx)).setCell ⟨C, 6, none⟩ (.int .i64 m.cnt)).setCell ⟨C, 7, none⟩ (.int .i64 m.code)).setCell ⟨C, 8, none⟩ (.int .u64 m.bits)).setCell ⟨C, 9, none⟩ (.string m.text)).setCell ⟨C, 10, none⟩ (.string m.prog)).setCell ⟨C, 11, none⟩ (.int .i64 0)) (R.set i (BlkT C (clO m 0 res ses gre last))) := by
  have hil := lt_of_get hi
  have st : ∀ {wx : World} {c : Array Value}, St W wx (R.set i (BlkT C (.cells c 61))) → ∀ (k : Nat) (v : Value), St W (wx.setCell ⟨C, k, none⟩ v) (R.set i (BlkT C (.cells (c.setIfInBounds k v) 61))) := fun h k v => by
    have h2 := h.setBlk i (List.getElem?_set_self hil) k v
    rwa [List.set_set] at h2
  have h := H.setBlk i hi 0 (.int .i64 m.kind)
  simp only [List.setIfInBounds_toArray, List.set_cons_zero, List.set_cons_succ] at h
  have h := st h 1 (.int .i64 m.ses)
  simp only [List.setIfInBounds_toArray, List.set_cons_zero, List.set_cons_succ] at h
  have h := st h 2 (.int .i64 m.num)
  simp only [List.setIfInBounds_toArray, List.set_cons_zero, List.set_cons_succ] at h
  have h := st h 3 (.int .i64 m.job)
  simp only [List.setIfInBounds_toArray, List.set_cons_zero, List.set_cons_succ] at h
  have h := st h 4 (.int .i64 m.bad)
  simp only [List.setIfInBounds_toArray, List.set_cons_zero, List.set_cons_succ] at h
  have h := st h 5 (.int .i64 m.idx)
  simp only [List.setIfInBounds_toArray, List.set_cons_zero, List.set_cons_succ] at h
  have h := st h 6 (.int .i64 m.cnt)
  simp only [List.setIfInBounds_toArray, List.set_cons_zero, List.set_cons_succ] at h
  have h := st h 7 (.int .i64 m.code)
  simp only [List.setIfInBounds_toArray, List.set_cons_zero, List.set_cons_succ] at h
  have h := st h 8 (.int .u64 m.bits)
  simp only [List.setIfInBounds_toArray, List.set_cons_zero, List.set_cons_succ] at h
  have h := st h 9 (.string m.text)
  simp only [List.setIfInBounds_toArray, List.set_cons_zero, List.set_cons_succ] at h
  have h := st h 10 (.string m.prog)
  simp only [List.setIfInBounds_toArray, List.set_cons_zero, List.set_cons_succ] at h
  have h := st h 11 (.int .i64 0)
  simp only [List.setIfInBounds_toArray, List.set_cons_zero, List.set_cons_succ] at h
  exact h

set_option maxHeartbeats 1600000 in
theorem st_begin (H : St W w R) (i : Nat) {C : Nat} {m0 : MV} {tm res ses gre last : Int} (hi : R[i]? = some (BlkT C (clO m0 tm res ses gre last))) (m : MV) :
    Calls Try.prog 65 #[ptr C, .agg m.f.toArray] w fun e w' => e = .returned (.tuple #[]) ∧ St W w' (R.set i (BlkT C (clO m 0 res ses gre last))) := by
  have hil := lt_of_get hi
  have H1 := H.alloc (mO m)
  have hi1 : (R ++ [BlkT w.heap.size (mO m)])[i]? = some (BlkT C (clO m0 tm res ses gre last)) := by rw [List.getElem?_append_left hil]; exact hi
  have hb := H.blk i hi
  have f0 := free_blk (i := 0) hb
  have f1 := free_blk (i := 1) hb
  have f2 := free_blk (i := 2) hb
  have f3 := free_blk (i := 3) hb
  have f4 := free_blk (i := 4) hb
  have f5 := free_blk (i := 5) hb
  have f6 := free_blk (i := 6) hb
  have f7 := free_blk (i := 7) hb
  have f8 := free_blk (i := 8) hb
  have f9 := free_blk (i := 9) hb
  have f10 := free_blk (i := 10) hb
  have f11 := free_blk (i := 11) hb
  have c0 := cell_blk (i := 0) hb rfl
  have c1 := cell_blk (i := 1) hb rfl
  have c2 := cell_blk (i := 2) hb rfl
  have c3 := cell_blk (i := 3) hb rfl
  have c4 := cell_blk (i := 4) hb rfl
  have c5 := cell_blk (i := 5) hb rfl
  have c6 := cell_blk (i := 6) hb rfl
  have c7 := cell_blk (i := 7) hb rfl
  have c8 := cell_blk (i := 8) hb rfl
  have c9 := cell_blk (i := 9) hb rfl
  have c10 := cell_blk (i := 10) hb rfl
  have c11 := cell_blk (i := 11) hb rfl
  have hg := lt_of_block hb
  have HE := hid ((H.blk12 m hi).alloc (mO m))
  obtain ⟨x0, x1, x2, x3, x4, x5, x6, x7, x8, x9, x10⟩ := msg_cells (H1.blk _ (get_behind _ _ 0))
  clear hb H H1 hi hi1
  dsimp only [MV.f, mO] at HE ⊢
  go_enter Try.func65, Try.ntmps65
  go_wp2
  go_end0
  exact ⟨rfl, HE.out.drop⟩

theorem st_enter (H : St W w R) (i : Nat) {C : Nat} {m : MV} {tm res ses gre last : Int} (hi : R[i]? = some (BlkT C (clO m tm res ses gre last))) (s g : Int) (hgm : max gre s = g) :
    Calls Try.prog 64 #[ptr C, .int .i64 s] w fun e w' => e = .returned (.tuple #[]) ∧ St W w' (R.set i (BlkT C (clO m tm res s g 0))) := by
  have hil := lt_of_get hi
  have hb := H.blk i hi
  have f2 := free_blk (i := 13) hb
  have f3 := free_blk (i := 14) hb
  have f4 := free_blk (i := 15) hb
  have x2 := cell_blk (i := 13) hb rfl
  have x3 := cell_blk (i := 14) hb rfl
  have x4 := cell_blk (i := 15) hb rfl
  have HE := hid (show St W (((w.setCell ⟨C, 13, none⟩ (.int .i64 s)).setCell ⟨C, 15, none⟩ (.int .i64 0)).setCell ⟨C, 14, none⟩ (.int .i64 g)) (R.set i (BlkT C (clO m tm res s g 0))) from by
    have h := H.setBlk i hi 13 (.int .i64 s)
    have h := h.setBlk i (List.getElem?_set_self hil) 15 (.int .i64 0)
    rw [List.set_set] at h
    have h := h.setBlk i (List.getElem?_set_self hil) 14 (.int .i64 g)
    rw [List.set_set] at h
    exact h)
  clear hb H hi
  go_enter Try.func64, Try.ntmps64
  go_wp2
  go_end0
  exact ⟨rfl, HE.out⟩
set_option maxHeartbeats 1600000 in
theorem st_chello (H : St W w R) (i : Nat) {C : Nat} {m0 : MV} {tm res ses gre last : Int} (hi : R[i]? = some (BlkT C (clO m0 tm res ses gre last))) (hk : m0.kind = 0) (g : Int) (hgm : max gre 0 = g) :
    Calls Try.prog 40 #[ptr C] w fun e w' => e = .returned (.int .i64 0) ∧ St W w' (R.set i (BlkT C (clO (MV.of 1) 0 res 0 g 0))) := by
  have hil := hid (lt_of_get hi)
  have HB := hid (st_busy (H.blk i hi))
  have HE := hid (st_enter H i hi 0 g hgm)
  rw [hk] at HB
  clear H hi hk
  go_enter Try.func40, Try.ntmps40
  go_wp2_with fail
  refine HB.out.mono ?_
  rintro e w1 ⟨rfl, rfl⟩
  clear HB
  go_wp2_with fail
  refine HE.out.mono ?_
  rintro e w1 ⟨rfl, H1⟩
  clear HE
  have H1 := hid H1
  go_wp2_with fail
  refine (show Calls Try.prog 65 _ _ _ from st_begin H1.out i (List.getElem?_set_self hil.out) (MV.of 1)).mono ?_
  rintro e w2 ⟨rfl, H2⟩
  rw [List.set_set] at H2
  have H2 := hid H2
  clear H1
  go_wp2_with fail
  go_ret
  exact ⟨rfl, H2.out⟩

set_option maxHeartbeats 1600000 in
/-- What is due. -/
theorem st_cdue (H : St W w R) (i : Nat) {C : Nat} {m : MV} {tm res ses gre last : Int} (hi : R[i]? = some (BlkT C (clO m tm res ses gre last))) (hk : (m.kind == 0) = false) (ht : ¬ 0 < tm) :
    Calls Try.prog 42 #[ptr C] w fun e w' => e = .returned (.tuple #[.agg m.f.toArray, .bool true]) ∧ St W w' (R.set i (BlkT C (clO m res res ses gre last))) := by
  have hb := H.blk i hi
  have hg := lt_of_block hb
  have HB := hid (fun o => st_busy ((H.alloc_ o).blk i hi))
  rw [hk] at HB
  have f11 := free_blk (i := 11) hb
  have c11 := cell_blk (i := 11) hb rfl
  have c12 := cell_blk (i := 12) hb rfl
  have x0 := cell_blk (i := 0) hb rfl
  have x1 := cell_blk (i := 1) hb rfl
  have x2 := cell_blk (i := 2) hb rfl
  have x3 := cell_blk (i := 3) hb rfl
  have x4 := cell_blk (i := 4) hb rfl
  have x5 := cell_blk (i := 5) hb rfl
  have x6 := cell_blk (i := 6) hb rfl
  have x7 := cell_blk (i := 7) hb rfl
  have x8 := cell_blk (i := 8) hb rfl
  have x9 := cell_blk (i := 9) hb rfl
  have x10 := cell_blk (i := 10) hb rfl
  have HE := hid (show St W (w.setCell ⟨C, 11, none⟩ (.int .i64 res)) (R.set i (BlkT C (clO m res res ses gre last))) from H.setBlk i hi 11 (.int .i64 res))
  clear hb H hi
  go_enter Try.func42, Try.ntmps42
  go_wp2_with fail
  refine (HB.out _).mono ?_
  rintro e w1 ⟨rfl, rfl⟩
  clear HB
  go_wp2_with fail
  refine bodyPost_ret (v := .tuple #[.agg m.f.toArray, .bool true]) ?_ rfl ⟨rfl, ?_⟩
  · simp [results, Try.results42, go_sem]
    rfl
  · exact HE.out.alloc_ _
set_option maxHeartbeats 1600000 in
theorem st_cdue_no (H : St W w R) (i : Nat) {C : Nat} {m : MV} {tm res ses gre last : Int} (hi : R[i]? = some (BlkT C (clO m tm res ses gre last))) (hk : m.kind = 0 ∨ (m.kind == 0) = false ∧ 0 < tm) :
    Calls Try.prog 42 #[ptr C] w fun e w' => e = .returned (.tuple #[.agg (MV.of 0).f.toArray, .bool false]) ∧ St W w' R := by
  have hb := H.blk i hi
  have hg := lt_of_block hb
  have HB := hid (fun o => st_busy ((H.alloc_ o).blk i hi))
  have c11 := cell_blk (i := 11) hb rfl
  have HH := hid H
  rcases hk with hk | ⟨hk, ht⟩
  · rw [hk] at HB
    clear hb H hi hk
    go_enter Try.func42, Try.ntmps42
    go_wp2_with fail
    refine (HB.out _).mono ?_
    rintro e w1 ⟨rfl, rfl⟩
    clear HB
    go_wp2_with fail
    refine bodyPost_ret (v := .tuple #[.agg (MV.of 0).f.toArray, .bool false]) ?_ rfl ⟨rfl, ?_⟩
    · simp [results, Try.results42, go_sem]
      rfl
    · exact HH.out.alloc_ _
  · rw [hk] at HB
    clear hb H hi hk
    go_enter Try.func42, Try.ntmps42
    go_wp2_with fail
    refine (HB.out _).mono ?_
    rintro e w1 ⟨rfl, rfl⟩
    clear HB
    go_wp2_with fail
    refine bodyPost_ret (v := .tuple #[.agg (MV.of 0).f.toArray, .bool false]) ?_ rfl ⟨rfl, ?_⟩
    · simp [results, Try.results42, go_sem]
      rfl
    · exact HH.out.alloc_ _
end

end Go.Proofs.Ytkiccbjngokpjaa
