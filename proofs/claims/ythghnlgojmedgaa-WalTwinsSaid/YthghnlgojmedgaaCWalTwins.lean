/-
  The walk of WalTwins.
-/
import Derived.Test.YthghnlgojmedgaaM28
import Derived.Test.YthghnlgojmedgaaM19
namespace Go.Proofs.Ythghnlgojmedgaa
open Go.RowKit
set_option linter.unusedVariables false
set_option linter.unusedSimpArgs false

theorem append_number {x : WS} {d : DS} {r : ByteArray} (h : (x.append d r).1 = 0) : (x.append d r).2.1.h.number = x.h.number + 1 := by
  revert h
  unfold WS.append
  split
  · intro h; cases h
  split
  · intro h; cases h
  split
  · intro h; cases h
  split
  · intro h; cases h
  split
  · intro _; rfl
  · intro h; cases h
theorem log_snapshot_ok {x : WS} {d : DS} {s : ByteArray} {l : List ByteArray} (L : Log x d s l) (t : ByteArray) (ha : d.armed = 0) (h1 : t.size ≤ 17000) (h2 : t.size ≤ roomN d.sec.length) (hn : x.h.number < 1099511627776) : (x.snapshot d t).1 = 0 := by
  have hdead : ¬ (x.dead = true ∨ d.dead = true) := by rw [L.alive, L.on]; simp
  have hh := L.i.half1
  have hP : Pl d.sec (x.snapH t.size).half 0 (bl t) := L.i.pl (by show 1 - x.h.half ≤ 1; omega) (by omega)
  obtain ⟨c1, _⟩ := call_done (s' := t) (l' := []) (h' := x.snapH t.size) (n' := 0) L hP (.inl ha) (by omega) rfl (by show t.size ≤ _; omega) (by show t.size + 0 = 0 + t.size; omega)
    (by rw [hTake_zero]; simp [frs]) rfl (fun _ h => by cases h) rfl
  unfold WS.snapshot
  rw [if_neg hdead, if_neg (by omega), if_neg (by omega), if_pos c1]

/-- A log that was only appended to. -/
structure Apd (x : WS) (d : DS) (l : List ByteArray) : Prop where
  log : Log x d ⟨#[]⟩ l
  armed : d.armed = 0
  raw : d.raw.length ≤ 600 * l.length + 1
  num : x.h.number = l.length + 1
theorem Apd.append {x : WS} {d : DS} {l : List ByteArray} (A : Apd x d l) (r : ByteArray) : ∃ l', Apd (x.append d r).2.1 (x.append d r).2.2 l' := by
  rcases log_append A.log r A.armed with ⟨_, _, h⟩ | ⟨h1, _, h2, h3, h4, _⟩
  · rw [h]; exact ⟨l, A⟩
  · refine ⟨l ++ [r], h2, h3, ?_, ?_⟩
    · have := A.raw; rw [List.length_append, List.length_singleton]; omega
    · rw [append_number h1, A.num, List.length_append]; rfl
theorem Apd.rawOk {x : WS} {d : DS} {l : List ByteArray} (A : Apd x d l) : (d.raw.length + 2000) * 24 ≤ 140737488355328 := by
  have := A.raw; have := A.log.len.1; omega

def sS : ByteArray := ⟨#[115]⟩
set_option maxHeartbeats 1600000 in
set_option maxRecDepth 100000 in
theorem waltwins_any (w : World) (half : Int) (hl1 : -9223372036854775808 ≤ half) (hl2 : half ≤ 9223372036854775807) (a : Option Addr) (n cap : Nat) (ss : List ByteArray) (hn : ss.length = n) (hI : In w 1 a n cap (strV ss)) (hsz : ∀ i, i < n → (sAt ss i).size ≤ 140737488351232) :
    Calls Try.prog 7 #[.int .i64 half, .slice a n cap] w fun e w' => e = .returned (.bool true) ∧ Fr [] w w' := by
  have H := St.refl w
  have HI := hid hI
  have HSZ := hid hsz
  have hm := hI.max
  clear hI hsz
  by_cases hbad : half < 1 ∨ 512 < half
  · have HF := hid (st_fixed09 H)
    clear H
    by_cases h1 : half < 1
    · clear hbad
      go_enter Try.func7, Try.ntmps7
      go_wp2_with fail
      refine HF.out.mono ?_
      rintro e w1 ⟨rfl, H⟩
      go_wp2_with fail
      go_ret
      exact ⟨rfl, H.fr⟩
    · have h2 : 512 < half := by omega
      clear hbad
      go_enter Try.func7, Try.ntmps7
      go_wp2_with fail
      refine HF.out.mono ?_
      rintro e w1 ⟨rfl, H⟩
      go_wp2_with fail
      go_ret
      exact ⟨rfl, H.fr⟩
  obtain ⟨hf, rfl⟩ : ∃ hf : Nat, half = hf := ⟨half.toNat, by omega⟩
  have h1 : 1 ≤ hf := by omega
  have h2 : hf ≤ 512 := by omega
  have HL := hid (st_laid H hf h1 h2)
  have b1 : ¬ (hf : Int) < 1 := by omega
  have b2 : ¬ (512 : Int) < hf := by omega
  have HMX := hid (And.intro hm hn)
  clear H hbad hl1 hl2 h1 h2 hm hn
  go_enter Try.func7, Try.ntmps7
  go_wp2_with fail
  refine HL.out.mono ?_
  rintro e w1 ⟨D, B, d0, rfl, H, hl⟩
  have HS := hid H
  have HA := hid (show Apd ⟨fmtH, 0, false⟩ d0 [] from ⟨hl.out.1, hl.out.2.1, by rw [hl.out.2.2.1]; decide, rfl⟩)
  clear H hl HL b1 b2
  go_wp2_with fail
  go_loopw [7] (fun iv wr => ∃ (k : Nat) (x : WS) (d : DS) (l : List ByteArray), k ≤ n ∧ iv = .int .i64 k ∧ Hid (Apd x d l) ∧ St (.of w) wr [DkT D d, WlT B D x]) (fun iv _ => n - (intOf iv).toNat)
  case atStart => exact ⟨0, _, _, _, Nat.zero_le _, rfl, HA, by simpa using HS.out⟩
  case round =>
    obtain ⟨k, x, d, l, hk, rfl, hA, H⟩ := hrel
    by_cases hlt : k < n
    · obtain ⟨b, off, rfl⟩ := HI.out.sm (by omega)
      obtain ⟨r, hr⟩ : ∃ r, sAt ss k = r := ⟨_, rfl⟩
      have hcell : ∀ w', St (.of w) w' ([] : List Thing) ∨ Fr [] w w' → w'.cell? ⟨b, off + k, none⟩ = some (.string r) := fun w' h => by
        have hF : Fr [] w w' := by rcases h with h | h; exact h.fr; exact h
        have h1 := (HI.out.fr0 hF).cell b off rfl k (by omega)
        rw [← hr]; exact h1
      have hrs := HSZ.out k hlt
      rw [hr] at hrs
      have HC := hid hcell
      have HR := hid hrs
      have HLT := hid (And.intro hlt hk)
      have hltI : (k : Int) < n := by omega
      have hwk : IntKind.i64.wrap ((k : Int) + 1) = (k : Int) + 1 := IntWalk.i64_in _ (by have := HMX.out.1; omega)
      clear hcell hrs hr HS
      have HK := hid hwk
      have HCL := hid (st_clone H 0 rfl hA.out.log.wf (by have := hA.out.rawOk; omega))
      clear hwk hlt hk H
      go_wp2_with fail
      refine HCL.out.mono ?_
      rintro e w2 ⟨C, rfl, H⟩
      try simp only [List.nil_append, List.cons_append, List.set_cons_zero, List.set_cons_succ] at H
      have HWC := hid (st_wclone H 1 rfl C)
      clear H HCL
      go_wp2_with fail
      refine HWC.out.mono ?_
      rintro e w3 ⟨N, rfl, H⟩
      try simp only [List.nil_append, List.cons_append, List.set_cons_zero, List.set_cons_succ] at H
      obtain ⟨z, hz⟩ : ∃ z, (x.append d r).1 = z := ⟨_, rfl⟩
      obtain ⟨x', hx'⟩ : ∃ y, (x.append d r).2.1 = y := ⟨_, rfl⟩
      obtain ⟨d', hd'⟩ : ∃ y, (x.append d r).2.2 = y := ⟨_, rfl⟩
      obtain ⟨l', hA'⟩ := hA.out.append r
      rw [hx', hd'] at hA'
      have hap : ∀ (w' : World) (RR : List Thing) (i j B D : Nat), St (.of w) w' RR → RR[i]? = some (WlT B D x) → RR[j]? = some (DkT D d) → i ≠ j → Calls Try.prog 12 #[.pointer (some ⟨B, 0, none⟩), .string r] w' fun e w'' => e = .returned (.int .i64 z) ∧ St (.of w) w'' ((RR.set i (WlT B D x')).set j (DkT D d')) := fun w' RR i j B D h hi hj hij => by
        have h2 := st_wappend h i j hi hj hij hA.out.log.i r (by have := HR.out; omega) hA.out.rawOk
        rw [hz, hx', hd'] at h2
        exact h2
      have HAPP := hid hap
      have HA' := hid hA'
      clear hap hz hx' hd' hA'
      have c1 := HC.out w3 (.inr H.fr)
      have HH := hid H
      clear H HWC
      go_wp2_with fail
      refine (HAPP.out w3 _ 1 0 B D HH.out rfl rfl (by decide)).mono ?_
      rintro e w4 ⟨rfl, H⟩
      try simp only [List.nil_append, List.cons_append, List.set_cons_zero, List.set_cons_succ] at H
      have c2 := HC.out w4 (.inr H.fr)
      have HH2 := hid H
      clear H c1 HH
      go_wp2_with fail
      refine (HAPP.out w4 _ 3 2 N C HH2.out rfl rfl (by decide)).mono ?_
      rintro e w5 ⟨rfl, H⟩
      try simp only [List.nil_append, List.cons_append, List.set_cons_zero, List.set_cons_succ] at H
      have HK1 := hid (st_sectors H 2 rfl HA'.out.log.wf)
      clear H c2 HH2
      go_wp2_with fail
      refine HK1.out.mono ?_
      rintro e w6 ⟨g1, p1, rfl, H⟩
      try simp only [List.nil_append, List.cons_append, List.set_cons_zero, List.set_cons_succ] at H
      have HK2 := hid (st_sectors H 0 rfl HA'.out.log.wf)
      clear H HK1
      go_wp2_with fail
      refine HK2.out.mono ?_
      rintro e w7 ⟨g2, p2, rfl, H⟩
      try simp only [List.nil_append, List.cons_append, List.set_cons_zero, List.set_cons_succ] at H
      have HK3 := hid (st_same H (H.in_ 4 rfl) (H.in_ 5 rfl))
      clear H HK2
      go_wp2_with fail
      refine HK3.out.mono ?_
      rintro e w8 ⟨rfl, H⟩
      have HK4 := hid (st_sectors H 0 rfl HA'.out.log.wf)
      clear H HK3
      go_wp2_with fail
      refine HK4.out.mono ?_
      rintro e w9 ⟨g3, p3, rfl, H⟩
      try simp only [List.nil_append, List.cons_append, List.set_cons_zero, List.set_cons_succ] at H
      have hsn := st_wsnapshot H 3 2 (B := N) (D := C) rfl rfl (by decide) HA'.out.log.i sS (by decide) HA'.out.rawOk
      have hsok := log_snapshot_ok HA'.out.log sS HA'.out.armed (by decide) (by have := HA'.out.log.fit; have h2 := roomN_ok this; rw [h2.2.2.2]; show 1 ≤ _; omega) (by rw [HA'.out.num]; have := HA'.out.log.len.1; omega)
      have hsn0 : (x'.snapshot d' sS).2.1.n = 0 := by
        rcases log_snapshot HA'.out.log sS HA'.out.armed with ⟨h, _⟩ | ⟨_, _, _, _, h, _⟩
        · exact absurd hsok h
        · exact h
      rw [hsok] at hsn
      obtain ⟨x3, hx3⟩ : ∃ y, (x'.snapshot d' sS).2.1 = y := ⟨_, rfl⟩
      obtain ⟨d3, hd3⟩ : ∃ y, (x'.snapshot d' sS).2.2 = y := ⟨_, rfl⟩
      rw [hx3, hd3] at hsn
      rw [hx3] at hsn0
      have HSN := hid hsn
      have HS0 := hid hsn0
      clear hsn hsn0 hsok hx3 hd3 H HK4
      go_wp2_with fail
      refine HSN.out.mono ?_
      rintro e w10 ⟨rfl, H⟩
      try simp only [List.nil_append, List.cons_append, List.set_cons_zero, List.set_cons_succ] at H
      have HK5 := hid (st_sectors H 0 rfl HA'.out.log.wf)
      clear H HSN
      go_wp2_with fail
      refine HK5.out.mono ?_
      rintro e w11 ⟨g4, p4, rfl, H⟩
      try simp only [List.nil_append, List.cons_append, List.set_cons_zero, List.set_cons_succ] at H
      have HK6 := hid (st_same H (H.in_ 7 rfl) (H.in_ 6 rfl))
      clear H HK5
      go_wp2_with fail
      refine HK6.out.mono ?_
      rintro e w12 ⟨rfl, H⟩
      have hrc := st_wrecords H 3 (B := N) (D := C) (x := x3) rfl
      rw [HS0.out] at hrc
      have HRC := hid hrc
      clear hrc H HK6
      go_wp2_with fail
      refine HRC.out.mono ?_
      rintro e w13 ⟨rfl, H⟩
      have HEND := hid (H.take 2)
      clear H HRC
      have hwk := HK.out
      go_wp2_with fail
      go_roundw
      case rel => exact ⟨k + 1, x', d', l', HLT.out.1, by go_num, HA', HEND.out⟩
      case measure => have := HLT.out.1; simp [intOf]; omega
    · obtain rfl : k = n := by omega
      have HF := hid (st_fixed09 H)
      clear H HS
      go_wp2_with fail
      refine HF.out.mono ?_
      rintro e w2 ⟨rfl, H⟩
      have hfr := hid H.fr
      clear H
      go_wp2_with fail
      go_ret
      exact ⟨rfl, hfr.out⟩

theorem waltwins_walk (w : World) (half : Int) (h1 : -9223372036854775808 ≤ half) (h2 : half ≤ 9223372036854775807) (a : Option Addr) (n cap : Nat) (V : Nat → Value) (hS : SlIn w 1 16 a n cap V) (hq : ∀ i, i < n → Str (V (i * 1))) :
    Calls Try.prog 7 #[.int .i64 half, .slice a n cap] w fun e w' => e = .returned (.bool true) ∧ Fr [] w w' := by
  obtain ⟨ss, hl, hI, _, hsz⟩ := strs_of hS hq
  exact waltwins_any w half h1 h2 a n cap ss hl hI hsz
end Go.Proofs.Ythghnlgojmedgaa
