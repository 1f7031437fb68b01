/-
  'answers' of layer 4: a call of a script, of a disk and of the document's.
-/
import Derived.Test.YtkkahkgjedgjnaaRefS2
import Derived.Deep.RegionHeld3
namespace Go.Proofs.Ytkkahkgjedgjnaa
open Go.RowKit
set_option linter.unusedVariables false
set_option linter.unusedSimpArgs false

def DS.read (d : DS) (i : Int) : ByteArray × Int := if d.dead = true then (ByteArray.empty, 2) else if i < 0 ∨ d.sec.length ≤ i then (ByteArray.empty, 40) else (sAt d.sec i.toNat, 0)

section
variable {W : Base} {w : World} {R : List Thing}

theorem st_read (H : St W w R) (i : Nat) {D : Nat} {d : DS} (hi : R[i]? = some (DkT D d)) (k : Int) (hw : d.wf) :
    Calls Try.prog 29 #[.pointer (some ⟨D, 0, none⟩), .int .i64 k] w fun e w' => e = .returned (.tuple #[.string (d.read k).1, .int .i64 (d.read k).2]) ∧ w = w' := by
  obtain ⟨F, hD⟩ := H.dk i hi
  unfold DS.read
  by_cases hd : d.dead = true
  · rw [if_pos hd]; exact disk_read_no w F D d k hD 2 (.inl ⟨hd, rfl⟩)
  rw [if_neg hd]
  have hd' : d.dead = false := by simpa using hd
  by_cases hk : k < 0 ∨ d.sec.length ≤ k
  · rw [if_pos hk]; exact disk_read_no w F D d k hD 40 (.inr ⟨hd', hk, rfl⟩)
  rw [if_neg hk]
  obtain ⟨kk, rfl⟩ : ∃ kk : Nat, k = kk := ⟨k.toNat, by omega⟩
  exact disk_read_yes w F D d kk hD hw hd' (by omega)

theorem st_ref_read (H : St W w R) (i : Nat) {X : Nat} {d : DS} (hi : R[i]? = some (XkT X d)) (k : Int) (hw : d.wf) :
    Calls Try.prog 65 #[.pointer (some ⟨X, 0, none⟩), .int .i64 k] w fun e w' => e = .returned (.tuple #[.string (d.read k).1, .int .i64 (d.read k).2]) ∧ w = w' := by
  obtain ⟨F, G, sv, rv, hF, hG, hX, hS, hR⟩ := H.getG i hi
  have hn1 := hw.n1
  have hn2 := hw.n2
  obtain ⟨g, cap, rfl⟩ := owns_shape hS (by omega)
  have hI := owns_in hS (strV d.sec) (fun j hj => strs_get _ _ j (by omega))
  have c0 : w.cell? ⟨X, 0, none⟩ = some (.slice (some ⟨g, 0, none⟩) d.sec.length cap) := cell_blk hX rfl
  have c4 : w.cell? ⟨X, 4, none⟩ = some (.bool d.dead) := cell_blk hX rfl
  clear hX hS hR hF hG H hi
  by_cases hd : d.dead = true
  · have e : d.read k = (ByteArray.empty, 2) := by unfold DS.read; rw [if_pos hd]
    rw [e]; rw [hd] at c4
    clear e hd hI c0
    go_enter Try.func65, Try.ntmps65
    go_wp2
    go_ret2
    exact ⟨rfl, rfl⟩
  have hd' : d.dead = false := by simpa using hd
  rw [hd'] at c4
  by_cases hk : k < 0 ∨ d.sec.length ≤ k
  · have e : d.read k = (ByteArray.empty, 40) := by unfold DS.read; rw [if_neg hd, if_pos hk]
    rw [e]
    clear e hd hd' hI
    by_cases hk0 : k < 0
    · clear hk
      go_enter Try.func65, Try.ntmps65
      go_wp2
      go_ret2
      exact ⟨rfl, rfl⟩
    · have hk1 : (d.sec.length : Int) ≤ k := by omega
      clear hk
      go_enter Try.func65, Try.ntmps65
      go_wp2
      go_ret2
      exact ⟨rfl, rfl⟩
  obtain ⟨kk, rfl⟩ : ∃ kk : Nat, k = kk := ⟨k.toNat, by omega⟩
  have e : d.read kk = (sAt d.sec kk, 0) := by unfold DS.read; rw [if_neg hd, if_neg hk]; rfl
  rw [e]
  have hk0 : ¬ ((kk : Int) < 0) := by omega
  have hk1 : ¬ ((d.sec.length : Int) ≤ kk) := by omega
  have hk2 : kk < d.sec.length := by omega
  have hc := hI.cell g 0 rfl kk (by omega)
  rw [Nat.zero_add] at hc
  simp only [strV] at hc
  have hle := hI.max
  clear e hd hd' hI hk
  go_enter Try.func65, Try.ntmps65
  go_wp2
  go_ret2
  exact ⟨rfl, rfl⟩

theorem st_ref_arm (H : St W w R) (i : Nat) {X : Nat} {d : DS} (hi : R[i]? = some (XkT X d)) (n b : Int) :
    Calls Try.prog 67 #[.pointer (some ⟨X, 0, none⟩), .int .i64 n, .int .i64 b] w fun e w' => e = .returned (.int .i64 (d.arm n b).1) ∧ St W w' (R.set i (XkT X (d.arm n b).2)) := by
  have HS := hid (H.set_self hi)
  obtain ⟨F, G, ⟨sv, rv, hF, hG, hX, hS, hR⟩, hFW, hd, hback⟩ := H.atG i hi
  subst hF hG
  have c4 : w.cell? ⟨X, 4, none⟩ = some (.bool d.dead) := cell_blk hX rfl
  have c2 : w.cell? ⟨X, 2, none⟩ = some (.int .i64 d.armed) := cell_blk hX rfl
  have c3 : w.cell? ⟨X, 3, none⟩ = some (.int .i64 d.bytes) := cell_blk hX rfl
  have f2 : w.frozen? ⟨X, 2, none⟩ = false := free_blk hX
  have f3 : w.frozen? ⟨X, 3, none⟩ = false := free_blk hX
  have HB := hid (And.intro hX (And.intro hS (And.intro hR (And.intro hback (hd X (by simp))))))
  clear hX hS hR hback hd hFW H hi
  by_cases hdead : d.dead = true
  · have hr : d.arm n b = (2, d) := by unfold DS.arm; rw [if_pos hdead]
    rw [hr]
    rw [hdead] at c4
    clear hdead hr HB
    go_enter Try.func67, Try.ntmps67
    go_wp2
    go_ret
    exact ⟨rfl, HS.out⟩
  have hd' : d.dead = false := by simpa using hdead
  rw [hd'] at c4
  by_cases hb : n < 0 ∨ b < 0 ∨ 128 < b
  · have hr : d.arm n b = (1, d) := by unfold DS.arm; rw [if_neg hdead, if_pos hb]
    rw [hr]
    clear hdead hr hd' HB
    by_cases hn : n < 0
    · clear hb
      go_enter Try.func67, Try.ntmps67
      go_wp2
      go_ret
      exact ⟨rfl, HS.out⟩
    by_cases hb0 : b < 0
    · clear hb
      go_enter Try.func67, Try.ntmps67
      go_wp2
      go_ret
      exact ⟨rfl, HS.out⟩
    · have hb1 : 128 < b := by omega
      clear hb
      go_enter Try.func67, Try.ntmps67
      go_wp2
      go_ret
      exact ⟨rfl, HS.out⟩
  · have hr : d.arm n b = (0, { d with armed := n, bytes := b }) := by unfold DS.arm; rw [if_neg hdead, if_neg hb]
    rw [hr]
    have g1 : ¬ n < 0 := by omega
    have g2 : ¬ b < 0 := by omega
    have g3 : ¬ 128 < b := by omega
    clear hdead hr hd' hb
    go_enter Try.func67, Try.ntmps67
    go_wp2
    go_ret
    obtain ⟨b1, b2, b3, hback, hdX⟩ := HB.out
    have hF : Fr [X] w ((w.setCell ⟨X, 2, none⟩ (.int .i64 n)).setCell ⟨X, 3, none⟩ (.int .i64 b)) := ((Fr.refl _ _).setCell (.inl (by simp)) _).setCell (.inl (by simp)) _
    refine ⟨rfl, hback _ [X] _ _ inferInstance ⟨sv, rv, rfl, rfl, blk_setCell_at _ (blk_setCell_at _ b1), owns_keep b2 hF ?_, owns_keep b3 hF ?_⟩ hF (fun x hx => .inl hx) (fun x hx => .inr (.inl hx)) ?_⟩
    · intro q hq h; simp at h; subst h; exact hdX (List.mem_append.2 (.inl hq))
    · intro q hq h; simp at h; subst h; exact hdX (List.mem_append.2 (.inr hq))
    · intro x hx; simp at hx; subst hx; exact hdX

theorem st_write_eq (H : St W w R) (i : Nat) {D : Nat} {d d' : DS} {z : Int} (hi : R[i]? = some (DkT D d)) (k : Int) (s : ByteArray) (hw : d.wf) (hn : (d.raw.length + 1) * 24 ≤ 140737488355328) (hz : d.write k s = (z, d')) :
    Calls Try.prog 34 #[.pointer (some ⟨D, 0, none⟩), .int .i64 k, .string s] w fun e w' => e = .returned (.int .i64 z) ∧ St W w' (R.set i (DkT D d')) := by
  have := st_write H i hi k s hw hn; rw [hz] at this; exact this
theorem st_ref_write_eq (H : St W w R) (i : Nat) {D : Nat} {d d' : DS} {z : Int} (hi : R[i]? = some (XkT D d)) (k : Int) (s : ByteArray) (hw : d.wf) (hn : (d.raw.length + 1) * 24 ≤ 140737488355328) (hz : d.write k s = (z, d')) :
    Calls Try.prog 66 #[.pointer (some ⟨D, 0, none⟩), .int .i64 k, .string s] w fun e w' => e = .returned (.int .i64 z) ∧ St W w' (R.set i (XkT D d')) := by
  have := st_ref_write H i hi k s hw hn; rw [hz] at this; exact this
theorem st_arm_eq (H : St W w R) (i : Nat) {D : Nat} {d d' : DS} {z : Int} (hi : R[i]? = some (DkT D d)) (n b : Int) (hz : d.arm n b = (z, d')) :
    Calls Try.prog 46 #[.pointer (some ⟨D, 0, none⟩), .int .i64 n, .int .i64 b] w fun e w' => e = .returned (.int .i64 z) ∧ St W w' (R.set i (DkT D d')) := by
  have := st_arm H i hi n b; rw [hz] at this; exact this
theorem st_ref_arm_eq (H : St W w R) (i : Nat) {D : Nat} {d d' : DS} {z : Int} (hi : R[i]? = some (XkT D d)) (n b : Int) (hz : d.arm n b = (z, d')) :
    Calls Try.prog 67 #[.pointer (some ⟨D, 0, none⟩), .int .i64 n, .int .i64 b] w fun e w' => e = .returned (.int .i64 z) ∧ St W w' (R.set i (XkT D d')) := by
  have := st_ref_arm H i hi n b; rw [hz] at this; exact this
end

theorem quiet_mine04 {P : Program} {f : FuncId} {args : Array Value} {w : World} {n : Nat} {v : Value}
    (h : Calls P f args (w.drewN n) fun e w' => e = .returned v ∧ w.drewN n = w') : Calls P f args (w.drewN n) fun e w'' => e = .returned v ∧ ∃ m, w'' = w.drewN m :=
  h.mono fun _ _ ⟨he, hm⟩ => ⟨he, n, hm.symm⟩

end Go.Proofs.Ytkkahkgjedgjnaa
