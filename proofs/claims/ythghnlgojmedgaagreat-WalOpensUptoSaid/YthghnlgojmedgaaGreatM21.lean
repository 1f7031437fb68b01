/-
  Merged, in build order: DiskS.
-/
import Derived.Test.YthghnlgojmedgaaGreatM3
import Derived.Test.YthghnlgojmedgaaGreatM19
import Derived.Test.YthghnlgojmedgaaGreatM20
/-
  The disk's calls, over a world that holds things (XSep).
-/
namespace Go.Proofs.YthghnlgojmedgaaGreat
open Go.RowKit
set_option linter.unusedVariables false
set_option linter.unusedSimpArgs false

def Dk1 (D : Nat) (d : DS) : Thing1 := fun w F => Dk w F D d
def DkT (D : Nat) (d : DS) : Thing := own (Dk1 D d)
instance (D : Nat) (d : DS) : Loc1 (Dk1 D d) where
  keep := fun h hF hd => Dk.keep h hF hd
  lt := fun h => Dk.lt h
theorem St.dk {W : Base} {w : World} {R : List Thing} (h : St W w R) (i : Nat) {D : Nat} {d : DS} (hi : R[i]? = some (DkT D d)) : ∃ F, Dk w F D d := by
  obtain ⟨F, h1, _⟩ := h.get i hi; exact ⟨F, h1⟩

section
variable {W : Base} {w : World} {R : List Thing}

theorem st_sectors (H : St W w R) (i : Nat) {D : Nat} {d : DS} (hi : R[i]? = some (DkT D d)) (hw : d.wf) :
    Calls Tryz.prog 11 #[.pointer (some ⟨D, 0, none⟩)] w fun e w' => ∃ g cap, e = .returned (.slice (some ⟨g, 0, none⟩) d.sec.length cap) ∧ St W w' (R ++ [InT 1 (some ⟨g, 0, none⟩) d.sec.length cap (strV d.sec)]) := by
  obtain ⟨F, hD⟩ := H.dk i hi
  refine (disk_sectors w F D d hD hw).mono ?_
  rintro e w' ⟨v, rfl, hF, g, cap, rfl, hg, ho⟩
  refine ⟨g, cap, rfl, H.new hF inferInstance ⟨rfl, owns_in ho (strV d.sec) (fun j hj => strs_get _ _ j (by omega)), fun p hp => ?_⟩ (by simpa using hg)⟩
  cases hp
  exact owns_lt ho g (by simp [Value.ownBlock])

theorem st_sectors_of (H : St W w R) (i : Nat) {D : Nat} {d : DS} (hi : R[i]? = some (DkT D d)) (hw : d.wf) {ss : List ByteArray} (hs : d.sec = ss) :
    Calls Tryz.prog 11 #[.pointer (some ⟨D, 0, none⟩)] w fun e w' => ∃ g cap, e = .returned (.slice (some ⟨g, 0, none⟩) ss.length cap) ∧ St W w' (R ++ [InT 1 (some ⟨g, 0, none⟩) ss.length cap (strV ss)]) := by
  subst hs; exact st_sectors H i hi hw


theorem st_clone (H : St W w R) (i : Nat) {D : Nat} {d : DS} (hi : R[i]? = some (DkT D d)) (hw : d.wf) (hn : d.raw.length * 24 ≤ 140737488355328) :
    Calls Tryz.prog 16 #[.pointer (some ⟨D, 0, none⟩)] w fun e w' => ∃ C, e = .returned (.pointer (some ⟨C, 0, none⟩)) ∧ St W w' (R ++ [DkT C d]) := by
  obtain ⟨F, hD⟩ := H.dk i hi
  refine (disk_clone w F D d hD hw hn).mono ?_
  rintro e w' ⟨C, F', rfl, hF, hD', hb⟩
  exact ⟨C, rfl, H.new hF inferInstance hD' hb⟩

theorem st_load (H : St W w R) {a : Option Addr} {cap : Nat} {ss : List ByteArray} (h : In w 1 a ss.length cap (strV ss)) (hok : okSecs ss) :
    Calls Tryz.prog 14 #[.slice a ss.length cap] w fun e w' => ∃ D, e = .returned (.tuple #[.pointer (some ⟨D, 0, none⟩), .int .i64 0]) ∧ St W w' (R ++ [DkT D (DS.of ss)]) := by
  refine (disk_load w a cap ss h).mono ?_
  rintro e w' ⟨hF, ⟨hbad, _⟩ | ⟨_, D, F, rfl, hD, hb⟩⟩
  · exact absurd hok hbad
  · exact ⟨D, rfl, H.new hF inferInstance hD hb⟩


theorem st_write (H : St W w R) (i : Nat) {D : Nat} {d : DS} (hi : R[i]? = some (DkT D d)) (k : Int) (s : ByteArray) (hw : d.wf) (hn : (d.raw.length + 1) * 24 ≤ 140737488355328) :
    Calls Tryz.prog 25 #[.pointer (some ⟨D, 0, none⟩), .int .i64 k, .string s] w fun e w' => e = .returned (.int .i64 (d.write k s).1) ∧ St W w' (R.set i (DkT D (d.write k s).2)) := by
  obtain ⟨F, hD, _, hback⟩ := H.at i hi
  refine (disk_write w F D d k s hD hw hn).mono ?_
  rintro e w' ⟨rfl, hF, F', hD', hb⟩
  exact ⟨rfl, hback w' F' _ inferInstance hD' hF hb⟩

theorem st_arm (H : St W w R) (i : Nat) {D : Nat} {d : DS} (hi : R[i]? = some (DkT D d)) (n b : Int) :
    Calls Tryz.prog 53 #[.pointer (some ⟨D, 0, none⟩), .int .i64 n, .int .i64 b] w fun e w' => e = .returned (.int .i64 (d.arm n b).1) ∧ St W w' (R.set i (DkT D (d.arm n b).2)) := by
  obtain ⟨F, hD, _, hback⟩ := H.at i hi
  refine (disk_arm w F D d n b hD).mono ?_
  rintro e w' ⟨rfl, hF, hD'⟩
  have hm : D ∈ F := by obtain ⟨S, cap, rv, cur, rfl, _⟩ := hD; simp
  exact ⟨rfl, hback w' F _ inferInstance hD' (hF.mono (by simp [hm])) (fun x hx => .inl hx)⟩

theorem st_revive (H : St W w R) (i : Nat) {D : Nat} {d : DS} (hi : R[i]? = some (DkT D d)) :
    Calls Tryz.prog 55 #[.pointer (some ⟨D, 0, none⟩)] w fun e w' => e = .returned (.tuple #[]) ∧ St W w' (R.set i (DkT D d.revive)) := by
  obtain ⟨F, hD, _, hback⟩ := H.at i hi
  refine (disk_revive w F D d hD).mono ?_
  rintro e w' ⟨rfl, hF, hD'⟩
  have hm : D ∈ F := by obtain ⟨S, cap, rv, cur, rfl, _⟩ := hD; simp
  exact ⟨rfl, hback w' F _ inferInstance hD' (hF.mono (by simp [hm])) (fun x hx => .inl hx)⟩


/-- Same, of lists that are the same. -/
theorem st_same (H : St W w R) {a b : Option Addr} {ca cb : Nat} {ss : List ByteArray} (ha : In w 1 a ss.length ca (strV ss)) (hb : In w 1 b ss.length cb (strV ss)) :
    Calls Tryz.prog 10 #[.slice a ss.length ca, .slice b ss.length cb] w fun e w' => e = .returned (.bool true) ∧ St W w' R :=
  (same_any w a b ca cb ss ss ha hb).mono fun e w' ⟨h, k⟩ => ⟨h.trans (by simp), H.same k⟩
end

end Go.Proofs.YthghnlgojmedgaaGreat
