/-
  Merged, in build order: Sk.
-/
import Derived.Test.YtkiccbjngokpjaaGreatM21
import Derived.Test.YtkiccbjngokpjaaGreatM23
/-
  sink: a sink of one job as a thing; New, count.
-/
namespace Go.Proofs.YtkiccbjngokpjaaGreat
open Go.RowKit
set_option linter.unusedVariables false
set_option linter.unusedSimpArgs false

abbrev avZ : Value := .agg #[.int .i64 0, .int .i64 0, .slice none 0 0]
def avE (p : Nat × Value) : Value := .agg #[.int .i64 1, .int .i64 p.1, p.2]
theorem zero_av (w : World) : (zeroValue 41).run Tryz.prog w = .ok avZ w := by kernel_rfl
theorem info_av : (Tryz.prog.info? 41).map (fun i => (i.zero, i.size, i.bytes)) = some (some avZ, 3, 40) := by kernel_rfl
abbrev evZ : Value := .agg #[.int .i64 0, .int .i64 0, .int .i64 0, .int .i64 0, .int .i64 0, .int .i64 0, .int .i64 0, .int .i64 0, .int .i64 0, .int .i64 0, .int .u64 0, .string ByteArray.empty, .slice none 0 0]
theorem info_ev : (Tryz.prog.info? 98).map (fun i => (i.zero, i.size, i.bytes)) = some (some evZ, 13, 128) := by kernel_rfl
def Kn.es (k : Kn) (v : Value) : List (Int × (Nat × Value)) := match k.held with
  | none => []
  | some p => [(1, (p.1, v))]
def Kn.val (k : Kn) (v : Value) : Value := match k.held with
  | none => avZ
  | some p => avE (p.1, v)
def Kn.ps (k : Kn) : List ByteArray := match k.held with
  | none => []
  | some p => p.2
abbrev knO (m : Nat) (nv : Value) : Obj := .cells #[.map (some m), nv] 82
abbrev kn1 (K : Nat) (k : Kn) (nn : Nat) (m : Nat) (v nv : Value) (evs : List Value) : List Thing1 := [Blk1 K (knO m nv), Mp1 Tryz.prog 3 m avE (k.es v), Row1 9 1 v k.ps.length (txC k.ps), Row1 98 13 nv nn evs]
abbrev knL (K : Nat) (k : Kn) (nn : Nat) (m : Nat) (v nv : Value) (evs : List Value) : List Thing := [BlkT K (knO m nv), MpT Tryz.prog 3 m avE (k.es v), RowT 9 1 v k.ps.length (txC k.ps), RowT 98 13 nv nn evs]
theorem kn1_loc (K : Nat) (k : Kn) (nn : Nat) (m : Nat) (v nv : Value) (evs : List Value) : ∀ A, A ∈ kn1 K k nn m v nv evs → Loc1 A := by
  intro A hA
  simp only [kn1, List.mem_cons, List.not_mem_nil, or_false] at hA
  rcases hA with rfl | rfl | rfl | rfl
  · exact inferInstance
  · exact inferInstance
  · exact inferInstance
  · exact inferInstance
def Kn1 (K : Nat) (k : Kn) (nn : Nat) : Thing1 := fun wx F => ∃ (m : Nat) (v nv : Value) (evs : List Value), Pack1 (kn1 K k nn m v nv evs) wx F
def KnT (K : Nat) (k : Kn) (nn : Nat) : Thing := own (Kn1 K k nn)
instance (K : Nat) (k : Kn) (nn : Nat) : Loc1 (Kn1 K k nn) where
  keep := fun ⟨a, b, c, d, h2⟩ hF hd => ⟨a, b, c, d, h2.keep hF hd⟩
  lt := fun ⟨a, b, c, d, h2⟩ x hx => h2.lt x hx

section
variable {W : Base} {w : World} {R : List Thing}
theorem St.kn (H : St W w R) (i : Nat) {K : Nat} {k : Kn} {nn : Nat} (hi : R[i]? = some (KnT K k nn)) : ∃ (m : Nat) (v nv : Value) (evs : List Value), St W w (R.set i NilT ++ knL K k nn m v nv evs) := by
  obtain ⟨F, ⟨a, b, c, d, h2⟩, h3⟩ := H.unpackG i hi
  exact ⟨a, b, c, d, h3 _ h2⟩
theorem St.knBack {i K : Nat} {k : Kn} {nn m : Nat} {v nv : Value} {evs : List Value} (hil : i < R.length) (H : St W w (R.set i NilT ++ knL K k nn m v nv evs)) : St W w (R.set i (KnT K k nn)) := by
  have H2 : St W w (R.set i NilT ++ (kn1 K k nn m v nv evs).map own) := H
  have h := H2.packG i (List.getElem?_set_self hil) (kn1_loc _ _ _ _ _ _ _) (B := Kn1 K k nn) (fun F hP => ⟨m, v, nv, evs, hP⟩)
  rwa [List.set_set] at h
theorem St.knEnd {K : Nat} {k : Kn} {nn m : Nat} {v nv : Value} {evs : List Value} (H : St W w (R ++ knL K k nn m v nv evs)) : St W w (R ++ [KnT K k nn]) := by
  have H2 : St W w (R ++ (kn1 K k nn m v nv evs).map own) := H
  exact H2.packEnd (kn1_loc _ _ _ _ _ _ _) (B := Kn1 K k nn) (fun F hP => ⟨m, v, nv, evs, hP⟩)

theorem st_knew (H : St W w R) : Calls Tryz.prog 15 #[] w fun e w' => ∃ K, e = .returned (ptr K) ∧ St W w' (R ++ [KnT K ⟨none⟩ 0]) := by
  have HE := hid (show St W ((w.alloc (.map #[] 0)).alloc (knO w.heap.size (.slice none 0 0))) (R ++ [KnT (w.heap.size + 1) ⟨none⟩ 0]) from by
    have h := (H.newMap Tryz.prog 3 avE).allocAt (knO w.heap.size (.slice none 0 0)) (w.heap.size + 1) (by simp)
    have h := (h.nilRow 9 1).nilRow 98 13
    simp only [List.append_assoc, List.cons_append, List.nil_append] at h
    refine St.knEnd (m := w.heap.size) (v := .slice none 0 0) (nv := .slice none 0 0) (evs := []) (h.perm ?_)
    exact List.Perm.append_left _ (List.Perm.swap _ _ _))
  clear H
  have hmm := @run_makeMap Tryz.prog
  go_enter Tryz.func15, Tryz.ntmps15
  go_wp2_with fail
  go_ret
  exact ⟨_, rfl, HE.out⟩

theorem kn_look {K : Nat} {k : Kn} {nn m : Nat} {v nv : Value} {evs : List Value} (H : St W w (R ++ knL K k nn m v nv evs)) (c : Bool) :
    (Instr.lookup 79 (.map (some m)) (.int .i64 1) c).run Tryz.prog w = .ok (if c then .tuple #[k.val v, .bool k.held.isSome] else k.val v) w := by
  have hg : mget (k.es v) 1 = k.held.map (fun p => (p.1, v)) := by
    unfold Kn.es
    rcases k.held with _ | p
    · rfl
    · rfl
  cases c with
  | true =>
    have h := mp_look H _ (get_behind _ _ 1) 79 41 Tryz.underlying3 Tryz.underlying79 (zero_av w) 1 (lit_wf (by omega)) _ hg
    rw [h]
    unfold Kn.val
    rcases k.held with _ | p <;> rfl
  | false =>
    have h := mp_at H _ (get_behind _ _ 1) 79 41 Tryz.underlying3 Tryz.underlying79 (zero_av w) 1 (lit_wf (by omega)) _ hg
    rw [h]
    unfold Kn.val
    rcases k.held with _ | p <;> rfl
theorem st_kcount (H : St W w R) (i : Nat) {K : Nat} {k : Kn} {nn : Nat} (hi : R[i]? = some (KnT K k nn)) (b : Nat) (hl : k.ps.length ≤ 16) :
    Calls Tryz.prog 34 #[ptr K, .int .i64 1, .int .i64 b] w fun e w' => e = .returned (.int .i64 (k.count b)) ∧ Fr [] w w' := by
  obtain ⟨m, v, nv, evs, H2⟩ := H.kn i hi
  have hb := H2.blk _ (get_behind _ _ 0)
  have x0 := cell_blk (i := 0) hb rfl
  have hg := lt_of_block hb
  have hlk := kn_look H2 true
  obtain ⟨a, c, rfl, _, _⟩ := row_slice (H2.row _ (get_behind _ _ 2))
  rw [if_pos rfl] at hlk
  unfold Kn.val at hlk
  rcases hk : k.held with _ | ⟨B, ps⟩
  · rw [hk] at hlk
    have hc : k.count b = 0 := by unfold Kn.count; rw [hk]
    rw [hc]
    clear H H2 hb hi hk hc hl
    dsimp only [Option.isSome] at hlk
    go_enter Tryz.func34, Tryz.ntmps34
    go_wp2_with fail
    go_ret
    exact ⟨rfl, (Fr.refl _ _).alloc _⟩
  · rw [hk] at hlk
    have hps : k.ps = ps := by unfold Kn.ps; rw [hk]
    rw [hps] at hl hlk
    dsimp only [Option.isSome, avE] at hlk
    by_cases hB : B = b
    · have hc : k.count b = 1 + ps.length := by unfold Kn.count; rw [hk]; simp only [if_pos hB]
      rw [hc]
      subst hB
      have hw : wrap64 (1 + (ps.length : Int)) = ((1 + ps.length : Nat) : Int) := by rw [IntWalk.wrap64_in _ (by omega)]; omega
      have HW := hid hw
      clear H H2 hb hi hk hc hl hps hw
      go_enter Tryz.func34, Tryz.ntmps34
      go_wp2_with fail
      go_ret
      refine ⟨?_, (Fr.refl _ _).alloc _⟩
      rw [← HW.out]
      rfl
    · have hc : k.count b = 0 := by unfold Kn.count; rw [hk]; simp only [if_neg hB]
      rw [hc]
      have hbb : ((B : Int) == b) = false := by rw [beq_eq_false_iff_ne]; omega
      clear H H2 hb hi hk hc hl hps hB
      go_enter Tryz.func34, Tryz.ntmps34
      go_wp2_with fail
      go_ret
      exact ⟨rfl, (Fr.refl _ _).alloc _⟩
end

end Go.Proofs.YtkiccbjngokpjaaGreat
