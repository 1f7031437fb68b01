/-
  record: Decode.
-/
import Derived.Test.YtdobbmlaokolmaaR8
import Derived.Test.YtdobbmlaokolmaaR9
import Derived.Test.YtdobbmlaokolmaaR5
namespace Go.Proofs.Ytdobbmlaokolmaa
open Go.RowKit
set_option linter.unusedVariables false
set_option linter.unusedSimpArgs false

def rdAll (b : ByteArray) : Nat → Nat → List CV → Option (List CV × Nat)
  | 0, p, acc => some (acc, p)
  | n + 1, p, acc => (rdChange b p).bind fun x => rdAll b n x.2 (acc ++ [x.1])
/-- Decode. -/
def decode (b : ByteArray) : Option (List CV) :=
  if 2048 < b.size then none else (rdNum b 0 16).bind fun x => (rdAll b x.1 x.2 []).bind fun y => if y.2 < b.size ∨ x.1 = 0 then none else some y.1

theorem rdNum_p {b : ByteArray} {p n q : Nat} {m : Int} (h : rdNum b p m = some (n, q)) : p ≤ q ∧ q ≤ b.size := by
  unfold rdNum at h
  split at h
  · rename_i x hx; cases h; exact rdMost_p hx
  · cases h
theorem rdTexts_p {b : ByteArray} : ∀ (n p : Nat) (acc : List ByteArray) {x : List ByteArray × Nat}, p ≤ b.size → rdTexts b n p acc = some x → x.2 ≤ b.size
  | 0, p, acc, x, hp, h => by simp only [rdTexts, Option.some.injEq] at h; subst h; exact hp
  | n + 1, p, acc, x, hp, h => by
    rw [rdTexts] at h
    split at h
    · rename_i hx; exact rdTexts_p n _ _ (rdText_p hx) h
    · cases h
theorem rdLet_p {b : ByteArray} {c c' : CV} {p q : Nat} {l : UInt8} (hp : p ≤ b.size) (h : rdLet b c p l = some (c', q)) : q ≤ b.size := by
  have hnum : ∀ {p m} {f : Nat × Nat → CV}, (rdNum b p m).map (fun x => (f x, x.2)) = some (c', q) → q ≤ b.size := fun {p m f} h => by
    rcases hx : rdNum b p m with _ | ⟨n, q'⟩
    · rw [hx] at h; cases h
    · rw [hx] at h; simp only [Option.map_some, Option.some.injEq, Prod.mk.injEq] at h; have := rdNum_p hx; omega
  unfold rdLet at h
  split at h
  · exact hnum h
  split at h
  · exact hnum h
  split at h
  · split at h
    · rename_i hx; simp only [Option.some.injEq, Prod.mk.injEq] at h; have := rdText_p hx; omega
    · cases h
  split at h
  · exact hnum h
  split at h
  · rcases hx : rdNum b p 7 with _ | ⟨n, q'⟩
    · rw [hx] at h; cases h
    · rw [hx] at h
      simp only [Option.bind_some] at h
      exact hnum h
  split at h
  · split at h
    · rename_i n q' hx
      rcases hy : rdTexts b n q' [] with _ | y
      · rw [hy] at h; cases h
      · rw [hy] at h; simp only [Option.map_some, Option.some.injEq, Prod.mk.injEq] at h
        have := rdTexts_p _ _ _ (rdMost_p hx).2 hy; omega
    · cases h
  · rcases hx : rdNum b p 7 with _ | ⟨n, q'⟩
    · rw [hx] at h; cases h
    · rw [hx] at h
      simp only [Option.bind_some] at h
      split at h
      · rename_i hy; simp only [Option.some.injEq, Prod.mk.injEq] at h; have := rdBits_p hy; omega
      · cases h
theorem rdLets_p {b : ByteArray} : ∀ (ls : List UInt8) {c c' : CV} {p q : Nat}, p ≤ b.size → rdLets b ls c p = some (c', q) → q ≤ b.size
  | [], c, c', p, q, hp, h => by simp only [rdLets, Option.some.injEq, Prod.mk.injEq] at h; omega
  | l :: ls, c, c', p, q, hp, h => by
    rw [rdLets] at h
    rcases hx : rdLet b c p l with _ | ⟨d, q'⟩
    · rw [hx] at h; cases h
    · rw [hx] at h; exact rdLets_p ls (rdLet_p hp hx) h
theorem rdChange_p {b : ByteArray} {p q : Nat} {c : CV} (h : rdChange b p = some (c, q)) : q ≤ b.size ∧ c.check = 0 := by
  unfold rdChange at h
  rcases hx : rdNum b p 6 with _ | ⟨n, q'⟩
  · rw [hx] at h; cases h
  · rw [hx] at h
    simp only [Option.bind_some] at h
    rcases hy : rdLets b (hasS n).data.toList { CV.zero with kind := n } q' with _ | ⟨d, q2⟩
    · rw [hy] at h; cases h
    · rw [hy] at h
      simp only [Option.bind_some] at h
      split at h
      · simp only [Option.some.injEq, Prod.mk.injEq] at h
        have := rdLets_p _ (rdNum_p hx).2 hy
        obtain ⟨rfl, rfl⟩ := h
        exact ⟨this, by assumption⟩
      · cases h

/-- A row of changes of the call's own, cut to its length. -/
def Cr1 (a : Option Addr) (l : List (CV × TS)) : Thing1 := fun w F => F = (a.map (·.block)).toList ∧ WRow w 27 10 a l.length (cL.at_ l) ∧ l.length ≤ maxLen
def CrT (a : Option Addr) (l : List (CV × TS)) : Thing := own (Cr1 a l)
instance (a : Option Addr) (l : List (CV × TS)) : Loc1 (Cr1 a l) where
  keep := fun ⟨h1, h2, h3⟩ hF hd => ⟨h1, h2.keep hF (fun g hg => hd g (by rw [h1, hg]; simp)), h3⟩
  lt := fun ⟨h1, h2, h3⟩ x hx => by
    rw [h1] at hx
    rcases h2 with ⟨h, _⟩ | ⟨g, cur, h, hh, _⟩
    · rw [h] at hx; simp at hx
    · rw [h] at hx; simp at hx; subst hx; exact lt_of_block hh
/-- The texts of a row of changes. -/
def txs (l : List (CV × TS)) : List Thing := l.map fun x => TxT x.2 x.1.texts

theorem info_ch : (Try.prog.info? 27).map (fun i => (i.zero, i.size, i.bytes)) = some (some (.agg #[.int .i64 0, .int .i64 0, .int .i64 0, .int .i64 0, .int .i64 0, .int .i64 0, .int .i64 0, .int .u64 0, .string ⟨#[]⟩, .slice none 0 0]), 10, 104) := by kernel_rfl

section
variable {W : Base} {w : World} {R : List Thing}

/-- What Decode comes to. -/
def DecTo (W : Base) (R : List Thing) (Z : Option (List CV)) (e : Ending) (w' : World) : Prop :=
  match Z with
  | none => e = .returned (.tuple #[.slice none 0 0, .int .i64 83]) ∧ St W w' R
  | some l => ∃ (a : Option Addr) (l' : List (CV × TS)), l'.map (·.1) = l ∧ e = .returned (.tuple #[.slice a l.length l.length, .int .i64 0]) ∧ St W w' (R ++ (CrT a l' :: txs l'))

theorem dead_end {T : List Thing} {lb eb il ie : Nat} {x y : Value} (H : St W w (R ++ T)) (hl : T[il]? = some (BlkT lb (.cells #[x] 28))) (he : T[ie]? = some (BlkT eb (.cells #[y] 30))) (hne : il ≠ ie) :
    St W ((w.setCell ⟨lb, 0, none⟩ (.slice none 0 0)).setCell ⟨eb, 0, none⟩ (.int .i64 83)) R ∧ ((w.setCell ⟨lb, 0, none⟩ (.slice none 0 0)).setCell ⟨eb, 0, none⟩ (.int .i64 83)).cell? ⟨lb, 0, none⟩ = some (.slice none 0 0) ∧
      ((w.setCell ⟨lb, 0, none⟩ (.slice none 0 0)).setCell ⟨eb, 0, none⟩ (.int .i64 83)).cell? ⟨eb, 0, none⟩ = some (.int .i64 83) ∧ w.heap[lb]? = some (.cells #[x] 28) ∧ w.heap[eb]? = some (.cells #[y] 30) := by
  have b1 := H.blk (R.length + il) (by rw [get_behind]; exact hl)
  have b2 := H.blk (R.length + ie) (by rw [get_behind]; exact he)
  have h1 := H.setBlk (R.length + il) (by rw [get_behind]; exact hl) 0 (.slice none 0 0)
  rw [List.set_append_right _ _ (by omega), Nat.add_sub_cancel_left] at h1
  have h2 := h1.setBlk (R.length + ie) (by rw [get_behind, List.getElem?_set_ne hne]; exact he) 0 (.int .i64 83)
  have hn : lb ≠ eb := ne_of_elem b1 b2 (by decide)
  exact ⟨h2.dropSet, cell_blk (blk_setCell_ne _ (blk_setCell_at (i := 0) _ b1) hn) rfl, cell_blk (blk_setCell_at (i := 0) _ (blk_setCell_ne _ b2 hn.symm)) rfl, b1, b2⟩

/-- Decode's things. -/
def deT (r lb eb tb : Nat) (s : RS) (vl vr : Value) (k : Nat) (l : List (CV × TS)) : List Thing :=
  BlkT lb (.cells #[vl] 28) :: BlkT eb (.cells #[.int .i64 0] 30) :: RdT r s :: BlkT tb (.cells #[.pointer (some ⟨r, 0, none⟩)] 55) :: RowT 27 10 vr k (cL.cells l) :: txs l

variable {r lb eb tb : Nat} {s s' : RS} {vl vr : Value} {k : Nat} {l : List (CV × TS)}
theorem deT_set (T : List Thing) : (R ++ (deT r lb eb tb s vl vr k l ++ T)).set (R.length + 2) (RdT r s') = R ++ (deT r lb eb tb s' vl vr k l ++ T) := by
  rw [List.set_append_right _ _ (by omega), Nat.add_sub_cancel_left]; rfl
theorem deT_set0 : (R ++ deT r lb eb tb s vl vr k l).set (R.length + 2) (RdT r s') = R ++ deT r lb eb tb s' vl vr k l := by
  rw [List.set_append_right _ _ (by omega), Nat.add_sub_cancel_left]; rfl
theorem deT_len : R.length + 2 < (R ++ deT r lb eb tb s vl vr k l).length := by simp [deT]

theorem St.de (H : St W w (R ++ deT r lb eb tb s vl vr k l)) : w.heap[lb]? = some (.cells #[vl] 28) ∧ w.heap[eb]? = some (.cells #[.int .i64 0] 30) ∧ w.heap[tb]? = some (.cells #[.pointer (some ⟨r, 0, none⟩)] 55) :=
  ⟨H.blk (R.length + 0) (by rw [get_behind]; rfl), H.blk (R.length + 1) (by rw [get_behind]; rfl), H.blk (R.length + 3) (by rw [get_behind]; rfl)⟩
theorem St.de' {T : List Thing} (H : St W w (R ++ (deT r lb eb tb s vl vr k l ++ T))) : w.heap[lb]? = some (.cells #[vl] 28) ∧ w.heap[eb]? = some (.cells #[.int .i64 0] 30) ∧ w.heap[tb]? = some (.cells #[.pointer (some ⟨r, 0, none⟩)] 55) := by
  rw [← List.append_assoc] at H
  exact H.drop.de

variable {b : ByteArray} {p : Nat}
theorem de_num_ok (H : St W w (R ++ deT r lb eb tb ⟨b, p, 0⟩ vl vr k l)) (hw : RS.wf ⟨b, p, 0⟩) {m : Int} {n q : Nat} (hm0 : 0 ≤ m) (hm : m < 9223372036854775808) (hX : rdMost b p m 21 = .ok (n, q)) :
    Calls Try.prog 35 #[rdr r, .int .i64 m] w fun e w' => e = .returned (.int .i64 n) ∧ St W w' (R ++ deT r lb eb tb ⟨b, q, 0⟩ vl vr k l) := by
  have h := stc_num_ok (T := []) (R := R ++ deT r lb eb tb ⟨b, p, 0⟩ vl vr k l) (i := R.length + 2) (by rw [deT_set0, List.append_nil]; exact H) deT_len hw hm0 hm hX
  rw [deT_set0, List.append_nil] at h
  exact h
theorem de_num_no (H : St W w (R ++ deT r lb eb tb ⟨b, p, 0⟩ vl vr k l)) (hw : RS.wf ⟨b, p, 0⟩) {m c : Int} (hm0 : 0 ≤ m) (hm : m < 9223372036854775808) (hX : rdMost b p m 21 = .error c) :
    Calls Try.prog 35 #[rdr r, .int .i64 m] w fun e w' => e = .panicked wg ∧ ∃ s', St W w' (R ++ deT r lb eb tb s' vl vr k l) := by
  have h := stc_num_no (T := []) (R := R ++ deT r lb eb tb ⟨b, p, 0⟩ vl vr k l) (i := R.length + 2) (by rw [deT_set0, List.append_nil]; exact H) deT_len hw hm0 hm hX
  refine h.mono ?_
  rintro e w' ⟨h1, s', h2⟩
  rw [deT_set0] at h2
  exact ⟨h1, s', h2⟩
theorem de_change_ok (H : St W w (R ++ deT r lb eb tb ⟨b, p, 0⟩ vl vr k l)) (hw : RS.wf ⟨b, p, 0⟩) {c : CV} {q : Nat} (hX : rdChange b p = some (c, q)) :
    Calls Try.prog 36 #[rdr r] w fun e w' => ∃ t : TS, e = .returned (.agg #[.int .i64 c.kind, .int .i64 c.n, .int .i64 c.job, .int .i64 c.badge, .int .i64 c.slot, .int .i64 c.life, .int .i64 c.code, .int .u64 c.bits, .string c.prog, .slice t.a c.texts.length t.c]) ∧ St W w' (R ++ (deT r lb eb tb ⟨b, q, 0⟩ vl vr k l ++ [TxT t c.texts])) := by
  have h := change_walk (R := R ++ deT r lb eb tb ⟨b, p, 0⟩ vl vr k l) (i := R.length + 2) (by rw [deT_set0]; exact H) deT_len hw
  rw [hX] at h
  refine h.mono ?_
  rintro e w' ⟨t, h1, h2⟩
  rw [deT_set0, List.append_assoc] at h2
  exact ⟨t, h1, h2⟩
theorem de_change_no (H : St W w (R ++ deT r lb eb tb ⟨b, p, 0⟩ vl vr k l)) (hw : RS.wf ⟨b, p, 0⟩) (hX : rdChange b p = none) :
    Calls Try.prog 36 #[rdr r] w fun e w' => e = .panicked wg ∧ ∃ s', St W w' (R ++ deT r lb eb tb s' vl vr k l) := by
  have h := change_walk (R := R ++ deT r lb eb tb ⟨b, p, 0⟩ vl vr k l) (i := R.length + 2) (by rw [deT_set0]; exact H) deT_len hw
  rw [hX] at h
  refine h.mono ?_
  rintro e w' ⟨h1, s', h2⟩
  rw [deT_set0] at h2
  exact ⟨h1, s', h2⟩

theorem St.deApp {c : CV} {t : TS} (H : St W w (R ++ (deT r lb eb tb s vl vr k l ++ [TxT t c.texts]))) : w.ownsRow 0 27 10 vr k (cL.cells l) ∧ ∀ (v' : Value) (w' : World), w'.ownsRow 0 27 10 v' (k + 1) (cL.cells (l ++ [(c, t)])) → Fr vr.ownBlock.toList w w' →
    (∀ x, x ∈ v'.ownBlock.toList → x ∈ vr.ownBlock.toList ∨ w.heap.size ≤ x) → St W w' (R ++ deT r lb eb tb s vl v' (k + 1) (l ++ [(c, t)])) := by
  obtain ⟨h1, h2⟩ := H.append (R.length + 4) (by rw [get_behind]; rfl)
  refine ⟨h1, fun v' w' ho hF hb => ?_⟩
  have h3 := h2 v' w' _ _ ho hF hb
  rw [List.set_append_right _ _ (by omega), Nat.add_sub_cancel_left] at h3
  have e : deT r lb eb tb s vl v' (k + 1) (l ++ [(c, t)]) = (deT r lb eb tb s vl vr k l ++ [TxT t c.texts]).set 4 (RowT 27 10 v' (k + 1) (cL.cells (l ++ [(c, t)]))) := by
    simp [deT, txs]
  rw [e]
  exact h3

theorem St.deSet (H : St W w (R ++ deT r lb eb tb s vl vr k l)) (u : Value) : St W (w.setCell ⟨lb, 0, none⟩ u) (R ++ deT r lb eb tb s u vr k l) := by
  have h1 := H.setBlk (R.length + 0) (by rw [get_behind]; rfl) 0 u
  rw [List.set_append_right _ _ (by omega), Nat.add_sub_cancel_left] at h1
  exact h1

theorem St.dropMid {A B : List Thing} (H : St W w (R ++ (A ++ B))) : St W w (R ++ B) := by
  refine H.pick (List.range R.length ++ (List.range B.length).map (fun j => R.length + (A.length + j))) ?_ (by simp) (fun k i hk => ?_)
  · rw [List.nodup_append]
    refine ⟨List.nodup_range, ?_, fun a ha b hb => ?_⟩
    · exact List.pairwise_map.2 (List.nodup_range.imp (fun h e => h (by omega)))
    · simp only [List.mem_map, List.mem_range] at ha hb
      obtain ⟨j, hj, rfl⟩ := hb
      omega
  · by_cases hkl : k < R.length
    · rw [List.getElem?_append_left (by simpa using hkl), List.getElem?_range hkl] at hk
      cases hk
      rw [List.getElem?_append_left hkl, List.getElem?_append_left hkl]
    · rw [List.getElem?_append_right (by simpa using hkl)] at hk
      simp only [List.length_range, List.getElem?_map] at hk
      obtain ⟨m, hm⟩ : ∃ m, k - R.length = m := ⟨_, rfl⟩
      have hk' : k = R.length + m := by omega
      subst hk'
      rw [Nat.add_sub_cancel_left] at hk
      by_cases hmB : m < B.length
      · rw [List.getElem?_range hmB] at hk
        simp at hk
        subst hk
        rw [get_behind, get_behind, get_behind]
      · rw [List.getElem?_eq_none (by simpa using hmB)] at hk
        simp at hk

theorem St.deEnd {a : Option Addr} {n cap : Nat} (H : St W w (R ++ deT r lb eb tb s vl (.slice a n cap) n l)) (hx : l.length = n) (hn : n ≤ maxLen) : St W w (R ++ (CrT a l :: txs l)) := by
  obtain ⟨F, ⟨hF0, hA⟩, hF, h⟩ := H.at (R.length + 4) (by rw [get_behind]; rfl)
  have hW := ownsRow_W hA (cL.at_ l) (fun j hj => cL.get l j (by rw [hx]; exact hj))
  have h1 := h w (a.map (·.block)).toList (Cr1 a l) inferInstance ⟨rfl, by rw [hx]; exact hW, by omega⟩ (Fr.refl _ _) (fun x hx => .inl (by rw [hF0]; rcases hW with ⟨rfl, _⟩ | ⟨g, cur, rfl, _⟩ <;> exact hx))
  rw [List.set_append_right _ _ (by omega), Nat.add_sub_cancel_left] at h1
  exact St.dropMid (A := [BlkT lb (.cells #[vl] 28), BlkT eb (.cells #[.int .i64 0] 30), RdT r s, BlkT tb (.cells #[.pointer (some ⟨r, 0, none⟩)] 55)]) h1

end
end Go.Proofs.Ytdobbmlaokolmaa
