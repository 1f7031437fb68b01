/-
  record: the reader: a change's texts as they grow.
-/
import Derived.Test.YtdobbmlaokolmaaR7
import Derived.Deep.RegionLaw
namespace Go.Proofs.Ytdobbmlaokolmaa
open Go.RowKit
set_option linter.unusedVariables false
set_option linter.unusedSimpArgs false

section
variable {W : Base} {w : World} {R : List Thing}
variable {r rb zb cb ib : Nat} {c : CV} {t : TS} {vc vr : Value} {j k : Nat} {xs : List ByteArray} {s : ByteArray}

def chV (c : CV) (v : Value) : Array Value := #[.int .i64 c.kind, .int .i64 c.n, .int .i64 c.job, .int .i64 c.badge, .int .i64 c.slot, .int .i64 c.life, .int .i64 c.code, .int .u64 c.bits, .string c.prog, v]
/-- change's things while its texts grow. -/
def txL (r rb zb cb ib : Nat) (c : CV) (vc vr : Value) (j : Nat) (xs : List ByteArray) (s : ByteArray) (k : Nat) : List Thing :=
  [BlkT rb (.cells #[.pointer (some ⟨r, 0, none⟩)] 55), BlkT zb (.cells (CV.zero.f ⟨none, 0⟩).toArray 27), BlkT cb (.cells (chV c vc) 27), RowT 9 1 vr j (sL.cells xs), BlkT ib (.stringIter s k)]

theorem St.txStart (H : St W w (R ++ chT r rb zb cb ib c t s k)) (hc : c.texts = []) (ht : t = ⟨none, 0⟩) : St W w (R ++ txL r rb zb cb ib c (.slice none 0 0) (.slice none 0 0) 0 [] s k) := by
  subst ht
  obtain ⟨F, hA, hF, h⟩ := H.at (R.length + 3) (by rw [get_behind]; rfl)
  have h1 := h w [] (Row1 9 1 (.slice none 0 0) 0 (sL.cells [])) inferInstance ⟨rfl, World.ownsRow_nil _ _ _ _⟩ (Fr.refl _ _) (by simp)
  rw [List.set_append_right _ _ (by omega), Nat.add_sub_cancel_left] at h1
  have e : (c.f ⟨none, 0⟩).toArray = chV c (.slice none 0 0) := by simp [CV.f, chV, hc]
  simp only [chT, e] at h1
  exact h1

theorem St.txBlk (H : St W w (R ++ txL r rb zb cb ib c vc vr j xs s k)) : w.heap[rb]? = some (.cells #[.pointer (some ⟨r, 0, none⟩)] 55) ∧ w.heap[cb]? = some (.cells (chV c vc) 27) ∧ w.heap[ib]? = some (.stringIter s k) :=
  ⟨H.blk (R.length + 0) (by rw [get_behind]; rfl), H.blk (R.length + 2) (by rw [get_behind]; rfl), H.blk (R.length + 4) (by rw [get_behind]; rfl)⟩

theorem St.txApp (H : St W w (R ++ txL r rb zb cb ib c vc vr j xs s k)) : w.ownsRow 0 9 1 vr j (sL.cells xs) ∧ ∀ (v' : Value) (w' : World) (j' : Nat) (xs' : List ByteArray), w'.ownsRow 0 9 1 v' j' (sL.cells xs') → Fr vr.ownBlock.toList w w' → (∀ x, x ∈ v'.ownBlock.toList → x ∈ vr.ownBlock.toList ∨ w.heap.size ≤ x) →
    St W w' (R ++ txL r rb zb cb ib c vc v' j' xs' s k) := by
  obtain ⟨h1, h2⟩ := H.append (R.length + 3) (by rw [get_behind]; rfl)
  refine ⟨h1, fun v' w' j' xs' ho hF hb => ?_⟩
  have h3 := h2 v' w' j' _ ho hF hb
  rw [List.set_append_right _ _ (by omega), Nat.add_sub_cancel_left] at h3
  exact h3

theorem St.txSet (H : St W w (R ++ txL r rb zb cb ib c vc vr j xs s k)) (u : Value) : St W (w.setCell ⟨cb, 9, none⟩ u) (R ++ txL r rb zb cb ib c u vr j xs s k) := by
  have h1 := H.setBlk (R.length + 2) (by rw [get_behind]; rfl) 9 u
  rw [List.set_append_right _ _ (by omega), Nat.add_sub_cancel_left] at h1
  exact h1

theorem St.txEnd {a : Option Addr} {n cap : Nat} (H : St W w (R ++ txL r rb zb cb ib c (.slice a n n) (.slice a n cap) n xs s k)) (hx : xs.length = n) (hn : n ≤ maxLen) : St W w (R ++ chT r rb zb cb ib { c with texts := xs } ⟨a, n⟩ s k) := by
  obtain ⟨F, ⟨hF0, hA⟩, hF, h⟩ := H.at (R.length + 3) (by rw [get_behind]; rfl)
  have hW := ownsRow_W hA (sL.at_ xs) (fun j hj => sL.get xs j (by rw [hx]; exact hj))
  have h1 := h w (a.map (·.block)).toList (Tx1 ⟨a, n⟩ xs) inferInstance ⟨rfl, by rw [hx]; exact hW, hx.symm, by omega⟩ (Fr.refl _ _) (fun x hx => .inl (by rw [hF0]; rcases hW with ⟨rfl, _⟩ | ⟨g, cur, rfl, _⟩ <;> exact hx))
  rw [List.set_append_right _ _ (by omega), Nat.add_sub_cancel_left] at h1
  have e : chV c (.slice a n n) = (CV.f { c with texts := xs } ⟨a, n⟩).toArray := by simp [CV.f, chV, hx]
  simp only [txL, e] at h1
  exact h1

theorem St.store10 (H : St W w (R ++ chT r rb zb cb ib c t s k)) (v0 v1 v2 v3 v4 v5 v6 v7 v8 v9 : Value) :
    St W ((((((((((w.setCell ⟨zb, 0, none⟩ v0).setCell ⟨zb, 1, none⟩ v1).setCell ⟨zb, 2, none⟩ v2).setCell ⟨zb, 3, none⟩ v3).setCell ⟨zb, 4, none⟩ v4).setCell ⟨zb, 5, none⟩ v5).setCell ⟨zb, 6, none⟩ v6).setCell ⟨zb, 7, none⟩ v7).setCell ⟨zb, 8, none⟩ v8).setCell ⟨zb, 9, none⟩ v9) ((R ++ chT r rb zb cb ib c t s k).set (R.length + 1) (BlkT zb (.cells #[v0, v1, v2, v3, v4, v5, v6, v7, v8, v9] 27))) := by
  obtain ⟨F, ⟨rfl, hA⟩, hF, h⟩ := H.at (A := Blk1 zb _) (R.length + 1) (by rw [get_behind]; rfl)
  have hb := (blk_setCell_at (i := 9) v9 (blk_setCell_at (i := 8) v8 (blk_setCell_at (i := 7) v7 (blk_setCell_at (i := 6) v6 (blk_setCell_at (i := 5) v5 (blk_setCell_at (i := 4) v4 (blk_setCell_at (i := 3) v3 (blk_setCell_at (i := 2) v2 (blk_setCell_at (i := 1) v1 (blk_setCell_at (i := 0) v0 H.ch.2.1))))))))))
  simp only [CV.f, CV.zero, List.setIfInBounds_toArray, List.set_cons_zero, List.set_cons_succ] at hb
  exact h _ [zb] (Blk1 zb _) inferInstance ⟨rfl, hb⟩ (((((((((((Fr.refl [zb] w).setCell (.inl (by simp)) _).setCell (.inl (by simp)) _).setCell (.inl (by simp)) _).setCell (.inl (by simp)) _).setCell (.inl (by simp)) _).setCell (.inl (by simp)) _).setCell (.inl (by simp)) _).setCell (.inl (by simp)) _).setCell (.inl (by simp)) _).setCell (.inl (by simp)) _) (fun x hx => .inl hx)

theorem St.keepOne {T : List Thing} {A : Thing} (H : St W w (R ++ T)) (j : Nat) (hj : T[j]? = some A) : St W w (R ++ [A]) := by
  refine H.pick (List.range R.length ++ [R.length + j]) ?_ (by simp) (fun k i hk => ?_)
  · rw [List.nodup_append]
    refine ⟨List.nodup_range, by simp, fun a ha b hb => ?_⟩
    simp at ha hb; omega
  · by_cases hkl : k < R.length
    · rw [List.getElem?_append_left (by simpa using hkl), List.getElem?_range hkl] at hk
      cases hk
      rw [List.getElem?_append_left hkl, List.getElem?_append_left hkl]
    · rw [List.getElem?_append_right (by simpa using hkl)] at hk
      obtain ⟨m, hm⟩ : ∃ m, k - (List.range R.length).length = m := ⟨_, rfl⟩
      rw [hm] at hk
      rcases m with _ | m
      · simp at hk; subst hk
        have : k = R.length := by simp at hm; omega
        subst this
        rw [List.getElem?_append_right (Nat.le_refl _), Nat.sub_self, get_behind, hj]; rfl
      · simp at hk

theorem hasS_116 {k : Int} {m : Nat} (h : (hasS k).data.toList[m]? = some 116) (j : Nat) (hj : j < m) : (hasS k).data.toList[j]? ≠ some 116 := by
  unfold hasS at *
  repeat' split at *
  all_goals (rcases m with _ | _ | _ | m <;> rcases j with _ | _ | _ | j <;> simp_all)

theorem rdText_p {b : ByteArray} {p q : Nat} {m : Int} {x : ByteArray} (h : rdText b p m = .ok (x, q)) : q ≤ b.size := by
  unfold rdText at h
  split at h
  · cases h
  · split at h
    · simp only [Except.ok.injEq, Prod.mk.injEq] at h; omega
    · cases h
theorem rdText_err {b : ByteArray} {p : Nat} {m c : Int} (h : rdText b p m = .error c) : ¬ c = 0 := by
  unfold rdText at h
  split at h
  · rename_i c' hc
    have := rdMost_err hc
    simp only [Except.error.injEq] at h; omega
  · split at h
    · cases h
    · simp only [Except.error.injEq] at h; omega
theorem rdBits_p {b : ByteArray} {p q n : Nat} (h : rdBits b p = .ok (n, q)) : q ≤ b.size := by
  unfold rdBits at h
  split at h
  · simp only [Except.ok.injEq, Prod.mk.injEq] at h; omega
  · cases h
theorem rdBits_err {b : ByteArray} {p : Nat} {c : Int} (h : rdBits b p = .error c) : ¬ c = 0 := by
  unfold rdBits at h
  split at h
  · cases h
  · simp only [Except.error.injEq] at h; omega

/-- The texts that are read, fault or not. -/
def TxInv (b : ByteArray) (T1 : Option (List ByteArray × Nat)) (m : Nat) (s : RS) (xs : List ByteArray) : Prop :=
  s.b = b ∧ s.wf ∧ if s.e = 0 then rdTexts b m s.at_ xs = T1 else T1 = none
theorem TxInv.step {b : ByteArray} {T1 : Option (List ByteArray × Nat)} {m : Nat} {s : RS} {xs : List ByteArray} (h : TxInv b T1 (m + 1) s xs) : TxInv b T1 m (s.face (rdText s.b s.at_ 32)) (xs ++ [s.got ⟨#[]⟩ (rdText s.b s.at_ 32)]) := by
  obtain ⟨h1, h2, h3⟩ := h
  by_cases he : s.e = 0
  · rw [if_pos he, rdTexts, ← h1] at h3
    simp only [RS.face, RS.got, if_pos he]
    rcases hX : rdText s.b s.at_ 32 with c | ⟨x, q⟩
    · rw [hX] at h3
      exact ⟨h1, ⟨h2.le, h2.mx⟩, by rw [if_neg (rdText_err hX)]; exact h3.symm⟩
    · rw [hX] at h3
      exact ⟨h1, ⟨rdText_p hX, h2.mx⟩, by rw [if_pos he, ← h1]; exact h3⟩
  · rw [if_neg he] at h3
    simp only [RS.face, RS.got, if_neg he]
    exact ⟨h1, h2, by rw [if_neg he]; exact h3⟩
end
end Go.Proofs.Ytdobbmlaokolmaa
