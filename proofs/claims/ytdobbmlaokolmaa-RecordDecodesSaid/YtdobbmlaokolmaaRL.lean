/-
  record: what is read is what stands there; there and back. Of no program's text.
-/
import Derived.Test.YtdobbmlaokolmaaPkL
import Derived.Test.YtdobbmlaokolmaaRecordTells
namespace Go.Proofs.Ytdobbmlaokolmaa
set_option linter.unusedVariables false
set_option linter.unusedSimpArgs false

def CV.Ok (c : CV) : Prop := c.check = 0 ∧ 0 ≤ c.bits ∧ c.bits < 18446744073709551616

theorem rgt_iff {h z m : Bool} : rgt h z m = true ↔ if h = true then m = true else z = true := by unfold rgt; cases h <;> simp
theorem textsB_iff {l : List ByteArray} : textsB l = true ↔ (1 ≤ l.length ∧ l.length ≤ 8) ∧ ∀ s, s ∈ l → s.size ≤ 32 := by
  simp only [textsB, Bool.and_eq_true, inB_iff, Bool.not_eq_true', List.any_eq_false, decide_eq_true_eq, Nat.not_lt]
  constructor
  · rintro ⟨h1, h2⟩; exact ⟨by omega, h2⟩
  · rintro ⟨h1, h2⟩; exact ⟨by omega, h2⟩
theorem size0 {s : ByteArray} : s.toList.isEmpty = true ↔ s.size = 0 := by
  rw [ByteArray.toList_eq, List.isEmpty_iff, ← List.length_eq_zero_iff, sizeL]
theorem size0_eq {s : ByteArray} (h : s.size = 0) : s = ⟨#[]⟩ := bl_inj (by rw [List.eq_nil_of_length_eq_zero (show (bl s).length = 0 from h)]; rfl)

theorem check_iff {c : CV} : c.check = 0 ↔ (1 ≤ c.kind ∧ c.kind ≤ 6) ∧ (if hasL c.kind 110 = true then 1 ≤ c.n ∧ c.n ≤ 1099511627776 else c.n = 0) ∧ (if hasL c.kind 106 = true then 1 ≤ c.job ∧ c.job ≤ 8 else c.job = 0) ∧
    (if hasL c.kind 112 = true then 1 ≤ c.prog.size ∧ c.prog.size ≤ 1024 else c.prog.size = 0) ∧ (if hasL c.kind 98 = true then 1 ≤ c.badge ∧ c.badge ≤ 1099511627776 else c.badge = 0) ∧
    (if hasL c.kind 115 = true then (0 ≤ c.slot ∧ c.slot ≤ 7) ∧ 1 ≤ c.life ∧ c.life ≤ 1099511627776 else c.slot = 0 ∧ c.life = 0) ∧
    (if hasL c.kind 116 = true then (1 ≤ c.texts.length ∧ c.texts.length ≤ 8) ∧ ∀ s, s ∈ c.texts → s.size ≤ 32 else c.texts.length = 0) ∧
    (if hasL c.kind 114 = true then (0 ≤ c.code ∧ c.code ≤ 7) ∧ (c.code = 0 ∨ c.bits = 0) else c.code = 0 ∧ c.bits = 0) := by
  have hN : ∀ z : Nat, (1 ≤ (z : Int) ∧ (z : Int) ≤ 1024) ↔ (1 ≤ z ∧ z ≤ 1024) := fun z => by omega
  unfold CV.check
  by_cases h1 : inB c.kind 1 6 = true
  · rw [if_pos h1]
    have h1' := inB_iff.1 h1
    by_cases h2 : (c.r1 && c.r2 && c.r3 && c.r4 && c.r5 && c.r6 && c.r7) = true
    · rw [if_pos h2]
      simp only [Bool.and_eq_true, CV.r1, CV.r2, CV.r3, CV.r4, CV.r5, CV.r6, CV.r7, CV.noRes, rgt_iff, inB_iff, beq_iff_eq, size0, textsB_iff, Bool.or_eq_true, hN, Int.natCast_eq_zero] at h2
      simp only [true_iff]
      obtain ⟨⟨⟨⟨⟨⟨r1, r2⟩, r3⟩, r4⟩, r5⟩, r6⟩, r7⟩ := h2
      exact ⟨h1', r1, r2, r3, r4, r5, r6, r7⟩
    · rw [if_neg h2]
      refine ⟨fun h => absurd h (by decide), fun ⟨_, r1, r2, r3, r4, r5, r6, r7⟩ => absurd ?_ h2⟩
      simp only [Bool.and_eq_true, CV.r1, CV.r2, CV.r3, CV.r4, CV.r5, CV.r6, CV.r7, CV.noRes, rgt_iff, inB_iff, beq_iff_eq, size0, textsB_iff, Bool.or_eq_true, hN, Int.natCast_eq_zero]
      exact ⟨⟨⟨⟨⟨⟨r1, r2⟩, r3⟩, r4⟩, r5⟩, r6⟩, r7⟩
  · rw [if_neg h1]
    exact ⟨fun h => absurd h (by decide), fun h => absurd (inB_iff.2 h.1) h1⟩

theorem rdTexts_iff {b : ByteArray} (hb : b.size < 18446744073709551616) : ∀ (n p : Nat) (acc l : List ByteArray) (q : Nat), p ≤ b.size →
    (rdTexts b n p acc = some (l, q) ↔ ∃ l', l = acc ++ l' ∧ l'.length = n ∧ (∀ s, s ∈ l' → s.size ≤ 32) ∧ Rds b p (l'.flatMap fun s => bl (tf s)) q)
  | 0, p, acc, l, q, hp => by
    simp only [rdTexts, Option.some.injEq, Prod.mk.injEq]
    constructor
    · rintro ⟨rfl, rfl⟩; exact ⟨[], by simp, rfl, by simp, Rds.nil.2 ⟨rfl, hp⟩⟩
    · rintro ⟨l', rfl, h, _, h2⟩
      obtain rfl := List.eq_nil_of_length_eq_zero h
      exact ⟨by simp, (Rds.nil.1 h2).1.symm⟩
  | n + 1, p, acc, l, q, hp => by
    rw [rdTexts]
    constructor
    · intro h
      split at h
      · rename_i t k hx
        obtain ⟨h1, h2⟩ := (rdText_iff (by decide) hb).1 hx
        obtain ⟨l', rfl, h3, h4, h5⟩ := (rdTexts_iff hb n k _ l q h1.le).1 h
        refine ⟨t :: l', by simp, by simp [h3], fun s hs => ?_, by rw [List.flatMap_cons, Rds.append]; exact ⟨k, h1, h5⟩⟩
        rcases List.mem_cons.1 hs with rfl | hs
        · omega
        · exact h4 s hs
      · cases h
    · rintro ⟨l', rfl, h1, h2, h3⟩
      rcases l' with _ | ⟨t, l'⟩
      · cases h1
      · rw [List.flatMap_cons, Rds.append] at h3
        obtain ⟨k, h3, h4⟩ := h3
        have ht := h2 t (List.mem_cons_self ..)
        rw [(rdText_iff (by decide) hb).2 ⟨h3, by omega⟩]
        simp only
        exact (rdTexts_iff hb n k _ _ q h3.le).2 ⟨l', by simp, by simpa using h1, fun s hs => h2 s (List.mem_cons_of_mem _ hs), h4⟩

/-- What one letter reads. -/
theorem rdLet_sound {b : ByteArray} (hb : b.size < 18446744073709551616) {c c' : CV} {p q : Nat} {l : UInt8} (h : rdLet b c p l = some (c', q)) :
    Rds b p (c'.putL l) q ∧ (l = 110 → ∃ n : Nat, c' = { c with n := n }) ∧ (l = 106 → ∃ n : Nat, c' = { c with job := n }) ∧ (l = 112 → ∃ t, c' = { c with prog := t }) ∧ (l = 98 → ∃ n : Nat, c' = { c with badge := n }) ∧
      (l = 115 → ∃ n m : Nat, c' = { c with slot := n, life := m }) ∧ (l = 116 → ∃ t, c' = { c with texts := t }) ∧ (l = 114 → ∃ n m : Nat, m < 18446744073709551616 ∧ c' = { c with code := n, bits := m }) := by
  have hnum : ∀ {p m} {f : Nat × Nat → CV} {q}, (rdNum b p m).map (fun x => (f x, x.2)) = some (c', q) → ∃ n, c' = f (n, q) ∧ Rds b p (bl (nf n)) q := fun {p m f q} h => by
    rcases hx : rdNum b p m with _ | ⟨n, q'⟩
    · rw [hx] at h; cases h
    · rw [hx] at h; simp only [Option.map_some, Option.some.injEq, Prod.mk.injEq] at h
      obtain ⟨rfl, rfl⟩ := h
      exact ⟨n, rfl, (rdNum_iff.1 hx).1⟩
  unfold rdLet at h
  by_cases h1 : l = 110
  · subst h1; rw [if_pos rfl] at h
    obtain ⟨n, rfl, hr⟩ := hnum h
    exact ⟨hr, fun _ => ⟨n, rfl⟩, by simp, by simp, by simp, by simp, by simp, by simp⟩
  rw [if_neg h1] at h
  by_cases h2 : l = 106
  · subst h2; rw [if_pos rfl] at h
    obtain ⟨n, rfl, hr⟩ := hnum h
    exact ⟨hr, by simp, fun _ => ⟨n, rfl⟩, by simp, by simp, by simp, by simp, by simp⟩
  rw [if_neg h2] at h
  by_cases h3 : l = 112
  · subst h3; rw [if_pos rfl] at h
    split at h
    · rename_i t k hx
      simp only [Option.some.injEq, Prod.mk.injEq] at h
      obtain ⟨rfl, rfl⟩ := h
      exact ⟨((rdText_iff (by decide) hb).1 hx).1, by simp, by simp, fun _ => ⟨t, rfl⟩, by simp, by simp, by simp, by simp⟩
    · cases h
  rw [if_neg h3] at h
  by_cases h4 : l = 98
  · subst h4; rw [if_pos rfl] at h
    obtain ⟨n, rfl, hr⟩ := hnum h
    exact ⟨hr, by simp, by simp, by simp, fun _ => ⟨n, rfl⟩, by simp, by simp, by simp⟩
  rw [if_neg h4] at h
  by_cases h5 : l = 115
  · subst h5; rw [if_pos rfl] at h
    rcases hx : rdNum b p 7 with _ | ⟨n, k⟩
    · rw [hx] at h; cases h
    · rw [hx] at h
      simp only [Option.bind_some] at h
      obtain ⟨m, rfl, hr⟩ := hnum h
      refine ⟨?_, by simp, by simp, by simp, by simp, fun _ => ⟨n, m, rfl⟩, by simp, by simp⟩
      show Rds b p (bl (nf n ++ nf m)) q
      rw [bl_app, Rds.append]
      exact ⟨k, (rdNum_iff.1 hx).1, hr⟩
  rw [if_neg h5] at h
  by_cases h6 : l = 116
  · subst h6; rw [if_pos rfl] at h
    split at h
    · rename_i n k hx
      rcases hy : rdTexts b n k [] with _ | ⟨ts, q'⟩
      · rw [hy] at h; cases h
      · rw [hy] at h; simp only [Option.map_some, Option.some.injEq, Prod.mk.injEq] at h
        obtain ⟨rfl, rfl⟩ := h
        have h7 := rdMost_iff.1 hx
        obtain ⟨l', h8, h9, _, h10⟩ := (rdTexts_iff hb n k [] ts q' h7.1.le).1 hy
        simp only [List.nil_append] at h8
        subst h8
        refine ⟨?_, by simp, by simp, by simp, by simp, by simp, fun _ => ⟨ts, rfl⟩, by simp⟩
        show Rds b p (bl (nf ts.length) ++ ts.flatMap fun s => bl (tf s)) q'
        rw [Rds.append, h9]
        exact ⟨k, h7.1, h10⟩
    · cases h
  rw [if_neg h6] at h
  rcases hx : rdNum b p 7 with _ | ⟨n, k⟩
  · rw [hx] at h; cases h
  · rw [hx] at h
    simp only [Option.bind_some] at h
    split at h
    · rename_i m q' hy
      simp only [Option.some.injEq, Prod.mk.injEq] at h
      obtain ⟨rfl, rfl⟩ := h
      have h7 := rdBits_iff.1 hy
      refine ⟨?_, fun h => absurd h h1, fun h => absurd h h2, fun h => absurd h h3, fun h => absurd h h4, fun h => absurd h h5, fun h => absurd h h6, fun _ => ⟨n, m, h7.2, rfl⟩⟩
      unfold CV.putL
      rw [if_neg h1, if_neg h2, if_neg h3, if_neg h4, if_neg h5, if_neg h6]
      show Rds b p (bl (nf n ++ bf m)) q'
      rw [bl_app, Rds.append]
      exact ⟨k, (rdNum_iff.1 hx).1, h7.1⟩
    · cases h

theorem rdLets_nil {b : ByteArray} {c d : CV} {p q : Nat} : rdLets b [] c p = some (d, q) ↔ c = d ∧ p = q := by simp [rdLets]
theorem rdLets_cons {b : ByteArray} {c d : CV} {p q : Nat} {l : UInt8} {ls : List UInt8} : rdLets b (l :: ls) c p = some (d, q) ↔ ∃ c1 p1, rdLet b c p l = some (c1, p1) ∧ rdLets b ls c1 p1 = some (d, q) := by
  rw [rdLets]
  constructor
  · intro h
    rcases h1 : rdLet b c p l with _ | ⟨c1, p1⟩
    · rw [h1] at h; cases h
    · rw [h1] at h; exact ⟨c1, p1, rfl, h⟩
  · rintro ⟨c1, p1, h1, h2⟩
    rw [h1]; exact h2

theorem rdChange_sound {b : ByteArray} (hb : b.size < 18446744073709551616) {p q : Nat} {c : CV} (h : rdChange b p = some (c, q)) : c.Ok ∧ Rds b p c.put q := by
  have hck := (rdChange_p h).2
  unfold rdChange at h
  rcases hx : rdNum b p 6 with _ | ⟨k, k1⟩
  · rw [hx] at h; cases h
  rw [hx] at h
  simp only [Option.bind_some] at h
  obtain ⟨hr1, hk6, _⟩ := rdNum_iff.1 hx
  rcases hy : rdLets b (hasS k).data.toList { CV.zero with kind := k } k1 with _ | ⟨d, q2⟩
  · rw [hy] at h; cases h
  rw [hy] at h
  simp only [Option.bind_some] at h
  split at h
  case isFalse => cases h
  simp only [Option.some.injEq, Prod.mk.injEq] at h
  obtain ⟨rfl, rfl⟩ := h
  have key : d.kind = k ∧ (0 ≤ d.bits ∧ d.bits < 18446744073709551616) ∧ Rds b k1 ((hasS k).data.toList.flatMap d.putL) q2 := by
    have hk : k = 0 ∨ k = 1 ∨ k = 2 ∨ k = 3 ∨ k = 4 ∨ k = 5 ∨ k = 6 := by omega
    rcases hk with rfl | rfl | rfl | rfl | rfl | rfl | rfl
    · have e : (hasS ((0 : Nat) : Int)).data.toList = [] := by decide
      rw [e] at hy ⊢
      obtain ⟨rfl, rfl⟩ := rdLets_nil.1 hy
      exact ⟨rfl, by decide, Rds.nil.2 ⟨rfl, hr1.le⟩⟩
    · have e : (hasS ((1 : Nat) : Int)).data.toList = [110] := by decide
      rw [e] at hy ⊢
      obtain ⟨c1, p1, h1, hy⟩ := rdLets_cons.1 hy
      have s1 := rdLet_sound hb h1
      obtain ⟨n, rfl⟩ := s1.2.1 rfl
      obtain ⟨rfl, rfl⟩ := rdLets_nil.1 hy
      refine ⟨rfl, by show (0 : Int) ≤ 0 ∧ (0 : Int) < 18446744073709551616; decide, ?_⟩
      simp only [List.flatMap_cons, List.flatMap_nil, List.append_nil]
      exact s1.1
    · have e : (hasS ((2 : Nat) : Int)).data.toList = [106, 112] := by decide
      rw [e] at hy ⊢
      obtain ⟨c1, p1, h1, hy⟩ := rdLets_cons.1 hy
      have s1 := rdLet_sound hb h1
      obtain ⟨n, rfl⟩ := s1.2.2.1 rfl
      obtain ⟨c2, p2, h2, hy⟩ := rdLets_cons.1 hy
      have s2 := rdLet_sound hb h2
      obtain ⟨t, rfl⟩ := s2.2.2.2.1 rfl
      obtain ⟨rfl, rfl⟩ := rdLets_nil.1 hy
      refine ⟨rfl, by show (0 : Int) ≤ 0 ∧ (0 : Int) < 18446744073709551616; decide, ?_⟩
      simp only [List.flatMap_cons, List.flatMap_nil, List.append_nil]
      rw [Rds.append]
      exact ⟨_, s1.1, s2.1⟩
    · have e : (hasS ((3 : Nat) : Int)).data.toList = [106, 98, 115] := by decide
      rw [e] at hy ⊢
      obtain ⟨c1, p1, h1, hy⟩ := rdLets_cons.1 hy
      have s1 := rdLet_sound hb h1
      obtain ⟨n, rfl⟩ := s1.2.2.1 rfl
      obtain ⟨c2, p2, h2, hy⟩ := rdLets_cons.1 hy
      have s2 := rdLet_sound hb h2
      obtain ⟨m, rfl⟩ := s2.2.2.2.2.1 rfl
      obtain ⟨c3, p3, h3, hy⟩ := rdLets_cons.1 hy
      have s3 := rdLet_sound hb h3
      obtain ⟨u, v, rfl⟩ := s3.2.2.2.2.2.1 rfl
      obtain ⟨rfl, rfl⟩ := rdLets_nil.1 hy
      refine ⟨rfl, by show (0 : Int) ≤ 0 ∧ (0 : Int) < 18446744073709551616; decide, ?_⟩
      simp only [List.flatMap_cons, List.flatMap_nil, List.append_nil]
      rw [Rds.append]
      refine ⟨_, s1.1, ?_⟩
      rw [Rds.append]
      exact ⟨_, s2.1, s3.1⟩
    · have e : (hasS ((4 : Nat) : Int)).data.toList = [98, 116] := by decide
      rw [e] at hy ⊢
      obtain ⟨c1, p1, h1, hy⟩ := rdLets_cons.1 hy
      have s1 := rdLet_sound hb h1
      obtain ⟨n, rfl⟩ := s1.2.2.2.2.1 rfl
      obtain ⟨c2, p2, h2, hy⟩ := rdLets_cons.1 hy
      have s2 := rdLet_sound hb h2
      obtain ⟨t, rfl⟩ := s2.2.2.2.2.2.2.1 rfl
      obtain ⟨rfl, rfl⟩ := rdLets_nil.1 hy
      refine ⟨rfl, by show (0 : Int) ≤ 0 ∧ (0 : Int) < 18446744073709551616; decide, ?_⟩
      simp only [List.flatMap_cons, List.flatMap_nil, List.append_nil]
      rw [Rds.append]
      exact ⟨_, s1.1, s2.1⟩
    · have e : (hasS ((5 : Nat) : Int)).data.toList = [98] := by decide
      rw [e] at hy ⊢
      obtain ⟨c1, p1, h1, hy⟩ := rdLets_cons.1 hy
      have s1 := rdLet_sound hb h1
      obtain ⟨n, rfl⟩ := s1.2.2.2.2.1 rfl
      obtain ⟨rfl, rfl⟩ := rdLets_nil.1 hy
      refine ⟨rfl, by show (0 : Int) ≤ 0 ∧ (0 : Int) < 18446744073709551616; decide, ?_⟩
      simp only [List.flatMap_cons, List.flatMap_nil, List.append_nil]
      exact s1.1
    · have e : (hasS ((6 : Nat) : Int)).data.toList = [98, 114] := by decide
      rw [e] at hy ⊢
      obtain ⟨c1, p1, h1, hy⟩ := rdLets_cons.1 hy
      have s1 := rdLet_sound hb h1
      obtain ⟨n, rfl⟩ := s1.2.2.2.2.1 rfl
      obtain ⟨c2, p2, h2, hy⟩ := rdLets_cons.1 hy
      have s2 := rdLet_sound hb h2
      obtain ⟨u, v, hv, rfl⟩ := s2.2.2.2.2.2.2.2 rfl
      obtain ⟨rfl, rfl⟩ := rdLets_nil.1 hy
      refine ⟨rfl, ⟨by show (0 : Int) ≤ (v : Int); omega, by show (v : Int) < _; omega⟩, ?_⟩
      simp only [List.flatMap_cons, List.flatMap_nil, List.append_nil]
      rw [Rds.append]
      exact ⟨_, s1.1, s2.1⟩
  refine ⟨⟨hck, key.2.1⟩, ?_⟩
  unfold CV.put
  rw [Rds.append, key.1]
  exact ⟨k1, by simpa [bl] using hr1, key.2.2⟩

end Go.Proofs.Ytdobbmlaokolmaa
