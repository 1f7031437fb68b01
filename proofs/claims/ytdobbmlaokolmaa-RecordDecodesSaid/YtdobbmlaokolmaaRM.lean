/-
  record: what stands there is read; there and back.
-/
import Derived.Test.YtdobbmlaokolmaaRL
namespace Go.Proofs.Ytdobbmlaokolmaa
set_option linter.unusedVariables false
set_option linter.unusedSimpArgs false

section
variable {b : ByteArray} {c : CV} {p q : Nat}
theorem let_n {n : Nat} (h : Rds b p (bl (nf n)) q) (hn : n ≤ 1099511627776) : rdLet b c p 110 = some ({ c with n := n }, q) := by
  simp only [rdLet, if_true, rdNum_iff.2 ⟨h, (by omega : (n : Int) ≤ 1099511627776), (by omega : n < 18446744073709551616)⟩, Option.map_some]
theorem let_job {n : Nat} (h : Rds b p (bl (nf n)) q) (hn : n ≤ 8) : rdLet b c p 106 = some ({ c with job := n }, q) := by
  unfold rdLet
  rw [if_neg (by decide), if_pos rfl, rdNum_iff.2 ⟨h, (by omega : (n : Int) ≤ 8), (by omega : n < 18446744073709551616)⟩]; rfl
theorem let_prog {t : ByteArray} (hb : b.size < 18446744073709551616) (h : Rds b p (bl (tf t)) q) (hn : t.size ≤ 1024) : rdLet b c p 112 = some ({ c with prog := t }, q) := by
  unfold rdLet
  rw [if_neg (by decide), if_neg (by decide), if_pos rfl, (rdText_iff (by decide) hb).2 ⟨h, by omega⟩]
theorem let_badge {n : Nat} (h : Rds b p (bl (nf n)) q) (hn : n ≤ 1099511627776) : rdLet b c p 98 = some ({ c with badge := n }, q) := by
  unfold rdLet
  rw [if_neg (by decide), if_neg (by decide), if_neg (by decide), if_pos rfl, rdNum_iff.2 ⟨h, (by omega : (n : Int) ≤ 1099511627776), (by omega : n < 18446744073709551616)⟩]; rfl
theorem let_slot {n m : Nat} (h : Rds b p (bl (nf n ++ nf m)) q) (hn : n ≤ 7) (hm : m ≤ 1099511627776) : rdLet b c p 115 = some ({ c with slot := n, life := m }, q) := by
  rw [bl_app, Rds.append] at h
  obtain ⟨k, h1, h2⟩ := h
  unfold rdLet
  rw [if_neg (by decide), if_neg (by decide), if_neg (by decide), if_neg (by decide), if_pos rfl, rdNum_iff.2 ⟨h1, (by omega : (n : Int) ≤ 7), (by omega : n < 18446744073709551616)⟩]
  simp only [Option.bind_some, rdNum_iff.2 ⟨h2, (by omega : (m : Int) ≤ 1099511627776), (by omega : m < 18446744073709551616)⟩, Option.map_some]
theorem let_texts {l : List ByteArray} (hb : b.size < 18446744073709551616) (h : Rds b p (bl (nf l.length) ++ l.flatMap fun s => bl (tf s)) q) (hn : l.length ≤ 8) (hl : ∀ s, s ∈ l → s.size ≤ 32) : rdLet b c p 116 = some ({ c with texts := l }, q) := by
  rw [Rds.append] at h
  obtain ⟨k, h1, h2⟩ := h
  unfold rdLet
  rw [if_neg (by decide), if_neg (by decide), if_neg (by decide), if_neg (by decide), if_neg (by decide), if_pos rfl, rdMost_iff.2 ⟨h1, (by omega : (l.length : Int) ≤ 8), (by omega : l.length < 18446744073709551616)⟩]
  simp only [(rdTexts_iff hb l.length k [] l q h1.le).2 ⟨l, rfl, rfl, hl, h2⟩, Option.map_some]
theorem let_res {n m : Nat} (h : Rds b p (bl (nf n ++ bf m)) q) (hn : n ≤ 7) (hm : m < 18446744073709551616) : rdLet b c p 114 = some ({ c with code := n, bits := m }, q) := by
  rw [bl_app, Rds.append] at h
  obtain ⟨k, h1, h2⟩ := h
  unfold rdLet
  rw [if_neg (by decide), if_neg (by decide), if_neg (by decide), if_neg (by decide), if_neg (by decide), if_neg (by decide), rdNum_iff.2 ⟨h1, (by omega : (n : Int) ≤ 7), (by omega : n < 18446744073709551616)⟩]
  simp only [Option.bind_some, rdBits_iff.2 ⟨h2, hm⟩]

theorem rdChange_of {k k1 q : Nat} {d : CV} (h0 : Rds b p (bl (nf k)) k1) (hk : k ≤ 6) (h : rdLets b (hasS k).data.toList { CV.zero with kind := k } k1 = some (d, q)) (hc : d.check = 0) : rdChange b p = some (d, q) := by
  unfold rdChange
  rw [rdNum_iff.2 ⟨h0, (by omega : (k : Int) ≤ 6), (by omega : k < 18446744073709551616)⟩]
  simp only [Option.bind_some, h, if_pos hc]

theorem rdChange_whole (hb : b.size < 18446744073709551616) (hok : c.Ok) (h : Rds b p c.put q) : rdChange b p = some (c, q) := by
  obtain ⟨hck, hb0, hb1⟩ := hok
  have hc := check_iff.1 hck
  obtain ⟨kind, n, job, badge, slot, life, code, bits, prog, texts⟩ := c
  simp only at hc hb0 hb1
  unfold CV.put at h
  rw [Rds.append] at h
  obtain ⟨k1, h0, h⟩ := h
  simp only at h0 h
  have hk : kind = 1 ∨ kind = 2 ∨ kind = 3 ∨ kind = 4 ∨ kind = 5 ∨ kind = 6 := by omega
  rcases hk with rfl | rfl | rfl | rfl | rfl | rfl
  · simp only [show hasL 1 110 = true from by decide, show hasL 1 106 = false from by decide, show hasL 1 112 = false from by decide, show hasL 1 98 = false from by decide, show hasL 1 115 = false from by decide, show hasL 1 116 = false from by decide, show hasL 1 114 = false from by decide, if_true, Bool.false_eq_true, if_false] at hc
    obtain ⟨_, gn, gj, gp, gb, gs, gt, gr⟩ := hc
    rw [show (hasS 1).data.toList = [110] from by decide] at h
    simp only [List.flatMap_cons, List.flatMap_nil, List.append_nil] at h
    obtain ⟨n, rfl⟩ := Int.eq_ofNat_of_zero_le (show 0 ≤ n by omega)
    subst gj
    obtain rfl := size0_eq gp
    subst gb
    obtain ⟨rfl, rfl⟩ := gs
    obtain rfl := List.eq_nil_of_length_eq_zero gt
    obtain ⟨rfl, rfl⟩ := gr
    refine rdChange_of (k := 1) h0 (by decide) ?_ hck
    rw [show (hasS ((1 : Nat) : Int)).data.toList = [110] from by decide]
    exact rdLets_cons.2 ⟨_, _, let_n (n := n) h (by omega), rdLets_nil.2 ⟨rfl, rfl⟩⟩
  · simp only [show hasL 2 110 = false from by decide, show hasL 2 106 = true from by decide, show hasL 2 112 = true from by decide, show hasL 2 98 = false from by decide, show hasL 2 115 = false from by decide, show hasL 2 116 = false from by decide, show hasL 2 114 = false from by decide, if_true, Bool.false_eq_true, if_false] at hc
    obtain ⟨_, gn, gj, gp, gb, gs, gt, gr⟩ := hc
    rw [show (hasS 2).data.toList = [106, 112] from by decide] at h
    simp only [List.flatMap_cons, List.flatMap_nil, List.append_nil] at h
    subst gn
    obtain ⟨job, rfl⟩ := Int.eq_ofNat_of_zero_le (show 0 ≤ job by omega)
    subst gb
    obtain ⟨rfl, rfl⟩ := gs
    obtain rfl := List.eq_nil_of_length_eq_zero gt
    obtain ⟨rfl, rfl⟩ := gr
    refine rdChange_of (k := 2) h0 (by decide) ?_ hck
    rw [show (hasS ((2 : Nat) : Int)).data.toList = [106, 112] from by decide]
    rw [Rds.append] at h
    obtain ⟨m0, g0, h⟩ := h
    exact rdLets_cons.2 ⟨_, _, let_job (n := job) g0 (by omega), rdLets_cons.2 ⟨_, _, let_prog (t := prog) hb h gp.2, rdLets_nil.2 ⟨rfl, rfl⟩⟩⟩
  · simp only [show hasL 3 110 = false from by decide, show hasL 3 106 = true from by decide, show hasL 3 112 = false from by decide, show hasL 3 98 = true from by decide, show hasL 3 115 = true from by decide, show hasL 3 116 = false from by decide, show hasL 3 114 = false from by decide, if_true, Bool.false_eq_true, if_false] at hc
    obtain ⟨_, gn, gj, gp, gb, gs, gt, gr⟩ := hc
    rw [show (hasS 3).data.toList = [106, 98, 115] from by decide] at h
    simp only [List.flatMap_cons, List.flatMap_nil, List.append_nil] at h
    subst gn
    obtain ⟨job, rfl⟩ := Int.eq_ofNat_of_zero_le (show 0 ≤ job by omega)
    obtain rfl := size0_eq gp
    obtain ⟨badge, rfl⟩ := Int.eq_ofNat_of_zero_le (show 0 ≤ badge by omega)
    obtain ⟨slot, rfl⟩ := Int.eq_ofNat_of_zero_le gs.1.1
    obtain ⟨life, rfl⟩ := Int.eq_ofNat_of_zero_le (show 0 ≤ life by omega)
    obtain rfl := List.eq_nil_of_length_eq_zero gt
    obtain ⟨rfl, rfl⟩ := gr
    refine rdChange_of (k := 3) h0 (by decide) ?_ hck
    rw [show (hasS ((3 : Nat) : Int)).data.toList = [106, 98, 115] from by decide]
    rw [Rds.append] at h
    obtain ⟨m0, g0, h⟩ := h
    rw [Rds.append] at h
    obtain ⟨m1, g1, h⟩ := h
    exact rdLets_cons.2 ⟨_, _, let_job (n := job) g0 (by omega), rdLets_cons.2 ⟨_, _, let_badge (n := badge) g1 (by omega), rdLets_cons.2 ⟨_, _, let_slot (n := slot) (m := life) h (by omega) (by omega), rdLets_nil.2 ⟨rfl, rfl⟩⟩⟩⟩
  · simp only [show hasL 4 110 = false from by decide, show hasL 4 106 = false from by decide, show hasL 4 112 = false from by decide, show hasL 4 98 = true from by decide, show hasL 4 115 = false from by decide, show hasL 4 116 = true from by decide, show hasL 4 114 = false from by decide, if_true, Bool.false_eq_true, if_false] at hc
    obtain ⟨_, gn, gj, gp, gb, gs, gt, gr⟩ := hc
    rw [show (hasS 4).data.toList = [98, 116] from by decide] at h
    simp only [List.flatMap_cons, List.flatMap_nil, List.append_nil] at h
    subst gn
    subst gj
    obtain rfl := size0_eq gp
    obtain ⟨badge, rfl⟩ := Int.eq_ofNat_of_zero_le (show 0 ≤ badge by omega)
    obtain ⟨rfl, rfl⟩ := gs
    obtain ⟨rfl, rfl⟩ := gr
    refine rdChange_of (k := 4) h0 (by decide) ?_ hck
    rw [show (hasS ((4 : Nat) : Int)).data.toList = [98, 116] from by decide]
    rw [Rds.append] at h
    obtain ⟨m0, g0, h⟩ := h
    exact rdLets_cons.2 ⟨_, _, let_badge (n := badge) g0 (by omega), rdLets_cons.2 ⟨_, _, let_texts (l := texts) hb h gt.1.2 gt.2, rdLets_nil.2 ⟨rfl, rfl⟩⟩⟩
  · simp only [show hasL 5 110 = false from by decide, show hasL 5 106 = false from by decide, show hasL 5 112 = false from by decide, show hasL 5 98 = true from by decide, show hasL 5 115 = false from by decide, show hasL 5 116 = false from by decide, show hasL 5 114 = false from by decide, if_true, Bool.false_eq_true, if_false] at hc
    obtain ⟨_, gn, gj, gp, gb, gs, gt, gr⟩ := hc
    rw [show (hasS 5).data.toList = [98] from by decide] at h
    simp only [List.flatMap_cons, List.flatMap_nil, List.append_nil] at h
    subst gn
    subst gj
    obtain rfl := size0_eq gp
    obtain ⟨badge, rfl⟩ := Int.eq_ofNat_of_zero_le (show 0 ≤ badge by omega)
    obtain ⟨rfl, rfl⟩ := gs
    obtain rfl := List.eq_nil_of_length_eq_zero gt
    obtain ⟨rfl, rfl⟩ := gr
    refine rdChange_of (k := 5) h0 (by decide) ?_ hck
    rw [show (hasS ((5 : Nat) : Int)).data.toList = [98] from by decide]
    exact rdLets_cons.2 ⟨_, _, let_badge (n := badge) h (by omega), rdLets_nil.2 ⟨rfl, rfl⟩⟩
  · simp only [show hasL 6 110 = false from by decide, show hasL 6 106 = false from by decide, show hasL 6 112 = false from by decide, show hasL 6 98 = true from by decide, show hasL 6 115 = false from by decide, show hasL 6 116 = false from by decide, show hasL 6 114 = true from by decide, if_true, Bool.false_eq_true, if_false] at hc
    obtain ⟨_, gn, gj, gp, gb, gs, gt, gr⟩ := hc
    rw [show (hasS 6).data.toList = [98, 114] from by decide] at h
    simp only [List.flatMap_cons, List.flatMap_nil, List.append_nil] at h
    subst gn
    subst gj
    obtain rfl := size0_eq gp
    obtain ⟨badge, rfl⟩ := Int.eq_ofNat_of_zero_le (show 0 ≤ badge by omega)
    obtain ⟨rfl, rfl⟩ := gs
    obtain rfl := List.eq_nil_of_length_eq_zero gt
    obtain ⟨code, rfl⟩ := Int.eq_ofNat_of_zero_le gr.1.1
    obtain ⟨bits, rfl⟩ := Int.eq_ofNat_of_zero_le hb0
    refine rdChange_of (k := 6) h0 (by decide) ?_ hck
    rw [show (hasS ((6 : Nat) : Int)).data.toList = [98, 114] from by decide]
    rw [Rds.append] at h
    obtain ⟨m0, g0, h⟩ := h
    exact rdLets_cons.2 ⟨_, _, let_badge (n := badge) g0 (by omega), rdLets_cons.2 ⟨_, _, let_res (n := code) (m := bits) h (by omega) (by omega), rdLets_nil.2 ⟨rfl, rfl⟩⟩⟩
end

theorem rdChange_iff {b : ByteArray} (hb : b.size < 18446744073709551616) {c : CV} {p q : Nat} : rdChange b p = some (c, q) ↔ c.Ok ∧ Rds b p c.put q := ⟨rdChange_sound hb, fun h => rdChange_whole hb h.1 h.2⟩

theorem rdAll_iff {b : ByteArray} (hb : b.size < 18446744073709551616) : ∀ (n p : Nat) (acc l : List CV) (q : Nat), p ≤ b.size →
    (rdAll b n p acc = some (l, q) ↔ ∃ l', l = acc ++ l' ∧ l'.length = n ∧ (∀ c, c ∈ l' → c.Ok) ∧ Rds b p (l'.flatMap CV.put) q)
  | 0, p, acc, l, q, hp => by
    simp only [rdAll, Option.some.injEq, Prod.mk.injEq]
    constructor
    · rintro ⟨rfl, rfl⟩; exact ⟨[], by simp, rfl, by simp, Rds.nil.2 ⟨rfl, hp⟩⟩
    · rintro ⟨l', rfl, h, _, h2⟩
      obtain rfl := List.eq_nil_of_length_eq_zero h
      exact ⟨by simp, (Rds.nil.1 h2).1.symm⟩
  | n + 1, p, acc, l, q, hp => by
    rw [rdAll]
    constructor
    · intro h
      rcases hx : rdChange b p with _ | ⟨c, k⟩
      · rw [hx] at h; cases h
      · rw [hx] at h
        simp only [Option.bind_some] at h
        obtain ⟨h1, h2⟩ := (rdChange_iff hb).1 hx
        obtain ⟨l', rfl, h3, h4, h5⟩ := (rdAll_iff hb n k _ l q h2.le).1 h
        refine ⟨c :: l', by simp, by simp [h3], fun s hs => ?_, by rw [List.flatMap_cons, Rds.append]; exact ⟨k, h2, h5⟩⟩
        rcases List.mem_cons.1 hs with rfl | hs
        · exact h1
        · exact h4 s hs
    · rintro ⟨l', rfl, h1, h2, h3⟩
      rcases l' with _ | ⟨c, l'⟩
      · cases h1
      · rw [List.flatMap_cons, Rds.append] at h3
        obtain ⟨k, h3, h4⟩ := h3
        rw [(rdChange_iff hb).2 ⟨h2 c (List.mem_cons_self ..), h3⟩]
        simp only [Option.bind_some]
        exact (rdAll_iff hb n k _ _ q h3.le).2 ⟨l', by simp, by simpa using h1, fun s hs => h2 s (List.mem_cons_of_mem _ hs), h4⟩

/-- A row's bytes. -/
def rowB (l : List CV) : List UInt8 := bl (nf l.length) ++ l.flatMap CV.put

/-- Decode, of bytes that begin with a row's: the row, if nothing is behind. -/
theorem decode_of {b : ByteArray} {l : List CV} {z : List UInt8} (hb : b.size ≤ 2048) (hl : l.length ≤ 16) (hok : ∀ c, c ∈ l → c.Ok) (h : bl b = rowB l ++ z) : decode b = if z ≠ [] ∨ l.length = 0 then none else some l := by
  have hr : Rds b 0 (rowB l) (rowB l).length := ⟨by rw [List.drop_zero, h, List.drop_left], by omega, by rw [← bl_len b, h, List.length_append]; omega⟩
  unfold rowB at hr
  rw [Rds.append] at hr
  obtain ⟨k, h1, h2⟩ := hr
  unfold decode
  rw [if_neg (by omega), rdNum_iff.2 ⟨h1, (by omega : (l.length : Int) ≤ 16), (by omega : l.length < 18446744073709551616)⟩]
  simp only [Option.bind_some]
  rw [(rdAll_iff (by omega) l.length k [] l _ h1.le).2 ⟨l, rfl, rfl, hok, h2⟩]
  simp only [Option.bind_some]
  have e : (rowB l).length < b.size ↔ z ≠ [] := by
    rw [← bl_len b, h, List.length_append]
    constructor
    · intro h3 h4; subst h4; simp at h3
    · intro h3; have := List.length_pos_iff.2 h3; omega
  have e2 : (bl (nf l.length) ++ List.flatMap CV.put l).length = (rowB l).length := rfl
  rw [e2]
  by_cases hz : z ≠ [] ∨ l.length = 0
  · rw [if_pos hz, if_pos (by rw [e]; exact hz)]
  · rw [if_neg hz, if_neg (by rw [e]; exact hz)]

theorem decode_sound {b : ByteArray} {l : List CV} (h : decode b = some l) : b.size ≤ 2048 ∧ 1 ≤ l.length ∧ l.length ≤ 16 ∧ (∀ c, c ∈ l → c.Ok) ∧ bl b = rowB l := by
  unfold decode at h
  by_cases hb : 2048 < b.size
  · rw [if_pos hb] at h; cases h
  rw [if_neg hb] at h
  rcases hx : rdNum b 0 16 with _ | ⟨n, k⟩
  · rw [hx] at h; cases h
  rw [hx] at h
  simp only [Option.bind_some] at h
  obtain ⟨h1, h2, _⟩ := rdNum_iff.1 hx
  rcases hy : rdAll b n k [] with _ | ⟨m, q⟩
  · rw [hy] at h; cases h
  rw [hy] at h
  simp only [Option.bind_some] at h
  split at h
  · cases h
  · rename_i h3
    simp only [Option.some.injEq] at h
    subst h
    obtain ⟨l', h4, h5, h6, h7⟩ := (rdAll_iff (by omega) n k [] m q h1.le).1 hy
    simp only [List.nil_append] at h4
    subst h4
    have hq : q = b.size := by have := h7.le; omega
    refine ⟨by omega, by omega, by omega, h6, ?_⟩
    have h8 : Rds b 0 (rowB m) q := by unfold rowB; rw [Rds.append, h5]; exact ⟨k, h1, h7⟩
    have := h8.eq
    rw [List.drop_zero, hq, List.drop_of_length_le (by rw [bl_len]; omega), List.append_nil] at this
    exact this

theorem encGo_ok {l : List CV} : ∀ (s s' : List UInt8), encGo l s = .ok s' ↔ (∀ c, c ∈ l → c.check = 0) ∧ s' = s ++ l.flatMap CV.put := by
  induction l with
  | nil => intro s s'; simp [encGo]; exact eq_comm
  | cons c l ih =>
    intro s s'
    rw [encGo]
    by_cases h : c.check = 0
    · rw [if_pos h, ih]
      simp [h]
    · rw [if_neg h]
      simp [h]
theorem encode_iff {l : List CV} {b : ByteArray} : encode l = (b, 0) ↔ (1 ≤ l.length ∧ l.length ≤ 16) ∧ (∀ c, c ∈ l → c.check = 0) ∧ bl b = rowB l ∧ b.size ≤ 2048 := by
  unfold encode
  by_cases hn : inB l.length 1 16 = true
  · rw [if_pos hn]
    have hn' := inB_iff.1 hn
    rcases he : encGo l (nf l.length).data.toList with e | s
    · have hbad : ¬ ∀ c, c ∈ l → c.check = 0 := fun h => by
        rw [(encGo_ok _ _).2 ⟨h, rfl⟩] at he; cases he
      have hne : e ≠ 0 := by
        have : ∀ (l : List CV) (s : List UInt8), encGo l s = .error e → e ≠ 0 := by
          intro l
          induction l with
          | nil => intro s h; simp [encGo] at h
          | cons c l ih =>
            intro s h
            rw [encGo] at h
            split at h
            · exact ih _ h
            · rename_i hc; simp only [Except.error.injEq] at h; omega
        exact this l _ he
      simp only [Prod.mk.injEq]
      exact ⟨fun h => absurd h.2 hne, fun h => absurd h.2.1 hbad⟩
    · obtain ⟨h1, rfl⟩ := (encGo_ok _ _).1 he
      have e1 : (nf l.length).data.toList ++ l.flatMap CV.put = rowB l := rfl
      simp only [e1]
      by_cases hbig : 2048 < (rowB l).length
      · rw [if_pos hbig]
        constructor
        · intro h; simp only [Prod.mk.injEq] at h; exact absurd h.2 (by decide)
        · rintro ⟨_, _, h2, h3⟩
          rw [← h2, bl_len] at hbig; omega
      · rw [if_neg hbig]
        simp only [Prod.mk.injEq, and_true]
        constructor
        · rintro rfl
          exact ⟨by omega, h1, bl_mk _, by rw [← bl_len, bl_mk]; omega⟩
        · rintro ⟨_, _, h2, _⟩
          apply bl_inj
          rw [bl_mk, h2]
  · rw [if_neg hn]
    constructor
    · intro h; simp only [Prod.mk.injEq] at h; exact absurd h.2 (by decide)
    · intro h; exact absurd (inB_iff.2 (by omega)) hn
/-- There and back. -/
theorem decode_iff {b : ByteArray} {l : List CV} : decode b = some l ↔ encode l = (b, 0) ∧ ∀ c, c ∈ l → 0 ≤ c.bits ∧ c.bits < 18446744073709551616 := by
  constructor
  · intro h
    obtain ⟨h1, h2, h3, h4, h5⟩ := decode_sound h
    exact ⟨encode_iff.2 ⟨⟨h2, h3⟩, fun c hc => (h4 c hc).1, h5, h1⟩, fun c hc => (h4 c hc).2⟩
  · rintro ⟨h, hb⟩
    obtain ⟨⟨h1, h2⟩, h3, h4, h5⟩ := encode_iff.1 h
    have := decode_of (z := []) h5 h2 (fun c hc => ⟨h3 c hc, hb c hc⟩) (by rw [List.append_nil]; exact h4)
    rw [this, if_neg (by rintro (h | h); exact h rfl; omega)]
end Go.Proofs.Ytdobbmlaokolmaa
