/-
  Merged, in build order: V8.
-/
import Derived.Test.YthghnlgojmedgaaGreatM27
/-
  A log over any disk and over cuts, as plain data: what stays true behind every call. Of no program.
-/
namespace Go.Proofs.YthghnlgojmedgaaGreat
set_option linter.unusedVariables false
set_option linter.unusedSimpArgs false

/-- A disk on which some log is found. -/
def Ops (d : DS) : Prop := ∃ a h s l, a < 2 ∧ Fd d.sec a h s l

theorem Ops.cnt {d : DS} (o : Ops d) : ∃ h s l, Cnt d.sec h s l := by
  obtain ⟨a, h, s, l, ha, f⟩ := o
  have hp := f.ok.par
  by_cases hx : ∃ g s2 l2, Fd d.sec (1 - a) g s2 l2 ∧ h.number < g.number
  · obtain ⟨g, s2, l2, f2, hlt⟩ := hx
    have hp2 := f2.ok.par
    refine ⟨g, s2, l2, ⟨by rw [hp2]; exact f2, fun h' s' l' x => ?_⟩⟩
    rw [hp2, show 1 - (1 - a) = a by omega] at x
    rw [(x.uniq f).1]; exact hlt
  · refine ⟨h, s, l, ⟨by rw [hp]; exact f, fun g s2 l2 x => ?_⟩⟩
    rw [hp] at x
    have hp2 := x.ok.par
    by_cases hlt : h.number < g.number
    · exact absurd ⟨g, s2, l2, x, hlt⟩ hx
    · omega

theorem fd_kept {ss tt : List ByteArray} {a : Nat} {h : WH} {s : ByteArray} {l : List ByteArray} (C : Fd ss a h s l) (hlen : tt.length = ss.length) (hsec : sAt tt a = sAt ss a)
    (hT : hTake tt h.half (h.snap + h.log) = hTake ss h.half (h.snap + h.log)) : Fd tt a h s l := by
  refine ⟨hsec.trans C.sec, by rw [hlen]; exact C.ok, ?_, hT.trans C.all, C.recs⟩
  rw [C.snap, ← hTake_take ss h.half (show h.snap ≤ h.snap + h.log by omega), ← hTake_take tt h.half (show h.snap ≤ h.snap + h.log by omega), hT]

theorem plan_all8 (ss : List ByteArray) (half at_ : Nat) (t : List UInt8) : plan ss half at_ t = (plan ss half at_ t).take (pN at_ t) := by
  rw [← plan_len ss half at_ t, List.take_length]

/-- A call that was cut: the log of before is found. -/
theorem call_keeps {d : DS} {h h' : WH} {s t : ByteArray} {l : List ByteArray} {at_ : Nat} (W : d.wf) (hfit0 : roomN d.sec.length ≠ 0) (C : Cnt d.sec h s l) (hon : d.dead = false) (P : Pl d.sec h'.half at_ (bl t)) (hn : h'.number = h.number + 1)
    (hold : h'.half = h.half ∧ at_ = h.snap + h.log ∨ h'.half ≠ h.half) (h0 : (runP d (callW d at_ t h')).1 ≠ 0) :
    (runP d (callW d at_ t h')).1 = 2 ∧ (runP d (callW d at_ t h')).2.dead = true ∧ Fd (runP d (callW d at_ t h')).2.sec (h.number % 2) h s l := by
  have hwd := run_wfD (callW d at_ t h') d W
  have hf := P.fit
  have hb1 := W.b1
  have hb0 := W.b0
  have hpar : h.number % 2 ≠ h'.number % 2 := by rw [hn]; omega
  rcases run_to _ d hon W.a0 (callW_ok P) with ⟨ha, hr⟩ | ⟨k, hk, ha, x, hx, hr⟩
  · exact absurd (by rw [hr]) h0
  rw [hr] at hwd ⊢
  refine ⟨rfl, rfl, ?_⟩
  have hlenW : (callW d at_ t h').length = pN at_ (bl t) + 1 := by unfold callW; rw [List.length_append, plan_len]; rfl
  by_cases hlast : k + 1 = (callW d at_ t h').length
  · have hkp : k = pN at_ (bl t) := by omega
    have htk : (callW d at_ t h').take k = plan d.sec h'.half at_ (bl t) := by
      unfold callW; rw [List.take_left' (by rw [plan_len]; exact hkp.symm)]
    have hxe : x = (h'.number % 2, secB h') := by
      have h1 : (callW d at_ t h')[k]? = some (h'.number % 2, secB h') := by
        unfold callW; rw [List.getElem?_append_right (by rw [plan_len]; omega), plan_len, hkp, Nat.sub_self]; rfl
      rw [hx] at h1; exact Option.some.inj h1
    subst hxe
    have hbs : (behindN d (callW d at_ t h') k).sec = setAll d.sec (plan d.sec h'.half at_ (bl t)) := by unfold behindN; rw [htk]
    refine fd_kept C.fd hwd.2.1 ?_ ?_
    · show sAt (List.set _ _ _) _ = _
      rw [hbs, sAt_set' _ _ _ _ (by rw [setAll_len]; show h'.number % 2 < _; omega), if_neg hpar, plan_all8, P.heads (Nat.le_refl _) (by omega)]
    · show hTake (List.set _ _ _) _ _ = _
      rw [hbs]
      refine hTake_congr fun i hi => ?_
      rw [hbyte_head (by show h'.number % 2 < 2; omega) (by rw [setAll_len]; omega), plan_all8]
      rcases hold with ⟨h1, h2⟩ | h1
      · rw [← h1]; exact P.kept (Nat.le_refl _) (by omega)
      · refine P.other (Nat.le_refl _) C.fd.ok.half1 (Ne.symm h1) ?_
        have := C.fd.ok.fit
        have h3 := roomN_ok hfit0
        omega
  · have hkp : k < pN at_ (bl t) := by omega
    have htk : (callW d at_ t h').take k = (plan d.sec h'.half at_ (bl t)).take k := by
      unfold callW; rw [List.take_append_of_le_length (by rw [plan_len]; omega)]
    have hxe : x = (2 + h'.half * (d.sec.length / 2 - 1) + at_ / 128 + k, pC d.sec h'.half at_ (bl t) k) := by
      have h1 : (callW d at_ t h')[k]? = some (2 + h'.half * (d.sec.length / 2 - 1) + at_ / 128 + k, pC d.sec h'.half at_ (bl t) k) := by
        unfold callW; rw [List.getElem?_append_left (by rw [plan_len]; exact hkp), plan_get _ _ _ _ hkp]
      rw [hx] at h1; exact Option.some.inj h1
    subst hxe
    have hbs : (behindN d (callW d at_ t h') k).sec = setAll d.sec ((plan d.sec h'.half at_ (bl t)).take k) := by unfold behindN; rw [htk]
    have hpf := P.fine hkp
    refine fd_kept C.fd hwd.2.1 ?_ ?_
    · show sAt (List.set _ _ _) _ = _
      rw [hbs, sAt_set' _ _ _ _ (by rw [setAll_len]; exact hpf), if_neg (by show ¬ h.number % 2 = _; omega), P.heads (by omega) (by omega)]
    · show hTake (List.set _ _ _) _ _ = _
      rw [hbs]
      refine hTake_congr fun i hi => ?_
      rcases hold with ⟨h1, h2⟩ | h1
      · rw [← h1]; exact P.torn hkp (by omega) (by omega)
      · have hfit2 := C.fd.ok.fit
        have h3 := roomN_ok hfit0
        have hg := C.fd.ok.half1
        have hh := P.half1
        have hpg := P.pages
        have h4 : hbyte ((setAll d.sec ((plan d.sec h'.half at_ (bl t)).take k)).set (2 + h'.half * (d.sec.length / 2 - 1) + at_ / 128 + k) (cutB (pC d.sec h'.half at_ (bl t) k) (sAt (setAll d.sec ((plan d.sec h'.half at_ (bl t)).take k)) (2 + h'.half * (d.sec.length / 2 - 1) + at_ / 128 + k)) d.bytes.toNat)) h.half i = hbyte (setAll d.sec ((plan d.sec h'.half at_ (bl t)).take k)) h.half i := by
          unfold hbyte
          rw [List.length_set, setAll_len, sAt_set' _ _ _ _ (by rw [setAll_len]; exact hpf), if_neg]
          have : h.half = 0 ∧ h'.half = 1 ∨ h.half = 1 ∧ h'.half = 0 := by omega
          rcases this with ⟨e1, e2⟩ | ⟨e1, e2⟩ <;> rw [e1, e2] <;> omega
        rw [h4]
        exact P.other (by omega) hg (Ne.symm h1) (by omega)

/-- A call that is done whole. -/
theorem call_whole {x : WS} {d : DS} {s s' t : ByteArray} {l l' : List ByteArray} {at_ : Nat} {h' : WH} (L : Log x d s l) (P : Pl d.sec h'.half at_ (bl t)) (hN : x.h.number < 1099511627776) (hn : h'.number = x.h.number + 1)
    (hs : h'.snap ≤ 17000) (hfit : h'.snap + h'.log = at_ + t.size) (e : hTake d.sec h'.half at_ ++ bl t = bl s' ++ frs l') (hs' : s'.size = h'.snap) (ok : okRecs l') (h0 : (runP d (callW d at_ t h')).1 = 0) :
    Log ⟨h', l'.length, false⟩ (runP d (callW d at_ t h')).2 s' l' := by
  have hw := run_wfD (callW d at_ t h') d L.wf
  have hr : runP d (callW d at_ t h') = (0, behindN d (callW d at_ t h') (callW d at_ t h').length) := by
    rcases run_to _ d L.on L.wf.a0 (callW_ok P) with ⟨_, h⟩ | ⟨k, h1, h2, x9, h3, h4⟩
    · exact h
    · rw [h4] at h0; cases h0
  rw [hr] at hw ⊢
  have hsec : (behindN d (callW d at_ t h') (callW d at_ t h').length).sec = (setAll d.sec (plan d.sec h'.half at_ (bl t))).set (h'.number % 2) (secB h') := by
    unfold behindN
    rw [List.take_length]
    exact callW_set
  refine ⟨hw.1, by rw [hw.2.1]; exact L.fit, ?_, rfl, rfl, L.on⟩
  show Cnt (behindN d (callW d at_ t h') (callW d at_ t h').length).sec h' s' l'
  rw [hsec]
  exact (cnt_done L.cnt P hN hn rfl hs (by rw [bl_len]; exact hfit) e hs' ok).1

/-- What stays true of a log and its disk. -/
structure PI (k : Nat) (x : WS) (d : DS) : Prop where
  lg : LgI x d
  log : x.dead = false → d.dead = false → ∃ s l, Log x d s l
  ops : Ops d
  raw : d.raw.length ≤ 600 * k + 2

theorem Log.ops {x : WS} {d : DS} {s : ByteArray} {l : List ByteArray} (L : Log x d s l) : Ops d := ⟨_, _, _, _, by omega, L.cnt.fd⟩
theorem LgI.to {x y : WS} {d e : DS} (L : LgI x d) (hw : e.wf) (hs : e.sec.length = d.sec.length) (hh : y.h = x.h) (hn : y.n = x.n) : LgI y e :=
  ⟨hw, by rw [hs]; exact L.fit, by rw [hh]; exact L.half1, by rw [hh]; exact L.snap1, by rw [hh, hs]; exact L.room, by rw [hh]; exact L.num, by rw [hn]; exact L.n1⟩
theorem PI.mono {k k' : Nat} {x : WS} {d : DS} (p : PI k x d) (h : k ≤ k') : PI k' x d := ⟨p.lg, p.log, p.ops, by have := p.raw; omega⟩
theorem PI.dies {k : Nat} {x : WS} {d : DS} (p : PI k x d) : PI (k + 1) { x with dead := true } d :=
  ⟨p.lg.to p.lg.wf rfl rfl rfl, fun h => (by cases h), p.ops, by have := p.raw; omega⟩
theorem PI.call {k : Nat} {x : WS} {d : DS} {s s' t : ByteArray} {l l' : List ByteArray} {at_ : Nat} {h' : WH} {n : Nat} (p : PI k x d) (L : Log x d s l) (P : Pl d.sec h'.half at_ (bl t)) (hN : x.h.number < 1099511627776) (hn : h'.number = x.h.number + 1)
    (hs : h'.snap ≤ 17000) (hfit : h'.snap + h'.log = at_ + t.size) (e : hTake d.sec h'.half at_ ++ bl t = bl s' ++ frs l') (hs' : s'.size = h'.snap) (ok : okRecs l') (hold : h'.half = x.h.half ∧ at_ = x.h.snap + x.h.log ∨ h'.half ≠ x.h.half) (hnl : n = l'.length) :
    ((runP d (callW d at_ t h')).1 = 0 → PI (k + 1) { x with h := h', n := n } (runP d (callW d at_ t h')).2) ∧ (¬ (runP d (callW d at_ t h')).1 = 0 → PI (k + 1) { x with dead := true } (runP d (callW d at_ t h')).2) := by
  have hwd := run_wfD (callW d at_ t h') d L.wf
  have h1 := callW_len P
  have h2 := p.raw
  have hraw : (runP d (callW d at_ t h')).2.raw.length ≤ 600 * (k + 1) + 2 := by omega
  refine ⟨fun h0 => ?_, fun h0 => ?_⟩
  · have L2 := call_whole L P hN hn hs hfit e hs' ok h0
    have e2 : ({ x with h := h', n := n } : WS) = ⟨h', l'.length, false⟩ := by cases x; have := L.alive; simp only at this; subst this; rw [hnl]
    rw [e2]
    exact ⟨L2.i, fun _ _ => ⟨_, _, L2⟩, L2.ops, hraw⟩
  · obtain ⟨h3, h4, h5⟩ := call_keeps L.wf L.fit L.cnt L.on P hn hold h0
    exact ⟨p.lg.to hwd.1 hwd.2.1 rfl rfl, fun h => (by cases h), ⟨_, _, _, _, by omega, h5⟩, hraw⟩

theorem PI.append {k : Nat} {x : WS} {d : DS} (p : PI k x d) (r : ByteArray) : PI (k + 1) (x.append d r).2.1 (x.append d r).2.2 := by
  unfold WS.append
  by_cases h1 : x.dead = true ∨ d.dead = true
  · rw [if_pos h1]; exact p.dies
  rw [if_neg h1]
  by_cases h2 : r.size = 0 ∨ 2048 < r.size
  · rw [if_pos h2]; exact p.mono (by omega)
  rw [if_neg h2]
  by_cases h3 : roomN d.sec.length < x.h.snap + x.h.log + (tf r).size
  · rw [if_pos h3]; exact p.mono (by omega)
  rw [if_neg h3]
  by_cases h4 : 1099511627776 ≤ x.h.number
  · rw [if_pos h4]; exact p.mono (by omega)
  rw [if_neg h4]
  obtain ⟨s, l, L⟩ := p.log (by cases h : x.dead <;> simp_all) (by cases h : d.dead <;> simp_all)
  have hP := log_pl L h3
  have hrec : okRec r := ⟨by omega, by omega⟩
  have hC := p.call (h' := x.nxt (tf r).size) (t := tf r) (at_ := x.h.snap + x.h.log) (s' := s) (l' := l ++ [r]) (n := x.n + 1) L hP (by omega) rfl p.lg.snap1 (by show x.h.snap + (x.h.log + (tf r).size) = _; omega)
    (by show hTake d.sec x.h.half (x.h.snap + x.h.log) ++ bl (tf r) = _
        rw [L.cnt.fd.all, frs_snoc, List.append_assoc]) L.cnt.fd.size.1 (okRecs_snoc L.cnt.fd.recs hrec) (.inl ⟨rfl, rfl⟩) (by rw [L.n]; simp)
  by_cases h0 : (runP d (callW d (x.h.snap + x.h.log) (tf r) (x.nxt (tf r).size))).1 = 0
  · rw [if_pos h0]; exact hC.1 h0
  · rw [if_neg h0]; exact hC.2 h0

theorem PI.snapshot {k : Nat} {x : WS} {d : DS} (p : PI k x d) (r : ByteArray) : PI (k + 1) (x.snapshot d r).2.1 (x.snapshot d r).2.2 := by
  unfold WS.snapshot
  by_cases h1 : x.dead = true ∨ d.dead = true
  · rw [if_pos h1]; exact p.dies
  rw [if_neg h1]
  by_cases h2 : 17000 < r.size ∨ roomN d.sec.length < r.size
  · rw [if_pos h2]; exact p.mono (by omega)
  rw [if_neg h2]
  by_cases h4 : 1099511627776 ≤ x.h.number
  · rw [if_pos h4]; exact p.mono (by omega)
  rw [if_neg h4]
  obtain ⟨s, l, L⟩ := p.log (by cases h : x.dead <;> simp_all) (by cases h : d.dead <;> simp_all)
  have hh := p.lg.half1
  have hP : Pl d.sec (x.snapH r.size).half 0 (bl r) := p.lg.pl (by show 1 - x.h.half ≤ 1; omega) (by omega)
  have hC := p.call (h' := x.snapH r.size) (t := r) (at_ := 0) (s' := r) (l' := []) (n := 0) L hP (by omega) rfl (by show r.size ≤ 17000; omega) (by show r.size + 0 = 0 + r.size; omega)
    (by rw [hTake_zero]; simp [frs]) rfl (by intro t ht; cases ht) (.inr (by show 1 - x.h.half ≠ x.h.half; omega)) rfl
  by_cases h0 : (runP d (callW d 0 r (x.snapH r.size))).1 = 0
  · rw [if_pos h0]; exact hC.1 h0
  · rw [if_neg h0]; exact hC.2 h0

theorem PI.arm {k : Nat} {x : WS} {d : DS} (p : PI k x d) {n b : Int} (hn : n ≤ 9223372036854775807) : PI (k + 1) x (d.arm n b).2 := by
  have hsec : (d.arm n b).2.sec = d.sec ∧ (d.arm n b).2.raw = d.raw ∧ (d.arm n b).2.dead = d.dead := by unfold DS.arm; by_cases q1 : d.dead = true
                                                                                                        · rw [if_pos q1]; exact ⟨rfl, rfl, rfl⟩
                                                                                                        · rw [if_neg q1]; by_cases q2 : n < 0 ∨ b < 0 ∨ 128 < b
                                                                                                          · rw [if_pos q2]; exact ⟨rfl, rfl, rfl⟩
                                                                                                          · rw [if_neg q2]; exact ⟨rfl, rfl, rfl⟩
  obtain ⟨h1, h2, h3⟩ := hsec
  have hw : (d.arm n b).2.wf := arm_wf p.lg.wf n b hn
  refine ⟨p.lg.to hw (by rw [h1]) rfl rfl, fun ha hd => ?_, ?_, by rw [h2]; have := p.raw; omega⟩
  · obtain ⟨s, l, L⟩ := p.log ha (by rw [← h3]; exact hd)
    exact ⟨s, l, ⟨hw, by rw [h1]; exact L.fit, by rw [h1]; exact L.cnt, L.n, L.alive, hd⟩⟩
  · unfold Ops; rw [h1]; exact p.ops

theorem PI.opened {k : Nat} {d : DS} {h : WH} {s : ByteArray} {l : List ByteArray} (hw : d.wf) (hf : roomN d.sec.length ≠ 0) (hd : d.dead = false) (C : Cnt d.sec h s l) (hr : d.raw.length ≤ 600 * k + 2) : PI k ⟨h, l.length, false⟩ d := by
  have L : Log ⟨h, l.length, false⟩ d s l := ⟨hw, hf, C, rfl, rfl, hd⟩
  exact ⟨L.i, fun _ _ => ⟨_, _, L⟩, L.ops, hr⟩

end Go.Proofs.YthghnlgojmedgaaGreat
