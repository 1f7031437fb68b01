/-
  RecordDecodes: the walk.
-/
import Derived.Test.YtdobbmlaokolmaaY
import Derived.Test.YtdobbmlaokolmaaRD
import Derived.Test.YtdobbmlaokolmaaRecordReturns
namespace Go.Proofs.Ytdobbmlaokolmaa
open Go.RowKit
set_option linter.unusedVariables false
set_option linter.unusedSimpArgs false

/-- A row of the call's own, what it holds. -/
def Wv1 (e : TypeId) (sz : Nat) (a : Option Addr) (n : Nat) (V : Nat → Value) : Thing1 := fun w F => F = (a.map (·.block)).toList ∧ WRow w e sz a n V
def WvT (e : TypeId) (sz : Nat) (a : Option Addr) (n : Nat) (V : Nat → Value) : Thing := own (Wv1 e sz a n V)
instance (e : TypeId) (sz : Nat) (a : Option Addr) (n : Nat) (V : Nat → Value) : Loc1 (Wv1 e sz a n V) where
  keep := fun ⟨h1, h2⟩ hF hd => ⟨h1, h2.keep hF (fun g hg => hd g (by subst hg; rw [h1]; simp))⟩
  lt := fun ⟨h1, h2⟩ x hx => by
    subst h1
    rcases h2 with ⟨rfl, _⟩ | ⟨g, cur, rfl, hh, _⟩
    · simp at hx
    · simp at hx; subst hx; exact lt_of_block hh

section
variable {W : Base} {w : World} {R : List Thing}

/-- Things of which less is said. -/
theorem St.weaken {R' : List Thing} (H : St W w R) (hl : R'.length = R.length) (h : ∀ (i : Nat) (A A' : Thing), R[i]? = some A → R'[i]? = some A' → A' = A ∨ Loc A' ∧ ∀ F G, A w F G → A' w F G) : St W w R' := by
  obtain ⟨h1, Fs, Gs, h2, h3, h4⟩ := H
  refine ⟨h1, Fs, Gs, fun i A' hA' => ?_, by rw [hl]; exact h3, by rw [hl]; exact h4⟩
  have hlt := lt_of_get hA'
  rw [hl] at hlt
  obtain ⟨g1, g2, g3⟩ := h2 i _ (List.getElem?_eq_getElem hlt)
  rcases h i _ A' (List.getElem?_eq_getElem hlt) hA' with rfl | ⟨k1, k2⟩
  · exact ⟨g1, g2, g3⟩
  · exact ⟨k2 _ _ g1, k1, g3⟩

theorem St.wv (H : St W w R) (i : Nat) {e : TypeId} {sz n : Nat} {a : Option Addr} {V : Nat → Value} (hi : R[i]? = some (WvT e sz a n V)) : WRow w e sz a n V := by
  obtain ⟨F, ⟨_, h1⟩, _⟩ := H.get i hi; exact h1
theorem St.setWv (H : St W w R) (i : Nat) {e : TypeId} {sz n g : Nat} {V : Nat → Value} (hi : R[i]? = some (WvT e sz (some ⟨g, 0, none⟩) n V)) (j : Nat) (v : Value) : St W (w.setCell ⟨g, j, none⟩ v) (R.set i (WvT e sz (some ⟨g, 0, none⟩) n (fun i => if i = j then v else V i))) := by
  obtain ⟨F, ⟨rfl, h1⟩, h2, h3⟩ := H.at i hi
  exact h3 (w.setCell ⟨g, j, none⟩ v) [g] (Wv1 e sz (some ⟨g, 0, none⟩) n _) inferInstance ⟨rfl, h1.set j v⟩ ((Fr.refl _ _).setCell (.inl (by simp)) _) (fun x hx => .inl hx)

/-- What stands behind Decode's row once it is written into. -/
def twT (x : CV × TS) : Thing := WrT 9 1 x.2.a x.1.texts.length
def dcT (a : Option Addr) (n : Nat) (V : Nat → Value) (l : List (CV × TS)) : List Thing := WvT 27 10 a n V :: l.map twT
theorem St.dcStart {a : Option Addr} {l : List (CV × TS)} {T : List Thing} (H : St W w ((CrT a l :: txs l) ++ T)) : St W w (dcT a l.length (cL.at_ l) l ++ T) ∧ ∀ x, x ∈ l → x.2.c = x.1.texts.length := by
  constructor
  · refine H.weaken (by simp [dcT, txs]) (fun i A A' hA hA' => ?_)
    rcases i with _ | i
    · simp [dcT] at hA hA'
      subst hA hA'
      exact .inr ⟨(inferInstance : Loc (own (Wv1 _ _ _ _ _))), fun F G ⟨h0, h1, h2, h3⟩ => ⟨h0, h1, h2⟩⟩
    · simp only [dcT, List.cons_append, List.getElem?_cons_succ] at hA hA'
      by_cases hi : i < l.length
      · rw [List.getElem?_append_left (by simpa [txs] using hi)] at hA
        rw [List.getElem?_append_left (by simpa using hi)] at hA'
        simp only [txs, List.getElem?_map, List.getElem?_eq_getElem hi, Option.map_some, Option.some.injEq] at hA hA'
        subst hA hA'
        exact .inr ⟨(inferInstance : Loc (own (Wr1 _ _ _ _))), fun F G ⟨h0, h1, h2, h3⟩ => ⟨h0, h1, _, h2⟩⟩
      · rw [List.getElem?_append_right (by simp [txs]; omega)] at hA
        rw [List.getElem?_append_right (by simp; omega)] at hA'
        simp only [txs, List.length_map] at hA hA'
        rw [hA] at hA'
        cases hA'
        exact .inl rfl
  · intro x hx
    obtain ⟨k, hk, rfl⟩ := List.getElem_of_mem hx
    obtain ⟨F, ⟨_, _, h, _⟩, _⟩ := H.get (A := Tx1 l[k].2 l[k].1.texts) (k + 1) (by rw [List.cons_append, List.getElem?_cons_succ, List.getElem?_append_left (by simpa [txs] using hk)]; simp [txs, hk, TxT])
    exact h

theorem setWv_self {a : Option Addr} {n : Nat} {V V' : Nat → Value} {l : List (CV × TS)} {T : List Thing} : (dcT a n V l ++ T).set 0 (WvT 27 10 a n V') = dcT a n V' l ++ T := rfl
theorem dcT_tx {a : Option Addr} {n : Nat} {V : Nat → Value} {l : List (CV × TS)} {T : List Thing} {k : Nat} {x : CV × TS} (h : l[k]? = some x) : (dcT a n V l ++ T)[k + 1]? = some (WrT 9 1 x.2.a x.1.texts.length) := by
  have hk := (List.getElem?_eq_some_iff.1 h).1
  unfold dcT
  rw [List.cons_append, List.getElem?_cons_succ, List.getElem?_append_left (by simpa using hk)]
  simp [h, twT]

/-- What both readers tell: the changes, the error. -/
def rdE (s : ByteArray) : Int := if (decode s).isSome then 0 else 83
def rdM (s : ByteArray) : List CV := (decode s).getD []
theorem rdM_le {s : ByteArray} : (rdM s).length ≤ 16 := by
  unfold rdM
  rcases hd : decode s with _ | m
  · exact Nat.zero_le _
  · exact (decode_sound hd).2.2.1
theorem rdM_bits {s : ByteArray} : ∀ c, c ∈ rdM s → 0 ≤ c.bits ∧ c.bits < 18446744073709551616 := by
  unfold rdM
  rcases hd : decode s with _ | m
  · simp
  · exact (decode_iff.1 hd).2

theorem rdM_texts {s : ByteArray} : ∀ c, c ∈ rdM s → c.texts.length ≤ 8 := by
  unfold rdM
  rcases hd : decode s with _ | m
  · simp
  · intro c hc
    obtain ⟨h1, h2⟩ := decode_iff.1 hd
    exact (CV.fits ((encode_iff.1 h1).2.1 c hc) (h2 c hc)).texts

theorem st_dec (H : St W w R) {s : ByteArray} (hs : s.size ≤ 140737488355328) :
    Calls Try.prog 18 #[.string s] w fun e w' => ∃ (a : Option Addr) (l : List (CV × TS)), l.map (·.1) = rdM s ∧ e = .returned (.tuple #[.slice a l.length l.length, .int .i64 (rdE s)]) ∧ St W w' (R ++ (CrT a l :: txs l)) := by
  refine (st_decode H s hs).mono ?_
  intro e w' h
  unfold rdM rdE
  rcases hd : decode s with _ | m
  · rw [hd] at h
    obtain ⟨rfl, H⟩ := h
    refine ⟨none, [], rfl, rfl, ?_⟩
    exact H.new (A := Cr1 none []) (F := []) (Fr.refl _ _) inferInstance ⟨rfl, .inl ⟨rfl, rfl⟩, Nat.zero_le _⟩ (by simp)
  · rw [hd] at h
    obtain ⟨a, l, hl, rfl, H⟩ := h
    have : l.length = m.length := by rw [← hl, List.length_map]
    exact ⟨a, l, hl, by rw [this]; rfl, H⟩
theorem st_rdec (H : St W w R) {s : ByteArray} (hs : s.size ≤ 140737488355328) :
    Calls Try.prog 19 #[.string s] w fun e w' => ∃ (v : Value) (l : List (CV × TS)), l.map (·.1) = rdM s ∧ e = .returned (.tuple #[v, .int .i64 (rdE s)]) ∧ St W w' (R ++ rwT v l) := by
  refine (st_rdecode H s hs).mono ?_
  intro e w' h
  unfold rdM rdE
  rcases hd : decode s with _ | m
  · rw [hd] at h
    obtain ⟨rfl, H⟩ := h
    refine ⟨.slice none 0 0, [], rfl, rfl, ?_⟩
    exact H.new (A := Row1 27 10 (.slice none 0 0) 0 (cL.cells [])) (F := []) (Fr.refl _ _) inferInstance ⟨rfl, World.ownsRow_nil _ _ _ _⟩ (by simp)
  · rw [hd] at h
    obtain ⟨v, l, hl, rfl, H, _⟩ := h
    exact ⟨v, l, hl, rfl, H⟩
theorem St.crIn {a : Option Addr} {l : List (CV × TS)} {A B : List Thing} (H : St W w (A ++ (CrT a l :: txs l) ++ B)) {s : ByteArray} (hl : l.map (·.1) = rdM s) : ChIn w a l.length l.length l := by
  have h : St W w (A ++ (CrT a l :: txs l)) := H.drop
  exact h.chIn (fun x hx => rdM_bits (s := s) x.1 (by rw [← hl]; exact List.mem_map_of_mem hx))
theorem St.rwIn' {v : Value} {l : List (CV × TS)} {A B : List Thing} (H : St W w (A ++ rwT v l ++ B)) {s : ByteArray} (hl : l.map (·.1) = rdM s) : ∃ a c, v = .slice a l.length c ∧ ChIn w a l.length c l := by
  have h : St W w (A ++ rwT v l) := H.drop
  exact h.rwIn (fun x hx => rdM_bits (s := s) x.1 (by rw [← hl]; exact List.mem_map_of_mem hx))

set_option maxHeartbeats 4000000 in
set_option maxRecDepth 100000 in
theorem decodes_walk (w : World) (s : ByteArray) (hs : s.size ≤ 140737488355328) :
    Calls Try.prog 5 #[.string s] w fun e w' => e = .returned (.bool true) ∧ Fr [] w w' := by
  obtain ⟨i0, hi0, hz0, hz1, hz2⟩ := info_parts info_ch
  obtain ⟨i1, hi1, hy0, hy1, hy2⟩ := info_parts info_str
  have HI := hid (And.intro hi0 (And.intro hz0 (And.intro hz1 hz2)))
  have HJ := hid (And.intro hi1 (And.intro hy0 (And.intro hy1 hy2)))
  have hm16 := rdM_le (s := s)
  have hD0 := hid (st_dec (St.refl w) hs)
  have hDn := hid (fun (w1 : World) (R : List Thing) (H : St (.of w) w1 R) => st_dec H hs)
  have hRn := hid (fun (w1 : World) (R : List Thing) (H : St (.of w) w1 R) => st_rdec H hs)
  generalize hE : rdE s = E at *
  clear hi0 hz0 hz1 hz2 hi1 hy0 hy1 hy2 hE hs
  go_enter Try.func5, Try.ntmps5
  go_wp2_with fail
  refine hD0.out.mono ?_
  rintro e w1 ⟨a, l, hl, rfl, H1⟩
  have hln : l.length ≤ 16 := by have := congrArg List.length hl; rw [List.length_map] at this; omega
  have H1 := hid H1
  have HL := hid hl
  clear hl
  clear hD0
  go_wp2_with fail
  refine (hRn.out _ _ H1.out).mono ?_
  rintro e w2 ⟨v, r, hr, rfl, H2⟩
  have hrl : r.length = l.length := by have h1 := congrArg List.length hr; have h2 := congrArg List.length HL.out; rw [List.length_map] at h1 h2; omega
  obtain ⟨ra, rc, rfl, hRI⟩ := St.rwIn' (B := []) (by rw [List.append_nil]; exact H2) hr
  have hsm := hid (same_walk w2 a ra _ _ _ _ l r (St.crIn (A := []) H2 HL.out) hRI)
  have HRL := hid hrl
  clear hrl
  have HR := hid hr
  clear hr
  have H2 := hid H2
  clear H1 hRI hRn
  go_wp2_with fail
  refine hsm.out.mono ?_
  rintro e w3 ⟨⟨z, rfl, hz⟩, hF⟩
  obtain rfl : z = true := hz.2 (by rw [HL.out, HR.out])
  have H3 := hid (H2.out.same hF)
  clear hz hF H2 hsm
  go_wp2_with fail
  refine (hDn.out _ _ H3.out).mono ?_
  rintro e w4 ⟨ca, c, hc, rfl, H4⟩
  have hcl : c.length = l.length := by have h1 := congrArg List.length hc; have h2 := congrArg List.length HL.out; rw [List.length_map] at h1 h2; omega
  have HC := hid hc
  have HCL := hid hcl
  clear hc hcl
  obtain ⟨H5, hcap⟩ := St.dcStart (T := rwT (.slice ra r.length rc) r ++ (CrT ca c :: txs c)) (by rw [← List.append_assoc]; exact H4)
  have HCAP := hid hcap
  clear hcap
  have H5 := hid H5
  obtain ⟨n, hn⟩ : ∃ n, l.length = n := ⟨_, rfl⟩
  rw [hn] at H5 hln
  rw [hn]
  have HN := hid hn
  clear H3 H4 hn
  go_wp2_with fail
  obtain ⟨T, hT⟩ : ∃ T, rwT (.slice ra r.length rc) r ++ (CrT ca c :: txs c) = T := ⟨_, rfl⟩
  rw [hT] at H5
  have HT := hid hT
  clear hT
  go_loopw [9] (fun iv wr => ∃ (k : Nat) (V : Nat → Value), k ≤ n ∧ iv = .int .i64 k ∧ Hid (∀ j, k * 10 ≤ j → j < n * 10 → V j = cL.at_ l j) ∧ St (.of w) wr (dcT a n V l ++ T)) (fun iv _ => n - (intOf iv).toNat)
  case atStart => exact ⟨0, cL.at_ l, Nat.zero_le _, rfl, hid (fun j _ _ => rfl), H5.out⟩
  case round =>
    obtain ⟨k, V, hk, rfl, hV, H⟩ := hrel
    by_cases hlt : k < n
    · obtain ⟨g, rfl⟩ := (H.wv 0 rfl).sm (by omega)
      have hkl : k < l.length := by rw [HN.out]; exact hlt
      obtain ⟨x, hx⟩ : ∃ x, l[k]? = some x := ⟨_, List.getElem?_eq_getElem hkl⟩
      have hV9 : V (k * 10 + 9) = .slice x.2.a x.1.texts.length x.1.texts.length := by
        rw [hV.out _ (by omega) (by omega), show cL.at_ l (k * 10 + 9) = (cL.f (cL.nth l k)).getD 9 undef from cL.at_add l k 9 (by decide), show cL.nth l k = x by have := cL.nth_get hkl; rw [hx] at this; exact (Option.some.inj this).symm]
        show Value.slice x.2.a x.1.texts.length x.2.c = _
        rw [HCAP.out x (List.mem_of_getElem? hx)]
      have hc9 := hid (fun (wi : World) (Hi : St (.of w) wi (dcT (some ⟨g, 0, none⟩) n V l ++ T)) => show wi.cell? ⟨g, k * 10 + 9, none⟩ = some (.slice x.2.a x.1.texts.length x.1.texts.length) by
        have h := (Hi.wv 0 rfl).cell (k * 10 + 9) (by omega)
        rw [Nat.zero_add, hV9] at h; exact h)
      have hfr := hid (fun (wi : World) (Hi : St (.of w) wi (dcT (some ⟨g, 0, none⟩) n V l ++ T)) (j : Nat) => show wi.frozen? ⟨g, j, none⟩ = false by
        have h := (Hi.wv 0 rfl).free j
        rw [Nat.zero_add] at h; exact h)
      have hc0 := hid (fun (wi : World) (Hi : St (.of w) wi (dcT (some ⟨g, 0, none⟩) n V l ++ T)) => show wi.cell? ⟨g, k * 10, none⟩ = some (V (k * 10)) by
        have h := (Hi.wv 0 rfl).cell (k * 10) (by omega)
        rw [Nat.zero_add] at h; exact h)
      have hxi := hid (dcT_tx (a := some ⟨g, 0, none⟩) (n := n) (V := V) (T := T) hx)
      obtain ⟨t, m, htm⟩ : ∃ t m, x.2.a = t ∧ x.1.texts.length = m := ⟨_, _, rfl, rfl⟩
      rw [htm.1, htm.2] at hc9 hxi
      have hm47 : (m : Int) ≤ 1000 := by
        have h1 := rdM_texts (s := s) x.1 (by rw [← HL.out]; exact List.mem_map_of_mem (List.mem_of_getElem? hx))
        have h2 := htm.2
        omega
      have HX := hid (And.intro hx hV9)
      have H := hid H
      clear hx hV9 htm hkl
      obtain ⟨wo, rfl⟩ : ∃ wo : World, wo = wr := ⟨_, rfl⟩
      go_wp2_with fail
      go_loopw [10] (fun qv wr => ∃ q : Nat, q ≤ m ∧ qv = .int .i64 q ∧ St (.of w) wr (dcT (some ⟨g, 0, none⟩) n V l ++ T)) (fun qv _ => m - (intOf qv).toNat)
      case atStart => exact ⟨0, Nat.zero_le _, rfl, H.out⟩
      case round =>
        obtain ⟨q, hq, rfl, Hi⟩ := hrel
        have c9 := hc9.out _ Hi
        by_cases hql : q < m
        · obtain ⟨V2, hW2⟩ := Hi.wr (k + 1) hxi.out
          obtain ⟨gt, rfl⟩ := hW2.sm (by omega)
          have d0 := hW2.cell q (by omega)
          have e0 := hW2.free q
          rw [Nat.zero_add] at d0 e0
          have Hj := hid (Hi.setWr (k + 1) hxi.out q (.string ⟨#[111, 118, 101, 114]⟩))
          clear Hi hW2
          go_wp2_with fail
          go_roundw
          case rel => exact ⟨q + 1, by omega, by go_num, Hj.out⟩
          case measure => simp [intOf]; omega
        · obtain rfl : q = m := by omega
          obtain ⟨V2, hW2⟩ := Hi.wr (k + 1) hxi.out
          have hI2 := hid ((hW2.toIn (Nat.le_refl _) (by unfold maxLen; omega)).fr0 ((Fr.refl [] wr).alloc (.cells #[.string ⟨#[109, 111, 114, 101]⟩] 9)))
          have Ha := hid (Hi.alloc_ (.cells #[.string ⟨#[109, 111, 114, 101]⟩] 9))
          have hmm : q + 1 ≤ maxLen := by unfold maxLen; omega
          have hmb : (q + 1) * 16 ≤ 140737488355328 := by omega
          have hmm := hid hmm
          have hmb := hid hmb
          clear Hi hW2
          go_wp2_with (at_builtin; refine wpList_append_full rfl (.tmp 66) (.tmp 67) 25 rfl 9 i1 (.string ByteArray.empty) 1 16 Try.underlying25 HJ.out.1 HJ.out.2.1 HJ.out.2.2.1 HJ.out.2.2.2 rfl (by decide) t q V2 rfl hI2.out ⟨wr.heap.size, 0, none⟩ 1 1 [.string ⟨#[109, 111, 114, 101]⟩] rfl (by decide) rfl (news_alloc wr [.string ⟨#[109, 111, 114, 101]⟩] 9) (by intro u hu; simp at hu; subst hu; rfl) hmm.out hmb.out ?_)
          intro g2 cp2 w6 hF6
          have H6 := Ha.out.same hF6
          have c9 := hc9.out _ H6
          have f9 := hfr.out _ H6 (k * 10 + 9)
          have H7 := H6.setWv 0 rfl (k * 10 + 9) (.slice (some ⟨g2, 0, none⟩) (q + 1) cp2)
          have H8 := H7.setWv 0 rfl (k * 10) (.int .i64 (-9))
          have hv7 := H7.wv 0 rfl
          have c0 := hv7.cell (k * 10) (by omega)
          have f0 := hv7.free (k * 10)
          clear hv7
          rw [Nat.zero_add] at c0 f0
          have H8 := hid H8
          clear Ha hF6 H6 H7
          go_wp2_with fail
          go_roundw
          case rel =>
            refine ⟨k + 1, _, by omega, by go_num, hid (fun j h1 h2 => ?_), H8.out⟩
            simp only [if_neg (show ¬ j = k * 10 by omega), if_neg (show ¬ j = k * 10 + 9 by omega)]
            exact hV.out j (by omega) h2
          case measure => simp [intOf]; omega
    · obtain rfl : k = n := by omega
      have hI2 := hid (((H.wv 0 rfl).toIn (Nat.le_refl _) (by unfold maxLen; omega)).fr0 ((Fr.refl [] wr).alloc (.cells (cL.cells [(⟨-8, 0, 0, 0, 0, 0, 0, 0, ⟨#[]⟩, []⟩, ⟨none, 0⟩)]).toArray 27)))
      have Ha := hid (H.alloc_ (.cells (cL.cells [(⟨-8, 0, 0, 0, 0, 0, 0, 0, ⟨#[]⟩, []⟩, ⟨none, 0⟩)]).toArray 27))
      have hmm := hid (show k + 1 ≤ maxLen by unfold maxLen; omega)
      have hmb := hid (show (k + 1) * 104 ≤ 140737488355328 by omega)
      have hone := hid (show ∀ u ∈ cL.cells [(⟨-8, 0, 0, 0, 0, 0, 0, 0, ⟨#[]⟩, []⟩, (⟨none, 0⟩ : TS))], u.oneCell' = true from cL.cells_one _)
      clear H
      go_wp2_with (at_builtin; refine wpList_append_full rfl (.tmp 75) (.tmp 77) 28 rfl 27 i0 (.agg #[.int .i64 0, .int .i64 0, .int .i64 0, .int .i64 0, .int .i64 0, .int .i64 0, .int .i64 0, .int .u64 0, .string ⟨#[]⟩, .slice none 0 0]) 10 104 Try.underlying28 HI.out.1 HI.out.2.1 HI.out.2.2.1 HI.out.2.2.2 rfl (by decide) a k V rfl hI2.out ⟨wr.heap.size, 0, none⟩ 1 1 (cL.cells [(⟨-8, 0, 0, 0, 0, 0, 0, 0, ⟨#[]⟩, []⟩, ⟨none, 0⟩)]) rfl (by decide) rfl (news_alloc wr (cL.cells [(⟨-8, 0, 0, 0, 0, 0, 0, 0, ⟨#[]⟩, []⟩, ⟨none, 0⟩)]) 27) hone.out hmm.out hmb.out ?_)
      intro g2 cp2 w6 hF6
      have H6 := hid (Ha.out.same hF6)
      clear Ha hF6 hI2
      go_wp2_with fail
      refine (hDn.out _ _ H6.out).mono ?_
      rintro e w7 ⟨da, d, hd, rfl, H7⟩
      have hdl := hid hd
      have H8 : St (.of w) w7 ((dcT a k V l ++ rwT (.slice ra r.length rc) r) ++ (CrT ca c :: txs c) ++ (CrT da d :: txs d)) := by
        have h := H7
        rw [← HT.out, ← List.append_assoc] at h
        exact h
      have hci := hid (H8.crIn HC.out)
      have hdi := hid (St.crIn (B := []) (by rw [List.append_nil]; exact H8) hd)
      have hbi : ChIn w7 ra r.length rc r := by
        have h := H8
        rw [List.append_assoc (dcT a k V l ++ rwT (.slice ra r.length rc) r)] at h
        obtain ⟨a', c', e1, h2⟩ := h.rwIn' HR.out
        simp only [Value.slice.injEq, true_and] at e1
        obtain ⟨rfl, rfl⟩ := e1
        exact h2
      have hbi := hid hbi
      have hs1 := hid (same_walk w7 ca ra _ _ _ _ c r hci.out hbi.out)
      have hF7 := hid H8.fr
      have hdm := hid hd
      clear hd H7 H8 H6
      go_wp2_with fail
      refine hs1.out.mono ?_
      rintro e w8 ⟨⟨z, rfl, hz⟩, hF⟩
      obtain rfl : z = true := hz.2 (by rw [HC.out, HR.out])
      have hs2 := hid (same_walk w8 da ra _ _ _ _ d r (hdi.out.fr0 hF) (hbi.out.fr0 hF))
      have hF8 := hid (hF7.out.trans hF)
      clear hz hF
      go_wp2_with fail
      refine hs2.out.mono ?_
      rintro e w9 ⟨⟨z, rfl, hz⟩, hF⟩
      obtain rfl : z = true := hz.2 (by rw [hdl.out, HR.out])
      have hF9 := hid (hF8.out.trans hF)
      have hkr : r.length = k := by rw [HRL.out, HN.out]
      clear hz hF
      go_wp2_with fail
      refine (fixed_walk _).mono ?_
      rintro e w10 ⟨rfl, hF⟩
      have hF10 := hid (hF9.out.trans hF)
      clear hF
      go_wp2_with fail
      go_ret
      exact ⟨rfl, hF10.out⟩
end

theorem recordDecodes_walk (w : World) (s : ByteArray) (hs : s.size ≤ 140737488351232) :
    Calls Try.prog 5 #[.string s] w fun e w' => e = .returned (.bool true) ∧ Fr [] w w' := decodes_walk w s (by omega)
end Go.Proofs.Ytdobbmlaokolmaa
