/-
  Merged, in build order: W0 W1 W2.
-/
import Derived.Test.YthghnlgojmedgaaGreatM13
import Derived.Test.YthghnlgojmedgaaGreatM14
/-
  The log, as plain data: numbers in so many bytes, a head's sector. Of no program.
-/
namespace Go.Proofs.YthghnlgojmedgaaGreat
set_option linter.unusedVariables false
set_option linter.unusedSimpArgs false

/-- A number in k bytes, the highest first. -/
def hiL (n : Nat) : Nat → List UInt8
  | 0 => []
  | k + 1 => hiL (n / 256) k ++ [(n % 256).toUInt8]
/-- What such bytes tell. -/
def ofL (l : List UInt8) : Nat := l.foldl (fun n x => n * 256 + x.toNat) 0

theorem ofL_snoc (l : List UInt8) (x : UInt8) : ofL (l ++ [x]) = ofL l * 256 + x.toNat := by simp [ofL]
theorem hiL_len (n : Nat) : ∀ k, (hiL n k).length = k
  | 0 => rfl
  | k + 1 => by simp [hiL, hiL_len (n / 256) k]
theorem b256 (n : Nat) : ((n % 256).toUInt8).toNat = n % 256 := by simp
theorem ofL_hiL : ∀ (k n : Nat), n < 256 ^ k → ofL (hiL n k) = n
  | 0, n, h => by simp at h; subst h; rfl
  | k + 1, n, h => by
    rw [hiL, ofL_snoc, b256, ofL_hiL k (n / 256) (by rw [Nat.pow_succ] at h; exact Nat.div_lt_of_lt_mul (by rw [Nat.mul_comm]; exact h))]
    omega
theorem ofL_lt : ∀ (l : List UInt8), ofL l < 256 ^ l.length := by
  intro l
  rw [← List.reverse_reverse l]
  induction l.reverse with
  | nil => decide
  | cons x r ih =>
    rw [List.reverse_cons, ofL_snoc, List.length_append, List.length_singleton, Nat.pow_succ]
    have := x.toNat_lt
    omega
theorem hiL_ofL : ∀ (l : List UInt8), hiL (ofL l) l.length = l := by
  intro l
  rw [← List.reverse_reverse l]
  induction l.reverse with
  | nil => rfl
  | cons x r ih =>
    have := x.toNat_lt
    rw [List.reverse_cons, List.length_append, List.length_singleton, hiL, ofL_snoc, show (ofL r.reverse * 256 + x.toNat) / 256 = ofL r.reverse by omega, ih]
    congr 1
    rw [show (ofL r.reverse * 256 + x.toNat) % 256 = x.toNat by omega]
    simp
theorem hiL_inj {k n m : Nat} (hn : n < 256 ^ k) (hm : m < 256 ^ k) (h : hiL n k = hiL m k) : n = m := by
  rw [← ofL_hiL k n hn, h, ofL_hiL k m hm]
theorem hiL_get : ∀ (k n j : Nat), j < k → (hiL n k)[j]? = some ((n / 256 ^ (k - 1 - j) % 256).toUInt8)
  | 0, _, _, h => absurd h (Nat.not_lt_zero _)
  | k + 1, n, j, h => by
    rw [hiL]
    by_cases hj : j < k
    · rw [List.getElem?_append_left (by rw [hiL_len]; exact hj), hiL_get k (n / 256) j hj, Nat.div_div_eq_div_mul, show k + 1 - 1 - j = (k - 1 - j) + 1 by omega, Nat.pow_succ, Nat.mul_comm 256]
    · have : j = k := by omega
      subst this
      rw [List.getElem?_append_right (by rw [hiL_len]; omega), hiL_len]
      simp
theorem hiL_last (n k : Nat) : (hiL n (k + 1))[k]? = some ((n % 256).toUInt8) := by
  rw [hiL_get _ _ _ (by omega)]; simp

/-- A head. -/
structure WH where
  number : Nat
  half : Nat
  snap : Nat
  log : Nat
def secL (h : WH) : List UInt8 := hiL h.number 8 ++ ([h.half.toUInt8] ++ (hiL h.snap 4 ++ (hiL h.log 4 ++ (List.replicate 103 0 ++ hiL h.number 8))))
/-- Its sector. -/
def secB (h : WH) : ByteArray := ⟨(secL h).toArray⟩
theorem secL_len (h : WH) : (secL h).length = 128 := by simp [secL, hiL_len]
theorem secB_bl (h : WH) : bl (secB h) = secL h := bl_mk _
theorem secB_size (h : WH) : (secB h).size = 128 := by rw [← bl_len, secB_bl, secL_len]

/-- How many bytes a half has; 0: the disk does not fit. -/
def roomN (k : Nat) : Nat := if k < 4 ∨ k % 2 = 1 ∨ 1026 < k then 0 else (k / 2 - 1) * 128
theorem roomN_ok {k : Nat} (h : roomN k ≠ 0) : 4 ≤ k ∧ k % 2 = 0 ∧ k ≤ 1026 ∧ roomN k = (k / 2 - 1) * 128 := by
  unfold roomN at h ⊢
  split at h
  · exact absurd rfl h
  · rename_i h1
    rw [if_neg h1]
    omega
theorem roomN_le (k : Nat) : roomN k ≤ 65536 := by
  unfold roomN; split <;> omega

structure WH.ok (h : WH) (at_ room : Nat) : Prop where
  n1 : 1 ≤ h.number
  n2 : h.number ≤ 1099511627776
  par : h.number % 2 = at_
  half1 : h.half ≤ 1
  snap1 : h.snap ≤ 17000
  fit : h.snap + h.log ≤ room

theorem secL_inj {h g : WH} (hn : h.number < 256 ^ 8) (gn : g.number < 256 ^ 8) (hh : h.half ≤ 1) (gh : g.half ≤ 1) (hs : h.snap < 256 ^ 4) (gs : g.snap < 256 ^ 4) (hl : h.log < 256 ^ 4) (gl : g.log < 256 ^ 4) (e : secL h = secL g) : h = g := by
  unfold secL at e
  obtain ⟨e1, e⟩ := List.append_inj e (by rw [hiL_len, hiL_len])
  obtain ⟨e2, e⟩ := List.append_inj e rfl
  obtain ⟨e3, e⟩ := List.append_inj e (by rw [hiL_len, hiL_len])
  obtain ⟨e4, _⟩ := List.append_inj e (by rw [hiL_len, hiL_len])
  have a1 := hiL_inj hn gn e1
  have a3 := hiL_inj hs gs e3
  have a4 := hiL_inj hl gl e4
  have a2 : h.half = g.half := by
    have h1 : h.half.toUInt8 = g.half.toUInt8 := by simpa using e2
    have h2 := congrArg UInt8.toNat h1
    simp at h2
    omega
  cases h; cases g
  simp_all
theorem WH.ok.bounds {h : WH} {a r : Nat} (k : h.ok a r) (hr : r ≤ 65536) : h.number < 256 ^ 8 ∧ h.half ≤ 1 ∧ h.snap < 256 ^ 4 ∧ h.log < 256 ^ 4 := by
  have h1 := k.n2; have h2 := k.half1; have h3 := k.snap1; have h4 := k.fit
  refine ⟨?_, h2, ?_, ?_⟩
  · have : (256 : Nat) ^ 8 = 18446744073709551616 := by decide
    omega
  · have : (256 : Nat) ^ 4 = 4294967296 := by decide
    omega
  · have : (256 : Nat) ^ 4 = 4294967296 := by decide
    omega
theorem secB_inj {h g : WH} {a b r q : Nat} (hk : h.ok a r) (gk : g.ok b q) (hr : r ≤ 65536) (hq : q ≤ 65536) (e : secB h = secB g) : h = g := by
  have e' : secL h = secL g := by rw [← secB_bl, ← secB_bl, e]
  obtain ⟨a1, a2, a3, a4⟩ := hk.bounds hr
  obtain ⟨b1, b2, b3, b4⟩ := gk.bounds hq
  exact secL_inj a1 b1 a2 b2 a3 b3 a4 b4 e'

/-- The number that a sector's beginning tells, and that its end tells. -/
theorem secL_front (h : WH) : (secL h).take 8 = hiL h.number 8 := by
  unfold secL; rw [List.take_append_of_le_length (by rw [hiL_len]; exact Nat.le_refl _), List.take_of_length_le (by rw [hiL_len]; exact Nat.le_refl _)]
theorem secL_split (h : WH) : secL h = (hiL h.number 8 ++ ([h.half.toUInt8] ++ (hiL h.snap 4 ++ (hiL h.log 4 ++ List.replicate 103 0)))) ++ hiL h.number 8 := by
  unfold secL; simp only [List.append_assoc]
theorem secL_back (h : WH) : (secL h).drop 120 = hiL h.number 8 := by
  rw [secL_split, List.drop_append_of_le_length (by simp [hiL_len]), List.drop_of_length_le (by simp [hiL_len])]; rfl

end Go.Proofs.YthghnlgojmedgaaGreat

/-
  The log, as plain data: a half's bytes; what is written where. Of no program.
-/
namespace Go.Proofs.YthghnlgojmedgaaGreat
set_option linter.unusedVariables false
set_option linter.unusedSimpArgs false

/-- A byte of a text. -/
def gB (b : ByteArray) (i : Nat) : UInt8 := (bl b).getD i 0
theorem gB_ext {a b : ByteArray} (h : a.size = b.size) (e : ∀ i, i < a.size → gB a i = gB b i) : a = b := by
  apply bl_inj
  apply List.ext_getElem (by rw [bl_len, bl_len, h])
  intro i h1 h2
  have h3 := e i (by rw [← bl_len]; exact h1)
  unfold gB at h3
  simpa [List.getD, h1, h2] using h3
theorem gB_extract (b : ByteArray) (p q i : Nat) (h : i + p < q) (hq : q ≤ b.size) : gB (b.extract p q) i = gB b (p + i) := by
  unfold gB
  rw [extract_bl]
  simp only [List.getD_eq_getElem?_getD, List.getElem?_drop, List.getElem?_take]
  rw [if_pos (by omega)]
theorem gB_cutB (a b : ByteArray) (k i : Nat) (hk : k ≤ a.size) (hb : b.size = a.size) (hi : i < a.size) : gB (cutB a b k) i = if i < k then gB a i else gB b i := by
  unfold cutB
  have hs : (bl (a.extract 0 k)).length = k := by rw [bl_len, ByteArray.size_extract]; omega
  by_cases h : i < k
  · rw [if_pos h, ← Nat.zero_add i, ← gB_extract a 0 k i (by omega) hk, Nat.zero_add]
    unfold gB
    rw [bl_app, List.getD_eq_getElem?_getD, List.getElem?_append_left (by omega), ← List.getD_eq_getElem?_getD]
  · rw [if_neg h]
    have e : gB b i = gB (b.extract k b.size) (i - k) := by rw [gB_extract b k b.size (i - k) (by omega) (Nat.le_refl _), show k + (i - k) = i by omega]
    rw [e]
    unfold gB
    rw [bl_app, List.getD_eq_getElem?_getD, List.getElem?_append_right (by omega), hs, ← List.getD_eq_getElem?_getD]
theorem tornB_size (a b : ByteArray) (k : Nat) (hk : k ≤ a.size) (hb : b.size = a.size) : (cutB a b k).size = a.size := by
  unfold cutB; rw [ByteArray.size_append, ByteArray.size_extract, ByteArray.size_extract]; omega
theorem cutB_all (a b : ByteArray) (hb : b.size = a.size) : cutB a b a.size = a := by
  apply gB_ext (tornB_size _ _ _ (Nat.le_refl _) hb)
  intro i hi
  rw [tornB_size _ _ _ (Nat.le_refl _) hb] at hi
  rw [gB_cutB _ _ _ _ (Nat.le_refl _) hb hi, if_pos hi]

/-- A byte of a half. -/
def hbyte (ss : List ByteArray) (half i : Nat) : UInt8 := gB (sAt ss (2 + half * (ss.length / 2 - 1) + i / 128)) (i % 128)
/-- The first n bytes of a half. -/
def hTake (ss : List ByteArray) (half n : Nat) : List UInt8 := (List.range n).map (hbyte ss half)
theorem hTake_len (ss : List ByteArray) (half n : Nat) : (hTake ss half n).length = n := by simp [hTake]
theorem hTake_take (ss : List ByteArray) (half : Nat) {m n : Nat} (h : m ≤ n) : (hTake ss half n).take m = hTake ss half m := by
  unfold hTake; rw [← List.map_take, List.take_range, Nat.min_eq_left h]
theorem hTake_congr {ss tt : List ByteArray} {half n : Nat} (h : ∀ i, i < n → hbyte ss half i = hbyte tt half i) : hTake ss half n = hTake tt half n :=
  List.map_congr_left fun i hi => h i (List.mem_range.1 hi)
theorem hTake_get (ss : List ByteArray) (half : Nat) {n i : Nat} (h : i < n) : (hTake ss half n)[i]? = some (hbyte ss half i) := by
  simp [hTake, List.getElem?_range h]
theorem bl_range (b : ByteArray) : (List.range b.size).map (gB b) = bl b := by
  apply List.ext_getElem (by simp [bl_len])
  intro i h1 h2
  simp [gB, List.getD, h2]
theorem hTake_sector (ss : List ByteArray) (half q : Nat) (h : (sAt ss (2 + half * (ss.length / 2 - 1) + q)).size = 128) :
    hTake ss half (128 * (q + 1)) = hTake ss half (128 * q) ++ bl (sAt ss (2 + half * (ss.length / 2 - 1) + q)) := by
  unfold hTake
  rw [Nat.mul_add, Nat.mul_one, List.range_add, List.map_append, List.map_map]
  congr 1
  rw [← bl_range, h]
  refine List.map_congr_left fun i hi => ?_
  have hi := List.mem_range.1 hi
  show hbyte ss half (128 * q + i) = _
  unfold hbyte
  rw [show (128 * q + i) / 128 = q by omega, show (128 * q + i) % 128 = i by omega]
theorem hTake_zero (ss : List ByteArray) (half : Nat) : hTake ss half 0 = [] := rfl

/-! ### What is written -/
/-- So many bytes of noughts behind, up to a sector. -/
def pad (l : List UInt8) : ByteArray := ⟨(l ++ List.replicate (128 - l.length) 0).toArray⟩
theorem pad_size {l : List UInt8} (h : l.length ≤ 128) : (pad l).size = 128 := by
  rw [← bl_len, pad, bl_mk, List.length_append, List.length_replicate]; omega
theorem gB_pad {l : List UInt8} {i : Nat} (h : i < l.length) : gB (pad l) i = l.getD i 0 := by
  unfold gB pad; rw [bl_mk, List.getD_eq_getElem?_getD, List.getElem?_append_left h, ← List.getD_eq_getElem?_getD]

/-- The bytes from the first page's beginning on. -/
def pT (ss : List ByteArray) (half at_ : Nat) (s : List UInt8) : List UInt8 := (bl (sAt ss (2 + half * (ss.length / 2 - 1) + at_ / 128))).take (at_ % 128) ++ s
/-- How many pages. -/
def pN (at_ : Nat) (s : List UInt8) : Nat := if s.length = 0 then 0 else (at_ % 128 + s.length + 127) / 128
/-- What a page has then. -/
def pC (ss : List ByteArray) (half at_ : Nat) (s : List UInt8) (k : Nat) : ByteArray := pad (((pT ss half at_ s).drop (128 * k)).take 128)
/-- The pages' writes. -/
def plan (ss : List ByteArray) (half at_ : Nat) (s : List UInt8) : List (Nat × ByteArray) := (List.range (pN at_ s)).map fun k => (2 + half * (ss.length / 2 - 1) + at_ / 128 + k, pC ss half at_ s k)
theorem plan_len (ss : List ByteArray) (half at_ : Nat) (s : List UInt8) : (plan ss half at_ s).length = pN at_ s := by simp [plan]
theorem pC_size (ss : List ByteArray) (half at_ : Nat) (s : List UInt8) (k : Nat) : (pC ss half at_ s k).size = 128 := pad_size (by rw [List.length_take]; omega)

def setAll (ss : List ByteArray) (ws : List (Nat × ByteArray)) : List ByteArray := ws.foldl (fun ss w => ss.set w.1 w.2) ss
theorem setAll_app (ss : List ByteArray) (a b : List (Nat × ByteArray)) : setAll ss (a ++ b) = setAll (setAll ss a) b := by simp [setAll]
theorem setAll_len (ws : List (Nat × ByteArray)) : ∀ ss : List ByteArray, (setAll ss ws).length = ss.length := by
  induction ws with
  | nil => intro ss; rfl
  | cons w ws ih => intro ss; show (setAll (ss.set w.1 w.2) ws).length = _; rw [ih, List.length_set]
theorem sAt_set' (ss : List ByteArray) (i j : Nat) (c : ByteArray) (h : i < ss.length) : sAt (ss.set i c) j = if j = i then c else sAt ss j := by
  unfold sAt
  rw [List.getD_eq_getElem?_getD, List.getD_eq_getElem?_getD, List.getElem?_set]
  by_cases hj : i = j
  · subst hj; rw [if_pos rfl, if_pos h, if_pos rfl]; rfl
  · rw [if_neg hj, if_neg (Ne.symm hj)]
theorem sAt_pages (ss : List ByteArray) (p : Nat) (c : Nat → ByteArray) (j : Nat) : ∀ m, p + m ≤ ss.length → sAt (setAll ss ((List.range m).map fun k => (p + k, c k))) j = if p ≤ j ∧ j < p + m then c (j - p) else sAt ss j
  | 0, _ => by rw [if_neg (by omega)]; rfl
  | m + 1, h => by
    rw [List.range_succ, List.map_append, setAll_app]
    show sAt (List.set _ (p + m) (c m)) j = _
    rw [sAt_set' _ _ _ _ (by rw [setAll_len]; omega), sAt_pages ss p c j m (by omega)]
    by_cases h1 : j = p + m
    · subst h1; rw [if_pos rfl, if_pos (by omega), show p + m - p = m by omega]
    · rw [if_neg h1]
      by_cases h2 : p ≤ j ∧ j < p + m
      · rw [if_pos h2, if_pos (by omega)]
      · rw [if_neg h2, if_neg (by omega)]
theorem plan_take (ss : List ByteArray) (half at_ : Nat) (s : List UInt8) {j : Nat} (h : j ≤ pN at_ s) : (plan ss half at_ s).take j = (List.range j).map fun k => (2 + half * (ss.length / 2 - 1) + at_ / 128 + k, pC ss half at_ s k) := by
  unfold plan; rw [← List.map_take, List.take_range, Nat.min_eq_left h]
theorem plan_get (ss : List ByteArray) (half at_ : Nat) (s : List UInt8) {j : Nat} (h : j < pN at_ s) : (plan ss half at_ s)[j]? = some (2 + half * (ss.length / 2 - 1) + at_ / 128 + j, pC ss half at_ s j) := by
  unfold plan; simp [List.getElem?_range h]

/-- A disk that fits, a half of it, and bytes that are to be written there. -/
structure Pl (ss : List ByteArray) (half at_ : Nat) (s : List UInt8) : Prop where
  fit : 4 ≤ ss.length ∧ ss.length % 2 = 0 ∧ ss.length ≤ 1026
  sz : ∀ i, i < ss.length → (sAt ss i).size = 128
  half1 : half ≤ 1
  room : at_ + s.length ≤ (ss.length / 2 - 1) * 128

section
variable {ss : List ByteArray} {half at_ : Nat} {s : List UInt8}
theorem Pl.pages (P : Pl ss half at_ s) : at_ / 128 + pN at_ s ≤ ss.length / 2 - 1 ∨ pN at_ s = 0 := by
  have h := P.room
  unfold pN
  split
  · exact .inr rfl
  · left; omega
theorem Pl.top (P : Pl ss half at_ s) : 2 + half * (ss.length / 2 - 1) + at_ / 128 + pN at_ s ≤ ss.length ∨ pN at_ s = 0 := by
  rcases P.pages with h | h
  · left
    obtain ⟨h1, h2, h3⟩ := P.fit
    have hh := P.half1
    have : half = 0 ∨ half = 1 := by omega
    rcases this with rfl | rfl <;> omega
  · exact .inr h
theorem Pl.sAt (P : Pl ss half at_ s) {j : Nat} (hj : j ≤ pN at_ s) (i : Nat) : sAt (setAll ss ((plan ss half at_ s).take j)) i = if 2 + half * (ss.length / 2 - 1) + at_ / 128 ≤ i ∧ i < 2 + half * (ss.length / 2 - 1) + at_ / 128 + j then pC ss half at_ s (i - (2 + half * (ss.length / 2 - 1) + at_ / 128)) else Proofs.YthghnlgojmedgaaGreat.sAt ss i := by
  rcases P.top with h | h
  · rw [plan_take _ _ _ _ hj, sAt_pages _ _ _ _ _ (by omega)]
  · have : j = 0 := by omega
    subst this
    rw [if_neg (by omega)]; rfl
theorem Pl.fine (P : Pl ss half at_ s) {k : Nat} (hk : k < pN at_ s) : 2 + half * (ss.length / 2 - 1) + at_ / 128 + k < ss.length := by
  rcases P.top with h | h <;> omega
theorem pT_len (P : Pl ss half at_ s) (h : 0 < pN at_ s) : (pT ss half at_ s).length = at_ % 128 + s.length := by
  unfold pT
  have := P.sz (2 + half * (ss.length / 2 - 1) + at_ / 128) (by have := P.fine h; omega)
  rw [List.length_append, List.length_take, bl_len, this]
  omega
theorem pC_get (P : Pl ss half at_ s) {k r : Nat} (h : 0 < pN at_ s) (hr : r < 128) (hl : 128 * k + r < at_ % 128 + s.length) : gB (pC ss half at_ s k) r = (pT ss half at_ s).getD (128 * k + r) 0 := by
  have hl' := pT_len P h
  unfold pC
  rw [gB_pad (by rw [List.length_take, List.length_drop, hl']; omega), List.getD_eq_getElem?_getD, List.getElem?_take, if_pos hr, List.getElem?_drop, ← List.getD_eq_getElem?_getD]
theorem pT_old (P : Pl ss half at_ s) {r : Nat} (h : r < at_ % 128) (h0 : 0 < pN at_ s) : (pT ss half at_ s).getD r 0 = gB (Proofs.YthghnlgojmedgaaGreat.sAt ss (2 + half * (ss.length / 2 - 1) + at_ / 128)) r := by
  have := P.sz (2 + half * (ss.length / 2 - 1) + at_ / 128) (by have := P.fine h0; omega)
  unfold pT gB
  rw [List.getD_eq_getElem?_getD, List.getElem?_append_left (by rw [List.length_take, bl_len, this]; omega), List.getElem?_take, if_pos h, ← List.getD_eq_getElem?_getD]
theorem pT_new (P : Pl ss half at_ s) {r : Nat} (h : at_ % 128 ≤ r) (h0 : 0 < pN at_ s) : (pT ss half at_ s).getD r 0 = s.getD (r - at_ % 128) 0 := by
  have := P.sz (2 + half * (ss.length / 2 - 1) + at_ / 128) (by have := P.fine h0; omega)
  have hl : ((bl (Proofs.YthghnlgojmedgaaGreat.sAt ss (2 + half * (ss.length / 2 - 1) + at_ / 128))).take (at_ % 128)).length = at_ % 128 := by rw [List.length_take, bl_len, this]; omega
  unfold pT
  rw [List.getD_eq_getElem?_getD, List.getElem?_append_right (by omega), hl, ← List.getD_eq_getElem?_getD]

/-- Behind the first j pages, and so many bytes of the next one. -/
theorem Pl.torn (P : Pl ss half at_ s) {j b : Nat} (hj : j < pN at_ s) (hb : b ≤ 128) {i : Nat} (hi : i < at_) :
    hbyte ((setAll ss ((plan ss half at_ s).take j)).set (2 + half * (ss.length / 2 - 1) + at_ / 128 + j) (cutB (pC ss half at_ s j) (Proofs.YthghnlgojmedgaaGreat.sAt (setAll ss ((plan ss half at_ s).take j)) (2 + half * (ss.length / 2 - 1) + at_ / 128 + j)) b)) half i = hbyte ss half i := by
  have hf := P.fine hj
  have hfit := P.room
  unfold hbyte
  simp only [List.length_set, setAll_len]
  rw [sAt_set' _ _ _ _ (by rw [setAll_len]; exact hf), P.sAt (by omega), P.sAt (by omega)]
  have hold : (Proofs.YthghnlgojmedgaaGreat.sAt ss (2 + half * (ss.length / 2 - 1) + at_ / 128 + j)).size = (pC ss half at_ s j).size := by rw [pC_size, P.sz _ hf]
  by_cases h1 : 2 + half * (ss.length / 2 - 1) + i / 128 = 2 + half * (ss.length / 2 - 1) + at_ / 128 + j
  · have h2 : i / 128 = at_ / 128 + j := by omega
    have hj0 : j = 0 := by omega
    subst hj0
    rw [if_pos h1, if_neg (by omega), gB_cutB _ _ _ _ (by rw [pC_size]; exact hb) hold (by rw [pC_size]; omega), h1]
    split
    · rw [pC_get P hj (by omega) (by omega), show 128 * 0 + i % 128 = i % 128 by omega, pT_old P (by omega) hj]
      rfl
    · rfl
  · rw [if_neg h1]
    split
    · rename_i h3
      have h0 : i / 128 = at_ / 128 := by omega
      have h4 : 2 + half * (ss.length / 2 - 1) + i / 128 - (2 + half * (ss.length / 2 - 1) + at_ / 128) = 0 := by omega
      rw [h4, pC_get P (by omega) (by omega) (by omega), show 128 * 0 + i % 128 = i % 128 by omega, pT_old P (by omega) (by omega), h0]
    · rfl
/-- Behind the first j pages. -/
theorem Pl.kept (P : Pl ss half at_ s) {j : Nat} (hj : j ≤ pN at_ s) {i : Nat} (hi : i < at_) : hbyte (setAll ss ((plan ss half at_ s).take j)) half i = hbyte ss half i := by
  unfold hbyte
  rw [setAll_len, P.sAt hj]
  split
  · rename_i h3
    have h0 : i / 128 = at_ / 128 := by omega
    have h4 : 2 + half * (ss.length / 2 - 1) + i / 128 - (2 + half * (ss.length / 2 - 1) + at_ / 128) = 0 := by omega
    have hr := P.room
    have hl : 0 < s.length := by unfold pN at hj; split at hj <;> omega
    rw [h4, pC_get P (by omega) (by omega) (by omega), show 128 * 0 + i % 128 = i % 128 by omega, pT_old P (by omega) (by omega), h0]
  · rfl
/-- Behind all pages: the bytes stand there. -/
theorem Pl.done (P : Pl ss half at_ s) : hTake (setAll ss (plan ss half at_ s)) half (at_ + s.length) = hTake ss half at_ ++ s := by
  have hall : plan ss half at_ s = (plan ss half at_ s).take (pN at_ s) := by rw [← plan_len ss half at_ s, List.take_length]
  apply List.ext_getElem?
  intro i
  by_cases h1 : i < at_
  · rw [hTake_get _ _ (by omega), List.getElem?_append_left (by rw [hTake_len]; exact h1), hTake_get _ _ h1, hall, P.kept (Nat.le_refl _) h1]
  · by_cases h2 : i < at_ + s.length
    · rw [hTake_get _ _ h2, List.getElem?_append_right (by rw [hTake_len]; omega), hTake_len, hall]
      have hn : 0 < pN at_ s := by unfold pN; split <;> omega
      have hq : i / 128 < at_ / 128 + pN at_ s := by unfold pN; split <;> omega
      unfold hbyte
      rw [setAll_len, P.sAt (Nat.le_refl _), if_pos (by omega), show 2 + half * (ss.length / 2 - 1) + i / 128 - (2 + half * (ss.length / 2 - 1) + at_ / 128) = i / 128 - at_ / 128 by omega,
        pC_get P hn (by omega) (by omega), pT_new P (by omega) hn, show 128 * (i / 128 - at_ / 128) + i % 128 - at_ % 128 = i - at_ by omega]
      rw [List.getD_eq_getElem?_getD, List.getElem?_eq_getElem (show i - at_ < s.length by omega)]
      rfl
    · rw [List.getElem?_eq_none (by rw [hTake_len]; omega), List.getElem?_eq_none (by rw [List.length_append, hTake_len]; omega)]
/-- The other half is as it was; so are the heads. -/
theorem Pl.other (P : Pl ss half at_ s) {j : Nat} (hj : j ≤ pN at_ s) {g i : Nat} (hg : g ≤ 1) (hgh : g ≠ half) (hi : i < (ss.length / 2 - 1) * 128) : hbyte (setAll ss ((plan ss half at_ s).take j)) g i = hbyte ss g i := by
  unfold hbyte
  rw [setAll_len, P.sAt hj, if_neg]
  have h1 := P.pages
  have h2 := P.half1
  have : half = 0 ∧ g = 1 ∨ half = 1 ∧ g = 0 := by omega
  rcases this with ⟨rfl, rfl⟩ | ⟨rfl, rfl⟩ <;> omega
theorem Pl.heads (P : Pl ss half at_ s) {j : Nat} (hj : j ≤ pN at_ s) {i : Nat} (hi : i < 2) : Proofs.YthghnlgojmedgaaGreat.sAt (setAll ss ((plan ss half at_ s).take j)) i = Proofs.YthghnlgojmedgaaGreat.sAt ss i := by
  rw [P.sAt hj, if_neg (by omega)]
end

end Go.Proofs.YthghnlgojmedgaaGreat

/-
  The log, as plain data: what a disk tells: a right head, the head that counts. Of no program.
-/
namespace Go.Proofs.YthghnlgojmedgaaGreat
set_option linter.unusedVariables false
set_option linter.unusedSimpArgs false

/-- Frames. -/
def frs (l : List ByteArray) : List UInt8 := l.flatMap fun t => bl (tf t)
def okRec (t : ByteArray) : Prop := 1 ≤ t.size ∧ t.size ≤ 2048
def okRecs (l : List ByteArray) : Prop := ∀ t, t ∈ l → okRec t
theorem frs_snoc (l : List ByteArray) (t : ByteArray) : frs (l ++ [t]) = frs l ++ bl (tf t) := by simp [frs]
theorem frs_cons (t : ByteArray) (l : List ByteArray) : frs (t :: l) = bl (tf t) ++ frs l := by simp [frs]
theorem okRecs_snoc {l : List ByteArray} {t : ByteArray} (h : okRecs l) (ht : okRec t) : okRecs (l ++ [t]) := by
  intro x hx
  rcases List.mem_append.1 hx with hx | hx
  · exact h x hx
  · rw [List.mem_singleton.1 hx]; exact ht
theorem nf_pos (n : Nat) : 0 < (nf n).size := by
  rw [← bl_len, show bl (nf n) = Lib.uvarint n from bl_mk _]
  by_cases h : n < 128
  · rw [Lib.uvarint_small h]; simp
  · rw [Lib.uvarint_big (by omega)]; simp
theorem tf_size (t : ByteArray) : (tf t).size = (nf t.size).size + t.size := by unfold tf; rw [ByteArray.size_append]
theorem tf_pos (t : ByteArray) : 0 < (tf t).size := by have := nf_pos t.size; rw [tf_size]; omega
theorem nf_two {n : Nat} (h : n ≤ 2048) : (nf n).size ≤ 2 := by
  rw [← bl_len, show bl (nf n) = Lib.uvarint n from bl_mk _]
  by_cases h1 : n < 128
  · rw [Lib.uvarint_small h1]; simp
  · rw [Lib.uvarint_big (by omega), Lib.uvarint_small (by omega)]; simp
theorem rds_pre {x y : List UInt8} {b : ByteArray} (h : bl b = x ++ y) : Rds b 0 x x.length := by
  have hl : (bl b).length = b.size := bl_len b
  rw [h, List.length_append] at hl
  refine ⟨?_, by simp, by omega⟩
  rw [h, List.drop_left]; rfl
theorem frs_inj : ∀ (l m : List ByteArray), okRecs l → okRecs m → (frs l).length < 18446744073709551616 → frs l = frs m → l = m
  | [], [], _, _, _, _ => rfl
  | [], t :: m, _, hm, _, h => by
    have h1 := congrArg List.length h
    have h2 := tf_pos t
    rw [frs_cons, List.length_append, bl_len] at h1
    simp only [frs, List.flatMap_nil, List.length_nil] at h1
    omega
  | t :: l, [], hl, _, _, h => by
    have h1 := congrArg List.length h
    have h2 := tf_pos t
    rw [frs_cons, List.length_append, bl_len] at h1
    simp only [frs, List.flatMap_nil, List.length_nil] at h1
    omega
  | t :: l, u :: m, hl, hm, hsz, h => by
    have ht := hl t (by simp)
    have hu := hm u (by simp)
    rw [frs_cons, frs_cons] at h
    rw [frs_cons] at hsz
    have h2 : ∀ (a : ByteArray) (x : List UInt8), okRec a → (bl (tf a) ++ x).length < 18446744073709551616 → rdText ⟨(bl (tf a) ++ x).toArray⟩ 0 2048 = .ok (a, (bl (tf a)).length) := by
      intro a x ha hsz
      refine (rdText_iff (by decide) ?_).2 ⟨rds_pre (y := x) (bl_mk _), by have := ha.2; omega⟩
      rw [← bl_len, bl_mk]; exact hsz
    have a1 := h2 t (frs l) ht hsz
    have a2 := h2 u (frs m) hu (by rw [← h]; exact hsz)
    rw [h, a2] at a1
    have a3 : u = t := by
      have := congrArg (fun x : Except Int (ByteArray × Nat) => match x with | .ok (a, _) => a | .error _ => t) a1
      exact this
    subst a3
    congr 1
    exact frs_inj l m (fun x hx => hl x (by simp [hx])) (fun x hx => hm x (by simp [hx])) (by rw [List.length_append] at hsz; omega) (List.append_cancel_left h)

/-- A right head at a sector, the snapshot, the records. -/
structure Fd (ss : List ByteArray) (a : Nat) (h : WH) (s : ByteArray) (l : List ByteArray) : Prop where
  sec : sAt ss a = secB h
  ok : h.ok a (roomN ss.length)
  snap : bl s = hTake ss h.half h.snap
  all : hTake ss h.half (h.snap + h.log) = bl s ++ frs l
  recs : okRecs l

theorem Fd.uniq {ss : List ByteArray} {a : Nat} {h h' : WH} {s s' : ByteArray} {l l' : List ByteArray} (x : Fd ss a h s l) (y : Fd ss a h' s' l') : h = h' ∧ s = s' ∧ l = l' := by
  have e : h = h' := secB_inj x.ok y.ok (roomN_le _) (roomN_le _) (x.sec.symm.trans y.sec)
  subst e
  have es : s = s' := bl_inj (x.snap.trans y.snap.symm)
  subst es
  refine ⟨rfl, rfl, frs_inj l l' x.recs y.recs ?_ (List.append_cancel_left (x.all.symm.trans y.all))⟩
  have h1 := congrArg List.length x.all
  rw [hTake_len, List.length_append] at h1
  have h2 := x.ok.fit
  have h3 := roomN_le ss.length
  omega
theorem Fd.size {ss : List ByteArray} {a : Nat} {h : WH} {s : ByteArray} {l : List ByteArray} (x : Fd ss a h s l) : s.size = h.snap ∧ (frs l).length = h.log := by
  have h1 := congrArg List.length x.snap
  rw [hTake_len, bl_len] at h1
  have h2 := congrArg List.length x.all
  rw [hTake_len, List.length_append, bl_len] at h2
  omega

/-- The head that counts, the snapshot, the records. -/
structure Cnt (ss : List ByteArray) (h : WH) (s : ByteArray) (l : List ByteArray) : Prop where
  fd : Fd ss (h.number % 2) h s l
  gt : ∀ h' s' l', Fd ss (1 - h.number % 2) h' s' l' → h'.number < h.number

theorem Cnt.uniq {ss : List ByteArray} {h h' : WH} {s s' : ByteArray} {l l' : List ByteArray} (x : Cnt ss h s l) (y : Cnt ss h' s' l') : h = h' ∧ s = s' ∧ l = l' := by
  by_cases hp : h.number % 2 = h'.number % 2
  · exact x.fd.uniq (hp ▸ y.fd)
  · have e1 : 1 - h.number % 2 = h'.number % 2 := by omega
    have e2 : 1 - h'.number % 2 = h.number % 2 := by omega
    have a := x.gt _ _ _ (e1 ▸ y.fd)
    have b := y.gt _ _ _ (e2 ▸ x.fd)
    omega

theorem hbyte_head {ss : List ByteArray} {i : Nat} (hi : i < 2) (h2 : 2 ≤ ss.length) (c : ByteArray) (half k : Nat) : hbyte (ss.set i c) half k = hbyte ss half k := by
  unfold hbyte
  rw [List.length_set, sAt_set' _ _ _ _ (by omega), if_neg (by omega)]

/-- Behind all writes of a call: its head counts. -/
theorem cnt_done {ss : List ByteArray} {h h' : WH} {s s' : ByteArray} {l l' : List ByteArray} {half at_ : Nat} {t : List UInt8} (C : Cnt ss h s l) (P : Pl ss half at_ t) (hN : h.number < 1099511627776) (hn : h'.number = h.number + 1) (hh : h'.half = half)
    (hs : h'.snap ≤ 17000) (hfit : h'.snap + h'.log = at_ + t.length) (e : hTake ss half at_ ++ t = bl s' ++ frs l') (hs' : s'.size = h'.snap) (ok : okRecs l') :
    Cnt ((setAll ss (plan ss half at_ t)).set (h'.number % 2) (secB h')) h' s' l' ∧ sAt ((setAll ss (plan ss half at_ t)).set (h'.number % 2) (secB h')) (h.number % 2) = secB h := by
  obtain ⟨f1, f2, f3⟩ := P.fit
  have hall : plan ss half at_ t = (plan ss half at_ t).take (pN at_ t) := by rw [← plan_len ss half at_ t, List.take_length]
  have hlen : (setAll ss (plan ss half at_ t)).length = ss.length := setAll_len _ _
  have hroom : roomN ss.length = (ss.length / 2 - 1) * 128 := by unfold roomN; rw [if_neg (by omega)]
  have hT : hTake ((setAll ss (plan ss half at_ t)).set (h'.number % 2) (secB h')) half (at_ + t.length) = bl s' ++ frs l' := by
    rw [← e, ← P.done]
    exact hTake_congr fun i _ => hbyte_head (by omega) (by rw [hlen]; omega) _ _ _
  have hold : sAt ((setAll ss (plan ss half at_ t)).set (h'.number % 2) (secB h')) (h.number % 2) = secB h := by
    rw [sAt_set' _ _ _ _ (by rw [hlen]; omega), if_neg (by omega), hall, P.heads (Nat.le_refl _) (by omega)]
    exact C.fd.sec
  refine ⟨⟨⟨?_, ⟨by omega, by omega, rfl, by have := P.half1; omega, hs, ?_⟩, ?_, ?_, ok⟩, ?_⟩, hold⟩
  · rw [sAt_set' _ _ _ _ (by rw [hlen]; omega), if_pos rfl]
  · rw [List.length_set, hlen, hroom, hfit]; exact P.room
  · rw [hh, ← hTake_take _ _ (show h'.snap ≤ at_ + t.length by omega), hT, List.take_left' (by rw [bl_len, hs'])]
  · rw [hh, hfit]; exact hT
  · intro g s2 l2 x
    have hx := x.sec
    rw [show 1 - h'.number % 2 = h.number % 2 by omega, hold] at hx
    have := secB_inj C.fd.ok x.ok (roomN_le _) (roomN_le _) hx
    subst this
    omega

/-- A sector of which no head of the number N or above is told, now or behind so many bytes of such a head. -/
def nB (n i : Nat) : UInt8 := (hiL n 8).getD i 0
def Stale (b : ByteArray) (N : Nat) : Prop :=
  b.size = 128 ∧ ∃ M j, M < N ∧ M % 256 ≠ N % 256 ∧ j < 128 ∧ ∀ i, i < 8 → gB b i = (if i < j then nB N i else nB M i) ∧ gB b (120 + i) = (if 120 + i < j then nB N i else nB M i)
theorem gB_front (h : WH) {i : Nat} (hi : i < 8) : gB (secB h) i = nB h.number i := by
  unfold gB nB
  rw [secB_bl, ← secL_front, List.getD_eq_getElem?_getD, List.getD_eq_getElem?_getD, List.getElem?_take, if_pos hi]
theorem gB_back (h : WH) {i : Nat} (hi : i < 8) : gB (secB h) (120 + i) = nB h.number i := by
  unfold gB nB
  rw [secB_bl, ← secL_back, List.getD_eq_getElem?_getD, List.getD_eq_getElem?_getD, List.getElem?_drop]
theorem nB_inj {n m : Nat} (hn : n < 256 ^ 8) (hm : m < 256 ^ 8) (h : ∀ i, i < 8 → nB n i = nB m i) : n = m := by
  refine hiL_inj hn hm (List.ext_getElem (by rw [hiL_len, hiL_len]) fun i h1 h2 => ?_)
  have h3 := h i (by rw [hiL_len] at h1; exact h1)
  unfold nB at h3
  simpa [List.getD, h1, h2] using h3
theorem nB_last (n : Nat) : nB n 7 = (n % 256).toUInt8 := by
  unfold nB; rw [List.getD_eq_getElem?_getD, hiL_last]; rfl
theorem Stale.not {b : ByteArray} {N : Nat} (h : Stale b N) {g : WH} (hb : b = secB g) (hN : N < 256 ^ 8) (hg : g.number < 256 ^ 8) : g.number < N := by
  obtain ⟨_, M, j, hM, hne, hj, hi⟩ := h
  subst hb
  by_cases h8 : 8 ≤ j
  · have e : g.number = N := nB_inj hg hN fun i hi8 => by
      have := (hi i hi8).1
      rw [gB_front _ hi8, if_pos (by omega)] at this
      exact this
    have h7 := (hi 7 (by omega)).2
    rw [gB_back _ (by omega), if_neg (by omega), e, nB_last, nB_last] at h7
    have := congrArg UInt8.toNat h7
    simp at this
    omega
  · have e : g.number = M := nB_inj hg (by omega) fun i hi8 => by
      have := (hi i hi8).2
      rw [gB_back _ hi8, if_neg (by omega)] at this
      exact this
    omega
theorem Stale.torn {b : ByteArray} {N : Nat} (h : Stale b N) (g : WH) (hg : g.number = N) {k : Nat} (hk : k < 128) : Stale (cutB (secB g) b k) N := by
  obtain ⟨hs, M, j, hM, hne, hj, hi⟩ := h
  have hz := secB_size g
  refine ⟨by rw [tornB_size _ _ _ (by omega) (by omega), hz], M, max j k, hM, hne, by omega, fun i hi8 => ?_⟩
  rw [gB_cutB _ _ _ _ (by omega) (by omega) (by omega), gB_cutB _ _ _ _ (by omega) (by omega) (by omega), gB_front _ hi8, gB_back _ hi8, hg, (hi i hi8).1, (hi i hi8).2]
  constructor
  · by_cases h1 : i < k
    · rw [if_pos h1, if_pos (by omega)]
    · rw [if_neg h1]
      by_cases h2 : i < j
      · rw [if_pos h2, if_pos (by omega)]
      · rw [if_neg h2, if_neg (by omega)]
  · by_cases h1 : 120 + i < k
    · rw [if_pos h1, if_pos (by omega)]
    · rw [if_neg h1]
      by_cases h2 : 120 + i < j
      · rw [if_pos h2, if_pos (by omega)]
      · rw [if_neg h2, if_neg (by omega)]
theorem Stale.next {g : WH} : Stale (secB g) (g.number + 2) :=
  ⟨secB_size g, g.number, 0, by omega, by omega, by omega, fun i hi => ⟨by rw [gB_front _ hi, if_neg (by omega)], by rw [gB_back _ hi, if_neg (by omega)]⟩⟩

/-- Behind a cut, or behind writes that are not heads': what counted counts. -/
theorem cnt_kept {ss tt : List ByteArray} {h : WH} {s : ByteArray} {l : List ByteArray} (C : Cnt ss h s l) (hlen : tt.length = ss.length) (hsec : sAt tt (h.number % 2) = sAt ss (h.number % 2))
    (hT : hTake tt h.half (h.snap + h.log) = hTake ss h.half (h.snap + h.log)) (hst : Stale (sAt tt (1 - h.number % 2)) (h.number + 1)) : Cnt tt h s l := by
  have hok := C.fd.ok
  refine ⟨⟨hsec.trans C.fd.sec, by rw [hlen]; exact hok, ?_, hT.trans C.fd.all, C.fd.recs⟩, fun g s2 l2 x => ?_⟩
  · rw [C.fd.snap, ← hTake_take ss h.half (show h.snap ≤ h.snap + h.log by omega), ← hTake_take tt h.half (show h.snap ≤ h.snap + h.log by omega), hT]
  · have hb := (x.ok.bounds (roomN_le _)).1
    have h2 := hok.n2
    have := hst.not x.sec (by have : (256 : Nat) ^ 8 = 18446744073709551616 := by decide
                              omega) hb
    have h3 := x.ok.par
    omega

end Go.Proofs.YthghnlgojmedgaaGreat
