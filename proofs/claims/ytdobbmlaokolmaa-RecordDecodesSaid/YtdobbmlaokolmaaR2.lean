/-
  record: a change as bytes: num, put.
-/
import Derived.Test.YtdobbmlaokolmaaR0
import Derived.Test.YtdobbmlaokolmaaBd
import Derived.Lib.OthersKept
import Derived.Laws.RangeString
namespace Go.Proofs.Ytdobbmlaokolmaa
open Go.RowKit
set_option linter.unusedVariables false
set_option linter.unusedSimpArgs false

theorem num_walk (w : World) (n : Nat) (hn : n < 9223372036854775808) :
    Calls Try.prog 29 #[.int .i64 n] w fun e w' => e = .returned (.string (nf n)) ∧ Fr [] w w' := by
  go_enter Try.func29, Try.ntmps29
  go_wp2_with (go_at_call 44; refine (pack_num _ n (by omega)).mono ?_; rintro e w1 ⟨rfl, hF⟩)
  go_wp2_with fail
  go_ret
  exact ⟨rfl, hF⟩

theorem St.setIter {W : Base} {w : World} {R : List Thing} (H : St W w R) (i : Nat) {b : Nat} {s : ByteArray} {k : Nat} (hi : R[i]? = some (BlkT b (.stringIter s k))) (k' : Nat) : St W (w.iterAt b s k') (R.set i (BlkT b (.stringIter s k'))) := by
  obtain ⟨F, ⟨rfl, h1⟩, h2, h3⟩ := H.at i hi
  refine h3 _ [b] _ inferInstance ⟨rfl, Lib.iterAt_heap w b s k k' h1⟩ ?_ (fun x hx => .inl hx)
  refine ⟨rfl, rfl, rfl, by simp [World.iterAt], fun j hj hS => ?_⟩
  simp only [World.iterAt]
  rw [Array.getElem?_setIfInBounds_ne (by intro e; exact hS (by simp [e]))]

theorem St.builderAt {W : Base} {w : World} {R : List Thing} (H : St W w R) (n : Nat) (hn : w.heap.size = n) : St W (w.alloc (.cells #[.pointer none, .slice none 0 0] 69)) (R ++ [BdT n []]) := by
  subst hn; exact H.builder

/-- One letter's bytes. -/
def CV.putL (c : CV) (l : UInt8) : List UInt8 :=
  if l = 110 then (nf c.n.toNat).data.toList else if l = 106 then (nf c.job.toNat).data.toList else if l = 112 then (tf c.prog).data.toList else if l = 98 then (nf c.badge.toNat).data.toList
  else if l = 115 then (nf c.slot.toNat ++ nf c.life.toNat).data.toList else if l = 116 then (nf c.texts.length).data.toList ++ c.texts.flatMap (fun s => (tf s).data.toList) else (nf c.code.toNat ++ bf c.bits.toNat).data.toList
/-- A change's bytes. -/
def CV.put (c : CV) : List UInt8 := (nf c.kind.toNat).data.toList ++ (hasS c.kind).data.toList.flatMap c.putL

/-- What Check says of the numbers. -/
structure CV.Fits (c : CV) : Prop where
  kind : 1 ≤ c.kind ∧ c.kind ≤ 6
  n : 0 ≤ c.n ∧ c.n ≤ 1099511627776
  job : 0 ≤ c.job ∧ c.job ≤ 8
  badge : 0 ≤ c.badge ∧ c.badge ≤ 1099511627776
  slot : 0 ≤ c.slot ∧ c.slot ≤ 7
  life : 0 ≤ c.life ∧ c.life ≤ 1099511627776
  code : 0 ≤ c.code ∧ c.code ≤ 7
  bits : 0 ≤ c.bits ∧ c.bits < 18446744073709551616
  prog : c.prog.size ≤ 1024
  texts : c.texts.length ≤ 8
  each : ∀ s, s ∈ c.texts → s.size ≤ 32

theorem nf_le (n : Nat) (hn : n < 18446744073709551616) : (nf n).size ≤ 10 := by
  have := Lib.uvarint_length64 (x := n) hn
  show (Lib.uvarint n).toArray.size ≤ 10
  simpa using this
theorem tf_le (s : ByteArray) (hs : s.size ≤ 1024) : (tf s).size ≤ 1034 := by
  have := nf_le s.size (by omega)
  unfold tf; rw [ByteArray.size_append]; omega
theorem sizeL (s : ByteArray) : s.data.toList.length = s.size := rfl

theorem putL_le (c : CV) (hf : c.Fits) (l : UInt8) : (c.putL l).length ≤ 2000 := by
  have h1 := hf.n; have h2 := hf.job; have h3 := hf.badge; have h4 := hf.slot; have h5 := hf.life; have h6 := hf.code; have h7 := hf.bits; have h8 := hf.prog; have h9 := hf.texts; have h10 := hf.each
  unfold CV.putL
  split
  · rw [sizeL]; have := nf_le c.n.toNat (by omega); omega
  split
  · rw [sizeL]; have := nf_le c.job.toNat (by omega); omega
  split
  · rw [sizeL]; have := tf_le c.prog (by omega); omega
  split
  · rw [sizeL]; have := nf_le c.badge.toNat (by omega); omega
  split
  · rw [sizeL, ByteArray.size_append]; have := nf_le c.slot.toNat (by omega); have := nf_le c.life.toNat (by omega); omega
  split
  · rw [List.length_append, sizeL]
    have := nf_le c.texts.length (by omega)
    have : ∀ (l : List ByteArray), (∀ s, s ∈ l → s.size ≤ 32) → (l.flatMap (fun s => (tf s).data.toList)).length ≤ l.length * 42 := by
      intro l
      induction l with
      | nil => intro _; simp
      | cons a l ih =>
        intro h
        rw [List.flatMap_cons, List.length_append, sizeL, List.length_cons]
        have := ih (fun s hs => h s (List.mem_cons_of_mem _ hs))
        have ha := h a (List.mem_cons_self ..)
        have h2 := nf_le a.size (by omega)
        have h3 : (tf a).size ≤ 42 := by unfold tf; rw [ByteArray.size_append]; omega
        omega
    have := this c.texts h10
    omega
  · rw [sizeL, ByteArray.size_append]; have := nf_le c.code.toNat (by omega)
    have : (bf c.bits.toNat).size = 8 := rfl
    omega

theorem hasS_letter (k : Int) : ∀ l, l ∈ (hasS k).data.toList → l = 110 ∨ l = 106 ∨ l = 112 ∨ l = 98 ∨ l = 115 ∨ l = 116 ∨ l = 114 := by
  intro l hl
  unfold hasS at hl
  repeat' split at hl
  all_goals (simp at hl; try (first | (rcases hl with rfl | rfl | rfl <;> simp) | (rcases hl with rfl | rfl <;> simp) | (subst hl; simp)))
theorem hasS_size (k : Int) : (hasS k).size ≤ 3 := by
  unfold hasS
  repeat' split
  all_goals decide

theorem next_letter {w : World} {ib : Nat} {s : ByteArray} {k : Nat} (hk : w.heap[ib]? = some (.stringIter s k)) (x : UInt8) (hx : s.data.toList[k]? = some x) (h : x.toNat < 128) :
    (Instr.next (.pointer (some ⟨ib, 0, none⟩)) true 0).run Try.prog w = .ok (.tuple #[.bool true, .int .i64 k, .int .i32 x.toNat]) (w.iterAt ib s (k + 1)) := by
  obtain ⟨hlt, rfl⟩ := List.getElem?_eq_some_iff.1 hx
  exact Lib.run_next_ascii_at (P := Try.prog) w ib s k 0 hk hlt h
theorem flat_snoc {l : List UInt8} {k : Nat} {x : UInt8} (f : UInt8 → List UInt8) (hx : l[k]? = some x) (p : List UInt8) : (p ++ (l.take k).flatMap f) ++ f x = p ++ (l.take (k + 1)).flatMap f := by
  rw [List.take_add_one, hx]
  simp
theorem flat_snoc' {α : Type} {l : List α} {k : Nat} {x : α} (f : α → List UInt8) (hx : l[k]? = some x) (p : List UInt8) : (p ++ (l.take k).flatMap f) ++ f x = p ++ (l.take (k + 1)).flatMap f := by
  rw [List.take_add_one, hx]
  simp
theorem flat_le' {α : Type} {l : List α} (f : α → List UInt8) (m : Nat) (hf : ∀ x, x ∈ l → (f x).length ≤ m) : (l.flatMap f).length ≤ l.length * m := by
  induction l with
  | nil => simp
  | cons a l ih =>
    rw [List.flatMap_cons, List.length_append, List.length_cons, Nat.succ_mul]
    have h1 := hf a (List.mem_cons_self ..)
    have h2 := ih (fun x hx => hf x (List.mem_cons_of_mem _ hx))
    omega
theorem nf_ne (n : Nat) : (nf n).data.toList ≠ [] := by
  show (Lib.uvarint n).toArray.toList ≠ []
  by_cases h : 127 < n
  · rw [Lib.uvarint_big (by omega)]; simp
  · rw [Lib.uvarint_small (by omega)]; simp
theorem texts_le (l : List ByteArray) (j : Nat) (h8 : l.length ≤ 8) (h : ∀ s, s ∈ l → s.size ≤ 32) : ((l.take j).flatMap (fun s => (tf s).data.toList)).length ≤ 336 := by
  have h1 := flat_le' (l := l.take j) (fun s : ByteArray => (tf s).data.toList) 42 (fun x hx => by
    have hx := h x (List.mem_of_mem_take hx)
    rw [sizeL]
    have h2 := nf_le x.size (by omega)
    unfold tf; rw [ByteArray.size_append]; omega)
  have h2 : (l.take j).length ≤ 8 := by rw [List.length_take]; omega
  omega
theorem flat_le {l : List UInt8} (f : UInt8 → List UInt8) (hf : ∀ x, (f x).length ≤ 2000) : (l.flatMap f).length ≤ l.length * 2000 := by
  induction l with
  | nil => simp
  | cons a l ih => rw [List.flatMap_cons, List.length_append, List.length_cons]; have := hf a; omega
theorem pre_le (c : CV) (kind k : Nat) (hk : kind < 9223372036854775808) (hc : ∀ l, (c.putL l).length ≤ 2000) : ((nf kind).data.toList ++ ((hasS (kind : Int)).data.toList.take k).flatMap c.putL).length ≤ 6010 := by
  rw [List.length_append, sizeL]
  have h1 := nf_le kind (by omega)
  have h2 := flat_le (l := (hasS (kind : Int)).data.toList.take k) c.putL hc
  have h3 : ((hasS (kind : Int)).data.toList.take k).length ≤ 3 := by
    rw [List.length_take]
    have := hasS_size (kind : Int)
    have h4 : (hasS (kind : Int)).data.toList.length = (hasS (kind : Int)).size := rfl
    omega
  omega

end Go.Proofs.Ytdobbmlaokolmaa
