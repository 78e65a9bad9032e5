/-
  Chapter 6 in plain words: headings, breaks, quotes, items.
-/
import Derived.Test.YtpfhkjbnofgikaaDoorEvPlain
namespace Go.Proofs.YtpfhkjbnofgikaaDoor.Ev
open Go
set_option linter.unusedVariables false
set_option linter.unusedSimpArgs false

theorem dropWhile_app {α : Type} (p : α → Bool) : ∀ (a b : List α), (∃ x, x ∈ a ∧ p x = false) → (a ++ b).dropWhile p = a.dropWhile p ++ b
  | [], _, h => by obtain ⟨x, hx, _⟩ := h; cases hx
  | y :: a, b, h => by
    cases hy : p y with
    | false => rw [List.cons_append, List.dropWhile_cons_of_neg (by simp [hy]), List.dropWhile_cons_of_neg (by simp [hy])]; rfl
    | true =>
      rw [List.cons_append, List.dropWhile_cons_of_pos hy, List.dropWhile_cons_of_pos hy]
      refine dropWhile_app p a b ?_
      obtain ⟨x, hx, hp⟩ := h
      rcases List.mem_cons.1 hx with rfl | hx
      · rw [hy] at hp; cases hp
      · exact ⟨x, hx, hp⟩
theorem dropWhile_head {α : Type} (p : α → Bool) (l : List α) (x : α) (r : List α) (h : l.dropWhile p = x :: r) : p x = false := by
  induction l with
  | nil => cases h
  | cons y l ih =>
    cases hy : p y with
    | true => rw [List.dropWhile_cons_of_pos hy] at h; exact ih h
    | false => rw [List.dropWhile_cons_of_neg (by simp [hy])] at h; cases h; exact hy
/-- Which end is cut first is all the same. -/
theorem trim_comm (l cs : List UInt8) : Lib.trimRightS (Lib.trimLeftS l cs) cs = Lib.trimLeftS (Lib.trimRightS l cs) cs := by
  unfold Lib.trimRightS Lib.trimLeftS
  generalize hp : (fun x : UInt8 => cs.contains x) = p
  have hsplit := List.takeWhile_append_dropWhile (p := p) (l := l)
  cases hd : l.dropWhile p with
  | nil =>
    rw [hd, List.append_nil] at hsplit
    have hall : ∀ x, x ∈ l → p x = true := fun x hx => by
      rw [← hsplit] at hx
      exact List.all_eq_true.1 (List.all_takeWhile (p := p) (l := l)) x hx
    have h2 : l.reverse.dropWhile p = [] := by
      have := List.dropWhile_append_of_pos (p := p) (l₁ := l.reverse) (l₂ := []) (fun x hx => hall x (List.mem_reverse.1 hx))
      simpa using this
    rw [h2]; simp
  | cons x r =>
    have hx := dropWhile_head p l x r hd
    have hex : ∃ y, y ∈ (x :: r).reverse ∧ p y = false := ⟨x, by simp, hx⟩
    rw [hd] at hsplit
    have e1 : l.reverse.dropWhile p = (x :: r).reverse.dropWhile p ++ (l.takeWhile p).reverse := by
      conv => lhs; rw [← hsplit, List.reverse_append]
      exact dropWhile_app p _ _ hex
    rw [e1, List.reverse_append, List.reverse_reverse]
    have hall : ∀ y, y ∈ l.takeWhile p → p y = true := fun y hy => List.all_eq_true.1 (List.all_takeWhile (p := p) (l := l)) y hy
    rw [List.dropWhile_append_of_pos hall]
    -- what is left begins with x
    have e2 : (x :: r).reverse.dropWhile p = (r.reverse.dropWhile p) ++ [x] ∨ (x :: r).reverse.dropWhile p = [x] := by
      rw [List.reverse_cons]
      by_cases hr : ∃ y, y ∈ r.reverse ∧ p y = false
      · exact .inl (dropWhile_app p _ _ hr)
      · right
        have hall2 : ∀ y, y ∈ r.reverse → p y = true := fun y hy => by
          cases h : p y with
          | true => rfl
          | false => exact absurd ⟨y, hy, h⟩ hr
        rw [List.dropWhile_append_of_pos hall2, List.dropWhile_cons_of_neg (by simp [hx])]
    rcases e2 with e2 | e2 <;> rw [e2] <;> simp [hx]

/-- A heading's text, of what stands behind its signs. -/
def trW (s : ByteArray) : ByteArray := ⟨(Lib.trimS s.data.toList [32, 9]).toArray⟩
theorem trW_eq (s : ByteArray) : trW s = trimC (backC s WS) WS := rfl
theorem trW_eq' (s : ByteArray) : trW s = backC (trimC s WS) WS := by
  show (⟨_⟩ : ByteArray) = ⟨_⟩
  congr 2
  exact (trim_comm s.data.toList [32, 9]).symm
theorem trW_size (s : ByteArray) : (trW s).size ≤ s.size := Nat.le_trans (trimC_size (backC s WS) WS) (backC_size s WS)
open Classical in
noncomputable def titleC (t : ByteArray) : ByteArray :=
  if (backC (trW t) ⟨#[35]⟩).size = 0 ∨ gapB (byteAt (backC (trW t) ⟨#[35]⟩) ((backC (trW t) ⟨#[35]⟩).size - 1 : Nat)) then backC (backC (trW t) ⟨#[35]⟩) WS else trW t
theorem titleC_T (t : ByteArray) (h : (backC (trW t) ⟨#[35]⟩).size = 0 ∨ gapB (byteAt (backC (trW t) ⟨#[35]⟩) ((backC (trW t) ⟨#[35]⟩).size - 1 : Nat))) : titleC t = backC (backC (trW t) ⟨#[35]⟩) WS := by
  unfold titleC; rw [if_pos h]
theorem titleC_F (t : ByteArray) (h : ¬ ((backC (trW t) ⟨#[35]⟩).size = 0 ∨ gapB (byteAt (backC (trW t) ⟨#[35]⟩) ((backC (trW t) ⟨#[35]⟩).size - 1 : Nat)))) : titleC t = trW t := by
  unfold titleC; rw [if_neg h]

structure HeadR (s : ByteArray) (i m : Nat) : Prop where
  col : colAt s i ≤ 3
  lo : 1 ≤ m
  hi : m ≤ 6
  next : i + m < s.size → gapB (byteAt s (i + m : Nat))

def cntTo (s : ByteArray) (c : Int) (i : Nat) : Nat → Nat
  | 0 => 0
  | k + 1 => cntTo s c i k + (if byteAt s (i + k : Nat) = c then 1 else 0)
theorem cntTo_le (s : ByteArray) (c : Int) (i : Nat) : ∀ k, cntTo s c i k ≤ k
  | 0 => Nat.le_refl _
  | k + 1 => by have := cntTo_le s c i k; unfold cntTo; split <;> omega
structure BreakR (s : ByteArray) (i : Nat) : Prop where
  col : colAt s i ≤ 3
  lt : i < s.size
  sign : byteAt s i = 42 ∨ byteAt s i = 45 ∨ byteAt s i = 95
  all : ∀ j : Nat, i ≤ j → j < s.size → byteAt s j = byteAt s i ∨ gapB (byteAt s j)
  three : 3 ≤ cntTo s (byteAt s i) i (s.size - i)
structure QuoteR (s : ByteArray) (i : Nat) : Prop where
  col : colAt s i ≤ 3
  lt : i < s.size
  sign : byteAt s i = 62

def StripEnd (s : ByteArray) (n : Int) (i : Nat) : Prop := i ≤ s.size ∧ (∀ j : Nat, j < i → gapB (byteAt s j) ∧ colAt s j < n) ∧ (i < s.size → ¬ gapB (byteAt s i) ∨ n ≤ colAt s i)
theorem strip_unique (s : ByteArray) (n : Int) (i j : Nat) (hi : StripEnd s n i) (hj : StripEnd s n j) : i = j := by
  rcases Nat.lt_trichotomy i j with h | h | h
  · have h1 := hj.2.1 i h
    have h2 := hi.2.2 (by have := hj.1; omega)
    exact absurd h1 (by rintro ⟨a, b⟩; rcases h2 with h2 | h2; exact h2 a; omega)
  · exact h
  · have h1 := hi.2.1 j h
    have h2 := hj.2.2 (by have := hi.1; omega)
    exact absurd h1 (by rintro ⟨a, b⟩; rcases h2 with h2 | h2; exact h2 a; omega)
def spaces (k : Nat) : ByteArray := ⟨(List.replicate k (32 : UInt8)).toArray⟩
theorem spaces_size (k : Nat) : (spaces k).size = k := by show (List.replicate k (32 : UInt8)).toArray.size = k; simp
theorem spaces_succ (k : Nat) : spaces k ++ ⟨#[32]⟩ = spaces (k + 1) := by
  apply ByteArray.ext
  apply Array.toList_inj.1
  simp [spaces, ByteArray.data_append, List.replicate_succ']
/-- A text without so many columns at its beginning. -/
def StripV (s : ByteArray) (n : Int) (x : ByteArray) : Prop := ∃ i, StripEnd s n i ∧ x = spaces (colAt s i - n).toNat ++ s.extract i s.size
theorem stripV_unique (s : ByteArray) (n : Int) (x y : ByteArray) (hx : StripV s n x) (hy : StripV s n y) : x = y := by
  obtain ⟨i, h1, rfl⟩ := hx
  obtain ⟨j, h2, rfl⟩ := hy
  rw [strip_unique s n i j h1 h2]
structure ItemR (s : ByteArray) (i : Nat) : Prop where
  col : colAt s i ≤ 3
  lt : i < s.size
  sign : byteAt s i = 42 ∨ byteAt s i = 45 ∨ byteAt s i = 43
  next : i + 1 < s.size → gapB (byteAt s (i + 1 : Nat))
  no : ¬ BreakR s i
/-- An item's sign, how far in it is, what is within. -/
structure ItemV (s : ByteArray) (i : Nat) (c k : Int) (t : ByteArray) : Prop where
  sign : c = byteAt s i
  empty : ∀ j, GapEnd (s.extract (i + 1) s.size) j → j = (s.extract (i + 1) s.size).size → k = colAt s i + 2 ∧ t = ⟨#[]⟩
  full : ∀ j, GapEnd (s.extract (i + 1) s.size) j → j ≠ (s.extract (i + 1) s.size).size → k = colAt s i + 1 + (if colAt (s.extract (i + 1) s.size) j > 4 then 1 else colAt (s.extract (i + 1) s.size) j) ∧
    StripV (s.extract (i + 1) s.size) (if colAt (s.extract (i + 1) s.size) j > 4 then 1 else colAt (s.extract (i + 1) s.size) j) t
theorem itemV_unique (s : ByteArray) (i : Nat) (c k c' k' : Int) (t t' : ByteArray) (h : ItemV s i c k t) (h' : ItemV s i c' k' t') : c = c' ∧ k = k' ∧ t = t' := by
  obtain ⟨j, hj⟩ := gap_ex (s.extract (i + 1) s.size)
  refine ⟨h.sign.trans h'.sign.symm, ?_⟩
  by_cases he : j = (s.extract (i + 1) s.size).size
  · obtain ⟨a1, a2⟩ := h.empty j hj he
    obtain ⟨b1, b2⟩ := h'.empty j hj he
    exact ⟨a1.trans b1.symm, a2.trans b2.symm⟩
  · obtain ⟨a1, a2⟩ := h.full j hj he
    obtain ⟨b1, b2⟩ := h'.full j hj he
    exact ⟨a1.trans b1.symm, stripV_unique _ _ _ _ a2 b2⟩
end Go.Proofs.YtpfhkjbnofgikaaDoor.Ev
