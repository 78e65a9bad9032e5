/-
  Chapter 5 in plain words: words, keys, texts that need no quotes, quoted texts, pairs.
-/
import Derived.Test.YtnlkgnoogcakjaaGreatDoorEvName
import Derived.Test.YtnlkgnoogcakjaaGreatDoorEvPrimD
import Derived.Lib.IndexAny
namespace Go.Proofs.YtnlkgnoogcakjaaGreatDoor.Ev
open Go
set_option linter.unusedVariables false
set_option linter.unusedSimpArgs false

/-! ### What a rune's bytes are -/
theorem decN_bytes (n b0 b1 b2 b3 : Nat) :
    (b0 < 128 ∧ Lib.decodeN n b0 b1 b2 b3 = (b0, 1)) ∨ (128 ≤ b0 ∧ 128 ≤ (Lib.decodeN n b0 b1 b2 b3).1 ∧ ((Lib.decodeN n b0 b1 b2 b3).2 = 1 ∨ ((Lib.decodeN n b0 b1 b2 b3).2 = 2 ∧ 128 ≤ b1) ∨ ((Lib.decodeN n b0 b1 b2 b3).2 = 3 ∧ 128 ≤ b1 ∧ 128 ≤ b2) ∨ ((Lib.decodeN n b0 b1 b2 b3).2 = 4 ∧ 128 ≤ b1 ∧ 128 ≤ b2 ∧ 128 ≤ b3))) := by
  unfold Lib.decodeN
  repeat' split
  all_goals first | exact .inl ⟨by assumption, rfl⟩ | (refine .inr ⟨by omega, ?_, ?_⟩ <;> dsimp only <;> omega)
theorem getD_byteAt (s : ByteArray) (j : Nat) (h : j < s.size) : ((s.data.toList.getD j 0).toNat : Int) = byteAt s (j : Nat) := by
  obtain ⟨b, h1, h2⟩ := byteAt_some s j h
  rw [h2, List.getD_eq_getElem?_getD, h1]; rfl
/-- A rune is a byte below 128, or all its bytes are above. -/
theorem dec_bytes (s : ByteArray) (pos : Nat) (h : pos < s.size) :
    (((Utf8.decode s pos).1 : Int) = byteAt s (pos : Nat) ∧ (Utf8.decode s pos).2 = 1 ∧ (Utf8.decode s pos).1 < 128) ∨ (128 ≤ (Utf8.decode s pos).1 ∧ pos + (Utf8.decode s pos).2 ≤ s.size ∧ ∀ j : Nat, pos ≤ j → j < pos + (Utf8.decode s pos).2 → 128 ≤ byteAt s (j : Nat)) := by
  have hw := Lib.decode_width_pos s pos h
  rw [Lib.decode_N] at *
  have hb := decN_bytes (s.data.toList.length - pos) (s.data.toList.getD pos 0).toNat (s.data.toList.getD (pos + 1) 0).toNat (s.data.toList.getD (pos + 2) 0).toNat (s.data.toList.getD (pos + 3) 0).toNat
  have h0 := getD_byteAt s pos h
  rcases hb with ⟨h1, h2⟩ | ⟨h1, h2, h3⟩
  · left
    rw [h2]
    exact ⟨h0, rfl, h1⟩
  · right
    have hle : pos + (Lib.decodeN (s.data.toList.length - pos) (s.data.toList.getD pos 0).toNat (s.data.toList.getD (pos + 1) 0).toNat (s.data.toList.getD (pos + 2) 0).toNat (s.data.toList.getD (pos + 3) 0).toNat).2 ≤ s.size := by
      have := Lib.decodeL_le (s.data.toList.drop pos) (fun e => by
        have := congrArg List.length e
        rw [List.length_drop] at this
        have hz : s.data.toList.length = s.size := by first | (simp; done) | (simp; rfl)
        simp only [List.length_nil] at this
        omega)
      rw [Lib.decodeL_drop, Lib.decode_N, List.length_drop] at this
      have hz : s.data.toList.length = s.size := by first | (simp; done) | (simp; rfl)
      omega
    refine ⟨h2, hle, fun j hj1 hj2 => ?_⟩
    have hjs : j < s.size := by omega
    rw [← getD_byteAt s j hjs]
    rcases h3 with h3 | ⟨h3, h4⟩ | ⟨h3, h4, h5⟩ | ⟨h3, h4, h5, h6⟩
    · obtain rfl : j = pos := by omega
      omega
    · have : j = pos ∨ j = pos + 1 := by omega
      rcases this with rfl | rfl <;> omega
    · have : j = pos ∨ j = pos + 1 ∨ j = pos + 2 := by omega
      rcases this with rfl | rfl | rfl <;> omega
    · have : j = pos ∨ j = pos + 1 ∨ j = pos + 2 ∨ j = pos + 3 := by omega
      rcases this with rfl | rfl | rfl | rfl <;> omega

/-! ### Words -/
def gapU (b : UInt8) : Bool := [32, 9].contains b
theorem gapU_iff (b : UInt8) : gapU b = true ↔ gapB (b.toNat : Int) := by
  unfold gapU gapB
  simp only [List.contains_cons, List.contains_nil, Bool.or_false, Bool.or_eq_true, beq_iff_eq]
  constructor
  · rintro (rfl | rfl)
    · left; rfl
    · right; rfl
  · rintro (h | h)
    · left; exact UInt8.toNat.inj (by show b.toNat = 32; omega)
    · right; exact UInt8.toNat.inj (by show b.toNat = 9; omega)
def WordEnd (s : ByteArray) (n : Nat) : Prop := n ≤ s.size ∧ (∀ j : Nat, j < n → ¬ gapB (byteAt s (j : Nat))) ∧ (n < s.size → gapB (byteAt s (n : Nat)))
theorem word_unique {s : ByteArray} {n m : Nat} (h : WordEnd s n) (k : WordEnd s m) : n = m := by
  rcases Nat.lt_trichotomy n m with h1 | h1 | h1
  · exact absurd (h.2.2 (by have := k.1; omega)) (k.2.1 n h1)
  · exact h1
  · exact absurd (k.2.2 (by have := h.1; omega)) (h.2.1 m h1)
def wordN (s : ByteArray) : Nat := (s.data.toList.takeWhile (fun b => !gapU b)).length
theorem len_size (s : ByteArray) : s.data.toList.length = s.size := by first | (simp; done) | (simp; rfl)
theorem take_while_len (p : UInt8 → Bool) : ∀ (l : List UInt8), (l.takeWhile p).length ≤ l.length ∧ (∀ j b, j < (l.takeWhile p).length → l[j]? = some b → p b = true) ∧ (∀ b, l[(l.takeWhile p).length]? = some b → p b = false)
  | [] => ⟨Nat.le_refl _, fun j b hj => absurd hj (Nat.not_lt_zero _), fun b hb => by simp at hb⟩
  | a :: l => by
    obtain ⟨h1, h2, h3⟩ := take_while_len p l
    cases ha : p a with
    | true =>
      rw [List.takeWhile_cons_of_pos ha]
      refine ⟨by simp; omega, fun j b hj hb => ?_, fun b hb => ?_⟩
      · cases j with
        | zero => simp at hb; exact hb ▸ ha
        | succ j => exact h2 j b (by simpa using hj) (by simpa using hb)
      · exact h3 b (by simpa using hb)
    | false =>
      rw [List.takeWhile_cons_of_neg (by simp [ha])]
      exact ⟨by simp, fun j b hj => absurd hj (Nat.not_lt_zero _), fun b hb => by simp at hb; exact hb ▸ ha⟩
theorem wordN_end (s : ByteArray) : WordEnd s (wordN s) := by
  obtain ⟨h1, h2, h3⟩ := take_while_len (fun b => !gapU b) s.data.toList
  refine ⟨by rw [← len_size]; exact h1, fun j hj hg => ?_, fun hlt => ?_⟩
  · obtain ⟨b, hb, hv⟩ := byteAt_some s j (by rw [← len_size]; exact Nat.lt_of_lt_of_le hj h1)
    have := h2 j b hj hb
    rw [hv] at hg
    rw [(gapU_iff b).2 hg] at this; cases this
  · obtain ⟨b, hb, hv⟩ := byteAt_some s (wordN s) hlt
    have := h3 b hb
    rw [hv]
    exact (gapU_iff b).1 (by simpa using this)
/-- What IndexAny says of a blank and a tab. -/
theorem indexAny_word (s : ByteArray) : Lib.indexAny s.data.toList [32, 9] = if wordN s < s.size then (wordN s : Int) else -1 := by
  have hw := wordN_end s
  have hno : Lib.NoAny s.data.toList [32, 9] (wordN s) := fun j b hj hb => by
    obtain ⟨b', hb', hv⟩ := byteAt_some s j (by have := hw.1; omega)
    rw [hb] at hb'
    obtain rfl := Option.some.inj hb'
    have := hw.2.1 j hj
    rw [hv] at this
    cases hc : ([32, 9] : List UInt8).contains b with
    | false => rfl
    | true => exact absurd ((gapU_iff b).1 hc) this
  split
  · rename_i hlt
    obtain ⟨b, hb, hv⟩ := byteAt_some s (wordN s) hlt
    have := hw.2.2 hlt
    rw [hv] at this
    exact Lib.indexAny_hit hno hb ((gapU_iff b).2 this)
  · rename_i hge
    refine Lib.indexAny_none ?_
    have : wordN s = s.data.toList.length := by have := hw.1; rw [len_size]; omega
    rw [← this]; exact hno

/-! ### Keys, and texts that need no quotes -/
def KeyS (s : ByteArray) : Prop := 0 < s.size ∧ ∀ j : Nat, j < s.size → 97 ≤ byteAt s (j : Nat) ∧ byteAt s (j : Nat) ≤ 122
theorem keyB_iff (s : ByteArray) : keyB s = true ↔ KeyS s := by
  unfold keyB KeyS
  rw [Bool.and_eq_true, List.all_eq_true, len_size]
  constructor
  · rintro ⟨h1, h2⟩
    refine ⟨by simpa using h2, fun j hj => ?_⟩
    obtain ⟨b, hb, hv⟩ := byteAt_some s j hj
    have := h1 b (List.mem_of_getElem? hb)
    rw [Bool.and_eq_true] at this
    have h3 := Nat.le_of_ble_eq_true this.1
    have h4 := Nat.le_of_ble_eq_true this.2
    rw [hv]; omega
  · rintro ⟨h1, h2⟩
    refine ⟨fun b hb => ?_, by simpa using h1⟩
    obtain ⟨j, hj⟩ := List.getElem?_of_mem hb
    have hjs : j < s.size := by rw [← len_size]; exact (List.getElem?_eq_some_iff.1 hj).1
    obtain ⟨h3, h4⟩ := h2 j hjs
    rw [byteAt_list s j b hj] at h3 h4
    rw [Bool.and_eq_true]
    exact ⟨Nat.ble_eq_true_of_le (by omega), Nat.ble_eq_true_of_le (by omega)⟩
def quoteP (r : Int) : Prop := blankB r = true ∨ r = 34 ∨ r = 61 ∨ r = 92
theorem quoteR_iff (r : Nat) : quoteR r = true ↔ quoteP (r : Int) := by
  unfold quoteR quoteP blankB
  simp only [Bool.or_eq_true, Nat.beq_eq, decide_eq_true_eq]
  omega
def BareS (s : ByteArray) : Prop := 0 < s.size ∧ ∀ r, r ∈ runes s → ¬ quoteP (r : Int)
theorem bareB_iff (s : ByteArray) : bareB s = true ↔ BareS s := by
  unfold bareB BareS
  rw [Bool.and_eq_true, List.all_eq_true, len_size]
  constructor
  · rintro ⟨h1, h2⟩
    exact ⟨by simpa using h2, fun r hr hq => by have := h1 r hr; rw [(quoteR_iff r).2 hq] at this; cases this⟩
  · rintro ⟨h1, h2⟩
    refine ⟨fun r hr => ?_, by simpa using h1⟩
    cases hq : quoteR r with
    | false => rfl
    | true => exact absurd ((quoteR_iff r).1 hq) (h2 r hr)
end Go.Proofs.YtnlkgnoogcakjaaGreatDoor.Ev
