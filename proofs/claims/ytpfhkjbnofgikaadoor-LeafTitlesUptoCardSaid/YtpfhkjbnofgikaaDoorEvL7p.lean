/-
  Chapter 6 in plain words: one answer is the other's; no line is two of these.
-/
import Derived.Test.YtpfhkjbnofgikaaDoorEvL1b
namespace Go.Proofs.YtpfhkjbnofgikaaDoor.Ev
open Go
set_option linter.unusedVariables false
set_option linter.unusedSimpArgs false
theorem head_eq (s : ByteArray) (i m i' m' : Nat) (n n' : Int) (x x' : ByteArray) (b b' : Bool) (hi : GapEnd s i) (hm : RunEnd s i 35 m) (h1 : b = true ↔ HeadR s i m) (h2 : b = true → n = m ∧ x = titleC (s.extract (i + m) s.size)) (h3 : b = false → n = 0 ∧ x = ⟨#[]⟩)
    (hi' : GapEnd s i') (hm' : RunEnd s i' 35 m') (k1 : b' = true ↔ HeadR s i' m') (k2 : b' = true → n' = m' ∧ x' = titleC (s.extract (i' + m') s.size)) (k3 : b' = false → n' = 0 ∧ x' = ⟨#[]⟩) : n = n' ∧ x = x' ∧ b = b' := by
  obtain rfl := gap_unique s i i' hi hi'
  obtain rfl := run_unique s i 35 m m' hm hm'
  have hb : b = b' := by rw [Bool.eq_iff_iff, h1, k1]
  subst hb
  cases b with
  | true => exact ⟨(h2 rfl).1.trans (k2 rfl).1.symm, (h2 rfl).2.trans (k2 rfl).2.symm, rfl⟩
  | false => exact ⟨(h3 rfl).1.trans (k3 rfl).1.symm, (h3 rfl).2.trans (k3 rfl).2.symm, rfl⟩
theorem quote_eq (s : ByteArray) (i i' : Nat) (x x' : ByteArray) (b b' : Bool) (hi : GapEnd s i) (h1 : b = true ↔ QuoteR s i) (h2 : b = true → StripV (s.extract (i + 1) s.size) 1 x) (h3 : b = false → x = ⟨#[]⟩)
    (hi' : GapEnd s i') (k1 : b' = true ↔ QuoteR s i') (k2 : b' = true → StripV (s.extract (i' + 1) s.size) 1 x') (k3 : b' = false → x' = ⟨#[]⟩) : x = x' ∧ b = b' := by
  obtain rfl := gap_unique s i i' hi hi'
  have hb : b = b' := by rw [Bool.eq_iff_iff, h1, k1]
  subst hb
  cases b with
  | true => exact ⟨stripV_unique _ _ _ _ (h2 rfl) (k2 rfl), rfl⟩
  | false => exact ⟨(h3 rfl).trans (k3 rfl).symm, rfl⟩
theorem item_eq (s : ByteArray) (i i' : Nat) (c k c' k' : Int) (x x' : ByteArray) (b b' : Bool) (hi : GapEnd s i) (h1 : b = true ↔ ItemR s i) (h2 : b = true → ItemV s i c k x) (h3 : b = false → c = 0 ∧ k = 0 ∧ x = ⟨#[]⟩)
    (hi' : GapEnd s i') (k1 : b' = true ↔ ItemR s i') (k2 : b' = true → ItemV s i' c' k' x') (k3 : b' = false → c' = 0 ∧ k' = 0 ∧ x' = ⟨#[]⟩) : c = c' ∧ k = k' ∧ x = x' ∧ b = b' := by
  obtain rfl := gap_unique s i i' hi hi'
  have hb : b = b' := by rw [Bool.eq_iff_iff, h1, k1]
  subst hb
  cases b with
  | true =>
    obtain ⟨a1, a2, a3⟩ := itemV_unique s i c k c' k' x x' (h2 rfl) (k2 rfl)
    exact ⟨a1, a2, a3, rfl⟩
  | false =>
    obtain ⟨a1, a2, a3⟩ := h3 rfl
    obtain ⟨b1, b2, b3⟩ := k3 rfl
    exact ⟨a1.trans b1.symm, a2.trans b2.symm, a3.trans b3.symm, rfl⟩
theorem break_eq (s : ByteArray) (i i' : Nat) (b b' : Bool) (hi : GapEnd s i) (h1 : b = true ↔ BreakR s i) (hi' : GapEnd s i') (k1 : b' = true ↔ BreakR s i') : b = b' := by
  obtain rfl := gap_unique s i i' hi hi'
  rw [Bool.eq_iff_iff, h1, k1]
theorem head_sign (s : ByteArray) (i m : Nat) (hm : RunEnd s i 35 m) (h : HeadR s i m) : i < s.size ∧ byteAt s (i : Nat) = 35 := by
  have h0 := h.lo
  have h1 := hm.1
  have h2 := hm.2.1 0 (by omega)
  rw [Nat.add_zero] at h2
  exact ⟨by omega, h2⟩
theorem item_k (s : ByteArray) (i : Nat) (c k : Int) (x : ByteArray) (hr : ItemR s i) (h : ItemV s i c k x) : (c = 42 ∨ c = 45 ∨ c = 43) ∧ 2 ≤ k ∧ k ≤ 8 := by
  refine ⟨by rw [h.sign]; exact hr.sign, ?_⟩
  have hc := hr.col
  have h0 := colAt_le s i
  obtain ⟨j, hj⟩ := gap_ex (s.extract (i + 1) s.size)
  by_cases he : j = (s.extract (i + 1) s.size).size
  · obtain ⟨a1, _⟩ := h.empty j hj he
    omega
  · obtain ⟨a1, _⟩ := h.full j hj he
    have hn : 0 < j := by
      refine Nat.pos_of_ne_zero fun e0 => ?_
      subst e0
      have hz : 0 < (s.extract (i + 1) s.size).size := by omega
      have hlt : i + 1 < s.size := by rw [ByteArray.size_extract] at hz; omega
      have hg := hr.next hlt
      have := byteAt_ext s (i + 1) 0
      rw [Nat.add_zero] at this
      rw [← this] at hg
      exact hj.2.2 hz hg
    have h2 := colAt_le (s.extract (i + 1) s.size) j
    split at a1 <;> omega
end Go.Proofs.YtpfhkjbnofgikaaDoor.Ev
