/-
  Chapter 6 in plain words: what stands behind blanks is what it is without them, up to three columns; deeper it is nothing.
-/
import Derived.Test.YtpfhkjbnofgikaaDoorEvL7p
namespace Go.Proofs.YtpfhkjbnofgikaaDoor.Ev
open Go
set_option linter.unusedVariables false
set_option linter.unusedSimpArgs false
theorem colAt_left (p s : ByteArray) : ∀ i, i ≤ p.size → colAt (p ++ s) i = colAt p i
  | 0, _ => rfl
  | i + 1, h => by
    show stepF (colAt (p ++ s) i) (byteAt (p ++ s) (i : Nat)) = stepF (colAt p i) (byteAt p (i : Nat))
    rw [colAt_left p s i (by omega), byteAt_left p s i (by omega)]
theorem gap_app (p s : ByteArray) (hp : ∀ j : Nat, j < p.size → gapB (byteAt p j)) (hs : 0 < s.size → ¬ gapB (byteAt s (0 : Nat))) : GapEnd (p ++ s) p.size := by
  refine ⟨by rw [size_app]; omega, fun j hj => by rw [byteAt_left p s j hj]; exact hp j hj, fun hlt => ?_⟩
  rw [size_app] at hlt
  have := byteAt_right p s 0
  rw [Nat.add_zero] at this
  rw [this]
  exact hs (by omega)
theorem gap_zero (s : ByteArray) (hs : 0 < s.size → ¬ gapB (byteAt s (0 : Nat))) : GapEnd s 0 := ⟨Nat.zero_le _, fun j hj => absurd hj (Nat.not_lt_zero _), hs⟩
section
variable (p s : ByteArray)
theorem app_tail : s = (p ++ s).extract p.size (p ++ s).size := (ext_right p s).symm
theorem run_app (c : Int) (m : Nat) (h : RunEnd (p ++ s) p.size c m) : RunEnd s 0 c m := by
  have h1 := h.1
  rw [size_app] at h1
  refine ⟨by omega, fun j hj => ?_, fun hlt => ?_⟩
  · rw [Nat.zero_add, ← byteAt_right p s j]; exact h.2.1 j hj
  · rw [Nat.zero_add, ← byteAt_right p s m]; exact h.2.2 (by rw [size_app]; omega)
theorem ext_app (m : Nat) : (p ++ s).extract (p.size + m) (p ++ s).size = s.extract m s.size :=
  (app_ext (p ++ s) s p.size m (app_tail p s) (by rw [size_app]; omega)).symm
theorem headR_app (m : Nat) (hc : colAt p p.size ≤ 3) : HeadR (p ++ s) p.size m ↔ HeadR s 0 m := by
  have e : p.size + m < (p ++ s).size ↔ 0 + m < s.size := by rw [size_app]; omega
  constructor
  · intro h; exact ⟨by show (0 : Int) ≤ 3; decide, h.lo, h.hi, fun hlt => by rw [Nat.zero_add, ← byteAt_right p s m]; exact h.next (e.2 hlt)⟩
  · intro h; exact ⟨by rw [colAt_left p s _ (Nat.le_refl _)]; exact hc, h.lo, h.hi, fun hlt => by rw [byteAt_right p s m]; have := h.next (e.1 hlt); rwa [Nat.zero_add] at this⟩
theorem byte_app0 : byteAt (p ++ s) (p.size : Nat) = byteAt s (0 : Nat) := by have := byteAt_right p s 0; rwa [Nat.add_zero] at this
theorem cnt_app (c : Int) : ∀ k, cntTo (p ++ s) c p.size k = cntTo s c 0 k
  | 0 => rfl
  | k + 1 => by
    show cntTo (p ++ s) c p.size k + (if byteAt (p ++ s) (p.size + k : Nat) = c then 1 else 0) = cntTo s c 0 k + (if byteAt s (0 + k : Nat) = c then 1 else 0)
    rw [cnt_app c k, byteAt_right p s k, Nat.zero_add]
theorem breakR_app (hc : colAt p p.size ≤ 3) : BreakR (p ++ s) p.size ↔ BreakR s 0 := by
  have hz : (p ++ s).size - p.size = s.size := by rw [size_app]; omega
  constructor
  · intro h
    have h0 := h.lt
    rw [size_app] at h0
    refine ⟨by show (0 : Int) ≤ 3; decide, by omega, by rw [← byte_app0 p s]; exact h.sign, fun j _ hj => ?_, by have := h.three; rwa [hz, byte_app0, cnt_app] at this⟩
    rw [← byte_app0 p s, ← byteAt_right p s j]
    exact h.all (p.size + j) (by omega) (by rw [size_app]; omega)
  · intro h
    have h0 := h.lt
    refine ⟨by rw [colAt_left p s _ (Nat.le_refl _)]; exact hc, by rw [size_app]; omega, by rw [byte_app0]; exact h.sign, fun j h1 hj => ?_, by rw [hz, byte_app0, cnt_app]; exact h.three⟩
    rw [size_app] at hj
    have := h.all (j - p.size) (Nat.zero_le _) (by omega)
    rw [← byteAt_right p s (j - p.size), show p.size + (j - p.size) = j by omega] at this
    rw [byte_app0]; exact this
theorem quoteR_app (hc : colAt p p.size ≤ 3) : QuoteR (p ++ s) p.size ↔ QuoteR s 0 := by
  constructor
  · intro h; have h0 := h.lt; rw [size_app] at h0; exact ⟨by show (0 : Int) ≤ 3; decide, by omega, by rw [← byte_app0 p s]; exact h.sign⟩
  · intro h; have h0 := h.lt; exact ⟨by rw [colAt_left p s _ (Nat.le_refl _)]; exact hc, by rw [size_app]; omega, by rw [byte_app0]; exact h.sign⟩
theorem itemR_app (hc : colAt p p.size ≤ 3) : ItemR (p ++ s) p.size ↔ ItemR s 0 := by
  constructor
  · intro h
    have h0 := h.lt; rw [size_app] at h0
    exact ⟨by show (0 : Int) ≤ 3; decide, by omega, by rw [← byte_app0 p s]; exact h.sign, fun hlt => by rw [← byteAt_right p s (0 + 1)]; exact h.next (by rw [size_app]; omega), fun hb => h.no ((breakR_app p s hc).2 hb)⟩
  · intro h
    have h0 := h.lt
    exact ⟨by rw [colAt_left p s _ (Nat.le_refl _)]; exact hc, by rw [size_app]; omega, by rw [byte_app0]; exact h.sign, fun hlt => by rw [size_app] at hlt; rw [byteAt_right p s 1]; exact h.next (by omega), fun hb => h.no ((breakR_app p s hc).1 hb)⟩
theorem itemV_app (c k k' c' : Int) (x x' : ByteArray) (h : ItemV (p ++ s) p.size c k x) (h' : ItemV s 0 c' k' x') : c = c' ∧ k = k' + colAt p p.size ∧ x = x' := by
  have e1 : (p ++ s).extract (p.size + 1) (p ++ s).size = s.extract (0 + 1) s.size := ext_app p s 1
  have e2 := colAt_left p s p.size (Nat.le_refl _)
  refine ⟨h.sign.trans ((byte_app0 p s).trans h'.sign.symm), ?_⟩
  obtain ⟨j, hj⟩ := gap_ex (s.extract (0 + 1) s.size)
  by_cases he : j = (s.extract (0 + 1) s.size).size
  · obtain ⟨a1, a2⟩ := h.empty j (e1 ▸ hj) (e1 ▸ he)
    obtain ⟨b1, b2⟩ := h'.empty j hj he
    have z : colAt s 0 = 0 := rfl
    exact ⟨by omega, a2.trans b2.symm⟩
  · obtain ⟨a1, a2⟩ := h.full j (e1 ▸ hj) (e1 ▸ he)
    obtain ⟨b1, b2⟩ := h'.full j hj he
    rw [e1] at a1 a2
    have z : colAt s 0 = 0 := rfl
    exact ⟨by omega, stripV_unique _ _ _ _ a2 b2⟩
end
theorem head_deep (p s : ByteArray) (hp : ∀ j : Nat, j < p.size → gapB (byteAt p j)) (hs : 0 < s.size → ¬ gapB (byteAt s (0 : Nat))) (hc : colAt p p.size ≤ 3) (i m i' m' : Nat) (n n' : Int) (x x' : ByteArray) (b b' : Bool)
    (hi : GapEnd (p ++ s) i) (hm : RunEnd (p ++ s) i 35 m) (h1 : b = true ↔ HeadR (p ++ s) i m) (h2 : b = true → n = m ∧ x = titleC ((p ++ s).extract (i + m) (p ++ s).size)) (h3 : b = false → n = 0 ∧ x = ⟨#[]⟩)
    (hi' : GapEnd s i') (hm' : RunEnd s i' 35 m') (k1 : b' = true ↔ HeadR s i' m') (k2 : b' = true → n' = m' ∧ x' = titleC (s.extract (i' + m') s.size)) (k3 : b' = false → n' = 0 ∧ x' = ⟨#[]⟩) : n = n' ∧ x = x' ∧ b = b' := by
  obtain rfl := gap_unique _ _ _ hi (gap_app p s hp hs)
  obtain rfl := gap_unique _ _ _ hi' (gap_zero s hs)
  obtain rfl := run_unique s 0 35 m m' (run_app p s 35 m hm) hm'
  have hb : b = b' := by rw [Bool.eq_iff_iff, h1, k1, headR_app p s m hc]
  subst hb
  rw [ext_app] at h2
  rw [Nat.zero_add] at k2
  cases b with
  | true => exact ⟨(h2 rfl).1.trans (k2 rfl).1.symm, (h2 rfl).2.trans (k2 rfl).2.symm, rfl⟩
  | false => exact ⟨(h3 rfl).1.trans (k3 rfl).1.symm, (h3 rfl).2.trans (k3 rfl).2.symm, rfl⟩
theorem quote_deep (p s : ByteArray) (hp : ∀ j : Nat, j < p.size → gapB (byteAt p j)) (hs : 0 < s.size → ¬ gapB (byteAt s (0 : Nat))) (hc : colAt p p.size ≤ 3) (i i' : Nat) (x x' : ByteArray) (b b' : Bool)
    (hi : GapEnd (p ++ s) i) (h1 : b = true ↔ QuoteR (p ++ s) i) (h2 : b = true → StripV ((p ++ s).extract (i + 1) (p ++ s).size) 1 x) (h3 : b = false → x = ⟨#[]⟩)
    (hi' : GapEnd s i') (k1 : b' = true ↔ QuoteR s i') (k2 : b' = true → StripV (s.extract (i' + 1) s.size) 1 x') (k3 : b' = false → x' = ⟨#[]⟩) : x = x' ∧ b = b' := by
  obtain rfl := gap_unique _ _ _ hi (gap_app p s hp hs)
  obtain rfl := gap_unique _ _ _ hi' (gap_zero s hs)
  have hb : b = b' := by rw [Bool.eq_iff_iff, h1, k1, quoteR_app p s hc]
  subst hb
  rw [ext_app] at h2
  cases b with
  | true => exact ⟨stripV_unique _ _ _ _ (h2 rfl) (k2 rfl), rfl⟩
  | false => exact ⟨(h3 rfl).trans (k3 rfl).symm, rfl⟩
theorem item_deep (p s : ByteArray) (hp : ∀ j : Nat, j < p.size → gapB (byteAt p j)) (hs : 0 < s.size → ¬ gapB (byteAt s (0 : Nat))) (hc : colAt p p.size ≤ 3) (i i' : Nat) (c k c' k' : Int) (x x' : ByteArray) (b b' : Bool)
    (hi : GapEnd (p ++ s) i) (h1 : b = true ↔ ItemR (p ++ s) i) (h2 : b = true → ItemV (p ++ s) i c k x) (h3 : b = false → c = 0 ∧ k = 0 ∧ x = ⟨#[]⟩)
    (hi' : GapEnd s i') (k1 : b' = true ↔ ItemR s i') (k2 : b' = true → ItemV s i' c' k' x') (k3 : b' = false → c' = 0 ∧ k' = 0 ∧ x' = ⟨#[]⟩) : c = c' ∧ x = x' ∧ b = b' ∧ (b' = true → k = k' + colAt p p.size) := by
  obtain rfl := gap_unique _ _ _ hi (gap_app p s hp hs)
  obtain rfl := gap_unique _ _ _ hi' (gap_zero s hs)
  have hb : b = b' := by rw [Bool.eq_iff_iff, h1, k1, itemR_app p s hc]
  subst hb
  cases b with
  | true =>
    obtain ⟨a1, a2, a3⟩ := itemV_app p s c k k' c' x x' (h2 rfl) (k2 rfl)
    exact ⟨a1, a3, rfl, fun _ => a2⟩
  | false =>
    obtain ⟨a1, a2, a3⟩ := h3 rfl
    obtain ⟨b1, b2, b3⟩ := k3 rfl
    exact ⟨a1.trans b1.symm, a3.trans b3.symm, rfl, fun e => by cases e⟩
theorem break_deep (p s : ByteArray) (hp : ∀ j : Nat, j < p.size → gapB (byteAt p j)) (hs : 0 < s.size → ¬ gapB (byteAt s (0 : Nat))) (hc : colAt p p.size ≤ 3) (i i' : Nat) (b b' : Bool)
    (hi : GapEnd (p ++ s) i) (h1 : b = true ↔ BreakR (p ++ s) i) (hi' : GapEnd s i') (k1 : b' = true ↔ BreakR s i') : b = b' := by
  obtain rfl := gap_unique _ _ _ hi (gap_app p s hp hs)
  obtain rfl := gap_unique _ _ _ hi' (gap_zero s hs)
  rw [Bool.eq_iff_iff, h1, k1, breakR_app p s hc]
/-- Four columns deep. -/
theorem col_deep (p s : ByteArray) (hp : ∀ j : Nat, j < p.size → gapB (byteAt p j)) (hs : 0 < s.size → ¬ gapB (byteAt s (0 : Nat))) (hc : colAt p p.size > 3) (i : Nat) (hi : GapEnd (p ++ s) i) : colAt (p ++ s) i > 3 := by
  obtain rfl := gap_unique _ _ _ hi (gap_app p s hp hs)
  rw [colAt_left p s _ (Nat.le_refl _)]; exact hc
theorem spaces_gap (c : Nat) : ∀ j : Nat, j < (spaces c).size → gapB (byteAt (spaces c) (j : Nat)) := fun j hj => by
  rw [spaces_size] at hj
  refine .inl ?_
  show (((spaces c).data[j]?.getD 0).toNat : Int) = 32
  have : (spaces c).data[j]? = some 32 := by simp [spaces, hj]
  rw [this]; rfl
theorem spaces_col : ∀ c i : Nat, i ≤ c → colAt (spaces c) i = i
  | c, 0, _ => rfl
  | c, i + 1, h => by
    show stepF (colAt (spaces c) i) (byteAt (spaces c) (i : Nat)) = _
    rw [spaces_col c i (by omega)]
    have : byteAt (spaces c) (i : Nat) = 32 := by
      show (((spaces c).data[i]?.getD 0).toNat : Int) = 32
      have : (spaces c).data[i]? = some 32 := by simp [spaces, show i < c by omega]
      rw [this]; rfl
    rw [this]
    show (i : Int) + 1 = ((i + 1 : Nat) : Int)
    omega
end Go.Proofs.YtpfhkjbnofgikaaDoor.Ev
