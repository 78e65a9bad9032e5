/-
  Chapter 6 in plain words: a heading's text is told, however many signs close it.
-/
import Derived.Test.YtpfhkjbnofgikaaDoorEvL10
import Derived.Lib.RuneCount
namespace Go.Proofs.YtpfhkjbnofgikaaDoor.Ev
open Go
set_option linter.unusedVariables false
set_option linter.unusedSimpArgs false
def hashes (k : Nat) : ByteArray := ⟨(List.replicate k (35 : UInt8)).toArray⟩
theorem hashes_size (k : Nat) : (hashes k).size = k := by show (List.replicate k (35 : UInt8)).toArray.size = k; simp
theorem hashes_at (k j : Nat) (h : j < k) : byteAt (hashes k) (j : Nat) = 35 := by
  show (((hashes k).data[j]?.getD 0).toNat : Int) = 35
  have : (hashes k).data[j]? = some 35 := by simp [hashes, h]
  rw [this]; rfl
/-- A text without blanks and signs. -/
structure TitleS (s : ByteArray) : Prop where
  lo : 0 < s.size
  all : ∀ j : Nat, j < s.size → ¬ gapB (byteAt s (j : Nat)) ∧ ¬ byteAt s (j : Nat) = 35
theorem TitleS.app {s t : ByteArray} (h : TitleS s) (ht : ∀ j : Nat, j < t.size → ¬ gapB (byteAt t (j : Nat)) ∧ ¬ byteAt t (j : Nat) = 35) : TitleS (s ++ t) := by
  refine ⟨by rw [size_app]; have := h.lo; omega, fun j hj => ?_⟩
  rw [size_app] at hj
  by_cases h1 : j < s.size
  · rw [byteAt_left s t j h1]; exact h.all j h1
  · have := byteAt_right s t (j - s.size)
    rw [show s.size + (j - s.size) = j by omega] at this
    rw [this]; exact ht _ (by omega)
/-- The bytes of a rune that may be. -/
def encV (v : Nat) : ByteArray :=
  if v < 0x80 then ⟨#[UInt8.ofNat v]⟩
  else if v < 0x800 then ⟨#[UInt8.ofNat (0xC0 + v / 64), UInt8.ofNat (0x80 + v % 64)]⟩
  else if v < 0x10000 then ⟨#[UInt8.ofNat (0xE0 + v / 4096), UInt8.ofNat (0x80 + v / 64 % 64), UInt8.ofNat (0x80 + v % 64)]⟩
  else ⟨#[UInt8.ofNat (0xF0 + v / 262144), UInt8.ofNat (0x80 + v / 4096 % 64), UInt8.ofNat (0x80 + v / 64 % 64), UInt8.ofNat (0x80 + v % 64)]⟩
theorem enc_V (r : Int) : Utf8.encode r = encV (if Utf8.valid r then r.toNat else Utf8.runeError) := rfl
theorem enc_title (c : Nat) (h1 : 32 < c) (h2 : c ≠ 35) : ∀ j : Nat, j < (Utf8.encode (c : Int)).size → ¬ gapB (byteAt (Utf8.encode (c : Int)) (j : Nat)) ∧ ¬ byteAt (Utf8.encode (c : Int)) (j : Nat) = 35 := by
  have key : ∀ (l : List UInt8), (∀ b, b ∈ l → b.toNat ≠ 32 ∧ b.toNat ≠ 9 ∧ b.toNat ≠ 35) → ∀ j : Nat, j < (⟨l.toArray⟩ : ByteArray).size → ¬ gapB (byteAt ⟨l.toArray⟩ (j : Nat)) ∧ ¬ byteAt ⟨l.toArray⟩ (j : Nat) = 35 := fun l hl j hj => by
    have hj2 : j < l.length := by
      have : (⟨l.toArray⟩ : ByteArray).size = l.length := by show l.toArray.size = _; simp
      omega
    have e : byteAt ⟨l.toArray⟩ (j : Nat) = ((l[j]'hj2).toNat : Int) := by
      show ((l.toArray[j]?.getD 0).toNat : Int) = _
      simp [hj2]
    have := hl _ (List.getElem_mem hj2)
    rw [e]; unfold gapB; omega
  have hof : ∀ n : Nat, n < 256 → (UInt8.ofNat n).toNat = n := fun n hn => by simp [UInt8.toNat_ofNat']; omega
  have main : ∀ v : Nat, v < 1114112 → 32 < v → v ≠ 35 → ∀ j : Nat, j < (encV v).size → ¬ gapB (byteAt (encV v) (j : Nat)) ∧ ¬ byteAt (encV v) (j : Nat) = 35 := by
    intro v hv h3 h4
    unfold encV
    by_cases a : v < 0x80
    · rw [if_pos a]
      exact key [UInt8.ofNat v] (fun b hb => by simp only [List.mem_singleton] at hb; subst hb; rw [hof v (by omega)]; omega)
    · rw [if_neg a]
      by_cases a2 : v < 0x800
      · rw [if_pos a2]
        exact key [_, _] (fun b hb => by simp only [List.mem_cons, List.not_mem_nil, or_false] at hb; rcases hb with rfl | rfl <;> rw [hof _ (by omega)] <;> omega)
      · rw [if_neg a2]
        by_cases a3 : v < 0x10000
        · rw [if_pos a3]
          exact key [_, _, _] (fun b hb => by simp only [List.mem_cons, List.not_mem_nil, or_false] at hb; rcases hb with rfl | rfl | rfl <;> rw [hof _ (by omega)] <;> omega)
        · rw [if_neg a3]
          exact key [_, _, _, _] (fun b hb => by simp only [List.mem_cons, List.not_mem_nil, or_false] at hb; rcases hb with rfl | rfl | rfl | rfl <;> rw [hof _ (by omega)] <;> omega)
  rw [enc_V]
  by_cases hv : Utf8.valid (c : Int) = true
  · have hlt : c < 1114112 := by
      simp only [Utf8.valid, Bool.or_eq_true, Bool.and_eq_true, decide_eq_true_eq] at hv
      omega
    rw [if_pos hv, Int.toNat_natCast]
    exact main c hlt h1 h2
  · rw [if_neg hv]
    exact main Utf8.runeError (by decide) (by decide) (by decide)
theorem enc_le (c : Int) : (Utf8.encode c).size ≤ 4 := by
  rw [enc_V]
  generalize (if Utf8.valid c then c.toNat else Utf8.runeError) = v
  unfold encV
  split
  · show 1 ≤ 4; decide
  split
  · show 2 ≤ 4; decide
  split
  · show 3 ≤ 4; decide
  · show 4 ≤ 4; decide
theorem tmod6 (n : Int) : -6 < n.tmod 6 ∧ n.tmod 6 < 6 := by
  rcases Int.le_total 0 n with h | h
  · rw [Int.tmod_eq_emod_of_nonneg h]; omega
  · have e : n.tmod 6 = -((-n).tmod 6) := by rw [Int.neg_tmod, Int.neg_neg]
    rw [e, Int.tmod_eq_emod_of_nonneg (by omega)]; omega
/-- Blanks at a text's end. -/
theorem back_app (s t : ByteArray) (ht : ∀ j : Nat, j < t.size → gapB (byteAt t (j : Nat))) (hs : TitleS s) : backC (s ++ t) WS = s := by
  have h0 := hs.lo
  rw [back_gap (s ++ t) s.size ⟨by rw [size_app]; omega, fun j h1 h2 => ?_, fun _ => ?_⟩, ext_left]
  · rw [size_app] at h2
    have := byteAt_right s t (j - s.size)
    rw [show s.size + (j - s.size) = j by omega] at this
    rw [this]; exact ht _ (by omega)
  · rw [byteAt_left s t _ (by omega)]
    exact (hs.all _ (by omega)).1
theorem trim_app (p s : ByteArray) (hp : ∀ j : Nat, j < p.size → gapB (byteAt p j)) (hs : 0 < s.size → ¬ gapB (byteAt s (0 : Nat))) : trimC (p ++ s) WS = s := by
  rw [trim_gap _ _ (gap_app p s hp hs), ext_right]
theorem title_gap (p s t : ByteArray) (hp : ∀ j : Nat, j < p.size → gapB (byteAt p j)) (ht : ∀ j : Nat, j < t.size → gapB (byteAt t (j : Nat))) (hs : TitleS s) : titleC (p ++ s ++ t) = s := by
  have h0 := hs.lo
  have hf : 0 < (s ++ t).size → ¬ gapB (byteAt (s ++ t) (0 : Nat)) := fun _ => by rw [byteAt_left s t 0 h0]; exact (hs.all 0 h0).1
  have e1 : trW (p ++ s ++ t) = s := by
    rw [trW_eq', ByteArray.append_assoc, trim_app p (s ++ t) hp hf]
    exact back_app s t ht hs
  have e2 : backC s ⟨#[35]⟩ = s := by
    have := back_run s 35 (by decide) s.size ⟨Nat.le_refl _, fun j h1 h2 => by omega, fun _ => (hs.all _ (by omega)).2⟩
    rw [ext_all] at this
    exact this
  rw [titleC_F _ (by rw [e1, e2]; rintro (k | k); omega; exact (hs.all _ (by omega)).1 k), e1]
theorem title_hash (p s : ByteArray) (c : Nat) (hc : 0 < c) (hp : ∀ j : Nat, j < p.size → gapB (byteAt p j)) (hs : TitleS s) : titleC (p ++ s ++ ⟨#[32]⟩ ++ hashes c) = s := by
  have h0 := hs.lo
  have hz : (⟨#[32]⟩ : ByteArray).size = 1 := rfl
  have hzc := hashes_size c
  have hzt : (s ++ ⟨#[32]⟩ : ByteArray).size = s.size + 1 := by rw [size_app, hz]
  have hf : 0 < (s ++ ⟨#[32]⟩ ++ hashes c).size → ¬ gapB (byteAt (s ++ ⟨#[32]⟩ ++ hashes c) (0 : Nat)) := fun _ => by
    rw [ByteArray.append_assoc, byteAt_left s _ 0 h0]; exact (hs.all 0 h0).1
  have hlast : ∀ j : Nat, j < c → byteAt (s ++ ⟨#[32]⟩ ++ hashes c) (s.size + 1 + j : Nat) = 35 := fun j hj => by
    have := byteAt_right (s ++ ⟨#[32]⟩) (hashes c) j
    rw [hzt] at this
    rw [this]; exact hashes_at c j hj
  have hza : (s ++ ⟨#[32]⟩ ++ hashes c).size = s.size + 1 + c := by rw [size_app, hzt, hzc]
  have e1 : trW (p ++ s ++ ⟨#[32]⟩ ++ hashes c) = s ++ ⟨#[32]⟩ ++ hashes c := by
    have e0 : p ++ s ++ ⟨#[32]⟩ ++ hashes c = p ++ (s ++ ⟨#[32]⟩ ++ hashes c) := by simp only [ByteArray.append_assoc]
    rw [trW_eq', e0, trim_app p _ hp hf]
    have := back_gap (s ++ ⟨#[32]⟩ ++ hashes c) (s ++ ⟨#[32]⟩ ++ hashes c).size ⟨Nat.le_refl _, fun j h1 h2 => by omega, fun _ => by
      have := hlast (c - 1) (by omega)
      rw [show s.size + 1 + (c - 1) = (s ++ ⟨#[32]⟩ ++ hashes c).size - 1 by omega] at this
      rw [this]; unfold gapB; omega⟩
    rw [ext_all] at this
    exact this
  have e2 : backC (s ++ ⟨#[32]⟩ ++ hashes c) ⟨#[35]⟩ = s ++ ⟨#[32]⟩ := by
    have := back_run (s ++ ⟨#[32]⟩ ++ hashes c) 35 (by decide) (s.size + 1) ⟨by omega, fun j h1 h2 => by
      have := hlast (j - (s.size + 1)) (by omega)
      rwa [show s.size + 1 + (j - (s.size + 1)) = j by omega] at this, fun _ => by
        rw [byteAt_left (s ++ ⟨#[32]⟩) (hashes c) _ (by omega)]
        have := byteAt_right s ⟨#[32]⟩ 0
        rw [Nat.add_zero] at this
        rw [show s.size + 1 - 1 = s.size by omega, this]
        show ¬ (32 : Int) = 35
        decide⟩
    rw [← hzt, ext_left] at this
    exact this
  have hg : gapB (byteAt (s ++ ⟨#[32]⟩) (s.size : Nat)) := by
    have := byteAt_right s ⟨#[32]⟩ 0
    rw [Nat.add_zero] at this
    rw [this]; exact .inl rfl
  rw [titleC_T _ (by rw [e1, e2]; exact .inr (by rw [hzt, show s.size + 1 - 1 = s.size by omega]; exact hg)), e1, e2]
  exact back_app s ⟨#[32]⟩ (fun j hj => by
    obtain rfl : j = 0 := Nat.lt_one_iff.1 hj
    exact .inl rfl) hs
/-- What begins with signs, and a blank behind them. -/
theorem hash_head (k : Nat) (r : ByteArray) (h1 : 1 ≤ k) (hr : 0 < r.size → ¬ byteAt r (0 : Nat) = 35) : GapEnd (hashes k ++ r) 0 ∧ RunEnd (hashes k ++ r) 0 35 k ∧ (hashes k ++ r).extract k (hashes k ++ r).size = r := by
  have hz := hashes_size k
  refine ⟨⟨Nat.zero_le _, fun j hj => absurd hj (Nat.not_lt_zero _), fun _ => ?_⟩, ⟨by rw [size_app, hz]; omega, fun j hj => ?_, fun hlt => ?_⟩, ?_⟩
  · rw [byteAt_left _ _ 0 (by omega), hashes_at k 0 (by omega)]; unfold gapB; omega
  · rw [Nat.zero_add, byteAt_left _ _ j (by omega)]; exact hashes_at k j hj
  · rw [Nat.zero_add] at hlt ⊢
    rw [size_app, hz] at hlt
    have := byteAt_right (hashes k) r 0
    rw [Nat.add_zero, hz] at this
    rw [this]; exact hr (by omega)
  · have := ext_right (hashes k) r
    rwa [hz] at this
theorem hash_yes (k : Nat) (r : ByteArray) (h1 : 1 ≤ k) (h2 : k ≤ 6) (h0 : 0 < r.size) (hg : gapB (byteAt r (0 : Nat))) (i m : Nat) (n : Int) (x : ByteArray) (b : Bool) (a1 : GapEnd (hashes k ++ r) i) (a2 : RunEnd (hashes k ++ r) i 35 m) (a3 : b = true ↔ HeadR (hashes k ++ r) i m)
    (a4 : b = true → n = m ∧ x = titleC ((hashes k ++ r).extract (i + m) (hashes k ++ r).size)) : b = true ∧ n = k ∧ x = titleC r := by
  obtain ⟨c1, c2, c3⟩ := hash_head k r h1 (fun _ => by unfold gapB at hg; omega)
  obtain rfl := gap_unique _ _ _ a1 c1
  obtain rfl := run_unique _ _ _ _ _ a2 c2
  have hb : b = true := a3.2 ⟨by show (0 : Int) ≤ 3; decide, h1, h2, fun hlt => by
    have := byteAt_right (hashes m) r 0
    rw [Nat.add_zero, hashes_size] at this
    rw [Nat.zero_add, this]; exact hg⟩
  obtain ⟨e1, e2⟩ := a4 hb
  exact ⟨hb, e1, by rw [e2, Nat.zero_add, c3]⟩
theorem hash_no (k : Nat) (r : ByteArray) (h1 : 1 ≤ k) (hr : 0 < r.size) (h35 : ¬ byteAt r (0 : Nat) = 35) (hn : k ≤ 6 → ¬ gapB (byteAt r (0 : Nat))) (i m : Nat) (b : Bool) (a1 : GapEnd (hashes k ++ r) i) (a2 : RunEnd (hashes k ++ r) i 35 m) (a3 : b = true ↔ HeadR (hashes k ++ r) i m) : b = false := by
  obtain ⟨c1, c2, c3⟩ := hash_head k r h1 (fun _ => h35)
  obtain rfl := gap_unique _ _ _ a1 c1
  obtain rfl := run_unique _ _ _ _ _ a2 c2
  cases b with
  | false => rfl
  | true =>
    have h := a3.1 rfl
    have hz := hashes_size m
    have h2 := h.next (by rw [size_app, hz]; omega)
    have := byteAt_right (hashes m) r 0
    rw [Nat.add_zero, hz] at this
    rw [Nat.zero_add, this] at h2
    exact absurd h2 (hn h.hi)
theorem hash6 (k : Nat) (h : k ≤ 6) : (⟨#[35, 35, 35, 35, 35, 35]⟩ : ByteArray).extract 0 k = hashes k := by
  match k, h with
  | 0, _ => rfl
  | 1, _ => rfl
  | 2, _ => rfl
  | 3, _ => rfl
  | 4, _ => rfl
  | 5, _ => rfl
  | 6, _ => rfl
  | k + 7, h => exact absurd h (by omega)
theorem hash7 (k : Nat) (h : k ≤ 6) : (⟨#[35, 35, 35, 35, 35, 35, 35]⟩ : ByteArray).extract 0 k = hashes k := by
  match k, h with
  | 0, _ => rfl
  | 1, _ => rfl
  | 2, _ => rfl
  | 3, _ => rfl
  | 4, _ => rfl
  | 5, _ => rfl
  | 6, _ => rfl
  | k + 7, h => exact absurd h (by omega)
theorem hash8 (k : Nat) (h : k ≤ 7) : (⟨#[35, 35, 35, 35, 35, 35, 35, 35]⟩ : ByteArray).extract 0 k = hashes k := by
  match k, h with
  | 0, _ => rfl
  | 1, _ => rfl
  | 2, _ => rfl
  | 3, _ => rfl
  | 4, _ => rfl
  | 5, _ => rfl
  | 6, _ => rfl
  | 7, _ => rfl
  | k + 8, h => exact absurd h (by omega)
theorem hash7b : (⟨#[35, 35, 35, 35, 35, 35, 35, 32]⟩ : ByteArray) = hashes 7 ++ ⟨#[32]⟩ := rfl
theorem title_any (k c : Nat) (s : ByteArray) (hs : TitleS s) : titleC (⟨#[32]⟩ ++ s ++ ⟨#[32]⟩ ++ hashes c) = s := by
  have hp : ∀ j : Nat, j < (⟨#[32]⟩ : ByteArray).size → gapB (byteAt ⟨#[32]⟩ (j : Nat)) := fun j hj => by
    have hz : (⟨#[32]⟩ : ByteArray).size = 1 := rfl
    have : j = 0 := by omega
    subst this; exact .inl rfl
  by_cases h : 0 < c
  · exact title_hash _ s c h hp hs
  · have h0 : c = 0 := by omega
    subst h0
    have e : hashes 0 = ⟨#[]⟩ := rfl
    have e2 : (⟨#[32]⟩ ++ s ++ ⟨#[32]⟩ ++ hashes 0 : ByteArray) = ⟨#[32]⟩ ++ s ++ ⟨#[32]⟩ := by
      rw [e]; apply ByteArray.ext; simp [ByteArray.data_append]
    rw [e2]
    exact title_gap _ s _ hp hp hs
end Go.Proofs.YtpfhkjbnofgikaaDoor.Ev
