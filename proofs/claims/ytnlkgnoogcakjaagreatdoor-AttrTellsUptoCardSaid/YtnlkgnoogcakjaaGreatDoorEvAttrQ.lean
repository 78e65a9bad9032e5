/-
  Chapter 5 in plain words: quoted texts, pairs, rows of pairs.
-/
import Derived.Test.YtnlkgnoogcakjaaGreatDoorEvRuleA
import Derived.Lib.IndexLaws
namespace Go.Proofs.YtnlkgnoogcakjaaGreatDoor.Ev
open Go
set_option linter.unusedVariables false
set_option linter.unusedSimpArgs false
open Classical

/-! ### Quoted texts -/
theorem ext_size (t : ByteArray) (i : Nat) : (t.extract i t.size).size = t.size - i := by simp [ByteArray.size_extract]
noncomputable def quoF (s : ByteArray) : Nat → Nat → ByteArray → Option (ByteArray × Nat)
  | 0, _, _ => none
  | f + 1, i, out => if i < s.size then
      (if byteAt s (i : Nat) = 34 then some (out, i + 1)
       else if byteAt s (i : Nat) = 92 then
         (if i + 1 < s.size ∧ (byteAt s (i + 1 : Nat) = 34 ∨ byteAt s (i + 1 : Nat) = 92) then quoF s f (i + 2) (out ++ s.extract (i + 1) (i + 2)) else none)
       else quoF s f (i + 1) (out ++ s.extract i (i + 1)))
    else none
theorem quoF_fuel (s : ByteArray) : ∀ f g i out, s.size - i ≤ f → s.size - i ≤ g → quoF s f i out = quoF s g i out
  | 0, 0, _, _, _, _ => rfl
  | 0, g + 1, i, out, h, _ => by simp only [quoF]; rw [if_neg (by omega)]
  | f + 1, 0, i, out, _, h => by simp only [quoF]; rw [if_neg (by omega)]
  | f + 1, g + 1, i, out, h1, h2 => by
    simp only [quoF]
    rw [quoF_fuel s f g (i + 2) _ (by omega) (by omega), quoF_fuel s f g (i + 1) _ (by omega) (by omega)]
noncomputable def quoAt (s : ByteArray) (i : Nat) (out : ByteArray) : Option (ByteArray × Nat) := quoF s (s.size - i) i out
theorem quoAt_end {s : ByteArray} {i : Nat} {out : ByteArray} (h : ¬ i < s.size) : quoAt s i out = none := by
  unfold quoAt
  rw [show s.size - i = 0 by omega]; rfl
theorem quoAt_eq {s : ByteArray} {i : Nat} {out : ByteArray} (h : i < s.size) : quoAt s i out = if byteAt s (i : Nat) = 34 then some (out, i + 1) else if byteAt s (i : Nat) = 92 then (if i + 1 < s.size ∧ (byteAt s (i + 1 : Nat) = 34 ∨ byteAt s (i + 1 : Nat) = 92) then quoAt s (i + 2) (out ++ s.extract (i + 1) (i + 2)) else none) else quoAt s (i + 1) (out ++ s.extract i (i + 1)) := by
  unfold quoAt
  obtain ⟨f, hf⟩ : ∃ f, s.size - i = f + 1 := ⟨s.size - i - 1, by omega⟩
  rw [hf]
  simp only [quoF]
  rw [if_pos h, quoF_fuel s f (s.size - (i + 2)) (i + 2) _ (by omega) (by omega), quoF_fuel s f (s.size - (i + 1)) (i + 1) _ (by omega) (by omega)]
theorem quoAt_q {s : ByteArray} {i : Nat} {out : ByteArray} (h : i < s.size) (h1 : byteAt s (i : Nat) = 34) : quoAt s i out = some (out, i + 1) := by rw [quoAt_eq h, if_pos h1]
theorem quoAt_esc {s : ByteArray} {i : Nat} {out : ByteArray} (h1 : byteAt s (i : Nat) = 92) (h2 : i + 1 < s.size) (h3 : byteAt s (i + 1 : Nat) = 34 ∨ byteAt s (i + 1 : Nat) = 92) : quoAt s i out = quoAt s (i + 2) (out ++ s.extract (i + 1) (i + 2)) := by
  rw [quoAt_eq (by omega), if_neg (by omega), if_pos h1, if_pos ⟨h2, h3⟩]
theorem quoAt_bad {s : ByteArray} {i : Nat} {out : ByteArray} (h : i < s.size) (h1 : byteAt s (i : Nat) = 92) (h3 : ¬ (i + 1 < s.size ∧ (byteAt s (i + 1 : Nat) = 34 ∨ byteAt s (i + 1 : Nat) = 92))) : quoAt s i out = none := by
  rw [quoAt_eq h, if_neg (by omega), if_pos h1, if_neg h3]
theorem quoAt_one {s : ByteArray} {i : Nat} {out : ByteArray} (h : i < s.size) (h1 : ¬ byteAt s (i : Nat) = 34) (h2 : ¬ byteAt s (i : Nat) = 92) : quoAt s i out = quoAt s (i + 1) (out ++ s.extract i (i + 1)) := by
  rw [quoAt_eq h, if_neg h1, if_neg h2]
theorem ext_ext (s : ByteArray) (k a b : Nat) (hb : k + b ≤ s.size) : (s.extract k s.size).extract a b = s.extract (k + a) (k + b) := by
  rw [ByteArray.extract_extract]
  congr 1
  omega
theorem ext_ext_end (s : ByteArray) (k a : Nat) : (s.extract k s.size).extract a (s.extract k s.size).size = s.extract (k + a) s.size := by
  rw [ByteArray.extract_extract]
  simp only [ByteArray.size_extract, Nat.min_self]
  by_cases h : k ≤ s.size
  · rw [show min (k + (s.size - k)) s.size = s.size by omega]
  · rw [show s.size - k = 0 by omega]
    have h1 : s.extract (k + a) (min (k + 0) s.size) = ByteArray.empty := ByteArray.ext (by simp; omega)
    have h2 : s.extract (k + a) s.size = ByteArray.empty := ByteArray.ext (by simp; omega)
    rw [h1, h2]
theorem quoF_shift (s : ByteArray) (k : Nat) : ∀ f i out, quoF s f (k + i) out = (quoF (s.extract k s.size) f i out).map fun p => (p.1, k + p.2)
  | 0, i, out => rfl
  | f + 1, i, out => by
    have hz : (s.extract k s.size).size = s.size - k := by simp [ByteArray.size_extract]
    simp only [quoF, hz, byteAt_ext]
    by_cases h : i < s.size - k
    · rw [if_pos h, if_pos (show k + i < s.size by omega)]
      rw [show k + (i + 1) = k + i + 1 by omega]
      by_cases h1 : byteAt s (k + i : Nat) = 34
      · rw [if_pos h1, if_pos h1]; rfl
      · rw [if_neg h1, if_neg h1]
        by_cases h2 : byteAt s (k + i : Nat) = 92
        · rw [if_pos h2, if_pos h2]
          by_cases h3 : i + 1 < s.size - k ∧ (byteAt s (k + i + 1 : Nat) = 34 ∨ byteAt s (k + i + 1 : Nat) = 92)
          · rw [if_pos h3, if_pos ⟨show k + i + 1 < s.size by omega, h3.2⟩, ext_ext s k _ _ (by omega), ← quoF_shift s k f (i + 2)]
            rfl
          · rw [if_neg h3, if_neg (fun h4 => h3 ⟨by omega, h4.2⟩)]; rfl
        · rw [if_neg h2, if_neg h2, ext_ext s k _ _ (by omega), ← quoF_shift s k f (i + 1)]
          rfl
    · rw [if_neg h, if_neg (by omega)]; rfl
theorem quoAt_shift (s : ByteArray) (k i : Nat) (out : ByteArray) : quoAt s (k + i) out = (quoAt (s.extract k s.size) i out).map fun p => (p.1, k + p.2) := by
  unfold quoAt
  have hz : (s.extract k s.size).size = s.size - k := by simp [ByteArray.size_extract]
  rw [hz, show s.size - (k + i) = s.size - k - i by omega, quoF_shift]
theorem quoF_le (s : ByteArray) : ∀ f i out x m, quoF s f i out = some (x, m) → i < m ∧ m ≤ s.size ∧ x.size ≤ out.size + (m - i) ∧ byteAt s (m - 1 : Nat) = 34
  | 0, i, out, x, m, h => by cases h
  | f + 1, i, out, x, m, h => by
    simp only [quoF] at h
    have hz : ∀ a b : Nat, (s.extract a b).size ≤ b - a := fun a b => by simp [ByteArray.size_extract]; omega
    split at h
    · rename_i hi
      split at h
      · rename_i h1
        cases h
        exact ⟨by omega, by omega, by omega, by rw [show i + 1 - 1 = i by omega]; exact h1⟩
      split at h
      · split at h
        · have := quoF_le s f _ _ _ _ h
          have hh := hz (i + 1) (i + 2)
          rw [ByteArray.size_append] at this
          exact ⟨by omega, this.2.1, by omega, this.2.2.2⟩
        · cases h
      · have := quoF_le s f _ _ _ _ h
        have hh := hz i (i + 1)
        rw [ByteArray.size_append] at this
        exact ⟨by omega, this.2.1, by omega, this.2.2.2⟩
    · cases h
noncomputable def quoted (s : ByteArray) : Option (ByteArray × Nat) := quoAt s 1 ⟨#[]⟩
theorem quoted_le {s x : ByteArray} {m : Nat} (h : quoted s = some (x, m)) : 1 < m ∧ m ≤ s.size ∧ x.size ≤ m ∧ byteAt s (m - 1 : Nat) = 34 := by
  have := quoF_le s _ _ _ _ _ h
  have h0 : (⟨#[]⟩ : ByteArray).size = 0 := rfl
  rw [h0] at this
  exact ⟨this.1, this.2.1, by omega, this.2.2.2⟩

/-! ### Keys -/
def letB (c : Int) : Prop := 97 ≤ c ∧ c ≤ 122
def KeyEnd (t : ByteArray) (e : Nat) : Prop := e ≤ t.size ∧ (∀ j : Nat, j < e → letB (byteAt t (j : Nat))) ∧ (e < t.size → ¬ letB (byteAt t (e : Nat)))
theorem key_unique {t : ByteArray} {a b : Nat} (h : KeyEnd t a) (k : KeyEnd t b) : a = b := by
  rcases Nat.lt_trichotomy a b with h1 | h1 | h1
  · exact absurd (k.2.1 a h1) (h.2.2 (by have := k.1; omega))
  · exact h1
  · exact absurd (h.2.1 b h1) (k.2.2 (by have := h.1; omega))
theorem key_ex (t : ByteArray) : ∃ e, KeyEnd t e := by
  have key : ∀ n : Nat, n ≤ t.size → (∃ e, KeyEnd t e) ∨ ∀ j : Nat, j < n → letB (byteAt t (j : Nat)) := by
    intro n
    induction n with
    | zero => intro _; exact .inr fun j hj => absurd hj (Nat.not_lt_zero _)
    | succ n ih =>
      intro hn
      rcases ih (by omega) with h | h
      · exact .inl h
      by_cases hl : letB (byteAt t (n : Nat))
      · exact .inr fun j hj => by
          by_cases e : j = n
          · exact e ▸ hl
          · exact h j (by omega)
      · exact .inl ⟨n, by omega, h, fun _ => hl⟩
  rcases key t.size (Nat.le_refl _) with h | h
  · exact h
  · exact ⟨t.size, Nat.le_refl _, h, fun hh => absurd hh (Nat.lt_irrefl _)⟩
noncomputable def lettersN (t : ByteArray) : Nat := (key_ex t).choose
theorem letters_end (t : ByteArray) : KeyEnd t (lettersN t) := (key_ex t).choose_spec
theorem letters_eq {t : ByteArray} {e : Nat} (h : KeyEnd t e) : lettersN t = e := key_unique (letters_end t) h
theorem keyB_ext (t : ByteArray) (n : Nat) (hn : n ≤ t.size) : keyB (t.extract 0 n) = true ↔ 0 < n ∧ ∀ j : Nat, j < n → letB (byteAt t (j : Nat)) := by
  have hz : (t.extract 0 n).size = n := by simp [ByteArray.size_extract]; omega
  rw [keyB_iff]
  unfold KeyS letB
  rw [hz]
  constructor
  · rintro ⟨h1, h2⟩
    exact ⟨h1, fun j hj => by have := h2 j hj; rwa [byteAt_ext0 t n j hj hn] at this⟩
  · rintro ⟨h1, h2⟩
    exact ⟨h1, fun j hj => by rw [byteAt_ext0 t n j hj hn]; exact h2 j hj⟩

/-- A byte below 128 is a rune of its own. -/
theorem byte_runeF (s : ByteArray) (j c : Nat) (hj : j < s.size) (hc : c < 128) (h : byteAt s (j : Nat) = (c : Int)) : ∀ n pos : Nat, s.size - pos ≤ n → pos ≤ j → c ∈ runesF s (s.size - pos) pos
  | 0, pos, hn, hp => absurd hn (by omega)
  | n + 1, pos, hn, hp => by
    have hlt : pos < s.size := by omega
    have hwid := Lib.decode_width_pos s pos hlt
    rw [runesF_step s pos hlt]
    by_cases e : pos = j
    · subst e
      rcases dec_bytes s pos hlt with ⟨a1, a2, a3⟩ | ⟨a1, a2, a3⟩
      · have : (Utf8.decode s pos).1 = c := by omega
        rw [this]
        exact List.mem_cons_self
      · have := a3 pos (Nat.le_refl _) (by omega)
        omega
    · refine List.mem_cons_of_mem _ (byte_runeF s j c hj hc h n _ (by omega) ?_)
      rcases dec_bytes s pos hlt with ⟨a1, a2, a3⟩ | ⟨a1, a2, a3⟩
      · omega
      · rcases Nat.lt_or_ge j (pos + (Utf8.decode s pos).2) with h5 | h5
        · have := a3 j hp h5
          omega
        · exact h5
theorem byte_rune {r : ByteArray} {j c : Nat} (hj : j < r.size) (hc : c < 128) (h : byteAt r (j : Nat) = (c : Int)) : c ∈ runes r := by
  have := byte_runeF r j c hj hc h r.size 0 (by omega) (by omega)
  unfold runes
  rwa [Nat.sub_zero] at this
theorem bare_nogap {s : ByteArray} (h : bareB s = true) : ∀ j : Nat, j < s.size → ¬ gapB (byteAt s (j : Nat)) := fun j hj hg => by
  have hb := (bareB_iff s).1 h
  rcases hg with e | e
  · exact hb.2 32 (byte_rune hj (by omega) e) (.inl (by decide))
  · exact hb.2 9 (byte_rune hj (by omega) e) (.inl (by decide))

/-! ### A pair at the beginning of a text, and where it ends -/
noncomputable def pairV (t : ByteArray) (i : Nat) : Option (PR × Nat) :=
  let k := t.extract 0 i
  let r := t.extract (i + 1) t.size
  if 0 < r.size ∧ byteAt r (0 : Nat) = 34 then
    match quoted r with
    | some (x, m) => if m < r.size ∧ ¬ gapB (byteAt r (m : Nat)) then none else some (⟨k, x, false⟩, i + 1 + m)
    | none => none
  else if bareB (r.extract 0 (wordN r)) = true then some (⟨k, r.extract 0 (wordN r), false⟩, i + 1 + wordN r) else none
noncomputable def pairS (t : ByteArray) : Option (PR × Nat) :=
  let e := lettersN t
  if e = 0 then none
  else if e = t.size ∨ gapB (byteAt t (e : Nat)) then some (⟨t.extract 0 e, ⟨#[]⟩, true⟩, e)
  else if ¬ byteAt t (e : Nat) = 61 then none
  else pairV t e
theorem gap_let {c : Int} (h : gapB c) : ¬ letB c := by unfold gapB at h; unfold letB; omega
theorem gap_eq {c : Int} (h : gapB c) : ¬ c = 61 := by unfold gapB at h; omega
theorem eq_let : ¬ letB 61 := by unfold letB; omega
/-- No sign of equality in the first word. -/
theorem pairS_word {t : ByteArray} (h : ∀ j : Nat, j < wordN t → ¬ byteAt t (j : Nat) = 61) : pairS t = if keyB (t.extract 0 (wordN t)) = true then some (⟨t.extract 0 (wordN t), ⟨#[]⟩, true⟩, wordN t) else none := by
  have hw := wordN_end t
  have hl := letters_end t
  have hk := keyB_ext t (wordN t) hw.1
  unfold pairS
  by_cases hkb : keyB (t.extract 0 (wordN t)) = true
  · obtain ⟨h1, h2⟩ := hk.1 hkb
    have he : lettersN t = wordN t := letters_eq ⟨hw.1, h2, fun hlt => gap_let (hw.2.2 hlt)⟩
    simp only [he]
    rw [if_neg (by omega), if_pos hkb, if_pos]
    by_cases e : wordN t = t.size
    · exact .inl e
    · exact .inr (hw.2.2 (by have := hw.1; omega))
  · rw [if_neg hkb]
    by_cases h0 : lettersN t = 0
    · simp only [h0]; rfl
    have hlt : lettersN t < wordN t := by
      rcases Nat.lt_or_ge (lettersN t) (wordN t) with h1 | h1
      · exact h1
      · exfalso
        by_cases hz : wordN t = 0
        · have h3 := hl.2.1 0 (by omega)
          rcases Nat.lt_or_ge (wordN t) t.size with h4 | h4
          · have := hw.2.2 h4
            rw [hz] at this
            exact gap_let this h3
          · have := hl.1; omega
        · exact hkb (hk.2 ⟨by omega, fun j hj => hl.2.1 j (by omega)⟩)
    have hg := hw.2.1 _ hlt
    have hwl := hw.1
    simp only
    rw [if_neg h0, if_neg (fun hh => by rcases hh with hh | hh; omega; exact hg hh), if_pos (h _ hlt)]
/-- The first word's first sign of equality. -/
theorem pairS_eq {t : ByteArray} {i : Nat} (hi : i < wordN t) (h1 : byteAt t (i : Nat) = 61) (h2 : ∀ j : Nat, j < i → ¬ byteAt t (j : Nat) = 61) : pairS t = if keyB (t.extract 0 i) = true then pairV t i else none := by
  have hw := wordN_end t
  have hl := letters_end t
  have hwl := hw.1
  have hk := keyB_ext t i (by omega)
  unfold pairS
  by_cases hkb : keyB (t.extract 0 i) = true
  · obtain ⟨k1, k2⟩ := hk.1 hkb
    have he : lettersN t = i := letters_eq ⟨by omega, k2, fun _ => by rw [h1]; exact eq_let⟩
    simp only [he]
    rw [if_neg (by omega), if_pos hkb, if_neg (fun hh => by rcases hh with hh | hh; omega; exact gap_eq hh h1), if_neg (fun hh => hh h1)]
  · rw [if_neg hkb]
    by_cases h0 : lettersN t = 0
    · simp only [h0]; rfl
    have hlt : lettersN t < i := by
      rcases Nat.lt_or_ge (lettersN t) i with h3 | h3
      · exact h3
      · exact absurd (hk.2 ⟨by
          rcases Nat.eq_zero_or_pos i with e | e
          · subst e
            have := hl.2.1 0 (by omega)
            rw [h1] at this
            exact absurd this eq_let
          · exact e, fun j hj => hl.2.1 j (by omega)⟩) hkb
    simp only
    rw [if_neg h0, if_neg (fun hh => by rcases hh with hh | hh; omega; exact hw.2.1 _ (by omega) hh), if_pos (h2 _ hlt)]
theorem wordN_le (t : ByteArray) : wordN t ≤ t.size := (wordN_end t).1
theorem pairS_le {t : ByteArray} {p : PR} {n : Nat} (h : pairS t = some (p, n)) : 0 < n ∧ n ≤ t.size ∧ p.key.size ≤ n ∧ p.text.size ≤ t.size ∧ ¬ byteAt t (n - 1 : Nat) = 61 := by
  have hl := letters_end t
  have hll := hl.1
  unfold pairS at h
  simp only at h
  split at h
  · cases h
  rename_i h0
  split at h
  · cases h
    refine ⟨by omega, hl.1, ?_, Nat.zero_le _, fun h6 => ?_⟩
    · show (t.extract 0 (lettersN t)).size ≤ _
      simp [ByteArray.size_extract]; omega
    · have := hl.2.1 (lettersN t - 1) (by omega)
      rw [h6] at this
      exact eq_let this
  rename_i h1
  split at h
  · cases h
  unfold pairV at h
  simp only at h
  have hlt : lettersN t < t.size := by
    rcases Nat.lt_or_ge (lettersN t) t.size with h2 | h2
    · exact h2
    · exact absurd (.inl (by omega)) h1
  have hz : (t.extract (lettersN t + 1) t.size).size = t.size - (lettersN t + 1) := by simp [ByteArray.size_extract]
  have hk : (t.extract 0 (lettersN t)).size ≤ lettersN t := by simp [ByteArray.size_extract]; omega
  split at h
  · split at h
    · rename_i x m hq
      have hm := quoted_le hq
      rw [hz, byteAt_ext] at hm
      split at h
      · cases h
      · cases h
        refine ⟨by omega, by omega, by show (t.extract 0 (lettersN t)).size ≤ _; omega, by show x.size ≤ _; omega, fun h6 => ?_⟩
        have : lettersN t + 1 + (m - 1) = lettersN t + 1 + m - 1 := by omega
        rw [this] at hm
        omega
    · cases h
  · split at h
    · rename_i hb
      cases h
      have hw := wordN_le (t.extract (lettersN t + 1) t.size)
      rw [hz] at hw
      have hbs := (bareB_iff _).1 hb
      have hzz : ((t.extract (lettersN t + 1) t.size).extract 0 (wordN (t.extract (lettersN t + 1) t.size))).size = wordN (t.extract (lettersN t + 1) t.size) := by simp [ByteArray.size_extract]; omega
      have hpos := hbs.1
      rw [hzz] at hpos
      refine ⟨by omega, by omega, by show (t.extract 0 (lettersN t)).size ≤ _; omega, by show (ByteArray.size _) ≤ _; rw [hzz]; omega, fun h6 => ?_⟩
      refine hbs.2 61 (byte_rune (r := (t.extract (lettersN t + 1) t.size).extract 0 (wordN (t.extract (lettersN t + 1) t.size))) (j := wordN (t.extract (lettersN t + 1) t.size) - 1) (by rw [hzz]; omega) (by omega) ?_) (.inr (.inr (.inl rfl)))
      rw [byteAt_ext0 _ _ _ (by omega) (by rw [hz]; omega), byteAt_ext]
      have e9 : lettersN t + 1 + (wordN (t.extract (lettersN t + 1) t.size) - 1) = lettersN t + 1 + wordN (t.extract (lettersN t + 1) t.size) - 1 := by omega
      rw [e9]
      exact h6
    · cases h

theorem pairV_bare {t r : ByteArray} {i : Nat} (hr : r = t.extract (i + 1) t.size) (h : ¬ (0 < r.size ∧ byteAt r (0 : Nat) = 34)) : pairV t i = if bareB (r.extract 0 (wordN r)) = true then some (⟨t.extract 0 i, r.extract 0 (wordN r), false⟩, i + 1 + wordN r) else none := by
  subst hr
  unfold pairV
  simp only
  rw [if_neg h]
theorem pairV_quo {t r : ByteArray} {i : Nat} (hr : r = t.extract (i + 1) t.size) (h : 0 < r.size ∧ byteAt r (0 : Nat) = 34) : pairV t i = match quoted r with
    | some (x, m) => if m < r.size ∧ ¬ gapB (byteAt r (m : Nat)) then none else some (⟨t.extract 0 i, x, false⟩, i + 1 + m)
    | none => none := by
  subst hr
  unfold pairV
  simp only
  rw [if_pos h]
theorem pairV_q0 {t r : ByteArray} {i : Nat} (hr : r = t.extract (i + 1) t.size) (h : 0 < r.size ∧ byteAt r (0 : Nat) = 34) (hq : quoted r = none) : pairV t i = none := by
  rw [pairV_quo hr h, hq]
theorem pairV_q1 {t r x : ByteArray} {i m : Nat} (hr : r = t.extract (i + 1) t.size) (h : 0 < r.size ∧ byteAt r (0 : Nat) = 34) (hq : quoted r = some (x, m)) (h1 : m < r.size) (h2 : ¬ gapB (byteAt r (m : Nat))) : pairV t i = none := by
  rw [pairV_quo hr h, hq]
  simp only
  rw [if_pos ⟨h1, h2⟩]
theorem pairV_q2 {t r x : ByteArray} {i m : Nat} (hr : r = t.extract (i + 1) t.size) (h : 0 < r.size ∧ byteAt r (0 : Nat) = 34) (hq : quoted r = some (x, m)) (h1 : ¬ m < r.size ∨ gapB (byteAt r (m : Nat))) : pairV t i = some (⟨t.extract 0 i, x, false⟩, i + 1 + m) := by
  rw [pairV_quo hr h, hq]
  simp only
  rw [if_neg (fun hh => by rcases h1 with h1 | h1; exact h1 hh.1; exact hh.2 h1)]
theorem keyEnd_ext {s : ByteArray} {a n : Nat} (h1 : a + n ≤ s.size) (h2 : ∀ j : Nat, j < n → letB (byteAt s (a + j : Nat))) (h3 : a + n < s.size → ¬ letB (byteAt s (a + n : Nat))) : KeyEnd (s.extract a s.size) n := by
  have hz := ext_size s a
  exact ⟨by omega, fun j hj => by rw [byteAt_ext]; exact h2 j hj, fun hlt => by rw [byteAt_ext]; exact h3 (by omega)⟩
theorem pairS_0 {t : ByteArray} (h : KeyEnd t 0) : pairS t = none := by
  unfold pairS
  simp only [letters_eq h, if_true]
theorem pairS_alone {t : ByteArray} {n : Nat} (h : KeyEnd t n) (h0 : 0 < n) (h1 : n = t.size ∨ gapB (byteAt t (n : Nat))) : pairS t = some (⟨t.extract 0 n, ⟨#[]⟩, true⟩, n) := by
  unfold pairS
  simp only [letters_eq h]
  rw [if_neg (by omega), if_pos h1]
theorem pairS_no {t : ByteArray} {n : Nat} (h : KeyEnd t n) (h1 : ¬ (n = t.size ∨ gapB (byteAt t (n : Nat)))) (h2 : ¬ byteAt t (n : Nat) = 61) : pairS t = none := by
  unfold pairS
  simp only [letters_eq h]
  by_cases h0 : n = 0
  · rw [if_pos h0]
  · rw [if_neg h0, if_neg h1, if_pos h2]
theorem pairS_val {t : ByteArray} {n : Nat} (h : KeyEnd t n) (h0 : 0 < n) (h1 : ¬ (n = t.size ∨ gapB (byteAt t (n : Nat)))) (h2 : byteAt t (n : Nat) = 61) : pairS t = pairV t n := by
  unfold pairS
  simp only [letters_eq h]
  rw [if_neg (by omega), if_neg h1, if_neg (fun hh => hh h2)]
theorem pairV_aloneF {t : ByteArray} {i : Nat} {p : PR} {n : Nat} (h : pairV t i = some (p, n)) : p.alone = false := by
  unfold pairV at h
  simp only at h
  repeat' split at h
  all_goals first | (cases h; done) | (cases h; rfl)
theorem pairS_aloneT {t : ByteArray} {p : PR} {n : Nat} (h : pairS t = some (p, n)) : p.alone = true → p.text = ⟨#[]⟩ := by
  unfold pairS at h
  simp only at h
  split at h
  · cases h
  split at h
  · cases h; exact fun _ => rfl
  split at h
  · cases h
  · rw [pairV_aloneF h]; exact fun e => (by cases e)

/-! ### Rows of pairs -/
theorem trimG_ex (t : ByteArray) : ∃ i, GapEnd t i ∧ trimC t WS = t.extract i t.size := by
  obtain ⟨i, hi⟩ := gap_ex t
  exact ⟨i, hi, trim_gap t i hi⟩
theorem trim_size (t : ByteArray) : (trimC t WS).size ≤ t.size := trimC_size t WS
noncomputable def pairsF : Nat → List PR → ByteArray → Option (List PR)
  | 0, _, _ => none
  | f + 1, acc, t => if t.size = 0 then some acc else
    match pairS t with
    | none => none
    | some (p, n) => if (∃ q, q ∈ acc ∧ q.key = p.key) then none else pairsF f (acc ++ [p]) (trimC (t.extract n t.size) WS)
theorem pairsF_fuel : ∀ f g acc t, t.size < f → t.size < g → pairsF f acc t = pairsF g acc t
  | 0, _, _, _, h, _ => absurd h (Nat.not_lt_zero _)
  | _ + 1, 0, _, _, _, h => absurd h (Nat.not_lt_zero _)
  | f + 1, g + 1, acc, t, h1, h2 => by
    simp only [pairsF]
    by_cases h0 : t.size = 0
    · rw [if_pos h0, if_pos h0]
    rw [if_neg h0, if_neg h0]
    cases hp : pairS t with
    | none => rfl
    | some x =>
      obtain ⟨p, n⟩ := x
      have := pairS_le hp
      have hz := trim_size (t.extract n t.size)
      rw [ext_size] at hz
      simp only
      rw [pairsF_fuel f g (acc ++ [p]) (trimC (t.extract n t.size) WS) (by omega) (by omega)]
noncomputable def pairsT (acc : List PR) (t : ByteArray) : Option (List PR) := pairsF (t.size + 1) acc t
theorem pairsT_nil {acc : List PR} {t : ByteArray} (h : t.size = 0) : pairsT acc t = some acc := by
  unfold pairsT
  simp only [pairsF]
  rw [if_pos h]
theorem pairsT_none {acc : List PR} {t : ByteArray} (h : ¬ t.size = 0) (hp : pairS t = none) : pairsT acc t = none := by
  unfold pairsT
  simp only [pairsF]
  rw [if_neg h, hp]
theorem pairsT_dup {acc : List PR} {t : ByteArray} {p : PR} {n : Nat} (h : ¬ t.size = 0) (hp : pairS t = some (p, n)) (hd : ∃ q, q ∈ acc ∧ q.key = p.key) : pairsT acc t = none := by
  unfold pairsT
  simp only [pairsF]
  rw [if_neg h, hp]
  simp only
  rw [if_pos hd]
theorem pairsT_step {acc : List PR} {t : ByteArray} {p : PR} {n : Nat} (h : ¬ t.size = 0) (hp : pairS t = some (p, n)) (hd : ¬ ∃ q, q ∈ acc ∧ q.key = p.key) : pairsT acc t = pairsT (acc ++ [p]) (trimC (t.extract n t.size) WS) := by
  have := pairS_le hp
  have hz := trim_size (t.extract n t.size)
  rw [ext_size] at hz
  unfold pairsT
  simp only [pairsF]
  rw [if_neg h, hp]
  simp only
  rw [if_neg hd]
  exact pairsF_fuel t.size ((trimC (t.extract n t.size) WS).size + 1) (acc ++ [p]) (trimC (t.extract n t.size) WS) (by omega) (by omega)
def aloneP (s : ByteArray) : Prop := s = ⟨#[97, 112, 112, 101, 110, 100]⟩ ∨ s = ⟨#[110, 111, 108, 105, 110, 101]⟩
/-- The language, and what is behind. -/
noncomputable def langS (t : ByteArray) : ByteArray × ByteArray :=
  if 0 < wordN t ∧ (∀ j : Nat, j < wordN t → ¬ byteAt t (j : Nat) = 61) ∧ ¬ aloneP (t.extract 0 (wordN t)) then (t.extract 0 (wordN t), trimC (t.extract (wordN t) t.size) WS) else (⟨#[]⟩, t)
noncomputable def pairsS (s : ByteArray) : Option (ByteArray × List PR) := (pairsT [] (langS (trimC s WS)).2).map fun l => ((langS (trimC s WS)).1, l)
theorem langS_le (t : ByteArray) : (langS t).1.size ≤ t.size ∧ (langS t).2.size ≤ t.size := by
  unfold langS
  split
  · refine ⟨ext_le t _ _, ?_⟩
    have := trim_size (t.extract (wordN t) t.size)
    rw [ext_size] at this
    show (trimC _ WS).size ≤ _
    omega
  · exact ⟨Nat.zero_le _, Nat.le_refl _⟩
def okP2 (m : Nat) (p : PR) : Prop := p.key.size ≤ m ∧ p.text.size ≤ m ∧ (p.alone = true → p.text = ⟨#[]⟩)
theorem pairsT_all (m : Nat) : ∀ (n : Nat) (acc : List PR) (t : ByteArray) (l : List PR), t.size ≤ n → t.size ≤ m → (∀ p, p ∈ acc → okP2 m p) → pairsT acc t = some l → (∀ p, p ∈ l → okP2 m p) ∧ l.length ≤ acc.length + t.size
  | n, acc, t, l, hn, hm, ha, h => by
    by_cases h0 : t.size = 0
    · rw [pairsT_nil h0] at h; cases h; exact ⟨ha, by omega⟩
    cases hp : pairS t with
    | none => rw [pairsT_none h0 hp] at h; cases h
    | some x =>
      obtain ⟨p, k⟩ := x
      by_cases hd : ∃ q, q ∈ acc ∧ q.key = p.key
      · rw [pairsT_dup h0 hp hd] at h; cases h
      rw [pairsT_step h0 hp hd] at h
      have hle := pairS_le hp
      have hz := trim_size (t.extract k t.size)
      rw [ext_size] at hz
      match n, hn with
      | 0, hn => exact absurd hn (by omega)
      | n + 1, hn =>
        have := pairsT_all m n (acc ++ [p]) _ l (by omega) (by omega) (fun q hq => by
          rcases List.mem_append.1 hq with hq | hq
          · exact ha q hq
          · simp only [List.mem_singleton] at hq
            subst hq
            exact ⟨by omega, by omega, pairS_aloneT hp⟩) h
        refine ⟨this.1, ?_⟩
        have h2 := this.2
        simp only [List.length_append, List.length_cons, List.length_nil] at h2
        omega
end Go.Proofs.YtnlkgnoogcakjaaGreatDoor.Ev
