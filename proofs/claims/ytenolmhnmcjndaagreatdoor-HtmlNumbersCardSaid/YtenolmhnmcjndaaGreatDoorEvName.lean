/-
  Names in plain words: what the program asks of one, what the reference asks; that the two are one.
-/
import Derived.Test.YtenolmhnmcjndaaGreatDoorEvBox
import Derived.Test.YtenolmhnmcjndaaGreatDoorEvSymX
import Derived.Lib.RuneCount
import Derived.Lib.MapLaws
import Derived.Lib.TrimUEq
import Derived.Lib.SpaceUEq
import Derived.Lib.ValidLaws
namespace Go.Proofs.YtenolmhnmcjndaaGreatDoor.Ev
open Go
set_option linter.unusedVariables false
set_option linter.unusedSimpArgs false
def blankB (r : Int) : Bool := decide (9 ≤ r ∧ r ≤ 13 ∨ r = 32 ∨ r = 160 ∨ r = 8195 ∨ r = 12288)
def PrefB (s p : ByteArray) : Prop := p.size ≤ s.size ∧ s.extract 0 p.size = p
def SufB (s p : ByteArray) : Prop := p.size ≤ s.size ∧ s.extract (s.size - p.size) s.size = p
def runesF (s : ByteArray) : Nat → Nat → List Nat
  | 0, _ => []
  | f + 1, pos => if pos < s.size then (Utf8.decode s pos).1 :: runesF s f (pos + (Utf8.decode s pos).2) else []
theorem runesF_fuel (s : ByteArray) : ∀ f g pos, s.size - pos ≤ f → s.size - pos ≤ g → runesF s f pos = runesF s g pos
  | 0, 0, _, _, _ => rfl
  | 0, g + 1, pos, h, _ => by simp only [runesF]; rw [if_neg (by omega)]
  | f + 1, 0, pos, _, h => by simp only [runesF]; rw [if_neg (by omega)]
  | f + 1, g + 1, pos, h1, h2 => by
    simp only [runesF]
    split
    · rename_i hlt
      have := Lib.decode_width_pos s pos hlt
      rw [runesF_fuel s f g _ (by omega) (by omega)]
    · rfl
def runes (s : ByteArray) : List Nat := runesF s s.size 0
theorem runesF_step (s : ByteArray) (pos : Nat) (h : pos < s.size) : runesF s (s.size - pos) pos = (Utf8.decode s pos).1 :: runesF s (s.size - (pos + (Utf8.decode s pos).2)) (pos + (Utf8.decode s pos).2) := by
  have hw := Lib.decode_width_pos s pos h
  obtain ⟨n, hn⟩ : ∃ n, s.size - pos = n + 1 := ⟨s.size - pos - 1, by omega⟩
  rw [hn]
  simp only [runesF, if_pos h]
  rw [runesF_fuel s n (s.size - (pos + (Utf8.decode s pos).2)) _ (by omega) (Nat.le_refl _)]
theorem runesF_end (s : ByteArray) (f pos : Nat) (h : ¬ pos < s.size) : runesF s f pos = [] := by
  cases f <;> simp [runesF, h]
theorem runes_ne (s : ByteArray) (h : 0 < s.size) : 0 < (runes s).length := by
  have := runesF_step s 0 h
  unfold runes
  rw [show s.size = s.size - 0 from rfl, this]
  simp
theorem runesF_len (s : ByteArray) : ∀ f pos, (runesF s f pos).length ≤ f
  | 0, _ => by simp [runesF]
  | f + 1, pos => by
    simp only [runesF]
    split
    · have := runesF_len s f (pos + (Utf8.decode s pos).2); simp; exact this
    · simp
theorem runes_len (s : ByteArray) : (runes s).length ≤ s.size := runesF_len s _ _
def badB (c : Int) : Prop := c = 60 ∨ c = 62 ∨ c = 91 ∨ c = 93 ∨ c = 35 ∨ c = 34 ∨ c = 92
theorem has_set (c : Int) : (∃ i : Int, 0 ≤ i ∧ i < ((⟨#[60, 62, 91, 93, 35, 34, 92]⟩ : ByteArray).size : Int) ∧ byteAt ⟨#[60, 62, 91, 93, 35, 34, 92]⟩ i = c) ↔ badB c := by
  have hz : ((⟨#[60, 62, 91, 93, 35, 34, 92]⟩ : ByteArray).size : Int) = 7 := rfl
  rw [hz]
  constructor
  · rintro ⟨i, h0, h1, rfl⟩
    have : i = 0 ∨ i = 1 ∨ i = 2 ∨ i = 3 ∨ i = 4 ∨ i = 5 ∨ i = 6 := by omega
    rcases this with rfl | rfl | rfl | rfl | rfl | rfl | rfl <;> simp [byteAt, badB]
  · rintro (rfl | rfl | rfl | rfl | rfl | rfl | rfl)
    · exact ⟨0, by omega, by omega, rfl⟩
    · exact ⟨1, by omega, by omega, rfl⟩
    · exact ⟨2, by omega, by omega, rfl⟩
    · exact ⟨3, by omega, by omega, rfl⟩
    · exact ⟨4, by omega, by omega, rfl⟩
    · exact ⟨5, by omega, by omega, rfl⟩
    · exact ⟨6, by omega, by omega, rfl⟩
/-- What the reference asks of a name. -/
structure NameR (s : ByteArray) : Prop where
  lo : 1 ≤ s.size
  hi : s.size ≤ 60
  back : encF (runes s) .empty = s
  first : blankB ((runes s).getD 0 0 : Nat) = false
  last : blankB ((runes s).getD ((runes s).length - 1) 0 : Nat) = false
  all : ∀ i, i < (runes s).length → 32 ≤ (runes s).getD i 0 ∧ ¬ badB ((runes s).getD i 0 : Nat)
def goodA (r : Nat) : Prop := 32 ≤ r ∧ ¬ (0 ≤ Lib.indexByte [60, 62, 91, 93, 35, 34, 92] ((if (255 : Int) < (r : Int) then 255 else (r : Int)).toNat.toUInt8))
theorem mem_runes (s : ByteArray) (pos : Nat) (l : List Nat) (hl : l ++ runesF s (s.size - pos) pos = runes s) (h : pos < s.size) : (Utf8.decode s pos).1 ∈ runes s := by
  rw [← hl, runesF_step s pos h]
  simp
/-- What the program asks of a name. -/
structure NameA (s : ByteArray) : Prop where
  lo : 1 ≤ s.size
  hi : s.size ≤ 60
  valid : Lib.validD s.data.toList = true
  all : ∀ r, r ∈ runes s → goodA r
  first : blankB ((Utf8.decode s 0).1 : Nat) = false
  last : blankB ((Lib.decodeLastL s.data.toList).1 : Nat) = false
theorem enc_eq (r : Nat) : (Utf8.encode (r : Int)).data.toList = Lib.encodeRune (r : Int) := by
  unfold Lib.encodeRune
  by_cases h1 : r < 128
  · have hv : Utf8.valid (r : Int) = true := by simp [Utf8.valid]; omega
    unfold Utf8.encode
    simp only [hv, if_true, Int.toNat_natCast]
    rw [if_pos h1, Lib.encodeRuneZ_one (by omega) (by omega)]
    rfl
  by_cases h2 : r < 2048
  · have hv : Utf8.valid (r : Int) = true := by simp [Utf8.valid]; omega
    unfold Utf8.encode
    simp only [hv, if_true, Int.toNat_natCast]
    rw [if_neg h1, if_pos h2, Lib.encodeRuneZ_two (by omega) (by omega)]
    simp only [List.map_cons, List.map_nil]
    rw [show (192 + (r : Int) / 64).toNat = 192 + r / 64 by omega, show (128 + (r : Int) % 64).toNat = 128 + r % 64 by omega]
  by_cases h3 : r < 65536
  · by_cases hs : 55296 ≤ r ∧ r < 57344
    · have hv : Utf8.valid (r : Int) = false := by simp [Utf8.valid]; omega
      unfold Utf8.encode
      simp only [hv, Bool.false_eq_true, if_false, Utf8.runeError]
      rw [Lib.encodeRuneZ_bad (by omega)]
      decide
    · have hv : Utf8.valid (r : Int) = true := by simp [Utf8.valid]; omega
      unfold Utf8.encode
      simp only [hv, if_true, Int.toNat_natCast]
      rw [if_neg h1, if_neg h2, if_pos h3, Lib.encodeRuneZ_three (by omega)]
      simp only [List.map_cons, List.map_nil]
      rw [show (224 + (r : Int) / 4096).toNat = 224 + r / 4096 by omega, show (128 + (r : Int) / 64 % 64).toNat = 128 + r / 64 % 64 by omega, show (128 + (r : Int) % 64).toNat = 128 + r % 64 by omega]
  by_cases h4 : r ≤ 1114111
  · have hv : Utf8.valid (r : Int) = true := by simp [Utf8.valid]; omega
    unfold Utf8.encode
    simp only [hv, if_true, Int.toNat_natCast]
    rw [if_neg h1, if_neg h2, if_neg h3, Lib.encodeRuneZ_four (by omega) (by omega)]
    simp only [List.map_cons, List.map_nil]
    rw [show (240 + (r : Int) / 262144).toNat = 240 + r / 262144 by omega, show (128 + (r : Int) / 4096 % 64).toNat = 128 + r / 4096 % 64 by omega, show (128 + (r : Int) / 64 % 64).toNat = 128 + r / 64 % 64 by omega, show (128 + (r : Int) % 64).toNat = 128 + r % 64 by omega]
  · have hv : Utf8.valid (r : Int) = false := by simp [Utf8.valid]; omega
    unfold Utf8.encode
    simp only [hv, Bool.false_eq_true, if_false, Utf8.runeError]
    rw [Lib.encodeRuneZ_bad (by omega)]
    decide

def runesD : Nat → List UInt8 → List Nat
  | 0, _ => []
  | f + 1, l => if l = [] then [] else (Lib.decodeL l).1 :: runesD f (l.drop (Lib.decodeL l).2)

theorem runesF_D (s : ByteArray) : ∀ f pos, runesF s f pos = runesD f (s.data.toList.drop pos)
  | 0, _ => rfl
  | f + 1, pos => by
    simp only [runesF, runesD]
    by_cases h : pos < s.size
    · have hne : s.data.toList.drop pos ≠ [] := fun e => by
        have := congrArg List.length e
        simp at this
        have h2 : s.data.size = s.size := rfl
        omega
      rw [if_pos h, if_neg hne, Lib.decodeL_drop, runesF_D s f, List.drop_drop]
    · have he : s.data.toList.drop pos = [] := by
        apply List.drop_eq_nil_of_le
        simp
        have h2 : s.data.size = s.size := rfl
        omega
      rw [if_neg h, if_pos he]

theorem bad3 (t : List UInt8) : Lib.decodeL (239 :: 191 :: 189 :: t) = (65533, 3) := by
  rw [Lib.decodeL_N]
  simp [Lib.decodeN]

theorem valid_enc : ∀ (n : Nat) (l : List UInt8), l.length ≤ n → (Lib.validGoD n l = true ↔ (runesD n l).flatMap (fun r : Nat => Lib.encodeRune (r : Int)) = l)
  | 0, l, h => by
    have : l = [] := List.length_eq_zero_iff.1 (by omega)
    subst this
    simp [Lib.validGoD, runesD]
  | n + 1, l, h => by
    simp only [Lib.validGoD, runesD]
    by_cases he : l = []
    · subst he; simp
    rw [if_neg he, if_neg he]
    have hw := Lib.decodeL_width l
    have hle := Lib.decodeL_le l he
    have hlen : 0 < l.length := List.length_pos_iff.2 he
    have ih := valid_enc n (l.drop (Lib.decodeL l).2) (by rw [List.length_drop]; omega)
    by_cases hb : (Lib.decodeL l).1 = 65533 ∧ (Lib.decodeL l).2 = 1
    · rw [if_pos hb]
      constructor
      · intro k; cases k
      · intro k
        rw [List.flatMap_cons, hb.1] at k
        have he3 : Lib.encodeRune ((65533 : Nat) : Int) = [239, 191, 189] := by decide
        rw [he3] at k
        have : Lib.decodeL l = (65533, 3) := by rw [← k]; exact bad3 _
        rw [this] at hb
        exact absurd hb.2 (by decide)
    · rw [if_neg hb, ih, List.flatMap_cons, Lib.encode_decode l he hb]
      constructor
      · intro k; rw [k, List.take_append_drop]
      · intro k
        have h2 := (List.take_append_drop (Lib.decodeL l).2 l).symm
        exact List.append_cancel_left (k.trans h2)

theorem encF_data : ∀ (l : List Nat) (acc : ByteArray), (encF l acc).data.toList = acc.data.toList ++ l.flatMap (fun r : Nat => Lib.encodeRune (r : Int))
  | [], acc => by simp [encF]
  | r :: l, acc => by
    rw [encF, encF_data l]
    simp [enc_eq]

theorem valid_back (s : ByteArray) : Lib.validD s.data.toList = true ↔ encF (runes s) .empty = s := by
  unfold Lib.validD runes
  rw [valid_enc _ _ (Nat.le_refl _)]
  have h2 : s.data.toList.length = s.size := by simp
  rw [h2]
  constructor
  · intro h
    apply ByteArray.ext
    apply Array.toList_inj.1
    rw [encF_data, runesF_D, List.drop_zero]
    simpa using h
  · intro h
    have := congrArg (fun x : ByteArray => x.data.toList) h
    have this : (encF (runesF s s.size 0) .empty).data.toList = s.data.toList := this
    rw [encF_data, runesF_D, List.drop_zero] at this
    simpa using this

/-! ### The last rune -/
theorem runeStart_ge (b : UInt8) (h : ¬ b.toNat / 64 = 2) : Lib.runeStartB b = true := by simp [Lib.runeStartB, h]
theorem runeStart_cont (b : UInt8) (h : b.toNat / 64 = 2) : Lib.runeStartB b = false := by simp [Lib.runeStartB, h]

theorem last4 (t : List UInt8) (c0 c1 c2 c3 : UInt8) (h3 : 128 ≤ c3.toNat) (h2 : Lib.runeStartB c2 = false) (h1 : Lib.runeStartB c1 = false) (h0 : Lib.runeStartB c0 = true) (hd : (Lib.decodeL [c0, c1, c2, c3]).2 = 4) : Lib.decodeLastL (t ++ [c0, c1, c2, c3]) = Lib.decodeL [c0, c1, c2, c3] := by
  have g1 := Lib.getD_app_end t [c0, c1, c2, c3] 1 (by omega) (by simp)
  have g2 := Lib.getD_app_end t [c0, c1, c2, c3] 2 (by omega) (by simp)
  have g3 := Lib.getD_app_end t [c0, c1, c2, c3] 3 (by omega) (by simp)
  have g4 := Lib.getD_app_end t [c0, c1, c2, c3] 4 (by omega) (by simp)
  have hl : (t ++ [c0, c1, c2, c3]).length = t.length + 4 := by simp
  have hs : Lib.lastStart (t ++ [c0, c1, c2, c3]) = (t ++ [c0, c1, c2, c3]).length - 4 := by
    unfold Lib.lastStart
    simp only [g2, g3, g4]
    rw [if_neg (by omega)]
    simp only [List.length_cons, List.length_nil, List.getD_cons_succ, List.getD_cons_zero, Nat.reduceAdd, Nat.reduceSub, h2, h1, h0, Bool.false_eq_true, if_false, if_true]
    rw [if_neg (by omega), if_neg (by omega)]
  have hdrop := Lib.drop_app_end t [c0, c1, c2, c3]
  unfold Lib.decodeLastL
  rw [if_neg (by simp), g1, if_neg (by simp; omega), hs]
  simp only [List.length_cons, List.length_nil] at hdrop
  simp only [hdrop, hd]
  rw [if_pos (by omega)]

set_option maxRecDepth 100000 in
/-- A whole encoding at a text's end is what is decoded from there. -/
theorem last_whole (t q : List UInt8) (hq : q ≠ []) (hw : (Lib.decodeL q).2 = q.length) (hb : ¬ ((Lib.decodeL q).1 = 65533 ∧ (Lib.decodeL q).2 = 1)) : Lib.decodeLastL (t ++ q) = Lib.decodeL q := by
  have hN := Lib.decodeL_N q
  rcases Lib.decodeN_shape q.length (q.getD 0 0).toNat (q.getD 1 0).toNat (q.getD 2 0).toNat (q.getD 3 0).toNat with ⟨h0, h⟩ | ⟨h0, _, h1, h2, h⟩ | ⟨h0, _, h1, h2, _, _, h⟩ | ⟨h0, _, h1, h2, h3, _, _, h⟩ | h
  · rw [h] at hN
    rw [hN] at hw
    match q, hw with
    | [c], _ =>
      rw [hN]
      exact Lib.decodeLastL_ascii t c h0
  · rw [h] at hN
    rw [hN] at hw
    match q, hw with
    | [c0, c1], _ =>
      have h0' : c0.toNat / 32 = 6 := h0
      have h1' : c1.toNat / 64 = 2 := h1
      exact Lib.last2 t c0 c1 (by omega) (runeStart_ge c0 (by omega)) (by rw [hN])
  · rw [h] at hN
    rw [hN] at hw
    match q, hw with
    | [c0, c1, c2], _ =>
      have h0' : c0.toNat / 16 = 14 := h0
      have h1' : c1.toNat / 64 = 2 := h1
      have h2' : c2.toNat / 64 = 2 := h2
      exact Lib.last3 t c0 c1 c2 (by omega) (runeStart_cont c1 h1') (runeStart_ge c0 (by omega)) (by rw [hN])
  · rw [h] at hN
    rw [hN] at hw
    have hq4 : q.length = 4 := hw.symm
    obtain ⟨c0, c1, c2, c3, rfl⟩ : ∃ c0 c1 c2 c3, q = [c0, c1, c2, c3] := ⟨_, _, _, _, by rw [← Lib.takeD q (by omega), List.take_of_length_le (by omega)]⟩
    · have h0' : c0.toNat / 8 = 30 := h0
      have h1' : c1.toNat / 64 = 2 := h1
      have h2' : c2.toNat / 64 = 2 := h2
      have h3' : c3.toNat / 64 = 2 := h3
      exact last4 t c0 c1 c2 c3 (by omega) (runeStart_cont c2 h2') (runeStart_cont c1 h1') (runeStart_ge c0 (by omega)) (by rw [hN])
  · rw [h] at hN
    rw [hN] at hb
    exact absurd ⟨rfl, rfl⟩ hb

theorem decode_take (l : List UInt8) (hne : l ≠ []) (hb : ¬ ((Lib.decodeL l).1 = 65533 ∧ (Lib.decodeL l).2 = 1)) : Lib.decodeL (l.take (Lib.decodeL l).2) = Lib.decodeL l := by
  have hN := Lib.decodeL_N l
  have hlen : 0 < l.length := List.length_pos_iff.2 hne
  rcases Lib.decodeN_shape l.length (l.getD 0 0).toNat (l.getD 1 0).toNat (l.getD 2 0).toNat (l.getD 3 0).toNat with ⟨h0, h⟩ | ⟨h0, hn, h1, h2, h⟩ | ⟨h0, hn, h1, h2, h3, h4, h⟩ | ⟨h0, hn, h1, h2, h3, h4, h5, h⟩ | h
  · rw [h] at hN
    rw [hN]
    simp only
    rw [Lib.takeA l hlen, Lib.decodeL_N]
    simp only [List.length_cons, List.length_nil, List.getD_cons_zero, List.getD_cons_succ, List.getD_nil]
    unfold Lib.decodeN
    rw [if_pos h0]
  · rw [h] at hN
    rw [hN]
    simp only
    rw [Lib.takeB l hn, Lib.decodeL_N]
    simp only [List.length_cons, List.length_nil, List.getD_cons_zero, List.getD_cons_succ, List.getD_nil]
    unfold Lib.decodeN
    rw [if_neg (by omega), if_pos (by omega), if_pos (by omega)]
  · rw [h] at hN
    rw [hN]
    simp only
    rw [Lib.takeC l hn, Lib.decodeL_N]
    simp only [List.length_cons, List.length_nil, List.getD_cons_zero, List.getD_cons_succ, List.getD_nil]
    unfold Lib.decodeN
    rw [if_neg (by omega), if_neg (by omega), if_pos (by omega), if_pos (by omega)]
  · rw [h] at hN
    rw [hN]
    simp only
    rw [Lib.takeD l hn, Lib.decodeL_N]
    simp only [List.length_cons, List.length_nil, List.getD_cons_zero, List.getD_cons_succ, List.getD_nil]
    unfold Lib.decodeN
    rw [if_neg (by omega), if_neg (by omega), if_neg (by omega), if_pos (by omega), if_pos (by omega)]
  · rw [h] at hN
    rw [hN] at hb
    exact absurd ⟨rfl, rfl⟩ hb

theorem runesD_ne : ∀ (n : Nat) (l : List UInt8), l.length ≤ n → l ≠ [] → runesD n l ≠ []
  | 0, l, h, hne => absurd (List.length_eq_zero_iff.1 (by omega)) hne
  | n + 1, l, _, hne => by simp [runesD, hne]

theorem last_rune : ∀ (n : Nat) (t l : List UInt8), l.length ≤ n → l ≠ [] → Lib.validGoD n l = true → (Lib.decodeLastL (t ++ l)).1 = (runesD n l).getLastD 0
  | 0, t, l, h, hne, _ => absurd (List.length_eq_zero_iff.1 (by omega)) hne
  | n + 1, t, l, h, hne, hv => by
    simp only [Lib.validGoD, if_neg hne] at hv
    simp only [runesD, if_neg hne]
    have hw := Lib.decodeL_width l
    have hle := Lib.decodeL_le l hne
    split at hv
    · cases hv
    rename_i hb
    have htk := decode_take l hne hb
    by_cases he : l.drop (Lib.decodeL l).2 = []
    · have hall : l.take (Lib.decodeL l).2 = l := List.take_of_length_le (by have := congrArg List.length he; simp at this; omega)
      have hlen : (Lib.decodeL l).2 = l.length := by have := congrArg List.length hall; rw [List.length_take] at this; omega
      rw [last_whole t l hne hlen hb, he]
      have : runesD n [] = [] := by cases n <;> simp [runesD]
      rw [this]
      rfl
    · have ih := last_rune n (t ++ l.take (Lib.decodeL l).2) (l.drop (Lib.decodeL l).2) (by rw [List.length_drop]; omega) he hv
      rw [List.append_assoc, List.take_append_drop] at ih
      rw [ih]
      have hne2 := runesD_ne n (l.drop (Lib.decodeL l).2) (by rw [List.length_drop]; omega) he
      cases hr : runesD n (l.drop (Lib.decodeL l).2) with
      | nil => exact absurd hr hne2
      | cons a b => simp [List.getLastD]

/-! ### Names -/
theorem byte_min (r : Nat) : (if (255 : Int) < (r : Int) then (255 : Int) else (r : Int)).toNat = min r 255 := by split <;> omega
theorem bad_idx : ∀ k : Fin 256, (0 ≤ Lib.indexByte [60, 62, 91, 93, 35, 34, 92] (k.val.toUInt8)) ↔ (k.val = 60 ∨ k.val = 62 ∨ k.val = 91 ∨ k.val = 93 ∨ k.val = 35 ∨ k.val = 34 ∨ k.val = 92) := by decide +kernel
theorem good_iff (r : Nat) : goodA r ↔ 32 ≤ r ∧ ¬ badB (r : Int) := by
  unfold goodA badB
  rw [byte_min]
  have h := bad_idx ⟨min r 255, by omega⟩
  simp only at h
  rw [h]
  constructor
  · rintro ⟨h1, h2⟩; exact ⟨h1, by omega⟩
  · rintro ⟨h1, h2⟩; exact ⟨h1, by omega⟩

theorem getLastD_getD (l : List Nat) (h : l ≠ []) : l.getLastD 0 = l.getD (l.length - 1) 0 := by
  rw [List.getLastD_eq_getLast?, List.getLast?_eq_getElem?, List.getD_eq_getElem?_getD]

/-- NAMES ARE THE SAME. -/
theorem name_same (s : ByteArray) : NameA s ↔ NameR s := by
  have hfirst : 0 < s.size → (runes s).getD 0 0 = (Utf8.decode s 0).1 := fun h => by
    unfold runes
    have := runesF_step s 0 h
    rw [show s.size - 0 = s.size from rfl] at this
    rw [this]
    rfl
  have hlast : 0 < s.size → Lib.validD s.data.toList = true → (Lib.decodeLastL s.data.toList).1 = (runes s).getD ((runes s).length - 1) 0 := fun h hv => by
    have hl : s.data.toList.length = s.size := by simp
    have hne : s.data.toList ≠ [] := fun e => by have := congrArg List.length e; rw [hl] at this; exact absurd this (by simp only [List.length_nil]; omega)
    have h1 := last_rune s.data.toList.length [] s.data.toList (Nat.le_refl _) hne hv
    rw [List.nil_append, hl] at h1
    have hr : runes s = runesD s.size s.data.toList := by unfold runes; rw [runesF_D, List.drop_zero]
    rw [h1, hr, getLastD_getD]
    exact runesD_ne _ _ (by omega) hne
  have hall : (∀ r, r ∈ runes s → goodA r) ↔ ∀ i, i < (runes s).length → 32 ≤ (runes s).getD i 0 ∧ ¬ badB ((runes s).getD i 0 : Nat) := by
    constructor
    · intro h i hi
      rw [List.getD_eq_getElem?_getD, List.getElem?_eq_getElem hi]
      exact (good_iff _).1 (h _ (List.getElem_mem hi))
    · intro h r hr
      obtain ⟨i, hi, rfl⟩ := List.mem_iff_getElem.1 hr
      have := h i hi
      rw [List.getD_eq_getElem?_getD, List.getElem?_eq_getElem hi] at this
      exact (good_iff _).2 this
  constructor
  · intro h
    have h0 := h.lo
    exact ⟨h.lo, h.hi, (valid_back s).1 h.valid, by rw [hfirst (by omega)]; exact h.first, by rw [← hlast (by omega) h.valid]; exact h.last, hall.1 h.all⟩
  · intro h
    have h0 := h.lo
    have hv := (valid_back s).2 h.back
    exact ⟨h.lo, h.hi, hv, hall.2 h.all, by rw [← hfirst (by omega)]; exact h.first, by rw [hlast (by omega) hv]; exact h.last⟩

end Go.Proofs.YtenolmhnmcjndaaGreatDoor.Ev
