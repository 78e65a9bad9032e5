/-
  Chapter 5 in plain words: infos made of tokens; names of letters.
-/
import Derived.Test.YtnlkgnoogcakjaaGreatDoorEvAttrR
import Derived.Test.YtnlkgnoogcakjaaGreatDoorEvAttrE
namespace Go.Proofs.YtnlkgnoogcakjaaGreatDoor.Ev
open Go
set_option linter.unusedVariables false
set_option linter.unusedSimpArgs false

theorem bl_size (l : List UInt8) : (bl l).size = l.length := by rw [← len_size]; rfl
theorem byteAt_bl (l : List UInt8) (j : Nat) (b : UInt8) (h : l[j]? = some b) : byteAt (bl l) (j : Nat) = (b.toNat : Int) := byteAt_list (bl l) j b h
theorem bl_ext (l : List UInt8) (i : Nat) : (bl l).extract i (bl l).size = bl (l.drop i) := by rw [ext_data]; rfl
theorem bl_ext0 (l : List UInt8) (i : Nat) : (bl l).extract 0 i = bl (l.take i) := by rw [ext0_data]; rfl
theorem bl_byte (l : List UInt8) (j : Nat) (h : j < l.length) : ∃ b, l[j]? = some b ∧ byteAt (bl l) (j : Nat) = (b.toNat : Int) := ⟨l[j], List.getElem?_eq_getElem h, byteAt_bl l j _ (List.getElem?_eq_getElem h)⟩

/-! ### Where words and keys end -/
def GapS (r : List UInt8) : Prop := ∀ b, r.head? = some b → gapU b = true
theorem app_at (a r : List UInt8) : (a ++ r)[a.length]? = r.head? := by
  rw [List.getElem?_append_right (Nat.le_refl _), Nat.sub_self, List.head?_eq_getElem?]
theorem app_lt (a r : List UInt8) {j : Nat} (h : j < a.length) : (a ++ r)[j]? = a[j]? := List.getElem?_append_left h
theorem word_app {w r : List UInt8} (hw : ∀ b, b ∈ w → gapU b = false) (hr : GapS r) : wordN (bl (w ++ r)) = w.length := by
  refine word_unique (wordN_end _) ⟨by rw [bl_size, List.length_append]; omega, fun j hj hg => ?_, fun hlt => ?_⟩
  · obtain ⟨b, h1, h2⟩ := bl_byte (w ++ r) j (by rw [List.length_append]; omega)
    rw [h2] at hg
    rw [app_lt w r hj] at h1
    have := hw b (List.mem_of_getElem? h1)
    rw [(gapU_iff b).2 hg] at this
    cases this
  · rw [bl_size] at hlt
    obtain ⟨b, h1, h2⟩ := bl_byte (w ++ r) w.length hlt
    rw [h2]
    rw [app_at] at h1
    exact (gapU_iff b).1 (hr b h1)
def letU (b : UInt8) : Bool := decide (97 ≤ b.toNat ∧ b.toNat ≤ 122)
theorem letU_iff (b : UInt8) : letU b = true ↔ letB (b.toNat : Int) := by unfold letU letB; rw [decide_eq_true_eq]; omega
theorem key_app {k r : List UInt8} (hk : ∀ b, b ∈ k → letU b = true) (hr : ∀ b, r.head? = some b → letU b = false) : KeyEnd (bl (k ++ r)) k.length := by
  refine ⟨by rw [bl_size, List.length_append]; omega, fun j hj => ?_, fun hlt hl => ?_⟩
  · obtain ⟨b, h1, h2⟩ := bl_byte (k ++ r) j (by rw [List.length_append]; omega)
    rw [h2]
    rw [app_lt k r hj] at h1
    exact (letU_iff b).1 (hk b (List.mem_of_getElem? h1))
  · rw [bl_size] at hlt
    obtain ⟨b, h1, h2⟩ := bl_byte (k ++ r) k.length hlt
    rw [h2] at hl
    rw [app_at] at h1
    have := hr b h1
    rw [(letU_iff b).2 hl] at this
    cases this
theorem gap_let_U {b : UInt8} (h : gapU b = true) : letU b = false := by
  cases hl : letU b with
  | false => rfl
  | true => exact absurd ((letU_iff b).1 hl) (gap_let ((gapU_iff b).1 h))

/-! ### Tokens -/
/-- A key without a text. -/
theorem tok_alone {k r : List UInt8} (h0 : 0 < k.length) (hk : ∀ b, b ∈ k → letU b = true) (hr : GapS r) : pairS (bl (k ++ r)) = some (⟨bl k, ⟨#[]⟩, true⟩, k.length) := by
  have hke := key_app hk (r := r) (fun b hb => gap_let_U (hr b hb))
  have hx : (bl (k ++ r)).extract 0 k.length = bl k := by rw [bl_ext0, List.take_left' rfl]
  rw [pairS_alone hke h0, hx]
  by_cases he : k.length = (bl (k ++ r)).size
  · exact .inl he
  · right
    rw [bl_size] at he
    have hlt : k.length < (k ++ r).length := by rw [List.length_append] at he ⊢; omega
    obtain ⟨b, h1, h2⟩ := bl_byte (k ++ r) k.length hlt
    rw [h2]
    rw [app_at] at h1
    exact (gapU_iff b).1 (hr b h1)
theorem key_eq {k r : List UInt8} (hk : ∀ b, b ∈ k → letU b = true) : KeyEnd (bl (k ++ 61 :: r)) k.length ∧ byteAt (bl (k ++ 61 :: r)) (k.length : Nat) = 61 ∧ (bl (k ++ 61 :: r)).extract 0 k.length = bl k ∧ bl r = (bl (k ++ 61 :: r)).extract (k.length + 1) (bl (k ++ 61 :: r)).size := by
  refine ⟨key_app hk (fun b hb => by cases hb; decide), ?_, ?_, ?_⟩
  · exact byteAt_bl _ _ 61 (by rw [app_at]; rfl)
  · rw [bl_ext0, List.take_left' rfl]
  · rw [bl_ext, List.drop_append, List.drop_of_length_le (by omega), show k.length + 1 - k.length = 1 by omega]; rfl
theorem val_eq_pair {k r : List UInt8} (h0 : 0 < k.length) (hk : ∀ b, b ∈ k → letU b = true) : pairS (bl (k ++ 61 :: r)) = pairV (bl (k ++ 61 :: r)) k.length := by
  obtain ⟨h1, h2, h3, h4⟩ := key_eq (r := r) hk
  refine pairS_val h1 h0 (fun hh => ?_) h2
  rcases hh with hh | hh
  · rw [bl_size, List.length_append, List.length_cons] at hh; omega
  · exact gap_eq hh h2
/-- A key and a text that needs no quotes. -/
theorem tok_bare {k v r : List UInt8} (h0 : 0 < k.length) (hk : ∀ b, b ∈ k → letU b = true) (hv : bareB (bl v) = true) (hr : GapS r) : pairS (bl (k ++ 61 :: (v ++ r))) = some (⟨bl k, bl v, false⟩, k.length + 1 + v.length) := by
  obtain ⟨h1, h2, h3, h4⟩ := key_eq (r := v ++ r) hk
  have hng := bare_nogap hv
  have hvz := (bareB_iff _).1 hv
  have hw : wordN (bl (v ++ r)) = v.length := word_app (fun b hb => by
    obtain ⟨j, hj⟩ := List.getElem?_of_mem hb
    have hlt : j < (bl v).size := by rw [bl_size]; exact (List.getElem?_eq_some_iff.1 hj).1
    have := hng j hlt
    rw [byteAt_bl v j b hj] at this
    cases hg : gapU b with
    | false => rfl
    | true => exact absurd ((gapU_iff b).1 hg) this) hr
  have hx : (bl (v ++ r)).extract 0 v.length = bl v := by rw [bl_ext0, List.take_left' rfl]
  rw [val_eq_pair h0 hk, pairV_bare h4, hw, hx, h3, if_pos hv]
  rintro ⟨_, hq⟩
  have hpos := hvz.1
  rw [bl_size] at hpos
  obtain ⟨b, e1, e2⟩ := bl_byte v 0 hpos
  have e3 : byteAt (bl (v ++ r)) (0 : Nat) = (b.toNat : Int) := byteAt_bl _ _ _ (by rw [app_lt v r hpos]; exact e1)
  rw [e3] at hq
  have e4 : b.toNat ∈ runes (bl v) := byte_rune (j := 0) (by rw [bl_size]; exact hpos) (by omega) e2
  exact hvz.2 _ e4 (.inr (.inl hq))
/-! Texts in quotes. -/
theorem toNat_inj {b : UInt8} {n : Nat} (hn : n < 256) (h : b.toNat = n) : b = UInt8.ofNat n := u8_eq b n hn (by omega)
theorem u8_34 {b : UInt8} (h : (b.toNat : Int) = 34) : b = 34 := toNat_inj (n := 34) (by decide) (by omega)
theorem u8_92 {b : UInt8} (h : (b.toNat : Int) = 92) : b = 92 := toNat_inj (n := 92) (by decide) (by omega)
theorem u8_61 {b : UInt8} (h : (b.toNat : Int) = 61) : b = 61 := toNat_inj (n := 61) (by decide) (by omega)
theorem ext_one_bl {s : ByteArray} {u r : List UInt8} {b : UInt8} (h : s.data.toList = u ++ b :: r) : byteAt s (u.length : Nat) = (b.toNat : Int) ∧ s.extract u.length (u.length + 1) = ⟨#[b]⟩ ∧ u.length < s.size := by
  have hlt : u.length < s.size := by rw [← len_size, h, List.length_append, List.length_cons]; omega
  have hg : s.data.toList[u.length]? = some b := by rw [h, app_at]; rfl
  obtain ⟨c, h1, h2⟩ := byteOne s u.length hlt
  have h3 := byteAt_list s u.length b hg
  have : c = b := by
    have e : c.toNat = b.toNat := by rw [h1] at h3; omega
    exact UInt8.toNat.inj e
  exact ⟨h3, by rw [h2, this], hlt⟩
theorem quo_esc (s : ByteArray) (r : List UInt8) : ∀ (v u : List UInt8) (out : ByteArray), s.data.toList = u ++ (escL v ++ 34 :: r) → quoAt s u.length out = some (out ++ bl v, u.length + (escL v).length + 1)
  | [], u, out, h => by
    obtain ⟨h1, _, h3⟩ := ext_one_bl (u := u) (r := r) (b := 34) h
    rw [quoAt_q h3 h1]
    have : out ++ bl [] = out := by apply ba_ext; rw [app_list, bl_list, List.append_nil]
    rw [this]
    rfl
  | b :: v, u, out, h => by
    by_cases hb : b = 34 ∨ b = 92
    · have he : escL (b :: v) = 92 :: b :: escL v := by simp only [escL]; rw [if_pos hb]
      rw [he] at h ⊢
      obtain ⟨h1, _, h3⟩ := ext_one_bl (u := u) (b := 92) (r := b :: (escL v ++ 34 :: r)) h
      have h' : s.data.toList = (u ++ [92]) ++ b :: (escL v ++ 34 :: r) := by rw [h]; simp
      obtain ⟨k1, k2, k3⟩ := ext_one_bl h'
      have hl : (u ++ [92]).length = u.length + 1 := by simp
      rw [hl] at k1 k2 k3
      have h'' : s.data.toList = (u ++ [92, b]) ++ (escL v ++ 34 :: r) := by rw [h]; simp
      have ih := quo_esc s r v (u ++ [92, b]) (out ++ ⟨#[b]⟩) h''
      have hl2 : (u ++ [92, b]).length = u.length + 2 := by simp
      rw [hl2] at ih
      rw [quoAt_esc h1 k3 (by
        rw [k1]
        rcases hb with rfl | rfl
        · left; rfl
        · right; rfl), k2, ih]
      simp only [List.length_cons]
      congr 2
      · apply ba_ext; rw [app_list, app_list, app_list, bl_list, bl_list]; simp
      · omega
    · have he : escL (b :: v) = b :: escL v := by simp only [escL]; rw [if_neg hb]
      rw [he] at h ⊢
      obtain ⟨h1, h2, h3⟩ := ext_one_bl (u := u) (b := b) (r := escL v ++ 34 :: r) h
      have h'' : s.data.toList = (u ++ [b]) ++ (escL v ++ 34 :: r) := by rw [h]; simp
      have ih := quo_esc s r v (u ++ [b]) (out ++ ⟨#[b]⟩) h''
      have hl2 : (u ++ [b]).length = u.length + 1 := by simp
      rw [hl2] at ih
      rw [quoAt_one h3 (by rw [h1]; intro e; exact hb (.inl (u8_34 e))) (by rw [h1]; intro e; exact hb (.inr (u8_92 e))), h2, ih]
      simp only [List.length_cons]
      congr 2
      · apply ba_ext; rw [app_list, app_list, app_list, bl_list, bl_list]; simp
      · omega
/-- A key and a text in quotes. -/
theorem tok_quo {k v r : List UInt8} (h0 : 0 < k.length) (hk : ∀ b, b ∈ k → letU b = true) (hr : GapS r) : pairS (bl (k ++ 61 :: (34 :: (escL v ++ 34 :: r)))) = some (⟨bl k, bl v, false⟩, k.length + 1 + ((escL v).length + 2)) := by
  obtain ⟨h1, h2, h3, h4⟩ := key_eq (r := 34 :: (escL v ++ 34 :: r)) hk
  have hq : quoted (bl (34 :: (escL v ++ 34 :: r))) = some (bl v, (escL v).length + 2) := by
    have := quo_esc (bl (34 :: (escL v ++ 34 :: r))) r v [34] ⟨#[]⟩ rfl
    unfold quoted
    rw [show ([34] : List UInt8).length = 1 from rfl] at this
    rw [this]
    have e : (⟨#[]⟩ : ByteArray) ++ bl v = bl v := by apply ba_ext; rw [app_list]; rfl
    rw [e]
    congr 2
    omega
  rw [val_eq_pair h0 hk, pairV_q2 h4 ⟨by rw [bl_size]; simp, byteAt_bl _ 0 34 rfl⟩ hq, h3]
  rw [bl_size]
  by_cases hlt : (escL v).length + 2 < (34 :: (escL v ++ 34 :: r)).length
  · right
    obtain ⟨b, e1, e2⟩ := bl_byte _ _ hlt
    rw [e2]
    have e3 : (34 :: (escL v ++ 34 :: r)) = (34 :: (escL v ++ [34])) ++ r := by simp
    have e4 : (34 :: (escL v ++ [34])).length = (escL v).length + 2 := by simp
    rw [e3, ← e4, app_at] at e1
    exact (gapU_iff b).1 (hr b e1)
  · exact .inl hlt

/-! ### Rows of tokens -/
def NoGapS (r : List UInt8) : Prop := ∀ b, r.head? = some b → gapU b = false
theorem trim_app {g r : List UInt8} (hg : ∀ b, b ∈ g → gapU b = true) (hr : NoGapS r) : trimC (bl (g ++ r)) WS = bl r := by
  have : GapEnd (bl (g ++ r)) g.length := by
    refine ⟨by rw [bl_size, List.length_append]; omega, fun j hj => ?_, fun hlt hh => ?_⟩
    · obtain ⟨b, h1, h2⟩ := bl_byte (g ++ r) j (by rw [List.length_append]; omega)
      rw [h2]
      rw [app_lt g r hj] at h1
      exact (gapU_iff b).1 (hg b (List.mem_of_getElem? h1))
    · rw [bl_size] at hlt
      obtain ⟨b, h1, h2⟩ := bl_byte (g ++ r) g.length hlt
      rw [h2] at hh
      rw [app_at] at h1
      have := hr b h1
      rw [(gapU_iff b).2 hh] at this
      cases this
  rw [trim_gap _ _ this, bl_ext, List.drop_left' rfl]
theorem pairs_tok {acc : List PR} {τ g r : List UInt8} {p : PR} (h0 : 0 < τ.length) (ht : pairS (bl (τ ++ (g ++ r))) = some (p, τ.length)) (hg : ∀ b, b ∈ g → gapU b = true) (hr : NoGapS r) (hd : ¬ ∃ q, q ∈ acc ∧ q.key = p.key) : pairsT acc (bl (τ ++ (g ++ r))) = pairsT (acc ++ [p]) (bl r) := by
  rw [pairsT_step (by rw [bl_size, List.length_append]; omega) ht hd, bl_ext, List.drop_left' rfl, trim_app hg hr]
theorem pairs_tok_dup {acc : List PR} {τ r : List UInt8} {p : PR} {n : Nat} (h0 : 0 < τ.length) (ht : pairS (bl (τ ++ r)) = some (p, n)) (hd : ∃ q, q ∈ acc ∧ q.key = p.key) : pairsT acc (bl (τ ++ r)) = none :=
  pairsT_dup (by rw [bl_size, List.length_append]; omega) ht hd
/-- A language ahead. -/
theorem lang_tok {w g r : List UInt8} (h0 : 0 < w.length) (hw : ∀ b, b ∈ w → gapU b = false) (he : ∀ b, b ∈ w → b ≠ 61) (ha : ¬ aloneP (bl w)) (hg : ∀ b, b ∈ g → gapU b = true) (hr : NoGapS r) (hgr : g = [] → r = []) : pairsS (bl (w ++ (g ++ r))) = (pairsT [] (bl r)).map fun l => (bl w, l) := by
  have hgs : GapS (g ++ r) := fun b hb => by
    cases g with
    | nil => rw [hgr rfl] at hb; cases hb
    | cons a g => exact hg b (by cases hb; exact List.mem_cons_self)
  have hn : wordN (bl (w ++ (g ++ r))) = w.length := word_app hw hgs
  have hx : (bl (w ++ (g ++ r))).extract 0 w.length = bl w := by rw [bl_ext0, List.take_left' rfl]
  have htr : trimC (bl (w ++ (g ++ r))) WS = bl (w ++ (g ++ r)) := trim_app (g := []) (r := w ++ (g ++ r)) (fun b hb => by cases hb) (fun b hb => by
    cases w with
    | nil => exact absurd h0 (Nat.lt_irrefl _)
    | cons a w => exact hw b (by cases hb; exact List.mem_cons_self))
  refine pairsS_of htr.symm ?_
  rw [langS_yes (by rw [hn]; exact h0) (fun j hj => ?_) (by rw [hn, hx]; exact ha), hn, hx, bl_ext, List.drop_left' rfl, trim_app hg hr]
  rw [hn] at hj
  obtain ⟨b, h1, h2⟩ := bl_byte (w ++ (g ++ r)) j (by rw [List.length_append]; omega)
  rw [h2]
  rw [app_lt w _ hj] at h1
  have := he b (List.mem_of_getElem? h1)
  intro e
  exact this (u8_61 e)
/-- A row of pairs does not end in a sign of equality. -/
theorem pairsT_last : ∀ (n : Nat) (acc : List PR) (t : ByteArray) (l : List PR), t.size ≤ n → 0 < t.size → pairsT acc t = some l → ¬ byteAt t (t.size - 1 : Nat) = 61
  | 0, acc, t, l, hn, h0, _ => absurd hn (by omega)
  | n + 1, acc, t, l, hn, h0, h => by
    intro hlast
    cases hp : pairS t with
    | none => rw [pairsT_none (by omega) hp] at h; cases h
    | some x =>
      obtain ⟨p, m⟩ := x
      by_cases hd : ∃ q, q ∈ acc ∧ q.key = p.key
      · rw [pairsT_dup (by omega) hp hd] at h; cases h
      rw [pairsT_step (by omega) hp hd] at h
      have hle := pairS_le hp
      obtain ⟨i, hi, htr⟩ := trimG_ex (t.extract m t.size)
      have hz := ext_size t m
      rw [htr, ext_ext_end] at h
      have hil := hi.1
      by_cases hr : m + i < t.size
      · have := pairsT_last n _ _ _ (by rw [ext_size]; omega) (by rw [ext_size]; omega) h
        rw [ext_size, byteAt_ext] at this
        exact this (by rw [show m + i + (t.size - (m + i) - 1) = t.size - 1 by omega]; exact hlast)
      · by_cases hm : m = t.size
        · rw [← hm] at hlast; exact hle.2.2.2.2 hlast
        · have := hi.2.1 (t.size - 1 - m) (by omega)
          rw [byteAt_ext, show m + (t.size - 1 - m) = t.size - 1 by omega, hlast] at this
          exact gap_eq this rfl

/-! ### Names of letters -/
theorem runes_ascii (s : ByteArray) (h : ∀ b, b ∈ s.data.toList → b.toNat < 128) : ∀ n pos : Nat, s.size - pos ≤ n → runesF s (s.size - pos) pos = (s.data.toList.drop pos).map UInt8.toNat
  | n, pos, hn => by
    by_cases hp : pos < s.size
    · have hlt : pos < s.data.toList.length := by rw [len_size]; exact hp
      obtain ⟨b, h1, h2⟩ := byteAt_some s pos hp
      have hb := h b (List.mem_of_getElem? h1)
      have hd : (Utf8.decode s pos).1 = b.toNat ∧ (Utf8.decode s pos).2 = 1 := by
        rcases dec_bytes s pos hp with ⟨a1, a2, a3⟩ | ⟨a1, a2, a3⟩
        · exact ⟨by omega, a2⟩
        · have := Lib.decode_width_pos s pos hp
          have := a3 pos (Nat.le_refl _) (by omega)
          omega
      rw [runesF_step s pos hp, hd.1, hd.2]
      match n, hn with
      | 0, hn => exact absurd hn (by omega)
      | n + 1, hn =>
        rw [runes_ascii s h n (pos + 1) (by omega)]
        rw [List.drop_eq_getElem_cons hlt, List.map_cons]
        rw [List.getElem?_eq_getElem hlt] at h1
        rw [Option.some.inj h1]
    · rw [runesF_end _ _ _ hp, List.drop_eq_nil_of_le (by rw [len_size]; omega)]
      rfl
theorem enc_ascii : ∀ k : Fin 128, (Utf8.encode (k.val : Int)).data.toList = [k.val.toUInt8] := by decide +kernel
theorem encF_ascii : ∀ (l : List UInt8) (acc : ByteArray), (∀ b, b ∈ l → b.toNat < 128) → encF (l.map UInt8.toNat) acc = acc ++ bl l
  | [], acc, _ => by
    apply ba_ext
    rw [app_list]
    simp [encF, bl]
  | b :: l, acc, h => by
    have hb := h b List.mem_cons_self
    have e := enc_ascii ⟨b.toNat, hb⟩
    simp only [List.map_cons, encF]
    rw [encF_ascii l _ (fun c hc => h c (List.mem_cons_of_mem _ hc))]
    apply ba_ext
    simp only [app_list, bl_list]
    simp only at e
    rw [e]
    simp
theorem nameR_letters {l : List UInt8} (h1 : 1 ≤ l.length) (h2 : l.length ≤ 60) (h : ∀ b, b ∈ l → letU b = true) : NameR (bl l) := by
  have hlo : ∀ b, b ∈ l → 97 ≤ b.toNat ∧ b.toNat ≤ 122 := fun b hb => of_decide_eq_true (h b hb)
  have hr : runes (bl l) = l.map UInt8.toNat := by
    have := runes_ascii (bl l) (fun b hb => by have := hlo b hb; omega) _ 0 (Nat.le_refl _)
    rw [Nat.sub_zero] at this
    exact this
  have hl : (runes (bl l)).length = l.length := by rw [hr, List.length_map]
  have hget : ∀ i, i < l.length → 97 ≤ (runes (bl l)).getD i 0 ∧ (runes (bl l)).getD i 0 ≤ 122 := fun i hi => by
    rw [hr, List.getD_eq_getElem?_getD, List.getElem?_map, List.getElem?_eq_getElem hi]
    exact hlo _ (List.getElem_mem hi)
  have hnb : ∀ n : Nat, 97 ≤ n → n ≤ 122 → blankB (n : Int) = false := fun n a b => by
    unfold blankB
    rw [decide_eq_false_iff_not]
    omega
  refine ⟨by rw [bl_size]; exact h1, by rw [bl_size]; exact h2, ?_, ?_, ?_, ?_⟩
  · rw [hr, encF_ascii l _ (fun b hb => by have := hlo b hb; omega)]
    apply ba_ext
    rw [app_list]
    rfl
  · have := hget 0 (by omega)
    exact hnb _ this.1 this.2
  · have := hget ((runes (bl l)).length - 1) (by omega)
    exact hnb _ this.1 this.2
  · intro i hi
    have := hget i (by omega)
    refine ⟨by omega, fun hb => ?_⟩
    unfold badB at hb
    omega
theorem bare_ascii {l : List UInt8} (h0 : 0 < l.length) (h : ∀ b, b ∈ l → b.toNat < 128 ∧ ¬ quoteP (b.toNat : Int)) : bareB (bl l) = true := by
  rw [bareB_iff]
  refine ⟨by rw [bl_size]; exact h0, fun r hr => ?_⟩
  have := runes_ascii (bl l) (fun b hb => (h b hb).1) _ 0 (Nat.le_refl _)
  rw [Nat.sub_zero] at this
  unfold runes at hr
  rw [this] at hr
  obtain ⟨b, hb, rfl⟩ := List.mem_map.1 hr
  exact (h b hb).2
theorem bare_letters {l : List UInt8} (h0 : 0 < l.length) (h : ∀ b, b ∈ l → letU b = true) : bareB (bl l) = true := bare_ascii h0 fun b hb => by
  have := of_decide_eq_true (h b hb)
  refine ⟨by omega, fun hq => ?_⟩
  unfold quoteP blankB at hq
  rw [decide_eq_true_eq] at hq
  omega
end Go.Proofs.YtnlkgnoogcakjaaGreatDoor.Ev
