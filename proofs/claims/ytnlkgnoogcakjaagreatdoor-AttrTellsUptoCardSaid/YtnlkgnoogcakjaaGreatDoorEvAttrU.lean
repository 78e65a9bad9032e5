/-
  Chapter 5 in plain words: what is written, and that what was read is written so that it is read again.
-/
import Derived.Test.YtnlkgnoogcakjaaGreatDoorEvAttrT
namespace Go.Proofs.YtnlkgnoogcakjaaGreatDoor.Ev
open Go
set_option linter.unusedVariables false
set_option linter.unusedSimpArgs false
set_option maxRecDepth 20000

/-! ### Tokens, one behind the other -/
/-- A token: what it is read as; it is no language. -/
structure TokOk (τ : List UInt8) (p : PR) : Prop where
  pos : 0 < τ.length
  ng : NoGapS τ
  pair : ∀ r, GapS r → pairS (bl (τ ++ r)) = some (p, τ.length)
  nl : ∀ r, GapS r → ¬ (0 < wordN (bl (τ ++ r)) ∧ (∀ j : Nat, j < wordN (bl (τ ++ r)) → ¬ byteAt (bl (τ ++ r)) (j : Nat) = 61) ∧ ¬ aloneP ((bl (τ ++ r)).extract 0 (wordN (bl (τ ++ r)))))
theorem word_past {l : List UInt8} {n : Nat} (hn : n < l.length) (h : ∀ j b, j ≤ n → l[j]? = some b → gapU b = false) : n < wordN (bl l) := by
  have hw := wordN_end (bl l)
  rcases Nat.lt_or_ge n (wordN (bl l)) with h1 | h1
  · exact h1
  · exfalso
    have h2 := hw.2.2 (by rw [bl_size]; omega)
    obtain ⟨b, k1, k2⟩ := bl_byte l (wordN (bl l)) (by omega)
    rw [k2] at h2
    have := h _ b h1 k1
    rw [(gapU_iff b).2 h2] at this
    cases this
theorem tok_nl {k r : List UInt8} (hk : ∀ b, b ∈ k → letU b = true) : ¬ (0 < wordN (bl (k ++ 61 :: r)) ∧ (∀ j : Nat, j < wordN (bl (k ++ 61 :: r)) → ¬ byteAt (bl (k ++ 61 :: r)) (j : Nat) = 61) ∧ ¬ aloneP ((bl (k ++ 61 :: r)).extract 0 (wordN (bl (k ++ 61 :: r))))) := by
  rintro ⟨_, h, _⟩
  have hlt : k.length < wordN (bl (k ++ 61 :: r)) := word_past (by rw [List.length_append, List.length_cons]; omega) fun j b hj hb => by
    by_cases e : j = k.length
    · subst e
      rw [app_at] at hb
      cases hb
      decide
    · rw [app_lt k _ (by omega)] at hb
      have := hk b (List.mem_of_getElem? hb)
      cases hg : gapU b with
      | false => rfl
      | true => rw [gap_let_U hg] at this; cases this
  exact h _ hlt (byteAt_bl _ _ 61 (by rw [app_at]; rfl))
theorem head_app {k r : List UInt8} (h0 : 0 < k.length) : (k ++ r).head? = k.head? := by
  cases k with
  | nil => exact absurd h0 (Nat.lt_irrefl _)
  | cons a k => rfl
theorem ng_let {k : List UInt8} (h0 : 0 < k.length) (hk : ∀ b, b ∈ k → letU b = true) (r : List UInt8) : NoGapS (k ++ r) := let_head h0 hk
def tokL (k v : List UInt8) : List UInt8 := if bareB (bl v) = true then k ++ 61 :: v else k ++ 61 :: (34 :: (escL v ++ [34]))
theorem tokL_ok {k v : List UInt8} (h0 : 0 < k.length) (hk : ∀ b, b ∈ k → letU b = true) : TokOk (tokL k v) ⟨bl k, bl v, false⟩ := by
  unfold tokL
  split
  · rename_i hb
    refine ⟨by rw [List.length_append]; omega, ng_let h0 hk _, fun r hr => ?_, fun r hr => ?_⟩
    · have := tok_bare (r := r) h0 hk hb hr
      have e : k ++ 61 :: (v ++ r) = (k ++ 61 :: v) ++ r := by simp
      rw [e] at this
      rw [this]
      congr 2
      simp; omega
    · have e : (k ++ 61 :: v) ++ r = k ++ 61 :: (v ++ r) := by simp
      rw [e]
      exact tok_nl hk
  · refine ⟨by rw [List.length_append]; omega, ng_let h0 hk _, fun r hr => ?_, fun r hr => ?_⟩
    · have := tok_quo (v := v) (r := r) h0 hk hr
      have e : k ++ 61 :: (34 :: (escL v ++ 34 :: r)) = (k ++ 61 :: (34 :: (escL v ++ [34]))) ++ r := by simp
      rw [e] at this
      rw [this]
      congr 2
      simp; omega
    · have e : (k ++ 61 :: (34 :: (escL v ++ [34]))) ++ r = k ++ 61 :: ((34 :: (escL v ++ [34])) ++ r) := by simp
      rw [e]
      exact tok_nl hk
theorem tokA_ok {k : List UInt8} (h0 : 0 < k.length) (hk : ∀ b, b ∈ k → letU b = true) (ha : aloneP (bl k)) : TokOk k ⟨bl k, ⟨#[]⟩, true⟩ := by
  have hng : ∀ b, b ∈ k → gapU b = false := fun b hb => by
    have := hk b hb
    cases hg : gapU b with
    | false => rfl
    | true => rw [gap_let_U hg] at this; cases this
  refine ⟨h0, by have := ng_let h0 hk []; rwa [List.append_nil] at this, fun r hr => tok_alone h0 hk hr, fun r hr => ?_⟩
  rintro ⟨_, _, h⟩
  rw [word_app hng hr, bl_ext0, List.take_left' rfl] at h
  exact h ha
/-- Tokens with a blank between. -/
def joinT : List (List UInt8 × PR) → List UInt8
  | [] => []
  | [x] => x.1
  | x :: y :: l => x.1 ++ 32 :: joinT (y :: l)
/-- A blank ahead of each. -/
def flatT : List (List UInt8 × PR) → List UInt8
  | [] => []
  | x :: l => 32 :: (x.1 ++ flatT l)
theorem flat_join : ∀ (x : List UInt8 × PR) (l : List (List UInt8 × PR)), flatT (x :: l) = 32 :: joinT (x :: l)
  | x, [] => by simp [flatT, joinT]
  | x, y :: l => by
    have := flat_join y l
    show 32 :: (x.1 ++ flatT (y :: l)) = 32 :: (x.1 ++ 32 :: joinT (y :: l))
    rw [this]
theorem join_cons : ∀ (x : List UInt8 × PR) (l : List (List UInt8 × PR)), joinT (x :: l) = x.1 ++ flatT l
  | x, [] => by simp [flatT, joinT]
  | x, y :: l => by
    rw [flat_join]
    rfl
theorem flat_gap (l : List (List UInt8 × PR)) : GapS (flatT l) := fun b hb => by
  cases l with
  | nil => cases hb
  | cons x l => cases hb; decide
def Toks (l : List (List UInt8 × PR)) : Prop := ∀ x, x ∈ l → TokOk x.1 x.2
theorem join_ng {l : List (List UInt8 × PR)} (h : Toks l) : NoGapS (joinT l) := fun b hb => by
  cases l with
  | nil => cases hb
  | cons x l =>
    have hx := h x List.mem_cons_self
    rw [join_cons, head_app hx.pos] at hb
    exact hx.ng b hb
theorem pairs_row : ∀ (l : List (List UInt8 × PR)) (acc : List PR), Toks l → ((acc ++ l.map Prod.snd).map PR.key).Nodup → pairsT acc (bl (joinT l)) = some (acc ++ l.map Prod.snd)
  | [], acc, _, _ => by
    show pairsT acc (bl []) = _
    rw [pairs_end, List.map_nil, List.append_nil]
  | x :: l, acc, h, hd => by
    have hx := h x List.mem_cons_self
    have hnd : ¬ ∃ q, q ∈ acc ∧ q.key = x.2.key := by
      rintro ⟨q, hq, e⟩
      rw [List.map_append, List.nodup_append] at hd
      exact hd.2.2 q.key (List.mem_map.2 ⟨q, hq, rfl⟩) x.2.key (by simp) e
    have hT : Toks l := fun y hy => h y (List.mem_cons_of_mem _ hy)
    have e2 : acc ++ (x :: l).map Prod.snd = (acc ++ [x.2]) ++ l.map Prod.snd := by simp
    rw [join_cons]
    cases l with
    | nil =>
      have := pairs_tok (acc := acc) (g := []) (r := []) hx.pos (hx.pair [] (fun b hb => by cases hb)) (fun b hb => by cases hb) (fun b hb => by cases hb) hnd
      simp only [List.append_nil] at this
      show pairsT acc (bl (x.1 ++ [])) = _
      rw [List.append_nil, this, pairs_end]
      rfl
    | cons y l =>
      have ih := pairs_row (y :: l) (acc ++ [x.2]) hT (by rw [← e2]; exact hd)
      rw [flat_join]
      have := pairs_tok (acc := acc) (g := [32]) (r := joinT (y :: l)) hx.pos (hx.pair _ (by have := flat_gap (y :: l); rw [flat_join] at this; exact this)) (by decide) (join_ng hT) hnd
      show pairsT acc (bl (x.1 ++ ([32] ++ joinT (y :: l)))) = _
      rw [this, ih, e2]
/-- A language that may be. -/
structure LangOk (w : List UInt8) : Prop where
  ng : ∀ b, b ∈ w → gapU b = false
  ne : ∀ b, b ∈ w → b ≠ 61
  al : ¬ aloneP (bl w)
/-- A row with, or without, a language ahead. -/
theorem pairs_lang {w : List UInt8} {l : List (List UInt8 × PR)} (hw : w = [] ∨ LangOk w) (h : Toks l) (hd : ((l.map Prod.snd).map PR.key).Nodup) : pairsS (bl (w ++ flatT l)) = some (bl w, l.map Prod.snd) := by
  have hrow := pairs_row l [] h (by simpa using hd)
  rw [List.nil_append] at hrow
  by_cases hw0 : w = []
  · subst hw0
    rw [List.nil_append]
    have ht : trimC (bl (flatT l)) WS = bl (joinT l) := by
      cases l with
      | nil => exact trim_app (g := []) (r := []) (fun b hb => by cases hb) (fun b hb => by cases hb)
      | cons x l => rw [flat_join]; exact trim_app (g := [32]) (by decide) (join_ng h)
    have hl : langS (bl (joinT l)) = (⟨#[]⟩, bl (joinT l)) := by
      cases l with
      | nil => exact langS_no (fun hh => by rw [wordN_0 (show (bl (joinT [])).size = 0 from rfl)] at hh; exact absurd hh.1 (Nat.lt_irrefl _))
      | cons x l => rw [join_cons]; exact langS_no ((h x List.mem_cons_self).nl _ (flat_gap l))
    rw [pairsS_of ht.symm hl, hrow]
    rfl
  · have hw := hw.resolve_left hw0
    have hpos : 0 < w.length := List.length_pos_iff.2 hw0
    cases l with
    | nil =>
      have e : w ++ flatT [] = w ++ (([] : List UInt8) ++ ([] : List UInt8)) := rfl
      have hg : ∀ b : UInt8, b ∈ ([] : List UInt8) → gapU b = true := fun b hb => nomatch hb
      have hr : NoGapS [] := fun b hb => nomatch hb
      have hx := lang_tok (w := w) hpos hw.ng hw.ne hw.al hg hr (fun _ => rfl)
      rw [e, hx, pairs_end]
      rfl
    | cons x l =>
      have e : w ++ flatT (x :: l) = w ++ ([32] ++ joinT (x :: l)) := by rw [flat_join]; rfl
      have hg : ∀ b : UInt8, b ∈ ([32] : List UInt8) → gapU b = true := by decide
      have hx := lang_tok (w := w) hpos hw.ng hw.ne hw.al hg (join_ng h) (fun e => absurd e (by decide))
      rw [e, hx, hrow]
      rfl

/-! ### What is written -/
def tokF (k : List UInt8) (s : ByteArray) : List (List UInt8 × PR) := if s.size = 0 then [] else [(tokL k s.data.toList, ⟨bl k, s, false⟩)]
def tokB (k : List UInt8) (b : Bool) : List (List UInt8 × PR) := if b = true then [(k, ⟨bl k, ⟨#[]⟩, true⟩)] else []
def toks (a : At) : List (List UInt8 × PR) := tokF NAM a.name ++ (tokF FIL a.file ++ (tokF COM a.sty ++ (tokB APP a.app ++ tokB NOL a.nol)))
def writeP (a : At) : ByteArray := a.lang ++ textS KNAM a.name ++ textS KFIL a.file ++ textS KCOM a.sty ++ (if a.app = true then ⟨#[32, 97, 112, 112, 101, 110, 100]⟩ else ⟨#[]⟩) ++ (if a.nol = true then ⟨#[32, 110, 111, 108, 105, 110, 101]⟩ else ⟨#[]⟩)
theorem bl_back (s : ByteArray) : bl s.data.toList = s := (bl_of rfl).symm
theorem flat_app : ∀ a b : List (List UInt8 × PR), flatT (a ++ b) = flatT a ++ flatT b
  | [], b => rfl
  | x :: a, b => by
    show 32 :: (x.1 ++ flatT (a ++ b)) = (32 :: (x.1 ++ flatT a)) ++ flatT b
    rw [flat_app a b]
    simp
theorem text_flat (k : List UInt8) (s : ByteArray) : (textS (bl k) s).data.toList = flatT (tokF k s) := by
  unfold textS tokF
  by_cases h0 : s.size = 0
  · rw [if_pos h0, if_pos h0]; rfl
  · rw [if_neg h0, if_neg h0]
    show _ = 32 :: (tokL k s.data.toList ++ [])
    unfold tokL
    rw [bl_back]
    by_cases hb : bareB s = true
    · rw [if_pos hb, if_pos hb]
      simp only [app_list, bl_list]
      simp
    · rw [if_neg hb, if_neg hb]
      simp only [app_list, bl_list]
      simp
theorem flag_flat (k : List UInt8) (b : Bool) : ((if b = true then bl (32 :: k) else (⟨#[]⟩ : ByteArray))).data.toList = flatT (tokB k b) := by
  unfold tokB
  cases b with
  | true => show 32 :: k = 32 :: (k ++ []); rw [List.append_nil]
  | false => rfl
theorem write_flat (a : At) : writeP a = bl (a.lang.data.toList ++ flatT (toks a)) := by
  apply ba_ext
  unfold writeP toks
  rw [flat_app, flat_app, flat_app, flat_app]
  have h1 := text_flat NAM a.name
  have h2 := text_flat FIL a.file
  have h3 := text_flat COM a.sty
  have h4 := flag_flat APP a.app
  have h5 := flag_flat NOL a.nol
  rw [bl_list, ← h1, ← h2, ← h3, ← h4, ← h5]
  simp only [app_list, List.append_assoc]
  rfl
theorem toks_ok (a : At) : Toks (toks a) := by
  obtain ⟨l1, l2, l3, l4, l5⟩ := letK
  have hF : ∀ k s, 0 < k.length → (∀ b, b ∈ k → letU b = true) → Toks (tokF k s) := fun k s h0 hk x hx => by
    unfold tokF at hx
    split at hx
    · cases hx
    · simp only [List.mem_singleton] at hx
      subst hx
      have := tokL_ok (v := s.data.toList) h0 hk
      rw [bl_back] at this
      exact this
  have hB : ∀ k b, 0 < k.length → (∀ b, b ∈ k → letU b = true) → aloneP (bl k) → Toks (tokB k b) := fun k b h0 hk ha x hx => by
    unfold tokB at hx
    split at hx
    · simp only [List.mem_singleton] at hx
      subst hx
      exact tokA_ok h0 hk ha
    · cases hx
  intro x hx
  unfold toks at hx
  rcases List.mem_append.1 hx with hx | hx
  · exact hF _ _ (by decide) l1 x hx
  rcases List.mem_append.1 hx with hx | hx
  · exact hF _ _ (by decide) l5 x hx
  rcases List.mem_append.1 hx with hx | hx
  · exact hF _ _ (by decide) l2 x hx
  rcases List.mem_append.1 hx with hx | hx
  · exact hB _ _ (by decide) l3 (.inl rfl) x hx
  · exact hB _ _ (by decide) l4 (.inr rfl) x hx
theorem toks_nodup (a : At) : (((toks a).map Prod.snd).map PR.key).Nodup := by
  have hF : ∀ k s, (((tokF k s).map Prod.snd).map PR.key).Sublist [bl k] := fun k s => by
    unfold tokF
    split
    · exact List.nil_sublist _
    · exact List.Sublist.refl _
  have hB : ∀ k b, (((tokB k b).map Prod.snd).map PR.key).Sublist [bl k] := fun k b => by
    unfold tokB
    split
    · exact List.Sublist.refl _
    · exact List.nil_sublist _
  have hs : (((toks a).map Prod.snd).map PR.key).Sublist ([bl NAM] ++ ([bl FIL] ++ ([bl COM] ++ ([bl APP] ++ [bl NOL])))) := by
    unfold toks
    simp only [List.map_append]
    exact (hF _ _).append ((hF _ _).append ((hF _ _).append ((hB _ _).append (hB _ _))))
  refine List.Nodup.sublist hs ?_
  have : ([bl NAM] ++ ([bl FIL] ++ ([bl COM] ++ ([bl APP] ++ [bl NOL])))) = [NAM, FIL, COM, APP, NOL].map bl := rfl
  rw [this]
  have hn : ([NAM, FIL, COM, APP, NOL] : List (List UInt8)).Nodup := by decide
  exact List.pairwise_map.2 (hn.imp fun {a b} hab e => hab (bl_inj.1 e))

/-! ### What may be said -/
structure Said (a : At) : Prop where
  lang : a.lang.data.toList = [] ∨ LangOk a.lang.data.toList
  name : a.name.size = 0 ∨ NameA a.name
  file : a.file.size = 0 ∨ NameA a.file
  sty : a.sty.size = 0 ∨ StyleP a.sty
theorem size0 {s : ByteArray} (h : s.size = 0) : s = ⟨#[]⟩ := ByteArray.ext (Array.eq_empty_of_size_eq_zero h)
theorem putS_said {a b : At} {p : PR} (h : Said a) (hp : putS a p = some b) : Said b := by
  unfold putS at hp
  repeat' split at hp
  all_goals first
    | (cases hp; done)
    | (cases hp; exact ⟨h.lang, h.name, h.file, h.sty⟩)
    | (cases hp; exact ⟨h.lang, .inr (by assumption), h.file, h.sty⟩)
    | (cases hp; exact ⟨h.lang, h.name, .inr (by assumption), h.sty⟩)
    | (cases hp; exact ⟨h.lang, h.name, h.file, .inr (by assumption)⟩)
theorem readL_said : ∀ (l : List PR) (a b : At), Said a → readL a l = some b → Said b
  | [], a, b, h, hr => by cases hr; exact h
  | p :: l, a, b, h, hr => by
    unfold readL at hr
    split at hr
    · rename_i c hc; exact readL_said l c b (putS_said h hc) hr
    · cases hr
theorem langS_ok (t : ByteArray) : (langS t).1.data.toList = [] ∨ LangOk (langS t).1.data.toList := by
  unfold langS
  split
  · rename_i h
    right
    have hw := wordN_end t
    have hz : (t.extract 0 (wordN t)).size = wordN t := by have := hw.1; simp [ByteArray.size_extract]; omega
    have hb : ∀ b, b ∈ (t.extract 0 (wordN t)).data.toList → ∃ j : Nat, j < wordN t ∧ byteAt t (j : Nat) = ((b.toNat : Nat) : Int) := fun b hb => by
      obtain ⟨j, hj⟩ := List.getElem?_of_mem hb
      have hlt := (List.getElem?_eq_some_iff.1 hj).1
      rw [len_size, hz] at hlt
      have := byteAt_list _ j b hj
      rw [byteAt_ext0 t _ j hlt hw.1] at this
      exact ⟨j, hlt, this⟩
    refine ⟨fun b hbm => ?_, fun b hbm e => ?_, ?_⟩
    · obtain ⟨j, h1, h2⟩ := hb b hbm
      cases hg : gapU b with
      | false => rfl
      | true => exact absurd (h2 ▸ (gapU_iff b).1 hg) (hw.2.1 j h1)
    · obtain ⟨j, h1, h2⟩ := hb b hbm
      subst e
      exact h.2.1 j h1 h2
    · show ¬ aloneP (bl (t.extract 0 (wordN t)).data.toList)
      rw [bl_back]
      exact h.2.2
  · left; rfl
theorem readS_said {s : ByteArray} {a : At} (h : readS s = some a) : Said a ∧ ¬ bothP a := by
  unfold readS at h
  split at h
  · rename_i b hb
    split at h
    · cases h
    · rename_i hn
      cases h
      refine ⟨?_, hn⟩
      unfold readR at hb
      split at hb
      · rename_i lang l hp
        have hl : (lang0 lang).lang.data.toList = [] ∨ LangOk (lang0 lang).lang.data.toList := by
          unfold pairsS at hp
          obtain ⟨l2, _, e⟩ := Option.map_eq_some_iff.1 hp
          have e2 := congrArg Prod.fst e
          show lang.data.toList = [] ∨ LangOk lang.data.toList
          rw [← (show (langS (trimC s WS)).1 = lang from e2)]
          exact langS_ok _
        exact readL_said l _ _ ⟨hl, .inl rfl, .inl rfl, .inl rfl⟩ hb
      · cases hb
  · cases h
theorem readL_app {a b : At} : ∀ (l l2 : List PR), readL a l = some b → readL a (l ++ l2) = readL b l2
  | [], l2, h => by cases h; rfl
  | p :: l, l2, h => by
    unfold readL at h
    split at h
    · rename_i c hc
      rw [List.cons_append, readL_cons hc]
      exact readL_app l l2 h
    · cases h
theorem read_tokF {a : At} {k : List UInt8} {s : ByteArray} (f : At → At) (h0 : s.size = 0 → f a = a) (h : s.size ≠ 0 → putS a ⟨bl k, s, false⟩ = some (f a)) : readL a ((tokF k s).map Prod.snd) = some (f a) := by
  unfold tokF
  by_cases hs : s.size = 0
  · rw [if_pos hs, h0 hs]; rfl
  · rw [if_neg hs]
    show readL a [⟨bl k, s, false⟩] = _
    rw [readL_cons (h hs)]
    rfl
theorem read_tokB {a : At} {k : List UInt8} {b : Bool} (f : At → At) (h0 : b = false → f a = a) (h : b = true → putS a ⟨bl k, ⟨#[]⟩, true⟩ = some (f a)) : readL a ((tokB k b).map Prod.snd) = some (f a) := by
  unfold tokB
  cases b with
  | false => rw [if_neg (by decide), h0 rfl]; rfl
  | true =>
    rw [if_pos rfl]
    show readL a [⟨bl k, ⟨#[]⟩, true⟩] = _
    rw [readL_cons (h rfl)]
    rfl
theorem read_toks {a : At} (h : Said a) : readL (lang0 a.lang) ((toks a).map Prod.snd) = some a := by
  unfold toks
  simp only [List.map_append]
  have e1 := read_tokF (a := lang0 a.lang) (k := NAM) (s := a.name) (fun x => { x with name := a.name }) (fun hs => by rw [size0 hs]; rfl) (fun hs => putR_nam rfl rfl ((name_same _).1 (h.name.resolve_left hs)))
  rw [readL_app _ _ e1]
  have e2 := read_tokF (a := { lang0 a.lang with name := a.name }) (k := FIL) (s := a.file) (fun x => { x with file := a.file }) (fun hs => by rw [size0 hs]; rfl) (fun hs => putR_fil rfl rfl ((name_same _).1 (h.file.resolve_left hs)))
  rw [readL_app _ _ e2]
  have e3 := read_tokF (a := { lang0 a.lang with name := a.name, file := a.file }) (k := COM) (s := a.sty) (fun x => { x with sty := a.sty }) (fun hs => by rw [size0 hs]; rfl) (fun hs => putR_com rfl rfl (h.sty.resolve_left hs))
  rw [readL_app _ _ e3]
  have e4 := read_tokB (a := { lang0 a.lang with name := a.name, file := a.file, sty := a.sty }) (k := APP) (b := a.app) (fun x => { x with app := a.app }) (fun hs => by rw [hs]; rfl) (fun hs => by rw [hs]; exact putR_app rfl rfl)
  rw [readL_app _ _ e4]
  have e5 := read_tokB (a := { lang0 a.lang with name := a.name, file := a.file, sty := a.sty, app := a.app }) (k := NOL) (b := a.nol) (fun x => { x with nol := a.nol }) (fun hs => by rw [hs]; rfl) (fun hs => by rw [hs]; exact putR_nol rfl rfl)
  exact e5
theorem trim_trim (s : ByteArray) : trimC (trimC s WS) WS = trimC s WS := by
  obtain ⟨i, hi, ht⟩ := trimG_ex s
  rw [ht]
  have hz := ext_size s i
  have : GapEnd (s.extract i s.size) 0 := ⟨Nat.zero_le _, fun j hj => absurd hj (Nat.not_lt_zero _), fun hlt => by rw [byteAt_ext, Nat.add_zero]; exact hi.2.2 (by omega)⟩
  rw [trim_gap _ _ this]
  exact ext_all _
theorem pairsS_trim (s : ByteArray) : pairsS (trimC s WS) = pairsS s := by
  unfold pairsS
  rw [trim_trim]
theorem readS_trim (s : ByteArray) : readS (trimC s WS) = readS s := by
  unfold readS readR
  rw [pairsS_trim]
/-- WHAT WAS READ IS WRITTEN SO THAT IT IS READ AGAIN. -/
theorem read_write {s : ByteArray} {a : At} (h : readS s = some a) : readS (trimC (writeP a) WS) = some a := by
  obtain ⟨h1, h2⟩ := readS_said h
  rw [readS_trim, write_flat]
  refine readS_of (pairs_lang h1.lang (toks_ok a) (toks_nodup a)) ?_ h2
  rw [bl_back]
  exact read_toks h1
/-- What the program writes. -/
noncomputable def writeS (a : At) : ByteArray := open Classical in if readS (trimC (writeP a) WS) = some a then trimC (writeP a) WS else ⟨#[]⟩
theorem writeS_yes {a : At} (h : readS (trimC (writeP a) WS) = some a) : writeS a = trimC (writeP a) WS := by unfold writeS; rw [if_pos h]
theorem writeS_no {a : At} (h : ¬ readS (trimC (writeP a) WS) = some a) : writeS a = ⟨#[]⟩ := by unfold writeS; rw [if_neg h]
theorem writeS_read {a : At} (h : ¬ writeS a = ⟨#[]⟩) : readS (writeS a) = some a := by
  by_cases hr : readS (trimC (writeP a) WS) = some a
  · rw [writeS_yes hr]; exact hr
  · exact absurd (writeS_no hr) h

/-! ### What the reference writes -/
def joinB : List ByteArray → ByteArray
  | [] => ⟨#[]⟩
  | [x] => x
  | x :: y :: l => x ++ ⟨#[32]⟩ ++ joinB (y :: l)
def valueS (s : ByteArray) : ByteArray := if bareB s = true then s else ⟨#[34]⟩ ++ bl (escL s.data.toList) ++ ⟨#[34]⟩
def partF (k s : ByteArray) : List ByteArray := if s.size = 0 then [] else [k ++ ⟨#[61]⟩ ++ valueS s]
def partsR (a : At) : List ByteArray := (if a.lang.size = 0 then [] else [a.lang]) ++ (partF KNAM a.name ++ (partF KFIL a.file ++ (partF KCOM a.sty ++ ((if a.app = true then [KAPP] else []) ++ (if a.nol = true then [KNOL] else [])))))
noncomputable def writeR (a : At) : ByteArray := open Classical in if readS (joinB (partsR a)) = some a then joinB (partsR a) else ⟨#[]⟩
def flatB2 : List ByteArray → List UInt8
  | [] => []
  | x :: l => 32 :: (x.data.toList ++ flatB2 l)
theorem joinB_cons : ∀ (x : ByteArray) (l : List ByteArray), (joinB (x :: l)).data.toList = x.data.toList ++ flatB2 l
  | x, [] => by simp [flatB2, joinB]
  | x, y :: l => by
    show (x ++ ⟨#[32]⟩ ++ joinB (y :: l)).data.toList = x.data.toList ++ (32 :: (y.data.toList ++ flatB2 l))
    rw [app_list, app_list, joinB_cons y l]
    simp
theorem flatB2_app : ∀ a b : List ByteArray, flatB2 (a ++ b) = flatB2 a ++ flatB2 b
  | [], b => rfl
  | x :: a, b => by
    show 32 :: (x.data.toList ++ flatB2 (a ++ b)) = (32 :: (x.data.toList ++ flatB2 a)) ++ flatB2 b
    rw [flatB2_app a b]
    simp
theorem partF_flat (k : List UInt8) (s : ByteArray) : flatB2 (partF (bl k) s) = flatT (tokF k s) := by
  unfold partF tokF
  by_cases h0 : s.size = 0
  · rw [if_pos h0, if_pos h0]; rfl
  · rw [if_neg h0, if_neg h0]
    show 32 :: ((bl k ++ ⟨#[61]⟩ ++ valueS s).data.toList ++ []) = 32 :: (tokL k s.data.toList ++ [])
    unfold valueS tokL
    rw [bl_back]
    by_cases hb : bareB s = true
    · rw [if_pos hb, if_pos hb]
      simp only [app_list, bl_list]
      simp
    · rw [if_neg hb, if_neg hb]
      simp only [app_list, bl_list]
      simp
theorem partB_flat (k : List UInt8) (b : Bool) : flatB2 (if b = true then [bl k] else []) = flatT (tokB k b) := by
  unfold tokB
  cases b <;> rfl
def tailR (a : At) : List ByteArray := partF KNAM a.name ++ (partF KFIL a.file ++ (partF KCOM a.sty ++ ((if a.app = true then [KAPP] else []) ++ (if a.nol = true then [KNOL] else []))))
theorem tail_flat (a : At) : flatB2 (tailR a) = flatT (toks a) := by
  unfold tailR toks
  rw [flatB2_app, flatB2_app, flatB2_app, flatB2_app, flat_app, flat_app, flat_app, flat_app]
  have h1 := partF_flat NAM a.name
  have h2 := partF_flat FIL a.file
  have h3 := partF_flat COM a.sty
  have h4 := partB_flat APP a.app
  have h5 := partB_flat NOL a.nol
  rw [← h1, ← h2, ← h3, ← h4, ← h5]
  rfl
/-- BOTH WRITE THE SAME. -/
theorem write_same (a : At) : writeS a = writeR a := by
  have key : trimC (writeP a) WS = trimC (joinB (partsR a)) WS ∧ (a.lang.size = 0 → trimC (writeP a) WS = joinB (partsR a)) ∧ (a.lang.size ≠ 0 → writeP a = joinB (partsR a)) := by
    by_cases h0 : a.lang.size = 0
    · have hl : a.lang.data.toList = [] := List.eq_nil_of_length_eq_zero (by rw [len_size]; exact h0)
      have hj : joinB (partsR a) = bl (joinT (toks a)) := by
        have ht := tail_flat a
        have hp : partsR a = tailR a := by unfold partsR; rw [if_pos h0]; rfl
        rw [hp]
        apply ba_ext
        cases hq : tailR a with
        | nil =>
          rw [hq] at ht
          cases hk : toks a with
          | nil => rfl
          | cons x l => rw [hk] at ht; cases ht
        | cons x l =>
          rw [hq] at ht
          cases hk : toks a with
          | nil => rw [hk] at ht; cases ht
          | cons y m =>
            rw [hk, flat_join] at ht
            rw [joinB_cons]
            have := List.cons.inj ht
            exact this.2
      have hw : trimC (writeP a) WS = joinB (partsR a) := by
        rw [write_flat, hl, hj, List.nil_append]
        cases hk : toks a with
        | nil => exact trim_app (g := []) (r := []) (fun b hb => by cases hb) (fun b hb => by cases hb)
        | cons x l => rw [flat_join]; exact trim_app (g := [32]) (by decide) (join_ng (by rw [← hk]; exact toks_ok a))
      refine ⟨?_, fun _ => hw, fun h => absurd h0 h⟩
      rw [hw, ← hw, trim_trim]
    · have hw : writeP a = joinB (partsR a) := by
        rw [write_flat]
        apply ba_ext
        have hp : partsR a = a.lang :: tailR a := by unfold partsR; rw [if_neg h0]; rfl
        rw [hp, joinB_cons, tail_flat]
        rfl
      exact ⟨by rw [hw], fun h => absurd h h0, fun _ => hw⟩
  obtain ⟨k1, k2, k3⟩ := key
  have hrs : readS (trimC (writeP a) WS) = readS (joinB (partsR a)) := by rw [k1, readS_trim]
  by_cases hr : readS (trimC (writeP a) WS) = some a
  · rw [writeS_yes hr]
    unfold writeR
    rw [if_pos (by rw [← hrs]; exact hr)]
    by_cases h0 : a.lang.size = 0
    · exact k2 h0
    · rw [← k3 h0]
      have hs := (readS_said hr).1.lang
      have hne : a.lang.data.toList ≠ [] := fun e => h0 (by rw [← len_size, e]; rfl)
      have hok := hs.resolve_left hne
      rw [write_flat]
      exact trim_app (g := []) (r := a.lang.data.toList ++ flatT (toks a)) (fun b hb => by cases hb) (fun b hb => by
        rw [head_app (List.length_pos_iff.2 hne)] at hb
        exact hok.ng b (List.mem_of_mem_head? hb))
  · rw [writeS_no hr]
    unfold writeR
    rw [if_neg (by rw [← hrs]; exact hr)]
end Go.Proofs.YtnlkgnoogcakjaaGreatDoor.Ev
