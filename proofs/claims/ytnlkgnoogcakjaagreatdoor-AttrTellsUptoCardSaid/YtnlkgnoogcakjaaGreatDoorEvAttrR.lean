/-
  Chapter 5 in plain words: what an info says.
-/
import Derived.Test.YtnlkgnoogcakjaaGreatDoorEvA3
namespace Go.Proofs.YtnlkgnoogcakjaaGreatDoor.Ev
open Go
set_option linter.unusedVariables false
set_option linter.unusedSimpArgs false
open Classical
def StyleP (s : ByteArray) : Prop := 1 ≤ s.size ∧ s.size ≤ 4 ∧ ∀ j : Nat, j < s.size → 33 ≤ byteAt s (j : Nat) ∧ byteAt s (j : Nat) ≤ 126
abbrev KAPP : ByteArray := ⟨#[97, 112, 112, 101, 110, 100]⟩
abbrev KNOL : ByteArray := ⟨#[110, 111, 108, 105, 110, 101]⟩
abbrev KNAM : ByteArray := ⟨#[110, 97, 109, 101]⟩
abbrev KFIL : ByteArray := ⟨#[102, 105, 108, 101]⟩
abbrev KCOM : ByteArray := ⟨#[99, 111, 109, 109, 101, 110, 116]⟩
/-- A pair laid into what is said. -/
noncomputable def putS (a : At) (p : PR) : Option At :=
  if p.key = KAPP then (if p.alone = true then some { a with app := true } else none)
  else if p.key = KNOL then (if p.alone = true then some { a with nol := true } else none)
  else if p.alone = true then none
  else if p.key = KNAM then (if NameA p.text then some { a with name := p.text } else none)
  else if p.key = KFIL then (if NameA p.text then some { a with file := p.text } else none)
  else if p.key = KCOM then (if StyleP p.text then some { a with sty := p.text } else none)
  else none
noncomputable def readL : At → List PR → Option At
  | a, [] => some a
  | a, p :: l => match putS a p with
    | some b => readL b l
    | none => none
def lang0 (s : ByteArray) : At := ⟨s, ⟨#[]⟩, ⟨#[]⟩, ⟨#[]⟩, false, false⟩
noncomputable def readR (s : ByteArray) : Option At := match pairsS s with
  | some (lang, l) => readL (lang0 lang) l
  | none => none
def bothP (a : At) : Prop := ¬ a.name = ⟨#[]⟩ ∧ ¬ a.file = ⟨#[]⟩
noncomputable def readS (s : ByteArray) : Option At := match readR s with
  | some a => if bothP a then none else some a
  | none => none
theorem readS_none {s : ByteArray} (h : readR s = none) : readS s = none := by unfold readS; rw [h]
theorem readS_both {s : ByteArray} {a : At} (h : readR s = some a) (hb : bothP a) : readS s = none := by
  unfold readS; rw [h]; simp only; rw [if_pos hb]
theorem readS_some {s : ByteArray} {a : At} (h : readR s = some a) (hb : ¬ bothP a) : readS s = some a := by
  unfold readS; rw [h]; simp only; rw [if_neg hb]
theorem pairsS_all {s lang : ByteArray} {l : List PR} (h : pairsS s = some (lang, l)) : (∀ p, p ∈ l → okP2 s.size p) ∧ l.length ≤ s.size ∧ lang.size ≤ s.size := by
  unfold pairsS at h
  have h1 := trim_size s
  have h2 := langS_le (trimC s WS)
  cases hp : pairsT [] (langS (trimC s WS)).2 with
  | none => rw [hp] at h; cases h
  | some l2 =>
    rw [hp] at h
    cases h
    have := pairsT_all s.size _ [] _ _ (Nat.le_refl _) (by omega) (fun p hp => by cases hp) hp
    refine ⟨this.1, ?_, by omega⟩
    have h3 := this.2
    simp only [List.length_nil] at h3
    omega
theorem pairs_l {s lang : ByteArray} {ok : Bool} {ms : List PA} (h1 : ∀ L l, pairsS s = some (L, l) → ok = true ∧ lang = L ∧ ms = l.map paOf) (h2 : pairsS s = none → ok = false ∧ ms = [] ∧ lang = ⟨#[]⟩) : ∃ l, ms = l.map paOf ∧ (∀ p, p ∈ l → okP2 s.size p) ∧ l.length ≤ s.size ∧ (ok = true → readR s = readL (lang0 lang) l) ∧ (ok = false → readR s = none) := by
  unfold readR
  cases hp : pairsS s with
  | none =>
    obtain ⟨rfl, rfl, rfl⟩ := h2 hp
    exact ⟨[], rfl, fun p hp => (by cases hp), Nat.zero_le _, fun e => (by cases e), fun _ => rfl⟩
  | some x =>
    obtain ⟨L, l⟩ := x
    obtain ⟨rfl, rfl, rfl⟩ := h1 _ _ hp
    have := pairsS_all hp
    exact ⟨l, rfl, this.1, this.2.1, fun _ => rfl, fun e => (by cases e)⟩
theorem pairs_lR {s lang : ByteArray} {ok : Bool} {ms : List PR} (h1 : ∀ L l, pairsS s = some (L, l) → ok = true ∧ lang = L ∧ ms = l) (h2 : pairsS s = none → ok = false ∧ ms = []) : (∀ p, p ∈ ms → okP2 s.size p) ∧ ms.length ≤ s.size ∧ (ok = true → readR s = readL (lang0 lang) ms) ∧ (ok = false → readR s = none ∧ ms = []) := by
  unfold readR
  cases hp : pairsS s with
  | none =>
    obtain ⟨rfl, rfl⟩ := h2 hp
    exact ⟨fun p hp => (by cases hp), Nat.zero_le _, fun e => (by cases e), fun _ => ⟨rfl, rfl⟩⟩
  | some x =>
    obtain ⟨L, l⟩ := x
    obtain ⟨rfl, rfl, rfl⟩ := h1 _ _ hp
    have := pairsS_all hp
    exact ⟨this.1, this.2.1, fun _ => rfl, fun e => (by cases e)⟩
theorem row_some {H : AH} {p : Option Addr} {ms : List PA} (h : Row H p (rowPA ms)) (hl : 0 < ms.length) : ∃ a, p = some a := by
  cases p with
  | some a => exact ⟨a, rfl⟩
  | none =>
    have : rowPA ms = [] := h
    have h2 := flat_len (fun m : PA => m.cells.toList) 2 (fun _ => rfl) ms
    unfold rowPA at this
    rw [this] at h2
    simp at h2
    omega
theorem row_someR {H : AH} {p : Option Addr} {ms : List PR} (h : Row H p (rowPR ms)) (hl : 0 < ms.length) : ∃ a, p = some a := by
  cases p with
  | some a => exact ⟨a, rfl⟩
  | none =>
    have : rowPR ms = [] := h
    have h2 := flat_len (fun m : PR => m.cells.toList) 3 (fun _ => rfl) ms
    unfold rowPR at this
    rw [this] at h2
    simp at h2
    omega
theorem readL_drop {a : At} {l : List PR} {j : Nat} {p : PR} (h : l[j]? = some p) : readL a (l.drop j) = match putS a p with
    | some b => readL b (l.drop (j + 1))
    | none => none := by
  have hlt := (List.getElem?_eq_some_iff.1 h).1
  rw [List.drop_eq_getElem_cons hlt]
  rw [(List.getElem?_eq_some_iff.1 h).2]
  rfl
theorem put_step {R : Option At} {a a2 : At} {l : List PR} {j : Nat} {p : PR} {b : Bool} (hR : R = readL a (l.drop j)) (hp : l[j]? = some p) (h1 : ∀ a3, putS a p = some a3 → b = true ∧ a2 = a3) (h2 : putS a p = none → b = false) : (b = true → R = readL a2 (l.drop (j + 1))) ∧ (b = false → R = none) := by
  rw [hR, readL_drop hp]
  cases hq : putS a p with
  | none => rw [h2 hq]; exact ⟨fun e => (by cases e), fun _ => rfl⟩
  | some a3 => obtain ⟨rfl, rfl⟩ := h1 _ hq; exact ⟨fun _ => rfl, fun e => (by cases e)⟩
theorem readL_end {a : At} {l : List PR} {j : Nat} (h : ¬ j < l.length) : readL a (l.drop j) = some a := by
  rw [List.drop_eq_nil_of_le (by omega)]
  rfl
theorem paOf_isT (p : PR) : (paOf p).val.isT = p.alone := by unfold paOf; cases p.alone <;> rfl
theorem paOf_isS (p : PR) : (paOf p).val.isS = !p.alone := by unfold paOf; cases p.alone <;> rfl
theorem paOf_text (p : PR) (h : p.alone = false) : (paOf p).val.text = p.text := by unfold paOf; rw [h]; rfl
theorem paOf_text2 {p : PR} (h : p.alone = true → p.text = ⟨#[]⟩) : (paOf p).val.text = p.text := by
  unfold paOf
  cases hp : p.alone with
  | true => rw [h hp]; rfl
  | false => rfl
theorem put_app {a : At} {p : PR} (h : p.key = KAPP) : putS a p = if p.alone = true then some { a with app := true } else none := by unfold putS; rw [if_pos h]
theorem put_nol {a : At} {p : PR} (h0 : ¬ p.key = KAPP) (h : p.key = KNOL) : putS a p = if p.alone = true then some { a with nol := true } else none := by unfold putS; rw [if_neg h0, if_pos h]
theorem put_alone {a : At} {p : PR} (h0 : ¬ aloneP p.key) (h : p.alone = true) : putS a p = none := by
  unfold putS; rw [if_neg (fun e => h0 (.inl e)), if_neg (fun e => h0 (.inr e)), if_pos h]
theorem put_nam {a : At} {p : PR} (h0 : ¬ aloneP p.key) (h1 : p.alone = false) (h : p.key = KNAM) : putS a p = if NameA p.text then some { a with name := p.text } else none := by
  unfold putS; rw [if_neg (fun e => h0 (.inl e)), if_neg (fun e => h0 (.inr e)), if_neg (by rw [h1]; decide), if_pos h]
theorem put_fil {a : At} {p : PR} (h0 : ¬ aloneP p.key) (h1 : p.alone = false) (h2 : ¬ p.key = KNAM) (h : p.key = KFIL) : putS a p = if NameA p.text then some { a with file := p.text } else none := by
  unfold putS; rw [if_neg (fun e => h0 (.inl e)), if_neg (fun e => h0 (.inr e)), if_neg (by rw [h1]; decide), if_neg h2, if_pos h]
theorem put_com {a : At} {p : PR} (h0 : ¬ aloneP p.key) (h1 : p.alone = false) (h2 : ¬ p.key = KNAM) (h3 : ¬ p.key = KFIL) (h : p.key = KCOM) : putS a p = if StyleP p.text then some { a with sty := p.text } else none := by
  unfold putS; rw [if_neg (fun e => h0 (.inl e)), if_neg (fun e => h0 (.inr e)), if_neg (by rw [h1]; decide), if_neg h2, if_neg h3, if_pos h]
theorem put_oth {a : At} {p : PR} (h0 : ¬ aloneP p.key) (h1 : p.alone = false) (h2 : ¬ p.key = KNAM) (h3 : ¬ p.key = KFIL) (h : ¬ p.key = KCOM) : putS a p = none := by
  unfold putS; rw [if_neg (fun e => h0 (.inl e)), if_neg (fun e => h0 (.inr e)), if_neg (by rw [h1]; decide), if_neg h2, if_neg h3, if_neg h]
/-- A pair that the reference lays in: the first of its cases that holds. -/
theorem keys_ne : ¬ KNAM = KAPP ∧ ¬ KNAM = KNOL ∧ ¬ KFIL = KAPP ∧ ¬ KFIL = KNOL ∧ ¬ KFIL = KNAM ∧ ¬ KCOM = KAPP ∧ ¬ KCOM = KNOL ∧ ¬ KCOM = KNAM ∧ ¬ KCOM = KFIL ∧ ¬ KNOL = KAPP := by
  have h : ∀ a b : ByteArray, a = b → a.data.toList = b.data.toList := fun a b e => by rw [e]
  refine ⟨?_, ?_, ?_, ?_, ?_, ?_, ?_, ?_, ?_, ?_⟩ <;> exact fun e => absurd (h _ _ e) (by decide)
theorem putR_nam {a : At} {p : PR} (h1 : p.key = KNAM) (h2 : p.alone = false) (h3 : NameR p.text) : putS a p = some { a with name := p.text } := by
  obtain ⟨k1, k2, _⟩ := keys_ne
  rw [put_nam (by rw [h1]; rintro (e | e); exact k1 e; exact k2 e) h2 h1, if_pos ((name_same _).2 h3)]
theorem putR_fil {a : At} {p : PR} (h1 : p.key = KFIL) (h2 : p.alone = false) (h3 : NameR p.text) : putS a p = some { a with file := p.text } := by
  obtain ⟨_, _, k1, k2, k3, _⟩ := keys_ne
  rw [put_fil (by rw [h1]; rintro (e | e); exact k1 e; exact k2 e) h2 (by rw [h1]; exact k3) h1, if_pos ((name_same _).2 h3)]
theorem putR_com {a : At} {p : PR} (h1 : p.key = KCOM) (h2 : p.alone = false) (h3 : StyleP p.text) : putS a p = some { a with sty := p.text } := by
  obtain ⟨_, _, _, _, _, k1, k2, k3, k4, _⟩ := keys_ne
  rw [put_com (by rw [h1]; rintro (e | e); exact k1 e; exact k2 e) h2 (by rw [h1]; exact k3) (by rw [h1]; exact k4) h1, if_pos h3]
theorem putR_app {a : At} {p : PR} (h1 : p.key = KAPP) (h2 : p.alone = true) : putS a p = some { a with app := true } := by rw [put_app h1, if_pos h2]
theorem putR_nol {a : At} {p : PR} (h1 : p.key = KNOL) (h2 : p.alone = true) : putS a p = some { a with nol := true } := by
  rw [put_nol (by rw [h1]; exact keys_ne.2.2.2.2.2.2.2.2.2) h1, if_pos h2]
theorem putR_no {a : At} {p : PR} (h1 : ¬ (p.key = KNAM ∧ p.alone = false ∧ NameR p.text)) (h2 : ¬ (p.key = KFIL ∧ p.alone = false ∧ NameR p.text)) (h3 : ¬ (p.key = KCOM ∧ p.alone = false ∧ StyleP p.text)) (h4 : ¬ (p.key = KAPP ∧ p.alone = true)) (h5 : ¬ (p.key = KNOL ∧ p.alone = true)) : putS a p = none := by
  unfold putS
  by_cases c1 : p.key = KAPP
  · rw [if_pos c1, if_neg (fun e => h4 ⟨c1, e⟩)]
  rw [if_neg c1]
  by_cases c2 : p.key = KNOL
  · rw [if_pos c2, if_neg (fun e => h5 ⟨c2, e⟩)]
  rw [if_neg c2]
  cases c3 : p.alone with
  | true => rfl
  | false =>
    rw [if_neg (by decide)]
    by_cases c4 : p.key = KNAM
    · rw [if_pos c4, if_neg (fun e => h1 ⟨c4, c3, (name_same _).1 e⟩)]
    rw [if_neg c4]
    by_cases c5 : p.key = KFIL
    · rw [if_pos c5, if_neg (fun e => h2 ⟨c5, c3, (name_same _).1 e⟩)]
    rw [if_neg c5]
    by_cases c6 : p.key = KCOM
    · rw [if_pos c6, if_neg (fun e => h3 ⟨c6, c3, e⟩)]
    rw [if_neg c6]
end Go.Proofs.YtnlkgnoogcakjaaGreatDoor.Ev
