/-
  Chapter 5 in plain words: in which order pairs stand is all the same.
-/
import Derived.Test.YtnlkgnoogcakjaaGreatDoorEvAttrS
namespace Go.Proofs.YtnlkgnoogcakjaaGreatDoor.Ev
set_option maxRecDepth 20000
open Go
set_option linter.unusedVariables false
set_option linter.unusedSimpArgs false

def GO : List UInt8 := [103, 111]
def NAM : List UInt8 := [110, 97, 109, 101]
def FIL : List UInt8 := [102, 105, 108, 101]
def COM : List UInt8 := [99, 111, 109, 109, 101, 110, 116]
def APP : List UInt8 := [97, 112, 112, 101, 110, 100]
def NOL : List UInt8 := [110, 111, 108, 105, 110, 101]
def GapsS (g r : List UInt8) : Prop := (∀ b, b ∈ g → gapU b = true) ∧ NoGapS r ∧ (g = [] → r = [])
theorem GapsS.gapS {g r : List UInt8} (h : GapsS g r) : GapS (g ++ r) := fun b hb => by
  cases g with
  | nil => rw [h.2.2 rfl] at hb; cases hb
  | cons a g => exact h.1 b (by cases hb; exact List.mem_cons_self)
theorem pairs_bare {acc : List PR} {k v g r : List UInt8} (h0 : 0 < k.length) (hk : ∀ b, b ∈ k → letU b = true) (hv : bareB (bl v) = true) (hg : GapsS g r) (hd : ¬ ∃ q, q ∈ acc ∧ q.key = bl k) : pairsT acc (bl (k ++ 61 :: (v ++ (g ++ r)))) = pairsT (acc ++ [⟨bl k, bl v, false⟩]) (bl r) := by
  have e : k ++ 61 :: (v ++ (g ++ r)) = (k ++ 61 :: v) ++ (g ++ r) := by simp
  have ht := tok_bare h0 hk hv hg.gapS
  rw [e] at ht ⊢
  have hl : (k ++ 61 :: v).length = k.length + 1 + v.length := by simp; omega
  rw [← hl] at ht
  exact pairs_tok (by rw [hl]; omega) ht hg.1 hg.2.1 hd
theorem pairs_quo {acc : List PR} {k v g r : List UInt8} (h0 : 0 < k.length) (hk : ∀ b, b ∈ k → letU b = true) (hg : GapsS g r) (hd : ¬ ∃ q, q ∈ acc ∧ q.key = bl k) : pairsT acc (bl (k ++ 61 :: (34 :: (escL v ++ 34 :: (g ++ r))))) = pairsT (acc ++ [⟨bl k, bl v, false⟩]) (bl r) := by
  have e : k ++ 61 :: (34 :: (escL v ++ 34 :: (g ++ r))) = (k ++ 61 :: (34 :: (escL v ++ [34]))) ++ (g ++ r) := by simp
  have ht := tok_quo (v := v) h0 hk hg.gapS
  rw [e] at ht ⊢
  have hl : (k ++ 61 :: (34 :: (escL v ++ [34]))).length = k.length + 1 + ((escL v).length + 2) := by simp; omega
  rw [← hl] at ht
  exact pairs_tok (by rw [hl]; omega) ht hg.1 hg.2.1 hd
theorem pairs_alone {acc : List PR} {k g r : List UInt8} (h0 : 0 < k.length) (hk : ∀ b, b ∈ k → letU b = true) (hg : GapsS g r) (hd : ¬ ∃ q, q ∈ acc ∧ q.key = bl k) : pairsT acc (bl (k ++ (g ++ r))) = pairsT (acc ++ [⟨bl k, ⟨#[]⟩, true⟩]) (bl r) :=
  pairs_tok h0 (tok_alone h0 hk hg.gapS) hg.1 hg.2.1 hd
theorem pairs_end (acc : List PR) : pairsT acc (bl []) = some acc := pairsT_nil rfl
theorem readS_of {s lang : ByteArray} {l : List PR} {a : At} (hp : pairsS s = some (lang, l)) (hl : readL (lang0 lang) l = some a) (hb : ¬ bothP a) : readS s = some a := by
  refine readS_some ?_ hb
  unfold readR
  rw [hp]
  exact hl
theorem readL_cons {a b : At} {p : PR} {l : List PR} (h : putS a p = some b) : readL a (p :: l) = readL b l := by
  show (match putS a p with | some b => readL b l | none => none) = _
  rw [h]
theorem letK : (∀ b, b ∈ NAM → letU b = true) ∧ (∀ b, b ∈ COM → letU b = true) ∧ (∀ b, b ∈ APP → letU b = true) ∧ (∀ b, b ∈ NOL → letU b = true) ∧ (∀ b, b ∈ FIL → letU b = true) := by
  refine ⟨?_, ?_, ?_, ?_, ?_⟩ <;> decide
theorem bl_inj {a b : List UInt8} : bl a = bl b ↔ a = b := ⟨fun h => by have := congrArg (fun s : ByteArray => s.data.toList) h; exact this, fun h => by rw [h]⟩
theorem bl_KNAM : bl NAM = KNAM := rfl
theorem bl_KCOM : bl COM = KCOM := rfl
theorem bl_KAPP : bl APP = KAPP := rfl
theorem bl_KNOL : bl NOL = KNOL := rfl
theorem bl_KFIL : bl FIL = KFIL := rfl
/-- Letters, some thirty at most. -/
def LetN (n : List UInt8) : Prop := 1 ≤ n.length ∧ n.length ≤ 60 ∧ ∀ b, b ∈ n → letU b = true
def StyN (s : List UInt8) : Prop := s = [35] ∨ s = [47, 47] ∨ s = [59] ∨ s = [45, 45] ∨ s = [37]
theorem sty_ok {s : List UInt8} (h : StyN s) : bareB (bl s) = true ∧ StyleP (bl s) ∧ escL s = s := by
  have key : ∀ s : List UInt8, 1 ≤ s.length → s.length ≤ 4 → (∀ b, b ∈ s → (33 ≤ b.toNat ∧ b.toNat ≤ 126) ∧ ¬ quoteP (b.toNat : Int)) → bareB (bl s) = true ∧ StyleP (bl s) := fun s h1 h2 h3 => by
    refine ⟨bare_ascii (by omega) (fun b hb => ⟨by have := (h3 b hb).1; omega, (h3 b hb).2⟩), by rw [bl_size]; exact h1, by rw [bl_size]; exact h2, fun j hj => ?_⟩
    rw [bl_size] at hj
    obtain ⟨b, k1, k2⟩ := bl_byte s j hj
    rw [k2]
    have := (h3 b (List.mem_of_getElem? k1)).1
    omega
  have nq : ∀ n : Nat, n = 35 ∨ n = 47 ∨ n = 59 ∨ n = 45 ∨ n = 37 → (33 ≤ n ∧ n ≤ 126) ∧ ¬ quoteP (n : Int) := fun n hn => by
    refine ⟨by omega, fun hq => ?_⟩
    unfold quoteP blankB at hq
    rw [decide_eq_true_eq] at hq
    omega
  have kk : ∀ s : List UInt8, 1 ≤ s.length → s.length ≤ 4 → (∀ b, b ∈ s → b.toNat = 35 ∨ b.toNat = 47 ∨ b.toNat = 59 ∨ b.toNat = 45 ∨ b.toNat = 37) → bareB (bl s) = true ∧ StyleP (bl s) := fun s h1 h2 h3 => key s h1 h2 fun b hb => nq _ (h3 b hb)
  rcases h with rfl | rfl | rfl | rfl | rfl
  all_goals
    refine ⟨(kk _ (by decide) (by decide) (by decide)).1, (kk _ (by decide) (by decide) (by decide)).2, by decide⟩
theorem esc_letters : ∀ (l : List UInt8), (∀ b, b ∈ l → letU b = true) → escL l = l
  | [], _ => rfl
  | b :: l, h => by
    have hb := of_decide_eq_true (h b List.mem_cons_self)
    simp only [escL]
    rw [if_neg (by rintro (rfl | rfl) <;> exact absurd hb (by decide)), esc_letters l (fun c hc => h c (List.mem_cons_of_mem _ hc))]
theorem let_head {k r : List UInt8} (h0 : 0 < k.length) (hk : ∀ b, b ∈ k → letU b = true) : NoGapS (k ++ r) := fun b hb => by
  cases k with
  | nil => exact absurd h0 (Nat.lt_irrefl _)
  | cons a k =>
    have : b = a := by cases hb; rfl
    subst this
    have := hk b List.mem_cons_self
    cases hg : gapU b with
    | false => rfl
    | true => rw [gap_let_U hg] at this; cases this
theorem gaps_let {g k r : List UInt8} (hg0 : g ≠ []) (hg : ∀ b, b ∈ g → gapU b = true) (h0 : 0 < k.length) (hk : ∀ b, b ∈ k → letU b = true) : GapsS g (k ++ r) := ⟨hg, let_head h0 hk, fun e => absurd e hg0⟩
theorem gaps_end {g : List UInt8} (hg : ∀ b, b ∈ g → gapU b = true) : GapsS g [] := ⟨hg, fun b hb => (by cases hb), fun _ => rfl⟩
theorem go_lang {g k r : List UInt8} (hg0 : g ≠ []) (hg : ∀ b, b ∈ g → gapU b = true) (h0 : 0 < k.length) (hk : ∀ b, b ∈ k → letU b = true) : pairsS (bl (GO ++ (g ++ (k ++ r)))) = (pairsT [] (bl (k ++ r))).map fun l => (bl GO, l) := by
  refine lang_tok (by decide) (by decide) (by decide) ?_ hg (let_head h0 hk) (fun e => absurd e hg0)
  rintro (e | e)
  · exact absurd (bl_inj.1 (show bl GO = bl APP from e)) (by decide)
  · exact absurd (bl_inj.1 (show bl GO = bl NOL from e)) (by decide)
def ordA (n s : List UInt8) : At := ⟨bl GO, bl n, ⟨#[]⟩, bl s, true, true⟩
theorem notBoth (n s : List UInt8) : ¬ bothP (ordA n s) := fun h => h.2 rfl
theorem ndup {l : List PR} {k : List UInt8} (h : ∀ q, q ∈ l → q.key ≠ bl k) : ¬ ∃ q, q ∈ l ∧ q.key = bl k := fun ⟨q, h1, h2⟩ => h q h1 h2
def kB (a b : List UInt8) : Prop := a ≠ b
theorem ne_bl {a b : List UInt8} (h : a ≠ b) : bl a ≠ bl b := fun e => h (bl_inj.1 e)
def listA (n s : List UInt8) : List UInt8 := GO ++ ([32] ++ (NAM ++ 61 :: (n ++ ([32] ++ (COM ++ 61 :: (s ++ ([32] ++ (APP ++ ([32] ++ (NOL ++ ([] ++ [])))))))))))
theorem order_a {n s : List UInt8} (hn : LetN n) (hs : StyN s) : readS (bl (listA n s)) = some (ordA n s) := by
  obtain ⟨l1, l2, l3, l4, l5⟩ := letK
  obtain ⟨s1, s2, s3⟩ := sty_ok hs
  have hsp : ∀ b, b ∈ ([32] : List UInt8) → gapU b = true := by decide
  have hp : pairsS (bl (listA n s)) = some (bl GO, [⟨KNAM, bl n, false⟩, ⟨KCOM, bl s, false⟩, ⟨KAPP, ⟨#[]⟩, true⟩, ⟨KNOL, ⟨#[]⟩, true⟩]) := by
    unfold listA
    rw [go_lang (by decide) hsp (by decide) l1]
    rw [pairs_bare (by decide) l1 (bare_letters hn.1 hn.2.2) (gaps_let (by decide) hsp (by decide) l2) (by rintro ⟨q, hq, _⟩; cases hq)]
    rw [pairs_bare (by decide) l2 s1 (gaps_let (by decide) hsp (by decide) l3) (ndup (by simp; exact ne_bl (by decide)))]
    rw [pairs_alone (by decide) l3 (gaps_let (by decide) hsp (by decide) l4) (ndup (by simp; exact ⟨ne_bl (by decide), ne_bl (by decide)⟩))]
    rw [pairs_alone (by decide) l4 (gaps_end (by decide)) (ndup (by simp; exact ⟨ne_bl (by decide), ne_bl (by decide), ne_bl (by decide)⟩))]
    rw [pairs_end]
    rfl
  refine readS_of hp ?_ (notBoth n s)
  rw [readL_cons (putR_nam rfl rfl (nameR_letters hn.1 hn.2.1 hn.2.2)), readL_cons (putR_com rfl rfl s2), readL_cons (putR_app rfl rfl), readL_cons (putR_nol rfl rfl)]
  rfl
def listB (n s : List UInt8) : List UInt8 := GO ++ ([32, 32] ++ (NOL ++ ([9] ++ (COM ++ 61 :: (s ++ ([32] ++ (APP ++ ([32] ++ (NAM ++ 61 :: (n ++ ([32] ++ [])))))))))))
theorem order_b {n s : List UInt8} (hn : LetN n) (hs : StyN s) : readS (bl (listB n s)) = some (ordA n s) := by
  obtain ⟨l1, l2, l3, l4, l5⟩ := letK
  obtain ⟨s1, s2, s3⟩ := sty_ok hs
  have hsp : ∀ b, b ∈ ([32] : List UInt8) → gapU b = true := by decide
  have hp : pairsS (bl (listB n s)) = some (bl GO, [⟨KNOL, ⟨#[]⟩, true⟩, ⟨KCOM, bl s, false⟩, ⟨KAPP, ⟨#[]⟩, true⟩, ⟨KNAM, bl n, false⟩]) := by
    unfold listB
    rw [go_lang (by decide) (by decide) (by decide) l4]
    rw [pairs_alone (by decide) l4 (gaps_let (by decide) (by decide) (by decide) l2) (by rintro ⟨q, hq, _⟩; cases hq)]
    rw [pairs_bare (by decide) l2 s1 (gaps_let (by decide) hsp (by decide) l3) (ndup (by simp; exact ne_bl (by decide)))]
    rw [pairs_alone (by decide) l3 (gaps_let (by decide) hsp (by decide) l1) (ndup (by simp; exact ⟨ne_bl (by decide), ne_bl (by decide)⟩))]
    rw [pairs_bare (by decide) l1 (bare_letters hn.1 hn.2.2) (gaps_end (by decide)) (ndup (by simp; exact ⟨ne_bl (by decide), ne_bl (by decide), ne_bl (by decide)⟩))]
    rw [pairs_end]
    rfl
  refine readS_of hp ?_ (notBoth n s)
  rw [readL_cons (putR_nol rfl rfl), readL_cons (putR_com rfl rfl s2), readL_cons (putR_app rfl rfl), readL_cons (putR_nam rfl rfl (nameR_letters hn.1 hn.2.1 hn.2.2))]
  rfl
def listC (n s : List UInt8) : List UInt8 := GO ++ ([32] ++ (COM ++ 61 :: (34 :: (escL s ++ 34 :: ([32] ++ (NAM ++ 61 :: (34 :: (escL n ++ 34 :: ([32] ++ (APP ++ ([32] ++ (NOL ++ ([] ++ [])))))))))))))
theorem order_c {n s : List UInt8} (hn : LetN n) (hs : StyN s) : readS (bl (listC n s)) = some (ordA n s) := by
  obtain ⟨l1, l2, l3, l4, l5⟩ := letK
  obtain ⟨s1, s2, s3⟩ := sty_ok hs
  have hsp : ∀ b, b ∈ ([32] : List UInt8) → gapU b = true := by decide
  have hp : pairsS (bl (listC n s)) = some (bl GO, [⟨KCOM, bl s, false⟩, ⟨KNAM, bl n, false⟩, ⟨KAPP, ⟨#[]⟩, true⟩, ⟨KNOL, ⟨#[]⟩, true⟩]) := by
    unfold listC
    rw [go_lang (by decide) hsp (by decide) l2]
    rw [pairs_quo (by decide) l2 (gaps_let (by decide) hsp (by decide) l1) (by rintro ⟨q, hq, _⟩; cases hq)]
    rw [pairs_quo (by decide) l1 (gaps_let (by decide) hsp (by decide) l3) (ndup (by simp; exact ne_bl (by decide)))]
    rw [pairs_alone (by decide) l3 (gaps_let (by decide) hsp (by decide) l4) (ndup (by simp; exact ⟨ne_bl (by decide), ne_bl (by decide)⟩))]
    rw [pairs_alone (by decide) l4 (gaps_end (by decide)) (ndup (by simp; exact ⟨ne_bl (by decide), ne_bl (by decide), ne_bl (by decide)⟩))]
    rw [pairs_end]
    rfl
  refine readS_of hp ?_ (notBoth n s)
  rw [readL_cons (putR_com rfl rfl s2), readL_cons (putR_nam rfl rfl (nameR_letters hn.1 hn.2.1 hn.2.2)), readL_cons (putR_app rfl rfl), readL_cons (putR_nol rfl rfl)]
  rfl
def listD (n : List UInt8) : List UInt8 := GO ++ ([32] ++ (NAM ++ 61 :: (n ++ ([32] ++ (APP ++ ([32] ++ (APP ++ [])))))))
theorem order_d {n : List UInt8} (hn : LetN n) : readS (bl (listD n)) = none := by
  obtain ⟨l1, l2, l3, l4, l5⟩ := letK
  have hsp : ∀ b, b ∈ ([32] : List UInt8) → gapU b = true := by decide
  have hp : pairsS (bl (listD n)) = none := by
    unfold listD
    rw [go_lang (by decide) hsp (by decide) l1]
    rw [pairs_bare (by decide) l1 (bare_letters hn.1 hn.2.2) (gaps_let (by decide) hsp (by decide) l3) (by rintro ⟨q, hq, _⟩; cases hq)]
    rw [pairs_alone (by decide) l3 (gaps_let (by decide) hsp (by decide) l3) (ndup (by simp; exact ne_bl (by decide)))]
    rw [pairs_tok_dup (by decide) (tok_alone (by decide) l3 (fun b hb => by cases hb)) ⟨⟨bl APP, ⟨#[]⟩, true⟩, by simp, rfl⟩]
    rfl
  refine readS_none ?_
  unfold readR
  rw [hp]
theorem order_e {n m : List UInt8} : readS (bl (GO ++ ([32] ++ (NAM ++ 61 :: (n ++ ([32] ++ (m ++ [61]))))))) = none := by
  obtain ⟨l1, l2, l3, l4, l5⟩ := letK
  have hp : pairsS (bl (GO ++ ([32] ++ (NAM ++ 61 :: (n ++ ([32] ++ (m ++ [61]))))))) = none := by
    rw [go_lang (by decide) (by decide) (by decide) l1]
    cases hq : pairsT [] (bl (NAM ++ 61 :: (n ++ ([32] ++ (m ++ [61]))))) with
    | none => rfl
    | some l =>
      have hlen : (NAM ++ 61 :: (n ++ ([32] ++ (m ++ [61])))).length = (NAM ++ 61 :: (n ++ ([32] ++ m))).length + 1 := by simp; omega
      have := pairsT_last _ _ _ _ (Nat.le_refl _) (by rw [bl_size, hlen]; omega) hq
      rw [bl_size, hlen, Nat.add_sub_cancel] at this
      refine absurd (byteAt_bl _ _ 61 ?_) this
      have e : NAM ++ 61 :: (n ++ ([32] ++ (m ++ [61]))) = (NAM ++ 61 :: (n ++ ([32] ++ m))) ++ [61] := by simp
      rw [e, app_at]
      rfl
  refine readS_none ?_
  unfold readR
  rw [hp]
theorem bl_app (a b : List UInt8) : bl a ++ bl b = bl (a ++ b) := ba_ext (by rw [app_list]; rfl)
theorem enc_let (r : Nat) (h : r < 128) : Utf8.encode (r : Int) = bl [r.toUInt8] := by
  have e := enc_ascii ⟨r, h⟩
  simp only at e
  apply ba_ext
  rw [bl_list, e]
theorem strA (n s : List UInt8) : (⟨#[103, 111, 32]⟩ : ByteArray) ++ (⟨#[110, 97, 109, 101, 61]⟩ ++ bl n) ++ ⟨#[32]⟩ ++ (⟨#[99, 111, 109, 109, 101, 110, 116, 61]⟩ ++ bl s) ++ ⟨#[32]⟩ ++ KAPP ++ ⟨#[32]⟩ ++ KNOL = bl (listA n s) := by
  apply ba_ext
  simp only [app_list, bl_list]
  simp [listA, GO, NAM, COM, APP, NOL]
theorem strB (n s : List UInt8) : (⟨#[103, 111, 32, 32]⟩ : ByteArray) ++ KNOL ++ ⟨#[9]⟩ ++ (⟨#[99, 111, 109, 109, 101, 110, 116, 61]⟩ ++ bl s) ++ ⟨#[32]⟩ ++ KAPP ++ ⟨#[32]⟩ ++ (⟨#[110, 97, 109, 101, 61]⟩ ++ bl n) ++ ⟨#[32]⟩ = bl (listB n s) := by
  apply ba_ext
  simp only [app_list, bl_list]
  simp [listB, GO, NAM, COM, APP, NOL]
theorem strC {n s : List UInt8} (hn : LetN n) (hs : StyN s) : (⟨#[103, 111, 32, 99, 111, 109, 109, 101, 110, 116, 61, 34]⟩ : ByteArray) ++ bl s ++ ⟨#[34, 32, 110, 97, 109, 101, 61, 34]⟩ ++ bl n ++ ⟨#[34, 32, 97, 112, 112, 101, 110, 100, 32, 110, 111, 108, 105, 110, 101]⟩ = bl (listC n s) := by
  apply ba_ext
  simp only [app_list, bl_list]
  unfold listC
  rw [(sty_ok hs).2.2, esc_letters n hn.2.2]
  simp [GO, NAM, COM, APP, NOL]
theorem strD (n : List UInt8) : (⟨#[103, 111, 32]⟩ : ByteArray) ++ (⟨#[110, 97, 109, 101, 61]⟩ ++ bl n) ++ ⟨#[32]⟩ ++ KAPP ++ ⟨#[32]⟩ ++ KAPP = bl (listD n) := by
  apply ba_ext
  simp only [app_list, bl_list]
  simp [listD, GO, NAM, APP]
theorem strE (n : List UInt8) (m : ByteArray) : (⟨#[103, 111, 32]⟩ : ByteArray) ++ (⟨#[110, 97, 109, 101, 61]⟩ ++ bl n) ++ ⟨#[32]⟩ ++ m ++ ⟨#[61]⟩ = bl (GO ++ ([32] ++ (NAM ++ 61 :: (n ++ ([32] ++ (m.data.toList ++ [61])))))) := by
  apply ba_ext
  simp only [app_list, bl_list]
  simp [GO, NAM]
theorem let_one : LetN [110] := ⟨by decide, by decide, by decide⟩
theorem let_snoc {n : List UInt8} {r : Nat} (h : LetN n) (hl : n.length < 30) (h1 : 97 ≤ r) (h2 : r ≤ 122) : LetN (n ++ [r.toUInt8]) := by
  refine ⟨by rw [List.length_append]; have := h.1; omega, by rw [List.length_append]; simp only [List.length_cons, List.length_nil]; omega, fun b hb => ?_⟩
  rcases List.mem_append.1 hb with hb | hb
  · exact h.2.2 b hb
  · simp only [List.mem_singleton] at hb
    subst hb
    unfold letU
    have : (r.toUInt8).toNat = r % 256 := rfl
    rw [decide_eq_true_eq, this]
    omega
def ordS (n s : List UInt8) : Array Value := #[.string (⟨#[110, 97, 109, 101, 61]⟩ ++ bl n), .string (⟨#[99, 111, 109, 109, 101, 110, 116, 61]⟩ ++ bl s), .string KAPP, .string KNOL]
def styS : Array Value := #[.string ⟨#[47, 47]⟩, .string ⟨#[59]⟩, .string ⟨#[45, 45]⟩, .string ⟨#[37]⟩]
theorem sty_get (c : Nat) (h : (c : Int) ≤ 3) : ∃ q : List UInt8, styS.toList[((c : Int)).toNat]? = some (.string (bl q)) ∧ StyN q := by
  have hc : c ≤ 3 := by omega
  rw [Int.toNat_natCast]
  match c, hc with
  | 0, _ => exact ⟨[47, 47], rfl, .inr (.inl rfl)⟩
  | 1, _ => exact ⟨[59], rfl, .inr (.inr (.inl rfl))⟩
  | 2, _ => exact ⟨[45, 45], rfl, .inr (.inr (.inr (.inl rfl)))⟩
  | 3, _ => exact ⟨[37], rfl, .inr (.inr (.inr (.inr rfl)))⟩
theorem let_size {n : List UInt8} (h : LetN n) : (bl n).size ≤ 60 := by rw [bl_size]; exact h.2.1
theorem sty_size {s : List UInt8} (h : StyN s) : (bl s).size ≤ 2 := by rw [bl_size]; rcases h with rfl | rfl | rfl | rfl | rfl <;> decide
end Go.Proofs.YtnlkgnoogcakjaaGreatDoor.Ev
