import Derived.Test.YtnlkgnoogcakjaaGreatDoorEvA9
import Derived.Test.YtnlkgnoogcakjaaGreatDoorEvRuleW
import Derived.Test.YtnlkgnoogcakjaaGreatDoorEvA8
namespace Go.Proofs.YtnlkgnoogcakjaaGreatDoor.Ev
open Go
set_option linter.unusedVariables false
set_option linter.unusedSimpArgs false
set_option maxHeartbeats 4000000
set_option maxRecDepth 20000
theorem val_size (s : ByteArray) : (valueS s).size ≤ 2 + 2 * s.size := by
  unfold valueS
  have hl := escL_length s.data.toList
  have hc := cntE_le s.data.toList
  rw [len_size] at hl hc
  split
  · omega
  · simp only [size_app, sz_1, bl_size]; omega
theorem esc_at {s : ByteArray} {j : Nat} (h : j < s.size) : ∃ b : UInt8, byteAt s (j : Nat) = ((b.toNat : Nat) : Int) ∧ s.extract j (j + 1) = ⟨#[b]⟩ ∧ escL (s.data.toList.take (j + 1)) = escL (s.data.toList.take j) ++ (if b = 34 ∨ b = 92 then [92, b] else [b]) ∧ (escL (s.data.toList.take j)).length ≤ 2 * s.size := by
  obtain ⟨b, h1, h2⟩ := byteOne s j h
  obtain ⟨b2, h3, h4⟩ := byteAt_some s j h
  have e : b2 = b := by
    have h5 : ((b2.toNat : Nat) : Int) = ((b.toNat : Nat) : Int) := h4.symm.trans h1
    exact UInt8.toNat_inj.1 (by omega)
  subst e
  refine ⟨b2, h1, h2, (esc_step h3).1, ?_⟩
  have hl := escL_length (s.data.toList.take j)
  have hc := cntE_le (s.data.toList.take j)
  have : (s.data.toList.take j).length ≤ s.size := by rw [List.length_take, len_size]; omega
  omega
theorem val_yes {s : ByteArray} {w : ByteArray} {j : Nat} {b : UInt8} (hw : w = ⟨#[34]⟩ ++ bl (escL (s.data.toList.take j))) (he : escL (s.data.toList.take (j + 1)) = escL (s.data.toList.take j) ++ (if b = 34 ∨ b = 92 then [92, b] else [b])) (hb : b.toNat = 34 ∨ b.toNat = 92) : w ++ ⟨#[92]⟩ ++ ⟨#[b]⟩ = ⟨#[34]⟩ ++ bl (escL (s.data.toList.take (j + 1))) := by
  have h2 : b = 34 ∨ b = 92 := hb.imp (fun e => UInt8.toNat_inj.1 e) (fun e => UInt8.toNat_inj.1 e)
  rw [he, if_pos h2, hw]
  apply ba_ext
  simp only [app_list, bl_list]
  simp
theorem val_not {s : ByteArray} {w : ByteArray} {j : Nat} {b : UInt8} (hw : w = ⟨#[34]⟩ ++ bl (escL (s.data.toList.take j))) (he : escL (s.data.toList.take (j + 1)) = escL (s.data.toList.take j) ++ (if b = 34 ∨ b = 92 then [92, b] else [b])) (hb : ¬ (b.toNat = 34 ∨ b.toNat = 92)) : w ++ ⟨#[b]⟩ = ⟨#[34]⟩ ++ bl (escL (s.data.toList.take (j + 1))) := by
  have h2 : ¬ (b = 34 ∨ b = 92) := fun h => hb (h.imp (fun e => by rw [e]; rfl) (fun e => by rw [e]; rfl))
  rw [he, if_neg h2, hw]
  apply ba_ext
  simp only [app_list, bl_list]
  simp

/-! ### The parts -/
def strs (l : List ByteArray) : List Value := l.map Value.string
theorem strs_app (a b : List ByteArray) : strs (a ++ b) = strs a ++ strs b := List.map_append
theorem strs_len (l : List ByteArray) : (strs l).length = l.length := List.length_map _
def flds (a : At) : List PR := [⟨KNAM, a.name, false⟩, ⟨KFIL, a.file, false⟩, ⟨KCOM, a.sty, false⟩]
def langP (a : At) : List ByteArray := if a.lang.size = 0 then [] else [a.lang]
def lst (a : At) (j : Nat) : List ByteArray := langP a ++ ((flds a).take j).flatMap (fun p => partF p.key p.text)
theorem lst_0 (a : At) : lst a 0 = langP a := List.append_nil _
theorem lst_step {a : At} {j : Nat} {p : PR} (h : (flds a)[j]? = some p) : lst a (j + 1) = lst a j ++ partF p.key p.text := by
  have hlt := (List.getElem?_eq_some_iff.1 h).1
  unfold lst
  rw [List.take_succ_eq_append_getElem hlt, (List.getElem?_eq_some_iff.1 h).2, List.flatMap_append, List.append_assoc]
  congr 1
  simp
theorem lst_len : ∀ {a : At} {j : Nat}, j ≤ 3 → (lst a j).length ≤ 4 := by
  intro a j hj
  have h1 : (langP a).length ≤ 1 := by unfold langP; split; exact Nat.zero_le _; exact Nat.le_refl 1
  have h2 : ∀ k s, (partF k s).length ≤ 1 := fun k s => by unfold partF; split; exact Nat.zero_le _; exact Nat.le_refl 1
  have h3 := h2 KNAM a.name
  have h4 := h2 KFIL a.file
  have h5 := h2 KCOM a.sty
  match j, hj with
  | 0, _ => simp [lst]; omega
  | 1, _ => simp [lst, flds]; omega
  | 2, _ => simp [lst, flds]; omega
  | 3, _ => simp [lst, flds]; omega
theorem lst_3 (a : At) : lst a 3 ++ (if a.app = true then [KAPP] else []) ++ (if a.nol = true then [KNOL] else []) = partsR a := by
  unfold lst langP partsR flds
  simp
theorem parts_len (a : At) : (partsR a).length ≤ 6 := by
  rw [← lst_3]
  have := lst_len (a := a) (Nat.le_refl 3)
  simp only [List.length_append]
  have h1 : (if a.app = true then [KAPP] else []).length ≤ 1 := by split; exact Nat.le_refl 1; exact Nat.zero_le _
  have h2 : (if a.nol = true then [KNOL] else []).length ≤ 1 := by split; exact Nat.le_refl 1; exact Nat.zero_le _
  omega
theorem fld_get (a : At) (j : Nat) (h : j < 3) : ∃ p, (flds a)[j]? = some p ∧ p.key.size ≤ 7 ∧ (SzA a → p.text.size ≤ 1048576) := by
  match j, h with
  | 0, _ => exact ⟨_, rfl, by show KNAM.size ≤ 7; decide, fun h => by unfold SzA at h; show a.name.size ≤ _; omega⟩
  | 1, _ => exact ⟨_, rfl, by show KFIL.size ≤ 7; decide, fun h => by unfold SzA at h; show a.file.size ≤ _; omega⟩
  | 2, _ => exact ⟨_, rfl, by show KCOM.size ≤ 7; decide, fun h => by unfold SzA at h; show a.sty.size ≤ _; omega⟩
theorem part_yes {p : PR} (h : ¬ p.text = ⟨#[]⟩) : partF p.key p.text = [p.key ++ ⟨#[61]⟩ ++ valueS p.text] := by
  unfold partF
  rw [if_neg (fun e => h (size0 e))]
theorem part_no {p : PR} (h : p.text = ⟨#[]⟩) : partF p.key p.text = [] := by
  unfold partF
  rw [if_pos (by rw [h]; rfl)]
theorem lang_yes {a : At} (h : ¬ a.lang = ⟨#[]⟩) : langP a = [a.lang] := by
  unfold langP
  rw [if_neg (fun e => h (size0 e))]
theorem lang_no {a : At} (h : a.lang = ⟨#[]⟩) : langP a = [] := by
  unfold langP
  rw [if_pos (by rw [h]; rfl)]
/-! ### The join -/
theorem joinB_snoc (x : ByteArray) : ∀ l : List ByteArray, 0 < l.length → joinB (l ++ [x]) = joinB l ++ ⟨#[32]⟩ ++ x
  | [], h => absurd h (Nat.lt_irrefl 0)
  | y :: l, _ => by
    apply ba_ext
    show (joinB (y :: (l ++ [x]))).data.toList = _
    rw [joinB_cons, app_list, app_list, joinB_cons, flatB2_app]
    simp [flatB2]
theorem joinB_size (l : List ByteArray) : (joinB l).size ≤ (flatB2 l).length := by
  cases l with
  | nil => exact Nat.zero_le _
  | cons x l =>
    rw [← len_size, joinB_cons]
    simp [flatB2]
theorem join_take {L : List ByteArray} {j : Nat} {x : ByteArray} (h : L[j]? = some x) : joinB (L.take (j + 1)) = (if 0 < j then joinB (L.take j) ++ ⟨#[32]⟩ ++ x else x) ∧ (joinB (L.take (j + 1))).size ≤ (flatB2 L).length := by
  have hlt := (List.getElem?_eq_some_iff.1 h).1
  have e : L.take (j + 1) = L.take j ++ [x] := by rw [List.take_succ_eq_append_getElem hlt, (List.getElem?_eq_some_iff.1 h).2]
  refine ⟨?_, ?_⟩
  · rw [e]
    split
    · rename_i h0
      exact joinB_snoc x _ (by rw [List.length_take]; omega)
    · rename_i h0
      obtain rfl : j = 0 := by omega
      rfl
  · refine Nat.le_trans (joinB_size _) ?_
    have : flatB2 L = flatB2 (L.take (j + 1)) ++ flatB2 (L.drop (j + 1)) := by rw [← flatB2_app, List.take_append_drop]
    rw [this, List.length_append]
    omega
theorem parts_size {a : At} (h : SzA a) : (flatB2 (partsR a)).length ≤ 4000000 := by
  have h1 := h.write
  have h2 : (writeP a).data.toList.length = (writeP a).size := len_size _
  rw [write_flat, bl_list, ← tail_flat, List.length_append] at h2
  have hp : partsR a = langP a ++ tailR a := rfl
  rw [hp, flatB2_app, List.length_append]
  have h3 : (flatB2 (langP a)).length ≤ 1 + a.lang.size := by
    unfold langP
    split
    · exact Nat.zero_le _
    · show (32 :: (a.lang.data.toList ++ [])).length ≤ _
      rw [List.append_nil, List.length_cons, len_size]
      omega
  have h4 : (writeP a).size = (bl (a.lang.data.toList ++ flatT (toks a))).size := by rw [write_flat]
  rw [bl_size] at h4
  unfold SzA at h
  rw [tail_flat] at *
  rw [List.length_append] at h4
  omega
theorem grow_if_t {B : Nat} {H : AH} {v : Value} {L : List ByteArray} {x : ByteArray} {b : Bool} (hb : b = true) (h : Grow B H v 9 (strs L ++ [.string x])) : Grow B H v 9 (strs (L ++ (if b = true then [x] else []))) := by
  rw [if_pos hb, strs_app]
  exact h
theorem grow_if_f {B : Nat} {H : AH} {v : Value} {L : List ByteArray} {x : ByteArray} {b : Bool} (hb : b = false) (h : Grow B H v 9 (strs L)) : Grow B H v 9 (strs (L ++ (if b = true then [x] else []))) := by
  rw [if_neg (by rw [hb]; decide), List.append_nil]
  exact h
theorem row_someS {H : AH} {p : Option Addr} {L : List ByteArray} (h : Row H p (strs L)) (hl : 0 < L.length) : ∃ a, p = some a := by
  cases p with
  | some a => exact ⟨a, rfl⟩
  | none =>
    have : strs L = [] := h
    have h2 := congrArg List.length this
    rw [strs_len] at h2
    simp at h2
    subst h2
    exact absurd hl (Nat.lt_irrefl 0)
theorem strs_get {L : List ByteArray} {j : Nat} {x : ByteArray} (h : L[j]? = some x) : (strs L)[((j : Nat) : Int).toNat]? = some (.string x) := by
  rw [Int.toNat_natCast]
  unfold strs
  rw [List.getElem?_map, h]
  rfl
theorem nil_app (x : ByteArray) : (⟨#[]⟩ : ByteArray) ++ x = x := by
  apply ba_ext
  rw [app_list]
  rfl
theorem writeR_yes {a a2 : At} {ok : Bool} {t : ByteArray} (ht : t = joinB (partsR a)) (h1 : ∀ a3, readS t = some a3 → ok = true ∧ a2 = a3) (h2 : readS t = none → ok = false ∧ a2 = zeroAt) (hok : ok = true) (he : a2 = a) : t = writeR a := by
  subst ht he
  have : readS (joinB (partsR a2)) = some a2 := by
    cases hr : readS (joinB (partsR a2)) with
    | none => have := (h2 hr).1; rw [hok] at this; cases this
    | some a3 => rw [(h1 a3 hr).2]
  unfold writeR
  rw [if_pos this]
theorem writeR_no {a a2 : At} {ok : Bool} {t : ByteArray} (ht : t = joinB (partsR a)) (h1 : ∀ a3, readS t = some a3 → ok = true ∧ a2 = a3) (hn : ok = true → ¬ a2 = a) : (⟨#[]⟩ : ByteArray) = writeR a := by
  subst ht
  unfold writeR
  rw [if_neg fun hr => hn (h1 a hr).1 (h1 a hr).2]

theorem value_spec (s : ByteArray) (hs : s.size ≤ 1100000) (H : AH) (Q : Value → AH → Prop) (h : ∀ H', Keeps H H' → Q (.string (valueS s)) H') (hw : WfH H) : FWp Tryz.prog prims 22 [.string s] H Q := by
  obtain ⟨w0, hw0⟩ : ∃ w0 : ByteArray, w0 = ⟨#[34]⟩ ++ bl (escL (s.data.toList.take 0)) := ⟨_, rfl⟩
  refine FWp.enter (rfl) Tryz.func22 rfl (e := [.string s, undef, undef, undef, undef, undef, undef, undef, undef, undef, undef, undef, undef, undef, undef, undef, undef, undef, undef, undef, undef, undef, undef, undef, undef, undef, undef, undef, undef, undef, undef, undef, undef, undef, undef, undef, undef, undef, undef, undef, undef, undef, undef, undef, undef]) rfl ?_
  refine CWp.seq ?_
  refine CWp.region ?_
  refine OWp.assign rfl rfl ?_
  refine OWp.nil ?_
  refine CWp.seq ?_
  refine CWp.seq ?_
  refine CWp.region ?_
  refine OWp.move rfl rfl ?_
  refine OWp.call rfl rfl rfl rfl ?_
  refine bareR_spec s (by omega) _ _ ?_ hw
  intro H5 hk5
  refine OWp.norm ?_
  refine OWp.move rfl rfl ?_
  first | refine OWp.byT rfl (fun hg0 => ?_) (fun hg0 => ?_) | refine OWp.byBT rfl (fun hg0 => ?_) (fun hg0 => ?_)
  · skip
    first | rw [decide_eq_true hg0] | rw [decide_eq_false hg0] | rw [hg0] | skip
    try simp only [Decidable.not_not] at hg0
    refine OWp.move rfl rfl ?_
    refine OWp.call rfl rfl rfl rfl ?_
    refine has_spec s 32 (by omega) _ _ (fun b32 hb32 => ?_)
    refine OWp.norm ?_
    first | refine OWp.notD rfl rfl rfl ?_ | refine OWp.notB rfl rfl rfl ?_
    refine OWp.pickT rfl rfl rfl ?_
    refine OWp.move rfl rfl ?_
    first | refine OWp.byT rfl (fun hg1 => ?_) (fun hg1 => ?_) | refine OWp.byBT rfl (fun hg1 => ?_) (fun hg1 => ?_)
    · skip
      first | rw [decide_eq_true hg1] | rw [decide_eq_false hg1] | rw [hg1] | skip
      try simp only [Decidable.not_not] at hg1
      refine OWp.move rfl rfl ?_
      refine OWp.call rfl rfl rfl rfl ?_
      refine has_spec s 9 (by omega) _ _ (fun b9 hb9 => ?_)
      refine OWp.norm ?_
      first | refine OWp.notD rfl rfl rfl ?_ | refine OWp.notB rfl rfl rfl ?_
      refine OWp.pickT rfl rfl rfl ?_
      refine OWp.nil ?_
      first | refine CWp.condP rfl (fun h2 => ?_) (fun h2 => ?_) | refine CWp.cond rfl (fun h2 => ?_) (fun h2 => ?_)
      · skip
        first | rw [decide_eq_true h2] | rw [decide_eq_false h2] | rw [h2] | skip
        refine CWp.seq ?_
        refine CWp.region ?_
        refine OWp.move rfl rfl ?_
        refine OWp.assign rfl rfl ?_
        refine OWp.nil ?_
        refine CWp.ret ?_
        refine RetQ.one (by first | exact .inl rfl | exact .inr rfl) rfl rfl ?_
        unfold valueS at h
        rw [if_pos (by simp_all)] at h
        exact h _ hk5
      · skip
        exfalso
        have hbn := bare_nogap (by assumption) 
        obtain ⟨i9, hi1, hi2, hi3⟩ := hb9.1 (by simp_all)
        have hi4 := hbn i9.toNat (by omega)
        rw [Int.toNat_of_nonneg hi1] at hi4
        exact hi4 (.inr hi3)
    · skip
      exfalso
      have hbn := bare_nogap (by assumption) 
      obtain ⟨i9, hi1, hi2, hi3⟩ := hb32.1 (by simp_all)
      have hi4 := hbn i9.toNat (by omega)
      rw [Int.toNat_of_nonneg hi1] at hi4
      exact hi4 (.inl hi3)
  · skip
    first | rw [decide_eq_true hg0] | rw [decide_eq_false hg0] | rw [hg0] | skip
    try simp only [Decidable.not_not] at hg0
    refine OWp.leave rfl ?_
    refine OWp.leave rfl ?_
    refine OWp.leave rfl ?_
    refine OWp.pickF rfl rfl rfl ?_
    refine OWp.move rfl rfl ?_
    refine OWp.leave rfl ?_
    refine OWp.leave rfl ?_
    refine OWp.leave rfl ?_
    refine OWp.pickF rfl rfl rfl ?_
    refine OWp.nil ?_
    refine CWp.condF rfl ?_
    refine CWp.skip ?_
    refine CWp.seq ?_
    refine CWp.region ?_
    refine OWp.assign rfl rfl ?_
    refine OWp.nil ?_
    refine CWp.seq ?_
    refine CWp.seq ?_
    refine CWp.region ?_
    refine OWp.assign rfl rfl ?_
    refine OWp.nil ?_
    refine CWp.block ?_
    refine CWp.loop (fun k e H' => ∃ (w : ByteArray) (j : Nat) (g : Nat → Value), e = [.string s, g 1, g 2, .string w, .int .i64 (j : Nat), g 5, g 6, g 7, g 8, g 9, g 10, g 11, g 12, g 13, g 14, g 15, g 16, g 17, g 18, g 19, g 20, g 21, g 22, g 23, g 24, g 25, g 26, g 27, g 28, g 29, g 30, g 31, g 32, g 33, g 34, g 35, g 36, g 37, g 38, g 39, g 40, g 41, g 42, g 43, g 44] ∧ k = s.size - j ∧ H' = H5 ∧ j ≤ s.size ∧ w = ⟨#[34]⟩ ++ bl (escL (s.data.toList.take j))) ?_ ?_
    · exact ⟨_, _, 0, ex_env rfl ⟨rfl, rfl, by omega, rfl⟩⟩
    · rintro k e H' ⟨w, j, g, rfl, rfl, rfl, hj, hwj⟩
      have hwz : w.size ≤ 2200001 := by
        have hl := escL_length (s.data.toList.take j)
        have hc := cntE_le (s.data.toList.take j)
        have : (s.data.toList.take j).length ≤ s.size := by rw [List.length_take, len_size]; omega
        rw [hwj, size_app, sz_1, bl_size]; omega
      refine CWp.seq ?_
      refine CWp.seq ?_
      refine CWp.region ?_
      refine OWp.move rfl rfl ?_
      refine OWp.move rfl rfl ?_
      refine OWp.lenS rfl rfl rfl rfl rfl Tryz.underlying9 rfl ?_
      refine OWp.binI rfl rfl rfl rfl rfl ?_
      refine OWp.nil ?_
      first | refine CWp.condP rfl (fun h2 => ?_) (fun h2 => ?_) | refine CWp.cond rfl (fun h2 => ?_) (fun h2 => ?_)
      · skip
        obtain ⟨b4, hb4, hx4, he4, hz4⟩ := esc_at (s := s) (j := j) (by omega)
        first | rw [decide_eq_true h2] | skip
        first | rw [decide_eq_true h2] | rw [decide_eq_false h2] | rw [h2] | skip
        refine CWp.skip ?_
        refine CWp.seq ?_
        refine CWp.block ?_
        refine CWp.seq ?_
        refine CWp.seq ?_
        refine CWp.region ?_
        refine OWp.move rfl rfl ?_
        refine OWp.move rfl rfl ?_
        refine OWp.indexS rfl rfl Tryz.underlying9 rfl rfl (by first | omega | (simp only [size_app, sz_0, sz_1, sz_2, sz_3, sz_4, sz_7, bl_size]; omega)) (by first | omega | (simp only [size_app, sz_0, sz_1, sz_2, sz_3, sz_4, sz_7, bl_size]; omega)) ?_
        refine OWp.binI rfl rfl rfl rfl rfl ?_
        refine OWp.move rfl rfl ?_
        first | refine OWp.byF rfl (fun hg3 => ?_) (fun hg3 => ?_) | refine OWp.byBF rfl (fun hg3 => ?_) (fun hg3 => ?_)
        · skip
          first | rw [decide_eq_true hg3] | rw [decide_eq_false hg3] | rw [hg3] | skip
          try simp only [Decidable.not_not] at hg3
          refine OWp.move rfl rfl ?_
          refine OWp.move rfl rfl ?_
          refine OWp.indexS rfl rfl Tryz.underlying9 rfl rfl (by first | omega | (simp only [size_app, sz_0, sz_1, sz_2, sz_3, sz_4, sz_7, bl_size]; omega)) (by first | omega | (simp only [size_app, sz_0, sz_1, sz_2, sz_3, sz_4, sz_7, bl_size]; omega)) ?_
          refine OWp.binI rfl rfl rfl rfl rfl ?_
          refine OWp.pickF rfl rfl rfl ?_
          refine OWp.nil ?_
          first | refine CWp.condP rfl (fun h4 => ?_) (fun h4 => ?_) | refine CWp.cond rfl (fun h4 => ?_) (fun h4 => ?_)
          · skip
            first | rw [decide_eq_true h4] | rw [decide_eq_false h4] | rw [h4] | skip
            refine CWp.region ?_
            refine OWp.move rfl rfl ?_
            refine OWp.catS rfl rfl rfl rfl (by first | omega | (simp only [size_app, sz_0, sz_1, sz_2, sz_3, sz_4, sz_7, bl_size]; omega)) ?_
            refine OWp.assign rfl rfl ?_
            refine OWp.nil ?_
            refine CWp.region ?_
            refine OWp.move rfl rfl ?_
            refine OWp.move rfl rfl ?_
            refine OWp.move rfl rfl ?_
            refine OWp.move rfl rfl ?_
            refine OWp.addI rfl rfl rfl rfl (by first | omega | (simp only [size_app, sz_0, sz_1, sz_2, sz_3, sz_4, sz_7, bl_size]; omega)) ?_
            refine OWp.sliceS rfl rfl Tryz.underlying9 rfl rfl rfl (by omega) (by omega) (by omega) ?_
            rw [show s.extract ((j : Int)).toNat ((j : Int) + 1).toNat = ⟨#[b4]⟩ from hx4]
            refine OWp.catS rfl rfl rfl rfl (by first | omega | (simp only [size_app, sz_0, sz_1, sz_2, sz_3, sz_4, sz_7, bl_size]; omega)) ?_
            refine OWp.assign rfl rfl ?_
            refine OWp.nil ?_
            refine CWp.region ?_
            refine OWp.move rfl rfl ?_
            refine OWp.addI rfl rfl rfl rfl (by first | omega | (simp only [size_app, sz_0, sz_1, sz_2, sz_3, sz_4, sz_7, bl_size]; omega)) ?_
            refine OWp.assign rfl rfl ?_
            refine OWp.nil ?_
            exact ⟨_, by omega, _, j + 1, ex_env rfl ⟨rfl, rfl, by omega, val_yes hwj he4 (.inr (by omega))⟩⟩
          · skip
            first | rw [decide_eq_true h4] | rw [decide_eq_false h4] | rw [h4] | skip
            refine CWp.skip ?_
            refine CWp.region ?_
            refine OWp.move rfl rfl ?_
            refine OWp.move rfl rfl ?_
            refine OWp.move rfl rfl ?_
            refine OWp.move rfl rfl ?_
            refine OWp.addI rfl rfl rfl rfl (by first | omega | (simp only [size_app, sz_0, sz_1, sz_2, sz_3, sz_4, sz_7, bl_size]; omega)) ?_
            refine OWp.sliceS rfl rfl Tryz.underlying9 rfl rfl rfl (by omega) (by omega) (by omega) ?_
            rw [show s.extract ((j : Int)).toNat ((j : Int) + 1).toNat = ⟨#[b4]⟩ from hx4]
            refine OWp.catS rfl rfl rfl rfl (by first | omega | (simp only [size_app, sz_0, sz_1, sz_2, sz_3, sz_4, sz_7, bl_size]; omega)) ?_
            refine OWp.assign rfl rfl ?_
            refine OWp.nil ?_
            refine CWp.region ?_
            refine OWp.move rfl rfl ?_
            refine OWp.addI rfl rfl rfl rfl (by first | omega | (simp only [size_app, sz_0, sz_1, sz_2, sz_3, sz_4, sz_7, bl_size]; omega)) ?_
            refine OWp.assign rfl rfl ?_
            refine OWp.nil ?_
            exact ⟨_, by omega, _, j + 1, ex_env rfl ⟨rfl, rfl, by omega, val_not hwj he4 (by omega)⟩⟩
        · skip
          first | rw [decide_eq_true hg3] | rw [decide_eq_false hg3] | rw [hg3] | skip
          try simp only [Decidable.not_not] at hg3
          refine OWp.leave rfl ?_
          refine OWp.leave rfl ?_
          refine OWp.leave rfl ?_
          refine OWp.leave rfl ?_
          refine OWp.pickT rfl rfl rfl ?_
          refine OWp.nil ?_
          refine CWp.condT rfl ?_
          refine CWp.region ?_
          refine OWp.move rfl rfl ?_
          refine OWp.catS rfl rfl rfl rfl (by first | omega | (simp only [size_app, sz_0, sz_1, sz_2, sz_3, sz_4, sz_7, bl_size]; omega)) ?_
          refine OWp.assign rfl rfl ?_
          refine OWp.nil ?_
          refine CWp.region ?_
          refine OWp.move rfl rfl ?_
          refine OWp.move rfl rfl ?_
          refine OWp.move rfl rfl ?_
          refine OWp.move rfl rfl ?_
          refine OWp.addI rfl rfl rfl rfl (by first | omega | (simp only [size_app, sz_0, sz_1, sz_2, sz_3, sz_4, sz_7, bl_size]; omega)) ?_
          refine OWp.sliceS rfl rfl Tryz.underlying9 rfl rfl rfl (by omega) (by omega) (by omega) ?_
          rw [show s.extract ((j : Int)).toNat ((j : Int) + 1).toNat = ⟨#[b4]⟩ from hx4]
          refine OWp.catS rfl rfl rfl rfl (by first | omega | (simp only [size_app, sz_0, sz_1, sz_2, sz_3, sz_4, sz_7, bl_size]; omega)) ?_
          refine OWp.assign rfl rfl ?_
          refine OWp.nil ?_
          refine CWp.region ?_
          refine OWp.move rfl rfl ?_
          refine OWp.addI rfl rfl rfl rfl (by first | omega | (simp only [size_app, sz_0, sz_1, sz_2, sz_3, sz_4, sz_7, bl_size]; omega)) ?_
          refine OWp.assign rfl rfl ?_
          refine OWp.nil ?_
          exact ⟨_, by omega, _, j + 1, ex_env rfl ⟨rfl, rfl, by omega, val_yes hwj he4 (.inl (by omega))⟩⟩
      · skip
        first | rw [decide_eq_true h2] | rw [decide_eq_false h2] | rw [h2] | skip
        refine CWp.exit ?_
        refine CWp.seq ?_
        refine CWp.region ?_
        refine OWp.move rfl rfl ?_
        refine OWp.catS rfl rfl rfl rfl (by first | omega | (simp only [size_app, sz_0, sz_1, sz_2, sz_3, sz_4, sz_7, bl_size]; omega)) ?_
        refine OWp.assign rfl rfl ?_
        refine OWp.nil ?_
        refine CWp.ret ?_
        refine RetQ.one (by first | exact .inl rfl | exact .inr rfl) rfl rfl ?_
        obtain rfl : j = s.size := by omega
        rw [List.take_of_length_le (by rw [len_size]; exact Nat.le_refl _)] at hwj
        unfold valueS at h
        rw [if_neg (by simp_all), ← hwj] at h
        exact h _ hk5

theorem writeR_spec (a : At) (ha : SzA a) (H : AH) (Q : Value → AH → Prop) (h : ∀ H', Keeps H H' → Q (.string (writeR a)) H') (hw : WfH H) : FWp Tryz.prog prims 11 [a.v] H Q := by
  have hh := Has.start hw
  have ha0 := ha
  unfold SzA at ha0
  have hE : elemT Tryz.prog 33 = some 9 := by kernel_rfl
  have hz9 : zeroT Tryz.prog 9 = some (.string ⟨#[]⟩) := by kernel_rfl
  have hs9 : szT Tryz.prog 9 = 1 := by kernel_rfl
  have hb16 : bytesT Tryz.prog 9 = 16 := by kernel_rfl
  refine FWp.enter (rfl) Tryz.func11 rfl (e := [a.v, undef, undef, undef, undef, undef, undef, undef, undef, undef, undef, undef, undef, undef, undef, undef, undef, undef, undef, undef, undef, undef, undef, undef, undef, undef, undef, undef, undef, undef, undef, undef, undef, undef, undef, undef, undef, undef, undef, undef, undef, undef, undef, undef, undef, undef, undef, undef, undef, undef, undef, undef, undef, undef, undef, undef, undef, undef, undef, undef, undef, undef, undef, undef, undef, undef, undef, undef, undef, undef, undef, undef, undef, undef, undef, undef, undef, undef, undef, undef, undef, undef, undef, undef, undef, undef]) rfl ?_
  refine CWp.seq ?_
  refine CWp.region ?_
  refine OWp.boxAt _ hh rfl rfl rfl (fun H1 b1 hh => ?_)
  refine OWp.norm ?_
  refine OWp.assign rfl rfl ?_
  refine OWp.nil ?_
  refine CWp.seq ?_
  refine CWp.region ?_
  refine OWp.assign rfl rfl ?_
  have hgr : Grow H.next H1 (.slice none 0 0) 9 [] := .inl ⟨rfl, rfl⟩
  refine OWp.nil ?_
  refine CWp.cut (fun e H' => ∃ (v : Value) (g : Nat → Value), e = [a.v, .pointer (some ⟨b1, 0, none⟩), g 2, v, g 4, g 5, g 6, g 7, g 8, g 9, g 10, g 11, g 12, g 13, g 14, g 15, g 16, g 17, g 18, g 19, g 20, g 21, g 22, g 23, g 24, g 25, g 26, g 27, g 28, g 29, g 30, g 31, g 32, g 33, g 34, g 35, g 36, g 37, g 38, g 39, g 40, g 41, g 42, g 43, g 44, g 45, g 46, g 47, g 48, g 49, g 50, g 51, g 52, g 53, g 54, g 55, g 56, g 57, g 58, g 59, g 60, g 61, g 62, g 63, g 64, g 65, g 66, g 67, g 68, g 69, g 70, g 71, g 72, g 73, g 74, g 75, g 76, g 77, g 78, g 79, g 80, g 81, g 82, g 83, g 84, g 85] ∧ Has H H' [(b1, a.O)] ∧ Grow H.next H' v 9 (strs (lst a 0))) ?_ ?_
  · skip
    refine CWp.seq ?_
    refine CWp.region ?_
    refine OWp.fieldAt 0 (by decide) rfl rfl rfl ?_
    first | refine OWp.loadAt_0 (k := 0) hh rfl rfl rfl rfl ?_ | refine OWp.loadAt_0 (k := 1) hh rfl rfl rfl rfl ?_ | refine OWp.loadAt_0 (k := 2) hh rfl rfl rfl rfl ?_
    refine OWp.binS rfl rfl rfl rfl rfl ?_
    refine OWp.nil ?_
    first | refine CWp.condP rfl (fun h0 => ?_) (fun h0 => ?_) | refine CWp.cond rfl (fun h0 => ?_) (fun h0 => ?_)
    · skip
      first | rw [decide_eq_true h0] | rw [decide_eq_false h0] | rw [h0] | skip
      refine CWp.region ?_
      refine OWp.move rfl rfl ?_
      refine OWp.fieldAt 0 (by decide) rfl rfl rfl ?_
      first | refine OWp.loadAt_0 (k := 0) hh rfl rfl rfl rfl ?_ | refine OWp.loadAt_0 (k := 1) hh rfl rfl rfl rfl ?_ | refine OWp.loadAt_0 (k := 2) hh rfl rfl rfl rfl ?_
      refine OWp.buildSl hh.wf rfl rfl rfl (t' := 9) (cells := #[.string a.lang]) (by kernel_rfl) (fun H2 c3 hw2 hk2 hc2 ho2 => ?_)
      refine OWp.norm ?_
      have hgr2 := hgr.keep hh.wf hk2
      replace hh := hh.after hk2
      refine OWp.appendS (m := 1) (B := H.next) hh.wf hh.keep.next hgr2 ho2.row rfl (by simp) rfl rfl rfl rfl rfl hE Tryz.underlying33 hz9 rfl hs9 (by rw [hb16]; decide) rfl rfl (by show (0 + 1) * _ ≤ _; rw [hb16]; decide) (fun H3 v3 hg3 hs3 hgr3 => ?_)
      refine OWp.norm ?_
      replace hh := hh.grown hg3 (Nat.le_refl _)
      refine OWp.assign rfl rfl ?_
      refine OWp.nil ?_
      exact ⟨_, ex_env rfl ⟨hh, (by rw [lst_0, lang_yes (by simpa using h0)]; exact hgr3)⟩⟩
    · skip
      first | rw [decide_eq_true h0] | rw [decide_eq_false h0] | rw [h0] | skip
      refine CWp.skip ?_
      exact ⟨_, ex_env rfl ⟨hh, (by rw [lst_0, lang_no (by simpa using h0)]; exact hgr)⟩⟩
  · rintro e H' ⟨v, g, rfl, hh, hgr⟩
    refine CWp.seq ?_
    refine CWp.seq ?_
    refine CWp.region ?_
    refine OWp.fieldAt 1 (by decide) rfl rfl rfl ?_
    first | refine OWp.loadAt_1 (k := 0) hh rfl rfl rfl rfl ?_ | refine OWp.loadAt_1 (k := 1) hh rfl rfl rfl rfl ?_ | refine OWp.loadAt_1 (k := 2) hh rfl rfl rfl rfl ?_
    refine OWp.buildPR (⟨KNAM, a.name, false⟩) rfl rfl rfl (by kernel_rfl) ?_
    refine OWp.fieldAt 2 (by decide) rfl rfl rfl ?_
    first | refine OWp.loadAt_2 (k := 0) hh rfl rfl rfl rfl ?_ | refine OWp.loadAt_2 (k := 1) hh rfl rfl rfl rfl ?_ | refine OWp.loadAt_2 (k := 2) hh rfl rfl rfl rfl ?_
    refine OWp.buildPR (⟨KFIL, a.file, false⟩) rfl rfl rfl (by kernel_rfl) ?_
    refine OWp.fieldAt 3 (by decide) rfl rfl rfl ?_
    first | refine OWp.loadAt_3 (k := 0) hh rfl rfl rfl rfl ?_ | refine OWp.loadAt_3 (k := 1) hh rfl rfl rfl rfl ?_ | refine OWp.loadAt_3 (k := 2) hh rfl rfl rfl rfl ?_
    refine OWp.buildPR (⟨KCOM, a.sty, false⟩) rfl rfl rfl (by kernel_rfl) ?_
    refine OWp.buildSl hh.wf rfl rfl rfl (t' := 46) (cells := (rowPR (flds a)).toArray) (by kernel_rfl) (fun H2 c2 hw2 hk2 hc2 ho2 => ?_)
    refine OWp.norm ?_
    have hgr2 := hgr.keep hh.wf hk2
    replace hh := hh.pushB hk2 hc2 ho2
    refine OWp.lenSl rfl rfl rfl rfl rfl Tryz.underlying38 rfl ?_
    refine OWp.move rfl rfl ?_
    refine OWp.nil ?_
    refine CWp.block ?_
    refine CWp.loop (fun k e H' => ∃ (v2 : Value) (j : Nat) (g : Nat → Value), e = [a.v, .pointer (some ⟨b1, 0, none⟩), g 2, v2, g 4, g 5, g 6, g 7, g 8, g 9, g 10, g 11, g 12, g 13, g 14, g 15, g 16, g 17, g 18, g 19, g 20, g 21, g 22, g 23, g 24, g 25, g 26, g 27, .slice (some ⟨c2, 0, none⟩) 3 3, .int .i64 (3 : Nat), .int .i64 (j : Nat), g 31, g 32, g 33, g 34, g 35, g 36, g 37, g 38, g 39, g 40, g 41, g 42, g 43, g 44, g 45, g 46, g 47, g 48, g 49, g 50, g 51, g 52, g 53, g 54, g 55, g 56, g 57, g 58, g 59, g 60, g 61, g 62, g 63, g 64, g 65, g 66, g 67, g 68, g 69, g 70, g 71, g 72, g 73, g 74, g 75, g 76, g 77, g 78, g 79, g 80, g 81, g 82, g 83, g 84, g 85] ∧ k = 3 - j ∧ Has H H' [(c2, .cells (rowPR (flds a)).toArray 46 (0, 0)), (b1, a.O)] ∧ Grow H.next H' v2 9 (strs (lst a j)) ∧ j ≤ 3) ?_ ?_
    · exact ⟨_, _, 0, ex_env rfl ⟨rfl, hh, hgr2, by omega⟩⟩
    · rintro k e H' ⟨v2, j, g, rfl, rfl, hh, hgr, hj⟩
      refine CWp.seq ?_
      refine CWp.region ?_
      refine OWp.binI rfl rfl rfl rfl rfl ?_
      refine OWp.nil ?_
      refine CWp.seq ?_
      first | refine CWp.condP rfl (fun h3 => ?_) (fun h3 => ?_) | refine CWp.cond rfl (fun h3 => ?_) (fun h3 => ?_)
      · skip
        obtain ⟨p0, hp0, hpk, hpt⟩ := fld_get a j (by omega)
        replace hpt := hpt ha
        first | rw [decide_eq_true h3] | rw [decide_eq_false h3] | rw [h3] | skip
        refine CWp.skip ?_
        refine CWp.seq ?_
        refine CWp.block ?_
        refine CWp.seq ?_
        refine CWp.region ?_
        refine OWp.indexAddrK rfl rfl Tryz.underlying38 szPR (by decide) rfl rfl (by omega) (by omega) ?_
        refine OWp.loadRowS (f := fun m : PR => m.cells.toList) (ms := flds a) (m := p0) (v := p0.v) (fun _ => rfl) rfl rfl Tryz.underlying46 rfl (hh.get (k := 0) rfl).2.row szPR hp0 (by simp [PR.v]) ?_
        have hhA := hh
        have hwS := hh.wf
        replace hh := Has.start hwS
        refine OWp.allocPR hh rfl rfl (fun H5 b5 hh => ?_)
        refine OWp.norm ?_
        first | refine OWp.storePR (k := 0) hh rfl rfl rfl rfl rfl (fun H4 hh => ?_) | refine OWp.storePR (k := 1) hh rfl rfl rfl rfl rfl (fun H4 hh => ?_) | refine OWp.storePR (k := 2) hh rfl rfl rfl rfl rfl (fun H4 hh => ?_)
        simp only [List.set_cons_zero, List.set_cons_succ] at hh
        refine OWp.norm ?_
        refine OWp.nil ?_
        refine CWp.seq ?_
        refine CWp.region ?_
        replace hgr := hgr.keep hwS hh.keep
        replace hh := hhA.join hh
        simp only [List.cons_append, List.nil_append] at hh
        refine OWp.fieldPR 1 (by decide) rfl rfl rfl ?_
        refine OWp.loadPR_1 (k := 0) hh rfl rfl rfl rfl ?_
        refine OWp.binS rfl rfl rfl rfl rfl ?_
        refine OWp.nil ?_
        first | refine CWp.condP rfl (fun h4 => ?_) (fun h4 => ?_) | refine CWp.cond rfl (fun h4 => ?_) (fun h4 => ?_)
        · skip
          first | rw [decide_eq_true h4] | rw [decide_eq_false h4] | rw [h4] | skip
          refine CWp.drawnN (by kernel_rfl) ?_
          have hhS := hh
          have hkS := Keeps.refl hh.wf
          refine OWp.move rfl rfl ?_
          refine OWp.fieldPR 0 (by decide) rfl rfl rfl ?_
          first | refine OWp.loadPR_0 (k := 0) hh rfl rfl rfl rfl ?_ | refine OWp.loadPR_0 (k := 1) hh rfl rfl rfl rfl ?_ | refine OWp.loadPR_0 (k := 2) hh rfl rfl rfl rfl ?_
          refine OWp.catS rfl rfl rfl rfl (by first | omega | (simp only [size_app, sz_0, sz_1, sz_2, sz_3, sz_4, sz_7, bl_size]; omega)) ?_
          refine OWp.fieldPR 1 (by decide) rfl rfl rfl ?_
          first | refine OWp.loadPR_1 (k := 0) hh rfl rfl rfl rfl ?_ | refine OWp.loadPR_1 (k := 1) hh rfl rfl rfl rfl ?_ | refine OWp.loadPR_1 (k := 2) hh rfl rfl rfl rfl ?_
          refine OWp.call rfl rfl rfl rfl ?_
          refine value_spec _ (by omega) _ _ ?_ hh.wf
          intro Hv hkv
          have hvz := val_size p0.text
          have hoS := OwnS.of_keeps hh.wf hkv
          replace hgr := hgr.keep hh.wf hkv
          replace hh := hh.after hkv
          refine OWp.norm ?_
          refine OWp.catS rfl rfl rfl rfl (by first | omega | (simp only [size_app, sz_0, sz_1, sz_2, sz_3, sz_4, sz_7, bl_size]; omega)) ?_
          refine OWp.buildSl hh.wf rfl rfl rfl (t' := 9) (cells := #[.string (p0.key ++ ⟨#[61]⟩ ++ valueS p0.text)]) (by kernel_rfl) (fun H2 c3 hw2 hk2 hc2 ho2 => ?_)
          refine OWp.norm ?_
          have hgr2 := hgr.keep hh.wf hk2
          replace hoS := hoS.trans (OwnS.of_keeps hh.wf hk2)
          replace hh := hh.after hk2
          refine OWp.appendS (m := 1) (B := H.next) hh.wf hh.keep.next hgr2 ho2.row rfl (by simp) rfl rfl rfl rfl rfl hE Tryz.underlying33 hz9 rfl hs9 (by rw [hb16]; decide) rfl rfl (by rw [hb16, strs_len]; have := lst_len (a := a) hj; omega) (fun H3 v3 hg3 hs3 hgr3 => ?_)
          refine OWp.norm ?_
          replace hh := hh.grown hg3 (Nat.le_refl _)
          replace hoS := hoS.trans hs3
          refine OWp.assign rfl rfl ?_
          refine OWp.nil ?_
          refine ⟨still_all (L := [.pointer (some ⟨b5, 0, none⟩), .pointer (some ⟨b5, 1, none⟩)]) rfl (by simp only [List.all_cons, List.all_nil, Bool.and_true, Bool.and_eq_true]; exact ⟨still_ownS (k := 0) hhS rfl hoS, still_ownS (k := 0) hhS rfl hoS⟩), ?_⟩
          refine CWp.region ?_
          refine OWp.addI rfl rfl rfl rfl (by first | omega | (simp only [size_app, sz_0, sz_1, sz_2, sz_3, sz_4, sz_7, bl_size]; omega)) ?_
          refine OWp.move rfl rfl ?_
          refine OWp.nil ?_
          exact ⟨_, by omega, _, j + 1, ex_env rfl ⟨rfl, hh.drop, (by rw [lst_step hp0, part_yes (by simpa using h4), strs_app]; exact hgr3), by omega⟩⟩
        · skip
          first | rw [decide_eq_true h4] | rw [decide_eq_false h4] | rw [h4] | skip
          refine CWp.skip ?_
          refine CWp.region ?_
          refine OWp.addI rfl rfl rfl rfl (by first | omega | (simp only [size_app, sz_0, sz_1, sz_2, sz_3, sz_4, sz_7, bl_size]; omega)) ?_
          refine OWp.move rfl rfl ?_
          refine OWp.nil ?_
          exact ⟨_, by omega, _, j + 1, ex_env rfl ⟨rfl, hh.drop, (by rw [lst_step hp0, part_no (by simpa using h4), List.append_nil]; exact hgr), by omega⟩⟩
      · skip
        obtain rfl : j = 3 := by omega
        first | rw [decide_eq_true h3] | rw [decide_eq_false h3] | rw [h3] | skip
        refine CWp.exit ?_
        refine CWp.cut (fun e H' => ∃ (v : Value) (g : Nat → Value), e = [a.v, .pointer (some ⟨b1, 0, none⟩), g 2, v, g 4, g 5, g 6, g 7, g 8, g 9, g 10, g 11, g 12, g 13, g 14, g 15, g 16, g 17, g 18, g 19, g 20, g 21, g 22, g 23, g 24, g 25, g 26, g 27, g 28, g 29, g 30, g 31, g 32, g 33, g 34, g 35, g 36, g 37, g 38, g 39, g 40, g 41, g 42, g 43, g 44, g 45, g 46, g 47, g 48, g 49, g 50, g 51, g 52, g 53, g 54, g 55, g 56, g 57, g 58, g 59, g 60, g 61, g 62, g 63, g 64, g 65, g 66, g 67, g 68, g 69, g 70, g 71, g 72, g 73, g 74, g 75, g 76, g 77, g 78, g 79, g 80, g 81, g 82, g 83, g 84, g 85] ∧ Has H H' [(b1, a.O)] ∧ Grow H.next H' v 9 (strs (lst a 3 ++ (if a.app = true then [KAPP] else [])))) ?_ ?_
        · skip
          refine CWp.seq ?_
          refine CWp.region ?_
          refine OWp.fieldAt 4 (by decide) rfl rfl rfl ?_
          first | refine OWp.loadAt_4 (k := 0) hh rfl rfl rfl rfl ?_ | refine OWp.loadAt_4 (k := 1) hh rfl rfl rfl rfl ?_ | refine OWp.loadAt_4 (k := 2) hh rfl rfl rfl rfl ?_
          refine OWp.nil ?_
          first | refine CWp.condP rfl (fun h4 => ?_) (fun h4 => ?_) | refine CWp.cond rfl (fun h4 => ?_) (fun h4 => ?_)
          · skip
            first | rw [decide_eq_true h4] | rw [decide_eq_false h4] | rw [h4] | skip
            refine CWp.region ?_
            refine OWp.move rfl rfl ?_
            refine OWp.buildSl hh.wf rfl rfl rfl (t' := 9) (cells := #[.string KAPP]) (by kernel_rfl) (fun H2 c3 hw2 hk2 hc2 ho2 => ?_)
            refine OWp.norm ?_
            have hgr2 := hgr.keep hh.wf hk2
            replace hh := hh.after hk2
            refine OWp.appendS (m := 1) (B := H.next) hh.wf hh.keep.next hgr2 ho2.row rfl (by simp) rfl rfl rfl rfl rfl hE Tryz.underlying33 hz9 rfl hs9 (by rw [hb16]; decide) rfl rfl (by rw [hb16, strs_len]; have := lst_len (a := a) hj; omega) (fun H3 v3 hg3 hs3 hgr3 => ?_)
            refine OWp.norm ?_
            replace hh := hh.grown hg3 (Nat.le_refl _)
            refine OWp.assign rfl rfl ?_
            refine OWp.nil ?_
            exact ⟨_, ex_env rfl ⟨hh.drop, (by first | exact grow_if_t h4 hgr3 | exact grow_if_t rfl hgr3)⟩⟩
          · skip
            first | rw [decide_eq_true h4] | rw [decide_eq_false h4] | rw [h4] | skip
            refine CWp.skip ?_
            exact ⟨_, ex_env rfl ⟨hh.drop, (by first | exact grow_if_f h4 hgr | exact grow_if_f rfl hgr | exact grow_if_f (by simpa using h4) hgr)⟩⟩
        · rintro e H' ⟨v, g, rfl, hh, hgr⟩
          have hl12 : (strs (lst a 3 ++ (if a.app = true then [KAPP] else []))).length ≤ 5 := by
            rw [strs_len, List.length_append]
            have := lst_len (a := a) (Nat.le_refl 3)
            have h1 : (if a.app = true then [KAPP] else []).length ≤ 1 := by split; exact Nat.le_refl 1; exact Nat.zero_le _
            omega
          refine CWp.cut (fun e H5 => ∃ (v : Value) (g : Nat → Value), e = [a.v, .pointer (some ⟨b1, 0, none⟩), g 2, v, g 4, g 5, g 6, g 7, g 8, g 9, g 10, g 11, g 12, g 13, g 14, g 15, g 16, g 17, g 18, g 19, g 20, g 21, g 22, g 23, g 24, g 25, g 26, g 27, g 28, g 29, g 30, g 31, g 32, g 33, g 34, g 35, g 36, g 37, g 38, g 39, g 40, g 41, g 42, g 43, g 44, g 45, g 46, g 47, g 48, g 49, g 50, g 51, g 52, g 53, g 54, g 55, g 56, g 57, g 58, g 59, g 60, g 61, g 62, g 63, g 64, g 65, g 66, g 67, g 68, g 69, g 70, g 71, g 72, g 73, g 74, g 75, g 76, g 77, g 78, g 79, g 80, g 81, g 82, g 83, g 84, g 85] ∧ Has H H5 [(b1, a.O)] ∧ Grow H.next H5 v 9 (strs (partsR a))) ?_ ?_
          · skip
            refine CWp.seq ?_
            refine CWp.region ?_
            refine OWp.fieldAt 5 (by decide) rfl rfl rfl ?_
            first | refine OWp.loadAt_5 (k := 0) hh rfl rfl rfl rfl ?_ | refine OWp.loadAt_5 (k := 1) hh rfl rfl rfl rfl ?_ | refine OWp.loadAt_5 (k := 2) hh rfl rfl rfl rfl ?_
            refine OWp.nil ?_
            first | refine CWp.condP rfl (fun h3 => ?_) (fun h3 => ?_) | refine CWp.cond rfl (fun h3 => ?_) (fun h3 => ?_)
            · skip
              first | rw [decide_eq_true h3] | rw [decide_eq_false h3] | rw [h3] | skip
              refine CWp.region ?_
              refine OWp.move rfl rfl ?_
              refine OWp.buildSl hh.wf rfl rfl rfl (t' := 9) (cells := #[.string KNOL]) (by kernel_rfl) (fun H2 c3 hw2 hk2 hc2 ho2 => ?_)
              refine OWp.norm ?_
              have hgr2 := hgr.keep hh.wf hk2
              replace hh := hh.after hk2
              refine OWp.appendS (m := 1) (B := H.next) hh.wf hh.keep.next hgr2 ho2.row rfl (by simp) rfl rfl rfl rfl rfl hE Tryz.underlying33 hz9 rfl hs9 (by rw [hb16]; decide) rfl rfl (by rw [hb16]; omega) (fun H3 v3 hg3 hs3 hgr3 => ?_)
              refine OWp.norm ?_
              replace hh := hh.grown hg3 (Nat.le_refl _)
              refine OWp.assign rfl rfl ?_
              refine OWp.nil ?_
              exact ⟨_, ex_env rfl ⟨hh, (by rw [← lst_3]; first | exact grow_if_t h3 hgr3 | exact grow_if_t rfl hgr3)⟩⟩
            · skip
              first | rw [decide_eq_true h3] | rw [decide_eq_false h3] | rw [h3] | skip
              refine CWp.skip ?_
              exact ⟨_, ex_env rfl ⟨hh, (by rw [← lst_3]; first | exact grow_if_f h3 hgr | exact grow_if_f rfl hgr | exact grow_if_f (by simpa using h3) hgr)⟩⟩
          · rintro e H5 ⟨v, g, rfl, hh, hgr⟩
            obtain ⟨p, rfl, hrow⟩ := hgr.row
            have hLn := parts_len a
            have hLz := parts_size ha
            obtain ⟨L, hL⟩ : ∃ L, L = partsR a := ⟨_, rfl⟩
            rw [← hL] at hrow hLn hLz ⊢
            simp only [strs_len]
            refine CWp.seq ?_
            refine CWp.region ?_
            refine OWp.assign rfl rfl ?_
            refine OWp.nil ?_
            refine CWp.seq ?_
            refine CWp.seq ?_
            refine CWp.region ?_
            refine OWp.move rfl rfl ?_
            refine OWp.lenSl rfl rfl rfl rfl rfl Tryz.underlying33 rfl ?_
            refine OWp.move rfl rfl ?_
            refine OWp.nil ?_
            refine CWp.block ?_
            refine CWp.loop (fun k e H' => ∃ (w : ByteArray) (j : Nat) (g : Nat → Value), e = [a.v, .pointer (some ⟨b1, 0, none⟩), g 2, g 3, g 4, g 5, .string w, g 7, g 8, g 9, g 10, g 11, g 12, g 13, g 14, g 15, g 16, g 17, g 18, g 19, g 20, g 21, g 22, g 23, g 24, g 25, g 26, g 27, g 28, g 29, g 30, g 31, g 32, g 33, g 34, g 35, g 36, g 37, g 38, g 39, g 40, g 41, g 42, g 43, g 44, g 45, g 46, g 47, g 48, g 49, g 50, g 51, g 52, g 53, g 54, g 55, g 56, g 57, .slice p L.length L.length, .int .i64 (L.length : Nat), .int .i64 (j : Nat), g 61, g 62, g 63, g 64, g 65, g 66, g 67, g 68, g 69, g 70, g 71, g 72, g 73, g 74, g 75, g 76, g 77, g 78, g 79, g 80, g 81, g 82, g 83, g 84, g 85] ∧ k = L.length - j ∧ H' = H5 ∧ j ≤ L.length ∧ w = joinB (L.take j)) ?_ ?_
            · exact ⟨_, ⟨#[]⟩, 0, ex_env rfl ⟨rfl, rfl, by omega, rfl⟩⟩
            · rintro k e H' ⟨w, j, g, rfl, rfl, rfl, hj, hwj⟩
              refine CWp.seq ?_
              refine CWp.region ?_
              refine OWp.binI rfl rfl rfl rfl rfl ?_
              refine OWp.nil ?_
              refine CWp.seq ?_
              first | refine CWp.condP rfl (fun h4 => ?_) (fun h4 => ?_) | refine CWp.cond rfl (fun h4 => ?_) (fun h4 => ?_)
              · skip
                obtain ⟨x0, hx0⟩ : ∃ x0, L[j]? = some x0 := ⟨_, List.getElem?_eq_getElem (show j < L.length by omega)⟩
                obtain ⟨hjn, hjz⟩ := join_take hx0
                obtain ⟨pa, rfl⟩ := row_someS hrow (by omega)
                first | rw [decide_eq_true h4] | rw [decide_eq_false h4] | rw [h4] | skip
                refine CWp.skip ?_
                refine CWp.seq ?_
                refine CWp.block ?_
                refine CWp.seq ?_
                refine CWp.region ?_
                refine OWp.move rfl rfl ?_
                refine OWp.indexAddrSl1 rfl rfl Tryz.underlying33 hs9 rfl rfl (by omega) (by omega) ?_
                refine OWp.loadRow rfl rfl Tryz.underlying9 rfl rfl hrow (v := .string x0) (strs_get hx0) ?_
                refine OWp.assign rfl rfl ?_
                refine OWp.assign rfl rfl ?_
                refine OWp.nil ?_
                refine CWp.seq ?_
                refine CWp.seq ?_
                refine CWp.region ?_
                refine OWp.move rfl rfl ?_
                refine OWp.binI rfl rfl rfl rfl rfl ?_
                refine OWp.nil ?_
                first | refine CWp.condP rfl (fun h5 => ?_) (fun h5 => ?_) | refine CWp.cond rfl (fun h5 => ?_) (fun h5 => ?_)
                · skip
                  have hsz : w.size + 1 + x0.size ≤ 4000000 := by
                    have h9 := hjz
                    rw [hjn, if_pos (by omega), ← hwj, size_app, size_app, sz_1] at h9
                    omega
                  first | rw [decide_eq_true h5] | rw [decide_eq_false h5] | rw [h5] | skip
                  refine CWp.region ?_
                  refine OWp.move rfl rfl ?_
                  refine OWp.catS rfl rfl rfl rfl (by first | omega | (simp only [size_app, sz_0, sz_1, sz_2, sz_3, sz_4, sz_7, bl_size]; omega)) ?_
                  refine OWp.assign rfl rfl ?_
                  refine OWp.nil ?_
                  refine CWp.region ?_
                  refine OWp.move rfl rfl ?_
                  refine OWp.move rfl rfl ?_
                  refine OWp.catS rfl rfl rfl rfl (by first | omega | (simp only [size_app, sz_0, sz_1, sz_2, sz_3, sz_4, sz_7, bl_size]; omega)) ?_
                  refine OWp.assign rfl rfl ?_
                  refine OWp.nil ?_
                  refine CWp.region ?_
                  refine OWp.addI rfl rfl rfl rfl (by first | omega | (simp only [size_app, sz_0, sz_1, sz_2, sz_3, sz_4, sz_7, bl_size]; omega)) ?_
                  refine OWp.move rfl rfl ?_
                  refine OWp.nil ?_
                  exact ⟨_, by omega, _, j + 1, ex_env rfl ⟨rfl, rfl, by omega, (by rw [hjn, if_pos (by omega), ← hwj])⟩⟩
                · skip
                  obtain rfl : j = 0 := by omega
                  obtain rfl : w = ⟨#[]⟩ := hwj
                  have hsz : x0.size ≤ 4000000 := by
                    rw [hjn, if_neg (by omega)] at hjz
                    omega
                  first | rw [decide_eq_true h5] | rw [decide_eq_false h5] | rw [h5] | skip
                  refine CWp.skip ?_
                  refine CWp.region ?_
                  refine OWp.move rfl rfl ?_
                  refine OWp.move rfl rfl ?_
                  refine OWp.catS rfl rfl rfl rfl (by first | omega | (simp only [size_app, sz_0, sz_1, sz_2, sz_3, sz_4, sz_7, bl_size]; omega)) ?_
                  refine OWp.assign rfl rfl ?_
                  refine OWp.nil ?_
                  refine CWp.region ?_
                  refine OWp.addI rfl rfl rfl rfl (by first | omega | (simp only [size_app, sz_0, sz_1, sz_2, sz_3, sz_4, sz_7, bl_size]; omega)) ?_
                  refine OWp.move rfl rfl ?_
                  refine OWp.nil ?_
                  exact ⟨_, by omega, _, 0 + 1, ex_env rfl ⟨rfl, rfl, by omega, (by rw [hjn, if_neg (by omega)]; exact nil_app _)⟩⟩
              · skip
                obtain rfl : j = L.length := by omega
                rw [List.take_of_length_le (Nat.le_refl _)] at hwj
                have hwz : w.size ≤ 4000000 := by rw [hwj]; exact Nat.le_trans (joinB_size L) hLz
                rw [hL] at hwj
                first | rw [decide_eq_true h4] | rw [decide_eq_false h4] | rw [h4] | skip
                refine CWp.exit ?_
                refine CWp.seq ?_
                refine CWp.region ?_
                refine OWp.move rfl rfl ?_
                refine OWp.call rfl rfl rfl rfl ?_
                refine readR_spec _ (by omega) _ _ ?_ hh.wf
                intro H3 ab okb hk3 hrb1 hrb2
                replace hh := hh.after hk3
                refine OWp.norm ?_
                refine OWp.move rfl rfl ?_
                refine OWp.extract rfl rfl rfl rfl ?_
                refine OWp.extract rfl rfl rfl rfl ?_
                refine OWp.allocAt hh rfl rfl (fun H9 b9 hh => ?_)
                refine OWp.norm ?_
                first | refine OWp.storeAt (k := 0) hh rfl rfl rfl rfl rfl (fun H4 hh => ?_) | refine OWp.storeAt (k := 1) hh rfl rfl rfl rfl rfl (fun H4 hh => ?_) | refine OWp.storeAt (k := 2) hh rfl rfl rfl rfl rfl (fun H4 hh => ?_)
                simp only [List.set_cons_zero, List.set_cons_succ] at hh
                refine OWp.norm ?_
                refine OWp.assign rfl rfl ?_
                refine OWp.nil ?_
                refine CWp.seq ?_
                refine CWp.seq ?_
                refine CWp.region ?_
                refine OWp.move rfl rfl ?_
                first | refine OWp.notD rfl rfl rfl ?_ | refine OWp.notB rfl rfl rfl ?_
                refine OWp.move rfl rfl ?_
                first | refine OWp.byF rfl (fun hg5 => ?_) (fun hg5 => ?_) | refine OWp.byBF rfl (fun hg5 => ?_) (fun hg5 => ?_)
                · skip
                  first | rw [decide_eq_true hg5] | rw [decide_eq_false hg5] | rw [hg5] | skip
                  try simp only [Decidable.not_not] at hg5
                  first | refine OWp.loadAt (k := 0) hh rfl rfl rfl rfl ?_ | refine OWp.loadAt (k := 1) hh rfl rfl rfl rfl ?_ | refine OWp.loadAt (k := 2) hh rfl rfl rfl rfl ?_
                  first | refine OWp.loadAt (k := 0) hh rfl rfl rfl rfl ?_ | refine OWp.loadAt (k := 1) hh rfl rfl rfl rfl ?_ | refine OWp.loadAt (k := 2) hh rfl rfl rfl rfl ?_
                  refine OWp.neAt _ _ rfl rfl rfl rfl ?_
                  refine OWp.pickF rfl rfl rfl ?_
                  refine OWp.nil ?_
                  first | refine CWp.condP rfl (fun h6 => ?_) (fun h6 => ?_) | refine CWp.cond rfl (fun h6 => ?_) (fun h6 => ?_)
                  · skip
                    first | rw [decide_eq_true h6] | rw [decide_eq_false h6] | rw [h6] | skip
                    refine CWp.seq ?_
                    refine CWp.region ?_
                    refine OWp.assign rfl rfl ?_
                    refine OWp.nil ?_
                    refine CWp.ret ?_
                    refine RetQ.one (by first | exact .inl rfl | exact .inr rfl) rfl rfl ?_
                    have := writeR_no (a := a) hwj hrb1 (fun _ e9 => by subst e9; simp_all)
                    rw [this]
                    exact h _ hh.keep
                  · skip
                    first | rw [decide_eq_true h6] | rw [decide_eq_false h6] | rw [h6] | skip
                    refine CWp.skip ?_
                    refine CWp.seq ?_
                    refine CWp.region ?_
                    refine OWp.move rfl rfl ?_
                    refine OWp.assign rfl rfl ?_
                    refine OWp.nil ?_
                    refine CWp.ret ?_
                    refine RetQ.one (by first | exact .inl rfl | exact .inr rfl) rfl rfl ?_
                    have := writeR_yes hwj hrb1 hrb2 (by simp_all) (by rcases Classical.em (a = ab) with e9 | e9; exact e9.symm; exfalso; simp_all)
                    rw [this]
                    exact h _ hh.keep
                · skip
                  first | rw [decide_eq_true hg5] | rw [decide_eq_false hg5] | rw [hg5] | skip
                  try simp only [Decidable.not_not] at hg5
                  refine OWp.leave rfl ?_
                  refine OWp.leave rfl ?_
                  refine OWp.leave rfl ?_
                  refine OWp.pickT rfl rfl rfl ?_
                  refine OWp.nil ?_
                  refine CWp.condT rfl ?_
                  refine CWp.seq ?_
                  refine CWp.region ?_
                  refine OWp.assign rfl rfl ?_
                  refine OWp.nil ?_
                  refine CWp.ret ?_
                  refine RetQ.one (by first | exact .inl rfl | exact .inr rfl) rfl rfl ?_
                  have := writeR_no (a := a) hwj hrb1 (fun e => by simp_all)
                  rw [this]
                  exact h _ hh.keep

theorem attrTells_spec (s : ByteArray) (hs : s.size ≤ 1048576) (l : List Value) (hl : Bytes l) (ks : Value) (a : At) (ha : SzA a) (H : AH) (Q : Value → AH → Prop) (h : ∀ H', Q (.bool true) H') (hvw : View H ks l) (hlen : l.length ≤ 9223372036854775807) (hw : WfH H) : FWp Tryz.prog prims 4 [.string s, ks, a.v] H Q := by
  have hh := Has.start hw
  refine FWp.enter (rfl) Tryz.func4 rfl (e := [.string s, ks, a.v, undef, undef, undef, undef, undef, undef, undef, undef, undef, undef, undef, undef, undef, undef, undef, undef, undef, undef, undef, undef, undef, undef, undef, undef, undef, undef, undef, undef]) rfl ?_
  refine CWp.seq ?_
  refine CWp.region ?_
  refine OWp.boxAt _ hh rfl rfl rfl (fun H5 b5 hh => ?_)
  refine OWp.norm ?_
  refine OWp.assign rfl rfl ?_
  refine OWp.nil ?_
  refine CWp.seq ?_
  refine CWp.drawnN (by kernel_rfl) ?_
  have hhS := hh
  have hkS := Keeps.refl hh.wf
  replace hvw := hvw.sees (hh.keep.sees hw)
  refine OWp.move rfl rfl ?_
  refine OWp.call rfl rfl rfl rfl ?_
  refine same_spec s (by omega) _ _ ?_ hh.wf
  intro Ha hka
  replace hvw := hvw.sees (hka.sees hh.wf)
  replace hkS := hkS.trans hka hhS.wf
  replace hh := hh.after hka
  refine OWp.norm ?_
  refine OWp.move rfl rfl ?_
  refine OWp.move rfl rfl ?_
  refine OWp.call rfl rfl rfl rfl ?_
  refine madeV_spec l hl _ _ _ ?_ hvw hlen hh.wf
  intro Hb ub hkb hzb
  replace hvw := hvw.sees (hkb.sees hh.wf)
  replace hkS := hkS.trans hkb hhS.wf
  replace hh := hh.after hkb
  refine OWp.norm ?_
  refine OWp.call rfl rfl rfl rfl ?_
  refine same_spec ub (by omega) _ _ ?_ hh.wf
  intro Hc hkc
  replace hvw := hvw.sees (hkc.sees hh.wf)
  replace hkS := hkS.trans hkc hhS.wf
  replace hh := hh.after hkc
  refine OWp.norm ?_
  refine OWp.pickT rfl rfl rfl ?_
  refine OWp.move rfl rfl ?_
  refine OWp.move rfl rfl ?_
  refine OWp.call rfl rfl rfl rfl ?_
  refine madeV_spec l hl _ _ _ ?_ hvw hlen hh.wf
  intro Hd ud hkd hzd
  replace hvw := hvw.sees (hkd.sees hh.wf)
  replace hkS := hkS.trans hkd hhS.wf
  replace hh := hh.after hkd
  refine OWp.norm ?_
  refine OWp.move rfl rfl ?_
  refine OWp.catS rfl rfl rfl rfl (by first | omega | (simp only [size_app, sz_0, sz_1, sz_2, sz_3, sz_4, sz_7, bl_size]; omega)) ?_
  refine OWp.call rfl rfl rfl rfl ?_
  refine same_spec (ud ++ s) (by first | omega | (simp only [size_app, sz_0, sz_1, sz_2, sz_3, sz_4, sz_7, bl_size]; omega)) _ _ ?_ hh.wf
  intro He hke
  replace hvw := hvw.sees (hke.sees hh.wf)
  replace hkS := hkS.trans hke hhS.wf
  replace hh := hh.after hke
  refine OWp.norm ?_
  refine OWp.pickT rfl rfl rfl ?_
  refine OWp.move rfl rfl ?_
  first | refine OWp.loadAt (k := 0) hh rfl rfl rfl rfl ?_ | refine OWp.loadAt (k := 1) hh rfl rfl rfl rfl ?_ | refine OWp.loadAt (k := 2) hh rfl rfl rfl rfl ?_
  refine OWp.call rfl rfl rfl rfl ?_
  refine write_spec a ha _ _ ?_ hh.wf
  intro Hf hkf
  replace hvw := hvw.sees (hkf.sees hh.wf)
  replace hkS := hkS.trans hkf hhS.wf
  replace hh := hh.after hkf
  refine OWp.norm ?_
  first | refine OWp.loadAt (k := 0) hh rfl rfl rfl rfl ?_ | refine OWp.loadAt (k := 1) hh rfl rfl rfl rfl ?_ | refine OWp.loadAt (k := 2) hh rfl rfl rfl rfl ?_
  refine OWp.call rfl rfl rfl rfl ?_
  refine writeR_spec a ha _ _ ?_ hh.wf
  intro Hg hkg
  replace hvw := hvw.sees (hkg.sees hh.wf)
  replace hkS := hkS.trans hkg hhS.wf
  replace hh := hh.after hkg
  rw [← write_same]
  refine OWp.norm ?_
  refine OWp.binS (v := .bool true) rfl rfl rfl rfl (congrArg (fun b => some (Value.bool b)) (decide_eq_true rfl)) ?_
  refine OWp.pickT rfl rfl rfl ?_
  refine OWp.move rfl rfl ?_
  refine OWp.call rfl rfl rfl rfl ?_
  refine known_spec _ _ ?_
  refine OWp.norm ?_
  refine OWp.pickT rfl rfl rfl ?_
  refine OWp.assign rfl rfl ?_
  refine OWp.nil ?_
  refine ⟨still_all (L := [.pointer (some ⟨b5, 0, none⟩), .pointer (some ⟨b5, 0, none⟩)]) rfl (by simp only [List.all_cons, List.all_nil, Bool.and_true, Bool.and_eq_true]; first | rfl | (refine ⟨?_, ?_⟩ <;> first | rfl | exact still_has (k := 0) hhS rfl hkS | exact still_has (k := 1) hhS rfl hkS | exact still_has (k := 2) hhS rfl hkS) | exact still_has (k := 0) hhS rfl hkS | exact still_has (k := 1) hhS rfl hkS | exact still_has (k := 2) hhS rfl hkS), ?_⟩
  refine CWp.ret ?_
  refine RetQ.one (by first | exact .inl rfl | exact .inr rfl) rfl rfl ?_
  exact h _

end Go.Proofs.YtnlkgnoogcakjaaGreatDoor.Ev
