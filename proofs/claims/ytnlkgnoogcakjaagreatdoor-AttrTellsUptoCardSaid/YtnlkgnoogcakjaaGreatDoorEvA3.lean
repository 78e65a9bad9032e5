import Derived.Test.YtnlkgnoogcakjaaGreatDoorEvA2
namespace Go.Proofs.YtnlkgnoogcakjaaGreatDoor.Ev
open Go
set_option linter.unusedVariables false
set_option linter.unusedSimpArgs false
set_option maxHeartbeats 2000000
set_option maxRecDepth 20000
theorem langS_yes {t : ByteArray} (h1 : 0 < wordN t) (h2 : ∀ j : Nat, j < wordN t → ¬ byteAt t (j : Nat) = 61) (h3 : ¬ aloneP (t.extract 0 (wordN t))) : langS t = (t.extract 0 (wordN t), trimC (t.extract (wordN t) t.size) WS) := by
  unfold langS
  rw [if_pos ⟨h1, h2, h3⟩]
theorem langS_no {t : ByteArray} (h : ¬ (0 < wordN t ∧ (∀ j : Nat, j < wordN t → ¬ byteAt t (j : Nat) = 61) ∧ ¬ aloneP (t.extract 0 (wordN t)))) : langS t = (⟨#[]⟩, t) := by
  unfold langS
  rw [if_neg h]
theorem ix_no {s : ByteArray} {n : Nat} {i : Int} (hi : (∃ o : Nat, i = (o : Int) ∧ o < n ∧ byteAt s (o : Nat) = 61 ∧ ∀ j : Nat, j < o → ¬ byteAt s (j : Nat) = 61) ∨ (i = -1 ∧ ∀ j : Nat, j < n → ¬ byteAt s (j : Nat) = 61)) (h : i < 0) : ∀ j : Nat, j < n → ¬ byteAt s (j : Nat) = 61 := by
  rcases hi with ⟨o, e, _⟩ | ⟨_, hn⟩
  · omega
  · exact hn
theorem ix_yes {s : ByteArray} {n : Nat} {i : Int} (hi : (∃ o : Nat, i = (o : Int) ∧ o < n ∧ byteAt s (o : Nat) = 61 ∧ ∀ j : Nat, j < o → ¬ byteAt s (j : Nat) = 61) ∨ (i = -1 ∧ ∀ j : Nat, j < n → ¬ byteAt s (j : Nat) = 61)) (h : ¬ i < 0) : ¬ ∀ j : Nat, j < n → ¬ byteAt s (j : Nat) = 61 := by
  rcases hi with ⟨o, e, h1, h2, _⟩ | ⟨e, _⟩
  · exact fun hh => hh o h1 h2
  · omega
theorem pairsS_of {s t lang u : ByteArray} (ht : t = trimC s WS) (h : langS t = (lang, u)) : pairsS s = (pairsT [] u).map fun l => (lang, l) := by
  unfold pairsS
  rw [← ht, h]
/-- A row of pairs that the program made. -/
def SlP (H : AH) (w : Value) (ms : List PA) : Prop := ∃ p, w = .slice p ms.length ms.length ∧ Row H p (rowPA ms)
def SlR (H : AH) (w : Value) (ms : List PR) : Prop := ∃ p, w = .slice p ms.length ms.length ∧ Row H p (rowPR ms)
theorem rowPA_snoc (ms : List PA) (m : PA) : rowPA (ms ++ [m]) = rowPA ms ++ m.cells.toList := by simp [rowPA]
theorem rowPR_snoc (ms : List PR) (m : PR) : rowPR (ms ++ [m]) = rowPR ms ++ m.cells.toList := by simp [rowPR]
theorem paOf_key (p : PR) : (paOf p).key = p.key := rfl
theorem dup_map {ms : List PA} {l : List PR} (h : ms = l.map paOf) (p : PR) : (∃ q, q ∈ ms ∧ q.key = (paOf p).key) ↔ ∃ q, q ∈ l ∧ q.key = p.key := by
  subst h
  constructor
  · rintro ⟨q, h1, h2⟩
    obtain ⟨q0, h3, rfl⟩ := List.mem_map.1 h1
    exact ⟨q0, h3, h2⟩
  · rintro ⟨q, h1, h2⟩
    exact ⟨paOf q, List.mem_map.2 ⟨q, h1, rfl⟩, h2⟩
theorem trim_to {s : ByteArray} {i i2 : Nat} (h0 : i ≤ i2) (h1 : i2 ≤ s.size) (h2 : ∀ j : Nat, i ≤ j → j < i2 → gapB (byteAt s (j : Nat))) (h3 : i2 < s.size → ¬ gapB (byteAt s (i2 : Nat))) : trimC (s.extract i s.size) WS = s.extract i2 s.size := by
  have hz := ext_size s i
  rw [trim_gap (s.extract i s.size) (i2 - i) ⟨by omega, fun j hj => by rw [byteAt_ext]; exact h2 _ (by omega) (by omega), fun hlt => by rw [byteAt_ext, show i + (i2 - i) = i2 by omega]; exact h3 (by omega)⟩]
  rw [ext_ext_end, show i + (i2 - i) = i2 by omega]
theorem ext_zero (s : ByteArray) : s.extract 0 s.size = s := ext_all s
theorem wordN_0 {t : ByteArray} (h : t.size = 0) : wordN t = 0 := by have := wordN_le t; omega
/-- What is known ahead of a pair, in the reference. -/
def RefSt (s lang : ByteArray) (l : List PR) (i : Nat) (f : Bool) : Prop := i ≤ s.size ∧ l.length ≤ i ∧ (f = true → i = 0 ∧ l = [] ∧ lang = ⟨#[]⟩) ∧ (f = false → pairsS s = (pairsT l (trimC (s.extract i s.size) WS)).map fun x => (lang, x))
theorem ref_end {s lang : ByteArray} {l : List PR} {i : Nat} {f : Bool} (h : RefSt s lang l i f) (ht : trimC (s.extract i s.size) WS = s.extract s.size s.size) : pairsS s = some (lang, l) := by
  obtain ⟨h1, h2, h3, h4⟩ := h
  have hz : (s.extract s.size s.size).size = 0 := by rw [ext_size]; omega
  cases f with
  | true =>
    obtain ⟨rfl, rfl, rfl⟩ := h3 rfl
    rw [ext_zero] at ht
    rw [pairsS_of ht.symm (langS_no (fun hh => by rw [wordN_0 hz] at hh; exact absurd hh.1 (Nat.lt_irrefl _))), pairsT_nil hz]
    rfl
  | false => rw [h4 rfl, ht, pairsT_nil hz]; rfl
theorem ref_pair {s lang : ByteArray} {l : List PR} {i i2 : Nat} {f : Bool} (h : RefSt s lang l i f) (ht : trimC (s.extract i s.size) WS = s.extract i2 s.size) (hf : f = true → ¬ ((∀ j : Nat, j < wordN (s.extract i2 s.size) → ¬ byteAt (s.extract i2 s.size) (j : Nat) = 61) ∧ ¬ aloneP ((s.extract i2 s.size).extract 0 (wordN (s.extract i2 s.size))))) : pairsS s = (pairsT l (s.extract i2 s.size)).map fun x => (lang, x) := by
  obtain ⟨h1, h2, h3, h4⟩ := h
  cases f with
  | true =>
    obtain ⟨rfl, rfl, rfl⟩ := h3 rfl
    rw [ext_zero] at ht
    exact pairsS_of ht.symm (langS_no (fun hh => hf rfl hh.2))
  | false => rw [h4 rfl, ht]
theorem ref_lang {s lang : ByteArray} {l : List PR} {i i2 : Nat} (h : RefSt s lang l i true) (ht : trimC (s.extract i s.size) WS = s.extract i2 s.size) (h1 : 0 < wordN (s.extract i2 s.size)) (h2 : ∀ j : Nat, j < wordN (s.extract i2 s.size) → ¬ byteAt (s.extract i2 s.size) (j : Nat) = 61) (h3 : ¬ aloneP ((s.extract i2 s.size).extract 0 (wordN (s.extract i2 s.size)))) (hi : i2 ≤ s.size) :
    RefSt s (s.extract i2 (i2 + wordN (s.extract i2 s.size))) l (i2 + wordN (s.extract i2 s.size)) false := by
  obtain ⟨k1, k2, k3, k4⟩ := h
  obtain ⟨rfl, rfl, rfl⟩ := k3 rfl
  have hw := wordN_le (s.extract i2 s.size)
  have hz := ext_size s i2
  rw [ext_zero] at ht
  refine ⟨by omega, Nat.zero_le _, fun e => (by cases e), fun _ => ?_⟩
  rw [pairsS_of ht.symm (langS_yes h1 h2 h3), ext_ext_end, ext_ext s i2 0 _ (by omega)]
  rfl
theorem has_eq {s : ByteArray} {i2 w : Nat} (hw : w = wordN (s.extract i2 s.size)) (hi : i2 ≤ s.size) {b : Bool} (hb : b = true ↔ ∃ i : Int, 0 ≤ i ∧ i < ((s.extract i2 (i2 + w)).size : Int) ∧ byteAt (s.extract i2 (i2 + w)) i = 61) : b = false ↔ ∀ j : Nat, j < wordN (s.extract i2 s.size) → ¬ byteAt (s.extract i2 s.size) (j : Nat) = 61 := by
  have hl := wordN_le (s.extract i2 s.size)
  have hz := ext_size s i2
  have hx : s.extract i2 (i2 + w) = (s.extract i2 s.size).extract 0 w := by rw [ext_ext s i2 0 w (by omega)]; rfl
  have hxz : ((s.extract i2 s.size).extract 0 w).size = w := by simp [ByteArray.size_extract]; omega
  rw [hx, hxz] at hb
  subst hw
  constructor
  · intro hf j hj e
    have := hb.2 ⟨(j : Nat), by omega, by omega, by rw [byteAt_ext0 _ _ _ hj hl]; exact e⟩
    rw [this] at hf; cases hf
  · intro hall
    cases hbb : b with
    | false => rfl
    | true =>
      obtain ⟨i, h1, h2, h3⟩ := hb.1 hbb
      obtain ⟨j, rfl⟩ := Int.eq_ofNat_of_zero_le h1
      have hj : j < wordN (s.extract i2 s.size) := by omega
      rw [byteAt_ext0 _ _ _ hj hl] at h3
      exact absurd h3 (hall j hj)

theorem pairs_spec (s : ByteArray) (hs : s.size ≤ 9000000) (H : AH) (Q : Value → AH → Prop) (h : ∀ H' (lang : ByteArray) (w : Value) (ms : List PA) (ok : Bool), Keeps H H' → (∀ L l, pairsS s = some (L, l) → ok = true ∧ lang = L ∧ ms = l.map paOf) → (pairsS s = none → ok = false ∧ ms = [] ∧ lang = ⟨#[]⟩) → SlP H' w ms → Q (.tuple #[.string lang, w, .bool ok]) H') (hw : WfH H) : FWp Tryz.prog prims 16 [.string s] H Q := by
  have hE : elemT Tryz.prog 35 = some 44 := by kernel_rfl
  have hb2 : bytesT Tryz.prog 44 = 32 := by kernel_rfl
  have hcp : capB (.pointer (some ⟨0, 0, none⟩)) = true := rfl
  refine FWp.enter (rfl) Tryz.func16 rfl (e := [.string s, undef, undef, undef, undef, undef, undef, undef, undef, undef, undef, undef, undef, undef, undef, undef, undef, undef, undef, undef, undef, undef, undef, undef, undef, undef, undef, undef, undef, undef, undef, undef, undef, undef, undef, undef, undef, undef, undef, undef, undef, undef, undef, undef, undef, undef, undef, undef, undef, undef, undef, undef, undef, undef, undef, undef, undef, undef, undef, undef, undef, undef, undef]) rfl ?_
  refine CWp.seq ?_
  refine CWp.region ?_
  refine OWp.assign rfl rfl ?_
  refine OWp.assign rfl rfl ?_
  refine OWp.assign rfl rfl ?_
  refine OWp.nil ?_
  refine CWp.seq ?_
  refine CWp.region ?_
  refine OWp.assign rfl rfl ?_
  refine OWp.nil ?_
  refine CWp.seq ?_
  refine CWp.region ?_
  refine OWp.move rfl rfl ?_
  refine OWp.call rfl rfl rfl rfl ?_
  refine trimL_spec _ _ _ ?_
  obtain ⟨t, ht⟩ : ∃ t, t = trimC s WS := ⟨_, rfl⟩
  rw [← ht]
  have htz : t.size ≤ s.size := by rw [ht]; exact trim_size s
  have hwl := wordN_le t
  have hlz := langS_le t
  refine OWp.norm ?_
  refine OWp.assign rfl rfl ?_
  refine OWp.nil ?_
  refine CWp.cut (fun e H' => ∃ (lang u : ByteArray) (g : Nat → Value), e = [.string s, g 1, g 2, g 3, g 4, .string lang, .string u, g 7, g 8, g 9, g 10, g 11, g 12, g 13, g 14, g 15, g 16, g 17, g 18, g 19, g 20, g 21, g 22, g 23, g 24, g 25, g 26, g 27, g 28, g 29, g 30, g 31, g 32, g 33, g 34, g 35, g 36, g 37, g 38, g 39, g 40, g 41, g 42, g 43, g 44, g 45, g 46, g 47, g 48, g 49, g 50, g 51, g 52, g 53, g 54, g 55, g 56, g 57, g 58, g 59, g 60, g 61, g 62] ∧ H = H' ∧ langS t = (lang, u)) ?_ ?_
  · skip
    refine CWp.seq ?_
    refine CWp.region ?_
    refine OWp.move rfl rfl ?_
    refine OWp.call rfl rfl rfl rfl ?_
    refine word_spec _ (by first | omega | (simp only [ByteArray.size_extract]; omega)) _ _ ?_
    refine OWp.norm ?_
    refine OWp.assign rfl rfl ?_
    refine OWp.nil ?_
    refine CWp.seq ?_
    refine CWp.region ?_
    refine OWp.move rfl rfl ?_
    refine OWp.binI rfl rfl rfl rfl rfl ?_
    refine OWp.move rfl rfl ?_
    first | refine OWp.byT rfl (fun hg0 => ?_) (fun hg0 => ?_) | refine OWp.byBT rfl (fun hg0 => ?_) (fun hg0 => ?_)
    · skip
      first | rw [decide_eq_true hg0] | rw [decide_eq_false hg0] | rw [hg0] | skip
      try simp only [Decidable.not_not] at hg0
      refine OWp.move rfl rfl ?_
      refine OWp.move rfl rfl ?_
      refine OWp.sliceS rfl rfl Tryz.underlying9 rfl rfl rfl (by omega) (by omega) (by omega) ?_
      refine OWp.call rfl rfl rfl rfl ?_
      refine ixW_spec t (wordN t) hwl _ _ (fun i hi => ?_)
      refine OWp.norm ?_
      refine OWp.binI rfl rfl rfl rfl rfl ?_
      refine OWp.pickT rfl rfl rfl ?_
      refine OWp.move rfl rfl ?_
      first | refine OWp.byT rfl (fun hg1 => ?_) (fun hg1 => ?_) | refine OWp.byBT rfl (fun hg1 => ?_) (fun hg1 => ?_)
      · skip
        first | rw [decide_eq_true hg1] | rw [decide_eq_false hg1] | rw [hg1] | skip
        try simp only [Decidable.not_not] at hg1
        have h2x : i < 0 := by omega
        refine OWp.move rfl rfl ?_
        refine OWp.move rfl rfl ?_
        refine OWp.sliceS rfl rfl Tryz.underlying9 rfl rfl rfl (by omega) (by omega) (by omega) ?_
        refine OWp.call rfl rfl rfl rfl ?_
        refine alone_spec _ _ _ (fun b hb => ?_)
        refine OWp.norm ?_
        first | refine OWp.notD rfl rfl rfl ?_ | refine OWp.notB rfl rfl rfl ?_
        refine OWp.pickT rfl rfl rfl ?_
        refine OWp.nil ?_
        first | refine CWp.condP rfl (fun h2 => ?_) (fun h2 => ?_) | refine CWp.cond rfl (fun h2 => ?_) (fun h2 => ?_)
        · skip
          first | rw [decide_eq_true h2] | rw [decide_eq_false h2] | rw [h2] | skip
          refine CWp.drawn1 (by kernel_rfl) ?_
          refine OWp.move rfl rfl ?_
          refine OWp.move rfl rfl ?_
          refine OWp.sliceS rfl rfl Tryz.underlying9 rfl rfl rfl (by omega) (by omega) (by omega) ?_
          refine OWp.move rfl rfl ?_
          refine OWp.move rfl rfl ?_
          refine OWp.sliceS rfl rfl Tryz.underlying9 rfl rfl rfl (by omega) (by omega) (by omega) ?_
          refine OWp.call rfl rfl rfl rfl ?_
          refine trimL_spec _ _ _ ?_
          refine OWp.norm ?_
          refine OWp.assign rfl rfl ?_
          refine OWp.assign rfl rfl ?_
          refine OWp.nil ?_
          exact ⟨t.extract 0 (wordN t), trimC (t.extract (wordN t) t.size) WS, ex_env rfl ⟨rfl, langS_yes (by omega) (ix_no hi h2x) (fun ha => by have := hb.2 ha; simp_all)⟩⟩
        · skip
          first | rw [decide_eq_true h2] | rw [decide_eq_false h2] | rw [h2] | skip
          refine CWp.skip ?_
          exact ⟨⟨#[]⟩, t, ex_env rfl ⟨rfl, langS_no (fun hh => by have := hb.1 (by simp_all); exact hh.2.2 this)⟩⟩
      · skip
        first | rw [decide_eq_true hg1] | rw [decide_eq_false hg1] | rw [hg1] | skip
        try simp only [Decidable.not_not] at hg1
        have h2x : ¬ i < 0 := by omega
        refine OWp.leave rfl ?_
        refine OWp.leave rfl ?_
        refine OWp.leave rfl ?_
        refine OWp.leave rfl ?_
        refine OWp.leave rfl ?_
        refine OWp.pickF rfl rfl rfl ?_
        refine OWp.nil ?_
        refine CWp.condF rfl ?_
        refine CWp.skip ?_
        exact ⟨⟨#[]⟩, t, ex_env rfl ⟨rfl, langS_no (fun hh => ix_yes hi h2x hh.2.1)⟩⟩
    · skip
      first | rw [decide_eq_true hg0] | rw [decide_eq_false hg0] | rw [hg0] | skip
      try simp only [Decidable.not_not] at hg0
      refine OWp.leave rfl ?_
      refine OWp.leave rfl ?_
      refine OWp.leave rfl ?_
      refine OWp.leave rfl ?_
      refine OWp.leave rfl ?_
      refine OWp.pickF rfl rfl rfl ?_
      refine OWp.move rfl rfl ?_
      refine OWp.leave rfl ?_
      refine OWp.leave rfl ?_
      refine OWp.leave rfl ?_
      refine OWp.leave rfl ?_
      refine OWp.leave rfl ?_
      refine OWp.pickF rfl rfl rfl ?_
      refine OWp.nil ?_
      refine CWp.condF rfl ?_
      refine CWp.skip ?_
      exact ⟨⟨#[]⟩, t, ex_env rfl ⟨rfl, langS_no (fun hh => by omega)⟩⟩
  · rintro e H' ⟨lang, u, g, rfl, rfl, hlang⟩
    rw [hlang] at hlz
    have huz : u.size ≤ s.size := Nat.le_trans hlz.2 htz
    have hps := pairsS_of ht hlang
    refine CWp.seq ?_
    refine CWp.region ?_
    refine OWp.assign rfl rfl ?_
    refine OWp.nil ?_
    refine CWp.seq ?_
    refine CWp.block ?_
    refine CWp.loop (fun k e H' => ∃ (u : ByteArray) (v : Value) (ms : List PA) (l : List PR) (g : Nat → Value), e = [.string s, g 1, g 2, g 3, g 4, .string lang, .string u, g 7, v, g 9, g 10, g 11, g 12, g 13, g 14, g 15, g 16, g 17, g 18, g 19, g 20, g 21, g 22, g 23, g 24, g 25, g 26, g 27, g 28, g 29, g 30, g 31, g 32, g 33, g 34, g 35, g 36, g 37, g 38, g 39, g 40, g 41, g 42, g 43, g 44, g 45, g 46, g 47, g 48, g 49, g 50, g 51, g 52, g 53, g 54, g 55, g 56, g 57, g 58, g 59, g 60, g 61, g 62] ∧ k = u.size ∧ WfH H' ∧ Keeps H H' ∧ GrowK 2 H.next H' v 44 ms.length (rowPA ms) ∧ ms = l.map paOf ∧ ms.length + u.size ≤ s.size ∧ pairsS s = (pairsT l u).map fun x => (lang, x)) ?_ ?_
    · exact ⟨_, u, _, [], [], ex_env rfl ⟨rfl, hw, Keeps.refl hw, GrowK.nil, rfl, by simpa using huz, hps⟩⟩
    · rintro k e H' ⟨u, v, ms, l, g, rfl, rfl, hw', hk', hgr, hms, hlen, hps⟩
      refine CWp.seq ?_
      refine CWp.seq ?_
      refine CWp.region ?_
      refine OWp.move rfl rfl ?_
      refine OWp.binS rfl rfl rfl rfl rfl ?_
      refine OWp.nil ?_
      first | refine CWp.condP rfl (fun h3 => ?_) (fun h3 => ?_) | refine CWp.cond rfl (fun h3 => ?_) (fun h3 => ?_)
      · skip
        have hu0 : ¬ u.size = 0 := fun e => h3 (ByteArray.ext (Array.eq_empty_of_size_eq_zero e))
        first | rw [decide_eq_true h3] | rw [decide_eq_false h3] | rw [h3] | skip
        refine CWp.skip ?_
        refine CWp.block ?_
        refine CWp.seq ?_
        refine CWp.region ?_
        refine OWp.move rfl rfl ?_
        refine OWp.call rfl rfl rfl rfl ?_
        refine pair_spec u (by omega) _ _ ?_ hw'
        intro H1 m r b hk1 hp1 hp2
        have hw1 := hk1.wf
        replace hgr := hgr.keep hw' hk1
        replace hk' := hk'.trans hk1 hw
        have hh := Has.start hw1
        refine OWp.norm ?_
        refine OWp.move rfl rfl ?_
        refine OWp.extract rfl rfl rfl rfl ?_
        refine OWp.extract rfl rfl rfl rfl ?_
        refine OWp.extract rfl rfl rfl rfl ?_
        refine OWp.allocPA hh rfl rfl (fun H9 b9 hh => ?_)
        refine OWp.norm ?_
        first | refine OWp.storePA (k := 0) hh rfl rfl rfl rfl rfl (fun H4 hh => ?_) | refine OWp.storePA (k := 1) hh rfl rfl rfl rfl rfl (fun H4 hh => ?_) | refine OWp.storePA (k := 2) hh rfl rfl rfl rfl rfl (fun H4 hh => ?_)
        simp only [List.set_cons_zero, List.set_cons_succ] at hh
        refine OWp.norm ?_
        refine OWp.assign rfl rfl ?_
        refine OWp.assign rfl rfl ?_
        refine OWp.nil ?_
        refine CWp.seq ?_
        refine CWp.seq ?_
        refine CWp.region ?_
        refine OWp.move rfl rfl ?_
        first | refine OWp.notD rfl rfl rfl ?_ | refine OWp.notB rfl rfl rfl ?_
        refine OWp.move rfl rfl ?_
        first | refine OWp.byF rfl (fun hg4 => ?_) (fun hg4 => ?_) | refine OWp.byBF rfl (fun hg4 => ?_) (fun hg4 => ?_)
        · skip
          first | rw [decide_eq_true hg4] | rw [decide_eq_false hg4] | rw [hg4] | skip
          try simp only [Decidable.not_not] at hg4
          obtain ⟨p0, n0, hp0⟩ : ∃ p0 n0, pairS u = some (p0, n0) := by
            cases hq : pairS u with
            | none => have := hp2 hq; simp_all
            | some y => exact ⟨y.1, y.2, rfl⟩
          obtain ⟨_, hm0, hr0⟩ := hp1 _ _ hp0
          have hpl := pairS_le hp0
          have hrz : r.size = u.size - n0 := by rw [hr0, ext_size]
          have htr := trim_size r
          refine OWp.move rfl rfl ?_
          refine OWp.makeFn (cv := [.pointer (some ⟨b9, 0, none⟩)]) rfl rfl rfl rfl ?_
          refine OWp.call rfl rfl rfl rfl ?_
          obtain ⟨p, rfl, hrow, hpa⟩ := hgr.row
          refine conF_spec ms m b9 p _ _ ?_ hh.wf (hrow.sees (hh.keep.sees hw1)) (by omega) (hh.cells (k := 0) rfl)
          intro H6 b2 hk6 hd
          replace hh := hh.after hk6
          refine OWp.norm ?_
          refine OWp.pickF rfl rfl rfl ?_
          refine OWp.nil ?_
          first | refine CWp.condP rfl (fun h5 => ?_) (fun h5 => ?_) | refine CWp.cond rfl (fun h5 => ?_) (fun h5 => ?_)
          · skip
            first | rw [decide_eq_true h5] | rw [decide_eq_false h5] | rw [h5] | skip
            refine CWp.seq ?_
            refine CWp.region ?_
            refine OWp.assign rfl rfl ?_
            refine OWp.assign rfl rfl ?_
            refine OWp.assign rfl rfl ?_
            refine OWp.nil ?_
            refine CWp.ret ?_
            refine RetQ.three (by first | exact .inl rfl | exact .inr rfl) rfl rfl rfl rfl rfl rfl rfl ?_
            exact h _ ⟨#[]⟩ (.slice none 0 0) [] false (hk'.trans hh.keep hw) (fun L l9 e => by rw [hps, pairsT_dup hu0 hp0 ((dup_map hms p0).1 (by rw [← hm0]; exact hd.1 (by assumption)))] at e; cases e) (fun _ => ⟨rfl, rfl, rfl⟩) ⟨none, rfl, rfl⟩
          · skip
            first | rw [decide_eq_true h5] | rw [decide_eq_false h5] | rw [h5] | skip
            refine CWp.skip ?_
            refine CWp.region ?_
            refine OWp.move rfl rfl ?_
            first | refine OWp.loadPA (k := 0) hh rfl rfl rfl rfl ?_ | refine OWp.loadPA (k := 1) hh rfl rfl rfl rfl ?_ | refine OWp.loadPA (k := 2) hh rfl rfl rfl rfl ?_
            refine OWp.bslPA m hh.wf rfl rfl rfl (fun H2 c hw2 hk2 hc2 ho2 => ?_)
            refine OWp.norm ?_
            refine OWp.appendK (B := H.next) (k := 2) (l2 := m.cells.toList) hw2 (by have := hk'.next; have := hh.keep.next; have := hk2.next; omega) ((hgr.keep hw1 hh.keep).keep hh.wf hk2) ho2.row rfl rfl rfl rfl rfl rfl hE Tryz.underlying35 zePA rfl szPA (by decide) (by omega) rfl rfl (by rw [hb2]; omega) (fun H3 v3 hg3 hgr3 => ?_)
            refine OWp.norm ?_
            refine OWp.move rfl rfl ?_
            refine OWp.call rfl rfl rfl rfl ?_
            refine trimL_spec _ _ _ ?_
            refine OWp.norm ?_
            refine OWp.assign rfl rfl ?_
            refine OWp.assign rfl rfl ?_
            refine OWp.nil ?_
            exact ⟨_, by omega, trimC r WS, v3, ms ++ [m], l ++ [p0], ex_env rfl ⟨rfl, hg3.wf, hg3.keeps H hw ((hk'.trans hh.keep hw).trans hk2 hw) (Nat.le_refl _), (by rw [rowPA_snoc, List.length_append]; exact hgr3), (by rw [hms, hm0, List.map_append]; rfl), (by rw [List.length_append]; simp only [List.length_cons, List.length_nil]; omega), by rw [hps, pairsT_step hu0 hp0 (fun hh0 => by have := hd.2 (by rw [hm0]; exact (dup_map hms p0).2 hh0); simp_all), hr0]⟩⟩
        · skip
          first | rw [decide_eq_true hg4] | rw [decide_eq_false hg4] | rw [hg4] | skip
          try simp only [Decidable.not_not] at hg4
          refine OWp.leave rfl ?_
          refine OWp.leave rfl ?_
          refine OWp.leave rfl ?_
          refine OWp.pickT rfl rfl rfl ?_
          refine OWp.nil ?_
          refine CWp.condT rfl ?_
          refine CWp.seq ?_
          refine CWp.region ?_
          refine OWp.assign rfl rfl ?_
          refine OWp.assign rfl rfl ?_
          refine OWp.assign rfl rfl ?_
          refine OWp.nil ?_
          refine CWp.ret ?_
          refine RetQ.three (by first | exact .inl rfl | exact .inr rfl) rfl rfl rfl rfl rfl rfl rfl ?_
          have hn0 : pairS u = none := by
            cases hq : pairS u with
            | none => rfl
            | some y => obtain ⟨y1, y2⟩ := y; have := (hp1 _ _ hq).1; simp_all
          exact h _ ⟨#[]⟩ (.slice none 0 0) [] false (hk'.trans hh.keep hw) (fun L l9 e => by rw [hps, pairsT_none hu0 hn0] at e; cases e) (fun _ => ⟨rfl, rfl, rfl⟩) ⟨none, rfl, rfl⟩
      · skip
        have hu00 : u.size = 0 := by rw [show u = ⟨#[]⟩ by simpa using h3]; rfl
        first | rw [decide_eq_true h3] | rw [decide_eq_false h3] | rw [h3] | skip
        refine CWp.exit ?_
        refine CWp.seq ?_
        refine CWp.region ?_
        refine OWp.move rfl rfl ?_
        refine OWp.move rfl rfl ?_
        refine OWp.call rfl rfl rfl rfl ?_
        obtain ⟨p, rfl, hrow, _, hcl⟩ := hgr.clip
        refine clip_spec p ms.length _ _ ?_ hcl
        refine OWp.norm ?_
        refine OWp.assign rfl rfl ?_
        refine OWp.assign rfl rfl ?_
        refine OWp.assign rfl rfl ?_
        refine OWp.nil ?_
        refine CWp.ret ?_
        refine RetQ.three (by first | exact .inl rfl | exact .inr rfl) rfl rfl rfl rfl rfl rfl rfl ?_
        exact h _ lang _ ms true hk' (fun L l9 e => by rw [hps, pairsT_nil hu00] at e; cases e; exact ⟨rfl, rfl, hms⟩) (fun e => by rw [hps, pairsT_nil hu00] at e; cases e) ⟨p, rfl, hrow⟩

theorem pairsR_spec (s : ByteArray) (hs : s.size ≤ 9000000) (H : AH) (Q : Value → AH → Prop) (h : ∀ H' (lang : ByteArray) (w : Value) (l : List PR) (ok : Bool), Keeps H H' → (∀ L l9, pairsS s = some (L, l9) → ok = true ∧ lang = L ∧ l = l9) → (pairsS s = none → ok = false ∧ l = [] ∧ lang = ⟨#[]⟩) → SlR H' w l → Q (.tuple #[.string lang, w, .bool ok]) H') (hw : WfH H) : FWp Tryz.prog prims 17 [.string s] H Q := by
  have hE : elemT Tryz.prog 38 = some 46 := by kernel_rfl
  have hb2 : bytesT Tryz.prog 46 ≤ 48 := by rw [show bytesT Tryz.prog 46 = 40 by kernel_rfl]; decide
  have hb3 : 0 < bytesT Tryz.prog 46 := by rw [show bytesT Tryz.prog 46 = 40 by kernel_rfl]; decide
  refine FWp.enter (rfl) Tryz.func17 rfl (e := [.string s, undef, undef, undef, undef, undef, undef, undef, undef, undef, undef, undef, undef, undef, undef, undef, undef, undef, undef, undef, undef, undef, undef, undef, undef, undef, undef, undef, undef, undef, undef, undef, undef, undef, undef, undef, undef, undef, undef, undef, undef, undef, undef, undef, undef, undef, undef, undef, undef, undef, undef, undef, undef, undef, undef, undef, undef, undef, undef, undef, undef, undef, undef, undef, undef, undef, undef, undef, undef, undef, undef, undef, undef, undef, undef, undef, undef, undef, undef, undef, undef]) rfl ?_
  refine CWp.seq ?_
  refine CWp.region ?_
  refine OWp.assign rfl rfl ?_
  refine OWp.assign rfl rfl ?_
  refine OWp.assign rfl rfl ?_
  refine OWp.nil ?_
  refine CWp.seq ?_
  refine CWp.region ?_
  refine OWp.assign rfl rfl ?_
  refine OWp.nil ?_
  refine CWp.seq ?_
  refine CWp.region ?_
  refine OWp.assign rfl rfl ?_
  refine OWp.nil ?_
  refine CWp.seq ?_
  refine CWp.region ?_
  refine OWp.assign rfl rfl ?_
  refine OWp.assign rfl rfl ?_
  refine OWp.nil ?_
  refine CWp.block ?_
  refine CWp.loop (fun k e H' => ∃ (lang : ByteArray) (v : Value) (l : List PR) (i : Nat) (fst : Bool) (g : Nat → Value), e = [.string s, g 1, g 2, g 3, g 4, .string lang, v, .int .i64 (i : Nat), .bool fst, g 9, g 10, g 11, g 12, g 13, g 14, g 15, g 16, g 17, g 18, g 19, g 20, g 21, g 22, g 23, g 24, g 25, g 26, g 27, g 28, g 29, g 30, g 31, g 32, g 33, g 34, g 35, g 36, g 37, g 38, g 39, g 40, g 41, g 42, g 43, g 44, g 45, g 46, g 47, g 48, g 49, g 50, g 51, g 52, g 53, g 54, g 55, g 56, g 57, g 58, g 59, g 60, g 61, g 62, g 63, g 64, g 65, g 66, g 67, g 68, g 69, g 70, g 71, g 72, g 73, g 74, g 75, g 76, g 77, g 78, g 79, g 80] ∧ k = s.size - i ∧ WfH H' ∧ Keeps H H' ∧ GrowK 3 H.next H' v 46 l.length (rowPR l) ∧ RefSt s lang l i fst) ?_ ?_
  · exact ⟨_, ⟨#[]⟩, _, [], 0, true, ex_env rfl ⟨rfl, hw, Keeps.refl hw, GrowK.nil, ⟨by omega, Nat.le_refl _, fun _ => ⟨rfl, rfl, rfl⟩, fun e => by cases e⟩⟩⟩
  · rintro k e H' ⟨lang, v, l, i, fst, g, rfl, rfl, hw', hk', hgr, hst⟩
    have hst1 := hst.1
    have hst2 := hst.2.1
    refine CWp.seq ?_
    refine CWp.block ?_
    refine CWp.cut (fun e H' => ∃ (i2 : Nat) (g : Nat → Value), e = [.string s, g 1, g 2, g 3, g 4, .string lang, v, .int .i64 (i2 : Nat), .bool fst, g 9, g 10, g 11, g 12, g 13, g 14, g 15, g 16, g 17, g 18, g 19, g 20, g 21, g 22, g 23, g 24, g 25, g 26, g 27, g 28, g 29, g 30, g 31, g 32, g 33, g 34, g 35, g 36, g 37, g 38, g 39, g 40, g 41, g 42, g 43, g 44, g 45, g 46, g 47, g 48, g 49, g 50, g 51, g 52, g 53, g 54, g 55, g 56, g 57, g 58, g 59, g 60, g 61, g 62, g 63, g 64, g 65, g 66, g 67, g 68, g 69, g 70, g 71, g 72, g 73, g 74, g 75, g 76, g 77, g 78, g 79, g 80] ∧ WfH H' ∧ Keeps H H' ∧ GrowK 3 H.next H' v 46 l.length (rowPR l) ∧ i ≤ i2 ∧ i2 ≤ s.size ∧ trimC (s.extract i s.size) WS = s.extract i2 s.size ∧ (i2 < s.size → ¬ gapB (byteAt s (i2 : Nat)))) ?_ ?_
    · skip
      refine CWp.block ?_
      refine CWp.loop (fun k e H' => ∃ (i2 : Nat) (g : Nat → Value), e = [.string s, g 1, g 2, g 3, g 4, .string lang, v, .int .i64 (i2 : Nat), .bool fst, g 9, g 10, g 11, g 12, g 13, g 14, g 15, g 16, g 17, g 18, g 19, g 20, g 21, g 22, g 23, g 24, g 25, g 26, g 27, g 28, g 29, g 30, g 31, g 32, g 33, g 34, g 35, g 36, g 37, g 38, g 39, g 40, g 41, g 42, g 43, g 44, g 45, g 46, g 47, g 48, g 49, g 50, g 51, g 52, g 53, g 54, g 55, g 56, g 57, g 58, g 59, g 60, g 61, g 62, g 63, g 64, g 65, g 66, g 67, g 68, g 69, g 70, g 71, g 72, g 73, g 74, g 75, g 76, g 77, g 78, g 79, g 80] ∧ k = s.size - i2 ∧ WfH H' ∧ Keeps H H' ∧ GrowK 3 H.next H' v 46 l.length (rowPR l) ∧ i ≤ i2 ∧ i2 ≤ s.size ∧ ∀ j : Nat, i ≤ j → j < i2 → gapB (byteAt s (j : Nat))) ?_ ?_
      · exact ⟨_, i, ex_env rfl ⟨rfl, hw', hk', hgr, by omega, by omega, fun j a b => by omega⟩⟩
      · rintro k e H' ⟨i2, g, rfl, rfl, hw', hk', hgr, hi1, hi2, hjg⟩
        refine CWp.seq ?_
        refine CWp.seq ?_
        refine CWp.region ?_
        refine OWp.move rfl rfl ?_
        refine OWp.move rfl rfl ?_
        refine OWp.lenS rfl rfl rfl rfl rfl Tryz.underlying9 rfl ?_
        refine OWp.binI rfl rfl rfl rfl rfl ?_
        refine OWp.move rfl rfl ?_
        first | refine OWp.byT rfl (fun hg2 => ?_) (fun hg2 => ?_) | refine OWp.byBT rfl (fun hg2 => ?_) (fun hg2 => ?_)
        · skip
          first | rw [decide_eq_true hg2] | rw [decide_eq_false hg2] | rw [hg2] | skip
          try simp only [Decidable.not_not] at hg2
          refine OWp.move rfl rfl ?_
          refine OWp.move rfl rfl ?_
          refine OWp.indexS rfl rfl Tryz.underlying9 rfl rfl (by omega) (by omega) ?_
          refine OWp.call rfl rfl rfl rfl ?_
          refine gap5_spec _ _ _ (fun b hb => ?_)
          refine OWp.norm ?_
          refine OWp.pickT rfl rfl rfl ?_
          refine OWp.nil ?_
          first | refine CWp.condP rfl (fun h3 => ?_) (fun h3 => ?_) | refine CWp.cond rfl (fun h3 => ?_) (fun h3 => ?_)
          · skip
            first | rw [decide_eq_true h3] | rw [decide_eq_false h3] | rw [h3] | skip
            refine CWp.skip ?_
            refine CWp.block ?_
            refine CWp.region ?_
            refine OWp.move rfl rfl ?_
            refine OWp.addI rfl rfl rfl rfl (by omega) ?_
            refine OWp.assign rfl rfl ?_
            refine OWp.nil ?_
            exact ⟨_, by omega, i2 + 1, ex_env rfl ⟨rfl, hw', hk', hgr, by omega, by omega, fun j a b => by by_cases e : j = i2; exact e ▸ hb.1 (by assumption); exact hjg j a (by omega)⟩⟩
          · skip
            first | rw [decide_eq_true h3] | rw [decide_eq_false h3] | rw [h3] | skip
            refine CWp.exit ?_
            exact ⟨i2, ex_env rfl ⟨hw', hk', hgr, hi1, hi2, trim_to hi1 hi2 hjg (fun _ hg => by have := hb.2 hg; simp_all), fun _ hg => by have := hb.2 hg; simp_all⟩⟩
        · skip
          first | rw [decide_eq_true hg2] | rw [decide_eq_false hg2] | rw [hg2] | skip
          try simp only [Decidable.not_not] at hg2
          refine OWp.leave rfl ?_
          refine OWp.leave rfl ?_
          refine OWp.leave rfl ?_
          refine OWp.leave rfl ?_
          refine OWp.pickF rfl rfl rfl ?_
          refine OWp.nil ?_
          refine CWp.condF rfl ?_
          refine CWp.exit ?_
          exact ⟨i2, ex_env rfl ⟨hw', hk', hgr, hi1, hi2, trim_to hi1 hi2 hjg (fun hh => by omega), fun hh => by omega⟩⟩
    · rintro e H' ⟨i2, g, rfl, hw', hk', hgr, hi1, hi2, htr, hng⟩
      refine CWp.seq ?_
      refine CWp.seq ?_
      refine CWp.region ?_
      refine OWp.move rfl rfl ?_
      refine OWp.move rfl rfl ?_
      refine OWp.lenS rfl rfl rfl rfl rfl Tryz.underlying9 rfl ?_
      refine OWp.binI rfl rfl rfl rfl rfl ?_
      refine OWp.nil ?_
      first | refine CWp.condP rfl (fun h2 => ?_) (fun h2 => ?_) | refine CWp.cond rfl (fun h2 => ?_) (fun h2 => ?_)
      · skip
        obtain rfl : i2 = s.size := by omega
        obtain ⟨p, rfl, hrow, _⟩ := hgr.row
        first | rw [decide_eq_true h2] | rw [decide_eq_false h2] | rw [h2] | skip
        refine CWp.seq ?_
        refine CWp.region ?_
        refine OWp.move rfl rfl ?_
        refine OWp.move rfl rfl ?_
        refine OWp.assign rfl rfl ?_
        refine OWp.assign rfl rfl ?_
        refine OWp.assign rfl rfl ?_
        refine OWp.nil ?_
        refine CWp.ret ?_
        refine RetQ.three (by first | exact .inl rfl | exact .inr rfl) rfl rfl rfl rfl rfl rfl rfl ?_
        exact h _ lang _ l true hk' (fun L l9 e => by rw [ref_end hst htr] at e; cases e; exact ⟨rfl, rfl, rfl⟩) (fun e => by rw [ref_end hst htr] at e; cases e) ⟨p, rfl, hrow⟩
      · skip
        first | rw [decide_eq_true h2] | rw [decide_eq_false h2] | rw [h2] | skip
        refine CWp.skip ?_
        refine CWp.cut (fun e H' => ∃ (g : Nat → Value), e = [.string s, g 1, g 2, g 3, g 4, .string lang, v, .int .i64 (i2 : Nat), .bool fst, g 9, g 10, g 11, g 12, g 13, g 14, g 15, g 16, g 17, g 18, g 19, g 20, g 21, g 22, g 23, g 24, g 25, g 26, g 27, g 28, g 29, g 30, g 31, g 32, g 33, g 34, g 35, g 36, g 37, g 38, g 39, g 40, g 41, g 42, g 43, g 44, g 45, g 46, g 47, g 48, g 49, g 50, g 51, g 52, g 53, g 54, g 55, g 56, g 57, g 58, g 59, g 60, g 61, g 62, g 63, g 64, g 65, g 66, g 67, g 68, g 69, g 70, g 71, g 72, g 73, g 74, g 75, g 76, g 77, g 78, g 79, g 80] ∧ WfH H' ∧ Keeps H H' ∧ GrowK 3 H.next H' v 46 l.length (rowPR l) ∧ pairsS s = (pairsT l (s.extract i2 s.size)).map fun x => (lang, x)) ?_ ?_
        · skip
          refine CWp.seq ?_
          refine CWp.region ?_
          refine OWp.move rfl rfl ?_
          refine OWp.move rfl rfl ?_
          refine OWp.call rfl rfl rfl rfl ?_
          refine wordR_spec s hs i2 hi2 _ _ ?_
          obtain ⟨w, hw9⟩ : ∃ w, w = wordN (s.extract i2 s.size) := ⟨_, rfl⟩
          rw [← hw9]
          have hz := ext_size s i2
          have hwl := wordN_le (s.extract i2 s.size)
          have hwz : (s.extract i2 (i2 + w)).size = w := by simp only [ByteArray.size_extract]; omega
          have hwx : (s.extract i2 s.size).extract 0 (wordN (s.extract i2 s.size)) = s.extract i2 (i2 + w) := by rw [← hw9, ext_ext s i2 0 w (by omega)]; rfl
          have hwp : 0 < wordN (s.extract i2 s.size) := Nat.pos_of_ne_zero fun e => by have h9 := (wordN_end (s.extract i2 s.size)).2.2 (by omega); rw [e, byteAt_ext] at h9; exact hng (by omega) h9
          refine OWp.norm ?_
          refine OWp.assign rfl rfl ?_
          refine OWp.nil ?_
          refine CWp.seq ?_
          refine CWp.region ?_
          refine OWp.move rfl rfl ?_
          refine OWp.move rfl rfl ?_
          first | refine OWp.byT rfl (fun hg3 => ?_) (fun hg3 => ?_) | refine OWp.byBT rfl (fun hg3 => ?_) (fun hg3 => ?_)
          · skip
            first | rw [decide_eq_true hg3] | rw [decide_eq_false hg3] | rw [hg3] | skip
            try simp only [Decidable.not_not] at hg3
            refine OWp.move rfl rfl ?_
            refine OWp.call rfl rfl rfl rfl ?_
            refine has_spec _ _ (by first | omega | (simp only [ByteArray.size_extract]; omega)) _ _ (fun b2 hb2 => ?_)
            refine OWp.norm ?_
            first | refine OWp.notD rfl rfl rfl ?_ | refine OWp.notB rfl rfl rfl ?_
            refine OWp.pickT rfl rfl rfl ?_
            refine OWp.move rfl rfl ?_
            first | refine OWp.byT rfl (fun hg4 => ?_) (fun hg4 => ?_) | refine OWp.byBT rfl (fun hg4 => ?_) (fun hg4 => ?_)
            · skip
              first | rw [decide_eq_true hg4] | rw [decide_eq_false hg4] | rw [hg4] | skip
              try simp only [Decidable.not_not] at hg4
              refine OWp.move rfl rfl ?_
              refine OWp.binS rfl rfl rfl rfl rfl ?_
              refine OWp.pickT rfl rfl rfl ?_
              refine OWp.move rfl rfl ?_
              first | refine OWp.byT rfl (fun hg5 => ?_) (fun hg5 => ?_) | refine OWp.byBT rfl (fun hg5 => ?_) (fun hg5 => ?_)
              · skip
                first | rw [decide_eq_true hg5] | rw [decide_eq_false hg5] | rw [hg5] | skip
                try simp only [Decidable.not_not] at hg5
                refine OWp.move rfl rfl ?_
                refine OWp.binS rfl rfl rfl rfl rfl ?_
                refine OWp.pickT rfl rfl rfl ?_
                refine OWp.nil ?_
                first | refine CWp.condP rfl (fun h6 => ?_) (fun h6 => ?_) | refine CWp.cond rfl (fun h6 => ?_) (fun h6 => ?_)
                · skip
                  first | rw [decide_eq_true h6] | rw [decide_eq_false h6] | rw [h6] | skip
                  refine CWp.seq ?_
                  refine CWp.region ?_
                  refine OWp.move rfl rfl ?_
                  refine OWp.assign rfl rfl ?_
                  refine OWp.nil ?_
                  refine CWp.seq ?_
                  refine CWp.region ?_
                  refine OWp.move rfl rfl ?_
                  refine OWp.move rfl rfl ?_
                  refine OWp.lenS rfl rfl rfl rfl rfl Tryz.underlying9 rfl ?_
                  rw [hwz]
                  refine OWp.addI rfl rfl rfl rfl (by omega) ?_
                  refine OWp.assign rfl rfl ?_
                  refine OWp.nil ?_
                  refine CWp.exit ?_
                  refine CWp.region ?_
                  refine OWp.assign rfl rfl ?_
                  refine OWp.nil ?_
                  exact ⟨_, by omega, s.extract i2 (i2 + w), v, l, i2 + w, false, ex_env rfl ⟨rfl, hw', hk', hgr, by rw [hw9]; exact ref_lang (hg3 ▸ hst) htr hwp ((has_eq hw9 hi2 hb2).1 (by simpa using hg4)) (fun ha => by rw [hwx] at ha; rcases ha with ha | ha; exact hg5 ha; exact h6 ha) hi2⟩⟩
                · skip
                  first | rw [decide_eq_true h6] | rw [decide_eq_false h6] | rw [h6] | skip
                  refine CWp.skip ?_
                  exact ex_env rfl ⟨hw', hk', hgr, ref_pair hst htr (fun _ hh => hh.2 (by rw [hwx]; exact .inr (by simpa using h6)))⟩
              · skip
                first | rw [decide_eq_true hg5] | rw [decide_eq_false hg5] | rw [hg5] | skip
                try simp only [Decidable.not_not] at hg5
                refine OWp.leave rfl ?_
                refine OWp.leave rfl ?_
                refine OWp.pickF rfl rfl rfl ?_
                refine OWp.nil ?_
                refine CWp.condF rfl ?_
                refine CWp.skip ?_
                exact ex_env rfl ⟨hw', hk', hgr, ref_pair hst htr (fun _ hh => hh.2 (by rw [hwx]; exact .inl (by simpa using hg5)))⟩
            · skip
              first | rw [decide_eq_true hg4] | rw [decide_eq_false hg4] | rw [hg4] | skip
              try simp only [Decidable.not_not] at hg4
              refine OWp.leave rfl ?_
              refine OWp.leave rfl ?_
              refine OWp.pickF rfl rfl rfl ?_
              refine OWp.move rfl rfl ?_
              refine OWp.leave rfl ?_
              refine OWp.leave rfl ?_
              refine OWp.pickF rfl rfl rfl ?_
              refine OWp.nil ?_
              refine CWp.condF rfl ?_
              refine CWp.skip ?_
              exact ex_env rfl ⟨hw', hk', hgr, ref_pair hst htr (fun _ hh => by have := (has_eq hw9 hi2 hb2).2 hh.1; simp_all)⟩
          · skip
            first | rw [decide_eq_true hg3] | rw [decide_eq_false hg3] | rw [hg3] | skip
            try simp only [Decidable.not_not] at hg3
            refine OWp.leave rfl ?_
            refine OWp.leave rfl ?_
            refine OWp.leave rfl ?_
            refine OWp.pickF rfl rfl rfl ?_
            refine OWp.move rfl rfl ?_
            refine OWp.leave rfl ?_
            refine OWp.leave rfl ?_
            refine OWp.pickF rfl rfl rfl ?_
            refine OWp.move rfl rfl ?_
            refine OWp.leave rfl ?_
            refine OWp.leave rfl ?_
            refine OWp.pickF rfl rfl rfl ?_
            refine OWp.nil ?_
            refine CWp.condF rfl ?_
            refine CWp.skip ?_
            exact ex_env rfl ⟨hw', hk', hgr, ref_pair hst htr (fun e => by simp_all)⟩
        · rintro e H' ⟨g, rfl, hw', hk', hgr, hps⟩
          refine CWp.seq ?_
          refine CWp.region ?_
          refine OWp.move rfl rfl ?_
          refine OWp.move rfl rfl ?_
          refine OWp.call rfl rfl rfl rfl ?_
          refine pairR_spec s hs i2 (by omega) _ _ ?_ hw'
          intro Hp m to b hk1 hp1 hp2
          have hw1 := hk1.wf
          replace hgr := hgr.keep hw' hk1
          replace hk' := hk'.trans hk1 hw
          have hh := Has.start hw1
          have hne : ¬ (s.extract i2 s.size).size = 0 := by rw [ext_size]; omega
          refine OWp.norm ?_
          refine OWp.move rfl rfl ?_
          refine OWp.extract rfl rfl rfl rfl ?_
          refine OWp.extract rfl rfl rfl rfl ?_
          refine OWp.extract rfl rfl rfl rfl ?_
          refine OWp.allocPR hh rfl rfl (fun H10 b10 hh => ?_)
          refine OWp.norm ?_
          first | refine OWp.storePR (k := 0) hh rfl rfl rfl rfl rfl (fun H4 hh => ?_) | refine OWp.storePR (k := 1) hh rfl rfl rfl rfl rfl (fun H4 hh => ?_) | refine OWp.storePR (k := 2) hh rfl rfl rfl rfl rfl (fun H4 hh => ?_)
          simp only [List.set_cons_zero, List.set_cons_succ] at hh
          refine OWp.norm ?_
          refine OWp.assign rfl rfl ?_
          refine OWp.assign rfl rfl ?_
          refine OWp.nil ?_
          refine CWp.seq ?_
          refine CWp.seq ?_
          refine CWp.region ?_
          refine OWp.move rfl rfl ?_
          first | refine OWp.notD rfl rfl rfl ?_ | refine OWp.notB rfl rfl rfl ?_
          refine OWp.nil ?_
          first | refine CWp.condP rfl (fun h3 => ?_) (fun h3 => ?_) | refine CWp.cond rfl (fun h3 => ?_) (fun h3 => ?_)
          · skip
            first | rw [decide_eq_true h3] | rw [decide_eq_false h3] | rw [h3] | skip
            refine CWp.seq ?_
            refine CWp.region ?_
            refine OWp.assign rfl rfl ?_
            refine OWp.assign rfl rfl ?_
            refine OWp.assign rfl rfl ?_
            refine OWp.nil ?_
            refine CWp.ret ?_
            refine RetQ.three (by first | exact .inl rfl | exact .inr rfl) rfl rfl rfl rfl rfl rfl rfl ?_
            have hn0 : pairS (s.extract i2 s.size) = none := by
              cases hq : pairS (s.extract i2 s.size) with
              | none => rfl
              | some y => obtain ⟨y1, y2⟩ := y; have := (hp1 _ _ hq).1; simp_all
            exact h _ ⟨#[]⟩ (.slice none 0 0) [] false (hk'.trans hh.keep hw) (fun L l9 e => by rw [hps, pairsT_none hne hn0] at e; cases e) (fun _ => ⟨rfl, rfl, rfl⟩) ⟨none, rfl, rfl⟩
          · skip
            obtain ⟨p0, n0, hp0⟩ : ∃ p0 n0, pairS (s.extract i2 s.size) = some (p0, n0) := by
              cases hq : pairS (s.extract i2 s.size) with
              | none => have := hp2 hq; simp_all
              | some y => exact ⟨y.1, y.2, rfl⟩
            obtain ⟨_, rfl, hto⟩ := hp1 _ _ hp0
            have hpl := pairS_le hp0
            have hz := ext_size s i2
            have hgr2 := hgr
            obtain ⟨p, rfl, hrow, hpa⟩ := hgr2.row
            first | rw [decide_eq_true h3] | rw [decide_eq_false h3] | rw [h3] | skip
            refine CWp.skip ?_
            refine CWp.seq ?_
            refine CWp.seq ?_
            refine CWp.region ?_
            refine OWp.move rfl rfl ?_
            refine OWp.lenSl rfl rfl rfl rfl rfl Tryz.underlying38 rfl ?_
            refine OWp.move rfl rfl ?_
            refine OWp.nil ?_
            refine CWp.block ?_
            refine CWp.loop (fun k e H' => ∃ (j : Nat) (g : Nat → Value), e = [.string s, g 1, g 2, g 3, g 4, .string lang, .slice p l.length l.length, g 7, .bool fst, g 9, .pointer (some ⟨b10, 0, none⟩), .int .i64 (to : Nat), g 12, g 13, g 14, g 15, g 16, g 17, g 18, g 19, g 20, g 21, g 22, g 23, g 24, g 25, g 26, g 27, g 28, g 29, g 30, g 31, g 32, g 33, g 34, g 35, g 36, g 37, g 38, g 39, g 40, g 41, g 42, g 43, g 44, g 45, g 46, g 47, g 48, g 49, g 50, g 51, g 52, g 53, g 54, g 55, g 56, g 57, g 58, g 59, g 60, g 61, g 62, g 63, .slice p l.length l.length, .int .i64 (l.length : Nat), .int .i64 (j : Nat), g 67, g 68, g 69, g 70, g 71, g 72, g 73, g 74, g 75, g 76, g 77, g 78, g 79, g 80] ∧ k = l.length - j ∧ Has Hp H' [(b10, m.O)] ∧ j ≤ l.length ∧ ∀ (i9 : Nat) (q : PR), i9 < j → l[i9]? = some q → ¬ q.key = m.key) ?_ ?_
            · exact ⟨_, 0, ex_env rfl ⟨rfl, hh, by omega, fun i9 q hi => absurd hi (Nat.not_lt_zero _)⟩⟩
            · rintro k e H' ⟨j, g, rfl, rfl, hh, hj, hall⟩
              refine CWp.seq ?_
              refine CWp.region ?_
              refine OWp.binI rfl rfl rfl rfl rfl ?_
              refine OWp.nil ?_
              refine CWp.seq ?_
              first | refine CWp.condP rfl (fun h5 => ?_) (fun h5 => ?_) | refine CWp.cond rfl (fun h5 => ?_) (fun h5 => ?_)
              · skip
                obtain ⟨q, hqm⟩ : ∃ q, l[j]? = some q := ⟨_, List.getElem?_eq_getElem (show j < l.length by omega)⟩
                obtain ⟨a, rfl, _⟩ := hpa (by omega)
                first | rw [decide_eq_true h5] | rw [decide_eq_false h5] | rw [h5] | skip
                refine CWp.skip ?_
                refine CWp.seq ?_
                refine CWp.block ?_
                refine CWp.seq ?_
                refine CWp.region ?_
                refine OWp.indexAddrK rfl rfl Tryz.underlying38 szPR (by decide) rfl rfl (by omega) (by omega) ?_
                refine OWp.loadRowS (f := fun m : PR => m.cells.toList) (ms := l) (m := q) (v := q.v) (fun _ => rfl) rfl rfl Tryz.underlying46 rfl (hrow.sees (hh.keep.sees hw1)) szPR hqm (by simp [PR.v]) ?_
                refine OWp.allocPR hh rfl rfl (fun H14 b14 hh => ?_)
                refine OWp.norm ?_
                first | refine OWp.storePR (k := 0) hh rfl rfl rfl rfl rfl (fun H4 hh => ?_) | refine OWp.storePR (k := 1) hh rfl rfl rfl rfl rfl (fun H4 hh => ?_) | refine OWp.storePR (k := 2) hh rfl rfl rfl rfl rfl (fun H4 hh => ?_)
                simp only [List.set_cons_zero, List.set_cons_succ] at hh
                refine OWp.norm ?_
                refine OWp.nil ?_
                refine CWp.seq ?_
                refine CWp.region ?_
                refine OWp.fieldPR 0 (by decide) rfl rfl rfl ?_
                first | refine OWp.loadPR_0 (k := 0) hh rfl rfl rfl rfl ?_ | refine OWp.loadPR_0 (k := 1) hh rfl rfl rfl rfl ?_ | refine OWp.loadPR_0 (k := 2) hh rfl rfl rfl rfl ?_
                refine OWp.fieldPR 0 (by decide) rfl rfl rfl ?_
                first | refine OWp.loadPR_0 (k := 0) hh rfl rfl rfl rfl ?_ | refine OWp.loadPR_0 (k := 1) hh rfl rfl rfl rfl ?_ | refine OWp.loadPR_0 (k := 2) hh rfl rfl rfl rfl ?_
                refine OWp.binS rfl rfl rfl rfl rfl ?_
                refine OWp.nil ?_
                first | refine CWp.condP rfl (fun h6 => ?_) (fun h6 => ?_) | refine CWp.cond rfl (fun h6 => ?_) (fun h6 => ?_)
                · skip
                  first | rw [decide_eq_true h6] | rw [decide_eq_false h6] | rw [h6] | skip
                  refine CWp.seq ?_
                  refine CWp.region ?_
                  refine OWp.assign rfl rfl ?_
                  refine OWp.assign rfl rfl ?_
                  refine OWp.assign rfl rfl ?_
                  refine OWp.nil ?_
                  refine CWp.ret ?_
                  refine RetQ.three (by first | exact .inl rfl | exact .inr rfl) rfl rfl rfl rfl rfl rfl rfl ?_
                  exact h _ ⟨#[]⟩ (.slice none 0 0) [] false (hk'.trans hh.keep hw) (fun L l9 e => by rw [hps, pairsT_dup hne hp0 ⟨q, List.mem_of_getElem? hqm, by assumption⟩] at e; cases e) (fun _ => ⟨rfl, rfl, rfl⟩) ⟨none, rfl, rfl⟩
                · skip
                  first | rw [decide_eq_true h6] | rw [decide_eq_false h6] | rw [h6] | skip
                  refine CWp.skip ?_
                  refine CWp.region ?_
                  refine OWp.addI rfl rfl rfl rfl (by omega) ?_
                  refine OWp.move rfl rfl ?_
                  refine OWp.nil ?_
                  exact ⟨_, by omega, j + 1, ex_env rfl ⟨rfl, hh.drop, by omega, fun i9 q0 hi hq0 => by by_cases e : i9 = j; (subst e; rw [hqm] at hq0; cases hq0; assumption); exact hall i9 q0 (by omega) hq0⟩⟩
              · skip
                first | rw [decide_eq_true h5] | rw [decide_eq_false h5] | rw [h5] | skip
                refine CWp.exit ?_
                refine CWp.seq ?_
                refine CWp.region ?_
                refine OWp.move rfl rfl ?_
                first | refine OWp.loadPR (k := 0) hh rfl rfl rfl rfl ?_ | refine OWp.loadPR (k := 1) hh rfl rfl rfl rfl ?_ | refine OWp.loadPR (k := 2) hh rfl rfl rfl rfl ?_
                refine OWp.bslPR m hh.wf rfl rfl rfl (fun H2 c hw2 hk2 hc2 ho2 => ?_)
                refine OWp.norm ?_
                refine OWp.appendK (B := H.next) (k := 3) (l2 := m.cells.toList) hw2 (by have := hk'.next; have := hh.keep.next; have := hk2.next; omega) ((hgr.keep hw1 hh.keep).keep hh.wf hk2) ho2.row rfl rfl rfl rfl rfl rfl hE Tryz.underlying38 zePR rfl szPR (by decide) hb3 rfl rfl (Nat.le_trans (Nat.mul_le_mul_left _ hb2) (by omega)) (fun H3 v3 hg3 hgr3 => ?_)
                refine OWp.norm ?_
                refine OWp.assign rfl rfl ?_
                refine OWp.nil ?_
                refine CWp.region ?_
                refine OWp.move rfl rfl ?_
                refine OWp.assign rfl rfl ?_
                refine OWp.nil ?_
                refine CWp.region ?_
                refine OWp.assign rfl rfl ?_
                refine OWp.nil ?_
                exact ⟨_, by omega, lang, v3, l ++ [m], to, false, ex_env rfl ⟨rfl, hg3.wf, hg3.keeps H hw ((hk'.trans hh.keep hw).trans hk2 hw) (Nat.le_refl _), (by rw [rowPR_snoc, List.length_append]; exact hgr3), ⟨by omega, (by rw [List.length_append]; simp only [List.length_cons, List.length_nil]; omega), fun e => (by cases e), fun _ => by rw [hps, pairsT_step hne hp0 (fun ⟨q, hq1, hq2⟩ => by obtain ⟨i9, hi9⟩ := List.getElem?_of_mem hq1; exact hall i9 q (by have := (List.getElem?_eq_some_iff.1 hi9).1; omega) hi9 hq2), ext_ext_end, ← hto]⟩⟩⟩

end Go.Proofs.YtnlkgnoogcakjaaGreatDoor.Ev
