import Derived.Test.YtpfhkjbnofgikaaDoorEvL1b
namespace Go.Proofs.YtpfhkjbnofgikaaDoor.Ev
open Go
set_option linter.unusedVariables false
set_option linter.unusedSimpArgs false
theorem cnt_T (t : ByteArray) (c : Int) (j : Nat) (h : byteAt t (j : Nat) = c) : cntTo t c 0 (j + 1) = cntTo t c 0 j + 1 := by
  show cntTo t c 0 j + (if byteAt t (0 + j : Nat) = c then 1 else 0) = _
  rw [Nat.zero_add, if_pos h]
theorem cnt_F (t : ByteArray) (c : Int) (j : Nat) (h : ¬ byteAt t (j : Nat) = c) : cntTo t c 0 (j + 1) = cntTo t c 0 j := by
  show cntTo t c 0 j + (if byteAt t (0 + j : Nat) = c then 1 else 0) = _
  rw [Nat.zero_add, if_neg h]; rfl
theorem cnt_T2 (s : ByteArray) (c : Int) (i q : Nat) (hq : i ≤ q) (h : byteAt s (q : Nat) = c) : cntTo s c i (q + 1 - i) = cntTo s c i (q - i) + 1 := by
  rw [show q + 1 - i = (q - i) + 1 by omega]
  show cntTo s c i (q - i) + (if byteAt s (i + (q - i) : Nat) = c then 1 else 0) = _
  rw [show i + (q - i) = q by omega, if_pos h]
theorem cnt_F2 (s : ByteArray) (c : Int) (i q : Nat) (hq : i ≤ q) (h : ¬ byteAt s (q : Nat) = c) : cntTo s c i (q + 1 - i) = cntTo s c i (q - i) := by
  rw [show q + 1 - i = (q - i) + 1 by omega]
  show cntTo s c i (q - i) + (if byteAt s (i + (q - i) : Nat) = c then 1 else 0) = _
  rw [show i + (q - i) = q by omega, if_neg h]; rfl

theorem breakC_spec (s : ByteArray) (hs : s.size ≤ 9000000) (H : AH) (Q : Value → AH → Prop) (h : ∀ H' (i : Nat) (b : Bool), Keeps H H' → GapEnd s i → (b = true ↔ BreakR s i) → Q (.bool b) H') (hw : WfH H) : FWp Tryd.prog prims 12 [.string s] H Q := by
  have hs5 : szT Tryd.prog 5 = 1 := by kernel_rfl
  refine FWp.enter (rfl) Tryd.func12 rfl (e := [.string s, undef, undef, undef, undef, undef, undef, undef, undef, undef, undef, undef, undef, undef, undef, undef, undef, undef, undef, undef, undef, undef, undef, undef, undef, undef, undef, undef, undef, undef, undef, undef, undef, undef, undef, undef, undef, undef, undef, undef, undef, undef, undef, undef, undef, undef, undef, undef]) rfl ?_
  refine CWp.seq ?_
  refine CWp.region ?_
  refine OWp.assign rfl rfl ?_
  refine OWp.nil ?_
  refine CWp.seq ?_
  refine CWp.region ?_
  refine OWp.move rfl rfl ?_
  refine OWp.call rfl rfl rfl rfl ?_
  refine inside_spec s hs _ _ (fun i t b hi ht hb => ?_)
  have hi1 := hi.1
  have hz : t.size = s.size - i := by rw [ht, ByteArray.size_extract]; omega
  have hat0 : byteAt t 0 = byteAt s (i : Nat) := by have := app_at s t i ht 0; rwa [Nat.add_zero] at this
  refine OWp.norm ?_
  refine OWp.move rfl rfl ?_
  refine OWp.extract rfl rfl rfl rfl ?_
  refine OWp.extract rfl rfl rfl rfl ?_
  refine OWp.extract rfl rfl rfl rfl ?_
  refine OWp.assign rfl rfl ?_
  refine OWp.assign rfl rfl ?_
  refine OWp.assign rfl rfl ?_
  refine OWp.nil ?_
  refine CWp.seq ?_
  refine CWp.seq ?_
  refine CWp.region ?_
  refine OWp.move rfl rfl ?_
  first | refine OWp.notD rfl rfl rfl ?_ | refine OWp.notB rfl rfl rfl ?_
  refine OWp.move rfl rfl ?_
  first | refine OWp.byF rfl (fun hg0 => ?_) (fun hg0 => ?_) | refine OWp.byBF rfl (fun hg0 => ?_) (fun hg0 => ?_)
  · skip
    first | rw [decide_eq_true hg0] | rw [decide_eq_false hg0] | rw [hg0] | skip
    try simp only [Decidable.not_not] at hg0
    refine OWp.move rfl rfl ?_
    refine OWp.binS rfl rfl rfl rfl rfl ?_
    refine OWp.pickF rfl rfl rfl ?_
    refine OWp.move rfl rfl ?_
    first | refine OWp.byF rfl (fun hg1 => ?_) (fun hg1 => ?_) | refine OWp.byBF rfl (fun hg1 => ?_) (fun hg1 => ?_)
    · skip
      first | rw [decide_eq_true hg1] | rw [decide_eq_false hg1] | rw [hg1] | skip
      have hne : 0 < t.size := by
          rcases Nat.eq_zero_or_pos t.size with h0 | h0
          · exact absurd ((empty_size t).2 h0) hg1
          · exact h0
      refine OWp.move rfl rfl ?_
      refine OWp.indexS rfl rfl Tryd.underlying9 rfl rfl (by omega) (by omega) ?_
      refine OWp.call rfl rfl rfl rfl ?_
      refine br_spec _ (byteAt_r t 0) _ _ (fun r hr0 => ?_)
      refine OWp.norm ?_
      refine OWp.binI rfl rfl rfl rfl rfl ?_
      refine OWp.pickF rfl rfl rfl ?_
      refine OWp.nil ?_
      first | refine CWp.condP rfl (fun h2 => ?_) (fun h2 => ?_) | refine CWp.cond rfl (fun h2 => ?_) (fun h2 => ?_)
      · skip
        first | rw [decide_eq_true h2] | rw [decide_eq_false h2] | rw [h2] | skip
        refine CWp.seq ?_
        refine CWp.region ?_
        refine OWp.assign rfl rfl ?_
        refine OWp.nil ?_
        refine CWp.ret ?_
        refine RetQ.one (by first | exact .inl rfl | exact .inr rfl) rfl rfl ?_
        exact h _ i false (Keeps.refl hw) hi ⟨fun e => (by cases e), fun hr => (by have := hr0.2 (break_back s t i ht hr).2.1; omega)⟩
      · skip
        first | rw [decide_eq_true h2] | rw [decide_eq_false h2] | rw [h2] | skip
        refine CWp.skip ?_
        refine CWp.seq ?_
        refine CWp.region ?_
        refine OWp.assign rfl rfl ?_
        refine OWp.nil ?_
        refine CWp.seq ?_
        refine CWp.seq ?_
        refine CWp.region ?_
        refine OWp.move rfl rfl ?_
        refine OWp.convBytes hw rfl rfl Tryd.underlying9 Tryd.underlying22 Tryd.underlying5 hs5 rfl (fun H2 cc hw2 hk2 hc2 hrw => ?_)
        refine OWp.norm ?_
        refine OWp.lenSl rfl rfl rfl rfl rfl Tryd.underlying22 rfl ?_
        refine OWp.move rfl rfl ?_
        refine OWp.nil ?_
        refine CWp.block ?_
        refine CWp.loop (fun k e H' => ∃ (cc j : Nat) (c0 : Int) (g : Nat → Value), e = [.string s, g 1, g 2, .string t, g 4, g 5, .int .i64 c0, g 7, g 8, g 9, g 10, g 11, g 12, g 13, g 14, g 15, g 16, g 17, g 18, g 19, g 20, g 21, g 22, g 23, g 24, g 25, g 26, g 27, .slice (some ⟨cc, 0, none⟩) t.size t.size, .int .i64 (t.size : Nat), .int .i64 (j : Nat), g 31, g 32, g 33, g 34, g 35, g 36, g 37, g 38, g 39, g 40, g 41, g 42, g 43, g 44, g 45, g 46, g 47] ∧ k = t.size - j ∧ WfH H' ∧ Keeps H H' ∧ Row H' (some ⟨cc, 0, none⟩) (byteV t) ∧ c0 = (cntTo t (byteAt t 0) 0 j : Nat) ∧ j ≤ t.size ∧ ∀ a : Nat, a < j → byteAt t (a : Nat) = byteAt t 0 ∨ gapB (byteAt t (a : Nat))) ?_ ?_
        · exact ⟨_, cc, 0, 0, ex_env rfl ⟨rfl, hw2, hk2, hrw, rfl, by omega, fun a h => by omega⟩⟩
        · rintro k e H' ⟨cc, j, c0, g, rfl, rfl, hw', hk', hrow, hc0, hj, ha⟩
          have hcl := cntTo_le t (byteAt t 0) 0 j
          refine CWp.seq ?_
          refine CWp.region ?_
          refine OWp.binI rfl rfl rfl rfl rfl ?_
          refine OWp.nil ?_
          refine CWp.seq ?_
          first | refine CWp.condP rfl (fun h4 => ?_) (fun h4 => ?_) | refine CWp.cond rfl (fun h4 => ?_) (fun h4 => ?_)
          · skip
            first | rw [decide_eq_true h4] | rw [decide_eq_false h4] | rw [h4] | skip
            refine CWp.skip ?_
            refine CWp.seq ?_
            refine CWp.block ?_
            refine CWp.seq ?_
            refine CWp.region ?_
            refine OWp.indexAddrSl1 rfl rfl Tryd.underlying22 hs5 rfl rfl (by omega) (by omega) ?_
            refine OWp.loadRow rfl rfl Tryd.underlying5 rfl rfl hrow (byteV_get t j (by omega)) ?_
            refine OWp.assign rfl rfl ?_
            refine OWp.nil ?_
            refine CWp.block ?_
            refine CWp.seq ?_
            refine CWp.region ?_
            refine OWp.move rfl rfl ?_
            refine OWp.move rfl rfl ?_
            refine OWp.indexS rfl rfl Tryd.underlying9 rfl rfl (by omega) (by omega) ?_
            refine OWp.binI rfl rfl rfl rfl rfl ?_
            refine OWp.assign rfl rfl ?_
            refine OWp.nil ?_
            first | refine CWp.condP rfl (fun h5 => ?_) (fun h5 => ?_) | refine CWp.cond rfl (fun h5 => ?_) (fun h5 => ?_)
            · skip
              first | rw [decide_eq_true h5] | rw [decide_eq_false h5] | rw [h5] | skip
              refine CWp.region ?_
              refine OWp.move rfl rfl ?_
              refine OWp.addI rfl rfl rfl rfl (by omega) ?_
              refine OWp.assign rfl rfl ?_
              refine OWp.nil ?_
              refine CWp.region ?_
              refine OWp.addI rfl rfl rfl rfl (by omega) ?_
              refine OWp.move rfl rfl ?_
              refine OWp.nil ?_
              exact ⟨_, by omega, cc, j + 1, c0 + 1, ex_env rfl ⟨rfl, hw', hk', hrow, by rw [cnt_T t _ j (by assumption)]; omega, by omega, fun a h1 => by by_cases e : a = j; exact e ▸ (.inl (by assumption)); exact ha a (by omega)⟩⟩
            · skip
              first | rw [decide_eq_true h5] | rw [decide_eq_false h5] | rw [h5] | skip
              refine CWp.seq ?_
              refine CWp.region ?_
              refine OWp.move rfl rfl ?_
              refine OWp.call rfl rfl rfl rfl ?_
              refine ws_spec _ (byteAt_r t j) _ _ (fun r2 hr2 => ?_)
              refine OWp.norm ?_
              refine OWp.binI rfl rfl rfl rfl rfl ?_
              refine OWp.assign rfl rfl ?_
              refine OWp.nil ?_
              first | refine CWp.condP rfl (fun h6 => ?_) (fun h6 => ?_) | refine CWp.cond rfl (fun h6 => ?_) (fun h6 => ?_)
              · skip
                first | rw [decide_eq_true h6] | rw [decide_eq_false h6] | rw [h6] | skip
                refine CWp.seq ?_
                refine CWp.region ?_
                refine OWp.assign rfl rfl ?_
                refine OWp.nil ?_
                refine CWp.ret ?_
                refine RetQ.one (by first | exact .inl rfl | exact .inr rfl) rfl rfl ?_
                exact h _ i false hk' hi ⟨fun e => (by cases e), fun hr => (by rcases (break_back s t i ht hr).2.2.1 j (by omega) with k1 | k1; exact absurd k1 (by assumption); have := hr2.2 k1; omega)⟩
              · skip
                first | rw [decide_eq_true h6] | rw [decide_eq_false h6] | rw [h6] | skip
                refine CWp.skip ?_
                refine CWp.region ?_
                refine OWp.addI rfl rfl rfl rfl (by omega) ?_
                refine OWp.move rfl rfl ?_
                refine OWp.nil ?_
                exact ⟨_, by omega, cc, j + 1, c0, ex_env rfl ⟨rfl, hw', hk', hrow, by rw [cnt_F t _ j (by assumption)]; exact hc0, by omega, fun a h1 => by by_cases e : a = j; exact e ▸ (.inr (hr2.1 (by omega))); exact ha a (by omega)⟩⟩
          · skip
            first | rw [decide_eq_true h4] | rw [decide_eq_false h4] | rw [h4] | skip
            refine CWp.exit ?_
            refine CWp.seq ?_
            refine CWp.region ?_
            refine OWp.move rfl rfl ?_
            refine OWp.binI rfl rfl rfl rfl rfl ?_
            refine OWp.assign rfl rfl ?_
            refine OWp.nil ?_
            refine CWp.ret ?_
            refine RetQ.one (by first | exact .inl rfl | exact .inr rfl) rfl rfl ?_
            have ej : j = t.size := by omega
            exact h _ i _ hk' hi ⟨fun e => break_shift s t i ht hi1 (hb.1 (by simpa using hg0)) hne (hr0.1 (by omega)) (fun a h1 => ha a (by omega)) (by have := of_decide_eq_true e; rw [← ej]; show 3 ≤ cntTo t (byteAt t 0) 0 j; omega), fun hr => decide_eq_true (by have := (break_back s t i ht hr).2.2.2; rw [← ej] at this; have k2 : 3 ≤ cntTo t (byteAt t 0) 0 j := this; omega)⟩
    · skip
      first | rw [decide_eq_true hg1] | rw [decide_eq_false hg1] | rw [hg1] | skip
      try simp only [Decidable.not_not] at hg1
      refine OWp.leave rfl ?_
      refine OWp.leave rfl ?_
      refine OWp.leave rfl ?_
      refine OWp.leave rfl ?_
      refine OWp.pickT rfl rfl rfl ?_
      refine OWp.nil ?_
      refine CWp.condT rfl ?_
      refine CWp.seq ?_
      refine CWp.region ?_
      refine OWp.assign rfl rfl ?_
      refine OWp.nil ?_
      refine CWp.ret ?_
      refine RetQ.one (by first | exact .inl rfl | exact .inr rfl) rfl rfl ?_
      exact h _ i false (Keeps.refl hw) hi ⟨fun e => (by cases e), fun hr => (by have := hr.lt; have := (empty_size t).1 hg1; omega)⟩
  · skip
    first | rw [decide_eq_true hg0] | rw [decide_eq_false hg0] | rw [hg0] | skip
    try simp only [Decidable.not_not] at hg0
    refine OWp.leave rfl ?_
    refine OWp.leave rfl ?_
    refine OWp.pickT rfl rfl rfl ?_
    refine OWp.move rfl rfl ?_
    refine OWp.leave rfl ?_
    refine OWp.leave rfl ?_
    refine OWp.leave rfl ?_
    refine OWp.leave rfl ?_
    refine OWp.pickT rfl rfl rfl ?_
    refine OWp.nil ?_
    refine CWp.condT rfl ?_
    refine CWp.seq ?_
    refine CWp.region ?_
    refine OWp.assign rfl rfl ?_
    refine OWp.nil ?_
    refine CWp.ret ?_
    refine RetQ.one (by first | exact .inl rfl | exact .inr rfl) rfl rfl ?_
    exact h _ i false (Keeps.refl hw) hi ⟨fun e => (by cases e), fun hr => (by have := hb.2 hr.col; simp_all)⟩

theorem breakR_spec (s : ByteArray) (hs : s.size ≤ 9000000) (H : AH) (Q : Value → AH → Prop) (h : ∀ (i : Nat) (b : Bool), GapEnd s i → (b = true ↔ BreakR s i) → Q (.bool b) H) : FWp Tryd.prog prims 18 [.string s] H Q := by
  refine FWp.enter (rfl) Tryd.func18 rfl (e := [.string s, undef, undef, undef, undef, undef, undef, undef, undef, undef, undef, undef, undef, undef, undef, undef, undef, undef, undef, undef, undef, undef, undef, undef, undef, undef, undef, undef, undef, undef, undef, undef, undef, undef, undef, undef, undef, undef, undef, undef, undef, undef, undef, undef, undef, undef, undef, undef, undef, undef, undef, undef, undef, undef, undef, undef, undef, undef, undef, undef, undef, undef, undef, undef, undef, undef]) rfl ?_
  refine CWp.seq ?_
  refine CWp.region ?_
  refine OWp.assign rfl rfl ?_
  refine OWp.nil ?_
  refine CWp.seq ?_
  refine CWp.region ?_
  refine OWp.move rfl rfl ?_
  refine OWp.call rfl rfl rfl rfl ?_
  refine indent_spec s hs _ _ (fun i hi => ?_)
  have hi1 := hi.1
  have hcl := colAt_le s i
  refine OWp.norm ?_
  refine OWp.move rfl rfl ?_
  refine OWp.extract rfl rfl rfl rfl ?_
  refine OWp.extract rfl rfl rfl rfl ?_
  refine OWp.assign rfl rfl ?_
  refine OWp.assign rfl rfl ?_
  refine OWp.nil ?_
  refine CWp.cut (fun e H' => ∃ (g : Nat → Value), e = [.string s, g 1, g 2, g 3, .int .i64 (i : Nat), g 5, g 6, g 7, g 8, g 9, g 10, g 11, g 12, g 13, g 14, g 15, g 16, g 17, g 18, g 19, g 20, g 21, g 22, g 23, g 24, g 25, g 26, g 27, g 28, g 29, g 30, g 31, g 32, g 33, g 34, g 35, g 36, g 37, g 38, g 39, g 40, g 41, g 42, g 43, g 44, g 45, g 46, g 47, g 48, g 49, g 50, g 51, g 52, g 53, g 54, g 55, g 56, g 57, g 58, g 59, g 60, g 61, g 62, g 63, g 64, g 65] ∧ H = H' ∧ i < s.size ∧ colAt s i ≤ 3 ∧ (byteAt s (i : Nat) = 42 ∨ byteAt s (i : Nat) = 45 ∨ byteAt s (i : Nat) = 95)) ?_ ?_
  · skip
    refine CWp.seq ?_
    refine CWp.region ?_
    refine OWp.move rfl rfl ?_
    refine OWp.binI rfl rfl rfl rfl rfl ?_
    refine OWp.move rfl rfl ?_
    first | refine OWp.byF rfl (fun hg0 => ?_) (fun hg0 => ?_) | refine OWp.byBF rfl (fun hg0 => ?_) (fun hg0 => ?_)
    · skip
      first | rw [decide_eq_true hg0] | rw [decide_eq_false hg0] | rw [hg0] | skip
      try simp only [Decidable.not_not] at hg0
      refine OWp.move rfl rfl ?_
      refine OWp.move rfl rfl ?_
      refine OWp.lenS rfl rfl rfl rfl rfl Tryd.underlying9 rfl ?_
      refine OWp.binI rfl rfl rfl rfl rfl ?_
      refine OWp.pickF rfl rfl rfl ?_
      refine OWp.move rfl rfl ?_
      first | refine OWp.byF rfl (fun hg1 => ?_) (fun hg1 => ?_) | refine OWp.byBF rfl (fun hg1 => ?_) (fun hg1 => ?_)
      · skip
        first | rw [decide_eq_true hg1] | rw [decide_eq_false hg1] | rw [hg1] | skip
        try simp only [Decidable.not_not] at hg1
        refine OWp.move rfl rfl ?_
        refine OWp.move rfl rfl ?_
        refine OWp.indexS rfl rfl Tryd.underlying9 rfl rfl (by omega) (by omega) ?_
        refine OWp.binI rfl rfl rfl rfl rfl ?_
        refine OWp.move rfl rfl ?_
        first | refine OWp.byT rfl (fun hg2 => ?_) (fun hg2 => ?_) | refine OWp.byBT rfl (fun hg2 => ?_) (fun hg2 => ?_)
        · skip
          first | rw [decide_eq_true hg2] | rw [decide_eq_false hg2] | rw [hg2] | skip
          try simp only [Decidable.not_not] at hg2
          refine OWp.move rfl rfl ?_
          refine OWp.move rfl rfl ?_
          refine OWp.indexS rfl rfl Tryd.underlying9 rfl rfl (by omega) (by omega) ?_
          refine OWp.binI rfl rfl rfl rfl rfl ?_
          refine OWp.pickT rfl rfl rfl ?_
          refine OWp.move rfl rfl ?_
          first | refine OWp.byT rfl (fun hg3 => ?_) (fun hg3 => ?_) | refine OWp.byBT rfl (fun hg3 => ?_) (fun hg3 => ?_)
          · skip
            first | rw [decide_eq_true hg3] | rw [decide_eq_false hg3] | rw [hg3] | skip
            try simp only [Decidable.not_not] at hg3
            refine OWp.move rfl rfl ?_
            refine OWp.move rfl rfl ?_
            refine OWp.indexS rfl rfl Tryd.underlying9 rfl rfl (by omega) (by omega) ?_
            refine OWp.binI rfl rfl rfl rfl rfl ?_
            refine OWp.pickT rfl rfl rfl ?_
            refine OWp.pickF rfl rfl rfl ?_
            refine OWp.nil ?_
            first | refine CWp.condP rfl (fun h4 => ?_) (fun h4 => ?_) | refine CWp.cond rfl (fun h4 => ?_) (fun h4 => ?_)
            · skip
              first | rw [decide_eq_true h4] | rw [decide_eq_false h4] | rw [h4] | skip
              refine CWp.seq ?_
              refine CWp.region ?_
              refine OWp.assign rfl rfl ?_
              refine OWp.nil ?_
              refine CWp.ret ?_
              refine RetQ.one (by first | exact .inl rfl | exact .inr rfl) rfl rfl ?_
              exact h i false hi ⟨fun e => (by cases e), fun hr => (by have := hr.sign; omega)⟩
            · skip
              first | rw [decide_eq_true h4] | rw [decide_eq_false h4] | rw [h4] | skip
              refine CWp.skip ?_
              exact ex_env rfl ⟨rfl, by omega, by omega, by omega⟩
          · skip
            first | rw [decide_eq_true hg3] | rw [decide_eq_false hg3] | rw [hg3] | skip
            try simp only [Decidable.not_not] at hg3
            refine OWp.leave rfl ?_
            refine OWp.leave rfl ?_
            refine OWp.leave rfl ?_
            refine OWp.leave rfl ?_
            refine OWp.pickF rfl rfl rfl ?_
            refine OWp.pickF rfl rfl rfl ?_
            refine OWp.nil ?_
            refine CWp.condF rfl ?_
            refine CWp.skip ?_
            exact ex_env rfl ⟨rfl, by omega, by omega, by omega⟩
        · skip
          first | rw [decide_eq_true hg2] | rw [decide_eq_false hg2] | rw [hg2] | skip
          try simp only [Decidable.not_not] at hg2
          refine OWp.leave rfl ?_
          refine OWp.leave rfl ?_
          refine OWp.leave rfl ?_
          refine OWp.leave rfl ?_
          refine OWp.pickF rfl rfl rfl ?_
          refine OWp.move rfl rfl ?_
          refine OWp.leave rfl ?_
          refine OWp.leave rfl ?_
          refine OWp.leave rfl ?_
          refine OWp.leave rfl ?_
          refine OWp.pickF rfl rfl rfl ?_
          refine OWp.pickF rfl rfl rfl ?_
          refine OWp.nil ?_
          refine CWp.condF rfl ?_
          refine CWp.skip ?_
          exact ex_env rfl ⟨rfl, by omega, by omega, by omega⟩
      · skip
        first | rw [decide_eq_true hg1] | rw [decide_eq_false hg1] | rw [hg1] | skip
        try simp only [Decidable.not_not] at hg1
        refine OWp.leave rfl ?_
        refine OWp.leave rfl ?_
        refine OWp.leave rfl ?_
        refine OWp.leave rfl ?_
        refine OWp.leave rfl ?_
        refine OWp.leave rfl ?_
        refine OWp.leave rfl ?_
        refine OWp.leave rfl ?_
        refine OWp.leave rfl ?_
        refine OWp.leave rfl ?_
        refine OWp.leave rfl ?_
        refine OWp.leave rfl ?_
        refine OWp.leave rfl ?_
        refine OWp.leave rfl ?_
        refine OWp.leave rfl ?_
        refine OWp.leave rfl ?_
        refine OWp.pickT rfl rfl rfl ?_
        refine OWp.nil ?_
        refine CWp.condT rfl ?_
        refine CWp.seq ?_
        refine CWp.region ?_
        refine OWp.assign rfl rfl ?_
        refine OWp.nil ?_
        refine CWp.ret ?_
        refine RetQ.one (by first | exact .inl rfl | exact .inr rfl) rfl rfl ?_
        exact h i false hi ⟨fun e => (by cases e), fun hr => (by have := hr.lt; omega)⟩
    · skip
      first | rw [decide_eq_true hg0] | rw [decide_eq_false hg0] | rw [hg0] | skip
      try simp only [Decidable.not_not] at hg0
      refine OWp.leave rfl ?_
      refine OWp.leave rfl ?_
      refine OWp.leave rfl ?_
      refine OWp.leave rfl ?_
      refine OWp.pickT rfl rfl rfl ?_
      refine OWp.move rfl rfl ?_
      refine OWp.leave rfl ?_
      refine OWp.leave rfl ?_
      refine OWp.leave rfl ?_
      refine OWp.leave rfl ?_
      refine OWp.leave rfl ?_
      refine OWp.leave rfl ?_
      refine OWp.leave rfl ?_
      refine OWp.leave rfl ?_
      refine OWp.leave rfl ?_
      refine OWp.leave rfl ?_
      refine OWp.leave rfl ?_
      refine OWp.leave rfl ?_
      refine OWp.leave rfl ?_
      refine OWp.leave rfl ?_
      refine OWp.leave rfl ?_
      refine OWp.leave rfl ?_
      refine OWp.pickT rfl rfl rfl ?_
      refine OWp.nil ?_
      refine CWp.condT rfl ?_
      refine CWp.seq ?_
      refine CWp.region ?_
      refine OWp.assign rfl rfl ?_
      refine OWp.nil ?_
      refine CWp.ret ?_
      refine RetQ.one (by first | exact .inl rfl | exact .inr rfl) rfl rfl ?_
      exact h i false hi ⟨fun e => (by cases e), fun hr => (by have := hr.col; omega)⟩
  · rintro e H' ⟨g, rfl, rfl, hlt0, hc3, hsg⟩
    refine CWp.seq ?_
    refine CWp.region ?_
    refine OWp.assign rfl rfl ?_
    refine OWp.nil ?_
    refine CWp.seq ?_
    refine CWp.seq ?_
    refine CWp.region ?_
    refine OWp.move rfl rfl ?_
    refine OWp.assign rfl rfl ?_
    refine OWp.nil ?_
    refine CWp.block ?_
    refine CWp.loop (fun k e H' => ∃ (q : Nat) (c0 : Int) (g : Nat → Value), e = [.string s, g 1, g 2, g 3, .int .i64 (i : Nat), .int .i64 c0, .int .i64 (q : Nat), g 7, g 8, g 9, g 10, g 11, g 12, g 13, g 14, g 15, g 16, g 17, g 18, g 19, g 20, g 21, g 22, g 23, g 24, g 25, g 26, g 27, g 28, g 29, g 30, g 31, g 32, g 33, g 34, g 35, g 36, g 37, g 38, g 39, g 40, g 41, g 42, g 43, g 44, g 45, g 46, g 47, g 48, g 49, g 50, g 51, g 52, g 53, g 54, g 55, g 56, g 57, g 58, g 59, g 60, g 61, g 62, g 63, g 64, g 65] ∧ k = s.size - q ∧ H = H' ∧ c0 = (cntTo s (byteAt s (i : Nat)) i (q - i) : Nat) ∧ i ≤ q ∧ q ≤ s.size ∧ ∀ a : Nat, i ≤ a → a < q → byteAt s (a : Nat) = byteAt s (i : Nat) ∨ gapB (byteAt s (a : Nat))) ?_ ?_
    · exact ⟨_, i, 0, ex_env rfl ⟨rfl, rfl, by rw [Nat.sub_self]; rfl, by omega, by omega, fun a h1 h2 => by omega⟩⟩
    · rintro k e H' ⟨q, c0, g, rfl, rfl, rfl, hc0, hq1, hq2, ha⟩
      have hcl2 := cntTo_le s (byteAt s (i : Nat)) i (q - i)
      refine CWp.seq ?_
      refine CWp.seq ?_
      refine CWp.region ?_
      refine OWp.move rfl rfl ?_
      refine OWp.move rfl rfl ?_
      refine OWp.lenS rfl rfl rfl rfl rfl Tryd.underlying9 rfl ?_
      refine OWp.binI rfl rfl rfl rfl rfl ?_
      refine OWp.nil ?_
      first | refine CWp.condP rfl (fun h3 => ?_) (fun h3 => ?_) | refine CWp.cond rfl (fun h3 => ?_) (fun h3 => ?_)
      · skip
        first | rw [decide_eq_true h3] | rw [decide_eq_false h3] | rw [h3] | skip
        refine CWp.skip ?_
        refine CWp.seq ?_
        refine CWp.block ?_
        refine CWp.seq ?_
        refine CWp.drawn (by kernel_rfl) ?_
        refine OWp.move rfl rfl ?_
        refine OWp.move rfl rfl ?_
        refine OWp.indexS rfl rfl Tryd.underlying9 rfl rfl (by omega) (by omega) ?_
        refine OWp.move rfl rfl ?_
        refine OWp.move rfl rfl ?_
        refine OWp.indexS rfl rfl Tryd.underlying9 rfl rfl (by omega) (by omega) ?_
        refine OWp.binI rfl rfl rfl rfl rfl ?_
        refine OWp.nil ?_
        first | refine CWp.condP rfl (fun h4 => ?_) (fun h4 => ?_) | refine CWp.cond rfl (fun h4 => ?_) (fun h4 => ?_)
        · skip
          first | rw [decide_eq_true h4] | rw [decide_eq_false h4] | rw [h4] | skip
          refine CWp.region ?_
          refine OWp.move rfl rfl ?_
          refine OWp.addI rfl rfl rfl rfl (by omega) ?_
          refine OWp.assign rfl rfl ?_
          refine OWp.nil ?_
          refine CWp.region ?_
          refine OWp.move rfl rfl ?_
          refine OWp.addI rfl rfl rfl rfl (by omega) ?_
          refine OWp.assign rfl rfl ?_
          refine OWp.nil ?_
          exact ⟨_, by omega, q + 1, c0 + 1, ex_env rfl ⟨rfl, rfl, by rw [cnt_T2 s _ i q hq1 (by assumption)]; omega, by omega, by omega, fun a h1 h2 => by by_cases e : a = q; exact e ▸ (.inl (by assumption)); exact ha a h1 (by omega)⟩⟩
        · skip
          first | rw [decide_eq_true h4] | rw [decide_eq_false h4] | rw [h4] | skip
          refine CWp.seq ?_
          refine CWp.region ?_
          refine OWp.move rfl rfl ?_
          refine OWp.move rfl rfl ?_
          refine OWp.indexS rfl rfl Tryd.underlying9 rfl rfl (by omega) (by omega) ?_
          refine OWp.binI rfl rfl rfl rfl rfl ?_
          refine OWp.move rfl rfl ?_
          first | refine OWp.byT rfl (fun hg5 => ?_) (fun hg5 => ?_) | refine OWp.byBT rfl (fun hg5 => ?_) (fun hg5 => ?_)
          · skip
            first | rw [decide_eq_true hg5] | rw [decide_eq_false hg5] | rw [hg5] | skip
            try simp only [Decidable.not_not] at hg5
            refine OWp.move rfl rfl ?_
            refine OWp.move rfl rfl ?_
            refine OWp.indexS rfl rfl Tryd.underlying9 rfl rfl (by omega) (by omega) ?_
            refine OWp.binI rfl rfl rfl rfl rfl ?_
            refine OWp.pickT rfl rfl rfl ?_
            refine OWp.nil ?_
            first | refine CWp.condP rfl (fun h6 => ?_) (fun h6 => ?_) | refine CWp.cond rfl (fun h6 => ?_) (fun h6 => ?_)
            · skip
              first | rw [decide_eq_true h6] | rw [decide_eq_false h6] | rw [h6] | skip
              refine CWp.seq ?_
              refine CWp.region ?_
              refine OWp.assign rfl rfl ?_
              refine OWp.nil ?_
              refine CWp.ret ?_
              refine RetQ.one (by first | exact .inl rfl | exact .inr rfl) rfl rfl ?_
              exact h i false hi ⟨fun e => (by cases e), fun hr => (by rcases hr.all q hq1 (by omega) with k1 | k1; omega; unfold gapB at k1; omega)⟩
            · skip
              first | rw [decide_eq_true h6] | rw [decide_eq_false h6] | rw [h6] | skip
              refine CWp.skip ?_
              refine CWp.region ?_
              refine OWp.move rfl rfl ?_
              refine OWp.addI rfl rfl rfl rfl (by omega) ?_
              refine OWp.assign rfl rfl ?_
              refine OWp.nil ?_
              exact ⟨_, by omega, q + 1, c0, ex_env rfl ⟨rfl, rfl, by rw [cnt_F2 s _ i q hq1 (by assumption)]; exact hc0, by omega, by omega, fun a h1 h2 => by by_cases e : a = q; exact e ▸ (.inr (by unfold gapB; omega)); exact ha a h1 (by omega)⟩⟩
          · skip
            first | rw [decide_eq_true hg5] | rw [decide_eq_false hg5] | rw [hg5] | skip
            try simp only [Decidable.not_not] at hg5
            refine OWp.leave rfl ?_
            refine OWp.leave rfl ?_
            refine OWp.leave rfl ?_
            refine OWp.leave rfl ?_
            refine OWp.pickF rfl rfl rfl ?_
            refine OWp.nil ?_
            refine CWp.condF rfl ?_
            refine CWp.skip ?_
            refine CWp.region ?_
            refine OWp.move rfl rfl ?_
            refine OWp.addI rfl rfl rfl rfl (by omega) ?_
            refine OWp.assign rfl rfl ?_
            refine OWp.nil ?_
            exact ⟨_, by omega, q + 1, c0, ex_env rfl ⟨rfl, rfl, by rw [cnt_F2 s _ i q hq1 (by assumption)]; exact hc0, by omega, by omega, fun a h1 h2 => by by_cases e : a = q; exact e ▸ (.inr (by unfold gapB; omega)); exact ha a h1 (by omega)⟩⟩
      · skip
        first | rw [decide_eq_true h3] | rw [decide_eq_false h3] | rw [h3] | skip
        refine CWp.exit ?_
        refine CWp.seq ?_
        refine CWp.region ?_
        refine OWp.move rfl rfl ?_
        refine OWp.binI rfl rfl rfl rfl rfl ?_
        refine OWp.assign rfl rfl ?_
        refine OWp.nil ?_
        refine CWp.ret ?_
        refine RetQ.one (by first | exact .inl rfl | exact .inr rfl) rfl rfl ?_
        have eq : q = s.size := by omega
        exact h i _ hi ⟨fun e => ⟨hc3, hlt0, hsg, fun a h1 h2 => ha a h1 (by omega), by have := of_decide_eq_true e; rw [← eq]; omega⟩, fun hr => decide_eq_true (by have := hr.three; rw [← eq] at this; omega)⟩

theorem quoteC_spec (s : ByteArray) (hs : s.size ≤ 9000000) (H : AH) (Q : Value → AH → Prop) (h : ∀ (i : Nat) (x : ByteArray) (b : Bool), GapEnd s i → (b = true ↔ QuoteR s i) → (b = true → StripV (s.extract (i + 1) s.size) 1 x) → (b = false → x = ⟨#[]⟩) → Q (.tuple #[.string x, .bool b]) H) : FWp Tryd.prog prims 13 [.string s] H Q := by
  refine FWp.enter (rfl) Tryd.func13 rfl (e := [.string s, undef, undef, undef, undef, undef, undef, undef, undef, undef, undef, undef, undef, undef, undef, undef, undef, undef, undef, undef, undef, undef, undef, undef, undef, undef, undef]) rfl ?_
  refine CWp.seq ?_
  refine CWp.region ?_
  refine OWp.assign rfl rfl ?_
  refine OWp.assign rfl rfl ?_
  refine OWp.nil ?_
  refine CWp.seq ?_
  refine CWp.region ?_
  refine OWp.move rfl rfl ?_
  refine OWp.call rfl rfl rfl rfl ?_
  refine inside_spec s hs _ _ (fun i t b hi ht hb => ?_)
  have hi1 := hi.1
  have hz : t.size = s.size - i := by rw [ht, ByteArray.size_extract]; omega
  have hat0 : byteAt t 0 = byteAt s (i : Nat) := by have := app_at s t i ht 0; rwa [Nat.add_zero] at this
  refine OWp.norm ?_
  refine OWp.move rfl rfl ?_
  refine OWp.extract rfl rfl rfl rfl ?_
  refine OWp.extract rfl rfl rfl rfl ?_
  refine OWp.extract rfl rfl rfl rfl ?_
  refine OWp.assign rfl rfl ?_
  refine OWp.assign rfl rfl ?_
  refine OWp.assign rfl rfl ?_
  refine OWp.nil ?_
  refine CWp.seq ?_
  refine CWp.seq ?_
  refine CWp.region ?_
  refine OWp.move rfl rfl ?_
  first | refine OWp.notD rfl rfl rfl ?_ | refine OWp.notB rfl rfl rfl ?_
  refine OWp.move rfl rfl ?_
  first | refine OWp.byF rfl (fun hg0 => ?_) (fun hg0 => ?_) | refine OWp.byBF rfl (fun hg0 => ?_) (fun hg0 => ?_)
  · skip
    first | rw [decide_eq_true hg0] | rw [decide_eq_false hg0] | rw [hg0] | skip
    try simp only [Decidable.not_not] at hg0
    refine OWp.move rfl rfl ?_
    refine OWp.binS rfl rfl rfl rfl rfl ?_
    refine OWp.pickF rfl rfl rfl ?_
    refine OWp.move rfl rfl ?_
    first | refine OWp.byF rfl (fun hg1 => ?_) (fun hg1 => ?_) | refine OWp.byBF rfl (fun hg1 => ?_) (fun hg1 => ?_)
    · skip
      first | rw [decide_eq_true hg1] | rw [decide_eq_false hg1] | rw [hg1] | skip
      have hne : 0 < t.size := by
          rcases Nat.eq_zero_or_pos t.size with h0 | h0
          · exact absurd ((empty_size t).2 h0) hg1
          · exact h0
      refine OWp.move rfl rfl ?_
      refine OWp.indexS rfl rfl Tryd.underlying9 rfl rfl (by omega) (by omega) ?_
      refine OWp.binI rfl rfl rfl rfl rfl ?_
      refine OWp.pickF rfl rfl rfl ?_
      refine OWp.nil ?_
      first | refine CWp.condP rfl (fun h2 => ?_) (fun h2 => ?_) | refine CWp.cond rfl (fun h2 => ?_) (fun h2 => ?_)
      · skip
        first | rw [decide_eq_true h2] | rw [decide_eq_false h2] | rw [h2] | skip
        refine CWp.seq ?_
        refine CWp.region ?_
        refine OWp.assign rfl rfl ?_
        refine OWp.assign rfl rfl ?_
        refine OWp.nil ?_
        refine CWp.ret ?_
        refine RetQ.two (by first | exact .inl rfl | exact .inr rfl) rfl rfl rfl rfl rfl ?_
        exact h i _ false hi ⟨fun e => (by cases e), fun hr => (by have := hr.sign; omega)⟩ (fun e => by cases e) (fun _ => rfl)
      · skip
        first | rw [decide_eq_true h2] | rw [decide_eq_false h2] | rw [h2] | skip
        refine CWp.skip ?_
        refine CWp.seq ?_
        refine CWp.region ?_
        refine OWp.move rfl rfl ?_
        refine OWp.sliceS rfl rfl Tryd.underlying9 rfl rfl rfl (by omega) (by omega) (by omega) ?_
        refine OWp.call rfl rfl rfl rfl ?_
        have hX : t.extract (1 : Int).toNat (t.size : Int).toNat = s.extract (i + 1) s.size := app_ext s t i 1 ht hi1
        rw [hX]
        refine stripC_spec _ (by have := ext_le s (i + 1) s.size; omega) 1 (by omega) _ _ (fun x hx => ?_)
        refine OWp.norm ?_
        refine OWp.assign rfl rfl ?_
        refine OWp.assign rfl rfl ?_
        refine OWp.nil ?_
        refine CWp.ret ?_
        refine RetQ.two (by first | exact .inl rfl | exact .inr rfl) rfl rfl rfl rfl rfl ?_
        exact h i _ true hi ⟨fun _ => ⟨hb.1 (by simpa using hg0), by omega, by omega⟩, fun _ => rfl⟩ (fun _ => hx) (fun e => by cases e)
    · skip
      first | rw [decide_eq_true hg1] | rw [decide_eq_false hg1] | rw [hg1] | skip
      try simp only [Decidable.not_not] at hg1
      refine OWp.leave rfl ?_
      refine OWp.leave rfl ?_
      refine OWp.leave rfl ?_
      refine OWp.pickT rfl rfl rfl ?_
      refine OWp.nil ?_
      refine CWp.condT rfl ?_
      refine CWp.seq ?_
      refine CWp.region ?_
      refine OWp.assign rfl rfl ?_
      refine OWp.assign rfl rfl ?_
      refine OWp.nil ?_
      refine CWp.ret ?_
      refine RetQ.two (by first | exact .inl rfl | exact .inr rfl) rfl rfl rfl rfl rfl ?_
      exact h i _ false hi ⟨fun e => (by cases e), fun hr => (by have := hr.lt; have := (empty_size t).1 hg1; omega)⟩ (fun e => by cases e) (fun _ => rfl)
  · skip
    first | rw [decide_eq_true hg0] | rw [decide_eq_false hg0] | rw [hg0] | skip
    try simp only [Decidable.not_not] at hg0
    refine OWp.leave rfl ?_
    refine OWp.leave rfl ?_
    refine OWp.pickT rfl rfl rfl ?_
    refine OWp.move rfl rfl ?_
    refine OWp.leave rfl ?_
    refine OWp.leave rfl ?_
    refine OWp.leave rfl ?_
    refine OWp.pickT rfl rfl rfl ?_
    refine OWp.nil ?_
    refine CWp.condT rfl ?_
    refine CWp.seq ?_
    refine CWp.region ?_
    refine OWp.assign rfl rfl ?_
    refine OWp.assign rfl rfl ?_
    refine OWp.nil ?_
    refine CWp.ret ?_
    refine RetQ.two (by first | exact .inl rfl | exact .inr rfl) rfl rfl rfl rfl rfl ?_
    exact h i _ false hi ⟨fun e => (by cases e), fun hr => (by have := hb.2 hr.col; simp_all)⟩ (fun e => by cases e) (fun _ => rfl)

theorem quoteR_spec (s : ByteArray) (hs : s.size ≤ 9000000) (H : AH) (Q : Value → AH → Prop) (h : ∀ (i : Nat) (x : ByteArray) (b : Bool), GapEnd s i → (b = true ↔ QuoteR s i) → (b = true → StripV (s.extract (i + 1) s.size) 1 x) → (b = false → x = ⟨#[]⟩) → Q (.tuple #[.string x, .bool b]) H) : FWp Tryd.prog prims 16 [.string s] H Q := by
  refine FWp.enter (rfl) Tryd.func16 rfl (e := [.string s, undef, undef, undef, undef, undef, undef, undef, undef, undef, undef, undef, undef, undef, undef, undef, undef, undef, undef, undef, undef, undef, undef, undef, undef, undef, undef, undef, undef, undef]) rfl ?_
  refine CWp.seq ?_
  refine CWp.region ?_
  refine OWp.assign rfl rfl ?_
  refine OWp.assign rfl rfl ?_
  refine OWp.nil ?_
  refine CWp.seq ?_
  refine CWp.region ?_
  refine OWp.move rfl rfl ?_
  refine OWp.call rfl rfl rfl rfl ?_
  refine indent_spec s hs _ _ (fun i hi => ?_)
  have hi1 := hi.1
  have hcl := colAt_le s i
  refine OWp.norm ?_
  refine OWp.move rfl rfl ?_
  refine OWp.extract rfl rfl rfl rfl ?_
  refine OWp.extract rfl rfl rfl rfl ?_
  refine OWp.assign rfl rfl ?_
  refine OWp.assign rfl rfl ?_
  refine OWp.nil ?_
  refine CWp.seq ?_
  refine CWp.seq ?_
  refine CWp.region ?_
  refine OWp.move rfl rfl ?_
  refine OWp.binI rfl rfl rfl rfl rfl ?_
  refine OWp.move rfl rfl ?_
  first | refine OWp.byF rfl (fun hg0 => ?_) (fun hg0 => ?_) | refine OWp.byBF rfl (fun hg0 => ?_) (fun hg0 => ?_)
  · skip
    first | rw [decide_eq_true hg0] | rw [decide_eq_false hg0] | rw [hg0] | skip
    try simp only [Decidable.not_not] at hg0
    refine OWp.move rfl rfl ?_
    refine OWp.move rfl rfl ?_
    refine OWp.lenS rfl rfl rfl rfl rfl Tryd.underlying9 rfl ?_
    refine OWp.binI rfl rfl rfl rfl rfl ?_
    refine OWp.pickF rfl rfl rfl ?_
    refine OWp.move rfl rfl ?_
    first | refine OWp.byF rfl (fun hg1 => ?_) (fun hg1 => ?_) | refine OWp.byBF rfl (fun hg1 => ?_) (fun hg1 => ?_)
    · skip
      first | rw [decide_eq_true hg1] | rw [decide_eq_false hg1] | rw [hg1] | skip
      try simp only [Decidable.not_not] at hg1
      refine OWp.move rfl rfl ?_
      refine OWp.move rfl rfl ?_
      refine OWp.indexS rfl rfl Tryd.underlying9 rfl rfl (by omega) (by omega) ?_
      refine OWp.binI rfl rfl rfl rfl rfl ?_
      refine OWp.pickF rfl rfl rfl ?_
      refine OWp.nil ?_
      first | refine CWp.condP rfl (fun h2 => ?_) (fun h2 => ?_) | refine CWp.cond rfl (fun h2 => ?_) (fun h2 => ?_)
      · skip
        first | rw [decide_eq_true h2] | rw [decide_eq_false h2] | rw [h2] | skip
        refine CWp.seq ?_
        refine CWp.region ?_
        refine OWp.assign rfl rfl ?_
        refine OWp.assign rfl rfl ?_
        refine OWp.nil ?_
        refine CWp.ret ?_
        refine RetQ.two (by first | exact .inl rfl | exact .inr rfl) rfl rfl rfl rfl rfl ?_
        exact h i _ false hi ⟨fun e => (by cases e), fun hr => (by have := hr.sign; omega)⟩ (fun e => by cases e) (fun _ => rfl)
      · skip
        first | rw [decide_eq_true h2] | rw [decide_eq_false h2] | rw [h2] | skip
        refine CWp.skip ?_
        refine CWp.seq ?_
        refine CWp.region ?_
        refine OWp.move rfl rfl ?_
        refine OWp.move rfl rfl ?_
        refine OWp.addI rfl rfl rfl rfl (by omega) ?_
        refine OWp.sliceS rfl rfl Tryd.underlying9 rfl rfl rfl (by omega) (by omega) (by omega) ?_
        refine OWp.call rfl rfl rfl rfl ?_
        rw [show ((i : Int) + 1).toNat = i + 1 by omega, show (s.size : Int).toNat = s.size from rfl]
        refine strip_spec _ (by have := ext_le s (i + 1) s.size; omega) 1 (by omega) _ _ (fun x hx => ?_)
        refine OWp.norm ?_
        refine OWp.assign rfl rfl ?_
        refine OWp.assign rfl rfl ?_
        refine OWp.nil ?_
        refine CWp.ret ?_
        refine RetQ.two (by first | exact .inl rfl | exact .inr rfl) rfl rfl rfl rfl rfl ?_
        exact h i _ true hi ⟨fun _ => ⟨by omega, by omega, by omega⟩, fun _ => rfl⟩ (fun _ => hx) (fun e => by cases e)
    · skip
      first | rw [decide_eq_true hg1] | rw [decide_eq_false hg1] | rw [hg1] | skip
      try simp only [Decidable.not_not] at hg1
      refine OWp.leave rfl ?_
      refine OWp.leave rfl ?_
      refine OWp.leave rfl ?_
      refine OWp.leave rfl ?_
      refine OWp.pickT rfl rfl rfl ?_
      refine OWp.nil ?_
      refine CWp.condT rfl ?_
      refine CWp.seq ?_
      refine CWp.region ?_
      refine OWp.assign rfl rfl ?_
      refine OWp.assign rfl rfl ?_
      refine OWp.nil ?_
      refine CWp.ret ?_
      refine RetQ.two (by first | exact .inl rfl | exact .inr rfl) rfl rfl rfl rfl rfl ?_
      exact h i _ false hi ⟨fun e => (by cases e), fun hr => (by have := hr.lt; omega)⟩ (fun e => by cases e) (fun _ => rfl)
  · skip
    first | rw [decide_eq_true hg0] | rw [decide_eq_false hg0] | rw [hg0] | skip
    try simp only [Decidable.not_not] at hg0
    refine OWp.leave rfl ?_
    refine OWp.leave rfl ?_
    refine OWp.leave rfl ?_
    refine OWp.leave rfl ?_
    refine OWp.pickT rfl rfl rfl ?_
    refine OWp.move rfl rfl ?_
    refine OWp.leave rfl ?_
    refine OWp.leave rfl ?_
    refine OWp.leave rfl ?_
    refine OWp.leave rfl ?_
    refine OWp.pickT rfl rfl rfl ?_
    refine OWp.nil ?_
    refine CWp.condT rfl ?_
    refine CWp.seq ?_
    refine CWp.region ?_
    refine OWp.assign rfl rfl ?_
    refine OWp.assign rfl rfl ?_
    refine OWp.nil ?_
    refine CWp.ret ?_
    refine RetQ.two (by first | exact .inl rfl | exact .inr rfl) rfl rfl rfl rfl rfl ?_
    exact h i _ false hi ⟨fun e => (by cases e), fun hr => (by have := hr.col; omega)⟩ (fun e => by cases e) (fun _ => rfl)

end Go.Proofs.YtpfhkjbnofgikaaDoor.Ev
