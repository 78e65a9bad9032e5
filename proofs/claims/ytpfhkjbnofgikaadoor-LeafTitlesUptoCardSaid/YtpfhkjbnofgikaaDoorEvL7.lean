import Derived.Test.YtpfhkjbnofgikaaDoorEvL6
namespace Go.Proofs.YtpfhkjbnofgikaaDoor.Ev
open Go
set_option linter.unusedVariables false
set_option linter.unusedSimpArgs false

theorem itemC_spec (s : ByteArray) (hs : s.size ≤ 9000000) (H : AH) (Q : Value → AH → Prop) (h : ∀ H' (i : Nat) (c k : Int) (x : ByteArray) (b : Bool), Keeps H H' → GapEnd s i → (b = true ↔ ItemR s i) → (b = true → ItemV s i c k x) → (b = false → c = 0 ∧ k = 0 ∧ x = ⟨#[]⟩) → Q (.tuple #[.int .u8 c, .int .i64 k, .string x, .bool b]) H') (hw : WfH H) : FWp Tryd.prog prims 14 [.string s] H Q := by
  refine FWp.enter (rfl) Tryd.func14 rfl (e := [.string s, undef, undef, undef, undef, undef, undef, undef, undef, undef, undef, undef, undef, undef, undef, undef, undef, undef, undef, undef, undef, undef, undef, undef, undef, undef, undef, undef, undef, undef, undef, undef, undef, undef, undef, undef, undef, undef, undef, undef, undef, undef, undef, undef, undef, undef, undef, undef, undef, undef, undef, undef, undef, undef, undef, undef, undef, undef, undef, undef, undef, undef, undef, undef, undef, undef, undef, undef, undef]) rfl ?_
  refine CWp.seq ?_
  refine CWp.region ?_
  refine OWp.assign rfl rfl ?_
  refine OWp.assign rfl rfl ?_
  refine OWp.assign rfl rfl ?_
  refine OWp.assign rfl rfl ?_
  refine OWp.nil ?_
  refine CWp.seq ?_
  refine CWp.region ?_
  refine OWp.move rfl rfl ?_
  refine OWp.call rfl rfl rfl rfl ?_
  refine inside_spec s hs _ _ (fun i t b hi ht hb => ?_)
  have hi1 := hi.1
  have hz : t.size = s.size - i := by rw [ht, ByteArray.size_extract]; omega
  have hat0 : byteAt t 0 = byteAt s (i : Nat) := by have := app_at s t i ht 0; rwa [Nat.add_zero] at this
  have hat1 : byteAt t 1 = byteAt s (i + 1 : Nat) := app_at s t i ht 1
  have hX : t.extract (1 : Int).toNat (t.size : Int).toNat = s.extract (i + 1) s.size := app_ext s t i 1 ht hi1
  have hcl := colAt_le s i
  refine OWp.norm ?_
  refine OWp.move rfl rfl ?_
  refine OWp.extract rfl rfl rfl rfl ?_
  refine OWp.extract rfl rfl rfl rfl ?_
  refine OWp.extract rfl rfl rfl rfl ?_
  refine OWp.assign rfl rfl ?_
  refine OWp.assign rfl rfl ?_
  refine OWp.assign rfl rfl ?_
  refine OWp.nil ?_
  refine CWp.cut (fun e H' => ∃ (g : Nat → Value), e = [.string s, g 1, g 2, g 3, g 4, g 5, .string t, .int .i64 (colAt s i), g 8, g 9, g 10, g 11, g 12, g 13, g 14, g 15, g 16, g 17, g 18, g 19, g 20, g 21, g 22, g 23, g 24, g 25, g 26, g 27, g 28, g 29, g 30, g 31, g 32, g 33, g 34, g 35, g 36, g 37, g 38, g 39, g 40, g 41, g 42, g 43, g 44, g 45, g 46, g 47, g 48, g 49, g 50, g 51, g 52, g 53, g 54, g 55, g 56, g 57, g 58, g 59, g 60, g 61, g 62, g 63, g 64, g 65, g 66, g 67, g 68] ∧ WfH H' ∧ Keeps H H' ∧ ItemR s i) ?_ ?_
  · skip
    refine CWp.seq ?_
    refine CWp.region ?_
    refine OWp.move rfl rfl ?_
    first | refine OWp.notD rfl rfl rfl ?_ | refine OWp.notB rfl rfl rfl ?_
    refine OWp.move rfl rfl ?_
    first | refine OWp.byF rfl (fun hg0 => ?_) (fun hg0 => ?_) | refine OWp.byBF rfl (fun hg0 => ?_) (fun hg0 => ?_)
    · skip
      first | rw [decide_eq_true hg0] | rw [decide_eq_false hg0] | rw [hg0] | skip
      try simp only [Decidable.not_not] at hg0
      refine OWp.move rfl rfl ?_
      refine OWp.binS rfl rfl rfl rfl rfl ?_
      refine OWp.pickF rfl rfl rfl ?_
      refine OWp.move rfl rfl ?_
      first | refine OWp.byF rfl (fun hg1 => ?_) (fun hg1 => ?_) | refine OWp.byBF rfl (fun hg1 => ?_) (fun hg1 => ?_)
      · skip
        first | rw [decide_eq_true hg1] | rw [decide_eq_false hg1] | rw [hg1] | skip
        have hne : 0 < t.size := by
            rcases Nat.eq_zero_or_pos t.size with h0 | h0
            · exact absurd ((empty_size t).2 h0) hg1
            · exact h0
        refine OWp.move rfl rfl ?_
        refine OWp.indexS rfl rfl Tryd.underlying9 rfl rfl (by omega) (by omega) ?_
        refine OWp.call rfl rfl rfl rfl ?_
        refine it_spec _ (byteAt_r t 0) _ _ (fun r hr0 => ?_)
        refine OWp.norm ?_
        refine OWp.binI rfl rfl rfl rfl rfl ?_
        refine OWp.pickF rfl rfl rfl ?_
        refine OWp.move rfl rfl ?_
        first | refine OWp.byF rfl (fun hg2 => ?_) (fun hg2 => ?_) | refine OWp.byBF rfl (fun hg2 => ?_) (fun hg2 => ?_)
        · skip
          first | rw [decide_eq_true hg2] | rw [decide_eq_false hg2] | rw [hg2] | skip
          try simp only [Decidable.not_not] at hg2
          refine OWp.move rfl rfl ?_
          refine OWp.lenS rfl rfl rfl rfl rfl Tryd.underlying9 rfl ?_
          refine OWp.binI rfl rfl rfl rfl rfl ?_
          refine OWp.move rfl rfl ?_
          first | refine OWp.byT rfl (fun hg3 => ?_) (fun hg3 => ?_) | refine OWp.byBT rfl (fun hg3 => ?_) (fun hg3 => ?_)
          · skip
            first | rw [decide_eq_true hg3] | rw [decide_eq_false hg3] | rw [hg3] | skip
            try simp only [Decidable.not_not] at hg3
            refine OWp.move rfl rfl ?_
            refine OWp.indexS rfl rfl Tryd.underlying9 rfl rfl (by omega) (by omega) ?_
            refine OWp.call rfl rfl rfl rfl ?_
            refine ws_spec _ (byteAt_r t 1) _ _ (fun r2 hr2 => ?_)
            refine OWp.norm ?_
            refine OWp.binI rfl rfl rfl rfl rfl ?_
            refine OWp.pickT rfl rfl rfl ?_
            refine OWp.pickF rfl rfl rfl ?_
            refine OWp.move rfl rfl ?_
            first | refine OWp.byF rfl (fun hg4 => ?_) (fun hg4 => ?_) | refine OWp.byBF rfl (fun hg4 => ?_) (fun hg4 => ?_)
            · skip
              first | rw [decide_eq_true hg4] | rw [decide_eq_false hg4] | rw [hg4] | skip
              try simp only [Decidable.not_not] at hg4
              refine OWp.move rfl rfl ?_
              refine OWp.call rfl rfl rfl rfl ?_
              refine breakC_spec s hs _ _ ?_ hw
              intro Hb i2 b2 hkb hi2 hb2
              rw [gap_unique s i2 i hi2 hi] at hb2
              refine OWp.norm ?_
              refine OWp.pickF rfl rfl rfl ?_
              refine OWp.nil ?_
              first | refine CWp.condP rfl (fun h5 => ?_) (fun h5 => ?_) | refine CWp.cond rfl (fun h5 => ?_) (fun h5 => ?_)
              · skip
                first | rw [decide_eq_true h5] | rw [decide_eq_false h5] | rw [h5] | skip
                refine CWp.seq ?_
                refine CWp.region ?_
                refine OWp.assign rfl rfl ?_
                refine OWp.assign rfl rfl ?_
                refine OWp.assign rfl rfl ?_
                refine OWp.assign rfl rfl ?_
                refine OWp.nil ?_
                refine CWp.ret ?_
                refine RetQ.four (by first | exact .inl rfl | exact .inr rfl) rfl rfl rfl rfl rfl rfl rfl rfl rfl ?_
                exact h _ i 0 0 _ false hkb hi ⟨fun e => (by cases e), fun hr => (by exact absurd (hb2.1 (by assumption)) hr.no)⟩ (fun e => by cases e) (fun _ => ⟨rfl, rfl, rfl⟩)
              · skip
                first | rw [decide_eq_true h5] | rw [decide_eq_false h5] | rw [h5] | skip
                refine CWp.skip ?_
                exact ex_env rfl ⟨hkb.wf, hkb, ⟨hb.1 (by simpa using hg0), by omega, by rw [← hat0]; exact hr0.1 (by omega), fun hlt => by rw [← hat1]; first | exact hr2.1 (by omega) | (exfalso; omega), fun hbr => by have := hb2.2 hbr; simp_all⟩⟩
            · skip
              first | rw [decide_eq_true hg4] | rw [decide_eq_false hg4] | rw [hg4] | skip
              try simp only [Decidable.not_not] at hg4
              refine OWp.leave rfl ?_
              refine OWp.leave rfl ?_
              refine OWp.pickT rfl rfl rfl ?_
              refine OWp.nil ?_
              refine CWp.condT rfl ?_
              refine CWp.seq ?_
              refine CWp.region ?_
              refine OWp.assign rfl rfl ?_
              refine OWp.assign rfl rfl ?_
              refine OWp.assign rfl rfl ?_
              refine OWp.assign rfl rfl ?_
              refine OWp.nil ?_
              refine CWp.ret ?_
              refine RetQ.four (by first | exact .inl rfl | exact .inr rfl) rfl rfl rfl rfl rfl rfl rfl rfl rfl ?_
              exact h _ i 0 0 _ false (Keeps.refl hw) hi ⟨fun e => (by cases e), fun hr => (by have a5 := hr.next (by omega); rw [← hat1] at a5; have := hr2.2 a5; omega)⟩ (fun e => by cases e) (fun _ => ⟨rfl, rfl, rfl⟩)
          · skip
            first | rw [decide_eq_true hg3] | rw [decide_eq_false hg3] | rw [hg3] | skip
            try simp only [Decidable.not_not] at hg3
            refine OWp.leave rfl ?_
            refine OWp.leave rfl ?_
            refine OWp.leave rfl ?_
            refine OWp.leave rfl ?_
            refine OWp.pickF rfl rfl rfl ?_
            refine OWp.pickF rfl rfl rfl ?_
            refine OWp.move rfl rfl ?_
            refine OWp.move rfl rfl ?_
            refine OWp.call rfl rfl rfl rfl ?_
            refine breakC_spec s hs _ _ ?_ hw
            intro Hb i2 b2 hkb hi2 hb2
            rw [gap_unique s i2 i hi2 hi] at hb2
            refine OWp.norm ?_
            refine OWp.pickF rfl rfl rfl ?_
            refine OWp.nil ?_
            first | refine CWp.condP rfl (fun h4 => ?_) (fun h4 => ?_) | refine CWp.cond rfl (fun h4 => ?_) (fun h4 => ?_)
            · skip
              first | rw [decide_eq_true h4] | rw [decide_eq_false h4] | rw [h4] | skip
              refine CWp.seq ?_
              refine CWp.region ?_
              refine OWp.assign rfl rfl ?_
              refine OWp.assign rfl rfl ?_
              refine OWp.assign rfl rfl ?_
              refine OWp.assign rfl rfl ?_
              refine OWp.nil ?_
              refine CWp.ret ?_
              refine RetQ.four (by first | exact .inl rfl | exact .inr rfl) rfl rfl rfl rfl rfl rfl rfl rfl rfl ?_
              exact h _ i 0 0 _ false hkb hi ⟨fun e => (by cases e), fun hr => (by exact absurd (hb2.1 (by assumption)) hr.no)⟩ (fun e => by cases e) (fun _ => ⟨rfl, rfl, rfl⟩)
            · skip
              first | rw [decide_eq_true h4] | rw [decide_eq_false h4] | rw [h4] | skip
              refine CWp.skip ?_
              exact ex_env rfl ⟨hkb.wf, hkb, ⟨hb.1 (by simpa using hg0), by omega, by rw [← hat0]; exact hr0.1 (by omega), fun hlt => by rw [← hat1]; first | exact hr2.1 (by omega) | (exfalso; omega), fun hbr => by have := hb2.2 hbr; simp_all⟩⟩
        · skip
          first | rw [decide_eq_true hg2] | rw [decide_eq_false hg2] | rw [hg2] | skip
          try simp only [Decidable.not_not] at hg2
          refine OWp.leave rfl ?_
          refine OWp.leave rfl ?_
          refine OWp.leave rfl ?_
          refine OWp.leave rfl ?_
          refine OWp.leave rfl ?_
          refine OWp.leave rfl ?_
          refine OWp.leave rfl ?_
          refine OWp.leave rfl ?_
          refine OWp.leave rfl ?_
          refine OWp.pickT rfl rfl rfl ?_
          refine OWp.move rfl rfl ?_
          refine OWp.leave rfl ?_
          refine OWp.leave rfl ?_
          refine OWp.pickT rfl rfl rfl ?_
          refine OWp.nil ?_
          refine CWp.condT rfl ?_
          refine CWp.seq ?_
          refine CWp.region ?_
          refine OWp.assign rfl rfl ?_
          refine OWp.assign rfl rfl ?_
          refine OWp.assign rfl rfl ?_
          refine OWp.assign rfl rfl ?_
          refine OWp.nil ?_
          refine CWp.ret ?_
          refine RetQ.four (by first | exact .inl rfl | exact .inr rfl) rfl rfl rfl rfl rfl rfl rfl rfl rfl ?_
          exact h _ i 0 0 _ false (Keeps.refl hw) hi ⟨fun e => (by cases e), fun hr => (by have := hr0.2 (by rw [hat0]; exact hr.sign); omega)⟩ (fun e => by cases e) (fun _ => ⟨rfl, rfl, rfl⟩)
      · skip
        first | rw [decide_eq_true hg1] | rw [decide_eq_false hg1] | rw [hg1] | skip
        try simp only [Decidable.not_not] at hg1
        refine OWp.leave rfl ?_
        refine OWp.leave rfl ?_
        refine OWp.leave rfl ?_
        refine OWp.leave rfl ?_
        refine OWp.pickT rfl rfl rfl ?_
        refine OWp.move rfl rfl ?_
        refine OWp.leave rfl ?_
        refine OWp.leave rfl ?_
        refine OWp.leave rfl ?_
        refine OWp.leave rfl ?_
        refine OWp.leave rfl ?_
        refine OWp.leave rfl ?_
        refine OWp.leave rfl ?_
        refine OWp.leave rfl ?_
        refine OWp.leave rfl ?_
        refine OWp.pickT rfl rfl rfl ?_
        refine OWp.move rfl rfl ?_
        refine OWp.leave rfl ?_
        refine OWp.leave rfl ?_
        refine OWp.pickT rfl rfl rfl ?_
        refine OWp.nil ?_
        refine CWp.condT rfl ?_
        refine CWp.seq ?_
        refine CWp.region ?_
        refine OWp.assign rfl rfl ?_
        refine OWp.assign rfl rfl ?_
        refine OWp.assign rfl rfl ?_
        refine OWp.assign rfl rfl ?_
        refine OWp.nil ?_
        refine CWp.ret ?_
        refine RetQ.four (by first | exact .inl rfl | exact .inr rfl) rfl rfl rfl rfl rfl rfl rfl rfl rfl ?_
        exact h _ i 0 0 _ false (Keeps.refl hw) hi ⟨fun e => (by cases e), fun hr => (by have := hr.lt; have := (empty_size t).1 hg1; omega)⟩ (fun e => by cases e) (fun _ => ⟨rfl, rfl, rfl⟩)
    · skip
      first | rw [decide_eq_true hg0] | rw [decide_eq_false hg0] | rw [hg0] | skip
      try simp only [Decidable.not_not] at hg0
      refine OWp.leave rfl ?_
      refine OWp.leave rfl ?_
      refine OWp.pickT rfl rfl rfl ?_
      refine OWp.move rfl rfl ?_
      refine OWp.leave rfl ?_
      refine OWp.leave rfl ?_
      refine OWp.leave rfl ?_
      refine OWp.leave rfl ?_
      refine OWp.pickT rfl rfl rfl ?_
      refine OWp.move rfl rfl ?_
      refine OWp.leave rfl ?_
      refine OWp.leave rfl ?_
      refine OWp.leave rfl ?_
      refine OWp.leave rfl ?_
      refine OWp.leave rfl ?_
      refine OWp.leave rfl ?_
      refine OWp.leave rfl ?_
      refine OWp.leave rfl ?_
      refine OWp.leave rfl ?_
      refine OWp.pickT rfl rfl rfl ?_
      refine OWp.move rfl rfl ?_
      refine OWp.leave rfl ?_
      refine OWp.leave rfl ?_
      refine OWp.pickT rfl rfl rfl ?_
      refine OWp.nil ?_
      refine CWp.condT rfl ?_
      refine CWp.seq ?_
      refine CWp.region ?_
      refine OWp.assign rfl rfl ?_
      refine OWp.assign rfl rfl ?_
      refine OWp.assign rfl rfl ?_
      refine OWp.assign rfl rfl ?_
      refine OWp.nil ?_
      refine CWp.ret ?_
      refine RetQ.four (by first | exact .inl rfl | exact .inr rfl) rfl rfl rfl rfl rfl rfl rfl rfl rfl ?_
      exact h _ i 0 0 _ false (Keeps.refl hw) hi ⟨fun e => (by cases e), fun hr => (by have := hb.2 hr.col; simp_all)⟩ (fun e => by cases e) (fun _ => ⟨rfl, rfl, rfl⟩)
  · rintro e H' ⟨g, rfl, hw', hkb, hir⟩
    have hlt0 := hir.lt
    refine CWp.seq ?_
    refine CWp.seq ?_
    refine CWp.region ?_
    refine OWp.move rfl rfl ?_
    refine OWp.sliceS rfl rfl Tryd.underlying9 rfl rfl rfl (by omega) (by omega) (by omega) ?_
    rw [hX]
    refine OWp.call rfl rfl rfl rfl ?_
    have hXz := ext_le s (i + 1) s.size
    refine emptyC_spec _ (by omega) _ _ (fun j b3 hj hb3 => ?_)
    refine OWp.norm ?_
    refine OWp.nil ?_
    first | refine CWp.condP rfl (fun h2 => ?_) (fun h2 => ?_) | refine CWp.cond rfl (fun h2 => ?_) (fun h2 => ?_)
    · skip
      first | rw [decide_eq_true h2] | rw [decide_eq_false h2] | rw [h2] | skip
      refine CWp.seq ?_
      refine CWp.region ?_
      refine OWp.move rfl rfl ?_
      refine OWp.indexS rfl rfl Tryd.underlying9 rfl rfl (by omega) (by omega) ?_
      refine OWp.move rfl rfl ?_
      refine OWp.addI rfl rfl rfl rfl (by omega) ?_
      refine OWp.assign rfl rfl ?_
      refine OWp.assign rfl rfl ?_
      refine OWp.assign rfl rfl ?_
      refine OWp.assign rfl rfl ?_
      refine OWp.nil ?_
      refine CWp.ret ?_
      refine RetQ.four (by first | exact .inl rfl | exact .inr rfl) rfl rfl rfl rfl rfl rfl rfl rfl rfl ?_
      exact h _ i _ _ _ true hkb hi ⟨fun _ => hir, fun _ => rfl⟩ (fun _ => ⟨hat0, fun j' hj' he => ⟨rfl, rfl⟩, fun j' hj' hne => absurd ((gap_unique _ j' j hj' hj).trans (hb3.1 (by assumption))) hne⟩) (fun e => by cases e)
    · skip
      first | rw [decide_eq_true h2] | rw [decide_eq_false h2] | rw [h2] | skip
      refine CWp.skip ?_
      refine CWp.seq ?_
      refine CWp.region ?_
      refine OWp.move rfl rfl ?_
      refine OWp.sliceS rfl rfl Tryd.underlying9 rfl rfl rfl (by omega) (by omega) (by omega) ?_
      rw [hX]
      refine OWp.call rfl rfl rfl rfl ?_
      refine indentC_spec _ (by omega) _ _ (fun j2 hj2 => ?_)
      have hcl2 := colAt_le (s.extract (i + 1) s.size) j2
      have hj21 := hj2.1
      refine OWp.norm ?_
      refine OWp.move rfl rfl ?_
      refine OWp.extract rfl rfl rfl rfl ?_
      refine OWp.extract rfl rfl rfl rfl ?_
      refine OWp.assign rfl rfl ?_
      refine OWp.assign rfl rfl ?_
      refine OWp.nil ?_
      refine CWp.seq ?_
      refine CWp.seq ?_
      refine CWp.region ?_
      refine OWp.move rfl rfl ?_
      refine OWp.binI rfl rfl rfl rfl rfl ?_
      refine OWp.nil ?_
      first | refine CWp.condP rfl (fun h3 => ?_) (fun h3 => ?_) | refine CWp.cond rfl (fun h3 => ?_) (fun h3 => ?_)
      · skip
        first | rw [decide_eq_true h3] | rw [decide_eq_false h3] | rw [h3] | skip
        refine CWp.region ?_
        refine OWp.assign rfl rfl ?_
        refine OWp.nil ?_
        refine CWp.seq ?_
        refine CWp.drawn1 (by kernel_rfl) ?_
        refine OWp.move rfl rfl ?_
        refine OWp.indexS rfl rfl Tryd.underlying9 rfl rfl (by omega) (by omega) ?_
        refine OWp.move rfl rfl ?_
        refine OWp.addI rfl rfl rfl rfl (by omega) ?_
        refine OWp.move rfl rfl ?_
        refine OWp.addI rfl rfl rfl rfl (by omega) ?_
        refine OWp.move rfl rfl ?_
        refine OWp.sliceS rfl rfl Tryd.underlying9 rfl rfl rfl (by omega) (by omega) (by omega) ?_
        rw [hX]
        refine OWp.move rfl rfl ?_
        refine OWp.call rfl rfl rfl rfl ?_
        refine stripC_spec _ (by omega) _ (by omega) _ _ (fun x hx => ?_)
        refine OWp.norm ?_
        refine OWp.assign rfl rfl ?_
        refine OWp.assign rfl rfl ?_
        refine OWp.assign rfl rfl ?_
        refine OWp.assign rfl rfl ?_
        refine OWp.nil ?_
        refine CWp.ret ?_
        refine RetQ.four (by first | exact .inl rfl | exact .inr rfl) rfl rfl rfl rfl rfl rfl rfl rfl rfl ?_
        exact h _ i _ _ _ true hkb hi ⟨fun _ => hir, fun _ => rfl⟩ (fun _ => ⟨hat0, fun j' hj' he => (by have := hb3.2 ((gap_unique _ j j' hj hj').trans he); simp_all), fun j' hj' hne => (by rw [gap_unique _ j' j2 hj' hj2, if_pos (by assumption)]; exact ⟨rfl, hx⟩)⟩) (fun e => by cases e)
      · skip
        first | rw [decide_eq_true h3] | rw [decide_eq_false h3] | rw [h3] | skip
        refine CWp.skip ?_
        refine CWp.seq ?_
        refine CWp.drawn1 (by kernel_rfl) ?_
        refine OWp.move rfl rfl ?_
        refine OWp.indexS rfl rfl Tryd.underlying9 rfl rfl (by omega) (by omega) ?_
        refine OWp.move rfl rfl ?_
        refine OWp.addI rfl rfl rfl rfl (by omega) ?_
        refine OWp.move rfl rfl ?_
        refine OWp.addI rfl rfl rfl rfl (by omega) ?_
        refine OWp.move rfl rfl ?_
        refine OWp.sliceS rfl rfl Tryd.underlying9 rfl rfl rfl (by omega) (by omega) (by omega) ?_
        rw [hX]
        refine OWp.move rfl rfl ?_
        refine OWp.call rfl rfl rfl rfl ?_
        refine stripC_spec _ (by omega) _ (by omega) _ _ (fun x hx => ?_)
        refine OWp.norm ?_
        refine OWp.assign rfl rfl ?_
        refine OWp.assign rfl rfl ?_
        refine OWp.assign rfl rfl ?_
        refine OWp.assign rfl rfl ?_
        refine OWp.nil ?_
        refine CWp.ret ?_
        refine RetQ.four (by first | exact .inl rfl | exact .inr rfl) rfl rfl rfl rfl rfl rfl rfl rfl rfl ?_
        exact h _ i _ _ _ true hkb hi ⟨fun _ => hir, fun _ => rfl⟩ (fun _ => ⟨hat0, fun j' hj' he => (by have := hb3.2 ((gap_unique _ j j' hj hj').trans he); simp_all), fun j' hj' hne => (by rw [gap_unique _ j' j2 hj' hj2, if_neg (by assumption)]; exact ⟨rfl, hx⟩)⟩) (fun e => by cases e)

theorem itemR_spec (s : ByteArray) (hs : s.size ≤ 9000000) (H : AH) (Q : Value → AH → Prop) (h : ∀ (i : Nat) (c k : Int) (x : ByteArray) (b : Bool), GapEnd s i → (b = true ↔ ItemR s i) → (b = true → ItemV s i c k x) → (b = false → c = 0 ∧ k = 0 ∧ x = ⟨#[]⟩) → Q (.tuple #[.int .u8 c, .int .i64 k, .string x, .bool b]) H) : FWp Tryd.prog prims 17 [.string s] H Q := by
  refine FWp.enter (rfl) Tryd.func17 rfl (e := [.string s, undef, undef, undef, undef, undef, undef, undef, undef, undef, undef, undef, undef, undef, undef, undef, undef, undef, undef, undef, undef, undef, undef, undef, undef, undef, undef, undef, undef, undef, undef, undef, undef, undef, undef, undef, undef, undef, undef, undef, undef, undef, undef, undef, undef, undef, undef, undef, undef, undef, undef, undef, undef, undef, undef, undef, undef, undef, undef, undef, undef, undef, undef, undef, undef, undef, undef, undef, undef, undef, undef, undef, undef, undef, undef, undef, undef, undef, undef, undef, undef, undef, undef, undef, undef, undef]) rfl ?_
  refine CWp.seq ?_
  refine CWp.region ?_
  refine OWp.assign rfl rfl ?_
  refine OWp.assign rfl rfl ?_
  refine OWp.assign rfl rfl ?_
  refine OWp.assign rfl rfl ?_
  refine OWp.nil ?_
  refine CWp.seq ?_
  refine CWp.region ?_
  refine OWp.move rfl rfl ?_
  refine OWp.call rfl rfl rfl rfl ?_
  refine indent_spec s hs _ _ (fun i hi => ?_)
  have hi1 := hi.1
  have hcl := colAt_le s i
  refine OWp.norm ?_
  refine OWp.move rfl rfl ?_
  refine OWp.extract rfl rfl rfl rfl ?_
  refine OWp.extract rfl rfl rfl rfl ?_
  refine OWp.assign rfl rfl ?_
  refine OWp.assign rfl rfl ?_
  refine OWp.nil ?_
  refine CWp.cut (fun e H' => ∃ (g : Nat → Value), e = [.string s, g 1, g 2, g 3, g 4, g 5, .int .i64 (colAt s i), .int .i64 (i : Nat), g 8, g 9, g 10, g 11, g 12, g 13, g 14, g 15, g 16, g 17, g 18, g 19, g 20, g 21, g 22, g 23, g 24, g 25, g 26, g 27, g 28, g 29, g 30, g 31, g 32, g 33, g 34, g 35, g 36, g 37, g 38, g 39, g 40, g 41, g 42, g 43, g 44, g 45, g 46, g 47, g 48, g 49, g 50, g 51, g 52, g 53, g 54, g 55, g 56, g 57, g 58, g 59, g 60, g 61, g 62, g 63, g 64, g 65, g 66, g 67, g 68, g 69, g 70, g 71, g 72, g 73, g 74, g 75, g 76, g 77, g 78, g 79, g 80, g 81, g 82, g 83, g 84, g 85] ∧ H = H' ∧ i < s.size ∧ colAt s i ≤ 3 ∧ (byteAt s (i : Nat) = 42 ∨ byteAt s (i : Nat) = 45 ∨ byteAt s (i : Nat) = 43) ∧ ¬ BreakR s i) ?_ ?_
  · skip
    refine CWp.seq ?_
    refine CWp.region ?_
    refine OWp.move rfl rfl ?_
    refine OWp.binI rfl rfl rfl rfl rfl ?_
    refine OWp.move rfl rfl ?_
    first | refine OWp.byF rfl (fun hg0 => ?_) (fun hg0 => ?_) | refine OWp.byBF rfl (fun hg0 => ?_) (fun hg0 => ?_)
    · skip
      first | rw [decide_eq_true hg0] | rw [decide_eq_false hg0] | rw [hg0] | skip
      try simp only [Decidable.not_not] at hg0
      refine OWp.move rfl rfl ?_
      refine OWp.move rfl rfl ?_
      refine OWp.lenS rfl rfl rfl rfl rfl Tryd.underlying9 rfl ?_
      refine OWp.binI rfl rfl rfl rfl rfl ?_
      refine OWp.pickF rfl rfl rfl ?_
      refine OWp.move rfl rfl ?_
      first | refine OWp.byF rfl (fun hg1 => ?_) (fun hg1 => ?_) | refine OWp.byBF rfl (fun hg1 => ?_) (fun hg1 => ?_)
      · skip
        first | rw [decide_eq_true hg1] | rw [decide_eq_false hg1] | rw [hg1] | skip
        try simp only [Decidable.not_not] at hg1
        refine OWp.move rfl rfl ?_
        refine OWp.move rfl rfl ?_
        refine OWp.indexS rfl rfl Tryd.underlying9 rfl rfl (by omega) (by omega) ?_
        refine OWp.binI rfl rfl rfl rfl rfl ?_
        refine OWp.move rfl rfl ?_
        first | refine OWp.byT rfl (fun hg2 => ?_) (fun hg2 => ?_) | refine OWp.byBT rfl (fun hg2 => ?_) (fun hg2 => ?_)
        · skip
          first | rw [decide_eq_true hg2] | rw [decide_eq_false hg2] | rw [hg2] | skip
          try simp only [Decidable.not_not] at hg2
          refine OWp.move rfl rfl ?_
          refine OWp.move rfl rfl ?_
          refine OWp.indexS rfl rfl Tryd.underlying9 rfl rfl (by omega) (by omega) ?_
          refine OWp.binI rfl rfl rfl rfl rfl ?_
          refine OWp.pickT rfl rfl rfl ?_
          refine OWp.move rfl rfl ?_
          first | refine OWp.byT rfl (fun hg3 => ?_) (fun hg3 => ?_) | refine OWp.byBT rfl (fun hg3 => ?_) (fun hg3 => ?_)
          · skip
            first | rw [decide_eq_true hg3] | rw [decide_eq_false hg3] | rw [hg3] | skip
            try simp only [Decidable.not_not] at hg3
            refine OWp.move rfl rfl ?_
            refine OWp.move rfl rfl ?_
            refine OWp.indexS rfl rfl Tryd.underlying9 rfl rfl (by omega) (by omega) ?_
            refine OWp.binI rfl rfl rfl rfl rfl ?_
            refine OWp.pickT rfl rfl rfl ?_
            refine OWp.pickF rfl rfl rfl ?_
            refine OWp.move rfl rfl ?_
            first | refine OWp.byF rfl (fun hg4 => ?_) (fun hg4 => ?_) | refine OWp.byBF rfl (fun hg4 => ?_) (fun hg4 => ?_)
            · skip
              first | rw [decide_eq_true hg4] | rw [decide_eq_false hg4] | rw [hg4] | skip
              try simp only [Decidable.not_not] at hg4
              refine OWp.move rfl rfl ?_
              refine OWp.call rfl rfl rfl rfl ?_
              refine breakR_spec s hs _ _ (fun i2 b2 hi2 hb2 => ?_)
              rw [gap_unique s i2 i hi2 hi] at hb2
              refine OWp.norm ?_
              refine OWp.pickF rfl rfl rfl ?_
              refine OWp.nil ?_
              first | refine CWp.condP rfl (fun h5 => ?_) (fun h5 => ?_) | refine CWp.cond rfl (fun h5 => ?_) (fun h5 => ?_)
              · skip
                first | rw [decide_eq_true h5] | rw [decide_eq_false h5] | rw [h5] | skip
                refine CWp.seq ?_
                refine CWp.region ?_
                refine OWp.assign rfl rfl ?_
                refine OWp.assign rfl rfl ?_
                refine OWp.assign rfl rfl ?_
                refine OWp.assign rfl rfl ?_
                refine OWp.nil ?_
                refine CWp.ret ?_
                refine RetQ.four (by first | exact .inl rfl | exact .inr rfl) rfl rfl rfl rfl rfl rfl rfl rfl rfl ?_
                exact h i 0 0 _ false hi ⟨fun e => (by cases e), fun hr => (by exact absurd (hb2.1 (by assumption)) hr.no)⟩ (fun e => by cases e) (fun _ => ⟨rfl, rfl, rfl⟩)
              · skip
                first | rw [decide_eq_true h5] | rw [decide_eq_false h5] | rw [h5] | skip
                refine CWp.skip ?_
                exact ex_env rfl ⟨rfl, by omega, by omega, by omega, fun hbr => by have := hb2.2 hbr; simp_all⟩
            · skip
              first | rw [decide_eq_true hg4] | rw [decide_eq_false hg4] | rw [hg4] | skip
              try simp only [Decidable.not_not] at hg4
              refine OWp.leave rfl ?_
              refine OWp.leave rfl ?_
              refine OWp.pickT rfl rfl rfl ?_
              refine OWp.nil ?_
              refine CWp.condT rfl ?_
              refine CWp.seq ?_
              refine CWp.region ?_
              refine OWp.assign rfl rfl ?_
              refine OWp.assign rfl rfl ?_
              refine OWp.assign rfl rfl ?_
              refine OWp.assign rfl rfl ?_
              refine OWp.nil ?_
              refine CWp.ret ?_
              refine RetQ.four (by first | exact .inl rfl | exact .inr rfl) rfl rfl rfl rfl rfl rfl rfl rfl rfl ?_
              exact h i 0 0 _ false hi ⟨fun e => (by cases e), fun hr => (by have := hr.sign; omega)⟩ (fun e => by cases e) (fun _ => ⟨rfl, rfl, rfl⟩)
          · skip
            first | rw [decide_eq_true hg3] | rw [decide_eq_false hg3] | rw [hg3] | skip
            try simp only [Decidable.not_not] at hg3
            refine OWp.leave rfl ?_
            refine OWp.leave rfl ?_
            refine OWp.leave rfl ?_
            refine OWp.leave rfl ?_
            refine OWp.pickF rfl rfl rfl ?_
            refine OWp.pickF rfl rfl rfl ?_
            refine OWp.move rfl rfl ?_
            refine OWp.move rfl rfl ?_
            refine OWp.call rfl rfl rfl rfl ?_
            refine breakR_spec s hs _ _ (fun i2 b2 hi2 hb2 => ?_)
            rw [gap_unique s i2 i hi2 hi] at hb2
            refine OWp.norm ?_
            refine OWp.pickF rfl rfl rfl ?_
            refine OWp.nil ?_
            first | refine CWp.condP rfl (fun h4 => ?_) (fun h4 => ?_) | refine CWp.cond rfl (fun h4 => ?_) (fun h4 => ?_)
            · skip
              first | rw [decide_eq_true h4] | rw [decide_eq_false h4] | rw [h4] | skip
              refine CWp.seq ?_
              refine CWp.region ?_
              refine OWp.assign rfl rfl ?_
              refine OWp.assign rfl rfl ?_
              refine OWp.assign rfl rfl ?_
              refine OWp.assign rfl rfl ?_
              refine OWp.nil ?_
              refine CWp.ret ?_
              refine RetQ.four (by first | exact .inl rfl | exact .inr rfl) rfl rfl rfl rfl rfl rfl rfl rfl rfl ?_
              exact h i 0 0 _ false hi ⟨fun e => (by cases e), fun hr => (by exact absurd (hb2.1 (by assumption)) hr.no)⟩ (fun e => by cases e) (fun _ => ⟨rfl, rfl, rfl⟩)
            · skip
              first | rw [decide_eq_true h4] | rw [decide_eq_false h4] | rw [h4] | skip
              refine CWp.skip ?_
              exact ex_env rfl ⟨rfl, by omega, by omega, by omega, fun hbr => by have := hb2.2 hbr; simp_all⟩
        · skip
          first | rw [decide_eq_true hg2] | rw [decide_eq_false hg2] | rw [hg2] | skip
          try simp only [Decidable.not_not] at hg2
          refine OWp.leave rfl ?_
          refine OWp.leave rfl ?_
          refine OWp.leave rfl ?_
          refine OWp.leave rfl ?_
          refine OWp.pickF rfl rfl rfl ?_
          refine OWp.move rfl rfl ?_
          refine OWp.leave rfl ?_
          refine OWp.leave rfl ?_
          refine OWp.leave rfl ?_
          refine OWp.leave rfl ?_
          refine OWp.pickF rfl rfl rfl ?_
          refine OWp.pickF rfl rfl rfl ?_
          refine OWp.move rfl rfl ?_
          refine OWp.move rfl rfl ?_
          refine OWp.call rfl rfl rfl rfl ?_
          refine breakR_spec s hs _ _ (fun i2 b2 hi2 hb2 => ?_)
          rw [gap_unique s i2 i hi2 hi] at hb2
          refine OWp.norm ?_
          refine OWp.pickF rfl rfl rfl ?_
          refine OWp.nil ?_
          first | refine CWp.condP rfl (fun h3 => ?_) (fun h3 => ?_) | refine CWp.cond rfl (fun h3 => ?_) (fun h3 => ?_)
          · skip
            first | rw [decide_eq_true h3] | rw [decide_eq_false h3] | rw [h3] | skip
            refine CWp.seq ?_
            refine CWp.region ?_
            refine OWp.assign rfl rfl ?_
            refine OWp.assign rfl rfl ?_
            refine OWp.assign rfl rfl ?_
            refine OWp.assign rfl rfl ?_
            refine OWp.nil ?_
            refine CWp.ret ?_
            refine RetQ.four (by first | exact .inl rfl | exact .inr rfl) rfl rfl rfl rfl rfl rfl rfl rfl rfl ?_
            exact h i 0 0 _ false hi ⟨fun e => (by cases e), fun hr => (by exact absurd (hb2.1 (by assumption)) hr.no)⟩ (fun e => by cases e) (fun _ => ⟨rfl, rfl, rfl⟩)
          · skip
            first | rw [decide_eq_true h3] | rw [decide_eq_false h3] | rw [h3] | skip
            refine CWp.skip ?_
            exact ex_env rfl ⟨rfl, by omega, by omega, by omega, fun hbr => by have := hb2.2 hbr; simp_all⟩
      · skip
        first | rw [decide_eq_true hg1] | rw [decide_eq_false hg1] | rw [hg1] | skip
        try simp only [Decidable.not_not] at hg1
        refine OWp.leave rfl ?_
        refine OWp.leave rfl ?_
        refine OWp.leave rfl ?_
        refine OWp.leave rfl ?_
        refine OWp.leave rfl ?_
        refine OWp.leave rfl ?_
        refine OWp.leave rfl ?_
        refine OWp.leave rfl ?_
        refine OWp.leave rfl ?_
        refine OWp.leave rfl ?_
        refine OWp.leave rfl ?_
        refine OWp.leave rfl ?_
        refine OWp.leave rfl ?_
        refine OWp.leave rfl ?_
        refine OWp.leave rfl ?_
        refine OWp.leave rfl ?_
        refine OWp.pickT rfl rfl rfl ?_
        refine OWp.move rfl rfl ?_
        refine OWp.leave rfl ?_
        refine OWp.leave rfl ?_
        refine OWp.pickT rfl rfl rfl ?_
        refine OWp.nil ?_
        refine CWp.condT rfl ?_
        refine CWp.seq ?_
        refine CWp.region ?_
        refine OWp.assign rfl rfl ?_
        refine OWp.assign rfl rfl ?_
        refine OWp.assign rfl rfl ?_
        refine OWp.assign rfl rfl ?_
        refine OWp.nil ?_
        refine CWp.ret ?_
        refine RetQ.four (by first | exact .inl rfl | exact .inr rfl) rfl rfl rfl rfl rfl rfl rfl rfl rfl ?_
        exact h i 0 0 _ false hi ⟨fun e => (by cases e), fun hr => (by have := hr.lt; omega)⟩ (fun e => by cases e) (fun _ => ⟨rfl, rfl, rfl⟩)
    · skip
      first | rw [decide_eq_true hg0] | rw [decide_eq_false hg0] | rw [hg0] | skip
      try simp only [Decidable.not_not] at hg0
      refine OWp.leave rfl ?_
      refine OWp.leave rfl ?_
      refine OWp.leave rfl ?_
      refine OWp.leave rfl ?_
      refine OWp.pickT rfl rfl rfl ?_
      refine OWp.move rfl rfl ?_
      refine OWp.leave rfl ?_
      refine OWp.leave rfl ?_
      refine OWp.leave rfl ?_
      refine OWp.leave rfl ?_
      refine OWp.leave rfl ?_
      refine OWp.leave rfl ?_
      refine OWp.leave rfl ?_
      refine OWp.leave rfl ?_
      refine OWp.leave rfl ?_
      refine OWp.leave rfl ?_
      refine OWp.leave rfl ?_
      refine OWp.leave rfl ?_
      refine OWp.leave rfl ?_
      refine OWp.leave rfl ?_
      refine OWp.leave rfl ?_
      refine OWp.leave rfl ?_
      refine OWp.pickT rfl rfl rfl ?_
      refine OWp.move rfl rfl ?_
      refine OWp.leave rfl ?_
      refine OWp.leave rfl ?_
      refine OWp.pickT rfl rfl rfl ?_
      refine OWp.nil ?_
      refine CWp.condT rfl ?_
      refine CWp.seq ?_
      refine CWp.region ?_
      refine OWp.assign rfl rfl ?_
      refine OWp.assign rfl rfl ?_
      refine OWp.assign rfl rfl ?_
      refine OWp.assign rfl rfl ?_
      refine OWp.nil ?_
      refine CWp.ret ?_
      refine RetQ.four (by first | exact .inl rfl | exact .inr rfl) rfl rfl rfl rfl rfl rfl rfl rfl rfl ?_
      exact h i 0 0 _ false hi ⟨fun e => (by cases e), fun hr => (by have := hr.col; omega)⟩ (fun e => by cases e) (fun _ => ⟨rfl, rfl, rfl⟩)
  · rintro e H' ⟨g, rfl, rfl, hlt0, hc3, hsg, hnb⟩
    refine CWp.seq ?_
    refine CWp.region ?_
    refine OWp.move rfl rfl ?_
    refine OWp.move rfl rfl ?_
    refine OWp.addI rfl rfl rfl rfl (by omega) ?_
    refine OWp.sliceS rfl rfl Tryd.underlying9 rfl rfl rfl (by omega) (by omega) (by omega) ?_
    have hX : s.extract ((i : Int) + 1).toNat (s.size : Int).toNat = s.extract (i + 1) s.size := by rw [show ((i : Int) + 1).toNat = i + 1 by omega]; rfl
    rw [hX]
    have hXs : (s.extract (i + 1) s.size).size = s.size - (i + 1) := by rw [ByteArray.size_extract]; omega
    have hat1 : byteAt (s.extract (i + 1) s.size) 0 = byteAt s (i + 1 : Nat) := by have := byteAt_ext s (i + 1) 0; rwa [Nat.add_zero] at this
    refine OWp.assign rfl rfl ?_
    refine OWp.nil ?_
    refine CWp.cut (fun e H' => ∃ (g : Nat → Value), e = [.string s, g 1, g 2, g 3, g 4, g 5, .int .i64 (colAt s i), .int .i64 (i : Nat), .string (s.extract (i + 1) s.size), g 9, g 10, g 11, g 12, g 13, g 14, g 15, g 16, g 17, g 18, g 19, g 20, g 21, g 22, g 23, g 24, g 25, g 26, g 27, g 28, g 29, g 30, g 31, g 32, g 33, g 34, g 35, g 36, g 37, g 38, g 39, g 40, g 41, g 42, g 43, g 44, g 45, g 46, g 47, g 48, g 49, g 50, g 51, g 52, g 53, g 54, g 55, g 56, g 57, g 58, g 59, g 60, g 61, g 62, g 63, g 64, g 65, g 66, g 67, g 68, g 69, g 70, g 71, g 72, g 73, g 74, g 75, g 76, g 77, g 78, g 79, g 80, g 81, g 82, g 83, g 84, g 85] ∧ H = H' ∧ ItemR s i) ?_ ?_
    · skip
      refine CWp.seq ?_
      refine CWp.region ?_
      refine OWp.move rfl rfl ?_
      refine OWp.binS rfl rfl rfl rfl rfl ?_
      refine OWp.move rfl rfl ?_
      first | refine OWp.byT rfl (fun hg2 => ?_) (fun hg2 => ?_) | refine OWp.byBT rfl (fun hg2 => ?_) (fun hg2 => ?_)
      · skip
        first | rw [decide_eq_true hg2] | rw [decide_eq_false hg2] | rw [hg2] | skip
        have hne : 0 < (s.extract (i + 1) s.size).size := by
            rcases Nat.eq_zero_or_pos (s.extract (i + 1) s.size).size with h0 | h0
            · exact absurd ((empty_size _).2 h0) hg2
            · exact h0
        refine OWp.move rfl rfl ?_
        refine OWp.indexS rfl rfl Tryd.underlying9 rfl rfl (by omega) (by omega) ?_
        refine OWp.binI rfl rfl rfl rfl rfl ?_
        refine OWp.pickT rfl rfl rfl ?_
        refine OWp.move rfl rfl ?_
        first | refine OWp.byT rfl (fun hg3 => ?_) (fun hg3 => ?_) | refine OWp.byBT rfl (fun hg3 => ?_) (fun hg3 => ?_)
        · skip
          first | rw [decide_eq_true hg3] | rw [decide_eq_false hg3] | rw [hg3] | skip
          try simp only [Decidable.not_not] at hg3
          refine OWp.move rfl rfl ?_
          refine OWp.indexS rfl rfl Tryd.underlying9 rfl rfl (by omega) (by omega) ?_
          refine OWp.binI rfl rfl rfl rfl rfl ?_
          refine OWp.pickT rfl rfl rfl ?_
          refine OWp.nil ?_
          first | refine CWp.condP rfl (fun h4 => ?_) (fun h4 => ?_) | refine CWp.cond rfl (fun h4 => ?_) (fun h4 => ?_)
          · skip
            first | rw [decide_eq_true h4] | rw [decide_eq_false h4] | rw [h4] | skip
            refine CWp.seq ?_
            refine CWp.region ?_
            refine OWp.assign rfl rfl ?_
            refine OWp.assign rfl rfl ?_
            refine OWp.assign rfl rfl ?_
            refine OWp.assign rfl rfl ?_
            refine OWp.nil ?_
            refine CWp.ret ?_
            refine RetQ.four (by first | exact .inl rfl | exact .inr rfl) rfl rfl rfl rfl rfl rfl rfl rfl rfl ?_
            exact h i 0 0 _ false hi ⟨fun e => (by cases e), fun hr => (by have a5 := hr.next (by omega); unfold gapB at a5; omega)⟩ (fun e => by cases e) (fun _ => ⟨rfl, rfl, rfl⟩)
          · skip
            first | rw [decide_eq_true h4] | rw [decide_eq_false h4] | rw [h4] | skip
            refine CWp.skip ?_
            exact ex_env rfl ⟨rfl, ⟨hc3, hlt0, hsg, fun hlt => by unfold gapB; omega, hnb⟩⟩
        · skip
          first | rw [decide_eq_true hg3] | rw [decide_eq_false hg3] | rw [hg3] | skip
          try simp only [Decidable.not_not] at hg3
          refine OWp.leave rfl ?_
          refine OWp.leave rfl ?_
          refine OWp.leave rfl ?_
          refine OWp.pickF rfl rfl rfl ?_
          refine OWp.nil ?_
          refine CWp.condF rfl ?_
          refine CWp.skip ?_
          exact ex_env rfl ⟨rfl, ⟨hc3, hlt0, hsg, fun hlt => by unfold gapB; omega, hnb⟩⟩
      · skip
        have hg2x := (empty_size _).1 (Decidable.not_not.1 hg2)
        simp only [decide_eq_false hg2]
        refine OWp.leave rfl ?_
        refine OWp.leave rfl ?_
        refine OWp.leave rfl ?_
        refine OWp.pickF rfl rfl rfl ?_
        refine OWp.move rfl rfl ?_
        refine OWp.leave rfl ?_
        refine OWp.leave rfl ?_
        refine OWp.leave rfl ?_
        refine OWp.pickF rfl rfl rfl ?_
        refine OWp.nil ?_
        refine CWp.condF rfl ?_
        refine CWp.skip ?_
        exact ex_env rfl ⟨rfl, ⟨hc3, hlt0, hsg, fun hlt => by unfold gapB; omega, hnb⟩⟩
    · rintro e H' ⟨g, rfl, rfl, hir⟩
      refine CWp.seq ?_
      refine CWp.seq ?_
      refine CWp.region ?_
      refine OWp.move rfl rfl ?_
      refine OWp.call rfl rfl rfl rfl ?_
      have hXz := ext_le s (i + 1) s.size
      refine empty_spec _ (by omega) _ _ (fun j b3 hj hb3 => ?_)
      refine OWp.norm ?_
      refine OWp.nil ?_
      first | refine CWp.condP rfl (fun h2 => ?_) (fun h2 => ?_) | refine CWp.cond rfl (fun h2 => ?_) (fun h2 => ?_)
      · skip
        first | rw [decide_eq_true h2] | rw [decide_eq_false h2] | rw [h2] | skip
        refine CWp.seq ?_
        refine CWp.region ?_
        refine OWp.move rfl rfl ?_
        refine OWp.move rfl rfl ?_
        refine OWp.indexS rfl rfl Tryd.underlying9 rfl rfl (by omega) (by omega) ?_
        refine OWp.move rfl rfl ?_
        refine OWp.addI rfl rfl rfl rfl (by omega) ?_
        refine OWp.assign rfl rfl ?_
        refine OWp.assign rfl rfl ?_
        refine OWp.assign rfl rfl ?_
        refine OWp.assign rfl rfl ?_
        refine OWp.nil ?_
        refine CWp.ret ?_
        refine RetQ.four (by first | exact .inl rfl | exact .inr rfl) rfl rfl rfl rfl rfl rfl rfl rfl rfl ?_
        exact h i _ _ _ true hi ⟨fun _ => hir, fun _ => rfl⟩ (fun _ => ⟨rfl, fun j' hj' he => ⟨rfl, rfl⟩, fun j' hj' hne => absurd ((gap_unique _ j' j hj' hj).trans (hb3.1 (by assumption))) hne⟩) (fun e => by cases e)
      · skip
        first | rw [decide_eq_true h2] | rw [decide_eq_false h2] | rw [h2] | skip
        refine CWp.skip ?_
        refine CWp.seq ?_
        refine CWp.region ?_
        refine OWp.move rfl rfl ?_
        refine OWp.call rfl rfl rfl rfl ?_
        refine indent_spec _ (by omega) _ _ (fun j2 hj2 => ?_)
        have hcl2 := colAt_le (s.extract (i + 1) s.size) j2
        have hj21 := hj2.1
        refine OWp.norm ?_
        refine OWp.move rfl rfl ?_
        refine OWp.extract rfl rfl rfl rfl ?_
        refine OWp.extract rfl rfl rfl rfl ?_
        refine OWp.assign rfl rfl ?_
        refine OWp.assign rfl rfl ?_
        refine OWp.nil ?_
        refine CWp.seq ?_
        refine CWp.seq ?_
        refine CWp.region ?_
        refine OWp.move rfl rfl ?_
        refine OWp.binI rfl rfl rfl rfl rfl ?_
        refine OWp.nil ?_
        first | refine CWp.condP rfl (fun h3 => ?_) (fun h3 => ?_) | refine CWp.cond rfl (fun h3 => ?_) (fun h3 => ?_)
        · skip
          first | rw [decide_eq_true h3] | rw [decide_eq_false h3] | rw [h3] | skip
          refine CWp.region ?_
          refine OWp.assign rfl rfl ?_
          refine OWp.nil ?_
          refine CWp.seq ?_
          refine CWp.drawn1 (by kernel_rfl) ?_
          refine OWp.move rfl rfl ?_
          refine OWp.move rfl rfl ?_
          refine OWp.indexS rfl rfl Tryd.underlying9 rfl rfl (by omega) (by omega) ?_
          refine OWp.move rfl rfl ?_
          refine OWp.addI rfl rfl rfl rfl (by omega) ?_
          refine OWp.move rfl rfl ?_
          refine OWp.addI rfl rfl rfl rfl (by omega) ?_
          refine OWp.move rfl rfl ?_
          refine OWp.move rfl rfl ?_
          refine OWp.call rfl rfl rfl rfl ?_
          refine strip_spec _ (by omega) _ (by omega) _ _ (fun x hx => ?_)
          refine OWp.norm ?_
          refine OWp.assign rfl rfl ?_
          refine OWp.assign rfl rfl ?_
          refine OWp.assign rfl rfl ?_
          refine OWp.assign rfl rfl ?_
          refine OWp.nil ?_
          refine CWp.ret ?_
          refine RetQ.four (by first | exact .inl rfl | exact .inr rfl) rfl rfl rfl rfl rfl rfl rfl rfl rfl ?_
          exact h i _ _ _ true hi ⟨fun _ => hir, fun _ => rfl⟩ (fun _ => ⟨rfl, fun j' hj' he => (by have := hb3.2 ((gap_unique _ j j' hj hj').trans he); simp_all), fun j' hj' hne => (by rw [gap_unique _ j' j2 hj' hj2, if_pos (by assumption)]; exact ⟨rfl, hx⟩)⟩) (fun e => by cases e)
        · skip
          first | rw [decide_eq_true h3] | rw [decide_eq_false h3] | rw [h3] | skip
          refine CWp.skip ?_
          refine CWp.seq ?_
          refine CWp.drawn1 (by kernel_rfl) ?_
          refine OWp.move rfl rfl ?_
          refine OWp.move rfl rfl ?_
          refine OWp.indexS rfl rfl Tryd.underlying9 rfl rfl (by omega) (by omega) ?_
          refine OWp.move rfl rfl ?_
          refine OWp.addI rfl rfl rfl rfl (by omega) ?_
          refine OWp.move rfl rfl ?_
          refine OWp.addI rfl rfl rfl rfl (by omega) ?_
          refine OWp.move rfl rfl ?_
          refine OWp.move rfl rfl ?_
          refine OWp.call rfl rfl rfl rfl ?_
          refine strip_spec _ (by omega) _ (by omega) _ _ (fun x hx => ?_)
          refine OWp.norm ?_
          refine OWp.assign rfl rfl ?_
          refine OWp.assign rfl rfl ?_
          refine OWp.assign rfl rfl ?_
          refine OWp.assign rfl rfl ?_
          refine OWp.nil ?_
          refine CWp.ret ?_
          refine RetQ.four (by first | exact .inl rfl | exact .inr rfl) rfl rfl rfl rfl rfl rfl rfl rfl rfl ?_
          exact h i _ _ _ true hi ⟨fun _ => hir, fun _ => rfl⟩ (fun _ => ⟨rfl, fun j' hj' he => (by have := hb3.2 ((gap_unique _ j j' hj hj').trans he); simp_all), fun j' hj' hne => (by rw [gap_unique _ j' j2 hj' hj2, if_neg (by assumption)]; exact ⟨rfl, hx⟩)⟩) (fun e => by cases e)

end Go.Proofs.YtpfhkjbnofgikaaDoor.Ev
