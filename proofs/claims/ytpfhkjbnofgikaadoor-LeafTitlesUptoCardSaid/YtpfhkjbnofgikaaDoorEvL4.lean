import Derived.Test.YtpfhkjbnofgikaaDoorEvL1b
namespace Go.Proofs.YtpfhkjbnofgikaaDoor.Ev
open Go
set_option linter.unusedVariables false
set_option linter.unusedSimpArgs false

theorem headC_spec (s : ByteArray) (hs : s.size ≤ 9000000) (H : AH) (Q : Value → AH → Prop) (h : ∀ (i m : Nat) (n : Int) (x : ByteArray) (b : Bool), GapEnd s i → RunEnd s i 35 m → (b = true ↔ HeadR s i m) → (b = true → n = m ∧ x = titleC (s.extract (i + m) s.size)) → (b = false → n = 0 ∧ x = ⟨#[]⟩) → Q (.tuple #[.int .i64 n, .string x, .bool b]) H) : FWp Tryd.prog prims 11 [.string s] H Q := by
  refine FWp.enter (rfl) Tryd.func11 rfl (e := [.string s, undef, undef, undef, undef, undef, undef, undef, undef, undef, undef, undef, undef, undef, undef, undef, undef, undef, undef, undef, undef, undef, undef, undef, undef, undef, undef, undef, undef, undef, undef, undef, undef, undef, undef, undef, undef, undef, undef, undef, undef, undef, undef, undef, undef, undef, undef, undef, undef, undef, undef, undef, undef, undef, undef, undef, undef, undef, undef, undef, undef, undef, undef, undef, undef, undef, undef, undef, undef, undef, undef, undef]) rfl ?_
  refine CWp.seq ?_
  refine CWp.region ?_
  refine OWp.assign rfl rfl ?_
  refine OWp.assign rfl rfl ?_
  refine OWp.assign rfl rfl ?_
  refine OWp.nil ?_
  refine CWp.seq ?_
  refine CWp.region ?_
  refine OWp.move rfl rfl ?_
  refine OWp.call rfl rfl rfl rfl ?_
  refine inside_spec s hs _ _ (fun i t b hi ht hb => ?_)
  have hi1 := hi.1
  have hz : t.size = s.size - i := by rw [ht, ByteArray.size_extract]; omega
  refine OWp.norm ?_
  refine OWp.move rfl rfl ?_
  refine OWp.extract rfl rfl rfl rfl ?_
  refine OWp.extract rfl rfl rfl rfl ?_
  refine OWp.extract rfl rfl rfl rfl ?_
  refine OWp.assign rfl rfl ?_
  refine OWp.assign rfl rfl ?_
  refine OWp.assign rfl rfl ?_
  refine OWp.nil ?_
  refine CWp.seq ?_
  refine CWp.region ?_
  refine OWp.assign rfl rfl ?_
  refine OWp.nil ?_
  refine CWp.seq ?_
  refine CWp.block ?_
  refine CWp.loop (fun k e H' => ∃ (m : Nat) (g : Nat → Value), e = [.string s, g 1, g 2, g 3, g 4, .string t, g 6, .bool b, .int .i64 (m : Nat), g 9, g 10, g 11, g 12, g 13, g 14, g 15, g 16, g 17, g 18, g 19, g 20, g 21, g 22, g 23, g 24, g 25, g 26, g 27, g 28, g 29, g 30, g 31, g 32, g 33, g 34, g 35, g 36, g 37, g 38, g 39, g 40, g 41, g 42, g 43, g 44, g 45, g 46, g 47, g 48, g 49, g 50, g 51, g 52, g 53, g 54, g 55, g 56, g 57, g 58, g 59, g 60, g 61, g 62, g 63, g 64, g 65, g 66, g 67, g 68, g 69, g 70, g 71] ∧ k = t.size - m ∧ H = H' ∧ m ≤ t.size ∧ ∀ j : Nat, j < m → byteAt t (j : Nat) = 35) ?_ ?_
  · exact ⟨_, 0, ex_env rfl ⟨rfl, rfl, by omega, fun j h1 => by omega⟩⟩
  · rintro k e H' ⟨m, g, rfl, rfl, rfl, hm0, hj⟩
    refine CWp.seq ?_
    refine CWp.seq ?_
    refine CWp.region ?_
    refine OWp.move rfl rfl ?_
    refine OWp.move rfl rfl ?_
    refine OWp.lenS rfl rfl rfl rfl rfl Tryd.underlying9 rfl ?_
    refine OWp.binI rfl rfl rfl rfl rfl ?_
    refine OWp.move rfl rfl ?_
    first | refine OWp.byT rfl (fun hg1 => ?_) (fun hg1 => ?_) | refine OWp.byBT rfl (fun hg1 => ?_) (fun hg1 => ?_)
    · skip
      first | rw [decide_eq_true hg1] | rw [decide_eq_false hg1] | rw [hg1] | skip
      try simp only [Decidable.not_not] at hg1
      refine OWp.move rfl rfl ?_
      refine OWp.move rfl rfl ?_
      refine OWp.indexS rfl rfl Tryd.underlying9 rfl rfl (by omega) (by omega) ?_
      refine OWp.binI rfl rfl rfl rfl rfl ?_
      refine OWp.pickT rfl rfl rfl ?_
      refine OWp.nil ?_
      first | refine CWp.condP rfl (fun h2 => ?_) (fun h2 => ?_) | refine CWp.cond rfl (fun h2 => ?_) (fun h2 => ?_)
      · skip
        first | rw [decide_eq_true h2] | rw [decide_eq_false h2] | rw [h2] | skip
        refine CWp.skip ?_
        refine CWp.block ?_
        refine CWp.region ?_
        refine OWp.move rfl rfl ?_
        refine OWp.addI rfl rfl rfl rfl (by omega) ?_
        refine OWp.assign rfl rfl ?_
        refine OWp.nil ?_
        exact ⟨_, by omega, m + 1, ex_env rfl ⟨rfl, rfl, by omega, fun j a => by by_cases e : j = m; exact e ▸ (by assumption); exact hj j (by omega)⟩⟩
      · skip
        first | rw [decide_eq_true h2] | rw [decide_eq_false h2] | rw [h2] | skip
        refine CWp.exit ?_
        refine CWp.seq ?_
        refine CWp.seq ?_
        refine CWp.region ?_
        refine OWp.move rfl rfl ?_
        first | refine OWp.notD rfl rfl rfl ?_ | refine OWp.notB rfl rfl rfl ?_
        refine OWp.move rfl rfl ?_
        first | refine OWp.byF rfl (fun hg3 => ?_) (fun hg3 => ?_) | refine OWp.byBF rfl (fun hg3 => ?_) (fun hg3 => ?_)
        · skip
          first | rw [decide_eq_true hg3] | rw [decide_eq_false hg3] | rw [hg3] | skip
          try simp only [Decidable.not_not] at hg3
          refine OWp.move rfl rfl ?_
          refine OWp.binI rfl rfl rfl rfl rfl ?_
          refine OWp.pickF rfl rfl rfl ?_
          refine OWp.move rfl rfl ?_
          first | refine OWp.byF rfl (fun hg4 => ?_) (fun hg4 => ?_) | refine OWp.byBF rfl (fun hg4 => ?_) (fun hg4 => ?_)
          · skip
            first | rw [decide_eq_true hg4] | rw [decide_eq_false hg4] | rw [hg4] | skip
            try simp only [Decidable.not_not] at hg4
            refine OWp.move rfl rfl ?_
            refine OWp.binI rfl rfl rfl rfl rfl ?_
            refine OWp.pickF rfl rfl rfl ?_
            refine OWp.move rfl rfl ?_
            first | refine OWp.byF rfl (fun hg5 => ?_) (fun hg5 => ?_) | refine OWp.byBF rfl (fun hg5 => ?_) (fun hg5 => ?_)
            · skip
              first | rw [decide_eq_true hg5] | rw [decide_eq_false hg5] | rw [hg5] | skip
              try simp only [Decidable.not_not] at hg5
              refine OWp.move rfl rfl ?_
              refine OWp.move rfl rfl ?_
              refine OWp.lenS rfl rfl rfl rfl rfl Tryd.underlying9 rfl ?_
              refine OWp.binI rfl rfl rfl rfl rfl ?_
              refine OWp.move rfl rfl ?_
              first | refine OWp.byT rfl (fun hg6 => ?_) (fun hg6 => ?_) | refine OWp.byBT rfl (fun hg6 => ?_) (fun hg6 => ?_)
              · skip
                first | rw [decide_eq_true hg6] | rw [decide_eq_false hg6] | rw [hg6] | skip
                try simp only [Decidable.not_not] at hg6
                refine OWp.move rfl rfl ?_
                refine OWp.move rfl rfl ?_
                refine OWp.indexS rfl rfl Tryd.underlying9 rfl rfl (by omega) (by omega) ?_
                refine OWp.call rfl rfl rfl rfl ?_
                refine ws_spec _ (byteAt_u8 t m) _ _ (fun r hr1 => ?_)
                refine OWp.norm ?_
                refine OWp.binI rfl rfl rfl rfl rfl ?_
                refine OWp.pickT rfl rfl rfl ?_
                refine OWp.pickF rfl rfl rfl ?_
                refine OWp.nil ?_
                first | refine CWp.condP rfl (fun h7 => ?_) (fun h7 => ?_) | refine CWp.cond rfl (fun h7 => ?_) (fun h7 => ?_)
                · skip
                  first | rw [decide_eq_true h7] | rw [decide_eq_false h7] | rw [h7] | skip
                  refine CWp.seq ?_
                  refine CWp.region ?_
                  refine OWp.assign rfl rfl ?_
                  refine OWp.assign rfl rfl ?_
                  refine OWp.assign rfl rfl ?_
                  refine OWp.nil ?_
                  refine CWp.ret ?_
                  refine RetQ.three (by first | exact .inl rfl | exact .inr rfl) rfl rfl rfl rfl rfl rfl rfl ?_
                  have hm : RunEnd s i 35 m := run_shift s t i m 35 ht hi1 hm0 hj (fun hlt => by first | omega | assumption)
                  exact h i m 0 _ false hi hm ⟨fun e => (by cases e), fun hr => (by have a5 := hr.next (by omega); rw [← app_at s t i ht m] at a5; have := hr1.2 a5; omega)⟩ (fun e => by cases e) (fun _ => ⟨rfl, rfl⟩)
                · skip
                  first | rw [decide_eq_true h7] | rw [decide_eq_false h7] | rw [h7] | skip
                  refine CWp.skip ?_
                  refine CWp.seq ?_
                  refine CWp.region ?_
                  refine OWp.move rfl rfl ?_
                  refine OWp.move rfl rfl ?_
                  refine OWp.sliceS rfl rfl Tryd.underlying9 rfl rfl rfl (by omega) (by omega) (by omega) ?_
                  refine OWp.call rfl rfl rfl rfl ?_
                  refine trimW_spec _ (by have := ext_le t (m : Int).toNat (t.size : Int).toNat; omega) _ _ ?_
                  have hX : t.extract (m : Int).toNat (t.size : Int).toNat = s.extract (i + m) s.size := app_ext s t i m ht hi1
                  rw [hX]
                  have hXz := ext_le s (i + m) s.size
                  have hTz := trW_size (s.extract (i + m) s.size)
                  have hUz := backC_size (trW (s.extract (i + m) s.size)) ⟨#[35]⟩
                  generalize hXe : s.extract (i + m) s.size = X at hXz hTz hUz ⊢
                  refine OWp.norm ?_
                  refine OWp.assign rfl rfl ?_
                  refine OWp.nil ?_
                  refine CWp.seq ?_
                  refine CWp.seq ?_
                  refine CWp.region ?_
                  refine OWp.move rfl rfl ?_
                  refine OWp.call rfl rfl rfl rfl ?_
                  refine backH_spec _ (by omega) _ _ ?_
                  generalize hU : backC (trW X) ⟨#[35]⟩ = U at hUz ⊢
                  refine OWp.norm ?_
                  refine OWp.assign rfl rfl ?_
                  refine OWp.nil ?_
                  refine CWp.seq ?_
                  refine CWp.region ?_
                  refine OWp.move rfl rfl ?_
                  refine OWp.binS rfl rfl rfl rfl rfl ?_
                  refine OWp.move rfl rfl ?_
                  first | refine OWp.byF rfl (fun hg8 => ?_) (fun hg8 => ?_) | refine OWp.byBF rfl (fun hg8 => ?_) (fun hg8 => ?_)
                  · skip
                    try simp only [Decidable.not_not] at hg8
                    try simp only [hg8, eq_self, decide_true, decide_false, not_true_eq_false, not_false_eq_true, Bool.not_true, Bool.not_false]
                    have hne : 0 < U.size := by
                        rcases Nat.eq_zero_or_pos U.size with h0 | h0
                        · exact absurd ((empty_size U).2 h0) hg8
                        · exact h0
                    have hlast : byteAt U ((U.size : Int) - 1) = byteAt U (U.size - 1 : Nat) := by rw [show ((U.size : Int) - 1) = ((U.size - 1 : Nat) : Int) by omega]
                    refine OWp.move rfl rfl ?_
                    refine OWp.move rfl rfl ?_
                    refine OWp.lenS rfl rfl rfl rfl rfl Tryd.underlying9 rfl ?_
                    refine OWp.subI rfl rfl rfl rfl (by omega) ?_
                    refine OWp.indexS rfl rfl Tryd.underlying9 rfl rfl (by omega) (by omega) ?_
                    refine OWp.call rfl rfl rfl rfl ?_
                    refine ws_spec _ (byteAt_r U _) _ _ (fun r2 hr2 => ?_)
                    rw [hlast] at hr2
                    refine OWp.norm ?_
                    refine OWp.binI rfl rfl rfl rfl rfl ?_
                    refine OWp.pickF rfl rfl rfl ?_
                    refine OWp.nil ?_
                    first | refine CWp.condP rfl (fun h9 => ?_) (fun h9 => ?_) | refine CWp.cond rfl (fun h9 => ?_) (fun h9 => ?_)
                    · skip
                      first | rw [decide_eq_true h9] | rw [decide_eq_false h9] | rw [h9] | skip
                      refine CWp.region ?_
                      refine OWp.move rfl rfl ?_
                      refine OWp.call rfl rfl rfl rfl ?_
                      refine backW_spec _ (by omega) _ _ ?_
                      refine OWp.norm ?_
                      refine OWp.assign rfl rfl ?_
                      refine OWp.nil ?_
                      refine CWp.seq ?_
                      refine CWp.region ?_
                      refine OWp.move rfl rfl ?_
                      refine OWp.move rfl rfl ?_
                      refine OWp.assign rfl rfl ?_
                      refine OWp.assign rfl rfl ?_
                      refine OWp.assign rfl rfl ?_
                      refine OWp.nil ?_
                      refine CWp.ret ?_
                      refine RetQ.three (by first | exact .inl rfl | exact .inr rfl) rfl rfl rfl rfl rfl rfl rfl ?_
                      have hm : RunEnd s i 35 m := run_shift s t i m 35 ht hi1 hm0 hj (fun hlt => by first | omega | assumption)
                      exact h i m _ _ true hi hm ⟨fun _ => ⟨hb.1 (by simpa using hg3), by omega, by omega, fun hlt => by rw [← app_at s t i ht m]; exact hr1.1 (by omega)⟩, fun _ => rfl⟩ (fun _ => ⟨rfl, by rw [hXe]; exact (by rw [← hU]; exact (titleC_T X (.inr (by rw [hU]; exact hr2.1 (by omega)))).symm)⟩) (fun e => by cases e)
                    · skip
                      first | rw [decide_eq_true h9] | rw [decide_eq_false h9] | rw [h9] | skip
                      refine CWp.skip ?_
                      refine CWp.seq ?_
                      refine CWp.region ?_
                      refine OWp.move rfl rfl ?_
                      refine OWp.move rfl rfl ?_
                      refine OWp.assign rfl rfl ?_
                      refine OWp.assign rfl rfl ?_
                      refine OWp.assign rfl rfl ?_
                      refine OWp.nil ?_
                      refine CWp.ret ?_
                      refine RetQ.three (by first | exact .inl rfl | exact .inr rfl) rfl rfl rfl rfl rfl rfl rfl ?_
                      have hm : RunEnd s i 35 m := run_shift s t i m 35 ht hi1 hm0 hj (fun hlt => by first | omega | assumption)
                      exact h i m _ _ true hi hm ⟨fun _ => ⟨hb.1 (by simpa using hg3), by omega, by omega, fun hlt => by rw [← app_at s t i ht m]; exact hr1.1 (by omega)⟩, fun _ => rfl⟩ (fun _ => ⟨rfl, by rw [hXe]; exact (titleC_F X (by rw [hU]; rintro (k1 | k1); omega; have := hr2.2 k1; omega)).symm⟩) (fun e => by cases e)
                  · skip
                    simp only [decide_eq_true hg8]
                    refine OWp.leave rfl ?_
                    refine OWp.leave rfl ?_
                    refine OWp.leave rfl ?_
                    refine OWp.leave rfl ?_
                    refine OWp.leave rfl ?_
                    refine OWp.leave rfl ?_
                    refine OWp.leave rfl ?_
                    refine OWp.pickT rfl rfl rfl ?_
                    refine OWp.nil ?_
                    refine CWp.condT rfl ?_
                    refine CWp.region ?_
                    refine OWp.move rfl rfl ?_
                    refine OWp.call rfl rfl rfl rfl ?_
                    refine backW_spec _ (by omega) _ _ ?_
                    refine OWp.norm ?_
                    refine OWp.assign rfl rfl ?_
                    refine OWp.nil ?_
                    refine CWp.seq ?_
                    refine CWp.region ?_
                    refine OWp.move rfl rfl ?_
                    refine OWp.move rfl rfl ?_
                    refine OWp.assign rfl rfl ?_
                    refine OWp.assign rfl rfl ?_
                    refine OWp.assign rfl rfl ?_
                    refine OWp.nil ?_
                    refine CWp.ret ?_
                    refine RetQ.three (by first | exact .inl rfl | exact .inr rfl) rfl rfl rfl rfl rfl rfl rfl ?_
                    have hm : RunEnd s i 35 m := run_shift s t i m 35 ht hi1 hm0 hj (fun hlt => by first | omega | assumption)
                    exact h i m _ _ true hi hm ⟨fun _ => ⟨hb.1 (by simpa using hg3), by omega, by omega, fun hlt => by rw [← app_at s t i ht m]; exact hr1.1 (by omega)⟩, fun _ => rfl⟩ (fun _ => ⟨rfl, by rw [hXe]; exact (by rw [← hU]; exact (titleC_T X (.inl (by rw [hU, hg8]; rfl))).symm)⟩) (fun e => by cases e)
              · skip
                first | rw [decide_eq_true hg6] | rw [decide_eq_false hg6] | rw [hg6] | skip
                try simp only [Decidable.not_not] at hg6
                refine OWp.leave rfl ?_
                refine OWp.leave rfl ?_
                refine OWp.leave rfl ?_
                refine OWp.leave rfl ?_
                refine OWp.leave rfl ?_
                refine OWp.pickF rfl rfl rfl ?_
                refine OWp.pickF rfl rfl rfl ?_
                refine OWp.nil ?_
                refine CWp.condF rfl ?_
                refine CWp.skip ?_
                refine CWp.seq ?_
                refine CWp.region ?_
                refine OWp.move rfl rfl ?_
                refine OWp.move rfl rfl ?_
                refine OWp.sliceS rfl rfl Tryd.underlying9 rfl rfl rfl (by omega) (by omega) (by omega) ?_
                refine OWp.call rfl rfl rfl rfl ?_
                refine trimW_spec _ (by have := ext_le t (m : Int).toNat (t.size : Int).toNat; omega) _ _ ?_
                have hX : t.extract (m : Int).toNat (t.size : Int).toNat = s.extract (i + m) s.size := app_ext s t i m ht hi1
                rw [hX]
                have hXz := ext_le s (i + m) s.size
                have hTz := trW_size (s.extract (i + m) s.size)
                have hUz := backC_size (trW (s.extract (i + m) s.size)) ⟨#[35]⟩
                generalize hXe : s.extract (i + m) s.size = X at hXz hTz hUz ⊢
                refine OWp.norm ?_
                refine OWp.assign rfl rfl ?_
                refine OWp.nil ?_
                refine CWp.seq ?_
                refine CWp.seq ?_
                refine CWp.region ?_
                refine OWp.move rfl rfl ?_
                refine OWp.call rfl rfl rfl rfl ?_
                refine backH_spec _ (by omega) _ _ ?_
                generalize hU : backC (trW X) ⟨#[35]⟩ = U at hUz ⊢
                refine OWp.norm ?_
                refine OWp.assign rfl rfl ?_
                refine OWp.nil ?_
                refine CWp.seq ?_
                refine CWp.region ?_
                refine OWp.move rfl rfl ?_
                refine OWp.binS rfl rfl rfl rfl rfl ?_
                refine OWp.move rfl rfl ?_
                first | refine OWp.byF rfl (fun hg7 => ?_) (fun hg7 => ?_) | refine OWp.byBF rfl (fun hg7 => ?_) (fun hg7 => ?_)
                · skip
                  try simp only [Decidable.not_not] at hg7
                  try simp only [hg7, eq_self, decide_true, decide_false, not_true_eq_false, not_false_eq_true, Bool.not_true, Bool.not_false]
                  have hne : 0 < U.size := by
                      rcases Nat.eq_zero_or_pos U.size with h0 | h0
                      · exact absurd ((empty_size U).2 h0) hg7
                      · exact h0
                  have hlast : byteAt U ((U.size : Int) - 1) = byteAt U (U.size - 1 : Nat) := by rw [show ((U.size : Int) - 1) = ((U.size - 1 : Nat) : Int) by omega]
                  refine OWp.move rfl rfl ?_
                  refine OWp.move rfl rfl ?_
                  refine OWp.lenS rfl rfl rfl rfl rfl Tryd.underlying9 rfl ?_
                  refine OWp.subI rfl rfl rfl rfl (by omega) ?_
                  refine OWp.indexS rfl rfl Tryd.underlying9 rfl rfl (by omega) (by omega) ?_
                  refine OWp.call rfl rfl rfl rfl ?_
                  refine ws_spec _ (byteAt_r U _) _ _ (fun r2 hr2 => ?_)
                  rw [hlast] at hr2
                  refine OWp.norm ?_
                  refine OWp.binI rfl rfl rfl rfl rfl ?_
                  refine OWp.pickF rfl rfl rfl ?_
                  refine OWp.nil ?_
                  first | refine CWp.condP rfl (fun h8 => ?_) (fun h8 => ?_) | refine CWp.cond rfl (fun h8 => ?_) (fun h8 => ?_)
                  · skip
                    first | rw [decide_eq_true h8] | rw [decide_eq_false h8] | rw [h8] | skip
                    refine CWp.region ?_
                    refine OWp.move rfl rfl ?_
                    refine OWp.call rfl rfl rfl rfl ?_
                    refine backW_spec _ (by omega) _ _ ?_
                    refine OWp.norm ?_
                    refine OWp.assign rfl rfl ?_
                    refine OWp.nil ?_
                    refine CWp.seq ?_
                    refine CWp.region ?_
                    refine OWp.move rfl rfl ?_
                    refine OWp.move rfl rfl ?_
                    refine OWp.assign rfl rfl ?_
                    refine OWp.assign rfl rfl ?_
                    refine OWp.assign rfl rfl ?_
                    refine OWp.nil ?_
                    refine CWp.ret ?_
                    refine RetQ.three (by first | exact .inl rfl | exact .inr rfl) rfl rfl rfl rfl rfl rfl rfl ?_
                    have hm : RunEnd s i 35 m := run_shift s t i m 35 ht hi1 hm0 hj (fun hlt => by first | omega | assumption)
                    exact h i m _ _ true hi hm ⟨fun _ => ⟨hb.1 (by simpa using hg3), by omega, by omega, fun hlt => by omega⟩, fun _ => rfl⟩ (fun _ => ⟨rfl, by rw [hXe]; exact (by rw [← hU]; exact (titleC_T X (.inr (by rw [hU]; exact hr2.1 (by omega)))).symm)⟩) (fun e => by cases e)
                  · skip
                    first | rw [decide_eq_true h8] | rw [decide_eq_false h8] | rw [h8] | skip
                    refine CWp.skip ?_
                    refine CWp.seq ?_
                    refine CWp.region ?_
                    refine OWp.move rfl rfl ?_
                    refine OWp.move rfl rfl ?_
                    refine OWp.assign rfl rfl ?_
                    refine OWp.assign rfl rfl ?_
                    refine OWp.assign rfl rfl ?_
                    refine OWp.nil ?_
                    refine CWp.ret ?_
                    refine RetQ.three (by first | exact .inl rfl | exact .inr rfl) rfl rfl rfl rfl rfl rfl rfl ?_
                    have hm : RunEnd s i 35 m := run_shift s t i m 35 ht hi1 hm0 hj (fun hlt => by first | omega | assumption)
                    exact h i m _ _ true hi hm ⟨fun _ => ⟨hb.1 (by simpa using hg3), by omega, by omega, fun hlt => by omega⟩, fun _ => rfl⟩ (fun _ => ⟨rfl, by rw [hXe]; exact (titleC_F X (by rw [hU]; rintro (k1 | k1); omega; have := hr2.2 k1; omega)).symm⟩) (fun e => by cases e)
                · skip
                  simp only [decide_eq_true hg7]
                  refine OWp.leave rfl ?_
                  refine OWp.leave rfl ?_
                  refine OWp.leave rfl ?_
                  refine OWp.leave rfl ?_
                  refine OWp.leave rfl ?_
                  refine OWp.leave rfl ?_
                  refine OWp.leave rfl ?_
                  refine OWp.pickT rfl rfl rfl ?_
                  refine OWp.nil ?_
                  refine CWp.condT rfl ?_
                  refine CWp.region ?_
                  refine OWp.move rfl rfl ?_
                  refine OWp.call rfl rfl rfl rfl ?_
                  refine backW_spec _ (by omega) _ _ ?_
                  refine OWp.norm ?_
                  refine OWp.assign rfl rfl ?_
                  refine OWp.nil ?_
                  refine CWp.seq ?_
                  refine CWp.region ?_
                  refine OWp.move rfl rfl ?_
                  refine OWp.move rfl rfl ?_
                  refine OWp.assign rfl rfl ?_
                  refine OWp.assign rfl rfl ?_
                  refine OWp.assign rfl rfl ?_
                  refine OWp.nil ?_
                  refine CWp.ret ?_
                  refine RetQ.three (by first | exact .inl rfl | exact .inr rfl) rfl rfl rfl rfl rfl rfl rfl ?_
                  have hm : RunEnd s i 35 m := run_shift s t i m 35 ht hi1 hm0 hj (fun hlt => by first | omega | assumption)
                  exact h i m _ _ true hi hm ⟨fun _ => ⟨hb.1 (by simpa using hg3), by omega, by omega, fun hlt => by omega⟩, fun _ => rfl⟩ (fun _ => ⟨rfl, by rw [hXe]; exact (by rw [← hU]; exact (titleC_T X (.inl (by rw [hU, hg7]; rfl))).symm)⟩) (fun e => by cases e)
            · skip
              first | rw [decide_eq_true hg5] | rw [decide_eq_false hg5] | rw [hg5] | skip
              try simp only [Decidable.not_not] at hg5
              refine OWp.leave rfl ?_
              refine OWp.leave rfl ?_
              refine OWp.leave rfl ?_
              refine OWp.leave rfl ?_
              refine OWp.leave rfl ?_
              refine OWp.leave rfl ?_
              refine OWp.leave rfl ?_
              refine OWp.leave rfl ?_
              refine OWp.leave rfl ?_
              refine OWp.leave rfl ?_
              refine OWp.leave rfl ?_
              refine OWp.pickT rfl rfl rfl ?_
              refine OWp.nil ?_
              refine CWp.condT rfl ?_
              refine CWp.seq ?_
              refine CWp.region ?_
              refine OWp.assign rfl rfl ?_
              refine OWp.assign rfl rfl ?_
              refine OWp.assign rfl rfl ?_
              refine OWp.nil ?_
              refine CWp.ret ?_
              refine RetQ.three (by first | exact .inl rfl | exact .inr rfl) rfl rfl rfl rfl rfl rfl rfl ?_
              have hm : RunEnd s i 35 m := run_shift s t i m 35 ht hi1 hm0 hj (fun hlt => by first | omega | assumption)
              exact h i m 0 _ false hi hm ⟨fun e => (by cases e), fun hr => (by have := hr.hi; omega)⟩ (fun e => by cases e) (fun _ => ⟨rfl, rfl⟩)
          · skip
            first | rw [decide_eq_true hg4] | rw [decide_eq_false hg4] | rw [hg4] | skip
            try simp only [Decidable.not_not] at hg4
            refine OWp.leave rfl ?_
            refine OWp.leave rfl ?_
            refine OWp.pickT rfl rfl rfl ?_
            refine OWp.move rfl rfl ?_
            refine OWp.leave rfl ?_
            refine OWp.leave rfl ?_
            refine OWp.leave rfl ?_
            refine OWp.leave rfl ?_
            refine OWp.leave rfl ?_
            refine OWp.leave rfl ?_
            refine OWp.leave rfl ?_
            refine OWp.leave rfl ?_
            refine OWp.leave rfl ?_
            refine OWp.leave rfl ?_
            refine OWp.leave rfl ?_
            refine OWp.pickT rfl rfl rfl ?_
            refine OWp.nil ?_
            refine CWp.condT rfl ?_
            refine CWp.seq ?_
            refine CWp.region ?_
            refine OWp.assign rfl rfl ?_
            refine OWp.assign rfl rfl ?_
            refine OWp.assign rfl rfl ?_
            refine OWp.nil ?_
            refine CWp.ret ?_
            refine RetQ.three (by first | exact .inl rfl | exact .inr rfl) rfl rfl rfl rfl rfl rfl rfl ?_
            have hm : RunEnd s i 35 m := run_shift s t i m 35 ht hi1 hm0 hj (fun hlt => by first | omega | assumption)
            exact h i m 0 _ false hi hm ⟨fun e => (by cases e), fun hr => (by have := hr.lo; omega)⟩ (fun e => by cases e) (fun _ => ⟨rfl, rfl⟩)
        · skip
          first | rw [decide_eq_true hg3] | rw [decide_eq_false hg3] | rw [hg3] | skip
          try simp only [Decidable.not_not] at hg3
          refine OWp.leave rfl ?_
          refine OWp.leave rfl ?_
          refine OWp.pickT rfl rfl rfl ?_
          refine OWp.move rfl rfl ?_
          refine OWp.leave rfl ?_
          refine OWp.leave rfl ?_
          refine OWp.pickT rfl rfl rfl ?_
          refine OWp.move rfl rfl ?_
          refine OWp.leave rfl ?_
          refine OWp.leave rfl ?_
          refine OWp.leave rfl ?_
          refine OWp.leave rfl ?_
          refine OWp.leave rfl ?_
          refine OWp.leave rfl ?_
          refine OWp.leave rfl ?_
          refine OWp.leave rfl ?_
          refine OWp.leave rfl ?_
          refine OWp.leave rfl ?_
          refine OWp.leave rfl ?_
          refine OWp.pickT rfl rfl rfl ?_
          refine OWp.nil ?_
          refine CWp.condT rfl ?_
          refine CWp.seq ?_
          refine CWp.region ?_
          refine OWp.assign rfl rfl ?_
          refine OWp.assign rfl rfl ?_
          refine OWp.assign rfl rfl ?_
          refine OWp.nil ?_
          refine CWp.ret ?_
          refine RetQ.three (by first | exact .inl rfl | exact .inr rfl) rfl rfl rfl rfl rfl rfl rfl ?_
          have hm : RunEnd s i 35 m := run_shift s t i m 35 ht hi1 hm0 hj (fun hlt => by first | omega | assumption)
          exact h i m 0 _ false hi hm ⟨fun e => (by cases e), fun hr => (by have := hb.2 hr.col; simp_all)⟩ (fun e => by cases e) (fun _ => ⟨rfl, rfl⟩)
    · skip
      first | rw [decide_eq_true hg1] | rw [decide_eq_false hg1] | rw [hg1] | skip
      try simp only [Decidable.not_not] at hg1
      refine OWp.leave rfl ?_
      refine OWp.leave rfl ?_
      refine OWp.leave rfl ?_
      refine OWp.leave rfl ?_
      refine OWp.pickF rfl rfl rfl ?_
      refine OWp.nil ?_
      refine CWp.condF rfl ?_
      refine CWp.exit ?_
      refine CWp.seq ?_
      refine CWp.seq ?_
      refine CWp.region ?_
      refine OWp.move rfl rfl ?_
      first | refine OWp.notD rfl rfl rfl ?_ | refine OWp.notB rfl rfl rfl ?_
      refine OWp.move rfl rfl ?_
      first | refine OWp.byF rfl (fun hg2 => ?_) (fun hg2 => ?_) | refine OWp.byBF rfl (fun hg2 => ?_) (fun hg2 => ?_)
      · skip
        first | rw [decide_eq_true hg2] | rw [decide_eq_false hg2] | rw [hg2] | skip
        try simp only [Decidable.not_not] at hg2
        refine OWp.move rfl rfl ?_
        refine OWp.binI rfl rfl rfl rfl rfl ?_
        refine OWp.pickF rfl rfl rfl ?_
        refine OWp.move rfl rfl ?_
        first | refine OWp.byF rfl (fun hg3 => ?_) (fun hg3 => ?_) | refine OWp.byBF rfl (fun hg3 => ?_) (fun hg3 => ?_)
        · skip
          first | rw [decide_eq_true hg3] | rw [decide_eq_false hg3] | rw [hg3] | skip
          try simp only [Decidable.not_not] at hg3
          refine OWp.move rfl rfl ?_
          refine OWp.binI rfl rfl rfl rfl rfl ?_
          refine OWp.pickF rfl rfl rfl ?_
          refine OWp.move rfl rfl ?_
          first | refine OWp.byF rfl (fun hg4 => ?_) (fun hg4 => ?_) | refine OWp.byBF rfl (fun hg4 => ?_) (fun hg4 => ?_)
          · skip
            first | rw [decide_eq_true hg4] | rw [decide_eq_false hg4] | rw [hg4] | skip
            try simp only [Decidable.not_not] at hg4
            refine OWp.move rfl rfl ?_
            refine OWp.move rfl rfl ?_
            refine OWp.lenS rfl rfl rfl rfl rfl Tryd.underlying9 rfl ?_
            refine OWp.binI rfl rfl rfl rfl rfl ?_
            refine OWp.move rfl rfl ?_
            first | refine OWp.byT rfl (fun hg5 => ?_) (fun hg5 => ?_) | refine OWp.byBT rfl (fun hg5 => ?_) (fun hg5 => ?_)
            · skip
              first | rw [decide_eq_true hg5] | rw [decide_eq_false hg5] | rw [hg5] | skip
              try simp only [Decidable.not_not] at hg5
              refine OWp.move rfl rfl ?_
              refine OWp.move rfl rfl ?_
              refine OWp.indexS rfl rfl Tryd.underlying9 rfl rfl (by omega) (by omega) ?_
              refine OWp.call rfl rfl rfl rfl ?_
              refine ws_spec _ (byteAt_u8 t m) _ _ (fun r hr1 => ?_)
              refine OWp.norm ?_
              refine OWp.binI rfl rfl rfl rfl rfl ?_
              refine OWp.pickT rfl rfl rfl ?_
              refine OWp.pickF rfl rfl rfl ?_
              refine OWp.nil ?_
              first | refine CWp.condP rfl (fun h6 => ?_) (fun h6 => ?_) | refine CWp.cond rfl (fun h6 => ?_) (fun h6 => ?_)
              · skip
                first | rw [decide_eq_true h6] | rw [decide_eq_false h6] | rw [h6] | skip
                refine CWp.seq ?_
                refine CWp.region ?_
                refine OWp.assign rfl rfl ?_
                refine OWp.assign rfl rfl ?_
                refine OWp.assign rfl rfl ?_
                refine OWp.nil ?_
                refine CWp.ret ?_
                refine RetQ.three (by first | exact .inl rfl | exact .inr rfl) rfl rfl rfl rfl rfl rfl rfl ?_
                have hm : RunEnd s i 35 m := run_shift s t i m 35 ht hi1 hm0 hj (fun hlt => by first | omega | assumption)
                exact h i m 0 _ false hi hm ⟨fun e => (by cases e), fun hr => (by have a5 := hr.next (by omega); rw [← app_at s t i ht m] at a5; have := hr1.2 a5; omega)⟩ (fun e => by cases e) (fun _ => ⟨rfl, rfl⟩)
              · skip
                first | rw [decide_eq_true h6] | rw [decide_eq_false h6] | rw [h6] | skip
                refine CWp.skip ?_
                refine CWp.seq ?_
                refine CWp.region ?_
                refine OWp.move rfl rfl ?_
                refine OWp.move rfl rfl ?_
                refine OWp.sliceS rfl rfl Tryd.underlying9 rfl rfl rfl (by omega) (by omega) (by omega) ?_
                refine OWp.call rfl rfl rfl rfl ?_
                refine trimW_spec _ (by have := ext_le t (m : Int).toNat (t.size : Int).toNat; omega) _ _ ?_
                have hX : t.extract (m : Int).toNat (t.size : Int).toNat = s.extract (i + m) s.size := app_ext s t i m ht hi1
                rw [hX]
                have hXz := ext_le s (i + m) s.size
                have hTz := trW_size (s.extract (i + m) s.size)
                have hUz := backC_size (trW (s.extract (i + m) s.size)) ⟨#[35]⟩
                generalize hXe : s.extract (i + m) s.size = X at hXz hTz hUz ⊢
                refine OWp.norm ?_
                refine OWp.assign rfl rfl ?_
                refine OWp.nil ?_
                refine CWp.seq ?_
                refine CWp.seq ?_
                refine CWp.region ?_
                refine OWp.move rfl rfl ?_
                refine OWp.call rfl rfl rfl rfl ?_
                refine backH_spec _ (by omega) _ _ ?_
                generalize hU : backC (trW X) ⟨#[35]⟩ = U at hUz ⊢
                refine OWp.norm ?_
                refine OWp.assign rfl rfl ?_
                refine OWp.nil ?_
                refine CWp.seq ?_
                refine CWp.region ?_
                refine OWp.move rfl rfl ?_
                refine OWp.binS rfl rfl rfl rfl rfl ?_
                refine OWp.move rfl rfl ?_
                first | refine OWp.byF rfl (fun hg7 => ?_) (fun hg7 => ?_) | refine OWp.byBF rfl (fun hg7 => ?_) (fun hg7 => ?_)
                · skip
                  try simp only [Decidable.not_not] at hg7
                  try simp only [hg7, eq_self, decide_true, decide_false, not_true_eq_false, not_false_eq_true, Bool.not_true, Bool.not_false]
                  have hne : 0 < U.size := by
                      rcases Nat.eq_zero_or_pos U.size with h0 | h0
                      · exact absurd ((empty_size U).2 h0) hg7
                      · exact h0
                  have hlast : byteAt U ((U.size : Int) - 1) = byteAt U (U.size - 1 : Nat) := by rw [show ((U.size : Int) - 1) = ((U.size - 1 : Nat) : Int) by omega]
                  refine OWp.move rfl rfl ?_
                  refine OWp.move rfl rfl ?_
                  refine OWp.lenS rfl rfl rfl rfl rfl Tryd.underlying9 rfl ?_
                  refine OWp.subI rfl rfl rfl rfl (by omega) ?_
                  refine OWp.indexS rfl rfl Tryd.underlying9 rfl rfl (by omega) (by omega) ?_
                  refine OWp.call rfl rfl rfl rfl ?_
                  refine ws_spec _ (byteAt_r U _) _ _ (fun r2 hr2 => ?_)
                  rw [hlast] at hr2
                  refine OWp.norm ?_
                  refine OWp.binI rfl rfl rfl rfl rfl ?_
                  refine OWp.pickF rfl rfl rfl ?_
                  refine OWp.nil ?_
                  first | refine CWp.condP rfl (fun h8 => ?_) (fun h8 => ?_) | refine CWp.cond rfl (fun h8 => ?_) (fun h8 => ?_)
                  · skip
                    first | rw [decide_eq_true h8] | rw [decide_eq_false h8] | rw [h8] | skip
                    refine CWp.region ?_
                    refine OWp.move rfl rfl ?_
                    refine OWp.call rfl rfl rfl rfl ?_
                    refine backW_spec _ (by omega) _ _ ?_
                    refine OWp.norm ?_
                    refine OWp.assign rfl rfl ?_
                    refine OWp.nil ?_
                    refine CWp.seq ?_
                    refine CWp.region ?_
                    refine OWp.move rfl rfl ?_
                    refine OWp.move rfl rfl ?_
                    refine OWp.assign rfl rfl ?_
                    refine OWp.assign rfl rfl ?_
                    refine OWp.assign rfl rfl ?_
                    refine OWp.nil ?_
                    refine CWp.ret ?_
                    refine RetQ.three (by first | exact .inl rfl | exact .inr rfl) rfl rfl rfl rfl rfl rfl rfl ?_
                    have hm : RunEnd s i 35 m := run_shift s t i m 35 ht hi1 hm0 hj (fun hlt => by first | omega | assumption)
                    exact h i m _ _ true hi hm ⟨fun _ => ⟨hb.1 (by simpa using hg2), by omega, by omega, fun hlt => by rw [← app_at s t i ht m]; exact hr1.1 (by omega)⟩, fun _ => rfl⟩ (fun _ => ⟨rfl, by rw [hXe]; exact (by rw [← hU]; exact (titleC_T X (.inr (by rw [hU]; exact hr2.1 (by omega)))).symm)⟩) (fun e => by cases e)
                  · skip
                    first | rw [decide_eq_true h8] | rw [decide_eq_false h8] | rw [h8] | skip
                    refine CWp.skip ?_
                    refine CWp.seq ?_
                    refine CWp.region ?_
                    refine OWp.move rfl rfl ?_
                    refine OWp.move rfl rfl ?_
                    refine OWp.assign rfl rfl ?_
                    refine OWp.assign rfl rfl ?_
                    refine OWp.assign rfl rfl ?_
                    refine OWp.nil ?_
                    refine CWp.ret ?_
                    refine RetQ.three (by first | exact .inl rfl | exact .inr rfl) rfl rfl rfl rfl rfl rfl rfl ?_
                    have hm : RunEnd s i 35 m := run_shift s t i m 35 ht hi1 hm0 hj (fun hlt => by first | omega | assumption)
                    exact h i m _ _ true hi hm ⟨fun _ => ⟨hb.1 (by simpa using hg2), by omega, by omega, fun hlt => by rw [← app_at s t i ht m]; exact hr1.1 (by omega)⟩, fun _ => rfl⟩ (fun _ => ⟨rfl, by rw [hXe]; exact (titleC_F X (by rw [hU]; rintro (k1 | k1); omega; have := hr2.2 k1; omega)).symm⟩) (fun e => by cases e)
                · skip
                  simp only [decide_eq_true hg7]
                  refine OWp.leave rfl ?_
                  refine OWp.leave rfl ?_
                  refine OWp.leave rfl ?_
                  refine OWp.leave rfl ?_
                  refine OWp.leave rfl ?_
                  refine OWp.leave rfl ?_
                  refine OWp.leave rfl ?_
                  refine OWp.pickT rfl rfl rfl ?_
                  refine OWp.nil ?_
                  refine CWp.condT rfl ?_
                  refine CWp.region ?_
                  refine OWp.move rfl rfl ?_
                  refine OWp.call rfl rfl rfl rfl ?_
                  refine backW_spec _ (by omega) _ _ ?_
                  refine OWp.norm ?_
                  refine OWp.assign rfl rfl ?_
                  refine OWp.nil ?_
                  refine CWp.seq ?_
                  refine CWp.region ?_
                  refine OWp.move rfl rfl ?_
                  refine OWp.move rfl rfl ?_
                  refine OWp.assign rfl rfl ?_
                  refine OWp.assign rfl rfl ?_
                  refine OWp.assign rfl rfl ?_
                  refine OWp.nil ?_
                  refine CWp.ret ?_
                  refine RetQ.three (by first | exact .inl rfl | exact .inr rfl) rfl rfl rfl rfl rfl rfl rfl ?_
                  have hm : RunEnd s i 35 m := run_shift s t i m 35 ht hi1 hm0 hj (fun hlt => by first | omega | assumption)
                  exact h i m _ _ true hi hm ⟨fun _ => ⟨hb.1 (by simpa using hg2), by omega, by omega, fun hlt => by rw [← app_at s t i ht m]; exact hr1.1 (by omega)⟩, fun _ => rfl⟩ (fun _ => ⟨rfl, by rw [hXe]; exact (by rw [← hU]; exact (titleC_T X (.inl (by rw [hU, hg7]; rfl))).symm)⟩) (fun e => by cases e)
            · skip
              first | rw [decide_eq_true hg5] | rw [decide_eq_false hg5] | rw [hg5] | skip
              try simp only [Decidable.not_not] at hg5
              refine OWp.leave rfl ?_
              refine OWp.leave rfl ?_
              refine OWp.leave rfl ?_
              refine OWp.leave rfl ?_
              refine OWp.leave rfl ?_
              refine OWp.pickF rfl rfl rfl ?_
              refine OWp.pickF rfl rfl rfl ?_
              refine OWp.nil ?_
              refine CWp.condF rfl ?_
              refine CWp.skip ?_
              refine CWp.seq ?_
              refine CWp.region ?_
              refine OWp.move rfl rfl ?_
              refine OWp.move rfl rfl ?_
              refine OWp.sliceS rfl rfl Tryd.underlying9 rfl rfl rfl (by omega) (by omega) (by omega) ?_
              refine OWp.call rfl rfl rfl rfl ?_
              refine trimW_spec _ (by have := ext_le t (m : Int).toNat (t.size : Int).toNat; omega) _ _ ?_
              have hX : t.extract (m : Int).toNat (t.size : Int).toNat = s.extract (i + m) s.size := app_ext s t i m ht hi1
              rw [hX]
              have hXz := ext_le s (i + m) s.size
              have hTz := trW_size (s.extract (i + m) s.size)
              have hUz := backC_size (trW (s.extract (i + m) s.size)) ⟨#[35]⟩
              generalize hXe : s.extract (i + m) s.size = X at hXz hTz hUz ⊢
              refine OWp.norm ?_
              refine OWp.assign rfl rfl ?_
              refine OWp.nil ?_
              refine CWp.seq ?_
              refine CWp.seq ?_
              refine CWp.region ?_
              refine OWp.move rfl rfl ?_
              refine OWp.call rfl rfl rfl rfl ?_
              refine backH_spec _ (by omega) _ _ ?_
              generalize hU : backC (trW X) ⟨#[35]⟩ = U at hUz ⊢
              refine OWp.norm ?_
              refine OWp.assign rfl rfl ?_
              refine OWp.nil ?_
              refine CWp.seq ?_
              refine CWp.region ?_
              refine OWp.move rfl rfl ?_
              refine OWp.binS rfl rfl rfl rfl rfl ?_
              refine OWp.move rfl rfl ?_
              first | refine OWp.byF rfl (fun hg6 => ?_) (fun hg6 => ?_) | refine OWp.byBF rfl (fun hg6 => ?_) (fun hg6 => ?_)
              · skip
                try simp only [Decidable.not_not] at hg6
                try simp only [hg6, eq_self, decide_true, decide_false, not_true_eq_false, not_false_eq_true, Bool.not_true, Bool.not_false]
                have hne : 0 < U.size := by
                    rcases Nat.eq_zero_or_pos U.size with h0 | h0
                    · exact absurd ((empty_size U).2 h0) hg6
                    · exact h0
                have hlast : byteAt U ((U.size : Int) - 1) = byteAt U (U.size - 1 : Nat) := by rw [show ((U.size : Int) - 1) = ((U.size - 1 : Nat) : Int) by omega]
                refine OWp.move rfl rfl ?_
                refine OWp.move rfl rfl ?_
                refine OWp.lenS rfl rfl rfl rfl rfl Tryd.underlying9 rfl ?_
                refine OWp.subI rfl rfl rfl rfl (by omega) ?_
                refine OWp.indexS rfl rfl Tryd.underlying9 rfl rfl (by omega) (by omega) ?_
                refine OWp.call rfl rfl rfl rfl ?_
                refine ws_spec _ (byteAt_r U _) _ _ (fun r2 hr2 => ?_)
                rw [hlast] at hr2
                refine OWp.norm ?_
                refine OWp.binI rfl rfl rfl rfl rfl ?_
                refine OWp.pickF rfl rfl rfl ?_
                refine OWp.nil ?_
                first | refine CWp.condP rfl (fun h7 => ?_) (fun h7 => ?_) | refine CWp.cond rfl (fun h7 => ?_) (fun h7 => ?_)
                · skip
                  first | rw [decide_eq_true h7] | rw [decide_eq_false h7] | rw [h7] | skip
                  refine CWp.region ?_
                  refine OWp.move rfl rfl ?_
                  refine OWp.call rfl rfl rfl rfl ?_
                  refine backW_spec _ (by omega) _ _ ?_
                  refine OWp.norm ?_
                  refine OWp.assign rfl rfl ?_
                  refine OWp.nil ?_
                  refine CWp.seq ?_
                  refine CWp.region ?_
                  refine OWp.move rfl rfl ?_
                  refine OWp.move rfl rfl ?_
                  refine OWp.assign rfl rfl ?_
                  refine OWp.assign rfl rfl ?_
                  refine OWp.assign rfl rfl ?_
                  refine OWp.nil ?_
                  refine CWp.ret ?_
                  refine RetQ.three (by first | exact .inl rfl | exact .inr rfl) rfl rfl rfl rfl rfl rfl rfl ?_
                  have hm : RunEnd s i 35 m := run_shift s t i m 35 ht hi1 hm0 hj (fun hlt => by first | omega | assumption)
                  exact h i m _ _ true hi hm ⟨fun _ => ⟨hb.1 (by simpa using hg2), by omega, by omega, fun hlt => by omega⟩, fun _ => rfl⟩ (fun _ => ⟨rfl, by rw [hXe]; exact (by rw [← hU]; exact (titleC_T X (.inr (by rw [hU]; exact hr2.1 (by omega)))).symm)⟩) (fun e => by cases e)
                · skip
                  first | rw [decide_eq_true h7] | rw [decide_eq_false h7] | rw [h7] | skip
                  refine CWp.skip ?_
                  refine CWp.seq ?_
                  refine CWp.region ?_
                  refine OWp.move rfl rfl ?_
                  refine OWp.move rfl rfl ?_
                  refine OWp.assign rfl rfl ?_
                  refine OWp.assign rfl rfl ?_
                  refine OWp.assign rfl rfl ?_
                  refine OWp.nil ?_
                  refine CWp.ret ?_
                  refine RetQ.three (by first | exact .inl rfl | exact .inr rfl) rfl rfl rfl rfl rfl rfl rfl ?_
                  have hm : RunEnd s i 35 m := run_shift s t i m 35 ht hi1 hm0 hj (fun hlt => by first | omega | assumption)
                  exact h i m _ _ true hi hm ⟨fun _ => ⟨hb.1 (by simpa using hg2), by omega, by omega, fun hlt => by omega⟩, fun _ => rfl⟩ (fun _ => ⟨rfl, by rw [hXe]; exact (titleC_F X (by rw [hU]; rintro (k1 | k1); omega; have := hr2.2 k1; omega)).symm⟩) (fun e => by cases e)
              · skip
                simp only [decide_eq_true hg6]
                refine OWp.leave rfl ?_
                refine OWp.leave rfl ?_
                refine OWp.leave rfl ?_
                refine OWp.leave rfl ?_
                refine OWp.leave rfl ?_
                refine OWp.leave rfl ?_
                refine OWp.leave rfl ?_
                refine OWp.pickT rfl rfl rfl ?_
                refine OWp.nil ?_
                refine CWp.condT rfl ?_
                refine CWp.region ?_
                refine OWp.move rfl rfl ?_
                refine OWp.call rfl rfl rfl rfl ?_
                refine backW_spec _ (by omega) _ _ ?_
                refine OWp.norm ?_
                refine OWp.assign rfl rfl ?_
                refine OWp.nil ?_
                refine CWp.seq ?_
                refine CWp.region ?_
                refine OWp.move rfl rfl ?_
                refine OWp.move rfl rfl ?_
                refine OWp.assign rfl rfl ?_
                refine OWp.assign rfl rfl ?_
                refine OWp.assign rfl rfl ?_
                refine OWp.nil ?_
                refine CWp.ret ?_
                refine RetQ.three (by first | exact .inl rfl | exact .inr rfl) rfl rfl rfl rfl rfl rfl rfl ?_
                have hm : RunEnd s i 35 m := run_shift s t i m 35 ht hi1 hm0 hj (fun hlt => by first | omega | assumption)
                exact h i m _ _ true hi hm ⟨fun _ => ⟨hb.1 (by simpa using hg2), by omega, by omega, fun hlt => by omega⟩, fun _ => rfl⟩ (fun _ => ⟨rfl, by rw [hXe]; exact (by rw [← hU]; exact (titleC_T X (.inl (by rw [hU, hg6]; rfl))).symm)⟩) (fun e => by cases e)
          · skip
            first | rw [decide_eq_true hg4] | rw [decide_eq_false hg4] | rw [hg4] | skip
            try simp only [Decidable.not_not] at hg4
            refine OWp.leave rfl ?_
            refine OWp.leave rfl ?_
            refine OWp.leave rfl ?_
            refine OWp.leave rfl ?_
            refine OWp.leave rfl ?_
            refine OWp.leave rfl ?_
            refine OWp.leave rfl ?_
            refine OWp.leave rfl ?_
            refine OWp.leave rfl ?_
            refine OWp.leave rfl ?_
            refine OWp.leave rfl ?_
            refine OWp.pickT rfl rfl rfl ?_
            refine OWp.nil ?_
            refine CWp.condT rfl ?_
            refine CWp.seq ?_
            refine CWp.region ?_
            refine OWp.assign rfl rfl ?_
            refine OWp.assign rfl rfl ?_
            refine OWp.assign rfl rfl ?_
            refine OWp.nil ?_
            refine CWp.ret ?_
            refine RetQ.three (by first | exact .inl rfl | exact .inr rfl) rfl rfl rfl rfl rfl rfl rfl ?_
            have hm : RunEnd s i 35 m := run_shift s t i m 35 ht hi1 hm0 hj (fun hlt => by first | omega | assumption)
            exact h i m 0 _ false hi hm ⟨fun e => (by cases e), fun hr => (by have := hr.hi; omega)⟩ (fun e => by cases e) (fun _ => ⟨rfl, rfl⟩)
        · skip
          first | rw [decide_eq_true hg3] | rw [decide_eq_false hg3] | rw [hg3] | skip
          try simp only [Decidable.not_not] at hg3
          refine OWp.leave rfl ?_
          refine OWp.leave rfl ?_
          refine OWp.pickT rfl rfl rfl ?_
          refine OWp.move rfl rfl ?_
          refine OWp.leave rfl ?_
          refine OWp.leave rfl ?_
          refine OWp.leave rfl ?_
          refine OWp.leave rfl ?_
          refine OWp.leave rfl ?_
          refine OWp.leave rfl ?_
          refine OWp.leave rfl ?_
          refine OWp.leave rfl ?_
          refine OWp.leave rfl ?_
          refine OWp.leave rfl ?_
          refine OWp.leave rfl ?_
          refine OWp.pickT rfl rfl rfl ?_
          refine OWp.nil ?_
          refine CWp.condT rfl ?_
          refine CWp.seq ?_
          refine CWp.region ?_
          refine OWp.assign rfl rfl ?_
          refine OWp.assign rfl rfl ?_
          refine OWp.assign rfl rfl ?_
          refine OWp.nil ?_
          refine CWp.ret ?_
          refine RetQ.three (by first | exact .inl rfl | exact .inr rfl) rfl rfl rfl rfl rfl rfl rfl ?_
          have hm : RunEnd s i 35 m := run_shift s t i m 35 ht hi1 hm0 hj (fun hlt => by first | omega | assumption)
          exact h i m 0 _ false hi hm ⟨fun e => (by cases e), fun hr => (by have := hr.lo; omega)⟩ (fun e => by cases e) (fun _ => ⟨rfl, rfl⟩)
      · skip
        first | rw [decide_eq_true hg2] | rw [decide_eq_false hg2] | rw [hg2] | skip
        try simp only [Decidable.not_not] at hg2
        refine OWp.leave rfl ?_
        refine OWp.leave rfl ?_
        refine OWp.pickT rfl rfl rfl ?_
        refine OWp.move rfl rfl ?_
        refine OWp.leave rfl ?_
        refine OWp.leave rfl ?_
        refine OWp.pickT rfl rfl rfl ?_
        refine OWp.move rfl rfl ?_
        refine OWp.leave rfl ?_
        refine OWp.leave rfl ?_
        refine OWp.leave rfl ?_
        refine OWp.leave rfl ?_
        refine OWp.leave rfl ?_
        refine OWp.leave rfl ?_
        refine OWp.leave rfl ?_
        refine OWp.leave rfl ?_
        refine OWp.leave rfl ?_
        refine OWp.leave rfl ?_
        refine OWp.leave rfl ?_
        refine OWp.pickT rfl rfl rfl ?_
        refine OWp.nil ?_
        refine CWp.condT rfl ?_
        refine CWp.seq ?_
        refine CWp.region ?_
        refine OWp.assign rfl rfl ?_
        refine OWp.assign rfl rfl ?_
        refine OWp.assign rfl rfl ?_
        refine OWp.nil ?_
        refine CWp.ret ?_
        refine RetQ.three (by first | exact .inl rfl | exact .inr rfl) rfl rfl rfl rfl rfl rfl rfl ?_
        have hm : RunEnd s i 35 m := run_shift s t i m 35 ht hi1 hm0 hj (fun hlt => by first | omega | assumption)
        exact h i m 0 _ false hi hm ⟨fun e => (by cases e), fun hr => (by have := hb.2 hr.col; simp_all)⟩ (fun e => by cases e) (fun _ => ⟨rfl, rfl⟩)

end Go.Proofs.YtpfhkjbnofgikaaDoor.Ev
