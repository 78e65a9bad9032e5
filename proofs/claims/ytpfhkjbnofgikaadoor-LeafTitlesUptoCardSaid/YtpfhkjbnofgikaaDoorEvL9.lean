import Derived.Test.YtpfhkjbnofgikaaDoorEvL8
namespace Go.Proofs.YtpfhkjbnofgikaaDoor.Ev
open Go
set_option linter.unusedVariables false
set_option linter.unusedSimpArgs false
theorem zs2 : (⟨#[32, 32]⟩ : ByteArray).size = 2 := rfl
def strs3 (u1 s u2 : ByteArray) : Array Value := #[.string u1, .string s, .string (⟨#[32, 32]⟩ ++ u2)]
theorem strs3_get (u1 s u2 : ByteArray) (hs : s.size ≤ 1048576) (h1 : u1.size ≤ 144) (h2 : u2.size ≤ 144) (i : Nat) (hi : i < 3) : ∃ t : ByteArray, (strs3 u1 s u2).toList[i]? = some (.string t) ∧ t.size ≤ 1048900 := by
  match i, hi with
  | 0, _ => exact ⟨_, rfl, by omega⟩
  | 1, _ => exact ⟨_, rfl, by omega⟩
  | 2, _ => exact ⟨_, rfl, by rw [size_app, zs2]; omega⟩

theorem one_spec (s : ByteArray) (hs : s.size ≤ 1048576) (l : List Value) (hl : Bytes l) (ks : Value) (H : AH) (Q : Value → AH → Prop) (h : ∀ H', Q (.bool true) H') (hv : View H ks l) (hlen : l.length ≤ 9223372036854775807) (hw : WfH H) : FWp Tryd.prog prims 5 [ks, .string s] H Q := by
  have hs9 : szT Tryd.prog 9 = 1 := by kernel_rfl
  refine FWp.enter (rfl) Tryd.func5 rfl (e := [ks, .string s, undef, undef, undef, undef, undef, undef, undef, undef, undef, undef, undef, undef, undef, undef, undef, undef, undef, undef, undef, undef, undef, undef, undef, undef, undef, undef, undef, undef, undef, undef, undef, undef, undef, undef, undef, undef, undef, undef, undef, undef, undef, undef, undef, undef, undef, undef, undef, undef, undef, undef, undef, undef, undef, undef, undef, undef, undef, undef, undef, undef, undef, undef, undef, undef, undef, undef, undef, undef, undef, undef, undef, undef, undef, undef, undef, undef, undef, undef, undef, undef]) rfl ?_
  refine CWp.seq ?_
  refine CWp.region ?_
  refine OWp.assign rfl rfl ?_
  refine OWp.nil ?_
  refine CWp.seq ?_
  refine CWp.seq ?_
  refine CWp.region ?_
  refine OWp.move rfl rfl ?_
  refine OWp.call rfl rfl rfl rfl ?_
  refine madeV_spec l hl _ _ _ ?_ hv hlen hw
  intro Ha u1 hka hu1
  have hwa := hka.wf
  refine OWp.norm ?_
  refine OWp.move rfl rfl ?_
  refine OWp.move rfl rfl ?_
  refine OWp.call rfl rfl rfl rfl ?_
  refine madeV_spec l hl _ _ _ ?_ (hv.sees (hka.sees hw)) hlen hwa
  intro Hb u2 hkb hu2
  have hwb := hkb.wf
  refine OWp.norm ?_
  refine OWp.catS rfl rfl rfl rfl (by first | omega | (simp only [ByteArray.size_append, zs2]; omega)) ?_
  refine OWp.buildSl hwb rfl rfl rfl (t' := 9) (cells := strs3 u1 s u2) (by kernel_rfl) (fun H2 c2 hw2 hk2 hc2 ho2 => ?_)
  refine OWp.norm ?_
  refine OWp.lenSl rfl rfl rfl rfl rfl Tryd.underlying27 rfl ?_
  refine OWp.move rfl rfl ?_
  refine OWp.nil ?_
  refine CWp.block ?_
  refine CWp.loop (fun k e H' => ∃ (cc i : Nat) (g : Nat → Value), e = [ks, .string s, g 2, g 3, g 4, g 5, g 6, g 7, g 8, g 9, g 10, g 11, g 12, g 13, g 14, g 15, g 16, g 17, g 18, g 19, g 20, g 21, g 22, .slice (some ⟨cc, 0, none⟩) 3 3, .int .i64 (3 : Nat), .int .i64 (i : Nat), g 26, g 27, g 28, g 29, g 30, g 31, g 32, g 33, g 34, g 35, g 36, g 37, g 38, g 39, g 40, g 41, g 42, g 43, g 44, g 45, g 46, g 47, g 48, g 49, g 50, g 51, g 52, g 53, g 54, g 55, g 56, g 57, g 58, g 59, g 60, g 61, g 62, g 63, g 64, g 65, g 66, g 67, g 68, g 69, g 70, g 71, g 72, g 73, g 74, g 75, g 76, g 77, g 78, g 79, g 80, g 81] ∧ k = 3 - i ∧ WfH H' ∧ Keeps H H' ∧ Own H' cc (.cells (strs3 u1 s u2) 9 (0, 0)) true ∧ i ≤ 3) ?_ ?_
  · exact ⟨_, c2, 0, ex_env rfl ⟨rfl, hw2, (hka.trans hkb hw).trans hk2 hw, ho2, Nat.zero_le _⟩⟩
  · rintro k e H' ⟨cc, i, g, rfl, rfl, hw', hk', hot, hi⟩
    refine CWp.seq ?_
    refine CWp.region ?_
    refine OWp.binI rfl rfl rfl rfl rfl ?_
    refine OWp.nil ?_
    refine CWp.seq ?_
    first | refine CWp.condP rfl (fun h1 => ?_) (fun h1 => ?_) | refine CWp.cond rfl (fun h1 => ?_) (fun h1 => ?_)
    · skip
      obtain ⟨t, ht, htz⟩ := strs3_get u1 s u2 hs hu1 hu2 i (by omega)
      obtain ⟨i0, hi0⟩ := gap_ex t
      first | rw [decide_eq_true h1] | rw [decide_eq_false h1] | rw [h1] | skip
      refine CWp.skip ?_
      refine CWp.seq ?_
      refine CWp.block ?_
      refine CWp.seq ?_
      refine CWp.region ?_
      refine OWp.indexAddrSl1 rfl rfl Tryd.underlying27 hs9 rfl rfl (by omega) (by omega) ?_
      refine OWp.loadRow rfl rfl Tryd.underlying9 rfl rfl hot.row (v := .string t) ht ?_
      refine OWp.assign rfl rfl ?_
      refine OWp.nil ?_
      refine CWp.seq ?_
      refine CWp.region ?_
      refine OWp.assign rfl rfl ?_
      refine OWp.nil ?_
      refine CWp.cut (fun e Hx => ∃ (c0 : Int) (g : Nat → Value), e = [ks, .string s, g 2, g 3, g 4, g 5, .string t, .int .i64 c0, g 8, g 9, g 10, g 11, g 12, g 13, g 14, g 15, g 16, g 17, g 18, g 19, g 20, g 21, g 22, .slice (some ⟨cc, 0, none⟩) 3 3, .int .i64 (3 : Nat), .int .i64 (i : Nat), g 26, g 27, g 28, g 29, g 30, g 31, g 32, g 33, g 34, g 35, g 36, g 37, g 38, g 39, g 40, g 41, g 42, g 43, g 44, g 45, g 46, g 47, g 48, g 49, g 50, g 51, g 52, g 53, g 54, g 55, g 56, g 57, g 58, g 59, g 60, g 61, g 62, g 63, g 64, g 65, g 66, g 67, g 68, g 69, g 70, g 71, g 72, g 73, g 74, g 75, g 76, g 77, g 78, g 79, g 80, g 81] ∧ H' = Hx ∧ (c0 = 0 ∨ (c0 = 1 ∧ i0 < t.size ∧ byteAt t (i0 : Nat) = 35))) ?_ ?_
      · skip
        refine CWp.seq ?_
        refine CWp.region ?_
        refine OWp.move rfl rfl ?_
        refine OWp.call rfl rfl rfl rfl ?_
        refine headC_spec t (by omega) _ _ (fun i1 m1 n1 x1 b1 a1 a2 a3 a4 a5 => ?_)
        rw [gap_unique t i1 i0 a1 hi0] at a2 a3
        refine OWp.norm ?_
        refine OWp.move rfl rfl ?_
        refine OWp.extract rfl rfl rfl rfl ?_
        refine OWp.extract rfl rfl rfl rfl ?_
        refine OWp.extract rfl rfl rfl rfl ?_
        refine OWp.assign rfl rfl ?_
        refine OWp.assign rfl rfl ?_
        refine OWp.assign rfl rfl ?_
        refine OWp.nil ?_
        refine CWp.seq ?_
        refine CWp.region ?_
        refine OWp.move rfl rfl ?_
        refine OWp.nil ?_
        first | refine CWp.condP rfl (fun h2 => ?_) (fun h2 => ?_) | refine CWp.cond rfl (fun h2 => ?_) (fun h2 => ?_)
        · skip
          first | rw [decide_eq_true h2] | rw [decide_eq_false h2] | rw [h2] | skip
          refine CWp.region ?_
          refine OWp.move rfl rfl ?_
          refine OWp.addI rfl rfl rfl rfl (by first | omega | (simp only [ByteArray.size_append, zs2]; omega)) ?_
          refine OWp.assign rfl rfl ?_
          refine OWp.nil ?_
          exact ⟨0 + 1, ex_env rfl ⟨rfl, .inr ⟨rfl, head_sign t i0 m1 a2 (a3.1 h2)⟩⟩⟩
        · skip
          first | rw [decide_eq_true h2] | rw [decide_eq_false h2] | rw [h2] | skip
          refine CWp.skip ?_
          exact ⟨0, ex_env rfl ⟨rfl, .inl rfl⟩⟩
      · rintro e Hx ⟨c0, g, rfl, rfl, hc8⟩
        have hcb : 0 ≤ c0 ∧ c0 ≤ 1 := by rcases hc8 with k | k; omega; have := k.1; omega
        refine CWp.cut (fun e H2 => ∃ (c0 : Int) (g : Nat → Value), e = [ks, .string s, g 2, g 3, g 4, g 5, .string t, .int .i64 c0, g 8, g 9, g 10, g 11, g 12, g 13, g 14, g 15, g 16, g 17, g 18, g 19, g 20, g 21, g 22, .slice (some ⟨cc, 0, none⟩) 3 3, .int .i64 (3 : Nat), .int .i64 (i : Nat), g 26, g 27, g 28, g 29, g 30, g 31, g 32, g 33, g 34, g 35, g 36, g 37, g 38, g 39, g 40, g 41, g 42, g 43, g 44, g 45, g 46, g 47, g 48, g 49, g 50, g 51, g 52, g 53, g 54, g 55, g 56, g 57, g 58, g 59, g 60, g 61, g 62, g 63, g 64, g 65, g 66, g 67, g 68, g 69, g 70, g 71, g 72, g 73, g 74, g 75, g 76, g 77, g 78, g 79, g 80, g 81] ∧ WfH H2 ∧ Keeps H' H2 ∧ (c0 = 0 ∨ (c0 = 1 ∧ i0 < t.size ∧ (byteAt t (i0 : Nat) = 35 ∨ BreakR t i0)))) ?_ ?_
        · skip
          refine CWp.seq ?_
          refine CWp.region ?_
          refine OWp.move rfl rfl ?_
          refine OWp.call rfl rfl rfl rfl ?_
          refine breakC_spec t (by omega) _ _ ?_ hw'
          intro Hq i2 b2 hkq g1 g2
          rw [gap_unique t i2 i0 g1 hi0] at g2
          refine OWp.norm ?_
          refine OWp.nil ?_
          first | refine CWp.condP rfl (fun h2 => ?_) (fun h2 => ?_) | refine CWp.cond rfl (fun h2 => ?_) (fun h2 => ?_)
          · skip
            first | rw [decide_eq_true h2] | rw [decide_eq_false h2] | rw [h2] | skip
            refine CWp.region ?_
            refine OWp.move rfl rfl ?_
            refine OWp.addI rfl rfl rfl rfl (by first | omega | (simp only [ByteArray.size_append, zs2]; omega)) ?_
            refine OWp.assign rfl rfl ?_
            refine OWp.nil ?_
            exact ⟨c0 + 1, ex_env rfl ⟨hkq.wf, hkq, .inr ⟨(by have := (g2.1 h2).sign; rcases hc8 with k | ⟨_, _, k⟩ <;> omega), (g2.1 h2).lt, .inr (g2.1 h2)⟩⟩⟩
          · skip
            first | rw [decide_eq_true h2] | rw [decide_eq_false h2] | rw [h2] | skip
            refine CWp.skip ?_
            exact ⟨c0, ex_env rfl ⟨hkq.wf, hkq, (by rcases hc8 with k | k; exact .inl k; exact .inr ⟨k.1, k.2.1, .inl k.2.2⟩)⟩⟩
        · rintro e H2 ⟨c0, g, rfl, hw2, hk2, hc10⟩
          have hcb : 0 ≤ c0 ∧ c0 ≤ 1 := by rcases hc10 with k | k; omega; have := k.1; omega
          refine CWp.cut (fun e H3 => ∃ (c0 : Int) (g : Nat → Value), e = [ks, .string s, g 2, g 3, g 4, g 5, .string t, .int .i64 c0, g 8, g 9, g 10, g 11, g 12, g 13, g 14, g 15, g 16, g 17, g 18, g 19, g 20, g 21, g 22, .slice (some ⟨cc, 0, none⟩) 3 3, .int .i64 (3 : Nat), .int .i64 (i : Nat), g 26, g 27, g 28, g 29, g 30, g 31, g 32, g 33, g 34, g 35, g 36, g 37, g 38, g 39, g 40, g 41, g 42, g 43, g 44, g 45, g 46, g 47, g 48, g 49, g 50, g 51, g 52, g 53, g 54, g 55, g 56, g 57, g 58, g 59, g 60, g 61, g 62, g 63, g 64, g 65, g 66, g 67, g 68, g 69, g 70, g 71, g 72, g 73, g 74, g 75, g 76, g 77, g 78, g 79, g 80, g 81] ∧ H2 = H3 ∧ (c0 = 0 ∨ (c0 = 1 ∧ i0 < t.size ∧ (byteAt t (i0 : Nat) = 35 ∨ byteAt t (i0 : Nat) = 62 ∨ BreakR t i0)))) ?_ ?_
          · skip
            refine CWp.seq ?_
            refine CWp.region ?_
            refine OWp.move rfl rfl ?_
            refine OWp.call rfl rfl rfl rfl ?_
            refine quoteC_spec t (by omega) _ _ (fun i3 x3 b3 a6 a7 a8 a9 => ?_)
            rw [gap_unique t i3 i0 a6 hi0] at a7
            refine OWp.norm ?_
            refine OWp.move rfl rfl ?_
            refine OWp.extract rfl rfl rfl rfl ?_
            refine OWp.extract rfl rfl rfl rfl ?_
            refine OWp.assign rfl rfl ?_
            refine OWp.assign rfl rfl ?_
            refine OWp.nil ?_
            refine CWp.seq ?_
            refine CWp.region ?_
            refine OWp.move rfl rfl ?_
            refine OWp.nil ?_
            first | refine CWp.condP rfl (fun h3 => ?_) (fun h3 => ?_) | refine CWp.cond rfl (fun h3 => ?_) (fun h3 => ?_)
            · skip
              first | rw [decide_eq_true h3] | rw [decide_eq_false h3] | rw [h3] | skip
              refine CWp.region ?_
              refine OWp.move rfl rfl ?_
              refine OWp.addI rfl rfl rfl rfl (by first | omega | (simp only [ByteArray.size_append, zs2]; omega)) ?_
              refine OWp.assign rfl rfl ?_
              refine OWp.nil ?_
              exact ⟨c0 + 1, ex_env rfl ⟨rfl, .inr ⟨(by have := (a7.1 h3).sign; rcases hc10 with k | ⟨_, _, k | k⟩; omega; omega; have := k.sign; omega), (a7.1 h3).lt, .inr (.inl (a7.1 h3).sign)⟩⟩⟩
            · skip
              first | rw [decide_eq_true h3] | rw [decide_eq_false h3] | rw [h3] | skip
              refine CWp.skip ?_
              exact ⟨c0, ex_env rfl ⟨rfl, (by rcases hc10 with k | ⟨k1, k2, k3 | k3⟩; exact .inl k; exact .inr ⟨k1, k2, .inl k3⟩; exact .inr ⟨k1, k2, .inr (.inr k3)⟩)⟩⟩
          · rintro e H3 ⟨c0, g, rfl, rfl, hc13⟩
            have hcb : 0 ≤ c0 ∧ c0 ≤ 1 := by rcases hc13 with k | k; omega; have := k.1; omega
            refine CWp.cut (fun e H4 => ∃ (c0 : Int) (g : Nat → Value), e = [ks, .string s, g 2, g 3, g 4, g 5, .string t, .int .i64 c0, g 8, g 9, g 10, g 11, g 12, g 13, g 14, g 15, g 16, g 17, g 18, g 19, g 20, g 21, g 22, .slice (some ⟨cc, 0, none⟩) 3 3, .int .i64 (3 : Nat), .int .i64 (i : Nat), g 26, g 27, g 28, g 29, g 30, g 31, g 32, g 33, g 34, g 35, g 36, g 37, g 38, g 39, g 40, g 41, g 42, g 43, g 44, g 45, g 46, g 47, g 48, g 49, g 50, g 51, g 52, g 53, g 54, g 55, g 56, g 57, g 58, g 59, g 60, g 61, g 62, g 63, g 64, g 65, g 66, g 67, g 68, g 69, g 70, g 71, g 72, g 73, g 74, g 75, g 76, g 77, g 78, g 79, g 80, g 81] ∧ WfH H4 ∧ Keeps H2 H4 ∧ (0 ≤ c0 ∧ c0 ≤ 1)) ?_ ?_
            · skip
              refine CWp.seq ?_
              refine CWp.region ?_
              refine OWp.move rfl rfl ?_
              refine OWp.call rfl rfl rfl rfl ?_
              refine itemC_spec t (by omega) _ _ ?_ hw2
              intro Hi i5 y5 k5 x5 b5 hki d1 d2 d3 d4
              rw [gap_unique t i5 i0 d1 hi0] at d2 d3
              refine OWp.norm ?_
              refine OWp.move rfl rfl ?_
              refine OWp.extract rfl rfl rfl rfl ?_
              refine OWp.extract rfl rfl rfl rfl ?_
              refine OWp.extract rfl rfl rfl rfl ?_
              refine OWp.extract rfl rfl rfl rfl ?_
              refine OWp.assign rfl rfl ?_
              refine OWp.assign rfl rfl ?_
              refine OWp.assign rfl rfl ?_
              refine OWp.assign rfl rfl ?_
              refine OWp.nil ?_
              refine CWp.seq ?_
              refine CWp.region ?_
              refine OWp.move rfl rfl ?_
              refine OWp.nil ?_
              first | refine CWp.condP rfl (fun h3 => ?_) (fun h3 => ?_) | refine CWp.cond rfl (fun h3 => ?_) (fun h3 => ?_)
              · skip
                obtain ⟨hk1, hk2b, hk3⟩ := item_k t i0 y5 k5 x5 (d2.1 h3) (d3 h3)
                first | rw [decide_eq_true h3] | rw [decide_eq_false h3] | rw [h3] | skip
                refine CWp.seq ?_
                refine CWp.seq ?_
                refine CWp.region ?_
                refine OWp.move rfl rfl ?_
                refine OWp.binI rfl rfl rfl rfl rfl ?_
                refine OWp.move rfl rfl ?_
                first | refine OWp.byT rfl (fun hg4 => ?_) (fun hg4 => ?_) | refine OWp.byBT rfl (fun hg4 => ?_) (fun hg4 => ?_)
                · skip
                  first | rw [decide_eq_true hg4] | rw [decide_eq_false hg4] | rw [hg4] | skip
                  try simp only [Decidable.not_not] at hg4
                  refine OWp.move rfl rfl ?_
                  refine OWp.binI rfl rfl rfl rfl rfl ?_
                  refine OWp.pickT rfl rfl rfl ?_
                  refine OWp.move rfl rfl ?_
                  first | refine OWp.byT rfl (fun hg5 => ?_) (fun hg5 => ?_) | refine OWp.byBT rfl (fun hg5 => ?_) (fun hg5 => ?_)
                  · skip
                    first | rw [decide_eq_true hg5] | rw [decide_eq_false hg5] | rw [hg5] | skip
                    try simp only [Decidable.not_not] at hg5
                    refine OWp.move rfl rfl ?_
                    refine OWp.binI rfl rfl rfl rfl rfl ?_
                    refine OWp.pickT rfl rfl rfl ?_
                    refine OWp.move rfl rfl ?_
                    first | refine OWp.byF rfl (fun hg6 => ?_) (fun hg6 => ?_) | refine OWp.byBF rfl (fun hg6 => ?_) (fun hg6 => ?_)
                    · skip
                      first | rw [decide_eq_true hg6] | rw [decide_eq_false hg6] | rw [hg6] | skip
                      try simp only [Decidable.not_not] at hg6
                      refine OWp.move rfl rfl ?_
                      refine OWp.binI rfl rfl rfl rfl rfl ?_
                      refine OWp.pickF rfl rfl rfl ?_
                      refine OWp.move rfl rfl ?_
                      first | refine OWp.byF rfl (fun hg7 => ?_) (fun hg7 => ?_) | refine OWp.byBF rfl (fun hg7 => ?_) (fun hg7 => ?_)
                      · skip
                        first | rw [decide_eq_true hg7] | rw [decide_eq_false hg7] | rw [hg7] | skip
                        try simp only [Decidable.not_not] at hg7
                        refine OWp.move rfl rfl ?_
                        refine OWp.binI rfl rfl rfl rfl rfl ?_
                        refine OWp.pickF rfl rfl rfl ?_
                        refine OWp.nil ?_
                        first | refine CWp.condP rfl (fun h8 => ?_) (fun h8 => ?_) | refine CWp.cond rfl (fun h8 => ?_) (fun h8 => ?_)
                        · skip
                          exfalso; omega
                        · skip
                          first | rw [decide_eq_true h8] | rw [decide_eq_false h8] | rw [h8] | skip
                          refine CWp.skip ?_
                          refine CWp.region ?_
                          refine OWp.move rfl rfl ?_
                          refine OWp.addI rfl rfl rfl rfl (by first | omega | (simp only [ByteArray.size_append, zs2]; omega)) ?_
                          refine OWp.assign rfl rfl ?_
                          refine OWp.nil ?_
                          exact ⟨c0 + 1, ex_env rfl ⟨hki.wf, hki, (by have z1 := (d2.1 h3).sign; have z2 := (d2.1 h3).no; rcases hc13 with k | ⟨_, _, k | k | k⟩ <;> first | omega | exact absurd k z2)⟩⟩
                      · skip
                        exfalso; omega
                    · skip
                      exfalso; omega
                  · skip
                    first | rw [decide_eq_true hg5] | rw [decide_eq_false hg5] | rw [hg5] | skip
                    try simp only [Decidable.not_not] at hg5
                    refine OWp.leave rfl ?_
                    refine OWp.leave rfl ?_
                    refine OWp.pickF rfl rfl rfl ?_
                    refine OWp.move rfl rfl ?_
                    refine OWp.move rfl rfl ?_
                    refine OWp.binI rfl rfl rfl rfl rfl ?_
                    refine OWp.pickF rfl rfl rfl ?_
                    refine OWp.move rfl rfl ?_
                    first | refine OWp.byF rfl (fun hg6 => ?_) (fun hg6 => ?_) | refine OWp.byBF rfl (fun hg6 => ?_) (fun hg6 => ?_)
                    · skip
                      first | rw [decide_eq_true hg6] | rw [decide_eq_false hg6] | rw [hg6] | skip
                      try simp only [Decidable.not_not] at hg6
                      refine OWp.move rfl rfl ?_
                      refine OWp.binI rfl rfl rfl rfl rfl ?_
                      refine OWp.pickF rfl rfl rfl ?_
                      refine OWp.nil ?_
                      first | refine CWp.condP rfl (fun h7 => ?_) (fun h7 => ?_) | refine CWp.cond rfl (fun h7 => ?_) (fun h7 => ?_)
                      · skip
                        exfalso; omega
                      · skip
                        first | rw [decide_eq_true h7] | rw [decide_eq_false h7] | rw [h7] | skip
                        refine CWp.skip ?_
                        refine CWp.region ?_
                        refine OWp.move rfl rfl ?_
                        refine OWp.addI rfl rfl rfl rfl (by first | omega | (simp only [ByteArray.size_append, zs2]; omega)) ?_
                        refine OWp.assign rfl rfl ?_
                        refine OWp.nil ?_
                        exact ⟨c0 + 1, ex_env rfl ⟨hki.wf, hki, (by have z1 := (d2.1 h3).sign; have z2 := (d2.1 h3).no; rcases hc13 with k | ⟨_, _, k | k | k⟩ <;> first | omega | exact absurd k z2)⟩⟩
                    · skip
                      exfalso; omega
                · skip
                  first | rw [decide_eq_true hg4] | rw [decide_eq_false hg4] | rw [hg4] | skip
                  try simp only [Decidable.not_not] at hg4
                  refine OWp.leave rfl ?_
                  refine OWp.leave rfl ?_
                  refine OWp.pickF rfl rfl rfl ?_
                  refine OWp.move rfl rfl ?_
                  refine OWp.leave rfl ?_
                  refine OWp.leave rfl ?_
                  refine OWp.pickF rfl rfl rfl ?_
                  refine OWp.move rfl rfl ?_
                  refine OWp.move rfl rfl ?_
                  refine OWp.binI rfl rfl rfl rfl rfl ?_
                  refine OWp.pickF rfl rfl rfl ?_
                  refine OWp.move rfl rfl ?_
                  first | refine OWp.byF rfl (fun hg5 => ?_) (fun hg5 => ?_) | refine OWp.byBF rfl (fun hg5 => ?_) (fun hg5 => ?_)
                  · skip
                    first | rw [decide_eq_true hg5] | rw [decide_eq_false hg5] | rw [hg5] | skip
                    try simp only [Decidable.not_not] at hg5
                    refine OWp.move rfl rfl ?_
                    refine OWp.binI rfl rfl rfl rfl rfl ?_
                    refine OWp.pickF rfl rfl rfl ?_
                    refine OWp.nil ?_
                    first | refine CWp.condP rfl (fun h6 => ?_) (fun h6 => ?_) | refine CWp.cond rfl (fun h6 => ?_) (fun h6 => ?_)
                    · skip
                      exfalso; omega
                    · skip
                      first | rw [decide_eq_true h6] | rw [decide_eq_false h6] | rw [h6] | skip
                      refine CWp.skip ?_
                      refine CWp.region ?_
                      refine OWp.move rfl rfl ?_
                      refine OWp.addI rfl rfl rfl rfl (by first | omega | (simp only [ByteArray.size_append, zs2]; omega)) ?_
                      refine OWp.assign rfl rfl ?_
                      refine OWp.nil ?_
                      exact ⟨c0 + 1, ex_env rfl ⟨hki.wf, hki, (by have z1 := (d2.1 h3).sign; have z2 := (d2.1 h3).no; rcases hc13 with k | ⟨_, _, k | k | k⟩ <;> first | omega | exact absurd k z2)⟩⟩
                  · skip
                    exfalso; omega
              · skip
                first | rw [decide_eq_true h3] | rw [decide_eq_false h3] | rw [h3] | skip
                refine CWp.skip ?_
                exact ⟨c0, ex_env rfl ⟨hki.wf, hki, (by rcases hc13 with k | k; omega; have := k.1; omega)⟩⟩
            · rintro e H4 ⟨c0, g, rfl, hw4, hk4, hc18⟩
              refine CWp.seq ?_
              refine CWp.region ?_
              refine OWp.move rfl rfl ?_
              refine OWp.binI rfl rfl rfl rfl rfl ?_
              refine OWp.nil ?_
              first | refine CWp.condP rfl (fun h3 => ?_) (fun h3 => ?_) | refine CWp.cond rfl (fun h3 => ?_) (fun h3 => ?_)
              · skip
                exfalso; omega
              · skip
                first | rw [decide_eq_true h3] | rw [decide_eq_false h3] | rw [h3] | skip
                refine CWp.skip ?_
                refine CWp.region ?_
                refine OWp.addI rfl rfl rfl rfl (by first | omega | (simp only [ByteArray.size_append, zs2]; omega)) ?_
                refine OWp.move rfl rfl ?_
                refine OWp.nil ?_
                exact ⟨_, by omega, cc, i + 1, ex_env rfl ⟨rfl, hw4, hk'.trans (hk2.trans hk4 hw') hw, hot.keep hw' (hk2.trans hk4 hw'), by omega⟩⟩
    · skip
      first | rw [decide_eq_true h1] | rw [decide_eq_false h1] | rw [h1] | skip
      refine CWp.exit ?_
      refine CWp.seq ?_
      refine CWp.region ?_
      refine OWp.call rfl rfl rfl rfl ?_
      refine known_spec _ _ ?_
      refine OWp.norm ?_
      refine OWp.assign rfl rfl ?_
      refine OWp.nil ?_
      refine CWp.ret ?_
      refine RetQ.one (by first | exact .inl rfl | exact .inr rfl) rfl rfl ?_
      exact h _

end Go.Proofs.YtpfhkjbnofgikaaDoor.Ev
