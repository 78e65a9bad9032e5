import Derived.Test.YtllokljpacpafaaDoorEvM2
namespace Go.Proofs.YtllokljpacpafaaDoor.Ev
open Go
set_option linter.unusedVariables false
set_option linter.unusedSimpArgs false
set_option maxHeartbeats 4000000

theorem read_spec (s : ByteArray) (hs : s.size ≤ 9000000) (H : AH) (Q : Value → AH → Prop) (h : ∀ H' m b, Keeps H H' → ReadOk s m b → Q (.tuple #[m.v, .bool b]) H') (hw : WfH H) : FWp Tryd.prog prims 13 [.string s] H Q := by
  have hh := Has.start hw
  obtain ⟨i, hi, htr⟩ := trimC_split s
  have hi1 := hi.1
  have hsz : (s.extract i s.size).size = s.size - i := by rw [ByteArray.size_extract, Nat.min_self]
  refine FWp.enter (rfl) Tryd.func13 rfl (e := [.string s, undef, undef, undef, undef, undef, undef, undef, undef, undef, undef, undef, undef, undef, undef, undef, undef, undef, undef, undef, undef, undef, undef, undef, undef, undef, undef, undef, undef, undef, undef, undef, undef, undef, undef, undef, undef, undef, undef, undef, undef, undef, undef, undef, undef, undef, undef, undef, undef, undef, undef, undef, undef, undef, undef, undef, undef, undef, undef, undef, undef, undef, undef, undef, undef, undef, undef, undef, undef, undef, undef, undef, undef, undef, undef, undef, undef, undef, undef, undef, undef, undef, undef, undef, undef, undef, undef, undef, undef, undef, undef, undef, undef, undef, undef, undef, undef, undef, undef, undef]) rfl ?_
  refine CWp.seq ?_
  refine CWp.region ?_
  refine OWp.allocM hh rfl rfl (fun H2 b2 hh => ?_)
  refine OWp.norm ?_
  refine OWp.assign rfl rfl ?_
  refine OWp.nil ?_
  refine CWp.seq ?_
  refine CWp.region ?_
  refine OWp.move rfl rfl ?_
  refine OWp.call rfl rfl rfl rfl ?_
  refine trimLe_spec s ?_
  rw [htr]
  refine OWp.norm ?_
  refine OWp.assign rfl rfl ?_
  refine OWp.nil ?_
  refine CWp.seq ?_
  refine CWp.region ?_
  refine OWp.move rfl rfl ?_
  refine OWp.move rfl rfl ?_
  refine OWp.lenS rfl rfl rfl rfl rfl Tryd.underlying9 rfl ?_
  refine OWp.move rfl rfl ?_
  refine OWp.lenS rfl rfl rfl rfl rfl Tryd.underlying9 rfl ?_
  refine OWp.subI rfl rfl rfl rfl (by omega) ?_
  refine OWp.sliceS rfl rfl Tryd.underlying9 rfl rfl rfl (by omega) (by omega) (by omega) ?_
  rw [show ((s.size : Int) - ((s.extract i s.size).size : Int)).toNat = i by omega, show (0:Int).toNat = 0 from rfl]
  refine OWp.assign rfl rfl ?_
  refine OWp.nil ?_
  refine CWp.seq ?_
  refine CWp.region ?_
  refine OWp.move rfl rfl ?_
  refine OWp.call rfl rfl rfl rfl ?_
  refine cut_spec (s.extract i s.size) (by omega) _ _ (fun style body bb hc hz1 hz2 => ?_)
  refine OWp.norm ?_
  refine OWp.move rfl rfl ?_
  refine OWp.extract rfl rfl rfl rfl ?_
  refine OWp.extract rfl rfl rfl rfl ?_
  refine OWp.extract rfl rfl rfl rfl ?_
  refine OWp.assign rfl rfl ?_
  refine OWp.assign rfl rfl ?_
  refine OWp.assign rfl rfl ?_
  refine OWp.nil ?_
  refine CWp.seq ?_
  refine CWp.seq ?_
  refine CWp.region ?_
  refine OWp.assign rfl rfl ?_
  refine OWp.nil ?_
  refine CWp.block ?_
  refine CWp.loop (fun k e H' => ∃ (b2 : Nat) (kd : Int) (g : Nat → Value), e = [.string s, g 1, .pointer (some ⟨b2, 0, none⟩), .bool false, .string (s.extract i s.size), .string (s.extract 0 i), .string style, .string body, g 8, .int .i64 kd, g 10, g 11, g 12, g 13, g 14, g 15, g 16, g 17, g 18, g 19, g 20, g 21, g 22, g 23, g 24, g 25, g 26, g 27, g 28, g 29, g 30, g 31, g 32, g 33, g 34, g 35, g 36, g 37, g 38, g 39, g 40, g 41, g 42, g 43, g 44, g 45, g 46, g 47, g 48, g 49, g 50, g 51, g 52, g 53, g 54, g 55, g 56, g 57, g 58, g 59, g 60, g 61, g 62, g 63, g 64, g 65, g 66, g 67, g 68, g 69, g 70, g 71, g 72, g 73, g 74, g 75, g 76, g 77, g 78, g 79, g 80, g 81, g 82, g 83, g 84, g 85, g 86, g 87, g 88, g 89, g 90, g 91, g 92, g 93, g 94, g 95, g 96, g 97, g 98, g 99] ∧ k = (4 - kd).toNat ∧ Has H H' [(b2, mkO zeroM)] ∧ 1 ≤ kd ∧ kd ≤ 4 ∧ ∀ m', RightM m' → lineM m' = s → kd ≤ m'.kind) ?_ ?_
  · exact ⟨_, b2, 1, ex_env rfl ⟨rfl, hh, by omega, by omega, fun m' hr hl => hr.k1⟩⟩
  · rintro k e H' ⟨b2, kd, g, rfl, rfl, hh, hkd1, hkd2, hall⟩
    refine CWp.seq ?_
    refine CWp.seq ?_
    refine CWp.region ?_
    refine OWp.move rfl rfl ?_
    refine OWp.binI rfl rfl rfl rfl rfl ?_
    refine OWp.nil ?_
    first | refine CWp.condP rfl (fun h1 => ?_) (fun h1 => ?_) | refine CWp.cond rfl (fun h1 => ?_) (fun h1 => ?_)
    · skip
      first | rw [decide_eq_true h1] | rw [decide_eq_false h1] | rw [h1] | skip
      refine CWp.skip ?_
      refine CWp.seq ?_
      refine CWp.block ?_
      refine CWp.seq ?_
      refine CWp.region ?_
      refine OWp.move rfl rfl ?_
      refine OWp.call rfl rfl rfl rfl ?_
      refine ends_spec _ _ _ ?_
      refine OWp.norm ?_
      refine OWp.move rfl rfl ?_
      refine OWp.extract rfl rfl rfl rfl ?_
      refine OWp.extract rfl rfl rfl rfl ?_
      refine OWp.extract rfl rfl rfl rfl ?_
      refine OWp.assign rfl rfl ?_
      refine OWp.assign rfl rfl ?_
      refine OWp.assign rfl rfl ?_
      refine OWp.nil ?_
      refine CWp.seq ?_
      refine CWp.region ?_
      refine OWp.move rfl rfl ?_
      refine OWp.move rfl rfl ?_
      refine OWp.call rfl rfl rfl rfl ?_
      have ha1 := ahead_le kd
      have ha2 := behind_le kd
      refine cutPrefixV_spec body (aheadB kd) (by omega) (by omega) _ _ (fun x1 ok k1 k2 => ?_)
      have hx1 : x1.size ≤ body.size := by
        by_cases hp : PrefB body (aheadB kd)
        · rw [(k1 hp).1]; exact ext_le _ _ _
        · rw [(k2 hp).1]; exact Nat.le_refl _
      refine OWp.norm ?_
      refine OWp.move rfl rfl ?_
      refine OWp.extract rfl rfl rfl rfl ?_
      refine OWp.extract rfl rfl rfl rfl ?_
      refine OWp.assign rfl rfl ?_
      refine OWp.assign rfl rfl ?_
      refine OWp.nil ?_
      refine CWp.seq ?_
      refine CWp.region ?_
      refine OWp.move rfl rfl ?_
      refine OWp.move rfl rfl ?_
      refine OWp.call rfl rfl rfl rfl ?_
      refine cutSuffixV_spec x1 (behindB kd) (by omega) (by omega) _ _ (fun x2 is k3 k4 => ?_)
      have hx2 : x2.size ≤ x1.size := by
        by_cases hp : SufB x1 (behindB kd)
        · rw [(k3 hp).1]; exact ext_le _ _ _
        · rw [(k4 hp).1]; exact Nat.le_refl _
      refine OWp.norm ?_
      refine OWp.move rfl rfl ?_
      refine OWp.extract rfl rfl rfl rfl ?_
      refine OWp.extract rfl rfl rfl rfl ?_
      refine OWp.assign rfl rfl ?_
      refine OWp.assign rfl rfl ?_
      refine OWp.nil ?_
      refine CWp.seq ?_
      refine CWp.region ?_
      refine OWp.move rfl rfl ?_
      refine OWp.move rfl rfl ?_
      refine OWp.call rfl rfl rfl rfl ?_
      refine lastI_spec x2 (betwB kd) (by omega) rfl (fun ix hix hix1 hix2 => ?_)
      have hft := found_all hi hc k1 k3 hix
      refine OWp.norm ?_
      refine OWp.assign rfl rfl ?_
      refine OWp.nil ?_
      refine CWp.seq ?_
      refine CWp.seq ?_
      refine CWp.region ?_
      refine OWp.move rfl rfl ?_
      first | refine OWp.notD rfl rfl rfl ?_ | refine OWp.notB rfl rfl rfl ?_
      refine OWp.move rfl rfl ?_
      first | refine OWp.byF rfl (fun hg2 => ?_) (fun hg2 => ?_) | refine OWp.byBF rfl (fun hg2 => ?_) (fun hg2 => ?_)
      · skip
        first | rw [decide_eq_true hg2] | rw [decide_eq_false hg2] | rw [hg2] | skip
        try simp only [Decidable.not_not] at hg2
        refine OWp.move rfl rfl ?_
        first | refine OWp.notD rfl rfl rfl ?_ | refine OWp.notB rfl rfl rfl ?_
        refine OWp.pickF rfl rfl rfl ?_
        refine OWp.move rfl rfl ?_
        first | refine OWp.byF rfl (fun hg3 => ?_) (fun hg3 => ?_) | refine OWp.byBF rfl (fun hg3 => ?_) (fun hg3 => ?_)
        · skip
          first | rw [decide_eq_true hg3] | rw [decide_eq_false hg3] | rw [hg3] | skip
          try simp only [Decidable.not_not] at hg3
          refine OWp.move rfl rfl ?_
          refine OWp.binI rfl rfl rfl rfl rfl ?_
          refine OWp.pickF rfl rfl rfl ?_
          refine OWp.nil ?_
          first | refine CWp.condP rfl (fun h4 => ?_) (fun h4 => ?_) | refine CWp.cond rfl (fun h4 => ?_) (fun h4 => ?_)
          · skip
            first | rw [decide_eq_true h4] | rw [decide_eq_false h4] | rw [h4] | skip
            refine CWp.exit ?_
            refine CWp.region ?_
            refine OWp.move rfl rfl ?_
            refine OWp.addI rfl rfl rfl rfl (by omega) ?_
            refine OWp.assign rfl rfl ?_
            refine OWp.nil ?_
            exact ⟨_, by omega, b2, kd + 1, ex_env rfl ⟨rfl, hh, by omega, by omega, fun m' hr hl => by have h9 := hall m' hr hl; rcases Int.lt_or_le kd m'.kind with h8 | h8; omega; exfalso; obtain ⟨f1, f2, f3, f4, f5, f6, f7⟩ := hft m' hr hl (by omega); omega⟩⟩
          · skip
            first | rw [decide_eq_true h4] | rw [decide_eq_false h4] | rw [h4] | skip
            refine CWp.skip ?_
            refine CWp.seq ?_
            refine CWp.region ?_
            refine OWp.move rfl rfl ?_
            refine OWp.move rfl rfl ?_
            refine OWp.addI rfl rfl rfl rfl (by omega) ?_
            refine OWp.sliceS rfl rfl Tryd.underlying9 rfl rfl rfl (by omega) (by omega) (by omega) ?_
            refine OWp.call rfl rfl rfl rfl ?_
            have hxe := ext_le x2 (ix + 1).toNat x2.size
            have hne : (x2.size : Int).toNat = x2.size := rfl
            refine atoi_spec _ (by rw [hne]; omega) hh.wf ?_
            intro H5 n eo hk5 hat
            replace hh := hh.after hk5
            rw [hne] at hat
            have hmr : ∀ m', RightM m' → lineM m' = s → m'.kind = kd → eo = none ∧ m' = ⟨kd, s.extract 0 i, style, x2.extract 0 ix.toNat, n⟩ := by
              intro m' hr hl hkd
              obtain ⟨f1, f2, f3, f4, f5, f6, f7⟩ := hft m' hr hl hkd
              have e1 : (ix + 1).toNat = m'.nam.size + 1 := by omega
              rw [e1, f5] at hat
              obtain ⟨e2, e3⟩ := hat _ (atoi_itoa hr.num0 hr.hi)
              refine ⟨e3, ?_⟩
              rw [e2, f6, f7, show ix.toNat = m'.nam.size by omega, f4, ← hkd]
            refine OWp.norm ?_
            refine OWp.move rfl rfl ?_
            refine OWp.extract rfl rfl rfl rfl ?_
            refine OWp.extract rfl rfl rfl rfl ?_
            refine OWp.assign rfl rfl ?_
            refine OWp.assign rfl rfl ?_
            refine OWp.nil ?_
            refine CWp.seq ?_
            refine CWp.region ?_
            refine OWp.move rfl rfl ?_
            refine OWp.move rfl rfl ?_
            refine OWp.move rfl rfl ?_
            refine OWp.move rfl rfl ?_
            refine OWp.move rfl rfl ?_
            refine OWp.sliceS rfl rfl Tryd.underlying9 rfl rfl rfl (by omega) (by omega) (by omega) ?_
            refine OWp.move rfl rfl ?_
            refine OWp.buildM (⟨kd, s.extract 0 i, style, x2.extract 0 ix.toNat, n⟩) rfl rfl rfl (by kernel_rfl) ?_
            refine OWp.allocM hh rfl rfl (fun H19 b19 hh => ?_)
            refine OWp.norm ?_
            first | refine OWp.storeM (k := 0) hh rfl rfl rfl rfl rfl (fun H4 hh => ?_) | refine OWp.storeM (k := 1) hh rfl rfl rfl rfl rfl (fun H4 hh => ?_) | refine OWp.storeM (k := 2) hh rfl rfl rfl rfl rfl (fun H4 hh => ?_)
            simp only [List.set_cons_zero, List.set_cons_succ] at hh
            refine OWp.norm ?_
            refine OWp.nil ?_
            refine CWp.seq ?_
            refine CWp.region ?_
            refine OWp.move rfl rfl ?_
            refine OWp.eqErr rfl rfl rfl ?_
            refine OWp.move rfl rfl ?_
            first | refine OWp.byT rfl (fun hg5 => ?_) (fun hg5 => ?_) | refine OWp.byBT rfl (fun hg5 => ?_) (fun hg5 => ?_)
            · skip
              first | rw [decide_eq_true hg5] | rw [decide_eq_false hg5] | rw [hg5] | skip
              try simp only [Decidable.not_not] at hg5
              first | refine OWp.loadM (k := 0) hh rfl rfl rfl rfl ?_ | refine OWp.loadM (k := 1) hh rfl rfl rfl rfl ?_ | refine OWp.loadM (k := 2) hh rfl rfl rfl rfl ?_
              refine OWp.call rfl rfl rfl rfl ?_
              have hsm : SzM ⟨kd, s.extract 0 i, style, x2.extract 0 ix.toNat, n⟩ := ⟨by have := ext_le s 0 i; show (s.extract 0 i).size ≤ _; omega, by show style.size ≤ _; omega, by have := ext_le x2 0 ix.toNat; show (x2.extract 0 ix.toNat).size ≤ _; omega⟩
              refine right_spec _ hsm _ _ ?_ hh.wf
              intro H6 b6 hk6 hb6
              replace hh := hh.after hk6
              refine OWp.norm ?_
              refine OWp.pickT rfl rfl rfl ?_
              refine OWp.move rfl rfl ?_
              first | refine OWp.byT rfl (fun hg6 => ?_) (fun hg6 => ?_) | refine OWp.byBT rfl (fun hg6 => ?_) (fun hg6 => ?_)
              · skip
                first | rw [decide_eq_true hg6] | rw [decide_eq_false hg6] | rw [hg6] | skip
                try simp only [Decidable.not_not] at hg6
                first | refine OWp.loadM (k := 0) hh rfl rfl rfl rfl ?_ | refine OWp.loadM (k := 1) hh rfl rfl rfl rfl ?_ | refine OWp.loadM (k := 2) hh rfl rfl rfl rfl ?_
                refine OWp.call rfl rfl rfl rfl ?_
                refine text_spec _ hsm _ _ ?_ hh.wf
                intro H7 t7 hk7 ht7
                replace hh := hh.after hk7
                refine OWp.norm ?_
                refine OWp.move rfl rfl ?_
                refine OWp.binS rfl rfl rfl rfl rfl ?_
                refine OWp.pickT rfl rfl rfl ?_
                refine OWp.nil ?_
                first | refine CWp.condP rfl (fun h7 => ?_) (fun h7 => ?_) | refine CWp.cond rfl (fun h7 => ?_) (fun h7 => ?_)
                · skip
                  first | rw [decide_eq_true h7] | rw [decide_eq_false h7] | rw [h7] | skip
                  refine CWp.seq ?_
                  refine CWp.region ?_
                  first | refine OWp.loadM (k := 0) hh rfl rfl rfl rfl ?_ | refine OWp.loadM (k := 1) hh rfl rfl rfl rfl ?_ | refine OWp.loadM (k := 2) hh rfl rfl rfl rfl ?_
                  first | refine OWp.storeM (k := 0) hh rfl rfl rfl rfl rfl (fun H4 hh => ?_) | refine OWp.storeM (k := 1) hh rfl rfl rfl rfl rfl (fun H4 hh => ?_) | refine OWp.storeM (k := 2) hh rfl rfl rfl rfl rfl (fun H4 hh => ?_)
                  simp only [List.set_cons_zero, List.set_cons_succ] at hh
                  refine OWp.norm ?_
                  refine OWp.assign rfl rfl ?_
                  refine OWp.nil ?_
                  refine CWp.ret ?_
                  first | refine RetQ.cellM (k := 0) (by first | exact .inl rfl | exact .inr rfl) rfl rfl hh rfl rfl rfl ?_ | refine RetQ.cellM (k := 1) (by first | exact .inl rfl | exact .inr rfl) rfl rfl hh rfl rfl rfl ?_ | refine RetQ.cellM (k := 2) (by first | exact .inl rfl | exact .inr rfl) rfl rfl hh rfl rfl rfl ?_
                  exact h _ ⟨kd, s.extract 0 i, style, x2.extract 0 ix.toNat, n⟩ true hh.keep ⟨fun _ => ⟨hb6.1 hg6, (ht7.1 (hb6.1 hg6)).symm.trans h7⟩, fun e => (by cases e)⟩
                · skip
                  first | rw [decide_eq_true h7] | rw [decide_eq_false h7] | rw [h7] | skip
                  refine CWp.skip ?_
                  refine CWp.region ?_
                  refine OWp.move rfl rfl ?_
                  refine OWp.addI rfl rfl rfl rfl (by omega) ?_
                  refine OWp.assign rfl rfl ?_
                  refine OWp.nil ?_
                  exact ⟨_, by omega, b2, kd + 1, ex_env rfl ⟨rfl, hh.drop, by omega, by omega, fun m' hr hl => by have h9 := hall m' hr hl; rcases Int.lt_or_le kd m'.kind with h8 | h8; omega; exfalso; have e9 := (hmr m' hr hl (by omega)).2; exact h7 ((ht7.1 (e9 ▸ hr)).trans (e9 ▸ hl))⟩⟩
              · skip
                first | rw [decide_eq_true hg6] | rw [decide_eq_false hg6] | rw [hg6] | skip
                try simp only [Decidable.not_not] at hg6
                refine OWp.leave rfl ?_
                refine OWp.leave rfl ?_
                refine OWp.leave rfl ?_
                refine OWp.leave rfl ?_
                refine OWp.pickF rfl rfl rfl ?_
                refine OWp.nil ?_
                refine CWp.condF rfl ?_
                refine CWp.skip ?_
                refine CWp.region ?_
                refine OWp.move rfl rfl ?_
                refine OWp.addI rfl rfl rfl rfl (by omega) ?_
                refine OWp.assign rfl rfl ?_
                refine OWp.nil ?_
                exact ⟨_, by omega, b2, kd + 1, ex_env rfl ⟨rfl, hh.drop, by omega, by omega, fun m' hr hl => by have h9 := hall m' hr hl; rcases Int.lt_or_le kd m'.kind with h8 | h8; omega; exfalso; have e9 := (hmr m' hr hl (by omega)).2; have h7 := hb6.2 (e9 ▸ hr); rw [hg6] at h7; cases h7⟩⟩
            · skip
              first | rw [decide_eq_true hg5] | rw [decide_eq_false hg5] | rw [hg5] | skip
              try simp only [Decidable.not_not] at hg5
              refine OWp.leave rfl ?_
              refine OWp.leave rfl ?_
              refine OWp.pickF rfl rfl rfl ?_
              refine OWp.move rfl rfl ?_
              refine OWp.leave rfl ?_
              refine OWp.leave rfl ?_
              refine OWp.leave rfl ?_
              refine OWp.leave rfl ?_
              refine OWp.pickF rfl rfl rfl ?_
              refine OWp.nil ?_
              refine CWp.condF rfl ?_
              refine CWp.skip ?_
              refine CWp.region ?_
              refine OWp.move rfl rfl ?_
              refine OWp.addI rfl rfl rfl rfl (by omega) ?_
              refine OWp.assign rfl rfl ?_
              refine OWp.nil ?_
              exact ⟨_, by omega, b2, kd + 1, ex_env rfl ⟨rfl, hh.drop, by omega, by omega, fun m' hr hl => by have h9 := hall m' hr hl; rcases Int.lt_or_le kd m'.kind with h8 | h8; omega; exfalso; exact hg5 (hmr m' hr hl (by omega)).1⟩⟩
        · skip
          first | rw [decide_eq_true hg3] | rw [decide_eq_false hg3] | rw [hg3] | skip
          try simp only [Decidable.not_not] at hg3
          refine OWp.leave rfl ?_
          refine OWp.leave rfl ?_
          refine OWp.pickT rfl rfl rfl ?_
          refine OWp.nil ?_
          refine CWp.condT rfl ?_
          refine CWp.exit ?_
          refine CWp.region ?_
          refine OWp.move rfl rfl ?_
          refine OWp.addI rfl rfl rfl rfl (by omega) ?_
          refine OWp.assign rfl rfl ?_
          refine OWp.nil ?_
          exact ⟨_, by omega, b2, kd + 1, ex_env rfl ⟨rfl, hh, by omega, by omega, fun m' hr hl => by have h9 := hall m' hr hl; rcases Int.lt_or_le kd m'.kind with h8 | h8; omega; exfalso; obtain ⟨f1, f2, f3, f4, f5, f6, f7⟩ := hft m' hr hl (by omega); rw [f2] at hg3; cases hg3⟩⟩
      · skip
        first | rw [decide_eq_true hg2] | rw [decide_eq_false hg2] | rw [hg2] | skip
        try simp only [Decidable.not_not] at hg2
        refine OWp.leave rfl ?_
        refine OWp.leave rfl ?_
        refine OWp.pickT rfl rfl rfl ?_
        refine OWp.move rfl rfl ?_
        refine OWp.leave rfl ?_
        refine OWp.leave rfl ?_
        refine OWp.pickT rfl rfl rfl ?_
        refine OWp.nil ?_
        refine CWp.condT rfl ?_
        refine CWp.exit ?_
        refine CWp.region ?_
        refine OWp.move rfl rfl ?_
        refine OWp.addI rfl rfl rfl rfl (by omega) ?_
        refine OWp.assign rfl rfl ?_
        refine OWp.nil ?_
        exact ⟨_, by omega, b2, kd + 1, ex_env rfl ⟨rfl, hh, by omega, by omega, fun m' hr hl => by have h9 := hall m' hr hl; rcases Int.lt_or_le kd m'.kind with h8 | h8; omega; exfalso; obtain ⟨f1, f2, f3, f4, f5, f6, f7⟩ := hft m' hr hl (by omega); rw [f1] at hg2; cases hg2⟩⟩
    · skip
      first | rw [decide_eq_true h1] | rw [decide_eq_false h1] | rw [h1] | skip
      refine CWp.exit ?_
      refine CWp.seq ?_
      refine CWp.region ?_
      refine OWp.buildM (zeroM) rfl rfl rfl (by kernel_rfl) ?_
      first | refine OWp.storeM (k := 0) hh rfl rfl rfl rfl rfl (fun H4 hh => ?_) | refine OWp.storeM (k := 1) hh rfl rfl rfl rfl rfl (fun H4 hh => ?_) | refine OWp.storeM (k := 2) hh rfl rfl rfl rfl rfl (fun H4 hh => ?_)
      simp only [List.set_cons_zero, List.set_cons_succ] at hh
      refine OWp.norm ?_
      refine OWp.assign rfl rfl ?_
      refine OWp.nil ?_
      refine CWp.ret ?_
      first | refine RetQ.cellM (k := 0) (by first | exact .inl rfl | exact .inr rfl) rfl rfl hh rfl rfl rfl ?_ | refine RetQ.cellM (k := 1) (by first | exact .inl rfl | exact .inr rfl) rfl rfl hh rfl rfl rfl ?_ | refine RetQ.cellM (k := 2) (by first | exact .inl rfl | exact .inr rfl) rfl rfl hh rfl rfl rfl ?_
      exact h _ zeroM false hh.keep ⟨fun e => (by cases e), fun _ => ⟨rfl, fun m' hr hl => by have := hall m' hr hl; have := hr.k3; omega⟩⟩

end Go.Proofs.YtllokljpacpafaaDoor.Ev
