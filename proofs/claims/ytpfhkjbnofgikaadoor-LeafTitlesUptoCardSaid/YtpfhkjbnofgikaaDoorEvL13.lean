import Derived.Test.YtpfhkjbnofgikaaDoorEvL14
namespace Go.Proofs.YtpfhkjbnofgikaaDoor.Ev
open Go
set_option linter.unusedVariables false
set_option linter.unusedSimpArgs false
set_option maxRecDepth 20000
set_option maxHeartbeats 1000000

theorem titles_spec (n m : Int) (w : ByteArray) (hwz : w.size ≤ 1048576) (H : AH) (Q : Value → AH → Prop) (h : ∀ H', Q (.bool true) H') (hw : WfH H) : FWp Tryd.prog prims 7 [.int .i64 n, .int .i64 m, .string w] H Q := by
  refine FWp.enter (rfl) Tryd.func7 rfl (e := [.int .i64 n, .int .i64 m, .string w, undef, undef, undef, undef, undef, undef, undef, undef, undef, undef, undef, undef, undef, undef, undef, undef, undef, undef, undef, undef, undef, undef, undef, undef, undef, undef, undef, undef, undef, undef, undef, undef, undef, undef, undef, undef, undef, undef, undef, undef, undef, undef, undef, undef, undef, undef, undef, undef, undef, undef, undef, undef, undef, undef, undef, undef, undef, undef, undef, undef, undef, undef, undef, undef, undef, undef, undef, undef, undef, undef, undef, undef, undef, undef, undef, undef, undef, undef, undef, undef, undef, undef, undef, undef, undef, undef, undef, undef, undef, undef, undef, undef, undef, undef, undef, undef, undef, undef, undef, undef, undef, undef, undef, undef, undef, undef, undef, undef, undef, undef, undef, undef, undef, undef, undef, undef, undef, undef, undef, undef, undef, undef]) rfl ?_
  refine CWp.seq ?_
  refine CWp.region ?_
  refine OWp.assign rfl rfl ?_
  refine OWp.nil ?_
  refine CWp.seq ?_
  refine CWp.region ?_
  refine OWp.assign rfl rfl ?_
  refine OWp.nil ?_
  refine CWp.seq ?_
  refine CWp.seq ?_
  refine CWp.region ?_
  refine OWp.move rfl rfl ?_
  refine OWp.rangeS hw rfl rfl Tryd.underlying9 rfl (fun H1 it hw1 hk1 hi1 ho1 => ?_)
  refine OWp.norm ?_
  refine OWp.nil ?_
  refine CWp.block ?_
  refine CWp.loop (fun k e H' => ∃ (it pos : Nat) (s : ByteArray) (g : Nat → Value), e = [.int .i64 n, .int .i64 m, .string w, g 3, g 4, g 5, g 6, .string s, g 8, g 9, g 10, g 11, g 12, g 13, g 14, g 15, g 16, g 17, g 18, g 19, g 20, g 21, g 22, g 23, .pointer (some ⟨it, 0, none⟩), g 25, g 26, g 27, g 28, g 29, g 30, g 31, g 32, g 33, g 34, g 35, g 36, g 37, g 38, g 39, g 40, g 41, g 42, g 43, g 44, g 45, g 46, g 47, g 48, g 49, g 50, g 51, g 52, g 53, g 54, g 55, g 56, g 57, g 58, g 59, g 60, g 61, g 62, g 63, g 64, g 65, g 66, g 67, g 68, g 69, g 70, g 71, g 72, g 73, g 74, g 75, g 76, g 77, g 78, g 79, g 80, g 81, g 82, g 83, g 84, g 85, g 86, g 87, g 88, g 89, g 90, g 91, g 92, g 93, g 94, g 95, g 96, g 97, g 98, g 99, g 100, g 101, g 102, g 103, g 104, g 105, g 106, g 107, g 108, g 109, g 110, g 111, g 112, g 113, g 114, g 115, g 116, g 117, g 118, g 119, g 120, g 121, g 122, g 123, g 124] ∧ k = w.size - pos ∧ WfH H' ∧ Keeps H H' ∧ H.next ≤ it ∧ Own H' it (.stringIter w pos) true ∧ TitleS s ∧ s.size ≤ 44) ?_ ?_
  · exact ⟨_, it, 0, ⟨#[116]⟩, ex_env rfl ⟨rfl, hw1, hk1, hi1, ho1, tS, by decide⟩⟩
  · rintro k e H' ⟨it, pos, s, g, rfl, rfl, hw', hk', hi', hit, hts, hsz⟩
    refine CWp.seq ?_
    refine CWp.region ?_
    refine OWp.nextS hw' hit rfl rfl rfl (fun hlt H1 hw1 hk1 hot hit1 hse1 hnx => ?_) (fun hge => ?_)
    · refine OWp.norm ?_
      have hwid := Lib.decode_width_pos w pos hlt
      refine OWp.extract rfl rfl rfl rfl ?_
      refine OWp.nil ?_
      refine CWp.seq ?_
      refine CWp.condT rfl ?_
      refine CWp.skip ?_
      refine CWp.block ?_
      refine CWp.seq ?_
      refine CWp.region ?_
      refine OWp.extract rfl rfl rfl rfl ?_
      refine OWp.assign rfl rfl ?_
      refine OWp.nil ?_
      refine CWp.seq ?_
      refine CWp.region ?_
      refine OWp.move rfl rfl ?_
      refine OWp.binI rfl rfl rfl rfl rfl ?_
      refine OWp.move rfl rfl ?_
      first | refine OWp.byT rfl (fun hg2 => ?_) (fun hg2 => ?_) | refine OWp.byBT rfl (fun hg2 => ?_) (fun hg2 => ?_)
      · skip
        first | rw [decide_eq_true hg2] | rw [decide_eq_false hg2] | rw [hg2] | skip
        try simp only [Decidable.not_not] at hg2
        refine OWp.move rfl rfl ?_
        refine OWp.binI rfl rfl rfl rfl rfl ?_
        refine OWp.pickT rfl rfl rfl ?_
        refine OWp.move rfl rfl ?_
        first | refine OWp.byT rfl (fun hg3 => ?_) (fun hg3 => ?_) | refine OWp.byBT rfl (fun hg3 => ?_) (fun hg3 => ?_)
        · skip
          first | rw [decide_eq_true hg3] | rw [decide_eq_false hg3] | rw [hg3] | skip
          try simp only [Decidable.not_not] at hg3
          refine OWp.move rfl rfl ?_
          refine OWp.lenS rfl rfl rfl rfl rfl Tryd.underlying9 rfl ?_
          refine OWp.binI rfl rfl rfl rfl rfl ?_
          refine OWp.pickT rfl rfl rfl ?_
          refine OWp.nil ?_
          first | refine CWp.condP rfl (fun h4 => ?_) (fun h4 => ?_) | refine CWp.cond rfl (fun h4 => ?_) (fun h4 => ?_)
          · skip
            first | rw [decide_eq_true h4] | rw [decide_eq_false h4] | rw [h4] | skip
            refine CWp.region ?_
            refine OWp.move rfl rfl ?_
            refine OWp.move rfl rfl ?_
            refine OWp.convStr rfl rfl Tryd.underlying21 Tryd.underlying9 rfl ?_
            refine OWp.catS rfl rfl rfl rfl (by have := enc_le (((Utf8.decode w pos).1 : Nat) : Int); omega) ?_
            refine OWp.assign rfl rfl ?_
            refine OWp.nil ?_
            exact ⟨_, by omega, it, pos + (Utf8.decode w pos).2, s ++ Utf8.encode (((Utf8.decode w pos).1 : Nat) : Int), ex_env rfl ⟨rfl, hw1, hk1 H hw hk' hi', hi', hit1, hts.app (enc_title _ (by omega) (by omega)), by rw [size_app]; have := enc_le (((Utf8.decode w pos).1 : Nat) : Int); omega⟩⟩
          · skip
            first | rw [decide_eq_true h4] | rw [decide_eq_false h4] | rw [h4] | skip
            refine CWp.skip ?_
            exact ⟨_, by omega, it, pos + (Utf8.decode w pos).2, s, ex_env rfl ⟨rfl, hw1, hk1 H hw hk' hi', hi', hit1, hts, hsz⟩⟩
        · skip
          first | rw [decide_eq_true hg3] | rw [decide_eq_false hg3] | rw [hg3] | skip
          try simp only [Decidable.not_not] at hg3
          refine OWp.leave rfl ?_
          refine OWp.leave rfl ?_
          refine OWp.leave rfl ?_
          refine OWp.pickF rfl rfl rfl ?_
          refine OWp.nil ?_
          refine CWp.condF rfl ?_
          refine CWp.skip ?_
          exact ⟨_, by omega, it, pos + (Utf8.decode w pos).2, s, ex_env rfl ⟨rfl, hw1, hk1 H hw hk' hi', hi', hit1, hts, hsz⟩⟩
      · skip
        first | rw [decide_eq_true hg2] | rw [decide_eq_false hg2] | rw [hg2] | skip
        try simp only [Decidable.not_not] at hg2
        refine OWp.leave rfl ?_
        refine OWp.leave rfl ?_
        refine OWp.pickF rfl rfl rfl ?_
        refine OWp.move rfl rfl ?_
        refine OWp.leave rfl ?_
        refine OWp.leave rfl ?_
        refine OWp.leave rfl ?_
        refine OWp.pickF rfl rfl rfl ?_
        refine OWp.nil ?_
        refine CWp.condF rfl ?_
        refine CWp.skip ?_
        exact ⟨_, by omega, it, pos + (Utf8.decode w pos).2, s, ex_env rfl ⟨rfl, hw1, hk1 H hw hk' hi', hi', hit1, hts, hsz⟩⟩
    · refine OWp.norm ?_
      refine OWp.extract rfl rfl rfl rfl ?_
      refine OWp.nil ?_
      refine CWp.seq ?_
      refine CWp.condF rfl ?_
      refine CWp.exit ?_
      refine CWp.seq ?_
      refine CWp.region ?_
      refine OWp.move rfl rfl ?_
      refine OWp.remK rfl rfl rfl rfl (by decide) ?_
      have ht1 := tmod6 n
      generalize n.tmod 6 = r6 at ht1 ⊢
      refine OWp.addI rfl rfl rfl rfl (by first | omega | (simp only [ByteArray.size_append, hashes_size, zt1, zt2, zt8, zPT]; omega)) ?_
      refine OWp.remI rfl rfl rfl rfl (by first | omega | (simp only [ByteArray.size_append, hashes_size, zt1, zt2, zt8, zPT]; omega)) ?_
      refine OWp.addI rfl rfl rfl rfl (by omega) ?_
      have hk0 : 1 ≤ 1 + (r6 + 6) % 6 ∧ 1 + (r6 + 6) % 6 ≤ 6 := by omega
      generalize 1 + (r6 + 6) % 6 = k0 at hk0 ⊢
      obtain ⟨k, rfl⟩ := Int.eq_ofNat_of_zero_le (show 0 ≤ k0 by omega)
      have hsl := hts.lo
      refine OWp.assign rfl rfl ?_
      refine OWp.nil ?_
      refine CWp.seq ?_
      refine CWp.drawn1 (by kernel_rfl) ?_
      refine OWp.move rfl rfl ?_
      refine OWp.sliceS rfl rfl Tryd.underlying9 rfl rfl rfl (by omega) (by omega) (by show (k : Int) ≤ (6 : Int); omega) ?_
      rw [show (⟨#[35, 35, 35, 35, 35, 35]⟩ : ByteArray).extract (Int.toNat 0) (k : Int).toNat = hashes k from hash6 k (by omega)]
      refine OWp.catS rfl rfl rfl rfl (by first | omega | (simp only [ByteArray.size_append, hashes_size, zt1, zt2, zt8, zPT]; omega)) ?_
      refine OWp.move rfl rfl ?_
      refine OWp.catS rfl rfl rfl rfl (by first | omega | (simp only [ByteArray.size_append, hashes_size, zt1, zt2, zt8, zPT]; omega)) ?_
      refine OWp.catS rfl rfl rfl rfl (by first | omega | (simp only [ByteArray.size_append, hashes_size, zt1, zt2, zt8, zPT]; omega)) ?_
      refine OWp.move rfl rfl ?_
      refine OWp.andR rfl rfl rfl rfl (.inr rfl) (by omega) (fun c hc => ?_)
      refine OWp.norm ?_
      refine OWp.sliceS rfl rfl Tryd.underlying9 rfl rfl rfl (by omega) (by omega) (by show (c : Int) ≤ (8 : Int); omega) ?_
      rw [show (⟨#[35, 35, 35, 35, 35, 35, 35, 35]⟩ : ByteArray).extract (Int.toNat 0) (c : Int).toNat = hashes c from hash8 c (by omega)]
      refine OWp.catS rfl rfl rfl rfl (by first | omega | (simp only [ByteArray.size_append, hashes_size, zt1, zt2, zt8, zPT]; omega)) ?_
      refine OWp.call rfl rfl rfl rfl ?_
      refine headC_spec (hashes k ++ ⟨#[32]⟩ ++ s ++ ⟨#[32]⟩ ++ hashes c) (by first | omega | (simp only [ByteArray.size_append, hashes_size, zt1, zt2, zt8, zPT]; omega)) _ _ (fun i1 m1 n1 x1 b1 a11 a12 a13 a14 a15 => ?_)
      obtain ⟨rfl, y1, w1⟩ := head_q1 k c s hts (by omega) (by omega) ⟨a11, a12, a13, a14⟩
      clear a11 a12 a13 a14 a15
      refine OWp.norm ?_
      refine OWp.move rfl rfl ?_
      refine OWp.extract rfl rfl rfl rfl ?_
      refine OWp.extract rfl rfl rfl rfl ?_
      refine OWp.extract rfl rfl rfl rfl ?_
      refine OWp.assign rfl rfl ?_
      refine OWp.assign rfl rfl ?_
      refine OWp.assign rfl rfl ?_
      refine OWp.nil ?_
      refine CWp.seq ?_
      refine CWp.region ?_
      refine OWp.move rfl rfl ?_
      refine OWp.sliceS rfl rfl Tryd.underlying9 rfl rfl rfl (by omega) (by omega) (by show (k : Int) ≤ (6 : Int); omega) ?_
      rw [show (⟨#[35, 35, 35, 35, 35, 35]⟩ : ByteArray).extract (Int.toNat 0) (k : Int).toNat = hashes k from hash6 k (by omega)]
      refine OWp.catS rfl rfl rfl rfl (by first | omega | (simp only [ByteArray.size_append, hashes_size, zt1, zt2, zt8, zPT]; omega)) ?_
      refine OWp.move rfl rfl ?_
      refine OWp.catS rfl rfl rfl rfl (by first | omega | (simp only [ByteArray.size_append, hashes_size, zt1, zt2, zt8, zPT]; omega)) ?_
      refine OWp.catS rfl rfl rfl rfl (by first | omega | (simp only [ByteArray.size_append, hashes_size, zt1, zt2, zt8, zPT]; omega)) ?_
      refine OWp.call rfl rfl rfl rfl ?_
      refine headC_spec (hashes k ++ ⟨#[9]⟩ ++ s ++ ⟨#[32, 32]⟩) (by first | omega | (simp only [ByteArray.size_append, hashes_size, zt1, zt2, zt8, zPT]; omega)) _ _ (fun i2 m2 n2 x2 b2 a21 a22 a23 a24 a25 => ?_)
      obtain ⟨rfl, y2, w2⟩ := head_q2 k s hts (by omega) (by omega) ⟨a21, a22, a23, a24⟩
      clear a21 a22 a23 a24 a25
      refine OWp.norm ?_
      refine OWp.move rfl rfl ?_
      refine OWp.extract rfl rfl rfl rfl ?_
      refine OWp.extract rfl rfl rfl rfl ?_
      refine OWp.extract rfl rfl rfl rfl ?_
      refine OWp.assign rfl rfl ?_
      refine OWp.assign rfl rfl ?_
      refine OWp.assign rfl rfl ?_
      refine OWp.nil ?_
      refine CWp.seq ?_
      refine CWp.region ?_
      refine OWp.move rfl rfl ?_
      refine OWp.sliceS rfl rfl Tryd.underlying9 rfl rfl rfl (by omega) (by omega) (by show (k : Int) ≤ (7 : Int); omega) ?_
      rw [show (⟨#[35, 35, 35, 35, 35, 35, 35]⟩ : ByteArray).extract (Int.toNat 0) (k : Int).toNat = hashes k from hash7 k (by omega)]
      refine OWp.move rfl rfl ?_
      refine OWp.catS rfl rfl rfl rfl (by first | omega | (simp only [ByteArray.size_append, hashes_size, zt1, zt2, zt8, zPT]; omega)) ?_
      refine OWp.call rfl rfl rfl rfl ?_
      refine headC_spec (hashes k ++ s) (by first | omega | (simp only [ByteArray.size_append, hashes_size, zt1, zt2, zt8, zPT]; omega)) _ _ (fun i3 m3 n3 x3 b3 a31 a32 a33 a34 a35 => ?_)
      have y3 := head_q3 k s hts (by omega) ⟨a31, a32, a33, a34⟩
      clear a31 a32 a33 a34 a35
      subst y3
      refine OWp.norm ?_
      refine OWp.move rfl rfl ?_
      refine OWp.extract rfl rfl rfl rfl ?_
      refine OWp.extract rfl rfl rfl rfl ?_
      refine OWp.extract rfl rfl rfl rfl ?_
      refine OWp.assign rfl rfl ?_
      refine OWp.assign rfl rfl ?_
      refine OWp.assign rfl rfl ?_
      refine OWp.nil ?_
      refine CWp.seq ?_
      refine CWp.region ?_
      refine OWp.move rfl rfl ?_
      refine OWp.catS rfl rfl rfl rfl (by first | omega | (simp only [ByteArray.size_append, hashes_size, zt1, zt2, zt8, zPT]; omega)) ?_
      refine OWp.call rfl rfl rfl rfl ?_
      refine headC_spec (⟨#[35, 35, 35, 35, 35, 35, 35, 32]⟩ ++ s) (by first | omega | (simp only [ByteArray.size_append, hashes_size, zt1, zt2, zt8, zPT]; omega)) _ _ (fun i4 m4 n4 x4 b4 a41 a42 a43 a44 a45 => ?_)
      have y4 := head_q4 s ⟨a41, a42, a43, a44⟩
      clear a41 a42 a43 a44 a45
      subst y4
      refine OWp.norm ?_
      refine OWp.move rfl rfl ?_
      refine OWp.extract rfl rfl rfl rfl ?_
      refine OWp.extract rfl rfl rfl rfl ?_
      refine OWp.extract rfl rfl rfl rfl ?_
      refine OWp.assign rfl rfl ?_
      refine OWp.assign rfl rfl ?_
      refine OWp.assign rfl rfl ?_
      refine OWp.nil ?_
      refine CWp.seq ?_
      refine CWp.region ?_
      refine OWp.move rfl rfl ?_
      refine OWp.move rfl rfl ?_
      refine OWp.move rfl rfl ?_
      refine OWp.pickT rfl rfl rfl ?_
      refine OWp.move rfl rfl ?_
      refine OWp.move rfl rfl ?_
      first | refine OWp.notD rfl rfl rfl ?_ | refine OWp.notB rfl rfl rfl ?_
      refine OWp.pickT rfl rfl rfl ?_
      refine OWp.move rfl rfl ?_
      refine OWp.move rfl rfl ?_
      first | refine OWp.notD rfl rfl rfl ?_ | refine OWp.notB rfl rfl rfl ?_
      refine OWp.pickT rfl rfl rfl ?_
      refine OWp.move rfl rfl ?_
      first | refine OWp.byT rfl (fun hg2 => ?_) (fun hg2 => ?_) | refine OWp.byBT rfl (fun hg2 => ?_) (fun hg2 => ?_)
      · skip
        first | rw [decide_eq_true hg2] | rw [decide_eq_false hg2] | rw [hg2] | skip
        try simp only [Decidable.not_not] at hg2
        refine OWp.move rfl rfl ?_
        refine OWp.move rfl rfl ?_
        refine OWp.binI rfl rfl rfl rfl rfl ?_
        refine OWp.pickT rfl rfl rfl ?_
        refine OWp.move rfl rfl ?_
        first | refine OWp.byT rfl (fun hg3 => ?_) (fun hg3 => ?_) | refine OWp.byBT rfl (fun hg3 => ?_) (fun hg3 => ?_)
        · skip
          first | rw [decide_eq_true hg3] | rw [decide_eq_false hg3] | rw [hg3] | skip
          try simp only [Decidable.not_not] at hg3
          refine OWp.move rfl rfl ?_
          refine OWp.move rfl rfl ?_
          refine OWp.binI rfl rfl rfl rfl rfl ?_
          refine OWp.pickT rfl rfl rfl ?_
          refine OWp.move rfl rfl ?_
          first | refine OWp.byT rfl (fun hg4 => ?_) (fun hg4 => ?_) | refine OWp.byBT rfl (fun hg4 => ?_) (fun hg4 => ?_)
          · skip
            first | rw [decide_eq_true hg4] | rw [decide_eq_false hg4] | rw [hg4] | skip
            try simp only [Decidable.not_not] at hg4
            refine OWp.move rfl rfl ?_
            refine OWp.move rfl rfl ?_
            refine OWp.binS rfl rfl rfl rfl rfl ?_
            refine OWp.pickT rfl rfl rfl ?_
            refine OWp.move rfl rfl ?_
            first | refine OWp.byT rfl (fun hg5 => ?_) (fun hg5 => ?_) | refine OWp.byBT rfl (fun hg5 => ?_) (fun hg5 => ?_)
            · skip
              first | rw [decide_eq_true hg5] | rw [decide_eq_false hg5] | rw [hg5] | skip
              try simp only [Decidable.not_not] at hg5
              refine OWp.move rfl rfl ?_
              refine OWp.move rfl rfl ?_
              refine OWp.binS rfl rfl rfl rfl rfl ?_
              refine OWp.pickT rfl rfl rfl ?_
              refine OWp.move rfl rfl ?_
              first | refine OWp.byT rfl (fun hg6 => ?_) (fun hg6 => ?_) | refine OWp.byBT rfl (fun hg6 => ?_) (fun hg6 => ?_)
              · skip
                first | rw [decide_eq_true hg6] | rw [decide_eq_false hg6] | rw [hg6] | skip
                try simp only [Decidable.not_not] at hg6
                refine OWp.call rfl rfl rfl rfl ?_
                refine known_spec _ _ ?_
                refine OWp.norm ?_
                refine OWp.pickT rfl rfl rfl ?_
                refine OWp.assign rfl rfl ?_
                refine OWp.nil ?_
                refine CWp.ret ?_
                refine RetQ.one (by first | exact .inl rfl | exact .inr rfl) rfl rfl ?_
                exact h _
              · skip
                exact absurd w2 hg6
            · skip
              exact absurd w1 hg5
          · skip
            exact absurd y2 hg4
        · skip
          exact absurd y1 hg3
      · skip
        cases hg2

end Go.Proofs.YtpfhkjbnofgikaaDoor.Ev
