import Derived.Test.YtnlkgnoogcakjaaGreatDoorEvAttrQ
import Derived.Test.YtnlkgnoogcakjaaGreatDoorEvM1
namespace Go.Proofs.YtnlkgnoogcakjaaGreatDoor.Ev
open Go
set_option linter.unusedVariables false
set_option linter.unusedSimpArgs false
set_option maxHeartbeats 2000000
set_option maxRecDepth 20000
theorem key_spec (s : ByteArray) (hs : s.size ≤ 9000000) (H : AH) (Q : Value → AH → Prop) (h : Q (.bool (keyB s)) H) : FWp Tryz.prog prims 56 [.string s] H Q := FWp.prim (g := primKey) rfl (by simp only [primKey]; rw [if_pos hs]) h
theorem bare_spec (s : ByteArray) (hs : s.size ≤ 9000000) (H : AH) (Q : Value → AH → Prop) (h : Q (.bool (bareB s)) H) : FWp Tryz.prog prims 42 [.string s] H Q := FWp.prim (g := primBare) rfl (by simp only [primBare]; rw [if_pos hs]) h
theorem trimL_spec (s : ByteArray) (H : AH) (Q : Value → AH → Prop) (h : Q (.string (trimC s WS)) H) : FWp Tryz.prog prims 21 [.string s, .string ⟨#[32, 9]⟩] H Q :=
  FWp.prim (g := primTrimL) rfl (by simp only [primTrimL]; rw [if_pos (by decide)]; rfl) h
theorem ixA_spec (s : ByteArray) (hs : s.size ≤ 9000000) (H : AH) (Q : Value → AH → Prop) (h : Q (.int .i64 (if wordN s < s.size then (wordN s : Int) else -1)) H) : FWp Tryz.prog prims 55 [.string s, .string ⟨#[32, 9]⟩] H Q :=
  FWp.prim (g := primIndexAny) rfl (by simp only [primIndexAny]; rw [if_pos ⟨by decide, by omega⟩, indexAny_word]) h
/-- strings.IndexByte of a sign of equality. -/
theorem ixE_spec (s : ByteArray) (H : AH) (Q : Value → AH → Prop) (h1 : ∀ i : Nat, i < s.size → byteAt s (i : Nat) = 61 → (∀ j : Nat, j < i → ¬ byteAt s (j : Nat) = 61) → Q (.int .i64 (i : Nat)) H) (h2 : (∀ j : Nat, j < s.size → ¬ byteAt s (j : Nat) = 61) → Q (.int .i64 (-1)) H) : FWp Tryz.prog prims 26 [.string s, .int .u8 61] H Q := by
  refine FWp.prim (g := primIndexByte) rfl rfl ?_
  show Q (.int .i64 (Lib.indexByte s.data.toList 61)) H
  have hge := Lib.indexByte_ge s.data.toList 61
  by_cases h : Lib.indexByte s.data.toList 61 = -1
  · rw [h]
    refine h2 fun j hj e => ?_
    obtain ⟨b, hb, hv⟩ := byteAt_some s j hj
    rw [hv] at e
    exact Lib.indexByte_none h j (by rw [hb, u8_eq b 61 (by decide) e]; rfl)
  · obtain ⟨o, ho⟩ := Int.eq_ofNat_of_zero_le (show 0 ≤ Lib.indexByte s.data.toList 61 by omega)
    obtain ⟨k1, k2⟩ := Lib.indexByte_some ho
    rw [ho]
    have hlt : o < s.size := by rw [← len_size]; exact (List.getElem?_eq_some_iff.1 k1).1
    refine h1 o hlt (byteAt_list s o 61 k1) fun j hj e => ?_
    obtain ⟨b, hb, hv⟩ := byteAt_some s j (by omega)
    rw [hv] at e
    exact k2 j hj (by rw [hb, u8_eq b 61 (by decide) e]; rfl)
/-- strings.IndexByte of a byte within a blank and a tab. -/
theorem ixG : ∀ k : Fin 256, Lib.indexByte [32, 9] (k.val.toUInt8) < 0 ↔ ¬ (k.val = 32 ∨ k.val = 9) := by decide +kernel
theorem ixG_spec (s : ByteArray) (n : Nat) (hn : n < s.size) (H : AH) (Q : Value → AH → Prop) (h : ∀ i : Int, (i < 0 ↔ ¬ gapB (byteAt s (n : Nat))) → Q (.int .i64 i) H) : FWp Tryz.prog prims 26 [.string ⟨#[32, 9]⟩, .int .u8 (byteAt s (n : Nat))] H Q := by
  refine FWp.prim (g := primIndexByte) rfl rfl ?_
  show Q (.int .i64 (Lib.indexByte [32, 9] (byteAt s (n : Nat)).toNat.toUInt8)) H
  refine h _ ?_
  obtain ⟨b, hb, hv⟩ := byteAt_some s n hn
  have := ixG ⟨b.toNat, b.toNat_lt⟩
  rw [hv]
  simp only [Int.toNat_natCast] at this ⊢
  rw [this]
  unfold gapB
  omega
theorem wordN_ext {s : ByteArray} {a n : Nat} (h1 : a + n ≤ s.size) (h2 : ∀ j : Nat, j < n → ¬ gapB (byteAt s (a + j : Nat))) (h3 : a + n < s.size → gapB (byteAt s (a + n : Nat))) : wordN (s.extract a s.size) = n := by
  have hz := ext_size s a
  refine word_unique (wordN_end _) ⟨by omega, fun j hj => by rw [byteAt_ext]; exact h2 j hj, fun hlt => by rw [byteAt_ext]; exact h3 (by omega)⟩
def quoV : Option (ByteArray × Nat) → Value
  | some (x, m) => .tuple #[.string x, .int .i64 (m : Nat), .bool true]
  | none => .tuple #[.string ⟨#[]⟩, .int .i64 0, .bool false]
def paOf (p : PR) : PA := ⟨p.key, if p.alone = true then .tt else .str p.text⟩
def rowPA (ms : List PA) : List Value := ms.flatMap fun m => m.cells.toList
def rowPR (ms : List PR) : List Value := ms.flatMap fun m => m.cells.toList

theorem gap5_spec (c : Int) (H : AH) (Q : Value → AH → Prop) (h : ∀ b : Bool, (b = true ↔ gapB c) → Q (.bool b) H) : FWp Tryz.prog prims 39 [.int .u8 c] H Q := by
  refine FWp.enter (rfl) Tryz.func39 rfl (e := [.int .u8 c, undef, undef, undef, undef, undef, undef, undef, undef]) rfl ?_
  refine CWp.seq ?_
  refine CWp.region ?_
  refine OWp.assign rfl rfl ?_
  refine OWp.nil ?_
  refine CWp.seq ?_
  refine CWp.region ?_
  refine OWp.move rfl rfl ?_
  refine OWp.binI rfl rfl rfl rfl rfl ?_
  refine OWp.move rfl rfl ?_
  first | refine OWp.byF rfl (fun hg0 => ?_) (fun hg0 => ?_) | refine OWp.byBF rfl (fun hg0 => ?_) (fun hg0 => ?_)
  · skip
    first | rw [decide_eq_true hg0] | rw [decide_eq_false hg0] | rw [hg0] | skip
    try simp only [Decidable.not_not] at hg0
    refine OWp.move rfl rfl ?_
    refine OWp.binI rfl rfl rfl rfl rfl ?_
    refine OWp.pickF rfl rfl rfl ?_
    refine OWp.assign rfl rfl ?_
    refine OWp.nil ?_
    refine CWp.ret ?_
    refine RetQ.one (by first | exact .inl rfl | exact .inr rfl) rfl rfl ?_
    exact h _ (by simp [gapB, *])
  · skip
    first | rw [decide_eq_true hg0] | rw [decide_eq_false hg0] | rw [hg0] | skip
    try simp only [Decidable.not_not] at hg0
    refine OWp.leave rfl ?_
    refine OWp.leave rfl ?_
    refine OWp.pickT rfl rfl rfl ?_
    refine OWp.assign rfl rfl ?_
    refine OWp.nil ?_
    refine CWp.ret ?_
    refine RetQ.one (by first | exact .inl rfl | exact .inr rfl) rfl rfl ?_
    exact h _ (by simp [gapB, *])

theorem wordR_spec (s : ByteArray) (hs : s.size ≤ 9000000) (a : Nat) (ha : a ≤ s.size) (H : AH) (Q : Value → AH → Prop) (h : Q (.string (s.extract a (a + wordN (s.extract a s.size)))) H) : FWp Tryz.prog prims 40 [.string s, .int .i64 (a : Nat)] H Q := by
  refine FWp.enter (rfl) Tryz.func40 rfl (e := [.string s, .int .i64 (a : Nat), undef, undef, undef, undef, undef, undef, undef, undef, undef, undef, undef, undef, undef, undef, undef, undef, undef, undef, undef, undef, undef, undef]) rfl ?_
  refine CWp.seq ?_
  refine CWp.region ?_
  refine OWp.assign rfl rfl ?_
  refine OWp.nil ?_
  refine CWp.seq ?_
  refine CWp.region ?_
  refine OWp.move rfl rfl ?_
  refine OWp.assign rfl rfl ?_
  refine OWp.nil ?_
  refine CWp.seq ?_
  refine CWp.block ?_
  refine CWp.loop (fun k e H' => ∃ (n : Nat) (g : Nat → Value), e = [.string s, .int .i64 (a : Nat), g 2, g 3, g 4, .int .i64 (a + n : Nat), g 6, g 7, g 8, g 9, g 10, g 11, g 12, g 13, g 14, g 15, g 16, g 17, g 18, g 19, g 20, g 21, g 22, g 23] ∧ k = s.size - n ∧ H' = H ∧ a + n ≤ s.size ∧ ∀ j : Nat, j < n → ¬ gapB (byteAt s (a + j : Nat))) ?_ ?_
  · exact ⟨_, 0, ex_env rfl ⟨rfl, rfl, by omega, fun j hj => absurd hj (Nat.not_lt_zero _)⟩⟩
  · rintro k e H' ⟨n, g, rfl, rfl, rfl, hn, hj⟩
    refine CWp.seq ?_
    refine CWp.seq ?_
    refine CWp.region ?_
    refine OWp.move rfl rfl ?_
    refine OWp.move rfl rfl ?_
    refine OWp.lenS rfl rfl rfl rfl rfl Tryz.underlying9 rfl ?_
    refine OWp.binI rfl rfl rfl rfl rfl ?_
    refine OWp.move rfl rfl ?_
    first | refine OWp.byT rfl (fun hg1 => ?_) (fun hg1 => ?_) | refine OWp.byBT rfl (fun hg1 => ?_) (fun hg1 => ?_)
    · skip
      first | rw [decide_eq_true hg1] | rw [decide_eq_false hg1] | rw [hg1] | skip
      try simp only [Decidable.not_not] at hg1
      refine OWp.move rfl rfl ?_
      refine OWp.move rfl rfl ?_
      refine OWp.indexS rfl rfl Tryz.underlying9 rfl rfl (by omega) (by omega) ?_
      refine OWp.call rfl rfl rfl rfl ?_
      refine gap5_spec _ _ _ (fun b hb => ?_)
      refine OWp.norm ?_
      first | refine OWp.notD rfl rfl rfl ?_ | refine OWp.notB rfl rfl rfl ?_
      refine OWp.pickT rfl rfl rfl ?_
      refine OWp.nil ?_
      first | refine CWp.condP rfl (fun h2 => ?_) (fun h2 => ?_) | refine CWp.cond rfl (fun h2 => ?_) (fun h2 => ?_)
      · skip
        first | rw [decide_eq_true h2] | rw [decide_eq_false h2] | rw [h2] | skip
        refine CWp.skip ?_
        refine CWp.block ?_
        refine CWp.region ?_
        refine OWp.move rfl rfl ?_
        refine OWp.addI rfl rfl rfl rfl (by omega) ?_
        refine OWp.assign rfl rfl ?_
        refine OWp.nil ?_
        exact ⟨_, by omega, n + 1, ex_env rfl ⟨rfl, rfl, by omega, fun j h1 => by by_cases e : j = n; exact e ▸ (fun hg => by have := hb.2 hg; simp_all); exact hj j (by omega)⟩⟩
      · skip
        first | rw [decide_eq_true h2] | rw [decide_eq_false h2] | rw [h2] | skip
        refine CWp.exit ?_
        refine CWp.seq ?_
        refine CWp.region ?_
        refine OWp.move rfl rfl ?_
        refine OWp.move rfl rfl ?_
        refine OWp.move rfl rfl ?_
        refine OWp.sliceS rfl rfl Tryz.underlying9 rfl rfl rfl (by omega) (by omega) (by omega) ?_
        refine OWp.assign rfl rfl ?_
        refine OWp.nil ?_
        refine CWp.ret ?_
        refine RetQ.one (by first | exact .inl rfl | exact .inr rfl) rfl rfl ?_
        rw [wordN_ext hn hj (fun hh => hb.1 (by simpa using h2))] at h
        exact h
    · skip
      first | rw [decide_eq_true hg1] | rw [decide_eq_false hg1] | rw [hg1] | skip
      try simp only [Decidable.not_not] at hg1
      refine OWp.leave rfl ?_
      refine OWp.leave rfl ?_
      refine OWp.leave rfl ?_
      refine OWp.leave rfl ?_
      refine OWp.leave rfl ?_
      refine OWp.pickF rfl rfl rfl ?_
      refine OWp.nil ?_
      refine CWp.condF rfl ?_
      refine CWp.exit ?_
      refine CWp.seq ?_
      refine CWp.region ?_
      refine OWp.move rfl rfl ?_
      refine OWp.move rfl rfl ?_
      refine OWp.move rfl rfl ?_
      refine OWp.sliceS rfl rfl Tryz.underlying9 rfl rfl rfl (by omega) (by omega) (by omega) ?_
      refine OWp.assign rfl rfl ?_
      refine OWp.nil ?_
      refine CWp.ret ?_
      refine RetQ.one (by first | exact .inl rfl | exact .inr rfl) rfl rfl ?_
      rw [wordN_ext hn hj (fun hh => by omega)] at h
      exact h

theorem bareR_spec (s : ByteArray) (hs : s.size ≤ 9000000) (H : AH) (Q : Value → AH → Prop) (h : ∀ H', Keeps H H' → Q (.bool (bareB s)) H') (hw : WfH H) : FWp Tryz.prog prims 49 [.string s] H Q := by
  have key : ∀ H' b, Keeps H H' → (b = true ↔ BareS s) → Q (.bool b) H' := fun H' b hk hb => by
      have e : b = bareB s := by rw [Bool.eq_iff_iff, hb, bareB_iff]
      rw [e]; exact h H' hk
  refine FWp.enter (rfl) Tryz.func49 rfl (e := [.string s, undef, undef, undef, undef, undef, undef, undef, undef, undef, undef, undef, undef, undef, undef, undef, undef, undef, undef, undef, undef, undef, undef, undef, undef, undef]) rfl ?_
  refine CWp.seq ?_
  refine CWp.region ?_
  refine OWp.assign rfl rfl ?_
  refine OWp.nil ?_
  refine CWp.seq ?_
  refine CWp.seq ?_
  refine CWp.region ?_
  refine OWp.move rfl rfl ?_
  refine OWp.rangeS hw rfl rfl Tryz.underlying9 rfl (fun H1 i hw1 hk1 hi1 ho1 => ?_)
  refine OWp.norm ?_
  refine OWp.nil ?_
  refine CWp.block ?_
  refine CWp.loop (fun k e H' => ∃ (i pos : Nat) (l : List Nat) (g : Nat → Value), e = [.string s, g 1, g 2, g 3, g 4, g 5, .pointer (some ⟨i, 0, none⟩), g 7, g 8, g 9, g 10, g 11, g 12, g 13, g 14, g 15, g 16, g 17, g 18, g 19, g 20, g 21, g 22, g 23, g 24, g 25] ∧ k = s.size - pos ∧ WfH H' ∧ Keeps H H' ∧ H.next ≤ i ∧ Own H' i (.stringIter s pos) true ∧ l ++ runesF s (s.size - pos) pos = runes s ∧ ∀ r : Nat, r ∈ l → ¬ quoteP (r : Int)) ?_ ?_
  · exact ⟨_, i, 0, [], ex_env rfl ⟨rfl, hw1, hk1, hi1, ho1, rfl, by simp⟩⟩
  · rintro k e H' ⟨i, pos, l, g, rfl, rfl, hw', hk', hi', hit, hl, hall⟩
    refine CWp.seq ?_
    refine CWp.region ?_
    refine OWp.nextS hw' hit rfl rfl rfl (fun hlt H1 hw1 hk1 hot hit1 hse1 hnx => ?_) (fun hge => ?_)
    · refine OWp.norm ?_
      have hwid := Lib.decode_width_pos s pos hlt
      refine OWp.extract rfl rfl rfl rfl ?_
      refine OWp.nil ?_
      refine CWp.seq ?_
      refine CWp.condT rfl ?_
      refine CWp.skip ?_
      refine CWp.block ?_
      refine CWp.seq ?_
      refine CWp.region ?_
      refine OWp.extract rfl rfl rfl rfl ?_
      refine OWp.assign rfl rfl ?_
      refine OWp.nil ?_
      refine CWp.seq ?_
      refine CWp.region ?_
      refine OWp.move rfl rfl ?_
      refine OWp.call rfl rfl rfl rfl ?_
      refine blankRv_spec _ _ _ (fun b hb => ?_)
      refine OWp.norm ?_
      refine OWp.move rfl rfl ?_
      first | refine OWp.byF rfl (fun hg2 => ?_) (fun hg2 => ?_) | refine OWp.byBF rfl (fun hg2 => ?_) (fun hg2 => ?_)
      · skip
        first | rw [decide_eq_true hg2] | rw [decide_eq_false hg2] | rw [hg2] | skip
        try simp only [Decidable.not_not] at hg2
        refine OWp.move rfl rfl ?_
        refine OWp.binI rfl rfl rfl rfl rfl ?_
        refine OWp.pickF rfl rfl rfl ?_
        refine OWp.move rfl rfl ?_
        first | refine OWp.byF rfl (fun hg3 => ?_) (fun hg3 => ?_) | refine OWp.byBF rfl (fun hg3 => ?_) (fun hg3 => ?_)
        · skip
          first | rw [decide_eq_true hg3] | rw [decide_eq_false hg3] | rw [hg3] | skip
          try simp only [Decidable.not_not] at hg3
          refine OWp.move rfl rfl ?_
          refine OWp.binI rfl rfl rfl rfl rfl ?_
          refine OWp.pickF rfl rfl rfl ?_
          refine OWp.move rfl rfl ?_
          first | refine OWp.byF rfl (fun hg4 => ?_) (fun hg4 => ?_) | refine OWp.byBF rfl (fun hg4 => ?_) (fun hg4 => ?_)
          · skip
            first | rw [decide_eq_true hg4] | rw [decide_eq_false hg4] | rw [hg4] | skip
            try simp only [Decidable.not_not] at hg4
            refine OWp.move rfl rfl ?_
            refine OWp.binI rfl rfl rfl rfl rfl ?_
            refine OWp.pickF rfl rfl rfl ?_
            refine OWp.nil ?_
            first | refine CWp.condP rfl (fun h5 => ?_) (fun h5 => ?_) | refine CWp.cond rfl (fun h5 => ?_) (fun h5 => ?_)
            · skip
              first | rw [decide_eq_true h5] | rw [decide_eq_false h5] | rw [h5] | skip
              refine CWp.seq ?_
              refine CWp.region ?_
              refine OWp.assign rfl rfl ?_
              refine OWp.nil ?_
              refine CWp.ret ?_
              refine RetQ.one (by first | exact .inl rfl | exact .inr rfl) rfl rfl ?_
              exact key _ false (hk1 H hw hk' hi') ⟨fun e => (by cases e), fun hr => absurd (.inr (.inr (.inr (by simp_all)))) (hr.2 _ (mem_runes s pos l hl hlt))⟩
            · skip
              first | rw [decide_eq_true h5] | rw [decide_eq_false h5] | rw [h5] | skip
              refine CWp.skip ?_
              exact ⟨_, by omega, i, pos + (Utf8.decode s pos).2, l ++ [(Utf8.decode s pos).1], ex_env rfl ⟨rfl, hw1, hk1 H hw hk' hi', hi', hit1, by rw [List.append_assoc, ← hl, runesF_step s pos hlt]; rfl, by intro r hr; rcases List.mem_append.1 hr with hr | hr; exact hall r hr; simp at hr; subst hr; unfold quoteP; rw [← hb]; simp_all⟩⟩
          · skip
            first | rw [decide_eq_true hg4] | rw [decide_eq_false hg4] | rw [hg4] | skip
            try simp only [Decidable.not_not] at hg4
            refine OWp.leave rfl ?_
            refine OWp.leave rfl ?_
            refine OWp.pickT rfl rfl rfl ?_
            refine OWp.nil ?_
            refine CWp.condT rfl ?_
            refine CWp.seq ?_
            refine CWp.region ?_
            refine OWp.assign rfl rfl ?_
            refine OWp.nil ?_
            refine CWp.ret ?_
            refine RetQ.one (by first | exact .inl rfl | exact .inr rfl) rfl rfl ?_
            exact key _ false (hk1 H hw hk' hi') ⟨fun e => (by cases e), fun hr => absurd (.inr (.inr (.inl (by simp_all)))) (hr.2 _ (mem_runes s pos l hl hlt))⟩
        · skip
          first | rw [decide_eq_true hg3] | rw [decide_eq_false hg3] | rw [hg3] | skip
          try simp only [Decidable.not_not] at hg3
          refine OWp.leave rfl ?_
          refine OWp.leave rfl ?_
          refine OWp.pickT rfl rfl rfl ?_
          refine OWp.move rfl rfl ?_
          refine OWp.leave rfl ?_
          refine OWp.leave rfl ?_
          refine OWp.pickT rfl rfl rfl ?_
          refine OWp.nil ?_
          refine CWp.condT rfl ?_
          refine CWp.seq ?_
          refine CWp.region ?_
          refine OWp.assign rfl rfl ?_
          refine OWp.nil ?_
          refine CWp.ret ?_
          refine RetQ.one (by first | exact .inl rfl | exact .inr rfl) rfl rfl ?_
          exact key _ false (hk1 H hw hk' hi') ⟨fun e => (by cases e), fun hr => absurd (.inr (.inl (by simp_all))) (hr.2 _ (mem_runes s pos l hl hlt))⟩
      · skip
        first | rw [decide_eq_true hg2] | rw [decide_eq_false hg2] | rw [hg2] | skip
        try simp only [Decidable.not_not] at hg2
        refine OWp.leave rfl ?_
        refine OWp.leave rfl ?_
        refine OWp.pickT rfl rfl rfl ?_
        refine OWp.move rfl rfl ?_
        refine OWp.leave rfl ?_
        refine OWp.leave rfl ?_
        refine OWp.pickT rfl rfl rfl ?_
        refine OWp.move rfl rfl ?_
        refine OWp.leave rfl ?_
        refine OWp.leave rfl ?_
        refine OWp.pickT rfl rfl rfl ?_
        refine OWp.nil ?_
        refine CWp.condT rfl ?_
        refine CWp.seq ?_
        refine CWp.region ?_
        refine OWp.assign rfl rfl ?_
        refine OWp.nil ?_
        refine CWp.ret ?_
        refine RetQ.one (by first | exact .inl rfl | exact .inr rfl) rfl rfl ?_
        exact key _ false (hk1 H hw hk' hi') ⟨fun e => (by cases e), fun hr => absurd (.inl (by rw [← hb]; simp_all)) (hr.2 _ (mem_runes s pos l hl hlt))⟩
    · refine OWp.norm ?_
      have hend : l = runes s := by rw [runesF_end _ _ _ hge, List.append_nil] at hl; exact hl
      refine OWp.extract rfl rfl rfl rfl ?_
      refine OWp.nil ?_
      refine CWp.seq ?_
      refine CWp.condF rfl ?_
      refine CWp.exit ?_
      refine CWp.seq ?_
      refine CWp.region ?_
      refine OWp.move rfl rfl ?_
      refine OWp.binS rfl rfl rfl rfl rfl ?_
      refine OWp.assign rfl rfl ?_
      refine OWp.nil ?_
      refine CWp.ret ?_
      refine RetQ.one (by first | exact .inl rfl | exact .inr rfl) rfl rfl ?_
      refine key _ _ hk' ⟨fun e => ?_, fun hr => decide_eq_true (fun e => by rw [e] at hr; exact absurd hr.1 (by decide))⟩
      have e := of_decide_eq_true e
      exact ⟨Nat.pos_of_ne_zero fun e0 => e (ByteArray.ext (Array.eq_empty_of_size_eq_zero e0)), fun r hr => hall r (hend ▸ hr)⟩

theorem quotedR_spec (s : ByteArray) (hs : s.size ≤ 9000000) (a : Nat) (ha : a < s.size) (H : AH) (Q : Value → AH → Prop) (h : Q (quoV (quoAt s (a + 1) ⟨#[]⟩)) H) : FWp Tryz.prog prims 59 [.string s, .int .i64 (a : Nat)] H Q := by
  refine FWp.enter (rfl) Tryz.func59 rfl (e := [.string s, .int .i64 (a : Nat), undef, undef, undef, undef, undef, undef, undef, undef, undef, undef, undef, undef, undef, undef, undef, undef, undef, undef, undef, undef, undef, undef, undef, undef, undef, undef, undef, undef, undef, undef, undef, undef, undef, undef, undef, undef, undef, undef, undef, undef, undef, undef, undef, undef, undef, undef, undef, undef, undef, undef, undef]) rfl ?_
  refine CWp.seq ?_
  refine CWp.region ?_
  refine OWp.assign rfl rfl ?_
  refine OWp.assign rfl rfl ?_
  refine OWp.assign rfl rfl ?_
  refine OWp.nil ?_
  refine CWp.seq ?_
  refine CWp.region ?_
  refine OWp.assign rfl rfl ?_
  refine OWp.nil ?_
  refine CWp.seq ?_
  refine CWp.seq ?_
  refine CWp.region ?_
  refine OWp.move rfl rfl ?_
  refine OWp.addI rfl rfl rfl rfl (by first | omega | (simp only [ByteArray.size_extract]; omega)) ?_
  refine OWp.assign rfl rfl ?_
  refine OWp.nil ?_
  refine CWp.block ?_
  refine CWp.loop (fun k e H' => ∃ (out : ByteArray) (i : Nat) (g : Nat → Value), e = [.string s, .int .i64 (a : Nat), g 2, g 3, g 4, g 5, g 6, .string out, .int .i64 (i : Nat), g 9, g 10, g 11, g 12, g 13, g 14, g 15, g 16, g 17, g 18, g 19, g 20, g 21, g 22, g 23, g 24, g 25, g 26, g 27, g 28, g 29, g 30, g 31, g 32, g 33, g 34, g 35, g 36, g 37, g 38, g 39, g 40, g 41, g 42, g 43, g 44, g 45, g 46, g 47, g 48, g 49, g 50, g 51, g 52] ∧ k = s.size - i ∧ H' = H ∧ i ≤ s.size ∧ out.size ≤ i ∧ quoAt s i out = quoAt s (a + 1) ⟨#[]⟩) ?_ ?_
  · exact ⟨_, ⟨#[]⟩, a + 1, ex_env rfl ⟨rfl, rfl, by omega, Nat.zero_le _, rfl⟩⟩
  · rintro k e H' ⟨out, i, g, rfl, rfl, rfl, hi, ho, hq⟩
    refine CWp.seq ?_
    refine CWp.seq ?_
    refine CWp.region ?_
    refine OWp.move rfl rfl ?_
    refine OWp.move rfl rfl ?_
    refine OWp.lenS rfl rfl rfl rfl rfl Tryz.underlying9 rfl ?_
    refine OWp.binI rfl rfl rfl rfl rfl ?_
    refine OWp.nil ?_
    first | refine CWp.condP rfl (fun h1 => ?_) (fun h1 => ?_) | refine CWp.cond rfl (fun h1 => ?_) (fun h1 => ?_)
    · skip
      first | rw [decide_eq_true h1] | rw [decide_eq_false h1] | rw [h1] | skip
      refine CWp.skip ?_
      refine CWp.seq ?_
      refine CWp.block ?_
      refine CWp.seq ?_
      refine CWp.seq ?_
      refine CWp.region ?_
      refine OWp.move rfl rfl ?_
      refine OWp.move rfl rfl ?_
      refine OWp.indexS rfl rfl Tryz.underlying9 rfl rfl (by first | omega | (simp only [ByteArray.size_extract]; omega)) (by first | omega | (simp only [ByteArray.size_extract]; omega)) ?_
      refine OWp.binI rfl rfl rfl rfl rfl ?_
      refine OWp.nil ?_
      first | refine CWp.condP rfl (fun h2 => ?_) (fun h2 => ?_) | refine CWp.cond rfl (fun h2 => ?_) (fun h2 => ?_)
      · skip
        first | rw [decide_eq_true h2] | rw [decide_eq_false h2] | rw [h2] | skip
        refine CWp.seq ?_
        refine CWp.region ?_
        refine OWp.move rfl rfl ?_
        refine OWp.move rfl rfl ?_
        refine OWp.addI rfl rfl rfl rfl (by first | omega | (simp only [ByteArray.size_extract]; omega)) ?_
        refine OWp.assign rfl rfl ?_
        refine OWp.assign rfl rfl ?_
        refine OWp.assign rfl rfl ?_
        refine OWp.nil ?_
        refine CWp.ret ?_
        refine RetQ.three (by first | exact .inl rfl | exact .inr rfl) rfl rfl rfl rfl rfl rfl rfl ?_
        rw [← hq, quoAt_q (by omega) h2] at h
        exact h
      · skip
        first | rw [decide_eq_true h2] | rw [decide_eq_false h2] | rw [h2] | skip
        refine CWp.skip ?_
        refine CWp.seq ?_
        refine CWp.seq ?_
        refine CWp.region ?_
        refine OWp.move rfl rfl ?_
        refine OWp.move rfl rfl ?_
        refine OWp.indexS rfl rfl Tryz.underlying9 rfl rfl (by first | omega | (simp only [ByteArray.size_extract]; omega)) (by first | omega | (simp only [ByteArray.size_extract]; omega)) ?_
        refine OWp.binI rfl rfl rfl rfl rfl ?_
        refine OWp.nil ?_
        first | refine CWp.condP rfl (fun h3 => ?_) (fun h3 => ?_) | refine CWp.cond rfl (fun h3 => ?_) (fun h3 => ?_)
        · skip
          have e1 : byteAt s (i + 1 : Nat) = byteAt s ((i : Int) + 1) := rfl
          first | rw [decide_eq_true h3] | rw [decide_eq_false h3] | rw [h3] | skip
          refine CWp.seq ?_
          refine CWp.region ?_
          refine OWp.move rfl rfl ?_
          refine OWp.addI rfl rfl rfl rfl (by first | omega | (simp only [ByteArray.size_extract]; omega)) ?_
          refine OWp.assign rfl rfl ?_
          refine OWp.nil ?_
          refine CWp.seq ?_
          refine CWp.region ?_
          refine OWp.move rfl rfl ?_
          refine OWp.move rfl rfl ?_
          refine OWp.lenS rfl rfl rfl rfl rfl Tryz.underlying9 rfl ?_
          refine OWp.binI rfl rfl rfl rfl rfl ?_
          refine OWp.move rfl rfl ?_
          first | refine OWp.byF rfl (fun hg4 => ?_) (fun hg4 => ?_) | refine OWp.byBF rfl (fun hg4 => ?_) (fun hg4 => ?_)
          · skip
            first | rw [decide_eq_true hg4] | rw [decide_eq_false hg4] | rw [hg4] | skip
            try simp only [Decidable.not_not] at hg4
            refine OWp.move rfl rfl ?_
            refine OWp.move rfl rfl ?_
            refine OWp.indexS rfl rfl Tryz.underlying9 rfl rfl (by first | omega | (simp only [ByteArray.size_extract]; omega)) (by first | omega | (simp only [ByteArray.size_extract]; omega)) ?_
            refine OWp.binI rfl rfl rfl rfl rfl ?_
            refine OWp.move rfl rfl ?_
            first | refine OWp.byT rfl (fun hg5 => ?_) (fun hg5 => ?_) | refine OWp.byBT rfl (fun hg5 => ?_) (fun hg5 => ?_)
            · skip
              first | rw [decide_eq_true hg5] | rw [decide_eq_false hg5] | rw [hg5] | skip
              try simp only [Decidable.not_not] at hg5
              refine OWp.move rfl rfl ?_
              refine OWp.move rfl rfl ?_
              refine OWp.indexS rfl rfl Tryz.underlying9 rfl rfl (by first | omega | (simp only [ByteArray.size_extract]; omega)) (by first | omega | (simp only [ByteArray.size_extract]; omega)) ?_
              refine OWp.binI rfl rfl rfl rfl rfl ?_
              refine OWp.pickT rfl rfl rfl ?_
              refine OWp.pickF rfl rfl rfl ?_
              refine OWp.nil ?_
              first | refine CWp.condP rfl (fun h6 => ?_) (fun h6 => ?_) | refine CWp.cond rfl (fun h6 => ?_) (fun h6 => ?_)
              · skip
                first | rw [decide_eq_true h6] | rw [decide_eq_false h6] | rw [h6] | skip
                refine CWp.seq ?_
                refine CWp.region ?_
                refine OWp.assign rfl rfl ?_
                refine OWp.assign rfl rfl ?_
                refine OWp.assign rfl rfl ?_
                refine OWp.nil ?_
                refine CWp.ret ?_
                refine RetQ.three (by first | exact .inl rfl | exact .inr rfl) rfl rfl rfl rfl rfl rfl rfl ?_
                rw [← hq, quoAt_bad (by omega) h3 (by omega)] at h
                exact h
              · skip
                first | rw [decide_eq_true h6] | rw [decide_eq_false h6] | rw [h6] | skip
                refine CWp.skip ?_
                refine CWp.region ?_
                refine OWp.move rfl rfl ?_
                refine OWp.move rfl rfl ?_
                refine OWp.move rfl rfl ?_
                refine OWp.move rfl rfl ?_
                refine OWp.addI rfl rfl rfl rfl (by first | omega | (simp only [ByteArray.size_extract]; omega)) ?_
                refine OWp.sliceS rfl rfl Tryz.underlying9 rfl rfl rfl (by first | omega | (simp only [ByteArray.size_extract]; omega)) (by first | omega | (simp only [ByteArray.size_extract]; omega)) (by first | omega | (simp only [ByteArray.size_extract]; omega)) ?_
                refine OWp.catS rfl rfl rfl rfl (by first | omega | (simp only [ByteArray.size_extract]; omega)) ?_
                refine OWp.assign rfl rfl ?_
                refine OWp.nil ?_
                refine CWp.region ?_
                refine OWp.move rfl rfl ?_
                refine OWp.addI rfl rfl rfl rfl (by first | omega | (simp only [ByteArray.size_extract]; omega)) ?_
                refine OWp.assign rfl rfl ?_
                refine OWp.nil ?_
                exact ⟨_, by omega, out ++ s.extract (i + 1) (i + 2), i + 2, ex_env rfl ⟨rfl, rfl, by omega, (by simp only [size_app, ByteArray.size_extract]; omega), by rw [← hq]; exact (quoAt_esc h3 (by omega) (by omega)).symm⟩⟩
            · skip
              first | rw [decide_eq_true hg5] | rw [decide_eq_false hg5] | rw [hg5] | skip
              try simp only [Decidable.not_not] at hg5
              refine OWp.leave rfl ?_
              refine OWp.leave rfl ?_
              refine OWp.leave rfl ?_
              refine OWp.leave rfl ?_
              refine OWp.pickF rfl rfl rfl ?_
              refine OWp.pickF rfl rfl rfl ?_
              refine OWp.nil ?_
              refine CWp.condF rfl ?_
              refine CWp.skip ?_
              refine CWp.region ?_
              refine OWp.move rfl rfl ?_
              refine OWp.move rfl rfl ?_
              refine OWp.move rfl rfl ?_
              refine OWp.move rfl rfl ?_
              refine OWp.addI rfl rfl rfl rfl (by first | omega | (simp only [ByteArray.size_extract]; omega)) ?_
              refine OWp.sliceS rfl rfl Tryz.underlying9 rfl rfl rfl (by first | omega | (simp only [ByteArray.size_extract]; omega)) (by first | omega | (simp only [ByteArray.size_extract]; omega)) (by first | omega | (simp only [ByteArray.size_extract]; omega)) ?_
              refine OWp.catS rfl rfl rfl rfl (by first | omega | (simp only [ByteArray.size_extract]; omega)) ?_
              refine OWp.assign rfl rfl ?_
              refine OWp.nil ?_
              refine CWp.region ?_
              refine OWp.move rfl rfl ?_
              refine OWp.addI rfl rfl rfl rfl (by first | omega | (simp only [ByteArray.size_extract]; omega)) ?_
              refine OWp.assign rfl rfl ?_
              refine OWp.nil ?_
              exact ⟨_, by omega, out ++ s.extract (i + 1) (i + 2), i + 2, ex_env rfl ⟨rfl, rfl, by omega, (by simp only [size_app, ByteArray.size_extract]; omega), by rw [← hq]; exact (quoAt_esc h3 (by omega) (by omega)).symm⟩⟩
          · skip
            first | rw [decide_eq_true hg4] | rw [decide_eq_false hg4] | rw [hg4] | skip
            try simp only [Decidable.not_not] at hg4
            refine OWp.leave rfl ?_
            refine OWp.leave rfl ?_
            refine OWp.leave rfl ?_
            refine OWp.leave rfl ?_
            refine OWp.leave rfl ?_
            refine OWp.leave rfl ?_
            refine OWp.leave rfl ?_
            refine OWp.leave rfl ?_
            refine OWp.leave rfl ?_
            refine OWp.leave rfl ?_
            refine OWp.pickT rfl rfl rfl ?_
            refine OWp.nil ?_
            refine CWp.condT rfl ?_
            refine CWp.seq ?_
            refine CWp.region ?_
            refine OWp.assign rfl rfl ?_
            refine OWp.assign rfl rfl ?_
            refine OWp.assign rfl rfl ?_
            refine OWp.nil ?_
            refine CWp.ret ?_
            refine RetQ.three (by first | exact .inl rfl | exact .inr rfl) rfl rfl rfl rfl rfl rfl rfl ?_
            rw [← hq, quoAt_bad (by omega) h3 (by omega)] at h
            exact h
        · skip
          first | rw [decide_eq_true h3] | rw [decide_eq_false h3] | rw [h3] | skip
          refine CWp.skip ?_
          refine CWp.region ?_
          refine OWp.move rfl rfl ?_
          refine OWp.move rfl rfl ?_
          refine OWp.move rfl rfl ?_
          refine OWp.move rfl rfl ?_
          refine OWp.addI rfl rfl rfl rfl (by first | omega | (simp only [ByteArray.size_extract]; omega)) ?_
          refine OWp.sliceS rfl rfl Tryz.underlying9 rfl rfl rfl (by first | omega | (simp only [ByteArray.size_extract]; omega)) (by first | omega | (simp only [ByteArray.size_extract]; omega)) (by first | omega | (simp only [ByteArray.size_extract]; omega)) ?_
          refine OWp.catS rfl rfl rfl rfl (by first | omega | (simp only [ByteArray.size_extract]; omega)) ?_
          refine OWp.assign rfl rfl ?_
          refine OWp.nil ?_
          refine CWp.region ?_
          refine OWp.move rfl rfl ?_
          refine OWp.addI rfl rfl rfl rfl (by first | omega | (simp only [ByteArray.size_extract]; omega)) ?_
          refine OWp.assign rfl rfl ?_
          refine OWp.nil ?_
          exact ⟨_, by omega, out ++ s.extract i (i + 1), i + 1, ex_env rfl ⟨rfl, rfl, by omega, (by simp only [size_app, ByteArray.size_extract]; omega), by rw [← hq]; exact (quoAt_one (by omega) h2 h3).symm⟩⟩
    · skip
      first | rw [decide_eq_true h1] | rw [decide_eq_false h1] | rw [h1] | skip
      refine CWp.exit ?_
      refine CWp.seq ?_
      refine CWp.region ?_
      refine OWp.assign rfl rfl ?_
      refine OWp.assign rfl rfl ?_
      refine OWp.assign rfl rfl ?_
      refine OWp.nil ?_
      refine CWp.ret ?_
      refine RetQ.three (by first | exact .inl rfl | exact .inr rfl) rfl rfl rfl rfl rfl rfl rfl ?_
      rw [← hq, quoAt_end (by omega)] at h
      exact h

theorem word_spec (s : ByteArray) (hs : s.size ≤ 9000000) (H : AH) (Q : Value → AH → Prop) (h : Q (.int .i64 (wordN s : Nat)) H) : FWp Tryz.prog prims 33 [.string s] H Q := by
  refine FWp.enter (rfl) Tryz.func33 rfl (e := [.string s, undef, undef, undef, undef, undef, undef, undef, undef, undef, undef]) rfl ?_
  refine CWp.seq ?_
  refine CWp.region ?_
  refine OWp.assign rfl rfl ?_
  refine OWp.nil ?_
  refine CWp.seq ?_
  refine CWp.seq ?_
  refine CWp.region ?_
  refine OWp.move rfl rfl ?_
  refine OWp.call rfl rfl rfl rfl ?_
  refine ixA_spec _ (by omega) _ _ ?_
  have hwl := wordN_le s
  refine OWp.norm ?_
  refine OWp.assign rfl rfl ?_
  refine OWp.nil ?_
  refine CWp.seq ?_
  refine CWp.region ?_
  refine OWp.move rfl rfl ?_
  refine OWp.binI rfl rfl rfl rfl rfl ?_
  refine OWp.nil ?_
  first | refine CWp.condP rfl (fun h0 => ?_) (fun h0 => ?_) | refine CWp.cond rfl (fun h0 => ?_) (fun h0 => ?_)
  · skip
    first | rw [decide_eq_true h0] | rw [decide_eq_false h0] | rw [h0] | skip
    refine CWp.seq ?_
    refine CWp.region ?_
    refine OWp.move rfl rfl ?_
    refine OWp.assign rfl rfl ?_
    refine OWp.nil ?_
    refine CWp.ret ?_
    refine RetQ.one (by first | exact .inl rfl | exact .inr rfl) rfl rfl ?_
    refine Q_val h ?_
    by_cases hl : wordN s < s.size
    · rw [if_pos hl]; rfl
    · rw [if_neg hl] at h0; omega
  · skip
    first | rw [decide_eq_true h0] | rw [decide_eq_false h0] | rw [h0] | skip
    refine CWp.skip ?_
    refine CWp.seq ?_
    refine CWp.region ?_
    refine OWp.move rfl rfl ?_
    refine OWp.lenS rfl rfl rfl rfl rfl Tryz.underlying9 rfl ?_
    refine OWp.assign rfl rfl ?_
    refine OWp.nil ?_
    refine CWp.ret ?_
    refine RetQ.one (by first | exact .inl rfl | exact .inr rfl) rfl rfl ?_
    refine Q_val h ?_
    by_cases hl : wordN s < s.size
    · rw [if_pos hl] at h0; omega
    · rw [show wordN s = s.size by omega]; rfl

theorem alone_spec (s : ByteArray) (H : AH) (Q : Value → AH → Prop) (h : ∀ b : Bool, (b = true ↔ aloneP s) → Q (.bool b) H) : FWp Tryz.prog prims 34 [.string s] H Q := by
  refine FWp.enter (rfl) Tryz.func34 rfl (e := [.string s, undef, undef, undef, undef, undef, undef, undef, undef]) rfl ?_
  refine CWp.seq ?_
  refine CWp.region ?_
  refine OWp.assign rfl rfl ?_
  refine OWp.nil ?_
  refine CWp.seq ?_
  refine CWp.region ?_
  refine OWp.move rfl rfl ?_
  refine OWp.binS rfl rfl rfl rfl rfl ?_
  refine OWp.move rfl rfl ?_
  first | refine OWp.byF rfl (fun hg0 => ?_) (fun hg0 => ?_) | refine OWp.byBF rfl (fun hg0 => ?_) (fun hg0 => ?_)
  · skip
    first | rw [decide_eq_true hg0] | rw [decide_eq_false hg0] | rw [hg0] | skip
    try simp only [Decidable.not_not] at hg0
    refine OWp.move rfl rfl ?_
    refine OWp.binS rfl rfl rfl rfl rfl ?_
    refine OWp.pickF rfl rfl rfl ?_
    refine OWp.assign rfl rfl ?_
    refine OWp.nil ?_
    refine CWp.ret ?_
    refine RetQ.one (by first | exact .inl rfl | exact .inr rfl) rfl rfl ?_
    exact h _ (by simp [aloneP, *])
  · skip
    first | rw [decide_eq_true hg0] | rw [decide_eq_false hg0] | rw [hg0] | skip
    try simp only [Decidable.not_not] at hg0
    refine OWp.leave rfl ?_
    refine OWp.leave rfl ?_
    refine OWp.pickT rfl rfl rfl ?_
    refine OWp.assign rfl rfl ?_
    refine OWp.nil ?_
    refine CWp.ret ?_
    refine RetQ.one (by first | exact .inl rfl | exact .inr rfl) rfl rfl ?_
    exact h _ (by simp [aloneP, *])

theorem quoted_spec (s : ByteArray) (hs : s.size ≤ 9000000) (H : AH) (Q : Value → AH → Prop) (h : ∀ H', Keeps H H' → Q (quoV (quoted s)) H') (hw : WfH H) (h0 : 0 < s.size) : FWp Tryz.prog prims 57 [.string s] H Q := by
  have hE : elemT Tryz.prog 22 = some 5 := by kernel_rfl
  have hz : zeroT Tryz.prog 5 = some (.int .u8 0) := by kernel_rfl
  have hs1 : szT Tryz.prog 5 = 1 := by kernel_rfl
  have hb1 : bytesT Tryz.prog 5 = 1 := by kernel_rfl
  refine FWp.enter (rfl) Tryz.func57 rfl (e := [.string s, undef, undef, undef, undef, undef, undef, undef, undef, undef, undef, undef, undef, undef, undef, undef, undef, undef, undef, undef, undef, undef, undef, undef, undef, undef, undef, undef, undef, undef, undef, undef, undef, undef, undef, undef, undef, undef, undef, undef, undef, undef, undef, undef, undef, undef, undef, undef, undef, undef, undef]) rfl ?_
  refine CWp.seq ?_
  refine CWp.region ?_
  refine OWp.assign rfl rfl ?_
  refine OWp.assign rfl rfl ?_
  refine OWp.assign rfl rfl ?_
  refine OWp.nil ?_
  refine CWp.seq ?_
  refine CWp.region ?_
  refine OWp.assign rfl rfl ?_
  refine OWp.nil ?_
  refine CWp.seq ?_
  refine CWp.seq ?_
  refine CWp.region ?_
  refine OWp.assign rfl rfl ?_
  refine OWp.nil ?_
  refine CWp.block ?_
  refine CWp.loop (fun k e H' => ∃ (v : Value) (l : List UInt8) (i : Nat) (g : Nat → Value), e = [.string s, g 1, g 2, g 3, g 4, v, .int .i64 (i : Nat), g 7, g 8, g 9, g 10, g 11, g 12, g 13, g 14, g 15, g 16, g 17, g 18, g 19, g 20, g 21, g 22, g 23, g 24, g 25, g 26, g 27, g 28, g 29, g 30, g 31, g 32, g 33, g 34, g 35, g 36, g 37, g 38, g 39, g 40, g 41, g 42, g 43, g 44, g 45, g 46, g 47, g 48, g 49, g 50] ∧ k = s.size - i ∧ WfH H' ∧ Keeps H H' ∧ Grow H.next H' v 5 (bytesV l) ∧ i ≤ s.size ∧ l.length ≤ i ∧ quoAt s i ⟨l.toArray⟩ = quoted s) ?_ ?_
  · exact ⟨_, _, [], 1, ex_env rfl ⟨rfl, hw, Keeps.refl hw, .inl ⟨rfl, rfl⟩, by omega, Nat.zero_le _, rfl⟩⟩
  · rintro k e H' ⟨v, l, i, g, rfl, rfl, hw', hk', hgr, hi, ho, hq⟩
    refine CWp.seq ?_
    refine CWp.seq ?_
    refine CWp.region ?_
    refine OWp.move rfl rfl ?_
    refine OWp.move rfl rfl ?_
    refine OWp.lenS rfl rfl rfl rfl rfl Tryz.underlying9 rfl ?_
    refine OWp.binI rfl rfl rfl rfl rfl ?_
    refine OWp.nil ?_
    first | refine CWp.condP rfl (fun h1 => ?_) (fun h1 => ?_) | refine CWp.cond rfl (fun h1 => ?_) (fun h1 => ?_)
    · skip
      first | rw [decide_eq_true h1] | rw [decide_eq_false h1] | rw [h1] | skip
      refine CWp.skip ?_
      refine CWp.seq ?_
      refine CWp.block ?_
      refine CWp.seq ?_
      refine CWp.block ?_
      refine CWp.seq ?_
      refine CWp.region ?_
      refine OWp.move rfl rfl ?_
      refine OWp.move rfl rfl ?_
      refine OWp.indexS rfl rfl Tryz.underlying9 rfl rfl (by omega) (by omega) ?_
      refine OWp.binI rfl rfl rfl rfl rfl ?_
      refine OWp.assign rfl rfl ?_
      refine OWp.nil ?_
      first | refine CWp.condP rfl (fun h2 => ?_) (fun h2 => ?_) | refine CWp.cond rfl (fun h2 => ?_) (fun h2 => ?_)
      · skip
        obtain ⟨p, rfl, hrow⟩ := hgr.row
        first | rw [decide_eq_true h2] | rw [decide_eq_false h2] | rw [h2] | skip
        refine CWp.seq ?_
        refine CWp.region ?_
        refine OWp.move rfl rfl ?_
        refine OWp.convBS rfl rfl Tryz.underlying22 Tryz.underlying5 Tryz.underlying9 rfl hrow rfl ?_
        refine OWp.move rfl rfl ?_
        refine OWp.addI rfl rfl rfl rfl (by omega) ?_
        refine OWp.assign rfl rfl ?_
        refine OWp.assign rfl rfl ?_
        refine OWp.assign rfl rfl ?_
        refine OWp.nil ?_
        refine CWp.ret ?_
        refine RetQ.three (by first | exact .inl rfl | exact .inr rfl) rfl rfl rfl rfl rfl rfl rfl ?_
        have h9 := h _ hk'
        rw [← hq, quoAt_q (by omega) h2] at h9
        exact h9
      · skip
        first | rw [decide_eq_true h2] | rw [decide_eq_false h2] | rw [h2] | skip
        refine CWp.seq ?_
        refine CWp.region ?_
        refine OWp.move rfl rfl ?_
        refine OWp.move rfl rfl ?_
        refine OWp.indexS rfl rfl Tryz.underlying9 rfl rfl (by omega) (by omega) ?_
        refine OWp.binI rfl rfl rfl rfl rfl ?_
        refine OWp.assign rfl rfl ?_
        refine OWp.nil ?_
        first | refine CWp.condP rfl (fun h3 => ?_) (fun h3 => ?_) | refine CWp.cond rfl (fun h3 => ?_) (fun h3 => ?_)
        · skip
          have e1 : byteAt s (i + 1 : Nat) = byteAt s ((i : Int) + 1) := rfl
          first | rw [decide_eq_true h3] | rw [decide_eq_false h3] | rw [h3] | skip
          refine CWp.seq ?_
          refine CWp.region ?_
          refine OWp.move rfl rfl ?_
          refine OWp.addI rfl rfl rfl rfl (by omega) ?_
          refine OWp.assign rfl rfl ?_
          refine OWp.nil ?_
          refine CWp.seq ?_
          refine CWp.region ?_
          refine OWp.move rfl rfl ?_
          refine OWp.move rfl rfl ?_
          refine OWp.lenS rfl rfl rfl rfl rfl Tryz.underlying9 rfl ?_
          refine OWp.binI rfl rfl rfl rfl rfl ?_
          refine OWp.move rfl rfl ?_
          first | refine OWp.byF rfl (fun hg4 => ?_) (fun hg4 => ?_) | refine OWp.byBF rfl (fun hg4 => ?_) (fun hg4 => ?_)
          · skip
            first | rw [decide_eq_true hg4] | rw [decide_eq_false hg4] | rw [hg4] | skip
            try simp only [Decidable.not_not] at hg4
            refine OWp.move rfl rfl ?_
            refine OWp.move rfl rfl ?_
            refine OWp.indexS rfl rfl Tryz.underlying9 rfl rfl (by omega) (by omega) ?_
            refine OWp.binI rfl rfl rfl rfl rfl ?_
            refine OWp.move rfl rfl ?_
            first | refine OWp.byT rfl (fun hg5 => ?_) (fun hg5 => ?_) | refine OWp.byBT rfl (fun hg5 => ?_) (fun hg5 => ?_)
            · skip
              first | rw [decide_eq_true hg5] | rw [decide_eq_false hg5] | rw [hg5] | skip
              try simp only [Decidable.not_not] at hg5
              refine OWp.move rfl rfl ?_
              refine OWp.move rfl rfl ?_
              refine OWp.indexS rfl rfl Tryz.underlying9 rfl rfl (by omega) (by omega) ?_
              refine OWp.binI rfl rfl rfl rfl rfl ?_
              refine OWp.pickT rfl rfl rfl ?_
              refine OWp.pickF rfl rfl rfl ?_
              refine OWp.nil ?_
              first | refine CWp.condP rfl (fun h6 => ?_) (fun h6 => ?_) | refine CWp.cond rfl (fun h6 => ?_) (fun h6 => ?_)
              · skip
                first | rw [decide_eq_true h6] | rw [decide_eq_false h6] | rw [h6] | skip
                refine CWp.seq ?_
                refine CWp.region ?_
                refine OWp.assign rfl rfl ?_
                refine OWp.assign rfl rfl ?_
                refine OWp.assign rfl rfl ?_
                refine OWp.nil ?_
                refine CWp.ret ?_
                refine RetQ.three (by first | exact .inl rfl | exact .inr rfl) rfl rfl rfl rfl rfl rfl rfl ?_
                have h9 := h _ hk'
                rw [← hq, quoAt_bad (by omega) h3 (by omega)] at h9
                exact h9
              · skip
                first | rw [decide_eq_true h6] | rw [decide_eq_false h6] | rw [h6] | skip
                refine CWp.skip ?_
                refine CWp.region ?_
                refine OWp.move rfl rfl ?_
                refine OWp.move rfl rfl ?_
                refine OWp.move rfl rfl ?_
                refine OWp.indexS rfl rfl Tryz.underlying9 rfl rfl (by omega) (by omega) ?_
                obtain ⟨bb, hbb, hbx⟩ := byteOne s (i + 1) (by omega)
                refine OWp.buildSl hw' rfl rfl rfl (t' := 5) (cells := #[.int .u8 (byteAt s (i + 1 : Nat))]) (by kernel_rfl) (fun H2 c hw2 hk2 hc2 ho2 => ?_)
                refine OWp.norm ?_
                refine OWp.append (B := H.next) hw2 (by have := hk'.next; have := hk2.next; omega) (hgr.keep hw' hk2) ho2.row rfl (by simp) rfl rfl rfl rfl rfl hE Tryz.underlying22 hz rfl hs1 (by omega) rfl rfl (by simp [bytesV, hb1]; omega) (fun H3 v3 hg3 hgr3 => ?_)
                refine OWp.norm ?_
                refine OWp.assign rfl rfl ?_
                refine OWp.nil ?_
                refine CWp.region ?_
                refine OWp.move rfl rfl ?_
                refine OWp.addI rfl rfl rfl rfl (by omega) ?_
                refine OWp.assign rfl rfl ?_
                refine OWp.nil ?_
                exact ⟨_, by omega, v3, l ++ [bb], i + 2, ex_env rfl ⟨rfl, hg3.wf, hg3.keeps H hw (hk'.trans hk2 hw) (Nat.le_refl _), by rw [bytesV_snoc, ← hbb]; exact hgr3, by omega, (by simp; omega), by rw [← hq, ← app_one, ← hbx]; exact (quoAt_esc h3 (by omega) (by omega)).symm⟩⟩
            · skip
              first | rw [decide_eq_true hg5] | rw [decide_eq_false hg5] | rw [hg5] | skip
              try simp only [Decidable.not_not] at hg5
              refine OWp.leave rfl ?_
              refine OWp.leave rfl ?_
              refine OWp.leave rfl ?_
              refine OWp.leave rfl ?_
              refine OWp.pickF rfl rfl rfl ?_
              refine OWp.pickF rfl rfl rfl ?_
              refine OWp.nil ?_
              refine CWp.condF rfl ?_
              refine CWp.skip ?_
              refine CWp.region ?_
              refine OWp.move rfl rfl ?_
              refine OWp.move rfl rfl ?_
              refine OWp.move rfl rfl ?_
              refine OWp.indexS rfl rfl Tryz.underlying9 rfl rfl (by omega) (by omega) ?_
              obtain ⟨bb, hbb, hbx⟩ := byteOne s (i + 1) (by omega)
              refine OWp.buildSl hw' rfl rfl rfl (t' := 5) (cells := #[.int .u8 (byteAt s (i + 1 : Nat))]) (by kernel_rfl) (fun H2 c hw2 hk2 hc2 ho2 => ?_)
              refine OWp.norm ?_
              refine OWp.append (B := H.next) hw2 (by have := hk'.next; have := hk2.next; omega) (hgr.keep hw' hk2) ho2.row rfl (by simp) rfl rfl rfl rfl rfl hE Tryz.underlying22 hz rfl hs1 (by omega) rfl rfl (by simp [bytesV, hb1]; omega) (fun H3 v3 hg3 hgr3 => ?_)
              refine OWp.norm ?_
              refine OWp.assign rfl rfl ?_
              refine OWp.nil ?_
              refine CWp.region ?_
              refine OWp.move rfl rfl ?_
              refine OWp.addI rfl rfl rfl rfl (by omega) ?_
              refine OWp.assign rfl rfl ?_
              refine OWp.nil ?_
              exact ⟨_, by omega, v3, l ++ [bb], i + 2, ex_env rfl ⟨rfl, hg3.wf, hg3.keeps H hw (hk'.trans hk2 hw) (Nat.le_refl _), by rw [bytesV_snoc, ← hbb]; exact hgr3, by omega, (by simp; omega), by rw [← hq, ← app_one, ← hbx]; exact (quoAt_esc h3 (by omega) (by omega)).symm⟩⟩
          · skip
            first | rw [decide_eq_true hg4] | rw [decide_eq_false hg4] | rw [hg4] | skip
            try simp only [Decidable.not_not] at hg4
            refine OWp.leave rfl ?_
            refine OWp.leave rfl ?_
            refine OWp.leave rfl ?_
            refine OWp.leave rfl ?_
            refine OWp.leave rfl ?_
            refine OWp.leave rfl ?_
            refine OWp.leave rfl ?_
            refine OWp.leave rfl ?_
            refine OWp.leave rfl ?_
            refine OWp.leave rfl ?_
            refine OWp.pickT rfl rfl rfl ?_
            refine OWp.nil ?_
            refine CWp.condT rfl ?_
            refine CWp.seq ?_
            refine CWp.region ?_
            refine OWp.assign rfl rfl ?_
            refine OWp.assign rfl rfl ?_
            refine OWp.assign rfl rfl ?_
            refine OWp.nil ?_
            refine CWp.ret ?_
            refine RetQ.three (by first | exact .inl rfl | exact .inr rfl) rfl rfl rfl rfl rfl rfl rfl ?_
            have h9 := h _ hk'
            rw [← hq, quoAt_bad (by omega) h3 (by omega)] at h9
            exact h9
        · skip
          obtain ⟨bb, hbb, hbx⟩ := byteOne s i (by omega)
          first | rw [decide_eq_true h3] | rw [decide_eq_false h3] | rw [h3] | skip
          refine CWp.skip ?_
          refine CWp.region ?_
          refine OWp.move rfl rfl ?_
          refine OWp.move rfl rfl ?_
          refine OWp.move rfl rfl ?_
          refine OWp.indexS rfl rfl Tryz.underlying9 rfl rfl (by omega) (by omega) ?_
          refine OWp.buildSl hw' rfl rfl rfl (t' := 5) (cells := #[.int .u8 (byteAt s (i : Nat))]) (by kernel_rfl) (fun H2 c hw2 hk2 hc2 ho2 => ?_)
          refine OWp.norm ?_
          refine OWp.append (B := H.next) hw2 (by have := hk'.next; have := hk2.next; omega) (hgr.keep hw' hk2) ho2.row rfl (by simp) rfl rfl rfl rfl rfl hE Tryz.underlying22 hz rfl hs1 (by omega) rfl rfl (by simp [bytesV, hb1]; omega) (fun H3 v3 hg3 hgr3 => ?_)
          refine OWp.norm ?_
          refine OWp.assign rfl rfl ?_
          refine OWp.nil ?_
          refine CWp.region ?_
          refine OWp.move rfl rfl ?_
          refine OWp.addI rfl rfl rfl rfl (by omega) ?_
          refine OWp.assign rfl rfl ?_
          refine OWp.nil ?_
          exact ⟨_, by omega, v3, l ++ [bb], i + 1, ex_env rfl ⟨rfl, hg3.wf, hg3.keeps H hw (hk'.trans hk2 hw) (Nat.le_refl _), by rw [bytesV_snoc, ← hbb]; exact hgr3, by omega, (by simp; omega), by rw [← hq, ← app_one, ← hbx]; exact (quoAt_one (by omega) h2 h3).symm⟩⟩
    · skip
      first | rw [decide_eq_true h1] | rw [decide_eq_false h1] | rw [h1] | skip
      refine CWp.exit ?_
      refine CWp.seq ?_
      refine CWp.region ?_
      refine OWp.assign rfl rfl ?_
      refine OWp.assign rfl rfl ?_
      refine OWp.assign rfl rfl ?_
      refine OWp.nil ?_
      refine CWp.ret ?_
      refine RetQ.three (by first | exact .inl rfl | exact .inr rfl) rfl rfl rfl rfl rfl rfl rfl ?_
      have h9 := h _ hk'
      rw [← hq, quoAt_end (by omega)] at h9
      exact h9

end Go.Proofs.YtnlkgnoogcakjaaGreatDoor.Ev
