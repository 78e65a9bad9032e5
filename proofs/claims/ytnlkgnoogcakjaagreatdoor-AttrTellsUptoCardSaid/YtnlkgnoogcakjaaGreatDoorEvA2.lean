import Derived.Test.YtnlkgnoogcakjaaGreatDoorEvA1
namespace Go.Proofs.YtnlkgnoogcakjaaGreatDoor.Ev
open Go
set_option linter.unusedVariables false
set_option linter.unusedSimpArgs false
set_option maxHeartbeats 2000000
set_option maxRecDepth 20000
/-- strings.IndexByte of a sign of equality, in a text's beginning. -/
theorem ixW_spec (s : ByteArray) (n : Nat) (hn : n ≤ s.size) (H : AH) (Q : Value → AH → Prop) (h : ∀ i : Int, ((∃ o : Nat, i = (o : Int) ∧ o < n ∧ byteAt s (o : Nat) = 61 ∧ ∀ j : Nat, j < o → ¬ byteAt s (j : Nat) = 61) ∨ (i = -1 ∧ ∀ j : Nat, j < n → ¬ byteAt s (j : Nat) = 61)) → Q (.int .i64 i) H) : FWp Tryz.prog prims 26 [.string (s.extract 0 n), .int .u8 61] H Q := by
  have hz : (s.extract 0 n).size = n := by simp [ByteArray.size_extract]; omega
  refine ixE_spec _ _ _ (fun i hi h1 h2 => ?_) (fun h2 => ?_)
  · rw [hz] at hi
    rw [byteAt_ext0 s n i hi hn] at h1
    exact h _ (.inl ⟨i, rfl, hi, h1, fun j hj => by have := h2 j hj; rwa [byteAt_ext0 s n j (by omega) hn] at this⟩)
  · exact h _ (.inr ⟨rfl, fun j hj => by have := h2 j (by omega); rwa [byteAt_ext0 s n j hj hn] at this⟩)
theorem quotedV_spec (s : ByteArray) (hs : s.size ≤ 9000000) (h0 : 0 < s.size) (H : AH) (Q : Value → AH → Prop) (h : ∀ H' (x : ByteArray) (m : Nat) (ok : Bool), Keeps H H' → (∀ y n, quoted s = some (y, n) → x = y ∧ m = n ∧ ok = true) → (quoted s = none → ok = false) → Q (.tuple #[.string x, .int .i64 (m : Nat), .bool ok]) H') (hw : WfH H) : FWp Tryz.prog prims 57 [.string s] H Q := by
  refine quoted_spec s hs H Q (fun H' hk => ?_) hw h0
  cases hq : quoted s with
  | none => exact h H' ⟨#[]⟩ 0 false hk (fun y n e => by rw [hq] at e; cases e) (fun _ => rfl)
  | some p =>
    obtain ⟨x, m⟩ := p
    exact h H' x m true hk (fun y n e => by rw [hq] at e; cases e; exact ⟨rfl, rfl, rfl⟩) (fun e => by rw [hq] at e; cases e)
theorem quotedRV_spec (s : ByteArray) (hs : s.size ≤ 9000000) (a : Nat) (ha : a < s.size) (H : AH) (Q : Value → AH → Prop) (h : ∀ (x : ByteArray) (m : Nat) (ok : Bool), (∀ y n, quoted (s.extract a s.size) = some (y, n) → x = y ∧ m = a + n ∧ ok = true) → (quoted (s.extract a s.size) = none → ok = false) → Q (.tuple #[.string x, .int .i64 (m : Nat), .bool ok]) H) : FWp Tryz.prog prims 59 [.string s, .int .i64 (a : Nat)] H Q := by
  refine quotedR_spec s hs a ha H Q ?_
  have he := quoAt_shift s a 1 ⟨#[]⟩
  rw [he]
  unfold quoted at h
  cases hq : quoAt (s.extract a s.size) 1 ⟨#[]⟩ with
  | none => exact h ⟨#[]⟩ 0 false (fun y n e => by rw [hq] at e; cases e) (fun _ => rfl)
  | some p =>
    obtain ⟨x, m⟩ := p
    exact h x (a + m) true (fun y n e => by rw [hq] at e; cases e; exact ⟨rfl, rfl, rfl⟩) (fun e => by rw [hq] at e; cases e)

theorem keyIs_spec (m m2 : PA) (c : Nat) (H : AH) (Q : Value → AH → Prop) (h : ∀ H', Keeps H H' → Q (.bool (decide (m.key = m2.key))) H') (hw : WfH H) (hc : H.cells c = some (m2.cells, 44, (0, 0))) : FWp Tryz.prog prims 37 [m.v, .pointer (some ⟨c, 0, none⟩)] H Q := by
  have hh := Has.start hw
  refine FWp.enter (rfl) Tryz.func37 rfl (e := [m.v, .pointer (some ⟨c, 0, none⟩), undef, undef, undef, undef, undef, undef, undef]) rfl ?_
  refine CWp.seq ?_
  refine CWp.region ?_
  refine OWp.boxPA _ hh rfl rfl rfl (fun H2 b2 hh => ?_)
  refine OWp.norm ?_
  refine OWp.assign rfl rfl ?_
  refine OWp.nil ?_
  refine CWp.seq ?_
  refine CWp.region ?_
  refine OWp.fieldPA 0 (by decide) rfl rfl rfl ?_
  first | refine OWp.loadPA_0 (k := 0) hh rfl rfl rfl rfl ?_ | refine OWp.loadPA_0 (k := 1) hh rfl rfl rfl rfl ?_ | refine OWp.loadPA_0 (k := 2) hh rfl rfl rfl rfl ?_
  refine OWp.fieldPA 0 (by decide) rfl rfl rfl ?_
  refine OWp.loadCell (hh.keep.sees hw _ _ hc) rfl rfl rfl Tryz.underlying9 rfl rfl ?_
  refine OWp.binS rfl rfl rfl rfl rfl ?_
  refine OWp.assign rfl rfl ?_
  refine OWp.nil ?_
  refine CWp.ret ?_
  refine RetQ.one (by first | exact .inl rfl | exact .inr rfl) rfl rfl ?_
  exact h _ hh.keep

theorem ixF_spec (ms : List PA) (m2 : PA) (c : Nat) (p : Option Addr) (H : AH) (Q : Value → AH → Prop) (h : ∀ H' (r : Int), Keeps H H' → (0 ≤ r ↔ ∃ q, q ∈ ms ∧ q.key = m2.key) → Q (.int .i64 r) H') (hw : WfH H) (hrow : Row H p (rowPA ms)) (hl : ms.length ≤ 9000000) (hc : H.cells c = some (m2.cells, 44, (0, 0))) : FWp Tryz.prog prims 58 [.slice p ms.length ms.length, .func (.func 37) #[] #[.pointer (some ⟨c, 0, none⟩)]] H Q := by
  refine FWp.enter (rfl) Tryz.func58 rfl (e := [.slice p ms.length ms.length, .func (.func 37) #[] #[.pointer (some ⟨c, 0, none⟩)], undef, undef, undef, undef, undef, undef, undef, undef, undef, undef, undef, undef, undef, undef, undef, undef, undef]) rfl ?_
  refine CWp.seq ?_
  refine CWp.region ?_
  refine OWp.assign rfl rfl ?_
  refine OWp.nil ?_
  refine CWp.seq ?_
  refine CWp.seq ?_
  refine CWp.region ?_
  refine OWp.move rfl rfl ?_
  refine OWp.lenSl rfl rfl rfl rfl rfl Tryz.underlying35 rfl ?_
  refine OWp.move rfl rfl ?_
  refine OWp.nil ?_
  refine CWp.block ?_
  refine CWp.loop (fun k e H' => ∃ (j : Nat) (g : Nat → Value), e = [.slice p ms.length ms.length, .func (.func 37) #[] #[.pointer (some ⟨c, 0, none⟩)], g 2, g 3, g 4, g 5, g 6, .int .i64 (ms.length : Nat), .int .i64 (j : Nat), g 9, g 10, g 11, g 12, g 13, g 14, g 15, g 16, g 17, g 18] ∧ k = ms.length - j ∧ WfH H' ∧ Keeps H H' ∧ j ≤ ms.length ∧ ∀ (i : Nat) (q : PA), i < j → ms[i]? = some q → ¬ q.key = m2.key) ?_ ?_
  · exact ⟨_, 0, ex_env rfl ⟨rfl, hw, Keeps.refl hw, by omega, fun i q hi => absurd hi (Nat.not_lt_zero _)⟩⟩
  · rintro k e H' ⟨j, g, rfl, rfl, hw', hk', hj, hall⟩
    refine CWp.seq ?_
    refine CWp.region ?_
    refine OWp.binI rfl rfl rfl rfl rfl ?_
    refine OWp.nil ?_
    refine CWp.seq ?_
    first | refine CWp.condP rfl (fun h1 => ?_) (fun h1 => ?_) | refine CWp.cond rfl (fun h1 => ?_) (fun h1 => ?_)
    · skip
      obtain ⟨q, hqm⟩ : ∃ q, ms[j]? = some q := ⟨_, List.getElem?_eq_getElem (show j < ms.length by omega)⟩
      obtain ⟨a, rfl⟩ : ∃ a, p = some a := by
        cases p with
        | some a => exact ⟨a, rfl⟩
        | none =>
          have : rowPA ms = [] := hrow
          have h2 := flat_len (fun m : PA => m.cells.toList) 2 (fun _ => rfl) ms
          unfold rowPA at this
          rw [this] at h2
          simp at h2
          omega
      first | rw [decide_eq_true h1] | rw [decide_eq_false h1] | rw [h1] | skip
      refine CWp.skip ?_
      refine CWp.seq ?_
      refine CWp.block ?_
      refine CWp.seq ?_
      refine CWp.region ?_
      refine OWp.move rfl rfl ?_
      refine OWp.assign rfl rfl ?_
      refine OWp.nil ?_
      refine CWp.seq ?_
      refine CWp.region ?_
      refine OWp.move rfl rfl ?_
      refine OWp.move rfl rfl ?_
      refine OWp.move rfl rfl ?_
      refine OWp.indexAddrK rfl rfl Tryz.underlying35 szPA (by decide) rfl rfl (by omega) (by omega) ?_
      refine OWp.loadRowS (f := fun m : PA => m.cells.toList) (ms := ms) (m := q) (v := q.v) (fun _ => rfl) rfl rfl Tryz.underlying44 rfl (hrow.sees (hk'.sees hw)) szPA hqm (by simp [PA.v]) ?_
      refine OWp.callV rfl rfl rfl rfl rfl ?_
      refine keyIs_spec q m2 c _ _ ?_ hw' (hk'.sees hw _ _ hc)
      intro H5 hk5
      refine OWp.norm ?_
      refine OWp.nil ?_
      first | refine CWp.condP rfl (fun h2 => ?_) (fun h2 => ?_) | refine CWp.cond rfl (fun h2 => ?_) (fun h2 => ?_)
      · skip
        first | rw [decide_eq_true h2] | rw [decide_eq_false h2] | rw [h2] | skip
        refine CWp.seq ?_
        refine CWp.region ?_
        refine OWp.move rfl rfl ?_
        refine OWp.assign rfl rfl ?_
        refine OWp.nil ?_
        refine CWp.ret ?_
        refine RetQ.one (by first | exact .inl rfl | exact .inr rfl) rfl rfl ?_
        exact h _ _ (hk'.trans hk5 hw) ⟨fun _ => ⟨q, List.mem_of_getElem? hqm, by assumption⟩, fun _ => by omega⟩
      · skip
        first | rw [decide_eq_true h2] | rw [decide_eq_false h2] | rw [h2] | skip
        refine CWp.skip ?_
        refine CWp.region ?_
        refine OWp.addI rfl rfl rfl rfl (by omega) ?_
        refine OWp.move rfl rfl ?_
        refine OWp.nil ?_
        exact ⟨_, by omega, j + 1, ex_env rfl ⟨rfl, hk5.wf, hk'.trans hk5 hw, by omega, fun i q0 hi hq0 => by by_cases e : i = j; (subst e; rw [hqm] at hq0; cases hq0; assumption); exact hall i q0 (by omega) hq0⟩⟩
    · skip
      first | rw [decide_eq_true h1] | rw [decide_eq_false h1] | rw [h1] | skip
      refine CWp.exit ?_
      refine CWp.seq ?_
      refine CWp.region ?_
      refine OWp.assign rfl rfl ?_
      refine OWp.nil ?_
      refine CWp.ret ?_
      refine RetQ.one (by first | exact .inl rfl | exact .inr rfl) rfl rfl ?_
      refine h _ _ hk' ⟨fun hh => by omega, fun ⟨q, hq1, hq2⟩ => ?_⟩
      obtain ⟨i, hi⟩ := List.getElem?_of_mem hq1
      exact absurd hq2 (hall i q (by have := (List.getElem?_eq_some_iff.1 hi).1; omega) hi)

theorem conF_spec (ms : List PA) (m2 : PA) (c : Nat) (p : Option Addr) (H : AH) (Q : Value → AH → Prop) (h : ∀ H' (b : Bool), Keeps H H' → (b = true ↔ ∃ q, q ∈ ms ∧ q.key = m2.key) → Q (.bool b) H') (hw : WfH H) (hrow : Row H p (rowPA ms)) (hl : ms.length ≤ 9000000) (hc : H.cells c = some (m2.cells, 44, (0, 0))) : FWp Tryz.prog prims 36 [.slice p ms.length ms.length, .func (.func 37) #[] #[.pointer (some ⟨c, 0, none⟩)]] H Q := by
  refine FWp.enter (rfl) Tryz.func36 rfl (e := [.slice p ms.length ms.length, .func (.func 37) #[] #[.pointer (some ⟨c, 0, none⟩)], undef, undef, undef, undef, undef, undef, undef]) rfl ?_
  refine CWp.seq ?_
  refine CWp.region ?_
  refine OWp.assign rfl rfl ?_
  refine OWp.nil ?_
  refine CWp.seq ?_
  refine CWp.region ?_
  refine OWp.move rfl rfl ?_
  refine OWp.move rfl rfl ?_
  refine OWp.call rfl rfl rfl rfl ?_
  refine ixF_spec ms m2 c p _ _ ?_ hw hrow hl hc
  intro H1 r hk1 hr
  refine OWp.norm ?_
  refine OWp.binI rfl rfl rfl rfl rfl ?_
  refine OWp.assign rfl rfl ?_
  refine OWp.nil ?_
  refine CWp.ret ?_
  refine RetQ.one (by first | exact .inl rfl | exact .inr rfl) rfl rfl ?_
  exact h _ _ hk1 (by simpa using hr)

theorem clip_spec (p : Option Addr) (n : Nat) (H : AH) (Q : Value → AH → Prop) (h : Q (.slice p n n) H) (hp : ∀ a, p = some a → a.spot = none ∧ ∃ C fr, H.cells a.block = some (C, 44, fr)) : FWp Tryz.prog prims 38 [.slice p n n] H Q := by
  refine FWp.enter (rfl) Tryz.func38 rfl (e := [.slice p n n, undef, undef, undef, undef, undef, undef, undef, undef]) rfl ?_
  refine CWp.seq ?_
  refine CWp.region ?_
  refine OWp.assign rfl rfl ?_
  refine OWp.nil ?_
  refine CWp.seq ?_
  refine CWp.region ?_
  refine OWp.move rfl rfl ?_
  refine OWp.move rfl rfl ?_
  refine OWp.lenSl rfl rfl rfl rfl rfl Tryz.underlying35 rfl ?_
  refine OWp.move rfl rfl ?_
  refine OWp.lenSl rfl rfl rfl rfl rfl Tryz.underlying35 rfl ?_
  refine OWp.clip (C := #[]) (fr := (0, 0)) rfl rfl Tryz.underlying35 (by rw [szPA]; decide) rfl rfl rfl hp ?_
  refine OWp.assign rfl rfl ?_
  refine OWp.nil ?_
  refine CWp.ret ?_
  refine RetQ.one (by first | exact .inl rfl | exact .inr rfl) rfl rfl ?_
  exact h

theorem pair_spec (s : ByteArray) (hs : s.size ≤ 9000000) (H : AH) (Q : Value → AH → Prop) (h : ∀ H' (m : PA) (r : ByteArray) (b : Bool), Keeps H H' → (∀ p n, pairS s = some (p, n) → b = true ∧ m = paOf p ∧ r = s.extract n s.size) → (pairS s = none → b = false) → Q (.tuple #[m.v, .string r, .bool b]) H') (hw : WfH H) : FWp Tryz.prog prims 35 [.string s] H Q := by
  have hh := Has.start hw
  have hwl := wordN_le s
  refine FWp.enter (rfl) Tryz.func35 rfl (e := [.string s, undef, undef, undef, undef, undef, undef, undef, undef, undef, undef, undef, undef, undef, undef, undef, undef, undef, undef, undef, undef, undef, undef, undef, undef, undef, undef, undef, undef, undef, undef, undef, undef, undef, undef, undef, undef, undef, undef, undef, undef, undef, undef, undef, undef, undef, undef, undef, undef, undef, undef, undef, undef, undef, undef, undef, undef, undef, undef, undef, undef, undef, undef, undef, undef, undef, undef, undef, undef, undef, undef, undef, undef, undef, undef, undef, undef, undef, undef, undef, undef, undef, undef, undef, undef, undef, undef, undef, undef, undef, undef, undef, undef, undef, undef]) rfl ?_
  refine CWp.seq ?_
  refine CWp.region ?_
  refine OWp.allocPA hh rfl rfl (fun H2 b2 hh => ?_)
  refine OWp.norm ?_
  refine OWp.assign rfl rfl ?_
  refine OWp.assign rfl rfl ?_
  refine OWp.nil ?_
  refine CWp.seq ?_
  refine CWp.region ?_
  refine OWp.move rfl rfl ?_
  refine OWp.call rfl rfl rfl rfl ?_
  refine word_spec _ (by first | omega | (simp only [ByteArray.size_extract]; omega)) _ _ ?_
  refine OWp.norm ?_
  refine OWp.assign rfl rfl ?_
  refine OWp.nil ?_
  refine CWp.seq ?_
  refine CWp.region ?_
  refine OWp.move rfl rfl ?_
  refine OWp.move rfl rfl ?_
  refine OWp.sliceS rfl rfl Tryz.underlying9 rfl rfl rfl (by omega) (by omega) (by omega) ?_
  refine OWp.call rfl rfl rfl rfl ?_
  refine ixW_spec s (wordN s) hwl _ _ (fun i hi => ?_)
  refine OWp.norm ?_
  refine OWp.assign rfl rfl ?_
  refine OWp.nil ?_
  refine CWp.seq ?_
  refine CWp.seq ?_
  refine CWp.region ?_
  refine OWp.move rfl rfl ?_
  refine OWp.binI rfl rfl rfl rfl rfl ?_
  refine OWp.nil ?_
  first | refine CWp.condP rfl (fun h0 => ?_) (fun h0 => ?_) | refine CWp.cond rfl (fun h0 => ?_) (fun h0 => ?_)
  · skip
    have hno : ∀ j : Nat, j < wordN s → ¬ byteAt s (j : Nat) = 61 := by
      rcases hi with ⟨o, e, _⟩ | ⟨_, hno⟩
      · omega
      · exact hno
    first | rw [decide_eq_true h0] | rw [decide_eq_false h0] | rw [h0] | skip
    refine CWp.seq ?_
    refine CWp.drawnF (by kernel_rfl) (by kernel_rfl) ?_
    refine OWp.move rfl rfl ?_
    refine OWp.move rfl rfl ?_
    refine OWp.sliceS rfl rfl Tryz.underlying9 rfl rfl rfl (by omega) (by omega) (by omega) ?_
    refine OWp.makeI rfl rfl Tryz.underlying4 rfl rfl rfl ?_
    refine OWp.buildPA (⟨s.extract 0 (wordN s), .tt⟩) rfl rfl rfl (by kernel_rfl) ?_
    refine OWp.move rfl rfl ?_
    refine OWp.move rfl rfl ?_
    refine OWp.sliceS rfl rfl Tryz.underlying9 rfl rfl rfl (by omega) (by omega) (by omega) ?_
    refine OWp.move rfl rfl ?_
    refine OWp.move rfl rfl ?_
    refine OWp.sliceS rfl rfl Tryz.underlying9 rfl rfl rfl (by omega) (by omega) (by omega) ?_
    refine OWp.call rfl rfl rfl rfl ?_
    refine key_spec _ (by first | omega | (simp only [ByteArray.size_extract]; omega)) _ _ ?_
    refine OWp.norm ?_
    first | refine OWp.storePA (k := 0) hh rfl rfl rfl rfl rfl (fun H4 hh => ?_)
    simp only [List.set_cons_zero, List.set_cons_succ] at hh
    refine OWp.norm ?_
    refine OWp.assign rfl rfl ?_
    refine OWp.assign rfl rfl ?_
    refine OWp.nil ?_
    refine CWp.ret ?_
    first | refine RetQ.cellPA3 (k := 0) (by first | exact .inl rfl | exact .inr rfl) rfl rfl hh rfl rfl rfl rfl rfl ?_
    have hps := pairS_word hno
    refine h _ _ _ _ hh.keep (fun p n hp => ?_) (fun hp => ?_)
    · rw [hps] at hp
      split at hp
      · rename_i hkb; cases hp; exact ⟨hkb, rfl, rfl⟩
      · cases hp
    · rw [hps] at hp
      split at hp
      · cases hp
      · rename_i hkb; simpa using hkb
  · skip
    obtain ⟨o, rfl, hk1, hk2, hk3⟩ : ∃ o : Nat, i = (o : Int) ∧ o < wordN s ∧ byteAt s (o : Nat) = 61 ∧ ∀ j : Nat, j < o → ¬ byteAt s (j : Nat) = 61 := by
      rcases hi with hi | ⟨e, _⟩
      · exact hi
      · omega
    first | rw [decide_eq_true h0] | rw [decide_eq_false h0] | rw [h0] | skip
    refine CWp.skip ?_
    refine CWp.seq ?_
    refine CWp.drawn (by kernel_rfl) ?_
    refine OWp.move rfl rfl ?_
    refine OWp.move rfl rfl ?_
    refine OWp.sliceS rfl rfl Tryz.underlying9 rfl rfl rfl (by omega) (by omega) (by omega) ?_
    refine OWp.move rfl rfl ?_
    refine OWp.move rfl rfl ?_
    refine OWp.addI rfl rfl rfl rfl (by omega) ?_
    refine OWp.sliceS rfl rfl Tryz.underlying9 rfl rfl rfl (by omega) (by omega) (by omega) ?_
    obtain ⟨r, hr⟩ : ∃ r, r = s.extract (o + 1) s.size := ⟨_, rfl⟩
    rw [show s.extract ((o : Int) + 1).toNat ((s.size : Int)).toNat = r from hr.symm]
    have hrz : r.size = s.size - (o + 1) := by rw [hr, ext_size]
    have hrw := wordN_le r
    refine OWp.assign rfl rfl ?_
    refine OWp.assign rfl rfl ?_
    refine OWp.nil ?_
    refine CWp.seq ?_
    refine CWp.seq ?_
    refine CWp.region ?_
    refine OWp.move rfl rfl ?_
    refine OWp.binS rfl rfl rfl rfl rfl ?_
    refine OWp.move rfl rfl ?_
    first | refine OWp.byF rfl (fun hg1 => ?_) (fun hg1 => ?_) | refine OWp.byBF rfl (fun hg1 => ?_) (fun hg1 => ?_)
    · skip
      first | rw [decide_eq_true hg1] | rw [decide_eq_false hg1] | rw [hg1] | skip
      try simp only [Decidable.not_not] at hg1
      have hr0 : 0 < r.size := Nat.pos_of_ne_zero fun e0 => hg1 (ByteArray.ext (Array.eq_empty_of_size_eq_zero e0))
      refine OWp.move rfl rfl ?_
      refine OWp.indexS rfl rfl Tryz.underlying9 rfl rfl (by omega) (by omega) ?_
      refine OWp.binI rfl rfl rfl rfl rfl ?_
      refine OWp.pickF rfl rfl rfl ?_
      refine OWp.nil ?_
      first | refine CWp.condP rfl (fun h2 => ?_) (fun h2 => ?_) | refine CWp.cond rfl (fun h2 => ?_) (fun h2 => ?_)
      · skip
        first | rw [decide_eq_true h2] | rw [decide_eq_false h2] | rw [h2] | skip
        refine CWp.seq ?_
        refine CWp.region ?_
        refine OWp.move rfl rfl ?_
        refine OWp.call rfl rfl rfl rfl ?_
        refine word_spec _ (by first | omega | (simp only [ByteArray.size_extract]; omega)) _ _ ?_
        refine OWp.norm ?_
        refine OWp.assign rfl rfl ?_
        refine OWp.nil ?_
        refine CWp.seq ?_
        refine CWp.drawnF (by kernel_rfl) (by kernel_rfl) ?_
        refine OWp.move rfl rfl ?_
        refine OWp.move rfl rfl ?_
        refine OWp.move rfl rfl ?_
        refine OWp.sliceS rfl rfl Tryz.underlying9 rfl rfl rfl (by omega) (by omega) (by omega) ?_
        refine OWp.makeI rfl rfl Tryz.underlying9 rfl rfl rfl ?_
        refine OWp.buildPA (⟨s.extract 0 o, .str (r.extract 0 (wordN r))⟩) rfl rfl rfl (by kernel_rfl) ?_
        refine OWp.move rfl rfl ?_
        refine OWp.move rfl rfl ?_
        refine OWp.sliceS rfl rfl Tryz.underlying9 rfl rfl rfl (by omega) (by omega) (by omega) ?_
        refine OWp.move rfl rfl ?_
        refine OWp.call rfl rfl rfl rfl ?_
        refine key_spec _ (by first | omega | (simp only [ByteArray.size_extract]; omega)) _ _ ?_
        refine OWp.norm ?_
        refine OWp.move rfl rfl ?_
        first | refine OWp.byT rfl (fun hg3 => ?_) (fun hg3 => ?_) | refine OWp.byBT rfl (fun hg3 => ?_) (fun hg3 => ?_)
        · skip
          first | rw [decide_eq_true hg3] | rw [decide_eq_false hg3] | rw [hg3] | skip
          try simp only [Decidable.not_not] at hg3
          refine OWp.move rfl rfl ?_
          refine OWp.move rfl rfl ?_
          refine OWp.sliceS rfl rfl Tryz.underlying9 rfl rfl rfl (by omega) (by omega) (by omega) ?_
          refine OWp.call rfl rfl rfl rfl ?_
          refine bare_spec _ (by first | omega | (simp only [ByteArray.size_extract]; omega)) _ _ ?_
          refine OWp.norm ?_
          refine OWp.pickT rfl rfl rfl ?_
          first | refine OWp.storePA (k := 0) hh rfl rfl rfl rfl rfl (fun H4 hh => ?_)
          simp only [List.set_cons_zero, List.set_cons_succ] at hh
          refine OWp.norm ?_
          refine OWp.assign rfl rfl ?_
          refine OWp.assign rfl rfl ?_
          refine OWp.nil ?_
          refine CWp.ret ?_
          first | refine RetQ.cellPA3 (k := 0) (by first | exact .inl rfl | exact .inr rfl) rfl rfl hh rfl rfl rfl rfl rfl ?_
          have hps := pairS_eq hk1 hk2 hk3
          rw [pairV_bare hr (fun hh0 => by first | omega | exact h2 hh0.2)] at hps
          rw [if_pos (by assumption)] at hps
          refine h _ _ _ _ hh.keep (fun p n hp => ?_) (fun hp => ?_)
          · rw [hps] at hp
            split at hp
            · rename_i hkb; cases hp; exact ⟨hkb, rfl, by rw [hr]; exact ext_ext_end s (o + 1) _⟩
            · cases hp
          · rw [hps] at hp
            split at hp
            · cases hp
            · rename_i hkb; simpa using hkb
        · skip
          first | rw [decide_eq_true hg3] | rw [decide_eq_false hg3] | rw [hg3] | skip
          try simp only [Decidable.not_not] at hg3
          refine OWp.leave rfl ?_
          refine OWp.leave rfl ?_
          refine OWp.leave rfl ?_
          refine OWp.leave rfl ?_
          refine OWp.pickF rfl rfl rfl ?_
          first | refine OWp.storePA (k := 0) hh rfl rfl rfl rfl rfl (fun H4 hh => ?_)
          simp only [List.set_cons_zero, List.set_cons_succ] at hh
          refine OWp.norm ?_
          refine OWp.assign rfl rfl ?_
          refine OWp.assign rfl rfl ?_
          refine OWp.nil ?_
          refine CWp.ret ?_
          first | refine RetQ.cellPA3 (k := 0) (by first | exact .inl rfl | exact .inr rfl) rfl rfl hh rfl rfl rfl rfl rfl ?_
          have hps := pairS_eq hk1 hk2 hk3
          rw [if_neg (fun e => by simp_all)] at hps
          exact h _ _ _ _ hh.keep (fun p n hp => by rw [hps] at hp; cases hp) (fun _ => rfl)
      · skip
        first | rw [decide_eq_true h2] | rw [decide_eq_false h2] | rw [h2] | skip
        refine CWp.skip ?_
        refine CWp.seq ?_
        refine CWp.region ?_
        refine OWp.move rfl rfl ?_
        refine OWp.call rfl rfl rfl rfl ?_
        refine quotedV_spec r (by omega) hr0 _ _ ?_ hh.wf
        intro H7 x m ok hk7 hq1 hq2
        replace hh := hh.after hk7
        refine OWp.norm ?_
        refine OWp.move rfl rfl ?_
        refine OWp.extract rfl rfl rfl rfl ?_
        refine OWp.extract rfl rfl rfl rfl ?_
        refine OWp.extract rfl rfl rfl rfl ?_
        refine OWp.assign rfl rfl ?_
        refine OWp.assign rfl rfl ?_
        refine OWp.assign rfl rfl ?_
        refine OWp.nil ?_
        refine CWp.seq ?_
        refine CWp.seq ?_
        refine CWp.region ?_
        refine OWp.move rfl rfl ?_
        first | refine OWp.notD rfl rfl rfl ?_ | refine OWp.notB rfl rfl rfl ?_
        refine OWp.move rfl rfl ?_
        first | refine OWp.byF rfl (fun hg3 => ?_) (fun hg3 => ?_) | refine OWp.byBF rfl (fun hg3 => ?_) (fun hg3 => ?_)
        · skip
          first | rw [decide_eq_true hg3] | rw [decide_eq_false hg3] | rw [hg3] | skip
          try simp only [Decidable.not_not] at hg3
          have hqs : quoted r = some (x, m) := by
            cases hqq : quoted r with
            | none => have := hq2 hqq; simp_all
            | some y => obtain ⟨y1, y2⟩ := y; obtain ⟨e1, e2, _⟩ := hq1 _ _ hqq; rw [e1, e2]
          have hqm := quoted_le hqs
          refine OWp.move rfl rfl ?_
          refine OWp.move rfl rfl ?_
          refine OWp.lenS rfl rfl rfl rfl rfl Tryz.underlying9 rfl ?_
          refine OWp.binI rfl rfl rfl rfl rfl ?_
          refine OWp.move rfl rfl ?_
          first | refine OWp.byT rfl (fun hg4 => ?_) (fun hg4 => ?_) | refine OWp.byBT rfl (fun hg4 => ?_) (fun hg4 => ?_)
          · skip
            first | rw [decide_eq_true hg4] | rw [decide_eq_false hg4] | rw [hg4] | skip
            try simp only [Decidable.not_not] at hg4
            refine OWp.move rfl rfl ?_
            refine OWp.move rfl rfl ?_
            refine OWp.indexS rfl rfl Tryz.underlying9 rfl rfl (by omega) (by omega) ?_
            refine OWp.call rfl rfl rfl rfl ?_
            refine ixG_spec r m (by omega) _ _ (fun ig hig => ?_)
            refine OWp.norm ?_
            refine OWp.binI rfl rfl rfl rfl rfl ?_
            refine OWp.pickT rfl rfl rfl ?_
            refine OWp.pickF rfl rfl rfl ?_
            refine OWp.nil ?_
            first | refine CWp.condP rfl (fun h5 => ?_) (fun h5 => ?_) | refine CWp.cond rfl (fun h5 => ?_) (fun h5 => ?_)
            · skip
              first | rw [decide_eq_true h5] | rw [decide_eq_false h5] | rw [h5] | skip
              refine CWp.seq ?_
              refine CWp.region ?_
              refine OWp.buildPA (zeroPA) rfl rfl rfl (by kernel_rfl) ?_
              first | refine OWp.storePA (k := 0) hh rfl rfl rfl rfl rfl (fun H4 hh => ?_)
              simp only [List.set_cons_zero, List.set_cons_succ] at hh
              refine OWp.norm ?_
              refine OWp.assign rfl rfl ?_
              refine OWp.assign rfl rfl ?_
              refine OWp.nil ?_
              refine CWp.ret ?_
              first | refine RetQ.cellPA3 (k := 0) (by first | exact .inl rfl | exact .inr rfl) rfl rfl hh rfl rfl rfl rfl rfl ?_
              have hps := pairS_eq hk1 hk2 hk3
              rw [pairV_q1 hr ⟨hr0, by simpa using h2⟩ hqs (by omega) (hig.1 (by assumption))] at hps
              exact h _ _ _ _ hh.keep (fun p n hp => by rw [hps] at hp; split at hp <;> cases hp) (fun _ => rfl)
            · skip
              first | rw [decide_eq_true h5] | rw [decide_eq_false h5] | rw [h5] | skip
              refine CWp.skip ?_
              refine CWp.seq ?_
              refine CWp.drawnF (by kernel_rfl) (by kernel_rfl) ?_
              refine OWp.move rfl rfl ?_
              refine OWp.move rfl rfl ?_
              refine OWp.makeI rfl rfl Tryz.underlying9 rfl rfl rfl ?_
              refine OWp.buildPA (⟨s.extract 0 o, .str x⟩) rfl rfl rfl (by kernel_rfl) ?_
              refine OWp.move rfl rfl ?_
              refine OWp.move rfl rfl ?_
              refine OWp.sliceS rfl rfl Tryz.underlying9 rfl rfl rfl (by omega) (by omega) (by omega) ?_
              refine OWp.move rfl rfl ?_
              refine OWp.call rfl rfl rfl rfl ?_
              refine key_spec _ (by first | omega | (simp only [ByteArray.size_extract]; omega)) _ _ ?_
              refine OWp.norm ?_
              first | refine OWp.storePA (k := 0) hh rfl rfl rfl rfl rfl (fun H4 hh => ?_)
              simp only [List.set_cons_zero, List.set_cons_succ] at hh
              refine OWp.norm ?_
              refine OWp.assign rfl rfl ?_
              refine OWp.assign rfl rfl ?_
              refine OWp.nil ?_
              refine CWp.ret ?_
              first | refine RetQ.cellPA3 (k := 0) (by first | exact .inl rfl | exact .inr rfl) rfl rfl hh rfl rfl rfl rfl rfl ?_
              have hps := pairS_eq hk1 hk2 hk3
              rw [pairV_q2 hr ⟨hr0, by simpa using h2⟩ hqs (.inr (by refine Classical.byContradiction fun hh0 => ?_; have := hig.2 hh0; omega))] at hps
              refine h _ _ _ _ hh.keep (fun p n hp => ?_) (fun hp => ?_)
              · rw [hps] at hp
                split at hp
                · rename_i hkb; cases hp; exact ⟨hkb, rfl, by rw [hr]; exact ext_ext_end s (o + 1) _⟩
                · cases hp
              · rw [hps] at hp
                split at hp
                · cases hp
                · rename_i hkb; simpa using hkb
          · skip
            first | rw [decide_eq_true hg4] | rw [decide_eq_false hg4] | rw [hg4] | skip
            try simp only [Decidable.not_not] at hg4
            refine OWp.leave rfl ?_
            refine OWp.leave rfl ?_
            refine OWp.leave rfl ?_
            refine OWp.leave rfl ?_
            refine OWp.leave rfl ?_
            refine OWp.pickF rfl rfl rfl ?_
            refine OWp.pickF rfl rfl rfl ?_
            refine OWp.nil ?_
            refine CWp.condF rfl ?_
            refine CWp.skip ?_
            refine CWp.seq ?_
            refine CWp.drawnF (by kernel_rfl) (by kernel_rfl) ?_
            refine OWp.move rfl rfl ?_
            refine OWp.move rfl rfl ?_
            refine OWp.makeI rfl rfl Tryz.underlying9 rfl rfl rfl ?_
            refine OWp.buildPA (⟨s.extract 0 o, .str x⟩) rfl rfl rfl (by kernel_rfl) ?_
            refine OWp.move rfl rfl ?_
            refine OWp.move rfl rfl ?_
            refine OWp.sliceS rfl rfl Tryz.underlying9 rfl rfl rfl (by omega) (by omega) (by omega) ?_
            refine OWp.move rfl rfl ?_
            refine OWp.call rfl rfl rfl rfl ?_
            refine key_spec _ (by first | omega | (simp only [ByteArray.size_extract]; omega)) _ _ ?_
            refine OWp.norm ?_
            first | refine OWp.storePA (k := 0) hh rfl rfl rfl rfl rfl (fun H4 hh => ?_)
            simp only [List.set_cons_zero, List.set_cons_succ] at hh
            refine OWp.norm ?_
            refine OWp.assign rfl rfl ?_
            refine OWp.assign rfl rfl ?_
            refine OWp.nil ?_
            refine CWp.ret ?_
            first | refine RetQ.cellPA3 (k := 0) (by first | exact .inl rfl | exact .inr rfl) rfl rfl hh rfl rfl rfl rfl rfl ?_
            have hps := pairS_eq hk1 hk2 hk3
            rw [pairV_q2 hr ⟨hr0, by simpa using h2⟩ hqs (.inl (by omega))] at hps
            refine h _ _ _ _ hh.keep (fun p n hp => ?_) (fun hp => ?_)
            · rw [hps] at hp
              split at hp
              · rename_i hkb; cases hp; exact ⟨hkb, rfl, by rw [hr]; exact ext_ext_end s (o + 1) _⟩
              · cases hp
            · rw [hps] at hp
              split at hp
              · cases hp
              · rename_i hkb; simpa using hkb
        · skip
          first | rw [decide_eq_true hg3] | rw [decide_eq_false hg3] | rw [hg3] | skip
          try simp only [Decidable.not_not] at hg3
          have hqs : quoted r = none := by
            cases hqq : quoted r with
            | none => rfl
            | some y => obtain ⟨y1, y2⟩ := y; have := (hq1 _ _ hqq).2.2; simp_all
          refine OWp.leave rfl ?_
          refine OWp.leave rfl ?_
          refine OWp.leave rfl ?_
          refine OWp.leave rfl ?_
          refine OWp.leave rfl ?_
          refine OWp.leave rfl ?_
          refine OWp.leave rfl ?_
          refine OWp.leave rfl ?_
          refine OWp.leave rfl ?_
          refine OWp.leave rfl ?_
          refine OWp.leave rfl ?_
          refine OWp.pickT rfl rfl rfl ?_
          refine OWp.nil ?_
          refine CWp.condT rfl ?_
          refine CWp.seq ?_
          refine CWp.region ?_
          refine OWp.buildPA (zeroPA) rfl rfl rfl (by kernel_rfl) ?_
          first | refine OWp.storePA (k := 0) hh rfl rfl rfl rfl rfl (fun H4 hh => ?_)
          simp only [List.set_cons_zero, List.set_cons_succ] at hh
          refine OWp.norm ?_
          refine OWp.assign rfl rfl ?_
          refine OWp.assign rfl rfl ?_
          refine OWp.nil ?_
          refine CWp.ret ?_
          first | refine RetQ.cellPA3 (k := 0) (by first | exact .inl rfl | exact .inr rfl) rfl rfl hh rfl rfl rfl rfl rfl ?_
          have hps := pairS_eq hk1 hk2 hk3
          rw [pairV_q0 hr ⟨hr0, by simpa using h2⟩ hqs] at hps
          exact h _ _ _ _ hh.keep (fun p n hp => by rw [hps] at hp; split at hp <;> cases hp) (fun _ => rfl)
    · skip
      first | rw [decide_eq_true hg1] | rw [decide_eq_false hg1] | rw [hg1] | skip
      try simp only [Decidable.not_not] at hg1
      have hr0 : r.size = 0 := by rw [hg1]; rfl
      refine OWp.leave rfl ?_
      refine OWp.leave rfl ?_
      refine OWp.leave rfl ?_
      refine OWp.pickT rfl rfl rfl ?_
      refine OWp.nil ?_
      refine CWp.condT rfl ?_
      refine CWp.seq ?_
      refine CWp.region ?_
      refine OWp.move rfl rfl ?_
      refine OWp.call rfl rfl rfl rfl ?_
      refine word_spec _ (by first | omega | (simp only [ByteArray.size_extract]; omega)) _ _ ?_
      refine OWp.norm ?_
      refine OWp.assign rfl rfl ?_
      refine OWp.nil ?_
      refine CWp.seq ?_
      refine CWp.drawnF (by kernel_rfl) (by kernel_rfl) ?_
      refine OWp.move rfl rfl ?_
      refine OWp.move rfl rfl ?_
      refine OWp.move rfl rfl ?_
      refine OWp.sliceS rfl rfl Tryz.underlying9 rfl rfl rfl (by omega) (by omega) (by omega) ?_
      refine OWp.makeI rfl rfl Tryz.underlying9 rfl rfl rfl ?_
      refine OWp.buildPA (⟨s.extract 0 o, .str (r.extract 0 (wordN r))⟩) rfl rfl rfl (by kernel_rfl) ?_
      refine OWp.move rfl rfl ?_
      refine OWp.move rfl rfl ?_
      refine OWp.sliceS rfl rfl Tryz.underlying9 rfl rfl rfl (by omega) (by omega) (by omega) ?_
      refine OWp.move rfl rfl ?_
      refine OWp.call rfl rfl rfl rfl ?_
      refine key_spec _ (by first | omega | (simp only [ByteArray.size_extract]; omega)) _ _ ?_
      refine OWp.norm ?_
      refine OWp.move rfl rfl ?_
      first | refine OWp.byT rfl (fun hg2 => ?_) (fun hg2 => ?_) | refine OWp.byBT rfl (fun hg2 => ?_) (fun hg2 => ?_)
      · skip
        first | rw [decide_eq_true hg2] | rw [decide_eq_false hg2] | rw [hg2] | skip
        try simp only [Decidable.not_not] at hg2
        refine OWp.move rfl rfl ?_
        refine OWp.move rfl rfl ?_
        refine OWp.sliceS rfl rfl Tryz.underlying9 rfl rfl rfl (by omega) (by omega) (by omega) ?_
        refine OWp.call rfl rfl rfl rfl ?_
        refine bare_spec _ (by first | omega | (simp only [ByteArray.size_extract]; omega)) _ _ ?_
        refine OWp.norm ?_
        refine OWp.pickT rfl rfl rfl ?_
        first | refine OWp.storePA (k := 0) hh rfl rfl rfl rfl rfl (fun H4 hh => ?_)
        simp only [List.set_cons_zero, List.set_cons_succ] at hh
        refine OWp.norm ?_
        refine OWp.assign rfl rfl ?_
        refine OWp.assign rfl rfl ?_
        refine OWp.nil ?_
        refine CWp.ret ?_
        first | refine RetQ.cellPA3 (k := 0) (by first | exact .inl rfl | exact .inr rfl) rfl rfl hh rfl rfl rfl rfl rfl ?_
        have hps := pairS_eq hk1 hk2 hk3
        rw [pairV_bare hr (fun hh0 => by omega)] at hps
        rw [if_pos (by assumption)] at hps
        refine h _ _ _ _ hh.keep (fun p n hp => ?_) (fun hp => ?_)
        · rw [hps] at hp
          split at hp
          · rename_i hkb; cases hp; exact ⟨hkb, rfl, by rw [hr]; exact ext_ext_end s (o + 1) _⟩
          · cases hp
        · rw [hps] at hp
          split at hp
          · cases hp
          · rename_i hkb; simpa using hkb
      · skip
        first | rw [decide_eq_true hg2] | rw [decide_eq_false hg2] | rw [hg2] | skip
        try simp only [Decidable.not_not] at hg2
        refine OWp.leave rfl ?_
        refine OWp.leave rfl ?_
        refine OWp.leave rfl ?_
        refine OWp.leave rfl ?_
        refine OWp.pickF rfl rfl rfl ?_
        first | refine OWp.storePA (k := 0) hh rfl rfl rfl rfl rfl (fun H4 hh => ?_)
        simp only [List.set_cons_zero, List.set_cons_succ] at hh
        refine OWp.norm ?_
        refine OWp.assign rfl rfl ?_
        refine OWp.assign rfl rfl ?_
        refine OWp.nil ?_
        refine CWp.ret ?_
        first | refine RetQ.cellPA3 (k := 0) (by first | exact .inl rfl | exact .inr rfl) rfl rfl hh rfl rfl rfl rfl rfl ?_
        have hps := pairS_eq hk1 hk2 hk3
        rw [if_neg (fun e => by simp_all)] at hps
        exact h _ _ _ _ hh.keep (fun p n hp => by rw [hps] at hp; cases hp) (fun _ => rfl)

theorem pairR_spec (s : ByteArray) (hs : s.size ≤ 9000000) (a : Nat) (ha : a ≤ s.size) (H : AH) (Q : Value → AH → Prop) (h : ∀ H' (m : PR) (to : Nat) (b : Bool), Keeps H H' → (∀ p n, pairS (s.extract a s.size) = some (p, n) → b = true ∧ m = p ∧ to = a + n) → (pairS (s.extract a s.size) = none → b = false) → Q (.tuple #[m.v, .int .i64 (to : Nat), .bool b]) H') (hw : WfH H) : FWp Tryz.prog prims 41 [.string s, .int .i64 (a : Nat)] H Q := by
  have hh := Has.start hw
  have hz := ext_size s a
  refine FWp.enter (rfl) Tryz.func41 rfl (e := [.string s, .int .i64 (a : Nat), undef, undef, undef, undef, undef, undef, undef, undef, undef, undef, undef, undef, undef, undef, undef, undef, undef, undef, undef, undef, undef, undef, undef, undef, undef, undef, undef, undef, undef, undef, undef, undef, undef, undef, undef, undef, undef, undef, undef, undef, undef, undef, undef, undef, undef, undef, undef, undef, undef, undef, undef, undef, undef, undef, undef, undef, undef, undef, undef, undef, undef, undef, undef, undef, undef, undef, undef, undef, undef, undef, undef, undef, undef, undef, undef, undef, undef, undef, undef, undef, undef, undef, undef, undef, undef, undef, undef, undef, undef, undef, undef, undef, undef, undef, undef, undef, undef, undef, undef, undef, undef, undef, undef, undef, undef, undef, undef, undef]) rfl ?_
  refine CWp.seq ?_
  refine CWp.region ?_
  refine OWp.allocPR hh rfl rfl (fun H4 b4 hh => ?_)
  refine OWp.norm ?_
  refine OWp.assign rfl rfl ?_
  refine OWp.assign rfl rfl ?_
  refine OWp.nil ?_
  refine CWp.seq ?_
  refine CWp.region ?_
  refine OWp.move rfl rfl ?_
  refine OWp.assign rfl rfl ?_
  refine OWp.nil ?_
  refine CWp.cut (fun e H' => ∃ (n : Nat) (g : Nat → Value), e = [.string s, .int .i64 (a : Nat), g 2, g 3, .pointer (some ⟨b4, 0, none⟩), g 5, g 6, .int .i64 (a + n : Nat), g 8, g 9, g 10, g 11, g 12, g 13, g 14, g 15, g 16, g 17, g 18, g 19, g 20, g 21, g 22, g 23, g 24, g 25, g 26, g 27, g 28, g 29, g 30, g 31, g 32, g 33, g 34, g 35, g 36, g 37, g 38, g 39, g 40, g 41, g 42, g 43, g 44, g 45, g 46, g 47, g 48, g 49, g 50, g 51, g 52, g 53, g 54, g 55, g 56, g 57, g 58, g 59, g 60, g 61, g 62, g 63, g 64, g 65, g 66, g 67, g 68, g 69, g 70, g 71, g 72, g 73, g 74, g 75, g 76, g 77, g 78, g 79, g 80, g 81, g 82, g 83, g 84, g 85, g 86, g 87, g 88, g 89, g 90, g 91, g 92, g 93, g 94, g 95, g 96, g 97, g 98, g 99, g 100, g 101, g 102, g 103, g 104, g 105, g 106, g 107, g 108, g 109] ∧ Has H H' [(b4, zeroPR.O)] ∧ KeyEnd (s.extract a s.size) n ∧ a + n ≤ s.size) ?_ ?_
  · skip
    refine CWp.block ?_
    refine CWp.loop (fun k e H' => ∃ (n : Nat) (g : Nat → Value), e = [.string s, .int .i64 (a : Nat), g 2, g 3, .pointer (some ⟨b4, 0, none⟩), g 5, g 6, .int .i64 (a + n : Nat), g 8, g 9, g 10, g 11, g 12, g 13, g 14, g 15, g 16, g 17, g 18, g 19, g 20, g 21, g 22, g 23, g 24, g 25, g 26, g 27, g 28, g 29, g 30, g 31, g 32, g 33, g 34, g 35, g 36, g 37, g 38, g 39, g 40, g 41, g 42, g 43, g 44, g 45, g 46, g 47, g 48, g 49, g 50, g 51, g 52, g 53, g 54, g 55, g 56, g 57, g 58, g 59, g 60, g 61, g 62, g 63, g 64, g 65, g 66, g 67, g 68, g 69, g 70, g 71, g 72, g 73, g 74, g 75, g 76, g 77, g 78, g 79, g 80, g 81, g 82, g 83, g 84, g 85, g 86, g 87, g 88, g 89, g 90, g 91, g 92, g 93, g 94, g 95, g 96, g 97, g 98, g 99, g 100, g 101, g 102, g 103, g 104, g 105, g 106, g 107, g 108, g 109] ∧ k = s.size - n ∧ Has H H' [(b4, zeroPR.O)] ∧ a + n ≤ s.size ∧ ∀ j : Nat, j < n → letB (byteAt s (a + j : Nat))) ?_ ?_
    · exact ⟨_, 0, ex_env rfl ⟨rfl, hh, by omega, fun j hj => absurd hj (Nat.not_lt_zero _)⟩⟩
    · rintro k e H' ⟨n, g, rfl, rfl, hh, hn, hj⟩
      refine CWp.seq ?_
      refine CWp.seq ?_
      refine CWp.region ?_
      refine OWp.move rfl rfl ?_
      refine OWp.move rfl rfl ?_
      refine OWp.lenS rfl rfl rfl rfl rfl Tryz.underlying9 rfl ?_
      refine OWp.binI rfl rfl rfl rfl rfl ?_
      refine OWp.move rfl rfl ?_
      first | refine OWp.byT rfl (fun hg1 => ?_) (fun hg1 => ?_) | refine OWp.byBT rfl (fun hg1 => ?_) (fun hg1 => ?_)
      · skip
        first | rw [decide_eq_true hg1] | rw [decide_eq_false hg1] | rw [hg1] | skip
        try simp only [Decidable.not_not] at hg1
        refine OWp.move rfl rfl ?_
        refine OWp.move rfl rfl ?_
        refine OWp.indexS rfl rfl Tryz.underlying9 rfl rfl (by omega) (by omega) ?_
        refine OWp.binI rfl rfl rfl rfl rfl ?_
        refine OWp.pickT rfl rfl rfl ?_
        refine OWp.move rfl rfl ?_
        first | refine OWp.byT rfl (fun hg2 => ?_) (fun hg2 => ?_) | refine OWp.byBT rfl (fun hg2 => ?_) (fun hg2 => ?_)
        · skip
          first | rw [decide_eq_true hg2] | rw [decide_eq_false hg2] | rw [hg2] | skip
          try simp only [Decidable.not_not] at hg2
          refine OWp.move rfl rfl ?_
          refine OWp.move rfl rfl ?_
          refine OWp.indexS rfl rfl Tryz.underlying9 rfl rfl (by omega) (by omega) ?_
          refine OWp.binI rfl rfl rfl rfl rfl ?_
          refine OWp.pickT rfl rfl rfl ?_
          refine OWp.nil ?_
          first | refine CWp.condP rfl (fun h3 => ?_) (fun h3 => ?_) | refine CWp.cond rfl (fun h3 => ?_) (fun h3 => ?_)
          · skip
            first | rw [decide_eq_true h3] | rw [decide_eq_false h3] | rw [h3] | skip
            refine CWp.skip ?_
            refine CWp.block ?_
            refine CWp.region ?_
            refine OWp.move rfl rfl ?_
            refine OWp.addI rfl rfl rfl rfl (by omega) ?_
            refine OWp.assign rfl rfl ?_
            refine OWp.nil ?_
            exact ⟨_, by omega, n + 1, ex_env rfl ⟨rfl, hh, by omega, fun j h1 => by by_cases e : j = n; exact e ▸ ⟨by omega, by omega⟩; exact hj j (by omega)⟩⟩
          · skip
            first | rw [decide_eq_true h3] | rw [decide_eq_false h3] | rw [h3] | skip
            refine CWp.exit ?_
            exact ⟨n, ex_env rfl ⟨hh, keyEnd_ext hn hj (fun _ hl => by unfold letB at hl; omega), hn⟩⟩
        · skip
          first | rw [decide_eq_true hg2] | rw [decide_eq_false hg2] | rw [hg2] | skip
          try simp only [Decidable.not_not] at hg2
          refine OWp.leave rfl ?_
          refine OWp.leave rfl ?_
          refine OWp.leave rfl ?_
          refine OWp.leave rfl ?_
          refine OWp.pickF rfl rfl rfl ?_
          refine OWp.nil ?_
          refine CWp.condF rfl ?_
          refine CWp.exit ?_
          exact ⟨n, ex_env rfl ⟨hh, keyEnd_ext hn hj (fun _ hl => by unfold letB at hl; omega), hn⟩⟩
      · skip
        first | rw [decide_eq_true hg1] | rw [decide_eq_false hg1] | rw [hg1] | skip
        try simp only [Decidable.not_not] at hg1
        refine OWp.leave rfl ?_
        refine OWp.leave rfl ?_
        refine OWp.leave rfl ?_
        refine OWp.leave rfl ?_
        refine OWp.pickF rfl rfl rfl ?_
        refine OWp.move rfl rfl ?_
        refine OWp.leave rfl ?_
        refine OWp.leave rfl ?_
        refine OWp.leave rfl ?_
        refine OWp.leave rfl ?_
        refine OWp.pickF rfl rfl rfl ?_
        refine OWp.nil ?_
        refine CWp.condF rfl ?_
        refine CWp.exit ?_
        exact ⟨n, ex_env rfl ⟨hh, keyEnd_ext hn hj (fun hh2 => by omega), hn⟩⟩
  · rintro e H' ⟨n, g, rfl, hh, hke, hn⟩
    have hb9 : byteAt (s.extract a s.size) (n : Nat) = byteAt s (a + n : Nat) := byteAt_ext s a n
    have hx9 : (s.extract a s.size).extract 0 n = s.extract a (a + n) := by rw [ext_ext s a 0 n hn]; rfl
    refine CWp.seq ?_
    refine CWp.region ?_
    refine OWp.move rfl rfl ?_
    refine OWp.move rfl rfl ?_
    refine OWp.move rfl rfl ?_
    refine OWp.sliceS rfl rfl Tryz.underlying9 rfl rfl rfl (by omega) (by omega) (by omega) ?_
    refine OWp.buildPR (⟨s.extract a (a + n), ⟨#[]⟩, true⟩) rfl rfl rfl (by kernel_rfl) ?_
    refine OWp.allocPR hh rfl rfl (fun H8 b8 hh => ?_)
    refine OWp.norm ?_
    first | refine OWp.storePR (k := 0) hh rfl rfl rfl rfl rfl (fun H4 hh => ?_) | refine OWp.storePR (k := 1) hh rfl rfl rfl rfl rfl (fun H4 hh => ?_)
    simp only [List.set_cons_zero, List.set_cons_succ] at hh
    refine OWp.norm ?_
    refine OWp.nil ?_
    refine CWp.seq ?_
    refine CWp.seq ?_
    refine CWp.region ?_
    refine OWp.move rfl rfl ?_
    refine OWp.move rfl rfl ?_
    refine OWp.binI rfl rfl rfl rfl rfl ?_
    refine OWp.nil ?_
    first | refine CWp.condP rfl (fun h2 => ?_) (fun h2 => ?_) | refine CWp.cond rfl (fun h2 => ?_) (fun h2 => ?_)
    · skip
      first | rw [decide_eq_true h2] | rw [decide_eq_false h2] | rw [h2] | skip
      refine CWp.seq ?_
      refine CWp.region ?_
      refine OWp.buildPR (zeroPR) rfl rfl rfl (by kernel_rfl) ?_
      first | refine OWp.storePR (k := 0) hh rfl rfl rfl rfl rfl (fun H4 hh => ?_) | refine OWp.storePR (k := 1) hh rfl rfl rfl rfl rfl (fun H4 hh => ?_)
      simp only [List.set_cons_zero, List.set_cons_succ] at hh
      refine OWp.norm ?_
      refine OWp.assign rfl rfl ?_
      refine OWp.assign rfl rfl ?_
      refine OWp.nil ?_
      refine CWp.ret ?_
      first | refine RetQ.cellPR3 (k := 0) (by first | exact .inl rfl | exact .inr rfl) rfl rfl hh rfl rfl rfl rfl rfl ?_ | refine RetQ.cellPR3 (k := 1) (by first | exact .inl rfl | exact .inr rfl) rfl rfl hh rfl rfl rfl rfl rfl ?_
      have hn0 : n = 0 := by omega
      subst hn0
      exact h _ _ _ _ hh.keep (fun p n hp => by rw [pairS_0 hke] at hp; cases hp) (fun _ => rfl)
    · skip
      first | rw [decide_eq_true h2] | rw [decide_eq_false h2] | rw [h2] | skip
      refine CWp.skip ?_
      refine CWp.seq ?_
      refine CWp.seq ?_
      refine CWp.region ?_
      refine OWp.move rfl rfl ?_
      refine OWp.move rfl rfl ?_
      refine OWp.lenS rfl rfl rfl rfl rfl Tryz.underlying9 rfl ?_
      refine OWp.binI rfl rfl rfl rfl rfl ?_
      refine OWp.move rfl rfl ?_
      first | refine OWp.byF rfl (fun hg3 => ?_) (fun hg3 => ?_) | refine OWp.byBF rfl (fun hg3 => ?_) (fun hg3 => ?_)
      · skip
        first | rw [decide_eq_true hg3] | rw [decide_eq_false hg3] | rw [hg3] | skip
        try simp only [Decidable.not_not] at hg3
        refine OWp.move rfl rfl ?_
        refine OWp.move rfl rfl ?_
        refine OWp.indexS rfl rfl Tryz.underlying9 rfl rfl (by omega) (by omega) ?_
        refine OWp.call rfl rfl rfl rfl ?_
        refine gap5_spec _ _ _ (fun b hb => ?_)
        refine OWp.norm ?_
        refine OWp.pickF rfl rfl rfl ?_
        refine OWp.nil ?_
        first | refine CWp.condP rfl (fun h4 => ?_) (fun h4 => ?_) | refine CWp.cond rfl (fun h4 => ?_) (fun h4 => ?_)
        · skip
          first | rw [decide_eq_true h4] | rw [decide_eq_false h4] | rw [h4] | skip
          refine CWp.seq ?_
          refine CWp.region ?_
          first | refine OWp.loadPR (k := 0) hh rfl rfl rfl rfl ?_ | refine OWp.loadPR (k := 1) hh rfl rfl rfl rfl ?_
          refine OWp.move rfl rfl ?_
          first | refine OWp.storePR (k := 0) hh rfl rfl rfl rfl rfl (fun H4 hh => ?_) | refine OWp.storePR (k := 1) hh rfl rfl rfl rfl rfl (fun H4 hh => ?_)
          simp only [List.set_cons_zero, List.set_cons_succ] at hh
          refine OWp.norm ?_
          refine OWp.assign rfl rfl ?_
          refine OWp.assign rfl rfl ?_
          refine OWp.nil ?_
          refine CWp.ret ?_
          first | refine RetQ.cellPR3 (k := 0) (by first | exact .inl rfl | exact .inr rfl) rfl rfl hh rfl rfl rfl rfl rfl ?_ | refine RetQ.cellPR3 (k := 1) (by first | exact .inl rfl | exact .inr rfl) rfl rfl hh rfl rfl rfl rfl rfl ?_
          refine h _ _ _ _ hh.keep (fun p n hp => ?_) (fun hp => ?_)
          · rw [pairS_alone hke (by omega) (.inr (by rw [hb9]; exact hb.1 (by assumption)))] at hp
            cases hp
            exact ⟨rfl, by rw [hx9], rfl⟩
          · rw [pairS_alone hke (by omega) (.inr (by rw [hb9]; exact hb.1 (by assumption)))] at hp; cases hp
        · skip
          first | rw [decide_eq_true h4] | rw [decide_eq_false h4] | rw [h4] | skip
          refine CWp.skip ?_
          refine CWp.seq ?_
          refine CWp.seq ?_
          refine CWp.region ?_
          refine OWp.move rfl rfl ?_
          refine OWp.move rfl rfl ?_
          refine OWp.indexS rfl rfl Tryz.underlying9 rfl rfl (by omega) (by omega) ?_
          refine OWp.binI rfl rfl rfl rfl rfl ?_
          refine OWp.nil ?_
          first | refine CWp.condP rfl (fun h5 => ?_) (fun h5 => ?_) | refine CWp.cond rfl (fun h5 => ?_) (fun h5 => ?_)
          · skip
            first | rw [decide_eq_true h5] | rw [decide_eq_false h5] | rw [h5] | skip
            refine CWp.seq ?_
            refine CWp.region ?_
            refine OWp.buildPR (zeroPR) rfl rfl rfl (by kernel_rfl) ?_
            first | refine OWp.storePR (k := 0) hh rfl rfl rfl rfl rfl (fun H4 hh => ?_) | refine OWp.storePR (k := 1) hh rfl rfl rfl rfl rfl (fun H4 hh => ?_)
            simp only [List.set_cons_zero, List.set_cons_succ] at hh
            refine OWp.norm ?_
            refine OWp.assign rfl rfl ?_
            refine OWp.assign rfl rfl ?_
            refine OWp.nil ?_
            refine CWp.ret ?_
            first | refine RetQ.cellPR3 (k := 0) (by first | exact .inl rfl | exact .inr rfl) rfl rfl hh rfl rfl rfl rfl rfl ?_ | refine RetQ.cellPR3 (k := 1) (by first | exact .inl rfl | exact .inr rfl) rfl rfl hh rfl rfl rfl rfl rfl ?_
            exact h _ _ _ _ hh.keep (fun p n hp => by rw [pairS_no hke (fun hh0 => by rcases hh0 with hh0 | hh0; omega; rw [hb9] at hh0; have := hb.2 hh0; simp_all) (by rw [hb9]; assumption)] at hp; cases hp) (fun _ => rfl)
          · skip
            first | rw [decide_eq_true h5] | rw [decide_eq_false h5] | rw [h5] | skip
            refine CWp.skip ?_
            refine CWp.seq ?_
            refine CWp.region ?_
            refine OWp.fieldPR 2 (by decide) rfl rfl rfl ?_
            first | refine OWp.storePR_2 (k := 0) hh rfl rfl rfl rfl rfl (fun H4 hh => ?_) | refine OWp.storePR_2 (k := 1) hh rfl rfl rfl rfl rfl (fun H4 hh => ?_)
            simp only [List.set_cons_zero, List.set_cons_succ] at hh
            refine OWp.norm ?_
            refine OWp.nil ?_
            refine CWp.seq ?_
            refine CWp.seq ?_
            refine CWp.region ?_
            refine OWp.move rfl rfl ?_
            refine OWp.addI rfl rfl rfl rfl (by omega) ?_
            refine OWp.move rfl rfl ?_
            refine OWp.lenS rfl rfl rfl rfl rfl Tryz.underlying9 rfl ?_
            refine OWp.binI rfl rfl rfl rfl rfl ?_
            refine OWp.move rfl rfl ?_
            first | refine OWp.byT rfl (fun hg6 => ?_) (fun hg6 => ?_) | refine OWp.byBT rfl (fun hg6 => ?_) (fun hg6 => ?_)
            · skip
              first | rw [decide_eq_true hg6] | rw [decide_eq_false hg6] | rw [hg6] | skip
              try simp only [Decidable.not_not] at hg6
              refine OWp.move rfl rfl ?_
              refine OWp.move rfl rfl ?_
              refine OWp.addI rfl rfl rfl rfl (by omega) ?_
              refine OWp.indexS rfl rfl Tryz.underlying9 rfl rfl (by omega) (by omega) ?_
              refine OWp.binI rfl rfl rfl rfl rfl ?_
              refine OWp.pickT rfl rfl rfl ?_
              refine OWp.nil ?_
              first | refine CWp.condP rfl (fun h7 => ?_) (fun h7 => ?_) | refine CWp.cond rfl (fun h7 => ?_) (fun h7 => ?_)
              · skip
                first | rw [decide_eq_true h7] | rw [decide_eq_false h7] | rw [h7] | skip
                refine CWp.seq ?_
                refine CWp.region ?_
                refine OWp.move rfl rfl ?_
                refine OWp.move rfl rfl ?_
                refine OWp.addI rfl rfl rfl rfl (by omega) ?_
                refine OWp.call rfl rfl rfl rfl ?_
                obtain ⟨o, ho⟩ : ∃ o : Nat, o = a + n + 1 := ⟨_, rfl⟩
                rw [show ((a + n : Nat) : Int) + 1 = (o : Nat) by omega]
                have hr : s.extract o s.size = (s.extract a s.size).extract (n + 1) (s.extract a s.size).size := by rw [ext_ext_end, ho]; rfl
                have hrz : (s.extract o s.size).size = s.size - o := ext_size s o
                refine quotedRV_spec s hs o (by omega) _ _ ?_
                intro x m ok hq1 hq2
                refine OWp.norm ?_
                refine OWp.move rfl rfl ?_
                refine OWp.extract rfl rfl rfl rfl ?_
                refine OWp.extract rfl rfl rfl rfl ?_
                refine OWp.extract rfl rfl rfl rfl ?_
                refine OWp.assign rfl rfl ?_
                refine OWp.assign rfl rfl ?_
                refine OWp.assign rfl rfl ?_
                refine OWp.nil ?_
                refine CWp.seq ?_
                refine CWp.region ?_
                refine OWp.move rfl rfl ?_
                refine OWp.fieldPR 1 (by decide) rfl rfl rfl ?_
                first | refine OWp.storePR_1 (k := 0) hh rfl rfl rfl rfl rfl (fun H4 hh => ?_) | refine OWp.storePR_1 (k := 1) hh rfl rfl rfl rfl rfl (fun H4 hh => ?_)
                simp only [List.set_cons_zero, List.set_cons_succ] at hh
                refine OWp.norm ?_
                refine OWp.nil ?_
                refine CWp.seq ?_
                refine CWp.drawnN (by kernel_rfl) ?_
                have hhS := hh
                have hkS := KX.reflH b4 hh
                first | refine OWp.loadPR (k := 0) hh rfl rfl rfl rfl ?_ | refine OWp.loadPR (k := 1) hh rfl rfl rfl rfl ?_
                refine OWp.move rfl rfl ?_
                refine OWp.move rfl rfl ?_
                refine OWp.move rfl rfl ?_
                first | refine OWp.byT rfl (fun hg8 => ?_) (fun hg8 => ?_) | refine OWp.byBT rfl (fun hg8 => ?_) (fun hg8 => ?_)
                · skip
                  first | rw [decide_eq_true hg8] | rw [decide_eq_false hg8] | rw [hg8] | skip
                  try simp only [Decidable.not_not] at hg8
                  have hc0 : 0 < (s.extract o s.size).size ∧ byteAt (s.extract o s.size) (0 : Nat) = 34 := ⟨by omega, by rw [byteAt_ext]; refine Eq.trans ?_ h7; rw [ho]; rfl⟩
                  obtain ⟨m0, hqs, rfl⟩ : ∃ m0, quoted (s.extract o s.size) = some (x, m0) ∧ m = o + m0 := by
                    cases hqq : quoted (s.extract o s.size) with
                    | none => have := hq2 hqq; simp_all
                    | some y => obtain ⟨y1, y2⟩ := y; obtain ⟨e1, e2, _⟩ := hq1 _ _ hqq; exact ⟨y2, by rw [e1], e2⟩
                  have hqm := quoted_le hqs
                  have hgb : byteAt (s.extract o s.size) (m0 : Nat) = byteAt s (o + m0 : Nat) := byteAt_ext s o m0
                  refine OWp.move rfl rfl ?_
                  refine OWp.move rfl rfl ?_
                  refine OWp.lenS rfl rfl rfl rfl rfl Tryz.underlying9 rfl ?_
                  refine OWp.binI rfl rfl rfl rfl rfl ?_
                  refine OWp.move rfl rfl ?_
                  first | refine OWp.byF rfl (fun hg9 => ?_) (fun hg9 => ?_) | refine OWp.byBF rfl (fun hg9 => ?_) (fun hg9 => ?_)
                  · skip
                    first | rw [decide_eq_true hg9] | rw [decide_eq_false hg9] | rw [hg9] | skip
                    try simp only [Decidable.not_not] at hg9
                    refine OWp.move rfl rfl ?_
                    refine OWp.move rfl rfl ?_
                    refine OWp.indexS rfl rfl Tryz.underlying9 rfl rfl (by omega) (by omega) ?_
                    refine OWp.call rfl rfl rfl rfl ?_
                    refine gap5_spec _ _ _ (fun b3 hb3 => ?_)
                    refine OWp.norm ?_
                    refine OWp.pickF rfl rfl rfl ?_
                    refine OWp.pickT rfl rfl rfl ?_
                    first | refine OWp.storePRX (k := 0) hh rfl rfl rfl rfl rfl (fun H4 hh hx4 => ?_) | refine OWp.storePRX (k := 1) hh rfl rfl rfl rfl rfl (fun H4 hh hx4 => ?_)
                    simp only [List.set_cons_zero, List.set_cons_succ] at hh
                    replace hkS := hx4 _ hkS
                    refine OWp.norm ?_
                    refine OWp.assign rfl rfl ?_
                    refine OWp.assign rfl rfl ?_
                    refine OWp.nil ?_
                    refine ⟨still_all (L := [.pointer (some ⟨b8, 0, none⟩)]) rfl (by simp only [List.all_cons, List.all_nil, Bool.and_true, Bool.and_eq_true]; first | rfl | (refine ⟨?_⟩ <;> first | rfl | exact still_hasX (k := 0) (k2 := 1) hhS rfl rfl (by decide) hkS | exact still_hasX (k := 1) (k2 := 0) hhS rfl rfl (by decide) hkS) | exact still_hasX (k := 0) (k2 := 1) hhS rfl rfl (by decide) hkS | exact still_hasX (k := 1) (k2 := 0) hhS rfl rfl (by decide) hkS), ?_⟩
                    refine CWp.ret ?_
                    first | refine RetQ.cellPR3 (k := 0) (by first | exact .inl rfl | exact .inr rfl) rfl rfl hh rfl rfl rfl rfl rfl ?_ | refine RetQ.cellPR3 (k := 1) (by first | exact .inl rfl | exact .inr rfl) rfl rfl hh rfl rfl rfl rfl rfl ?_
                    have hps := pairS_val hke (by omega) (fun hh0 => by rcases hh0 with hh0 | hh0; omega; rw [hb9] at hh0; have := hb.2 hh0; simp_all) (by rw [hb9]; simpa using h5)
                    cases b3 with
                    | true =>
                      rw [pairV_q2 hr hc0 hqs (.inr (by rw [hgb]; exact hb3.1 rfl)), hx9] at hps
                      exact h _ _ _ _ hh.keep (fun p n2 hp => by rw [hps] at hp; cases hp; exact ⟨rfl, rfl, by omega⟩) (fun hp => by rw [hps] at hp; cases hp)
                    | false =>
                      rw [pairV_q1 hr hc0 hqs (by omega) (fun hh0 => by rw [hgb] at hh0; have := hb3.2 hh0; cases this)] at hps
                      exact h _ _ _ _ hh.keep (fun p n2 hp => by rw [hps] at hp; cases hp) (fun _ => rfl)
                  · skip
                    first | rw [decide_eq_true hg9] | rw [decide_eq_false hg9] | rw [hg9] | skip
                    try simp only [Decidable.not_not] at hg9
                    refine OWp.leave rfl ?_
                    refine OWp.leave rfl ?_
                    refine OWp.leave rfl ?_
                    refine OWp.leave rfl ?_
                    refine OWp.pickT rfl rfl rfl ?_
                    refine OWp.pickT rfl rfl rfl ?_
                    first | refine OWp.storePRX (k := 0) hh rfl rfl rfl rfl rfl (fun H4 hh hx4 => ?_) | refine OWp.storePRX (k := 1) hh rfl rfl rfl rfl rfl (fun H4 hh hx4 => ?_)
                    simp only [List.set_cons_zero, List.set_cons_succ] at hh
                    replace hkS := hx4 _ hkS
                    refine OWp.norm ?_
                    refine OWp.assign rfl rfl ?_
                    refine OWp.assign rfl rfl ?_
                    refine OWp.nil ?_
                    refine ⟨still_all (L := [.pointer (some ⟨b8, 0, none⟩)]) rfl (by simp only [List.all_cons, List.all_nil, Bool.and_true, Bool.and_eq_true]; first | rfl | (refine ⟨?_⟩ <;> first | rfl | exact still_hasX (k := 0) (k2 := 1) hhS rfl rfl (by decide) hkS | exact still_hasX (k := 1) (k2 := 0) hhS rfl rfl (by decide) hkS) | exact still_hasX (k := 0) (k2 := 1) hhS rfl rfl (by decide) hkS | exact still_hasX (k := 1) (k2 := 0) hhS rfl rfl (by decide) hkS), ?_⟩
                    refine CWp.ret ?_
                    first | refine RetQ.cellPR3 (k := 0) (by first | exact .inl rfl | exact .inr rfl) rfl rfl hh rfl rfl rfl rfl rfl ?_ | refine RetQ.cellPR3 (k := 1) (by first | exact .inl rfl | exact .inr rfl) rfl rfl hh rfl rfl rfl rfl rfl ?_
                    have hps := pairS_val hke (by omega) (fun hh0 => by rcases hh0 with hh0 | hh0; omega; rw [hb9] at hh0; have := hb.2 hh0; simp_all) (by rw [hb9]; simpa using h5)
                    rw [pairV_q2 hr hc0 hqs (.inl (by omega)), hx9] at hps
                    exact h _ _ _ _ hh.keep (fun p n2 hp => by rw [hps] at hp; cases hp; exact ⟨rfl, rfl, by omega⟩) (fun hp => by rw [hps] at hp; cases hp)
                · skip
                  first | rw [decide_eq_true hg8] | rw [decide_eq_false hg8] | rw [hg8] | skip
                  try simp only [Decidable.not_not] at hg8
                  have hc0 : 0 < (s.extract o s.size).size ∧ byteAt (s.extract o s.size) (0 : Nat) = 34 := ⟨by omega, by rw [byteAt_ext]; refine Eq.trans ?_ h7; rw [ho]; rfl⟩
                  have hqs : quoted (s.extract o s.size) = none := by
                    cases hqq : quoted (s.extract o s.size) with
                    | none => rfl
                    | some y => obtain ⟨y1, y2⟩ := y; have := (hq1 _ _ hqq).2.2; simp_all
                  refine OWp.leave rfl ?_
                  refine OWp.leave rfl ?_
                  refine OWp.leave rfl ?_
                  refine OWp.leave rfl ?_
                  refine OWp.leave rfl ?_
                  refine OWp.leave rfl ?_
                  refine OWp.leave rfl ?_
                  refine OWp.leave rfl ?_
                  refine OWp.leave rfl ?_
                  refine OWp.leave rfl ?_
                  refine OWp.pickF rfl rfl rfl ?_
                  first | refine OWp.storePRX (k := 0) hh rfl rfl rfl rfl rfl (fun H4 hh hx4 => ?_) | refine OWp.storePRX (k := 1) hh rfl rfl rfl rfl rfl (fun H4 hh hx4 => ?_)
                  simp only [List.set_cons_zero, List.set_cons_succ] at hh
                  replace hkS := hx4 _ hkS
                  refine OWp.norm ?_
                  refine OWp.assign rfl rfl ?_
                  refine OWp.assign rfl rfl ?_
                  refine OWp.nil ?_
                  refine ⟨still_all (L := [.pointer (some ⟨b8, 0, none⟩)]) rfl (by simp only [List.all_cons, List.all_nil, Bool.and_true, Bool.and_eq_true]; first | rfl | (refine ⟨?_⟩ <;> first | rfl | exact still_hasX (k := 0) (k2 := 1) hhS rfl rfl (by decide) hkS | exact still_hasX (k := 1) (k2 := 0) hhS rfl rfl (by decide) hkS) | exact still_hasX (k := 0) (k2 := 1) hhS rfl rfl (by decide) hkS | exact still_hasX (k := 1) (k2 := 0) hhS rfl rfl (by decide) hkS), ?_⟩
                  refine CWp.ret ?_
                  first | refine RetQ.cellPR3 (k := 0) (by first | exact .inl rfl | exact .inr rfl) rfl rfl hh rfl rfl rfl rfl rfl ?_ | refine RetQ.cellPR3 (k := 1) (by first | exact .inl rfl | exact .inr rfl) rfl rfl hh rfl rfl rfl rfl rfl ?_
                  have hps := pairS_val hke (by omega) (fun hh0 => by rcases hh0 with hh0 | hh0; omega; rw [hb9] at hh0; have := hb.2 hh0; simp_all) (by rw [hb9]; simpa using h5)
                  rw [pairV_q0 hr hc0 hqs] at hps
                  exact h _ _ _ _ hh.keep (fun p n2 hp => by rw [hps] at hp; cases hp) (fun _ => rfl)
              · skip
                first | rw [decide_eq_true h7] | rw [decide_eq_false h7] | rw [h7] | skip
                refine CWp.skip ?_
                refine CWp.seq ?_
                refine CWp.region ?_
                refine OWp.move rfl rfl ?_
                refine OWp.move rfl rfl ?_
                refine OWp.addI rfl rfl rfl rfl (by omega) ?_
                refine OWp.call rfl rfl rfl rfl ?_
                obtain ⟨o, ho⟩ : ∃ o : Nat, o = a + n + 1 := ⟨_, rfl⟩
                rw [show ((a + n : Nat) : Int) + 1 = (o : Nat) by omega]
                have hr : s.extract o s.size = (s.extract a s.size).extract (n + 1) (s.extract a s.size).size := by rw [ext_ext_end, ho]; rfl
                have hrz : (s.extract o s.size).size = s.size - o := ext_size s o
                refine wordR_spec s hs o (by omega) _ _ ?_
                obtain ⟨w, hw9⟩ : ∃ w, w = wordN (s.extract o s.size) := ⟨_, rfl⟩
                rw [← hw9]
                have hwl := wordN_le (s.extract o s.size)
                have hwz : (s.extract o (o + w)).size = w := by simp only [ByteArray.size_extract]; omega
                have hwx : (s.extract o s.size).extract 0 w = s.extract o (o + w) := by rw [ext_ext s o 0 w (by omega)]; rfl
                refine OWp.norm ?_
                refine OWp.fieldPR 1 (by decide) rfl rfl rfl ?_
                first | refine OWp.storePR_1 (k := 0) hh rfl rfl rfl rfl rfl (fun H4 hh => ?_) | refine OWp.storePR_1 (k := 1) hh rfl rfl rfl rfl rfl (fun H4 hh => ?_)
                simp only [List.set_cons_zero, List.set_cons_succ] at hh
                refine OWp.norm ?_
                refine OWp.nil ?_
                refine CWp.seq ?_
                refine CWp.drawnN (by kernel_rfl) ?_
                have hhS := hh
                have hkS := KX.reflH b4 hh
                first | refine OWp.loadPR (k := 0) hh rfl rfl rfl rfl ?_ | refine OWp.loadPR (k := 1) hh rfl rfl rfl rfl ?_
                refine OWp.move rfl rfl ?_
                refine OWp.addI rfl rfl rfl rfl (by omega) ?_
                refine OWp.fieldPR 1 (by decide) rfl rfl rfl ?_
                first | refine OWp.loadPR_1 (k := 0) hh rfl rfl rfl rfl ?_ | refine OWp.loadPR_1 (k := 1) hh rfl rfl rfl rfl ?_
                refine OWp.lenS rfl rfl rfl rfl rfl Tryz.underlying9 rfl ?_
                refine OWp.addI rfl rfl rfl rfl (by omega) ?_
                refine OWp.fieldPR 1 (by decide) rfl rfl rfl ?_
                first | refine OWp.loadPR_1 (k := 0) hh rfl rfl rfl rfl ?_ | refine OWp.loadPR_1 (k := 1) hh rfl rfl rfl rfl ?_
                refine OWp.call rfl rfl rfl rfl ?_
                refine bareR_spec _ (by first | omega | (simp only [ByteArray.size_extract]; omega)) _ _ ?_ hh.wf
                intro H9 hk9
                replace hkS := hkS.keeps hh.wf hk9
                replace hh := hh.after hk9
                refine OWp.norm ?_
                first | refine OWp.storePRX (k := 0) hh rfl rfl rfl rfl rfl (fun H4 hh hx4 => ?_) | refine OWp.storePRX (k := 1) hh rfl rfl rfl rfl rfl (fun H4 hh hx4 => ?_)
                simp only [List.set_cons_zero, List.set_cons_succ] at hh
                replace hkS := hx4 _ hkS
                refine OWp.norm ?_
                refine OWp.assign rfl rfl ?_
                refine OWp.assign rfl rfl ?_
                refine OWp.nil ?_
                refine ⟨still_all (L := [.pointer (some ⟨b8, 0, none⟩), .pointer (some ⟨b8, 1, none⟩), .pointer (some ⟨b8, 1, none⟩)]) rfl (by simp only [List.all_cons, List.all_nil, Bool.and_true, Bool.and_eq_true]; first | rfl | (refine ⟨?_, ?_, ?_⟩ <;> first | rfl | exact still_hasX (k := 0) (k2 := 1) hhS rfl rfl (by decide) hkS | exact still_hasX (k := 1) (k2 := 0) hhS rfl rfl (by decide) hkS) | exact still_hasX (k := 0) (k2 := 1) hhS rfl rfl (by decide) hkS | exact still_hasX (k := 1) (k2 := 0) hhS rfl rfl (by decide) hkS), ?_⟩
                refine CWp.ret ?_
                first | refine RetQ.cellPR3 (k := 0) (by first | exact .inl rfl | exact .inr rfl) rfl rfl hh rfl rfl rfl rfl rfl ?_ | refine RetQ.cellPR3 (k := 1) (by first | exact .inl rfl | exact .inr rfl) rfl rfl hh rfl rfl rfl rfl rfl ?_
                have hps := pairS_val hke (by omega) (fun hh0 => by rcases hh0 with hh0 | hh0; omega; rw [hb9] at hh0; have := hb.2 hh0; simp_all) (by rw [hb9]; simpa using h5)
                rw [pairV_bare hr (fun hh0 => by have h10 := hh0.2; rw [byteAt_ext] at h10; exact h7 (h10 ▸ (by rw [ho]; rfl))), ← hw9, hwx, hx9] at hps
                have e9 : ((a + n : Nat) : Int) + 1 + ((s.extract o (o + w)).size : Nat) = ((o + w : Nat) : Int) := by rw [hwz]; omega
                have h9 := h _ ⟨s.extract a (a + n), s.extract o (o + w), false⟩ (o + w) (bareB (s.extract o (o + w))) hh.keep (fun p n2 hp => by
                  rw [hps] at hp
                  split at hp
                  · rename_i hbb; cases hp; exact ⟨hbb, rfl, by omega⟩
                  · cases hp) (fun hp => by
                  rw [hps] at hp
                  split at hp
                  · cases hp
                  · rename_i hbb; simpa using hbb)
                rw [← e9] at h9
                exact h9
            · skip
              first | rw [decide_eq_true hg6] | rw [decide_eq_false hg6] | rw [hg6] | skip
              try simp only [Decidable.not_not] at hg6
              refine OWp.leave rfl ?_
              refine OWp.leave rfl ?_
              refine OWp.leave rfl ?_
              refine OWp.leave rfl ?_
              refine OWp.leave rfl ?_
              refine OWp.pickF rfl rfl rfl ?_
              refine OWp.nil ?_
              refine CWp.condF rfl ?_
              refine CWp.skip ?_
              refine CWp.seq ?_
              refine CWp.region ?_
              refine OWp.move rfl rfl ?_
              refine OWp.move rfl rfl ?_
              refine OWp.addI rfl rfl rfl rfl (by omega) ?_
              refine OWp.call rfl rfl rfl rfl ?_
              obtain ⟨o, ho⟩ : ∃ o : Nat, o = a + n + 1 := ⟨_, rfl⟩
              rw [show ((a + n : Nat) : Int) + 1 = (o : Nat) by omega]
              have hr : s.extract o s.size = (s.extract a s.size).extract (n + 1) (s.extract a s.size).size := by rw [ext_ext_end, ho]; rfl
              have hrz : (s.extract o s.size).size = s.size - o := ext_size s o
              refine wordR_spec s hs o (by omega) _ _ ?_
              obtain ⟨w, hw9⟩ : ∃ w, w = wordN (s.extract o s.size) := ⟨_, rfl⟩
              rw [← hw9]
              have hwl := wordN_le (s.extract o s.size)
              have hwz : (s.extract o (o + w)).size = w := by simp only [ByteArray.size_extract]; omega
              have hwx : (s.extract o s.size).extract 0 w = s.extract o (o + w) := by rw [ext_ext s o 0 w (by omega)]; rfl
              refine OWp.norm ?_
              refine OWp.fieldPR 1 (by decide) rfl rfl rfl ?_
              first | refine OWp.storePR_1 (k := 0) hh rfl rfl rfl rfl rfl (fun H4 hh => ?_) | refine OWp.storePR_1 (k := 1) hh rfl rfl rfl rfl rfl (fun H4 hh => ?_)
              simp only [List.set_cons_zero, List.set_cons_succ] at hh
              refine OWp.norm ?_
              refine OWp.nil ?_
              refine CWp.seq ?_
              refine CWp.drawnN (by kernel_rfl) ?_
              have hhS := hh
              have hkS := KX.reflH b4 hh
              first | refine OWp.loadPR (k := 0) hh rfl rfl rfl rfl ?_ | refine OWp.loadPR (k := 1) hh rfl rfl rfl rfl ?_
              refine OWp.move rfl rfl ?_
              refine OWp.addI rfl rfl rfl rfl (by omega) ?_
              refine OWp.fieldPR 1 (by decide) rfl rfl rfl ?_
              first | refine OWp.loadPR_1 (k := 0) hh rfl rfl rfl rfl ?_ | refine OWp.loadPR_1 (k := 1) hh rfl rfl rfl rfl ?_
              refine OWp.lenS rfl rfl rfl rfl rfl Tryz.underlying9 rfl ?_
              refine OWp.addI rfl rfl rfl rfl (by omega) ?_
              refine OWp.fieldPR 1 (by decide) rfl rfl rfl ?_
              first | refine OWp.loadPR_1 (k := 0) hh rfl rfl rfl rfl ?_ | refine OWp.loadPR_1 (k := 1) hh rfl rfl rfl rfl ?_
              refine OWp.call rfl rfl rfl rfl ?_
              refine bareR_spec _ (by first | omega | (simp only [ByteArray.size_extract]; omega)) _ _ ?_ hh.wf
              intro H9 hk9
              replace hkS := hkS.keeps hh.wf hk9
              replace hh := hh.after hk9
              refine OWp.norm ?_
              first | refine OWp.storePRX (k := 0) hh rfl rfl rfl rfl rfl (fun H4 hh hx4 => ?_) | refine OWp.storePRX (k := 1) hh rfl rfl rfl rfl rfl (fun H4 hh hx4 => ?_)
              simp only [List.set_cons_zero, List.set_cons_succ] at hh
              replace hkS := hx4 _ hkS
              refine OWp.norm ?_
              refine OWp.assign rfl rfl ?_
              refine OWp.assign rfl rfl ?_
              refine OWp.nil ?_
              refine ⟨still_all (L := [.pointer (some ⟨b8, 0, none⟩), .pointer (some ⟨b8, 1, none⟩), .pointer (some ⟨b8, 1, none⟩)]) rfl (by simp only [List.all_cons, List.all_nil, Bool.and_true, Bool.and_eq_true]; first | rfl | (refine ⟨?_, ?_, ?_⟩ <;> first | rfl | exact still_hasX (k := 0) (k2 := 1) hhS rfl rfl (by decide) hkS | exact still_hasX (k := 1) (k2 := 0) hhS rfl rfl (by decide) hkS) | exact still_hasX (k := 0) (k2 := 1) hhS rfl rfl (by decide) hkS | exact still_hasX (k := 1) (k2 := 0) hhS rfl rfl (by decide) hkS), ?_⟩
              refine CWp.ret ?_
              first | refine RetQ.cellPR3 (k := 0) (by first | exact .inl rfl | exact .inr rfl) rfl rfl hh rfl rfl rfl rfl rfl ?_ | refine RetQ.cellPR3 (k := 1) (by first | exact .inl rfl | exact .inr rfl) rfl rfl hh rfl rfl rfl rfl rfl ?_
              have hps := pairS_val hke (by omega) (fun hh0 => by rcases hh0 with hh0 | hh0; omega; rw [hb9] at hh0; have := hb.2 hh0; simp_all) (by rw [hb9]; simpa using h5)
              rw [pairV_bare hr (fun hh0 => by omega), ← hw9, hwx, hx9] at hps
              have e9 : ((a + n : Nat) : Int) + 1 + ((s.extract o (o + w)).size : Nat) = ((o + w : Nat) : Int) := by rw [hwz]; omega
              have h9 := h _ ⟨s.extract a (a + n), s.extract o (o + w), false⟩ (o + w) (bareB (s.extract o (o + w))) hh.keep (fun p n2 hp => by
                rw [hps] at hp
                split at hp
                · rename_i hbb; cases hp; exact ⟨hbb, rfl, by omega⟩
                · cases hp) (fun hp => by
                rw [hps] at hp
                split at hp
                · cases hp
                · rename_i hbb; simpa using hbb)
              rw [← e9] at h9
              exact h9
      · skip
        first | rw [decide_eq_true hg3] | rw [decide_eq_false hg3] | rw [hg3] | skip
        try simp only [Decidable.not_not] at hg3
        refine OWp.leave rfl ?_
        refine OWp.leave rfl ?_
        refine OWp.leave rfl ?_
        refine OWp.leave rfl ?_
        refine OWp.pickT rfl rfl rfl ?_
        refine OWp.nil ?_
        refine CWp.condT rfl ?_
        refine CWp.seq ?_
        refine CWp.region ?_
        first | refine OWp.loadPR (k := 0) hh rfl rfl rfl rfl ?_ | refine OWp.loadPR (k := 1) hh rfl rfl rfl rfl ?_
        refine OWp.move rfl rfl ?_
        first | refine OWp.storePR (k := 0) hh rfl rfl rfl rfl rfl (fun H4 hh => ?_) | refine OWp.storePR (k := 1) hh rfl rfl rfl rfl rfl (fun H4 hh => ?_)
        simp only [List.set_cons_zero, List.set_cons_succ] at hh
        refine OWp.norm ?_
        refine OWp.assign rfl rfl ?_
        refine OWp.assign rfl rfl ?_
        refine OWp.nil ?_
        refine CWp.ret ?_
        first | refine RetQ.cellPR3 (k := 0) (by first | exact .inl rfl | exact .inr rfl) rfl rfl hh rfl rfl rfl rfl rfl ?_ | refine RetQ.cellPR3 (k := 1) (by first | exact .inl rfl | exact .inr rfl) rfl rfl hh rfl rfl rfl rfl rfl ?_
        refine h _ _ _ _ hh.keep (fun p n hp => ?_) (fun hp => ?_)
        · rw [pairS_alone hke (by omega) (.inl (by omega))] at hp
          cases hp
          exact ⟨rfl, by rw [hx9], rfl⟩
        · rw [pairS_alone hke (by omega) (.inl (by omega))] at hp; cases hp

end Go.Proofs.YtnlkgnoogcakjaaGreatDoor.Ev
