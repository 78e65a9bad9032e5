import Derived.Test.YtpfhkjbnofgikaaDoorEvL2
namespace Go.Proofs.YtpfhkjbnofgikaaDoor.Ev
open Go
set_option linter.unusedVariables false
set_option linter.unusedSimpArgs false
theorem RetQ.four {P : Program} {fn : Func} {Q : Value → AH → Prop} {st : St} {e : List Value} {H : AH} {a b c d : Tmp} {x y z u : Value} (hst : st = .nx ∨ st = .rt) (hr : fn.results = #[.tmp a, .tmp b, .tmp c, .tmp d]) (hx : e.getD a undef = x) (hy : e.getD b undef = y) (hz : e.getD c undef = z) (hu : e.getD d undef = u) (nx : noTuple x = true) (ny : noTuple y = true) (nz : noTuple z = true) (nu : noTuple u = true)
    (h : Q (.tuple #[x, y, z, u]) H) : RetQ P fn Q st e H := by
  refine ⟨hst, _, ?_, h⟩
  subst hx hy hz hu
  simp only [List.getD_eq_getElem?_getD] at nx ny nz nu
  simp [resultsA, hr, resA, nx, ny, nz, nu]
theorem z1 : (⟨#[32]⟩ : ByteArray).size = 1 := rfl
theorem empty_size (t : ByteArray) : t = ⟨#[]⟩ ↔ t.size = 0 := by
  constructor
  · rintro rfl; rfl
  · intro h
    apply ByteArray.ext
    exact Array.eq_empty_of_size_eq_zero h

theorem trimR_spec (s : ByteArray) (hs : s.size ≤ 9000000) (H : AH) (Q : Value → AH → Prop) (h : Q (.string (trW s)) H) : FWp Tryd.prog prims 28 [.string s] H Q := by
  refine FWp.enter (rfl) Tryd.func28 rfl (e := [.string s, undef, undef, undef, undef, undef, undef, undef, undef, undef, undef, undef, undef, undef, undef]) rfl ?_
  refine CWp.seq ?_
  refine CWp.region ?_
  refine OWp.assign rfl rfl ?_
  refine OWp.nil ?_
  refine CWp.seq ?_
  refine CWp.block ?_
  refine CWp.loop (fun k e H' => ∃ (x : ByteArray) (m : Nat) (g : Nat → Value), e = [.string x, g 1, g 2, g 3, g 4, g 5, g 6, g 7, g 8, g 9, g 10, g 11, g 12, g 13, g 14] ∧ k = s.size - m ∧ H' = H ∧ x = s.extract m s.size ∧ m ≤ s.size ∧ ∀ j : Nat, j < m → gapB (byteAt s j)) ?_ ?_
  · exact ⟨_, s, 0, ex_env rfl ⟨rfl, rfl, by simp, by omega, fun j h1 => by omega⟩⟩
  · rintro k e H' ⟨x, m, g, rfl, rfl, rfl, hx, hm, hj⟩
    have hz : x.size = s.size - m := by rw [hx, ByteArray.size_extract]; omega
    refine CWp.seq ?_
    refine CWp.seq ?_
    refine CWp.region ?_
    refine OWp.move rfl rfl ?_
    refine OWp.lenS rfl rfl rfl rfl rfl Tryd.underlying9 rfl ?_
    refine OWp.binI rfl rfl rfl rfl rfl ?_
    refine OWp.move rfl rfl ?_
    first | refine OWp.byT rfl (fun hg1 => ?_) (fun hg1 => ?_) | refine OWp.byBT rfl (fun hg1 => ?_) (fun hg1 => ?_)
    · skip
      first | rw [decide_eq_true hg1] | rw [decide_eq_false hg1] | rw [hg1] | skip
      try simp only [Decidable.not_not] at hg1
      refine OWp.move rfl rfl ?_
      refine OWp.indexS rfl rfl Tryd.underlying9 rfl rfl (by omega) (by omega) ?_
      refine OWp.call rfl rfl rfl rfl ?_
      refine gap_spec _ _ _ (fun b hb => ?_)
      have hbx : byteAt x 0 = byteAt s (m : Nat) := by
          have := byteAt_ext s m 0
          rw [← hx] at this
          exact this
      rw [hbx] at hb
      refine OWp.norm ?_
      refine OWp.pickT rfl rfl rfl ?_
      refine OWp.nil ?_
      first | refine CWp.condP rfl (fun h2 => ?_) (fun h2 => ?_) | refine CWp.cond rfl (fun h2 => ?_) (fun h2 => ?_)
      · skip
        have hb2 : ∀ j, j = m → gapB (byteAt s j) := fun j e => by rw [e]; exact hb.1 (by assumption)
        first | rw [decide_eq_true h2] | rw [decide_eq_false h2] | rw [h2] | skip
        refine CWp.skip ?_
        refine CWp.block ?_
        refine CWp.region ?_
        refine OWp.move rfl rfl ?_
        refine OWp.sliceS rfl rfl Tryd.underlying9 rfl rfl rfl (by omega) (by omega) (by omega) ?_
        refine OWp.assign rfl rfl ?_
        refine OWp.nil ?_
        exact ⟨_, by omega, _, m + 1, ex_env rfl ⟨rfl, rfl, by rw [hx, ByteArray.extract_extract, show m + Int.toNat 1 = m + 1 from rfl]; congr 1; rw [← hx]; omega, by omega, fun j a => by by_cases e : j = m; exact hb2 j e; exact hj j (by omega)⟩⟩
      · skip
        first | rw [decide_eq_true h2] | rw [decide_eq_false h2] | rw [h2] | skip
        refine CWp.exit ?_
        refine CWp.seq ?_
        refine CWp.region ?_
        refine OWp.move rfl rfl ?_
        refine OWp.call rfl rfl rfl rfl ?_
        refine backR_spec x (by omega) _ _ (fun k hk => ?_)
        refine OWp.norm ?_
        refine OWp.assign rfl rfl ?_
        refine OWp.nil ?_
        refine CWp.ret ?_
        refine RetQ.one (by first | exact .inl rfl | exact .inr rfl) rfl rfl ?_
        have hge : GapEnd s m := ⟨hm, hj, fun h0 hg => by first | omega | (have := hb.2 hg; simp_all)⟩
        rw [← back_gap x k hk, hx, ← trim_gap s m hge, ← trW_eq']
        exact h
    · skip
      first | rw [decide_eq_true hg1] | rw [decide_eq_false hg1] | rw [hg1] | skip
      try simp only [Decidable.not_not] at hg1
      refine OWp.leave rfl ?_
      refine OWp.leave rfl ?_
      refine OWp.leave rfl ?_
      refine OWp.pickF rfl rfl rfl ?_
      refine OWp.nil ?_
      refine CWp.condF rfl ?_
      refine CWp.exit ?_
      refine CWp.seq ?_
      refine CWp.region ?_
      refine OWp.move rfl rfl ?_
      refine OWp.call rfl rfl rfl rfl ?_
      refine backR_spec x (by omega) _ _ (fun k hk => ?_)
      refine OWp.norm ?_
      refine OWp.assign rfl rfl ?_
      refine OWp.nil ?_
      refine CWp.ret ?_
      refine RetQ.one (by first | exact .inl rfl | exact .inr rfl) rfl rfl ?_
      have hge : GapEnd s m := ⟨hm, hj, fun h0 hg => by first | omega | (have := hb.2 hg; simp_all)⟩
      rw [← back_gap x k hk, hx, ← trim_gap s m hge, ← trW_eq']
      exact h

theorem stripC_spec (s : ByteArray) (hs : s.size ≤ 9000000) (n : Int) (hn : 0 ≤ n ∧ n ≤ 1000) (H : AH) (Q : Value → AH → Prop) (h : ∀ x, StripV s n x → Q (.string x) H) : FWp Tryd.prog prims 23 [.string s, .int .i64 n] H Q := by
  have e1 : (if n > 0 then n else 0 : Int) = n := by split <;> omega
  have hz1 := z1
  refine FWp.enter (rfl) Tryd.func23 rfl (e := [.string s, .int .i64 n, undef, undef, undef, undef, undef, undef, undef, undef, undef, undef, undef, undef, undef, undef, undef, undef, undef, undef, undef, undef, undef, undef, undef, undef, undef, undef, undef, undef, undef, undef, undef, undef, undef, undef, undef, undef, undef]) rfl ?_
  refine CWp.seq ?_
  refine CWp.region ?_
  refine OWp.assign rfl rfl ?_
  refine OWp.nil ?_
  refine CWp.seq ?_
  refine CWp.region ?_
  refine OWp.assign rfl rfl ?_
  refine OWp.assign rfl rfl ?_
  refine OWp.nil ?_
  refine CWp.seq ?_
  refine CWp.block ?_
  refine CWp.loop (fun k e H' => ∃ (i : Nat) (g : Nat → Value), e = [.string s, .int .i64 n, g 2, g 3, g 4, .int .i64 (colAt s i), .int .i64 (i : Nat), g 7, g 8, g 9, g 10, g 11, g 12, g 13, g 14, g 15, g 16, g 17, g 18, g 19, g 20, g 21, g 22, g 23, g 24, g 25, g 26, g 27, g 28, g 29, g 30, g 31, g 32, g 33, g 34, g 35, g 36, g 37, g 38] ∧ k = s.size - i ∧ H' = H ∧ i ≤ s.size ∧ (∀ j : Nat, j < i → gapB (byteAt s j) ∧ colAt s j < n) ∧ colAt s i ≤ n + 3) ?_ ?_
  · exact ⟨_, 0, ex_env rfl ⟨rfl, rfl, by omega, fun j h1 => by omega, by show (0 : Int) ≤ _; omega⟩⟩
  · rintro k e H' ⟨i, g, rfl, rfl, rfl, hi, hj, hcn⟩
    have hcl := colAt_le s i
    refine CWp.seq ?_
    refine CWp.seq ?_
    refine CWp.region ?_
    refine OWp.move rfl rfl ?_
    refine OWp.move rfl rfl ?_
    refine OWp.binI rfl rfl rfl rfl rfl ?_
    refine OWp.move rfl rfl ?_
    first | refine OWp.byT rfl (fun hg1 => ?_) (fun hg1 => ?_) | refine OWp.byBT rfl (fun hg1 => ?_) (fun hg1 => ?_)
    · skip
      first | rw [decide_eq_true hg1] | rw [decide_eq_false hg1] | rw [hg1] | skip
      try simp only [Decidable.not_not] at hg1
      refine OWp.move rfl rfl ?_
      refine OWp.move rfl rfl ?_
      refine OWp.lenS rfl rfl rfl rfl rfl Tryd.underlying9 rfl ?_
      refine OWp.binI rfl rfl rfl rfl rfl ?_
      refine OWp.pickT rfl rfl rfl ?_
      refine OWp.move rfl rfl ?_
      first | refine OWp.byT rfl (fun hg2 => ?_) (fun hg2 => ?_) | refine OWp.byBT rfl (fun hg2 => ?_) (fun hg2 => ?_)
      · skip
        first | rw [decide_eq_true hg2] | rw [decide_eq_false hg2] | rw [hg2] | skip
        try simp only [Decidable.not_not] at hg2
        refine OWp.move rfl rfl ?_
        refine OWp.move rfl rfl ?_
        refine OWp.indexS rfl rfl Tryd.underlying9 rfl rfl (by first | omega | (have := spaces_size cc.toNat; have := ext_le s (i : Int).toNat (s.size : Int).toNat; omega)) (by first | omega | (have := spaces_size cc.toNat; have := ext_le s (i : Int).toNat (s.size : Int).toNat; omega)) ?_
        refine OWp.call rfl rfl rfl rfl ?_
        refine white_spec _ _ _ (fun b hb => ?_)
        refine OWp.norm ?_
        refine OWp.pickT rfl rfl rfl ?_
        refine OWp.nil ?_
        first | refine CWp.condP rfl (fun h3 => ?_) (fun h3 => ?_) | refine CWp.cond rfl (fun h3 => ?_) (fun h3 => ?_)
        · skip
          first | rw [decide_eq_true h3] | rw [decide_eq_false h3] | rw [h3] | skip
          refine CWp.skip ?_
          refine CWp.block ?_
          refine CWp.seq ?_
          refine CWp.region ?_
          refine OWp.move rfl rfl ?_
          refine OWp.move rfl rfl ?_
          refine OWp.move rfl rfl ?_
          refine OWp.indexS rfl rfl Tryd.underlying9 rfl rfl (by first | omega | (have := spaces_size cc.toNat; have := ext_le s (i : Int).toNat (s.size : Int).toNat; omega)) (by first | omega | (have := spaces_size cc.toNat; have := ext_le s (i : Int).toNat (s.size : Int).toNat; omega)) ?_
          refine OWp.call rfl rfl rfl rfl ?_
          refine stepC_spec _ _ (by omega) _ _ ?_
          refine OWp.norm ?_
          refine OWp.assign rfl rfl ?_
          refine OWp.nil ?_
          refine CWp.region ?_
          refine OWp.move rfl rfl ?_
          refine OWp.addI rfl rfl rfl rfl (by first | omega | (have := spaces_size cc.toNat; have := ext_le s (i : Int).toNat (s.size : Int).toNat; omega)) ?_
          refine OWp.assign rfl rfl ?_
          refine OWp.nil ?_
          exact ⟨_, by omega, i + 1, ex_env rfl ⟨rfl, rfl, by omega, fun j a => by by_cases e : j = i; exact e ▸ ⟨hb.1 (by assumption), by omega⟩; exact hj j (by omega), by have := stepF_le (colAt s i) (byteAt s i) (by omega); show stepF _ _ ≤ _; omega⟩⟩
        · skip
          first | rw [decide_eq_true h3] | rw [decide_eq_false h3] | rw [h3] | skip
          refine CWp.exit ?_
          refine CWp.seq ?_
          refine CWp.drawn1 (by kernel_rfl) ?_
          refine OWp.move rfl rfl ?_
          refine OWp.move rfl rfl ?_
          refine OWp.maxI rfl rfl rfl rfl rfl rfl ?_
          rw [e1]
          refine OWp.subI rfl rfl rfl rfl (by first | omega | (have := spaces_size cc.toNat; have := ext_le s (i : Int).toNat (s.size : Int).toNat; omega)) ?_
          refine OWp.maxI rfl rfl rfl rfl rfl rfl ?_
          generalize hcc : (if colAt s i - n > 0 then colAt s i - n else 0 : Int) = cc
          have hc2 : cc.toNat = (colAt s i - n).toNat ∧ 0 ≤ cc ∧ cc ≤ 1000 := by rw [← hcc]; split <;> omega
          refine OWp.call rfl rfl rfl rfl ?_
          refine rep_spec _ (by omega) _ _ ?_
          refine OWp.norm ?_
          refine OWp.move rfl rfl ?_
          refine OWp.move rfl rfl ?_
          refine OWp.sliceS rfl rfl Tryd.underlying9 rfl rfl rfl (by first | omega | (have := spaces_size cc.toNat; have := ext_le s (i : Int).toNat (s.size : Int).toNat; omega)) (by first | omega | (have := spaces_size cc.toNat; have := ext_le s (i : Int).toNat (s.size : Int).toNat; omega)) (by first | omega | (have := spaces_size cc.toNat; have := ext_le s (i : Int).toNat (s.size : Int).toNat; omega)) ?_
          refine OWp.catS rfl rfl rfl rfl (by first | omega | (have := spaces_size cc.toNat; have := ext_le s (i : Int).toNat (s.size : Int).toNat; omega)) ?_
          refine OWp.assign rfl rfl ?_
          refine OWp.nil ?_
          refine CWp.ret ?_
          refine RetQ.one (by first | exact .inl rfl | exact .inr rfl) rfl rfl ?_
          exact h _ ⟨i, ⟨hi, hj, fun hlt => by first | omega | (right; omega) | (left; intro hg; have := hb.2 hg; simp_all)⟩, by rw [hc2.1]; rfl⟩
      · skip
        first | rw [decide_eq_true hg2] | rw [decide_eq_false hg2] | rw [hg2] | skip
        try simp only [Decidable.not_not] at hg2
        refine OWp.leave rfl ?_
        refine OWp.leave rfl ?_
        refine OWp.leave rfl ?_
        refine OWp.leave rfl ?_
        refine OWp.pickF rfl rfl rfl ?_
        refine OWp.nil ?_
        refine CWp.condF rfl ?_
        refine CWp.exit ?_
        refine CWp.seq ?_
        refine CWp.drawn1 (by kernel_rfl) ?_
        refine OWp.move rfl rfl ?_
        refine OWp.move rfl rfl ?_
        refine OWp.maxI rfl rfl rfl rfl rfl rfl ?_
        rw [e1]
        refine OWp.subI rfl rfl rfl rfl (by first | omega | (have := spaces_size cc.toNat; have := ext_le s (i : Int).toNat (s.size : Int).toNat; omega)) ?_
        refine OWp.maxI rfl rfl rfl rfl rfl rfl ?_
        generalize hcc : (if colAt s i - n > 0 then colAt s i - n else 0 : Int) = cc
        have hc2 : cc.toNat = (colAt s i - n).toNat ∧ 0 ≤ cc ∧ cc ≤ 1000 := by rw [← hcc]; split <;> omega
        refine OWp.call rfl rfl rfl rfl ?_
        refine rep_spec _ (by omega) _ _ ?_
        refine OWp.norm ?_
        refine OWp.move rfl rfl ?_
        refine OWp.move rfl rfl ?_
        refine OWp.sliceS rfl rfl Tryd.underlying9 rfl rfl rfl (by first | omega | (have := spaces_size cc.toNat; have := ext_le s (i : Int).toNat (s.size : Int).toNat; omega)) (by first | omega | (have := spaces_size cc.toNat; have := ext_le s (i : Int).toNat (s.size : Int).toNat; omega)) (by first | omega | (have := spaces_size cc.toNat; have := ext_le s (i : Int).toNat (s.size : Int).toNat; omega)) ?_
        refine OWp.catS rfl rfl rfl rfl (by first | omega | (have := spaces_size cc.toNat; have := ext_le s (i : Int).toNat (s.size : Int).toNat; omega)) ?_
        refine OWp.assign rfl rfl ?_
        refine OWp.nil ?_
        refine CWp.ret ?_
        refine RetQ.one (by first | exact .inl rfl | exact .inr rfl) rfl rfl ?_
        exact h _ ⟨i, ⟨hi, hj, fun hlt => by first | omega | (right; omega) | (left; intro hg; have := hb.2 hg; simp_all)⟩, by rw [hc2.1]; rfl⟩
    · skip
      first | rw [decide_eq_true hg1] | rw [decide_eq_false hg1] | rw [hg1] | skip
      try simp only [Decidable.not_not] at hg1
      refine OWp.leave rfl ?_
      refine OWp.leave rfl ?_
      refine OWp.leave rfl ?_
      refine OWp.leave rfl ?_
      refine OWp.pickF rfl rfl rfl ?_
      refine OWp.move rfl rfl ?_
      refine OWp.leave rfl ?_
      refine OWp.leave rfl ?_
      refine OWp.leave rfl ?_
      refine OWp.leave rfl ?_
      refine OWp.pickF rfl rfl rfl ?_
      refine OWp.nil ?_
      refine CWp.condF rfl ?_
      refine CWp.exit ?_
      refine CWp.seq ?_
      refine CWp.drawn1 (by kernel_rfl) ?_
      refine OWp.move rfl rfl ?_
      refine OWp.move rfl rfl ?_
      refine OWp.maxI rfl rfl rfl rfl rfl rfl ?_
      rw [e1]
      refine OWp.subI rfl rfl rfl rfl (by first | omega | (have := spaces_size cc.toNat; have := ext_le s (i : Int).toNat (s.size : Int).toNat; omega)) ?_
      refine OWp.maxI rfl rfl rfl rfl rfl rfl ?_
      generalize hcc : (if colAt s i - n > 0 then colAt s i - n else 0 : Int) = cc
      have hc2 : cc.toNat = (colAt s i - n).toNat ∧ 0 ≤ cc ∧ cc ≤ 1000 := by rw [← hcc]; split <;> omega
      refine OWp.call rfl rfl rfl rfl ?_
      refine rep_spec _ (by omega) _ _ ?_
      refine OWp.norm ?_
      refine OWp.move rfl rfl ?_
      refine OWp.move rfl rfl ?_
      refine OWp.sliceS rfl rfl Tryd.underlying9 rfl rfl rfl (by first | omega | (have := spaces_size cc.toNat; have := ext_le s (i : Int).toNat (s.size : Int).toNat; omega)) (by first | omega | (have := spaces_size cc.toNat; have := ext_le s (i : Int).toNat (s.size : Int).toNat; omega)) (by first | omega | (have := spaces_size cc.toNat; have := ext_le s (i : Int).toNat (s.size : Int).toNat; omega)) ?_
      refine OWp.catS rfl rfl rfl rfl (by first | omega | (have := spaces_size cc.toNat; have := ext_le s (i : Int).toNat (s.size : Int).toNat; omega)) ?_
      refine OWp.assign rfl rfl ?_
      refine OWp.nil ?_
      refine CWp.ret ?_
      refine RetQ.one (by first | exact .inl rfl | exact .inr rfl) rfl rfl ?_
      exact h _ ⟨i, ⟨hi, hj, fun hlt => by first | omega | (right; omega) | (left; intro hg; have := hb.2 hg; simp_all)⟩, by rw [hc2.1]; rfl⟩

theorem strip_spec (s : ByteArray) (hs : s.size ≤ 9000000) (n : Int) (hn : 0 ≤ n ∧ n ≤ 1000) (H : AH) (Q : Value → AH → Prop) (h : ∀ x, StripV s n x → Q (.string x) H) : FWp Tryd.prog prims 30 [.string s, .int .i64 n] H Q := by
  have hz1 := z1
  refine FWp.enter (rfl) Tryd.func30 rfl (e := [.string s, .int .i64 n, undef, undef, undef, undef, undef, undef, undef, undef, undef, undef, undef, undef, undef, undef, undef, undef, undef, undef, undef, undef, undef, undef, undef, undef, undef, undef, undef, undef, undef, undef, undef, undef, undef, undef, undef, undef, undef, undef, undef, undef, undef, undef, undef, undef]) rfl ?_
  refine CWp.seq ?_
  refine CWp.region ?_
  refine OWp.assign rfl rfl ?_
  refine OWp.nil ?_
  refine CWp.seq ?_
  refine CWp.region ?_
  refine OWp.assign rfl rfl ?_
  refine OWp.assign rfl rfl ?_
  refine OWp.nil ?_
  refine CWp.seq ?_
  refine CWp.block ?_
  refine CWp.loop (fun k e H' => ∃ (i : Nat) (g : Nat → Value), e = [.string s, .int .i64 n, g 2, g 3, g 4, .int .i64 (colAt s i), .int .i64 (i : Nat), g 7, g 8, g 9, g 10, g 11, g 12, g 13, g 14, g 15, g 16, g 17, g 18, g 19, g 20, g 21, g 22, g 23, g 24, g 25, g 26, g 27, g 28, g 29, g 30, g 31, g 32, g 33, g 34, g 35, g 36, g 37, g 38, g 39, g 40, g 41, g 42, g 43, g 44, g 45] ∧ k = s.size - i ∧ H = H' ∧ i ≤ s.size ∧ (∀ j : Nat, j < i → gapB (byteAt s j) ∧ colAt s j < n) ∧ colAt s i ≤ n + 3) ?_ ?_
  · exact ⟨_, 0, ex_env rfl ⟨rfl, rfl, by omega, fun j h1 => by omega, by show (0 : Int) ≤ _; omega⟩⟩
  · rintro k e H' ⟨i, g, rfl, rfl, rfl, hi, hj, hcn⟩
    have hcl := colAt_le s i
    refine CWp.seq ?_
    refine CWp.seq ?_
    refine CWp.region ?_
    refine OWp.move rfl rfl ?_
    refine OWp.move rfl rfl ?_
    refine OWp.lenS rfl rfl rfl rfl rfl Tryd.underlying9 rfl ?_
    refine OWp.binI rfl rfl rfl rfl rfl ?_
    refine OWp.move rfl rfl ?_
    first | refine OWp.byT rfl (fun hg1 => ?_) (fun hg1 => ?_) | refine OWp.byBT rfl (fun hg1 => ?_) (fun hg1 => ?_)
    · skip
      first | rw [decide_eq_true hg1] | rw [decide_eq_false hg1] | rw [hg1] | skip
      try simp only [Decidable.not_not] at hg1
      refine OWp.move rfl rfl ?_
      refine OWp.move rfl rfl ?_
      refine OWp.indexS rfl rfl Tryd.underlying9 rfl rfl (by first | omega | (have := spaces_size (colAt s i - c).toNat; have := ext_le s (i : Int).toNat (s.size : Int).toNat; rw [hy]; omega)) (by first | omega | (have := spaces_size (colAt s i - c).toNat; have := ext_le s (i : Int).toNat (s.size : Int).toNat; rw [hy]; omega)) ?_
      refine OWp.call rfl rfl rfl rfl ?_
      refine gap_spec _ _ _ (fun b hb => ?_)
      refine OWp.norm ?_
      refine OWp.pickT rfl rfl rfl ?_
      refine OWp.move rfl rfl ?_
      first | refine OWp.byT rfl (fun hg2 => ?_) (fun hg2 => ?_) | refine OWp.byBT rfl (fun hg2 => ?_) (fun hg2 => ?_)
      · skip
        first | rw [decide_eq_true hg2] | rw [decide_eq_false hg2] | rw [hg2] | skip
        try simp only [Decidable.not_not] at hg2
        refine OWp.move rfl rfl ?_
        refine OWp.move rfl rfl ?_
        refine OWp.binI rfl rfl rfl rfl rfl ?_
        refine OWp.pickT rfl rfl rfl ?_
        refine OWp.nil ?_
        first | refine CWp.condP rfl (fun h3 => ?_) (fun h3 => ?_) | refine CWp.cond rfl (fun h3 => ?_) (fun h3 => ?_)
        · skip
          first | rw [decide_eq_true h3] | rw [decide_eq_false h3] | rw [h3] | skip
          refine CWp.skip ?_
          refine CWp.block ?_
          refine CWp.seq ?_
          refine CWp.region ?_
          refine OWp.move rfl rfl ?_
          refine OWp.move rfl rfl ?_
          refine OWp.move rfl rfl ?_
          refine OWp.indexS rfl rfl Tryd.underlying9 rfl rfl (by first | omega | (have := spaces_size (colAt s i - c).toNat; have := ext_le s (i : Int).toNat (s.size : Int).toNat; rw [hy]; omega)) (by first | omega | (have := spaces_size (colAt s i - c).toNat; have := ext_le s (i : Int).toNat (s.size : Int).toNat; rw [hy]; omega)) ?_
          refine OWp.call rfl rfl rfl rfl ?_
          refine step_spec _ _ (by omega) _ _ ?_
          refine OWp.norm ?_
          refine OWp.assign rfl rfl ?_
          refine OWp.nil ?_
          refine CWp.region ?_
          refine OWp.move rfl rfl ?_
          refine OWp.addI rfl rfl rfl rfl (by first | omega | (have := spaces_size (colAt s i - c).toNat; have := ext_le s (i : Int).toNat (s.size : Int).toNat; rw [hy]; omega)) ?_
          refine OWp.assign rfl rfl ?_
          refine OWp.nil ?_
          exact ⟨_, by omega, i + 1, ex_env rfl ⟨rfl, rfl, by omega, fun j a => by by_cases e : j = i; exact e ▸ ⟨hb.1 (by assumption), by omega⟩; exact hj j (by omega), by have := stepF_le (colAt s i) (byteAt s i) (by omega); show stepF _ _ ≤ _; omega⟩⟩
        · skip
          first | rw [decide_eq_true h3] | rw [decide_eq_false h3] | rw [h3] | skip
          refine CWp.exit ?_
          refine CWp.seq ?_
          refine CWp.region ?_
          refine OWp.assign rfl rfl ?_
          refine OWp.nil ?_
          refine CWp.seq ?_
          refine CWp.block ?_
          refine CWp.loop (fun k e H' => ∃ (c : Int) (y : ByteArray) (g : Nat → Value), e = [.string s, .int .i64 n, g 2, g 3, g 4, .int .i64 c, .int .i64 (i : Nat), .string y, g 8, g 9, g 10, g 11, g 12, g 13, g 14, g 15, g 16, g 17, g 18, g 19, g 20, g 21, g 22, g 23, g 24, g 25, g 26, g 27, g 28, g 29, g 30, g 31, g 32, g 33, g 34, g 35, g 36, g 37, g 38, g 39, g 40, g 41, g 42, g 43, g 44, g 45] ∧ k = (c - n).toNat ∧ H = H' ∧ y = spaces (colAt s i - c).toNat ∧ c ≤ colAt s i ∧ (n ≤ c ∨ c = colAt s i)) ?_ ?_
          · exact ⟨_, colAt s i, ⟨#[]⟩, ex_env rfl ⟨rfl, rfl, by rw [Int.sub_self]; rfl, by omega, by omega⟩⟩
          · rintro k e H' ⟨c, y, g, rfl, rfl, rfl, hy, hc1, hc2⟩
            refine CWp.seq ?_
            refine CWp.seq ?_
            refine CWp.region ?_
            refine OWp.move rfl rfl ?_
            refine OWp.move rfl rfl ?_
            refine OWp.binI rfl rfl rfl rfl rfl ?_
            refine OWp.move rfl rfl ?_
            first | refine OWp.byT rfl (fun hg5 => ?_) (fun hg5 => ?_) | refine OWp.byBT rfl (fun hg5 => ?_) (fun hg5 => ?_)
            · skip
              first | rw [decide_eq_true hg5] | rw [decide_eq_false hg5] | rw [hg5] | skip
              try simp only [Decidable.not_not] at hg5
              refine OWp.move rfl rfl ?_
              refine OWp.binI rfl rfl rfl rfl rfl ?_
              refine OWp.pickT rfl rfl rfl ?_
              refine OWp.nil ?_
              first | refine CWp.condP rfl (fun h6 => ?_) (fun h6 => ?_) | refine CWp.cond rfl (fun h6 => ?_) (fun h6 => ?_)
              · skip
                first | rw [decide_eq_true h6] | rw [decide_eq_false h6] | rw [h6] | skip
                refine CWp.skip ?_
                refine CWp.seq ?_
                refine CWp.block ?_
                refine CWp.region ?_
                refine OWp.move rfl rfl ?_
                refine OWp.catS rfl rfl rfl rfl (by first | omega | (have := spaces_size (colAt s i - c).toNat; have := ext_le s (i : Int).toNat (s.size : Int).toNat; rw [hy]; omega)) ?_
                refine OWp.assign rfl rfl ?_
                refine OWp.nil ?_
                refine CWp.region ?_
                refine OWp.move rfl rfl ?_
                refine OWp.subI rfl rfl rfl rfl (by first | omega | (have := spaces_size (colAt s i - c).toNat; have := ext_le s (i : Int).toNat (s.size : Int).toNat; rw [hy]; omega)) ?_
                refine OWp.assign rfl rfl ?_
                refine OWp.nil ?_
                exact ⟨_, by omega, c - 1, _, ex_env rfl ⟨rfl, rfl, by rw [hy, spaces_succ]; congr 1; omega, by omega, by omega⟩⟩
              · skip
                first | rw [decide_eq_true h6] | rw [decide_eq_false h6] | rw [h6] | skip
                refine CWp.exit ?_
                refine CWp.seq ?_
                refine CWp.region ?_
                refine OWp.move rfl rfl ?_
                refine OWp.move rfl rfl ?_
                refine OWp.move rfl rfl ?_
                refine OWp.sliceS rfl rfl Tryd.underlying9 rfl rfl rfl (by first | omega | (have := spaces_size (colAt s i - c).toNat; have := ext_le s (i : Int).toNat (s.size : Int).toNat; rw [hy]; omega)) (by first | omega | (have := spaces_size (colAt s i - c).toNat; have := ext_le s (i : Int).toNat (s.size : Int).toNat; rw [hy]; omega)) (by first | omega | (have := spaces_size (colAt s i - c).toNat; have := ext_le s (i : Int).toNat (s.size : Int).toNat; rw [hy]; omega)) ?_
                refine OWp.catS rfl rfl rfl rfl (by first | omega | (have := spaces_size (colAt s i - c).toNat; have := ext_le s (i : Int).toNat (s.size : Int).toNat; rw [hy]; omega)) ?_
                refine OWp.assign rfl rfl ?_
                refine OWp.nil ?_
                refine CWp.ret ?_
                refine RetQ.one (by first | exact .inl rfl | exact .inr rfl) rfl rfl ?_
                refine h _ ?_
                first | (exfalso; omega) | exact ⟨i, ⟨hi, hj, fun hlt => by first | omega | (right; omega) | (left; intro hg; have := hb.2 hg; simp_all)⟩, by rw [hy, show (colAt s i - c).toNat = (colAt s i - n).toNat by omega]; rfl⟩
            · skip
              first | rw [decide_eq_true hg5] | rw [decide_eq_false hg5] | rw [hg5] | skip
              try simp only [Decidable.not_not] at hg5
              refine OWp.leave rfl ?_
              refine OWp.leave rfl ?_
              refine OWp.pickF rfl rfl rfl ?_
              refine OWp.nil ?_
              refine CWp.condF rfl ?_
              refine CWp.exit ?_
              refine CWp.seq ?_
              refine CWp.region ?_
              refine OWp.move rfl rfl ?_
              refine OWp.move rfl rfl ?_
              refine OWp.move rfl rfl ?_
              refine OWp.sliceS rfl rfl Tryd.underlying9 rfl rfl rfl (by first | omega | (have := spaces_size (colAt s i - c).toNat; have := ext_le s (i : Int).toNat (s.size : Int).toNat; rw [hy]; omega)) (by first | omega | (have := spaces_size (colAt s i - c).toNat; have := ext_le s (i : Int).toNat (s.size : Int).toNat; rw [hy]; omega)) (by first | omega | (have := spaces_size (colAt s i - c).toNat; have := ext_le s (i : Int).toNat (s.size : Int).toNat; rw [hy]; omega)) ?_
              refine OWp.catS rfl rfl rfl rfl (by first | omega | (have := spaces_size (colAt s i - c).toNat; have := ext_le s (i : Int).toNat (s.size : Int).toNat; rw [hy]; omega)) ?_
              refine OWp.assign rfl rfl ?_
              refine OWp.nil ?_
              refine CWp.ret ?_
              refine RetQ.one (by first | exact .inl rfl | exact .inr rfl) rfl rfl ?_
              refine h _ ?_
              first | (exfalso; omega) | exact ⟨i, ⟨hi, hj, fun hlt => by first | omega | (right; omega) | (left; intro hg; have := hb.2 hg; simp_all)⟩, by rw [hy, show (colAt s i - c).toNat = (colAt s i - n).toNat by omega]; rfl⟩
      · skip
        first | rw [decide_eq_true hg2] | rw [decide_eq_false hg2] | rw [hg2] | skip
        try simp only [Decidable.not_not] at hg2
        refine OWp.leave rfl ?_
        refine OWp.leave rfl ?_
        refine OWp.leave rfl ?_
        refine OWp.pickF rfl rfl rfl ?_
        refine OWp.nil ?_
        refine CWp.condF rfl ?_
        refine CWp.exit ?_
        refine CWp.seq ?_
        refine CWp.region ?_
        refine OWp.assign rfl rfl ?_
        refine OWp.nil ?_
        refine CWp.seq ?_
        refine CWp.block ?_
        refine CWp.loop (fun k e H' => ∃ (c : Int) (y : ByteArray) (g : Nat → Value), e = [.string s, .int .i64 n, g 2, g 3, g 4, .int .i64 c, .int .i64 (i : Nat), .string y, g 8, g 9, g 10, g 11, g 12, g 13, g 14, g 15, g 16, g 17, g 18, g 19, g 20, g 21, g 22, g 23, g 24, g 25, g 26, g 27, g 28, g 29, g 30, g 31, g 32, g 33, g 34, g 35, g 36, g 37, g 38, g 39, g 40, g 41, g 42, g 43, g 44, g 45] ∧ k = (c - n).toNat ∧ H = H' ∧ y = spaces (colAt s i - c).toNat ∧ c ≤ colAt s i ∧ (n ≤ c ∨ c = colAt s i)) ?_ ?_
        · exact ⟨_, colAt s i, ⟨#[]⟩, ex_env rfl ⟨rfl, rfl, by rw [Int.sub_self]; rfl, by omega, by omega⟩⟩
        · rintro k e H' ⟨c, y, g, rfl, rfl, rfl, hy, hc1, hc2⟩
          refine CWp.seq ?_
          refine CWp.seq ?_
          refine CWp.region ?_
          refine OWp.move rfl rfl ?_
          refine OWp.move rfl rfl ?_
          refine OWp.binI rfl rfl rfl rfl rfl ?_
          refine OWp.move rfl rfl ?_
          first | refine OWp.byT rfl (fun hg4 => ?_) (fun hg4 => ?_) | refine OWp.byBT rfl (fun hg4 => ?_) (fun hg4 => ?_)
          · skip
            first | rw [decide_eq_true hg4] | rw [decide_eq_false hg4] | rw [hg4] | skip
            try simp only [Decidable.not_not] at hg4
            refine OWp.move rfl rfl ?_
            refine OWp.binI rfl rfl rfl rfl rfl ?_
            refine OWp.pickT rfl rfl rfl ?_
            refine OWp.nil ?_
            first | refine CWp.condP rfl (fun h5 => ?_) (fun h5 => ?_) | refine CWp.cond rfl (fun h5 => ?_) (fun h5 => ?_)
            · skip
              first | rw [decide_eq_true h5] | rw [decide_eq_false h5] | rw [h5] | skip
              refine CWp.skip ?_
              refine CWp.seq ?_
              refine CWp.block ?_
              refine CWp.region ?_
              refine OWp.move rfl rfl ?_
              refine OWp.catS rfl rfl rfl rfl (by first | omega | (have := spaces_size (colAt s i - c).toNat; have := ext_le s (i : Int).toNat (s.size : Int).toNat; rw [hy]; omega)) ?_
              refine OWp.assign rfl rfl ?_
              refine OWp.nil ?_
              refine CWp.region ?_
              refine OWp.move rfl rfl ?_
              refine OWp.subI rfl rfl rfl rfl (by first | omega | (have := spaces_size (colAt s i - c).toNat; have := ext_le s (i : Int).toNat (s.size : Int).toNat; rw [hy]; omega)) ?_
              refine OWp.assign rfl rfl ?_
              refine OWp.nil ?_
              exact ⟨_, by omega, c - 1, _, ex_env rfl ⟨rfl, rfl, by rw [hy, spaces_succ]; congr 1; omega, by omega, by omega⟩⟩
            · skip
              first | rw [decide_eq_true h5] | rw [decide_eq_false h5] | rw [h5] | skip
              refine CWp.exit ?_
              refine CWp.seq ?_
              refine CWp.region ?_
              refine OWp.move rfl rfl ?_
              refine OWp.move rfl rfl ?_
              refine OWp.move rfl rfl ?_
              refine OWp.sliceS rfl rfl Tryd.underlying9 rfl rfl rfl (by first | omega | (have := spaces_size (colAt s i - c).toNat; have := ext_le s (i : Int).toNat (s.size : Int).toNat; rw [hy]; omega)) (by first | omega | (have := spaces_size (colAt s i - c).toNat; have := ext_le s (i : Int).toNat (s.size : Int).toNat; rw [hy]; omega)) (by first | omega | (have := spaces_size (colAt s i - c).toNat; have := ext_le s (i : Int).toNat (s.size : Int).toNat; rw [hy]; omega)) ?_
              refine OWp.catS rfl rfl rfl rfl (by first | omega | (have := spaces_size (colAt s i - c).toNat; have := ext_le s (i : Int).toNat (s.size : Int).toNat; rw [hy]; omega)) ?_
              refine OWp.assign rfl rfl ?_
              refine OWp.nil ?_
              refine CWp.ret ?_
              refine RetQ.one (by first | exact .inl rfl | exact .inr rfl) rfl rfl ?_
              refine h _ ?_
              first | (exfalso; omega) | exact ⟨i, ⟨hi, hj, fun hlt => by first | omega | (right; omega) | (left; intro hg; have := hb.2 hg; simp_all)⟩, by rw [hy, show (colAt s i - c).toNat = (colAt s i - n).toNat by omega]; rfl⟩
          · skip
            first | rw [decide_eq_true hg4] | rw [decide_eq_false hg4] | rw [hg4] | skip
            try simp only [Decidable.not_not] at hg4
            refine OWp.leave rfl ?_
            refine OWp.leave rfl ?_
            refine OWp.pickF rfl rfl rfl ?_
            refine OWp.nil ?_
            refine CWp.condF rfl ?_
            refine CWp.exit ?_
            refine CWp.seq ?_
            refine CWp.region ?_
            refine OWp.move rfl rfl ?_
            refine OWp.move rfl rfl ?_
            refine OWp.move rfl rfl ?_
            refine OWp.sliceS rfl rfl Tryd.underlying9 rfl rfl rfl (by first | omega | (have := spaces_size (colAt s i - c).toNat; have := ext_le s (i : Int).toNat (s.size : Int).toNat; rw [hy]; omega)) (by first | omega | (have := spaces_size (colAt s i - c).toNat; have := ext_le s (i : Int).toNat (s.size : Int).toNat; rw [hy]; omega)) (by first | omega | (have := spaces_size (colAt s i - c).toNat; have := ext_le s (i : Int).toNat (s.size : Int).toNat; rw [hy]; omega)) ?_
            refine OWp.catS rfl rfl rfl rfl (by first | omega | (have := spaces_size (colAt s i - c).toNat; have := ext_le s (i : Int).toNat (s.size : Int).toNat; rw [hy]; omega)) ?_
            refine OWp.assign rfl rfl ?_
            refine OWp.nil ?_
            refine CWp.ret ?_
            refine RetQ.one (by first | exact .inl rfl | exact .inr rfl) rfl rfl ?_
            refine h _ ?_
            first | (exfalso; omega) | exact ⟨i, ⟨hi, hj, fun hlt => by first | omega | (right; omega) | (left; intro hg; have := hb.2 hg; simp_all)⟩, by rw [hy, show (colAt s i - c).toNat = (colAt s i - n).toNat by omega]; rfl⟩
    · skip
      first | rw [decide_eq_true hg1] | rw [decide_eq_false hg1] | rw [hg1] | skip
      try simp only [Decidable.not_not] at hg1
      refine OWp.leave rfl ?_
      refine OWp.leave rfl ?_
      refine OWp.leave rfl ?_
      refine OWp.leave rfl ?_
      refine OWp.pickF rfl rfl rfl ?_
      refine OWp.move rfl rfl ?_
      refine OWp.leave rfl ?_
      refine OWp.leave rfl ?_
      refine OWp.leave rfl ?_
      refine OWp.pickF rfl rfl rfl ?_
      refine OWp.nil ?_
      refine CWp.condF rfl ?_
      refine CWp.exit ?_
      refine CWp.seq ?_
      refine CWp.region ?_
      refine OWp.assign rfl rfl ?_
      refine OWp.nil ?_
      refine CWp.seq ?_
      refine CWp.block ?_
      refine CWp.loop (fun k e H' => ∃ (c : Int) (y : ByteArray) (g : Nat → Value), e = [.string s, .int .i64 n, g 2, g 3, g 4, .int .i64 c, .int .i64 (i : Nat), .string y, g 8, g 9, g 10, g 11, g 12, g 13, g 14, g 15, g 16, g 17, g 18, g 19, g 20, g 21, g 22, g 23, g 24, g 25, g 26, g 27, g 28, g 29, g 30, g 31, g 32, g 33, g 34, g 35, g 36, g 37, g 38, g 39, g 40, g 41, g 42, g 43, g 44, g 45] ∧ k = (c - n).toNat ∧ H = H' ∧ y = spaces (colAt s i - c).toNat ∧ c ≤ colAt s i ∧ (n ≤ c ∨ c = colAt s i)) ?_ ?_
      · exact ⟨_, colAt s i, ⟨#[]⟩, ex_env rfl ⟨rfl, rfl, by rw [Int.sub_self]; rfl, by omega, by omega⟩⟩
      · rintro k e H' ⟨c, y, g, rfl, rfl, rfl, hy, hc1, hc2⟩
        refine CWp.seq ?_
        refine CWp.seq ?_
        refine CWp.region ?_
        refine OWp.move rfl rfl ?_
        refine OWp.move rfl rfl ?_
        refine OWp.binI rfl rfl rfl rfl rfl ?_
        refine OWp.move rfl rfl ?_
        first | refine OWp.byT rfl (fun hg3 => ?_) (fun hg3 => ?_) | refine OWp.byBT rfl (fun hg3 => ?_) (fun hg3 => ?_)
        · skip
          first | rw [decide_eq_true hg3] | rw [decide_eq_false hg3] | rw [hg3] | skip
          try simp only [Decidable.not_not] at hg3
          refine OWp.move rfl rfl ?_
          refine OWp.binI rfl rfl rfl rfl rfl ?_
          refine OWp.pickT rfl rfl rfl ?_
          refine OWp.nil ?_
          first | refine CWp.condP rfl (fun h4 => ?_) (fun h4 => ?_) | refine CWp.cond rfl (fun h4 => ?_) (fun h4 => ?_)
          · skip
            first | rw [decide_eq_true h4] | rw [decide_eq_false h4] | rw [h4] | skip
            refine CWp.skip ?_
            refine CWp.seq ?_
            refine CWp.block ?_
            refine CWp.region ?_
            refine OWp.move rfl rfl ?_
            refine OWp.catS rfl rfl rfl rfl (by first | omega | (have := spaces_size (colAt s i - c).toNat; have := ext_le s (i : Int).toNat (s.size : Int).toNat; rw [hy]; omega)) ?_
            refine OWp.assign rfl rfl ?_
            refine OWp.nil ?_
            refine CWp.region ?_
            refine OWp.move rfl rfl ?_
            refine OWp.subI rfl rfl rfl rfl (by first | omega | (have := spaces_size (colAt s i - c).toNat; have := ext_le s (i : Int).toNat (s.size : Int).toNat; rw [hy]; omega)) ?_
            refine OWp.assign rfl rfl ?_
            refine OWp.nil ?_
            exact ⟨_, by omega, c - 1, _, ex_env rfl ⟨rfl, rfl, by rw [hy, spaces_succ]; congr 1; omega, by omega, by omega⟩⟩
          · skip
            first | rw [decide_eq_true h4] | rw [decide_eq_false h4] | rw [h4] | skip
            refine CWp.exit ?_
            refine CWp.seq ?_
            refine CWp.region ?_
            refine OWp.move rfl rfl ?_
            refine OWp.move rfl rfl ?_
            refine OWp.move rfl rfl ?_
            refine OWp.sliceS rfl rfl Tryd.underlying9 rfl rfl rfl (by first | omega | (have := spaces_size (colAt s i - c).toNat; have := ext_le s (i : Int).toNat (s.size : Int).toNat; rw [hy]; omega)) (by first | omega | (have := spaces_size (colAt s i - c).toNat; have := ext_le s (i : Int).toNat (s.size : Int).toNat; rw [hy]; omega)) (by first | omega | (have := spaces_size (colAt s i - c).toNat; have := ext_le s (i : Int).toNat (s.size : Int).toNat; rw [hy]; omega)) ?_
            refine OWp.catS rfl rfl rfl rfl (by first | omega | (have := spaces_size (colAt s i - c).toNat; have := ext_le s (i : Int).toNat (s.size : Int).toNat; rw [hy]; omega)) ?_
            refine OWp.assign rfl rfl ?_
            refine OWp.nil ?_
            refine CWp.ret ?_
            refine RetQ.one (by first | exact .inl rfl | exact .inr rfl) rfl rfl ?_
            refine h _ ?_
            first | (exfalso; omega) | exact ⟨i, ⟨hi, hj, fun hlt => by first | omega | (right; omega) | (left; intro hg; have := hb.2 hg; simp_all)⟩, by rw [hy, show (colAt s i - c).toNat = (colAt s i - n).toNat by omega]; rfl⟩
        · skip
          first | rw [decide_eq_true hg3] | rw [decide_eq_false hg3] | rw [hg3] | skip
          try simp only [Decidable.not_not] at hg3
          refine OWp.leave rfl ?_
          refine OWp.leave rfl ?_
          refine OWp.pickF rfl rfl rfl ?_
          refine OWp.nil ?_
          refine CWp.condF rfl ?_
          refine CWp.exit ?_
          refine CWp.seq ?_
          refine CWp.region ?_
          refine OWp.move rfl rfl ?_
          refine OWp.move rfl rfl ?_
          refine OWp.move rfl rfl ?_
          refine OWp.sliceS rfl rfl Tryd.underlying9 rfl rfl rfl (by first | omega | (have := spaces_size (colAt s i - c).toNat; have := ext_le s (i : Int).toNat (s.size : Int).toNat; rw [hy]; omega)) (by first | omega | (have := spaces_size (colAt s i - c).toNat; have := ext_le s (i : Int).toNat (s.size : Int).toNat; rw [hy]; omega)) (by first | omega | (have := spaces_size (colAt s i - c).toNat; have := ext_le s (i : Int).toNat (s.size : Int).toNat; rw [hy]; omega)) ?_
          refine OWp.catS rfl rfl rfl rfl (by first | omega | (have := spaces_size (colAt s i - c).toNat; have := ext_le s (i : Int).toNat (s.size : Int).toNat; rw [hy]; omega)) ?_
          refine OWp.assign rfl rfl ?_
          refine OWp.nil ?_
          refine CWp.ret ?_
          refine RetQ.one (by first | exact .inl rfl | exact .inr rfl) rfl rfl ?_
          refine h _ ?_
          first | (exfalso; omega) | exact ⟨i, ⟨hi, hj, fun hlt => by first | omega | (right; omega) | (left; intro hg; have := hb.2 hg; simp_all)⟩, by rw [hy, show (colAt s i - c).toNat = (colAt s i - n).toNat by omega]; rfl⟩

end Go.Proofs.YtpfhkjbnofgikaaDoor.Ev
