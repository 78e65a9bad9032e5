import Derived.Test.YtaelmnkddedddaaDoorEvR1e
namespace Go.Proofs.YtaelmnkddedddaaDoor.Ev
open Go
set_option linter.unusedVariables false
set_option linter.unusedSimpArgs false
section
variable {P : Program} {prims : Prims} {ops : Array Oper} {o : Oper} {r : List Oper} {e e' : List Value} {H H1 : AH} {Q : List Value → AH → Prop}
theorem pr_map {α β : Type} (x : Sem α) (f : α → β) : pureRun P (f <$> x) = (pureRun P x).map f := by
  show pureRun P (x.bind fun a => Sem.pure (f a)) = _
  rw [show (x.bind fun a => Sem.pure (f a)) = (x >>= fun a => pure (f a)) from rfl, pr_bind]
  cases pureRun P x <;> rfl
theorem OWp.eqlB {t t' : TypeId} {x y : Operand} {a b : Bool} (hg : guardA ops o e = some true) (ho : o.op = .binOp .eql t x y t') (ht : P.underlying t = some .bool) (hx : rho e x = .bool a) (hy : rho e y = .bool b)
    (hk : OWp P prims ops r e' H Q) (he : putE e o.dst (.bool (decide (a = b))) = e' := by simp only [putE, rho, List.set_cons_zero, List.set_cons_succ, List.getD_cons_zero, List.getD_cons_succ]; exact rfl) : OWp P prims ops (o :: r) e H Q := by
  have hab : (a == b) = decide (a = b) := by cases a <;> cases b <;> rfl
  rw [← hab] at he
  refine OWp.step hg (fun call => ?_) he hk
  have heq : pureRun P (Op.equal t (.bool a) (.bool b)) = some (a == b) := by
    unfold Op.equal Op.maxDepth
    rw [Op.equalIn]
    simp only [pr_bind, pr_underlying ht, Option.bind_some, pr_pure]
  have hf : flatOp P o (rho e) = some (.bool (a == b)) := by
    refine flat_op (by rw [ho]; simp [Op.operands, hx, hy, flatB, flat2, flat1, atomB]) ?_ rfl
    unfold execOp
    rw [ho]
    simp only [hx, hy, eqGuard, Go.binOp]
    simp [pr_bind, pr_pure, pr_map, heq]
  unfold evOp
  simp only [ho, hx, eqA_bool, hf, Option.map_some]
end
theorem ref_pair (hn : ∀ t : ByteArray, NameA t ↔ NameR t) (s : ByteArray) (i : Nat) (hi : GapEnd s i) : (RefA (trimL s) ↔ RefR (s.extract i s.size)) ∧ headA s = s.extract 0 i ∧ (RefA (trimL s) → midA (trimL s) = midR (s.extract i s.size)) := by
  have h1 := trimL_gap s i hi
  have hz : (s.extract i s.size).size = s.size - i := by rw [ByteArray.size_extract]; omega
  refine ⟨by rw [h1]; exact ref_same hn _, ?_, fun h => ?_⟩
  · unfold headA
    rw [h1, hz, show ((s.size : Int) - (s.size - i : Nat)).toNat = i by have := hi.1; omega]
  · rw [h1] at h ⊢
    have := ((ref_same hn _).1 h).lo
    unfold midA midR
    generalize s.extract i s.size = t at this
    have hz2 : (t.extract 2 t.size).size = t.size - 2 := by rw [ByteArray.size_extract]; omega
    rw [hz2, ByteArray.extract_extract, show 2 + 0 = 2 from rfl, show min (2 + (t.size - 2 - 2)) t.size = t.size - 2 by omega]
theorem ref_gap0 (u : ByteArray) (h : RefR u) : GapEnd u 0 := by
  refine ⟨Nat.zero_le _, fun j hj => absurd hj (Nat.not_lt_zero _), fun _ hg => ?_⟩
  have h1 : byteAt (u.extract 0 2) 0 = 60 := by rw [h.pre]; rfl
  have h2 : byteAt (u.extract 0 2) 0 = byteAt u 0 := by
    have := h.lo
    have hz : u.size = u.data.size := rfl
    simp only [byteAt, ByteArray.data_extract]
    have e0 : (u.data.extract 0 2)[(0 : Int).toNat]? = u.data[(0 : Int).toNat]? := by
      show (u.data.extract 0 2)[0]? = u.data[0]?
      rw [Array.getElem?_extract, if_pos (by omega)]
    rw [e0]
  rw [← show ((0 : Nat) : Int) = 0 from rfl] at h1 h2
  rw [← h2, h1] at hg
  unfold gapB at hg
  omega
theorem tail_same (s : ByteArray) (i n : Nat) (hi : GapEnd s i) (hr : RunEnd s i 92 n) : trimL s = s.extract i s.size ∧ trimC (trimL s) ⟨#[92]⟩ = s.extract (i + n) s.size ∧ headA s = s.extract 0 i ∧ (trimL s).extract 1 (trimL s).size = s.extract (i + 1) s.size ∧ ((trimC (trimL s) ⟨#[92]⟩).size < (trimL s).size ↔ 0 < n) := by
  have h1 := trimL_gap s i hi
  have h0 := hi.1
  have hn := hr.1
  have hz : (s.extract i s.size).size = s.size - i := by rw [ByteArray.size_extract]; omega
  refine ⟨h1, by rw [h1]; exact trim_run s i n h0 hr, ?_, ?_, ?_⟩
  · unfold headA
    rw [h1, hz, show ((s.size : Int) - (s.size - i : Nat)).toNat = i by omega]
  · rw [h1, hz, ByteArray.extract_extract, show min (i + (s.size - i)) s.size = s.size by omega]
  · rw [h1, trim_run s i n h0 hr, hz, ByteArray.size_extract]
    omega
theorem out_same (hn : ∀ t : ByteArray, NameA t ↔ NameR t) (s x y : ByteArray) (i n : Nat) (hi : GapEnd s i) (hr : RunEnd s i 92 n)
    (d1 : RefA (trimC (trimL s) ⟨#[92]⟩) ∧ (trimC (trimL s) ⟨#[92]⟩).size < (trimL s).size → x = headA s ++ (trimL s).extract 1 (trimL s).size) (d2 : ¬ (RefA (trimC (trimL s) ⟨#[92]⟩) ∧ (trimC (trimL s) ⟨#[92]⟩).size < (trimL s).size) → x = s)
    (d3 : (RefR (s.extract (i + n) s.size) ∧ GapEnd (s.extract (i + n) s.size) 0) ∧ 0 < n → y = s.extract 0 i ++ s.extract (i + 1) s.size) (d4 : ¬ ((RefR (s.extract (i + n) s.size) ∧ GapEnd (s.extract (i + n) s.size) 0) ∧ 0 < n) → y = s) : x = y := by
  obtain ⟨t1, t2, t3, t4, t5⟩ := tail_same s i n hi hr
  have hiff : (RefA (trimC (trimL s) ⟨#[92]⟩) ∧ (trimC (trimL s) ⟨#[92]⟩).size < (trimL s).size) ↔ ((RefR (s.extract (i + n) s.size) ∧ GapEnd (s.extract (i + n) s.size) 0) ∧ 0 < n) := by
    rw [t5, t2, ref_same hn]
    exact ⟨fun h => ⟨⟨h.1, ref_gap0 _ h.1⟩, h.2⟩, fun h => ⟨h.1.1, h.2⟩⟩
  by_cases h : RefA (trimC (trimL s) ⟨#[92]⟩) ∧ (trimC (trimL s) ⟨#[92]⟩).size < (trimL s).size
  · rw [d1 h, d3 (hiff.1 h), t3, t4]
  · rw [d2 h, d4 fun k => h (hiff.2 k)]
theorem in_same (hn : ∀ t : ByteArray, NameA t ↔ NameR t) (s x y : ByteArray) (i n : Nat) (hi : GapEnd s i) (hr : RunEnd s i 92 n)
    (d1 : RefA (trimC (trimL s) ⟨#[92]⟩) → x = headA s ++ ⟨#[92]⟩ ++ trimL s) (d2 : ¬ RefA (trimC (trimL s) ⟨#[92]⟩) → x = s)
    (d3 : RefR (s.extract (i + n) s.size) ∧ GapEnd (s.extract (i + n) s.size) 0 → y = s.extract 0 i ++ ⟨#[92]⟩ ++ s.extract i s.size) (d4 : ¬ (RefR (s.extract (i + n) s.size) ∧ GapEnd (s.extract (i + n) s.size) 0) → y = s) : x = y := by
  obtain ⟨t1, t2, t3, t4, t5⟩ := tail_same s i n hi hr
  have hiff : RefA (trimC (trimL s) ⟨#[92]⟩) ↔ (RefR (s.extract (i + n) s.size) ∧ GapEnd (s.extract (i + n) s.size) 0) := by
    rw [t2, ref_same hn]
    exact ⟨fun h => ⟨h, ref_gap0 _ h⟩, fun h => h.1⟩
  by_cases h : RefA (trimC (trimL s) ⟨#[92]⟩)
  · rw [d1 h, d3 (hiff.1 h), t3, t1]
  · rw [d2 h, d4 fun k => h (hiff.2 k)]

theorem same_spec (s : ByteArray) (hs : s.size ≤ 9000000) (hn : ∀ t : ByteArray, NameA t ↔ NameR t) (H : AH) (Q : Value → AH → Prop) (h : ∀ H', Keeps H H' → Q (.bool true) H') (hw : WfH H) : FWp Tryd.prog prims 7 [.string s] H Q := by
  refine FWp.enter (rfl) Tryd.func7 rfl (e := [.string s, undef, undef, undef, undef, undef, undef, undef, undef, undef, undef, undef, undef, undef, undef, undef, undef, undef, undef, undef, undef, undef, undef, undef, undef, undef, undef, undef, undef, undef, undef, undef, undef, undef, undef, undef, undef, undef, undef, undef, undef, undef, undef, undef, undef, undef, undef, undef]) rfl ?_
  refine CWp.seq ?_
  refine CWp.region ?_
  refine OWp.assign rfl rfl ?_
  refine OWp.nil ?_
  refine CWp.seq ?_
  refine CWp.region ?_
  refine OWp.move rfl rfl ?_
  refine OWp.call rfl rfl rfl rfl ?_
  refine line_spec s hs _ _ ?_ hw
  intro Ha x1 y1 b1 hka a1 a2 a3
  have hwa := hka.wf
  refine OWp.norm ?_
  refine OWp.move rfl rfl ?_
  refine OWp.extract rfl rfl rfl rfl ?_
  refine OWp.extract rfl rfl rfl rfl ?_
  refine OWp.extract rfl rfl rfl rfl ?_
  refine OWp.assign rfl rfl ?_
  refine OWp.assign rfl rfl ?_
  refine OWp.assign rfl rfl ?_
  refine OWp.nil ?_
  refine CWp.seq ?_
  refine CWp.region ?_
  refine OWp.move rfl rfl ?_
  refine OWp.call rfl rfl rfl rfl ?_
  refine ref14_spec s hs _ _ ?_ hwa
  intro Hb i x2 y2 b2 hkb hi c1 c2 c3
  have hwb := hkb.wf
  have hp := ref_pair hn s i hi
  have hb12 : b1 = b2 := by rw [Bool.eq_iff_iff, a1, c1]; exact hp.1
  have hx12 : x1 = x2 ∧ y1 = y2 := by
      cases hbb : b1 with
      | true => have hb2 := hb12 ▸ hbb; exact ⟨by rw [(a2 hbb).1, (c2 hb2).1, hp.2.1], by rw [(a2 hbb).2, (c2 hb2).2, hp.2.2 (a1.1 hbb)]⟩
      | false => have hb2 := hb12 ▸ hbb; exact ⟨by rw [(a3 hbb).1, (c3 hb2).1], by rw [(a3 hbb).2, (c3 hb2).2]⟩
  refine OWp.norm ?_
  refine OWp.move rfl rfl ?_
  refine OWp.extract rfl rfl rfl rfl ?_
  refine OWp.extract rfl rfl rfl rfl ?_
  refine OWp.extract rfl rfl rfl rfl ?_
  refine OWp.assign rfl rfl ?_
  refine OWp.assign rfl rfl ?_
  refine OWp.assign rfl rfl ?_
  refine OWp.nil ?_
  refine CWp.seq ?_
  refine CWp.region ?_
  refine OWp.move rfl rfl ?_
  refine OWp.move rfl rfl ?_
  refine OWp.binS rfl rfl rfl rfl rfl ?_
  refine OWp.move rfl rfl ?_
  first | refine OWp.byT rfl (fun hg0 => ?_) (fun hg0 => ?_) | refine OWp.byBT rfl (fun hg0 => ?_) (fun hg0 => ?_)
  · skip
    try simp only [Decidable.not_not] at hg0
    try simp only [hg0, eq_self, decide_true, decide_false, not_true_eq_false, not_false_eq_true, Bool.not_true, Bool.not_false]
    refine OWp.move rfl rfl ?_
    refine OWp.move rfl rfl ?_
    refine OWp.binS rfl rfl rfl rfl rfl ?_
    refine OWp.pickT rfl rfl rfl ?_
    refine OWp.move rfl rfl ?_
    first | refine OWp.byT rfl (fun hg1 => ?_) (fun hg1 => ?_) | refine OWp.byBT rfl (fun hg1 => ?_) (fun hg1 => ?_)
    · skip
      try simp only [Decidable.not_not] at hg1
      try simp only [hg1, eq_self, decide_true, decide_false, not_true_eq_false, not_false_eq_true, Bool.not_true, Bool.not_false]
      refine OWp.move rfl rfl ?_
      refine OWp.move rfl rfl ?_
      refine OWp.eqlB rfl rfl Tryd.underlying4 rfl rfl ?_
      refine OWp.pickT rfl rfl rfl ?_
      refine OWp.move rfl rfl ?_
      first | refine OWp.byT rfl (fun hg2 => ?_) (fun hg2 => ?_) | refine OWp.byBT rfl (fun hg2 => ?_) (fun hg2 => ?_)
      · skip
        try simp only [Decidable.not_not] at hg2
        try simp only [hg2, eq_self, decide_true, decide_false, not_true_eq_false, not_false_eq_true, Bool.not_true, Bool.not_false]
        refine OWp.move rfl rfl ?_
        refine OWp.call rfl rfl rfl rfl ?_
        refine out_spec s hs _ _ ?_ hwb
        intro Hc x3 hkc d1 d2
        have hwc := hkc.wf
        refine OWp.norm ?_
        refine OWp.move rfl rfl ?_
        refine OWp.call rfl rfl rfl rfl ?_
        refine out14_spec s hs _ _ ?_ hwc
        intro Hd i2 n2 x4 hkd hi2 hn2 d3 d4
        have hwd := hkd.wf
        refine OWp.norm ?_
        refine OWp.binS rfl rfl rfl rfl rfl ?_
        refine OWp.pickT rfl rfl rfl ?_
        refine OWp.move rfl rfl ?_
        first | refine OWp.byT rfl (fun hg3 => ?_) (fun hg3 => ?_) | refine OWp.byBT rfl (fun hg3 => ?_) (fun hg3 => ?_)
        · skip
          try simp only [Decidable.not_not] at hg3
          try simp only [hg3, eq_self, decide_true, decide_false, not_true_eq_false, not_false_eq_true, Bool.not_true, Bool.not_false]
          refine OWp.move rfl rfl ?_
          refine OWp.call rfl rfl rfl rfl ?_
          refine inn_spec s hs _ _ ?_ hwd
          intro He x5 hke d5 d6
          have hwe := hke.wf
          refine OWp.norm ?_
          refine OWp.move rfl rfl ?_
          refine OWp.call rfl rfl rfl rfl ?_
          refine in14_spec s hs _ _ ?_ hwe
          intro Hf i3 n3 x6 hkf hi3 hn3 d7 d8
          refine OWp.norm ?_
          refine OWp.binS rfl rfl rfl rfl rfl ?_
          refine OWp.pickT rfl rfl rfl ?_
          refine OWp.assign rfl rfl ?_
          refine OWp.nil ?_
          refine CWp.ret ?_
          refine RetQ.one (by first | exact .inl rfl | exact .inr rfl) rfl rfl ?_
          have hxx := in_same hn s x5 x6 i3 n3 hi3 hn3 d5 d6 d7 d8
          exact Q_bool (h _ (hka.trans (hkb.trans (hkc.trans (hkd.trans (hke.trans hkf hwd) hwc) hwb) hwa) hw)) (by simp [hxx])
        · skip
          exact absurd (out_same hn s x3 x4 i2 n2 hi2 hn2 d1 d2 d3 d4) hg3
      · skip
        exact absurd hb12 hg2
    · skip
      exact absurd hx12.2 hg1
  · skip
    exact absurd hx12.1 hg0

end Go.Proofs.YtaelmnkddedddaaDoor.Ev
