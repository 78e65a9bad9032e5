import Derived.Test.YtaelmnkddedddaaDoorEvR1h
namespace Go.Proofs.YtaelmnkddedddaaDoor.Ev
open Go
set_option linter.unusedVariables false
set_option linter.unusedSimpArgs false
theorem bytes_snoc {l : List Value} (h : Bytes l) (n : Int) : Bytes (l ++ [.int .u8 n]) := fun v hv => by
  rcases List.mem_append.1 hv with hv | hv
  · exact h v hv
  · simp only [List.mem_singleton] at hv; exact ⟨n, hv⟩
theorem bytes_nil : Bytes [] := fun v hv => nomatch hv

theorem numbers_spec  (H : AH) (Q : Value → AH → Prop) (h : ∀ H', Q (.bool true) H') (hw : WfH H) : FWp Tryd.prog prims 3 [] H Q := by
  have hE : elemT Tryd.prog 22 = some 5 := by kernel_rfl
  have hz0 : zeroT Tryd.prog 5 = some (.int .u8 0) := by kernel_rfl
  have hs1 : szT Tryd.prog 5 = 1 := by kernel_rfl
  have hb1 : bytesT Tryd.prog 5 = 1 := by kernel_rfl
  refine FWp.enter (rfl) Tryd.func3 rfl (e := [undef, undef, undef, undef, undef, undef, undef, undef, undef, undef, undef, undef, undef, undef, undef, undef, undef, undef, undef, undef, undef, undef, undef, undef, undef, undef, undef, undef, undef, undef, undef, undef, undef, undef, undef, undef, undef, undef, undef, undef, undef, undef]) rfl ?_
  refine CWp.seq ?_
  refine CWp.region ?_
  refine OWp.assign rfl rfl ?_
  refine OWp.nil ?_
  refine CWp.seq ?_
  refine CWp.seq ?_
  refine CWp.region ?_
  refine OWp.assign rfl rfl ?_
  refine OWp.nil ?_
  refine CWp.block ?_
  refine CWp.loop (fun k e H' => ∃ (n : Nat) (t0 t2 t3 t4 t5 t6 t7 t8 t9 t10 t11 t12 t13 t14 t15 t16 t17 t18 t19 t20 t21 t22 t23 t24 t25 t26 t27 t28 t29 t30 t31 t32 t33 t34 t35 t36 t37 t38 t39 t40 t41 : Value), e = [t0, .int .i64 (n : Nat), t2, t3, t4, t5, t6, t7, t8, t9, t10, t11, t12, t13, t14, t15, t16, t17, t18, t19, t20, t21, t22, t23, t24, t25, t26, t27, t28, t29, t30, t31, t32, t33, t34, t35, t36, t37, t38, t39, t40, t41] ∧ k = 4369 - n ∧ WfH H' ∧ Keeps H H' ∧ n ≤ 4369) ?_ ?_
  · exact ⟨_, 0, _, _, _, _, _, _, _, _, _, _, _, _, _, _, _, _, _, _, _, _, _, _, _, _, _, _, _, _, _, _, _, _, _, _, _, _, _, _, _, _, _, rfl, rfl, hw, Keeps.refl hw, by omega⟩
  · rintro k e H' ⟨n, t0, t2, t3, t4, t5, t6, t7, t8, t9, t10, t11, t12, t13, t14, t15, t16, t17, t18, t19, t20, t21, t22, t23, t24, t25, t26, t27, t28, t29, t30, t31, t32, t33, t34, t35, t36, t37, t38, t39, t40, t41, rfl, rfl, hw', hk', hn⟩
    refine CWp.seq ?_
    refine CWp.seq ?_
    refine CWp.region ?_
    refine OWp.move rfl rfl ?_
    refine OWp.binI rfl rfl rfl rfl rfl ?_
    refine OWp.nil ?_
    first | refine CWp.condP rfl (fun h1 => ?_) (fun h1 => ?_) | refine CWp.cond rfl (fun h1 => ?_) (fun h1 => ?_)
    · skip
      try simp only [h1, eq_self, decide_true, decide_false, not_true_eq_false, not_false_eq_true, Bool.not_true, Bool.not_false]
      refine CWp.skip ?_
      refine CWp.seq ?_
      refine CWp.block ?_
      refine CWp.seq ?_
      refine CWp.region ?_
      refine OWp.assign rfl rfl ?_
      refine OWp.nil ?_
      refine CWp.seq ?_
      refine CWp.seq ?_
      refine CWp.region ?_
      refine OWp.move rfl rfl ?_
      refine OWp.assign rfl rfl ?_
      refine OWp.nil ?_
      refine CWp.block ?_
      refine CWp.loop (fun k e H' => ∃ (v : Value) (m : Nat) (l : List Value) (t0 t4 t5 t6 t7 t8 t9 t10 t11 t12 t13 t14 t15 t16 t17 t18 t19 t20 t21 t22 t23 t24 t25 t26 t27 t28 t29 t30 t31 t32 t33 t34 t35 t36 t37 t38 t39 t40 t41 : Value), e = [t0, .int .i64 (n : Nat), v, .int .i64 (m : Nat), t4, t5, t6, t7, t8, t9, t10, t11, t12, t13, t14, t15, t16, t17, t18, t19, t20, t21, t22, t23, t24, t25, t26, t27, t28, t29, t30, t31, t32, t33, t34, t35, t36, t37, t38, t39, t40, t41] ∧ k = 1 + m ∧ WfH H' ∧ Keeps H H' ∧ Grow H.next H' v 5 l ∧ Bytes l ∧ l.length + m ≤ 4369) ?_ ?_
      · exact ⟨_, .slice none 0 0, n, [], _, _, _, _, _, _, _, _, _, _, _, _, _, _, _, _, _, _, _, _, _, _, _, _, _, _, _, _, _, _, _, _, _, _, _, _, _, _, _, rfl, rfl, hw', hk', .inl ⟨rfl, rfl⟩, bytes_nil, by simp only [List.length_nil]; omega⟩
      · rintro k e H' ⟨v, m, l, t0, t4, t5, t6, t7, t8, t9, t10, t11, t12, t13, t14, t15, t16, t17, t18, t19, t20, t21, t22, t23, t24, t25, t26, t27, t28, t29, t30, t31, t32, t33, t34, t35, t36, t37, t38, t39, t40, t41, rfl, rfl, hw', hk', hgr, hb, hlm⟩
        refine CWp.seq ?_
        refine CWp.seq ?_
        refine CWp.region ?_
        refine OWp.move rfl rfl ?_
        refine OWp.binI rfl rfl rfl rfl rfl ?_
        refine OWp.nil ?_
        first | refine CWp.condP rfl (fun h3 => ?_) (fun h3 => ?_) | refine CWp.cond rfl (fun h3 => ?_) (fun h3 => ?_)
        · skip
          try simp only [h3, eq_self, decide_true, decide_false, not_true_eq_false, not_false_eq_true, Bool.not_true, Bool.not_false]
          refine CWp.skip ?_
          refine CWp.seq ?_
          refine CWp.block ?_
          refine CWp.region ?_
          refine OWp.move rfl rfl ?_
          refine OWp.move rfl rfl ?_
          refine OWp.subI rfl rfl rfl rfl (by first | omega | (simp only [ByteArray.size_append, sz2, sz2', zB, zSL, zSBL]; omega)) ?_
          refine OWp.remI rfl rfl rfl rfl (by first | omega | (simp only [ByteArray.size_append, sz2, sz2', zB, zSL, zSBL]; omega)) ?_
          refine OWp.convI rfl rfl Tryd.underlying3 Tryd.underlying5 rfl (wrap_u8 (by omega)) ?_
          refine OWp.buildSl hw' rfl rfl rfl (t' := 5) (cells := #[.int .u8 (((m : Int) - 1) % 16)]) (by kernel_rfl) (fun H2 c2 hw2 hk2 hc2 ho2 => ?_)
          refine OWp.norm ?_
          refine OWp.append (B := H.next) hw2 (by have := hk'.next; have := hk2.next; omega) (hgr.keep hw' hk2) ho2.row rfl (by simp) rfl rfl rfl rfl rfl hE Tryd.underlying22 hz0 rfl hs1 (by omega) rfl rfl (by simp [hb1]; omega) (fun H3 v3 hg3 hgr3 => ?_)
          refine OWp.norm ?_
          refine OWp.assign rfl rfl ?_
          refine OWp.nil ?_
          refine CWp.region ?_
          refine OWp.move rfl rfl ?_
          refine OWp.subI rfl rfl rfl rfl (by first | omega | (simp only [ByteArray.size_append, sz2, sz2', zB, zSL, zSBL]; omega)) ?_
          have e16 : ((m : Int) - 1) / 16 = (((m - 1) / 16 : Nat) : Int) := by omega
          refine OWp.quoI rfl rfl rfl rfl (by omega) ?_
          rw [e16]
          refine OWp.assign rfl rfl ?_
          refine OWp.nil ?_
          exact ⟨_, by omega, v3, (m - 1) / 16, l ++ [.int .u8 (((m : Int) - 1) % 16)], _, _, _, _, _, _, _, _, _, _, _, _, _, _, _, _, _, _, _, _, _, _, _, _, _, _, _, _, _, _, _, _, _, _, _, _, _, _, _, rfl, rfl, hg3.wf, hg3.keeps H hw (hk'.trans hk2 hw) (Nat.le_refl _), hgr3, bytes_snoc hb _, by rw [List.length_append]; simp only [List.length_cons, List.length_nil]; omega⟩
        · skip
          try simp only [h3, eq_self, decide_true, decide_false, not_true_eq_false, not_false_eq_true, Bool.not_true, Bool.not_false]
          refine CWp.exit ?_
          refine CWp.seq ?_
          refine CWp.region ?_
          refine OWp.move rfl rfl ?_
          refine OWp.call rfl rfl rfl rfl ?_
          refine madeV_spec l hb _ _ _ ?_ (hgr.view.sees (Sees.refl)) (by omega) hw'
          intro Ha u1 hkHa hzu1
          have hwHa := hkHa.wf
          refine OWp.norm ?_
          refine OWp.call rfl rfl rfl rfl ?_
          refine same_spec _ (by first | omega | (simp only [ByteArray.size_append, sz2, sz2', zB, zSL, zSBL]; omega)) name_same _ _ ?_ hwHa
          intro Hb hkHb
          have hwHb := hkHb.wf
          refine OWp.norm ?_
          first | refine OWp.notD rfl rfl rfl ?_ | refine OWp.notB rfl rfl rfl ?_
          refine OWp.move rfl rfl ?_
          refine OWp.move rfl rfl ?_
          refine OWp.call rfl rfl rfl rfl ?_
          refine madeV_spec l hb _ _ _ ?_ (hgr.view.sees ((hkHa.trans hkHb hw').sees hw')) (by omega) hwHb
          intro Hc u2 hkHc hzu2
          have hwHc := hkHc.wf
          refine OWp.norm ?_
          refine OWp.catS rfl rfl rfl rfl (by first | omega | (simp only [ByteArray.size_append, sz2, sz2', zB, zSL, zSBL]; omega)) ?_
          refine OWp.catS rfl rfl rfl rfl (by first | omega | (simp only [ByteArray.size_append, sz2, sz2', zB, zSL, zSBL]; omega)) ?_
          refine OWp.call rfl rfl rfl rfl ?_
          refine same_spec _ (by first | omega | (simp only [ByteArray.size_append, sz2, sz2', zB, zSL, zSBL]; omega)) name_same _ _ ?_ hwHc
          intro Hd hkHd
          have hwHd := hkHd.wf
          refine OWp.norm ?_
          first | refine OWp.notD rfl rfl rfl ?_ | refine OWp.notB rfl rfl rfl ?_
          refine OWp.pickF rfl rfl rfl ?_
          refine OWp.move rfl rfl ?_
          refine OWp.move rfl rfl ?_
          refine OWp.call rfl rfl rfl rfl ?_
          refine madeV_spec l hb _ _ _ ?_ (hgr.view.sees ((hkHa.trans (hkHb.trans (hkHc.trans hkHd hwHb) hwHa) hw').sees hw')) (by omega) hwHd
          intro He u3 hkHe hzu3
          have hwHe := hkHe.wf
          refine OWp.norm ?_
          refine OWp.catS rfl rfl rfl rfl (by first | omega | (simp only [ByteArray.size_append, sz2, sz2', zB, zSL, zSBL]; omega)) ?_
          refine OWp.catS rfl rfl rfl rfl (by first | omega | (simp only [ByteArray.size_append, sz2, sz2', zB, zSL, zSBL]; omega)) ?_
          refine OWp.call rfl rfl rfl rfl ?_
          refine same_spec _ (by first | omega | (simp only [ByteArray.size_append, sz2, sz2', zB, zSL, zSBL]; omega)) name_same _ _ ?_ hwHe
          intro Hf hkHf
          have hwHf := hkHf.wf
          refine OWp.norm ?_
          first | refine OWp.notD rfl rfl rfl ?_ | refine OWp.notB rfl rfl rfl ?_
          refine OWp.pickF rfl rfl rfl ?_
          refine OWp.nil ?_
          refine CWp.condF rfl ?_
          refine CWp.skip ?_
          refine CWp.region ?_
          refine OWp.move rfl rfl ?_
          refine OWp.addI rfl rfl rfl rfl (by first | omega | (simp only [ByteArray.size_append, sz2, sz2', zB, zSL, zSBL]; omega)) ?_
          refine OWp.assign rfl rfl ?_
          refine OWp.nil ?_
          exact ⟨_, by omega, n + 1, _, _, _, _, _, _, _, _, _, _, _, _, _, _, _, _, _, _, _, _, _, _, _, _, _, _, _, _, _, _, _, _, _, _, _, _, _, _, _, _, _, rfl, rfl, hwHf, hk'.trans (hkHa.trans (hkHb.trans (hkHc.trans (hkHd.trans (hkHe.trans hkHf hwHd) hwHc) hwHb) hwHa) hw') hw, by omega⟩
    · skip
      try simp only [h1, eq_self, decide_true, decide_false, not_true_eq_false, not_false_eq_true, Bool.not_true, Bool.not_false]
      refine CWp.exit ?_
      refine CWp.seq ?_
      refine CWp.region ?_
      refine OWp.call rfl rfl rfl rfl ?_
      refine known_spec _ _ ?_
      refine OWp.norm ?_
      refine OWp.assign rfl rfl ?_
      refine OWp.nil ?_
      refine CWp.ret ?_
      refine RetQ.one (by first | exact .inl rfl | exact .inr rfl) rfl rfl ?_
      exact h _

end Go.Proofs.YtaelmnkddedddaaDoor.Ev
