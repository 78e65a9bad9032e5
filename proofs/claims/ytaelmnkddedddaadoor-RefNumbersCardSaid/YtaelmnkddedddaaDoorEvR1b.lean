import Derived.Test.YtaelmnkddedddaaDoorEvR1
namespace Go.Proofs.YtaelmnkddedddaaDoor.Ev
open Go
set_option linter.unusedVariables false
set_option linter.unusedSimpArgs false
def goodA (r : Nat) : Prop := 32 ≤ r ∧ ¬ (0 ≤ Lib.indexByte [60, 62, 91, 93, 35, 34, 92] ((if (255 : Int) < (r : Int) then 255 else (r : Int)).toNat.toUInt8))
theorem mem_runes (s : ByteArray) (pos : Nat) (l : List Nat) (hl : l ++ runesF s (s.size - pos) pos = runes s) (h : pos < s.size) : (Utf8.decode s pos).1 ∈ runes s := by
  rw [← hl, runesF_step s pos h]
  simp
/-- What the program asks of a name. -/
structure NameA (s : ByteArray) : Prop where
  lo : 1 ≤ s.size
  hi : s.size ≤ 60
  valid : Lib.validD s.data.toList = true
  all : ∀ r, r ∈ runes s → goodA r
  first : blankB ((Utf8.decode s 0).1 : Nat) = false
  last : blankB ((Lib.decodeLastL s.data.toList).1 : Nat) = false

theorem last_spec (s : ByteArray) (hs : s.size ≤ 9000000) (H : AH) (Q : Value → AH → Prop) (h : Q (.tuple #[.int .i32 (if s = ⟨#[]⟩ then 0 else (Lib.decodeLastL s.data.toList).1 : Nat), .bool (decide (¬ s = ⟨#[]⟩))]) H) : FWp Tryd.prog prims 41 [.string s] H Q := by
  refine FWp.enter (rfl) Tryd.func41 rfl (e := [.string s, undef, undef, undef, undef, undef, undef, undef, undef, undef, undef, undef, undef, undef]) rfl ?_
  refine CWp.seq ?_
  refine CWp.region ?_
  refine OWp.assign rfl rfl ?_
  refine OWp.assign rfl rfl ?_
  refine OWp.nil ?_
  refine CWp.seq ?_
  refine CWp.seq ?_
  refine CWp.region ?_
  refine OWp.move rfl rfl ?_
  refine OWp.binS rfl rfl rfl rfl rfl ?_
  refine OWp.nil ?_
  first | refine CWp.condP rfl (fun h0 => ?_) (fun h0 => ?_) | refine CWp.cond rfl (fun h0 => ?_) (fun h0 => ?_)
  · skip
    try simp only [h0, eq_self, decide_true, decide_false, not_true_eq_false, not_false_eq_true, Bool.not_true, Bool.not_false]
    refine CWp.seq ?_
    refine CWp.region ?_
    refine OWp.assign rfl rfl ?_
    refine OWp.assign rfl rfl ?_
    refine OWp.nil ?_
    refine CWp.ret ?_
    refine RetQ.two (by first | exact .inl rfl | exact .inr rfl) rfl rfl rfl rfl rfl ?_
    simp only [if_pos h0, h0, not_true_eq_false, decide_false] at h
    exact h
  · skip
    try simp only [h0, eq_self, decide_true, decide_false, not_true_eq_false, not_false_eq_true, Bool.not_true, Bool.not_false]
    refine CWp.skip ?_
    refine CWp.seq ?_
    refine CWp.region ?_
    refine OWp.move rfl rfl ?_
    refine OWp.call rfl rfl rfl rfl ?_
    refine FWp.prim (g := primLast) rfl (show primLast [.string s] H = some (.tuple #[.int .i32 (Lib.decodeLastL s.data.toList).1, .int .i64 (Lib.decodeLastL s.data.toList).2], H) by simp only [primLast]; rw [if_pos (by omega)]) ?_
    refine OWp.norm ?_
    refine OWp.move rfl rfl ?_
    refine OWp.extract rfl rfl rfl rfl ?_
    refine OWp.extract rfl rfl rfl rfl ?_
    refine OWp.assign rfl rfl ?_
    refine OWp.assign rfl rfl ?_
    refine OWp.nil ?_
    refine CWp.seq ?_
    refine CWp.region ?_
    refine OWp.move rfl rfl ?_
    refine OWp.assign rfl rfl ?_
    refine OWp.assign rfl rfl ?_
    refine OWp.nil ?_
    refine CWp.ret ?_
    refine RetQ.two (by first | exact .inl rfl | exact .inr rfl) rfl rfl rfl rfl rfl ?_
    simp only [if_neg h0, h0, not_false_eq_true, decide_true] at h
    exact h

theorem nameA_spec (s : ByteArray) (hs : s.size ≤ 9000000) (H : AH) (Q : Value → AH → Prop) (h : ∀ H' b, Keeps H H' → (b = true ↔ NameA s) → Q (.bool b) H') (hw : WfH H) : FWp Tryd.prog prims 28 [.string s] H Q := by
  refine FWp.enter (rfl) Tryd.func28 rfl (e := [.string s, undef, undef, undef, undef, undef, undef, undef, undef, undef, undef, undef, undef, undef, undef, undef, undef, undef, undef, undef, undef, undef, undef, undef, undef, undef, undef, undef, undef, undef, undef, undef, undef, undef, undef, undef, undef, undef, undef, undef, undef, undef, undef, undef, undef, undef, undef, undef, undef, undef, undef, undef, undef, undef]) rfl ?_
  refine CWp.seq ?_
  refine CWp.region ?_
  refine OWp.assign rfl rfl ?_
  refine OWp.nil ?_
  refine CWp.seq ?_
  refine CWp.seq ?_
  refine CWp.region ?_
  refine OWp.move rfl rfl ?_
  refine OWp.lenS rfl rfl rfl rfl rfl Tryd.underlying9 rfl ?_
  refine OWp.binI rfl rfl rfl rfl rfl ?_
  refine OWp.move rfl rfl ?_
  first | refine OWp.byF rfl (fun hg0 => ?_) (fun hg0 => ?_) | refine OWp.byBF rfl (fun hg0 => ?_) (fun hg0 => ?_)
  · skip
    try simp only [Decidable.not_not] at hg0
    try simp only [hg0, eq_self, decide_true, decide_false, not_true_eq_false, not_false_eq_true, Bool.not_true, Bool.not_false]
    refine OWp.move rfl rfl ?_
    refine OWp.lenS rfl rfl rfl rfl rfl Tryd.underlying9 rfl ?_
    refine OWp.binI rfl rfl rfl rfl rfl ?_
    refine OWp.pickF rfl rfl rfl ?_
    refine OWp.move rfl rfl ?_
    first | refine OWp.byF rfl (fun hg1 => ?_) (fun hg1 => ?_) | refine OWp.byBF rfl (fun hg1 => ?_) (fun hg1 => ?_)
    · skip
      try simp only [Decidable.not_not] at hg1
      try simp only [hg1, eq_self, decide_true, decide_false, not_true_eq_false, not_false_eq_true, Bool.not_true, Bool.not_false]
      refine OWp.move rfl rfl ?_
      refine OWp.call rfl rfl rfl rfl ?_
      refine FWp.prim (g := primValid) rfl (show primValid [.string s] H = some (.bool (Lib.validD s.data.toList), H) by simp only [primValid]; rw [if_pos (by omega)]) ?_
      generalize hval : Lib.validD s.data.toList = bv
      refine OWp.norm ?_
      first | refine OWp.notD rfl rfl rfl ?_ | refine OWp.notB rfl rfl rfl ?_
      refine OWp.pickF rfl rfl rfl ?_
      refine OWp.nil ?_
      first | refine CWp.condP rfl (fun h2 => ?_) (fun h2 => ?_) | refine CWp.cond rfl (fun h2 => ?_) (fun h2 => ?_)
      · skip
        try simp only [h2, eq_self, decide_true, decide_false, not_true_eq_false, not_false_eq_true, Bool.not_true, Bool.not_false]
        refine CWp.seq ?_
        refine CWp.region ?_
        refine OWp.assign rfl rfl ?_
        refine OWp.nil ?_
        refine CWp.ret ?_
        refine RetQ.one (by first | exact .inl rfl | exact .inr rfl) rfl rfl ?_
        exact h _ false (Keeps.refl hw) ⟨fun e => (by cases e), fun hN => by have := hN.valid; rw [hval] at this; rw [this] at h2; cases h2⟩
      · skip
        try simp only [h2, eq_self, decide_true, decide_false, not_true_eq_false, not_false_eq_true, Bool.not_true, Bool.not_false]
        refine CWp.skip ?_
        refine CWp.seq ?_
        refine CWp.seq ?_
        refine CWp.region ?_
        refine OWp.move rfl rfl ?_
        refine OWp.rangeS hw rfl rfl Tryd.underlying9 rfl (fun H1 i hw1 hk1 hi1 ho1 => ?_)
        refine OWp.norm ?_
        refine OWp.nil ?_
        refine CWp.block ?_
        refine CWp.loop (fun k e H' => ∃ (i pos : Nat) (l : List Nat) (t1 t2 t3 t4 t5 t6 t7 t8 t9 t10 t11 t12 t13 t14 t15 t16 t17 t18 t19 t20 t21 t22 t24 t25 t26 t27 t28 t29 t30 t31 t32 t33 t34 t35 t36 t37 t38 t39 t40 t41 t42 t43 t44 t45 t46 t47 t48 t49 t50 t51 t52 t53 : Value), e = [.string s, t1, t2, t3, t4, t5, t6, t7, t8, t9, t10, t11, t12, t13, t14, t15, t16, t17, t18, t19, t20, t21, t22, .pointer (some ⟨i, 0, none⟩), t24, t25, t26, t27, t28, t29, t30, t31, t32, t33, t34, t35, t36, t37, t38, t39, t40, t41, t42, t43, t44, t45, t46, t47, t48, t49, t50, t51, t52, t53] ∧ k = s.size - pos ∧ WfH H' ∧ Keeps H H' ∧ H.next ≤ i ∧ Own H' i (.stringIter s pos) true ∧ l ++ runesF s (s.size - pos) pos = runes s ∧ ∀ r, r ∈ l → goodA r) ?_ ?_
        · exact ⟨_, i, 0, [], _, _, _, _, _, _, _, _, _, _, _, _, _, _, _, _, _, _, _, _, _, _, _, _, _, _, _, _, _, _, _, _, _, _, _, _, _, _, _, _, _, _, _, _, _, _, _, _, _, _, _, _, rfl, rfl, hw1, hk1, hi1, ho1, rfl, by simp⟩
        · rintro k e H' ⟨i, pos, l, t1, t2, t3, t4, t5, t6, t7, t8, t9, t10, t11, t12, t13, t14, t15, t16, t17, t18, t19, t20, t21, t22, t24, t25, t26, t27, t28, t29, t30, t31, t32, t33, t34, t35, t36, t37, t38, t39, t40, t41, t42, t43, t44, t45, t46, t47, t48, t49, t50, t51, t52, t53, rfl, rfl, hw', hk', hi', hit, hl, hall⟩
          refine CWp.seq ?_
          refine CWp.region ?_
          refine OWp.nextS hw' hit rfl rfl rfl (fun hlt H1 hw1 hk1 hot hit1 hse1 hnx => ?_) (fun hge => ?_)
          · refine OWp.norm ?_
            have hwid := Lib.decode_width_pos s pos hlt
            refine OWp.extract rfl rfl rfl rfl ?_
            refine OWp.nil ?_
            refine CWp.seq ?_
            refine CWp.condT rfl ?_
            refine CWp.skip ?_
            refine CWp.block ?_
            refine CWp.seq ?_
            refine CWp.region ?_
            refine OWp.extract rfl rfl rfl rfl ?_
            refine OWp.assign rfl rfl ?_
            refine OWp.nil ?_
            refine CWp.seq ?_
            refine CWp.region ?_
            refine OWp.move rfl rfl ?_
            refine OWp.binI rfl rfl rfl rfl rfl ?_
            refine OWp.move rfl rfl ?_
            first | refine OWp.byF rfl (fun hg5 => ?_) (fun hg5 => ?_) | refine OWp.byBF rfl (fun hg5 => ?_) (fun hg5 => ?_)
            · skip
              try simp only [Decidable.not_not] at hg5
              try simp only [hg5, eq_self, decide_true, decide_false, not_true_eq_false, not_false_eq_true, Bool.not_true, Bool.not_false]
              refine OWp.move rfl rfl ?_
              refine OWp.minI rfl rfl rfl rfl rfl rfl ?_
              refine OWp.convI rfl rfl Tryd.underlying21 Tryd.underlying5 rfl (wrap_u8 (by split <;> omega)) ?_
              refine OWp.call rfl rfl rfl rfl ?_
              refine FWp.prim (g := primIndexByte) rfl rfl ?_
              refine OWp.norm ?_
              refine OWp.binI rfl rfl rfl rfl rfl ?_
              refine OWp.pickF rfl rfl rfl ?_
              refine OWp.nil ?_
              first | refine CWp.condP rfl (fun h6 => ?_) (fun h6 => ?_) | refine CWp.cond rfl (fun h6 => ?_) (fun h6 => ?_)
              · skip
                try simp only [h6, eq_self, decide_true, decide_false, not_true_eq_false, not_false_eq_true, Bool.not_true, Bool.not_false]
                refine CWp.seq ?_
                refine CWp.region ?_
                refine OWp.assign rfl rfl ?_
                refine OWp.nil ?_
                refine CWp.ret ?_
                refine RetQ.one (by first | exact .inl rfl | exact .inr rfl) rfl rfl ?_
                exact h _ false (hk1 H hw hk' hi') ⟨fun e => (by cases e), fun hN => False.elim ((hN.all _ (mem_runes s pos l hl hlt)).2 (by assumption))⟩
              · skip
                try simp only [h6, eq_self, decide_true, decide_false, not_true_eq_false, not_false_eq_true, Bool.not_true, Bool.not_false]
                refine CWp.skip ?_
                exact ⟨_, by omega, i, pos + (Utf8.decode s pos).2, l ++ [(Utf8.decode s pos).1], _, _, _, _, _, _, _, _, _, _, _, _, _, _, _, _, _, _, _, _, _, _, _, _, _, _, _, _, _, _, _, _, _, _, _, _, _, _, _, _, _, _, _, _, _, _, _, _, _, _, _, _, rfl, rfl, hw1, hk1 H hw hk' hi', hi', hit1, by rw [List.append_assoc, ← hl, runesF_step s pos hlt]; rfl, by intro r hr; rcases List.mem_append.1 hr with hr | hr; exact hall r hr; simp at hr; subst hr; exact ⟨by omega, by assumption⟩⟩
            · skip
              try simp only [Decidable.not_not] at hg5
              try simp only [hg5, eq_self, decide_true, decide_false, not_true_eq_false, not_false_eq_true, Bool.not_true, Bool.not_false]
              refine OWp.leave rfl ?_
              refine OWp.leave rfl ?_
              refine OWp.leave rfl ?_
              refine OWp.leave rfl ?_
              refine OWp.leave rfl ?_
              refine OWp.pickT rfl rfl rfl ?_
              refine OWp.nil ?_
              refine CWp.condT rfl ?_
              refine CWp.seq ?_
              refine CWp.region ?_
              refine OWp.assign rfl rfl ?_
              refine OWp.nil ?_
              refine CWp.ret ?_
              refine RetQ.one (by first | exact .inl rfl | exact .inr rfl) rfl rfl ?_
              exact h _ false (hk1 H hw hk' hi') ⟨fun e => (by cases e), fun hN => by have := (hN.all _ (mem_runes s pos l hl hlt)).1; omega⟩
          · refine OWp.norm ?_
            have hend : l = runes s := by rw [runesF_end _ _ _ hge, List.append_nil] at hl; exact hl
            refine OWp.extract rfl rfl rfl rfl ?_
            refine OWp.nil ?_
            refine CWp.seq ?_
            refine CWp.condF rfl ?_
            refine CWp.exit ?_
            refine CWp.seq ?_
            refine CWp.region ?_
            refine OWp.move rfl rfl ?_
            refine OWp.call rfl rfl rfl rfl ?_
            refine first_spec s _ _ ?_ hw'
            intro Hf hkf
            rw [if_pos (show 0 < s.size by omega)]
            refine OWp.norm ?_
            refine OWp.move rfl rfl ?_
            refine OWp.extract rfl rfl rfl rfl ?_
            refine OWp.extract rfl rfl rfl rfl ?_
            refine OWp.assign rfl rfl ?_
            refine OWp.assign rfl rfl ?_
            refine OWp.nil ?_
            refine CWp.seq ?_
            refine CWp.region ?_
            refine OWp.move rfl rfl ?_
            refine OWp.call rfl rfl rfl rfl ?_
            refine last_spec s hs _ _ ?_
            rw [if_neg (show ¬ s = ⟨#[]⟩ from fun e => by rw [e] at hg0; exact hg0 (by decide))]
            refine OWp.norm ?_
            refine OWp.move rfl rfl ?_
            refine OWp.extract rfl rfl rfl rfl ?_
            refine OWp.extract rfl rfl rfl rfl ?_
            refine OWp.assign rfl rfl ?_
            refine OWp.assign rfl rfl ?_
            refine OWp.nil ?_
            refine CWp.seq ?_
            refine CWp.region ?_
            refine OWp.move rfl rfl ?_
            refine OWp.call rfl rfl rfl rfl ?_
            refine blankv_spec _ _ _ (fun b1 hb1 => ?_)
            refine OWp.norm ?_
            first | refine OWp.notD rfl rfl rfl ?_ | refine OWp.notB rfl rfl rfl ?_
            refine OWp.move rfl rfl ?_
            first | refine OWp.byT rfl (fun hg5 => ?_) (fun hg5 => ?_) | refine OWp.byBT rfl (fun hg5 => ?_) (fun hg5 => ?_)
            · skip
              try simp only [Decidable.not_not] at hg5
              try simp only [hg5, eq_self, decide_true, decide_false, not_true_eq_false, not_false_eq_true, Bool.not_true, Bool.not_false]
              refine OWp.move rfl rfl ?_
              refine OWp.call rfl rfl rfl rfl ?_
              refine blankv_spec _ _ _ (fun b2 hb2 => ?_)
              refine OWp.norm ?_
              first | refine OWp.notD rfl rfl rfl ?_ | refine OWp.notB rfl rfl rfl ?_
              refine OWp.pickT rfl rfl rfl ?_
              refine OWp.assign rfl rfl ?_
              refine OWp.nil ?_
              refine CWp.ret ?_
              refine RetQ.one (by first | exact .inl rfl | exact .inr rfl) rfl rfl ?_
              refine h _ (!b2) (hk'.trans hkf hw) ⟨fun e => ⟨by omega, by omega, by rw [hval]; simpa using h2, fun r hr => hall r (hend ▸ hr), by rw [← hb1]; simpa using hg5, by rw [← hb2]; simpa using e⟩, fun hN => by rw [hb2, hN.last]; rfl⟩
            · skip
              try simp only [Decidable.not_not] at hg5
              try simp only [hg5, eq_self, decide_true, decide_false, not_true_eq_false, not_false_eq_true, Bool.not_true, Bool.not_false]
              refine OWp.leave rfl ?_
              refine OWp.leave rfl ?_
              refine OWp.leave rfl ?_
              refine OWp.pickF rfl rfl rfl ?_
              refine OWp.assign rfl rfl ?_
              refine OWp.nil ?_
              refine CWp.ret ?_
              refine RetQ.one (by first | exact .inl rfl | exact .inr rfl) rfl rfl ?_
              exact h _ false (hk'.trans hkf hw) ⟨fun e => (by cases e), fun hN => by have := hN.first; rw [← hb1] at this; rw [this] at hg5; cases hg5⟩
    · skip
      try simp only [Decidable.not_not] at hg1
      try simp only [hg1, eq_self, decide_true, decide_false, not_true_eq_false, not_false_eq_true, Bool.not_true, Bool.not_false]
      refine OWp.leave rfl ?_
      refine OWp.leave rfl ?_
      refine OWp.leave rfl ?_
      refine OWp.pickT rfl rfl rfl ?_
      refine OWp.nil ?_
      refine CWp.condT rfl ?_
      refine CWp.seq ?_
      refine CWp.region ?_
      refine OWp.assign rfl rfl ?_
      refine OWp.nil ?_
      refine CWp.ret ?_
      refine RetQ.one (by first | exact .inl rfl | exact .inr rfl) rfl rfl ?_
      exact h _ false (Keeps.refl hw) ⟨fun e => (by cases e), fun hN => by have := hN.hi; omega⟩
  · skip
    try simp only [Decidable.not_not] at hg0
    try simp only [hg0, eq_self, decide_true, decide_false, not_true_eq_false, not_false_eq_true, Bool.not_true, Bool.not_false]
    refine OWp.leave rfl ?_
    refine OWp.leave rfl ?_
    refine OWp.leave rfl ?_
    refine OWp.pickT rfl rfl rfl ?_
    refine OWp.move rfl rfl ?_
    refine OWp.leave rfl ?_
    refine OWp.leave rfl ?_
    refine OWp.leave rfl ?_
    refine OWp.pickT rfl rfl rfl ?_
    refine OWp.nil ?_
    refine CWp.condT rfl ?_
    refine CWp.seq ?_
    refine CWp.region ?_
    refine OWp.assign rfl rfl ?_
    refine OWp.nil ?_
    refine CWp.ret ?_
    refine RetQ.one (by first | exact .inl rfl | exact .inr rfl) rfl rfl ?_
    exact h _ false (Keeps.refl hw) ⟨fun e => (by cases e), fun hN => by have := hN.lo; omega⟩

end Go.Proofs.YtaelmnkddedddaaDoor.Ev
