import Derived.Test.YtnlkgnoogcakjaaGreatDoorEvAttrW
import Derived.Test.YtnlkgnoogcakjaaGreatDoorEvProg
namespace Go.Proofs.YtnlkgnoogcakjaaGreatDoor.Ev
open Go
set_option linter.unusedVariables false
set_option linter.unusedSimpArgs false
set_option maxHeartbeats 2000000
set_option maxRecDepth 20000
theorem idx_sp : ∀ k : Fin 128, Lib.indexByte [32, 9] (k.val.toUInt8) = if k.val = 32 then 0 else if k.val = 9 then 1 else -1 := by decide +kernel
theorem byte_sp (j : Nat) (h : j < 2) : byteAt ⟨#[32, 9]⟩ (j : Nat) < 128 := by
  match j, h with
  | 0, _ => exact (by decide : (32 : Int) < 128)
  | 1, _ => exact (by decide : (9 : Int) < 128)
theorem nogap (s : ByteArray) (pos : Nat) (h : pos < s.size) (h1 : ¬ (Utf8.decode s pos).1 = 32) (h2 : ¬ (Utf8.decode s pos).1 = 9) (j : Nat) (hj : pos ≤ j) (hj2 : j < pos + (Utf8.decode s pos).2) : ¬ gapB (byteAt s (j : Nat)) := fun hg => by
  rcases dec_bytes s pos h with ⟨a1, a2, a3⟩ | ⟨a1, a2, a3⟩
  · obtain rfl : j = pos := by omega
    unfold gapB at hg
    omega
  · have := a3 j hj hj2
    unfold gapB at hg
    omega
theorem isgap (s : ByteArray) (pos : Nat) (h : pos < s.size) (h1 : (Utf8.decode s pos).1 = 32 ∨ (Utf8.decode s pos).1 = 9) : gapB (byteAt s (pos : Nat)) := by
  rcases dec_bytes s pos h with ⟨a1, a2, a3⟩ | ⟨a1, a2, a3⟩
  · unfold gapB; omega
  · omega
theorem enc_hi (r : Nat) (h : 128 ≤ r) : 2 ≤ (Utf8.encode (r : Int)).size ∧ (Utf8.encode (r : Int)).size ≤ 4 ∧ 128 ≤ byteAt (Utf8.encode (r : Int)) (((Utf8.encode (r : Int)).size - 1 : Nat) : Int) := by
  have he := enc_eq r
  have hz := len_size (Utf8.encode (r : Int))
  have key : ∀ l : List UInt8, (Utf8.encode (r : Int)).data.toList = l → 2 ≤ l.length → l.length ≤ 4 → (∀ b, l[l.length - 1]? = some b → 128 ≤ b.toNat) → 2 ≤ (Utf8.encode (r : Int)).size ∧ (Utf8.encode (r : Int)).size ≤ 4 ∧ 128 ≤ byteAt (Utf8.encode (r : Int)) (((Utf8.encode (r : Int)).size - 1 : Nat) : Int) := fun l hl h1 h2 h3 => by
    rw [hl] at hz
    refine ⟨by omega, by omega, ?_⟩
    have hlt : l.length - 1 < l.length := by omega
    have hg := List.getElem?_eq_getElem hlt
    have h9 := h3 _ hg
    rw [← hz, byteAt_list (Utf8.encode (r : Int)) (l.length - 1) l[l.length - 1] (by rw [hl]; exact hg)]
    omega
  refine key _ he ?_ ?_ ?_ <;> unfold Lib.encodeRune Lib.encodeRuneZ
  · repeat' split
    all_goals first | omega | simp
  · repeat' split
    all_goals first | omega | simp
  · have hb : ∀ x : Int, 128 ≤ x → x < 256 → 128 ≤ (x.toNat.toUInt8).toNat := fun x h1 h2 => by
      have : (x.toNat.toUInt8).toNat = x.toNat % 256 := rfl
      omega
    intro b hbb
    repeat' split at hbb
    all_goals first | omega | skip
    all_goals
      simp only [List.map_cons, List.map_nil, List.length_cons, List.length_nil] at hbb
      simp at hbb
      subst hbb
      first | exact hb _ (by omega) (by omega) | decide

theorem blank0_spec (c : Int) (H : AH) (Q : Value → AH → Prop) (h : Q (.bool (blankB c)) H) : FWp Tryz.prog prims00 29 [.int .i32 c] H Q := by
  refine FWp.enter (rfl) Tryz.func29 rfl (e := [.int .i32 c, undef, undef, undef, undef, undef, undef, undef, undef, undef, undef, undef, undef, undef]) rfl ?_
  refine CWp.seq ?_
  refine CWp.region ?_
  refine OWp.assign rfl rfl ?_
  refine OWp.nil ?_
  refine CWp.seq ?_
  refine CWp.seq ?_
  refine CWp.region ?_
  refine OWp.move rfl rfl ?_
  refine OWp.nil ?_
  refine CWp.block ?_
  refine CWp.seq ?_
  refine CWp.seq ?_
  refine CWp.region ?_
  refine OWp.binI rfl rfl rfl rfl rfl ?_
  refine OWp.assign rfl rfl ?_
  refine OWp.nil ?_
  first | refine CWp.condP rfl (fun h0 => ?_) (fun h0 => ?_) | refine CWp.cond rfl (fun h0 => ?_) (fun h0 => ?_)
  · skip
    first | rw [decide_eq_true h0] | rw [decide_eq_false h0] | rw [h0] | skip
    refine CWp.skip ?_
    refine CWp.condT rfl ?_
    refine CWp.seq ?_
    refine CWp.region ?_
    refine OWp.assign rfl rfl ?_
    refine OWp.nil ?_
    refine CWp.ret ?_
    refine RetQ.one (by first | exact .inl rfl | exact .inr rfl) rfl rfl ?_
    exact Q_bool h (by first | (simp [blankB, gapB, *]; done) | (simp [blankB, gapB, *]; omega))
  · skip
    first | rw [decide_eq_true h0] | rw [decide_eq_false h0] | rw [h0] | skip
    refine CWp.seq ?_
    refine CWp.region ?_
    refine OWp.binI rfl rfl rfl rfl rfl ?_
    refine OWp.assign rfl rfl ?_
    refine OWp.nil ?_
    first | refine CWp.condP rfl (fun h1 => ?_) (fun h1 => ?_) | refine CWp.cond rfl (fun h1 => ?_) (fun h1 => ?_)
    · skip
      first | rw [decide_eq_true h1] | rw [decide_eq_false h1] | rw [h1] | skip
      refine CWp.skip ?_
      refine CWp.condT rfl ?_
      refine CWp.seq ?_
      refine CWp.region ?_
      refine OWp.assign rfl rfl ?_
      refine OWp.nil ?_
      refine CWp.ret ?_
      refine RetQ.one (by first | exact .inl rfl | exact .inr rfl) rfl rfl ?_
      exact Q_bool h (by first | (simp [blankB, gapB, *]; done) | (simp [blankB, gapB, *]; omega))
    · skip
      first | rw [decide_eq_true h1] | rw [decide_eq_false h1] | rw [h1] | skip
      refine CWp.seq ?_
      refine CWp.region ?_
      refine OWp.binI rfl rfl rfl rfl rfl ?_
      refine OWp.assign rfl rfl ?_
      refine OWp.nil ?_
      first | refine CWp.condP rfl (fun h2 => ?_) (fun h2 => ?_) | refine CWp.cond rfl (fun h2 => ?_) (fun h2 => ?_)
      · skip
        first | rw [decide_eq_true h2] | rw [decide_eq_false h2] | rw [h2] | skip
        refine CWp.skip ?_
        refine CWp.condT rfl ?_
        refine CWp.seq ?_
        refine CWp.region ?_
        refine OWp.assign rfl rfl ?_
        refine OWp.nil ?_
        refine CWp.ret ?_
        refine RetQ.one (by first | exact .inl rfl | exact .inr rfl) rfl rfl ?_
        exact Q_bool h (by first | (simp [blankB, gapB, *]; done) | (simp [blankB, gapB, *]; omega))
      · skip
        first | rw [decide_eq_true h2] | rw [decide_eq_false h2] | rw [h2] | skip
        refine CWp.seq ?_
        refine CWp.region ?_
        refine OWp.binI rfl rfl rfl rfl rfl ?_
        refine OWp.assign rfl rfl ?_
        refine OWp.nil ?_
        first | refine CWp.condP rfl (fun h3 => ?_) (fun h3 => ?_) | refine CWp.cond rfl (fun h3 => ?_) (fun h3 => ?_)
        · skip
          first | rw [decide_eq_true h3] | rw [decide_eq_false h3] | rw [h3] | skip
          refine CWp.skip ?_
          refine CWp.condT rfl ?_
          refine CWp.seq ?_
          refine CWp.region ?_
          refine OWp.assign rfl rfl ?_
          refine OWp.nil ?_
          refine CWp.ret ?_
          refine RetQ.one (by first | exact .inl rfl | exact .inr rfl) rfl rfl ?_
          exact Q_bool h (by first | (simp [blankB, gapB, *]; done) | (simp [blankB, gapB, *]; omega))
        · skip
          first | rw [decide_eq_true h3] | rw [decide_eq_false h3] | rw [h3] | skip
          refine CWp.seq ?_
          refine CWp.region ?_
          refine OWp.binI rfl rfl rfl rfl rfl ?_
          refine OWp.assign rfl rfl ?_
          refine OWp.nil ?_
          first | refine CWp.condP rfl (fun h4 => ?_) (fun h4 => ?_) | refine CWp.cond rfl (fun h4 => ?_) (fun h4 => ?_)
          · skip
            first | rw [decide_eq_true h4] | rw [decide_eq_false h4] | rw [h4] | skip
            refine CWp.skip ?_
            refine CWp.condT rfl ?_
            refine CWp.seq ?_
            refine CWp.region ?_
            refine OWp.assign rfl rfl ?_
            refine OWp.nil ?_
            refine CWp.ret ?_
            refine RetQ.one (by first | exact .inl rfl | exact .inr rfl) rfl rfl ?_
            exact Q_bool h (by first | (simp [blankB, gapB, *]; done) | (simp [blankB, gapB, *]; omega))
          · skip
            first | rw [decide_eq_true h4] | rw [decide_eq_false h4] | rw [h4] | skip
            refine CWp.seq ?_
            refine CWp.region ?_
            refine OWp.binI rfl rfl rfl rfl rfl ?_
            refine OWp.assign rfl rfl ?_
            refine OWp.nil ?_
            first | refine CWp.condP rfl (fun h5 => ?_) (fun h5 => ?_) | refine CWp.cond rfl (fun h5 => ?_) (fun h5 => ?_)
            · skip
              first | rw [decide_eq_true h5] | rw [decide_eq_false h5] | rw [h5] | skip
              refine CWp.skip ?_
              refine CWp.condT rfl ?_
              refine CWp.seq ?_
              refine CWp.region ?_
              refine OWp.assign rfl rfl ?_
              refine OWp.nil ?_
              refine CWp.ret ?_
              refine RetQ.one (by first | exact .inl rfl | exact .inr rfl) rfl rfl ?_
              exact Q_bool h (by first | (simp [blankB, gapB, *]; done) | (simp [blankB, gapB, *]; omega))
            · skip
              first | rw [decide_eq_true h5] | rw [decide_eq_false h5] | rw [h5] | skip
              refine CWp.seq ?_
              refine CWp.region ?_
              refine OWp.binI rfl rfl rfl rfl rfl ?_
              refine OWp.assign rfl rfl ?_
              refine OWp.nil ?_
              first | refine CWp.condP rfl (fun h6 => ?_) (fun h6 => ?_) | refine CWp.cond rfl (fun h6 => ?_) (fun h6 => ?_)
              · skip
                first | rw [decide_eq_true h6] | rw [decide_eq_false h6] | rw [h6] | skip
                refine CWp.skip ?_
                refine CWp.condT rfl ?_
                refine CWp.seq ?_
                refine CWp.region ?_
                refine OWp.assign rfl rfl ?_
                refine OWp.nil ?_
                refine CWp.ret ?_
                refine RetQ.one (by first | exact .inl rfl | exact .inr rfl) rfl rfl ?_
                exact Q_bool h (by first | (simp [blankB, gapB, *]; done) | (simp [blankB, gapB, *]; omega))
              · skip
                first | rw [decide_eq_true h6] | rw [decide_eq_false h6] | rw [h6] | skip
                refine CWp.seq ?_
                refine CWp.region ?_
                refine OWp.binI rfl rfl rfl rfl rfl ?_
                refine OWp.assign rfl rfl ?_
                refine OWp.nil ?_
                first | refine CWp.condP rfl (fun h7 => ?_) (fun h7 => ?_) | refine CWp.cond rfl (fun h7 => ?_) (fun h7 => ?_)
                · skip
                  first | rw [decide_eq_true h7] | rw [decide_eq_false h7] | rw [h7] | skip
                  refine CWp.skip ?_
                  refine CWp.condT rfl ?_
                  refine CWp.seq ?_
                  refine CWp.region ?_
                  refine OWp.assign rfl rfl ?_
                  refine OWp.nil ?_
                  refine CWp.ret ?_
                  refine RetQ.one (by first | exact .inl rfl | exact .inr rfl) rfl rfl ?_
                  exact Q_bool h (by first | (simp [blankB, gapB, *]; done) | (simp [blankB, gapB, *]; omega))
                · skip
                  first | rw [decide_eq_true h7] | rw [decide_eq_false h7] | rw [h7] | skip
                  refine CWp.region ?_
                  refine OWp.binI rfl rfl rfl rfl rfl ?_
                  refine OWp.assign rfl rfl ?_
                  refine OWp.nil ?_
                  first | refine CWp.condP rfl (fun h8 => ?_) (fun h8 => ?_) | refine CWp.cond rfl (fun h8 => ?_) (fun h8 => ?_)
                  · skip
                    first | rw [decide_eq_true h8] | rw [decide_eq_false h8] | rw [h8] | skip
                    refine CWp.seq ?_
                    refine CWp.region ?_
                    refine OWp.assign rfl rfl ?_
                    refine OWp.nil ?_
                    refine CWp.ret ?_
                    refine RetQ.one (by first | exact .inl rfl | exact .inr rfl) rfl rfl ?_
                    exact Q_bool h (by first | (simp [blankB, gapB, *]; done) | (simp [blankB, gapB, *]; omega))
                  · skip
                    first | rw [decide_eq_true h8] | rw [decide_eq_false h8] | rw [h8] | skip
                    refine CWp.skip ?_
                    refine CWp.seq ?_
                    refine CWp.region ?_
                    refine OWp.assign rfl rfl ?_
                    refine OWp.nil ?_
                    refine CWp.ret ?_
                    refine RetQ.one (by first | exact .inl rfl | exact .inr rfl) rfl rfl ?_
                    exact Q_bool h (by first | (simp [blankB, gapB, *]; done) | (simp [blankB, gapB, *]; omega))

theorem blankv0_spec (c : Int) (H : AH) (Q : Value → AH → Prop) (h : ∀ b, b = blankB c → Q (.bool b) H) : FWp Tryz.prog prims00 29 [.int .i32 c] H Q := blank0_spec c H Q (h _ rfl)
theorem use_spec (n : Int) (H : AH) (Q : Value → AH → Prop) (h : Q (.bool (decide (n > 8))) H) : FWp Tryz.prog prims00 68 [.int .i64 n] H Q := by
  refine FWp.enter (rfl) Tryz.func68 rfl (e := [.int .i64 n, undef, undef, undef, undef]) rfl ?_
  refine CWp.seq ?_
  refine CWp.region ?_
  refine OWp.assign rfl rfl ?_
  refine OWp.nil ?_
  refine CWp.seq ?_
  refine CWp.region ?_
  refine OWp.move rfl rfl ?_
  refine OWp.binI rfl rfl rfl rfl rfl ?_
  refine OWp.assign rfl rfl ?_
  refine OWp.nil ?_
  refine CWp.ret ?_
  refine RetQ.one (by first | exact .inl rfl | exact .inr rfl) rfl rfl ?_
  exact h

theorem validRune_spec (r : Int) (H : AH) (Q : Value → AH → Prop) (h : ∀ b : Bool, True → Q (.bool b) H) : FWp Tryz.prog prims00 73 [.int .i32 r] H Q := by
  refine FWp.enter (rfl) Tryz.func73 rfl (e := [.int .i32 r, undef, undef, undef, undef, undef, undef, undef, undef, undef, undef, undef, undef, undef, undef, undef, undef]) rfl ?_
  refine CWp.seq ?_
  refine CWp.region ?_
  refine OWp.assign rfl rfl ?_
  refine OWp.nil ?_
  refine CWp.seq ?_
  refine CWp.block ?_
  refine CWp.seq ?_
  refine CWp.region ?_
  refine OWp.move rfl rfl ?_
  refine OWp.binI rfl rfl rfl rfl rfl ?_
  refine OWp.move rfl rfl ?_
  first | refine OWp.byT rfl (fun hg0 => ?_) (fun hg0 => ?_) | refine OWp.byBT rfl (fun hg0 => ?_) (fun hg0 => ?_)
  · skip
    first | rw [decide_eq_true hg0] | rw [decide_eq_false hg0] | rw [hg0] | skip
    try simp only [Decidable.not_not] at hg0
    refine OWp.move rfl rfl ?_
    refine OWp.binI rfl rfl rfl rfl rfl ?_
    refine OWp.pickT rfl rfl rfl ?_
    refine OWp.assign rfl rfl ?_
    refine OWp.nil ?_
    first | refine CWp.condP rfl (fun h1 => ?_) (fun h1 => ?_) | refine CWp.cond rfl (fun h1 => ?_) (fun h1 => ?_)
    · skip
      first | rw [decide_eq_true h1] | rw [decide_eq_false h1] | rw [h1] | skip
      refine CWp.seq ?_
      refine CWp.region ?_
      refine OWp.assign rfl rfl ?_
      refine OWp.nil ?_
      refine CWp.ret ?_
      refine RetQ.one (by first | exact .inl rfl | exact .inr rfl) rfl rfl ?_
      exact h _ trivial
    · skip
      first | rw [decide_eq_true h1] | rw [decide_eq_false h1] | rw [h1] | skip
      refine CWp.seq ?_
      refine CWp.region ?_
      refine OWp.move rfl rfl ?_
      refine OWp.binI rfl rfl rfl rfl rfl ?_
      refine OWp.move rfl rfl ?_
      first | refine OWp.byT rfl (fun hg2 => ?_) (fun hg2 => ?_) | refine OWp.byBT rfl (fun hg2 => ?_) (fun hg2 => ?_)
      · skip
        first | rw [decide_eq_true hg2] | rw [decide_eq_false hg2] | rw [hg2] | skip
        try simp only [Decidable.not_not] at hg2
        refine OWp.move rfl rfl ?_
        refine OWp.binI rfl rfl rfl rfl rfl ?_
        refine OWp.pickT rfl rfl rfl ?_
        refine OWp.assign rfl rfl ?_
        refine OWp.nil ?_
        first | refine CWp.condP rfl (fun h3 => ?_) (fun h3 => ?_) | refine CWp.cond rfl (fun h3 => ?_) (fun h3 => ?_)
        · skip
          first | rw [decide_eq_true h3] | rw [decide_eq_false h3] | rw [h3] | skip
          refine CWp.seq ?_
          refine CWp.region ?_
          refine OWp.assign rfl rfl ?_
          refine OWp.nil ?_
          refine CWp.ret ?_
          refine RetQ.one (by first | exact .inl rfl | exact .inr rfl) rfl rfl ?_
          exact h _ trivial
        · skip
          first | rw [decide_eq_true h3] | rw [decide_eq_false h3] | rw [h3] | skip
          refine CWp.skip ?_
          refine CWp.seq ?_
          refine CWp.region ?_
          refine OWp.assign rfl rfl ?_
          refine OWp.nil ?_
          refine CWp.ret ?_
          refine RetQ.one (by first | exact .inl rfl | exact .inr rfl) rfl rfl ?_
          exact h _ trivial
      · skip
        first | rw [decide_eq_true hg2] | rw [decide_eq_false hg2] | rw [hg2] | skip
        try simp only [Decidable.not_not] at hg2
        refine OWp.leave rfl ?_
        refine OWp.leave rfl ?_
        refine OWp.pickF rfl rfl rfl ?_
        refine OWp.assign rfl rfl ?_
        refine OWp.nil ?_
        refine CWp.condF rfl ?_
        refine CWp.skip ?_
        refine CWp.seq ?_
        refine CWp.region ?_
        refine OWp.assign rfl rfl ?_
        refine OWp.nil ?_
        refine CWp.ret ?_
        refine RetQ.one (by first | exact .inl rfl | exact .inr rfl) rfl rfl ?_
        exact h _ trivial
  · skip
    first | rw [decide_eq_true hg0] | rw [decide_eq_false hg0] | rw [hg0] | skip
    try simp only [Decidable.not_not] at hg0
    refine OWp.leave rfl ?_
    refine OWp.leave rfl ?_
    refine OWp.pickF rfl rfl rfl ?_
    refine OWp.assign rfl rfl ?_
    refine OWp.nil ?_
    refine CWp.condF rfl ?_
    refine CWp.seq ?_
    refine CWp.region ?_
    refine OWp.move rfl rfl ?_
    refine OWp.binI rfl rfl rfl rfl rfl ?_
    refine OWp.move rfl rfl ?_
    first | refine OWp.byT rfl (fun hg1 => ?_) (fun hg1 => ?_) | refine OWp.byBT rfl (fun hg1 => ?_) (fun hg1 => ?_)
    · skip
      first | rw [decide_eq_true hg1] | rw [decide_eq_false hg1] | rw [hg1] | skip
      try simp only [Decidable.not_not] at hg1
      refine OWp.move rfl rfl ?_
      refine OWp.binI rfl rfl rfl rfl rfl ?_
      refine OWp.pickT rfl rfl rfl ?_
      refine OWp.assign rfl rfl ?_
      refine OWp.nil ?_
      first | refine CWp.condP rfl (fun h2 => ?_) (fun h2 => ?_) | refine CWp.cond rfl (fun h2 => ?_) (fun h2 => ?_)
      · skip
        first | rw [decide_eq_true h2] | rw [decide_eq_false h2] | rw [h2] | skip
        refine CWp.seq ?_
        refine CWp.region ?_
        refine OWp.assign rfl rfl ?_
        refine OWp.nil ?_
        refine CWp.ret ?_
        refine RetQ.one (by first | exact .inl rfl | exact .inr rfl) rfl rfl ?_
        exact h _ trivial
      · skip
        first | rw [decide_eq_true h2] | rw [decide_eq_false h2] | rw [h2] | skip
        refine CWp.skip ?_
        refine CWp.seq ?_
        refine CWp.region ?_
        refine OWp.assign rfl rfl ?_
        refine OWp.nil ?_
        refine CWp.ret ?_
        refine RetQ.one (by first | exact .inl rfl | exact .inr rfl) rfl rfl ?_
        exact h _ trivial
    · skip
      first | rw [decide_eq_true hg1] | rw [decide_eq_false hg1] | rw [hg1] | skip
      try simp only [Decidable.not_not] at hg1
      refine OWp.leave rfl ?_
      refine OWp.leave rfl ?_
      refine OWp.pickF rfl rfl rfl ?_
      refine OWp.assign rfl rfl ?_
      refine OWp.nil ?_
      refine CWp.condF rfl ?_
      refine CWp.skip ?_
      refine CWp.seq ?_
      refine CWp.region ?_
      refine OWp.assign rfl rfl ?_
      refine OWp.nil ?_
      refine CWp.ret ?_
      refine RetQ.one (by first | exact .inl rfl | exact .inr rfl) rfl rfl ?_
      exact h _ trivial

theorem key0_spec (s : ByteArray) (hs : s.size ≤ 9000000) (H : AH) (Q : Value → AH → Prop) (h : ∀ H' b, Keeps H H' → (b = true ↔ KeyS s) → Q (.bool b) H') (hw : WfH H) : FWp Tryz.prog prims00 56 [.string s] H Q := by
  have hs5 : szT Tryz.prog 5 = 1 := by kernel_rfl
  refine FWp.enter (rfl) Tryz.func56 rfl (e := [.string s, undef, undef, undef, undef, undef, undef, undef, undef, undef, undef, undef, undef, undef, undef, undef, undef, undef, undef, undef, undef]) rfl ?_
  refine CWp.seq ?_
  refine CWp.region ?_
  refine OWp.assign rfl rfl ?_
  refine OWp.nil ?_
  refine CWp.seq ?_
  refine CWp.seq ?_
  refine CWp.region ?_
  refine OWp.move rfl rfl ?_
  refine OWp.convBytes hw rfl rfl Tryz.underlying9 Tryz.underlying22 Tryz.underlying5 hs5 rfl (fun H2 cc hw2 hk2 hc2 hrw => ?_)
  refine OWp.norm ?_
  refine OWp.lenSl rfl rfl rfl rfl rfl Tryz.underlying22 rfl ?_
  refine OWp.move rfl rfl ?_
  refine OWp.nil ?_
  refine CWp.block ?_
  refine CWp.loop (fun k e H' => ∃ (cc j : Nat) (g : Nat → Value), e = [.string s, g 1, g 2, g 3, g 4, g 5, .slice (some ⟨cc, 0, none⟩) s.size s.size, .int .i64 (s.size : Nat), .int .i64 (j : Nat), g 9, g 10, g 11, g 12, g 13, g 14, g 15, g 16, g 17, g 18, g 19, g 20] ∧ k = s.size - j ∧ WfH H' ∧ Keeps H H' ∧ Row H' (some ⟨cc, 0, none⟩) (byteV s) ∧ j ≤ s.size ∧ ∀ a : Nat, a < j → 97 ≤ byteAt s (a : Nat) ∧ byteAt s (a : Nat) ≤ 122) ?_ ?_
  · exact ⟨_, cc, 0, ex_env rfl ⟨rfl, hw2, hk2, hrw, by omega, fun a h => by omega⟩⟩
  · rintro k e H' ⟨cc, j, g, rfl, rfl, hw', hk', hrow, hj, ha⟩
    refine CWp.seq ?_
    refine CWp.region ?_
    refine OWp.binI rfl rfl rfl rfl rfl ?_
    refine OWp.nil ?_
    refine CWp.seq ?_
    first | refine CWp.condP rfl (fun h1 => ?_) (fun h1 => ?_) | refine CWp.cond rfl (fun h1 => ?_) (fun h1 => ?_)
    · skip
      first | rw [decide_eq_true h1] | rw [decide_eq_false h1] | rw [h1] | skip
      refine CWp.skip ?_
      refine CWp.seq ?_
      refine CWp.block ?_
      refine CWp.seq ?_
      refine CWp.region ?_
      refine OWp.indexAddrSl1 rfl rfl Tryz.underlying22 hs5 rfl rfl (by omega) (by omega) ?_
      refine OWp.loadRow rfl rfl Tryz.underlying5 rfl rfl hrow (byteV_get s j (by omega)) ?_
      refine OWp.assign rfl rfl ?_
      refine OWp.nil ?_
      refine CWp.seq ?_
      refine CWp.region ?_
      refine OWp.move rfl rfl ?_
      refine OWp.binI rfl rfl rfl rfl rfl ?_
      refine OWp.move rfl rfl ?_
      first | refine OWp.byF rfl (fun hg2 => ?_) (fun hg2 => ?_) | refine OWp.byBF rfl (fun hg2 => ?_) (fun hg2 => ?_)
      · skip
        first | rw [decide_eq_true hg2] | rw [decide_eq_false hg2] | rw [hg2] | skip
        try simp only [Decidable.not_not] at hg2
        refine OWp.move rfl rfl ?_
        refine OWp.binI rfl rfl rfl rfl rfl ?_
        refine OWp.pickF rfl rfl rfl ?_
        refine OWp.nil ?_
        first | refine CWp.condP rfl (fun h3 => ?_) (fun h3 => ?_) | refine CWp.cond rfl (fun h3 => ?_) (fun h3 => ?_)
        · skip
          first | rw [decide_eq_true h3] | rw [decide_eq_false h3] | rw [h3] | skip
          refine CWp.seq ?_
          refine CWp.region ?_
          refine OWp.assign rfl rfl ?_
          refine OWp.nil ?_
          refine CWp.ret ?_
          refine RetQ.one (by first | exact .inl rfl | exact .inr rfl) rfl rfl ?_
          exact h _ false hk' ⟨fun e => (by cases e), fun hr => (by have := hr.2 j (by omega); omega)⟩
        · skip
          first | rw [decide_eq_true h3] | rw [decide_eq_false h3] | rw [h3] | skip
          refine CWp.skip ?_
          refine CWp.region ?_
          refine OWp.addI rfl rfl rfl rfl (by omega) ?_
          refine OWp.move rfl rfl ?_
          refine OWp.nil ?_
          exact ⟨_, by omega, cc, j + 1, ex_env rfl ⟨rfl, hw', hk', hrow, by omega, fun a h1 => by by_cases e : a = j; exact e ▸ ⟨by omega, by omega⟩; exact ha a (by omega)⟩⟩
      · skip
        first | rw [decide_eq_true hg2] | rw [decide_eq_false hg2] | rw [hg2] | skip
        try simp only [Decidable.not_not] at hg2
        refine OWp.leave rfl ?_
        refine OWp.leave rfl ?_
        refine OWp.pickT rfl rfl rfl ?_
        refine OWp.nil ?_
        refine CWp.condT rfl ?_
        refine CWp.seq ?_
        refine CWp.region ?_
        refine OWp.assign rfl rfl ?_
        refine OWp.nil ?_
        refine CWp.ret ?_
        refine RetQ.one (by first | exact .inl rfl | exact .inr rfl) rfl rfl ?_
        exact h _ false hk' ⟨fun e => (by cases e), fun hr => (by have := hr.2 j (by omega); omega)⟩
    · skip
      first | rw [decide_eq_true h1] | rw [decide_eq_false h1] | rw [h1] | skip
      refine CWp.exit ?_
      refine CWp.seq ?_
      refine CWp.region ?_
      refine OWp.move rfl rfl ?_
      refine OWp.binS rfl rfl rfl rfl rfl ?_
      refine OWp.assign rfl rfl ?_
      refine OWp.nil ?_
      refine CWp.ret ?_
      refine RetQ.one (by first | exact .inl rfl | exact .inr rfl) rfl rfl ?_
      refine h _ _ hk' ⟨fun e => ?_, fun hr => decide_eq_true (fun e => by rw [e] at hr; exact absurd hr.1 (by decide))⟩
      have e := of_decide_eq_true e
      exact ⟨Nat.pos_of_ne_zero fun e0 => e (ByteArray.ext (Array.eq_empty_of_size_eq_zero e0)), fun a h1 => ha a (by omega)⟩

theorem bare0_spec (s : ByteArray) (hs : s.size ≤ 9000000) (H : AH) (Q : Value → AH → Prop) (h : ∀ H' b, Keeps H H' → (b = true ↔ BareS s) → Q (.bool b) H') (hw : WfH H) : FWp Tryz.prog prims00 42 [.string s] H Q := by
  refine FWp.enter (rfl) Tryz.func42 rfl (e := [.string s, undef, undef, undef, undef, undef, undef, undef, undef, undef, undef, undef, undef, undef, undef, undef, undef, undef, undef, undef, undef, undef, undef, undef, undef, undef]) rfl ?_
  refine CWp.seq ?_
  refine CWp.region ?_
  refine OWp.assign rfl rfl ?_
  refine OWp.nil ?_
  refine CWp.seq ?_
  refine CWp.seq ?_
  refine CWp.region ?_
  refine OWp.move rfl rfl ?_
  refine OWp.rangeS hw rfl rfl Tryz.underlying9 rfl (fun H1 i hw1 hk1 hi1 ho1 => ?_)
  refine OWp.norm ?_
  refine OWp.nil ?_
  refine CWp.block ?_
  refine CWp.loop (fun k e H' => ∃ (i pos : Nat) (l : List Nat) (g : Nat → Value), e = [.string s, g 1, g 2, g 3, g 4, g 5, .pointer (some ⟨i, 0, none⟩), g 7, g 8, g 9, g 10, g 11, g 12, g 13, g 14, g 15, g 16, g 17, g 18, g 19, g 20, g 21, g 22, g 23, g 24, g 25] ∧ k = s.size - pos ∧ WfH H' ∧ Keeps H H' ∧ H.next ≤ i ∧ Own H' i (.stringIter s pos) true ∧ l ++ runesF s (s.size - pos) pos = runes s ∧ ∀ r : Nat, r ∈ l → ¬ quoteP (r : Int)) ?_ ?_
  · exact ⟨_, i, 0, [], ex_env rfl ⟨rfl, hw1, hk1, hi1, ho1, rfl, by simp⟩⟩
  · rintro k e H' ⟨i, pos, l, g, rfl, rfl, hw', hk', hi', hit, hl, hall⟩
    refine CWp.seq ?_
    refine CWp.region ?_
    refine OWp.nextS hw' hit rfl rfl rfl (fun hlt H1 hw1 hk1 hot hit1 hse1 hnx => ?_) (fun hge => ?_)
    · refine OWp.norm ?_
      have hwid := Lib.decode_width_pos s pos hlt
      refine OWp.extract rfl rfl rfl rfl ?_
      refine OWp.nil ?_
      refine CWp.seq ?_
      refine CWp.condT rfl ?_
      refine CWp.skip ?_
      refine CWp.block ?_
      refine CWp.seq ?_
      refine CWp.region ?_
      refine OWp.extract rfl rfl rfl rfl ?_
      refine OWp.assign rfl rfl ?_
      refine OWp.nil ?_
      refine CWp.seq ?_
      refine CWp.region ?_
      refine OWp.move rfl rfl ?_
      refine OWp.call rfl rfl rfl rfl ?_
      refine blankv0_spec _ _ _ (fun b hb => ?_)
      refine OWp.norm ?_
      refine OWp.move rfl rfl ?_
      first | refine OWp.byF rfl (fun hg2 => ?_) (fun hg2 => ?_) | refine OWp.byBF rfl (fun hg2 => ?_) (fun hg2 => ?_)
      · skip
        first | rw [decide_eq_true hg2] | rw [decide_eq_false hg2] | rw [hg2] | skip
        try simp only [Decidable.not_not] at hg2
        refine OWp.move rfl rfl ?_
        refine OWp.binI rfl rfl rfl rfl rfl ?_
        refine OWp.pickF rfl rfl rfl ?_
        refine OWp.move rfl rfl ?_
        first | refine OWp.byF rfl (fun hg3 => ?_) (fun hg3 => ?_) | refine OWp.byBF rfl (fun hg3 => ?_) (fun hg3 => ?_)
        · skip
          first | rw [decide_eq_true hg3] | rw [decide_eq_false hg3] | rw [hg3] | skip
          try simp only [Decidable.not_not] at hg3
          refine OWp.move rfl rfl ?_
          refine OWp.binI rfl rfl rfl rfl rfl ?_
          refine OWp.pickF rfl rfl rfl ?_
          refine OWp.move rfl rfl ?_
          first | refine OWp.byF rfl (fun hg4 => ?_) (fun hg4 => ?_) | refine OWp.byBF rfl (fun hg4 => ?_) (fun hg4 => ?_)
          · skip
            first | rw [decide_eq_true hg4] | rw [decide_eq_false hg4] | rw [hg4] | skip
            try simp only [Decidable.not_not] at hg4
            refine OWp.move rfl rfl ?_
            refine OWp.binI rfl rfl rfl rfl rfl ?_
            refine OWp.pickF rfl rfl rfl ?_
            refine OWp.nil ?_
            first | refine CWp.condP rfl (fun h5 => ?_) (fun h5 => ?_) | refine CWp.cond rfl (fun h5 => ?_) (fun h5 => ?_)
            · skip
              first | rw [decide_eq_true h5] | rw [decide_eq_false h5] | rw [h5] | skip
              refine CWp.seq ?_
              refine CWp.region ?_
              refine OWp.assign rfl rfl ?_
              refine OWp.nil ?_
              refine CWp.ret ?_
              refine RetQ.one (by first | exact .inl rfl | exact .inr rfl) rfl rfl ?_
              exact h _ false (hk1 H hw hk' hi') ⟨fun e => (by cases e), fun hr => absurd (.inr (.inr (.inr (by simp_all)))) (hr.2 _ (mem_runes s pos l hl hlt))⟩
            · skip
              first | rw [decide_eq_true h5] | rw [decide_eq_false h5] | rw [h5] | skip
              refine CWp.skip ?_
              exact ⟨_, by omega, i, pos + (Utf8.decode s pos).2, l ++ [(Utf8.decode s pos).1], ex_env rfl ⟨rfl, hw1, hk1 H hw hk' hi', hi', hit1, by rw [List.append_assoc, ← hl, runesF_step s pos hlt]; rfl, by intro r hr; rcases List.mem_append.1 hr with hr | hr; exact hall r hr; simp at hr; subst hr; unfold quoteP; rw [← hb]; simp_all⟩⟩
          · skip
            first | rw [decide_eq_true hg4] | rw [decide_eq_false hg4] | rw [hg4] | skip
            try simp only [Decidable.not_not] at hg4
            refine OWp.leave rfl ?_
            refine OWp.leave rfl ?_
            refine OWp.pickT rfl rfl rfl ?_
            refine OWp.nil ?_
            refine CWp.condT rfl ?_
            refine CWp.seq ?_
            refine CWp.region ?_
            refine OWp.assign rfl rfl ?_
            refine OWp.nil ?_
            refine CWp.ret ?_
            refine RetQ.one (by first | exact .inl rfl | exact .inr rfl) rfl rfl ?_
            exact h _ false (hk1 H hw hk' hi') ⟨fun e => (by cases e), fun hr => absurd (.inr (.inr (.inl (by simp_all)))) (hr.2 _ (mem_runes s pos l hl hlt))⟩
        · skip
          first | rw [decide_eq_true hg3] | rw [decide_eq_false hg3] | rw [hg3] | skip
          try simp only [Decidable.not_not] at hg3
          refine OWp.leave rfl ?_
          refine OWp.leave rfl ?_
          refine OWp.pickT rfl rfl rfl ?_
          refine OWp.move rfl rfl ?_
          refine OWp.leave rfl ?_
          refine OWp.leave rfl ?_
          refine OWp.pickT rfl rfl rfl ?_
          refine OWp.nil ?_
          refine CWp.condT rfl ?_
          refine CWp.seq ?_
          refine CWp.region ?_
          refine OWp.assign rfl rfl ?_
          refine OWp.nil ?_
          refine CWp.ret ?_
          refine RetQ.one (by first | exact .inl rfl | exact .inr rfl) rfl rfl ?_
          exact h _ false (hk1 H hw hk' hi') ⟨fun e => (by cases e), fun hr => absurd (.inr (.inl (by simp_all))) (hr.2 _ (mem_runes s pos l hl hlt))⟩
      · skip
        first | rw [decide_eq_true hg2] | rw [decide_eq_false hg2] | rw [hg2] | skip
        try simp only [Decidable.not_not] at hg2
        refine OWp.leave rfl ?_
        refine OWp.leave rfl ?_
        refine OWp.pickT rfl rfl rfl ?_
        refine OWp.move rfl rfl ?_
        refine OWp.leave rfl ?_
        refine OWp.leave rfl ?_
        refine OWp.pickT rfl rfl rfl ?_
        refine OWp.move rfl rfl ?_
        refine OWp.leave rfl ?_
        refine OWp.leave rfl ?_
        refine OWp.pickT rfl rfl rfl ?_
        refine OWp.nil ?_
        refine CWp.condT rfl ?_
        refine CWp.seq ?_
        refine CWp.region ?_
        refine OWp.assign rfl rfl ?_
        refine OWp.nil ?_
        refine CWp.ret ?_
        refine RetQ.one (by first | exact .inl rfl | exact .inr rfl) rfl rfl ?_
        exact h _ false (hk1 H hw hk' hi') ⟨fun e => (by cases e), fun hr => absurd (.inl (by rw [← hb]; simp_all)) (hr.2 _ (mem_runes s pos l hl hlt))⟩
    · refine OWp.norm ?_
      have hend : l = runes s := by rw [runesF_end _ _ _ hge, List.append_nil] at hl; exact hl
      refine OWp.extract rfl rfl rfl rfl ?_
      refine OWp.nil ?_
      refine CWp.seq ?_
      refine CWp.condF rfl ?_
      refine CWp.exit ?_
      refine CWp.seq ?_
      refine CWp.region ?_
      refine OWp.move rfl rfl ?_
      refine OWp.binS rfl rfl rfl rfl rfl ?_
      refine OWp.assign rfl rfl ?_
      refine OWp.nil ?_
      refine CWp.ret ?_
      refine RetQ.one (by first | exact .inl rfl | exact .inr rfl) rfl rfl ?_
      refine h _ _ hk' ⟨fun e => ?_, fun hr => decide_eq_true (fun e => by rw [e] at hr; exact absurd hr.1 (by decide))⟩
      have e := of_decide_eq_true e
      exact ⟨Nat.pos_of_ne_zero fun e0 => e (ByteArray.ext (Array.eq_empty_of_size_eq_zero e0)), fun r hr => hall r (hend ▸ hr)⟩

theorem indexRune_spec (r : Nat) (hr : r ≤ 1114111) (H : AH) (Q : Value → AH → Prop) (h : ∀ H', Keeps H H' → Q (.int .i64 (if r = 32 then 0 else if r = 9 then 1 else -1)) H') (hw : WfH H) : FWp Tryz.prog prims00 67 [.string ⟨#[32, 9]⟩, .int .i32 (r : Nat)] H Q := by
  have hsz2 : (⟨#[32, 9]⟩ : ByteArray).size = 2 := rfl
  refine FWp.enter (rfl) Tryz.func67 rfl (e := [.string ⟨#[32, 9]⟩, .int .i32 (r : Nat), undef, undef, undef, undef, undef, undef, undef, undef, undef, undef, undef, undef, undef, undef, undef, undef, undef, undef, undef, undef, undef, undef, undef, undef, undef, undef, undef, undef, undef, undef, undef, undef, undef, undef, undef, undef, undef, undef, undef, undef, undef, undef, undef, undef, undef, undef, undef, undef, undef, undef, undef, undef, undef, undef, undef, undef, undef, undef, undef, undef, undef, undef, undef, undef, undef, undef, undef, undef, undef, undef, undef, undef, undef, undef, undef, undef, undef, undef, undef, undef, undef, undef, undef, undef, undef, undef, undef, undef, undef, undef, undef, undef, undef, undef, undef, undef, undef, undef, undef, undef, undef, undef, undef, undef, undef, undef, undef, undef, undef, undef, undef, undef, undef, undef, undef, undef, undef, undef, undef, undef, undef, undef, undef, undef, undef, undef, undef, undef, undef, undef, undef, undef, undef, undef, undef, undef, undef, undef, undef, undef, undef, undef, undef, undef, undef, undef, undef, undef, undef, undef, undef, undef, undef, undef, undef, undef, undef, undef, undef, undef, undef, undef, undef, undef, undef, undef, undef, undef, undef, undef, undef, undef, undef, undef, undef, undef, undef, undef, undef, undef, undef, undef, undef, undef, undef]) rfl ?_
  refine CWp.seq ?_
  refine CWp.region ?_
  refine OWp.assign rfl rfl ?_
  refine OWp.nil ?_
  refine CWp.block ?_
  refine CWp.seq ?_
  refine CWp.region ?_
  refine OWp.move rfl rfl ?_
  refine OWp.binI rfl rfl rfl rfl rfl ?_
  refine OWp.move rfl rfl ?_
  first | refine OWp.byT rfl (fun hg0 => ?_) (fun hg0 => ?_) | refine OWp.byBT rfl (fun hg0 => ?_) (fun hg0 => ?_)
  · skip
    first | rw [decide_eq_true hg0] | rw [decide_eq_false hg0] | rw [hg0] | skip
    try simp only [Decidable.not_not] at hg0
    refine OWp.move rfl rfl ?_
    refine OWp.binI rfl rfl rfl rfl rfl ?_
    refine OWp.pickT rfl rfl rfl ?_
    refine OWp.assign rfl rfl ?_
    refine OWp.nil ?_
    first | refine CWp.condP rfl (fun h1 => ?_) (fun h1 => ?_) | refine CWp.cond rfl (fun h1 => ?_) (fun h1 => ?_)
    · skip
      first | rw [decide_eq_true h1] | rw [decide_eq_false h1] | rw [h1] | skip
      refine CWp.seq ?_
      refine CWp.region ?_
      refine OWp.move rfl rfl ?_
      refine OWp.move rfl rfl ?_
      refine OWp.convI rfl rfl Tryz.underlying21 Tryz.underlying5 rfl (wrap_u8 (by omega)) ?_
      refine OWp.call rfl rfl rfl rfl ?_
      refine FWp.prim (g := primIndexByte) rfl rfl ?_
      refine OWp.norm ?_
      refine OWp.assign rfl rfl ?_
      refine OWp.nil ?_
      refine CWp.ret ?_
      refine RetQ.one (by first | exact .inl rfl | exact .inr rfl) rfl rfl ?_
      have h9 := idx_sp ⟨r, by omega⟩
      have h10 := h _ (Keeps.refl hw)
      refine Q_val h10 ?_
      rw [← h9]
      rfl
    · skip
      first | rw [decide_eq_true h1] | rw [decide_eq_false h1] | rw [h1] | skip
      refine CWp.seq ?_
      refine CWp.region ?_
      refine OWp.move rfl rfl ?_
      refine OWp.binI rfl rfl rfl rfl rfl ?_
      refine OWp.assign rfl rfl ?_
      refine OWp.nil ?_
      first | refine CWp.condP rfl (fun h2 => ?_) (fun h2 => ?_) | refine CWp.cond rfl (fun h2 => ?_) (fun h2 => ?_)
      · skip
        first | rw [decide_eq_true h2] | rw [decide_eq_false h2] | rw [h2] | skip
        refine CWp.seq ?_
        refine CWp.seq ?_
        refine CWp.region ?_
        refine OWp.move rfl rfl ?_
        refine OWp.rangeS hw rfl rfl Tryz.underlying9 rfl (fun H1 i hw1 hk1 hi1 ho1 => ?_)
        refine OWp.norm ?_
        refine OWp.nil ?_
        refine CWp.block ?_
        refine CWp.loop (fun k e H' => ∃ (i pos : Nat) (g : Nat → Value), e = [.string ⟨#[32, 9]⟩, .int .i32 (r : Nat), g 2, g 3, g 4, g 5, g 6, g 7, g 8, g 9, g 10, g 11, g 12, g 13, g 14, g 15, g 16, g 17, g 18, g 19, g 20, g 21, g 22, g 23, g 24, g 25, g 26, g 27, g 28, g 29, g 30, g 31, g 32, g 33, g 34, g 35, g 36, g 37, g 38, g 39, g 40, g 41, g 42, g 43, g 44, g 45, g 46, g 47, g 48, g 49, g 50, g 51, g 52, g 53, g 54, g 55, g 56, g 57, g 58, g 59, g 60, g 61, g 62, g 63, g 64, g 65, g 66, g 67, g 68, g 69, g 70, g 71, g 72, g 73, g 74, g 75, g 76, g 77, g 78, g 79, g 80, g 81, g 82, g 83, g 84, g 85, g 86, g 87, g 88, g 89, g 90, g 91, g 92, g 93, g 94, g 95, g 96, g 97, g 98, g 99, g 100, g 101, g 102, g 103, g 104, g 105, g 106, g 107, g 108, g 109, g 110, g 111, g 112, g 113, g 114, g 115, g 116, g 117, g 118, g 119, g 120, g 121, g 122, g 123, g 124, g 125, g 126, g 127, g 128, g 129, g 130, g 131, g 132, g 133, g 134, g 135, g 136, g 137, g 138, g 139, g 140, g 141, g 142, g 143, g 144, g 145, g 146, g 147, g 148, g 149, g 150, g 151, g 152, g 153, g 154, g 155, g 156, g 157, g 158, g 159, g 160, g 161, g 162, g 163, g 164, g 165, g 166, g 167, g 168, g 169, g 170, g 171, g 172, g 173, g 174, .pointer (some ⟨i, 0, none⟩), g 176, g 177, g 178, g 179, g 180, g 181, g 182, g 183, g 184, g 185, g 186] ∧ k = 2 - pos ∧ WfH H' ∧ Keeps H H' ∧ H.next ≤ i ∧ Own H' i (.stringIter ⟨#[32, 9]⟩ pos) true ∧ pos ≤ 2) ?_ ?_
        · exact ⟨_, i, 0, ex_env rfl ⟨rfl, hw1, hk1, hi1, ho1, by omega⟩⟩
        · rintro k e H' ⟨i, pos, g, rfl, rfl, hw', hk', hi', hit, hp2⟩
          refine CWp.seq ?_
          refine CWp.region ?_
          refine OWp.nextS hw' hit rfl rfl rfl (fun hlt H1 hw1 hk1 hot hit1 hse1 hnx => ?_) (fun hge => ?_)
          · refine OWp.norm ?_
            have hlt2 : pos < 2 := hlt
            have hd := dec_bytes ⟨#[32, 9]⟩ pos hlt
            have hby := byte_sp pos hlt2
            have hd1 : (Utf8.decode ⟨#[32, 9]⟩ pos).2 = 1 ∧ (Utf8.decode ⟨#[32, 9]⟩ pos).1 < 128 := by
              rcases hd with h1 | h1
              · exact ⟨h1.2.1, h1.2.2⟩
              · have := h1.2.2 pos (Nat.le_refl _) (by have := Lib.decode_width_pos ⟨#[32, 9]⟩ pos hlt; omega); omega
            refine OWp.extract rfl rfl rfl rfl ?_
            refine OWp.nil ?_
            refine CWp.seq ?_
            refine CWp.condT rfl ?_
            refine CWp.skip ?_
            refine CWp.block ?_
            refine CWp.seq ?_
            refine CWp.region ?_
            refine OWp.extract rfl rfl rfl rfl ?_
            refine OWp.extract rfl rfl rfl rfl ?_
            refine OWp.assign rfl rfl ?_
            refine OWp.assign rfl rfl ?_
            refine OWp.nil ?_
            refine CWp.seq ?_
            refine CWp.region ?_
            refine OWp.move rfl rfl ?_
            refine OWp.binI rfl rfl rfl rfl rfl ?_
            refine OWp.nil ?_
            first | refine CWp.condP rfl (fun h5 => ?_) (fun h5 => ?_) | refine CWp.cond rfl (fun h5 => ?_) (fun h5 => ?_)
            · skip
              omega
            · skip
              first | rw [decide_eq_true h5] | rw [decide_eq_false h5] | rw [h5] | skip
              refine CWp.skip ?_
              exact ⟨_, by omega, i, pos + (Utf8.decode ⟨#[32, 9]⟩ pos).2, ex_env rfl ⟨rfl, hw1, hk1 H hw hk' hi', hi', hit1, by omega⟩⟩
          · refine OWp.norm ?_
            refine OWp.extract rfl rfl rfl rfl ?_
            refine OWp.nil ?_
            refine CWp.seq ?_
            refine CWp.condF rfl ?_
            refine CWp.exit ?_
            refine CWp.seq ?_
            refine CWp.region ?_
            refine OWp.assign rfl rfl ?_
            refine OWp.nil ?_
            refine CWp.ret ?_
            refine RetQ.one (by first | exact .inl rfl | exact .inr rfl) rfl rfl ?_
            have h10 := h _ hk'
            rw [if_neg (by omega), if_neg (by omega)] at h10
            exact h10
      · skip
        first | rw [decide_eq_true h2] | rw [decide_eq_false h2] | rw [h2] | skip
        refine CWp.seq ?_
        refine CWp.region ?_
        refine OWp.move rfl rfl ?_
        refine OWp.call rfl rfl rfl rfl ?_
        refine validRune_spec _ _ _ (fun b hb => ?_)
        refine OWp.norm ?_
        first | refine OWp.notD rfl rfl rfl ?_ | refine OWp.notB rfl rfl rfl ?_
        refine OWp.assign rfl rfl ?_
        refine OWp.nil ?_
        first | refine CWp.condP rfl (fun h3 => ?_) (fun h3 => ?_) | refine CWp.cond rfl (fun h3 => ?_) (fun h3 => ?_)
        · skip
          first | rw [decide_eq_true h3] | rw [decide_eq_false h3] | rw [h3] | skip
          refine CWp.seq ?_
          refine CWp.region ?_
          refine OWp.assign rfl rfl ?_
          refine OWp.nil ?_
          refine CWp.ret ?_
          refine RetQ.one (by first | exact .inl rfl | exact .inr rfl) rfl rfl ?_
          have h10 := h _ (Keeps.refl hw)
          rw [if_neg (by omega), if_neg (by omega)] at h10
          exact h10
        · skip
          first | rw [decide_eq_true h3] | rw [decide_eq_false h3] | rw [h3] | skip
          refine CWp.scope ?_
          refine CWp.seq ?_
          refine CWp.region ?_
          refine OWp.move rfl rfl ?_
          refine OWp.convIS rfl rfl Tryz.underlying21 Tryz.underlying9 rfl ?_
          obtain ⟨z1, z2, z3⟩ := enc_hi r (by omega)
          generalize Utf8.encode (r : Int) = rs at z1 z2 z3
          refine OWp.assign rfl rfl ?_
          refine OWp.nil ?_
          refine CWp.seq ?_
          refine CWp.region ?_
          refine OWp.move rfl rfl ?_
          refine OWp.lenS rfl rfl rfl rfl rfl Tryz.underlying9 rfl ?_
          refine OWp.subI rfl rfl rfl rfl (by omega) ?_
          refine OWp.assign rfl rfl ?_
          refine OWp.nil ?_
          refine CWp.seq ?_
          refine CWp.region ?_
          refine OWp.move rfl rfl ?_
          refine OWp.assign rfl rfl ?_
          refine OWp.nil ?_
          refine CWp.seq ?_
          refine CWp.region ?_
          refine OWp.assign rfl rfl ?_
          refine OWp.nil ?_
          refine CWp.seq ?_
          refine CWp.block ?_
          refine CWp.loop (fun k e H' => ∃ (g : Nat → Value), e = [.string ⟨#[32, 9]⟩, .int .i32 (r : Nat), g 2, g 3, g 4, g 5, g 6, .string rs, .int .i64 ((rs.size : Int) - 1), .int .i64 ((rs.size : Int) - 1), .int .i64 0, g 11, g 12, g 13, g 14, g 15, g 16, g 17, g 18, g 19, g 20, g 21, g 22, g 23, g 24, g 25, g 26, g 27, g 28, g 29, g 30, g 31, g 32, g 33, g 34, g 35, g 36, g 37, g 38, g 39, g 40, g 41, g 42, g 43, g 44, g 45, g 46, g 47, g 48, g 49, g 50, g 51, g 52, g 53, g 54, g 55, g 56, g 57, g 58, g 59, g 60, g 61, g 62, g 63, g 64, g 65, g 66, g 67, g 68, g 69, g 70, g 71, g 72, g 73, g 74, g 75, g 76, g 77, g 78, g 79, g 80, g 81, g 82, g 83, g 84, g 85, g 86, g 87, g 88, g 89, g 90, g 91, g 92, g 93, g 94, g 95, g 96, g 97, g 98, g 99, g 100, g 101, g 102, g 103, g 104, g 105, g 106, g 107, g 108, g 109, g 110, g 111, g 112, g 113, g 114, g 115, g 116, g 117, g 118, g 119, g 120, g 121, g 122, g 123, g 124, g 125, g 126, g 127, g 128, g 129, g 130, g 131, g 132, g 133, g 134, g 135, g 136, g 137, g 138, g 139, g 140, g 141, g 142, g 143, g 144, g 145, g 146, g 147, g 148, g 149, g 150, g 151, g 152, g 153, g 154, g 155, g 156, g 157, g 158, g 159, g 160, g 161, g 162, g 163, g 164, g 165, g 166, g 167, g 168, g 169, g 170, g 171, g 172, g 173, g 174, g 175, g 176, g 177, g 178, g 179, g 180, g 181, g 182, g 183, g 184, g 185, g 186] ∧ k = 0 ∧ H = H' ∧ True) ?_ ?_
          · exact ⟨_, ex_env rfl ⟨rfl, rfl, trivial⟩⟩
          · rintro k e H' ⟨g, rfl, rfl, rfl, _⟩
            refine CWp.seq ?_
            refine CWp.seq ?_
            refine CWp.region ?_
            refine OWp.move rfl rfl ?_
            refine OWp.move rfl rfl ?_
            refine OWp.lenS rfl rfl rfl rfl rfl Tryz.underlying9 rfl ?_
            refine OWp.binI rfl rfl rfl rfl rfl ?_
            refine OWp.nil ?_
            first | refine CWp.condP rfl (fun h5 => ?_) (fun h5 => ?_) | refine CWp.cond rfl (fun h5 => ?_) (fun h5 => ?_)
            · skip
              first | rw [decide_eq_true h5] | rw [decide_eq_false h5] | rw [h5] | skip
              refine CWp.skip ?_
              refine CWp.block ?_
              refine CWp.scope ?_
              refine CWp.seq ?_
              refine CWp.seq ?_
              refine CWp.drawn (by kernel_rfl) ?_
              refine OWp.move rfl rfl ?_
              refine OWp.move rfl rfl ?_
              refine OWp.indexS rfl rfl Tryz.underlying9 rfl rfl (by omega) (by omega) ?_
              refine OWp.move rfl rfl ?_
              refine OWp.move rfl rfl ?_
              refine OWp.indexS rfl rfl Tryz.underlying9 rfl rfl (by omega) (by omega) ?_
              refine OWp.binI rfl rfl rfl rfl rfl ?_
              refine OWp.nil ?_
              first | refine CWp.condP rfl (fun h6 => ?_) (fun h6 => ?_) | refine CWp.cond rfl (fun h6 => ?_) (fun h6 => ?_)
              · skip
                first | rw [decide_eq_true h6] | rw [decide_eq_false h6] | rw [h6] | skip
                refine CWp.seq ?_
                refine CWp.drawn1 (by kernel_rfl) ?_
                refine OWp.move rfl rfl ?_
                refine OWp.move rfl rfl ?_
                refine OWp.addI rfl rfl rfl rfl (by omega) ?_
                refine OWp.sliceS rfl rfl Tryz.underlying9 rfl rfl rfl (by omega) (by omega) (by omega) ?_
                refine OWp.move rfl rfl ?_
                refine OWp.move rfl rfl ?_
                refine OWp.indexS rfl rfl Tryz.underlying9 rfl rfl (by omega) (by omega) ?_
                refine OWp.call rfl rfl rfl rfl ?_
                refine FWp.prim (g := primIndexByte) rfl rfl ?_
                refine OWp.norm ?_
                refine OWp.assign rfl rfl ?_
                refine OWp.nil ?_
                refine CWp.seq ?_
                refine CWp.seq ?_
                refine CWp.region ?_
                refine OWp.move rfl rfl ?_
                refine OWp.binI rfl rfl rfl rfl rfl ?_
                refine OWp.nil ?_
                first | refine CWp.condP rfl (fun h7 => ?_) (fun h7 => ?_) | refine CWp.cond rfl (fun h7 => ?_) (fun h7 => ?_)
                · skip
                  first | rw [decide_eq_true h7] | rw [decide_eq_false h7] | rw [h7] | skip
                  refine CWp.seq ?_
                  refine CWp.region ?_
                  refine OWp.assign rfl rfl ?_
                  refine OWp.nil ?_
                  refine CWp.ret ?_
                  refine RetQ.one (by first | exact .inl rfl | exact .inr rfl) rfl rfl ?_
                  have h10 := h _ (Keeps.refl hw)
                  rw [if_neg (by omega), if_neg (by omega)] at h10
                  exact h10
                · skip
                  have e2 : rs.size = 2 := by omega
                  rw [e2] at h7
                  exact absurd (show (-1 : Int) < 0 by decide) h7
              · skip
                have e1 : ((rs.size : Int) - 1) = ((rs.size - 1 : Nat) : Int) := by omega
                rw [e1] at h6
                have h9 := byte_sp (rs.size - 1) (by omega)
                exact absurd h6 (by omega)
            · skip
              first | rw [decide_eq_true h5] | rw [decide_eq_false h5] | rw [h5] | skip
              refine CWp.exit ?_
              refine CWp.seq ?_
              refine CWp.seq ?_
              refine CWp.region ?_
              refine OWp.assign rfl rfl ?_
              refine OWp.nil ?_
              refine CWp.ret ?_
              refine RetQ.one (by first | exact .inl rfl | exact .inr rfl) rfl rfl ?_
              have h10 := h _ (Keeps.refl hw)
              rw [if_neg (by omega), if_neg (by omega)] at h10
              exact h10
  · skip
    exact absurd (Int.natCast_nonneg r) hg0

theorem ixaShort_spec (s : ByteArray) (hs : s.size ≤ 8) (H : AH) (Q : Value → AH → Prop) (h : ∀ H', Keeps H H' → Q (.int .i64 (if wordN s < s.size then (wordN s : Int) else -1)) H') (hw : WfH H) : FWp Tryz.prog prims00 55 [.string s, .string ⟨#[32, 9]⟩] H Q := by
  have hsz2 : (⟨#[32, 9]⟩ : ByteArray).size = 2 := rfl
  refine FWp.enter (rfl) Tryz.func55 rfl (e := [.string s, .string ⟨#[32, 9]⟩, undef, undef, undef, undef, undef, undef, undef, undef, undef, undef, undef, undef, undef, undef, undef, undef, undef, undef, undef, undef, undef, undef, undef, undef, undef, undef, undef, undef, undef, undef, undef, undef, undef, undef, undef, undef, undef, undef, undef, undef, undef, undef, undef, undef, undef, undef, undef, undef, undef, undef, undef, undef, undef]) rfl ?_
  refine CWp.seq ?_
  refine CWp.region ?_
  refine OWp.assign rfl rfl ?_
  refine OWp.nil ?_
  refine CWp.seq ?_
  refine CWp.seq ?_
  refine CWp.region ?_
  refine OWp.move rfl rfl ?_
  refine OWp.binS rfl rfl rfl rfl rfl ?_
  refine OWp.nil ?_
  first | refine CWp.condP rfl (fun h0 => ?_) (fun h0 => ?_) | refine CWp.cond rfl (fun h0 => ?_) (fun h0 => ?_)
  · skip
    exact absurd (congrArg ByteArray.size h0) (by decide)
  · skip
    first | rw [decide_eq_true h0] | rw [decide_eq_false h0] | rw [h0] | skip
    refine CWp.skip ?_
    refine CWp.seq ?_
    refine CWp.seq ?_
    refine CWp.region ?_
    refine OWp.move rfl rfl ?_
    refine OWp.lenS rfl rfl rfl rfl rfl Tryz.underlying9 rfl ?_
    refine OWp.binI rfl rfl rfl rfl rfl ?_
    refine OWp.nil ?_
    first | refine CWp.condP rfl (fun h1 => ?_) (fun h1 => ?_) | refine CWp.cond rfl (fun h1 => ?_) (fun h1 => ?_)
    · skip
      exact absurd h1 (by decide)
    · skip
      first | rw [decide_eq_true h1] | rw [decide_eq_false h1] | rw [h1] | skip
      refine CWp.skip ?_
      refine CWp.seq ?_
      refine CWp.seq ?_
      refine CWp.region ?_
      refine OWp.move rfl rfl ?_
      refine OWp.lenS rfl rfl rfl rfl rfl Tryz.underlying9 rfl ?_
      refine OWp.call rfl rfl rfl rfl ?_
      refine use_spec _ _ _ ?_
      refine OWp.norm ?_
      refine OWp.nil ?_
      first | refine CWp.condP rfl (fun h2 => ?_) (fun h2 => ?_) | refine CWp.cond rfl (fun h2 => ?_) (fun h2 => ?_)
      · skip
        omega
      · skip
        first | rw [decide_eq_true h2] | rw [decide_eq_false h2] | rw [h2] | skip
        refine CWp.skip ?_
        refine CWp.seq ?_
        refine CWp.seq ?_
        refine CWp.region ?_
        refine OWp.move rfl rfl ?_
        refine OWp.rangeS hw rfl rfl Tryz.underlying9 rfl (fun H1 i hw1 hk1 hi1 ho1 => ?_)
        refine OWp.norm ?_
        refine OWp.nil ?_
        refine CWp.block ?_
        refine CWp.loop (fun k e H' => ∃ (i pos : Nat) (g : Nat → Value), e = [.string s, .string ⟨#[32, 9]⟩, g 2, g 3, g 4, g 5, g 6, g 7, g 8, g 9, g 10, g 11, g 12, g 13, g 14, g 15, g 16, g 17, g 18, g 19, g 20, g 21, g 22, g 23, g 24, g 25, g 26, g 27, g 28, g 29, g 30, g 31, g 32, g 33, g 34, g 35, g 36, g 37, g 38, g 39, g 40, g 41, g 42, g 43, g 44, .pointer (some ⟨i, 0, none⟩), g 46, g 47, g 48, g 49, g 50, g 51, g 52, g 53, g 54] ∧ k = s.size - pos ∧ WfH H' ∧ Keeps H H' ∧ H.next ≤ i ∧ Own H' i (.stringIter s pos) true ∧ pos ≤ s.size ∧ ∀ j : Nat, j < pos → ¬ gapB (byteAt s (j : Nat))) ?_ ?_
        · exact ⟨_, i, 0, ex_env rfl ⟨rfl, hw1, hk1, hi1, ho1, by omega, fun j hj => absurd hj (Nat.not_lt_zero _)⟩⟩
        · rintro k e H' ⟨i, pos, g, rfl, rfl, hw', hk', hi', hit, hpos, hall⟩
          refine CWp.seq ?_
          refine CWp.region ?_
          refine OWp.nextS hw' hit rfl rfl rfl (fun hlt H1 hw1 hk1 hot hit1 hse1 hnx => ?_) (fun hge => ?_)
          · refine OWp.norm ?_
            have hwid := Lib.decode_width_pos s pos hlt
            have hd := dec_bytes s pos hlt
            refine OWp.extract rfl rfl rfl rfl ?_
            refine OWp.nil ?_
            refine CWp.seq ?_
            refine CWp.condT rfl ?_
            refine CWp.skip ?_
            refine CWp.block ?_
            refine CWp.seq ?_
            refine CWp.region ?_
            refine OWp.extract rfl rfl rfl rfl ?_
            refine OWp.extract rfl rfl rfl rfl ?_
            refine OWp.assign rfl rfl ?_
            refine OWp.assign rfl rfl ?_
            refine OWp.nil ?_
            refine CWp.seq ?_
            refine CWp.region ?_
            refine OWp.move rfl rfl ?_
            refine OWp.move rfl rfl ?_
            refine OWp.call rfl rfl rfl rfl ?_
            refine indexRune_spec _ (Lib.rune_le _ _) _ _ ?_ hw1
            intro Hx hkx
            refine OWp.norm ?_
            refine OWp.binI rfl rfl rfl rfl rfl ?_
            refine OWp.nil ?_
            first | refine CWp.condP rfl (fun h5 => ?_) (fun h5 => ?_) | refine CWp.cond rfl (fun h5 => ?_) (fun h5 => ?_)
            · skip
              first | rw [decide_eq_true h5] | rw [decide_eq_false h5] | rw [h5] | skip
              refine CWp.seq ?_
              refine CWp.region ?_
              refine OWp.move rfl rfl ?_
              refine OWp.assign rfl rfl ?_
              refine OWp.nil ?_
              refine CWp.ret ?_
              refine RetQ.one (by first | exact .inl rfl | exact .inr rfl) rfl rfl ?_
              have e9 : wordN s = pos := word_unique (wordN_end s) ⟨hpos, hall, fun _ => isgap s pos hlt (by by_cases e : (Utf8.decode s pos).1 = 32; exact .inl e; rw [if_neg e] at h5; by_cases e2 : (Utf8.decode s pos).1 = 9; exact .inr e2; rw [if_neg e2] at h5; omega)⟩
              have h10 := h _ ((hk1 H hw hk' hi').trans hkx hw)
              rw [e9, if_pos hlt] at h10
              exact h10
            · skip
              first | rw [decide_eq_true h5] | rw [decide_eq_false h5] | rw [h5] | skip
              refine CWp.skip ?_
              exact ⟨_, by omega, i, pos + (Utf8.decode s pos).2, ex_env rfl ⟨rfl, hkx.wf, (hk1 H hw hk' hi').trans hkx hw, hi', hit1.keep hw1 hkx, by rcases hd with h9 | h9 <;> omega, fun j hj hg => by by_cases hjp : j < pos; exact hall j hjp hg; exact nogap s pos hlt (by intro e; rw [if_pos e] at h5; exact h5 (by omega)) (by intro e; rw [if_neg (by omega), if_pos e] at h5; exact h5 (by omega)) j (by omega) hj hg⟩⟩
          · refine OWp.norm ?_
            refine OWp.extract rfl rfl rfl rfl ?_
            refine OWp.nil ?_
            refine CWp.seq ?_
            refine CWp.condF rfl ?_
            refine CWp.exit ?_
            refine CWp.seq ?_
            refine CWp.region ?_
            refine OWp.assign rfl rfl ?_
            refine OWp.nil ?_
            refine CWp.ret ?_
            refine RetQ.one (by first | exact .inl rfl | exact .inr rfl) rfl rfl ?_
            have e9 : wordN s = pos := word_unique (wordN_end s) ⟨hpos, hall, fun hh => absurd hh hge⟩
            have h10 := h _ hk'
            rw [e9, if_neg hge] at h10
            exact h10

end Go.Proofs.YtnlkgnoogcakjaaGreatDoor.Ev
