import Derived.Test.YtpfhkjbnofgikaaDoorEvL1
import Derived.Test.YtpfhkjbnofgikaaDoorEvPrimsL
import Derived.Test.YtpfhkjbnofgikaaDoorProg
import Derived.KernelRfl
namespace Go.Proofs.YtpfhkjbnofgikaaDoor.Ev
open Go
set_option linter.unusedVariables false
set_option linter.unusedSimpArgs false
section
variable {P : Program} {prims : Prims} {ops : Array Oper} {o : Oper} {r : List Oper} {e e' : List Value} {H H1 : AH} {Q : List Value → AH → Prop}
theorem OWp.maxI {ca : Call} {x y : Operand} {k k' : IntKind} {a b : Int} (hg : guardA ops o e = some true) (ho : o.op = .call ca) (hc : ca.callee = .builtin .max) (ha : ca.args = #[x, y]) (hx : rho e x = .int k a) (hy : rho e y = .int k' b)
    (hk : OWp P prims ops r e' H Q) (he : putE e o.dst (.int k (if b > a then b else a)) = e' := by simp only [putE, rho, List.set_cons_zero, List.set_cons_succ, List.getD_cons_zero, List.getD_cons_succ]; exact rfl) : OWp P prims ops (o :: r) e H Q := by
  refine OWp.step hg (fun call => ?_) he hk
  have hf : flatOp P o (rho e) = some (.int k (if b > a then b else a)) := by
    refine flat_op (by rw [ho]; simp [Op.operands, Call.operands, hc, ha, hx, hy, flatB, flat2, flat1, atomB]) ?_ rfl
    unfold execOp
    rw [ho]
    simp [resolve, hc, ha, hx, hy, pr_bind, pr_pure, invoke, builtin, Builtin.max_, Builtin.max2]
  unfold evOp
  simp only [ho, callA, hc, hf, Option.map_some]
end
theorem ix_ws : ∀ k : Fin 256, (0 ≤ Lib.indexByte [32, 9] (k.val.toUInt8)) ↔ (k.val = 32 ∨ k.val = 9) := by decide +kernel
theorem ix_br : ∀ k : Fin 256, (0 ≤ Lib.indexByte [42, 45, 95] (k.val.toUInt8)) ↔ (k.val = 42 ∨ k.val = 45 ∨ k.val = 95) := by decide +kernel
theorem ix_it : ∀ k : Fin 256, (0 ≤ Lib.indexByte [42, 45, 43] (k.val.toUInt8)) ↔ (k.val = 42 ∨ k.val = 45 ∨ k.val = 43) := by decide +kernel
theorem ws_spec (c : Int) (hc : 0 ≤ c ∧ c < 256) (H : AH) (Q : Value → AH → Prop) (h : ∀ r : Int, (0 ≤ r ↔ gapB c) → Q (.int .i64 r) H) : FWp Tryd.prog prims 20 [.string ⟨#[32, 9]⟩, .int .u8 c] H Q := by
  refine FWp.prim rfl rfl (h _ ?_)
  have := ix_ws ⟨c.toNat, by omega⟩
  show (0 ≤ Lib.indexByte [32, 9] (c.toNat.toUInt8)) ↔ _
  rw [this]; unfold gapB; simp only; omega
theorem br_spec (c : Int) (hc : 0 ≤ c ∧ c < 256) (H : AH) (Q : Value → AH → Prop) (h : ∀ r : Int, (0 ≤ r ↔ c = 42 ∨ c = 45 ∨ c = 95) → Q (.int .i64 r) H) : FWp Tryd.prog prims 20 [.string ⟨#[42, 45, 95]⟩, .int .u8 c] H Q := by
  refine FWp.prim rfl rfl (h _ ?_)
  have := ix_br ⟨c.toNat, by omega⟩
  show (0 ≤ Lib.indexByte [42, 45, 95] (c.toNat.toUInt8)) ↔ _
  rw [this]; simp only; omega
theorem it_spec (c : Int) (hc : 0 ≤ c ∧ c < 256) (H : AH) (Q : Value → AH → Prop) (h : ∀ r : Int, (0 ≤ r ↔ c = 42 ∨ c = 45 ∨ c = 43) → Q (.int .i64 r) H) : FWp Tryd.prog prims 20 [.string ⟨#[42, 45, 43]⟩, .int .u8 c] H Q := by
  refine FWp.prim rfl rfl (h _ ?_)
  have := ix_it ⟨c.toNat, by omega⟩
  show (0 ≤ Lib.indexByte [42, 45, 43] (c.toNat.toUInt8)) ↔ _
  rw [this]; simp only; omega
theorem trimW_spec (s : ByteArray) (hs : s.size ≤ 9000000) (H : AH) (Q : Value → AH → Prop) (h : Q (.string (trW s)) H) : FWp Tryd.prog prims 21 [.string s, .string ⟨#[32, 9]⟩] H Q :=
  FWp.prim rfl (if_pos (⟨by decide, by omega⟩ : asciiB ⟨#[32, 9]⟩ = true ∧ s.size ≤ 9223372036854775807)) h
theorem backH_spec (s : ByteArray) (hs : s.size ≤ 9000000) (H : AH) (Q : Value → AH → Prop) (h : Q (.string (backC s ⟨#[35]⟩)) H) : FWp Tryd.prog prims 22 [.string s, .string ⟨#[35]⟩] H Q :=
  FWp.prim rfl (if_pos (⟨by decide, by omega⟩ : asciiB ⟨#[35]⟩ = true ∧ s.size ≤ 9223372036854775807)) h
theorem backW_spec (s : ByteArray) (hs : s.size ≤ 9000000) (H : AH) (Q : Value → AH → Prop) (h : Q (.string (backC s WS)) H) : FWp Tryd.prog prims 22 [.string s, .string ⟨#[32, 9]⟩] H Q :=
  FWp.prim rfl (if_pos (⟨by decide, by omega⟩ : asciiB ⟨#[32, 9]⟩ = true ∧ s.size ≤ 9223372036854775807)) h
theorem repeat_one : ∀ k, Lib.repeatL [32] k = List.replicate k 32
  | 0 => rfl
  | k + 1 => by rw [Lib.repeatL, repeat_one k]; rfl
theorem rep_spec (c : Int) (hc : 0 ≤ c ∧ c ≤ 1000000) (H : AH) (Q : Value → AH → Prop) (h : Q (.string (spaces c.toNat)) H) : FWp Tryd.prog prims 42 [.string ⟨#[32]⟩, .int .i64 c] H Q := by
  have e : (⟨(Lib.repeatL (⟨#[32]⟩ : ByteArray).data.toList c.toNat).toArray⟩ : ByteArray) = spaces c.toNat := by
    show (⟨(Lib.repeatL [32] c.toNat).toArray⟩ : ByteArray) = _
    rw [repeat_one]; rfl
  exact FWp.prim rfl (if_pos (⟨hc.1, hc.2, by decide⟩ : 0 ≤ c ∧ c ≤ 1000000 ∧ (⟨#[32]⟩ : ByteArray).size ≤ 1000000)) (e ▸ h)

theorem white_spec (c : Int) (H : AH) (Q : Value → AH → Prop) (h : ∀ b : Bool, (b = true ↔ gapB c) → Q (.bool b) H) : FWp Tryd.prog prims 40 [.int .u8 c] H Q := by
  refine FWp.enter (rfl) Tryd.func40 rfl (e := [.int .u8 c, undef, undef, undef, undef, undef, undef, undef, undef]) rfl ?_
  refine CWp.seq ?_
  refine CWp.region ?_
  refine OWp.assign rfl rfl ?_
  refine OWp.nil ?_
  refine CWp.seq ?_
  refine CWp.region ?_
  refine OWp.move rfl rfl ?_
  refine OWp.binI rfl rfl rfl rfl rfl ?_
  refine OWp.move rfl rfl ?_
  first | refine OWp.byF rfl (fun hg0 => ?_) (fun hg0 => ?_) | refine OWp.byBF rfl (fun hg0 => ?_) (fun hg0 => ?_)
  · skip
    first | rw [decide_eq_true hg0] | rw [decide_eq_false hg0] | rw [hg0] | skip
    try simp only [Decidable.not_not] at hg0
    refine OWp.move rfl rfl ?_
    refine OWp.binI rfl rfl rfl rfl rfl ?_
    refine OWp.pickF rfl rfl rfl ?_
    refine OWp.assign rfl rfl ?_
    refine OWp.nil ?_
    refine CWp.ret ?_
    refine RetQ.one (by first | exact .inl rfl | exact .inr rfl) rfl rfl ?_
    exact h _ (by simp [gapB, *])
  · skip
    first | rw [decide_eq_true hg0] | rw [decide_eq_false hg0] | rw [hg0] | skip
    try simp only [Decidable.not_not] at hg0
    refine OWp.leave rfl ?_
    refine OWp.leave rfl ?_
    refine OWp.pickT rfl rfl rfl ?_
    refine OWp.assign rfl rfl ?_
    refine OWp.nil ?_
    refine CWp.ret ?_
    refine RetQ.one (by first | exact .inl rfl | exact .inr rfl) rfl rfl ?_
    exact h _ (by simp [gapB, *])

theorem gap_spec (c : Int) (H : AH) (Q : Value → AH → Prop) (h : ∀ b : Bool, (b = true ↔ gapB c) → Q (.bool b) H) : FWp Tryd.prog prims 43 [.int .u8 c] H Q := by
  refine FWp.enter (rfl) Tryd.func43 rfl (e := [.int .u8 c, undef, undef, undef, undef, undef, undef, undef, undef]) rfl ?_
  refine CWp.seq ?_
  refine CWp.region ?_
  refine OWp.assign rfl rfl ?_
  refine OWp.nil ?_
  refine CWp.seq ?_
  refine CWp.region ?_
  refine OWp.move rfl rfl ?_
  refine OWp.binI rfl rfl rfl rfl rfl ?_
  refine OWp.move rfl rfl ?_
  first | refine OWp.byF rfl (fun hg0 => ?_) (fun hg0 => ?_) | refine OWp.byBF rfl (fun hg0 => ?_) (fun hg0 => ?_)
  · skip
    first | rw [decide_eq_true hg0] | rw [decide_eq_false hg0] | rw [hg0] | skip
    try simp only [Decidable.not_not] at hg0
    refine OWp.move rfl rfl ?_
    refine OWp.binI rfl rfl rfl rfl rfl ?_
    refine OWp.pickF rfl rfl rfl ?_
    refine OWp.assign rfl rfl ?_
    refine OWp.nil ?_
    refine CWp.ret ?_
    refine RetQ.one (by first | exact .inl rfl | exact .inr rfl) rfl rfl ?_
    exact h _ (by simp [gapB, *])
  · skip
    first | rw [decide_eq_true hg0] | rw [decide_eq_false hg0] | rw [hg0] | skip
    try simp only [Decidable.not_not] at hg0
    refine OWp.leave rfl ?_
    refine OWp.leave rfl ?_
    refine OWp.pickT rfl rfl rfl ?_
    refine OWp.assign rfl rfl ?_
    refine OWp.nil ?_
    refine CWp.ret ?_
    refine RetQ.one (by first | exact .inl rfl | exact .inr rfl) rfl rfl ?_
    exact h _ (by simp [gapB, *])

theorem stepC_spec (col c : Int) (hc : 0 ≤ col ∧ col ≤ 1000000000) (H : AH) (Q : Value → AH → Prop) (h : Q (.int .i64 (stepF col c)) H) : FWp Tryd.prog prims 41 [.int .i64 col, .int .u8 c] H Q := by
  refine FWp.enter (rfl) Tryd.func41 rfl (e := [.int .i64 col, .int .u8 c, undef, undef, undef, undef, undef, undef, undef, undef, undef, undef, undef, undef]) rfl ?_
  refine CWp.seq ?_
  refine CWp.region ?_
  refine OWp.assign rfl rfl ?_
  refine OWp.nil ?_
  refine CWp.seq ?_
  refine CWp.seq ?_
  refine CWp.region ?_
  refine OWp.move rfl rfl ?_
  refine OWp.binI rfl rfl rfl rfl rfl ?_
  refine OWp.nil ?_
  first | refine CWp.condP rfl (fun h0 => ?_) (fun h0 => ?_) | refine CWp.cond rfl (fun h0 => ?_) (fun h0 => ?_)
  · skip
    first | rw [decide_eq_true h0] | rw [decide_eq_false h0] | rw [h0] | skip
    refine CWp.seq ?_
    refine CWp.region ?_
    refine OWp.move rfl rfl ?_
    refine OWp.move rfl rfl ?_
    refine OWp.remI rfl rfl rfl rfl (by omega) ?_
    refine OWp.subI rfl rfl rfl rfl (by omega) ?_
    refine OWp.addI rfl rfl rfl rfl (by omega) ?_
    refine OWp.assign rfl rfl ?_
    refine OWp.nil ?_
    refine CWp.ret ?_
    refine RetQ.one (by first | exact .inl rfl | exact .inr rfl) rfl rfl ?_
    exact Q_val h (by first | (simp [stepF, h0]; done) | (simp only [stepF, h0, if_true]; congr 1; omega))
  · skip
    first | rw [decide_eq_true h0] | rw [decide_eq_false h0] | rw [h0] | skip
    refine CWp.skip ?_
    refine CWp.seq ?_
    refine CWp.region ?_
    refine OWp.move rfl rfl ?_
    refine OWp.addI rfl rfl rfl rfl (by omega) ?_
    refine OWp.assign rfl rfl ?_
    refine OWp.nil ?_
    refine CWp.ret ?_
    refine RetQ.one (by first | exact .inl rfl | exact .inr rfl) rfl rfl ?_
    exact Q_val h (by simp [stepF, h0])

theorem step_spec (col c : Int) (hc : 0 ≤ col ∧ col ≤ 1000000000) (H : AH) (Q : Value → AH → Prop) (h : Q (.int .i64 (stepF col c)) H) : FWp Tryd.prog prims 44 [.int .i64 col, .int .u8 c] H Q := by
  refine FWp.enter (rfl) Tryd.func44 rfl (e := [.int .i64 col, .int .u8 c, undef, undef, undef, undef, undef, undef, undef, undef, undef, undef, undef, undef]) rfl ?_
  refine CWp.seq ?_
  refine CWp.region ?_
  refine OWp.assign rfl rfl ?_
  refine OWp.nil ?_
  refine CWp.seq ?_
  refine CWp.seq ?_
  refine CWp.region ?_
  refine OWp.move rfl rfl ?_
  refine OWp.binI rfl rfl rfl rfl rfl ?_
  refine OWp.nil ?_
  first | refine CWp.condP rfl (fun h0 => ?_) (fun h0 => ?_) | refine CWp.cond rfl (fun h0 => ?_) (fun h0 => ?_)
  · skip
    first | rw [decide_eq_true h0] | rw [decide_eq_false h0] | rw [h0] | skip
    refine CWp.seq ?_
    refine CWp.region ?_
    refine OWp.move rfl rfl ?_
    refine OWp.addI rfl rfl rfl rfl (by omega) ?_
    refine OWp.move rfl rfl ?_
    refine OWp.remI rfl rfl rfl rfl (by omega) ?_
    refine OWp.subI rfl rfl rfl rfl (by omega) ?_
    refine OWp.assign rfl rfl ?_
    refine OWp.nil ?_
    refine CWp.ret ?_
    refine RetQ.one (by first | exact .inl rfl | exact .inr rfl) rfl rfl ?_
    exact Q_val h (by first | (simp [stepF, h0]; done) | (simp only [stepF, h0, if_true]; congr 1; omega))
  · skip
    first | rw [decide_eq_true h0] | rw [decide_eq_false h0] | rw [h0] | skip
    refine CWp.skip ?_
    refine CWp.seq ?_
    refine CWp.region ?_
    refine OWp.move rfl rfl ?_
    refine OWp.addI rfl rfl rfl rfl (by omega) ?_
    refine OWp.assign rfl rfl ?_
    refine OWp.nil ?_
    refine CWp.ret ?_
    refine RetQ.one (by first | exact .inl rfl | exact .inr rfl) rfl rfl ?_
    exact Q_val h (by simp [stepF, h0])

theorem indentC_spec (s : ByteArray) (hs : s.size ≤ 9000000) (H : AH) (Q : Value → AH → Prop) (h : ∀ i : Nat, GapEnd s i → Q (.tuple #[.int .i64 (colAt s i), .int .i64 i]) H) : FWp Tryd.prog prims 25 [.string s] H Q := by
  refine FWp.enter (rfl) Tryd.func25 rfl (e := [.string s, undef, undef, undef, undef, undef, undef, undef, undef, undef, undef, undef, undef, undef, undef, undef, undef, undef, undef, undef, undef, undef, undef, undef, undef]) rfl ?_
  refine CWp.seq ?_
  refine CWp.region ?_
  refine OWp.assign rfl rfl ?_
  refine OWp.assign rfl rfl ?_
  refine OWp.nil ?_
  refine CWp.seq ?_
  refine CWp.region ?_
  refine OWp.assign rfl rfl ?_
  refine OWp.assign rfl rfl ?_
  refine OWp.nil ?_
  refine CWp.seq ?_
  refine CWp.block ?_
  refine CWp.loop (fun k e H' => ∃ (i : Nat) (g : Nat → Value), e = [.string s, g 1, g 2, g 3, .int .i64 (colAt s i), .int .i64 (i : Nat), g 6, g 7, g 8, g 9, g 10, g 11, g 12, g 13, g 14, g 15, g 16, g 17, g 18, g 19, g 20, g 21, g 22, g 23, g 24] ∧ k = s.size - i ∧ H' = H ∧ i ≤ s.size ∧ ∀ j : Nat, j < i → gapB (byteAt s j)) ?_ ?_
  · exact ⟨_, 0, ex_env rfl ⟨rfl, rfl, by omega, fun j h1 => by omega⟩⟩
  · rintro k e H' ⟨i, g, rfl, rfl, rfl, hi1, hj⟩
    have hcl := colAt_le s i
    refine CWp.seq ?_
    refine CWp.seq ?_
    refine CWp.region ?_
    refine OWp.move rfl rfl ?_
    refine OWp.move rfl rfl ?_
    refine OWp.lenS rfl rfl rfl rfl rfl Tryd.underlying9 rfl ?_
    refine OWp.binI rfl rfl rfl rfl rfl ?_
    refine OWp.move rfl rfl ?_
    first | refine OWp.byT rfl (fun hg1 => ?_) (fun hg1 => ?_) | refine OWp.byBT rfl (fun hg1 => ?_) (fun hg1 => ?_)
    · skip
      first | rw [decide_eq_true hg1] | rw [decide_eq_false hg1] | rw [hg1] | skip
      try simp only [Decidable.not_not] at hg1
      refine OWp.move rfl rfl ?_
      refine OWp.move rfl rfl ?_
      refine OWp.indexS rfl rfl Tryd.underlying9 rfl rfl (by omega) (by omega) ?_
      refine OWp.call rfl rfl rfl rfl ?_
      refine white_spec _ _ _ (fun b hb => ?_)
      refine OWp.norm ?_
      refine OWp.pickT rfl rfl rfl ?_
      refine OWp.nil ?_
      first | refine CWp.condP rfl (fun h2 => ?_) (fun h2 => ?_) | refine CWp.cond rfl (fun h2 => ?_) (fun h2 => ?_)
      · skip
        first | rw [decide_eq_true h2] | rw [decide_eq_false h2] | rw [h2] | skip
        refine CWp.skip ?_
        refine CWp.block ?_
        refine CWp.seq ?_
        refine CWp.region ?_
        refine OWp.move rfl rfl ?_
        refine OWp.move rfl rfl ?_
        refine OWp.move rfl rfl ?_
        refine OWp.indexS rfl rfl Tryd.underlying9 rfl rfl (by omega) (by omega) ?_
        refine OWp.call rfl rfl rfl rfl ?_
        refine stepC_spec _ _ (by omega) _ _ ?_
        refine OWp.norm ?_
        refine OWp.assign rfl rfl ?_
        refine OWp.nil ?_
        refine CWp.region ?_
        refine OWp.move rfl rfl ?_
        refine OWp.addI rfl rfl rfl rfl (by omega) ?_
        refine OWp.assign rfl rfl ?_
        refine OWp.nil ?_
        exact ⟨_, by omega, i + 1, ex_env rfl ⟨rfl, rfl, by omega, fun j a => by by_cases e : j = i; exact e ▸ (hb.1 (by assumption)); exact hj j (by omega)⟩⟩
      · skip
        first | rw [decide_eq_true h2] | rw [decide_eq_false h2] | rw [h2] | skip
        refine CWp.exit ?_
        refine CWp.seq ?_
        refine CWp.region ?_
        refine OWp.move rfl rfl ?_
        refine OWp.move rfl rfl ?_
        refine OWp.assign rfl rfl ?_
        refine OWp.assign rfl rfl ?_
        refine OWp.nil ?_
        refine CWp.ret ?_
        refine RetQ.two (by first | exact .inl rfl | exact .inr rfl) rfl rfl rfl rfl rfl ?_
        exact h i ⟨by omega, hj, fun _ hgap => by first | omega | (have := hb.2 hgap; simp_all)⟩
    · skip
      first | rw [decide_eq_true hg1] | rw [decide_eq_false hg1] | rw [hg1] | skip
      try simp only [Decidable.not_not] at hg1
      refine OWp.leave rfl ?_
      refine OWp.leave rfl ?_
      refine OWp.leave rfl ?_
      refine OWp.leave rfl ?_
      refine OWp.pickF rfl rfl rfl ?_
      refine OWp.nil ?_
      refine CWp.condF rfl ?_
      refine CWp.exit ?_
      refine CWp.seq ?_
      refine CWp.region ?_
      refine OWp.move rfl rfl ?_
      refine OWp.move rfl rfl ?_
      refine OWp.assign rfl rfl ?_
      refine OWp.assign rfl rfl ?_
      refine OWp.nil ?_
      refine CWp.ret ?_
      refine RetQ.two (by first | exact .inl rfl | exact .inr rfl) rfl rfl rfl rfl rfl ?_
      exact h i ⟨by omega, hj, fun _ hgap => by first | omega | (have := hb.2 hgap; simp_all)⟩

theorem indent_spec (s : ByteArray) (hs : s.size ≤ 9000000) (H : AH) (Q : Value → AH → Prop) (h : ∀ i : Nat, GapEnd s i → Q (.tuple #[.int .i64 (colAt s i), .int .i64 i]) H) : FWp Tryd.prog prims 26 [.string s] H Q := by
  refine FWp.enter (rfl) Tryd.func26 rfl (e := [.string s, undef, undef, undef, undef, undef, undef, undef, undef, undef, undef, undef, undef, undef, undef, undef, undef, undef, undef, undef, undef, undef, undef, undef, undef]) rfl ?_
  refine CWp.seq ?_
  refine CWp.region ?_
  refine OWp.assign rfl rfl ?_
  refine OWp.assign rfl rfl ?_
  refine OWp.nil ?_
  refine CWp.seq ?_
  refine CWp.region ?_
  refine OWp.assign rfl rfl ?_
  refine OWp.assign rfl rfl ?_
  refine OWp.nil ?_
  refine CWp.seq ?_
  refine CWp.block ?_
  refine CWp.loop (fun k e H' => ∃ (i : Nat) (g : Nat → Value), e = [.string s, g 1, g 2, g 3, .int .i64 (colAt s i), .int .i64 (i : Nat), g 6, g 7, g 8, g 9, g 10, g 11, g 12, g 13, g 14, g 15, g 16, g 17, g 18, g 19, g 20, g 21, g 22, g 23, g 24] ∧ k = s.size - i ∧ H' = H ∧ i ≤ s.size ∧ ∀ j : Nat, j < i → gapB (byteAt s j)) ?_ ?_
  · exact ⟨_, 0, ex_env rfl ⟨rfl, rfl, by omega, fun j h1 => by omega⟩⟩
  · rintro k e H' ⟨i, g, rfl, rfl, rfl, hi1, hj⟩
    have hcl := colAt_le s i
    refine CWp.seq ?_
    refine CWp.seq ?_
    refine CWp.region ?_
    refine OWp.move rfl rfl ?_
    refine OWp.move rfl rfl ?_
    refine OWp.lenS rfl rfl rfl rfl rfl Tryd.underlying9 rfl ?_
    refine OWp.binI rfl rfl rfl rfl rfl ?_
    refine OWp.move rfl rfl ?_
    first | refine OWp.byT rfl (fun hg1 => ?_) (fun hg1 => ?_) | refine OWp.byBT rfl (fun hg1 => ?_) (fun hg1 => ?_)
    · skip
      first | rw [decide_eq_true hg1] | rw [decide_eq_false hg1] | rw [hg1] | skip
      try simp only [Decidable.not_not] at hg1
      refine OWp.move rfl rfl ?_
      refine OWp.move rfl rfl ?_
      refine OWp.indexS rfl rfl Tryd.underlying9 rfl rfl (by omega) (by omega) ?_
      refine OWp.call rfl rfl rfl rfl ?_
      refine gap_spec _ _ _ (fun b hb => ?_)
      refine OWp.norm ?_
      refine OWp.pickT rfl rfl rfl ?_
      refine OWp.nil ?_
      first | refine CWp.condP rfl (fun h2 => ?_) (fun h2 => ?_) | refine CWp.cond rfl (fun h2 => ?_) (fun h2 => ?_)
      · skip
        first | rw [decide_eq_true h2] | rw [decide_eq_false h2] | rw [h2] | skip
        refine CWp.skip ?_
        refine CWp.block ?_
        refine CWp.seq ?_
        refine CWp.region ?_
        refine OWp.move rfl rfl ?_
        refine OWp.move rfl rfl ?_
        refine OWp.move rfl rfl ?_
        refine OWp.indexS rfl rfl Tryd.underlying9 rfl rfl (by omega) (by omega) ?_
        refine OWp.call rfl rfl rfl rfl ?_
        refine step_spec _ _ (by omega) _ _ ?_
        refine OWp.norm ?_
        refine OWp.assign rfl rfl ?_
        refine OWp.nil ?_
        refine CWp.region ?_
        refine OWp.move rfl rfl ?_
        refine OWp.addI rfl rfl rfl rfl (by omega) ?_
        refine OWp.assign rfl rfl ?_
        refine OWp.nil ?_
        exact ⟨_, by omega, i + 1, ex_env rfl ⟨rfl, rfl, by omega, fun j a => by by_cases e : j = i; exact e ▸ (hb.1 (by assumption)); exact hj j (by omega)⟩⟩
      · skip
        first | rw [decide_eq_true h2] | rw [decide_eq_false h2] | rw [h2] | skip
        refine CWp.exit ?_
        refine CWp.seq ?_
        refine CWp.region ?_
        refine OWp.move rfl rfl ?_
        refine OWp.move rfl rfl ?_
        refine OWp.assign rfl rfl ?_
        refine OWp.assign rfl rfl ?_
        refine OWp.nil ?_
        refine CWp.ret ?_
        refine RetQ.two (by first | exact .inl rfl | exact .inr rfl) rfl rfl rfl rfl rfl ?_
        exact h i ⟨by omega, hj, fun _ hgap => by first | omega | (have := hb.2 hgap; simp_all)⟩
    · skip
      first | rw [decide_eq_true hg1] | rw [decide_eq_false hg1] | rw [hg1] | skip
      try simp only [Decidable.not_not] at hg1
      refine OWp.leave rfl ?_
      refine OWp.leave rfl ?_
      refine OWp.leave rfl ?_
      refine OWp.leave rfl ?_
      refine OWp.pickF rfl rfl rfl ?_
      refine OWp.nil ?_
      refine CWp.condF rfl ?_
      refine CWp.exit ?_
      refine CWp.seq ?_
      refine CWp.region ?_
      refine OWp.move rfl rfl ?_
      refine OWp.move rfl rfl ?_
      refine OWp.assign rfl rfl ?_
      refine OWp.assign rfl rfl ?_
      refine OWp.nil ?_
      refine CWp.ret ?_
      refine RetQ.two (by first | exact .inl rfl | exact .inr rfl) rfl rfl rfl rfl rfl ?_
      exact h i ⟨by omega, hj, fun _ hgap => by first | omega | (have := hb.2 hgap; simp_all)⟩

theorem inside_spec (s : ByteArray) (hs : s.size ≤ 9000000) (H : AH) (Q : Value → AH → Prop) (h : ∀ (i : Nat) (t : ByteArray) (b : Bool), GapEnd s i → t = s.extract i s.size → (b = true ↔ colAt s i ≤ 3) → Q (.tuple #[.string t, .int .i64 (colAt s i), .bool b]) H) : FWp Tryd.prog prims 19 [.string s] H Q := by
  refine FWp.enter (rfl) Tryd.func19 rfl (e := [.string s, undef, undef, undef, undef, undef, undef, undef, undef, undef, undef, undef, undef, undef, undef, undef, undef, undef]) rfl ?_
  refine CWp.seq ?_
  refine CWp.region ?_
  refine OWp.assign rfl rfl ?_
  refine OWp.assign rfl rfl ?_
  refine OWp.assign rfl rfl ?_
  refine OWp.nil ?_
  refine CWp.seq ?_
  refine CWp.region ?_
  refine OWp.move rfl rfl ?_
  refine OWp.call rfl rfl rfl rfl ?_
  refine indentC_spec _ (by omega) _ _ (fun i hi => ?_)
  have hi1 := hi.1
  refine OWp.norm ?_
  refine OWp.move rfl rfl ?_
  refine OWp.extract rfl rfl rfl rfl ?_
  refine OWp.extract rfl rfl rfl rfl ?_
  refine OWp.assign rfl rfl ?_
  refine OWp.assign rfl rfl ?_
  refine OWp.nil ?_
  refine CWp.seq ?_
  refine CWp.region ?_
  refine OWp.move rfl rfl ?_
  refine OWp.move rfl rfl ?_
  refine OWp.sliceS rfl rfl Tryd.underlying9 rfl rfl rfl (by omega) (by omega) (by omega) ?_
  refine OWp.move rfl rfl ?_
  refine OWp.move rfl rfl ?_
  refine OWp.binI rfl rfl rfl rfl rfl ?_
  refine OWp.assign rfl rfl ?_
  refine OWp.assign rfl rfl ?_
  refine OWp.assign rfl rfl ?_
  refine OWp.nil ?_
  refine CWp.ret ?_
  refine RetQ.three (by first | exact .inl rfl | exact .inr rfl) rfl rfl rfl rfl rfl rfl rfl ?_
  exact h i _ _ hi rfl decide_eq_true_iff

theorem emptyC_spec (s : ByteArray) (hs : s.size ≤ 9000000) (H : AH) (Q : Value → AH → Prop) (h : ∀ (i : Nat) (b : Bool), GapEnd s i → (b = true ↔ i = s.size) → Q (.bool b) H) : FWp Tryd.prog prims 24 [.string s] H Q := by
  refine FWp.enter (rfl) Tryd.func24 rfl (e := [.string s, undef, undef, undef, undef, undef, undef, undef, undef, undef, undef, undef, undef, undef]) rfl ?_
  refine CWp.seq ?_
  refine CWp.region ?_
  refine OWp.assign rfl rfl ?_
  refine OWp.nil ?_
  refine CWp.seq ?_
  refine CWp.region ?_
  refine OWp.move rfl rfl ?_
  refine OWp.call rfl rfl rfl rfl ?_
  refine indentC_spec _ (by omega) _ _ (fun i hi => ?_)
  have hi1 := hi.1
  refine OWp.norm ?_
  refine OWp.move rfl rfl ?_
  refine OWp.extract rfl rfl rfl rfl ?_
  refine OWp.extract rfl rfl rfl rfl ?_
  refine OWp.assign rfl rfl ?_
  refine OWp.assign rfl rfl ?_
  refine OWp.nil ?_
  refine CWp.seq ?_
  refine CWp.region ?_
  refine OWp.move rfl rfl ?_
  refine OWp.move rfl rfl ?_
  refine OWp.lenS rfl rfl rfl rfl rfl Tryd.underlying9 rfl ?_
  refine OWp.binI rfl rfl rfl rfl rfl ?_
  refine OWp.assign rfl rfl ?_
  refine OWp.nil ?_
  refine CWp.ret ?_
  refine RetQ.one (by first | exact .inl rfl | exact .inr rfl) rfl rfl ?_
  exact h i _ hi (by rw [decide_eq_true_iff]; omega)

theorem empty_spec (s : ByteArray) (hs : s.size ≤ 9000000) (H : AH) (Q : Value → AH → Prop) (h : ∀ (i : Nat) (b : Bool), GapEnd s i → (b = true ↔ i = s.size) → Q (.bool b) H) : FWp Tryd.prog prims 31 [.string s] H Q := by
  refine FWp.enter (rfl) Tryd.func31 rfl (e := [.string s, undef, undef, undef, undef, undef, undef, undef, undef, undef, undef, undef, undef, undef]) rfl ?_
  refine CWp.seq ?_
  refine CWp.region ?_
  refine OWp.assign rfl rfl ?_
  refine OWp.nil ?_
  refine CWp.seq ?_
  refine CWp.region ?_
  refine OWp.move rfl rfl ?_
  refine OWp.call rfl rfl rfl rfl ?_
  refine indent_spec _ (by omega) _ _ (fun i hi => ?_)
  have hi1 := hi.1
  refine OWp.norm ?_
  refine OWp.move rfl rfl ?_
  refine OWp.extract rfl rfl rfl rfl ?_
  refine OWp.extract rfl rfl rfl rfl ?_
  refine OWp.assign rfl rfl ?_
  refine OWp.assign rfl rfl ?_
  refine OWp.nil ?_
  refine CWp.seq ?_
  refine CWp.region ?_
  refine OWp.move rfl rfl ?_
  refine OWp.move rfl rfl ?_
  refine OWp.lenS rfl rfl rfl rfl rfl Tryd.underlying9 rfl ?_
  refine OWp.binI rfl rfl rfl rfl rfl ?_
  refine OWp.assign rfl rfl ?_
  refine OWp.nil ?_
  refine CWp.ret ?_
  refine RetQ.one (by first | exact .inl rfl | exact .inr rfl) rfl rfl ?_
  exact h i _ hi (by rw [decide_eq_true_iff]; omega)

theorem run_spec (s : ByteArray) (hs : s.size ≤ 9000000) (a : Nat) (c : Int) (ha : a ≤ s.size) (H : AH) (Q : Value → AH → Prop) (h : ∀ n : Nat, RunEnd s a c n → Q (.int .i64 n) H) : FWp Tryd.prog prims 27 [.string s, .int .i64 (a : Nat), .int .u8 c] H Q := by
  refine FWp.enter (rfl) Tryd.func27 rfl (e := [.string s, .int .i64 (a : Nat), .int .u8 c, undef, undef, undef, undef, undef, undef, undef, undef, undef, undef, undef, undef, undef, undef, undef, undef, undef, undef, undef, undef, undef, undef, undef, undef, undef, undef, undef]) rfl ?_
  refine CWp.seq ?_
  refine CWp.region ?_
  refine OWp.assign rfl rfl ?_
  refine OWp.nil ?_
  refine CWp.seq ?_
  refine CWp.region ?_
  refine OWp.assign rfl rfl ?_
  refine OWp.nil ?_
  refine CWp.seq ?_
  refine CWp.block ?_
  refine CWp.loop (fun k e H' => ∃ (n : Nat) (g : Nat → Value), e = [.string s, .int .i64 (a : Nat), .int .u8 c, g 3, g 4, g 5, g 6, .int .i64 (n : Nat), g 8, g 9, g 10, g 11, g 12, g 13, g 14, g 15, g 16, g 17, g 18, g 19, g 20, g 21, g 22, g 23, g 24, g 25, g 26, g 27, g 28, g 29] ∧ k = s.size - n ∧ H' = H ∧ a + n ≤ s.size ∧ ∀ j : Nat, j < n → byteAt s (a + j : Nat) = c) ?_ ?_
  · exact ⟨_, 0, ex_env rfl ⟨rfl, rfl, by omega, fun j h1 => by omega⟩⟩
  · rintro k e H' ⟨n, g, rfl, rfl, rfl, hn, hj⟩
    refine CWp.seq ?_
    refine CWp.seq ?_
    refine CWp.region ?_
    refine OWp.move rfl rfl ?_
    refine OWp.binI rfl rfl rfl rfl rfl ?_
    refine OWp.move rfl rfl ?_
    first | refine OWp.byT rfl (fun hg1 => ?_) (fun hg1 => ?_) | refine OWp.byBT rfl (fun hg1 => ?_) (fun hg1 => ?_)
    · skip
      first | rw [decide_eq_true hg1] | rw [decide_eq_false hg1] | rw [hg1] | skip
      try simp only [Decidable.not_not] at hg1
      refine OWp.move rfl rfl ?_
      refine OWp.move rfl rfl ?_
      refine OWp.addI rfl rfl rfl rfl (by omega) ?_
      refine OWp.move rfl rfl ?_
      refine OWp.lenS rfl rfl rfl rfl rfl Tryd.underlying9 rfl ?_
      refine OWp.binI rfl rfl rfl rfl rfl ?_
      refine OWp.pickT rfl rfl rfl ?_
      refine OWp.move rfl rfl ?_
      first | refine OWp.byT rfl (fun hg2 => ?_) (fun hg2 => ?_) | refine OWp.byBT rfl (fun hg2 => ?_) (fun hg2 => ?_)
      · skip
        first | rw [decide_eq_true hg2] | rw [decide_eq_false hg2] | rw [hg2] | skip
        try simp only [Decidable.not_not] at hg2
        refine OWp.move rfl rfl ?_
        refine OWp.move rfl rfl ?_
        refine OWp.move rfl rfl ?_
        refine OWp.addI rfl rfl rfl rfl (by omega) ?_
        refine OWp.indexS rfl rfl Tryd.underlying9 rfl rfl (by omega) (by omega) ?_
        refine OWp.move rfl rfl ?_
        refine OWp.binI rfl rfl rfl rfl rfl ?_
        refine OWp.pickT rfl rfl rfl ?_
        refine OWp.nil ?_
        first | refine CWp.condP rfl (fun h3 => ?_) (fun h3 => ?_) | refine CWp.cond rfl (fun h3 => ?_) (fun h3 => ?_)
        · skip
          first | rw [decide_eq_true h3] | rw [decide_eq_false h3] | rw [h3] | skip
          refine CWp.skip ?_
          refine CWp.block ?_
          refine CWp.region ?_
          refine OWp.move rfl rfl ?_
          refine OWp.addI rfl rfl rfl rfl (by omega) ?_
          refine OWp.assign rfl rfl ?_
          refine OWp.nil ?_
          exact ⟨_, by omega, n + 1, ex_env rfl ⟨rfl, rfl, by omega, fun j a => by by_cases e : j = n; exact e ▸ (by assumption); exact hj j (by omega)⟩⟩
        · skip
          first | rw [decide_eq_true h3] | rw [decide_eq_false h3] | rw [h3] | skip
          refine CWp.exit ?_
          refine CWp.seq ?_
          refine CWp.region ?_
          refine OWp.move rfl rfl ?_
          refine OWp.assign rfl rfl ?_
          refine OWp.nil ?_
          refine CWp.ret ?_
          refine RetQ.one (by first | exact .inl rfl | exact .inr rfl) rfl rfl ?_
          exact h n ⟨hn, hj, fun hlt => by first | omega | assumption⟩
      · skip
        first | rw [decide_eq_true hg2] | rw [decide_eq_false hg2] | rw [hg2] | skip
        try simp only [Decidable.not_not] at hg2
        refine OWp.leave rfl ?_
        refine OWp.leave rfl ?_
        refine OWp.leave rfl ?_
        refine OWp.leave rfl ?_
        refine OWp.leave rfl ?_
        refine OWp.leave rfl ?_
        refine OWp.leave rfl ?_
        refine OWp.pickF rfl rfl rfl ?_
        refine OWp.nil ?_
        refine CWp.condF rfl ?_
        refine CWp.exit ?_
        refine CWp.seq ?_
        refine CWp.region ?_
        refine OWp.move rfl rfl ?_
        refine OWp.assign rfl rfl ?_
        refine OWp.nil ?_
        refine CWp.ret ?_
        refine RetQ.one (by first | exact .inl rfl | exact .inr rfl) rfl rfl ?_
        exact h n ⟨hn, hj, fun hlt => by first | omega | assumption⟩
    · skip
      first | rw [decide_eq_true hg1] | rw [decide_eq_false hg1] | rw [hg1] | skip
      try simp only [Decidable.not_not] at hg1
      refine OWp.leave rfl ?_
      refine OWp.leave rfl ?_
      refine OWp.leave rfl ?_
      refine OWp.leave rfl ?_
      refine OWp.leave rfl ?_
      refine OWp.leave rfl ?_
      refine OWp.pickF rfl rfl rfl ?_
      refine OWp.move rfl rfl ?_
      refine OWp.leave rfl ?_
      refine OWp.leave rfl ?_
      refine OWp.leave rfl ?_
      refine OWp.leave rfl ?_
      refine OWp.leave rfl ?_
      refine OWp.leave rfl ?_
      refine OWp.leave rfl ?_
      refine OWp.pickF rfl rfl rfl ?_
      refine OWp.nil ?_
      refine CWp.condF rfl ?_
      refine CWp.exit ?_
      refine CWp.seq ?_
      refine CWp.region ?_
      refine OWp.move rfl rfl ?_
      refine OWp.assign rfl rfl ?_
      refine OWp.nil ?_
      refine CWp.ret ?_
      refine RetQ.one (by first | exact .inl rfl | exact .inr rfl) rfl rfl ?_
      exact h n ⟨hn, hj, fun hlt => by first | omega | assumption⟩

theorem backR_spec (s : ByteArray) (hs : s.size ≤ 9000000) (H : AH) (Q : Value → AH → Prop) (h : ∀ k : Nat, GapBack s k → Q (.string (s.extract 0 k)) H) : FWp Tryd.prog prims 29 [.string s] H Q := by
  refine FWp.enter (rfl) Tryd.func29 rfl (e := [.string s, undef, undef, undef, undef, undef, undef, undef, undef, undef, undef, undef, undef, undef, undef, undef, undef, undef, undef, undef]) rfl ?_
  refine CWp.seq ?_
  refine CWp.region ?_
  refine OWp.assign rfl rfl ?_
  refine OWp.nil ?_
  refine CWp.seq ?_
  refine CWp.block ?_
  refine CWp.loop (fun k e H' => ∃ (x : ByteArray) (m : Nat) (g : Nat → Value), e = [.string x, g 1, g 2, g 3, g 4, g 5, g 6, g 7, g 8, g 9, g 10, g 11, g 12, g 13, g 14, g 15, g 16, g 17, g 18, g 19] ∧ k = 1 + m ∧ H' = H ∧ x = s.extract 0 m ∧ m ≤ s.size ∧ ∀ j : Nat, m ≤ j → j < s.size → gapB (byteAt s j)) ?_ ?_
  · exact ⟨_, s, s.size, ex_env rfl ⟨rfl, rfl, (ext_all s).symm, by omega, fun j h1 h2 => by omega⟩⟩
  · rintro k e H' ⟨x, m, g, rfl, rfl, rfl, hx, hk, hj⟩
    have hz : x.size = m := by rw [hx, ByteArray.size_extract]; omega
    refine CWp.seq ?_
    refine CWp.seq ?_
    refine CWp.region ?_
    refine OWp.move rfl rfl ?_
    refine OWp.lenS rfl rfl rfl rfl rfl Tryd.underlying9 rfl ?_
    refine OWp.binI rfl rfl rfl rfl rfl ?_
    refine OWp.move rfl rfl ?_
    first | refine OWp.byT rfl (fun hg1 => ?_) (fun hg1 => ?_) | refine OWp.byBT rfl (fun hg1 => ?_) (fun hg1 => ?_)
    · skip
      first | rw [decide_eq_true hg1] | rw [decide_eq_false hg1] | rw [hg1] | skip
      try simp only [Decidable.not_not] at hg1
      refine OWp.move rfl rfl ?_
      refine OWp.move rfl rfl ?_
      refine OWp.lenS rfl rfl rfl rfl rfl Tryd.underlying9 rfl ?_
      refine OWp.subI rfl rfl rfl rfl (by omega) ?_
      refine OWp.indexS rfl rfl Tryd.underlying9 rfl rfl (by omega) (by omega) ?_
      refine OWp.call rfl rfl rfl rfl ?_
      refine gap_spec _ _ _ (fun b hb => ?_)
      have hbx : byteAt x ((x.size : Int) - 1) = byteAt s (m - 1 : Nat) := by
          rw [show ((x.size : Int) - 1) = ((m - 1 : Nat) : Int) by omega, hx]; exact byteAt_ext0 s m (m - 1) (by omega) hk
      rw [hbx] at hb
      refine OWp.norm ?_
      refine OWp.pickT rfl rfl rfl ?_
      refine OWp.nil ?_
      first | refine CWp.condP rfl (fun h2 => ?_) (fun h2 => ?_) | refine CWp.cond rfl (fun h2 => ?_) (fun h2 => ?_)
      · skip
        have hb2 : ∀ j, j = m - 1 → gapB (byteAt s j) := fun j e => by rw [e]; exact hb.1 (by assumption)
        first | rw [decide_eq_true h2] | rw [decide_eq_false h2] | rw [h2] | skip
        refine CWp.skip ?_
        refine CWp.block ?_
        refine CWp.region ?_
        refine OWp.move rfl rfl ?_
        refine OWp.move rfl rfl ?_
        refine OWp.lenS rfl rfl rfl rfl rfl Tryd.underlying9 rfl ?_
        refine OWp.subI rfl rfl rfl rfl (by omega) ?_
        refine OWp.sliceS rfl rfl Tryd.underlying9 rfl rfl rfl (by omega) (by omega) (by omega) ?_
        refine OWp.assign rfl rfl ?_
        refine OWp.nil ?_
        exact ⟨_, by omega, _, m - 1, ex_env rfl ⟨rfl, rfl, by rw [hx, show ((((s.extract 0 m).size : Nat) : Int) - 1).toNat = m - 1 by rw [← hx]; omega, ByteArray.extract_extract]; congr 1; omega, by omega, fun j a b => by by_cases e : j = m - 1; exact hb2 j e; exact hj j (by omega) b⟩⟩
      · skip
        first | rw [decide_eq_true h2] | rw [decide_eq_false h2] | rw [h2] | skip
        refine CWp.exit ?_
        refine CWp.seq ?_
        refine CWp.region ?_
        refine OWp.move rfl rfl ?_
        refine OWp.assign rfl rfl ?_
        refine OWp.nil ?_
        refine CWp.ret ?_
        refine RetQ.one (by first | exact .inl rfl | exact .inr rfl) rfl rfl ?_
        rw [hx]; exact h m ⟨hk, hj, fun h0 hg => by first | omega | (have := hb.2 hg; simp_all)⟩
    · skip
      first | rw [decide_eq_true hg1] | rw [decide_eq_false hg1] | rw [hg1] | skip
      try simp only [Decidable.not_not] at hg1
      refine OWp.leave rfl ?_
      refine OWp.leave rfl ?_
      refine OWp.leave rfl ?_
      refine OWp.leave rfl ?_
      refine OWp.leave rfl ?_
      refine OWp.leave rfl ?_
      refine OWp.pickF rfl rfl rfl ?_
      refine OWp.nil ?_
      refine CWp.condF rfl ?_
      refine CWp.exit ?_
      refine CWp.seq ?_
      refine CWp.region ?_
      refine OWp.move rfl rfl ?_
      refine OWp.assign rfl rfl ?_
      refine OWp.nil ?_
      refine CWp.ret ?_
      refine RetQ.one (by first | exact .inl rfl | exact .inr rfl) rfl rfl ?_
      rw [hx]; exact h m ⟨hk, hj, fun h0 hg => by first | omega | (have := hb.2 hg; simp_all)⟩

end Go.Proofs.YtpfhkjbnofgikaaDoor.Ev
