import Derived.Test.YtpfhkjbnofgikaaDoorEvL4
import Derived.Test.YtpfhkjbnofgikaaDoorEvL5
import Derived.Test.YtpfhkjbnofgikaaDoorEvL7
import Derived.Test.YtpfhkjbnofgikaaDoorEvL7p
namespace Go.Proofs.YtpfhkjbnofgikaaDoor.Ev
open Go
set_option linter.unusedVariables false
set_option linter.unusedSimpArgs false
section
variable {P : Program} {prims : Prims} {ops : Array Oper} {o : Oper} {r : List Oper} {e e' : List Value} {H H1 : AH} {Q : List Value → AH → Prop}
theorem pr_map {α β : Type} (x : Sem α) (f : α → β) : pureRun P (f <$> x) = (pureRun P x).map f := by
  show pureRun P (x.bind fun a => Sem.pure (f a)) = _
  rw [show (x.bind fun a => Sem.pure (f a)) = (x >>= fun a => pure (f a)) from rfl, pr_bind]
  cases pureRun P x <;> rfl
theorem eq_bool {t : TypeId} {a b : Bool} (ht : P.underlying t = some .bool) : pureRun P (Op.equal t (.bool a) (.bool b)) = some (a == b) := by
  unfold Op.equal Op.maxDepth
  rw [Op.equalIn]
  simp only [pr_bind, pr_underlying ht, Option.bind_some, pr_pure]
theorem OWp.eqlB {t t' : TypeId} {x y : Operand} {a b : Bool} (hg : guardA ops o e = some true) (ho : o.op = .binOp .eql t x y t') (ht : P.underlying t = some .bool) (hx : rho e x = .bool a) (hy : rho e y = .bool b)
    (hk : OWp P prims ops r e' H Q) (he : putE e o.dst (.bool (decide (a = b))) = e' := by simp only [putE, rho, List.set_cons_zero, List.set_cons_succ, List.getD_cons_zero, List.getD_cons_succ]; exact rfl) : OWp P prims ops (o :: r) e H Q := by
  have hab : (a == b) = decide (a = b) := by cases a <;> cases b <;> rfl
  rw [← hab] at he
  refine OWp.step hg (fun call => ?_) he hk
  have hf : flatOp P o (rho e) = some (.bool (a == b)) := by
    refine flat_op (by rw [ho]; simp [Op.operands, hx, hy, flatB, flat2, flat1, atomB]) ?_ rfl
    unfold execOp
    rw [ho]
    simp only [hx, hy, eqGuard, Go.binOp]
    simp [pr_bind, pr_pure, pr_map, eq_bool ht]
  unfold evOp
  simp only [ho, hx, eqA_bool, hf, Option.map_some]
theorem OWp.neqB {t t' : TypeId} {x y : Operand} {a b : Bool} (hg : guardA ops o e = some true) (ho : o.op = .binOp .neq t x y t') (ht : P.underlying t = some .bool) (hx : rho e x = .bool a) (hy : rho e y = .bool b)
    (hk : OWp P prims ops r e' H Q) (he : putE e o.dst (.bool (decide (¬ a = b))) = e' := by simp only [putE, rho, List.set_cons_zero, List.set_cons_succ, List.getD_cons_zero, List.getD_cons_succ]; exact rfl) : OWp P prims ops (o :: r) e H Q := by
  have hab : (!(a == b)) = decide (¬ a = b) := by cases a <;> cases b <;> rfl
  rw [← hab] at he
  refine OWp.step hg (fun call => ?_) he hk
  have hf : flatOp P o (rho e) = some (.bool (!(a == b))) := by
    refine flat_op (by rw [ho]; simp [Op.operands, hx, hy, flatB, flat2, flat1, atomB]) ?_ rfl
    unfold execOp
    rw [ho]
    simp only [hx, hy, eqGuard, Go.binOp]
    simp [pr_bind, pr_pure, pr_map, eq_bool ht]
  unfold evOp
  simp only [ho, hx, eqA_bool, hf, Option.map_some]
end
theorem known_spec (H : AH) (Q : Value → AH → Prop) (h : Q (.bool true) H) : FWp Tryd.prog prims 10 [] H Q := FWp.prim rfl rfl h
def pieces : Array Value := #[.string ⟨#[32]⟩, .string ⟨#[9]⟩, .string ⟨#[35]⟩, .string ⟨#[45]⟩, .string ⟨#[42]⟩, .string ⟨#[62]⟩, .string ⟨#[97]⟩, .string ⟨#[43]⟩, .string ⟨#[32]⟩, .string ⟨#[35, 35]⟩, .string ⟨#[95, 95, 95]⟩, .string ⟨#[95]⟩, .string ⟨#[45, 32]⟩, .string ⟨#[62, 32]⟩, .string ⟨#[98]⟩, .string ⟨#[32, 32, 32]⟩]
def pieceB : Value → Bool
  | .string q => decide (q.size ≤ 6)
  | _ => false
theorem piece_get (c : Nat) (hc : (c : Int) ≤ 15) : ∃ q : ByteArray, pieces.toList[c]? = some (.string q) ∧ q.size ≤ 6 := by
  have hall : pieces.toList.all pieceB = true := by kernel_rfl
  have hlt : c < pieces.toList.length := by show c < 16; omega
  have h1 : pieces.toList[c]? = some (pieces.toList[c]'hlt) := List.getElem?_eq_getElem hlt
  have h2 := List.all_eq_true.1 hall _ (List.getElem_mem hlt)
  rw [h1]
  generalize pieces.toList[c]'hlt = x at h2
  cases x <;> simp [pieceB] at h2
  exact ⟨_, rfl, h2⟩
def Bytes (l : List Value) : Prop := ∀ v, v ∈ l → ∃ n : Int, v = .int .u8 n
theorem row_some {H : AH} {p : Option Addr} {l : List Value} (h : l = [] ∨ Row H p l) (h0 : 0 < l.length) : ∃ a, p = some a ∧ Row H (some a) l := by
  rcases h with rfl | h
  · exact absurd h0 (Nat.lt_irrefl 0)
  · cases p with
    | none => have : l = [] := h; subst this; exact absurd h0 (Nat.lt_irrefl 0)
    | some a => exact ⟨a, rfl, h⟩
theorem bytes_snoc {l : List Value} (h : Bytes l) (n : Int) : Bytes (l ++ [.int .u8 n]) := fun v hv => by
  rcases List.mem_append.1 hv with hv | hv
  · exact h v hv
  · simp only [List.mem_singleton] at hv; exact ⟨n, hv⟩
theorem bytes_nil : Bytes [] := fun v hv => nomatch hv
theorem zz1 : (⟨#[32, 97]⟩ : ByteArray).size = 2 := rfl
theorem zz2 : (⟨#[32, 32, 32]⟩ : ByteArray).size = 3 := rfl
theorem zz3 : (⟨#[9, 97, 32, 35, 9]⟩ : ByteArray).size = 5 := rfl
theorem zz4 : (⟨#[32, 32, 32, 32]⟩ : ByteArray).size = 4 := rfl
theorem zz5 : (⟨#[35, 35, 35, 35, 35, 35, 35]⟩ : ByteArray).size = 7 := rfl

theorem same_spec (s : ByteArray) (hs : s.size ≤ 9000000) (H : AH) (Q : Value → AH → Prop) (h : ∀ H', Keeps H H' → Q (.bool true) H') (hw : WfH H) : FWp Tryd.prog prims 8 [.string s] H Q := by
  refine FWp.enter (rfl) Tryd.func8 rfl (e := [.string s, undef, undef, undef, undef, undef, undef, undef, undef, undef, undef, undef, undef, undef, undef, undef, undef, undef, undef, undef, undef, undef, undef, undef, undef, undef, undef, undef, undef, undef, undef, undef, undef, undef, undef, undef, undef, undef, undef, undef, undef, undef, undef, undef, undef, undef, undef, undef, undef, undef, undef, undef, undef, undef, undef, undef, undef, undef, undef, undef, undef, undef, undef, undef, undef, undef, undef, undef, undef, undef, undef, undef, undef, undef, undef, undef, undef, undef, undef, undef, undef, undef, undef, undef, undef, undef, undef, undef, undef, undef, undef, undef, undef, undef, undef, undef, undef, undef, undef, undef, undef, undef, undef, undef, undef, undef, undef]) rfl ?_
  refine CWp.seq ?_
  refine CWp.region ?_
  refine OWp.assign rfl rfl ?_
  refine OWp.nil ?_
  refine CWp.seq ?_
  refine CWp.region ?_
  refine OWp.move rfl rfl ?_
  refine OWp.call rfl rfl rfl rfl ?_
  refine headC_spec s hs _ _ (fun i1 m1 n1 x1 b1 a1 a2 a3 a4 a5 => ?_)
  refine OWp.norm ?_
  refine OWp.move rfl rfl ?_
  refine OWp.extract rfl rfl rfl rfl ?_
  refine OWp.extract rfl rfl rfl rfl ?_
  refine OWp.extract rfl rfl rfl rfl ?_
  refine OWp.assign rfl rfl ?_
  refine OWp.assign rfl rfl ?_
  refine OWp.assign rfl rfl ?_
  refine OWp.nil ?_
  refine CWp.seq ?_
  refine CWp.region ?_
  refine OWp.move rfl rfl ?_
  refine OWp.call rfl rfl rfl rfl ?_
  refine headR_spec s hs _ _ (fun i2 m2 n2 x2 b2 c1 c2 c3 c4 c5 => ?_)
  obtain ⟨e1, e2, e3⟩ := head_eq s i1 m1 i2 m2 n1 n2 x1 x2 b1 b2 a1 a2 a3 a4 a5 c1 c2 c3 c4 c5
  refine OWp.norm ?_
  refine OWp.move rfl rfl ?_
  refine OWp.extract rfl rfl rfl rfl ?_
  refine OWp.extract rfl rfl rfl rfl ?_
  refine OWp.extract rfl rfl rfl rfl ?_
  refine OWp.assign rfl rfl ?_
  refine OWp.assign rfl rfl ?_
  refine OWp.assign rfl rfl ?_
  refine OWp.nil ?_
  refine CWp.seq ?_
  refine CWp.region ?_
  refine OWp.move rfl rfl ?_
  refine OWp.call rfl rfl rfl rfl ?_
  refine quoteC_spec s hs _ _ (fun i3 x3 b3 a6 a7 a8 a9 => ?_)
  refine OWp.norm ?_
  refine OWp.move rfl rfl ?_
  refine OWp.extract rfl rfl rfl rfl ?_
  refine OWp.extract rfl rfl rfl rfl ?_
  refine OWp.assign rfl rfl ?_
  refine OWp.assign rfl rfl ?_
  refine OWp.nil ?_
  refine CWp.seq ?_
  refine CWp.region ?_
  refine OWp.move rfl rfl ?_
  refine OWp.call rfl rfl rfl rfl ?_
  refine quoteR_spec s hs _ _ (fun i4 x4 b4 c6 c7 c8 c9 => ?_)
  obtain ⟨q1, q2⟩ := quote_eq s i3 i4 x3 x4 b3 b4 a6 a7 a8 a9 c6 c7 c8 c9
  refine OWp.norm ?_
  refine OWp.move rfl rfl ?_
  refine OWp.extract rfl rfl rfl rfl ?_
  refine OWp.extract rfl rfl rfl rfl ?_
  refine OWp.assign rfl rfl ?_
  refine OWp.assign rfl rfl ?_
  refine OWp.nil ?_
  refine CWp.seq ?_
  refine CWp.region ?_
  refine OWp.move rfl rfl ?_
  refine OWp.call rfl rfl rfl rfl ?_
  refine itemC_spec s hs _ _ ?_ hw
  intro Hi i5 y5 k5 x5 b5 hki d1 d2 d3 d4
  have hwi := hki.wf
  refine OWp.norm ?_
  refine OWp.move rfl rfl ?_
  refine OWp.extract rfl rfl rfl rfl ?_
  refine OWp.extract rfl rfl rfl rfl ?_
  refine OWp.extract rfl rfl rfl rfl ?_
  refine OWp.extract rfl rfl rfl rfl ?_
  refine OWp.assign rfl rfl ?_
  refine OWp.assign rfl rfl ?_
  refine OWp.assign rfl rfl ?_
  refine OWp.assign rfl rfl ?_
  refine OWp.nil ?_
  refine CWp.seq ?_
  refine CWp.region ?_
  refine OWp.move rfl rfl ?_
  refine OWp.call rfl rfl rfl rfl ?_
  refine itemR_spec s hs _ _ (fun i6 y6 k6 x6 b6 f1 f2 f3 f4 => ?_)
  obtain ⟨u1, u2, u3, u4⟩ := item_eq s i5 i6 y5 k5 y6 k6 x5 x6 b5 b6 d1 d2 d3 d4 f1 f2 f3 f4
  refine OWp.norm ?_
  refine OWp.move rfl rfl ?_
  refine OWp.extract rfl rfl rfl rfl ?_
  refine OWp.extract rfl rfl rfl rfl ?_
  refine OWp.extract rfl rfl rfl rfl ?_
  refine OWp.extract rfl rfl rfl rfl ?_
  refine OWp.assign rfl rfl ?_
  refine OWp.assign rfl rfl ?_
  refine OWp.assign rfl rfl ?_
  refine OWp.assign rfl rfl ?_
  refine OWp.nil ?_
  refine CWp.seq ?_
  refine CWp.region ?_
  refine OWp.move rfl rfl ?_
  refine OWp.move rfl rfl ?_
  refine OWp.binI rfl rfl rfl rfl rfl ?_
  refine OWp.move rfl rfl ?_
  first | refine OWp.byT rfl (fun hg0 => ?_) (fun hg0 => ?_) | refine OWp.byBT rfl (fun hg0 => ?_) (fun hg0 => ?_)
  · skip
    first | rw [decide_eq_true hg0] | rw [decide_eq_false hg0] | rw [hg0] | skip
    try simp only [Decidable.not_not] at hg0
    refine OWp.move rfl rfl ?_
    refine OWp.move rfl rfl ?_
    refine OWp.binS rfl rfl rfl rfl rfl ?_
    refine OWp.pickT rfl rfl rfl ?_
    refine OWp.move rfl rfl ?_
    first | refine OWp.byT rfl (fun hg1 => ?_) (fun hg1 => ?_) | refine OWp.byBT rfl (fun hg1 => ?_) (fun hg1 => ?_)
    · skip
      first | rw [decide_eq_true hg1] | rw [decide_eq_false hg1] | rw [hg1] | skip
      try simp only [Decidable.not_not] at hg1
      refine OWp.move rfl rfl ?_
      refine OWp.move rfl rfl ?_
      refine OWp.eqlB rfl rfl Tryd.underlying4 rfl rfl ?_
      refine OWp.pickT rfl rfl rfl ?_
      refine OWp.move rfl rfl ?_
      first | refine OWp.byT rfl (fun hg2 => ?_) (fun hg2 => ?_) | refine OWp.byBT rfl (fun hg2 => ?_) (fun hg2 => ?_)
      · skip
        first | rw [decide_eq_true hg2] | rw [decide_eq_false hg2] | rw [hg2] | skip
        try simp only [Decidable.not_not] at hg2
        refine OWp.move rfl rfl ?_
        refine OWp.move rfl rfl ?_
        refine OWp.binS rfl rfl rfl rfl rfl ?_
        refine OWp.pickT rfl rfl rfl ?_
        refine OWp.move rfl rfl ?_
        first | refine OWp.byT rfl (fun hg3 => ?_) (fun hg3 => ?_) | refine OWp.byBT rfl (fun hg3 => ?_) (fun hg3 => ?_)
        · skip
          first | rw [decide_eq_true hg3] | rw [decide_eq_false hg3] | rw [hg3] | skip
          try simp only [Decidable.not_not] at hg3
          refine OWp.move rfl rfl ?_
          refine OWp.move rfl rfl ?_
          refine OWp.eqlB rfl rfl Tryd.underlying4 rfl rfl ?_
          refine OWp.pickT rfl rfl rfl ?_
          refine OWp.move rfl rfl ?_
          first | refine OWp.byT rfl (fun hg4 => ?_) (fun hg4 => ?_) | refine OWp.byBT rfl (fun hg4 => ?_) (fun hg4 => ?_)
          · skip
            first | rw [decide_eq_true hg4] | rw [decide_eq_false hg4] | rw [hg4] | skip
            try simp only [Decidable.not_not] at hg4
            refine OWp.move rfl rfl ?_
            refine OWp.move rfl rfl ?_
            refine OWp.binI rfl rfl rfl rfl rfl ?_
            refine OWp.pickT rfl rfl rfl ?_
            refine OWp.move rfl rfl ?_
            first | refine OWp.byT rfl (fun hg5 => ?_) (fun hg5 => ?_) | refine OWp.byBT rfl (fun hg5 => ?_) (fun hg5 => ?_)
            · skip
              first | rw [decide_eq_true hg5] | rw [decide_eq_false hg5] | rw [hg5] | skip
              try simp only [Decidable.not_not] at hg5
              refine OWp.move rfl rfl ?_
              refine OWp.move rfl rfl ?_
              refine OWp.binI rfl rfl rfl rfl rfl ?_
              refine OWp.pickT rfl rfl rfl ?_
              refine OWp.move rfl rfl ?_
              first | refine OWp.byT rfl (fun hg6 => ?_) (fun hg6 => ?_) | refine OWp.byBT rfl (fun hg6 => ?_) (fun hg6 => ?_)
              · skip
                first | rw [decide_eq_true hg6] | rw [decide_eq_false hg6] | rw [hg6] | skip
                try simp only [Decidable.not_not] at hg6
                refine OWp.move rfl rfl ?_
                refine OWp.move rfl rfl ?_
                refine OWp.binS rfl rfl rfl rfl rfl ?_
                refine OWp.pickT rfl rfl rfl ?_
                refine OWp.move rfl rfl ?_
                first | refine OWp.byT rfl (fun hg7 => ?_) (fun hg7 => ?_) | refine OWp.byBT rfl (fun hg7 => ?_) (fun hg7 => ?_)
                · skip
                  first | rw [decide_eq_true hg7] | rw [decide_eq_false hg7] | rw [hg7] | skip
                  try simp only [Decidable.not_not] at hg7
                  refine OWp.move rfl rfl ?_
                  refine OWp.move rfl rfl ?_
                  refine OWp.eqlB rfl rfl Tryd.underlying4 rfl rfl ?_
                  refine OWp.pickT rfl rfl rfl ?_
                  refine OWp.move rfl rfl ?_
                  first | refine OWp.byT rfl (fun hg8 => ?_) (fun hg8 => ?_) | refine OWp.byBT rfl (fun hg8 => ?_) (fun hg8 => ?_)
                  · skip
                    first | rw [decide_eq_true hg8] | rw [decide_eq_false hg8] | rw [hg8] | skip
                    try simp only [Decidable.not_not] at hg8
                    refine OWp.move rfl rfl ?_
                    refine OWp.call rfl rfl rfl rfl ?_
                    refine breakC_spec s hs _ _ ?_ hwi
                    intro Hb i7 b7 hkb g1 g2
                    refine OWp.norm ?_
                    refine OWp.move rfl rfl ?_
                    refine OWp.call rfl rfl rfl rfl ?_
                    refine breakR_spec s hs _ _ (fun i8 b8 g3 g4 => ?_)
                    have v1 := break_eq s i7 i8 b7 b8 g1 g2 g3 g4
                    refine OWp.norm ?_
                    refine OWp.eqlB rfl rfl Tryd.underlying4 rfl rfl ?_
                    refine OWp.pickT rfl rfl rfl ?_
                    refine OWp.assign rfl rfl ?_
                    refine OWp.nil ?_
                    refine CWp.ret ?_
                    refine RetQ.one (by first | exact .inl rfl | exact .inr rfl) rfl rfl ?_
                    exact Q_bool (h _ (hki.trans hkb hw)) (by simp [v1])
                  · skip
                    exact absurd u4 hg8
                · skip
                  exact absurd u3 hg7
              · skip
                exact absurd u2 hg6
            · skip
              exact absurd u1 hg5
          · skip
            exact absurd q2 hg4
        · skip
          exact absurd q1 hg3
      · skip
        exact absurd e3 hg2
    · skip
      exact absurd e2 hg1
  · skip
    exact absurd e1 hg0

theorem made_spec (l : List Value) (hl : Bytes l) (p : Option Addr) (c : Nat) (H : AH) (Q : Value → AH → Prop) (h : ∀ H' (t : ByteArray), Keeps H H' → t.size ≤ 144 → Q (.string t) H') (hv : l = [] ∨ Row H p l) (hlen : l.length ≤ 9223372036854775807) (hw : WfH H) : FWp Tryd.prog prims 9 [.slice p l.length c] H Q := by
  have hs5 : szT Tryd.prog 5 = 1 := by kernel_rfl
  have hs9 : szT Tryd.prog 9 = 1 := by kernel_rfl
  refine FWp.enter (rfl) Tryd.func9 rfl (e := [.slice p l.length c, undef, undef, undef, undef, undef, undef, undef, undef, undef, undef, undef, undef, undef, undef, undef, undef, undef, undef, undef, undef, undef, undef, undef, undef, undef]) rfl ?_
  refine CWp.seq ?_
  refine CWp.region ?_
  refine OWp.assign rfl rfl ?_
  refine OWp.nil ?_
  refine CWp.seq ?_
  refine CWp.region ?_
  refine OWp.assign rfl rfl ?_
  refine OWp.nil ?_
  refine CWp.seq ?_
  refine CWp.seq ?_
  refine CWp.region ?_
  refine OWp.assign rfl rfl ?_
  refine OWp.nil ?_
  refine CWp.block ?_
  refine CWp.loop (fun k e H' => ∃ (x : ByteArray) (i : Nat) (g : Nat → Value), e = [.slice p l.length c, g 1, g 2, .string x, .int .i64 (i : Nat), g 5, g 6, g 7, g 8, g 9, g 10, g 11, g 12, g 13, g 14, g 15, g 16, g 17, g 18, g 19, g 20, g 21, g 22, g 23, g 24, g 25] ∧ k = 24 - i ∧ WfH H' ∧ Keeps H H' ∧ x.size ≤ 6 * i ∧ i ≤ 24) ?_ ?_
  · exact ⟨_, ⟨#[]⟩, 0, ex_env rfl ⟨rfl, hw, Keeps.refl hw, by decide, by decide⟩⟩
  · rintro k e H' ⟨x, i, g, rfl, rfl, hw', hk', hx, hi⟩
    refine CWp.seq ?_
    refine CWp.seq ?_
    refine CWp.region ?_
    refine OWp.move rfl rfl ?_
    refine OWp.move rfl rfl ?_
    refine OWp.lenSl rfl rfl rfl rfl rfl Tryd.underlying22 rfl ?_
    refine OWp.binI rfl rfl rfl rfl rfl ?_
    refine OWp.move rfl rfl ?_
    first | refine OWp.byT rfl (fun hg1 => ?_) (fun hg1 => ?_) | refine OWp.byBT rfl (fun hg1 => ?_) (fun hg1 => ?_)
    · skip
      first | rw [decide_eq_true hg1] | rw [decide_eq_false hg1] | rw [hg1] | skip
      try simp only [Decidable.not_not] at hg1
      refine OWp.move rfl rfl ?_
      refine OWp.binI rfl rfl rfl rfl rfl ?_
      refine OWp.pickT rfl rfl rfl ?_
      refine OWp.nil ?_
      first | refine CWp.condP rfl (fun h2 => ?_) (fun h2 => ?_) | refine CWp.cond rfl (fun h2 => ?_) (fun h2 => ?_)
      · skip
        have hlt : i < l.length := by omega
        obtain ⟨a, rfl, hrow⟩ := row_some hv (by omega)
        obtain ⟨n, hn⟩ := hl _ (List.getElem_mem hlt)
        have hget : l[i]? = some (.int .u8 n) := by rw [List.getElem?_eq_getElem hlt, hn]
        first | rw [decide_eq_true h2] | rw [decide_eq_false h2] | rw [h2] | skip
        refine CWp.skip ?_
        refine CWp.seq ?_
        refine CWp.block ?_
        refine CWp.region ?_
        refine OWp.move rfl rfl ?_
        refine OWp.buildSl hw' rfl rfl rfl (t' := 9) (cells := pieces) (by kernel_rfl) (fun H2 c2 hw2 hk2 hc2 ho2 => ?_)
        refine OWp.norm ?_
        have hrow2 := hrow.sees ((hk'.trans hk2 hw).sees hw)
        refine OWp.move rfl rfl ?_
        refine OWp.move rfl rfl ?_
        refine OWp.indexAddrSl1 rfl rfl Tryd.underlying22 hs5 rfl rfl (by omega) (by omega) ?_
        refine OWp.loadRow rfl rfl Tryd.underlying5 rfl rfl hrow2 hget ?_
        refine OWp.andR rfl rfl rfl rfl (.inl rfl) (by omega) (fun c3 hc3 => ?_)
        refine OWp.norm ?_
        obtain ⟨q, hq, hq6⟩ := piece_get c3 hc3
        refine OWp.indexAddrSl1 rfl rfl Tryd.underlying27 hs9 rfl rfl (by omega) (by omega) ?_
        refine OWp.loadRow rfl rfl Tryd.underlying9 rfl rfl ho2.row (v := .string q) hq ?_
        refine OWp.catS rfl rfl rfl rfl (by first | omega | (simp only [ByteArray.size_append, zz1, zz2, zz3, zz4, zz5]; omega)) ?_
        refine OWp.assign rfl rfl ?_
        refine OWp.nil ?_
        refine CWp.region ?_
        refine OWp.move rfl rfl ?_
        refine OWp.addI rfl rfl rfl rfl (by first | omega | (simp only [ByteArray.size_append, zz1, zz2, zz3, zz4, zz5]; omega)) ?_
        refine OWp.assign rfl rfl ?_
        refine OWp.nil ?_
        exact ⟨_, by omega, x ++ q, i + 1, ex_env rfl ⟨rfl, hw2, hk'.trans hk2 hw, by rw [ByteArray.size_append]; omega, by omega⟩⟩
      · skip
        first | rw [decide_eq_true h2] | rw [decide_eq_false h2] | rw [h2] | skip
        refine CWp.exit ?_
        refine CWp.seq ?_
        refine CWp.region ?_
        refine OWp.move rfl rfl ?_
        refine OWp.assign rfl rfl ?_
        refine OWp.nil ?_
        refine CWp.ret ?_
        refine RetQ.one (by first | exact .inl rfl | exact .inr rfl) rfl rfl ?_
        exact h _ _ hk' (by omega)
    · skip
      first | rw [decide_eq_true hg1] | rw [decide_eq_false hg1] | rw [hg1] | skip
      try simp only [Decidable.not_not] at hg1
      refine OWp.leave rfl ?_
      refine OWp.leave rfl ?_
      refine OWp.pickF rfl rfl rfl ?_
      refine OWp.nil ?_
      refine CWp.condF rfl ?_
      refine CWp.exit ?_
      refine CWp.seq ?_
      refine CWp.region ?_
      refine OWp.move rfl rfl ?_
      refine OWp.assign rfl rfl ?_
      refine OWp.nil ?_
      refine CWp.ret ?_
      refine RetQ.one (by first | exact .inl rfl | exact .inr rfl) rfl rfl ?_
      exact h _ _ hk' (by omega)

theorem madeV_spec (l : List Value) (hl : Bytes l) (ks : Value) (H : AH) (Q : Value → AH → Prop) (h : ∀ H' (t : ByteArray), Keeps H H' → t.size ≤ 144 → Q (.string t) H') (hv : View H ks l) (hlen : l.length ≤ 9223372036854775807) (hw : WfH H) : FWp Tryd.prog prims 9 [ks] H Q := by
  obtain ⟨p, c, rfl, h1⟩ := hv
  exact made_spec l hl p c H Q h h1 hlen hw

theorem tells_spec (s : ByteArray) (hs : s.size ≤ 1048576) (l : List Value) (hl : Bytes l) (ks : Value) (H : AH) (Q : Value → AH → Prop) (h : ∀ H', Q (.bool true) H') (hv : View H ks l) (hlen : l.length ≤ 9223372036854775807) (hw : WfH H) : FWp Tryd.prog prims 4 [.string s, ks] H Q := by
  refine FWp.enter (rfl) Tryd.func4 rfl (e := [.string s, ks, undef, undef, undef, undef, undef, undef, undef, undef, undef, undef, undef, undef, undef, undef, undef, undef, undef, undef, undef, undef]) rfl ?_
  refine CWp.seq ?_
  refine CWp.region ?_
  refine OWp.assign rfl rfl ?_
  refine OWp.nil ?_
  refine CWp.seq ?_
  refine CWp.region ?_
  refine OWp.move rfl rfl ?_
  refine OWp.call rfl rfl rfl rfl ?_
  refine same_spec _ (by first | omega | (simp only [ByteArray.size_append, zz1, zz2, zz3, zz4, zz5]; omega)) _ _ ?_ hw
  intro Ha hkHa
  have hwHa := hkHa.wf
  refine OWp.norm ?_
  refine OWp.move rfl rfl ?_
  refine OWp.move rfl rfl ?_
  refine OWp.call rfl rfl rfl rfl ?_
  refine madeV_spec l hl _ _ _ ?_ (hv.sees (hkHa.sees hw)) hlen hwHa
  intro Hb t hkb ht
  have hwb := hkb.wf
  refine OWp.norm ?_
  refine OWp.call rfl rfl rfl rfl ?_
  refine same_spec _ (by first | omega | (simp only [ByteArray.size_append, zz1, zz2, zz3, zz4, zz5]; omega)) _ _ ?_ hwb
  intro Hc hkHc
  have hwHc := hkHc.wf
  refine OWp.norm ?_
  refine OWp.pickT rfl rfl rfl ?_
  refine OWp.move rfl rfl ?_
  refine OWp.move rfl rfl ?_
  refine OWp.call rfl rfl rfl rfl ?_
  refine madeV_spec l hl _ _ _ ?_ (hv.sees ((hkHa.trans (hkb.trans hkHc hwHa) hw).sees hw)) hlen hwHc
  intro Hd t2 hkd ht2
  have hwd := hkd.wf
  refine OWp.norm ?_
  refine OWp.move rfl rfl ?_
  refine OWp.catS rfl rfl rfl rfl (by first | omega | (simp only [ByteArray.size_append, zz1, zz2, zz3, zz4, zz5]; omega)) ?_
  refine OWp.call rfl rfl rfl rfl ?_
  refine same_spec _ (by first | omega | (simp only [ByteArray.size_append, zz1, zz2, zz3, zz4, zz5]; omega)) _ _ ?_ hwd
  intro He hkHe
  have hwHe := hkHe.wf
  refine OWp.norm ?_
  refine OWp.pickT rfl rfl rfl ?_
  refine OWp.move rfl rfl ?_
  refine OWp.call rfl rfl rfl rfl ?_
  refine known_spec _ _ ?_
  refine OWp.norm ?_
  refine OWp.pickT rfl rfl rfl ?_
  refine OWp.assign rfl rfl ?_
  refine OWp.nil ?_
  refine CWp.ret ?_
  refine RetQ.one (by first | exact .inl rfl | exact .inr rfl) rfl rfl ?_
  exact h _

theorem numbers_spec  (H : AH) (Q : Value → AH → Prop) (h : ∀ H', Q (.bool true) H') (hw : WfH H) : FWp Tryd.prog prims 3 [] H Q := by
  have hE : elemT Tryd.prog 22 = some 5 := by kernel_rfl
  have hz0 : zeroT Tryd.prog 5 = some (.int .u8 0) := by kernel_rfl
  have hs1 : szT Tryd.prog 5 = 1 := by kernel_rfl
  have hb1 : bytesT Tryd.prog 5 = 1 := by kernel_rfl
  refine FWp.enter (rfl) Tryd.func3 rfl (e := [undef, undef, undef, undef, undef, undef, undef, undef, undef, undef, undef, undef, undef, undef, undef, undef, undef, undef, undef, undef, undef, undef, undef, undef, undef, undef, undef, undef, undef, undef, undef, undef, undef, undef, undef, undef, undef, undef, undef, undef, undef, undef, undef, undef, undef, undef, undef, undef, undef, undef, undef, undef, undef, undef, undef, undef, undef, undef]) rfl ?_
  refine CWp.seq ?_
  refine CWp.region ?_
  refine OWp.assign rfl rfl ?_
  refine OWp.nil ?_
  refine CWp.seq ?_
  refine CWp.seq ?_
  refine CWp.region ?_
  refine OWp.assign rfl rfl ?_
  refine OWp.nil ?_
  refine CWp.block ?_
  refine CWp.loop (fun k e H' => ∃ (n : Nat) (g : Nat → Value), e = [g 0, .int .i64 (n : Nat), g 2, g 3, g 4, g 5, g 6, g 7, g 8, g 9, g 10, g 11, g 12, g 13, g 14, g 15, g 16, g 17, g 18, g 19, g 20, g 21, g 22, g 23, g 24, g 25, g 26, g 27, g 28, g 29, g 30, g 31, g 32, g 33, g 34, g 35, g 36, g 37, g 38, g 39, g 40, g 41, g 42, g 43, g 44, g 45, g 46, g 47, g 48, g 49, g 50, g 51, g 52, g 53, g 54, g 55, g 56, g 57] ∧ k = 4681 - n ∧ WfH H' ∧ Keeps H H' ∧ n ≤ 4681) ?_ ?_
  · exact ⟨_, 0, ex_env rfl ⟨rfl, hw, Keeps.refl hw, by omega⟩⟩
  · rintro k e H' ⟨n, g, rfl, rfl, hw', hk', hn⟩
    refine CWp.seq ?_
    refine CWp.seq ?_
    refine CWp.region ?_
    refine OWp.move rfl rfl ?_
    refine OWp.binI rfl rfl rfl rfl rfl ?_
    refine OWp.nil ?_
    first | refine CWp.condP rfl (fun h1 => ?_) (fun h1 => ?_) | refine CWp.cond rfl (fun h1 => ?_) (fun h1 => ?_)
    · skip
      first | rw [decide_eq_true h1] | rw [decide_eq_false h1] | rw [h1] | skip
      refine CWp.skip ?_
      refine CWp.seq ?_
      refine CWp.block ?_
      refine CWp.seq ?_
      refine CWp.region ?_
      refine OWp.assign rfl rfl ?_
      refine OWp.nil ?_
      refine CWp.seq ?_
      refine CWp.seq ?_
      refine CWp.region ?_
      refine OWp.move rfl rfl ?_
      refine OWp.assign rfl rfl ?_
      refine OWp.nil ?_
      refine CWp.block ?_
      refine CWp.loop (fun k e H' => ∃ (v : Value) (m : Nat) (l : List Value) (g : Nat → Value), e = [g 0, .int .i64 (n : Nat), v, .int .i64 (m : Nat), g 4, g 5, g 6, g 7, g 8, g 9, g 10, g 11, g 12, g 13, g 14, g 15, g 16, g 17, g 18, g 19, g 20, g 21, g 22, g 23, g 24, g 25, g 26, g 27, g 28, g 29, g 30, g 31, g 32, g 33, g 34, g 35, g 36, g 37, g 38, g 39, g 40, g 41, g 42, g 43, g 44, g 45, g 46, g 47, g 48, g 49, g 50, g 51, g 52, g 53, g 54, g 55, g 56, g 57] ∧ k = 1 + m ∧ WfH H' ∧ Keeps H H' ∧ Grow H.next H' v 5 l ∧ Bytes l ∧ l.length + m ≤ 4681) ?_ ?_
      · exact ⟨_, .slice none 0 0, n, [], ex_env rfl ⟨rfl, hw', hk', .inl ⟨rfl, rfl⟩, bytes_nil, by simp only [List.length_nil]; omega⟩⟩
      · rintro k e H' ⟨v, m, l, g, rfl, rfl, hw', hk', hgr, hb, hlm⟩
        refine CWp.seq ?_
        refine CWp.seq ?_
        refine CWp.region ?_
        refine OWp.move rfl rfl ?_
        refine OWp.binI rfl rfl rfl rfl rfl ?_
        refine OWp.nil ?_
        first | refine CWp.condP rfl (fun h3 => ?_) (fun h3 => ?_) | refine CWp.cond rfl (fun h3 => ?_) (fun h3 => ?_)
        · skip
          first | rw [decide_eq_true h3] | rw [decide_eq_false h3] | rw [h3] | skip
          refine CWp.skip ?_
          refine CWp.seq ?_
          refine CWp.block ?_
          refine CWp.region ?_
          refine OWp.move rfl rfl ?_
          refine OWp.move rfl rfl ?_
          refine OWp.subI rfl rfl rfl rfl (by first | omega | (simp only [ByteArray.size_append, zz1, zz2, zz3, zz4, zz5]; omega)) ?_
          refine OWp.remI rfl rfl rfl rfl (by first | omega | (simp only [ByteArray.size_append, zz1, zz2, zz3, zz4, zz5]; omega)) ?_
          refine OWp.convI rfl rfl Tryd.underlying3 Tryd.underlying5 rfl (wrap_u8 (by omega)) ?_
          refine OWp.buildSl hw' rfl rfl rfl (t' := 5) (cells := #[.int .u8 (((m : Int) - 1) % 8)]) (by kernel_rfl) (fun H2 c2 hw2 hk2 hc2 ho2 => ?_)
          refine OWp.norm ?_
          refine OWp.append (B := H.next) hw2 (by have := hk'.next; have := hk2.next; omega) (hgr.keep hw' hk2) ho2.row rfl (by simp) rfl rfl rfl rfl rfl hE Tryd.underlying22 hz0 rfl hs1 (by omega) rfl rfl (by simp [hb1]; omega) (fun H3 v3 hg3 hgr3 => ?_)
          refine OWp.norm ?_
          refine OWp.assign rfl rfl ?_
          refine OWp.nil ?_
          refine CWp.region ?_
          refine OWp.move rfl rfl ?_
          refine OWp.subI rfl rfl rfl rfl (by first | omega | (simp only [ByteArray.size_append, zz1, zz2, zz3, zz4, zz5]; omega)) ?_
          have e16 : ((m : Int) - 1) / 8 = (((m - 1) / 8 : Nat) : Int) := by omega
          refine OWp.quoI rfl rfl rfl rfl (by omega) ?_
          rw [e16]
          refine OWp.assign rfl rfl ?_
          refine OWp.nil ?_
          exact ⟨_, by omega, v3, (m - 1) / 8, l ++ [.int .u8 (((m : Int) - 1) % 8)], ex_env rfl ⟨rfl, hg3.wf, hg3.keeps H hw (hk'.trans hk2 hw) (Nat.le_refl _), hgr3, bytes_snoc hb _, by rw [List.length_append]; simp only [List.length_cons, List.length_nil]; omega⟩⟩
        · skip
          first | rw [decide_eq_true h3] | rw [decide_eq_false h3] | rw [h3] | skip
          refine CWp.exit ?_
          refine CWp.seq ?_
          refine CWp.region ?_
          refine OWp.move rfl rfl ?_
          refine OWp.call rfl rfl rfl rfl ?_
          refine madeV_spec l hb _ _ _ ?_ hgr.view (by omega) hw'
          intro Ha u1 hkHa hzHa
          have hwHa := hkHa.wf
          refine OWp.norm ?_
          refine OWp.call rfl rfl rfl rfl ?_
          refine same_spec _ (by first | omega | (simp only [ByteArray.size_append, zz1, zz2, zz3, zz4, zz5]; omega)) _ _ ?_ hwHa
          intro Hb hkHb
          have hwHb := hkHb.wf
          refine OWp.norm ?_
          first | refine OWp.notD rfl rfl rfl ?_ | refine OWp.notB rfl rfl rfl ?_
          refine OWp.nil ?_
          refine CWp.condF rfl ?_
          refine CWp.skip ?_
          refine CWp.region ?_
          refine OWp.move rfl rfl ?_
          refine OWp.addI rfl rfl rfl rfl (by first | omega | (simp only [ByteArray.size_append, zz1, zz2, zz3, zz4, zz5]; omega)) ?_
          refine OWp.assign rfl rfl ?_
          refine OWp.nil ?_
          exact ⟨_, by omega, n + 1, ex_env rfl ⟨rfl, hwHb, hk'.trans (hkHa.trans hkHb hw') hw, by omega⟩⟩
    · skip
      first | rw [decide_eq_true h1] | rw [decide_eq_false h1] | rw [h1] | skip
      refine CWp.exit ?_
      refine CWp.seq ?_
      refine CWp.seq ?_
      refine CWp.region ?_
      refine OWp.assign rfl rfl ?_
      refine OWp.nil ?_
      refine CWp.block ?_
      refine CWp.loop (fun k e H' => ∃ (n : Nat) (g : Nat → Value), e = [g 0, g 1, g 2, g 3, .int .i64 (n : Nat), g 5, g 6, g 7, g 8, g 9, g 10, g 11, g 12, g 13, g 14, g 15, g 16, g 17, g 18, g 19, g 20, g 21, g 22, g 23, g 24, g 25, g 26, g 27, g 28, g 29, g 30, g 31, g 32, g 33, g 34, g 35, g 36, g 37, g 38, g 39, g 40, g 41, g 42, g 43, g 44, g 45, g 46, g 47, g 48, g 49, g 50, g 51, g 52, g 53, g 54, g 55, g 56, g 57] ∧ k = 12 - n ∧ WfH H' ∧ Keeps H H' ∧ n ≤ 12) ?_ ?_
      · exact ⟨_, 0, ex_env rfl ⟨rfl, hw', hk', by omega⟩⟩
      · rintro k e H' ⟨n, g, rfl, rfl, hw', hk', hn⟩
        refine CWp.seq ?_
        refine CWp.seq ?_
        refine CWp.region ?_
        refine OWp.move rfl rfl ?_
        refine OWp.binI rfl rfl rfl rfl rfl ?_
        refine OWp.nil ?_
        first | refine CWp.condP rfl (fun h3 => ?_) (fun h3 => ?_) | refine CWp.cond rfl (fun h3 => ?_) (fun h3 => ?_)
        · skip
          first | rw [decide_eq_true h3] | rw [decide_eq_false h3] | rw [h3] | skip
          refine CWp.skip ?_
          refine CWp.seq ?_
          refine CWp.block ?_
          refine CWp.seq ?_
          refine CWp.region ?_
          refine OWp.move rfl rfl ?_
          refine OWp.minI rfl rfl rfl rfl rfl rfl ?_
          generalize hmn : (if (7 : Int) < (n : Int) then 7 else (n : Int)) = mn
          have hmn2 : 0 ≤ mn ∧ mn ≤ 7 := by rw [← hmn]; split <;> omega
          refine OWp.sliceS rfl rfl Tryd.underlying9 rfl rfl rfl (by omega) (by omega) (by show mn ≤ (7 : Int); omega) ?_
          have hind := ext_le (⟨#[35, 35, 35, 35, 35, 35, 35]⟩ : ByteArray) (Int.toNat 0) mn.toNat
          rw [zz5] at hind
          generalize (⟨#[35, 35, 35, 35, 35, 35, 35]⟩ : ByteArray).extract (Int.toNat 0) mn.toNat = ind at hind ⊢
          refine OWp.assign rfl rfl ?_
          refine OWp.nil ?_
          refine CWp.seq ?_
          refine CWp.region ?_
          refine OWp.move rfl rfl ?_
          refine OWp.call rfl rfl rfl rfl ?_
          refine same_spec _ (by first | omega | (simp only [ByteArray.size_append, zz1, zz2, zz3, zz4, zz5]; omega)) _ _ ?_ hw'
          intro Ha hkHa
          have hwHa := hkHa.wf
          refine OWp.norm ?_
          first | refine OWp.notD rfl rfl rfl ?_ | refine OWp.notB rfl rfl rfl ?_
          refine OWp.move rfl rfl ?_
          refine OWp.move rfl rfl ?_
          refine OWp.catS rfl rfl rfl rfl (by first | omega | (simp only [ByteArray.size_append, zz1, zz2, zz3, zz4, zz5]; omega)) ?_
          refine OWp.call rfl rfl rfl rfl ?_
          refine same_spec _ (by first | omega | (simp only [ByteArray.size_append, zz1, zz2, zz3, zz4, zz5]; omega)) _ _ ?_ hwHa
          intro Hb hkHb
          have hwHb := hkHb.wf
          refine OWp.norm ?_
          first | refine OWp.notD rfl rfl rfl ?_ | refine OWp.notB rfl rfl rfl ?_
          refine OWp.pickF rfl rfl rfl ?_
          refine OWp.move rfl rfl ?_
          refine OWp.move rfl rfl ?_
          refine OWp.catS rfl rfl rfl rfl (by first | omega | (simp only [ByteArray.size_append, zz1, zz2, zz3, zz4, zz5]; omega)) ?_
          refine OWp.catS rfl rfl rfl rfl (by first | omega | (simp only [ByteArray.size_append, zz1, zz2, zz3, zz4, zz5]; omega)) ?_
          refine OWp.call rfl rfl rfl rfl ?_
          refine same_spec _ (by first | omega | (simp only [ByteArray.size_append, zz1, zz2, zz3, zz4, zz5]; omega)) _ _ ?_ hwHb
          intro Hc hkHc
          have hwHc := hkHc.wf
          refine OWp.norm ?_
          first | refine OWp.notD rfl rfl rfl ?_ | refine OWp.notB rfl rfl rfl ?_
          refine OWp.pickF rfl rfl rfl ?_
          refine OWp.move rfl rfl ?_
          refine OWp.move rfl rfl ?_
          refine OWp.catS rfl rfl rfl rfl (by first | omega | (simp only [ByteArray.size_append, zz1, zz2, zz3, zz4, zz5]; omega)) ?_
          refine OWp.catS rfl rfl rfl rfl (by first | omega | (simp only [ByteArray.size_append, zz1, zz2, zz3, zz4, zz5]; omega)) ?_
          refine OWp.call rfl rfl rfl rfl ?_
          refine same_spec _ (by first | omega | (simp only [ByteArray.size_append, zz1, zz2, zz3, zz4, zz5]; omega)) _ _ ?_ hwHc
          intro Hd hkHd
          have hwHd := hkHd.wf
          refine OWp.norm ?_
          first | refine OWp.notD rfl rfl rfl ?_ | refine OWp.notB rfl rfl rfl ?_
          refine OWp.pickF rfl rfl rfl ?_
          refine OWp.nil ?_
          refine CWp.condF rfl ?_
          refine CWp.skip ?_
          refine CWp.region ?_
          refine OWp.move rfl rfl ?_
          refine OWp.addI rfl rfl rfl rfl (by first | omega | (simp only [ByteArray.size_append, zz1, zz2, zz3, zz4, zz5]; omega)) ?_
          refine OWp.assign rfl rfl ?_
          refine OWp.nil ?_
          exact ⟨_, by omega, n + 1, ex_env rfl ⟨rfl, hwHd, hk'.trans (hkHa.trans (hkHb.trans (hkHc.trans hkHd hwHb) hwHa) hw') hw, by omega⟩⟩
        · skip
          first | rw [decide_eq_true h3] | rw [decide_eq_false h3] | rw [h3] | skip
          refine CWp.exit ?_
          refine CWp.seq ?_
          refine CWp.region ?_
          refine OWp.call rfl rfl rfl rfl ?_
          refine known_spec _ _ ?_
          refine OWp.norm ?_
          refine OWp.assign rfl rfl ?_
          refine OWp.nil ?_
          refine CWp.ret ?_
          refine RetQ.one (by first | exact .inl rfl | exact .inr rfl) rfl rfl ?_
          exact h _

end Go.Proofs.YtpfhkjbnofgikaaDoor.Ev
