/-
  What the evaluator says with some fuel, it says with more.
-/
import Derived.Test.YtenolmhnmcjndaaGreatDoorEvFast
namespace Go.Proofs.YtenolmhnmcjndaaGreatDoor.Ev
open Go
set_option linter.unusedVariables false
set_option linter.unusedSimpArgs false
section
variable {P : Program} {call call' : CallA} {ops : Array Oper}
def CallUp (c c' : CallA) : Prop := ∀ f a H r, c f a H = some r → c' f a H = some r
theorem evOps_up (hc : CallUp call call') : ∀ (l : List Oper) (e : List Value) (H : AH) (r : List Value × AH), evOps P call ops l e H = some r → evOps P call' ops l e H = some r
  | [], e, H, r, h => h
  | o :: l, e, H, r, h => by
    simp only [evOps] at h ⊢
    cases hg : guardA ops o e with
    | none => rw [hg] at h; cases h
    | some b =>
      rw [hg] at h
      cases b with
      | true =>
        simp only at h ⊢
        cases ho : evOp P call o (rho e) H with
        | none => rw [ho] at h; cases h
        | some p =>
          obtain ⟨v, H1⟩ := p
          rw [ho] at h
          rw [evOp_call hc ho]
          exact evOps_up hc l _ _ _ h
      | false => exact evOps_up hc l _ _ _ h
theorem evTr_up (hc : CallUp call call') : ∀ (l : List Oper) (e : List Value) (H : AH) (r : List (List Value × AH)), evTr P call ops l e H = some r → evTr P call' ops l e H = some r
  | [], e, H, r, h => h
  | o :: l, e, H, r, h => by
    simp only [evTr] at h ⊢
    cases hg : guardA ops o e with
    | none => rw [hg] at h; cases h
    | some b =>
      rw [hg] at h
      cases b with
      | true =>
        simp only at h ⊢
        cases ho : evOp P call o (rho e) H with
        | none => rw [ho] at h; cases h
        | some p =>
          obtain ⟨v, H1⟩ := p
          rw [ho] at h
          rw [evOp_call hc ho]
          simp only at h ⊢
          obtain ⟨s, h1, rfl⟩ := Option.map_eq_some_iff.1 h
          rw [evTr_up hc l _ _ _ h1]
          rfl
      | false =>
        simp only at h ⊢
        obtain ⟨s, h1, rfl⟩ := Option.map_eq_some_iff.1 h
        rw [evTr_up hc l _ _ _ h1]
        rfl
theorem stillW_up (hc : CallUp call call') {mind : Nat → Bool} {e : List Value} {H : AH} (h : stillW P call mind ops e H = true) : stillW P call' mind ops e H = true := by
  unfold stillW at h ⊢
  cases ht : evTr P call ops ops.toList e H with
  | none => rw [ht] at h; cases h
  | some s => rw [ht] at h; rw [evTr_up hc _ _ _ _ ht]; exact h
theorem evRegion_up (hc : CallUp call call') {ff : FuncId → Bool} {d : Bool} {e : List Value} {H : AH} {r : List Value × AH} (h : evRegion P ff call ops d e H = some r) : evRegion P ff call' ops d e H = some r := by
  rcases evRegion_cases h with ⟨hd, hu, h⟩ | ⟨hu, h⟩
  · obtain ⟨s, h1, h2, h3⟩ := permA_some h
    unfold evRegion
    rw [hd, hu]
    simp only [Bool.and_self, cond_true]
    unfold permA
    rw [evTr_up hc _ _ _ _ h1, evOps_up hc _ _ _ _ h2]
    simp only [h3, cond_true]
  unfold evRegion
  rw [hu]
  simp only [cond_false]
  unfold evRegionT at h ⊢
  cases h1 : evOps P call ops ops.toList e H with
  | none => rw [h1] at h; cases h
  | some p =>
    obtain ⟨e1, H1⟩ := p
    rw [h1] at h
    rw [evOps_up hc _ _ _ _ h1]
    simp only at h ⊢
    have hb : (stillW P call (mindF P ff ops) ops e H = true → stillW P call' (mindF P ff ops) ops e H = true) := stillW_up hc
    generalize stillW P call (mindF P ff ops) ops e H = b1 at h hb
    generalize stillW P call' (mindF P ff ops) ops e H = b2 at hb ⊢
    generalize (!d || calmReg ops || oneReg P ops || (manyReg P ops && stillAll ops e1 H H1) || lateReg P ops false || (lateReg P ops true && stillAll ops e1 H H1)) = a at h ⊢
    generalize manyF P ff ops = m at h ⊢
    generalize noLoads ops = n at h ⊢
    cases a <;> cases m <;> cases n <;> cases b1 <;> cases b2 <;> simp_all
theorem loopA_up {f g : List Value → AH → Option (St × List Value × AH)} (hfg : ∀ e H r, f e H = some r → g e H = some r) : ∀ (n m : Nat) (e : List Value) (H : AH) (r : St × List Value × AH), n ≤ m → loopA f n e H = some r → loopA g m e H = some r
  | 0, m, e, H, r, hm, h => by cases h
  | n + 1, 0, e, H, r, hm, h => absurd hm (by omega)
  | n + 1, m + 1, e, H, r, hm, h => by
    unfold loopA at h ⊢
    cases hf : f e H with
    | none => rw [hf] at h; cases h
    | some p =>
      obtain ⟨st, e1, H1⟩ := p
      rw [hf] at h
      rw [hfg _ _ _ hf]
      cases st with
      | nx => exact loopA_up hfg n m _ _ _ (by omega) h
      | ex i => exact h
      | rt => exact h
theorem evCode_up {reg reg' : Array Oper → Bool → List Value → AH → Option (List Value × AH)} (hreg : ∀ ops d e H r, reg ops d e H = some r → reg' ops d e H = some r) {n m : Nat} (hm : n ≤ m) (c : Code) : ∀ (e : List Value) (H : AH) (r : St × List Value × AH), evCode P reg n c e H = some r → evCode P reg' m c e H = some r := by
  induction c with
  | region id ops d =>
    intro e H r h
    simp only [evCode] at h ⊢
    cases hg : reg ops d e H with
    | none => rw [hg] at h; cases h
    | some p => rw [hg] at h; rw [hreg _ _ _ _ _ hg]; exact h
  | seq a b iha ihb =>
    intro e H r h
    simp only [evCode] at h ⊢
    cases ha : evCode P reg n a e H with
    | none => rw [ha] at h; cases h
    | some p =>
      obtain ⟨st, e1, H1⟩ := p
      rw [ha] at h
      rw [iha _ _ _ ha]
      cases st with
      | nx => exact ihb _ _ _ h
      | ex i => exact h
      | rt => exact h
  | cond c x y ihx ihy =>
    intro e H r h
    simp only [evCode] at h ⊢
    split at h
    · exact ihx _ _ _ h
    · exact ihy _ _ _ h
    · cases h
  | block id c ih =>
    intro e H r h
    simp only [evCode] at h ⊢
    cases ha : evCode P reg n c e H with
    | none => rw [ha] at h; cases h
    | some p =>
      obtain ⟨st, e1, H1⟩ := p
      rw [ha] at h
      rw [ih _ _ _ ha]
      exact h
  | loop c ih =>
    intro e H r h
    simp only [evCode] at h ⊢
    exact loopA_up (fun e H r hr => ih _ _ _ hr) n m e H r hm h
  | scope c ih =>
    intro e H r h
    simp only [evCode] at h ⊢
    exact ih _ _ _ h
  | rangeFunc g ps asg body iha ihb =>
    intro e H r h
    rw [evCode_range] at h ⊢
    obtain ⟨st, e', H'⟩ := r
    obtain ⟨h9, rfl, rfl⟩ := map_st h
    rw [rangeA_mono (rd' := roundA P reg' m asg body e') (fun p0 p1 i x H H' hx => by
      obtain ⟨e1, H1, e2, k1, k2⟩ := roundA_some hx
      exact roundA_of (iha _ _ _ k1) (ihb _ _ _ k2)) h9]
    rfl
  | _ =>
    intro e H r h
    simp only [evCode] at h ⊢
    exact h
theorem evFn_up {prims : Prims} (hup : PrimsUp prims) : ∀ (n m : Nat), n ≤ m → CallUp (evFn P prims n) (evFn P prims m)
  | 0, m, hm, f, a, H, r, h => by cases h
  | n + 1, 0, hm, f, a, H, r, h => absurd hm (by omega)
  | n + 1, m + 1, hm, f, a, H, r, h => by
    have ih := evFn_up hup n m (by omega)
    unfold evFn at h ⊢
    cases hp : prims f with
    | some g => rw [hp] at h; exact hup f g hp _ _ ih a H r h
    | none =>
      rw [hp] at h
      cases hf : P.funcs[f]? with
      | none => rw [hf] at h; cases h
      | some fn =>
        rw [hf] at h
        simp only at h ⊢
        cases hb : fn.body with
        | none => rw [hb] at h; cases h
        | some c =>
          rw [hb] at h
          simp only at h ⊢
          cases hcd : evCode P (evRegion P prims.flat (evFn P prims n)) n c (a ++ List.replicate (fn.ntmps - a.length) undef) H with
          | none => rw [hcd] at h; cases h
          | some p =>
            have := evCode_up (reg' := evRegion P prims.flat (evFn P prims m)) (fun ops d e H r hr => evRegion_up ih hr) (show n ≤ m by omega) c _ _ _ hcd
            rw [hcd] at h
            rw [this]
            exact h
/-- A run with some fuel. -/
theorem FWp.run {prims : Prims} (hup : PrimsUp prims) {f : FuncId} {args : List Value} {H H' : AH} {v : Value} {Q : Value → AH → Prop} {n : Nat} (h : evFn P prims n f args H = some (v, H')) (hq : Q v H') : FWp P prims f args H Q :=
  ⟨n, v, H', fun m hm => evFn_up hup n m hm _ _ _ _ h, hq⟩
end
end Go.Proofs.YtenolmhnmcjndaaGreatDoor.Ev
