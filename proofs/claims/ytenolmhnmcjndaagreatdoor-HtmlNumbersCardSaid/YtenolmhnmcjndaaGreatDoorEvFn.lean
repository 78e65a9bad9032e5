/-
  Functions: what the evaluator says of a call is what the model does.
-/
import Derived.Test.YtenolmhnmcjndaaGreatDoorEvPerm
namespace Go.Proofs.YtenolmhnmcjndaaGreatDoor.Ev
set_option linter.unusedVariables false
set_option linter.unusedSimpArgs false
open Go
section
variable {P : Program} {φ : Phi} {H H' : AH} {w w' : World} {ops : Array Oper}

/-- The functions told of by hand. -/
structure PrimsOk (P : Program) (prims : Prims) : Prop where
  ok : ∀ f g, prims f = some g → ∀ call, CallOk P call → CallH call → CallOk P (fun f' args H => if f' = f then g call args H else none)
  h : PrimsH prims
  fl : ∀ f, prims.flat f = true → ∃ g0 : List Value → Option Value, ∃ g, prims.run f = some g ∧ ∀ call args H, g call args H = (g0 args).map (·, H)

theorem evFn_flat {prims : Prims} (hpr : PrimsOk P prims) : ∀ n, CallFlat prims.flat (evFn P prims n)
  | 0, f, args, h => ⟨none, fun H => rfl⟩
  | n + 1, f, args, h => by
    obtain ⟨g0, g, h1, h2⟩ := hpr.fl f h
    exact ⟨g0 args, fun H => by unfold evFn; simp only [h1]; exact h2 _ args H⟩

theorem region_sound (hp : ProgOk P) (hd : P.follows .mixedOrders = true) {call : CallA} (hcall : CallOk P call) (hch : CallH call) {ff : FuncId → Bool} (hfl : CallFlat ff call) : RegOk P (evRegion P ff call) := by
  intro ops d e H e' H' h φ w a Q hs he hk
  rcases evRegion_cases h with ⟨hd2, hu, h9⟩ | ⟨hu, h9⟩
  · subst hd2
    exact perm_region hd hp hcall hch (by unfold usePerm at hu; rw [Bool.and_eq_true] at hu; exact hu.2) h9 φ w a Q hs he hk
  replace h := h9
  unfold evRegionT at h
  cases h1 : evOps P call ops ops.toList e H with
  | none => rw [h1] at h; cases h
  | some r =>
    obtain ⟨e1, H1⟩ := r
    rw [h1] at h
    simp only at h
    have hc2 : (!d || calmReg ops || oneReg P ops || (manyReg P ops && stillAll ops e1 H H1) || lateReg P ops false || (lateReg P ops true && stillAll ops e1 H H1) || (manyF P ff ops && (noLoads ops || stillW P call (mindF P ff ops) ops e H))) = true := by
      generalize (!d || calmReg ops || oneReg P ops || (manyReg P ops && stillAll ops e1 H H1) || lateReg P ops false || (lateReg P ops true && stillAll ops e1 H H1) || (manyF P ff ops && (noLoads ops || stillW P call (mindF P ff ops) ops e H))) = b at h
      cases b with
      | true => rfl
      | false => cases h
    have h := bif_some h
    cases h
    cases d with
    | false => exact regWp_list (evOps_sound hp hcall _ _ _ _ _ _ _ _ h1 hs he hk)
    | true =>
      cases hc : calmReg ops with
      | true => exact calm_region hd hp hcall hc h1 φ w a Q hs he hk
      | false =>
        cases ho : oneReg P ops with
        | true =>
          by_cases hne : 0 < ops.size
          · exact one_region hd hp hcall ho h1 hne φ w a Q hs he hk
          · exfalso
            have h0 : ops = #[] := Array.eq_empty_of_size_eq_zero (by omega)
            rw [h0] at hc
            exact absurd hc (by decide)
        | false =>
          rw [hc, ho] at hc2
          simp only [Bool.not_true, Bool.false_or, Bool.or_eq_true, Bool.and_eq_true] at hc2
          rcases hc2 with ((hc2 | hc2) | hc2) | hc2
          · exact many_region hd hp hcall hch hc2.1 h1 hc2.2 φ w a Q hs he hk
          · exact late_region hd hp hcall hch hc2 h1 (fun h => by cases h) φ w a Q hs he hk
          · exact late_region hd hp hcall hch hc2.1 h1 (fun _ => hc2.2) φ w a Q hs he hk
          · exact many_regionW hd hp hcall hch hfl hc2.1 h1 hc2.2 φ w a Q hs he hk

theorem enter_env {args : List Value} {args' : Array Value} (hn : args'.size = args.length) (ha : ∀ (i : Nat) (x y : Value), args[i]? = some x → args'[i]? = some y → ValR P φ H w x y) (n : Nat) :
    EnvR P φ H w (args ++ List.replicate (n - args.length) undef) (args' ++ Array.replicate (n - args'.size) undef) := by
  refine ⟨by simp [hn], fun i x y hx hy => ?_⟩
  by_cases hi : i < args.length
  · rw [List.getElem?_append_left hi] at hx
    rw [Array.getElem?_append_left (by omega)] at hy
    exact ha i x y hx hy
  · rw [List.getElem?_append_right (by omega), List.getElem?_replicate] at hx
    rw [Array.getElem?_append_right (by omega), Array.getElem?_replicate] at hy
    split at hx
    · cases hx
      split at hy
      · cases hy; exact val_undef
      · cases hy
    · cases hx

theorem evFn_sound (hp : ProgOk P) (hd : P.follows .mixedOrders = true) {prims : Prims} (hpr : PrimsOk P prims) : ∀ n, CallOk P (evFn P prims n) := by
  intro n
  induction n with
  | zero => intro f args H v H' h; cases h
  | succ n ih =>
    intro f args H v H' h
    unfold evFn at h
    split at h
    · rename_i g hg
      exact hpr.ok f g hg _ ih (evFn_h hpr.h n) f args H v H' (by simpa using h)
    · split at h
      case h_2 => cases h
      rename_i fn hf
      split at h
      case h_2 => cases h
      rename_i c hb
      refine ⟨⟨fn, hf, by rw [hb]; rfl⟩, fun φ w args' hs hn ha => ?_⟩
      have reg := region_sound hp hd ih (evFn_h hpr.h n) (evFn_flat hpr n)
      have env := enter_env hn ha fn.ntmps
      have fin : ∀ {st : St} {e : List Value} {H1 : AH}, (st.exit = .normal ∨ st.exit = .ret) → evCode P (evRegion P prims.flat (evFn P prims n)) n c (args ++ List.replicate (fn.ntmps - args.length) undef) H = some (st, e, H1) →
          (resultsA P e H1 fn.results.toList).map (·, H1) = some (v, H') → Calls P f args' w fun e w' => ∃ v', e = .returned v' ∧ Good P φ H w H' v v' w' := by
        intro st e H1 hst hc hr
        cases hv : resultsA P e H1 fn.results.toList with
        | none => rw [hv] at hr; cases hr
        | some v0 =>
          rw [hv] at hr
          cases hr
          refine calls_of_wpM hf hb (evCodeM_sound hp reg n c _ _ _ _ _ φ w _ _ hc hs env fun φ1 w1 a1 st1 hs1 he1 hm1 _ => ?_)
          obtain ⟨ms, hdf, hnd, hms⟩ := hm1
          obtain ⟨k1, k2, k3, k4, k5⟩ := takes_ok (B := w.heap.size) (fun g hg => (hs.fix.2 g hg).1) ms w1 hnd hs1 (fun r hr => ⟨(hms r hr).1, (hms r hr).2.2.1, (hms r hr).2.2.2⟩)
          have he2 := he1.wch k2
          obtain ⟨v', h1, h2⟩ := results_rel k1 he2 hv
          have hlv : LeavesInM Fence.wide 1 P fn a1.tmps (fun e w' => ∃ v', e = .returned v' ∧ Good P φ H w H' v v' w') a1.defers .returning w1 := by
            rw [hdf, show ms.map mkD ++ ([] : List Deferred) = ms.map mkD by simp]
            exact leaves_marks ms w1 hnd (fun r hr => (hms r hr).2.2.1) ⟨v', h1, v', rfl, φ1, step_behind st1 k3 (by omega) k5 k2, k1, h2⟩
          rcases hst with h | h <;> rw [h] <;> exact hlv
      split at h
      · rename_i e H1 hc; exact fin (st := .nx) (.inl rfl) hc h
      · rename_i e H1 hc; exact fin (st := .rt) (.inr rfl) hc h
      · cases h

end
end Go.Proofs.YtenolmhnmcjndaaGreatDoor.Ev
