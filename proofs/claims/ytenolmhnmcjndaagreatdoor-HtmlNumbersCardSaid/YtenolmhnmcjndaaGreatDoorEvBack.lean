/-
  slices.Backward's function over numbers, as it stands in this seat: it calls yield from the last to the first.
-/
import Derived.Test.YtenolmhnmcjndaaGreatDoorEvFn
import Derived.Test.YtenolmhnmcjndaaGreatDoorProg
import Derived.Shelf.Abstract
import Derived.WalkKit
import Derived.OwnWalkIn
import Derived.TacticsInMore
import Derived.LoopNIn
import Derived.LoopIn
import Derived.KernelRfl
namespace Go.Proofs.YtenolmhnmcjndaaGreatDoor.Ev
set_option linter.unusedVariables false
set_option linter.unusedSimpArgs false
open Go Go.RowKit Go.Shelf

attribute [local go_sem] Oper.semAt_some

theorem back_names : (List.range Tryz.prog.funcs.size).all (fun f => !isBack Tryz.prog f || Nat.beq f 309) = true := by kernel_rfl
theorem back_is {f : FuncId} (h : isBack Tryz.prog f = true) : f = 309 := by
  have hlt : f < Tryz.prog.funcs.size := by
    unfold isBack at h
    split at h
    · rename_i fn hf; exact (Array.getElem?_eq_some_iff.1 hf).1
    · cases h
  have := List.all_eq_true.1 back_names f (List.mem_range.2 hlt)
  rw [h] at this
  exact Nat.eq_of_beq_eq_true (by simpa using this)

set_option maxRecDepth 100000 in
set_option maxHeartbeats 2000000 in
theorem backward_run (n l Bs o b off len : Nat) (x0 : Option Addr) (J : Nat → World → Prop) (W : World) (hn : 1 ≤ n) (hlen : len ≤ 140737488355328)
  (hbox : ∃ cap, W.cell? ⟨Bs, o, none⟩ = some (.slice x0 len cap))
  (hY : ∀ k W, J k W → k < len → ∃ (cap : Nat) (x : Int), W.cell? ⟨Bs, o, none⟩ = some (.slice (some ⟨b, off, none⟩) len cap) ∧ W.cell? ⟨b, off + (len - 1 - k), none⟩ = some (.int .i64 x) ∧
    YieldAt Fence.wide (n - 1) Tryz.prog l #[.int .i64 ((len - 1 - k : Nat) : Int), .int .i64 x] W fun e W' => e = .returned (.bool true) ∧ J (k + 1) W')
  (h0 : J 0 W) : CallsIn Fence.wide n Tryz.prog 309 #[.func (.yield l) #[] #[], .pointer (some ⟨Bs, o, none⟩)] W fun e W' => (∃ v, e = .returned v) ∧ J len W' := by
  obtain ⟨cap0, hbox⟩ := hbox
  refine callsIn_of_wp Tryz.func309 rfl trivial ?_ rfl
  simp only [Tryz.ntmps309, List.size_toArray, List.length_cons, List.length_nil, Nat.reduceAdd, Nat.reduceSub, Array.replicate_succ, Array.replicate_zero, List.push_toArray, List.append_toArray, List.nil_append, List.cons_append]
  gi_wp2
  gi_loopw [3] (fun i wr => ∃ k : Nat, k ≤ len ∧ i = .int .i64 ((len : Int) - 1 - k) ∧ J k wr)
    (fun i _ => (intOf i + 1).toNat)
  case atStart => exact ⟨0, Nat.zero_le _, by simp, h0⟩
  case round =>
    obtain ⟨k, hk, rfl, hJs⟩ := hrel
    by_cases hlt : k < len
    · obtain ⟨cap, x, hcb, hcx, fn, tmps, assign, body, hy, hR⟩ := hY k wr hJs hlt
      obtain ⟨j, hj⟩ : ∃ j : Nat, (len : Int) - 1 - k = (j : Int) := ⟨len - 1 - k, by omega⟩
      have hj2 : len - 1 - k = j := by omega
      rw [hj2] at hcx hy
      rw [hj]
      have hjl : j < len := by omega
      gi_wp2
      refine hR.mono ?_
      rintro e W3 ⟨rfl, hJ3⟩
      gi_wp2
      go_roundw
      case rel => exact ⟨k + 1, by omega, by congr 1; omega, hJ3⟩
      case measure => simp [intOf]
    · obtain rfl : k = len := by omega
      obtain ⟨i, hi⟩ : ∃ i : Int, (k : Int) - 1 - k = i := ⟨_, rfl⟩
      have hi2 : i = -1 := by omega
      rw [hi, hi2]
      gi_wp2
      go_end0
      exact ⟨⟨_, rfl⟩, hJs⟩
theorem backOk : BackOk Tryz.prog := fun f hf => by
  obtain rfl := back_is hf
  exact ⟨⟨_, Tryz.func309, rfl⟩, backward_run⟩
end Go.Proofs.YtenolmhnmcjndaaGreatDoor.Ev
