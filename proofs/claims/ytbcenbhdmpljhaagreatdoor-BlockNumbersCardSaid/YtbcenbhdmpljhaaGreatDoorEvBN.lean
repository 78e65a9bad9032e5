/-
  BlockNumbers, in pieces: the parts of its body, and what a piece is.
-/
import Derived.Test.YtbcenbhdmpljhaaGreatDoorEvVmQ
import Derived.Test.YtbcenbhdmpljhaaGreatDoorEvTab
import Derived.Test.YtbcenbhdmpljhaaGreatDoorEvVmM
namespace Go.Proofs.YtbcenbhdmpljhaaGreatDoor.Ev
set_option linter.unusedVariables false
set_option linter.unusedSimpArgs false
set_option maxRecDepth 100000
open Go
noncomputable def sL : Code → Code
  | .seq a _ => a
  | _ => .skip
noncomputable def sR : Code → Code
  | .seq _ b => b
  | _ => .skip
noncomputable def sB : Code → Code
  | .block _ (.loop c) => c
  | _ => .skip
noncomputable def lawC : Code := ((Tryz.prog.funcs[3]?).bind (·.body)).getD .skip
noncomputable def lawT : RT := (ftOf tab 3).getD []
noncomputable def cA : Code := sL lawC
noncomputable def c1 : Code := sL (sL (sR lawC))
noncomputable def b1 : Code := sB (sR (sL (sR lawC)))
noncomputable def c2 : Code := sL (sL (sR (sR lawC)))
noncomputable def b2 : Code := sB (sR (sL (sR (sR lawC))))
noncomputable def c3 : Code := sL (sR (sR (sR lawC)))
noncomputable def c4 : Code := sL (sL (sR (sR (sR (sR lawC)))))
noncomputable def b4 : Code := sB (sR (sL (sR (sR (sR (sR lawC))))))
noncomputable def cE : Code := sR (sR (sR (sR (sR lawC))))
noncomputable def jk : NX (NX FV) := ini1 (ini1 (.oo junk))
theorem jk_ok : ∀ m, m < env2.size → env2.at_ jk m = .oo junk := fun m _ => by
  show ((ini1 (ini1 (FV.oo junk))).get (m / 8)).get (m % 8) = _
  rw [ini1_get, ini1_get]
theorem shape : lawC = .seq cA (.seq (.seq c1 (.block 0 (.loop b1))) (.seq (.seq c2 (.block 2 (.loop b2))) (.seq c3 (.seq (.seq c4 (.block 4 (.loop b4))) cE)))) := by kernel_rfl
noncomputable def vp (c : Code) (l : List (Nat × FV)) (st : St) (l' : List (Nat × FV)) : Bool := vmPiece env2 47 Tryz.prog ffl lawT (vmFn Tryz.prog prims0 fp0 tab 5000) 5000 jk c l st l'
noncomputable def vp1 (k : Nat) : Bool := natK (fun k => vp b1 [(1, .nn k)] .nx [(1, .nn (Nat.succ k))]) k
noncomputable def vp2 (k : Nat) : Bool := natK (fun k => vp b2 [(2, .nn k)] .nx [(2, .nn (Nat.succ k))]) k
/-- Deeper by one: a quote, an item. -/
def dN : Nat → Nat
  | 0 => 0
  | k + 1 => dN k + Nat.shiftLeft (if k % 2 = 0 then 0x203e else 0x202d) (16 * k)
noncomputable def vp4 (k x y : Nat) : Bool := vp b4 [(3, .ss (2 * k) x), (4, .nn k)] .nx [(3, .ss (2 * (k + 1)) y), (4, .nn (k + 1))]
noncomputable def allR (f : Nat → Bool) (lo n : Nat) : Bool := Nat.rec (motive := fun _ => Bool) true (fun i ih => Bool.rec (motive := fun _ => Bool) false ih (natK f (Nat.add lo i))) n
theorem allR_ok (f : Nat → Bool) (lo : Nat) : ∀ n, allR f lo n = true → ∀ k, lo ≤ k → k < lo + n → f k = true
  | 0, _, k, h1, h2 => absurd h2 (by omega)
  | n + 1, h, k, h1, h2 => by
    have h : Bool.rec (motive := fun _ => Bool) false (allR f lo n) (natK f (Nat.add lo n)) = true := h
    rw [natK_eq] at h
    cases hf : f (Nat.add lo n) with
    | false => rw [hf] at h; cases h
    | true =>
      rw [hf] at h
      by_cases hk : k = lo + n
      · rw [hk]; exact hf
      · exact allR_ok f lo n h k h1 (by omega)
end Go.Proofs.YtbcenbhdmpljhaaGreatDoor.Ev
