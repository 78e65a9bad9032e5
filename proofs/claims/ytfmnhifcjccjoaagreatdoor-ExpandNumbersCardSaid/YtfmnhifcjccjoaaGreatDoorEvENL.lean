/-
  ExpandNumbers: its pieces are joined.
-/
import Derived.Test.YtfmnhifcjccjoaaGreatDoorEvENE
import Derived.Test.YtfmnhifcjccjoaaGreatDoorEvEN1
import Derived.Test.YtfmnhifcjccjoaaGreatDoorEvEN2
import Derived.Test.YtfmnhifcjccjoaaGreatDoorEvEN3
import Derived.Test.YtfmnhifcjccjoaaGreatDoorEvEN4
import Derived.Test.YtfmnhifcjccjoaaGreatDoorEvEN5
import Derived.Test.YtfmnhifcjccjoaaGreatDoorEvEN6
import Derived.Test.YtfmnhifcjccjoaaGreatDoorEvEN7
import Derived.Test.YtfmnhifcjccjoaaGreatDoorEvEN8
import Derived.Test.YtfmnhifcjccjoaaGreatDoorEvPrims
namespace Go.Proofs.YtfmnhifcjccjoaaGreatDoor.Ev
set_option linter.unusedVariables false
set_option linter.unusedSimpArgs false
set_option maxRecDepth 100000
open Go Go.RowKit
theorem callR0 : CallR (vmFn Tryz.prog prims0 fp0 tab 5000) (evFn Tryz.prog prims0 5000) := vmFn_ok fp0_ok tab_ok 5000
theorem reg0 : RegOk Tryz.prog (evRegion Tryz.prog (fun _ => false) (evFn Tryz.prog prims0 5000)) := region_sound progOk mixed (evFn_sound progOk mixed prims0_ok 5000) (evFn_h prims0_ok.h 5000) (evFn_flat prims0_ok 5000)
theorem piece0 {c : Code} {l l' : List (Nat × FV)} {st : St} (hT : chkCode Tryz.prog (fun _ => false) lawT c = true) (hfl : (fvals l).all (fun p => flatB p.2) = true) (h : vp c l st l' = true) : Piece Tryz.prog c 91 (fvals l) st (fvals l') :=
  piece_of_vm callR0 reg0 (by decide : 91 ≤ 512) jk_ok hT hfl h
theorem rds (k : Nat) (h : k < 60) : vpR k = true := by
  by_cases h1 : k < 8
  · exact rounds_1 k (by omega) h1
  by_cases h2 : k < 16
  · exact rounds_2 k (by omega) h2
  by_cases h3 : k < 24
  · exact rounds_3 k (by omega) h3
  by_cases h4 : k < 32
  · exact rounds_4 k (by omega) h4
  by_cases h5 : k < 40
  · exact rounds_5 k (by omega) h5
  by_cases h6 : k < 48
  · exact rounds_6 k (by omega) h6
  by_cases h7 : k < 56
  · exact rounds_7 k (by omega) h7
  exact rounds_8 k (by omega) h
theorem rdP (k : Nat) (h : k < 60) : Piece Tryz.prog cB 91 (fvals [(1, .nn k)]) .nx (fvals [(1, .nn (k + 1))]) := by
  have h1 := rds k h
  unfold vpR at h1
  rw [natK_eq] at h1
  exact piece0 tB rfl h1
theorem lawP : Piece Tryz.prog lawC 91 [] .rt [(0, .bool true)] := by
  rw [shape]
  exact piece_seq (piece0 tA rfl gA) (piece_seq (piece_seq (piece0 tC rfl gC) (piece_block (piece_rounds (fun k => fvals [(1, .nn k)]) 60 rdP (piece0 tB rfl gE)))) (piece0 tD rfl gD))
theorem numbers_calls (w : World) (hT : Tabs w) : Calls Tryz.prog 3 #[] w fun e w' => e = .returned (.bool true) ∧ Below w.heap.size w w' := by
  refine calls_of_piece (fn := Tryz.f3) (c := lawC) (r := 0) Tryz.func3 (by kernel_rfl) (by kernel_rfl) rfl ?_ w hT
  exact lawP
end Go.Proofs.YtfmnhifcjccjoaaGreatDoor.Ev
