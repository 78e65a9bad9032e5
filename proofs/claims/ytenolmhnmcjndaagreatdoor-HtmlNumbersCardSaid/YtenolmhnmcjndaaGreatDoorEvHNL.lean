/-
  HtmlNumbers: its pieces are joined.
-/
import Derived.Test.YtenolmhnmcjndaaGreatDoorEvHNE
import Derived.Test.YtenolmhnmcjndaaGreatDoorEvHN1
import Derived.Test.YtenolmhnmcjndaaGreatDoorEvHN2
import Derived.Test.YtenolmhnmcjndaaGreatDoorEvHN3
import Derived.Test.YtenolmhnmcjndaaGreatDoorEvHN4
import Derived.Test.YtenolmhnmcjndaaGreatDoorEvHN5
import Derived.Test.YtenolmhnmcjndaaGreatDoorEvHN6
import Derived.Test.YtenolmhnmcjndaaGreatDoorEvPrims
namespace Go.Proofs.YtenolmhnmcjndaaGreatDoor.Ev
set_option linter.unusedVariables false
set_option linter.unusedSimpArgs false
set_option maxRecDepth 100000
open Go Go.RowKit
theorem callR0 : CallR (vmFn Tryz.prog prims0 fp0 tab 5000) (evFn Tryz.prog prims0 5000) := vmFn_ok fp0_ok tab_ok 5000
theorem reg0 : RegOk Tryz.prog (evRegion Tryz.prog ffl (evFn Tryz.prog prims0 5000)) := region_sound progOk mixed (evFn_sound progOk mixed prims0_ok 5000) (evFn_h prims0_ok.h 5000) (evFn_flat prims0_ok 5000)
theorem piece0 {c : Code} {l l' : List (Nat × FV)} {st : St} (hT : chkCode Tryz.prog ffl lawT c = true) (hfl : (fvals l).all (fun p => flatB p.2) = true) (h : vp c l st l' = true) : Piece Tryz.prog c 55 (fvals l) st (fvals l') :=
  piece_of_vm progOk callR0 reg0 (by decide : 55 ≤ 64) jk_ok hT hfl h
theorem rds1 (k : Nat) (h : k < 60) : vp1 k = true := by
  by_cases h0_60 : k < 30
  · skip
    by_cases h0_30 : k < 15
    · skip
      by_cases h0_15 : k < 7
      · skip
        by_cases h0_7 : k < 3
        · skip
          by_cases h0_3 : k < 1
          · skip
            obtain rfl : k = 0 := by omega
            exact vp1_0
          · skip
            by_cases h1_3 : k < 2
            · skip
              obtain rfl : k = 1 := by omega
              exact vp1_1
            · skip
              obtain rfl : k = 2 := by omega
              exact vp1_2
        · skip
          by_cases h3_7 : k < 5
          · skip
            by_cases h3_5 : k < 4
            · skip
              obtain rfl : k = 3 := by omega
              exact vp1_3
            · skip
              obtain rfl : k = 4 := by omega
              exact vp1_4
          · skip
            by_cases h5_7 : k < 6
            · skip
              obtain rfl : k = 5 := by omega
              exact vp1_5
            · skip
              obtain rfl : k = 6 := by omega
              exact vp1_6
      · skip
        by_cases h7_15 : k < 11
        · skip
          by_cases h7_11 : k < 9
          · skip
            by_cases h7_9 : k < 8
            · skip
              obtain rfl : k = 7 := by omega
              exact vp1_7
            · skip
              obtain rfl : k = 8 := by omega
              exact vp1_8
          · skip
            by_cases h9_11 : k < 10
            · skip
              obtain rfl : k = 9 := by omega
              exact vp1_9
            · skip
              obtain rfl : k = 10 := by omega
              exact vp1_10
        · skip
          by_cases h11_15 : k < 13
          · skip
            by_cases h11_13 : k < 12
            · skip
              obtain rfl : k = 11 := by omega
              exact vp1_11
            · skip
              obtain rfl : k = 12 := by omega
              exact vp1_12
          · skip
            by_cases h13_15 : k < 14
            · skip
              obtain rfl : k = 13 := by omega
              exact vp1_13
            · skip
              obtain rfl : k = 14 := by omega
              exact vp1_14
    · skip
      by_cases h15_30 : k < 22
      · skip
        by_cases h15_22 : k < 18
        · skip
          by_cases h15_18 : k < 16
          · skip
            obtain rfl : k = 15 := by omega
            exact vp1_15
          · skip
            by_cases h16_18 : k < 17
            · skip
              obtain rfl : k = 16 := by omega
              exact vp1_16
            · skip
              obtain rfl : k = 17 := by omega
              exact vp1_17
        · skip
          by_cases h18_22 : k < 20
          · skip
            by_cases h18_20 : k < 19
            · skip
              obtain rfl : k = 18 := by omega
              exact vp1_18
            · skip
              obtain rfl : k = 19 := by omega
              exact vp1_19
          · skip
            by_cases h20_22 : k < 21
            · skip
              obtain rfl : k = 20 := by omega
              exact vp1_20
            · skip
              obtain rfl : k = 21 := by omega
              exact vp1_21
      · skip
        by_cases h22_30 : k < 26
        · skip
          by_cases h22_26 : k < 24
          · skip
            by_cases h22_24 : k < 23
            · skip
              obtain rfl : k = 22 := by omega
              exact vp1_22
            · skip
              obtain rfl : k = 23 := by omega
              exact vp1_23
          · skip
            by_cases h24_26 : k < 25
            · skip
              obtain rfl : k = 24 := by omega
              exact vp1_24
            · skip
              obtain rfl : k = 25 := by omega
              exact vp1_25
        · skip
          by_cases h26_30 : k < 28
          · skip
            by_cases h26_28 : k < 27
            · skip
              obtain rfl : k = 26 := by omega
              exact vp1_26
            · skip
              obtain rfl : k = 27 := by omega
              exact vp1_27
          · skip
            by_cases h28_30 : k < 29
            · skip
              obtain rfl : k = 28 := by omega
              exact vp1_28
            · skip
              obtain rfl : k = 29 := by omega
              exact vp1_29
  · skip
    by_cases h30_60 : k < 45
    · skip
      by_cases h30_45 : k < 37
      · skip
        by_cases h30_37 : k < 33
        · skip
          by_cases h30_33 : k < 31
          · skip
            obtain rfl : k = 30 := by omega
            exact vp1_30
          · skip
            by_cases h31_33 : k < 32
            · skip
              obtain rfl : k = 31 := by omega
              exact vp1_31
            · skip
              obtain rfl : k = 32 := by omega
              exact vp1_32
        · skip
          by_cases h33_37 : k < 35
          · skip
            by_cases h33_35 : k < 34
            · skip
              obtain rfl : k = 33 := by omega
              exact vp1_33
            · skip
              obtain rfl : k = 34 := by omega
              exact vp1_34
          · skip
            by_cases h35_37 : k < 36
            · skip
              obtain rfl : k = 35 := by omega
              exact vp1_35
            · skip
              obtain rfl : k = 36 := by omega
              exact vp1_36
      · skip
        by_cases h37_45 : k < 41
        · skip
          by_cases h37_41 : k < 39
          · skip
            by_cases h37_39 : k < 38
            · skip
              obtain rfl : k = 37 := by omega
              exact vp1_37
            · skip
              obtain rfl : k = 38 := by omega
              exact vp1_38
          · skip
            by_cases h39_41 : k < 40
            · skip
              obtain rfl : k = 39 := by omega
              exact vp1_39
            · skip
              obtain rfl : k = 40 := by omega
              exact vp1_40
        · skip
          by_cases h41_45 : k < 43
          · skip
            by_cases h41_43 : k < 42
            · skip
              obtain rfl : k = 41 := by omega
              exact vp1_41
            · skip
              obtain rfl : k = 42 := by omega
              exact vp1_42
          · skip
            by_cases h43_45 : k < 44
            · skip
              obtain rfl : k = 43 := by omega
              exact vp1_43
            · skip
              obtain rfl : k = 44 := by omega
              exact vp1_44
    · skip
      by_cases h45_60 : k < 52
      · skip
        by_cases h45_52 : k < 48
        · skip
          by_cases h45_48 : k < 46
          · skip
            obtain rfl : k = 45 := by omega
            exact vp1_45
          · skip
            by_cases h46_48 : k < 47
            · skip
              obtain rfl : k = 46 := by omega
              exact vp1_46
            · skip
              obtain rfl : k = 47 := by omega
              exact vp1_47
        · skip
          by_cases h48_52 : k < 50
          · skip
            by_cases h48_50 : k < 49
            · skip
              obtain rfl : k = 48 := by omega
              exact vp1_48
            · skip
              obtain rfl : k = 49 := by omega
              exact vp1_49
          · skip
            by_cases h50_52 : k < 51
            · skip
              obtain rfl : k = 50 := by omega
              exact vp1_50
            · skip
              obtain rfl : k = 51 := by omega
              exact vp1_51
      · skip
        by_cases h52_60 : k < 56
        · skip
          by_cases h52_56 : k < 54
          · skip
            by_cases h52_54 : k < 53
            · skip
              obtain rfl : k = 52 := by omega
              exact vp1_52
            · skip
              obtain rfl : k = 53 := by omega
              exact vp1_53
          · skip
            by_cases h54_56 : k < 55
            · skip
              obtain rfl : k = 54 := by omega
              exact vp1_54
            · skip
              obtain rfl : k = 55 := by omega
              exact vp1_55
        · skip
          by_cases h56_60 : k < 58
          · skip
            by_cases h56_58 : k < 57
            · skip
              obtain rfl : k = 56 := by omega
              exact vp1_56
            · skip
              obtain rfl : k = 57 := by omega
              exact vp1_57
          · skip
            by_cases h58_60 : k < 59
            · skip
              obtain rfl : k = 58 := by omega
              exact vp1_58
            · skip
              obtain rfl : k = 59 := by omega
              exact vp1_59
theorem rdP1 (k : Nat) (h : k < 60) : Piece Tryz.prog b1 55 (fvals [(1, .nn k)]) .nx (fvals [(1, .nn (k + 1))]) := by
  have h1 := rds1 k h
  unfold vp1 at h1
  rw [natK_eq] at h1
  exact piece0 tb1 rfl h1
theorem lawP : Piece Tryz.prog lawC 55 [] .rt [(0, .bool true)] := by
  rw [shape]
  exact piece_seq (piece0 tcA rfl gA) (piece_seq (piece_seq (piece0 tc1 rfl gC1) (piece_block (piece_rounds (fun k => fvals [(1, .nn k)]) 60 rdP1 (piece0 tb1 rfl gE1))))
    (piece_seq (piece0 tcL2 rfl gL2) (piece0 tcE rfl gE)))
theorem numbers_calls (w : World) (hT : Tabs w) : Calls Tryz.prog 4 #[] w fun e w' => e = .returned (.bool true) ∧ Below w.heap.size w w' := by
  refine calls_of_piece (fn := Tryz.f4) (c := lawC) (r := 0) Tryz.func4 (by kernel_rfl) (by kernel_rfl) rfl ?_ w hT
  exact lawP
end Go.Proofs.YtenolmhnmcjndaaGreatDoor.Ev
