/-
  BlockNumbers: its pieces are joined.
-/
import Derived.Test.YtbcenbhdmpljhaaGreatDoorEvBN1
import Derived.Test.YtbcenbhdmpljhaaGreatDoorEvBN2
import Derived.Test.YtbcenbhdmpljhaaGreatDoorEvBN3
import Derived.Test.YtbcenbhdmpljhaaGreatDoorEvBN4
import Derived.Test.YtbcenbhdmpljhaaGreatDoorEvBN5
import Derived.Test.YtbcenbhdmpljhaaGreatDoorEvBN6
import Derived.Test.YtbcenbhdmpljhaaGreatDoorEvBN7
import Derived.Test.YtbcenbhdmpljhaaGreatDoorEvBN8
import Derived.Test.YtbcenbhdmpljhaaGreatDoorEvBN9
import Derived.Test.YtbcenbhdmpljhaaGreatDoorEvBN10
import Derived.Test.YtbcenbhdmpljhaaGreatDoorEvBN11
import Derived.Test.YtbcenbhdmpljhaaGreatDoorEvBN12
import Derived.Test.YtbcenbhdmpljhaaGreatDoorEvBN13
import Derived.Test.YtbcenbhdmpljhaaGreatDoorEvBN14
import Derived.Test.YtbcenbhdmpljhaaGreatDoorEvBN15
import Derived.Test.YtbcenbhdmpljhaaGreatDoorEvBN16
import Derived.Test.YtbcenbhdmpljhaaGreatDoorEvBNT1
import Derived.Test.YtbcenbhdmpljhaaGreatDoorEvBNT2
import Derived.Test.YtbcenbhdmpljhaaGreatDoorEvBNT3
import Derived.Test.YtbcenbhdmpljhaaGreatDoorEvBNT4
import Derived.Test.YtbcenbhdmpljhaaGreatDoorEvBND1
import Derived.Test.YtbcenbhdmpljhaaGreatDoorEvBND2
import Derived.Test.YtbcenbhdmpljhaaGreatDoorEvBND3
import Derived.Test.YtbcenbhdmpljhaaGreatDoorEvPrims
namespace Go.Proofs.YtbcenbhdmpljhaaGreatDoor.Ev
set_option linter.unusedVariables false
set_option linter.unusedSimpArgs false
set_option maxRecDepth 100000
open Go Go.RowKit
theorem gA : vp cA [] .nx [] = true := by kernel_rfl
theorem gC1 : vp c1 [] .nx [(1, .nn 0)] = true := by kernel_rfl
theorem gE1 : vp b1 [(1, .nn 2801)] (.ex 0) [] = true := by kernel_rfl
theorem gC2 : vp c2 [] .nx [(2, .nn 0)] = true := by kernel_rfl
theorem gE2 : vp b2 [(2, .nn 40)] (.ex 2) [] = true := by kernel_rfl
theorem gC3 : vp c3 [] .nx [(3, .ss 0 0)] = true := by kernel_rfl
theorem gC4 : vp c4 [(3, .ss 0 0)] .nx [(3, .ss 0 0), (4, .nn 0)] = true := by kernel_rfl
theorem gE4 : vp b4 [(3, .ss 86 161743994319161979115935382338930097829996337225674277920593418654992821132485282568169620058895608139327063643019843330638786066116329168162897218630781955915538522246937848472944342284252631955577156476990), (4, .nn 43)] (.ex 4) [] = true := by kernel_rfl
theorem gE : vp cE [] .rt [(0, .bb true)] = true := by kernel_rfl
theorem tcA : chkCode Tryz.prog ffl lawT cA = true := by kernel_rfl
theorem tc1 : chkCode Tryz.prog ffl lawT c1 = true := by kernel_rfl
theorem tb1 : chkCode Tryz.prog ffl lawT b1 = true := by kernel_rfl
theorem tc2 : chkCode Tryz.prog ffl lawT c2 = true := by kernel_rfl
theorem tb2 : chkCode Tryz.prog ffl lawT b2 = true := by kernel_rfl
theorem tc3 : chkCode Tryz.prog ffl lawT c3 = true := by kernel_rfl
theorem tc4 : chkCode Tryz.prog ffl lawT c4 = true := by kernel_rfl
theorem tb4 : chkCode Tryz.prog ffl lawT b4 = true := by kernel_rfl
theorem tcE : chkCode Tryz.prog ffl lawT cE = true := by kernel_rfl
theorem callR0 : CallR (vmFn Tryz.prog prims0 fp0 tab 5000) (evFn Tryz.prog prims0 5000) := vmFn_ok fp0_ok tab_ok 5000
theorem reg0 : RegOk Tryz.prog (evRegion Tryz.prog ffl (evFn Tryz.prog prims0 5000)) := region_sound progOk mixed (evFn_sound progOk mixed prims0_ok 5000) (evFn_h prims0_ok.h 5000) (evFn_flat prims0_ok 5000)
theorem piece0 {c : Code} {l l' : List (Nat × FV)} {st : St} (hT : chkCode Tryz.prog ffl lawT c = true) (hfl : (fvals l).all (fun p => flatB p.2) = true) (h : vp c l st l' = true) : Piece Tryz.prog c 47 (fvals l) st (fvals l') :=
  piece_of_vm callR0 reg0 (by decide : 47 ≤ 64) jk_ok hT hfl h
theorem rds1 (k : Nat) (h : k < 2801) : vp1 k = true := by
  by_cases h1 : k < 176
  · exact vp1_t1 k (by omega) h1
  by_cases h2 : k < 352
  · exact vp1_t2 k (by omega) h2
  by_cases h3 : k < 528
  · exact vp1_t3 k (by omega) h3
  by_cases h4 : k < 704
  · exact vp1_t4 k (by omega) h4
  by_cases h5 : k < 880
  · exact vp1_t5 k (by omega) h5
  by_cases h6 : k < 1056
  · exact vp1_t6 k (by omega) h6
  by_cases h7 : k < 1232
  · exact vp1_t7 k (by omega) h7
  by_cases h8 : k < 1408
  · exact vp1_t8 k (by omega) h8
  by_cases h9 : k < 1584
  · exact vp1_t9 k (by omega) h9
  by_cases h10 : k < 1760
  · exact vp1_t10 k (by omega) h10
  by_cases h11 : k < 1936
  · exact vp1_t11 k (by omega) h11
  by_cases h12 : k < 2112
  · exact vp1_t12 k (by omega) h12
  by_cases h13 : k < 2288
  · exact vp1_t13 k (by omega) h13
  by_cases h14 : k < 2464
  · exact vp1_t14 k (by omega) h14
  by_cases h15 : k < 2640
  · exact vp1_t15 k (by omega) h15
  exact vp1_t16 k (by omega) h
theorem rds2 (k : Nat) (h : k < 40) : vp2 k = true := by
  by_cases h0_40 : k < 20
  · skip
    by_cases h0_20 : k < 10
    · skip
      by_cases h0_10 : k < 5
      · skip
        by_cases h0_5 : k < 2
        · skip
          by_cases h0_2 : k < 1
          · skip
            obtain rfl : k = 0 := by omega
            exact vp2_0
          · skip
            obtain rfl : k = 1 := by omega
            exact vp2_1
        · skip
          by_cases h2_5 : k < 3
          · skip
            obtain rfl : k = 2 := by omega
            exact vp2_2
          · skip
            by_cases h3_5 : k < 4
            · skip
              obtain rfl : k = 3 := by omega
              exact vp2_3
            · skip
              obtain rfl : k = 4 := by omega
              exact vp2_4
      · skip
        by_cases h5_10 : k < 7
        · skip
          by_cases h5_7 : k < 6
          · skip
            obtain rfl : k = 5 := by omega
            exact vp2_5
          · skip
            obtain rfl : k = 6 := by omega
            exact vp2_6
        · skip
          by_cases h7_10 : k < 8
          · skip
            obtain rfl : k = 7 := by omega
            exact vp2_7
          · skip
            by_cases h8_10 : k < 9
            · skip
              obtain rfl : k = 8 := by omega
              exact vp2_8
            · skip
              obtain rfl : k = 9 := by omega
              exact vp2_9
    · skip
      by_cases h10_20 : k < 15
      · skip
        by_cases h10_15 : k < 12
        · skip
          by_cases h10_12 : k < 11
          · skip
            obtain rfl : k = 10 := by omega
            exact vp2_10
          · skip
            obtain rfl : k = 11 := by omega
            exact vp2_11
        · skip
          by_cases h12_15 : k < 13
          · skip
            obtain rfl : k = 12 := by omega
            exact vp2_12
          · skip
            by_cases h13_15 : k < 14
            · skip
              obtain rfl : k = 13 := by omega
              exact vp2_13
            · skip
              obtain rfl : k = 14 := by omega
              exact vp2_14
      · skip
        by_cases h15_20 : k < 17
        · skip
          by_cases h15_17 : k < 16
          · skip
            obtain rfl : k = 15 := by omega
            exact vp2_15
          · skip
            obtain rfl : k = 16 := by omega
            exact vp2_16
        · skip
          by_cases h17_20 : k < 18
          · skip
            obtain rfl : k = 17 := by omega
            exact vp2_17
          · skip
            by_cases h18_20 : k < 19
            · skip
              obtain rfl : k = 18 := by omega
              exact vp2_18
            · skip
              obtain rfl : k = 19 := by omega
              exact vp2_19
  · skip
    by_cases h20_40 : k < 30
    · skip
      by_cases h20_30 : k < 25
      · skip
        by_cases h20_25 : k < 22
        · skip
          by_cases h20_22 : k < 21
          · skip
            obtain rfl : k = 20 := by omega
            exact vp2_20
          · skip
            obtain rfl : k = 21 := by omega
            exact vp2_21
        · skip
          by_cases h22_25 : k < 23
          · skip
            obtain rfl : k = 22 := by omega
            exact vp2_22
          · skip
            by_cases h23_25 : k < 24
            · skip
              obtain rfl : k = 23 := by omega
              exact vp2_23
            · skip
              obtain rfl : k = 24 := by omega
              exact vp2_24
      · skip
        by_cases h25_30 : k < 27
        · skip
          by_cases h25_27 : k < 26
          · skip
            obtain rfl : k = 25 := by omega
            exact vp2_25
          · skip
            obtain rfl : k = 26 := by omega
            exact vp2_26
        · skip
          by_cases h27_30 : k < 28
          · skip
            obtain rfl : k = 27 := by omega
            exact vp2_27
          · skip
            by_cases h28_30 : k < 29
            · skip
              obtain rfl : k = 28 := by omega
              exact vp2_28
            · skip
              obtain rfl : k = 29 := by omega
              exact vp2_29
    · skip
      by_cases h30_40 : k < 35
      · skip
        by_cases h30_35 : k < 32
        · skip
          by_cases h30_32 : k < 31
          · skip
            obtain rfl : k = 30 := by omega
            exact vp2_30
          · skip
            obtain rfl : k = 31 := by omega
            exact vp2_31
        · skip
          by_cases h32_35 : k < 33
          · skip
            obtain rfl : k = 32 := by omega
            exact vp2_32
          · skip
            by_cases h33_35 : k < 34
            · skip
              obtain rfl : k = 33 := by omega
              exact vp2_33
            · skip
              obtain rfl : k = 34 := by omega
              exact vp2_34
      · skip
        by_cases h35_40 : k < 37
        · skip
          by_cases h35_37 : k < 36
          · skip
            obtain rfl : k = 35 := by omega
            exact vp2_35
          · skip
            obtain rfl : k = 36 := by omega
            exact vp2_36
        · skip
          by_cases h37_40 : k < 38
          · skip
            obtain rfl : k = 37 := by omega
            exact vp2_37
          · skip
            by_cases h38_40 : k < 39
            · skip
              obtain rfl : k = 38 := by omega
              exact vp2_38
            · skip
              obtain rfl : k = 39 := by omega
              exact vp2_39
theorem rds4 (k : Nat) (h : k < 43) : vp4 k (dN k) (dN (k + 1)) = true := by
  by_cases h0_43 : k < 21
  · skip
    by_cases h0_21 : k < 10
    · skip
      by_cases h0_10 : k < 5
      · skip
        by_cases h0_5 : k < 2
        · skip
          by_cases h0_2 : k < 1
          · skip
            obtain rfl : k = 0 := by omega
            exact vp4_0
          · skip
            obtain rfl : k = 1 := by omega
            exact vp4_1
        · skip
          by_cases h2_5 : k < 3
          · skip
            obtain rfl : k = 2 := by omega
            exact vp4_2
          · skip
            by_cases h3_5 : k < 4
            · skip
              obtain rfl : k = 3 := by omega
              exact vp4_3
            · skip
              obtain rfl : k = 4 := by omega
              exact vp4_4
      · skip
        by_cases h5_10 : k < 7
        · skip
          by_cases h5_7 : k < 6
          · skip
            obtain rfl : k = 5 := by omega
            exact vp4_5
          · skip
            obtain rfl : k = 6 := by omega
            exact vp4_6
        · skip
          by_cases h7_10 : k < 8
          · skip
            obtain rfl : k = 7 := by omega
            exact vp4_7
          · skip
            by_cases h8_10 : k < 9
            · skip
              obtain rfl : k = 8 := by omega
              exact vp4_8
            · skip
              obtain rfl : k = 9 := by omega
              exact vp4_9
    · skip
      by_cases h10_21 : k < 15
      · skip
        by_cases h10_15 : k < 12
        · skip
          by_cases h10_12 : k < 11
          · skip
            obtain rfl : k = 10 := by omega
            exact vp4_10
          · skip
            obtain rfl : k = 11 := by omega
            exact vp4_11
        · skip
          by_cases h12_15 : k < 13
          · skip
            obtain rfl : k = 12 := by omega
            exact vp4_12
          · skip
            by_cases h13_15 : k < 14
            · skip
              obtain rfl : k = 13 := by omega
              exact vp4_13
            · skip
              obtain rfl : k = 14 := by omega
              exact vp4_14
      · skip
        by_cases h15_21 : k < 18
        · skip
          by_cases h15_18 : k < 16
          · skip
            obtain rfl : k = 15 := by omega
            exact vp4_15
          · skip
            by_cases h16_18 : k < 17
            · skip
              obtain rfl : k = 16 := by omega
              exact vp4_16
            · skip
              obtain rfl : k = 17 := by omega
              exact vp4_17
        · skip
          by_cases h18_21 : k < 19
          · skip
            obtain rfl : k = 18 := by omega
            exact vp4_18
          · skip
            by_cases h19_21 : k < 20
            · skip
              obtain rfl : k = 19 := by omega
              exact vp4_19
            · skip
              obtain rfl : k = 20 := by omega
              exact vp4_20
  · skip
    by_cases h21_43 : k < 32
    · skip
      by_cases h21_32 : k < 26
      · skip
        by_cases h21_26 : k < 23
        · skip
          by_cases h21_23 : k < 22
          · skip
            obtain rfl : k = 21 := by omega
            exact vp4_21
          · skip
            obtain rfl : k = 22 := by omega
            exact vp4_22
        · skip
          by_cases h23_26 : k < 24
          · skip
            obtain rfl : k = 23 := by omega
            exact vp4_23
          · skip
            by_cases h24_26 : k < 25
            · skip
              obtain rfl : k = 24 := by omega
              exact vp4_24
            · skip
              obtain rfl : k = 25 := by omega
              exact vp4_25
      · skip
        by_cases h26_32 : k < 29
        · skip
          by_cases h26_29 : k < 27
          · skip
            obtain rfl : k = 26 := by omega
            exact vp4_26
          · skip
            by_cases h27_29 : k < 28
            · skip
              obtain rfl : k = 27 := by omega
              exact vp4_27
            · skip
              obtain rfl : k = 28 := by omega
              exact vp4_28
        · skip
          by_cases h29_32 : k < 30
          · skip
            obtain rfl : k = 29 := by omega
            exact vp4_29
          · skip
            by_cases h30_32 : k < 31
            · skip
              obtain rfl : k = 30 := by omega
              exact vp4_30
            · skip
              obtain rfl : k = 31 := by omega
              exact vp4_31
    · skip
      by_cases h32_43 : k < 37
      · skip
        by_cases h32_37 : k < 34
        · skip
          by_cases h32_34 : k < 33
          · skip
            obtain rfl : k = 32 := by omega
            exact vp4_32
          · skip
            obtain rfl : k = 33 := by omega
            exact vp4_33
        · skip
          by_cases h34_37 : k < 35
          · skip
            obtain rfl : k = 34 := by omega
            exact vp4_34
          · skip
            by_cases h35_37 : k < 36
            · skip
              obtain rfl : k = 35 := by omega
              exact vp4_35
            · skip
              obtain rfl : k = 36 := by omega
              exact vp4_36
      · skip
        by_cases h37_43 : k < 40
        · skip
          by_cases h37_40 : k < 38
          · skip
            obtain rfl : k = 37 := by omega
            exact vp4_37
          · skip
            by_cases h38_40 : k < 39
            · skip
              obtain rfl : k = 38 := by omega
              exact vp4_38
            · skip
              obtain rfl : k = 39 := by omega
              exact vp4_39
        · skip
          by_cases h40_43 : k < 41
          · skip
            obtain rfl : k = 40 := by omega
            exact vp4_40
          · skip
            by_cases h41_43 : k < 42
            · skip
              obtain rfl : k = 41 := by omega
              exact vp4_41
            · skip
              obtain rfl : k = 42 := by omega
              exact vp4_42
theorem rdP1 (k : Nat) (h : k < 2801) : Piece Tryz.prog b1 47 (fvals [(1, .nn k)]) .nx (fvals [(1, .nn (k + 1))]) := by
  have h1 := rds1 k h
  unfold vp1 at h1
  rw [natK_eq] at h1
  exact piece0 tb1 rfl h1
theorem rdP2 (k : Nat) (h : k < 40) : Piece Tryz.prog b2 47 (fvals [(2, .nn k)]) .nx (fvals [(2, .nn (k + 1))]) := by
  have h1 := rds2 k h
  unfold vp2 at h1
  rw [natK_eq] at h1
  exact piece0 tb2 rfl h1
theorem rdP4 (k : Nat) (h : k < 43) : Piece Tryz.prog b4 47 (fvals [(3, .ss (2 * k) (dN k)), (4, .nn k)]) .nx (fvals [(3, .ss (2 * (k + 1)) (dN (k + 1))), (4, .nn (k + 1))]) :=
  piece0 tb4 rfl (rds4 k h)
theorem end4 : vp b4 [(3, .ss (2 * 43) (dN 43)), (4, .nn 43)] (.ex 4) [] = true := gE4
theorem lawP : Piece Tryz.prog lawC 47 [] .rt [(0, .bool true)] := by
  rw [shape]
  exact piece_seq (piece0 tcA rfl gA) (piece_seq (piece_seq (piece0 tc1 rfl gC1) (piece_block (piece_rounds (fun k => fvals [(1, .nn k)]) 2801 rdP1 (piece0 tb1 rfl gE1))))
    (piece_seq (piece_seq (piece0 tc2 rfl gC2) (piece_block (piece_rounds (fun k => fvals [(2, .nn k)]) 40 rdP2 (piece0 tb2 rfl gE2))))
    (piece_seq (piece0 tc3 rfl gC3) (piece_seq (piece_seq (piece0 tc4 rfl gC4) (piece_block (piece_rounds (fun k => fvals [(3, .ss (2 * k) (dN k)), (4, .nn k)]) 43 rdP4 (piece0 tb4 rfl end4)))) (piece0 tcE rfl gE)))))
theorem numbers_calls (w : World) (hT : Tabs w) : Calls Tryz.prog 3 #[] w fun e w' => e = .returned (.bool true) ∧ Below w.heap.size w w' := by
  refine calls_of_piece (fn := Tryz.f3) (c := lawC) (r := 0) Tryz.func3 (by kernel_rfl) (by kernel_rfl) rfl ?_ w hT
  exact lawP
end Go.Proofs.YtbcenbhdmpljhaaGreatDoor.Ev
