/- For every input whose bulk is at most 1048576 the law GatherStrips returns true, and all that it was given reads behind the call as it read before. -/
import Derived.Test.YtofigleaealbjaaGreatDoorCards
import Derived.Test.YtofigleaealbjaaGreatDoorTie
import Derived.WalkKit
import Derived.ProofKit
import Derived.OpenShut
import Derived.Deep.DeepHandedRow
import Derived.Lib.LaidTab
import Derived.Lib.LaidU8T
import Derived.Test.YtofigleaealbjaaGreatDoorEvPost
import Derived.Test.YtofigleaealbjaaGreatDoorEvG2
import Derived.Test.YtofigleaealbjaaGreatDoorEvTabT
import Derived.Test.YtofigleaealbjaaGreatDoorEvPrimsM
namespace Go.Proofs.YtofigleaealbjaaGreatDoor
open Go Go.ChangeShapes Go.WideShapes Go.ChangeAt Go.RowKit
namespace gatherStrips
theorem own : ownKnob Tryz.prog.godebug = none := by kernel_rfl
theorem laidOut : laidOutB Tryz.prog = true := by kernel_rfl

theorem tabs {W : World} (hL : laidMetH Tryz.prog Rows.gatherStripsUptoRow.laid W) : Ev.Tabs W := by
  have e0 : Rows.gatherStripsUptoRow.laid = [("math/bits.deBruijn32tab", Rows.laid_math_bits_deBruijn32tab), ("math/bits.deBruijn64tab", Rows.laid_math_bits_deBruijn64tab), ("internal/strconv.uint64pow10", Lib.tabData .u64 Lib.pow10Tab), ("unicode/utf8.acceptRanges", Lib.acceptData), ("strconv.ErrRange", Rows.laid_strconv_ErrRange), ("strconv.ErrSyntax", Rows.laid_strconv_ErrSyntax), ("unicode/utf8.first", Lib.firstData)] := by kernel_rfl
  have e1 : Rows.gatherStripsUptoRow.laid.filter (fun x => x.2.handleName?.isSome) = [] := by kernel_rfl
  have e : laidMet Tryz.prog [("math/bits.deBruijn32tab", Rows.laid_math_bits_deBruijn32tab), ("math/bits.deBruijn64tab", Rows.laid_math_bits_deBruijn64tab), ("internal/strconv.uint64pow10", Lib.tabData .u64 Lib.pow10Tab), ("unicode/utf8.acceptRanges", Lib.acceptData), ("strconv.ErrRange", Rows.laid_strconv_ErrRange), ("strconv.ErrSyntax", Rows.laid_strconv_ErrSyntax), ("unicode/utf8.first", Lib.firstData)] W := by
    unfold laidMetH at hL
    rw [e1] at hL
    rw [← e0]; exact hL
  exact ⟨utf8Tabs_of_readsT (Go.Proofs.U8Types.of196 Ev.lays196) ⟨by kernel_rfl, by kernel_rfl, by kernel_rfl, by kernel_rfl, by kernel_rfl, by kernel_rfl, by kernel_rfl⟩ (Lib.laidMet.reads e (.tail _ (.tail _ (.tail _ (.tail _ (.tail _ (.tail _ (.head _)))))))) (Lib.laidMet.reads e (.tail _ (.tail _ (.tail _ (.head _))))),
    Ev.pow_of_reads (te := 130) (t := 149) (by kernel_rfl) (by kernel_rfl) Tryz.underlying149 Tryz.underlying130 (by kernel_rfl) (by kernel_rfl) (Lib.laidMet.reads e (.tail _ (.tail _ (.head _)))),
    Ev.err_of_reads (te := 97) (by kernel_rfl) (by kernel_rfl) Tryz.underlying97 (Lib.laidMet.reads e (.tail _ (.tail _ (.tail _ (.tail _ (.tail _ (.head _))))))),
    Ev.err_of_reads (te := 97) (by kernel_rfl) (by kernel_rfl) Tryz.underlying97 (Lib.laidMet.reads e (.tail _ (.tail _ (.tail _ (.tail _ (.head _))))))⟩

set_option maxRecDepth 100000 in
theorem contract (K : Type) (enc : TypeId × Value → K) (W : World) (base : Nat) (args : Array Value) (ds gs : List (DataW K)) (before : List MemPlace)
    (hval : ∀ (j : Nat) t v, Tryz.f3.params[j]? = some t → args[j]? = some v → Value.okWide Tryz.prog W .any base t v)
    (hW : DataW.Whole enc Tryz.prog Tryz.f3.params.toList Rows.gatherStripsSpec.vars false W args.toList ds gs before) (hL : laidMetH Tryz.prog Rows.gatherStripsUptoRow.laid W) (hbulk : Rows.uptoBulkAll (ds ++ gs) ≤ 1048576) :
    Calls Tryz.prog 3 args W fun e W' => ∃ v, e = .returned v ∧ Rows.gatherStripsSpec.post enc Tryz.prog Tryz.f3 false true false false W args v W' := by
  have hT := tabs hL
  have hW' := hW
  obtain ⟨p, q, hA0, hV, rfl, hfz, hnd⟩ := hW
  have hA : DataW.TrodAll enc Tryz.prog W 0 (fun _ => true) true Tryz.f3.params.toList args.toList ds p := hA0
  rw [Tryz.params3] at hA hval
  obtain ⟨v0, vs0, d0, ds0, p0, q0, hargs, rfl, rfl, h0, r0⟩ := trodAll_cons hA
  obtain ⟨v1, vs1, d1, ds1, p1, q1, rfl, rfl, rfl, h1, r1⟩ := trodAll_cons r0
  obtain ⟨v2, vs2, d2, ds2, p2, q2, rfl, rfl, rfl, h2, r2⟩ := trodAll_cons r1
  obtain ⟨rfl, rfl, rfl⟩ := trodAll_nil r2
  obtain rfl : args = #[v0, v1, v2] := by cases args; simp_all
  obtain ⟨rfl, rfl⟩ := trodVars_none hV
  obtain ⟨s0, rfl, rfl, rfl, w0⟩ := ChangeMaps.open_string Tryz.underlying9 (hval 0 9 v0 rfl rfl) h0
  obtain ⟨s1, rfl, rfl, rfl, w1⟩ := ChangeMaps.open_string Tryz.underlying9 (hval 1 9 v1 rfl rfl) h1
  obtain ⟨s2, rfl, rfl, rfl, w2⟩ := open_int Tryz.underlying3 (hval 2 3 v2 rfl rfl) h2
  have hsim := Ev.sim_empty (P := Tryz.prog) hT
  have b0 : s0.size ≤ 1048576 := by
    have := hbulk
    simp only [List.append_nil, Rows.uptoBulkAll, Rows.uptoBulk, Array.length_toList] at this
    have e : s0.data.size = s0.size := rfl
    omega
  have b1 : s1.size ≤ 1048576 := by
    have := hbulk
    simp only [List.append_nil, Rows.uptoBulkAll, Rows.uptoBulk, Array.length_toList] at this
    have e : s1.data.size = s1.size := rfl
    omega
  have hF : Ev.FWp Tryz.prog Ev.prims 3 [.string s0, .string s1, .int .i64 s2] Ev.AH.empty fun u _ => u = .bool true := Ev.law_spec s0 s1 b0 b1 s2 Ev.AH.empty _ (fun _ => rfl) hsim.wf
  refine (Ev.law_callsR (ys := [.string s0, .string s1, .int .i64 s2]) Ev.progOk Ev.mixed Ev.prims_ok rfl hF hsim (fun c r δ b h => nomatch h) ⟨Ev.val_refl rfl, Ev.val_refl rfl, Ev.val_refl rfl, trivial⟩).mono fun e W' ⟨he, hB⟩ => ?_
  exact ⟨_, he, Ev.post_true laidOut (by rw [Tryz.params3]; intro t ht; simp only [List.mem_cons, List.not_mem_nil, or_false] at ht; rcases ht with rfl | rfl | rfl <;> exact ⟨by kernel_rfl, of_decide_eq_true (by kernel_rfl)⟩) rfl hW' hB rfl Tryz.underlying4 rfl⟩

noncomputable def laidWorld (os : Os) : World :=
  let w0 := World.holding Tryz.prog os ⟨#[], #[], []⟩
  let put (h : Array Obj) (g : Nat) (cs : Array Value) : Array Obj := h.modify g fun
    | .cells _ t frozen => .cells cs t frozen
    | o => o
  let h1 := put w0.heap 0 (Lib.firstTab.map fun z => Value.int .u8 z).toArray
  let h2 := put h1 1 ((List.range 16).flatMap fun i => [Value.int .u8 (Lib.accLo i), Value.int .u8 (Lib.accHi i)]).toArray
  let h3 := put h2 5 (Lib.pow10Tab.map fun z => Value.int .u64 z).toArray
  let h4 := put h3 6 (([0, 1, 28, 2, 29, 14, 24, 3, 30, 22, 20, 15, 25, 17, 4, 8, 31, 27, 13, 23, 21, 19, 16, 7, 26, 12, 18, 6, 11, 5, 10, 9] : List Int).map fun z => Value.int .u8 z).toArray
  let h5 := put h4 7 (([0, 1, 56, 2, 57, 49, 28, 3, 61, 58, 42, 50, 38, 29, 17, 4, 62, 47, 59, 36, 45, 43, 51, 22, 53, 39, 33, 30, 24, 18, 12, 5, 63, 55, 48, 27, 60, 41, 37, 16, 46, 35, 44, 21, 52, 32, 23, 11, 54, 26, 40, 15, 34, 20, 31, 10, 25, 14, 19, 9, 13, 8, 7, 6] : List Int).map fun z => Value.int .u8 z).toArray
  let h6 := (h5.push (.cells #[.string ⟨#[118, 97, 108, 117, 101, 32, 111, 117, 116, 32, 111, 102, 32, 114, 97, 110, 103, 101]⟩] 142 (0, 0))).push (.cells #[.string ⟨#[105, 110, 118, 97, 108, 105, 100, 32, 115, 121, 110, 116, 97, 120]⟩] 142 (0, 0))
  let h7 := put h6 4 #[.iface 140 (.pointer (some ⟨h5.size, 0, none⟩))]
  let h8 := put h7 3 #[.iface 140 (.pointer (some ⟨h5.size + 1, 0, none⟩))]
  { w0 with heap := h8 }
theorem laid_met (os : Os) : laidMet Tryz.prog Rows.gatherStripsUptoRow.laid ((laidWorld os).forCall (fun _ _ => 0) ⟨#[], #[.string ⟨#[]⟩, .string ⟨#[]⟩, .int .i64 0], []⟩).memory :=
  laidMet_of_run' 8 (by kernel_rfl) (by kernel_rfl)
theorem reads (os : Os) {K : Type} (enc : TypeId × Value → K) : ∃ places, DataW.whole enc Tryz.prog ((laidWorld os).forCall (fun _ _ => 0) ⟨#[], #[.string ⟨#[]⟩, .string ⟨#[]⟩, .int .i64 0], []⟩).memory Tryz.f3.params.toList Rows.gatherStripsSpec.vars false (#[.string ⟨#[]⟩, .string ⟨#[]⟩, .int .i64 0] : Array Value).toList 8 = some ([.lit (.string []), .lit (.string []), .lit (.int .i64 0)], [], places) :=
  ⟨[], by kernel_rfl⟩

set_option maxRecDepth 100000 in
theorem lifted (os : Os) (started : os.Started) (K : Type) (enc : TypeId × Value → K) (F : Stop.Interp) :
    ReturnsInHanded {} Tryz.checked os 3 .any ((Rows.OpenSpec.upto Rows.gatherStripsSpec).preRow enc Tryz.prog Tryz.f3 Rows.gatherStripsUptoRow.domain false Rows.gatherStripsUptoRow.laid) (((Rows.OpenSpec.upto Rows.gatherStripsSpec).at F).post enc Tryz.prog Tryz.f3 false true false false) := by
  obtain ⟨places, hx⟩ := reads os enc
  refine returnsInHanded_of_row (C := Tryz.checked) (s := (Rows.OpenSpec.upto Rows.gatherStripsSpec)) own started (by kernel_rfl) Tryz.func3
    (witness_row_at (enc := enc) (C := Tryz.checked) false (laidWorld os) #[.string ⟨#[]⟩, .string ⟨#[]⟩, .int .i64 0] rfl (by kernel_rfl) (by kernel_rfl) (by kernel_rfl)
      (OpenSpec.preRow_of_cond 8 hx (by kernel_rfl) (fun k hk => by cases hk; kernel_rfl) (by kernel_rfl) (laid_met os))) ?_
  intro W base args ds gs before hval hW _ hcond _ hL _ _
  exact contract K enc W base args ds gs before hval hW hL (of_decide_eq_true (hcond _ rfl))

theorem said : Rows.GatherStripsUptoSaid :=
  OpenClaim.holds_of_cond 3 Tryz.f3 rfl rfl rfl rfl rfl rfl rfl ⟨rfl, rfl, rfl, rfl, rfl⟩ rfl rfl rfl rfl rfl (by kernel_rfl) Tryz.func3 (by kernel_rfl)
    (of_decide_eq_true (by kernel_rfl)) (by unfold Func.isWrapper; first | (rw [if_pos (by decide +kernel)]; kernel_rfl) | (rw [if_neg (by decide +kernel)]; exact ⟨rfl, rfl⟩))
    (fun os started K enc _ F => by rw [OpenClaim.pre_eq_preRow]; exact lifted os started K enc F)

theorem plain (f : FuncId) (fn : Func) (hf : Tryz.pinned.checked.prog.funcNamed "selvedge/selvedgelaw21.GatherStrips" = some f) (hfn : Tryz.pinned.checked.prog.funcs[f]? = some fn) :
    true = Tryz.pinned.checked.prog.looks [] ∧ ∀ (j : Nat) t, fn.params[j]? = some t → Tryz.pinned.checked.prog.wantsStandIn t = false := by
  obtain rfl : f = 3 := Option.some.inj ((show Tryz.prog.funcNamed "selvedge/selvedgelaw21.GatherStrips" = some 3 by kernel_rfl).symm.trans hf) |>.symm
  obtain rfl : fn = Tryz.f3 := (Option.some.inj (Tryz.func3.symm.trans hfn)).symm
  refine ⟨by kernel_rfl, fun j t ht => ?_⟩
  rw [Tryz.params3] at ht
  have hm := Array.mem_of_getElem? ht
  simp only [List.mem_toArray, List.mem_cons, List.not_mem_nil, or_false] at hm
  rcases hm with rfl | rfl | rfl
  · exact (show Tryz.prog.wantsStandIn 9 = false by kernel_rfl)
  · exact (show Tryz.prog.wantsStandIn 9 = false by kernel_rfl)
  · exact (show Tryz.prog.wantsStandIn 3 = false by kernel_rfl)

/-- THE CARD. -/
theorem card : Rows.GatherStripsUptoCardSaid :=
  Claim7.holds_tied_plain_at .later [] _ _ _ _ said (fun _ h => by cases h) (by kernel_rfl) (fun _ h => by cases h) gatherStripsUpto_row_tie rfl ⟨rfl, rfl⟩ (by kernel_rfl) rfl plain (by kernel_rfl)
end gatherStrips
end Go.Proofs.YtofigleaealbjaaGreatDoor
