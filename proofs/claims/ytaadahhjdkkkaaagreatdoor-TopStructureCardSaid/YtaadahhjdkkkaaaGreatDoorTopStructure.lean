/- For every input the law TopStructure returns true, and all that it was given reads behind the call as it read before.
  TopStructure: whatever its numbers are, it is one of 32 runs.
-/
import Derived.Test.YtaadahhjdkkkaaaGreatDoorCards
import Derived.Test.YtaadahhjdkkkaaaGreatDoorTie
import Derived.WalkKit
import Derived.ProofKit
import Derived.OpenShut
import Derived.Deep.DeepHandedRow
import Derived.Lib.LaidTab
import Derived.Lib.LaidU8T
import Derived.Test.YtaadahhjdkkkaaaGreatDoorEvPost
import Derived.Test.YtaadahhjdkkkaaaGreatDoorEvPowT
import Derived.Test.YtaadahhjdkkkaaaGreatDoorEvTS1
import Derived.Test.YtaadahhjdkkkaaaGreatDoorEvTS2
import Derived.Test.YtaadahhjdkkkaaaGreatDoorEvTS3
import Derived.Test.YtaadahhjdkkkaaaGreatDoorEvTS4
import Derived.Test.YtaadahhjdkkkaaaGreatDoorEvTS5
import Derived.Test.YtaadahhjdkkkaaaGreatDoorEvTS6
import Derived.Test.YtaadahhjdkkkaaaGreatDoorEvTS7
import Derived.Test.YtaadahhjdkkkaaaGreatDoorEvTS8
import Derived.Test.YtaadahhjdkkkaaaGreatDoorEvPrims
import Derived.Test.YtaadahhjdkkkaaaGreatDoorEvSymX
namespace Go.Proofs.YtaadahhjdkkkaaaGreatDoor.Ev
set_option linter.unusedVariables false
set_option linter.unusedSimpArgs false
set_option maxRecDepth 100000
open Go Go.RowKit
theorem callR0 : CallR (vmFn Tryz.prog prims0 fp0 tab 5000) (evFn Tryz.prog prims0 5000) := vmFn_ok fp0_ok tab_ok 5000
theorem reg0 (n : Nat) : RegOk Tryz.prog (evRegion Tryz.prog ffl (evFn Tryz.prog prims0 n)) := region_sound progOk mixed (evFn_sound progOk mixed prims0_ok n) (evFn_h prims0_ok.h n) (evFn_flat prims0_ok n)
theorem tR : chkCode Tryz.prog ffl lawT cR = true := by kernel_rfl
theorem runs_all (k m : Nat) (hk : k ≤ 3) (hm : m ≤ 7) : vpS k m = true := by
  have h : m = 0 ∨ m = 1 ∨ m = 2 ∨ m = 3 ∨ m = 4 ∨ m = 5 ∨ m = 6 ∨ m = 7 := by omega
  rcases h with rfl | rfl | rfl | rfl | rfl | rfl | rfl | rfl
  · exact runs_0 k hk
  · exact runs_1 k hk
  · exact runs_2 k hk
  · exact runs_3 k hk
  · exact runs_4 k hk
  · exact runs_5 k hk
  · exact runs_6 k hk
  · exact runs_7 k hk
theorem pieceR (k m : Nat) (hk : k ≤ 3) (hm : m ≤ 7) : Piece Tryz.prog cR 81 (fvals [(5, .nn k), (6, .ss m 0x2020202020202020)]) .rt (fvals [(4, .bb true)]) :=
  piece_of_vm callR0 (reg0 5000) (by decide : 81 ≤ 512) jk_ok tR rfl (runs_all k m hk hm)
theorem wp_of_cwp {c : Code} {e : List Value} {H : AH} {Qs : St → List Value → AH → Prop} (h : CWp Tryz.prog prims0 c e H Qs) {φ : Phi} {w : World} {a : Act} {Q : Exit → Act → World → Prop} (hs : Sim Tryz.prog φ H w) (he : EnvR Tryz.prog φ H w e a.tmps)
    (k : ∀ st e' H' φ' w' a', Qs st e' H' → Step Tryz.prog φ H w φ' H' w' → Sim Tryz.prog φ' H' w' → EnvR Tryz.prog φ' H' w' e' a'.tmps → a'.defers = a.defers → Q st.exit a' w') : c.wp Tryz.prog Q a w := by
  obtain ⟨n, st, e', H', h1, h2⟩ := h
  exact evCode_sound (reg0 n) n c e H st e' H' φ w a Q (h1 n (Nat.le_refl _)) hs he fun φ1 w1 a1 s1 hs1 he1 hd1 => k _ _ _ _ _ _ h2 s1 hs1 he1 hd1
theorem slots_of_env {φ : Phi} {H : AH} {w : World} {e : List Value} {t : Array Value} {n : Nat} {l : List (Nat × Value)} (he : EnvR Tryz.prog φ H w e t) (hn : e.length = n) (hl : ∀ p, p ∈ l → e[p.1]? = some p.2 ∧ flatB p.2 = true) : SlotsOk l n t := by
  refine ⟨by rw [he.1, hn], fun p hp => ?_⟩
  obtain ⟨h8, h9⟩ := hl p hp
  have h10 : p.1 < t.size := by rw [he.1]; exact (List.getElem?_eq_some_iff.1 h8).1
  have h11 := he.2 _ _ _ h8 (Array.getElem?_eq_getElem h10)
  rw [Array.getElem?_eq_getElem h10, ← val_eq h9 h11]
def env0 (n dp : Int) : List Value := [.int .i64 n, .int .i64 dp] ++ List.replicate 79 undef
def env1 (n dp : Int) : List Value := (env0 n dp).set 4 (.bool false)
theorem leadA (n dp : Int) : CWp Tryz.prog prims0 cA (env0 n dp) AH.empty fun st e' H' => st = .nx ∧ H' = AH.empty ∧ e' = env1 n dp := by
  refine CWp.region ?_
  refine OWp.assign rfl rfl ?_ rfl
  refine OWp.nil ?_
  exact ⟨rfl, rfl, rfl⟩
theorem leadB (n dp : Int) : CWp Tryz.prog prims0 cB (env1 n dp) AH.empty fun st e' H' => st = .nx ∧ H' = AH.empty ∧ e'.length = 81 ∧ ∃ k m : Nat, k ≤ 3 ∧ m ≤ 7 ∧ e'[5]? = some (.int .i64 (k : Int)) ∧ e'[6]? = some (.string (bytesA m 0x2020202020202020)) := by
  refine CWp.drawn (by kernel_rfl) ?_
  refine OWp.move rfl rfl ?_ rfl
  refine OWp.andR rfl rfl rfl rfl (.inr rfl) (by decide) (fun k hk => ?_)
  refine OWp.move rfl rfl ?_ rfl
  refine OWp.andR rfl rfl rfl rfl (.inr rfl) (by decide) (fun m hm => ?_)
  refine OWp.sliceS (h := (m : Int)) (l := 0) rfl rfl Tryz.underlying9 rfl rfl rfl (by omega) (by omega) (by show (m : Int) ≤ 8; omega) ?_ rfl
  refine OWp.assign rfl rfl ?_ rfl
  refine OWp.assign rfl rfl ?_ rfl
  refine OWp.nil ?_
  refine ⟨rfl, rfl, rfl, k, m, by omega, by omega, rfl, ?_⟩
  have h : m = 0 ∨ m = 1 ∨ m = 2 ∨ m = 3 ∨ m = 4 ∨ m = 5 ∨ m = 6 ∨ m = 7 := by omega
  rcases h with rfl | rfl | rfl | rfl | rfl | rfl | rfl | rfl <;> (show (_ : Option Value) = _; kernel_rfl)
theorem top_calls (n dp : Int) (w : World) (hT : Tabs w) : Calls Tryz.prog 3 #[.int .i64 n, .int .i64 dp] w fun e w' => e = .returned (.bool true) ∧ Below w.heap.size w w' := by
  have hb : Tryz.f3.body = some lawC := by kernel_rfl
  refine calls_of_wp Tryz.func3 hb ?_
  rw [shape]
  have hs := sim_empty (P := Tryz.prog) hT
  have he : EnvR Tryz.prog (fun _ => none) AH.empty w (env0 n dp) ((#[.int .i64 n, .int .i64 dp] : Array Value) ++ Array.replicate (81 - 2) undef) := by
    refine ⟨by simp [env0], fun i x y hx hy => ?_⟩
    have e : (env0 n dp) = ((#[.int .i64 n, .int .i64 dp] : Array Value) ++ Array.replicate (81 - 2) undef).toList := by simp [env0]
    rw [e, Array.getElem?_toList, hy] at hx
    cases hx
    refine val_refl ?_
    have hm : x ∈ env0 n dp := by rw [e]; exact Array.mem_toList_iff.2 (Array.mem_of_getElem? hy)
    unfold env0 at hm
    rcases List.mem_append.1 hm with h | h
    · simp only [List.mem_cons, List.not_mem_nil, or_false] at h
      rcases h with rfl | rfl <;> rfl
    · rw [(List.mem_replicate.1 h).2]; rfl
  refine wp_seq (wp_of_cwp (leadA n dp) hs he fun st1 e1 H1 φ1 w1 a1 hq1 s1 hs1 he1 hd1 => ?_)
  obtain ⟨rfl, rfl, rfl⟩ := hq1
  refine wp_seq (wp_of_cwp (leadB n dp) hs1 he1 fun st2 e2 H2 φ2 w2 a2 hq2 s2 hs2 he2 hd2 => ?_)
  obtain ⟨rfl, rfl, hlen, k, m, hk, hm, h5, h6⟩ := hq2
  have hB1 := step_ro (fun c r δ b h => by cases h) s1
  have hB2 := step_ro (fun c r δ b _ h => by cases h) s2
  have hB := below_trans hB1 hB2
  refine pieceR k m hk hm w2 a2 _ (tabs_below hT hB) (slots_of_env he2 hlen (fun p hp => ?_)) fun w3 a3 hB3 hT3 hl3 hd3 => ?_
  · simp only [fvals, List.map_cons, List.map_nil, List.mem_cons, List.not_mem_nil, or_false] at hp
    rcases hp with rfl | rfl
    · exact ⟨h5, rfl⟩
    · exact ⟨h6, rfl⟩
  have h4 := hl3.2 _ List.mem_cons_self
  have hv : (results Tryz.f3 a3.tmps).run Tryz.prog w3 = .ok (.bool true) w3 := by
    have h4 : a3.tmps[4]? = some (.bool true) := h4
    have : Tryz.f3.results = #[.tmp 4] := by kernel_rfl
    simp [results, this, h4]
  have : a3.defers = [] ∧ ∃ v', (results Tryz.f3 a3.tmps).run Tryz.prog w3 = .ok v' w3 ∧ (Ending.returned v' = .returned (.bool true) ∧ Below w.heap.size w w3) := ⟨by rw [hd3, hd2, hd1], _, hv, rfl, below_trans hB hB3⟩
  exact this
end Go.Proofs.YtaadahhjdkkkaaaGreatDoor.Ev
namespace Go.Proofs.YtaadahhjdkkkaaaGreatDoor
open Go Go.ChangeShapes Go.WideShapes Go.ChangeAt Go.RowKit
namespace topStructure
theorem own : ownKnob Tryz.prog.godebug = none := by kernel_rfl
theorem laidOut : laidOutB Tryz.prog = true := by kernel_rfl

theorem tabs {W : World} (hL : laidMetH Tryz.prog Rows.topStructureRow.laid W) : Ev.Tabs W := by
  have e0 : Rows.topStructureRow.laid = [("math/bits.deBruijn32tab", Rows.laid_math_bits_deBruijn32tab), ("math/bits.deBruijn64tab", Rows.laid_math_bits_deBruijn64tab), ("internal/strconv.uint64pow10", Lib.tabData .u64 Lib.pow10Tab), ("unicode/utf8.acceptRanges", Lib.acceptData), ("strconv.ErrRange", Rows.laid_strconv_ErrRange), ("strconv.ErrSyntax", Rows.laid_strconv_ErrSyntax), ("unicode/utf8.first", Lib.firstData)] := by kernel_rfl
  have e1 : Rows.topStructureRow.laid.filter (fun x => x.2.handleName?.isSome) = [] := by kernel_rfl
  have e : laidMet Tryz.prog [("math/bits.deBruijn32tab", Rows.laid_math_bits_deBruijn32tab), ("math/bits.deBruijn64tab", Rows.laid_math_bits_deBruijn64tab), ("internal/strconv.uint64pow10", Lib.tabData .u64 Lib.pow10Tab), ("unicode/utf8.acceptRanges", Lib.acceptData), ("strconv.ErrRange", Rows.laid_strconv_ErrRange), ("strconv.ErrSyntax", Rows.laid_strconv_ErrSyntax), ("unicode/utf8.first", Lib.firstData)] W := by
    unfold laidMetH at hL
    rw [e1] at hL
    rw [← e0]; exact hL
  exact ⟨utf8Tabs_of_readsT (Go.Proofs.U8Types.of196 Ev.lays196) ⟨by kernel_rfl, by kernel_rfl, by kernel_rfl, by kernel_rfl, by kernel_rfl, by kernel_rfl, by kernel_rfl⟩ (Lib.laidMet.reads e (.tail _ (.tail _ (.tail _ (.tail _ (.tail _ (.tail _ (.head _)))))))) (Lib.laidMet.reads e (.tail _ (.tail _ (.tail _ (.head _))))),
    Ev.pow_of_reads (te := 288) (t := 310) (by kernel_rfl) (by kernel_rfl) Tryz.underlying310 Tryz.underlying288 (by kernel_rfl) (by kernel_rfl) (Lib.laidMet.reads e (.tail _ (.tail _ (.head _))))⟩

set_option maxRecDepth 100000 in
theorem contract (K : Type) (enc : TypeId × Value → K) (W : World) (base : Nat) (args : Array Value) (ds gs : List (DataW K)) (before : List MemPlace)
    (hval : ∀ (j : Nat) t v, Tryz.f3.params[j]? = some t → args[j]? = some v → Value.okWide Tryz.prog W .any base t v)
    (hW : DataW.Whole enc Tryz.prog Tryz.f3.params.toList Rows.topStructureSpec.vars false W args.toList ds gs before) (hL : laidMetH Tryz.prog Rows.topStructureRow.laid W) :
    Calls Tryz.prog 3 args W fun e W' => ∃ v, e = .returned v ∧ Rows.topStructureSpec.post enc Tryz.prog Tryz.f3 false true false false W args v W' := by
  have hT := tabs hL
  have hW' := hW
  obtain ⟨p, q, hA0, hV, rfl, hfz, hnd⟩ := hW
  have hA : DataW.TrodAll enc Tryz.prog W 0 (fun _ => true) true Tryz.f3.params.toList args.toList ds p := hA0
  rw [Tryz.params3] at hA hval
  obtain ⟨v0, vs0, d0, ds0, p0, q0, hargs, rfl, rfl, h0, r0⟩ := trodAll_cons hA
  obtain ⟨v1, vs1, d1, ds1, p1, q1, rfl, rfl, rfl, h1, r1⟩ := trodAll_cons r0
  obtain ⟨rfl, rfl, rfl⟩ := trodAll_nil r1
  obtain rfl : args = #[v0, v1] := by cases args; simp_all
  obtain ⟨rfl, rfl⟩ := trodVars_none hV
  obtain ⟨s0, rfl, rfl, rfl, w0⟩ := open_int Tryz.underlying3 (hval 0 3 v0 rfl rfl) h0
  obtain ⟨s1, rfl, rfl, rfl, w1⟩ := open_int Tryz.underlying3 (hval 1 3 v1 rfl rfl) h1
  have hsim := Ev.sim_empty (P := Tryz.prog) hT
  refine (Ev.top_calls s0 s1 W hT).mono fun e W' ⟨he, hB⟩ => ?_
  exact ⟨_, he, Ev.post_true laidOut (by rw [Tryz.params3]; intro t ht; simp only [List.mem_cons, List.not_mem_nil, or_false] at ht; rcases ht with rfl | rfl <;> exact ⟨by kernel_rfl, of_decide_eq_true (by kernel_rfl)⟩) rfl hW' hB rfl Tryz.underlying4 rfl⟩

noncomputable def laidWorld (os : Os) : World :=
  let w0 := World.holding Tryz.prog os ⟨#[], #[], []⟩
  let put (h : Array Obj) (g : Nat) (cs : Array Value) : Array Obj := h.modify g fun
    | .cells _ t frozen => .cells cs t frozen
    | o => o
  let h1 := put w0.heap 0 (Lib.firstTab.map fun z => Value.int .u8 z).toArray
  let h2 := put h1 1 ((List.range 16).flatMap fun i => [Value.int .u8 (Lib.accLo i), Value.int .u8 (Lib.accHi i)]).toArray
  let h3 := put h2 5 (Lib.pow10Tab.map fun z => Value.int .u64 z).toArray
  let h4 := put h3 6 (([0, 1, 28, 2, 29, 14, 24, 3, 30, 22, 20, 15, 25, 17, 4, 8, 31, 27, 13, 23, 21, 19, 16, 7, 26, 12, 18, 6, 11, 5, 10, 9] : List Int).map fun z => Value.int .u8 z).toArray
  let h5 := put h4 7 (([0, 1, 56, 2, 57, 49, 28, 3, 61, 58, 42, 50, 38, 29, 17, 4, 62, 47, 59, 36, 45, 43, 51, 22, 53, 39, 33, 30, 24, 18, 12, 5, 63, 55, 48, 27, 60, 41, 37, 16, 46, 35, 44, 21, 52, 32, 23, 11, 54, 26, 40, 15, 34, 20, 31, 10, 25, 14, 19, 9, 13, 8, 7, 6] : List Int).map fun z => Value.int .u8 z).toArray
  let h6 := (h5.push (.cells #[.string ⟨#[118, 97, 108, 117, 101, 32, 111, 117, 116, 32, 111, 102, 32, 114, 97, 110, 103, 101]⟩] 303 (0, 0))).push (.cells #[.string ⟨#[105, 110, 118, 97, 108, 105, 100, 32, 115, 121, 110, 116, 97, 120]⟩] 303 (0, 0))
  let h7 := put h6 4 #[.iface 301 (.pointer (some ⟨h5.size, 0, none⟩))]
  let h8 := put h7 3 #[.iface 301 (.pointer (some ⟨h5.size + 1, 0, none⟩))]
  { w0 with heap := h8 }
theorem laid_met (os : Os) : laidMet Tryz.prog Rows.topStructureRow.laid ((laidWorld os).forCall (fun _ _ => 0) ⟨#[], #[.int .i64 0, .int .i64 0], []⟩).memory :=
  laidMet_of_run' 8 (by kernel_rfl) (by kernel_rfl)
theorem reads (os : Os) {K : Type} (enc : TypeId × Value → K) : ∃ places, DataW.whole enc Tryz.prog ((laidWorld os).forCall (fun _ _ => 0) ⟨#[], #[.int .i64 0, .int .i64 0], []⟩).memory Tryz.f3.params.toList Rows.topStructureSpec.vars false (#[.int .i64 0, .int .i64 0] : Array Value).toList 8 = some ([.lit (.int .i64 0), .lit (.int .i64 0)], [], places) :=
  ⟨[], by kernel_rfl⟩

set_option maxRecDepth 100000 in
theorem lifted (os : Os) (started : os.Started) (K : Type) (enc : TypeId × Value → K) (F : Stop.Interp) :
    ReturnsInHanded {} Tryz.checked os 3 .any ((OpenSpec.ofChange Rows.topStructureSpec).preRow enc Tryz.prog Tryz.f3 Rows.topStructureRow.domain false Rows.topStructureRow.laid) (((OpenSpec.ofChange Rows.topStructureSpec).at F).post enc Tryz.prog Tryz.f3 false true false false) := by
  obtain ⟨places, hx⟩ := reads os enc
  refine returnsInHanded_of_row (C := Tryz.checked) (s := (OpenSpec.ofChange Rows.topStructureSpec)) own started (by kernel_rfl) Tryz.func3
    (witness_row_at (enc := enc) (C := Tryz.checked) false (laidWorld os) #[.int .i64 0, .int .i64 0] rfl (by kernel_rfl) (by kernel_rfl) (by kernel_rfl)
      (OpenSpec.preRow_of_cond 8 hx (by kernel_rfl) (fun k hk => by cases hk) (by kernel_rfl) (laid_met os))) ?_
  intro W base args ds gs before hval hW _ hcond _ hL _ _
  exact contract K enc W base args ds gs before hval hW hL

theorem said : Rows.TopStructureSaid :=
  OpenClaim.holds_of_cond 3 Tryz.f3 rfl rfl rfl rfl rfl rfl rfl ⟨rfl, rfl, rfl, rfl, rfl⟩ rfl rfl rfl rfl rfl (by kernel_rfl) Tryz.func3 (by kernel_rfl)
    (of_decide_eq_true (by kernel_rfl)) (by unfold Func.isWrapper; first | (rw [if_pos (by decide +kernel)]; kernel_rfl) | (rw [if_neg (by decide +kernel)]; exact ⟨rfl, rfl⟩))
    (fun os started K enc _ F => by rw [OpenClaim.pre_eq_preRow]; exact lifted os started K enc F)

theorem plain (f : FuncId) (fn : Func) (hf : Tryz.pinned.checked.prog.funcNamed "selvedge/selvedgetop.TopStructure" = some f) (hfn : Tryz.pinned.checked.prog.funcs[f]? = some fn) :
    true = Tryz.pinned.checked.prog.looks [] ∧ ∀ (j : Nat) t, fn.params[j]? = some t → Tryz.pinned.checked.prog.wantsStandIn t = false := by
  obtain rfl : f = 3 := Option.some.inj ((show Tryz.prog.funcNamed "selvedge/selvedgetop.TopStructure" = some 3 by kernel_rfl).symm.trans hf) |>.symm
  obtain rfl : fn = Tryz.f3 := (Option.some.inj (Tryz.func3.symm.trans hfn)).symm
  refine ⟨by kernel_rfl, fun j t ht => ?_⟩
  rw [Tryz.params3] at ht
  have hm := Array.mem_of_getElem? ht
  simp only [List.mem_toArray, List.mem_cons, List.not_mem_nil, or_false] at hm
  rcases hm with rfl | rfl
  · exact (show Tryz.prog.wantsStandIn 3 = false by kernel_rfl)
  · exact (show Tryz.prog.wantsStandIn 3 = false by kernel_rfl)

/-- THE CARD. -/
theorem card : Rows.TopStructureCardSaid :=
  Claim7.holds_tied_plain_at .later [] _ _ _ _ said (fun _ h => by cases h) (by kernel_rfl) (fun _ h => by cases h) topStructure_row_tie rfl ⟨rfl, rfl⟩ (by kernel_rfl) rfl plain (by kernel_rfl)
end topStructure
end Go.Proofs.YtaadahhjdkkkaaaGreatDoor
