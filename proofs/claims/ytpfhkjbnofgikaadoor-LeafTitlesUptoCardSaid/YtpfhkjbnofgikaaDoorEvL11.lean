import Derived.Test.YtpfhkjbnofgikaaDoorEvL9
import Derived.Test.YtpfhkjbnofgikaaDoorEvL10
namespace Go.Proofs.YtpfhkjbnofgikaaDoor.Ev
open Go
set_option linter.unusedVariables false
set_option linter.unusedSimpArgs false
section
variable {P : Program} {prims : Prims} {ops : Array Oper} {o : Oper} {r : List Oper} {e e' : List Value} {H H1 : AH} {Q : List Value → AH → Prop}
theorem OWp.andV {t t' : TypeId} {x y : Operand} {k : IntKind} {a b : Int} (hg : guardA ops o e = some true) (ho : o.op = .binOp .and t x y t') (hx : rho e x = .int k a) (hy : rho e y = .int k b)
    (hk : OWp P prims ops r e' H Q) (he : putE e o.dst (.int k (k.wrap ((BitVec.ofInt k.bits a &&& BitVec.ofInt k.bits b).toNat : Int))) = e' := by simp only [putE, rho, List.set_cons_zero, List.set_cons_succ, List.getD_cons_zero, List.getD_cons_succ]; exact rfl) : OWp P prims ops (o :: r) e H Q := by
  refine OWp.step hg (fun call => ?_) he hk
  have hf : flatOp P o (rho e) = some (.int k (k.wrap ((BitVec.ofInt k.bits a &&& BitVec.ofInt k.bits b).toNat : Int))) := by
    refine flat_op (by rw [ho]; simp [Op.operands, hx, hy, flatB, flat2, flat1, atomB]) ?_ rfl
    unfold execOp
    rw [ho]
    simp [hx, hy, eqGuard, Go.binOp, Op.intBits]
    rfl
  unfold evOp
  simp only [ho, hx, hy, eqA_int, hf, Option.map_some]
end
def BytesR (l : List Value) : Prop := ∀ v, v ∈ l → ∃ n : Int, v = .int .u8 n ∧ 0 ≤ n ∧ n < 256
structure DeepS (s : ByteArray) : Prop where
  hi : s.size ≤ 3
  lo : 0 < s.size
  no : ¬ gapB (byteAt s (0 : Nat))
def deeps : Array Value := #[.string ⟨#[35, 32, 97]⟩, .string ⟨#[45, 45, 45]⟩, .string ⟨#[62, 32, 98]⟩, .string ⟨#[45, 32, 99]⟩, .string ⟨#[42, 42, 42]⟩, .string ⟨#[42, 32, 100]⟩, .string ⟨#[35, 35]⟩]
def deepB : Value → Bool
  | .string q => decide (q.size ≤ 3) && decide (0 < q.size) && decide (byteAt q (0 : Nat) ≠ 32) && decide (byteAt q (0 : Nat) ≠ 9)
  | _ => false
theorem deep_get (c : Nat) (hc : c < 7) : ∃ q : ByteArray, deeps.toList[c]? = some (.string q) ∧ DeepS q := by
  have hall : deeps.toList.all deepB = true := by kernel_rfl
  have hlt : c < deeps.toList.length := hc
  have h1 : deeps.toList[c]? = some (deeps.toList[c]'hlt) := List.getElem?_eq_getElem hlt
  have h2 := List.all_eq_true.1 hall _ (List.getElem_mem hlt)
  rw [h1]
  generalize deeps.toList[c]'hlt = x at h2
  cases x with
  | string q =>
    simp only [deepB, Bool.and_eq_true, decide_eq_true_eq] at h2
    exact ⟨q, rfl, ⟨h2.1.1.1, h2.1.1.2, by unfold gapB; rintro (k | k); exact h2.1.2 k; exact h2.2 k⟩⟩
  | _ => cases h2
theorem sp3 (c : Nat) (hc : (c : Int) ≤ 3) : (⟨#[32, 32, 32]⟩ : ByteArray).extract 0 c = spaces c := by
  match c, hc with
  | 0, _ => rfl
  | 1, _ => rfl
  | 2, _ => rfl
  | 3, _ => rfl
  | c + 4, h => exact absurd h (by omega)
abbrev P4 : ByteArray := ⟨#[32, 32, 32, 32]⟩
abbrev PT : ByteArray := ⟨#[9]⟩
abbrev P2T : ByteArray := ⟨#[32, 32, 9]⟩
theorem colP4 : colAt P4 P4.size = 4 := by kernel_rfl
theorem colPT : colAt PT PT.size = 4 := by kernel_rfl
theorem colP2T : colAt P2T P2T.size = 4 := by kernel_rfl
theorem gapP4 : ∀ j : Nat, j < P4.size → gapB (byteAt P4 j) := fun j hj => by
  have h : P4.size = 4 := rfl
  match j, (show j < 4 by omega) with
  | 0, _ => exact .inl rfl
  | 1, _ => exact .inl rfl
  | 2, _ => exact .inl rfl
  | 3, _ => exact .inl rfl
theorem gapPT : ∀ j : Nat, j < PT.size → gapB (byteAt PT j) := fun j hj => by
  have h : PT.size = 1 := rfl
  match j, (show j < 1 by omega) with
  | 0, _ => exact .inr rfl
theorem gapP2T : ∀ j : Nat, j < P2T.size → gapB (byteAt P2T j) := fun j hj => by
  have h : P2T.size = 3 := rfl
  match j, (show j < 3 by omega) with
  | 0, _ => exact .inl rfl
  | 1, _ => exact .inl rfl
  | 2, _ => exact .inr rfl
theorem zP4 : (⟨#[32, 32, 32, 32]⟩ : ByteArray).size = 4 := rfl
theorem zPT : (⟨#[9]⟩ : ByteArray).size = 1 := rfl
theorem zP2T : (⟨#[32, 32, 9]⟩ : ByteArray).size = 3 := rfl

set_option maxRecDepth 20000
set_option maxHeartbeats 2000000
theorem deepR_spec (n : Int) (l : List Value) (hl : BytesR l) (p : Option Addr) (c : Nat) (H : AH) (Q : Value → AH → Prop) (h : ∀ H', Q (.bool true) H') (hv : l = [] ∨ Row H p l) (hlen : l.length ≤ 9223372036854775807) (hw : WfH H) : FWp Tryd.prog prims 6 [.slice p l.length c, .int .i64 n] H Q := by
  have hs5 : szT Tryd.prog 5 = 1 := by kernel_rfl
  have hs9 : szT Tryd.prog 9 = 1 := by kernel_rfl
  refine FWp.enter (rfl) Tryd.func6 rfl (e := [.slice p l.length c, .int .i64 n, undef, undef, undef, undef, undef, undef, undef, undef, undef, undef, undef, undef, undef, undef, undef, undef, undef, undef, undef, undef, undef, undef, undef, undef, undef, undef, undef, undef, undef, undef, undef, undef, undef, undef, undef, undef, undef, undef, undef, undef, undef, undef, undef, undef, undef, undef, undef, undef, undef, undef, undef, undef, undef, undef, undef, undef, undef, undef, undef, undef, undef, undef, undef, undef, undef, undef, undef, undef, undef, undef, undef, undef, undef, undef, undef, undef, undef, undef, undef, undef, undef, undef, undef, undef, undef, undef, undef, undef, undef, undef, undef, undef, undef, undef, undef, undef, undef, undef, undef, undef, undef, undef, undef, undef, undef, undef, undef, undef, undef, undef, undef, undef, undef, undef, undef, undef, undef, undef, undef, undef, undef, undef, undef, undef, undef, undef, undef, undef, undef, undef, undef, undef, undef, undef, undef, undef, undef, undef, undef, undef, undef, undef, undef, undef, undef, undef, undef, undef, undef, undef, undef, undef, undef, undef, undef, undef, undef, undef, undef, undef, undef, undef, undef, undef, undef, undef, undef, undef, undef, undef, undef, undef, undef, undef, undef, undef, undef, undef, undef, undef, undef, undef, undef, undef, undef]) rfl ?_
  refine CWp.seq ?_
  refine CWp.region ?_
  refine OWp.assign rfl rfl ?_
  refine OWp.nil ?_
  refine CWp.seq ?_
  refine CWp.region ?_
  refine OWp.assign rfl rfl ?_
  refine OWp.nil ?_
  refine CWp.cut (fun e H' => ∃ (s : ByteArray) (g : Nat → Value), e = [.slice p l.length c, .int .i64 n, g 2, g 3, g 4, .string s, g 6, g 7, g 8, g 9, g 10, g 11, g 12, g 13, g 14, g 15, g 16, g 17, g 18, g 19, g 20, g 21, g 22, g 23, g 24, g 25, g 26, g 27, g 28, g 29, g 30, g 31, g 32, g 33, g 34, g 35, g 36, g 37, g 38, g 39, g 40, g 41, g 42, g 43, g 44, g 45, g 46, g 47, g 48, g 49, g 50, g 51, g 52, g 53, g 54, g 55, g 56, g 57, g 58, g 59, g 60, g 61, g 62, g 63, g 64, g 65, g 66, g 67, g 68, g 69, g 70, g 71, g 72, g 73, g 74, g 75, g 76, g 77, g 78, g 79, g 80, g 81, g 82, g 83, g 84, g 85, g 86, g 87, g 88, g 89, g 90, g 91, g 92, g 93, g 94, g 95, g 96, g 97, g 98, g 99, g 100, g 101, g 102, g 103, g 104, g 105, g 106, g 107, g 108, g 109, g 110, g 111, g 112, g 113, g 114, g 115, g 116, g 117, g 118, g 119, g 120, g 121, g 122, g 123, g 124, g 125, g 126, g 127, g 128, g 129, g 130, g 131, g 132, g 133, g 134, g 135, g 136, g 137, g 138, g 139, g 140, g 141, g 142, g 143, g 144, g 145, g 146, g 147, g 148, g 149, g 150, g 151, g 152, g 153, g 154, g 155, g 156, g 157, g 158, g 159, g 160, g 161, g 162, g 163, g 164, g 165, g 166, g 167, g 168, g 169, g 170, g 171, g 172, g 173, g 174, g 175, g 176, g 177, g 178, g 179, g 180, g 181, g 182, g 183, g 184, g 185, g 186] ∧ WfH H' ∧ Keeps H H' ∧ DeepS s) ?_ ?_
  · skip
    refine CWp.seq ?_
    refine CWp.region ?_
    refine OWp.move rfl rfl ?_
    refine OWp.lenSl rfl rfl rfl rfl rfl Tryd.underlying22 rfl ?_
    refine OWp.binI rfl rfl rfl rfl rfl ?_
    refine OWp.nil ?_
    first | refine CWp.condP rfl (fun h0 => ?_) (fun h0 => ?_) | refine CWp.cond rfl (fun h0 => ?_) (fun h0 => ?_)
    · skip
      have hlt : 0 < l.length := by omega
      obtain ⟨a, rfl, hrow⟩ := row_some hv hlt
      obtain ⟨n0, hn0, hn1, hn2⟩ := hl _ (List.getElem_mem hlt)
      have hget : l[(0 : Int).toNat]? = some (.int .u8 n0) := by rw [show ((0 : Int).toNat) = 0 from rfl, List.getElem?_eq_getElem hlt, hn0]
      have hrem : n0.tmod 7 = (((n0 % 7).toNat : Nat) : Int) := by rw [Int.tmod_eq_emod_of_nonneg hn1]; omega
      obtain ⟨q, hq, hdq⟩ := deep_get (n0 % 7).toNat (by omega)
      first | rw [decide_eq_true h0] | rw [decide_eq_false h0] | rw [h0] | skip
      refine CWp.region ?_
      refine OWp.buildSl hw rfl rfl rfl (t' := 9) (cells := deeps) (by kernel_rfl) (fun H2 c2 hw2 hk2 hc2 ho2 => ?_)
      refine OWp.norm ?_
      refine OWp.move rfl rfl ?_
      refine OWp.indexAddrSl1 rfl rfl Tryd.underlying22 hs5 rfl rfl (by omega) (by omega) ?_
      refine OWp.loadRow rfl rfl Tryd.underlying5 rfl rfl (hrow.sees (hk2.sees hw)) hget ?_
      refine OWp.remK rfl rfl rfl rfl (by decide) ?_
      rw [hrem]
      refine OWp.indexAddrSl1 rfl rfl Tryd.underlying27 hs9 rfl rfl (by omega) (by omega) ?_
      refine OWp.loadRow rfl rfl Tryd.underlying9 rfl rfl ho2.row (v := .string q) hq ?_
      refine OWp.assign rfl rfl ?_
      refine OWp.nil ?_
      exact ⟨q, ex_env rfl ⟨hw2, hk2, hdq⟩⟩
    · skip
      first | rw [decide_eq_true h0] | rw [decide_eq_false h0] | rw [h0] | skip
      refine CWp.skip ?_
      exact ⟨⟨#[120]⟩, ex_env rfl ⟨hw, Keeps.refl hw, ⟨by decide, by decide, by unfold gapB; decide⟩⟩⟩
  · rintro e H' ⟨s, g, rfl, hw', hk', hds⟩
    obtain ⟨z1, z0, zg⟩ := hds
    have hs0 : 0 < s.size → ¬ gapB (byteAt s (0 : Nat)) := fun _ => zg
    refine CWp.seq ?_
    refine CWp.region ?_
    refine OWp.move rfl rfl ?_
    obtain ⟨c3, hc3, hcw⟩ := and_small .i64 (.inr rfl) n 3 (by decide)
    refine OWp.andV rfl rfl rfl rfl ?_
    rw [hcw]
    refine OWp.sliceS rfl rfl Tryd.underlying9 rfl rfl rfl (by omega) (by omega) hc3 ?_
    have hsp : (⟨#[32, 32, 32]⟩ : ByteArray).extract (Int.toNat 0) (c3 : Int).toNat = spaces c3 := sp3 c3 hc3
    rw [hsp]
    have hspz := spaces_size c3
    have hcol : colAt (spaces c3) (spaces c3).size ≤ 3 := by rw [hspz, spaces_col c3 c3 (Nat.le_refl _)]; exact hc3
    have hpz : (spaces c3 ++ s).size ≤ 6 := by rw [size_app]; omega
    refine OWp.assign rfl rfl ?_
    refine OWp.nil ?_
    refine CWp.seq ?_
    refine CWp.region ?_
    refine OWp.move rfl rfl ?_
    refine OWp.move rfl rfl ?_
    refine OWp.catS rfl rfl rfl rfl (by first | omega | (simp only [ByteArray.size_append, zP4, zPT, zP2T]; omega)) ?_
    refine OWp.call rfl rfl rfl rfl ?_
    refine headC_spec (spaces c3 ++ s) (by omega) _ _ (fun i1 m1 n1 x1 b1 a1 a2 a3 a4 a5 => ?_)
    refine OWp.norm ?_
    refine OWp.move rfl rfl ?_
    refine OWp.extract rfl rfl rfl rfl ?_
    refine OWp.extract rfl rfl rfl rfl ?_
    refine OWp.extract rfl rfl rfl rfl ?_
    refine OWp.assign rfl rfl ?_
    refine OWp.assign rfl rfl ?_
    refine OWp.assign rfl rfl ?_
    refine OWp.nil ?_
    refine CWp.seq ?_
    refine CWp.region ?_
    refine OWp.move rfl rfl ?_
    refine OWp.call rfl rfl rfl rfl ?_
    refine headC_spec s (by omega) _ _ (fun i2 m2 n2 x2 b2 d1 d2 d3 d4 d5 => ?_)
    obtain ⟨e1, e2, e3⟩ := head_deep (spaces c3) s (spaces_gap c3) hs0 hcol i1 m1 i2 m2 n1 n2 x1 x2 b1 b2 a1 a2 a3 a4 a5 d1 d2 d3 d4 d5
    refine OWp.norm ?_
    refine OWp.move rfl rfl ?_
    refine OWp.extract rfl rfl rfl rfl ?_
    refine OWp.extract rfl rfl rfl rfl ?_
    refine OWp.extract rfl rfl rfl rfl ?_
    refine OWp.assign rfl rfl ?_
    refine OWp.assign rfl rfl ?_
    refine OWp.assign rfl rfl ?_
    refine OWp.nil ?_
    refine CWp.seq ?_
    refine CWp.region ?_
    refine OWp.move rfl rfl ?_
    refine OWp.move rfl rfl ?_
    refine OWp.catS rfl rfl rfl rfl (by first | omega | (simp only [ByteArray.size_append, zP4, zPT, zP2T]; omega)) ?_
    refine OWp.call rfl rfl rfl rfl ?_
    refine quoteC_spec (spaces c3 ++ s) (by omega) _ _ (fun i3 x3 b3 a6 a7 a8 a9 => ?_)
    refine OWp.norm ?_
    refine OWp.move rfl rfl ?_
    refine OWp.extract rfl rfl rfl rfl ?_
    refine OWp.extract rfl rfl rfl rfl ?_
    refine OWp.assign rfl rfl ?_
    refine OWp.assign rfl rfl ?_
    refine OWp.nil ?_
    refine CWp.seq ?_
    refine CWp.region ?_
    refine OWp.move rfl rfl ?_
    refine OWp.call rfl rfl rfl rfl ?_
    refine quoteC_spec s (by omega) _ _ (fun i4 x4 b4 d6 d7 d8 d9 => ?_)
    obtain ⟨q1, q2⟩ := quote_deep (spaces c3) s (spaces_gap c3) hs0 hcol i3 i4 x3 x4 b3 b4 a6 a7 a8 a9 d6 d7 d8 d9
    refine OWp.norm ?_
    refine OWp.move rfl rfl ?_
    refine OWp.extract rfl rfl rfl rfl ?_
    refine OWp.extract rfl rfl rfl rfl ?_
    refine OWp.assign rfl rfl ?_
    refine OWp.assign rfl rfl ?_
    refine OWp.nil ?_
    refine CWp.seq ?_
    refine CWp.region ?_
    refine OWp.move rfl rfl ?_
    refine OWp.move rfl rfl ?_
    refine OWp.catS rfl rfl rfl rfl (by first | omega | (simp only [ByteArray.size_append, zP4, zPT, zP2T]; omega)) ?_
    refine OWp.call rfl rfl rfl rfl ?_
    refine itemC_spec (spaces c3 ++ s) (by omega) _ _ ?_ hw'
    intro Ha i5 y5 k5 x5 b5 hka f1 f2 f3 f4
    have hwa := hka.wf
    refine OWp.norm ?_
    refine OWp.move rfl rfl ?_
    refine OWp.extract rfl rfl rfl rfl ?_
    refine OWp.extract rfl rfl rfl rfl ?_
    refine OWp.extract rfl rfl rfl rfl ?_
    refine OWp.extract rfl rfl rfl rfl ?_
    refine OWp.assign rfl rfl ?_
    refine OWp.assign rfl rfl ?_
    refine OWp.assign rfl rfl ?_
    refine OWp.assign rfl rfl ?_
    refine OWp.nil ?_
    refine CWp.seq ?_
    refine CWp.region ?_
    refine OWp.move rfl rfl ?_
    refine OWp.call rfl rfl rfl rfl ?_
    refine itemC_spec s (by omega) _ _ ?_ hwa
    intro Hb i6 y6 k6 x6 b6 hkb g1 g2 g3 g4
    have hwb := hkb.wf
    obtain ⟨u1, u2, u3, u4⟩ := item_deep (spaces c3) s (spaces_gap c3) hs0 hcol i5 i6 y5 k5 y6 k6 x5 x6 b5 b6 f1 f2 f3 f4 g1 g2 g3 g4
    refine OWp.norm ?_
    refine OWp.move rfl rfl ?_
    refine OWp.extract rfl rfl rfl rfl ?_
    refine OWp.extract rfl rfl rfl rfl ?_
    refine OWp.extract rfl rfl rfl rfl ?_
    refine OWp.extract rfl rfl rfl rfl ?_
    refine OWp.assign rfl rfl ?_
    refine OWp.assign rfl rfl ?_
    refine OWp.assign rfl rfl ?_
    refine OWp.assign rfl rfl ?_
    refine OWp.nil ?_
    refine CWp.seq ?_
    refine CWp.region ?_
    refine OWp.move rfl rfl ?_
    refine OWp.catS rfl rfl rfl rfl (by first | omega | (simp only [ByteArray.size_append, zP4, zPT, zP2T]; omega)) ?_
    refine OWp.call rfl rfl rfl rfl ?_
    refine headC_spec (⟨#[32, 32, 32, 32]⟩ ++ s) (by first | omega | (simp only [ByteArray.size_append, zP4, zPT, zP2T]; omega)) _ _ (fun i7 m7 n7 x7 b7 p1 p2 p3 p4 p5 => ?_)
    have hb7 : b7 = false := by cases b7 with
      | false => rfl
      | true => exact absurd (p3.1 rfl).col (Int.not_le.2 (col_deep P4 s gapP4 hs0 (by rw [colP4]; decide) i7 p1))
    subst hb7
    refine OWp.norm ?_
    refine OWp.move rfl rfl ?_
    refine OWp.extract rfl rfl rfl rfl ?_
    refine OWp.extract rfl rfl rfl rfl ?_
    refine OWp.extract rfl rfl rfl rfl ?_
    refine OWp.assign rfl rfl ?_
    refine OWp.assign rfl rfl ?_
    refine OWp.assign rfl rfl ?_
    refine OWp.nil ?_
    refine CWp.seq ?_
    refine CWp.region ?_
    refine OWp.move rfl rfl ?_
    refine OWp.catS rfl rfl rfl rfl (by first | omega | (simp only [ByteArray.size_append, zP4, zPT, zP2T]; omega)) ?_
    refine OWp.call rfl rfl rfl rfl ?_
    refine quoteC_spec (⟨#[9]⟩ ++ s) (by first | omega | (simp only [ByteArray.size_append, zP4, zPT, zP2T]; omega)) _ _ (fun i8 x8 b8 r1 r2 r3 r4 => ?_)
    have hb8 : b8 = false := by cases b8 with
      | false => rfl
      | true => exact absurd (r2.1 rfl).col (Int.not_le.2 (col_deep PT s gapPT hs0 (by rw [colPT]; decide) i8 r1))
    subst hb8
    refine OWp.norm ?_
    refine OWp.move rfl rfl ?_
    refine OWp.extract rfl rfl rfl rfl ?_
    refine OWp.extract rfl rfl rfl rfl ?_
    refine OWp.assign rfl rfl ?_
    refine OWp.assign rfl rfl ?_
    refine OWp.nil ?_
    refine CWp.seq ?_
    refine CWp.region ?_
    refine OWp.move rfl rfl ?_
    refine OWp.catS rfl rfl rfl rfl (by first | omega | (simp only [ByteArray.size_append, zP4, zPT, zP2T]; omega)) ?_
    refine OWp.call rfl rfl rfl rfl ?_
    refine itemC_spec (⟨#[32, 32, 32, 32]⟩ ++ s) (by first | omega | (simp only [ByteArray.size_append, zP4, zPT, zP2T]; omega)) _ _ ?_ hwb
    intro Hc i9 y9 k9 x9 b9 hkc v1 v2 v3 v4
    have hwc := hkc.wf
    have hb9 : b9 = false := by cases b9 with
      | false => rfl
      | true => exact absurd (v2.1 rfl).col (Int.not_le.2 (col_deep P4 s gapP4 hs0 (by rw [colP4]; decide) i9 v1))
    subst hb9
    refine OWp.norm ?_
    refine OWp.move rfl rfl ?_
    refine OWp.extract rfl rfl rfl rfl ?_
    refine OWp.extract rfl rfl rfl rfl ?_
    refine OWp.extract rfl rfl rfl rfl ?_
    refine OWp.extract rfl rfl rfl rfl ?_
    refine OWp.assign rfl rfl ?_
    refine OWp.assign rfl rfl ?_
    refine OWp.assign rfl rfl ?_
    refine OWp.assign rfl rfl ?_
    refine OWp.nil ?_
    refine CWp.seq ?_
    refine CWp.seq ?_
    refine CWp.region ?_
    refine OWp.move rfl rfl ?_
    refine OWp.move rfl rfl ?_
    refine OWp.binI rfl rfl rfl rfl rfl ?_
    refine OWp.move rfl rfl ?_
    first | refine OWp.byF rfl (fun hg2 => ?_) (fun hg2 => ?_) | refine OWp.byBF rfl (fun hg2 => ?_) (fun hg2 => ?_)
    · skip
      first | rw [decide_eq_true hg2] | rw [decide_eq_false hg2] | rw [hg2] | skip
      try simp only [Decidable.not_not] at hg2
      refine OWp.move rfl rfl ?_
      refine OWp.move rfl rfl ?_
      refine OWp.binS rfl rfl rfl rfl rfl ?_
      refine OWp.pickF rfl rfl rfl ?_
      refine OWp.move rfl rfl ?_
      first | refine OWp.byF rfl (fun hg3 => ?_) (fun hg3 => ?_) | refine OWp.byBF rfl (fun hg3 => ?_) (fun hg3 => ?_)
      · skip
        first | rw [decide_eq_true hg3] | rw [decide_eq_false hg3] | rw [hg3] | skip
        try simp only [Decidable.not_not] at hg3
        refine OWp.move rfl rfl ?_
        refine OWp.move rfl rfl ?_
        refine OWp.neqB rfl rfl Tryd.underlying4 rfl rfl ?_
        refine OWp.pickF rfl rfl rfl ?_
        refine OWp.move rfl rfl ?_
        first | refine OWp.byF rfl (fun hg4 => ?_) (fun hg4 => ?_) | refine OWp.byBF rfl (fun hg4 => ?_) (fun hg4 => ?_)
        · skip
          first | rw [decide_eq_true hg4] | rw [decide_eq_false hg4] | rw [hg4] | skip
          try simp only [Decidable.not_not] at hg4
          refine OWp.move rfl rfl ?_
          refine OWp.move rfl rfl ?_
          refine OWp.binS rfl rfl rfl rfl rfl ?_
          refine OWp.pickF rfl rfl rfl ?_
          refine OWp.move rfl rfl ?_
          first | refine OWp.byF rfl (fun hg5 => ?_) (fun hg5 => ?_) | refine OWp.byBF rfl (fun hg5 => ?_) (fun hg5 => ?_)
          · skip
            first | rw [decide_eq_true hg5] | rw [decide_eq_false hg5] | rw [hg5] | skip
            try simp only [Decidable.not_not] at hg5
            refine OWp.move rfl rfl ?_
            refine OWp.move rfl rfl ?_
            refine OWp.neqB rfl rfl Tryd.underlying4 rfl rfl ?_
            refine OWp.pickF rfl rfl rfl ?_
            refine OWp.move rfl rfl ?_
            first | refine OWp.byF rfl (fun hg6 => ?_) (fun hg6 => ?_) | refine OWp.byBF rfl (fun hg6 => ?_) (fun hg6 => ?_)
            · skip
              first | rw [decide_eq_true hg6] | rw [decide_eq_false hg6] | rw [hg6] | skip
              try simp only [Decidable.not_not] at hg6
              refine OWp.move rfl rfl ?_
              refine OWp.move rfl rfl ?_
              refine OWp.binI rfl rfl rfl rfl rfl ?_
              refine OWp.pickF rfl rfl rfl ?_
              refine OWp.move rfl rfl ?_
              first | refine OWp.byF rfl (fun hg7 => ?_) (fun hg7 => ?_) | refine OWp.byBF rfl (fun hg7 => ?_) (fun hg7 => ?_)
              · skip
                first | rw [decide_eq_true hg7] | rw [decide_eq_false hg7] | rw [hg7] | skip
                try simp only [Decidable.not_not] at hg7
                refine OWp.move rfl rfl ?_
                refine OWp.move rfl rfl ?_
                refine OWp.binS rfl rfl rfl rfl rfl ?_
                refine OWp.pickF rfl rfl rfl ?_
                refine OWp.move rfl rfl ?_
                first | refine OWp.byF rfl (fun hg8 => ?_) (fun hg8 => ?_) | refine OWp.byBF rfl (fun hg8 => ?_) (fun hg8 => ?_)
                · skip
                  first | rw [decide_eq_true hg8] | rw [decide_eq_false hg8] | rw [hg8] | skip
                  try simp only [Decidable.not_not] at hg8
                  refine OWp.move rfl rfl ?_
                  refine OWp.move rfl rfl ?_
                  refine OWp.neqB rfl rfl Tryd.underlying4 rfl rfl ?_
                  refine OWp.pickF rfl rfl rfl ?_
                  refine OWp.move rfl rfl ?_
                  first | refine OWp.byF rfl (fun hg9 => ?_) (fun hg9 => ?_) | refine OWp.byBF rfl (fun hg9 => ?_) (fun hg9 => ?_)
                  · skip
                    first | rw [decide_eq_true hg9] | rw [decide_eq_false hg9] | rw [hg9] | skip
                    try simp only [Decidable.not_not] at hg9
                    refine OWp.move rfl rfl ?_
                    refine OWp.move rfl rfl ?_
                    first | refine OWp.byT rfl (fun hg10 => ?_) (fun hg10 => ?_) | refine OWp.byBT rfl (fun hg10 => ?_) (fun hg10 => ?_)
                    · skip
                      first | rw [decide_eq_true hg10] | rw [decide_eq_false hg10] | rw [hg10] | skip
                      try simp only [Decidable.not_not] at hg10
                      refine OWp.move rfl rfl ?_
                      refine OWp.move rfl rfl ?_
                      refine OWp.move rfl rfl ?_
                      refine OWp.andV rfl rfl rfl rfl ?_
                      rw [hcw]
                      refine OWp.addI rfl rfl rfl rfl (by have z := item_k s i6 y6 k6 x6 (g2.1 hg10) (g3 hg10); omega) ?_
                      refine OWp.binI rfl rfl rfl rfl rfl ?_
                      refine OWp.pickT rfl rfl rfl ?_
                      refine OWp.pickF rfl rfl rfl ?_
                      refine OWp.move rfl rfl ?_
                      first | refine OWp.byF rfl (fun hg11 => ?_) (fun hg11 => ?_) | refine OWp.byBF rfl (fun hg11 => ?_) (fun hg11 => ?_)
                      · skip
                        first | rw [decide_eq_true hg11] | rw [decide_eq_false hg11] | rw [hg11] | skip
                        try simp only [Decidable.not_not] at hg11
                        refine OWp.move rfl rfl ?_
                        refine OWp.move rfl rfl ?_
                        refine OWp.catS rfl rfl rfl rfl (by first | omega | (simp only [ByteArray.size_append, zP4, zPT, zP2T]; omega)) ?_
                        refine OWp.call rfl rfl rfl rfl ?_
                        refine breakC_spec (spaces c3 ++ s) (by omega) _ _ ?_ hwc
                        intro Hd j1 w1 hkd l1 l2
                        have hwd := hkd.wf
                        refine OWp.norm ?_
                        refine OWp.move rfl rfl ?_
                        refine OWp.call rfl rfl rfl rfl ?_
                        refine breakC_spec s (by omega) _ _ ?_ hwd
                        intro He j2 w2 hke l3 l4
                        have hwe := hke.wf
                        have hww := break_deep (spaces c3) s (spaces_gap c3) hs0 hcol j1 j2 w1 w2 l1 l2 l3 l4
                        refine OWp.norm ?_
                        refine OWp.neqB rfl rfl Tryd.underlying4 rfl rfl ?_
                        refine OWp.pickF rfl rfl rfl ?_
                        refine OWp.nil ?_
                        first | refine CWp.condP rfl (fun h12 => ?_) (fun h12 => ?_) | refine CWp.cond rfl (fun h12 => ?_) (fun h12 => ?_)
                        · skip
                          exact absurd hww h12
                        · skip
                          first | rw [decide_eq_true h12] | rw [decide_eq_false h12] | rw [h12] | skip
                          refine CWp.skip ?_
                          refine CWp.seq ?_
                          refine CWp.region ?_
                          refine OWp.move rfl rfl ?_
                          first | refine OWp.notD rfl rfl rfl ?_ | refine OWp.notB rfl rfl rfl ?_
                          refine OWp.move rfl rfl ?_
                          refine OWp.move rfl rfl ?_
                          first | refine OWp.notD rfl rfl rfl ?_ | refine OWp.notB rfl rfl rfl ?_
                          refine OWp.pickT rfl rfl rfl ?_
                          refine OWp.move rfl rfl ?_
                          refine OWp.move rfl rfl ?_
                          first | refine OWp.notD rfl rfl rfl ?_ | refine OWp.notB rfl rfl rfl ?_
                          refine OWp.pickT rfl rfl rfl ?_
                          refine OWp.move rfl rfl ?_
                          refine OWp.move rfl rfl ?_
                          refine OWp.catS rfl rfl rfl rfl (by first | omega | (simp only [ByteArray.size_append, zP4, zPT, zP2T]; omega)) ?_
                          refine OWp.call rfl rfl rfl rfl ?_
                          refine breakC_spec (⟨#[32, 32, 9]⟩ ++ s) (by first | omega | (simp only [ByteArray.size_append, zP4, zPT, zP2T]; omega)) _ _ ?_ hwe
                          intro Hf j3 w3 hkf l5 l6
                          have hw3 : w3 = false := by cases w3 with
                            | false => rfl
                            | true => exact absurd (l6.1 rfl).col (Int.not_le.2 (col_deep P2T s gapP2T hs0 (by rw [colP2T]; decide) j3 l5))
                          subst hw3
                          refine OWp.norm ?_
                          first | refine OWp.notD rfl rfl rfl ?_ | refine OWp.notB rfl rfl rfl ?_
                          refine OWp.pickT rfl rfl rfl ?_
                          refine OWp.move rfl rfl ?_
                          refine OWp.call rfl rfl rfl rfl ?_
                          refine known_spec _ _ ?_
                          refine OWp.norm ?_
                          refine OWp.pickT rfl rfl rfl ?_
                          refine OWp.assign rfl rfl ?_
                          refine OWp.nil ?_
                          refine CWp.ret ?_
                          refine RetQ.one (by first | exact .inl rfl | exact .inr rfl) rfl rfl ?_
                          exact h _
                      · skip
                        exact absurd (by have z := u4 hg10; rw [hspz, spaces_col c3 c3 (Nat.le_refl _)] at z; exact z) hg11
                    · skip
                      first | rw [decide_eq_true hg10] | rw [decide_eq_false hg10] | rw [hg10] | skip
                      try simp only [Decidable.not_not] at hg10
                      refine OWp.leave rfl ?_
                      refine OWp.leave rfl ?_
                      refine OWp.leave rfl ?_
                      refine OWp.leave rfl ?_
                      refine OWp.leave rfl ?_
                      refine OWp.leave rfl ?_
                      refine OWp.pickF rfl rfl rfl ?_
                      refine OWp.pickF rfl rfl rfl ?_
                      refine OWp.move rfl rfl ?_
                      refine OWp.move rfl rfl ?_
                      refine OWp.move rfl rfl ?_
                      refine OWp.catS rfl rfl rfl rfl (by first | omega | (simp only [ByteArray.size_append, zP4, zPT, zP2T]; omega)) ?_
                      refine OWp.call rfl rfl rfl rfl ?_
                      refine breakC_spec (spaces c3 ++ s) (by omega) _ _ ?_ hwc
                      intro Hd j1 w1 hkd l1 l2
                      have hwd := hkd.wf
                      refine OWp.norm ?_
                      refine OWp.move rfl rfl ?_
                      refine OWp.call rfl rfl rfl rfl ?_
                      refine breakC_spec s (by omega) _ _ ?_ hwd
                      intro He j2 w2 hke l3 l4
                      have hwe := hke.wf
                      have hww := break_deep (spaces c3) s (spaces_gap c3) hs0 hcol j1 j2 w1 w2 l1 l2 l3 l4
                      refine OWp.norm ?_
                      refine OWp.neqB rfl rfl Tryd.underlying4 rfl rfl ?_
                      refine OWp.pickF rfl rfl rfl ?_
                      refine OWp.nil ?_
                      first | refine CWp.condP rfl (fun h11 => ?_) (fun h11 => ?_) | refine CWp.cond rfl (fun h11 => ?_) (fun h11 => ?_)
                      · skip
                        exact absurd hww h11
                      · skip
                        first | rw [decide_eq_true h11] | rw [decide_eq_false h11] | rw [h11] | skip
                        refine CWp.skip ?_
                        refine CWp.seq ?_
                        refine CWp.region ?_
                        refine OWp.move rfl rfl ?_
                        first | refine OWp.notD rfl rfl rfl ?_ | refine OWp.notB rfl rfl rfl ?_
                        refine OWp.move rfl rfl ?_
                        refine OWp.move rfl rfl ?_
                        first | refine OWp.notD rfl rfl rfl ?_ | refine OWp.notB rfl rfl rfl ?_
                        refine OWp.pickT rfl rfl rfl ?_
                        refine OWp.move rfl rfl ?_
                        refine OWp.move rfl rfl ?_
                        first | refine OWp.notD rfl rfl rfl ?_ | refine OWp.notB rfl rfl rfl ?_
                        refine OWp.pickT rfl rfl rfl ?_
                        refine OWp.move rfl rfl ?_
                        refine OWp.move rfl rfl ?_
                        refine OWp.catS rfl rfl rfl rfl (by first | omega | (simp only [ByteArray.size_append, zP4, zPT, zP2T]; omega)) ?_
                        refine OWp.call rfl rfl rfl rfl ?_
                        refine breakC_spec (⟨#[32, 32, 9]⟩ ++ s) (by first | omega | (simp only [ByteArray.size_append, zP4, zPT, zP2T]; omega)) _ _ ?_ hwe
                        intro Hf j3 w3 hkf l5 l6
                        have hw3 : w3 = false := by cases w3 with
                          | false => rfl
                          | true => exact absurd (l6.1 rfl).col (Int.not_le.2 (col_deep P2T s gapP2T hs0 (by rw [colP2T]; decide) j3 l5))
                        subst hw3
                        refine OWp.norm ?_
                        first | refine OWp.notD rfl rfl rfl ?_ | refine OWp.notB rfl rfl rfl ?_
                        refine OWp.pickT rfl rfl rfl ?_
                        refine OWp.move rfl rfl ?_
                        refine OWp.call rfl rfl rfl rfl ?_
                        refine known_spec _ _ ?_
                        refine OWp.norm ?_
                        refine OWp.pickT rfl rfl rfl ?_
                        refine OWp.assign rfl rfl ?_
                        refine OWp.nil ?_
                        refine CWp.ret ?_
                        refine RetQ.one (by first | exact .inl rfl | exact .inr rfl) rfl rfl ?_
                        exact h _
                  · skip
                    exact absurd u3 hg9
                · skip
                  exact absurd u2 hg8
              · skip
                exact absurd u1 hg7
            · skip
              exact absurd q2 hg6
          · skip
            exact absurd q1 hg5
        · skip
          exact absurd e3 hg4
      · skip
        exact absurd e2 hg3
    · skip
      exact absurd e1 hg2

theorem deep_spec (n : Int) (l : List Value) (hl : BytesR l) (ks : Value) (H : AH) (Q : Value → AH → Prop) (h : ∀ H', Q (.bool true) H') (hv : View H ks l) (hlen : l.length ≤ 9223372036854775807) (hw : WfH H) : FWp Tryd.prog prims 6 [ks, .int .i64 n] H Q := by
  obtain ⟨p, c, rfl, h1⟩ := hv
  exact deepR_spec n l hl p c H Q h h1 hlen hw

end Go.Proofs.YtpfhkjbnofgikaaDoor.Ev
