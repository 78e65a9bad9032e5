/-
  strings' Replacer of chapter 5, made and at its first use: what lies in its table; rules for its walk.
-/
import Derived.Test.YtnlkgnoogcakjaaGreatDoorEvUp
import Derived.Test.YtnlkgnoogcakjaaGreatDoorEvBox
import Derived.Test.YtnlkgnoogcakjaaGreatDoorEvPrimsA
import Derived.Test.YtnlkgnoogcakjaaGreatDoorEvAttrE
namespace Go.Proofs.YtnlkgnoogcakjaaGreatDoor.Ev
open Go
set_option linter.unusedVariables false
set_option linter.unusedSimpArgs false
set_option maxRecDepth 20000

/-! ### Rules -/
section
variable {P : Program} {prims : Prims} {ops : Array Oper} {o : Oper} {r : List Oper} {e e' : List Value} {H H0 H1 H2 : AH} {Q : List Value → AH → Prop} {l : List (Nat × Obj)}
theorem OWp.fieldC {s : TypeId} {x : Operand} {f i off m : Nat} {fields : Array Field} {fl : Field} (hg : guardA ops o e = some true) (ho : o.op = .fieldAddr s x f) (ht : P.underlying s = some (.struct fields)) (hf : fields[f]? = some fl) (hs0 : szT P fl.type ≠ 0)
    (hx : rho e x = .pointer (some ⟨i, off, none⟩)) (hm : off + fl.offset = m) (hk : OWp P prims ops r e' H Q) (he : putE e o.dst (.pointer (some ⟨i, m, none⟩)) = e' := by simp only [putE, rho, List.set_cons_zero, List.set_cons_succ, List.getD_cons_zero, List.getD_cons_succ]; exact rfl) : OWp P prims ops (o :: r) e H Q :=
  OWp.fieldA hg ho ht hf hs0 hx hk (by rw [hm]; exact he)
/-- A place in an array. -/
theorem OWp.indexAddrArr {t te : TypeId} {n : Nat} {x y : Operand} {b off m : Nat} {k : IntKind} {i : Int} (hg : guardA ops o e = some true) (ho : o.op = .indexAddr t x y) (ht : P.underlying t = some (.array n te)) (hs1 : szT P te = 1) (hx : rho e x = .pointer (some ⟨b, off, none⟩)) (hy : rho e y = .int k i)
    (h0 : 0 ≤ i) (h1 : i < n) (hm : off + i.toNat = m) (hk : OWp P prims ops r e' H Q) (he : putE e o.dst (.pointer (some ⟨b, m, none⟩)) = e' := by simp only [putE, rho, List.set_cons_zero, List.set_cons_succ, List.getD_cons_zero, List.getD_cons_succ]; exact rfl) : OWp P prims ops (o :: r) e H Q := by
  refine OWp.step hg (fun call => ?_) he hk
  have ha : (⟨b, off, none⟩ : Addr).add (i.toNat * szT P te) = ⟨b, m, none⟩ := by rw [hs1, Nat.mul_one, add_none rfl, hm]
  unfold evOp
  simp only [ho, indexAddrA, ht, hx, hy]
  rw [if_pos ⟨h0, h1, by rw [hs1]; decide⟩, ha]
  rfl
theorem OWp.makeSl {t te : TypeId} {x y : Operand} {n c : Nat} {z : Value} (hh : Has H0 H l) (hg : guardA ops o e = some true) (ho : o.op = .makeSlice t x y) (hx : rho e x = .int .i64 (n : Nat)) (hy : rho e y = .int .i64 (c : Nat)) (hE : elemT P t = some te) (hz : zeroT P te = some z) (hs1 : szT P te = 1) (hz1 : z.cells.size = 1) (hb : bytesT P te = 1) (hn : n ≤ c) (hc : c ≤ 140737488355328)
    (hk : ∀ H1 i (C : Array Value), C.size = c → Has H0 H1 ((i, .cells C te (0, 0)) :: l) → OWp P prims ops r (putE e o.dst (.slice (some ⟨i, 0, none⟩) n c)) H1 Q) : OWp P prims ops (o :: r) e H Q := by
  refine OWp.step hg (fun call => ?_) rfl (hk (H.alloc (.cells ((Array.range (c * 1)).map (z.cells[· % z.cells.size]!)) te) true) H.next _ (by simp) (hh.add (ob := .cells ((Array.range (c * 1)).map (z.cells[· % z.cells.size]!)) te (0, 0)) ⟨rfl, rfl⟩))
  unfold evOp
  simp only [ho, makeSliceA, hx, hy, hE, hz, hs1]
  rw [if_pos ⟨by omega, by omega, by omega, by rw [hb]; omega, by omega, by decide⟩]
  simp
/-- A row from a place on. -/
theorem OWp.sliceFrom {t te : TypeId} {x lo : Operand} {b off n c i m : Nat} {C : Array Value} {fr : Nat × Nat} (hg : guardA ops o e = some true) (ho : o.op = .slice t x (some lo) none none) (ht : P.underlying t = some (.slice te)) (hs1 : szT P te = 1) (hx : rho e x = .slice (some ⟨b, off, none⟩) n c) (hl : rho e lo = .int .i64 (i : Nat)) (hi : i ≤ n) (hc : n ≤ c) (hcs : H.cells b = some (C, te, fr)) (hm : off + i = m)
    (hk : OWp P prims ops r e' H Q) (he : putE e o.dst (.slice (some ⟨b, m, none⟩) (n - i) (c - i)) = e' := by simp only [putE, rho, List.set_cons_zero, List.set_cons_succ, List.getD_cons_zero, List.getD_cons_succ]; exact rfl) : OWp P prims ops (o :: r) e H Q := by
  refine OWp.step hg (fun call => ?_) he hk
  have hE : elemT P t = some te := by unfold elemT; rw [ht]
  have : sliceA P H t (.slice (some ⟨b, off, none⟩) n c) (some (.int .i64 (i : Nat))) none none = some (.slice (some ⟨b, m, none⟩) (n - i) (c - i)) := by
    unfold sliceA
    simp only [hE, intOf?, Option.getD_some, Option.getD_none]
    rw [if_pos ⟨by omega, by omega, by omega, by omega, fun h => (by cases h), by omega, by rw [hs1]; decide⟩]
    simp only [hcs, Nat.beq_refl, cond_true, hs1]
    have e1 : ((n : Int) - (i : Int)).toNat = n - i := by omega
    have e2 : ((c : Int) - (i : Int)).toNat = c - i := by omega
    have ha : (⟨b, off, none⟩ : Addr).add ((i : Int).toNat * 1) = ⟨b, m, none⟩ := by rw [Int.toNat_natCast, Nat.mul_one, add_none rfl, hm]
    rw [e1, e2, ha]
  unfold evOp
  simp only [ho, ht, hx, hl, Option.map_none, Option.map_some, this]
/-- copy into a row of one's own that has room. -/
theorem OWp.copyR {ca : Call} {x y : Operand} {dT te : TypeId} {k b off n c m c2 : Nat} {p2 : Option Addr} {C : Array Value} {z : Value} {vs : List Value} (hh : Has H0 H l) (hk0 : l[k]? = some (b, .cells C te (0, 0))) (hg : guardA ops o e = some true) (ho : o.op = .call ca) (hc : ca.callee = .builtin .copy) (ha : ca.args = #[x, y]) (hat : ca.argTypes[0]? = some dT)
    (hE : elemT P dT = some te) (hz : zeroT P te = some z) (hs1 : szT P te = 1) (hx : rho e x = .slice (some ⟨b, off, none⟩) n c) (hy : rho e y = .slice p2 m c2) (hr : Row H p2 vs) (hm : vs.length = m) (h0 : 0 < m) (hmn : m ≤ n) (hle : off + m ≤ C.size) (hvs : vs.all isCell = true)
    (hk : ∀ H1, Has H0 H1 (l.set k (b, .cells (writeCells C off vs) te (0, 0))) → (∀ Hs, KX b Hs H → KX b Hs H1) → OWp P prims ops r (putE e o.dst (.int .i64 (m : Nat))) H1 Q) : OWp P prims ops (o :: r) e H Q := by
  obtain ⟨h1, ver, h2, h3⟩ := hh.get hk0
  refine OWp.step hg (fun call => ?_) rfl (hk _ (hh.put (ob' := .cells (writeCells C off vs) te (0, 0)) hk0 h2 h3 ⟨rfl, rfl⟩) (fun Hs hs => hs.put h2))
  have hl : H.live b ⟨.cells C te (0, 0), b, true, ver⟩ = true := live_iff.2 (by rw [h3]; exact Nat.le_refl _)
  have htp : H.tip b ⟨.cells C te (0, 0), b, true, ver⟩ = true := tip_iff.2 (by rw [h3])
  have hst : storeCellsA H ⟨b, off, none⟩ vs = some (H.put b ⟨.cells C te (0, 0), b, true, ver⟩ (.cells (writeCells C off vs) te (0, 0))) := by
    unfold storeCellsA
    simp only [h2, hl, htp, hvs, Bool.true_and, Bool.and_true]
    rw [if_pos]
    simp
    omega
  have htl : tailA P H te (.slice p2 m c2) = some (m, vs) := by
    subst hm
    simp only [tailA, hs1, Nat.mul_one, hr.rowA]
  unfold evOp
  simp only [ho, callA, hc, ha, List.map_cons, List.map_nil, hx, hy, hat, copyA, hE, htl, hz]
  rw [if_pos ⟨hmn, h0, fun e => by rw [e] at hm; simp at hm; omega⟩, hst]
end
theorem OWp.neNil {prims : Prims} {ops : Array Oper} {o : Oper} {r : List Oper} {e e' : List Value} {H : AH} {Q : List Value → AH → Prop} {t' : TypeId} {x : Operand} {v : Value} {b : Bool} (hg : guardA ops o e = some true) (ho : o.op = .binOp .neq 22 x (.const (.slice none 0 0)) t') (hx : rho e x = v) (hv : (v = .slice none 0 0 ∧ b = false) ∨ ∃ a n c, v = .slice (some a) n c ∧ b = true)
    (hk : OWp Tryz.prog prims ops r e' H Q) (he : putE e o.dst (.bool b) = e' := by simp only [putE, rho, List.set_cons_zero, List.set_cons_succ, List.getD_cons_zero, List.getD_cons_succ]; exact rfl) : OWp Tryz.prog prims ops (o :: r) e H Q := by
  refine OWp.step hg (fun call => ?_) he hk
  have hc : rho e (.const (.slice none 0 0)) = .slice none 0 0 := rfl
  rcases hv with ⟨rfl, rfl⟩ | ⟨a, n, c, rfl, rfl⟩
  · have hf : flatOp Tryz.prog o (rho e) = some (.bool false) := by
      refine flat_op (by rw [ho]; simp [Op.operands, hx, hc, flatB, flat2, flat1, atomB]) ?_ rfl
      unfold execOp
      rw [ho]
      simp only [hx, hc]
      kernel_rfl
    unfold evOp
    simp only [ho, hx, hc, eqA, Tryz.underlying22, hf, Option.map_some]
  · unfold evOp
    simp only [ho, hx, hc, eqA, Tryz.underlying22]
    rfl
theorem row_of_A {H : AH} {p : Addr} {n : Nat} {l : List Value} (h : rowA H (some p) n = some l) : Row H (some p) l ∧ l.length = n := by
  unfold rowA at h
  split at h
  · rename_i h0; cases h0
  · rename_i q hq
    cases hq
    split at h
    · rename_i C e f hs hc
      split at h
      · rename_i hle
        cases h
        have hl : (C.extract p.off (p.off + n)).toList.length = n := by simp; omega
        exact ⟨⟨hs, C, e, f, hc, by rw [hl]; exact hle, by rw [hl]⟩, hl⟩
      · cases h
    · cases h

/-! ### The table -/
def isU2 : Option (List Value) → Nat → Nat → Bool
  | some [.int .u8 (.ofNat x), .int .u8 (.ofNat y)], a, b => Nat.beq x a && Nat.beq y b
  | _, _, _ => false
theorem isU2_eq {x : Option (List Value)} {a b : Nat} (h : isU2 x a b = true) : x = some [.int .u8 (a : Nat), .int .u8 (b : Nat)] := by
  unfold isU2 at h
  split at h
  · rw [Bool.and_eq_true] at h
    rw [Nat.eq_of_beq_eq_true h.1, Nat.eq_of_beq_eq_true h.2]
    rfl
  · cases h
def isS2 : Option (List Value) → Bool
  | some [.string a, .string b] => eqBytes a.data.toList [34] && eqBytes b.data.toList [92]
  | _ => false
theorem isS2_eq {x : Option (List Value)} (h : isS2 x = true) : x = some [.string ⟨#[34]⟩, .string ⟨#[92]⟩] := by
  unfold isS2 at h
  split at h
  · rename_i a b
    rw [Bool.and_eq_true, eqBytes_iff, eqBytes_iff] at h
    have h1 : a = ⟨#[34]⟩ := ba_ext (of_decide_eq_true h.1)
    have h2 : b = ⟨#[92]⟩ := ba_ext (of_decide_eq_true h.2)
    rw [h1, h2]
  · cases h
def isNil : Option Value → Bool
  | some (.slice none 0 0) => true
  | _ => false
theorem isNil_eq {x : Option Value} (h : isNil x = true) : x = some (.slice none 0 0) := by
  unfold isNil at h
  split at h
  · rfl
  · cases h
def isRow2 (H : AH) : Option Value → Nat → Bool
  | some (.slice (some a) 2 2), b => isU2 (rowA H (some a) 2) 92 b
  | _, _ => false
theorem isRow2_eq {H : AH} {x : Option Value} {b : Nat} (h : isRow2 H x b = true) : ∃ a, x = some (.slice (some a) 2 2) ∧ Row H (some a) [.int .u8 (92 : Nat), .int .u8 (b : Nat)] := by
  unfold isRow2 at h
  split at h
  · exact ⟨_, rfl, (row_of_A (isU2_eq h)).1⟩
  · cases h
def isTr (H : AH) : Option Value → Bool
  | some (.slice (some a) 2 _) => isS2 (rowA H (some a) 2)
  | _ => false
theorem isTr_eq {H : AH} {x : Option Value} (h : isTr H x = true) : ∃ a c, x = some (.slice (some a) 2 c) ∧ Row H (some a) [.string ⟨#[34]⟩, .string ⟨#[92]⟩] := by
  unfold isTr at h
  split at h
  · exact ⟨_, _, rfl, (row_of_A (isS2_eq h)).1⟩
  · cases h
def tabB (H : AH) (C : Array Value) (i : Nat) : Bool := bif Nat.beq i 34 then isRow2 H C[i]? 34 else bif Nat.beq i 92 then isRow2 H C[i]? 92 else isNil C[i]?
def allB (p : Nat → Bool) : Nat → Bool
  | 0 => true
  | n + 1 => p n && allB p n
theorem allB_get {p : Nat → Bool} : ∀ {n : Nat}, allB p n = true → ∀ i, i < n → p i = true
  | 0, _, i, hi => absurd hi (Nat.not_lt_zero _)
  | n + 1, h, i, hi => by
    unfold allB at h
    rw [Bool.and_eq_true] at h
    by_cases e : i = n
    · rw [e]; exact h.1
    · exact allB_get h.2 i (by omega)
structure RepOk (H : AH) (qb : Nat) : Prop where
  wf : WfH H
  ex : ∃ C e f, H.cells qb = some (C, e, f) ∧ (∃ a c, C[256]? = some (.slice (some a) 2 c) ∧ Row H (some a) [.string ⟨#[34]⟩, .string ⟨#[92]⟩]) ∧
    ∀ i : Nat, i < 256 → (((i = 34 ∨ i = 92) ∧ ∃ a, C[i]? = some (.slice (some a) 2 2) ∧ Row H (some a) [.int .u8 (92 : Nat), .int .u8 (i : Nat)]) ∨ (¬ (i = 34 ∨ i = 92) ∧ C[i]? = some (.slice none 0 0)))
def chkRep (H : AH) : Addr → Bool
  | ⟨qb, 0, none⟩ => match H.cells qb with
    | some (C, _, _) => isTr H C[256]? && allB (tabB H C) 256
    | none => false
  | _ => false
theorem chkRep_ok {H : AH} {q : Addr} (hw : WfH H) (h : chkRep H q = true) : ∃ qb, q = ⟨qb, 0, none⟩ ∧ RepOk H qb := by
  unfold chkRep at h
  split at h
  · rename_i qb
    refine ⟨qb, rfl, hw, ?_⟩
    split at h
    · rename_i C e f hc
      rw [Bool.and_eq_true] at h
      refine ⟨C, e, f, hc, isTr_eq h.1, fun i hi => ?_⟩
      have ht := allB_get h.2 i hi
      unfold tabB at ht
      by_cases h1 : i = 34
      · subst h1
        exact .inl ⟨.inl rfl, isRow2_eq ht⟩
      · rw [show Nat.beq i 34 = false from Bool.eq_false_iff.2 fun hh => h1 (Nat.eq_of_beq_eq_true hh), cond_false] at ht
        by_cases h2 : i = 92
        · subst h2
          exact .inl ⟨.inr rfl, isRow2_eq ht⟩
        · rw [show Nat.beq i 92 = false from Bool.eq_false_iff.2 fun hh => h2 (Nat.eq_of_beq_eq_true hh), cond_false] at ht
          exact .inr ⟨by omega, isNil_eq ht⟩
    · cases h
  · cases h

/-! ### Made, and at its first use -/
def prepR (call : CallA) (p : Addr) (H : AH) : Option (Addr × AH) :=
  bif isNum (cellAt H p) .u32 0 && isNum (cellAt H (p.add 1)) .i32 0 then
      match spoil H (p.add 1) (.int .i32 1) with
      | some H1 => match call 61 [.pointer (some p)] H1 with
        | some (.tuple vs, H2) => bif vs.isEmpty && isNum (cellAt H2 p) .u32 0 && isNum (cellAt H2 (p.add 1)) .i32 1 then
            match cellAt H2 (p.add 3) with
            | some (.iface t (.pointer (some q))) => bif Nat.beq t 130 then
                match spoil H2 p (.int .u32 1) with
                | some H3 => match spoil H3 (p.add 1) (.int .i32 0) with
                  | some H4 => some (q, H4)
                  | none => none
                | none => none
              else none
            | _ => none
          else none
        | _ => none
      | none => none
    else none
theorem prepR_ok {call : CallA} {p q : Addr} {H H4 : AH} {s : ByteArray} (h : prepR call p H = some (q, H4)) {t : ByteArray} {H5 : AH} (hc : call 137 [.pointer (some q), .string s] H4 = some (.string t, H5)) : primReplace call [.pointer (some p), .string s] H = some (.string t, H5) := by
  unfold prepR at h
  unfold primReplace
  replace h := bif2 h
  obtain ⟨hb, h⟩ := h
  simp only [hb, cond_true]
  split at h
  case h_2 => cases h
  rename_i H1 hs1
  split at h
  case h_2 => cases h
  rename_i vs H2 hc1
  replace h := bif2 h
  obtain ⟨hb2, h⟩ := h
  simp only [hs1, hc1, hb2, cond_true]
  split at h
  case h_2 => cases h
  rename_i t2 q2 hq
  replace h := bif2 h
  obtain ⟨hb3, h⟩ := h
  split at h
  case h_2 => cases h
  rename_i H3 hs3
  split at h
  case h_2 => cases h
  rename_i H4' hs4
  cases h
  simp only [hq, hb3, hs3, hs4, cond_true, hc]
theorem prepR_up {c c' : CallA} (hc : CallUp c c') {p : Addr} {H : AH} {r : Addr × AH} (h : prepR c p H = some r) : prepR c' p H = some r := by
  unfold prepR at h ⊢
  replace h := bif2 h
  obtain ⟨hb, h⟩ := h
  simp only [hb, cond_true]
  split at h
  case h_2 => cases h
  rename_i H1 hs1
  split at h
  case h_2 => cases h
  rename_i vs H2 hc1
  simp only [hs1, hc _ _ _ _ hc1]
  exact h
theorem prepR_h {c : CallA} (hch : CallH c) {p q : Addr} {H H4 : AH} (h : prepR c p H = some (q, H4)) : StepH H H4 := by
  unfold prepR at h
  replace h := (bif2 h).2
  split at h
  case h_2 => cases h
  rename_i H1 hs1
  split at h
  case h_2 => cases h
  rename_i vs H2 hc1
  replace h := (bif2 h).2
  split at h
  case h_2 => cases h
  replace h := (bif2 h).2
  split at h
  case h_2 => cases h
  rename_i H3 hs3
  split at h
  case h_2 => cases h
  rename_i H4' hs4
  cases h
  exact (spoil_h hs1).trans (StepH.trans (fun hw => hch _ _ _ _ _ hc1 hw) ((spoil_h hs3).trans (spoil_h hs4)))
def hp1 : AH := AH.empty.alloc (.cells #[.string ⟨#[92]⟩, .string ⟨#[92, 92]⟩, .string ⟨#[34]⟩, .string ⟨#[92, 34]⟩] 9 (0, 0)) true
noncomputable def madeR : Option (Value × AH) := evFnF Tryz.prog prims0 30 43 [.slice (some ⟨0, 0, none⟩) 4 4] hp1
def madeOk (f : Addr → AH → Bool) : Option (Value × AH) → Bool
  | some (.pointer (some p), H) => f p H
  | _ => false
noncomputable def prepOk (p : Addr) (H : AH) : Bool := match prepR (evFnF Tryz.prog prims0 30) p H with
  | some (q, H4) => chkRep H4 q
  | none => false
theorem rep_run : madeOk prepOk madeR = true := by kernel_rfl
theorem wf_hp1 : WfH hp1 := WfH.empty.alloc ⟨rfl, rfl⟩
theorem rep_ex : ∃ p H2 qb H4, evFn Tryz.prog prims0 30 43 [.slice (some ⟨0, 0, none⟩) 4 4] hp1 = some (.pointer (some p), H2) ∧ prepR (evFn Tryz.prog prims0 30) p H2 = some (⟨qb, 0, none⟩, H4) ∧ RepOk H4 qb := by
  have h := rep_run
  unfold madeOk at h
  split at h
  case h_2 => cases h
  rename_i p H2 hm
  unfold prepOk at h
  split at h
  case h_2 => cases h
  rename_i q H4 hp
  have h1 := evFnF_ok prims0_up 30 _ _ _ _ hm
  have h2 : prepR (evFn Tryz.prog prims0 30) p H2 = some (q, H4) := prepR_up (fun f a H r hr => evFnF_ok prims0_up 30 f a H r hr) hp
  have hch := evFn_h (P := Tryz.prog) prims0_ok.h 30
  have hw2 := (hch _ _ _ _ _ h1 wf_hp1).1
  obtain ⟨qb, rfl, hr⟩ := chkRep_ok ((prepR_h hch h2) hw2).1 h
  exact ⟨p, H2, qb, H4, h1, h2, hr⟩
end Go.Proofs.YtnlkgnoogcakjaaGreatDoor.Ev
