/-
  The evaluator at values that stand for any: rows, slices that grow.
-/
import Derived.Test.YtofigleaealbjaaGreatDoorEvSymHeap
import Derived.Test.YtofigleaealbjaaGreatDoorEvMem
namespace Go.Proofs.YtofigleaealbjaaGreatDoor.Ev
set_option linter.unusedVariables false
set_option linter.unusedSimpArgs false
open Go
section
variable {P : Program} {prims : Prims} {ops : Array Oper} {o : Oper} {r : List Oper} {e e' : List Value} {H H0 H1 H2 : AH} {Q : List Value → AH → Prop} {c : Nat} {ob ob' : Obj} {ex : Bool}

/-- What a row's cells are, from a place on. -/
def Row (H : AH) (p : Option Addr) (l : List Value) : Prop :=
  match p with
  | none => l = []
  | some a => a.spot = none ∧ ∃ C e f, H.cells a.block = some (C, e, f) ∧ a.off + l.length ≤ C.size ∧ (C.extract a.off (a.off + l.length)).toList = l

theorem Row.rowA {p : Option Addr} {l : List Value} (h : Row H p l) : rowA H p l.length = some l := by
  cases p with
  | none => cases h; rfl
  | some a =>
    obtain ⟨h0, C, e, f, h1, h2, h3⟩ := h
    unfold Ev.rowA
    simp only [h0, h1, if_pos h2, h3]

/-- Blocks that may be looked at stay so, as they are. -/
def Sees (H H' : AH) : Prop := ∀ c x, H.cells c = some x → H'.cells c = some x
theorem Sees.refl : Sees H H := fun _ _ h => h
theorem Sees.trans (h : Sees H0 H1) (k : Sees H1 H2) : Sees H0 H2 := fun c x hx => k c x (h c x hx)
theorem Keeps.sees (hw : WfH H) (k : Keeps H H1) : Sees H H1 := fun c x hx => by
  unfold AH.cells at *
  split at hx
  case h_2 => cases hx
  rename_i b hb
  rw [(k.blk c (hw.lt c b hb).1).trans hb]
  simp only [AH.live, k.grp c b hb]
  exact hx
theorem Row.sees {p : Option Addr} {l : List Value} (s : Sees H H1) (h : Row H p l) : Row H1 p l := by
  cases p with
  | none => exact h
  | some a =>
    obtain ⟨h0, C, e, f, h1, h2, h3⟩ := h
    exact ⟨h0, C, e, f, s _ _ h1, h2, h3⟩

theorem Own.cells {C : Array Value} {t : TypeId} {f : Nat × Nat} (h : Own H c (.cells C t f) ex) : H.cells c = some (C, t, f) := by
  obtain ⟨v, h1, h2⟩ := h
  have hl : H.live c ⟨.cells C t f, c, ex, v⟩ = true := live_iff.2 (by rw [h2]; exact Nat.le_refl _)
  unfold AH.cells
  simp only [h1, hl]
theorem Own.row {C : Array Value} {t : TypeId} {f : Nat × Nat} (h : Own H c (.cells C t f) ex) : Row H (some ⟨c, 0, none⟩) C.toList :=
  ⟨rfl, C, t, f, h.cells, by simp, by simp⟩

/-- A slice that was made by appending alone, to what was nil: one more cell takes a new row. -/
def Grow (B : Nat) (H : AH) (v : Value) (t : TypeId) (l : List Value) : Prop :=
  (l = [] ∧ v = .slice none 0 0) ∨
  ∃ c root ver f, B ≤ root ∧ root ≤ c ∧ v = .slice (some ⟨c, 0, none⟩) l.length l.length ∧ l ≠ [] ∧ H.blk c = some ⟨.cells l.toArray t f, root, false, ver⟩ ∧ H.grp root = (c, root)

theorem Grow.row {B : Nat} {v : Value} {t : TypeId} {l : List Value} (h : Grow B H v t l) : ∃ p, v = .slice p l.length l.length ∧ Row H p l := by
  rcases h with ⟨rfl, rfl⟩ | ⟨c, root, ver, f, h0, h1, rfl, _, hb, hg⟩
  · exact ⟨none, rfl, rfl⟩
  · refine ⟨_, rfl, rfl, l.toArray, t, f, ?_, by simp, by simp⟩
    have hl : H.live c ⟨.cells l.toArray t f, root, false, ver⟩ = true := live_iff.2 (by rw [hg]; exact h1)
    unfold AH.cells
    simp only [hb, hl]
theorem Grow.keep {B : Nat} {v : Value} {t : TypeId} {l : List Value} (hw : WfH H) (k : Keeps H H1) (h : Grow B H v t l) : Grow B H1 v t l := by
  rcases h with h | ⟨c, root, ver, f, h0, h1, h2, h3, hb, hg⟩
  · exact .inl h
  · exact .inr ⟨c, root, ver, f, h0, h1, h2, h3, (k.blk c (hw.lt _ _ hb).1).trans hb, (k.grp c _ hb).trans hg⟩

theorem Own.seesPut {v : Nat} (hb : H.blk c = some ⟨ob, c, ex, v⟩) (hg : H.grp c = (c, c)) (hno : ∀ C t f, ob ≠ .cells C t f) : Sees H (H.put c ⟨ob, c, ex, v⟩ ob') := fun d x hx => by
  unfold AH.cells at *
  split at hx
  case h_2 => cases hx
  rename_i b hd
  have hne : d ≠ c := by
    rintro rfl
    rw [hb] at hd; cases hd
    simp only at hx
    split at hx
    · exact hno _ _ _ rfl
    · cases hx
  rw [blk_put, if_neg hne, hd]
  have hl : (H.put c ⟨ob, c, ex, v⟩ ob').live d b = H.live d b := by
    simp only [AH.live, grp_put]
    split
    · rename_i e1; rw [e1, hg]
    · rfl
  simp only [hl]
  exact hx
theorem Grow.put {B v : Nat} {x : Value} {t : TypeId} {l : List Value} (h : Grow B H x t l) (hb : H.blk c = some ⟨ob, c, ex, v⟩) (hg : H.grp c = (c, c)) (hno : ∀ C t f, ob ≠ .cells C t f) : Grow B (H.put c ⟨ob, c, ex, v⟩ ob') x t l := by
  rcases h with h | ⟨d, root, ver, f, h0, h1, h2, h3, hd, hr⟩
  · exact .inl h
  · have hne : d ≠ c := by
      rintro rfl
      rw [hb] at hd; cases hd
      exact hno _ _ _ rfl
    refine .inr ⟨d, root, ver, f, h0, h1, h2, h3, by rw [blk_put, if_neg hne]; exact hd, ?_⟩
    rw [grp_put]
    split
    · rename_i e1
      simp only at e1
      subst e1
      rw [hg] at hr ⊢
      exact hr
    · exact hr

theorem OWp.nextS {x : Operand} {s : ByteArray} {i pos : Nat} (hw : WfH H) (hi : Own H i (.stringIter s pos) true) (hg : guardA ops o e = some true) (ho : o.op = .next x true) (hx : rho e x = .pointer (some ⟨i, 0, none⟩))
    (h1 : pos < s.size → ∀ H1, WfH H1 → (∀ H0, WfH H0 → Keeps H0 H → H0.next ≤ i → Keeps H0 H1) → (∀ d ob ex, d ≠ i → Own H d ob ex → Own H1 d ob ex) → Own H1 i (.stringIter s (pos + (Utf8.decode s pos).2)) true → Sees H H1 → (∀ B v t l, Grow B H v t l → Grow B H1 v t l) →
      OWp P prims ops r (putE e o.dst (.tuple #[.bool true, .int .i64 pos, .int .i32 (Utf8.decode s pos).1])) H1 Q)
    (h2 : ¬ pos < s.size → OWp P prims ops r (putE e o.dst (.tuple #[.bool false])) H Q) : OWp P prims ops (o :: r) e H Q := by
  have hi' := hi
  obtain ⟨v, hb, hgr⟩ := hi
  have hl : H.live i ⟨.stringIter s pos, i, true, v⟩ = true := live_iff.2 (by rw [hgr]; exact Nat.le_refl _)
  have htp : H.tip i ⟨.stringIter s pos, i, true, v⟩ = true := tip_iff.2 (by rw [hgr])
  have sh : ∀ p, shapeSame (.stringIter s p) (.stringIter s p) := fun _ => trivial
  by_cases hp : pos < s.size
  · refine OWp.step hg (fun call => by unfold evOp; simp only [ho, hx, nextA, hb, hl, htp, Bool.and_true, if_pos hp]) rfl
      (h1 hp _ (Own.wfPut hw hb hgr (sh _)) (fun H0 w0 k hc => Own.keepPut k w0 hc hb hgr (sh _)) (fun d ob ex hd h => h.other hd) (hi'.put v) (Own.seesPut hb hgr (fun _ _ _ e => by cases e)) (fun B v t l h => h.put hb hgr (fun _ _ _ e => by cases e)))
  · exact OWp.step hg (fun call => by unfold evOp; simp only [ho, hx, nextA, hb, hl, htp, Bool.and_true, if_neg hp]) rfl (h2 hp)


/-- What a call of append may have turned. -/
structure Grown (B : Nat) (H H1 : AH) : Prop where
  wf : WfH H1
  keeps : ∀ H0, WfH H0 → Keeps H0 H → H0.next ≤ B → Keeps H0 H1
  own : ∀ d ob, Own H d ob true → Own H1 d ob true
  sees : Sees H H1
theorem Grown.refl {B : Nat} (hw : WfH H) : Grown B H H := ⟨hw, fun _ _ k _ => k, fun _ _ h => h, Sees.refl⟩
theorem Grown.of_keeps {B : Nat} (hw : WfH H) (k : Keeps H H1) : Grown B H H1 :=
  ⟨k.wf, fun _ w0 k0 _ => k0.trans k w0, fun _ _ h => h.keep hw k, k.sees hw⟩
theorem Grown.trans {B : Nat} (h : Grown B H H1) (k : Grown B H1 H2) : Grown B H H2 :=
  ⟨k.wf, fun H0 w0 k0 hb => k.keeps H0 w0 (h.keeps H0 w0 k0 hb) hb, fun d ob h1 => k.own d ob (h.own d ob h1), h.sees.trans k.sees⟩

theorem append_grow {sT xT t xe : TypeId} {v z : Value} {p : Option Addr} {m cap B : Nat} {l l2 : List Value} (hw : WfH H) (hB : B ≤ H.next) (hE : elemT P sT = some t) (hX : P.underlying xT = some (.slice xe)) (hz : zeroT P t = some z) (hz1 : z.cells.size = 1) (hs1 : szT P t = 1) (hb : 0 < bytesT P t)
    (hv : Grow B H v t l) (hr : Row H p l2) (hm : l2.length = m) (h0 : l2 ≠ []) (hlim : (l.length + m) * bytesT P t ≤ 140737488355328) :
    ∃ H1 v1, appendA P H sT (some xT) v (.slice p m cap) = some (v1, H1) ∧ Grown B H H1 ∧ Grow B H1 v1 t (l ++ l2) := by
  subst hm
  have hm0 : 0 < l2.length := List.length_pos_iff.2 h0
  have hlim2 : l.length + l2.length ≤ 140737488355328 := Nat.le_trans (Nat.le_mul_of_pos_right _ hb) hlim
  have htail : tailA P H t (.slice p l2.length cap) = some (l2.length, l2) := by simp only [tailA, hs1, Nat.mul_one, hr.rowA]
  have hcond : (l.length + l2.length) * bytesT P t ≤ 140737488355328 ∧ l.length + l2.length ≤ 140737488355328 ∧ 0 < bytesT P t ∧ 0 < szT P t ∧ z.cells.size = szT P t := ⟨hlim, hlim2, hb, by omega, by omega⟩
  have hxd : (some xT).bind P.underlying = some (.slice xe) := hX
  rcases hv with ⟨rfl, rfl⟩ | ⟨c, root, ver, f, g0, g1, rfl, g2, hblk, hgrp⟩
  · have hcond' : (0 + l2.length) * bytesT P t ≤ 140737488355328 ∧ 0 + l2.length ≤ 140737488355328 ∧ 0 < bytesT P t ∧ 0 < szT P t ∧ z.cells.size = szT P t := hcond
    have sh : shapeSame (.cells l2.toArray t (0, 0)) (.cells l2.toArray t (0, 0)) := ⟨rfl, rfl⟩
    refine ⟨H.alloc (.cells l2.toArray t) false, .slice (some ⟨H.next, 0, none⟩) (0 + l2.length) (0 + l2.length), ?_, Grown.of_keeps hw (Keeps.alloc hw sh), .inr ⟨H.next, H.next, H.clock, (0, 0), hB, Nat.le_refl _, by simp, by simpa using h0, ?_, ?_⟩⟩
    · unfold appendA
      simp only [hE, hxd, notInt, htail, hz]
      rw [if_neg (by omega), if_pos hcond']
      simp
    · rw [blk_alloc_new]; simp
    · rw [grp_alloc]; exact hw.fresh _ (Nat.le_refl _)
  · have hwb := hw.lt c _ hblk
    have hlive : H.live c ⟨.cells l.toArray t f, root, false, ver⟩ = true := live_iff.2 (by rw [hgrp]; exact g1)
    have htip : H.tip c ⟨.cells l.toArray t f, root, false, ver⟩ = true := tip_iff.2 (by rw [hgrp])
    have hcells : H.cells c = some (l.toArray, t, f) := by unfold AH.cells; simp only [hblk, hlive]
    have hrow : rowA H (some ⟨c, 0, none⟩) (l.length * szT P t) = some l := by
      rw [hs1, Nat.mul_one]
      exact Row.rowA (p := some ⟨c, 0, none⟩) ⟨rfl, l.toArray, t, f, hcells, by simp, by simp⟩
    obtain ⟨lo, hi⟩ := f
    have sh : ∀ fr, shapeSame (.cells (l ++ l2).toArray t fr) (.cells (l ++ l2).toArray t fr) := fun _ => ⟨rfl, rfl⟩
    have hwf1 : WfH (H.copyOf (.cells (l ++ l2).toArray t (lo - 0, hi - 0)) root) := hw.copyOf hblk rfl (sh _)
    refine ⟨H.copyOf (.cells (l ++ l2).toArray t (lo - 0, hi - 0)) root, .slice (some ⟨H.next, 0, none⟩) (l.length + l2.length) (l.length + l2.length), ?_, ⟨hwf1, fun H0 w0 k hb0 => ⟨hwf1, ?_, fun d hd => ?_, fun d b hd => ?_⟩, fun d ob hd => ?_, fun d x hx => ?_⟩, .inr ⟨H.next, root, H.clock, (lo - 0, hi - 0), g0, by omega, by simp, by simp [g2], blk_copyOf_new, ?_⟩⟩
    · unfold appendA
      simp only [hE, hxd, notInt, htail, hz]
      rw [if_neg (by omega), if_pos hcond]
      simp only [hblk, hrow]
      rw [if_neg (by simp), if_neg (by simp [hs1]), if_pos ⟨by simp [hs1], by first | rfl | trivial, htip⟩]
    · rw [next_copyOf]; have := k.next; omega
    · rw [blk_copyOf, if_neg (by have := k.next; omega)]; exact k.blk d hd
    · have := w0.lt d b hd
      rw [grp_copyOf, if_neg (by omega)]; exact k.grp d b hd
    · obtain ⟨v2, d1, d2⟩ := hd
      have hdr : d ≠ root := by
        rintro rfl
        rw [hgrp] at d2
        obtain rfl : c = d := congrArg Prod.fst d2
        rw [hblk] at d1
        cases d1
      have hdl := (hw.lt _ _ d1).1
      exact ⟨v2, by rw [blk_copyOf, if_neg (by omega)]; exact d1, by rw [grp_copyOf, if_neg hdr]; exact d2⟩
    · unfold AH.cells at *
      split at hx
      case h_2 => cases hx
      rename_i b hbd
      rw [blk_copyOf, if_neg (by have := (hw.lt _ _ hbd).1; omega), hbd]
      have hl : (H.copyOf (.cells (l ++ l2).toArray t (lo - 0, hi - 0)) root).live d b = H.live d b := by
        simp only [AH.live, grp_copyOf]
        split
        · rename_i e1; rw [e1]
        · rfl
      simp only [hl]
      exact hx
    · rw [grp_copyOf, if_pos rfl, hgrp]

theorem OWp.append {ca : Call} {x y : Operand} {sT xT t xe : TypeId} {v z : Value} {p : Option Addr} {m cap B : Nat} {l l2 : List Value} (hw : WfH H) (hB : B ≤ H.next) (hv : Grow B H v t l) (hr : Row H p l2) (hm : l2.length = m) (h0 : l2 ≠ [])
    (hg : guardA ops o e = some true) (ho : o.op = .call ca) (hc : ca.callee = .builtin .append) (ha : ca.args = #[x, y]) (hat : ca.argTypes = #[sT, xT])
    (hE : elemT P sT = some t) (hX : P.underlying xT = some (.slice xe)) (hz : zeroT P t = some z) (hz1 : z.cells.size = 1) (hs1 : szT P t = 1) (hb : 0 < bytesT P t)
    (hx : rho e x = v) (hy : rho e y = .slice p m cap) (hlim : (l.length + m) * bytesT P t ≤ 140737488355328)
    (hk : ∀ H1 v1, Grown B H H1 → Grow B H1 v1 t (l ++ l2) → OWp P prims ops r (putE e o.dst v1) H1 Q) : OWp P prims ops (o :: r) e H Q := by
  obtain ⟨H1, v1, h1, h2, h3⟩ := append_grow (cap := cap) hw hB hE hX hz hz1 hs1 hb hv hr hm h0 hlim
  exact OWp.step hg (fun call => by unfold evOp; simp only [ho, callA, hc, ha, hat, List.map_cons, List.map_nil, hx, hy]; exact h1) rfl (hk H1 v1 h2 h3)

/-- A slice's literal. -/
def buildCells (P : Program) (t : TypeId) (n : Nat) (parts : List (Nat × Value)) : Option (TypeId × Array Value) :=
  match elemT P t with
  | some e => match zeroT P e with
    | some z =>
      if n * szT P e = 0 then none
      else if n * szT P e ≤ 2 ^ 24 ∧ z.cells.size ≠ 0 ∧ parts.all (fun p => p.2.cells.toList.all isCell) = true then
        match Instr.fill (fun i => some (i * szT P e, szT P e)) ((Array.range (n * szT P e)).map (z.cells[· % z.cells.size]!)) parts with
        | some cells => some (e, cells)
        | none => none
      else none
    | none => none
  | none => none

theorem OWp.buildSl {t t' : TypeId} {n : Nat} {ps : Array (Nat × Operand)} {parts : List (Nat × Value)} {cells : Array Value} (hw : WfH H) (hg : guardA ops o e = some true) (ho : o.op = .buildSlice t n ps) (hp : ps.toList.map (fun p => (p.1, rho e p.2)) = parts)
    (hb : buildCells P t n parts = some (t', cells)) (hk : ∀ H1 i, WfH H1 → Keeps H H1 → H.next ≤ i → Own H1 i (.cells cells t' (0, 0)) true → OWp P prims ops r (putE e o.dst (.slice (some ⟨i, 0, none⟩) n n)) H1 Q) : OWp P prims ops (o :: r) e H Q := by
  have sh : shapeSame (.cells cells t' (0, 0)) (.cells cells t' (0, 0)) := ⟨rfl, rfl⟩
  refine OWp.step hg (fun call => ?_) rfl (hk (H.alloc (.cells cells t') true) H.next (hw.alloc sh) (Keeps.alloc hw sh) (Nat.le_refl _) (Own.alloc hw))
  have : buildSliceA P H t n parts = some (.slice (some ⟨H.next, 0, none⟩) n n, H.alloc (.cells cells t') true) := by
    unfold buildCells at hb
    unfold buildSliceA
    split at hb
    case h_2 => cases hb
    rename_i e1 he1
    split at hb
    case h_2 => cases hb
    rename_i z hz
    split at hb
    · cases hb
    rename_i hn
    split at hb
    case isFalse => cases hb
    rename_i hcond
    split at hb
    case h_2 => cases hb
    rename_i cells' hf
    cases hb
    simp only [he1, hz]
    rw [if_neg hn, if_pos hcond, hf]
  unfold evOp
  simp only [ho, hp, this]

theorem OWp.lenSl {ca : Call} {x : Operand} {t te : TypeId} {p : Option Addr} {n cap : Nat} (hg : guardA ops o e = some true) (ho : o.op = .call ca) (hc : ca.callee = .builtin .len) (hcs : ca.args = #[x]) (hct : ca.argTypes = #[t]) (ht : P.underlying t = some (.slice te)) (hx : rho e x = .slice p n cap)
    (hk : OWp P prims ops r e' H Q) (he : putE e o.dst (.int .i64 n) = e' := by simp only [putE, rho, List.set_cons_zero, List.set_cons_succ, List.getD_cons_zero, List.getD_cons_succ]; exact rfl) : OWp P prims ops (o :: r) e H Q := by
  refine OWp.step hg (fun call => ?_) he hk
  unfold evOp
  simp [ho, callA, hc, hcs, hct, hx, ht]

theorem OWp.indexAddrSl {t te : TypeId} {x y : Operand} {p : Addr} {n cap : Nat} {k : IntKind} {i : Int} (hg : guardA ops o e = some true) (ho : o.op = .indexAddr t x y) (ht : P.underlying t = some (.slice te)) (hx : rho e x = .slice (some p) n cap) (hy : rho e y = .int k i)
    (hs0 : szT P te ≠ 0) (h0 : 0 ≤ i) (h1 : i < n) (hk : OWp P prims ops r e' H Q) (he : putE e o.dst (.pointer (some (p.add (i.toNat * szT P te)))) = e' := by simp only [putE, rho, List.set_cons_zero, List.set_cons_succ, List.getD_cons_zero, List.getD_cons_succ]; exact rfl) : OWp P prims ops (o :: r) e H Q := by
  refine OWp.step hg (fun call => ?_) he hk
  unfold evOp
  simp only [ho, indexAddrA, ht, hx, hy, if_pos (And.intro h0 (And.intro h1 hs0)), Option.map_some]

def isAggD : TypeDesc → Bool
  | .struct _ | .array _ _ => true
  | _ => false
/-- A load of one cell of a row. -/
theorem OWp.loadRow {t : TypeId} {x : Operand} {p : Addr} {i : Nat} {l : List Value} {v : Value} {d : TypeDesc} (hg : guardA ops o e = some true) (ho : o.op = .load t x) (ht : P.underlying t = some d) (hd : isAggD d = false) (hx : rho e x = .pointer (some (p.add i))) (hr : Row H (some p) l) (hv : l[i]? = some v)
    (hk : OWp P prims ops r e' H Q) (he : putE e o.dst v = e' := by simp only [putE, rho, List.set_cons_zero, List.set_cons_succ, List.getD_cons_zero, List.getD_cons_succ]; exact rfl) : OWp P prims ops (o :: r) e H Q := by
  refine OWp.step hg (fun call => ?_) he hk
  obtain ⟨h0, C, e1, f, h1, h2, h3⟩ := hr
  have hlt := (List.getElem?_eq_some_iff.1 hv).1
  have hc : C[p.off + i]? = some v := by
    rw [← h3, Array.getElem?_toList, Array.getElem?_extract] at hv
    split at hv
    · exact hv
    · cases hv
  have : loadA P H t (p.add i) = some v := by
    unfold loadA
    have hp : p.add i = ⟨p.block, p.off + i, none⟩ := add_none h0 i
    have a0 : (p.add i).spot = none := by rw [hp]
    have a1 : H.cells (p.add i).block = some (C, e1, f) := by rw [hp]; exact h1
    have a2 : (p.add i).off = p.off + i := by rw [hp]
    simp only [a0, a1, ht]
    cases d <;> simp [isAggD] at hd <;> simp only [a2, hc]
  unfold evOp
  simp only [ho, hx, this, Option.map_some]

theorem convertA_int {src dst : TypeId} {k k' : IntKind} {n : Int} (hs : P.underlying src = some (.int k)) : convertA P H src dst (.int k' n) = none := by
  unfold convertA
  split <;> simp_all

theorem OWp.convI {src dst : TypeId} {x : Operand} {k k' k2 : IntKind} {n : Int} (hg : guardA ops o e = some true) (ho : o.op = .convert src dst x) (hs : P.underlying src = some (.int k)) (hd : P.underlying dst = some (.int k')) (hx : rho e x = .int k2 n)
    (hw : k'.wrap n = n) (hk : OWp P prims ops r e' H Q) (he : putE e o.dst (.int k' n) = e' := by simp only [putE, rho, List.set_cons_zero, List.set_cons_succ, List.getD_cons_zero, List.getD_cons_succ]; exact rfl) : OWp P prims ops (o :: r) e H Q := by
  refine OWp.step hg (fun call => ?_) he hk
  have hf : flatOp P o (rho e) = some (.int k' n) := by
    refine flat_op (by rw [ho]; simp [Op.operands, hx, flatB, flat2, flat1, atomB]) ?_ rfl
    unfold execOp
    rw [ho]
    simp only [hx, convert, pr_bind, pr_pure, Option.bind_some, pr_underlying hs, pr_underlying hd, Conv.intToInt, hw]
  unfold evOp
  simp only [ho, hx, convertA_int hs, hf, Option.map_some]

theorem wrap_u8 {n : Int} (h : 0 ≤ n ∧ n < 256) : IntKind.u8.wrap n = n := by
  simp only [IntKind.wrap, IntKind.bits, IntKind.signed]
  simp
  omega

theorem OWp.minI {ca : Call} {x y : Operand} {k k' : IntKind} {a b : Int} (hg : guardA ops o e = some true) (ho : o.op = .call ca) (hc : ca.callee = .builtin .min) (ha : ca.args = #[x, y]) (hx : rho e x = .int k a) (hy : rho e y = .int k' b)
    (hk : OWp P prims ops r e' H Q) (he : putE e o.dst (.int k (if b < a then b else a)) = e' := by simp only [putE, rho, List.set_cons_zero, List.set_cons_succ, List.getD_cons_zero, List.getD_cons_succ]; exact rfl) : OWp P prims ops (o :: r) e H Q := by
  refine OWp.step hg (fun call => ?_) he hk
  have hf : flatOp P o (rho e) = some (.int k (if b < a then b else a)) := by
    refine flat_op (by rw [ho]; simp [Op.operands, Call.operands, hc, ha, hx, hy, flatB, flat2, flat1, atomB]) ?_ rfl
    unfold execOp
    rw [ho]
    simp [resolve, hc, ha, hx, hy, pr_bind, pr_pure, invoke, builtin, Builtin.min_, Builtin.min2]
  unfold evOp
  simp only [ho, callA, hc, hf, Option.map_some]

/-- Runes as a text. -/
def encF : List Nat → ByteArray → ByteArray
  | [], acc => acc
  | r :: l, acc => encF l (acc ++ Utf8.encode (r : Nat))
def runeV (l : List Nat) : List Value := l.map fun r => Value.int .i32 (r : Nat)
theorem runesOfCells_enc : ∀ (l : List Nat) (acc : ByteArray), runesOfCells (runeV l) acc = some (encF l acc)
  | [], _ => rfl
  | r :: l, acc => by simp only [runeV, List.map_cons, runesOfCells, encF]; exact runesOfCells_enc l _

theorem OWp.convRunes {src dst te : TypeId} {x : Operand} {p : Option Addr} {n cap : Nat} {l : List Nat} (hg : guardA ops o e = some true) (ho : o.op = .convert src dst x) (hs : P.underlying src = some (.slice te)) (ht : P.underlying te = some (.int .i32)) (hd : P.underlying dst = some .string)
    (hx : rho e x = .slice p n cap) (hr : Row H p (runeV l)) (hn : (runeV l).length = n)
    (hk : OWp P prims ops r e' H Q) (he : putE e o.dst (.string (encF l .empty)) = e' := by simp only [putE, rho, List.set_cons_zero, List.set_cons_succ, List.getD_cons_zero, List.getD_cons_succ]; exact rfl) : OWp P prims ops (o :: r) e H Q := by
  refine OWp.step hg (fun call => ?_) he hk
  subst hn
  unfold evOp
  simp only [ho, hx, convertA, hs, hd, ht, hr.rowA, runesOfCells_enc]

theorem OWp.indexAddrSl1 {t te : TypeId} {x y : Operand} {p : Addr} {n cap : Nat} {k : IntKind} {i : Int} (hg : guardA ops o e = some true) (ho : o.op = .indexAddr t x y) (ht : P.underlying t = some (.slice te)) (hs1 : szT P te = 1) (hx : rho e x = .slice (some p) n cap) (hy : rho e y = .int k i)
    (h0 : 0 ≤ i) (h1 : i < n) (hk : OWp P prims ops r e' H Q) (he : putE e o.dst (.pointer (some (p.add i.toNat))) = e' := by simp only [putE, rho, List.set_cons_zero, List.set_cons_succ, List.getD_cons_zero, List.getD_cons_succ]; exact rfl) : OWp P prims ops (o :: r) e H Q :=
  OWp.indexAddrSl hg ho ht hx hy (by rw [hs1]; decide) h0 h1 hk (by rw [hs1, Nat.mul_one]; exact he)
theorem runeV_get (l : List Nat) (i : Nat) (h : i < l.length) : (runeV l)[i]? = some (.int .i32 (l.getD i 0 : Nat)) := by
  simp [runeV, List.getElem?_map, List.getElem?_eq_getElem h, List.getD_eq_getElem?_getD]
theorem runeV_length (l : List Nat) : (runeV l).length = l.length := by simp [runeV]

end
end Go.Proofs.YtofigleaealbjaaGreatDoor.Ev
