/-
  Slices of structs that are grown by appending; structs looked at in a row.
  The evaluator at values that stand for any: structs in blocks of one's own.
  Texts in plain words: bytes, blanks, columns, runs, what is cut off at either end.
  Rules for function values, bytes that become a text, rows of structs, stores and loads in drawn regions.
-/
import Derived.Test.YtenolmhnmcjndaaGreatDoorEvSymX
import Derived.Lib.ValidAsc
import Derived.Lib.SlTrimSet
namespace Go.Proofs.YtenolmhnmcjndaaGreatDoor.Ev
set_option linter.unusedVariables false
set_option linter.unusedSimpArgs false
open Go
section
variable {P : Program} {prims : Prims} {ops : Array Oper} {o : Oper} {r : List Oper} {e e' : List Value} {H H0 H1 H2 : AH} {Q : List Value → AH → Prop}

/-- A slice of n things of k cells each that was made by appending alone, to what was nil. -/
def GrowK (k B : Nat) (H : AH) (v : Value) (t : TypeId) (n : Nat) (l : List Value) : Prop :=
  l.length = n * k ∧ ((n = 0 ∧ v = .slice none 0 0 ∧ l = []) ∨
  ∃ c root ver f, B ≤ root ∧ root ≤ c ∧ v = .slice (some ⟨c, 0, none⟩) n n ∧ 0 < n ∧ H.blk c = some ⟨.cells l.toArray t f, root, false, ver⟩ ∧ H.grp root = (c, root))

theorem GrowK.nil {k B : Nat} {t : TypeId} : GrowK k B H (.slice none 0 0) t 0 [] := ⟨by simp, .inl ⟨rfl, rfl, rfl⟩⟩
theorem GrowK.row {k B n : Nat} {v : Value} {t : TypeId} {l : List Value} (h : GrowK k B H v t n l) : ∃ p, v = .slice p n n ∧ Row H p l ∧ (0 < n → ∃ a, p = some a ∧ a.spot = none) := by
  obtain ⟨h1, ⟨rfl, rfl, rfl⟩ | ⟨c, root, ver, f, h0, h1, rfl, h3, hb, hg⟩⟩ := h
  · exact ⟨none, rfl, rfl, fun h => absurd h (Nat.lt_irrefl _)⟩
  · refine ⟨_, rfl, ⟨rfl, l.toArray, t, f, ?_, by simp, by simp⟩, fun _ => ⟨_, rfl, rfl⟩⟩
    have hl : H.live c ⟨.cells l.toArray t f, root, false, ver⟩ = true := live_iff.2 (by rw [hg]; exact h1)
    unfold AH.cells
    simp only [hb, hl]
theorem GrowK.clip {k B n : Nat} {v : Value} {t : TypeId} {l : List Value} (h : GrowK k B H v t n l) : ∃ p, v = .slice p n n ∧ Row H p l ∧ (0 < n → ∃ a, p = some a) ∧ ∀ a, p = some a → a.spot = none ∧ ∃ C fr, H.cells a.block = some (C, t, fr) := by
  obtain ⟨h1, ⟨rfl, rfl, rfl⟩ | ⟨c, root, ver, f, h0, h1, rfl, h3, hb, hg⟩⟩ := h
  · exact ⟨none, rfl, rfl, fun h => absurd h (Nat.lt_irrefl _), fun a e => by cases e⟩
  · have hl : H.live c ⟨.cells l.toArray t f, root, false, ver⟩ = true := live_iff.2 (by rw [hg]; exact h1)
    have hc : H.cells c = some (l.toArray, t, f) := by
      unfold AH.cells
      simp only [hb, hl]
    exact ⟨_, rfl, ⟨rfl, l.toArray, t, f, hc, by simp, by simp⟩, fun _ => ⟨_, rfl⟩, fun a e => by cases e; exact ⟨rfl, _, _, hc⟩⟩
theorem GrowK.keep {k B n : Nat} {v : Value} {t : TypeId} {l : List Value} (hw : WfH H) (kp : Keeps H H1) (h : GrowK k B H v t n l) : GrowK k B H1 v t n l := by
  obtain ⟨h1, h | ⟨c, root, ver, f, h0, h1, h2, h3, hb, hg⟩⟩ := h
  · exact ⟨h1, .inl h⟩
  · exact ⟨by assumption, .inr ⟨c, root, ver, f, h0, h1, h2, h3, (kp.blk c (hw.lt _ _ hb).1).trans hb, (kp.grp c _ hb).trans hg⟩⟩

theorem append_growK {sT xT t xe : TypeId} {v z : Value} {p : Option Addr} {cap B k n : Nat} {l l2 : List Value} (hw : WfH H) (hB : B ≤ H.next) (hE : elemT P sT = some t) (hX : P.underlying xT = some (.slice xe)) (hz : zeroT P t = some z) (hz1 : z.cells.size = k) (hs1 : szT P t = k) (hk0 : 0 < k) (hb : 0 < bytesT P t)
    (hv : GrowK k B H v t n l) (hr : Row H p l2) (hm : l2.length = k) (hlim : (n + 1) * bytesT P t ≤ 140737488355328) :
    ∃ H1 v1, appendA P H sT (some xT) v (.slice p 1 cap) = some (v1, H1) ∧ Grown B H H1 ∧ GrowK k B H1 v1 t (n + 1) (l ++ l2) := by
  have h0 : l2 ≠ [] := fun e => by rw [e] at hm; simp at hm; omega
  have hlim2 : n + 1 ≤ 140737488355328 := Nat.le_trans (Nat.le_mul_of_pos_right _ hb) hlim
  have htail : tailA P H t (.slice p 1 cap) = some (1, l2) := by
    have := hr.rowA
    rw [hm] at this
    simp only [tailA, hs1, Nat.one_mul, this]
  have hcond : (n + 1) * bytesT P t ≤ 140737488355328 ∧ n + 1 ≤ 140737488355328 ∧ 0 < bytesT P t ∧ 0 < szT P t ∧ z.cells.size = szT P t := ⟨hlim, hlim2, hb, by omega, by omega⟩
  have hxd : (some xT).bind P.underlying = some (.slice xe) := hX
  obtain ⟨hlen, hv⟩ := hv
  have hlen2 : (l ++ l2).length = (n + 1) * k := by rw [List.length_append, hlen, hm, Nat.add_mul, Nat.one_mul]
  rcases hv with ⟨rfl, rfl, rfl⟩ | ⟨c, root, ver, f, g0, g1, rfl, g2, hblk, hgrp⟩
  · have sh : shapeSame (.cells l2.toArray t (0, 0)) (.cells l2.toArray t (0, 0)) := ⟨rfl, rfl⟩
    refine ⟨H.alloc (.cells l2.toArray t) false, .slice (some ⟨H.next, 0, none⟩) (0 + 1) (0 + 1), ?_, Grown.of_keeps hw (Keeps.alloc hw sh), hlen2, .inr ⟨H.next, H.next, H.clock, (0, 0), hB, Nat.le_refl _, rfl, Nat.succ_pos _, ?_, ?_⟩⟩
    · unfold appendA
      simp only [hE, hxd, notInt, htail, hz]
      rw [if_neg (by omega), if_pos hcond]
      simp
    · rw [blk_alloc_new]; simp
    · rw [grp_alloc]; exact hw.fresh _ (Nat.le_refl _)
  · have hwb := hw.lt c _ hblk
    have hlive : H.live c ⟨.cells l.toArray t f, root, false, ver⟩ = true := live_iff.2 (by rw [hgrp]; exact g1)
    have htip : H.tip c ⟨.cells l.toArray t f, root, false, ver⟩ = true := tip_iff.2 (by rw [hgrp])
    have hcells : H.cells c = some (l.toArray, t, f) := by unfold AH.cells; simp only [hblk, hlive]
    have hrow : rowA H (some ⟨c, 0, none⟩) (n * szT P t) = some l := by
      rw [hs1, ← hlen]
      exact Row.rowA (p := some ⟨c, 0, none⟩) ⟨rfl, l.toArray, t, f, hcells, by simp, by simp⟩
    obtain ⟨lo, hi⟩ := f
    have sh : ∀ fr, shapeSame (.cells (l ++ l2).toArray t fr) (.cells (l ++ l2).toArray t fr) := fun _ => ⟨rfl, rfl⟩
    have hwf1 : WfH (H.copyOf (.cells (l ++ l2).toArray t (lo - 0, hi - 0)) root) := hw.copyOf hblk rfl (sh _)
    refine ⟨H.copyOf (.cells (l ++ l2).toArray t (lo - 0, hi - 0)) root, .slice (some ⟨H.next, 0, none⟩) (n + 1) (n + 1), ?_, ⟨hwf1, fun H0 w0 kp hb0 => ⟨hwf1, ?_, fun d hd => ?_, fun d b hd => ?_⟩, fun d ob hd => ?_, fun d x hx => ?_⟩, hlen2, .inr ⟨H.next, root, H.clock, (lo - 0, hi - 0), g0, by omega, rfl, Nat.succ_pos _, blk_copyOf_new, ?_⟩⟩
    · unfold appendA
      simp only [hE, hxd, notInt, htail, hz]
      rw [if_neg (by omega), if_pos hcond]
      simp only [hblk, hrow]
      have hsz2 : l.toArray.size = n * k := by simpa using hlen
      rw [if_neg (by simp), if_neg (by simp [hs1, hlen]), if_pos ⟨by simp [hs1, hlen], by first | rfl | trivial, htip⟩]
    · rw [next_copyOf]; have := kp.next; omega
    · rw [blk_copyOf, if_neg (by have := kp.next; omega)]; exact kp.blk d hd
    · have := w0.lt d b hd
      rw [grp_copyOf, if_neg (by omega)]; exact kp.grp d b hd
    · obtain ⟨v2, d1, d2⟩ := hd
      have hdr : d ≠ root := by
        rintro rfl
        rw [hgrp] at d2
        obtain rfl : c = d := congrArg Prod.fst d2
        rw [hblk] at d1
        cases d1
      have hdl := (hw.lt _ _ d1).1
      exact ⟨v2, by rw [blk_copyOf, if_neg (by omega)]; exact d1, by rw [grp_copyOf, if_neg hdr]; exact d2⟩
    · unfold AH.cells at *
      split at hx
      case h_2 => cases hx
      rename_i b hbd
      rw [blk_copyOf, if_neg (by have := (hw.lt _ _ hbd).1; omega), hbd]
      have hl : (H.copyOf (.cells (l ++ l2).toArray t (lo - 0, hi - 0)) root).live d b = H.live d b := by
        simp only [AH.live, grp_copyOf]
        split
        · rename_i e1; rw [e1]
        · rfl
      simp only [hl]
      exact hx
    · rw [grp_copyOf, if_pos rfl, hgrp]


theorem OWp.appendK {ca : Call} {x y : Operand} {sT xT t xe : TypeId} {v z : Value} {p : Option Addr} {cap B k n : Nat} {l l2 : List Value} (hw : WfH H) (hB : B ≤ H.next) (hv : GrowK k B H v t n l) (hr : Row H p l2) (hm : l2.length = k)
    (hg : guardA ops o e = some true) (ho : o.op = .call ca) (hc : ca.callee = .builtin .append) (ha : ca.args = #[x, y]) (hat : ca.argTypes = #[sT, xT])
    (hE : elemT P sT = some t) (hX : P.underlying xT = some (.slice xe)) (hz : zeroT P t = some z) (hz1 : z.cells.size = k) (hs1 : szT P t = k) (hk0 : 0 < k) (hb : 0 < bytesT P t)
    (hx : rho e x = v) (hy : rho e y = .slice p 1 cap) (hlim : (n + 1) * bytesT P t ≤ 140737488355328)
    (hk : ∀ H1 v1, Grown B H H1 → GrowK k B H1 v1 t (n + 1) (l ++ l2) → OWp P prims ops r (putE e o.dst v1) H1 Q) : OWp P prims ops (o :: r) e H Q := by
  obtain ⟨H1, v1, h1, h2, h3⟩ := append_growK (cap := cap) hw hB hE hX hz hz1 hs1 hk0 hb hv hr hm hlim
  exact OWp.step hg (fun call => by unfold evOp; simp only [ho, callA, hc, ha, hat, List.map_cons, List.map_nil, hx, hy]; exact h1) rfl (hk H1 v1 h2 h3)

/-- A struct of a row, looked at. -/
theorem OWp.loadAgg {t : TypeId} {x : Operand} {p : Addr} {i k : Nat} {l : List Value} {fs : Array Field} (hg : guardA ops o e = some true) (ho : o.op = .load t x) (ht : P.underlying t = some (.struct fs)) (hx : rho e x = .pointer (some (p.add i))) (hr : Row H (some p) l) (hk1 : szT P t = k) (hi : i + k ≤ l.length)
    (hk : OWp P prims ops r e' H Q) (he : putE e o.dst (.agg ((l.drop i).take k).toArray) = e' := by simp only [putE, rho, List.set_cons_zero, List.set_cons_succ, List.getD_cons_zero, List.getD_cons_succ]; exact rfl) : OWp P prims ops (o :: r) e H Q := by
  refine OWp.step hg (fun call => ?_) he hk
  obtain ⟨h0, C, e1, f, h1, h2, h3⟩ := hr
  have : loadA P H t (p.add i) = some (.agg ((l.drop i).take k).toArray) := by
    unfold loadA
    have hp : p.add i = ⟨p.block, p.off + i, none⟩ := add_none h0 i
    have a0 : (p.add i).spot = none := by rw [hp]
    have a1 : H.cells (p.add i).block = some (C, e1, f) := by rw [hp]; exact h1
    have a2 : (p.add i).off = p.off + i := by rw [hp]
    simp only [a0, a1, ht, a2, hk1]
    rw [if_pos (by omega)]
    congr 2
    apply Array.ext'
    rw [← h3]
    apply List.ext_getElem?
    intro j
    simp only [List.getElem?_take, List.getElem?_drop, Array.getElem?_toList, Array.getElem?_extract]
    by_cases hj : j < k
    · rw [if_pos (by omega), if_pos hj, if_pos (by omega), Nat.add_assoc]
    · rw [if_neg (by omega), if_neg hj]
  unfold evOp
  simp only [ho, hx, this, Option.map_some]

/-- slices.Clip of a slice that has no room: itself. -/
theorem OWp.clip {t te : TypeId} {x hi mx : Operand} {p : Option Addr} {n : Nat} {C : Array Value} {fr : Nat × Nat} (hg : guardA ops o e = some true) (ho : o.op = .slice t x none (some hi) (some mx)) (ht : P.underlying t = some (.slice te)) (hs : szT P te ≠ 0)
    (hx : rho e x = .slice p n n) (hh : rho e hi = .int .i64 (n : Nat)) (hm : rho e mx = .int .i64 (n : Nat)) (hp : ∀ a, p = some a → a.spot = none ∧ ∃ C fr, H.cells a.block = some (C, te, fr))
    (hk : OWp P prims ops r e' H Q) (he : putE e o.dst (.slice p n n) = e' := by simp only [putE, rho, List.set_cons_zero, List.set_cons_succ, List.getD_cons_zero, List.getD_cons_succ]; exact rfl) : OWp P prims ops (o :: r) e H Q := by
  refine OWp.step hg (fun call => ?_) he hk
  have hE : elemT P t = some te := by unfold elemT; rw [ht]
  have : sliceA P H t (.slice p n n) none (some (.int .i64 (n : Nat))) (some (.int .i64 (n : Nat))) = some (.slice p n n) := by
    unfold sliceA
    simp only [hE, intOf?, Option.getD_some, Option.getD_none]
    rw [if_pos ⟨by omega, by omega, by omega, by omega, fun _ => rfl, by omega, hs⟩]
    cases p with
    | none => simp
    | some a =>
      obtain ⟨h1, C, fr, h2⟩ := hp a rfl
      simp only [h2, Nat.beq_refl, cond_true]
      simp [add_none h1, ← addr_eta h1]
  unfold evOp
  simp only [ho, ht, hx, hh, hm, Option.map_none, Option.map_some, this]
end
end Go.Proofs.YtenolmhnmcjndaaGreatDoor.Ev
namespace Go.Proofs.YtenolmhnmcjndaaGreatDoor.Ev
set_option linter.unusedVariables false
set_option linter.unusedSimpArgs false
open Go
/-- A slice of one's own, of k cells an element: what it is as a value, its first block, its cells. -/
structure Sl where
  v : Value
  k : Nat
  t : TypeId
  rt : Option Nat
  l : List Value
def Sl.ok (H : AH) (σ : Sl) : Prop :=
  (σ.rt = none ∧ σ.l = [] ∧ σ.v = .slice none 0 0) ∨
  ∃ c root ver fl fr n cap, ∃ D : List Value, σ.rt = some root ∧ root ≤ c ∧ fl ≤ c ∧ σ.v = .slice (some ⟨c, 0, none⟩) n cap ∧ n ≤ cap ∧ 0 < cap ∧ D.length = cap * σ.k ∧ (σ.l = D.take (n * σ.k) ∧ fr.1 = fr.2) ∧ H.blk c = some ⟨.cells D.toArray σ.t fr, root, false, ver⟩ ∧ H.grp root = (c, fl)
/-- What one may hold: a block, a slice. -/
inductive It where
  | c (x : Nat × Obj)
  | s (σ : Sl)
def It.id : It → Option Nat
  | .c x => some x.1
  | .s σ => σ.rt
def It.ok (H : AH) : It → Prop
  | .c x => Own H x.1 x.2 true
  | .s σ => σ.ok H
section
variable {P : Program} {prims : Prims} {ops : Array Oper} {o : Oper} {r : List Oper} {e e' : List Value} {H H0 H1 H2 : AH} {Q : List Value → AH → Prop} {l : List It}

/-- All but what is of these first blocks is as it was. -/
structure Mods (S : List Nat) (H H1 : AH) : Prop where
  wf : WfH H1
  next : H.next ≤ H1.next
  blk : ∀ c, c < H.next → (∀ b, H.blk c = some b → b.root ∉ S) → H1.blk c = H.blk c
  grp : ∀ c b, H.blk c = some b → b.root ∉ S → H1.grp b.root = H.grp b.root
theorem Mods.of_keeps (k : Keeps H H1) : Mods [] H H1 := ⟨k.wf, k.next, fun c hc _ => k.blk c hc, fun c b hb _ => k.grp c b hb⟩
theorem Mods.refl (S : List Nat) (hw : WfH H) : Mods S H H := ⟨hw, Nat.le_refl _, fun _ _ _ => rfl, fun _ _ _ _ => rfl⟩
theorem Mods.mono {S T : List Nat} (m : Mods S H H1) (h : ∀ s, s ∈ S → s ∈ T) : Mods T H H1 := ⟨m.wf, m.next, fun c hc hb => m.blk c hc fun b e hs => hb b e (h _ hs), fun c b hb hs => m.grp c b hb fun e => hs (h _ e)⟩
theorem Mods.same {S : List Nat} (hw : WfH H) (m : Mods S H H1) {c : Nat} {b : Blk} (hb : H.blk c = some b) (hs : b.root ∉ S) : H1.blk c = some b :=
  (m.blk c (hw.lt c b hb).1 fun b' e => by rw [hb] at e; cases e; exact hs).trans hb
theorem Mods.trans {S : List Nat} (hw : WfH H) (m : Mods S H H1) (k : Mods S H1 H2) : Mods S H H2 := by
  refine ⟨k.wf, Nat.le_trans m.next k.next, fun c hc hb => ?_, fun c b hb hs => ?_⟩
  · have e := m.blk c hc hb
    exact (k.blk c (Nat.lt_of_lt_of_le hc m.next) fun b e2 => hb b (e ▸ e2)).trans e
  · exact (k.grp c b (m.same hw hb hs) hs).trans (m.grp c b hb hs)
theorem Mods.keeps {S : List Nat} (hw0 : WfH H0) (k : Keeps H0 H) (m : Mods S H H1) (hS : ∀ s, s ∈ S → H0.next ≤ s) : Keeps H0 H1 := by
  refine ⟨m.wf, Nat.le_trans k.next m.next, fun c hc => ?_, fun c b hb => ?_⟩
  · have e := k.blk c hc
    refine (m.blk c (Nat.lt_of_lt_of_le hc k.next) fun b hb hs => ?_).trans e
    have := hS _ hs
    have := (k.wf.lt c b hb).2
    omega
  · have hlt := hw0.lt c b hb
    have e := (k.blk c hlt.1).trans hb
    refine (m.grp c b e fun hs => ?_).trans (k.grp c b hb)
    have := hS _ hs
    omega
theorem Mods.put {c : Nat} {b : Blk} {ob' : Obj} (hb : H.blk c = some b) (hw : WfH (H.put c b ob')) : Mods [b.root] H (H.put c b ob') := by
  refine ⟨hw, Nat.le_refl _, fun d hd hr => ?_, fun d b' hb' hr => ?_⟩
  · rw [blk_put, if_neg]
    rintro rfl
    exact hr b hb (by simp)
  · rw [grp_put, if_neg]
    intro e
    exact hr (by simp [e])
theorem Mods.copyOf {ob : Obj} {root : Nat} (hw : WfH (H.copyOf ob root)) : Mods [root] H (H.copyOf ob root) := by
  refine ⟨hw, by rw [next_copyOf]; omega, fun d hd hr => ?_, fun d b' hb' hr => ?_⟩
  · rw [blk_copyOf, if_neg (by omega)]
  · rw [grp_copyOf, if_neg]
    intro e
    exact hr (by simp [e])
theorem It.ok.mods {S : List Nat} {x : It} (hw : WfH H) (h : x.ok H) (m : Mods S H H1) (hs : ∀ r, x.id = some r → r ∉ S) : x.ok H1 := by
  cases x with
  | c x =>
    obtain ⟨ver, h1, h2⟩ := h
    have hs := hs x.1 rfl
    exact ⟨ver, m.same hw h1 hs, (m.grp _ _ h1 hs).trans h2⟩
  | s σ =>
    rcases h with h | ⟨c, root, ver, fl, fr, n, cap, D, h1, h2, h3, h4, h5, h6, h7, h8, h9, h10⟩
    · exact .inl h
    · have hs := hs root h1
      exact .inr ⟨c, root, ver, fl, fr, n, cap, D, h1, h2, h3, h4, h5, h6, h7, h8, m.same hw h9 hs, (m.grp _ _ h9 hs).trans h10⟩
theorem It.ok.lt {x : It} (hw : WfH H) (h : x.ok H) : ∀ r, x.id = some r → r < H.next := by
  intro r hr
  cases x with
  | c x => cases hr; exact Own.lt hw h
  | s σ =>
    rcases h with h | ⟨c, root, ver, fl, fr, n, cap, D, h1, h2, h3, h4, h5, h6, h7, h8, h9, h10⟩
    · have hr : σ.rt = some r := hr
      rw [h.1] at hr; cases hr
    · have hr : σ.rt = some r := hr
      rw [h1] at hr; cases hr
      have := (hw.lt _ _ h9).1
      omega
/-- What one holds above an older heap. -/
structure Has (H0 H : AH) (l : List It) : Prop where
  wf0 : WfH H0
  keep : Keeps H0 H
  own : ∀ x, x ∈ l → x.ok H
  lo : ∀ x, x ∈ l → ∀ r, x.id = some r → H0.next ≤ r
  nod : (l.filterMap It.id).Nodup
theorem Has.start (hw : WfH H) : Has H H [] := ⟨hw, Keeps.refl hw, fun x hx => (by simp at hx), fun x hx => (by simp at hx), by simp⟩
theorem Has.wf (h : Has H0 H l) : WfH H := h.keep.wf
theorem Has.mods {S : List Nat} (h : Has H0 H l) (m : Mods S H H1) (hs : ∀ s, s ∈ S → H0.next ≤ s) (hl : ∀ s, s ∈ S → s ∉ l.filterMap It.id) : Has H0 H1 l :=
  ⟨h.wf0, m.keeps h.wf0 h.keep hs, fun x hx => (h.own x hx).mods h.wf m fun r hr hS => hl r hS (List.mem_filterMap.2 ⟨x, hx, hr⟩), h.lo, h.nod⟩
theorem Has.after (h : Has H0 H l) (k : Keeps H H1) : Has H0 H1 l := h.mods (Mods.of_keeps k) (fun s hs => nomatch hs) (fun s hs => nomatch hs)
theorem Has.get {k : Nat} {i : Nat} {ob : Obj} (h : Has H0 H l) (hk : l[k]? = some (.c (i, ob))) : H0.next ≤ i ∧ Own H i ob true := ⟨h.lo _ (List.mem_of_getElem? hk) _ rfl, h.own _ (List.mem_of_getElem? hk)⟩
theorem Has.getS {k : Nat} {σ : Sl} (h : Has H0 H l) (hk : l[k]? = some (.s σ)) : σ.ok H := h.own _ (List.mem_of_getElem? hk)
/-- One more, that is new. -/
theorem Has.new {x : It} {S : List Nat} (h : Has H0 H l) (m : Mods S H H1) (hS : ∀ s, s ∈ S → H.next ≤ s) (hx : x.ok H1) (hr : ∀ r, x.id = some r → H.next ≤ r) : Has H0 H1 (x :: l) := by
  have h2 : Has H0 H1 l := h.mods m (fun s hs => Nat.le_trans h.keep.next (hS s hs)) (fun s hs hm => by
    obtain ⟨y, hy, e⟩ := List.mem_filterMap.1 hm
    have := (h.own y hy).lt h.wf s e
    have := hS s hs
    omega)
  refine ⟨h.wf0, h2.keep, fun y hy => ?_, fun y hy r e => ?_, ?_⟩
  · rcases List.mem_cons.1 hy with rfl | hy
    · exact hx
    · exact h2.own y hy
  · rcases List.mem_cons.1 hy with rfl | hy
    · exact Nat.le_trans h.keep.next (hr r e)
    · exact h.lo y hy r e
  · rw [List.filterMap_cons]
    split
    · exact h.nod
    · rename_i r e
      refine List.nodup_cons.2 ⟨fun hm => ?_, h.nod⟩
      obtain ⟨y, hy, e2⟩ := List.mem_filterMap.1 hm
      have := (h.own y hy).lt h.wf r e2
      have := hr r e
      omega
theorem Has.add {ob : Obj} (h : Has H0 H l) (ho : shapeSame ob ob) : Has H0 (H.alloc ob true) (.c (H.next, ob) :: l) :=
  h.new (Mods.of_keeps (Keeps.alloc (ex := true) h.wf ho)) (fun s hs => nomatch hs) (Own.alloc h.wf) (fun r hr => by cases hr; exact Nat.le_refl _)
theorem fm_set : ∀ (l : List It) (k : Nat) (x y : It), l[k]? = some x → x.id = y.id → (l.set k y).filterMap It.id = l.filterMap It.id
  | [], k, x, y, h, e => by simp at h
  | z :: l, 0, x, y, h, e => by simp at h; subst h; simp [List.filterMap_cons, e]
  | z :: l, k + 1, x, y, h, e => by
    simp only [List.set_cons_succ, List.filterMap_cons]
    rw [fm_set l k x y (by simpa using h) e]
theorem nod_at : ∀ (l : List It) (j k : Nat) (x y : It) (r : Nat), (l.filterMap It.id).Nodup → l[j]? = some x → l[k]? = some y → x.id = some r → y.id = some r → j = k
  | [], j, k, x, y, r, h, hj, _, _, _ => by simp at hj
  | z :: l, 0, 0, x, y, r, h, hj, hk, hx, hy => rfl
  | z :: l, 0, k + 1, x, y, r, h, hj, hk, hx, hy => by
    simp at hj hk; subst hj
    rw [List.filterMap_cons, hx] at h
    exact absurd (List.mem_filterMap.2 ⟨y, List.mem_of_getElem? hk, hy⟩) (List.nodup_cons.1 h).1
  | z :: l, j + 1, 0, x, y, r, h, hj, hk, hx, hy => by
    simp at hj hk; subst hk
    rw [List.filterMap_cons, hy] at h
    exact absurd (List.mem_filterMap.2 ⟨x, List.mem_of_getElem? hj, hx⟩) (List.nodup_cons.1 h).1
  | z :: l, j + 1, k + 1, x, y, r, h, hj, hk, hx, hy => by
    simp at hj hk
    rw [List.filterMap_cons] at h
    have : (l.filterMap It.id).Nodup := by
      split at h
      · exact h
      · exact (List.nodup_cons.1 h).2
    rw [nod_at l j k x y r this hj hk hx hy]
/-- One that is turned: of the same first block, or of none before, and then new. -/
theorem Has.upd {k : Nat} {x y : It} {S : List Nat} (h : Has H0 H l) (hk : l[k]? = some x) (m : Mods S H H1) (hS : ∀ s, s ∈ S → x.id = some s ∨ H.next ≤ s) (hy : y.ok H1) (hi : ∀ r, y.id = some r → x.id = some r ∨ (x.id = none ∧ H.next ≤ r)) (hn : ∀ r, x.id = some r → y.id = some r) : Has H0 H1 (l.set k y) := by
  have hlo : ∀ s, s ∈ S → H0.next ≤ s := fun s hs => (hS s hs).elim (fun e => h.lo x (List.mem_of_getElem? hk) s e) (fun e => Nat.le_trans h.keep.next e)
  have hoth : ∀ (j : Nat) (z : It), l[j]? = some z → j ≠ k → ∀ r, z.id = some r → r ∉ S := fun j z hz hjk r hr hs => by
    rcases hS r hs with e | e
    · exact hjk (nod_at l j k z x r h.nod hz hk hr e)
    · have := (h.own z (List.mem_of_getElem? hz)).lt h.wf r hr
      omega
  refine ⟨h.wf0, m.keeps h.wf0 h.keep hlo, fun z hz => ?_, fun z hz r e => ?_, ?_⟩
  · obtain ⟨j, hj⟩ := List.getElem?_of_mem hz
    rw [List.getElem?_set] at hj
    split at hj
    · split at hj
      · cases hj; exact hy
      · cases hj
    · rename_i hne
      exact (h.own z (List.mem_of_getElem? hj)).mods h.wf m (hoth j z hj (fun e => hne e.symm))
  · obtain ⟨j, hj⟩ := List.getElem?_of_mem hz
    rw [List.getElem?_set] at hj
    split at hj
    · split at hj
      · cases hj
        rcases hi r e with e2 | ⟨_, e2⟩
        · exact h.lo x (List.mem_of_getElem? hk) r e2
        · exact Nat.le_trans h.keep.next e2
      · cases hj
    · exact h.lo z (List.mem_of_getElem? hj) r e
  · cases hx : x.id with
    | some r => rw [fm_set l k x y hk (hx.trans (hn r hx).symm)]; exact h.nod
    | none =>
      cases hyi : y.id with
      | none => rw [fm_set l k x y hk (hx.trans hyi.symm)]; exact h.nod
      | some r =>
        have hr : H.next ≤ r := by
          rcases hi r hyi with e | ⟨_, e⟩
          · rw [hx] at e; cases e
          · exact e
        have hnm : r ∉ l.filterMap It.id := fun hm => by
          obtain ⟨z, hz, e⟩ := List.mem_filterMap.1 hm
          have := (h.own z hz).lt h.wf r e
          omega
        have hlt := (List.getElem?_eq_some_iff.1 hk).1
        have e1 : l = l.take k ++ x :: l.drop (k + 1) := by
          have := (List.getElem?_eq_some_iff.1 hk).2
          rw [← this]; simp
        have e2 : l.set k y = l.take k ++ y :: l.drop (k + 1) := by rw [List.set_eq_take_append_cons_drop, if_pos hlt]
        rw [e2, List.filterMap_append, List.filterMap_cons, hyi]
        have hn0 := h.nod
        rw [e1, List.filterMap_append, List.filterMap_cons, hx] at hn0
        rw [e1, List.filterMap_append, List.filterMap_cons, hx] at hnm
        simp only [List.mem_append, not_or] at hnm
        rw [List.nodup_append] at hn0 ⊢
        refine ⟨hn0.1, List.nodup_cons.2 ⟨hnm.2, hn0.2.1⟩, fun a ha b hb e => ?_⟩
        subst e
        rcases List.mem_cons.1 hb with rfl | hb
        · exact hnm.1 ha
        · exact hn0.2.2 a ha a hb rfl
theorem Has.put {k : Nat} {i v : Nat} {ob ob' : Obj} (h : Has H0 H l) (hk : l[k]? = some (.c (i, ob))) (hb : H.blk i = some ⟨ob, i, true, v⟩) (hg : H.grp i = (i, i)) (ho : shapeSame ob' ob') : Has H0 (H.put i ⟨ob, i, true, v⟩ ob') (l.set k (.c (i, ob'))) :=
  h.upd hk (Mods.put hb (Own.wfPut h.wf hb hg ho)) (fun s hs => .inl (by simp at hs; rw [hs]; rfl)) (Own.put ⟨v, hb, hg⟩ v) (fun r hr => .inl hr) (fun r hr => hr)
/-- The oldest are let go. -/
theorem Has.keeps (h : Has H0 H l) : Keeps H0 H := h.keep
theorem Has.drop {x : It} (h : Has H0 H (x :: l)) : Has H0 H l := ⟨h.wf0, h.keep, fun y hy => h.own y (by simp [hy]), fun y hy => h.lo y (by simp [hy]), by
  have := h.nod
  rw [List.filterMap_cons] at this
  split at this
  · exact this
  · exact (List.nodup_cons.1 this).2⟩
/-- In another order. -/
theorem Has.perm {l2 : List It} (h : Has H0 H l) (p : l.Perm l2) : Has H0 H l2 := ⟨h.wf0, h.keep, fun x hx => h.own x (p.mem_iff.2 hx), fun x hx => h.lo x (p.mem_iff.2 hx), (p.filterMap It.id).nodup_iff.1 h.nod⟩

theorem OWp.box {t : TypeId} {x : Operand} {v : Value} (hh : Has H0 H l) (hg : guardA ops o e = some true) (ho : o.op = .box t x) (hx : rho e x = v) (hc : v.cells.toList.all isCell = true)
    (hk : ∀ H1 i, Has H0 H1 (.c (i, .cells v.cells t (0, 0)) :: l) → OWp P prims ops r (putE e o.dst (.pointer (some ⟨i, 0, none⟩))) H1 Q) : OWp P prims ops (o :: r) e H Q := by
  refine OWp.step hg (fun call => ?_) rfl (hk _ _ (hh.add (ob := .cells v.cells t (0, 0)) ⟨rfl, rfl⟩))
  unfold evOp
  simp only [ho, hx, hc, cond_true]

theorem OWp.alloc {t : TypeId} {v : Value} (hh : Has H0 H l) (hg : guardA ops o e = some true) (ho : o.op = .alloc t) (hz : zeroT P t = some v)
    (hk : ∀ H1 i, Has H0 H1 (.c (i, .cells v.cells t (0, 0)) :: l) → OWp P prims ops r (putE e o.dst (.pointer (some ⟨i, 0, none⟩))) H1 Q) : OWp P prims ops (o :: r) e H Q := by
  refine OWp.step hg (fun call => ?_) rfl (hk _ _ (hh.add (ob := .cells v.cells t (0, 0)) ⟨rfl, rfl⟩))
  unfold evOp
  simp only [ho, hz]

theorem OWp.fieldA {s : TypeId} {x : Operand} {f i off : Nat} {fields : Array Field} {fl : Field} (hg : guardA ops o e = some true) (ho : o.op = .fieldAddr s x f) (ht : P.underlying s = some (.struct fields)) (hf : fields[f]? = some fl) (hs0 : szT P fl.type ≠ 0)
    (hx : rho e x = .pointer (some ⟨i, off, none⟩)) (hk : OWp P prims ops r e' H Q) (he : putE e o.dst (.pointer (some ⟨i, off + fl.offset, none⟩)) = e' := by simp only [putE, rho, List.set_cons_zero, List.set_cons_succ, List.getD_cons_zero, List.getD_cons_succ]; exact rfl) : OWp P prims ops (o :: r) e H Q := by
  refine OWp.step hg (fun call => ?_) he hk
  have hs : Nat.beq (szT P fl.type) 0 = false := Bool.eq_false_iff.2 fun h => hs0 (Nat.eq_of_beq_eq_true h)
  have ha : (⟨i, off, none⟩ : Addr).add fl.offset = ⟨i, off + fl.offset, none⟩ := add_none rfl _
  unfold evOp
  simp only [ho, hx, fieldAddrA, ht, hf, hs, cond_false, ha, Option.map_some]

/-- A load of one cell. -/
theorem OWp.loadB {t t' : TypeId} {x : Operand} {k i off : Nat} {C : Array Value} {v : Value} {d : TypeDesc} (hh : Has H0 H l) (hk0 : l[k]? = some (.c (i, .cells C t' (0, 0)))) (hg : guardA ops o e = some true) (ho : o.op = .load t x) (hx : rho e x = .pointer (some ⟨i, off, none⟩)) (ht : P.underlying t = some d) (hd : isAggD d = false)
    (hv : C[off]? = some v) (hk : OWp P prims ops r e' H Q) (he : putE e o.dst v = e' := by simp only [putE, rho, List.set_cons_zero, List.set_cons_succ, List.getD_cons_zero, List.getD_cons_succ]; exact rfl) : OWp P prims ops (o :: r) e H Q := by
  refine OWp.step hg (fun call => ?_) he hk
  have hc := (hh.get hk0).2.cells
  have : loadA P H t ⟨i, off, none⟩ = some v := by
    unfold loadA
    simp only [hc, ht]
    cases d <;> simp [isAggD] at hd <;> simp only [hv]
  unfold evOp
  simp only [ho, hx, this, Option.map_some]
theorem load_agg {t t' : TypeId} {k i off : Nat} {C : Array Value} {d : TypeDesc} (hh : Has H0 H l) (hk0 : l[k]? = some (.c (i, .cells C t' (0, 0)))) (ht : P.underlying t = some d) (hd : isAggD d = true)
    (hs : off + szT P t ≤ C.size) : loadA P H t ⟨i, off, none⟩ = some (.agg (C.extract off (off + szT P t))) := by
  have hc := (hh.get hk0).2.cells
  unfold loadA
  simp only [hc, ht]
  cases d <;> simp [isAggD] at hd <;> simp only [if_pos hs]
/-- A load of a struct. -/
theorem OWp.loadG {t t' : TypeId} {x : Operand} {k i off n : Nat} {C D : Array Value} {d : TypeDesc} (hh : Has H0 H l) (hk0 : l[k]? = some (.c (i, .cells C t' (0, 0)))) (hg : guardA ops o e = some true) (ho : o.op = .load t x) (hx : rho e x = .pointer (some ⟨i, off, none⟩)) (ht : P.underlying t = some d) (hd : isAggD d = true)
    (hn : szT P t = n) (hs : off + n ≤ C.size) (hD : C.extract off (off + n) = D) (hk : OWp P prims ops r e' H Q) (he : putE e o.dst (.agg D) = e' := by simp only [putE, rho, List.set_cons_zero, List.set_cons_succ, List.getD_cons_zero, List.getD_cons_succ]; exact rfl) : OWp P prims ops (o :: r) e H Q := by
  subst hn hD
  refine OWp.step hg (fun call => ?_) he hk
  unfold evOp
  simp only [ho, hx, load_agg hh hk0 ht hd hs, Option.map_some]
/-- A store. -/
theorem OWp.storeB {t t' : TypeId} {x y : Operand} {k i off n : Nat} {C C' : Array Value} {v : Value} (hh : Has H0 H l) (hk0 : l[k]? = some (.c (i, .cells C t' (0, 0)))) (hg : guardA ops o e = some true) (ho : o.op = .store t x y) (hx : rho e x = .pointer (some ⟨i, off, none⟩)) (hy : rho e y = v)
    (hn : szT P t = n) (hn0 : n ≠ 0) (hvn : v.cells.size = n) (hs : off + n ≤ C.size) (hc : v.cells.toList.all isCell = true) (hC : writeCells C off v.cells.toList = C')
    (hk : ∀ H1, Has H0 H1 (l.set k (.c (i, .cells C' t' (0, 0)))) → OWp P prims ops r (putE e o.dst undef) H1 Q) : OWp P prims ops (o :: r) e H Q := by
  obtain ⟨h1, ver, h2, h3⟩ := hh.get hk0
  obtain ⟨info, hi⟩ := sz_info (P := P) (e := t) (by omega)
  have hsz : info.size = n := by unfold szT at hn; rw [hi] at hn; exact hn
  refine OWp.step hg (fun call => ?_) rfl (hk _ (hh.put (ob' := .cells C' t' (0, 0)) hk0 h2 h3 ⟨rfl, rfl⟩))
  have hl : H.live i ⟨.cells C t' (0, 0), i, true, ver⟩ = true := live_iff.2 (by rw [h3]; exact Nat.le_refl _)
  have htp : H.tip i ⟨.cells C t' (0, 0), i, true, ver⟩ = true := tip_iff.2 (by rw [h3])
  have hst : storeA P H t ⟨i, off, none⟩ v = some (H.put i ⟨.cells C t' (0, 0), i, true, ver⟩ (.cells C' t' (0, 0))) := by
    unfold storeA
    simp only [h2, hl, htp, hi, Option.map_some, hsz, hvn, hc, hC, Bool.true_and, Bool.and_true]
    rw [if_pos]
    simp
    exact hs
  unfold evOp
  simp only [ho, hx, hy, hst, Option.map_some]

theorem pr_map {α β : Type} (x : Sem α) (f : α → β) : pureRun P (f <$> x) = (pureRun P x).map f := by
  show pureRun P (x.bind fun a => Sem.pure (f a)) = _
  rw [show (x.bind fun a => Sem.pure (f a)) = (x >>= fun a => pure (f a)) from rfl, pr_bind]
  cases pureRun P x <;> rfl
theorem eq_bool {t : TypeId} {a b : Bool} (ht : P.underlying t = some .bool) : pureRun P (Op.equal t (.bool a) (.bool b)) = some (a == b) := by
  unfold Op.equal Op.maxDepth
  rw [Op.equalIn]
  simp only [pr_bind, pr_underlying ht, Option.bind_some, pr_pure]
theorem OWp.eqlB {t t' : TypeId} {x y : Operand} {a b : Bool} (hg : guardA ops o e = some true) (ho : o.op = .binOp .eql t x y t') (ht : P.underlying t = some .bool) (hx : rho e x = .bool a) (hy : rho e y = .bool b)
    (hk : OWp P prims ops r e' H Q) (he : putE e o.dst (.bool (decide (a = b))) = e' := by simp only [putE, rho, List.set_cons_zero, List.set_cons_succ, List.getD_cons_zero, List.getD_cons_succ]; exact rfl) : OWp P prims ops (o :: r) e H Q := by
  have hab : (a == b) = decide (a = b) := by cases a <;> cases b <;> rfl
  rw [← hab] at he
  refine OWp.step hg (fun call => ?_) he hk
  have hf : flatOp P o (rho e) = some (.bool (a == b)) := by
    refine flat_op (by rw [ho]; simp [Op.operands, hx, hy, flatB, flat2, flat1, atomB]) ?_ rfl
    unfold execOp
    rw [ho]
    simp only [hx, hy, eqGuard, Go.binOp]
    simp [pr_bind, pr_pure, pr_map, eq_bool ht]
  unfold evOp
  simp only [ho, hx, eqA_bool, hf, Option.map_some]
theorem OWp.neqB {t t' : TypeId} {x y : Operand} {a b : Bool} (hg : guardA ops o e = some true) (ho : o.op = .binOp .neq t x y t') (ht : P.underlying t = some .bool) (hx : rho e x = .bool a) (hy : rho e y = .bool b)
    (hk : OWp P prims ops r e' H Q) (he : putE e o.dst (.bool (decide (¬ a = b))) = e' := by simp only [putE, rho, List.set_cons_zero, List.set_cons_succ, List.getD_cons_zero, List.getD_cons_succ]; exact rfl) : OWp P prims ops (o :: r) e H Q := by
  have hab : (!(a == b)) = decide (¬ a = b) := by cases a <;> cases b <;> rfl
  rw [← hab] at he
  refine OWp.step hg (fun call => ?_) he hk
  have hf : flatOp P o (rho e) = some (.bool (!(a == b))) := by
    refine flat_op (by rw [ho]; simp [Op.operands, hx, hy, flatB, flat2, flat1, atomB]) ?_ rfl
    unfold execOp
    rw [ho]
    simp only [hx, hy, eqGuard, Go.binOp]
    simp [pr_bind, pr_pure, pr_map, eq_bool ht]
  unfold evOp
  simp only [ho, hx, eqA_bool, hf, Option.map_some]
theorem OWp.mulI {t t' : TypeId} {x y : Operand} {a b : Int} (hg : guardA ops o e = some true) (ho : o.op = .binOp .mul t x y t') (hx : rho e x = .int .i64 a) (hy : rho e y = .int .i64 b)
    (hr : -9223372036854775808 ≤ a * b ∧ a * b ≤ 9223372036854775807) (hk : OWp P prims ops r e' H Q) (he : putE e o.dst (.int .i64 (a * b)) = e' := by simp only [putE, rho, List.set_cons_zero, List.set_cons_succ, List.getD_cons_zero, List.getD_cons_succ]; exact rfl) : OWp P prims ops (o :: r) e H Q :=
  OWp.binI hg ho hx hy rfl hk (by rw [wrap_id hr]; exact he)
theorem OWp.subU {t t' : TypeId} {x y : Operand} {a b : Int} (hg : guardA ops o e = some true) (ho : o.op = .binOp .sub t x y t') (hx : rho e x = .int .u8 a) (hy : rho e y = .int .u8 b)
    (hr : 0 ≤ a - b ∧ a - b < 256) (hk : OWp P prims ops r e' H Q) (he : putE e o.dst (.int .u8 (a - b)) = e' := by simp only [putE, rho, List.set_cons_zero, List.set_cons_succ, List.getD_cons_zero, List.getD_cons_succ]; exact rfl) : OWp P prims ops (o :: r) e H Q :=
  OWp.binI hg ho hx hy rfl hk (by rw [wrap_u8 hr]; exact he)
theorem mask_small (a b : Int) (hb : 0 ≤ b ∧ b ≤ 1000000000000) : ∃ c : Nat, (c : Int) ≤ b ∧ IntKind.i64.wrap ((BitVec.ofInt IntKind.i64.bits a &&& BitVec.ofInt IntKind.i64.bits b).toNat : Int) = c := by
  obtain ⟨b, rfl⟩ := Int.eq_ofNat_of_zero_le hb.1
  have hb2 := hb.2
  have hle : (BitVec.ofInt IntKind.i64.bits a &&& BitVec.ofInt IntKind.i64.bits (b : Int)).toNat ≤ b := by
    rw [BitVec.toNat_and, BitVec.ofInt_natCast, BitVec.toNat_ofNat]
    exact Nat.le_trans Nat.and_le_right (Nat.mod_le _ _)
  refine ⟨_, Int.ofNat_le.2 hle, ?_⟩
  generalize (BitVec.ofInt IntKind.i64.bits a &&& BitVec.ofInt IntKind.i64.bits (b : Int)).toNat = c at hle ⊢
  rw [IntKind.wrap_i64]; omega
/-- What is masked is no larger than its mask. -/
theorem OWp.andM {t t' : TypeId} {x y : Operand} {a b : Int} (hg : guardA ops o e = some true) (ho : o.op = .binOp .and t x y t') (hx : rho e x = .int .i64 a) (hy : rho e y = .int .i64 b) (hb : 0 ≤ b ∧ b ≤ 1000000000000)
    (h : ∀ c : Nat, (c : Int) ≤ b → OWp P prims ops r (putE e o.dst (.int .i64 c)) H Q) : OWp P prims ops (o :: r) e H Q := by
  obtain ⟨c, hc, hw⟩ := mask_small a b hb
  refine OWp.step hg (fun call => ?_) rfl (h c hc)
  have hf : flatOp P o (rho e) = some (.int .i64 c) := by
    refine flat_op (by rw [ho]; simp [Op.operands, hx, hy, flatB, flat2, flat1, atomB]) ?_ rfl
    unfold execOp
    rw [ho]
    rw [← hw]
    simp [hx, hy, eqGuard, Go.binOp, Op.intBits]
    rfl
  unfold evOp
  simp only [ho, hx, hy, eqA_int, hf, Option.map_some]
theorem built_ok {t : TypeId} {ps : Array (Nat × Operand)} {ρ : Operand → Value} {v : Value} (hb : buildA P t (ps.toList.map fun p => (p.1, ρ p.2)) = some v) (call : CallA) (ho : o.op = .build t ps) : evOp P call o ρ H = some (v, H) := by
  unfold evOp
  simp only [ho, hb, Option.map_some]
theorem OWp.build {t : TypeId} {ps : Array (Nat × Operand)} {v : Value} {parts : List (Nat × Value)} (hg : guardA ops o e = some true) (ho : o.op = .build t ps) (hp : ps.toList.map (fun p => (p.1, rho e p.2)) = parts) (hb : buildA P t parts = some v)
    (hk : OWp P prims ops r e' H Q) (he : putE e o.dst v = e' := by simp only [putE, rho, List.set_cons_zero, List.set_cons_succ, List.getD_cons_zero, List.getD_cons_succ]; exact rfl) : OWp P prims ops (o :: r) e H Q :=
  OWp.step hg (fun call => built_ok (by rw [hp]; exact hb) call ho) he hk
end
section
variable {P : Program} {H H0 : AH} {l : List It} {e : List Value}
/-- Loads of a drawn region look at what is as it was. -/
def loadsOf (ops : Array Oper) (e : List Value) : List Value := ops.toList.filterMap fun o => match o.op with | .load _ x => some (rho e x) | _ => none
theorem still_all {ops : Array Oper} {L : List Value} {H H' : AH} (hL : loadsOf ops e = L) (h : L.all (stillB H H') = true) : stillAll ops e H H' = true := by
  subst hL
  unfold stillAll loadsOf at *
  rw [List.all_eq_true] at *
  intro o ho
  split
  · rename_i t x hop
    exact h _ (List.mem_filterMap.2 ⟨o, ho, by simp only [hop]⟩)
  · rfl
theorem still_has {H1 : AH} {k i off : Nat} {ob : Obj} (hh : Has H0 H l) (hk0 : l[k]? = some (.c (i, ob))) (hK : Keeps H H1) : stillB H H1 (.pointer (some ⟨i, off, none⟩)) = true := by
  obtain ⟨h1, ver, h2, h3⟩ := hh.get hk0
  have h4 := hK.blk i (hh.wf.lt _ _ h2).1
  have h5 := hK.grp i _ h2
  simp only [stillB, h2, h4]
  rw [Bool.and_eq_true]
  exact ⟨by simp, live_iff.2 (by rw [h5]; show (H.grp i).2 ≤ i; rw [h3]; exact Nat.le_refl _)⟩
theorem RetQ.cellTwo {fn : Func} {Q : Value → AH → Prop} {st : St} {a b : Tmp} {t t' : TypeId} {k i n : Nat} {C : Array Value} {d : TypeDesc} {y : Value} (hst : st = .nx ∨ st = .rt) (hr : fn.results = #[.cell a t, .tmp b]) (hx : e.getD a undef = .pointer (some ⟨i, 0, none⟩)) (hh : Has H0 H l) (hk0 : l[k]? = some (.c (i, .cells C t' (0, 0))))
    (ht : P.underlying t = some d) (hd : isAggD d = true) (hn : szT P t = n) (hs : n ≤ C.size) (hy : e.getD b undef = y) (ny : noTuple y = true) (h : Q (.tuple #[.agg (C.extract 0 n), y]) H) : RetQ P fn Q st e H := by
  subst hn
  refine ⟨hst, _, ?_, h⟩
  have := load_agg (off := 0) hh hk0 ht hd (by omega)
  rw [Nat.zero_add] at this
  subst hy
  simp only [List.getD_eq_getElem?_getD] at hx ny
  simp [resultsA, hr, resA, hx, this, ny, show ∀ c, noTuple (Value.agg c) = true from fun _ => rfl]
end
end Go.Proofs.YtenolmhnmcjndaaGreatDoor.Ev
namespace Go.Proofs.YtenolmhnmcjndaaGreatDoor.Ev
set_option linter.unusedVariables false
set_option linter.unusedSimpArgs false
open Go

theorem Q_bool {H : AH} {Q : Value → AH → Prop} {a b : Bool} (h : Q (.bool a) H) (e : a = b) : Q (.bool b) H := e ▸ h
theorem Q_val {H : AH} {Q : Value → AH → Prop} {a b : Value} (h : Q a H) (e : a = b) : Q b H := e ▸ h

def gapB (c : Int) : Prop := c = 32 ∨ c = 9
def GapEnd (s : ByteArray) (i : Nat) : Prop := i ≤ s.size ∧ (∀ j : Nat, j < i → gapB (byteAt s j)) ∧ (i < s.size → ¬ gapB (byteAt s i))
def RunEnd (s : ByteArray) (at_ : Nat) (c : Int) (n : Nat) : Prop := at_ + n ≤ s.size ∧ (∀ j : Nat, j < n → byteAt s (at_ + j : Nat) = c) ∧ (at_ + n < s.size → ¬ byteAt s (at_ + n : Nat) = c)
def stepF (col c : Int) : Int := if c = 9 then col + 4 - col % 4 else col + 1
theorem stepF_le (col c : Int) (h : 0 ≤ col) : col < stepF col c ∧ stepF col c ≤ col + 4 := by unfold stepF; split <;> omega
def colAt (s : ByteArray) : Nat → Int
  | 0 => 0
  | i + 1 => stepF (colAt s i) (byteAt s i)
theorem colAt_le (s : ByteArray) : ∀ i : Nat, (i : Int) ≤ colAt s i ∧ colAt s i ≤ 4 * i
  | 0 => ⟨Int.le_refl 0, Int.le_refl 0⟩
  | i + 1 => by
    have h := colAt_le s i
    have k := stepF_le (colAt s i) (byteAt s i) (by omega)
    show ((i + 1 : Nat) : Int) ≤ stepF _ _ ∧ stepF _ _ ≤ _
    omega

theorem size_app (a b : ByteArray) : (a ++ b).size = a.size + b.size := ByteArray.size_append
theorem ext_le (s : ByteArray) (a b : Nat) : (s.extract a b).size ≤ s.size := by simp [ByteArray.size_extract]; omega
theorem ext_all (t : ByteArray) : t.extract 0 t.size = t := by simp
theorem byteAt_list (s : ByteArray) (j : Nat) (b : UInt8) (h : s.data.toList[j]? = some b) : byteAt s (j : Nat) = (b.toNat : Int) := by
  rw [Array.getElem?_toList] at h
  show ((s.data[j]?.getD 0).toNat : Int) = _
  rw [h]; rfl
theorem byteAt_some (s : ByteArray) (j : Nat) (h : j < s.size) : ∃ b : UInt8, s.data.toList[j]? = some b ∧ byteAt s (j : Nat) = (b.toNat : Int) := by
  have h2 : j < s.data.toList.length := by simpa using h
  exact ⟨_, List.getElem?_eq_getElem h2, byteAt_list s j _ (List.getElem?_eq_getElem h2)⟩
theorem byteAt_u8 (s : ByteArray) (j : Nat) : 0 ≤ byteAt s (j : Nat) ∧ byteAt s (j : Nat) < 256 := by
  show 0 ≤ ((s.data[j]?.getD 0).toNat : Int) ∧ ((s.data[j]?.getD 0).toNat : Int) < 256
  have := (s.data[j]?.getD 0).toNat_lt
  omega
theorem ext_data (s : ByteArray) (k : Nat) : s.extract k s.size = ⟨(s.data.toList.drop k).toArray⟩ := by
  have h := Lib.ext_list s k
  apply ByteArray.ext
  apply Array.toList_inj.1
  rw [h]
theorem ext0_data (s : ByteArray) (k : Nat) : s.extract 0 k = ⟨(s.data.toList.take k).toArray⟩ := by
  apply ByteArray.ext
  apply Array.toList_inj.1
  simp only [ByteArray.data_extract, Array.toList_extract, List.extract_eq_take_drop, List.drop_zero, Nat.sub_zero]
theorem u8_eq (b : UInt8) (n : Nat) (hn : n < 256) (h : (b.toNat : Int) = (n : Int)) : b = UInt8.ofNat n := by
  apply UInt8.toNat_inj.1
  have : b.toNat = n := by omega
  rw [this]
  simp [UInt8.toNat_ofNat']
  omega
theorem byteAt_ext (s : ByteArray) (i j : Nat) : byteAt (s.extract i s.size) (j : Nat) = byteAt s (i + j : Nat) := by
  rw [ext_data]
  show (((s.data.toList.drop i).toArray[j]?.getD 0).toNat : Int) = ((s.data[i + j]?.getD 0).toNat : Int)
  simp [List.getElem?_drop]
theorem byteAt_left (a b : ByteArray) (j : Nat) (h : j < a.size) : byteAt (a ++ b) (j : Nat) = byteAt a (j : Nat) := by
  show (((a ++ b).data[j]?.getD 0).toNat : Int) = ((a.data[j]?.getD 0).toNat : Int)
  have h2 : j < a.data.size := h
  rw [ByteArray.data_append, Array.getElem?_append_left h2]
theorem byteAt_right (a b : ByteArray) (j : Nat) : byteAt (a ++ b) (a.size + j : Nat) = byteAt b (j : Nat) := by
  show (((a ++ b).data[a.size + j]?.getD 0).toNat : Int) = ((b.data[j]?.getD 0).toNat : Int)
  have h2 : a.data.size ≤ a.size + j := by show a.size ≤ _; omega
  rw [ByteArray.data_append, Array.getElem?_append_right h2]
  rw [show a.size + j - a.data.size = j by show a.size + j - a.size = j; omega]
theorem ext_right (a b : ByteArray) : (a ++ b).extract a.size (a ++ b).size = b := by
  rw [ext_data]
  apply ByteArray.ext
  simp only [ByteArray.data_append, Array.toList_append]
  rw [show a.size = a.data.toList.length by simp, List.drop_left]
theorem ext_left (a b : ByteArray) : (a ++ b).extract 0 a.size = a := by
  apply ByteArray.ext
  apply Array.toList_inj.1
  simp only [ByteArray.data_extract, ByteArray.data_append]
  show ((a.data ++ b.data).extract 0 a.size).toList = a.data.toList
  rw [Array.toList_extract]
  simp only [Array.toList_append, List.extract_eq_take_drop, List.drop_zero, Nat.sub_zero]
  rw [show a.size = a.data.toList.length by simp, List.take_left]
theorem split_at (s : ByteArray) (i : Nat) (h : i ≤ s.size) : s.extract 0 i ++ s.extract i s.size = s := by
  rw [ByteArray.extract_append_extract]
  simp [Nat.min_eq_left, h]
theorem byteAt_ext0 (s : ByteArray) (i j : Nat) (h : j < i) (hi : i ≤ s.size) : byteAt (s.extract 0 i) (j : Nat) = byteAt s (j : Nat) := by
  conv => rhs; rw [← split_at s i hi]
  rw [byteAt_left _ _ _ (by rw [ByteArray.size_extract]; omega)]
theorem gap_unique (s : ByteArray) (i j : Nat) (hi : GapEnd s i) (hj : GapEnd s j) : i = j := by
  rcases Nat.lt_trichotomy i j with h | h | h
  · exact absurd (hj.2.1 i h) (hi.2.2 (by have := hj.1; omega))
  · exact h
  · exact absurd (hi.2.1 j h) (hj.2.2 (by have := hi.1; omega))
theorem run_unique (s : ByteArray) (a : Nat) (c : Int) (i j : Nat) (hi : RunEnd s a c i) (hj : RunEnd s a c j) : i = j := by
  rcases Nat.lt_trichotomy i j with h | h | h
  · exact absurd (hj.2.1 i h) (hi.2.2 (by have := hj.1; omega))
  · exact h
  · exact absurd (hi.2.1 j h) (hj.2.2 (by have := hi.1; omega))

/-! ### What is cut off at either end -/
def trimC (s c : ByteArray) : ByteArray := ⟨(Lib.trimLeftS s.data.toList c.data.toList).toArray⟩
def backC (s c : ByteArray) : ByteArray := ⟨(Lib.trimRightS s.data.toList c.data.toList).toArray⟩
abbrev WS : ByteArray := ⟨#[32, 9]⟩
theorem trimC_size (s c) : (trimC s c).size ≤ s.size := by
  show (Lib.trimLeftS s.data.toList c.data.toList).toArray.size ≤ s.data.size
  simp only [Lib.trimLeftS, List.size_toArray]
  exact (List.dropWhile_suffix _).length_le
theorem backC_size (s c) : (backC s c).size ≤ s.size := by
  show (Lib.trimRightS s.data.toList c.data.toList).toArray.size ≤ s.data.size
  simp only [Lib.trimRightS, List.size_toArray, List.length_reverse]
  have := (List.dropWhile_suffix (l := s.data.toList.reverse) (fun x => c.data.toList.contains x)).length_le
  simpa using this
theorem drop_by (s c : ByteArray) (k : Nat) (hk : k ≤ s.size) (h1 : ∀ j : Nat, j < k → ∀ b : UInt8, byteAt s (j : Nat) = (b.toNat : Int) → c.data.toList.contains b = true)
    (h2 : k < s.size → ∀ b : UInt8, byteAt s (k : Nat) = (b.toNat : Int) → c.data.toList.contains b = false) : trimC s c = s.extract k s.size := by
  rw [ext_data]
  unfold trimC
  rw [Lib.trimLeftS_drop s.data.toList c.data.toList k (by simpa using hk) (fun j b hj hb => h1 j hj b (byteAt_list s j b hb))
    (fun b hb => h2 (by have := (List.getElem?_eq_some_iff.1 hb).1; simpa using this) b (byteAt_list s k b hb))]
theorem back_list (cs : List UInt8) : ∀ (l : List UInt8) (k : Nat), k ≤ l.length → (∀ j b, k ≤ j → l[j]? = some b → cs.contains b = true) → (∀ b, 0 < k → l[k - 1]? = some b → cs.contains b = false) → Lib.trimRightS l cs = l.take k := by
  intro l k hk h1 h2
  unfold Lib.trimRightS
  have e : l.reverse = (l.drop k).reverse ++ (l.take k).reverse := by rw [← List.reverse_append, List.take_append_drop]
  rw [e]
  have hall : ∀ x, x ∈ (l.drop k).reverse → cs.contains x = true := fun x hx => by
    rw [List.mem_reverse] at hx
    obtain ⟨j, hj⟩ := List.getElem?_of_mem hx
    rw [List.getElem?_drop] at hj
    exact h1 _ _ (by omega) hj
  rw [List.dropWhile_append_of_pos hall]
  by_cases h0 : k = 0
  · subst h0; simp
  · have hlt : k - 1 < l.length := by omega
    have h3 : (l.take k).reverse = l[k - 1]'hlt :: ((l.take (k - 1)).reverse) := by
      have h4 : l.take k = l.take (k - 1) ++ [l[k - 1]'hlt] := by
        have := List.take_succ_eq_append_getElem hlt
        rw [show k - 1 + 1 = k by omega] at this
        exact this
      rw [h4]; simp
    rw [h3, List.dropWhile_cons_of_neg (by rw [h2 _ (by omega) (List.getElem?_eq_getElem hlt)]; simp), ← h3, List.reverse_reverse]
theorem back_by (s c : ByteArray) (k : Nat) (hk : k ≤ s.size) (h1 : ∀ j : Nat, k ≤ j → j < s.size → ∀ b : UInt8, byteAt s (j : Nat) = (b.toNat : Int) → c.data.toList.contains b = true)
    (h2 : 0 < k → ∀ b : UInt8, byteAt s (k - 1 : Nat) = (b.toNat : Int) → c.data.toList.contains b = false) : backC s c = s.extract 0 k := by
  rw [ext0_data]
  unfold backC
  rw [back_list c.data.toList s.data.toList k (by simpa using hk) (fun j b hj hb => h1 j hj (by have := (List.getElem?_eq_some_iff.1 hb).1; simpa using this) b (byteAt_list s j b hb)) (fun b h0 hb => h2 h0 b (byteAt_list s _ b hb))]
theorem gap_contains (b : UInt8) : ([32, 9] : List UInt8).contains b = true ↔ gapB (b.toNat : Int) := by
  simp only [List.contains_cons, List.contains_nil, Bool.or_false, Bool.or_eq_true, beq_iff_eq, gapB]
  constructor
  · rintro (rfl | rfl)
    · exact .inl rfl
    · exact .inr rfl
  · rintro (h | h)
    · exact .inl (u8_eq b 32 (by omega) h)
    · exact .inr (u8_eq b 9 (by omega) h)
theorem gap_contains_f (b : UInt8) (h : ¬ gapB (b.toNat : Int)) : ([32, 9] : List UInt8).contains b = false := by
  cases hc : ([32, 9] : List UInt8).contains b with
  | false => rfl
  | true => exact absurd ((gap_contains b).1 hc) h
theorem one_contains (n : Nat) (hn : n < 256) (b : UInt8) : ([UInt8.ofNat n] : List UInt8).contains b = true ↔ (b.toNat : Int) = (n : Int) := by
  simp only [List.contains_cons, List.contains_nil, Bool.or_false, beq_iff_eq]
  constructor
  · rintro rfl
    simp [UInt8.toNat_ofNat']
    omega
  · exact fun e => u8_eq b n hn e
theorem trim_gap (s : ByteArray) (i : Nat) (h : GapEnd s i) : trimC s WS = s.extract i s.size :=
  drop_by s WS i h.1 (fun j hj b hb => (gap_contains b).2 (hb ▸ h.2.1 j hj)) (fun hlt b hb => gap_contains_f b (hb ▸ h.2.2 hlt))
/-- Where the blanks at a text's end begin. -/
def GapBack (s : ByteArray) (k : Nat) : Prop := k ≤ s.size ∧ (∀ j : Nat, k ≤ j → j < s.size → gapB (byteAt s j)) ∧ (0 < k → ¬ gapB (byteAt s (k - 1 : Nat)))
def RunBack (s : ByteArray) (c : Int) (k : Nat) : Prop := k ≤ s.size ∧ (∀ j : Nat, k ≤ j → j < s.size → byteAt s j = c) ∧ (0 < k → ¬ byteAt s (k - 1 : Nat) = c)
theorem back_gap (s : ByteArray) (k : Nat) (h : GapBack s k) : backC s WS = s.extract 0 k :=
  back_by s WS k h.1 (fun j hj hlt b hb => (gap_contains b).2 (hb ▸ h.2.1 j hj hlt)) (fun h0 b hb => gap_contains_f b (hb ▸ h.2.2 h0))
theorem back_run (s : ByteArray) (n : Nat) (hn : n < 256) (k : Nat) (h : RunBack s n k) : backC s ⟨#[UInt8.ofNat n]⟩ = s.extract 0 k :=
  back_by s ⟨#[UInt8.ofNat n]⟩ k h.1 (fun j hj hlt b hb => (one_contains n hn b).2 (hb ▸ h.2.1 j hj hlt)) (fun h0 b hb => by
    cases hc : ([UInt8.ofNat n] : List UInt8).contains b with
    | false => rfl
    | true => exact absurd (by rw [hb]; exact (one_contains n hn b).1 hc) (h.2.2 h0))
theorem gap_ex (s : ByteArray) : ∃ i, GapEnd s i := by
  have key : ∀ k i : Nat, k = s.size - i → i ≤ s.size → (∀ j : Nat, j < i → gapB (byteAt s j)) → ∃ i, GapEnd s i := by
    intro k
    induction k with
    | zero => exact fun i hk hi hj => ⟨i, hi, hj, fun h => by omega⟩
    | succ k ih =>
      intro i hk hi hj
      by_cases hg : gapB (byteAt s i)
      · exact ih (i + 1) (by omega) (by omega) fun j hj2 => by
          by_cases e : j = i
          · exact e ▸ hg
          · exact hj j (by omega)
      · exact ⟨i, hi, hj, fun _ => hg⟩
  exact key _ 0 rfl (Nat.zero_le _) fun j hj => absurd hj (Nat.not_lt_zero _)
theorem run_ex (s : ByteArray) (i : Nat) (c : Int) (hi : i ≤ s.size) : ∃ n, RunEnd s i c n := by
  have key : ∀ k n : Nat, k = s.size - (i + n) → i + n ≤ s.size → (∀ j : Nat, j < n → byteAt s (i + j : Nat) = c) → ∃ n, RunEnd s i c n := by
    intro k
    induction k with
    | zero => exact fun n hk hn hj => ⟨n, hn, hj, fun h => by omega⟩
    | succ k ih =>
      intro n hk hn hj
      by_cases hg : byteAt s (i + n : Nat) = c
      · exact ih (n + 1) (by omega) (by omega) fun j hj2 => by
          by_cases e : j = n
          · exact e ▸ hg
          · exact hj j (by omega)
      · exact ⟨n, hn, hj, fun _ => hg⟩
  exact key _ 0 rfl (by omega) fun j hj => absurd hj (Nat.not_lt_zero _)
end Go.Proofs.YtenolmhnmcjndaaGreatDoor.Ev
namespace Go.Proofs.YtenolmhnmcjndaaGreatDoor.Ev
open Go
set_option linter.unusedVariables false
set_option linter.unusedSimpArgs false
section
variable {P : Program} {prims : Prims} {ops : Array Oper} {o : Oper} {r : List Oper} {e e' : List Value} {H H0 H1 H2 : AH} {Q : List Value → AH → Prop} {l : List It}
theorem OWp.nilCheck {x : Operand} {p : Addr} (hg : guardA ops o e = some true) (ho : o.op = .nilCheck x) (hx : rho e x = .pointer (some p))
    (hk : OWp P prims ops r e' H Q) (he : putE e o.dst (.pointer (some p)) = e' := by simp only [putE, rho, List.set_cons_zero, List.set_cons_succ, List.getD_cons_zero, List.getD_cons_succ]; exact rfl) : OWp P prims ops (o :: r) e H Q :=
  OWp.step hg (fun call => by unfold evOp; simp only [ho, hx]) he hk
def ifaceD : TypeDesc → Bool
  | .interface _ => true
  | _ => false
theorem OWp.makeI {t : TypeId} {x : Operand} {v : Value} {d : TypeDesc} (hg : guardA ops o e = some true) (ho : o.op = .makeInterface t x) (ht : P.underlying t = some d) (hd : ifaceD d = false) (hx : rho e x = v) (hv : heldB v = true)
    (hk : OWp P prims ops r e' H Q) (he : putE e o.dst (.iface t v) = e' := by simp only [putE, rho, List.set_cons_zero, List.set_cons_succ, List.getD_cons_zero, List.getD_cons_succ]; exact rfl) : OWp P prims ops (o :: r) e H Q :=
  OWp.step hg (fun call => by unfold evOp; simp only [ho, ht, hx, hv, cond_true]; cases d <;> simp [ifaceD] at hd <;> rfl) he hk
theorem OWp.callV {c : Call} {f : FuncId} {x : Operand} {cap : Array Value} {args : List Value} (hg : guardA ops o e = some true) (ho : o.op = .call c) (hc : c.callee = .value x) (hx : rho e x = .func (.func f) #[] cap) (ha : c.args.toList.map (rho e) ++ cap.toList = args)
    (h : FWp P prims f args H fun v H1 => OWp P prims ops r (putE e o.dst v) H1 Q) : OWp P prims ops (o :: r) e H Q := by
  obtain ⟨n, v, H1, h1, n2, e2, H2, h2, h3⟩ := h
  subst ha
  refine ⟨max n n2, e2, H2, fun m hm => ?_, h3⟩
  have : evOp P (evFn P prims m) o (rho e) H = some (v, H1) := by
    unfold evOp
    simp only [ho, callA, hc, hx]
    have := h1 m (by omega)
    simpa using this
  simp only [evOps, hg, this, h2 m (by omega)]
theorem OWp.makeFn {f : FuncId} {cap : Array Operand} {cv : List Value} (hg : guardA ops o e = some true) (ho : o.op = .makeFunc (.func f) #[] cap) (hc : cap.toList.map (rho e) = cv) (hb : cv.all capB = true)
    (hk : OWp P prims ops r e' H Q) (he : putE e o.dst (.func (.func f) #[] cv.toArray) = e' := by simp only [putE, rho, List.set_cons_zero, List.set_cons_succ, List.getD_cons_zero, List.getD_cons_succ]; exact rfl) : OWp P prims ops (o :: r) e H Q := by
  refine OWp.step hg (fun call => ?_) he hk
  have hb2 : (cap.toList.all fun x => capB (rho e x)) = true := by
    subst hc
    rw [List.all_map] at hb
    exact hb
  have hc2 : cap.map (rho e) = cv.toArray := by rw [← hc]; apply Array.ext'; simp
  unfold evOp
  simp only [ho, hb2, hc2]
  rfl
theorem flat_len {α : Type} (f : α → List Value) (k : Nat) (hf : ∀ a, (f a).length = k) : ∀ ms : List α, (ms.flatMap f).length = ms.length * k
  | [] => by simp
  | a :: ms => by rw [List.flatMap_cons, List.length_append, hf, flat_len f k hf ms, List.length_cons, Nat.succ_mul]; omega
theorem flat_take {α : Type} (f : α → List Value) (k : Nat) (hf : ∀ a, (f a).length = k) : ∀ (ms : List α) (i : Nat) (m : α), ms[i]? = some m → ((ms.flatMap f).drop (i * k)).take k = f m
  | [], i, m, h => by simp at h
  | a :: ms, 0, m, h => by
    simp only [List.getElem?_cons_zero, Option.some.injEq] at h
    subst h
    rw [List.flatMap_cons, Nat.zero_mul, List.drop_zero, List.take_append_of_le_length (by rw [hf]; omega), List.take_of_length_le (by rw [hf]; omega)]
  | a :: ms, i + 1, m, h => by
    rw [List.flatMap_cons, show (i + 1) * k = (f a).length + i * k by rw [hf, Nat.succ_mul]; omega, List.drop_append, List.drop_of_length_le (by omega), List.nil_append, Nat.add_sub_cancel_left]
    exact flat_take f k hf ms i m (by simpa using h)
theorem flat_get {α : Type} (f : α → List Value) (k : Nat) (hf : ∀ a, (f a).length = k) (ms : List α) (i : Nat) (m : α) (c : Nat) (h : ms[i]? = some m) (hc : c < k) : (ms.flatMap f)[i * k + c]? = (f m)[c]? := by
  have := flat_take f k hf ms i m h
  rw [← this, List.getElem?_take, if_pos hc, List.getElem?_drop]
/-- A field's place, in a struct of a row. -/
theorem OWp.fieldRow {s : TypeId} {x : Operand} {p : Addr} {f n m : Nat} {fields : Array Field} {fl : Field} (hp : p.spot = none) (hg : guardA ops o e = some true) (ho : o.op = .fieldAddr s x f) (ht : P.underlying s = some (.struct fields)) (hf : fields[f]? = some fl) (hs0 : szT P fl.type ≠ 0)
    (hx : rho e x = .pointer (some (p.add n))) (hm : n + fl.offset = m) (hk : OWp P prims ops r e' H Q) (he : putE e o.dst (.pointer (some (p.add m))) = e' := by simp only [putE, rho, List.set_cons_zero, List.set_cons_succ, List.getD_cons_zero, List.getD_cons_succ]; exact rfl) : OWp P prims ops (o :: r) e H Q := by
  refine OWp.step hg (fun call => ?_) he hk
  have hs : Nat.beq (szT P fl.type) 0 = false := Bool.eq_false_iff.2 fun h => hs0 (Nat.eq_of_beq_eq_true h)
  have ha : (p.add n).add fl.offset = p.add m := by
    subst hm
    rw [add_none hp n, add_none hp (n + fl.offset), add_none rfl]
    simp only [Nat.add_assoc]
  unfold evOp
  simp only [ho, hx, fieldAddrA, ht, hf, hs, cond_false, ha, Option.map_some]
/-- A row that was not touched. -/
theorem still_row {p : Addr} {n : Nat} {l : List Value} (h : Row H (some p) l) : stillB H H (.pointer (some (p.add n))) = true := by
  obtain ⟨h0, C, e, f, h1, h2, h3⟩ := h
  rw [add_none h0 n]
  unfold AH.cells at h1
  split at h1
  case h_2 => cases h1
  rename_i b hb
  simp only [stillB, hb]
  split at h1
  · rename_i hl _
    rw [Bool.and_eq_true]
    exact ⟨by simp, hl⟩
  · cases h1
theorem still_rowK {p : Addr} {n : Nat} {l : List Value} (hw : WfH H) (k : Keeps H H1) (h : Row H (some p) l) : stillB H H1 (.pointer (some (p.add n))) = true := by
  obtain ⟨h0, C, e, f, h1, h2, h3⟩ := h
  rw [add_none h0 n]
  unfold AH.cells at h1
  split at h1
  case h_2 => cases h1
  rename_i b hb
  have h4 := k.blk _ (hw.lt _ b hb).1
  have h5 := k.grp _ b hb
  rw [hb] at h4
  simp only [stillB, hb, h4]
  split at h1
  · rename_i hl _
    rw [Bool.and_eq_true]
    refine ⟨by simp, ?_⟩
    unfold AH.live at hl ⊢
    rw [h5]
    exact hl
  · cases h1
/-- A struct of a row of such. -/
theorem OWp.loadRowS {α : Type} {f : α → List Value} {ms : List α} {m : α} {t : TypeId} {x : Operand} {p : Addr} {i k : Nat} {fs : Array Field} {v : Value} (hf : ∀ a, (f a).length = k) (hg : guardA ops o e = some true) (ho : o.op = .load t x) (ht : P.underlying t = some (.struct fs)) (hx : rho e x = .pointer (some (p.add (i * k)))) (hr : Row H (some p) (ms.flatMap f)) (hk1 : szT P t = k) (hm : ms[i]? = some m) (hv : Value.agg (f m).toArray = v)
    (hk : OWp P prims ops r e' H Q) (he : putE e o.dst v = e' := by simp only [putE, rho, List.set_cons_zero, List.set_cons_succ, List.getD_cons_zero, List.getD_cons_succ]; exact rfl) : OWp P prims ops (o :: r) e H Q := by
  have hlt := (List.getElem?_eq_some_iff.1 hm).1
  refine OWp.loadAgg hg ho ht hx hr hk1 ?_ hk ?_
  · rw [flat_len f k hf, ← Nat.succ_mul]
    exact Nat.mul_le_mul_right k hlt
  · rw [flat_take f k hf ms i m hm, hv, he]
/-- A load of one cell of a block that may be looked at. -/
theorem OWp.loadCell {t t' : TypeId} {x : Operand} {i off : Nat} {C : Array Value} {v : Value} {d : TypeDesc} {fr : Nat × Nat} (hc : H.cells i = some (C, t', fr)) (hg : guardA ops o e = some true) (ho : o.op = .load t x) (hx : rho e x = .pointer (some ⟨i, off, none⟩)) (ht : P.underlying t = some d) (hd : isAggD d = false)
    (hv : C[off]? = some v) (hk : OWp P prims ops r e' H Q) (he : putE e o.dst v = e' := by simp only [putE, rho, List.set_cons_zero, List.set_cons_succ, List.getD_cons_zero, List.getD_cons_succ]; exact rfl) : OWp P prims ops (o :: r) e H Q := by
  refine OWp.step hg (fun call => ?_) he hk
  have : loadA P H t ⟨i, off, none⟩ = some v := by
    unfold loadA
    simp only [hc, ht]
    cases d <;> simp [isAggD] at hd <;> simp only [hv]
  unfold evOp
  simp only [ho, hx, this, Option.map_some]
/-- Blocks of one's own above a heap that has blocks of one's own. -/
theorem Has.join {l2 : List It} (h1 : Has H0 H l) (h2 : Has H H1 l2) : Has H0 H1 (l2 ++ l) := by
  have h3 := h1.after h2.keep
  refine ⟨h1.wf0, h3.keep, fun x hx => ?_, fun x hx r e => ?_, ?_⟩
  · rcases List.mem_append.1 hx with hx | hx
    · exact h2.own x hx
    · exact h3.own x hx
  · rcases List.mem_append.1 hx with hx | hx
    · exact Nat.le_trans h1.keep.next (h2.lo x hx r e)
    · exact h3.lo x hx r e
  · rw [List.filterMap_append, List.nodup_append]
    refine ⟨h2.nod, h1.nod, fun a ha b hb e => ?_⟩
    obtain ⟨x, hx, e1⟩ := List.mem_filterMap.1 ha
    obtain ⟨y, hy, e2⟩ := List.mem_filterMap.1 hb
    have := h2.lo x hx a e1
    have := (h1.own y hy).lt h1.wf b e2
    omega
theorem Has.cells {k i : Nat} {C : Array Value} {t : TypeId} (hh : Has H0 H l) (hk : l[k]? = some (.c (i, .cells C t (0, 0)))) : H.cells i = some (C, t, (0, 0)) := (hh.get hk).2.cells
def bytesV (l : List UInt8) : List Value := l.map fun b => .int .u8 (b.toNat : Nat)
theorem bytesOf_V : ∀ l : List UInt8, bytesOfCells (bytesV l) = some l
  | [] => rfl
  | b :: l => by
    have := bytesOf_V l
    simp only [bytesV, List.map_cons, bytesOfCells] at this ⊢
    rw [this]
    simp
theorem OWp.convBS {src dst te : TypeId} {x : Operand} {p : Option Addr} {n cap : Nat} {l : List UInt8} (hg : guardA ops o e = some true) (ho : o.op = .convert src dst x) (hs : P.underlying src = some (.slice te)) (ht : P.underlying te = some (.int .u8)) (hd : P.underlying dst = some .string)
    (hx : rho e x = .slice p n cap) (hr : Row H p (bytesV l)) (hn : (bytesV l).length = n)
    (hk : OWp P prims ops r e' H Q) (he : putE e o.dst (.string ⟨l.toArray⟩) = e' := by simp only [putE, rho, List.set_cons_zero, List.set_cons_succ, List.getD_cons_zero, List.getD_cons_succ]; exact rfl) : OWp P prims ops (o :: r) e H Q := by
  refine OWp.step hg (fun call => ?_) he hk
  subst hn
  unfold evOp
  simp only [ho, hx, convertA, hs, hd, ht, hr.rowA, bytesOf_V]
/-- Slices of structs of k cells. -/
theorem OWp.indexAddrK {t te : TypeId} {x y : Operand} {p : Addr} {n cap k0 : Nat} {k : IntKind} {i : Int} (hg : guardA ops o e = some true) (ho : o.op = .indexAddr t x y) (ht : P.underlying t = some (.slice te)) (hs1 : szT P te = k0) (hk0 : k0 ≠ 0) (hx : rho e x = .slice (some p) n cap) (hy : rho e y = .int k i)
    (h0 : 0 ≤ i) (h1 : i < n) (hk : OWp P prims ops r e' H Q) (he : putE e o.dst (.pointer (some (p.add (i.toNat * k0)))) = e' := by simp only [putE, rho, List.set_cons_zero, List.set_cons_succ, List.getD_cons_zero, List.getD_cons_succ]; exact rfl) : OWp P prims ops (o :: r) e H Q :=
  OWp.indexAddrSl hg ho ht hx hy (by rw [hs1]; exact hk0) h0 h1 hk (by rw [hs1]; exact he)
/-- All but one block of one's own is as it was. -/
def KX (x : Nat) (H H1 : AH) : Prop := (∀ c b, c ≠ x → H.blk c = some b → H1.blk c = some b) ∧ (∀ c b, c ≠ x → H.blk c = some b → b.root ≠ x → H1.grp b.root = H.grp b.root)
theorem KX.refl (x : Nat) (H : AH) : KX x H H := ⟨fun _ _ _ h => h, fun _ _ _ _ _ => rfl⟩
theorem KX.reflH (x : Nat) {l : List It} (hh : Has H0 H l) : KX x H H := KX.refl x H
theorem KX.keeps {x : Nat} (h : KX x H H1) (hw : WfH H1) (k : Keeps H1 H2) : KX x H H2 :=
  ⟨fun c b hc hb => (k.blk c (hw.lt c b (h.1 c b hc hb)).1).trans (h.1 c b hc hb), fun c b hc hb hr => (k.grp c b (h.1 c b hc hb)).trans (h.2 c b hc hb hr)⟩
theorem KX.put {x v : Nat} {ob ob' : Obj} (h : KX x H0 H) (hb : H.blk x = some ⟨ob, x, true, v⟩) : KX x H0 (H.put x ⟨ob, x, true, v⟩ ob') :=
  ⟨fun c b hc hcb => by rw [blk_put, if_neg hc]; exact h.1 c b hc hcb, fun c b hc hcb hr => by rw [grp_put, if_neg (by show ¬ b.root = x; exact hr)]; exact h.2 c b hc hcb hr⟩
theorem OWp.storeBX {t t' : TypeId} {x y : Operand} {k i off n : Nat} {C C' : Array Value} {v : Value} (hh : Has H0 H l) (hk0 : l[k]? = some (.c (i, .cells C t' (0, 0)))) (hg : guardA ops o e = some true) (ho : o.op = .store t x y) (hx : rho e x = .pointer (some ⟨i, off, none⟩)) (hy : rho e y = v)
    (hn : szT P t = n) (hn0 : n ≠ 0) (hvn : v.cells.size = n) (hs : off + n ≤ C.size) (hc : v.cells.toList.all isCell = true) (hC : writeCells C off v.cells.toList = C')
    (hk : ∀ H1, Has H0 H1 (l.set k (.c (i, .cells C' t' (0, 0)))) → (∀ Hs, KX i Hs H → KX i Hs H1) → OWp P prims ops r (putE e o.dst undef) H1 Q) : OWp P prims ops (o :: r) e H Q := by
  obtain ⟨h1, ver, h2, h3⟩ := hh.get hk0
  obtain ⟨info, hi⟩ := sz_info (P := P) (e := t) (by omega)
  have hsz : info.size = n := by unfold szT at hn; rw [hi] at hn; exact hn
  refine OWp.step hg (fun call => ?_) rfl (hk _ (hh.put (ob' := .cells C' t' (0, 0)) hk0 h2 h3 ⟨rfl, rfl⟩) (fun Hs hs => hs.put h2))
  have hl : H.live i ⟨.cells C t' (0, 0), i, true, ver⟩ = true := live_iff.2 (by rw [h3]; exact Nat.le_refl _)
  have htp : H.tip i ⟨.cells C t' (0, 0), i, true, ver⟩ = true := tip_iff.2 (by rw [h3])
  have hst : storeA P H t ⟨i, off, none⟩ v = some (H.put i ⟨.cells C t' (0, 0), i, true, ver⟩ (.cells C' t' (0, 0))) := by
    unfold storeA
    simp only [h2, hl, htp, hi, Option.map_some, hsz, hvn, hc, hC, Bool.true_and, Bool.and_true]
    rw [if_pos]
    simp
    exact hs
  unfold evOp
  simp only [ho, hx, hy, hst, Option.map_some]
theorem still_hasX {k k2 i x off : Nat} {ob ob2 : Obj} (hh : Has H0 H l) (hk0 : l[k]? = some (.c (i, ob))) (hk2 : l[k2]? = some (.c (x, ob2))) (hne : k ≠ k2) (hK : KX x H H1) : stillB H H1 (.pointer (some ⟨i, off, none⟩)) = true := by
  obtain ⟨h1, ver, h2, h3⟩ := hh.get hk0
  have hix : i ≠ x := fun e => hne (nod_at l k k2 _ _ i hh.nod hk0 hk2 rfl (by rw [e]; rfl))
  have h4 := hK.1 i _ hix h2
  have h5 := hK.2 i _ hix h2 hix
  simp only [stillB, h2, h4]
  rw [Bool.and_eq_true]
  exact ⟨by simp, live_iff.2 (by rw [h5]; show (H.grp i).2 ≤ i; rw [h3]; exact Nat.le_refl _)⟩
theorem bytesV_snoc (l : List UInt8) (b : UInt8) : bytesV (l ++ [b]) = bytesV l ++ [.int .u8 (b.toNat : Nat)] := by simp [bytesV]
theorem bytesV_length (l : List UInt8) : (bytesV l).length = l.length := by simp [bytesV]
end
theorem byteOne (s : ByteArray) (i : Nat) (h : i < s.size) : ∃ b : UInt8, byteAt s (i : Nat) = ((b.toNat : Nat) : Int) ∧ s.extract i (i + 1) = ⟨#[b]⟩ := by
  obtain ⟨b, h1, h2⟩ := byteAt_some s i h
  refine ⟨b, h2, ByteArray.ext ?_⟩
  apply Array.ext'
  have hlt : i < s.data.size := h
  rw [Array.getElem?_toList, Array.getElem?_eq_getElem hlt] at h1
  have e := Option.some.inj h1
  apply List.ext_getElem?
  intro j
  cases j with
  | zero => simp [Array.getElem?_eq_getElem hlt, e]
  | succ j => simp; omega
theorem app_one (l : List UInt8) (b : UInt8) : (⟨l.toArray⟩ : ByteArray) ++ ⟨#[b]⟩ = ⟨(l ++ [b]).toArray⟩ := by
  apply ByteArray.ext
  simp [ByteArray.data_append]
end Go.Proofs.YtenolmhnmcjndaaGreatDoor.Ev
