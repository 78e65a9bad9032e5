/-
  append, and what it leaves as it was: blocks of one's own.
-/
import Derived.Test.YtnlkgnoogcakjaaGreatDoorEvBox
namespace Go.Proofs.YtnlkgnoogcakjaaGreatDoor.Ev
open Go
set_option linter.unusedVariables false
set_option linter.unusedSimpArgs false
section
variable {P : Program} {prims : Prims} {ops : Array Oper} {o : Oper} {r : List Oper} {e e' : List Value} {H H0 H1 H2 : AH} {Q : List Value → AH → Prop} {l : List (Nat × Obj)}
/-- Blocks of one's own are as they were. -/
def OwnS (H H1 : AH) : Prop := ∀ d ob, Own H d ob true → H1.blk d = H.blk d ∧ H1.grp d = H.grp d
theorem OwnS.refl : OwnS H H := fun _ _ _ => ⟨rfl, rfl⟩
theorem OwnS.of_keeps (hw : WfH H) (k : Keeps H H1) : OwnS H H1 := fun d ob hd => by
  have hlt := hd.lt hw
  obtain ⟨v, h1, h2⟩ := hd
  exact ⟨k.blk d hlt, k.grp d _ h1⟩
theorem OwnS.trans (h : OwnS H H1) (k : OwnS H1 H2) : OwnS H H2 := fun d ob hd => by
  have a := h d ob hd
  obtain ⟨v, h1, h2⟩ := hd
  have b := k d ob ⟨v, a.1.trans h1, a.2.trans h2⟩
  exact ⟨b.1.trans a.1, b.2.trans a.2⟩
theorem still_ownS {k i off : Nat} {ob : Obj} (hh : Has H0 H l) (hk0 : l[k]? = some (i, ob)) (hS : OwnS H H1) : stillB H H1 (.pointer (some ⟨i, off, none⟩)) = true := by
  have ho := (hh.get hk0).2
  obtain ⟨h4, h5⟩ := hS _ _ ho
  obtain ⟨ver, h2, h3⟩ := ho
  rw [h2] at h4
  simp only [stillB, h2, h4]
  rw [Bool.and_eq_true]
  exact ⟨by simp, live_iff.2 (by rw [h5]; show (H.grp i).2 ≤ i; rw [h3]; exact Nat.le_refl _)⟩
theorem Has.grown {B : Nat} (h : Has H0 H l) (k : Grown B H H1) (hb : H0.next ≤ B) : Has H0 H1 l :=
  ⟨h.wf0, k.keeps _ h.wf0 h.keep hb, fun x hx => ⟨(h.own x hx).1, k.own _ _ (h.own x hx).2⟩, h.nod⟩
theorem Has.pushB {i : Nat} {ob : Obj} (h : Has H0 H l) (k : Keeps H H1) (hi : H.next ≤ i) (ho : Own H1 i ob true) : Has H0 H1 ((i, ob) :: l) := by
  refine ⟨h.wf0, h.keep.trans k h.wf0, fun x hx => ?_, ?_⟩
  · rcases List.mem_cons.1 hx with rfl | hx
    · exact ⟨Nat.le_trans h.keep.next hi, ho⟩
    · exact ⟨(h.own x hx).1, (h.own x hx).2.keep h.wf k⟩
  · simp only [List.map_cons, List.nodup_cons]
    refine ⟨fun hm => ?_, h.nod⟩
    obtain ⟨x, hx, e⟩ := List.mem_map.1 hm
    have := (h.own x hx).2.lt h.wf
    omega
end
section
variable {P : Program} {H : AH}
theorem append_growS {sT xT t xe : TypeId} {v z : Value} {p : Option Addr} {m cap B : Nat} {l l2 : List Value} (hw : WfH H) (hB : B ≤ H.next) (hE : elemT P sT = some t) (hX : P.underlying xT = some (.slice xe)) (hz : zeroT P t = some z) (hz1 : z.cells.size = 1) (hs1 : szT P t = 1) (hb : 0 < bytesT P t)
    (hv : Grow B H v t l) (hr : Row H p l2) (hm : l2.length = m) (h0 : l2 ≠ []) (hlim : (l.length + m) * bytesT P t ≤ 140737488355328) :
    ∃ H1 v1, appendA P H sT (some xT) v (.slice p m cap) = some (v1, H1) ∧ Grown B H H1 ∧ Grow B H1 v1 t (l ++ l2) ∧ OwnS H H1 := by
  subst hm
  have hm0 : 0 < l2.length := List.length_pos_iff.2 h0
  have hlim2 : l.length + l2.length ≤ 140737488355328 := Nat.le_trans (Nat.le_mul_of_pos_right _ hb) hlim
  have htail : tailA P H t (.slice p l2.length cap) = some (l2.length, l2) := by simp only [tailA, hs1, Nat.mul_one, hr.rowA]
  have hcond : (l.length + l2.length) * bytesT P t ≤ 140737488355328 ∧ l.length + l2.length ≤ 140737488355328 ∧ 0 < bytesT P t ∧ 0 < szT P t ∧ z.cells.size = szT P t := ⟨hlim, hlim2, hb, by omega, by omega⟩
  have hxd : (some xT).bind P.underlying = some (.slice xe) := hX
  rcases hv with ⟨rfl, rfl⟩ | ⟨c, root, ver, f, g0, g1, rfl, g2, hblk, hgrp⟩
  · have hcond' : (0 + l2.length) * bytesT P t ≤ 140737488355328 ∧ 0 + l2.length ≤ 140737488355328 ∧ 0 < bytesT P t ∧ 0 < szT P t ∧ z.cells.size = szT P t := hcond
    have sh : shapeSame (.cells l2.toArray t (0, 0)) (.cells l2.toArray t (0, 0)) := ⟨rfl, rfl⟩
    refine ⟨H.alloc (.cells l2.toArray t) false, .slice (some ⟨H.next, 0, none⟩) (0 + l2.length) (0 + l2.length), ?_, Grown.of_keeps hw (Keeps.alloc hw sh), .inr ⟨H.next, H.next, H.clock, (0, 0), hB, Nat.le_refl _, by simp, by simpa using h0, ?_, ?_⟩, OwnS.of_keeps hw (Keeps.alloc hw sh)⟩
    · unfold appendA
      simp only [hE, hxd, notInt, htail, hz]
      rw [if_neg (by omega), if_pos hcond']
      simp
    · rw [blk_alloc_new]; simp
    · rw [grp_alloc]; exact hw.fresh _ (Nat.le_refl _)
  · have hwb := hw.lt c _ hblk
    have hlive : H.live c ⟨.cells l.toArray t f, root, false, ver⟩ = true := live_iff.2 (by rw [hgrp]; exact g1)
    have htip : H.tip c ⟨.cells l.toArray t f, root, false, ver⟩ = true := tip_iff.2 (by rw [hgrp])
    have hcells : H.cells c = some (l.toArray, t, f) := by unfold AH.cells; simp only [hblk, hlive]
    have hrow : rowA H (some ⟨c, 0, none⟩) (l.length * szT P t) = some l := by
      rw [hs1, Nat.mul_one]
      exact Row.rowA (p := some ⟨c, 0, none⟩) ⟨rfl, l.toArray, t, f, hcells, by simp, by simp⟩
    obtain ⟨lo, hi⟩ := f
    have sh : ∀ fr, shapeSame (.cells (l ++ l2).toArray t fr) (.cells (l ++ l2).toArray t fr) := fun _ => ⟨rfl, rfl⟩
    have hwf1 : WfH (H.copyOf (.cells (l ++ l2).toArray t (lo - 0, hi - 0)) root) := hw.copyOf hblk rfl (sh _)
    refine ⟨H.copyOf (.cells (l ++ l2).toArray t (lo - 0, hi - 0)) root, .slice (some ⟨H.next, 0, none⟩) (l.length + l2.length) (l.length + l2.length), ?_, ⟨hwf1, fun H0 w0 k hb0 => ⟨hwf1, ?_, fun d hd => ?_, fun d b hd => ?_⟩, fun d ob hd => ?_, fun d x hx => ?_⟩, .inr ⟨H.next, root, H.clock, (lo - 0, hi - 0), g0, by omega, by simp, by simp [g2], blk_copyOf_new, ?_⟩, fun d ob hd => ?_⟩
    · unfold appendA
      simp only [hE, hxd, notInt, htail, hz]
      rw [if_neg (by omega), if_pos hcond]
      simp only [hblk, hrow]
      rw [if_neg (by simp), if_neg (by simp [hs1]), if_pos ⟨by simp [hs1], by first | rfl | trivial, htip⟩]
    · rw [next_copyOf]; have := k.next; omega
    · rw [blk_copyOf, if_neg (by have := k.next; omega)]; exact k.blk d hd
    · have := w0.lt d b hd
      rw [grp_copyOf, if_neg (by omega)]; exact k.grp d b hd
    · obtain ⟨v2, d1, d2⟩ := hd
      have hdr : d ≠ root := by
        rintro rfl
        rw [hgrp] at d2
        obtain rfl : c = d := congrArg Prod.fst d2
        rw [hblk] at d1
        cases d1
      have hdl := (hw.lt _ _ d1).1
      exact ⟨v2, by rw [blk_copyOf, if_neg (by omega)]; exact d1, by rw [grp_copyOf, if_neg hdr]; exact d2⟩
    · unfold AH.cells at *
      split at hx
      case h_2 => cases hx
      rename_i b hbd
      rw [blk_copyOf, if_neg (by have := (hw.lt _ _ hbd).1; omega), hbd]
      have hl : (H.copyOf (.cells (l ++ l2).toArray t (lo - 0, hi - 0)) root).live d b = H.live d b := by
        simp only [AH.live, grp_copyOf]
        split
        · rename_i e1; rw [e1]
        · rfl
      simp only [hl]
      exact hx
    · rw [grp_copyOf, if_pos rfl, hgrp]
    · obtain ⟨v2, d1, d2⟩ := hd
      have hdr : d ≠ root := by
        rintro rfl
        rw [hgrp] at d2
        obtain rfl : c = d := congrArg Prod.fst d2
        rw [hblk] at d1
        cases d1
      have hdl := (hw.lt _ _ d1).1
      exact ⟨by rw [blk_copyOf, if_neg (by omega)], by rw [grp_copyOf, if_neg hdr]⟩
end
section
variable {P : Program} {prims : Prims} {ops : Array Oper} {o : Oper} {r : List Oper} {e e' : List Value} {H H0 H1 H2 : AH} {Q : List Value → AH → Prop} {l : List (Nat × Obj)}
theorem OWp.appendS {ca : Call} {x y : Operand} {sT xT t xe : TypeId} {v z : Value} {p : Option Addr} {m cap B : Nat} {l l2 : List Value} (hw : WfH H) (hB : B ≤ H.next) (hv : Grow B H v t l) (hr : Row H p l2) (hm : l2.length = m) (h0 : l2 ≠ [])
    (hg : guardA ops o e = some true) (ho : o.op = .call ca) (hc : ca.callee = .builtin .append) (ha : ca.args = #[x, y]) (hat : ca.argTypes = #[sT, xT])
    (hE : elemT P sT = some t) (hX : P.underlying xT = some (.slice xe)) (hz : zeroT P t = some z) (hz1 : z.cells.size = 1) (hs1 : szT P t = 1) (hb : 0 < bytesT P t)
    (hx : rho e x = v) (hy : rho e y = .slice p m cap) (hlim : (l.length + m) * bytesT P t ≤ 140737488355328)
    (hk : ∀ H1 v1, Grown B H H1 → OwnS H H1 → Grow B H1 v1 t (l ++ l2) → OWp P prims ops r (putE e o.dst v1) H1 Q) : OWp P prims ops (o :: r) e H Q := by
  obtain ⟨H1, v1, h1, h2, h3, h4⟩ := append_growS (cap := cap) hw hB hE hX hz hz1 hs1 hb hv hr hm h0 hlim
  exact OWp.step hg (fun call => by unfold evOp; simp only [ho, callA, hc, ha, hat, List.map_cons, List.map_nil, hx, hy]; exact h1) rfl (hk H1 v1 h2 h4 h3)

end
end Go.Proofs.YtnlkgnoogcakjaaGreatDoor.Ev
