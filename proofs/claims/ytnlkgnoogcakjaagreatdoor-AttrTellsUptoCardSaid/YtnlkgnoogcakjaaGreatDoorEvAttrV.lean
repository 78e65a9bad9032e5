/-
  An attribute line's struct that comes in, opened.
-/
import Derived.Test.YtnlkgnoogcakjaaGreatDoorEvPost
import Derived.Test.YtnlkgnoogcakjaaGreatDoorEvStrA
import Derived.Lib.SmallJoins
namespace Go.Proofs.YtnlkgnoogcakjaaGreatDoor.Ev
set_option linter.unusedVariables false
set_option linter.unusedSimpArgs false
open Go Go.RowKit Go.ChangeShapes Go.WideShapes Go.Lib
set_option maxRecDepth 100000
section
variable {K : Type} {enc : TypeId × Value → K} {W : World}
theorem array6 {α : Type} {cs : Array α} (h : cs.size = 6) : ∃ c0 c1 c2 c3 c4 c5, cs = #[c0, c1, c2, c3, c4, c5] := by
  obtain ⟨l⟩ := cs
  match l, h with
  | [c0, c1, c2, c3, c4, c5], _ => exact ⟨c0, c1, c2, c3, c4, c5, rfl⟩
theorem trod_struct6 {P : Program} {w : World} {base : Nat} {spare : Nat → Bool} {held : Bool} {t : TypeId} {f0 f1 f2 f3 f4 f5 : Field} {fuel : Nat} {cs : List Value} {x : DataW K × List MemPlace} (ht : P.underlying t = some (.struct #[f0, f1, f2, f3, f4, f5])) (h : DataW.trod enc P w base spare held fuel t cs = some x) :
    ∃ y0 y1 y2 y3 y4 y5 n, x = (.agg [y0.1, y1.1, y2.1, y3.1, y4.1, y5.1], y0.2 ++ (y1.2 ++ (y2.2 ++ (y3.2 ++ (y4.2 ++ y5.2))))) ∧ DataW.trod enc P w base spare held n f0.type ((cs.drop f0.offset).take (P.cellsOf f0.type)) = some y0 ∧
      DataW.trod enc P w base spare held n f1.type ((cs.drop f1.offset).take (P.cellsOf f1.type)) = some y1 ∧ DataW.trod enc P w base spare held n f2.type ((cs.drop f2.offset).take (P.cellsOf f2.type)) = some y2 ∧
      DataW.trod enc P w base spare held n f3.type ((cs.drop f3.offset).take (P.cellsOf f3.type)) = some y3 ∧ DataW.trod enc P w base spare held n f4.type ((cs.drop f4.offset).take (P.cellsOf f4.type)) = some y4 ∧
      DataW.trod enc P w base spare held n f5.type ((cs.drop f5.offset).take (P.cellsOf f5.type)) = some y5 := by
  obtain ⟨xs, n, _, rfl, hl, hlen, hf⟩ := DataW.trod_struct ht h
  match xs, hlen with
  | [y0, y1, y2, y3, y4, y5], _ => exact ⟨y0, y1, y2, y3, y4, y5, n, by simp, by simpa using hf 0 f0 rfl, by simpa using hf 1 f1 rfl, by simpa using hf 2 f2 rfl, by simpa using hf 3 f3 rfl, by simpa using hf 4 f4 rfl, by simpa using hf 5 f5 rfl⟩
theorem cellsB4 : Tryz.prog.cellsOf 4 = 1 := by kernel_rfl
theorem cellsS9 : Tryz.prog.cellsOf 9 = 1 := by kernel_rfl
theorem cellsAt : Tryz.prog.cellsOf 27 = 6 := by kernel_rfl
/-- An attribute line that came in. -/
theorem open_at {r : Reach} {b0 : Nat} {base : Nat} {sp : Nat → Bool} {held : Bool} {v : Value} {d : DataW K} {p : List MemPlace} (hv : Value.okWide Tryz.prog W r b0 27 v) (h : DataW.Trod enc Tryz.prog W base sp held 27 v d p) :
    ∃ m : At, v = m.v ∧ d = .agg [.lit (.string m.lang.data.toList), .lit (.string m.name.data.toList), .lit (.string m.file.data.toList), .lit (.string m.sty.data.toList), .lit (.bool m.app), .lit (.bool m.nol)] ∧ p = [] := by
  obtain ⟨cs, rfl, hsz⟩ := okWide_struct Tryz.underlying27 hv
  obtain ⟨c0, c1, c2, c3, c4, c5, rfl⟩ := array6 (hsz.trans cellsAt)
  obtain ⟨fuel, hf⟩ := h
  obtain ⟨y0, y1, y2, y3, y4, y5, n, hx, h0, h1, h2, h3, h4, h5⟩ := trod_struct6 Tryz.underlying27 hf
  simp only [Prod.mk.injEq] at hx
  simp only [Value.cells, cellsB4, cellsS9, List.drop_zero, List.drop_succ_cons, List.take_succ_cons, List.take_zero] at h0 h1 h2 h3 h4 h5
  obtain ⟨s0, e0, r0, _⟩ := DataW.trod_string Tryz.underlying9 h0
  obtain ⟨s1, e1, r1, _⟩ := DataW.trod_string Tryz.underlying9 h1
  obtain ⟨s2, e2, r2, _⟩ := DataW.trod_string Tryz.underlying9 h2
  obtain ⟨s3, e3, r3, _⟩ := DataW.trod_string Tryz.underlying9 h3
  obtain ⟨b4, e4, r4⟩ := DataW.trod_bool Tryz.underlying4 h4
  obtain ⟨b5, e5, r5⟩ := DataW.trod_bool Tryz.underlying4 h5
  cases e0; cases e1; cases e2; cases e3; cases e4; cases e5
  subst r0 r1 r2 r3 r4 r5
  exact ⟨⟨s0, s1, s2, s3, b4, b5⟩, rfl, hx.1, hx.2⟩
end
end Go.Proofs.YtnlkgnoogcakjaaGreatDoor.Ev
