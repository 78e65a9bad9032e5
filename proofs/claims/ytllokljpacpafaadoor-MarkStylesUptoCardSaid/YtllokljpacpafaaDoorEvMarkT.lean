/-
  What a card of chapter 17 needs: a mark that comes in, opened; that the rows' laid variables are what the evaluator takes for granted.
-/
import Derived.Test.YtllokljpacpafaaDoorEvPost
import Derived.Test.YtllokljpacpafaaDoorEvMarkW
import Derived.Lib.SmallJoins
import Derived.Lib.LaidU8T
namespace Go.Proofs.YtllokljpacpafaaDoor.Ev
open Go Go.RowKit Go.ChangeShapes Go.WideShapes Go.Lib
set_option maxRecDepth 100000
section
variable {K : Type} {enc : TypeId × Value → K} {W : World}

theorem array5 {α : Type} {cs : Array α} (h : cs.size = 5) : ∃ c0 c1 c2 c3 c4, cs = #[c0, c1, c2, c3, c4] := by
  obtain ⟨l⟩ := cs
  match l, h with
  | [c0, c1, c2, c3, c4], _ => exact ⟨c0, c1, c2, c3, c4, rfl⟩
theorem trod_struct5 {P : Program} {w : World} {base : Nat} {spare : Nat → Bool} {held : Bool} {t : TypeId} {f0 f1 f2 f3 f4 : Field} {fuel : Nat} {cs : List Value} {x : DataW K × List MemPlace} (ht : P.underlying t = some (.struct #[f0, f1, f2, f3, f4])) (h : DataW.trod enc P w base spare held fuel t cs = some x) :
    ∃ y0 y1 y2 y3 y4 n, x = (.agg [y0.1, y1.1, y2.1, y3.1, y4.1], y0.2 ++ (y1.2 ++ (y2.2 ++ (y3.2 ++ y4.2)))) ∧ DataW.trod enc P w base spare held n f0.type ((cs.drop f0.offset).take (P.cellsOf f0.type)) = some y0 ∧
      DataW.trod enc P w base spare held n f1.type ((cs.drop f1.offset).take (P.cellsOf f1.type)) = some y1 ∧ DataW.trod enc P w base spare held n f2.type ((cs.drop f2.offset).take (P.cellsOf f2.type)) = some y2 ∧
      DataW.trod enc P w base spare held n f3.type ((cs.drop f3.offset).take (P.cellsOf f3.type)) = some y3 ∧ DataW.trod enc P w base spare held n f4.type ((cs.drop f4.offset).take (P.cellsOf f4.type)) = some y4 := by
  obtain ⟨xs, n, _, rfl, hl, hlen, hf⟩ := DataW.trod_struct ht h
  match xs, hlen with
  | [y0, y1, y2, y3, y4], _ => exact ⟨y0, y1, y2, y3, y4, n, by simp, by simpa using hf 0 f0 rfl, by simpa using hf 1 f1 rfl, by simpa using hf 2 f2 rfl, by simpa using hf 3 f3 rfl, by simpa using hf 4 f4 rfl⟩

theorem cells3 : Tryd.prog.cellsOf 3 = 1 := by kernel_rfl
theorem cells9 : Tryd.prog.cellsOf 9 = 1 := by kernel_rfl
theorem cells27 : Tryd.prog.cellsOf 27 = 5 := by kernel_rfl

/-- A mark that came in. -/
theorem open_mk {r : Reach} {b0 : Nat} {base : Nat} {sp : Nat → Bool} {held : Bool} {v : Value} {d : DataW K} {p : List MemPlace} (hv : Value.okWide Tryd.prog W r b0 27 v) (h : DataW.Trod enc Tryd.prog W base sp held 27 v d p) :
    ∃ m : Mk, v = m.v ∧ d = .agg [.lit (.int .i64 m.kind), .lit (.string m.ind.data.toList), .lit (.string m.sty.data.toList), .lit (.string m.nam.data.toList), .lit (.int .i64 m.num)] ∧ p = [] := by
  obtain ⟨cs, rfl, hsz⟩ := okWide_struct Tryd.underlying27 hv
  obtain ⟨c0, c1, c2, c3, c4, rfl⟩ := array5 (hsz.trans cells27)
  obtain ⟨fuel, hf⟩ := h
  obtain ⟨y0, y1, y2, y3, y4, n, hx, h0, h1, h2, h3, h4⟩ := trod_struct5 Tryd.underlying27 hf
  simp only [Prod.mk.injEq] at hx
  simp only [Value.cells, cells3, cells9, List.drop_zero, List.drop_succ_cons, List.take_succ_cons, List.take_zero] at h0 h1 h2 h3 h4
  obtain ⟨n0, e0, r0, _⟩ := DataW.trod_int Tryd.underlying3 h0
  obtain ⟨s1, e1, r1, _⟩ := DataW.trod_string Tryd.underlying9 h1
  obtain ⟨s2, e2, r2, _⟩ := DataW.trod_string Tryd.underlying9 h2
  obtain ⟨s3, e3, r3, _⟩ := DataW.trod_string Tryd.underlying9 h3
  obtain ⟨n4, e4, r4, _⟩ := DataW.trod_int Tryd.underlying3 h4
  cases e0; cases e1; cases e2; cases e3; cases e4
  subst r0 r1 r2 r3 r4
  exact ⟨⟨n0, s1, s2, s3, n4⟩, rfl, hx.1, hx.2⟩
theorem bulk_mk {m : Mk} {f : DataW K → Nat} {fA : List (DataW K) → Nat} (h1 : ∀ ds, f (.agg ds) = fA ds + 1) (h2 : ∀ d ds, fA (d :: ds) = f d + fA ds) (h3 : ∀ l, f (.lit (.string l)) = l.length + 1)
    (h : f (.agg [.lit (.int .i64 m.kind), .lit (.string m.ind.data.toList), .lit (.string m.sty.data.toList), .lit (.string m.nam.data.toList), .lit (.int .i64 m.num)]) ≤ 1048576) : m.ind.size ≤ 1048576 ∧ m.sty.size ≤ 1048576 ∧ m.nam.size ≤ 1048576 := by
  simp only [h1, h2, h3, len_list] at h
  omega

/-! ### The laid variables -/
theorem heap_of_var {P : Program} {n : String} {g : Nat} {cs : Array Value} (hg : P.globalNamed n = some g) (h : W.var? P n = some cs) : ∃ e fr, W.heap[(g : Nat)]? = some (.cells cs e fr) := by
  unfold World.var? at h
  rw [hg] at h
  have h : (match W.heap[(g : Nat)]? with | some (.cells cs _ _) => some cs | _ => none) = some cs := h
  split at h
  · rename_i c e fr hh; cases h; exact ⟨e, fr, hh⟩
  · cases h
theorem err_of_reads {name : String} {g : Nat} {d : DataW Unit} {te : TypeId} {ms : Array (String × TypeId)} (hn : Tryd.prog.globalNamed name = some g) (ht : (Tryd.prog.globals[g]?).map (·.type) = some te) (hte : Tryd.prog.underlying te = some (.interface ms)) (h : VarReads Tryd.prog W name d) : ErrIs g W := by
  obtain ⟨g', t, cs, fuel, p, hg, hty, hvar, hd⟩ := h
  obtain rfl := Option.some.inj (hn.symm.trans hg)
  obtain rfl := Option.some.inj (ht.symm.trans hty)
  have key : cs.toList = [.nilIface] ∨ ∃ u v, cs.toList = [.iface u v] := by
    cases fuel with
    | zero => simp [DataW.trod] at hd
    | succ fuel =>
      unfold DataW.trod at hd
      rw [hte] at hd
      split at hd <;> first
        | (rename_i h1 _; cases h1; done)
        | (rename_i h1 h2; exact .inl h2)
        | (rename_i h1 h2; exact .inr ⟨_, _, h2⟩)
        | skip
      all_goals first | (cases hd; done) | (exfalso; simp_all; done)
  have hc := World.var?_cell hn hvar 0
  rcases key with h1 | ⟨u, v, h1⟩
  · exact ⟨.nilIface, by rw [hc, ← Array.getElem?_toList, h1]; rfl, .inl rfl⟩
  · exact ⟨.iface u v, by rw [hc, ← Array.getElem?_toList, h1]; rfl, .inr ⟨u, v, rfl⟩⟩
theorem pow_of_reads {te t : TypeId} (hn : Tryd.prog.globalNamed "internal/strconv.uint64pow10" = some 5) (ht : (Tryd.prog.globals[(5 : Nat)]?).map (·.type) = some t) (h1 : Tryd.prog.underlying t = some (.array 20 te)) (h2 : Tryd.prog.underlying te = some (.int .u64)) (h3 : Tryd.prog.cellsOf te = 1) (h4 : Tryd.prog.cellsOf t = 20)
    (h : VarReads Tryd.prog W "internal/strconv.uint64pow10" (tabData .u64 Lib.pow10Tab)) : Pow10 W := by
  obtain ⟨g', t', cs, fuel, p, hg, hty, hvar, hd⟩ := h
  obtain rfl := Option.some.inj (ht.symm.trans (by rw [Option.some.inj (hn.symm.trans hg)]; exact hty))
  have hcs := cells_of_tab h1 h2 h3 h4 hd
  obtain ⟨e, fr, hh⟩ := heap_of_var hn hvar
  exact ⟨e, fr, by rw [hh, show cs = (Lib.pow10Tab.map fun z => Value.int .u64 z).toArray from by rw [← hcs]]⟩
end
end Go.Proofs.YtllokljpacpafaaDoor.Ev
