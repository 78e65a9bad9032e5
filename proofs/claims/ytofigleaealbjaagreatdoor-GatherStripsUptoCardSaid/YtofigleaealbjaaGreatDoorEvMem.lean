/-
  Loads, stores and new rows: the world does what the evaluator's heap says.
-/
import Derived.Test.YtofigleaealbjaaGreatDoorEvVal
import Derived.ChangeKeysEq
namespace Go.Proofs.YtofigleaealbjaaGreatDoor.Ev
open Go
section
variable {P : Program} {φ : Phi} {H H' : AH} {w w' : World}

theorem cells_some {c : Nat} {C : Array Value} {e : TypeId} {fr : Nat × Nat} (h : H.cells c = some (C, e, fr)) : ∃ b, H.blk c = some b ∧ H.live c b = true ∧ b.obj = .cells C e fr := by
  unfold AH.cells at h
  split at h
  · rename_i b hb
    split at h
    · rename_i h1 h2; cases h; exact ⟨b, hb, h1, h2⟩
    · cases h
  · cases h

theorem not_dead {c : Nat} {b : Blk} (hb : H.blk c = some b) (hl : H.live c b = true) : ¬ Dead H c := fun ⟨b', h1, h2⟩ => by
  rw [hb] at h1; obtain rfl := Option.some.inj h1; rw [hl] at h2; cases h2

theorem add_none {a : Addr} (h : a.spot = none) (n : Nat) : a.add n = ⟨a.block, a.off + n, none⟩ := by
  obtain ⟨b, o, s⟩ := a
  simp only at h; subst h
  unfold Addr.add; split <;> simp_all

theorem addr_eta {a : Addr} (h : a.spot = none) : a = ⟨a.block, a.off, none⟩ := by
  obtain ⟨b, o, s⟩ := a; simp only at h; subst h; rfl

/-- A live block of cells, and the real one. -/
structure Lies (P : Program) (φ : Phi) (H : AH) (w : World) (p q : Addr) (C : Array Value) (e : TypeId) (fr : Nat × Nat) (b : Blk) (δ : Nat) (C' : Array Value) (fr' : Nat × Nat) : Prop where
  blk : H.blk p.block = some b
  live : H.live p.block b = true
  obj : b.obj = .cells C e fr
  phi : φ p.block = some (q.block, δ)
  off : q.off = δ + p.off
  pspot : p.spot = none
  qspot : q.spot = none
  real : w.heap[q.block]? = some (.cells C' e fr')
  size : δ + C.size ≤ C'.size
  cell : ∀ (i : Nat) (x y : Value), C[i]? = some x → C'[δ + i]? = some y → CellR P φ H w x y
  cold : ∀ i, i < C.size → frz fr' (δ + i) → frz fr i
  tip : H.tip p.block b = true → ∀ i, δ + C.size ≤ i → i < C'.size → ¬ frz fr' i
  exact : b.exact = true → δ = 0 ∧ C'.size = C.size ∧ fr' = fr

theorem lies (hs : Sim P φ H w) {p q : Addr} {C : Array Value} {e : TypeId} {fr : Nat × Nat} (hp : AddrR φ H p q) (hc : H.cells p.block = some (C, e, fr)) :
    ∃ b δ C' fr', Lies P φ H w p q C e fr b δ C' fr' := by
  obtain ⟨b, h1, h2, h3⟩ := cells_some hc
  rcases hp with hp | ⟨g1, g2, δ, g3, g4⟩
  · exact absurd hp (not_dead h1 h2)
  · have ho := hs.obj _ _ _ _ g3 h1 h2
    unfold ObjR at ho
    simp only [h3] at ho
    obtain ⟨C', fr', k1, k2, k3, k4, k5, k6⟩ := ho
    exact ⟨b, δ, C', fr', h1, h2, h3, g3, g4, g1, g2, k1, k2, k3, k4, k5, k6⟩

theorem Lies.cell? {p q : Addr} {C C' : Array Value} {e : TypeId} {fr fr' : Nat × Nat} {b : Blk} {δ : Nat} (l : Lies P φ H w p q C e fr b δ C' fr') (j : Nat) :
    w.cell? ⟨q.block, q.off + j, none⟩ = C'[δ + (p.off + j)]? := by
  simp only [World.cell?, l.real, l.off]
  simp [Nat.add_assoc]

/-- A cell within the row is there in the real one. -/
theorem Lies.get {p q : Addr} {C C' : Array Value} {e : TypeId} {fr fr' : Nat × Nat} {b : Blk} {δ : Nat} (l : Lies P φ H w p q C e fr b δ C' fr') {i : Nat} {x : Value} (h : C[i]? = some x) :
    ∃ y, C'[δ + i]? = some y ∧ CellR P φ H w x y := by
  have hi : i < C.size := (Array.getElem?_eq_some_iff.1 h).1
  have := l.size
  have hy : C'[δ + i]? = some C'[δ + i] := Array.getElem?_eq_getElem (by omega)
  exact ⟨_, hy, l.cell i x _ h hy⟩

/-- The cells of a row from a place on, read. -/
theorem Lies.load {p q : Addr} {C C' : Array Value} {e : TypeId} {fr fr' : Nat × Nat} {b : Blk} {δ : Nat} (l : Lies P φ H w p q C e fr b δ C' fr') (n : Nat) (hn : p.off + n ≤ C.size) :
    ∃ D, (loadCells q n).run P w = .ok D w ∧ ArrR (CellR P φ H w) (C.extract p.off (p.off + n)) D := by
  have hsz := l.size
  have h := run_loadCells_list (P := P) w q (C'.extract (δ + p.off) (δ + p.off + n)).toList (fun j v hj => by
    rw [add_none l.qspot, l.cell? j]
    simp only [Array.getElem?_toList, Array.getElem?_extract] at hj
    split at hj
    · rw [← hj]; congr 1; omega
    · cases hj)
  have hl : (C'.extract (δ + p.off) (δ + p.off + n)).toList.length = n := by simp; omega
  rw [hl] at h
  refine ⟨_, h, by simp; omega, fun i x y hx hy => ?_⟩
  simp only [Array.getElem?_extract] at hx
  simp only [Array.toArray_toList, Array.getElem?_extract] at hy
  split at hx
  · split at hy
    · obtain ⟨y', h1, h2⟩ := l.get hx
      rw [show δ + (p.off + i) = δ + p.off + i by omega] at h1
      rw [h1] at hy; cases hy; exact h2
    · cases hy
  · cases hx

/-! ### Writing cells -/
theorem writeCells_size : ∀ (l : List Value) (C : Array Value) (i : Nat), (writeCells C i l).size = C.size
  | [], _, _ => rfl
  | v :: r, C, i => by rw [writeCells, writeCells_size r]; simp

theorem writeCells_get : ∀ (l : List Value) (C : Array Value) (i j : Nat), i + l.length ≤ C.size → (writeCells C i l)[j]? = if i ≤ j ∧ j < i + l.length then l[j - i]? else C[j]?
  | [], C, i, j, _ => by rw [writeCells, if_neg (by simp only [List.length_nil]; omega)]
  | v :: r, C, i, j, h => by
    simp only [List.length_cons] at h
    rw [writeCells, writeCells_get r _ (i + 1) j (by simp; omega), Array.getElem?_setIfInBounds]
    by_cases h1 : i = j
    · subst h1
      rw [if_neg (by omega), if_pos rfl, if_pos (by omega), if_pos (by simp)]; simp
    · rw [if_neg h1]
      by_cases h2 : i + 1 ≤ j ∧ j < i + 1 + r.length
      · rw [if_pos h2, if_pos (by simp; omega)]
        rw [show j - i = (j - (i + 1)) + 1 by omega]; simp
      · rw [if_neg h2, if_neg (by simp; omega)]

theorem setCells_heap (e : TypeId) (fr : Nat × Nat) (b : Nat) : ∀ (l : List Value) (o : Nat) (w : World) (C : Array Value), w.heap[b]? = some (.cells C e fr) →
    (∀ k, (w.setCells b o l).heap[k]? = if k = b then some (.cells (writeCells C o l) e fr) else w.heap[k]?) ∧ (w.setCells b o l).heap.size = w.heap.size ∧ SameOut w (w.setCells b o l)
  | [], o, w, C, h => ⟨fun k => by split <;> first | (rename_i e; subst e; exact h) | rfl, rfl, SameOut.refl w⟩
  | v :: r, o, w, C, h => by
    have h1 : (w.setCell ⟨b, o, none⟩ v).heap[b]? = some (.cells (C.setIfInBounds o v) e fr) := by
      simp [World.setCell, Array.getElem?_modify, h]
    obtain ⟨g1, g2, g3⟩ := setCells_heap e fr b r (o + 1) _ _ h1
    refine ⟨fun k => ?_, ?_, ?_⟩
    · rw [World.setCells, g1, writeCells]
      split
      · rfl
      · rename_i hk; simp only [World.setCell, Array.getElem?_modify]; rw [if_neg (fun e => hk e.symm)]
    · rw [World.setCells, g2]; simp [World.setCell]
    · exact g3

/-- A store into a tip that may be written, in both. -/
theorem Lies.store (hs : Sim P φ H w) {p q : Addr} {C C' : Array Value} {e : TypeId} {lo hi : Nat} {fr' : Nat × Nat} {b : Blk} {δ : Nat} (l : Lies P φ H w p q C e (lo, hi) b δ C' fr')
    (ht : H.tip p.block b = true) {vs vs' : List Value} (hlen : vs.length = vs'.length) (hr : ∀ (i : Nat) (x y : Value), vs[i]? = some x → vs'[i]? = some y → CellR P φ H w x y)
    (hin : p.off + vs.length ≤ C.size) (hf : hi ≤ p.off ∨ p.off + vs.length ≤ lo ∨ lo = hi) :
    ∃ w', (storeCells q vs').run P w = .ok () w' ∧ Step P φ H w φ (H.put p.block b (.cells (writeCells C p.off vs) e (lo, hi))) w' ∧ Sim P φ (H.put p.block b (.cells (writeCells C p.off vs) e (lo, hi))) w' := by
  have hsz := l.size
  have hrun := run_storeCells_cells (P := P) q.block q.off vs' 0 w (fun j hj => by
      rw [Nat.add_zero, l.cell? j, Array.getElem?_eq_getElem (by omega)]; rfl)
    (fun j hj => by
      rw [Nat.add_zero]
      cases hfz : w.frozen? ⟨q.block, q.off + j, none⟩ with
      | false => rfl
      | true =>
        exfalso
        obtain ⟨f1, f2⟩ := fr'
        simp only [World.frozen?, l.real, Bool.and_eq_true, decide_eq_true_eq, l.off] at hfz
        have := l.cold (p.off + j) (by omega) (by unfold Ev.frz; simp only; omega)
        unfold Ev.frz at this; simp only at this; omega)
    (fun v hv => by
      obtain ⟨i, hi⟩ := List.getElem?_of_mem hv
      have hlt : i < vs.length := by have := (List.getElem?_eq_some_iff.1 hi).1; omega
      exact cell_one (hr i _ v (List.getElem?_eq_getElem hlt) hi))
  rw [Nat.add_zero, ← addr_eta l.qspot] at hrun
  obtain ⟨g1, g2, g3⟩ := setCells_heap e fr' q.block vs' q.off w C' l.real
  have hshp : shapeSame b.obj (.cells (writeCells C p.off vs) e (lo, hi)) := by rw [l.obj]; exact ⟨(writeCells_size _ _ _).symm, rfl⟩
  have hreal : ∀ C1 e1 f1, w.heap[q.block]? = some (.cells C1 e1 f1) → ∃ C2 f2, Obj.cells (writeCells C' q.off vs') e fr' = .cells C2 e1 f2 ∧ C2.size = C1.size := fun C1 e1 f1 h => by
    rw [l.real] at h; cases h; exact ⟨_, _, rfl, writeCells_size _ _ _⟩
  have hst := step_put (o := .cells (writeCells C p.off vs) e (lo, hi)) hs l.phi l.blk l.live ht hshp g2 g1 g3 hreal
  refine ⟨_, hrun, hst, sim_put hs l.phi l.blk l.live ht hshp ⟨rfl, rfl⟩ g2 g1 g3 hreal ?_⟩
  unfold ObjR
  refine ⟨_, fr', by rw [g1, if_pos rfl], by rw [writeCells_size, writeCells_size]; exact l.size, fun i x y hx hy => ?_, fun i hi => ?_, fun htp i hi => ?_, fun hx => ?_⟩
  · rw [writeCells_get _ _ _ _ hin] at hx
    rw [writeCells_get _ _ _ _ (by rw [l.off]; omega), l.off] at hy
    by_cases hc : p.off ≤ i ∧ i < p.off + vs.length
    · rw [if_pos hc] at hx
      rw [if_pos (by omega), show δ + i - (δ + p.off) = i - p.off by omega] at hy
      exact (hr _ x y hx hy).mono hst
    · rw [if_neg hc] at hx
      rw [if_neg (by omega)] at hy
      exact (l.cell i x y hx hy).mono hst
  · rw [writeCells_size] at hi; exact l.cold i hi
  · rw [writeCells_size] at *
    refine l.tip ?_ i hi
    exact ht
  · rw [writeCells_size, writeCells_size]; exact l.exact hx
end
end Go.Proofs.YtofigleaealbjaaGreatDoor.Ev
