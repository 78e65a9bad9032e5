/-
  Go's own tables and errors, which the evaluator never looks at: the blocks where they lie, and that they are there. (Also the powers of ten.)
-/
import Derived.Test.YtenolmhnmcjndaaGreatDoorEvCore
import Derived.Shelf.Unicode.DecodeSlow
import Derived.Lib.LaidTab
import Derived.Lib.ItoaNum
namespace Go.Proofs.YtenolmhnmcjndaaGreatDoor.Ev
set_option linter.unusedVariables false
set_option linter.unusedSimpArgs false
open Go

def fixedBlocks : List Nat := [0, 1, 3]
def Pow10 (w : World) : Prop := ∃ e fr, w.heap[(3 : Nat)]? = some (.cells (Lib.pow10Tab.map fun z => Value.int .u64 z).toArray e fr)
structure Tabs (w : World) : Prop where
  u8 : Lib.Utf8Tabs 0 1 w
  pow : Pow10 w

theorem cell_local {w w' : World} {a : Addr} (h : w'.heap[a.block]? = w.heap[a.block]?) : w'.cell? a = w.cell? a := by
  simp only [World.cell?, h]

theorem Tabs_local {w w' : World} (h : ∀ g, g ∈ fixedBlocks → w'.heap[g]? = w.heap[g]?) (t : Tabs w) : Tabs w' := by
  have h0 : ∀ c, w'.cell? ⟨0, c, none⟩ = w.cell? ⟨0, c, none⟩ := fun c => cell_local (h 0 (by simp [fixedBlocks]))
  have h1 : ∀ c, w'.cell? ⟨1, c, none⟩ = w.cell? ⟨1, c, none⟩ := fun c => cell_local (h 1 (by simp [fixedBlocks]))
  refine ⟨⟨fun c hc => (h0 c).trans (t.u8.1 c hc), fun i hi => ⟨(h1 _).trans (t.u8.2 i hi).1, (h1 _).trans (t.u8.2 i hi).2⟩⟩, ?_⟩
  · obtain ⟨e, fr, hp⟩ := t.pow
    exact ⟨e, fr, (h _ (by simp [fixedBlocks])).trans hp⟩

theorem tabs_lt {w : World} (hT : Tabs w) : ∀ g, g ∈ fixedBlocks → g < w.heap.size := by
  have key : ∀ (g c : Nat) (v : Value), w.cell? ⟨g, c, none⟩ = some v → g < w.heap.size := fun g c v h => by
    refine Nat.lt_of_not_le fun hge => ?_
    unfold World.cell? at h
    rw [Array.getElem?_eq_none hge] at h
    cases h
  intro g hg
  simp only [fixedBlocks, List.mem_cons, List.not_mem_nil, or_false] at hg
  rcases hg with rfl | rfl | rfl
  · exact key _ 0 _ (hT.u8.1 0 (by decide))
  · exact key _ 0 _ (hT.u8.2 0 (by decide)).1
  · obtain ⟨e, fr, hp⟩ := hT.pow; exact (Array.getElem?_eq_some_iff.1 hp).1
end Go.Proofs.YtenolmhnmcjndaaGreatDoor.Ev
