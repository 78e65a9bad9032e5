/-
  Go's own tables, which the evaluator never looks at: the blocks where they lie, and that they are there.
-/
import Derived.Test.YtpfhkjbnofgikaaDoorEvCore
import Derived.Shelf.Unicode.DecodeSlow
namespace Go.Proofs.YtpfhkjbnofgikaaDoor.Ev
open Go

def fixedBlocks : List Nat := [1, 2]
def Tabs (w : World) : Prop := Lib.Utf8Tabs 1 2 w

theorem cell_local {w w' : World} {a : Addr} (h : w'.heap[a.block]? = w.heap[a.block]?) : w'.cell? a = w.cell? a := by
  simp only [World.cell?, h]

theorem Tabs_local {w w' : World} (h : ∀ g, g ∈ fixedBlocks → w'.heap[g]? = w.heap[g]?) (t : Tabs w) : Tabs w' := by
  have h0 : ∀ c, w'.cell? ⟨1, c, none⟩ = w.cell? ⟨1, c, none⟩ := fun c => cell_local (h 1 (by simp [fixedBlocks]))
  have h1 : ∀ c, w'.cell? ⟨2, c, none⟩ = w.cell? ⟨2, c, none⟩ := fun c => cell_local (h 2 (by simp [fixedBlocks]))
  refine ⟨fun c hc => (h0 c).trans (t.1 c hc), fun i hi => ⟨(h1 _).trans (t.2 i hi).1, (h1 _).trans (t.2 i hi).2⟩⟩
end Go.Proofs.YtpfhkjbnofgikaaDoor.Ev
