/-
  The functions of Go's library that are told of by their contracts.
-/
import Derived.Test.YtaelmnkddedddaaDoorEvLaw
import Derived.Test.YtaelmnkddedddaaDoorEvProg
import Derived.Test.YtaelmnkddedddaaDoorEvLays
import Derived.WalkKit
namespace Go.Proofs.YtaelmnkddedddaaDoor.Ev
open Go Go.RowKit

def primTrim : List Value → AH → Option (Value × AH)
  | [.string s, .string c], H => if c.data.toList.all (fun b => decide (b.toNat < 128)) = true ∧ c.size < 4294967281 then some (.string ⟨(Lib.trimLeftS s.data.toList c.data.toList).toArray⟩, H) else none
  | _, _ => none
def primValid : List Value → AH → Option (Value × AH)
  | [.string s], H => if s.size ≤ 9223372036854775807 then some (.bool (Lib.validD s.data.toList), H) else none
  | _, _ => none
def primIndexByte : List Value → AH → Option (Value × AH)
  | [.string s, .int .u8 c], H => some (.int .i64 (Lib.indexByte s.data.toList c.toNat.toUInt8), H)
  | _, _ => none
def primLast : List Value → AH → Option (Value × AH)
  | [.string s], H => if s.size ≤ 9223372036854775807 then some (.tuple #[.int .i32 (Lib.decodeLastL s.data.toList).1, .int .i64 (Lib.decodeLastL s.data.toList).2], H) else none
  | _, _ => none

theorem trim_ok : CallOk Tryd.prog (fun f' args H => if f' = 20 then primTrim args H else none) := by
  refine prim_ok ⟨_, Tryd.func20, rfl⟩ fun args H v H' h => ?_
  unfold primTrim at h
  split at h
  case h_2 => cases h
  rename_i s c
  split at h
  case isFalse => cases h
  rename_i hc
  cases h
  refine ⟨rfl, rfl, rfl, fun w _ => ?_⟩
  exact Any.strings_TrimLeft_laid lays161 (by kernel_rfl) s c w hc.2 (fun j b hb => of_decide_eq_true (List.all_eq_true.1 hc.1 b (List.mem_of_getElem? hb)))
theorem valid_ok : CallOk Tryd.prog (fun f' args H => if f' = 38 then primValid args H else none) := by
  refine prim_ok ⟨_, Tryd.func38, rfl⟩ fun args H v H' h => ?_
  unfold primValid at h
  split at h
  case h_2 => cases h
  rename_i s
  split at h
  case isFalse => cases h
  rename_i hc
  cases h
  exact ⟨rfl, rfl, rfl, fun w hT => Any.utf8_ValidString lays196 s w hc hT⟩
theorem indexByte_ok : CallOk Tryd.prog (fun f' args H => if f' = 39 then primIndexByte args H else none) := by
  refine prim_ok ⟨_, Tryd.func39, rfl⟩ fun args H v H' h => ?_
  unfold primIndexByte at h
  split at h
  case h_2 => cases h
  rename_i s c
  cases h
  exact ⟨rfl, rfl, rfl, fun w _ => (Any.strings_IndexByte lays137 s c w).mono fun e w' ⟨he, hw⟩ => ⟨he, hw ▸ Below.refl _ _⟩⟩
theorem last_ok : CallOk Tryd.prog (fun f' args H => if f' = 50 then primLast args H else none) := by
  refine prim_ok ⟨_, Tryd.func50, rfl⟩ fun args H v H' h => ?_
  unfold primLast at h
  split at h
  case h_2 => cases h
  rename_i s
  split at h
  case isFalse => cases h
  rename_i hc
  cases h
  exact ⟨rfl, rfl, rfl, fun w hT => Any.utf8_DecodeLastRuneInString lays271 s w hc hT⟩

def prims0 : Prims := fun f =>
  if f = 20 then some primTrim else if f = 38 then some primValid else if f = 39 then some primIndexByte else if f = 50 then some primLast else none

theorem prims0_ok : PrimsOk Tryd.prog prims0 := by
  intro f g h
  unfold prims0 at h
  split at h
  · rename_i e; cases h; subst e; exact trim_ok
  split at h
  · rename_i e; cases h; subst e; exact valid_ok
  split at h
  · rename_i e; cases h; subst e; exact indexByte_ok
  split at h
  · rename_i e; cases h; subst e; exact last_ok
  cases h

/-- THE CHAPTER's FIXED RUNS, reckoned. -/
theorem known_run : (evFn Tryd.prog prims0 60 9 [] AH.empty).map Prod.fst = some (.bool true) := by kernel_rfl

def prims : Prims := fun f => if f = 9 then some (primClosed (.bool true)) else prims0 f
theorem prims_ok : PrimsOk Tryd.prog prims := by
  intro f g h
  unfold prims at h
  split at h
  · rename_i e; cases h; subst e
    exact closed_ok progOk mixed prims0_ok ⟨_, Tryd.func9, rfl⟩ rfl known_run
  · exact prims0_ok f g h
end Go.Proofs.YtaelmnkddedddaaDoor.Ev
