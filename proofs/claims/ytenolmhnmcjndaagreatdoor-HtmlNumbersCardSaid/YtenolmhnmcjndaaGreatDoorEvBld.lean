/-
  A row whose bytes become a string's: the model freezes them; the evaluator lets no write into the row any more.
  strings.Builder, wherever it lies: copyCheck and String, as the model has them.
  strings.Builder's copyCheck and String, as functions told of by hand.
  strings.Join, as a function told of by hand.
-/
import Derived.Test.YtenolmhnmcjndaaGreatDoorEvFn
import Derived.Test.YtenolmhnmcjndaaGreatDoorEvLaw
import Derived.Shelf.Strings.BuilderX
import Derived.Shelf.RegionOpenPlain
import Derived.Lib.Strings
import Derived.Lib.Slices
import Derived.Lib.Walk
import Derived.Lib.Builder
import Derived.Lib.AppendStr
import Derived.Lib.UnsafeStr
import Derived.WalkKit
import Derived.Laws.Externs
import Derived.Lib.Join
import Derived.Shelf.Strings.OnBuilder
namespace Go.Proofs.YtenolmhnmcjndaaGreatDoor.Ev
set_option linter.unusedVariables false
set_option linter.unusedSimpArgs false
open Go
section
variable {P : Program} {φ : Phi} {H : AH} {w w' : World} {c r δ : Nat} {b : Blk} {o o' : Obj}

def hdO : Obj := .cells #[] 0 (0, 0)
/-- A write into a tip, behind which its row is written no more. -/
def AH.shutPut (H : AH) (c : Nat) (b : Blk) (o : Obj) : AH := (H.put c b o).copyOf hdO b.root

theorem blk_sp {d : Nat} : (H.shutPut c b o).blk d = if d = H.next then some ⟨hdO, b.root, false, H.clock + 1⟩ else if d = c then some { b with obj := o, ver := H.clock } else H.blk d := by
  unfold AH.shutPut
  rw [blk_copyOf, next_put, clock_put, blk_put]
theorem grp_sp {k : Nat} : (H.shutPut c b o).grp k = if k = b.root then (H.next, c) else H.grp k := by
  unfold AH.shutPut
  rw [grp_copyOf, next_put, grp_put, if_pos rfl, grp_put]
  by_cases h : k = b.root
  · rw [if_pos h, if_pos h]
  · rw [if_neg h, if_neg h, if_neg h]
theorem wf_sp (hw : WfH H) (hb : H.blk c = some b) (hl : H.live c b = true) (ht : H.tip c b = true) (he : b.exact = false) (ho : shapeSame o o) : WfH (H.shutPut c b o) :=
  WfH.copyOf (c := c) (b := { b with obj := o, ver := H.clock }) (hw.put hb hl ht ho) (by rw [blk_put, if_pos rfl]) he ⟨rfl, rfl⟩
theorem hstep_sp (hw : WfH H) (hb : H.blk c = some b) (hl : H.live c b = true) (ht : H.tip c b = true) (hsh : shapeSame b.obj o) (ho : shapeSame o o) : HStep H (H.shutPut c b o) :=
  (HStep.put hw hb hl hsh).trans (HStep.copyOf (hw.put hb hl ht ho))

theorem step_sp (hs : Sim P φ H w) (hφ : φ c = some (r, δ)) (hb : H.blk c = some b) (hl : H.live c b = true) (ht : H.tip c b = true) (he : b.exact = false)
    (hsh : shapeSame b.obj o) (ho2 : shapeSame o o) (hsz : w'.heap.size = w.heap.size) (hh : ∀ k, w'.heap[k]? = if k = r then some o' else w.heap[k]?) (ho : SameOut w w')
    (hreal : ∀ C e fr, w.heap[r]? = some (.cells C e fr) → ∃ C' fr', o' = .cells C' e fr' ∧ C'.size = C.size) : Step P φ H w φ (H.shutPut c b o) w' where
  h := hstep_sp hs.wf hb hl ht hsh ho2
  ext := fun _ _ h => h
  old := fun _ _ h => h
  os := ho.1
  tape := ho.2.1
  output := ho.2.2
  size := by rw [hsz]; exact Nat.le_refl _
  shape := (step_put (o := o) hs hφ hb hl ht hsh hsz hh ho hreal).shape
  frame := fun k _ hc => by
    rw [hh]
    split
    · rename_i e1; subst e1
      rcases hc c δ b hφ hb with h | ⟨h, _⟩
      · have := h.2
        rw [tip_iff.1 ht, hφ] at this; cases this
      · rw [he] at h; cases h
    · rfl
  new := fun d k ε h h' => by rw [h] at h'; cases h'
  heads := fun d b' _ hn => by
    rw [grp_sp]
    by_cases e : b'.root = b.root
    · rw [e, tip_iff.1 ht, hφ] at hn; cases hn
    · rw [if_neg e]

theorem sim_sp (hs : Sim P φ H w) (hφ : φ c = some (r, δ)) (hb : H.blk c = some b) (hl : H.live c b = true) (ht : H.tip c b = true) (he : b.exact = false)
    (hsh : shapeSame b.obj o) (ho2 : shapeSame o o) (hsz : w'.heap.size = w.heap.size) (hh : ∀ k, w'.heap[k]? = if k = r then some o' else w.heap[k]?) (ho : SameOut w w')
    (hreal : ∀ C e fr, w.heap[r]? = some (.cells C e fr) → ∃ C' fr', o' = .cells C' e fr' ∧ C'.size = C.size)
    (hobj : ObjR P φ (H.shutPut c b o) w' c ⟨o, b.root, b.exact, H.clock⟩ r δ) : Sim P φ (H.shutPut c b o) w' := by
  have hst := step_sp (o := o) hs hφ hb hl ht he hsh ho2 hsz hh ho hreal
  have hnx : ∀ {d y}, φ d = some y → d ≠ H.next := fun h => Nat.ne_of_lt (hs.lt h)
  have hbl : ∀ {d y b'}, φ d = some y → (H.shutPut c b o).blk d = some b' → (if d = c then some { b with obj := o, ver := H.clock } else H.blk d) = some b' := fun h hb' => by
    rw [blk_sp, if_neg (hnx h)] at hb'; exact hb'
  have back : ∀ {d y b'}, φ d = some y → (H.shutPut c b o).blk d = some b' → ∃ b0, H.blk d = some b0 ∧ b0.root = b'.root ∧ b0.exact = b'.exact := fun h hd => by
    have hd2 := hbl h hd
    split at hd2
    · rename_i e; subst e; obtain rfl := Option.some.inj hd2; exact ⟨b, hb, rfl, rfl⟩
    · exact ⟨_, hd2, rfl, rfl⟩
  have hcell : ∀ {d y C e f b'}, φ d = some y → (H.shutPut c b o).blk d = some b' → b'.obj = .cells C e f → ∃ b0 C0 f0, H.blk d = some b0 ∧ b0.obj = .cells C0 e f0 ∧ C0.size = C.size := fun {d y C e f b'} h h1 h2 => by
    have h3 := hbl h h1
    split at h3
    · rename_i e1; subst e1; obtain rfl := Option.some.inj h3
      refine ⟨b, ?_⟩
      simp only at h2; subst h2
      cases hbo : b.obj <;> rw [hbo] at hsh <;> simp [shapeSame] at hsh
      rename_i C0 e0 f0
      obtain ⟨h9, rfl⟩ := hsh
      exact ⟨C0, f0, hb, rfl, h9⟩
    · exact ⟨b', C, f, h3, h2, rfl⟩
  constructor
  case wf => exact wf_sp hs.wf hb hl ht he ho2
  case blk =>
    intro d k ε h
    obtain ⟨b0, h0⟩ := hs.blk d k ε h
    rw [blk_sp, if_neg (hnx h)]; split
    · exact ⟨_, rfl⟩
    · exact ⟨b0, h0⟩
  case real => intro d k ε h; rw [hsz]; exact hs.real d k ε h
  case fix =>
    have hne : ∀ g, g ∈ fixedBlocks → g ≠ r := fun g hg e => by
      have := ((hs.fix.2 g hg).2 c δ b (e ▸ hφ) hb).2
      rw [tip_iff.1 ht, hφ] at this; cases this
    refine ⟨Tabs_local (fun g hg => by rw [hh, if_neg (hne g hg)]) hs.fix.1, fun g hg => ⟨by rw [hsz]; exact (hs.fix.2 g hg).1, fun d ε b' hd hb' => ?_⟩⟩
    have hdc : d ≠ c := fun e => hne g hg (by rw [e, hφ] at hd; exact ((Prod.mk.inj (Option.some.inj hd)).1).symm)
    have hb3 := hbl hd hb'
    rw [if_neg hdc] at hb3
    have hro := (hs.fix.2 g hg).2 d ε b' hd hb3
    refine ⟨hro.1, ?_⟩
    rw [grp_sp]
    split
    · rename_i e
      have := hro.2
      rw [e, tip_iff.1 ht, hφ] at this; cases this
    · exact hro.2
  case obj =>
    intro d k ε b' h hd hl'
    have hd2 := hbl h hd
    by_cases e : d = c
    · subst e
      rw [if_pos rfl] at hd2; obtain rfl := Option.some.inj hd2
      rw [hφ] at h; obtain h := Option.some.inj h; simp only [Prod.mk.injEq] at h
      obtain ⟨rfl, rfl⟩ := h; exact hobj
    · rw [if_neg e] at hd2
      have hroot : b'.root ≠ b.root := fun er => by
        rw [live_iff, grp_sp, if_pos er] at hl'
        rw [tip_iff] at ht
        have := (hs.wf.head d b' hd2).1
        rw [er, ht] at this
        simp only at hl'; omega
      have hk : k ≠ r := fun ek => by subst ek; exact hroot (hs.sep d c k ε δ b' b h hφ hd2 hb)
      refine ObjR.mono hst (by rw [hh, if_neg hk]) ?_ (hs.obj d k ε b' h hd2 ?_)
      · rw [tip_iff, tip_iff, grp_sp, if_neg hroot]; exact id
      · rw [live_iff] at *; rw [grp_sp, if_neg hroot] at hl'; exact hl'
  case sep =>
    intro d1 d2 k ε1 ε2 b1 b2 h1 h2 hb1 hb2
    obtain ⟨b3, h3, r3, _⟩ := back h1 hb1
    obtain ⟨b4, h4, r4, _⟩ := back h2 hb2
    rw [← r3, ← r4]; exact hs.sep _ _ _ _ _ _ _ h1 h2 h3 h4
  case ends =>
    intro c1 d1 k δ1 ε1 b1 b2 C C' e e' f f' h1 h2 hb1 hb2 hcd hC hC'
    obtain ⟨b3, C3, f3, h3, h4, h5⟩ := hcell h1 hb1 hC
    obtain ⟨b4, C4, f4, h6, h7, h8⟩ := hcell h2 hb2 hC'
    rw [← h5, ← h8]
    exact hs.ends _ _ _ _ _ _ _ _ _ _ _ _ _ h1 h2 h3 h6 hcd h4 h7
theorem tip_sp : (H.shutPut c b o).tip c ⟨o, b.root, b.exact, H.clock⟩ = true → c = H.next := by
  rw [tip_iff, grp_sp, if_pos rfl]; exact fun h => h.symm

/-- Freezing some cells. -/
theorem freeze_heap' {q : Addr} {C : Array Value} {e : TypeId} {fr : Nat × Nat} {n : Nat} (h : w.heap[q.block]? = some (.cells C e fr)) :
    (w.freeze q n).heap.size = w.heap.size ∧ SameOut w (w.freeze q n) ∧ ∃ fr', ∀ k, (w.freeze q n).heap[k]? = if k = q.block then some (.cells C e fr') else w.heap[k]? := by
  unfold World.freeze
  split
  · exact ⟨rfl, SameOut.refl w, fr, fun k => by split; (rename_i e1; rw [e1, h]); rfl⟩
  · refine ⟨by simp, ⟨rfl, rfl, rfl⟩, ?_⟩
    have key : ∀ (f : Obj → Obj) (fr' : Nat × Nat), f (.cells C e fr) = .cells C e fr' → ∀ k : Nat, (w.heap.modify q.block f)[k]? = if k = q.block then some (.cells C e fr') else w.heap[k]? := fun f fr' hf k => by
      rw [Array.getElem?_modify]
      by_cases hk : k = q.block
      · rw [if_pos hk.symm, if_pos hk, hk, h]; simp [hf]
      · rw [if_neg (fun e => hk e.symm), if_neg hk]
    obtain ⟨lo, hi⟩ := fr
    exact ⟨_, key _ _ rfl⟩
end
end Go.Proofs.YtenolmhnmcjndaaGreatDoor.Ev
namespace Go.Proofs.YtenolmhnmcjndaaGreatDoor.Ev
set_option linter.unusedVariables false
set_option linter.unusedSimpArgs false
open Go Go.Shelf Go.RowKit
section
variable {P : Program} {ρ : Ren}

set_option maxHeartbeats 1000000 in
set_option maxRecDepth 100000 in
theorem copyCheck_used (L : Lays.n240 P ρ) (X : Builder.X72 P ρ) (b o : Nat) (w : World) (h0 : w.cell? ⟨b, o, none⟩ = some (.pointer (some ⟨b, o, none⟩))) :
    Calls P (ρ.f 240) #[.pointer (some ⟨b, o, none⟩)] w fun e w' => e = .returned (.tuple #[]) ∧ w' = w := by
  obtain ⟨j, hj, _⟩ := Option.map_eq_some_iff.1 X.sizeBuilder
  have mixed := L.mixed
  have t72 := L.t72; have a72 := L.a72; have z72 := L.z72; have v72 := L.v72; have u72 := run_underlying L.t72
  have t70 := L.t70; have a70 := L.a70; have z70 := L.z70; have v70 := L.v70; have u70 := run_underlying L.t70
  have t9 := L.t9; have a9 := L.a9; have z9 := L.z9; have v9 := L.v9; have u9 := run_underlying L.t9
  have t4 := L.t4; have a4 := L.a4; have z4 := L.z4; have v4 := L.v4; have u4 := run_underlying L.t4
  have t164 := L.t164; have a164 := L.a164; have z164 := L.z164; have v164 := L.v164; have u164 := run_underlying L.t164
  go_enter L.f240, Body.n240_ntmps ρ
  go_wp2
  rw [Lib.run_neq_ptr_same w _ L.t70 hj]
  go_wp2
  go_end0
  exact ⟨rfl, rfl⟩

set_option maxHeartbeats 1000000 in
set_option maxRecDepth 100000 in
theorem copyCheck_fresh (L : Lays.n240 P ρ) (X : Builder.X72 P ρ) (b o : Nat) (w : World) (h0 : w.cell? ⟨b, o, none⟩ = some (.pointer none)) {e : TypeId} {cells : Nat} (hsh : w.shape? b = some (e, cells)) (hlt : o < cells)
    (hl : liesAt P P.depth e (cells / P.cellsOf e) o (ρ.t 72) 1 = true) (hfz : w.frozen? ⟨b, o, none⟩ = false) :
    Calls P (ρ.f 240) #[.pointer (some ⟨b, o, none⟩)] w fun e w' => e = .returned (.tuple #[]) ∧ w' = w.setCell ⟨b, o, none⟩ (.pointer (some ⟨b, o, none⟩)) := by
  obtain ⟨j, hj, hjs⟩ := Option.map_eq_some_iff.1 X.sizeBuilder
  have mixed := L.mixed
  have t72 := L.t72; have a72 := L.a72; have z72 := L.z72; have v72 := L.v72; have u72 := run_underlying L.t72
  have t70 := L.t70; have a70 := L.a70; have z70 := L.z70; have v70 := L.v70; have u70 := run_underlying L.t70
  have t9 := L.t9; have a9 := L.a9; have z9 := L.z9; have v9 := L.v9; have u9 := run_underlying L.t9
  have t4 := L.t4; have a4 := L.a4; have z4 := L.z4; have v4 := L.v4; have u4 := run_underlying L.t4
  have t164 := L.t164; have a164 := L.a164; have z164 := L.z164; have v164 := L.v164; have u164 := run_underlying L.t164
  go_enter L.f240, Body.n240_ntmps ρ
  go_wp2
  rw [Lib.run_to_unsafe w ⟨b, o, none⟩ L.t70 L.t164 hj (by rw [hjs]; decide) hsh hlt]
  simp only [Result.andThen]
  rw [Oper.upon_value]
  go_wp2
  rw [run_callFunc_extern L.f276 (by kernel_rfl) (by kernel_rfl) (by kernel_rfl) (e := Extern.AbiNoEscape.same) (by kernel_rfl)]
  rw [Lib.run_noEscape]
  simp only [Result.andThen]
  rw [Oper.upon_value]
  go_wp2
  rw [Lib.run_from_unsafe w ⟨b, o, none⟩ L.t164 L.t70 hj hsh hl]
  simp only [Result.andThen]
  rw [Oper.upon_value]
  go_wp2
  go_end0
  exact ⟨rfl, rfl⟩

/-- In a row of 'count' bytes, n of them lie side by side from any place on. -/
theorem liesAt_bytes' {e : TypeId} (hc : P.cellsOf e = 1) (count off n : Nat) (hn : off + n ≤ count) : liesAt P P.depth e count off e n = true := by
  have hd : P.depth = (2 * (P.types.size + Made.depth) + 1) + 1 := rfl
  rw [hd]
  simp only [liesAt, Bool.or_eq_true]
  left
  rw [hd]
  simp [rowAt, hc, hn, sameLayout, Nat.mod_one]

theorem run_unsafeString_at (w : World) (pt it ty e : TypeId) (hp : P.underlying pt = some (.pointer e)) (hc : P.cellsOf e = 1) (g off cells : Nat) (hsh : w.shape? g = some (e, cells)) (l : List UInt8) (h0 : l ≠ []) (hn : off + l.length ≤ cells) (h63 : l.length ≤ 9223372036854775807)
    (hcell : ∀ j x, l[j]? = some x → w.cell? ((⟨g, off, none⟩ : Addr).add j) = some (.int .u8 x.toNat)) :
    (Builtin.unsafeString_ #[pt, it] ty #[.pointer (some ⟨g, off, none⟩), .int .i64 l.length]).run P w = .ok (.string ⟨l.toArray⟩) (w.freeze ⟨g, off, none⟩ l.length) := by
  have hl : l.length ≠ 0 := by simpa using h0
  have hlb := Lib.run_loadBytes (P := P) w l ⟨g, off, none⟩ .empty hcell
  have hlies := liesAt_bytes' (P := P) hc (cells / P.cellsOf e) off l.length (by rw [hc]; simpa using hn)
  have h63' : ¬ (9223372036854775807 : Int) < (l.length : Int) := by omega
  have hdef : Builtin.unsafeString_ #[pt, it] ty #[.pointer (some ⟨g, off, none⟩), .int .i64 l.length] =
      (do
        let n ← asInt (.int .i64 l.length)
        if n < 0 then runtimePanic (.error "unsafe.String: len out of range")
        if n > IntKind.i64.max then unsupported (.unsafePointer "String: a length above the largest int")
        if n = 0 then pure (.string .empty)
        else if ← variablesAt ⟨g, off, none⟩ (← elemOf pt) n.toNat then do
          let s ← loadBytes ⟨g, off, none⟩ .empty n.toNat
          freeze ⟨g, off, none⟩ n.toNat
          pure (.string s)
        else unsupported (.unsafePointer "String: not so many bytes at ptr")) := rfl
  rw [hdef]
  have hmax : IntKind.i64.max = 9223372036854775807 := rfl
  have hneg : ¬ (l.length : Int) < 0 := by omega
  simp [asInt, asIntOf, hmax, h63', hneg, hl, variablesAt, hsh, elemOf, run_underlying hp, hlies, hlb]


set_option maxHeartbeats 1000000 in
set_option maxRecDepth 100000 in
theorem string_some (L : Lays.n169 P ρ) (X : Builder.Extra P ρ) (b o : Nat) (l : List UInt8) (w : World) (g off cap cells : Nat) (h0 : l ≠ [])
    (hc : w.cell? ⟨b, o + 1, none⟩ = some (.slice (some ⟨g, off, none⟩) l.length cap)) (hcap : l.length ≤ cap) (hsh : w.shape? g = some (ρ.t 5, cells)) (hn : off + l.length ≤ cells) (h63 : l.length ≤ 9223372036854775807)
    (hcell : ∀ j x, l[j]? = some x → w.cell? ((⟨g, off, none⟩ : Addr).add j) = some (.int .u8 x.toNat)) :
    Calls P (ρ.f 169) #[.pointer (some ⟨b, o, none⟩)] w fun e w' => e = .returned (.string ⟨l.toArray⟩) ∧ w' = w.drew.freeze ⟨g, off, none⟩ l.length := by
  have hl0 : l.length ≠ 0 := by simpa using h0
  have c1 : w.drew.cell? ⟨b, o + 1, none⟩ = some (.slice (some ⟨g, off, none⟩) l.length cap) := hc
  have hSD : (Builtin.unsafeSliceData_ #[(ρ.t 37)] (ρ.t 127) #[.slice (some ⟨g, off, none⟩) l.length cap]).run P w.drew = .ok (.pointer (some ⟨g, off, none⟩)) w.drew :=
    Lib.run_unsafeSliceData_row _ _ _ _ _ _ (by omega)
  have hUS : (Builtin.unsafeString_ #[(ρ.t 127), (ρ.t 3)] (ρ.t 9) #[.pointer (some ⟨g, off, none⟩), .int .i64 l.length]).run P w.drew = .ok (.string ⟨l.toArray⟩) (w.drew.freeze ⟨g, off, none⟩ l.length) :=
    run_unsafeString_at w.drew (ρ.t 127) (ρ.t 3) (ρ.t 9) (ρ.t 5) L.t127 X.cellsByte g off cells hsh l h0 hn h63 hcell
  clear hcell hcap hl0
  have mixed := L.mixed
  have t72 := L.t72; have a72 := L.a72; have z72 := L.z72; have v72 := L.v72; have u72 := run_underlying L.t72
  have t70 := L.t70; have a70 := L.a70; have z70 := L.z70; have v70 := L.v70; have u70 := run_underlying L.t70
  have t37 := L.t37; have a37 := L.a37; have z37 := L.z37; have v37 := L.v37; have u37 := run_underlying L.t37
  have t127 := L.t127; have a127 := L.a127; have z127 := L.z127; have v127 := L.v127; have u127 := run_underlying L.t127
  have t3 := L.t3; have a3 := L.a3; have z3 := L.z3; have v3 := L.v3; have u3 := run_underlying L.t3
  have t9 := L.t9; have a9 := L.a9; have z9 := L.z9; have v9 := L.v9; have u9 := run_underlying L.t9
  have t5 := X.t5; have a5 := X.a5; have z5 := X.z5; have v5 := X.v5; have u5 := run_underlying X.t5
  go_enter L.f169, Body.n169_ntmps ρ
  go_wp2
  go_region_o
  all_goals (go_wp2; go_ret; exact ⟨rfl, rfl⟩)

set_option maxHeartbeats 1000000 in
set_option maxRecDepth 100000 in
theorem string_none (L : Lays.n169 P ρ) (X : Builder.Extra P ρ) (b o : Nat) (w : World) (hc : w.cell? ⟨b, o + 1, none⟩ = some (.slice none 0 0)) :
    Calls P (ρ.f 169) #[.pointer (some ⟨b, o, none⟩)] w fun e w' => e = .returned (.string ⟨#[]⟩) ∧ Below w.heap.size w w' := by
  have hUS := fun W q => Lib.run_unsafeString_none (P := P) W (ρ.t 127) (ρ.t 3) (ρ.t 9) q
  have c1 : w.drew.cell? ⟨b, o + 1, none⟩ = some (.slice none 0 0) := hc
  have hSD : (Builtin.unsafeSliceData_ #[(ρ.t 37)] (ρ.t 127) #[.slice none 0 0]).run P w.drew = .ok (.pointer none) w.drew := rfl
  have mixed := L.mixed
  have t72 := L.t72; have a72 := L.a72; have z72 := L.z72; have v72 := L.v72; have u72 := run_underlying L.t72
  have t70 := L.t70; have a70 := L.a70; have z70 := L.z70; have v70 := L.v70; have u70 := run_underlying L.t70
  have t37 := L.t37; have a37 := L.a37; have z37 := L.z37; have v37 := L.v37; have u37 := run_underlying L.t37
  have t127 := L.t127; have a127 := L.a127; have z127 := L.z127; have v127 := L.v127; have u127 := run_underlying L.t127
  have t3 := L.t3; have a3 := L.a3; have z3 := L.z3; have v3 := L.v3; have u3 := run_underlying L.t3
  have t9 := L.t9; have a9 := L.a9; have z9 := L.z9; have v9 := L.v9; have u9 := run_underlying L.t9
  have t5 := X.t5; have a5 := X.a5; have z5 := X.z5; have v5 := X.v5; have u5 := run_underlying X.t5
  go_enter L.f169, Body.n169_ntmps ρ
  go_wp2
  go_region_o
  all_goals (go_wp2; go_ret; exact ⟨rfl, Below.drew (Below.refl _ w)⟩)
end
end Go.Proofs.YtenolmhnmcjndaaGreatDoor.Ev
namespace Go.Proofs.YtenolmhnmcjndaaGreatDoor.Ev
set_option linter.unusedVariables false
set_option linter.unusedSimpArgs false
open Go Go.Shelf Go.RowKit

/-- In which rows a Builder lies, and where: the row's type, its cells, the place. -/
abbrev BT := List (Nat × Nat × Nat)
def inBT (T : BT) (e n o : Nat) : Bool := T.any fun t => Nat.beq t.1 e && (Nat.beq t.2.1 n && Nat.beq t.2.2 o)
def BtOk (P : Program) (tb : TypeId) (T : BT) : Prop := ∀ t, t ∈ T → liesAt P P.depth t.1 (t.2.1 / P.cellsOf t.1) t.2.2 tb 1 = true ∧ t.2.2 + 1 < t.2.1
theorem inBT_ok {P : Program} {tb : TypeId} {T : BT} (h : BtOk P tb T) {e n o : Nat} (hi : inBT T e n o = true) : liesAt P P.depth e (n / P.cellsOf e) o tb 1 = true ∧ o + 1 < n := by
  obtain ⟨t, h1, h2⟩ := List.any_eq_true.1 hi
  simp only [Bool.and_eq_true] at h2
  have e1 := Nat.eq_of_beq_eq_true h2.1
  have e2 := Nat.eq_of_beq_eq_true h2.2.1
  have e3 := Nat.eq_of_beq_eq_true h2.2.2
  subst e1; subst e2; subst e3
  exact h t h1

def primCC (T : BT) : List Value → AH → Option (Value × AH)
  | [.pointer (some p)], H => match p.spot, H.blk p.block with
    | none, some b => match b.obj with
      | .cells C e (lo, hi) => if H.live p.block b = true ∧ H.tip p.block b = true ∧ b.exact = true ∧ lo = 0 ∧ hi = 0 ∧ inBT T e C.size p.off = true then
          (match C[p.off]? with
          | some (.pointer none) => some (.tuple #[], H.put p.block b (.cells (C.setIfInBounds p.off (.pointer (some p))) e (lo, hi)))
          | some (.pointer (some q)) => if q = p then some (.tuple #[], H) else none
          | _ => none) else none
      | _ => none
    | _, _ => none
  | _, _ => none

def bytesS : List Value → Option (List UInt8)
  | [] => some []
  | .int .u8 n :: r => if n = ((UInt8.ofNat n.toNat).toNat : Int) then (match bytesS r with | some l => some (UInt8.ofNat n.toNat :: l) | none => none) else none
  | _ :: _ => none
theorem bytesS_ok : ∀ (l : List Value) (bs : List UInt8), bytesS l = some bs → l = bs.map fun b => Value.int .u8 b.toNat
  | [], bs, h => by cases h; rfl
  | x :: r, bs, h => by
    unfold bytesS at h
    split at h
    · rename_i e; cases e
    · rename_i n r' e
      cases e
      split at h
      case isFalse => cases h
      rename_i hn
      split at h
      case h_2 => cases h
      rename_i l hl
      cases h
      rw [List.map_cons, ← bytesS_ok _ _ hl, ← hn]
    · cases h

def primStr (tb : TypeId) : List Value → AH → Option (Value × AH)
  | [.pointer (some p)], H => match p.spot, H.cells p.block with
    | none, some (C, _, _) => match C[p.off + 1]? with
      | some (.slice none 0 0) => some (.string ⟨#[]⟩, H)
      | some (.slice (some a) n cap) => match a.spot, H.blk a.block with
        | none, some b => match b.obj with
          | .cells D e (lo, hi) => if H.live a.block b = true ∧ H.tip a.block b = true ∧ b.exact = false ∧ e = tb ∧ 0 < n ∧ a.off + n ≤ D.size ∧ n ≤ cap ∧ n ≤ 9223372036854775807 then
              (match bytesS (D.extract a.off (a.off + n)).toList with
              | some l => some (.string ⟨l.toArray⟩, H.shutPut a.block b (.cells D e (0, D.size)))
              | none => none) else none
          | _ => none
        | _, _ => none
      | _ => none
    | _, _ => none
  | _, _ => none

section
variable {P : Program} {ρ : Ren} {φ : Phi} {H H' : AH} {w : World} {T : BT} {v : Value}

theorem arg1 {x : Value} {args' : Array Value} (hn : args'.size = [x].length) (ha : ∀ (i : Nat) (a b : Value), [x][i]? = some a → args'[i]? = some b → ValR P φ H w a b) : ∃ y, args' = #[y] ∧ ValR P φ H w x y := by
  have hn : args'.size = 1 := hn
  refine ⟨args'[0], ?_, ha 0 x _ rfl (Array.getElem?_eq_getElem (by omega))⟩
  apply Array.ext
  · exact hn
  · intro i h1 h2
    have : i = 0 := by simp at h2; omega
    subst this; rfl

theorem setCell_heap {w : World} {q : Addr} {C : Array Value} {e : TypeId} {fr : Nat × Nat} {v : Value} (hq : q.spot = none) (h : w.heap[q.block]? = some (.cells C e fr)) :
    (w.setCell q v).heap.size = w.heap.size ∧ (∀ k, (w.setCell q v).heap[k]? = if k = q.block then some (.cells (C.setIfInBounds q.off v) e fr) else w.heap[k]?) ∧ SameOut w (w.setCell q v) := by
  refine ⟨by simp [World.setCell], fun k => ?_, rfl, rfl, rfl⟩
  simp only [World.setCell, Array.getElem?_modify]
  by_cases hk : k = q.block
  · rw [if_pos hk.symm, if_pos hk, hk, h]
    simp [hq]
  · rw [if_neg (fun e => hk e.symm), if_neg hk]

theorem primCC_ok (L : Lays.n240 P ρ) (X : Builder.X72 P ρ) (hT : BtOk P (ρ.t 72) T) (hf : ∃ fn, P.funcs[ρ.f 240]? = some fn ∧ fn.body.isSome = true) : CallOk P (fun f' args H => if f' = ρ.f 240 then primCC T args H else none) := by
  intro f args H v H' h
  simp only at h
  split at h
  case isFalse => cases h
  rename_i ef
  subst ef
  refine ⟨hf, fun φ w args' hs hn ha => ?_⟩
  unfold primCC at h
  split at h
  case h_2 => cases h
  rename_i p
  split at h
  case h_2 => cases h
  rename_i b hsp hb
  split at h
  case h_2 => cases h
  rename_i C e lo hi hobj
  split at h
  case isFalse => cases h
  rename_i hc
  obtain ⟨h1, h2, h3, rfl, rfl, h5⟩ := hc
  obtain ⟨hl1, hl2⟩ := inBT_ok hT h5
  obtain ⟨y, rfl, hy⟩ := arg1 hn ha
  obtain ⟨q, rfl, hq⟩ := val_ptr hy
  have hcs : H.cells p.block = some (C, e, (0, 0)) := by simp [AH.cells, hb, h1, hobj]
  obtain ⟨b2, δ, C', fr', l⟩ := lies hs hq hcs
  have hb2 := l.blk
  rw [hb] at hb2; obtain rfl := Option.some.inj hb2
  obtain ⟨rfl, hsz, rfl⟩ := l.exact h3
  obtain ⟨qb, qo, qs⟩ := q
  have hqs : qs = none := l.qspot
  subst hqs
  have hqo : qo = p.off := by have := l.off; simpa using this
  subst hqo
  have hre : w.heap[qb]? = some (.cells C' e (0, 0)) := l.real
  have hshq : w.shape? qb = some (e, C.size) := by unfold World.shape?; rw [hre]; simp only [hsz]
  have hcell : ∀ x, C[p.off]? = some x → ∃ y, w.cell? ⟨qb, p.off, none⟩ = some y ∧ CellR P φ H w x y := fun x hx => by
    obtain ⟨y, hy, hr⟩ := l.get hx
    refine ⟨y, ?_, hr⟩
    have := l.cell? 0
    simp only [Nat.add_zero] at this
    exact this.trans (by simpa using hy)
  split at h
  · rename_i hC
    cases h
    obtain ⟨y, hy1, hy2⟩ := hcell _ hC
    obtain rfl := val_nilptr (.part (.cell hy2))
    have hfz : w.frozen? ⟨qb, p.off, none⟩ = false := by simp [World.frozen?, hre]
    refine (copyCheck_fresh L X qb p.off w hy1 hshq (by omega) hl1 hfz).mono ?_
    rintro e1 w' ⟨rfl, rfl⟩
    obtain ⟨g1, g2, g3⟩ := setCell_heap (v := .pointer (some ⟨qb, p.off, none⟩)) (q := ⟨qb, p.off, none⟩) rfl hre
    have hshp : shapeSame b.obj (.cells (C.setIfInBounds p.off (.pointer (some p))) e (0, 0)) := by rw [hobj]; exact ⟨by simp, rfl⟩
    have hreal : ∀ C1 e1 f1, w.heap[qb]? = some (.cells C1 e1 f1) → ∃ C2 f2, Obj.cells (C'.setIfInBounds p.off (.pointer (some ⟨qb, p.off, none⟩))) e (0, 0) = .cells C2 e1 f2 ∧ C2.size = C1.size := fun C1 e1 f1 h => by
      rw [hre] at h; cases h; exact ⟨_, _, rfl, by simp⟩
    have hst := step_put (o := .cells (C.setIfInBounds p.off (.pointer (some p))) e (0, 0)) hs l.phi l.blk l.live h2 hshp g1 g2 g3 hreal
    refine ⟨_, rfl, φ, hst, sim_put hs l.phi l.blk l.live h2 hshp ⟨rfl, rfl⟩ g1 g2 g3 hreal ?_, val_refl rfl⟩
    unfold ObjR
    refine ⟨_, (0, 0), by rw [g2, if_pos rfl], by simp; omega, fun i x y hx hy => ?_, fun i _ hi => by unfold Ev.frz at hi; simp only at hi; omega, fun _ i _ _ hi => by unfold Ev.frz at hi; simp only at hi; omega, fun _ => ⟨rfl, by simp; omega, rfl⟩⟩
    rw [Array.getElem?_setIfInBounds] at hx
    simp only [Nat.zero_add] at hy
    rw [Array.getElem?_setIfInBounds] at hy
    by_cases hi : p.off = i
    · rw [if_pos hi, if_pos (by omega)] at hx
      rw [if_pos hi, if_pos (by omega)] at hy
      cases hx; cases hy
      exact .atom (.ptr (hq.mono hst))
    · rw [if_neg hi] at hx
      rw [if_neg hi] at hy
      exact (l.cell i x y hx (by simpa using hy)).mono hst
  · rename_i q2 hC
    split at h
    case isFalse => cases h
    rename_i e2
    subst e2
    cases h
    obtain ⟨y, hy1, hy2⟩ := hcell _ hC
    obtain ⟨q3, rfl, hq3⟩ := val_ptr (.part (.cell hy2))
    have : q3 = ⟨qb, q2.off, none⟩ := by
      obtain ⟨b3, δ3, C3, f3, l3⟩ := lies hs hq3 hcs
      have e1 := l3.phi
      rw [l.phi] at e1
      obtain ⟨e1, e3⟩ := Prod.mk.inj (Option.some.inj e1)
      obtain ⟨x1, x2, x3⟩ := q3
      have e4 : x3 = none := l3.qspot
      have e5 := l3.off
      simp only at e1 e5
      subst e1; subst e4; subst e3
      rw [e5, Nat.zero_add]
    subst this
    refine (copyCheck_used L X qb q2.off w hy1).mono ?_
    rintro e1 w' ⟨rfl, rfl⟩
    exact ⟨_, rfl, φ, Step.refl hs, hs, val_refl rfl⟩
  · cases h

theorem primStr_ok (L : Lays.n169 P ρ) (X : Builder.Extra P ρ) (hf : ∃ fn, P.funcs[ρ.f 169]? = some fn ∧ fn.body.isSome = true) : CallOk P (fun f' args H => if f' = ρ.f 169 then primStr (ρ.t 5) args H else none) := by
  intro f args H v H' h
  simp only at h
  split at h
  case isFalse => cases h
  rename_i ef
  subst ef
  refine ⟨hf, fun φ w args' hs hn ha => ?_⟩
  unfold primStr at h
  split at h
  case h_2 => cases h
  rename_i p
  split at h
  case h_2 => cases h
  rename_i C e0 f0 hsp hcs
  obtain ⟨y, rfl, hy⟩ := arg1 hn ha
  obtain ⟨q, rfl, hq⟩ := val_ptr hy
  obtain ⟨b0, δ0, C', fr', l⟩ := lies hs hq hcs
  obtain ⟨qb, qo, qs⟩ := q
  have hqs : qs = none := l.qspot
  subst hqs
  have hcell : ∀ x, C[p.off + 1]? = some x → ∃ y, w.cell? ⟨qb, qo + 1, none⟩ = some y ∧ CellR P φ H w x y := fun x hx => by
    obtain ⟨y, hy, hr⟩ := l.get hx
    exact ⟨y, (l.cell? 1).trans hy, hr⟩
  split at h
  · rename_i hC
    cases h
    obtain ⟨y, hy1, hy2⟩ := hcell _ hC
    obtain rfl := val_nilslice (.part (.cell hy2))
    refine (string_none L X qb qo w hy1).mono ?_
    rintro e1 w' ⟨rfl, hB⟩
    exact ⟨_, rfl, good_below hs hB rfl⟩
  · rename_i a n cap hC
    split at h
    case h_2 => cases h
    rename_i b has hb
    split at h
    case h_2 => cases h
    rename_i D e lo hi hobj
    split at h
    case isFalse => cases h
    rename_i hc
    obtain ⟨h1, h2, h3, rfl, h5, h6, h7, h8⟩ := hc
    split at h
    case h_2 => cases h
    rename_i bs hbs
    cases h
    have hbs := bytesS_ok _ _ hbs
    have hlen : bs.length = n := by
      have := congrArg List.length hbs
      simp at this
      omega
    obtain ⟨y, hy1, hy2⟩ := hcell _ hC
    obtain ⟨g, c', rfl, hsl⟩ := val_slice (.part (.cell hy2))
    have hacs : H.cells a.block = some (D, ρ.t 5, (lo, hi)) := by simp [AH.cells, hb, h1, hobj]
    have hag : AddrR φ H a g ∧ n ≤ c' := by
      rcases hsl with h9 | ⟨g1, _⟩ | ⟨g1, g2, δ, _, _, _, _, g3, g4, _, _, g5, _, g6⟩ | ⟨g1, g2, g3, _⟩
      · exact absurd h9 (not_dead hb h1)
      · exact absurd g1 (Nat.ne_of_gt h5)
      · refine ⟨.inr ⟨g1, g2, δ, g3, g4⟩, ?_⟩
        rcases g6 with rfl | ⟨_, _, g7, _⟩
        · exact h7
        · exact Nat.le_trans h7 g7
      · exact absurd g3 (Nat.ne_of_gt (Nat.lt_of_lt_of_le h5 h7))
    obtain ⟨hag, hnc⟩ := hag
    obtain ⟨b2, δ, D', fr2, l2⟩ := lies hs hag hacs
    have hb2 := l2.blk
    rw [hb] at hb2; obtain rfl := Option.some.inj hb2
    obtain ⟨gb, go, gs⟩ := g
    have hgs : gs = none := l2.qspot
    subst hgs
    have hre : w.heap[gb]? = some (.cells D' (ρ.t 5) fr2) := l2.real
    have hsz := l2.size
    have hoff : go = δ + a.off := l2.off
    have hsh : w.shape? gb = some (ρ.t 5, D'.size) := by unfold World.shape?; rw [hre]
    have hrd : ∀ j x, bs[j]? = some x → w.cell? ((⟨gb, go, none⟩ : Addr).add j) = some (.int .u8 x.toNat) := fun j x hx => by
      rw [add_none rfl]
      have hj : j < bs.length := (List.getElem?_eq_some_iff.1 hx).1
      have hx2 : D[a.off + j]? = some (.int .u8 x.toNat) := by
        have e1 := congrArg (fun l : List Value => l[j]?) hbs
        simp only [List.getElem?_map, hx, Option.map_some, Array.getElem?_toList] at e1
        rw [Array.getElem?_extract] at e1
        rw [if_pos (by omega)] at e1
        exact e1
      obtain ⟨y, hy, hr⟩ := l2.get hx2
      rw [show (⟨gb, go + j, none⟩ : Addr) = ⟨gb, go + j, none⟩ from rfl]
      refine (l2.cell? j).trans (hy.trans ?_)
      rw [val_int (.part (.cell hr))]
    subst hlen
    refine (string_some L X qb qo bs w gb go c' D'.size (by intro e; rw [e] at h5; exact absurd h5 (Nat.lt_irrefl _)) hy1 hnc hsh (by omega) h8 hrd).mono ?_
    rintro e1 w' ⟨rfl, rfl⟩
    have hred : w.drew.heap[(⟨gb, go, none⟩ : Addr).block]? = some (.cells D' (ρ.t 5) fr2) := hre
    obtain ⟨f1, f2, fr3, f3⟩ := freeze_heap' (n := bs.length) hred
    have hshp : shapeSame b.obj (.cells D (ρ.t 5) (0, D.size)) := by rw [hobj]; exact ⟨rfl, rfl⟩
    have hreal : ∀ C1 e1 f1, w.heap[gb]? = some (.cells C1 e1 f1) → ∃ C2 f2, Obj.cells D' (ρ.t 5) fr3 = .cells C2 e1 f2 ∧ C2.size = C1.size := fun C1 e1 f1 h => by
      rw [hre] at h; cases h; exact ⟨_, _, rfl, rfl⟩
    have f2' : SameOut w (w.drew.freeze ⟨gb, go, none⟩ bs.length) := ⟨f2.1, f2.2.1, f2.2.2⟩
    have hst := step_sp (o := .cells D (ρ.t 5) (0, D.size)) hs l2.phi l2.blk l2.live h2 h3 hshp ⟨rfl, rfl⟩ f1 f3 f2' hreal
    refine ⟨_, rfl, φ, hst, sim_sp hs l2.phi l2.blk l2.live h2 h3 hshp ⟨rfl, rfl⟩ f1 f3 f2' hreal ?_, val_refl rfl⟩
    unfold ObjR
    refine ⟨D', fr3, by rw [f3, if_pos rfl], hsz, fun i x y hx hy => (l2.cell i x y hx hy).mono hst, fun i hi _ => ⟨Nat.zero_le _, hi⟩, fun ht => ?_, fun hx => by rw [h3] at hx; cases hx⟩
    have := tip_sp ht
    exact absurd this (Nat.ne_of_lt (hs.lt l2.phi))
  · cases h

theorem primCC_h (T : BT) : ∀ args H v H', primCC T args H = some (v, H') → StepH H H' := fun args H v H' h => by
  unfold primCC at h
  split at h
  case h_2 => cases h
  split at h
  case h_2 => cases h
  rename_i b hsp hb
  split at h
  case h_2 => cases h
  rename_i C e lo hi hobj
  split at h
  case isFalse => cases h
  rename_i hc
  split at h
  · cases h
    exact fun hw => ⟨hw.put hb hc.1 hc.2.1 ⟨rfl, rfl⟩, HStep.put hw hb hc.1 (by rw [hobj]; exact ⟨by simp, rfl⟩)⟩
  · split at h
    · cases h; exact StepH.refl
    · cases h
  · cases h
theorem primStr_h (tb : TypeId) : ∀ args H v H', primStr tb args H = some (v, H') → StepH H H' := fun args H v H' h => by
  unfold primStr at h
  split at h
  case h_2 => cases h
  split at h
  case h_2 => cases h
  split at h
  · cases h; exact StepH.refl
  · split at h
    case h_2 => cases h
    rename_i b has hb
    split at h
    case h_2 => cases h
    rename_i D e lo hi hobj
    split at h
    case isFalse => cases h
    rename_i hc
    split at h
    case h_2 => cases h
    cases h
    exact fun hw => ⟨wf_sp hw hb hc.1 hc.2.1 hc.2.2.1 ⟨rfl, rfl⟩, hstep_sp hw hb hc.1 hc.2.1 (by rw [hobj]; exact ⟨rfl, rfl⟩) ⟨rfl, rfl⟩⟩
  · cases h
end
end Go.Proofs.YtenolmhnmcjndaaGreatDoor.Ev
namespace Go.Proofs.YtenolmhnmcjndaaGreatDoor.Ev
set_option linter.unusedVariables false
set_option linter.unusedSimpArgs false
open Go Go.RowKit
/-! ### Functions of values without addresses: reckoned by themselves, they leave the heap alone -/
def noPrims : Prims := ⟨fun _ => none, fun _ => false⟩
theorem noPrims_ok {P : Program} : PrimsOk P noPrims where
  ok := fun f g h => nomatch h
  h := fun f g h => nomatch h
  fl := fun f h => nomatch h
def flatVal (P : Program) (f : FuncId) (args : List Value) : Option Value :=
  if args.all flatB = true then match evFn P noPrims 5000 f args AH.empty with
    | some (v, _) => if flatB v = true then some v else none
    | none => none
  else none
def primFlat (P : Program) (f : FuncId) (args : List Value) (H : AH) : Option (Value × AH) := (flatVal P f args).map (·, H)
theorem primFlat_ok {P : Program} (hp : ProgOk P) (hd : P.follows .mixedOrders = true) {f : FuncId} (hf : ∃ fn, P.funcs[f]? = some fn ∧ fn.body.isSome = true) : CallOk P (fun f' args H => if f' = f then primFlat P f args H else none) := by
  refine prim_ok hf fun args H v H' h => ?_
  unfold primFlat at h
  obtain ⟨u, h1, h2⟩ := Option.map_eq_some_iff.1 h
  cases h2
  unfold flatVal at h1
  split at h1
  case isFalse => cases h1
  rename_i ha
  split at h1
  case h_2 => cases h1
  rename_i u H0 he
  split at h1
  case isFalse => cases h1
  rename_i hv
  cases h1
  refine ⟨rfl, ha, hv, fun w hT => ?_⟩
  refine ((evFn_sound hp hd noPrims_ok 5000 f args AH.empty _ _ he).2 (fun _ => none) w args.toArray (sim_empty hT) (by simp) (fun i x y hx hy => ?_)).mono fun e w' ⟨v', hev, φ', st, _, hr⟩ => ?_
  · rw [List.getElem?_toArray, hx] at hy
    cases hy
    exact val_refl (List.all_eq_true.1 ha x (List.mem_of_getElem? hx))
  · rw [hev, ← val_eq hv hr]
    exact ⟨rfl, step_ro (fun c r δ b h => by cases h) st⟩
theorem primFlat_h {P : Program} {f : FuncId} : ∀ args H v H', primFlat P f args H = some (v, H') → StepH H H' := fun args H v H' h => by
  unfold primFlat at h
  obtain ⟨u, h1, h2⟩ := Option.map_eq_some_iff.1 h
  cases h2
  exact StepH.refl
theorem primFlat_fl {P : Program} {f : FuncId} : ∃ g0 : List Value → Option Value, ∀ args H, primFlat P f args H = (g0 args).map (·, H) := ⟨flatVal P f, fun _ _ => rfl⟩
end Go.Proofs.YtenolmhnmcjndaaGreatDoor.Ev
namespace Go.Proofs.YtenolmhnmcjndaaGreatDoor.Ev
set_option linter.unusedVariables false
set_option linter.unusedSimpArgs false
open Go Go.Shelf Go.RowKit
def strsC : List Value → Option (List ByteArray)
  | [] => some []
  | .string s :: r => match strsC r with | some l => some (s :: l) | none => none
  | _ :: _ => none
theorem strsC_ok : ∀ (l : List Value) (xs : List ByteArray), strsC l = some xs → l = xs.map Value.string
  | [], xs, h => by cases h; rfl
  | x :: r, xs, h => by
    unfold strsC at h
    split at h
    · rename_i e; cases e
    · rename_i s r' e
      cases e
      split at h
      case h_2 => cases h
      rename_i l hl
      cases h
      rw [List.map_cons, ← strsC_ok _ _ hl]
    · cases h
def joinB (xs : List ByteArray) (sep : ByteArray) : List UInt8 := Lib.join (xs.map (·.data.toList)) sep.data.toList
def primJoin : List Value → AH → Option (Value × AH)
  | [.slice none 0 0, .string sep], H => some (.string ⟨#[]⟩, H)
  | [.slice (some p) n c, .string sep], H => match p.spot, H.cells p.block with
    | none, some (C, _, _) => if 0 < n ∧ n ≤ c ∧ n ≤ 1000000 ∧ p.off + n ≤ C.size then
        (match strsC ((C.toList.drop p.off).take n) with
        | some xs => if (joinB xs sep).length ≤ 1000000 then some (.string ⟨(joinB xs sep).toArray⟩, H) else none
        | none => none) else none
    | _, _ => none
  | _, _ => none
section
variable {P : Program} {ρ : Ren} {φ : Phi} {H : AH} {w : World}
theorem arg2 {x y : Value} {args' : Array Value} (hn : args'.size = [x, y].length) (ha : ∀ (i : Nat) (a b : Value), [x, y][i]? = some a → args'[i]? = some b → ValR P φ H w a b) : ∃ x' y', args' = #[x', y'] ∧ ValR P φ H w x x' ∧ ValR P φ H w y y' := by
  have hn : args'.size = 2 := hn
  refine ⟨args'[0], args'[1], ?_, ha 0 x _ rfl (Array.getElem?_eq_getElem (by omega)), ha 1 y _ rfl (Array.getElem?_eq_getElem (by omega))⟩
  apply Array.ext
  · exact hn
  · intro i h1 h2
    have : i = 0 ∨ i = 1 := by simp at h2; omega
    rcases this with rfl | rfl <;> rfl
theorem primJoin_ok (L : Lays.n156 P ρ) (X : Go.Proofs.Builder.Extra P ρ) (hf : ∃ fn, P.funcs[ρ.f 156]? = some fn ∧ fn.body.isSome = true) : CallOk P (fun f' args H => if f' = ρ.f 156 then primJoin args H else none) := by
  intro f args H v H' h
  simp only at h
  split at h
  case isFalse => cases h
  rename_i ef
  subst ef
  refine ⟨hf, fun φ w args' hs hn ha => ?_⟩
  unfold primJoin at h
  split at h
  case h_3 => cases h
  · cases h
    obtain ⟨x, y, rfl, hx, hy⟩ := arg2 hn ha
    obtain rfl := val_nilslice hx
    obtain rfl := val_string hy
    refine (Any.strings_Join_none L X none 0 _ w).mono ?_
    rintro e1 w' ⟨rfl, rfl⟩
    exact ⟨_, rfl, good_below hs (Below.refl _ _) rfl⟩
  · rename_i p n c sep
    split at h
    case h_2 => cases h
    rename_i C e0 f0 hsp hcs
    split at h
    case isFalse => cases h
    rename_i hc
    obtain ⟨h1, h2, h3, h4⟩ := hc
    split at h
    case h_2 => cases h
    rename_i xs hxs
    split at h
    case isFalse => cases h
    rename_i hlen
    cases h
    have hxs := strsC_ok _ _ hxs
    have hl : xs.length = n := by
      have := congrArg List.length hxs
      simp at this
      omega
    obtain ⟨x, y, rfl, hx, hy⟩ := arg2 hn ha
    obtain rfl := val_string hy
    obtain ⟨g, c', rfl, hsl⟩ := val_slice hx
    obtain ⟨b, hb1, hb2, _⟩ := cells_some hcs
    have hag : AddrR φ H p g ∧ n ≤ c' := by
      rcases hsl with h9 | ⟨g1, _⟩ | ⟨g1, g2, δ, _, _, _, _, g3, g4, _, _, g5, _, g6⟩ | ⟨g1, g2, g3, _⟩
      · exact absurd h9 (not_dead hb1 hb2)
      · exact absurd g1 (Nat.ne_of_gt h1)
      · refine ⟨.inr ⟨g1, g2, δ, g3, g4⟩, ?_⟩
        rcases g6 with rfl | ⟨_, _, g7, _⟩
        · exact h2
        · exact Nat.le_trans h2 g7
      · exact absurd g3 (Nat.ne_of_gt (Nat.lt_of_lt_of_le h1 h2))
    obtain ⟨hag, hnc⟩ := hag
    obtain ⟨b2, δ, D', fr2, l2⟩ := lies hs hag hcs
    obtain ⟨gb, go, gs⟩ := g
    have hgs : gs = none := l2.qspot
    subst hgs
    have hrd : ∀ (j : Nat) x, xs[j]? = some x → w.cell? ⟨gb, go + j, none⟩ = some (.string x) := fun j x hx => by
      have hj : j < xs.length := (List.getElem?_eq_some_iff.1 hx).1
      have hx2 : C[p.off + j]? = some (.string x) := by
        have e1 := congrArg (fun l : List Value => l[j]?) hxs
        simp only [List.getElem?_map, hx, Option.map_some] at e1
        rw [List.getElem?_take, if_pos (by omega), List.getElem?_drop, Array.getElem?_toList] at e1
        exact e1
      obtain ⟨y, hy, hr⟩ := l2.get hx2
      refine (l2.cell? j).trans (hy.trans ?_)
      rw [val_string (.part (.cell hr))]
    subst hl
    have hbk : gb < w.heap.size := (Array.getElem?_eq_some_iff.1 (show w.heap[gb]? = _ from l2.real)).1
    refine (Any.strings_Join L X gb go c' xs sep w hrd hbk (by omega) hnc (show (joinB xs sep).length ≤ _ by omega)).mono ?_
    rintro e1 w' ⟨rfl, hB⟩
    exact ⟨_, rfl, good_below hs hB rfl⟩
theorem primJoin_h : ∀ args H v H', primJoin args H = some (v, H') → StepH H H' := fun args H v H' h => by
  unfold primJoin at h
  split at h
  · cases h; exact StepH.refl
  · split at h
    case h_2 => cases h
    split at h
    case isFalse => cases h
    split at h
    case h_2 => cases h
    split at h
    · cases h; exact StepH.refl
    · cases h
  · cases h
end
end Go.Proofs.YtenolmhnmcjndaaGreatDoor.Ev
