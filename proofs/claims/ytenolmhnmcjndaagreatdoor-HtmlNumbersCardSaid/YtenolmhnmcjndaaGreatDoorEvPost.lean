/-
  What a law's row asks behind the call: it returned true, and all reads as it did.
-/
import Derived.Test.YtenolmhnmcjndaaGreatDoorEvLaw
import Derived.Carry
import Derived.ChangeSlices
import Derived.ChangeMaps5
import Derived.ProofKit
namespace Go.Proofs.YtenolmhnmcjndaaGreatDoor.Ev
set_option linter.unusedVariables false
set_option linter.unusedSimpArgs false
open Go Go.RowKit Go.ChangeShapes Go.WideShapes
section
variable {K : Type} {enc : TypeId × Value → K} {P : Program}

theorem trodAll_stays (hl : laidOutB P = true) {W W' : World} {sp : Nat → Bool} (hb : Below W.heap.size W W') : ∀ {ts : List TypeId} {vs : List Value} {ds : List (DataW K)} {ps : List MemPlace}, (∀ t, t ∈ ts → P.readableRec t = true ∧ t < P.types.size) → (∀ p, p ∈ ps → p.block < W.heap.size) → (∀ p, p ∈ ps → sp p.block = true) →
    DataW.TrodAll enc P W 0 (fun _ => true) true ts vs ds ps → DataW.TrodAll enc P W' 0 sp true ts vs ds ps
  | [], _, _, _, _, _, _, h => by
    obtain ⟨rfl, rfl, rfl⟩ := trodAll_nil h
    exact trodAll_mk0
  | t :: ts, _, _, _, hr, hlt, hsp, h => by
    obtain ⟨v, vs, d, ds, p, q, rfl, rfl, rfl, h1, h2⟩ := trodAll_cons h
    exact ⟨p, q, WideElems.Trod_stays hl (hr t (List.mem_cons_self ..)).1 (hr t (List.mem_cons_self ..)).2 h1 (fun x hx => hb.same (hlt x (List.mem_append_left _ hx))) (fun x hx => hsp x (List.mem_append_left _ hx)),
      trodAll_stays hl hb (fun t ht => hr t (List.mem_cons_of_mem _ ht)) (fun x hx => hlt x (List.mem_append_right _ hx)) (fun x hx => hsp x (List.mem_append_right _ hx)) h2, rfl⟩

theorem post_true {f : Func} {s : ChangeSpec} {W W' : World} {args : Array Value} {ds gs : List (DataW K)} {before : List MemPlace} {tb : TypeId} (hl : laidOutB P = true) (hr : ∀ t, t ∈ f.params.toList → P.readableRec t = true ∧ t < P.types.size) (hv : s.vars = [])
    (hW : DataW.Whole enc P f.params.toList s.vars false W args.toList ds gs before) (hb : Below W.heap.size W W') (hres : f.resultTypes = #[tb]) (htb : P.underlying tb = some .bool)
    (hfn : s.fn K (ds ++ gs) = { results := [.lit (.bool true)], args := ds }) : s.post enc P f false true false false W args (.bool true) W' := by
  have hW' := hW
  obtain ⟨p, q, hA, hV, rfl, hz, hn⟩ := hW
  rw [hv] at hV
  obtain ⟨rfl, rfl⟩ := trodVars_none hV
  have hlt : ∀ x, x ∈ p → x.block < W.heap.size := fun x hx => by simpa using hW'.lt x (List.mem_append_left _ hx)
  have hargs : ∀ sp : Nat → Bool, (∀ x, x ∈ p ++ [] → sp x.block = true) → DataW.TrodAll enc P W' 0 sp true f.params.toList args.toList (s.fn K (ds ++ [])).args p := fun sp hsp => by
    rw [hfn]
    exact trodAll_stays hl hb hr hlt (fun x hx => hsp x (List.mem_append_left _ hx)) hA
  have hvars : ∀ sp : Nat → Bool, DataW.TrodVars enc P W' sp s.vars (s.fn K (ds ++ [])).vars [] := fun sp => by rw [hfn, hv]; rfl
  have hresl : ∀ (b : Nat) (sp : Nat → Bool) (hd : Bool), DataW.TrodAll enc P W' b sp hd f.resultTypes.toList ((Value.bool true).resultList f.resultTypes.size) (s.fn K (ds ++ [])).results [] := fun b sp hd => by
    rw [hfn, hres]
    exact trodAll_mk1 (shut_bool htb true)
  have hold : ∀ x, x ∈ p ++ [] → (fun b => decide (b < W.heap.size)) x.block = true := fun x hx => by simpa using hlt x (by simpa using hx)
  refine ⟨ds, [], p ++ [], [], p, [], hW', hresl _ _ _, hargs _ hold, hvars _, hb.frame _, fun _ => ⟨ok_one hres rfl (okWide_bool_mk htb _), _, _, ([] ++ p) ++ [], ⟨[] ++ p, [], trodAll_append (hargs _ (fun _ _ => rfl)) (hresl _ _ _), hvars _, rfl, ?_, fun h => by cases h⟩, ?_⟩⟩
  · intro b off hp
    have hp' : MemPlace.cell b off ∈ p := by simpa using hp
    have hlt' := hlt _ hp'
    rw [hb.frozen (p := ⟨b, off, none⟩) hlt']
    exact hz b off (by simpa using hp')
  · intro x hx _
    simpa using hx

/-- A row of bytes that came in, as the evaluator's. -/
theorem import_bytes {t te : TypeId} {W : World} {r : Reach} {base : Nat} {v : Value} {d : DataW K} {ps : List MemPlace} (hT : Tabs W) (ht : P.underlying t = some (.slice te)) (he : P.underlying te = some (.int .u8)) (hc : P.cellsOf te = 1) (hok : Value.okWide P W r base t v) (h : DataW.Trod enc P W 0 (fun _ => true) true t v d ps) :
    ∃ (φ : Phi) (H : AH) (x : Value) (l : List Value), Sim P φ H W ∧ (∀ c r δ b, φ c = some (r, δ) → H.blk c = some b → RO φ H b) ∧ View H x l ∧ (∀ u, u ∈ l → ∃ n : Int, u = .int .u8 n) ∧ l.length ≤ maxLen ∧ ValR P φ H W x v ∧ (∀ u, u ∈ l → ∃ n : Int, u = .int .u8 n ∧ 0 ≤ n ∧ n < 256) := by
  obtain ⟨a0, len, cap, rfl⟩ := okWide_slice ht hok
  obtain ⟨fuel, hf⟩ := h
  rcases open_ints ht he hc hf with ⟨h1, _⟩ | ⟨a, len', cap', zs, h1, _, hle, hm, hzl, _, hcell, hwf⟩
  · have h2 : Value.slice a0 len cap = .slice none 0 0 := by simpa [Value.cells] using h1
    cases h2
    exact ⟨fun _ => none, AH.empty, .slice none 0 0, [], sim_empty hT, (fun c r δ b h => nomatch h), view_nil, (fun u hu => nomatch hu), Nat.zero_le _, val_refl rfl, (fun u hu => nomatch hu)⟩
  · have h2 : Value.slice a0 len cap = .slice (some a) len' cap' := by simpa [Value.cells] using h1
    cases h2
    have hok2 : Cell.okWide P W r base t (.slice (some a) len cap) := by simpa [Value.okWide, ht] using hok
    have hhas : W.has P r base a te cap := by
      simp only [Cell.okWide, Cell.ok, ht] at hok2
      exact hok2.2.2
    obtain ⟨_, hspot, row, cells, hsh, _⟩ := hhas
    unfold World.shape? at hsh
    split at hsh
    case h_2 => exact absurd hsh (by intro k; cases k)
    rename_i C' e' fr' hblk
    have hz : zs.length = cap := by rw [hzl]; rfl
    have hget : ∀ i, i < cap → C'[a.off + i]? = some (.int .u8 (zs.getD i 0)) := fun i hi => by
      have := hcell i (by omega)
      rw [show a.add i = ⟨a.block, a.off + i, none⟩ from add_none hspot i] at this
      simpa [World.cell?, hblk] using this
    by_cases h0 : len = 0
    · subst h0
      refine ⟨fun _ => none, AH.row1 #[] e' fr', .slice (some ⟨0, 0, none⟩) 0 0, [], sim_none row1_wf hT, (fun c r δ b h => nomatch h), ⟨_, _, rfl, .inl rfl⟩, (fun u hu => nomatch hu), Nat.zero_le _, .part (.cell (.atom (.slice (.inl row1_dead)))), (fun u hu => nomatch hu)⟩
    · have hroom : a.off + len ≤ C'.size := by
        have := (Array.getElem?_eq_some_iff.1 (hget (len - 1) (by omega))).1
        omega
      have hszC : (C'.extract a.off (a.off + len)).size = len := by simp; omega
      have hat : ∀ x, x ∈ (C'.extract a.off (a.off + len)).toList → ∃ n : Int, x = .int .u8 n ∧ 0 ≤ n ∧ n < 256 := fun x hx => by
        obtain ⟨i, hi⟩ := List.getElem?_of_mem hx
        rw [Array.getElem?_toList, Array.getElem?_extract] at hi
        split at hi
        · rw [hget i (by omega)] at hi; cases hi
          refine ⟨_, rfl, ?_⟩
          have hlt : i < zs.length := by omega
          have e : zs.getD i 0 = zs[i]'hlt := by simp [List.getD, hlt]
          have := hwf _ (List.getElem_mem hlt)
          rw [e]
          simp only [Lit.wf, Bool.and_eq_true, decide_eq_true_eq, IntKind.min, IntKind.max, IntKind.bits, IntKind.signed] at this
          simp at this
          omega
        · cases hi
      have hs := sim_row1 (P := P) hT (C := C'.extract a.off (a.off + len)) (off := a.off) hblk (by omega) (fun i x y hx hy => by
        rw [Array.getElem?_extract] at hx
        split at hx
        · rw [hx] at hy; exact Option.some.inj hy
        · cases hx) (fun x hx => by obtain ⟨n, rfl, _⟩ := hat x hx; rfl)
      obtain ⟨x, hv, hx⟩ := view_row1 (P := P) (w := W) (C := C'.extract a.off (a.off + len)) (e := e') (fr := (fr'.1 - a.off, fr'.2 - a.off)) (q := a) (cap := cap) hspot
      rw [hszC] at hx
      exact ⟨_, _, x, _, hs, row1_ro, hv, (fun u hu => by obtain ⟨n, h1, _⟩ := hat u hu; exact ⟨n, h1⟩), by rw [Array.length_toList, hszC]; omega, hx, hat⟩
/-- Arguments, one by one. -/
def ArgsR (R : Value → Value → Prop) : List Value → List Value → Prop
  | [], [] => True
  | x :: xs, y :: ys => R x y ∧ ArgsR R xs ys
  | _, _ => False
theorem ArgsR.get {R : Value → Value → Prop} : ∀ {xs ys : List Value}, ArgsR R xs ys → ys.length = xs.length ∧ ∀ (i : Nat) (x y : Value), xs[i]? = some x → ys[i]? = some y → R x y
  | [], [], _ => ⟨rfl, fun i x y hx => by simp at hx⟩
  | [], _ :: _, h => h.elim
  | _ :: _, [], h => h.elim
  | x :: xs, y :: ys, h => by
    obtain ⟨h1, h2⟩ := ArgsR.get h.2
    refine ⟨by simp [h1], fun i a b ha hb => ?_⟩
    cases i with
    | zero =>
      rw [List.getElem?_cons_zero] at ha hb
      cases ha; cases hb
      exact h.1
    | succ i =>
      rw [List.getElem?_cons_succ] at ha hb
      exact h2 i a b ha hb
theorem law_callsR {φ : Phi} {H : AH} {w : World} (hp : ProgOk P) (hd : P.follows .mixedOrders = true) {prims : Prims} (hpr : PrimsOk P prims) {f : FuncId} {args ys : List Value} {v : Value} (hv : flatB v = true)
    (hF : FWp P prims f args H fun u _ => u = v) (hs : Sim P φ H w) (hro : ∀ c r δ b, φ c = some (r, δ) → H.blk c = some b → RO φ H b)
    (ha : ArgsR (ValR P φ H w) args ys) : Calls P f ys.toArray w fun e w' => e = .returned v ∧ Below w.heap.size w w' :=
  law_calls hp hd hpr hv hF hs hro (by simpa using ha.get.1) (fun i x y hx hy => ha.get.2 i x y hx (by simpa using hy))
end
end Go.Proofs.YtenolmhnmcjndaaGreatDoor.Ev
