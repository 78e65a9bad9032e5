/-
  The machine's operations on the heap: append.
-/
import Derived.Test.YtaadahhjdkkkaaaGreatDoorEvVmG
namespace Go.Proofs.YtaadahhjdkkkaaaGreatDoor.Ev
set_option linter.unusedVariables false
set_option linter.unusedSimpArgs false
open Go
section
variable {E : Type} {I : EnvI E} {n : Nat} {P : Program} {F : FH} {H : AH}

/-! ### What is laid behind -/
/-- Cells, or bytes. -/
inductive Tl where
  | cs (l : List FV)
  | ys (m y : Nat)
def Tl.vals : Tl → List Value
  | .cs l => FV.vals l
  | .ys m y => (bytesL m y).map byteC
noncomputable def onTl (kc : List FV → Bool) (ky : Nat → Nat → Bool) (x : Tl) : Bool := Tl.rec (motive := fun _ => Bool) kc ky x
noncomputable def tlNo (k : Nat → Tl → Bool) (sz : Nat) (v : Value) : Bool := match v with
  | .slice none m _ => natK (fun m => ifK (k m (.cs [])) (Nat.beq (Nat.mul m sz) 0)) m
  | _ => false
noncomputable def tlLl (k : Nat → Tl → Bool) (F : FH) (sz c o m cap : Nat) : Bool := cellsK (fun l => k m (.cs l)) F c o (Nat.mul m sz)
noncomputable def tlG (k : Nat → Tl → Bool) (F : FH) (sz : Nat) (x : FV) : Bool := onL (tlLl k F sz) (tlNo k sz) false x
noncomputable def tlYo (k : Nat → Tl → Bool) (o m : Nat) (ob : FObj) : Bool := FObj.rec (motive := fun _ => Bool) (fun _ _ _ _ _ => false) (fun N x _ _ _ => ifK (natK (fun y => k m (.ys m y)) (Nat.shiftRight x (Nat.mul 8 o))) (Nat.ble (Nat.add o m) N)) (fun _ _ _ => false) (fun _ _ => false) ob
noncomputable def tlYl (k : Nat → Tl → Bool) (F : FH) (c o m cap : Nat) : Bool := objK (tlYo k o m) F c
noncomputable def tlYn (k : Nat → Tl → Bool) (v : Value) : Bool := match v with
  | .slice none m _ => ifK (k 0 (.ys 0 0)) (Nat.beq m 0)
  | _ => false
noncomputable def tlY (k : Nat → Tl → Bool) (F : FH) (x : FV) : Bool := onLS (tlYl k F) (tlYn k) (fun m y => k m (.ys m y)) false x
theorem bytes_part {N x o m : Nat} (h : o + m ≤ N) : ((bytesL N x).drop o).take m = bytesL m (Nat.shiftRight x (8 * o)) := by
  have e1 : (bytesL N x).drop o = bytesL (N - o) (Nat.shiftRight x (8 * o)) := by
    have := bytesL_drop o (N - o) x
    rwa [show o + (N - o) = N by omega] at this
  rw [e1]
  have := bytesL_take m (N - o - m) (Nat.shiftRight x (8 * o))
  rwa [show m + (N - o - m) = N - o by omega] at this
theorem rowA_of {c o m : Nat} {C : Array Value} {e : TypeId} {fr : Nat × Nat} (h : H.cells c = some (C, e, fr)) (hle : o + m ≤ C.size) : rowA H (some ⟨c, o, none⟩) m = some ((C.toList.drop o).take m) := by
  unfold rowA
  simp only [h, if_pos hle]
  rw [Array.toList_extract, List.extract_eq_take_drop, show o + m - o = m by omega]
theorem tlG_ok {k : Nat → Tl → Bool} {e : TypeId} {x : FV} (hH : HR F H) (h : tlG k F (szT P e) x = true) : ∃ m l, tailA P H e x.val = some (m, l.vals) ∧ k m l = true := by
  rcases onL_ok h with ⟨c, o, m, cap, rfl, h⟩ | ⟨v, rfl, h⟩ | h
  · obtain ⟨C, el, fr, l, h1, h2, h3, h4, h5⟩ := cellsK_ok hH h
    refine ⟨m, .cs l, ?_, h5⟩
    simp only [tailA, FV.val]
    rw [show rowA H (some ⟨c, o, none⟩) (m * szT P e) = _ from rowA_of h1 h2]
    simp only [Tl.vals, ← h3]
    rfl
  · replace h : tlNo k (szT P e) v = true := h
    unfold tlNo at h
    split at h
    case h_2 => cases h
    rename_i m cap _
    rw [natK_eq] at h
    obtain ⟨h1, h2⟩ := ifK_ok h
    have h1 : m * szT P e = 0 := Nat.eq_of_beq_eq_true h1
    refine ⟨m, .cs [], ?_, h2⟩
    simp only [tailA, FV.val, rowA, if_pos h1]
    rfl
  · cases h
theorem tlY_ok {k : Nat → Tl → Bool} {e : TypeId} {x : FV} (hH : HR F H) (hs : szT P e = 1) (h : tlY k F x = true) : ∃ m l, tailA P H e x.val = some (m, l.vals) ∧ k m l = true := by
  rcases onLS_ok h with ⟨c, o, m, cap, rfl, h⟩ | ⟨v, rfl, h⟩ | ⟨m, y, rfl, h⟩ | h
  · obtain ⟨ob, b, hb, hl, hO, h2⟩ := objK_ok hH (show objK (tlYo k o m) F c = true from h)
    cases ob with
    | cl => cases h2
    | it => cases h2
    | mp => cases h2
    | yy N x el lo hi =>
      obtain ⟨h3, h4⟩ := ifK_ok (show ifK (natK (fun y => k m (.ys m y)) (Nat.shiftRight x (Nat.mul 8 o))) (Nat.ble (Nat.add o m) N) = true from h2)
      rw [natK_eq] at h4
      have h3 : o + m ≤ N := Nat.le_of_ble_eq_true h3
      refine ⟨m, .ys m (Nat.shiftRight x (Nat.mul 8 o)), ?_, h4⟩
      simp only [tailA, FV.val, hs, Nat.mul_one]
      rw [rowA_of (cells_of hb hl hO) (by simpa [bytesL_len] using h3)]
      simp only [Tl.vals, ← List.map_drop, ← List.map_take]
      rw [bytes_part h3]; rfl
  · replace h : tlYn k v = true := h
    unfold tlYn at h
    split at h
    case h_2 => cases h
    rename_i m cap _
    obtain ⟨h1, h2⟩ := ifK_ok h
    have h1 : m = 0 := Nat.eq_of_beq_eq_true h1
    subst h1
    refine ⟨0, .ys 0 0, ?_, h2⟩
    simp only [tailA, FV.val, rowA, Nat.zero_mul, if_true]
    rfl
  · refine ⟨m, .ys m y, ?_, h⟩
    simp only [tailA, FV.val, hs, if_true, bytesA_size]
    rfl
  · cases h

/-! ### A row and what is laid behind -/
noncomputable def appL (l : List FV) (k : List FV → Bool) (a : List FV) : Bool := List.rec (motive := fun _ => (List FV → Bool) → Bool) (fun k => k l) (fun x _ ih k => ih (consK k x)) a k
theorem appL_ok {l : List FV} : ∀ (a : List FV) (k : List FV → Bool), appL l k a = true → k (a ++ l) = true
  | [], k, h => h
  | x :: a, k, h => appL_ok a (consK k x) h
noncomputable def jn2 (kk : FObj → Bool) (e lo hi : Nat) (a : List FV) : Bool := natK (fun m => layL (mkCl kk m e lo hi) a) (lenL a)
noncomputable def jnCl (kk : FObj → Bool) (e ns off lo hi : Nat) (l : List FV) (N : Nat) (t : Q FV) : Bool :=
  iteK (cellsQ t ns (appL l (jn2 kk e lo hi)) off) (natK (fun m => setL l (mkCl kk m e lo hi) N t) (Nat.add N (lenL l))) (Bool.and (Nat.beq off 0) (Nat.beq ns N))
noncomputable def jnYy (kk : FObj → Bool) (e ns off lo hi m y N x : Nat) : Bool := natK (fun x => natK (fun m => mkYy kk m e lo hi x) (Nat.add ns m)) (catN ns (Nat.shiftRight x (Nat.mul 8 off)) y)
noncomputable def jnO (kk : FObj → Bool) (e ns off lo hi : Nat) (tl : Tl) (o : FObj) : Bool :=
  FObj.rec (motive := fun _ => Bool) (fun N t _ _ _ => ifK (onTl (fun l => jnCl kk e ns off lo hi l N t) (fun _ _ => false) tl) (Nat.ble (Nat.add off ns) N)) (fun N x _ _ _ => ifK (onTl (fun _ => false) (fun m y => jnYy kk e ns off lo hi m y N x) tl) (Nat.ble (Nat.add off ns) N)) (fun _ _ _ => false) (fun _ _ => false) o
theorem jnO_ok {kk : FObj → Bool} {e ns off lo hi lo0 hi0 : Nat} {e0 : TypeId} {tl : Tl} {o : FObj} {C : Array Value} (hO : FObjR o (.cells C e0 (lo0, hi0))) (h : jnO kk e ns off lo hi tl o = true) :
    off + ns ≤ C.size ∧ ∃ o', FObjR o' (.cells ((C.toList.drop off).take ns ++ tl.vals).toArray e (lo, hi)) ∧ kk o' = true := by
  cases o with
  | it => cases h
  | mp => cases h
  | cl N t e1 lo1 hi1 =>
    obtain ⟨C', hC, h1, h2⟩ := hO
    cases hC
    obtain ⟨h3, h4⟩ := ifK_ok (show ifK (onTl (fun l => jnCl kk e ns off lo hi l N t) (fun _ _ => false) tl) (Nat.ble (Nat.add off ns) N) = true from h)
    have h3 : off + ns ≤ N := Nat.le_of_ble_eq_true h3
    refine ⟨by rw [h1]; exact h3, ?_⟩
    cases tl with
    | ys => cases h4
    | cs l =>
      rcases iteK_ok (show iteK _ _ _ = true from h4) with ⟨_, h5⟩ | ⟨h5, h6⟩
      · obtain ⟨a, h6, h7, h8, h9⟩ := cellsQ_ok h2 _ _ _ h5
        have h10 := appL_ok _ _ h9
        unfold jn2 at h10
        rw [natK_eq] at h10
        obtain ⟨q, h11, h12⟩ := layL_ok h10
        refine ⟨_, clR h11 ?_ (lenL_eq _), h12⟩
        show _ ++ _ = _
        rw [h6, FV.vals_eq, FV.vals_eq]
        show List.map FV.val a ++ FV.vals l = _
        rw [FV.vals_eq]; simp
      · rw [natK_eq] at h6
        simp only [Bool.and_eq_true] at h5
        have hoff : off = 0 := Nat.eq_of_beq_eq_true h5.1
        have hns : ns = N := Nat.eq_of_beq_eq_true h5.2
        subst hoff; subst hns
        obtain ⟨q, h7, h8⟩ := setL_ok (n := ns + l.length) l _ ns t (C ++ Array.replicate l.length undef) (by simp [h1]) (by omega) (fun j f hj => by
          have := h2 j f hj
          rw [Array.getElem?_append_left (Array.getElem?_eq_some_iff.1 this).1]; exact this) h6
        refine ⟨.cl (Nat.add ns (lenL l)) q e lo hi, ⟨_, rfl, ?_, fun j f hj => ?_⟩, h8⟩
        · have e5 : Nat.add ns (lenL l) = ns + l.length := by rw [lenL_eq]; rfl
          rw [e5]
          simp [FV.vals_eq, Tl.vals]
          omega
        · have := h7 j f hj
          rw [← Array.getElem?_toList, writeCells_all _ _ _ (by simp [FV.vals_eq, h1])] at this
          have e2 : (C ++ Array.replicate l.length undef).toList.take ns = C.toList := by
            simp only [Array.toList_append]
            rw [List.take_append_of_le_length (by simp [h1]), List.take_of_length_le (by simp [h1])]
          have e3 : (C ++ Array.replicate l.length undef).toList.drop (ns + (FV.vals l).length) = [] := by
            rw [List.drop_eq_nil_of_le]
            simp [FV.vals_eq, h1]
          rw [e2, e3, List.append_nil] at this
          rw [List.getElem?_toArray, List.drop_zero, List.take_of_length_le (by simp [h1])]
          exact this
  | yy N x e1 lo1 hi1 =>
    have hO : Obj.cells C e0 (lo0, hi0) = _ := hO
    cases hO
    obtain ⟨h3, h4⟩ := ifK_ok (show ifK (onTl (fun _ => false) (fun m y => jnYy kk e ns off lo hi m y N x) tl) (Nat.ble (Nat.add off ns) N) = true from h)
    have h3 : off + ns ≤ N := Nat.le_of_ble_eq_true h3
    refine ⟨by simpa [bytesL_len] using h3, ?_⟩
    cases tl with
    | cs => cases h4
    | ys m y =>
      have h4 : jnYy kk e ns off lo hi m y N x = true := h4
      unfold jnYy at h4
      rw [natK_eq, natK_eq] at h4
      refine ⟨.yy (Nat.add ns m) (catN ns (Nat.shiftRight x (Nat.mul 8 off)) y) e lo hi, ?_, h4⟩
      show Obj.cells _ e (lo, hi) = Obj.cells _ e (lo, hi)
      congr 2
      have : bytesL (ns + m) (catN ns (Nat.shiftRight x (8 * off)) y) = bytesL ns (Nat.shiftRight x (8 * off)) ++ bytesL m y := bytesL_app m y ns _
      show _ = (bytesL (ns + m) (catN ns (Nat.shiftRight x (8 * off)) y)).map byteC
      rw [this, List.map_append]
      simp only [Tl.vals, ← List.map_drop, ← List.map_take]
      rw [bytes_part h3]

/-! ### In place -/
noncomputable def upT (tl : Tl) (off : Nat) (k : FObj → Bool) (o : FObj) : Bool :=
  FObj.rec (motive := fun _ => Bool)
    (fun n t e lo hi => onTl (fun l => allC (natK (fun len => updCl l off len k n t e lo hi) (lenL l)) l) (fun _ _ => false) tl)
    (fun n x e lo hi => onTl (fun _ => false) (fun m y => ifK (frzK (natK (mkYy k n e lo hi) (setBy n x off m y)) off (Nat.add off m) lo hi) (Nat.ble (Nat.add off m) n)) tl)
    (fun _ _ _ => false) (fun _ _ => false) o
theorem upT_ok {tl : Tl} {off : Nat} {k : FObj → Bool} {o : FObj} {O : Obj} (hO : FObjR o O) (h : upT tl off k o = true) :
    ∃ C e lo hi, O = .cells C e (lo, hi) ∧ off + tl.vals.length ≤ C.size ∧ tl.vals.all isCell = true ∧ (decide (hi ≤ off) || decide (off + tl.vals.length ≤ lo) || lo == hi) = true ∧ ∃ o', FObjR o' (.cells (writeCells C off tl.vals) e (lo, hi)) ∧ k o' = true := by
  cases o with
  | it => cases h
  | mp => cases h
  | cl n t e lo hi =>
    cases tl with
    | ys => cases h
    | cs l =>
      obtain ⟨h1, h2⟩ := allC_ok (show allC (natK (fun len => updCl l off len k n t e lo hi) (lenL l)) l = true from h)
      rw [natK_eq, lenL_eq] at h2
      obtain ⟨C, e', lo', hi', h3, h4, h5, o', h6, h7⟩ := updO_ok (len := l.length) hO rfl (show updO l off l.length k (.cl n t e lo hi) = true from h2)
      exact ⟨C, e', lo', hi', h3, by simpa [Tl.vals, vals_len] using h4, h1, by simpa [Tl.vals, vals_len] using h5, o', h6, h7⟩
  | yy n x e lo hi =>
    cases tl with
    | cs => cases h
    | ys m y =>
      obtain ⟨h3, h4⟩ := ifK_ok (show ifK (frzK (natK (mkYy k n e lo hi) (setBy n x off m y)) off (Nat.add off m) lo hi) (Nat.ble (Nat.add off m) n) = true from h)
      obtain ⟨h5, h6⟩ := frzK_ok h4
      rw [natK_eq] at h6
      have h3 : off + m ≤ n := Nat.le_of_ble_eq_true h3
      have hl : (Tl.ys m y).vals.length = m := by simp [Tl.vals, bytesL_len]
      refine ⟨_, e, lo, hi, hO, by rw [hl]; simpa [bytesL_len] using h3, ?_, by rw [hl]; exact h5, .yy n (setBy n x off m y) e lo hi, ?_, h6⟩
      · simp only [Tl.vals, List.all_map]
        rw [List.all_eq_true]
        intro b _; rfl
      · show Obj.cells _ e (lo, hi) = Obj.cells _ e (lo, hi)
        congr 1
        apply Array.ext'
        rw [writeCells_all _ _ _ (by rw [hl]; simpa [bytesL_len] using h3), setBy_ok h3, hl]
        simp only [Tl.vals, List.map_append, List.map_take, List.map_drop]
theorem tl_size {tl : Tl} : (∃ x r, tl.vals = x :: r) ∨ tl.vals = [] := by cases tl.vals <;> simp

/-! ### append -/
/-- Is nothing laid behind? -/
noncomputable def tlE (k0 k1 : Bool) (tl : Tl) : Bool := onTl (fun l => List.rec (motive := fun _ => Bool) k1 (fun _ _ _ => k0) l) (fun m _ => Nat.rec (motive := fun _ => Bool) k1 (fun _ _ => k0) m) tl
theorem tlE_ok {k0 k1 : Bool} {tl : Tl} (h : tlE k0 k1 tl = true) : tl.vals ≠ [] ∧ k0 = true ∨ tl.vals = [] ∧ k1 = true := by
  cases tl with
  | cs l =>
    cases l with
    | nil => exact .inr ⟨rfl, h⟩
    | cons x r => exact .inl ⟨by simp [Tl.vals, FV.vals], h⟩
  | ys m y =>
    cases m with
    | zero => exact .inr ⟨rfl, h⟩
    | succ m => exact .inl ⟨by simp [Tl.vals, bytesL], h⟩
noncomputable def cpN (k : FV → FH → Bool) (nm root : Nat) (F : FH) (o : FObj) : Bool := copyG (slcK k nm nm) o root F
noncomputable def nwO (k : FV → FH → Bool) (nm : Nat) (F : FH) (o : FObj) : Bool := newG (slcK k nm nm) o F
noncomputable def elSz (k : Nat → Nat → Nat → Nat → Bool) (o : FObj) : Bool := FObj.rec (motive := fun _ => Bool) (fun n _ e lo hi => k n e lo hi) (fun n _ e lo hi => k n e lo hi) (fun _ _ _ => false) (fun _ _ => false) o
theorem elSz_ok {k : Nat → Nat → Nat → Nat → Bool} {o : FObj} {O : Obj} (hO : FObjR o O) (h : elSz k o = true) : ∃ C e lo hi, O = .cells C e (lo, hi) ∧ k C.size e lo hi = true := by
  cases o with
  | cl n t e lo hi => obtain ⟨C, rfl, rfl, _⟩ := hO; exact ⟨C, e, lo, hi, rfl, h⟩
  | yy n x e lo hi =>
    have h : k n e lo hi = true := h
    exact ⟨_, e, lo, hi, hO, by simpa [bytesL_len] using h⟩
  | it => cases h
  | mp => cases h
noncomputable def agX2 (k : FV → FH → Bool) (F : FH) (tl : Tl) (sz off n nm e : Nat) (o : FObj) (N e' lo hi : Nat) : Bool := ifK (jnO (nwO k nm F) e (Nat.mul n sz) off 0 0 tl o) (Nat.beq e' e)
noncomputable def agG3 (k : FV → FH → Bool) (F : FH) (tl : Tl) (sz off n cap nm e root c hd : Nat) (o : FObj) (N e' lo hi : Nat) : Bool :=
  ifK (iteK (ifK (ifK (ifK (jnO (cpN k nm root F) e (Nat.mul n sz) off (Nat.sub lo off) (Nat.sub hi off) tl o) (Nat.beq hd c)) (Nat.beq n cap)) (Nat.beq (Nat.add off (Nat.mul cap sz)) N)) (jnO (nwO k nm F) e (Nat.mul n sz) off 0 0 tl o) (Nat.ble (Nat.succ (Nat.add off (Nat.mul cap sz))) N)) (Nat.beq e' e)
noncomputable def agG2 (k : FV → FH → Bool) (F : FH) (tl : Tl) (sz off n cap nm e root c : Nat) (o : FObj) (hd fl : Nat) : Bool := ifK (elSz (agG3 k F tl sz off n cap nm e root c hd o) o) (Nat.ble fl c)
noncomputable def agR (f : Nat → Nat → Bool) (rb : FBlk) : Bool := FBlk.rec (motive := fun _ => Bool) (fun _ _ => false) (fun _ _ _ hd fl => f hd fl) rb
noncomputable def agG (k : FV → FH → Bool) (F : FH) (tl : Tl) (sz off n cap nm e c : Nat) (t : Q FBlk) (o : FObj) (root ver hd fl : Nat) : Bool :=
  iteK (Q.getK (agR (agG2 k F tl sz off n cap nm e root c o)) t root) (agG2 k F tl sz off n cap nm e root c o hd fl) (Nat.beq root c)
noncomputable def agB (k : FV → FH → Bool) (F : FH) (tl : Tl) (sz off n cap nm e c : Nat) (t : Q FBlk) (fb : FBlk) : Bool :=
  FBlk.rec (motive := fun _ => Bool) (fun o _ => elSz (agX2 k F tl sz off n nm e o) o) (agG k F tl sz off n cap nm e c t) fb
noncomputable def agF (k : FV → FH → Bool) (F : FH) (tl : Tl) (sz off n cap nm e c : Nat) : Bool := FH.rec (motive := fun _ => Bool) (fun t _ _ => Q.getK (agB k F tl sz off n cap nm e c t) t c) F
/-- The part of append that grows a row. -/
def growA (P : Program) (H : AH) (e : TypeId) (p : Addr) (n c m : Nat) (l : List Value) : Option (Value × AH) :=
  match p.spot, H.blk p.block, rowA H (some p) (n * szT P e) with
  | none, some b, some old => match b.obj with
    | .cells C e' (lo, hi) =>
      if e' ≠ e ∨ c < n then none
      else if b.exact = true ∨ p.off + c * szT P e < C.size then
        some (.slice (some ⟨H.next, 0, none⟩) (n + m) (n + m), H.alloc (.cells (old ++ l).toArray e) false)
      else if p.off + c * szT P e = C.size ∧ n = c ∧ H.tip p.block b = true then
        some (.slice (some ⟨H.next, 0, none⟩) (n + m) (n + m), H.copyOf (.cells (old ++ l).toArray e (lo - p.off, hi - p.off)) b.root)
      else none
    | _ => none
  | _, _, _ => none
theorem agF_ok {k : FV → FH → Bool} {tl : Tl} {off n cap m c : Nat} {e : TypeId} (hH : HR F H) (hnc : n ≤ cap) (h : agF k F tl (szT P e) off n cap (n + m) e c = true) :
    ∃ v F' H', growA P H e ⟨c, off, none⟩ n cap m tl.vals = some (FV.val v, H') ∧ HR F' H' ∧ k v F' = true := by
  obtain ⟨t, nx, ck⟩ := F
  have h : Q.getK (agB k ⟨t, nx, ck⟩ tl (szT P e) off n cap (n + m) e c t) t c = true := h
  obtain ⟨fb, h1, h2⟩ := Q.getK_ok h
  have hn : H.next = nx := hH.next
  cases fb with
  | xx o ver =>
    obtain ⟨b, hb, hO, _, hex, _, hl, ht⟩ := hH.xx h1
    obtain ⟨C, e', lo, hi, hC, h3⟩ := elSz_ok hO (show elSz (agX2 k ⟨t, nx, ck⟩ tl (szT P e) off n (n + m) e o) o = true from h2)
    obtain ⟨h4, h5⟩ := ifK_ok h3
    have h4 : e' = e := Nat.eq_of_beq_eq_true h4
    subst h4
    rw [hC] at hO
    obtain ⟨h6, o', h7, h8⟩ := jnO_ok hO h5
    obtain ⟨F', h9, h10⟩ := newG_ok hH h7 h8
    refine ⟨.ll H.next 0 (n + m) (n + m), F', _, ?_, h9, h10⟩
    unfold growA
    rw [show rowA H (some ⟨c, off, none⟩) (n * szT P e') = _ from rowA_of (cells_of hb hl hC) h6]
    simp only [hb, hC]
    rw [if_neg (by simp; omega), if_pos (.inl hex)]
    rfl
  | gg o root ver hd fl =>
    obtain ⟨b, hb, e1, e2, e3, e4, e5⟩ := hH.blk c _ h1
    have key : ∀ hd fl, H.grp root = (hd, fl) → agG2 k ⟨t, nx, ck⟩ tl (szT P e) off n cap (n + m) e root c o hd fl = true → ∃ v F' H', growA P H e ⟨c, off, none⟩ n cap m tl.vals = some (FV.val v, H') ∧ HR F' H' ∧ k v F' = true := fun hd fl hg h => by
      obtain ⟨h3, h4⟩ := ifK_ok h
      have hl : H.live c b = true := by rw [live_iff, e2, hg]; exact Nat.le_of_ble_eq_true h3
      obtain ⟨C, e', lo, hi, hC, h5⟩ := elSz_ok e4 h4
      obtain ⟨h6, h7⟩ := ifK_ok h5
      have h6 : e' = e := Nat.eq_of_beq_eq_true h6
      subst h6
      rw [hC] at e4
      rcases iteK_ok h7 with ⟨_, h8⟩ | ⟨h8, h9⟩
      · obtain ⟨g1, h9⟩ := ifK_ok h8
        obtain ⟨g2, h10⟩ := ifK_ok h9
        obtain ⟨g3, h11⟩ := ifK_ok h10
        have g1 : off + cap * szT P e' = C.size := Nat.eq_of_beq_eq_true g1
        have g2 : n = cap := Nat.eq_of_beq_eq_true g2
        have g3 : hd = c := Nat.eq_of_beq_eq_true g3
        obtain ⟨h12, o', h13, h14⟩ := jnO_ok e4 h11
        obtain ⟨F', h15, h16⟩ := copyG_ok hH hb e1 e2 h13 h14
        refine ⟨.ll H.next 0 (n + m) (n + m), F', _, ?_, h15, h16⟩
        unfold growA
        rw [show rowA H (some ⟨c, off, none⟩) (n * szT P e') = _ from rowA_of (cells_of hb hl hC) h12]
        simp only [hb, hC]
        rw [if_neg (by simp; omega), if_neg (by rw [e1]; simp; omega), if_pos ⟨g1, g2, by rw [tip_iff, e2, hg]; exact g3⟩, e2]
        rfl
      · have h8 : off + cap * szT P e' < C.size := Nat.le_of_ble_eq_true h8
        obtain ⟨h12, o', h13, h14⟩ := jnO_ok e4 h9
        obtain ⟨F', h15, h16⟩ := newG_ok hH h13 h14
        refine ⟨.ll H.next 0 (n + m) (n + m), F', _, ?_, h15, h16⟩
        unfold growA
        rw [show rowA H (some ⟨c, off, none⟩) (n * szT P e') = _ from rowA_of (cells_of hb hl hC) h12]
        simp only [hb, hC]
        rw [if_neg (by simp; omega), if_pos (.inr h8)]
        rfl
    rcases iteK_ok (show iteK _ _ _ = true from h2) with ⟨_, h3⟩ | ⟨h3, h4⟩
    · obtain ⟨rb, g1, g2⟩ := Q.getK_ok h3
      cases rb with
      | xx => cases g2
      | gg ro rr rv rh rf =>
        obtain ⟨b', hb', f1, f2, f3, f4, f5⟩ := hH.blk root _ g1
        exact key rh rf f5 g2
    · have h3 : root = c := Nat.eq_of_beq_eq_true h3
      subst h3
      exact key hd fl e5 h4
noncomputable def apIn (k : FV → FH → Bool) (F : FH) (tl : Tl) (sz c off n cap nm : Nat) : Bool :=
  tlE (wrK (upT tl (Nat.add off (Nat.mul n sz))) (k (.ll c off nm cap)) F c) (objK (elSz fun _ _ _ _ => k (.ll c off nm cap) F) F c) tl
noncomputable def apGr (k : FV → FH → Bool) (F : FH) (tl : Tl) (sz by_ e c off n cap nm : Nat) : Bool :=
  ifK (ifK (ifK (agF k F tl sz off n cap nm e c) (Nat.ble n cap)) (Nat.ble nm 140737488355328)) (Nat.ble (Nat.mul nm by_) 140737488355328)
noncomputable def apLl (k : FV → FH → Bool) (F : FH) (sz by_ e : Nat) (m : Nat) (tl : Tl) (c off n cap : Nat) : Bool :=
  natK (fun nm => iteK (apGr k F tl sz by_ e c off n cap nm) (apIn k F tl sz c off n cap nm) (Nat.ble nm cap)) (Nat.add n m)
noncomputable def clTl (k : FObj → Bool) (e : Nat) (tl : Tl) : Bool := onTl (fun l => jn2 k e 0 0 l) (fun m y => k (.yy m y e 0 0)) tl
noncomputable def apNo (k : FV → FH → Bool) (F : FH) (by_ e : Nat) (m : Nat) (tl : Tl) (v : Value) : Bool := match v with
  | .slice none n cap => ifK (ifK (tlE (ifK (ifK (clTl (fun o => newG (slcK k m m) o F) e tl) (Nat.ble m 140737488355328)) (Nat.ble (Nat.mul m by_) 140737488355328)) (ifK (k (.oo (.slice none 0 0)) F) (Nat.beq m 0)) tl) (Nat.beq cap 0)) (Nat.beq n 0)
  | _ => false
noncomputable def app2 (k : FV → FH → Bool) (F : FH) (sz by_ e : Nat) (s : FV) (m : Nat) (tl : Tl) : Bool := onL (apLl k F sz by_ e m tl) (apNo k F by_ e m tl) false s
theorem clTl_ok {k : FObj → Bool} {e : Nat} {tl : Tl} (h : clTl k e tl = true) : ∃ o, FObjR o (.cells tl.vals.toArray e (0, 0)) ∧ k o = true := by
  cases tl with
  | cs l =>
    have h : jn2 k e 0 0 l = true := h
    unfold jn2 at h
    rw [natK_eq] at h
    obtain ⟨q, h1, h2⟩ := layL_ok h
    exact ⟨_, clR h1 rfl (lenL_eq _), h2⟩
  | ys m y => exact ⟨.yy m y e 0 0, rfl, h⟩
theorem app2_ok {k : FV → FH → Bool} {s x : FV} {m : Nat} {tl : Tl} {sT e : TypeId} {xT : Option TypeId} {xd : TypeDesc} {z : Value} (hH : HR F H) (he : elemT P sT = some e) (hx : xT.bind P.underlying = some xd) (hnx : notInt xd = true)
    (ht : tailA P H e x.val = some (m, tl.vals)) (hz : zeroT P e = some z) (hs : 0 < bytesT P e ∧ 0 < szT P e ∧ z.cells.size = szT P e) (hml : m = 0 → tl.vals = []) (h : app2 k F (szT P e) (bytesT P e) e s m tl = true) :
    ∃ v F' H', appendA P H sT xT s.val x.val = some (FV.val v, H') ∧ HR F' H' ∧ k v F' = true := by
  rcases onL_ok h with ⟨c, off, n, cap, rfl, h⟩ | ⟨v, rfl, h⟩ | h
  · replace h : apLl k F (szT P e) (bytesT P e) e m tl c off n cap = true := h
    unfold apLl at h
    rw [natK_eq] at h
    have happ : appendA P H sT xT (FV.ll c off n cap).val x.val = if n + m ≤ cap then
        (match tl.vals with
        | [] => match H.cells c with
          | some _ => some (.slice (some ⟨c, off, none⟩) (n + m) cap, H)
          | none => none
        | l => match storeCellsA H ((⟨c, off, none⟩ : Addr).add (n * szT P e)) l with
          | some H' => some (.slice (some ⟨c, off, none⟩) (n + m) cap, H')
          | none => none)
      else if (n + m) * bytesT P e ≤ 140737488355328 ∧ n + m ≤ 140737488355328 ∧ 0 < bytesT P e ∧ 0 < szT P e ∧ z.cells.size = szT P e then growA P H e ⟨c, off, none⟩ n cap m tl.vals else none := by
      unfold appendA
      simp only [he, hx, FV.val, hnx, ht, hz]
      split
      · cases tl.vals <;> rfl
      · rfl
    rcases iteK_ok h with ⟨h1, h2⟩ | ⟨h1, h2⟩
    · have h1 : ¬ n + m ≤ cap := fun hle => by
        have : Nat.ble (Nat.add n m) cap = true := Nat.ble_eq_true_of_le hle
        rw [this] at h1; cases h1
      obtain ⟨g1, h3⟩ := ifK_ok h2
      obtain ⟨g2, h4⟩ := ifK_ok h3
      obtain ⟨g3, h5⟩ := ifK_ok h4
      obtain ⟨v, F', H', h6, h7, h8⟩ := agF_ok (m := m) hH (Nat.le_of_ble_eq_true g3) h5
      exact ⟨v, F', H', by rw [happ, if_neg h1, if_pos ⟨Nat.le_of_ble_eq_true g1, Nat.le_of_ble_eq_true g2, hs⟩]; exact h6, h7, h8⟩
    · have h1 : n + m ≤ cap := Nat.le_of_ble_eq_true h1
      rcases tlE_ok h2 with ⟨hne, h3⟩ | ⟨hne, h3⟩
      · obtain ⟨b, o, hb, hl, htp, hO, co, h4, h5⟩ := wrK_ok hH h3
        obtain ⟨C, e', lo, hi, hC, h6, h7, h8, o', h9, h10⟩ := upT_ok hO h4
        obtain ⟨F', h11, h12⟩ := h5 o' h10 _ h9 (by rw [hC]; exact ⟨(writeCells_sz _ _ _).symm, rfl⟩)
        refine ⟨_, F', _, ?_, h11, h12⟩
        rw [happ, if_pos h1]
        have hst : storeCellsA H ((⟨c, off, none⟩ : Addr).add (n * szT P e)) tl.vals = some (H.put c b (.cells (writeCells C (off + n * szT P e) tl.vals) e' (lo, hi))) := by
          rw [addr_add]
          unfold storeCellsA
          simp only [hb, hC]
          rw [if_pos]
          rw [hl, htp, h7]
          rw [show (decide (hi ≤ off + n * szT P e) || decide (off + n * szT P e + tl.vals.length ≤ lo) || lo == hi) = true from h8]
          have h6 : off + n * szT P e + tl.vals.length ≤ C.size := h6
          simp [h6]
        cases hv : tl.vals with
        | nil => exact absurd hv hne
        | cons y r =>
          rw [hv] at hst
          simp only [hst]
          rfl
      · obtain ⟨o, b, hb, hl, hO, h4⟩ := objK_ok hH h3
        obtain ⟨C, e', lo, hi, hC, h5⟩ := elSz_ok hO h4
        refine ⟨_, F, H, ?_, hH, h5⟩
        rw [happ, if_pos h1, hne]
        simp only [cells_of hb hl hC]
        rfl
  · replace h : apNo k F (bytesT P e) e m tl v = true := h
    unfold apNo at h
    split at h
    case h_2 => cases h
    rename_i n cap _
    obtain ⟨g1, h1⟩ := ifK_ok h
    obtain ⟨g2, h2⟩ := ifK_ok h1
    have g1 : n = 0 := Nat.eq_of_beq_eq_true g1
    have g2 : cap = 0 := Nat.eq_of_beq_eq_true g2
    subst g1; subst g2
    rcases tlE_ok h2 with ⟨hne, h3⟩ | ⟨hne, h3⟩
    · obtain ⟨g3, h4⟩ := ifK_ok h3
      obtain ⟨g4, h5⟩ := ifK_ok h4
      obtain ⟨o, h6, h7⟩ := clTl_ok h5
      obtain ⟨F', h8, h9⟩ := newG_ok hH h6 h7
      refine ⟨.ll H.next 0 m m, F', _, ?_, h8, h9⟩
      have hm : m ≠ 0 := fun e => hne (hml e)
      have g3 : m * bytesT P e ≤ 140737488355328 := Nat.le_of_ble_eq_true g3
      have g4 : m ≤ 140737488355328 := Nat.le_of_ble_eq_true g4
      unfold appendA
      simp only [he, hx, FV.val, hnx, ht, hz]
      rw [if_neg (by omega), if_pos (by simp only [Nat.zero_add]; exact ⟨g3, g4, hs⟩)]
      simp only [if_true, Nat.zero_add]
    · obtain ⟨g3, h4⟩ := ifK_ok h3
      have g3 : m = 0 := Nat.eq_of_beq_eq_true g3
      subst g3
      refine ⟨_, F, H, ?_, hH, h4⟩
      unfold appendA
      simp only [he, hx, FV.val, hnx, ht, hz, hne]
      rfl
  · cases h
end
end Go.Proofs.YtaadahhjdkkkaaaGreatDoor.Ev
