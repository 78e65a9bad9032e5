/-
  The machine's operations on the heap: conversions, functions, interfaces, maps, calls.
-/
import Derived.Test.YtaadahhjdkkkaaaGreatDoorEvVmH
namespace Go.Proofs.YtaadahhjdkkkaaaGreatDoor.Ev
set_option linter.unusedVariables false
set_option linter.unusedSimpArgs false
open Go
section
variable {E : Type} {I : EnvI E} {n : Nat} {P : Program} {F : FH} {H : AH}

/-! ### Conversions -/
noncomputable def cvSB (I : EnvI E) (n : Nat) (e : TypeId) (x : Operand) : BodyK E := GetK.rec (motive := fun _ => BodyK E) (fun gx => ⟨fun _ k t F => onS (fun n x => natK (fun n1 => newG (slcK k n n) (.yy n x e n n1) F) (Nat.succ n)) false (gx t)⟩) (opdS I n x)
theorem cvSB_ok {o : Oper} {src dst e : TypeId} {x : Operand} (ho : o.op = .convert src dst x) (hs : P.underlying src = some .string) (hd : P.underlying dst = some (.slice e)) (he : P.underlying e = some (.int .u8)) (hz : szT P e = 1) : BodyOk I n P o (cvSB I n e x) := fun call ca ev en F H k hc hr hH h => by
  have h : onS (fun n x => natK (fun n1 => newG (slcK k n n) (.yy n x e n n1) F) (Nat.succ n)) false ((opdS I n x).run ev) = true := h
  rcases onS_ok h with ⟨m, s, hx, h⟩ | h
  · rw [natK_eq] at h
    have hx : rho en x = .string (bytesA m s) := by rw [← opdS_ok hr, hx]; rfl
    obtain ⟨F', h1, h2⟩ := newG_ok (o := .yy m s e m (m + 1)) hH rfl h
    refine ⟨.ll H.next 0 m m, F', _, ?_, h1, h2⟩
    unfold evOp
    simp only [ho, convertA, hs, hd, hx, he, hz]
    have e1 : (bytesA m s).data.map (fun b => Value.int .u8 (b.toNat : Int)) = ((bytesL m s).map byteC).toArray := by
      apply Array.ext'
      simp [bytesA]
      intro a _; rfl
    rw [e1, bytesA_size]
    rfl
  · cases h
noncomputable def ofBy (k : FV → FH → Bool) (F : FH) (o n : Nat) (ob : FObj) : Bool := FObj.rec (motive := fun _ => Bool) (fun _ _ _ _ _ => false) (fun N x _ _ _ => ifK (natK (fun y => k (.ss n y) F) (Nat.shiftRight x (Nat.mul 8 o))) (Nat.ble (Nat.add o n) N)) (fun _ _ _ => false) (fun _ _ => false) ob
noncomputable def cvBSn (k : FV → FH → Bool) (F : FH) (v : Value) : Bool := match v with
  | .slice none m _ => ifK (k (.ss 0 0) F) (Nat.beq m 0)
  | _ => false
noncomputable def cvBS (I : EnvI E) (n : Nat) (x : Operand) : BodyK E := GetK.rec (motive := fun _ => BodyK E) (fun gx => ⟨fun _ k t F => onL (fun c o n _ => objK (ofBy k F o n) F c) (cvBSn k F) false (gx t)⟩) (opdS I n x)
theorem bytesOfCells_by : ∀ l : List UInt8, bytesOfCells (l.map byteC) = some l
  | [] => rfl
  | b :: r => by
    simp only [List.map_cons, byteC, bytesOfCells, bytesOfCells_by r]
    congr 2
    apply UInt8.toNat.inj
    simp
theorem cvBS_ok {o : Oper} {src dst e : TypeId} {x : Operand} (ho : o.op = .convert src dst x) (hs : P.underlying src = some (.slice e)) (hd : P.underlying dst = some .string) (he : P.underlying e = some (.int .u8)) : BodyOk I n P o (cvBS I n x) := fun call ca ev en F H k hc hr hH h => by
  have h : onL (fun c o n _ => objK (ofBy k F o n) F c) (cvBSn k F) false ((opdS I n x).run ev) = true := h
  rcases onL_ok h with ⟨c, off, m, cap, hx, h⟩ | ⟨v, hx, h⟩ | h
  · have hx : rho en x = .slice (some ⟨c, off, none⟩) m cap := by rw [← opdS_ok hr, hx]; rfl
    obtain ⟨ob, b, hb, hl, hO, h2⟩ := objK_ok hH h
    cases ob with
    | cl => cases h2
    | it => cases h2
    | mp => cases h2
    | yy N s el lo hi =>
      obtain ⟨h3, h4⟩ := ifK_ok (show ifK _ (Nat.ble (Nat.add off m) N) = true from h2)
      rw [natK_eq] at h4
      have h3 : off + m ≤ N := Nat.le_of_ble_eq_true h3
      refine ⟨_, F, H, ?_, hH, h4⟩
      unfold evOp
      simp only [ho, convertA, hs, hd, hx, he]
      rw [rowA_of (cells_of hb hl hO) (by simpa [bytesL_len] using h3)]
      simp only [← List.map_drop, ← List.map_take]
      rw [bytes_part h3, bytesOfCells_by]
      rfl
  · have h : cvBSn k F v = true := h
    unfold cvBSn at h
    split at h
    case h_2 => cases h
    rename_i m cap _
    obtain ⟨h1, h2⟩ := ifK_ok h
    have h1 := Nat.eq_of_beq_eq_true h1
    subst h1
    have hx : rho en x = .slice none 0 cap := by rw [← opdS_ok hr, hx]; rfl
    refine ⟨.ss 0 0, F, H, ?_, hH, h2⟩
    unfold evOp
    simp only [ho, convertA, hs, hd, hx, he, rowA, if_true, bytesOfCells]
    rfl
  · cases h
/-- Texts as rows of runes, and back: by hand of the model. -/
noncomputable def cvSR2 (k : FV → FH → Bool) (F : FH) (e : TypeId) (l : List FV) : Bool := natK (fun m => layL (fun q => newG (slcK k m m) (.cl m q e 0 0) F) l) (lenL l)
noncomputable def runesVm (n x : Nat) (k : List FV → Bool) : Nat → Nat → Bool := fun fu => Nat.rec (motive := fun _ => (List FV → Bool) → Nat → Bool) (fun k _ => k []) (fun _ ih k pos =>
  iteK (k []) (natK (fun b => iteK (natK (fun r => natK (fun w => ih (fun l => k (.ii .i32 (.ofNat r) :: l)) (Nat.add pos w)) (Utf8.decode (bytesA n x) pos).2) (Utf8.decode (bytesA n x) pos).1) (natK (fun p => ih (fun l => k (.ii .i32 (.ofNat b) :: l)) p) (Nat.succ pos)) (Nat.ble (Nat.succ b) 128)) (Nat.mod (Nat.shiftRight x (Nat.mul 8 pos)) 256)) (Nat.ble (Nat.succ pos) n)) fu k
theorem runesVm_ok {m s : Nat} : ∀ (fu : Nat) (k : List FV → Bool) (pos : Nat) (acc : Array Value), runesVm m s k fu pos = true → ∃ l, Conv.runesFrom (bytesA m s) fu pos acc = acc ++ (FV.vals l).toArray ∧ (FV.vals l).all flat1 = true ∧ k l = true
  | 0, k, pos, acc, h => ⟨[], by simp [Conv.runesFrom, FV.vals], rfl, h⟩
  | fu + 1, k, pos, acc, h => by
    rcases iteK_ok (show iteK (k []) _ (Nat.ble (Nat.succ pos) m) = true from h) with ⟨h1, h2⟩ | ⟨h1, h2⟩
    · have h1 : ¬ pos < m := fun hlt => by rw [Nat.ble_eq_true_of_le hlt] at h1; cases h1
      refine ⟨[], ?_, rfl, h2⟩
      rw [Conv.runesFrom, if_neg (by rw [bytesA_size]; exact h1)]
      simp [FV.vals]
    · have h1 : pos < m := Nat.le_of_ble_eq_true h1
      have go : ∀ d : Nat × Nat, Utf8.decode (bytesA m s) pos = d → ∀ k2, runesVm m s k2 fu (pos + d.2) = true → (∀ l, k2 l = true → k (.ii .i32 (.ofNat d.1) :: l) = true) → ∃ l, Conv.runesFrom (bytesA m s) (fu + 1) pos acc = acc ++ (FV.vals l).toArray ∧ (FV.vals l).all flat1 = true ∧ k l = true := fun d hd k2 h3 h4 => by
        obtain ⟨l, h5, h6, h7⟩ := runesVm_ok fu k2 (pos + d.2) (acc.push (.int .i32 (Int.ofNat d.1))) h3
        refine ⟨_ :: l, ?_, ?_, h4 l h7⟩
        · rw [Conv.runesFrom, if_pos (by rw [bytesA_size]; exact h1), hd]
          simp only
          rw [h5]
          simp [FV.vals, FV.val]
        · rw [FV.vals, List.all_cons, h6]; rfl
      rw [natK_eq] at h2
      rcases iteK_ok h2 with ⟨_, h3⟩ | ⟨h3, h4⟩
      · rw [natK_eq, natK_eq] at h3
        exact go _ rfl _ h3 (fun l hl => hl)
      · rw [natK_eq] at h4
        exact go _ (decode_ascii h1 (Nat.le_of_ble_eq_true h3)) _ h4 (fun l hl => hl)
noncomputable def cvSR (I : EnvI E) (n : Nat) (e : TypeId) (x : Operand) : BodyK E := GetK.rec (motive := fun _ => BodyK E) (fun gx => ⟨fun _ k t F => onS (fun n x => runesVm n x (cvSR2 k F e) n 0) false (gx t)⟩) (opdS I n x)
theorem cvSR_ok {o : Oper} {src dst e : TypeId} {x : Operand} (ho : o.op = .convert src dst x) (hs : P.underlying src = some .string) (hd : P.underlying dst = some (.slice e)) (he : P.underlying e = some (.int .i32)) (hz : szT P e = 1) : BodyOk I n P o (cvSR I n e x) := fun call ca ev en F H k hc hr hH h => by
  have h : onS (fun n x => runesVm n x (cvSR2 k F e) n 0) false ((opdS I n x).run ev) = true := h
  rcases onS_ok h with ⟨m, s, hx, h⟩ | h
  · have hx : rho en x = .string (bytesA m s) := by rw [← opdS_ok hr, hx]; rfl
    obtain ⟨l, h1, h2, h3⟩ := runesVm_ok m _ 0 #[] h
    unfold cvSR2 at h3
    rw [natK_eq] at h3
    obtain ⟨q, h4, h5⟩ := layL_ok h3
    obtain ⟨F', h6, h7⟩ := newG_ok hH (clR (C := (FV.vals l).toArray) (e := e) (lo := 0) (hi := 0) h4 rfl (lenL_eq l)) h5
    refine ⟨.ll H.next 0 l.length l.length, F', _, ?_, h6, by rw [lenL_eq] at h7; exact h7⟩
    unfold evOp
    simp only [ho, convertA, hs, hd, hx, he, hz, bytesA_size]
    rw [h1]
    simp only [Array.empty_append, h2, cond_true]
    simp [vals_len, FV.val]
  · cases h
noncomputable def ruB (k : Nat → Nat → Bool) (len acc : Nat) (kd : IntKind) (b : Int) : Bool :=
  ifK (natK (fun m => natK (fun y => natK (fun len' => natK (fun acc' => k len' acc') (catN len acc y)) (Nat.add len m)) (packL (Utf8.encode b).data.toList)) (Utf8.encode b).data.toList.length) (decide (kd = .i32))
noncomputable def ruL (l : List FV) (k : Nat → Nat → Bool) : Nat → Nat → Bool := List.rec (motive := fun _ => Nat → Nat → Bool) (fun len acc => k len acc) (fun v _ ih len acc => onInt (fun _ => false) (ruB ih len acc) false v) l
theorem ruL_ok : ∀ (l : List FV) (k : Nat → Nat → Bool) (len acc : Nat), ruL l k len acc = true → ∃ len' acc', runesOfCells (FV.vals l) (bytesA len acc) = some (bytesA len' acc') ∧ k len' acc' = true
  | [], k, len, acc, h => ⟨len, acc, rfl, h⟩
  | v :: r, k, len, acc, h => by
    rcases onInt_ok (show onInt (fun _ => false) (ruB (ruL r k) len acc) false v = true from h) with ⟨_, _, h⟩ | ⟨kd, b, rfl, h⟩ | h
    · cases h
    · obtain ⟨h1, h2⟩ := ifK_ok h
      have h1 : kd = .i32 := of_decide_eq_true h1
      subst h1
      rw [natK_eq, natK_eq, natK_eq, natK_eq] at h2
      obtain ⟨len', acc', h3, h4⟩ := ruL_ok r k _ _ h2
      refine ⟨len', acc', ?_, h4⟩
      rw [FV.vals, FV.val, runesOfCells, ← h3]
      congr 1
      have : Utf8.encode b = bytesA (Utf8.encode b).data.toList.length (packL (Utf8.encode b).data.toList) := by
        apply ByteArray.ext
        apply Array.ext'
        simp only [bytesA, bytesL_pack]
      conv => lhs; rw [this]
      rw [cat_ok]; rfl
    · cases h
noncomputable def cvRSn (k : FV → FH → Bool) (F : FH) (v : Value) : Bool := match v with
  | .slice none m _ => ifK (k (.ss 0 0) F) (Nat.beq m 0)
  | _ => false
noncomputable def cvRS (I : EnvI E) (n : Nat) (x : Operand) : BodyK E := GetK.rec (motive := fun _ => BodyK E) (fun gx => ⟨fun _ k t F => onL (fun c o n _ => cellsK (fun l => ruL l (fun len acc => k (.ss len acc) F) 0 0) F c o n) (cvRSn k F) false (gx t)⟩) (opdS I n x)
theorem cvRS_ok {o : Oper} {src dst e : TypeId} {x : Operand} (ho : o.op = .convert src dst x) (hs : P.underlying src = some (.slice e)) (hd : P.underlying dst = some .string) (he : P.underlying e = some (.int .i32)) : BodyOk I n P o (cvRS I n x) := fun call ca ev en F H k hc hr hH h => by
  have h : onL (fun c o n _ => cellsK (fun l => ruL l (fun len acc => k (.ss len acc) F) 0 0) F c o n) (cvRSn k F) false ((opdS I n x).run ev) = true := h
  have e0 : bytesA 0 0 = ByteArray.empty := rfl
  rcases onL_ok h with ⟨c, off, m, cap, hx, h⟩ | ⟨v, hx, h⟩ | h
  · have hx : rho en x = .slice (some ⟨c, off, none⟩) m cap := by rw [← opdS_ok hr, hx]; rfl
    obtain ⟨C, el, fr, l, h1, h2, h3, h4, h5⟩ := cellsK_ok hH h
    obtain ⟨len', acc', h6, h7⟩ := ruL_ok l _ 0 0 h5
    refine ⟨.ss len' acc', F, H, ?_, hH, h7⟩
    unfold evOp
    simp only [ho, convertA, hs, hd, hx, he]
    rw [rowA_of h1 h2, h3]
    simp only
    rw [← e0, h6]
    rfl
  · have h : cvRSn k F v = true := h
    unfold cvRSn at h
    split at h
    case h_2 => cases h
    rename_i m cap _
    obtain ⟨h1, h2⟩ := ifK_ok h
    have h1 := Nat.eq_of_beq_eq_true h1
    subst h1
    have hx : rho en x = .slice none 0 cap := by rw [← opdS_ok hr, hx]; rfl
    refine ⟨.ss 0 0, F, H, ?_, hH, h2⟩
    unfold evOp
    simp only [ho, convertA, hs, hd, hx, he, rowA, if_true, runesOfCells]
    rfl
  · cases h
/-- The same row of bytes, of its own type: the place behind is marked. -/
noncomputable def mkO (co : FObj → Bool) (o : FObj) : Bool := FObj.rec (motive := fun _ => Bool) (fun _ _ _ _ _ => false) (fun N x e lo hi => ifK (ifK (ifK (natK (fun n1 => co (.yy N x e N n1)) (Nat.succ N)) (Nat.ble 1 N)) (Nat.beq hi 0)) (Nat.beq lo 0)) (fun _ _ _ => false) (fun _ _ => false) o
noncomputable def xxB (k : Bool) (fb : FBlk) : Bool := FBlk.rec (motive := fun _ => Bool) (fun _ _ => k) (fun _ _ _ _ _ => false) fb
noncomputable def cvSm (k : FV → FH → Bool) (F : FH) (c o n cap : Nat) : Bool := ifK (FH.rec (motive := fun _ => Bool) (fun t _ _ => Q.getK (xxB (wrK mkO (k (.ll c o n cap)) F c)) t c) F) (Nat.ble 1 n)
noncomputable def cvBB (I : EnvI E) (n : Nat) (x : Operand) : BodyK E := GetK.rec (motive := fun _ => BodyK E) (fun gx => ⟨fun _ k t F => onL (cvSm k F) (fun _ => false) false (gx t)⟩) (opdS I n x)
theorem cvBB_ok {o : Oper} {src e : TypeId} {x : Operand} (ho : o.op = .convert src src x) (hs : P.underlying src = some (.slice e)) (he : P.underlying e = some (.int .u8)) : BodyOk I n P o (cvBB I n x) := fun call ca ev en F H k hc hr hH h => by
  have h : onL (cvSm k F) (fun _ => false) false ((opdS I n x).run ev) = true := h
  rcases onL_ok h with ⟨c, off, m, cap, hx, h⟩ | ⟨v, hx, h⟩ | h
  · have hx : rho en x = .slice (some ⟨c, off, none⟩) m cap := by rw [← opdS_ok hr, hx]; rfl
    obtain ⟨h1, h2⟩ := ifK_ok h
    have h1 : 0 < m := Nat.le_of_ble_eq_true h1
    have h2' : Q.getK (xxB (wrK mkO (k (.ll c off m cap)) F c)) F.t c = true := h2
    obtain ⟨fb, h3, h4⟩ := Q.getK_ok h2'
    cases fb with
    | gg => cases h4
    | xx o' ver =>
      obtain ⟨b, hb, hO, _, hex, _, hl, ht⟩ := hH.xx h3
      obtain ⟨b1, o1, hb1, _, _, hO1, co, h5, h6⟩ := wrK_ok hH (show wrK mkO (k (.ll c off m cap)) F c = true from h4)
      rw [hb] at hb1; cases hb1
      cases o1 with
      | cl => cases h5
      | it => cases h5
      | mp => cases h5
      | yy N s el lo hi =>
        obtain ⟨g1, h7⟩ := ifK_ok (show ifK _ (Nat.beq lo 0) = true from h5)
        obtain ⟨g2, h8⟩ := ifK_ok h7
        obtain ⟨g3, h9⟩ := ifK_ok h8
        rw [natK_eq] at h9
        have g1 : lo = 0 := Nat.eq_of_beq_eq_true g1
        have g2 : hi = 0 := Nat.eq_of_beq_eq_true g2
        subst g1; subst g2
        have hO1 : b.obj = .cells ((bytesL N s).map byteC).toArray el (0, 0) := hO1
        obtain ⟨F', h10, h11⟩ := h6 _ h9 (.cells ((bytesL N s).map byteC).toArray el (N, N + 1)) rfl (by rw [hO1]; exact ⟨rfl, rfl⟩)
        refine ⟨_, F', _, ?_, h10, h11⟩
        have hN : ((bytesL N s).map byteC).toArray.size = N := by simp [bytesL_len]
        unfold evOp
        simp only [ho, convertA, hs, hx, he, Nat.beq_refl, show Nat.beq src src = true from Nat.beq_refl src, markedA, hb, hO1]
        rw [if_pos ⟨hl, ht, hex, h1, trivial, trivial, by rw [hN]; exact Nat.le_of_ble_eq_true g3⟩, hN]
        rfl
  · cases h
  · cases h
/-- Between kinds of numbers. -/
def kindMax : IntKind → Nat
  | .i8 => 127 | .i16 => 32767 | .i32 => 2147483647 | .i64 => 9223372036854775807 | .u8 => 255 | .u16 => 65535 | .u32 => 4294967295 | .u64 => 18446744073709551615
def kindV (kd : IntKind) (n : Nat) : FV := match kd with
  | .i64 => .nn n
  | kd => .ii kd (.ofNat n)
noncomputable def cvN (kd : IntKind) (mx : Nat) (k : FV → FH → Bool) (F : FH) (z : Bool) (a : Nat) : Bool := iteK z (k (kindV kd a) F) (Nat.ble a mx)
noncomputable def cvI (kd : IntKind) (mx : Nat) (k : FV → FH → Bool) (F : FH) (z : Bool) (kd' : IntKind) (a : Int) : Bool := Int.rec (motive := fun _ => Bool) (cvN kd mx k F z) (fun _ => z) a
noncomputable def cvII (I : EnvI E) (n : Nat) (P : Program) (o : Oper) (kd : IntKind) (x : Operand) : BodyK E :=
  natR (fun mx => GetK.rec (motive := fun _ => BodyK E) (fun gx => ⟨fun _ k t F => onInt (cvN kd mx k F (flatK I n P o (fun v => k v F) t)) (cvI kd mx k F (flatK I n P o (fun v => k v F) t)) (flatK I n P o (fun v => k v F) t) (gx t)⟩) (opdS I n x)) (kindMax kd)
theorem wrap_kind {kd : IntKind} {a : Nat} (h : a ≤ kindMax kd) : kd.wrap (a : Int) = a := by
  cases kd <;> simp only [kindMax] at h <;> simp only [IntKind.wrap, IntKind.bits, IntKind.signed] <;> simp <;> omega
theorem kindV_val (kd : IntKind) (a : Nat) : (kindV kd a).val = .int kd a := by cases kd <;> rfl
theorem cvII_ok {o : Oper} {src dst : TypeId} {x : Operand} {ks kd : IntKind} (ho : o.op = .convert src dst x) (hs : P.underlying src = some (.int ks)) (hd : P.underlying dst = some (.int kd)) : BodyFlat I n P o (cvII I n P o kd x) := fun call ev en F k hr h => by
  unfold cvII at h
  rw [natR_eq] at h
  have h : onInt (cvN kd (kindMax kd) k F (flatK I n P o (fun v => k v F) ev)) (cvI kd (kindMax kd) k F (flatK I n P o (fun v => k v F) ev)) (flatK I n P o (fun v => k v F) ev) ((opdS I n x).run ev) = true := h
  have hcn : ∀ y, convertA P AH.empty src dst y = none := fun y => by unfold convertA; rw [hs, hd]
  have hcn' : ∀ H y, convertA P H src dst y = none := fun H y => by unfold convertA; rw [hs, hd]
  have flat : flatK I n P o (fun v => k v F) ev = true → ∃ v : FV, (∀ ca H, HR F H → evOp P ca o (rho en) H = some (v.val, H)) ∧ k v F = true := fun hf => by
    obtain ⟨v, h1, h2⟩ := flatK_ok hr hf
    refine ⟨v, fun ca H _ => ?_, h2⟩
    unfold evOp
    simp only [ho, hcn', h1, Option.map_some]
  have fast : ∀ (a : Nat) (k2 : IntKind), rho en x = .int k2 a → cvN kd (kindMax kd) k F (flatK I n P o (fun v => k v F) ev) a = true → ∃ v : FV, (∀ ca H, HR F H → evOp P ca o (rho en) H = some (v.val, H)) ∧ k v F = true := fun a k2 hx hf => by
    rcases iteK_ok hf with ⟨_, hf⟩ | ⟨h1, h2⟩
    · exact flat hf
    · have h1 := Nat.le_of_ble_eq_true h1
      refine ⟨_, fun ca H _ => ?_, h2⟩
      have hf : flatOp P o (rho en) = some (.int kd a) := by
        refine flat_op (by rw [ho]; simp [Op.operands, hx, flatB, flat2, flat1, atomB]) ?_ rfl
        unfold execOp
        rw [ho]
        simp only [hx, convert, pr_bind, pr_pure, Option.bind_some, pr_underlying hs, pr_underlying hd, Conv.intToInt, wrap_kind h1]
      unfold evOp
      simp only [ho, hcn', hf, Option.map_some, kindV_val]
  rcases onInt_ok h with ⟨a, hx, h⟩ | ⟨k2, a, hx, h⟩ | h
  · exact fast a .i64 (by rw [← opdS_ok hr, hx]; rfl) h
  · cases a with
    | negSucc a => exact flat h
    | ofNat a => exact fast a k2 (by rw [← opdS_ok hr, hx]; rfl) h
  · exact flat h
noncomputable def cvFlat (I : EnvI E) (n : Nat) (P : Program) (o : Oper) : BodyK E := ⟨fun _ k t F => flatK I n P o (fun v => k v F) t⟩
theorem cvFlat_ok {o : Oper} {src dst : TypeId} {x : Operand} (ho : o.op = .convert src dst x) (hc : ∀ H y, convertA P H src dst y = none) : BodyFlat I n P o (cvFlat I n P o) := fun call ev en F k hr h => by
  obtain ⟨v, h1, h2⟩ := flatK_ok hr (show flatK I n P o (fun v => k v F) ev = true from h)
  refine ⟨v, fun ca H _ => ?_, h2⟩
  unfold evOp
  simp only [ho, hc, h1, Option.map_some]
noncomputable def convS2 (I : EnvI E) (n : Nat) (P : Program) (o : Oper) (src dst : TypeId) (x : Operand) : BodyK E :=
  match P.underlying src with
  | some .string => match P.underlying dst with
    | some (.slice e) => match P.underlying e with
      | some (.int .u8) => Bool.rec (motive := fun _ => BodyK E) failB (cvSB I n e x) (Nat.beq (szT P e) 1)
      | some (.int .i32) => Bool.rec (motive := fun _ => BodyK E) failB (cvSR I n e x) (Nat.beq (szT P e) 1)
      | _ => failB
    | some .string => cvFlat I n P o
    | _ => failB
  | some (.slice e) => match P.underlying dst with
    | some .string => match P.underlying e with
      | some (.int .u8) => cvBS I n x
      | some (.int .i32) => cvRS I n x
      | _ => failB
    | some (.slice _) => match P.underlying e with
      | some (.int .u8) => Bool.rec (motive := fun _ => BodyK E) failB (cvBB I n x) (Nat.beq src dst)
      | _ => failB
    | _ => failB
  | some (.int ks) => match P.underlying dst with
    | some (.int kd) => cvII I n P o kd x
    | some .string => cvFlat I n P o
    | _ => failB
  | _ => failB
theorem convS2_ok {o : Oper} {src dst : TypeId} {x : Operand} (ho : o.op = .convert src dst x) : BodyOk I n P o (convS2 I n P o src dst x) := by
  have fail : BodyOk I n P o failB := fun call ca ev en F H k hc hr hH h => by cases h
  unfold convS2
  split
  · rename_i hs
    split
    · rename_i e hd
      split
      · rename_i he
        cases hz : Nat.beq (szT P e) 1 with
        | false => exact fail
        | true => exact cvSB_ok ho hs hd he (Nat.eq_of_beq_eq_true hz)
      · rename_i he
        cases hz : Nat.beq (szT P e) 1 with
        | false => exact fail
        | true => exact cvSR_ok ho hs hd he (Nat.eq_of_beq_eq_true hz)
      · exact fail
    · rename_i hd
      exact (cvFlat_ok ho fun H y => by unfold convertA; rw [hs, hd]).ok
    · exact fail
  · rename_i e hs
    split
    · rename_i hd
      split
      · rename_i he; exact cvBS_ok ho hs hd he
      · rename_i he; exact cvRS_ok ho hs hd he
      · exact fail
    · rename_i hd
      split
      · rename_i he
        cases hz : Nat.beq src dst with
        | false => exact fail
        | true =>
          have hz : src = dst := Nat.eq_of_beq_eq_true hz
          subst hz
          exact cvBB_ok ho hs he
      · exact fail
    · exact fail
  · rename_i ks hs
    split
    · rename_i kd hd; exact (cvII_ok ho hs hd).ok
    · rename_i hd; exact (cvFlat_ok ho fun H y => by unfold convertA; rw [hs, hd]).ok
    · exact fail
  · exact fail
end
end Go.Proofs.YtaadahhjdkkkaaaGreatDoor.Ev
