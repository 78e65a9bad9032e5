/-
  strings.Builder's copyCheck and String, as the machine has them.
  strings.Join, as the machine has it.
-/
import Derived.Test.YtenolmhnmcjndaaGreatDoorEvVmM
import Derived.Test.YtenolmhnmcjndaaGreatDoorEvBld
namespace Go.Proofs.YtenolmhnmcjndaaGreatDoor.Ev
set_option linter.unusedVariables false
set_option linter.unusedSimpArgs false
open Go

noncomputable def ccU (c o : Nat) (co : FObj → Bool) (ob : FObj) : Bool := FObj.rec (motive := fun _ => Bool) (fun n t e lo hi => Q.setK (.pp c o) t (fun t' => co (.cl n t' e lo hi)) o) (fun _ _ _ _ _ => false) (fun _ _ _ => false) (fun _ _ => false) ob
noncomputable def ccN (z : Bool) (v : Value) : Bool := match v with
  | .pointer none => z
  | _ => false
noncomputable def ccO (T : BT) (k : FV → FH → Bool) (F : FH) (c o : Nat) (ob : FObj) : Bool := FObj.rec (motive := fun _ => Bool)
  (fun n t e lo hi => ifK (ifK (ifK (Q.getK (onPO (fun c' o' => ifK (ifK (k (.tt []) F) (Nat.beq c' c)) (Nat.beq o' o)) (ccN (wrK (ccU c o) (k (.tt [])) F c)) false) t o) (inBT T e n o)) (Nat.beq lo 0)) (Nat.beq hi 0))
  (fun _ _ _ _ _ => false) (fun _ _ _ => false) (fun _ _ => false) ob
noncomputable def ccB (T : BT) (k : FV → FH → Bool) (F : FH) (c o : Nat) (fb : FBlk) : Bool := FBlk.rec (motive := fun _ => Bool) (fun ob _ => ccO T k F c o ob) (fun _ _ _ _ _ => false) fb
noncomputable def ccP (T : BT) (k : FV → FH → Bool) (F : FH) (c o : Nat) : Bool := FH.rec (motive := fun _ => Bool) (fun t _ _ => Q.getK (ccB T k F c o) t c) F
noncomputable def one1 (z : Bool) (f : FV → Bool) (l : List FV) : Bool := List.rec (motive := fun _ => Bool) z (fun v r _ => List.rec (motive := fun _ => Bool) (f v) (fun _ _ _ => z) r) l
theorem one1_ok {f : FV → Bool} {l : List FV} (h : one1 false f l = true) : ∃ v, l = [v] ∧ f v = true := by
  cases l with
  | nil => cases h
  | cons v r => cases r with
    | nil => exact ⟨v, rfl, h⟩
    | cons => cases h
noncomputable def fpCC (T : BT) : FnK := ⟨fun _ _ args k F => one1 false (onP (ccP T k F) false) args⟩

theorem fpCC_ok (T : BT) : FPrimOk (fpCC T) (fun _ => primCC T) := fun call ca N args k F H _ hH h => by
  obtain ⟨v, rfl, h⟩ := one1_ok (show one1 false (onP (ccP T k F) false) args = true from h)
  rcases onP_ok h with ⟨c, o, rfl, h⟩ | h
  case inr => cases h
  have h : Q.getK (ccB T k F c o) F.t c = true := by cases F; exact h
  obtain ⟨fb, h1, h2⟩ := Q.getK_ok h
  cases fb with
  | gg => cases h2
  | xx ob ver =>
    obtain ⟨b, hb, hO, _, hex, _, hl, ht⟩ := hH.xx h1
    have h2 : ccO T k F c o ob = true := h2
    cases ob with
    | yy => cases h2
    | it => cases h2
    | mp => cases h2
    | cl n t e lo hi =>
      obtain ⟨g1, h3⟩ := ifK_ok (show ifK _ (Nat.beq hi 0) = true from h2)
      obtain ⟨g2, h4⟩ := ifK_ok h3
      obtain ⟨g3, h5⟩ := ifK_ok h4
      have g1 : hi = 0 := Nat.eq_of_beq_eq_true g1
      have g2 : lo = 0 := Nat.eq_of_beq_eq_true g2
      subst g1; subst g2
      obtain ⟨C, hC, hn, hget⟩ := hO
      subst hn
      obtain ⟨x, g4, g5⟩ := Q.getK_ok h5
      have hx := hget _ _ g4
      rcases onPO_ok g5 with ⟨c', o', rfl, g6⟩ | ⟨y, rfl, g6⟩ | g6
      · obtain ⟨g7, g8⟩ := ifK_ok g6
        obtain ⟨g9, g10⟩ := ifK_ok g8
        have g7 := Nat.eq_of_beq_eq_true g7
        have g9 := Nat.eq_of_beq_eq_true g9
        subst g7; subst g9
        refine ⟨.tt [], F, H, ?_, hH, g10⟩
        show primCC T [.pointer (some ⟨c', o', none⟩)] H = some (.tuple #[], H)
        have hx : C[o']? = some (.pointer (some ⟨c', o', none⟩)) := hx
        unfold primCC
        simp only [hb, hC]
        rw [if_pos ⟨hl, ht, hex, trivial, trivial, g3⟩]
        simp only [hx]
        rw [if_pos trivial]
      · have g6 : ccN (wrK (ccU c o) (k (.tt [])) F c) y = true := g6
        unfold ccN at g6
        split at g6
        case h_2 => cases g6
        obtain ⟨b1, o1, hb1, _, _, hO1, co, g7, g8⟩ := wrK_ok hH g6
        rw [hb] at hb1; cases hb1
        cases o1 with
        | yy => cases g7
        | it => cases g7
        | mp => cases g7
        | cl n1 t1 e1 lo1 hi1 =>
          obtain ⟨C1, hC1, hn1, hget1⟩ := hO1
          rw [hC] at hC1
          cases hC1
          subst hn1
          obtain ⟨t', g9, g10⟩ := Q.setK_ok (show Q.setK (.pp c o) t1 (fun t' => co (.cl C.size t' e 0 0)) o = true from g7)
          have hlt : o < C.size := (Array.getElem?_eq_some_iff.1 hx).1
          obtain ⟨F', g11, g12⟩ := g8 _ g9 (.cells (C.setIfInBounds o (.pointer (some ⟨c, o, none⟩))) e (0, 0)) ⟨_, rfl, by simp, fun i f hf => by
            rw [g10] at hf
            rw [Array.getElem?_setIfInBounds]
            by_cases hi : i = o
            · rw [if_pos hi] at hf; cases hf
              rw [if_pos hi.symm, if_pos (by omega)]; rfl
            · rw [if_neg hi] at hf
              rw [if_neg (fun e => hi e.symm)]
              exact hget1 _ _ hf⟩ (by rw [hC]; exact ⟨by simp, rfl⟩)
          refine ⟨.tt [], F', _, ?_, g11, g12⟩
          show primCC T [.pointer (some ⟨c, o, none⟩)] H = some (.tuple #[], _)
          have hx : C[o]? = some (.pointer none) := hx
          unfold primCC
          simp only [hb, hC]
          rw [if_pos ⟨hl, ht, hex, trivial, trivial, g3⟩]
          simp only [hx]
      · cases g6

noncomputable def stU (tb off n : Nat) (co : FObj → Bool) (ob : FObj) : Bool := FObj.rec (motive := fun _ => Bool) (fun _ _ _ _ _ => false) (fun N x e _ _ => ifK (ifK (co (.yy N x e 0 N)) (Nat.ble (Nat.add off n) N)) (Nat.beq e tb)) (fun _ _ _ => false) (fun _ _ => false) ob
def hdF : FObj := .yy 0 0 0 0 0
noncomputable def stK (k : FV → FH → Bool) (n y : Nat) (_ : Nat) (F : FH) : Bool := k (.ss n y) F
noncomputable def stO (tb : Nat) (k : FV → FH → Bool) (F : FH) (a off n root : Nat) (ob : FObj) : Bool := FObj.rec (motive := fun _ => Bool) (fun _ _ _ _ _ => false) (fun _ x _ _ _ => natK (fun y => wrK (stU tb off n) (copyG (stK k n y) hdF root) F a) (Nat.shiftRight x (Nat.mul 8 off))) (fun _ _ _ => false) (fun _ _ => false) ob
noncomputable def stB (tb : Nat) (k : FV → FH → Bool) (F : FH) (a off n : Nat) (fb : FBlk) : Bool := FBlk.rec (motive := fun _ => Bool) (fun _ _ => false) (fun ob root _ _ _ => stO tb k F a off n root ob) fb
noncomputable def stL (tb : Nat) (k : FV → FH → Bool) (F : FH) (a off n cap : Nat) : Bool := ifK (ifK (ifK (FH.rec (motive := fun _ => Bool) (fun t _ _ => Q.getK (stB tb k F a off n) t a) F) (Nat.ble n 9223372036854775807)) (Nat.ble n cap)) (Nat.ble 1 n)
noncomputable def stN (z : Bool) (v : Value) : Bool := match v with
  | .slice none 0 0 => z
  | _ => false
noncomputable def stC (tb : Nat) (k : FV → FH → Bool) (F : FH) (v : FV) : Bool := onL (stL tb k F) (stN (k (.ss 0 0) F)) false v
noncomputable def fpStr (tb : Nat) : FnK := ⟨fun _ _ args k F => one1 false (onP (fun c o => cellK (stC tb k F) F c (Nat.succ o)) false) args⟩

theorem bytesS_by : ∀ l : List UInt8, bytesS (l.map byteC) = some l
  | [] => rfl
  | b :: r => by
    have e : UInt8.ofNat (Int.ofNat b.toNat).toNat = b := by
      apply UInt8.toNat.inj
      simp
    simp only [List.map_cons, byteC, bytesS, bytesS_by r, e]
    exact if_pos rfl
theorem fpStr_ok (tb : Nat) : FPrimOk (fpStr tb) (fun _ => primStr tb) := fun call ca N args k F H _ hH h => by
  obtain ⟨v, rfl, h⟩ := one1_ok (show one1 false (onP (fun c o => cellK (stC tb k F) F c (Nat.succ o)) false) args = true from h)
  rcases onP_ok h with ⟨c, o, rfl, h⟩ | h
  case inr => cases h
  obtain ⟨C, e0, fr, f, hcs, hx, h⟩ := cellK_ok hH h
  have hx : C[o + 1]? = some f.val := hx
  rcases onL_ok (show onL (stL tb k F) (stN (k (.ss 0 0) F)) false f = true from h) with ⟨a, off, n, cap, rfl, h⟩ | ⟨y, rfl, h⟩ | h
  · obtain ⟨g1, h⟩ := ifK_ok (show ifK _ (Nat.ble 1 n) = true from h)
    obtain ⟨g2, h⟩ := ifK_ok h
    obtain ⟨g3, h⟩ := ifK_ok h
    have g1 : 0 < n := Nat.le_of_ble_eq_true g1
    have g2 := Nat.le_of_ble_eq_true g2
    have g3 := Nat.le_of_ble_eq_true g3
    have h : Q.getK (stB tb k F a off n) F.t a = true := by cases F; exact h
    obtain ⟨fb, h1, h2⟩ := Q.getK_ok h
    cases fb with
    | xx => cases h2
    | gg ob root ver hd fl =>
      obtain ⟨b, hb, hex, hroot, _, hO, hgr⟩ := hH.blk _ _ h1
      have h2 : stO tb k F a off n root ob = true := h2
      cases ob with
      | cl => cases h2
      | it => cases h2
      | mp => cases h2
      | yy N2 x e lo hi =>
        have h2 : natK (fun y => wrK (stU tb off n) (copyG (stK k n y) hdF root) F a) (Nat.shiftRight x (Nat.mul 8 off)) = true := h2
        rw [natK_eq] at h2
        obtain ⟨b1, o1, hb1, hl, ht, hO1, co, g7, g8⟩ := wrK_ok hH h2
        rw [hb] at hb1; cases hb1
        cases o1 with
        | cl => cases g7
        | it => cases g7
        | mp => cases g7
        | yy N3 x3 e3 lo3 hi3 =>
          obtain ⟨g9, g10⟩ := ifK_ok (show ifK _ (Nat.beq e3 tb) = true from g7)
          obtain ⟨g11, g12⟩ := ifK_ok g10
          have g9 := Nat.eq_of_beq_eq_true g9
          subst g9
          have g11 : off + n ≤ N3 := Nat.le_of_ble_eq_true g11
          have hO : b.obj = .cells ((bytesL N2 x).map byteC).toArray e (lo, hi) := hO
          have hO1 : b.obj = .cells ((bytesL N3 x3).map byteC).toArray e3 (lo3, hi3) := hO1
          have hsz : ((bytesL N3 x3).map byteC).toArray.size = N3 := by simp [bytesL_len]
          have hxx : bytesL N2 x = bytesL N3 x3 := by
            rw [hO] at hO1
            have := congrArg (fun o : Obj => match o with | .cells C _ _ => C.toList | _ => []) hO1
            simp only at this
            refine List.map_inj_right (f := byteC) ?_ |>.1 this
            intro p q hpq
            unfold byteC at hpq
            apply UInt8.toNat.inj
            have := (Value.int.inj hpq).2
            exact Int.ofNat.inj this
          have hNN : N2 = N3 := by have := congrArg List.length hxx; simpa [bytesL_len] using this
          subst hNN
          obtain ⟨F', g13, g14⟩ := g8 _ g12 (.cells ((bytesL N2 x3).map byteC).toArray e3 (0, N2)) rfl (by rw [hO1]; exact ⟨rfl, rfl⟩)
          obtain ⟨F2, g15, g16⟩ := copyG_ok (O := hdO) (c := a) (b := { b with obj := .cells ((bytesL N2 x3).map byteC).toArray e3 (0, N2), ver := H.clock }) g13 (by rw [blk_put, if_pos rfl]) hex hroot (show FObjR hdF hdO from rfl) g14
          refine ⟨.ss n (Nat.shiftRight x (Nat.mul 8 off)), F2, _, ?_, g15, g16⟩
          show primStr e3 [.pointer (some ⟨c, o, none⟩)] H = some (_, _)
          have hx : C[o + 1]? = some (.slice (some ⟨a, off, none⟩) n cap) := hx
          unfold primStr
          simp only [hcs, hx, hb, hO1]
          rw [if_pos ⟨hl, ht, hex, trivial, g1, by rw [hsz]; exact g11, g2, g3⟩]
          have hrow : (((bytesL N2 x3).map byteC).toArray.extract off (off + n)).toList = (bytesL n (Nat.shiftRight x (Nat.mul 8 off))).map byteC := by
            rw [← hxx]
            show _ = List.map byteC (bytesL n (Nat.shiftRight x (8 * off)))
            rw [← bytes_part g11]
            rw [Array.toList_extract, List.extract_eq_take_drop, show off + n - off = n by omega, List.map_take, List.map_drop]
          rw [hrow, bytesS_by]
          simp only [hsz]
          unfold AH.shutPut
          rw [hroot]
          rfl
  · have h : stN (k (.ss 0 0) F) y = true := h
    unfold stN at h
    split at h
    case h_2 => cases h
    refine ⟨.ss 0 0, F, H, ?_, hH, h⟩
    show primStr tb [.pointer (some ⟨c, o, none⟩)] H = some (_, _)
    have hx : C[o + 1]? = some (.slice none 0 0) := hx
    unfold primStr
    simp only [hcs, hx]
    rfl
  · cases h
/-- A function of a string that gives a truth, reckoned by itself. -/
noncomputable def fpFlat (P : Program) (tab : FT) (f : FuncId) : FnK := ⟨fun _ _ args k F => one1 false (onS (fun n x => vmFn P noPrims (fun _ => failF) tab 5000 f [.ss n x] (fun r _ => onB (fun b => k (.bb b) F) false r) emptyF) false) args⟩
theorem fpFlat_ok {P : Program} {tab : FT} {f : FuncId} (ht : TabOk P (fun _ => false) tab) : FPrimOk (fpFlat P tab f) (fun _ => primFlat P f) := fun call ca N args k F H _ hH h => by
  obtain ⟨v, rfl, h⟩ := one1_ok (show one1 false (onS (fun n x => vmFn P noPrims (fun _ => failF) tab 5000 f [.ss n x] (fun r _ => onB (fun b => k (.bb b) F) false r) emptyF) false) args = true from h)
  rcases onS_ok h with ⟨n, x, rfl, h⟩ | h
  case inr => cases h
  obtain ⟨r, F', H', h1, _, h2⟩ := vmFn_ok (prims := noPrims) (fp := fun _ => failF) (fun f g h => by cases h) ht 5000 f [.ss n x] _ emptyF AH.empty empty_R h
  rcases onB_ok (show onB (fun b => k (.bb b) F) false r = true from h2) with ⟨b, rfl, h3⟩ | h3
  case inr => cases h3
  refine ⟨.bb b, F, H, ?_, hH, h3⟩
  show primFlat P f [.string (bytesA n x)] H = some (.bool b, H)
  have h1 : evFn P noPrims 5000 f [.string (bytesA n x)] AH.empty = some (.bool b, H') := h1
  have h2 : flatVal P f [.string (bytesA n x)] = some (.bool b) := by
    unfold flatVal
    rw [if_pos (show ([Value.string (bytesA n x)].all flatB) = true from rfl)]
    simp only [h1]
    rfl
  unfold primFlat
  rw [h2]
  rfl
end Go.Proofs.YtenolmhnmcjndaaGreatDoor.Ev
namespace Go.Proofs.YtenolmhnmcjndaaGreatDoor.Ev
set_option linter.unusedVariables false
set_option linter.unusedSimpArgs false
open Go
noncomputable def jnS (sn sx : Nat) (ih : Nat → Nat → Bool) (len acc n x : Nat) : Bool := natK (fun l1 => natK (fun a1 => natK (fun l2 => natK (fun a2 => ih l2 a2) (catN l1 a1 x)) (Nat.add l1 n)) (catN len acc sx)) (Nat.add len sn)
noncomputable def jnL (sn sx : Nat) (l : List FV) (k : Nat → Nat → Bool) : Nat → Nat → Bool := List.rec (motive := fun _ => Nat → Nat → Bool) (fun len acc => k len acc) (fun v _ ih len acc => onS (jnS sn sx ih len acc) false v) l
theorem jnL_ok {sn sx : Nat} : ∀ (l : List FV) (k : Nat → Nat → Bool) (len acc : Nat), jnL sn sx l k len acc = true →
    ∃ xs len' acc', strsC (FV.vals l) = some xs ∧ bytesL len' acc' = bytesL len acc ++ Lib.joinTail (bytesL sn sx) (xs.map (·.data.toList)) ∧ k len' acc' = true
  | [], k, len, acc, h => ⟨[], len, acc, rfl, by simp [Lib.joinTail], h⟩
  | v :: r, k, len, acc, h => by
    rcases onS_ok (show onS (jnS sn sx (jnL sn sx r k) len acc) false v = true from h) with ⟨n, x, rfl, h⟩ | h
    · have h : jnS sn sx (jnL sn sx r k) len acc n x = true := h
      unfold jnS at h
      rw [natK_eq, natK_eq, natK_eq, natK_eq] at h
      obtain ⟨xs, len', acc', h1, h2, h3⟩ := jnL_ok r k _ _ h
      refine ⟨bytesA n x :: xs, len', acc', ?_, ?_, h3⟩
      · rw [FV.vals, FV.val, strsC, h1]
      · rw [h2]
        have e1 : ∀ n x m y, bytesL (Nat.add n m) (catN n x y) = bytesL n x ++ bytesL m y := fun n x m y => bytesL_app m y n x
        rw [e1, e1]
        simp [Lib.joinTail, bytesA, List.append_assoc]
    · cases h
noncomputable def two2 (z : Bool) (f : FV → FV → Bool) (l : List FV) : Bool := List.rec (motive := fun _ => Bool) z (fun v r _ => one1 z (f v) r) l
theorem two2_ok {f : FV → FV → Bool} {l : List FV} (h : two2 false f l = true) : ∃ v u, l = [v, u] ∧ f v u = true := by
  cases l with
  | nil => cases h
  | cons v r =>
    obtain ⟨u, rfl, h⟩ := one1_ok (show one1 false (f v) r = true from h)
    exact ⟨v, u, rfl, h⟩
noncomputable def jnE (k : FV → FH → Bool) (F : FH) (len acc : Nat) : Bool := ifK (k (.ss len acc) F) (Nat.ble len 1000000)
noncomputable def jnC (k : FV → FH → Bool) (F : FH) (sn sx : Nat) (l : List FV) : Bool := List.rec (motive := fun _ => Bool) false (fun v r _ => onS (jnL sn sx r (jnE k F)) false v) l
noncomputable def jnA (k : FV → FH → Bool) (F : FH) (sn sx c off n cap : Nat) : Bool := ifK (ifK (ifK (cellsK (jnC k F sn sx) F c off n) (Nat.ble n 1000000)) (Nat.ble n cap)) (Nat.ble 1 n)
noncomputable def fpJoin : FnK := ⟨fun _ _ args k F => two2 false (fun v u => onS (fun sn sx => onL (jnA k F sn sx) (stN (k (.ss 0 0) F)) false v) false u) args⟩
theorem fpJoin_ok : FPrimOk fpJoin (fun _ => primJoin) := fun call ca N args k F H _ hH h => by
  obtain ⟨v, u, rfl, h⟩ := two2_ok (show two2 false (fun v u => onS (fun sn sx => onL (jnA k F sn sx) (stN (k (.ss 0 0) F)) false v) false u) args = true from h)
  rcases onS_ok h with ⟨sn, sx, rfl, h⟩ | h
  case inr => cases h
  rcases onL_ok h with ⟨c, off, n, cap, rfl, h⟩ | ⟨y, rfl, h⟩ | h
  · obtain ⟨g1, h⟩ := ifK_ok (show ifK _ (Nat.ble 1 n) = true from h)
    obtain ⟨g2, h⟩ := ifK_ok h
    obtain ⟨g3, h⟩ := ifK_ok h
    have g1 : 0 < n := Nat.le_of_ble_eq_true g1
    have g2 := Nat.le_of_ble_eq_true g2
    have g3 := Nat.le_of_ble_eq_true g3
    obtain ⟨C, e, fr, l, h1, h2, h3, h4, h5⟩ := cellsK_ok hH h
    cases l with
    | nil => cases h5
    | cons v r =>
      rcases onS_ok (show onS (jnL sn sx r (jnE k F)) false v = true from h5) with ⟨m, y, rfl, h6⟩ | h6
      case inr => cases h6
      obtain ⟨xs, len', acc', h7, h8, h9⟩ := jnL_ok r _ m y h6
      obtain ⟨g4, h10⟩ := ifK_ok (show ifK (k (.ss len' acc') F) (Nat.ble len' 1000000) = true from h9)
      have g4 := Nat.le_of_ble_eq_true g4
      refine ⟨.ss len' acc', F, H, ?_, hH, h10⟩
      show primJoin [.slice (some ⟨c, off, none⟩) n cap, .string (bytesA sn sx)] H = some (.string (bytesA len' acc'), H)
      have hj : joinB (bytesA m y :: xs) (bytesA sn sx) = bytesL len' acc' := by
        unfold joinB
        rw [List.map_cons, Lib.join_cons, h8]
        simp [bytesA]
      have hst : strsC (FV.vals (.ss m y :: r)) = some (bytesA m y :: xs) := by rw [FV.vals, FV.val, strsC, h7]
      unfold primJoin
      simp only [h1]
      rw [if_pos ⟨g1, g2, g3, h2⟩, h3, hst]
      simp only [hj]
      rw [if_pos (by rw [bytesL_len]; exact g4)]
      rfl
  · have h : stN (k (.ss 0 0) F) y = true := h
    unfold stN at h
    split at h
    case h_2 => cases h
    refine ⟨.ss 0 0, F, H, ?_, hH, h⟩
    show primJoin [.slice none 0 0, .string (bytesA sn sx)] H = some (_, _)
    unfold primJoin
    rfl
  · cases h
end Go.Proofs.YtenolmhnmcjndaaGreatDoor.Ev
