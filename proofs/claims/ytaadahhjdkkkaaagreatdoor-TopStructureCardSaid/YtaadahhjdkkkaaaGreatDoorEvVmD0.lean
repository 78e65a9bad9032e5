/-
  The machine's values: looks at them.
-/
import Derived.Test.YtaadahhjdkkkaaaGreatDoorEvVmC
namespace Go.Proofs.YtaadahhjdkkkaaaGreatDoor.Ev
set_option linter.unusedVariables false
set_option linter.unusedSimpArgs false
open Go

inductive WonInt where
  | nn (a0 : Nat)
  | ii (a0 : IntKind) (a1 : Int)
  | no
noncomputable def wonInt (v : FV) : WonInt := FV.rec (motive_1 := fun _ => WonInt) (motive_2 := fun _ => WonInt) WonInt.nn WonInt.ii (fun _ => WonInt.no) (fun _ _ => WonInt.no) (fun _ _ => WonInt.no) (fun _ _ _ _ => WonInt.no) (fun _ => WonInt.no) (fun _ _ => WonInt.no) (fun _ _ => WonInt.no) (fun _ _ _ => WonInt.no) (fun _ _ _ => WonInt.no) (fun _ => WonInt.no) WonInt.no (fun _ _ _ _ => WonInt.no) v
noncomputable def onInt (knn : Nat → Bool) (kii : IntKind → Int → Bool) (z : Bool) (v : FV) : Bool := WonInt.rec (motive := fun _ => Bool) knn kii z (wonInt v)
theorem onInt_ok {knn : Nat → Bool} {kii : IntKind → Int → Bool} {z : Bool} {v : FV} (h : onInt knn kii z v = true) : (∃ a0, v = .nn a0 ∧ knn a0 = true) ∨ (∃ a0 a1, v = .ii a0 a1 ∧ kii a0 a1 = true) ∨ z = true := by
  cases v with
  | nn => exact .inl ⟨_, rfl, h⟩
  | ii => exact .inr (.inl ⟨_, _, rfl, h⟩)
  | bb => exact .inr (.inr h)
  | ss => exact .inr (.inr h)
  | pp => exact .inr (.inr h)
  | ll => exact .inr (.inr h)
  | mm => exact .inr (.inr h)
  | aa => exact .inr (.inr h)
  | tt => exact .inr (.inr h)
  | ff => exact .inr (.inr h)
  | cc => exact .inr (.inr h)
  | oo => exact .inr (.inr h)
inductive WonN where
  | nn (a0 : Nat)
  | no
noncomputable def wonN (v : FV) : WonN := FV.rec (motive_1 := fun _ => WonN) (motive_2 := fun _ => WonN) WonN.nn (fun _ _ => WonN.no) (fun _ => WonN.no) (fun _ _ => WonN.no) (fun _ _ => WonN.no) (fun _ _ _ _ => WonN.no) (fun _ => WonN.no) (fun _ _ => WonN.no) (fun _ _ => WonN.no) (fun _ _ _ => WonN.no) (fun _ _ _ => WonN.no) (fun _ => WonN.no) WonN.no (fun _ _ _ _ => WonN.no) v
noncomputable def onN (knn : Nat → Bool) (z : Bool) (v : FV) : Bool := WonN.rec (motive := fun _ => Bool) knn z (wonN v)
theorem onN_ok {knn : Nat → Bool} {z : Bool} {v : FV} (h : onN knn z v = true) : (∃ a0, v = .nn a0 ∧ knn a0 = true) ∨ z = true := by
  cases v with
  | nn => exact .inl ⟨_, rfl, h⟩
  | ii => exact .inr h
  | bb => exact .inr h
  | ss => exact .inr h
  | pp => exact .inr h
  | ll => exact .inr h
  | mm => exact .inr h
  | aa => exact .inr h
  | tt => exact .inr h
  | ff => exact .inr h
  | cc => exact .inr h
  | oo => exact .inr h
inductive WonB where
  | bb (a0 : Bool)
  | no
noncomputable def wonB (v : FV) : WonB := FV.rec (motive_1 := fun _ => WonB) (motive_2 := fun _ => WonB) (fun _ => WonB.no) (fun _ _ => WonB.no) WonB.bb (fun _ _ => WonB.no) (fun _ _ => WonB.no) (fun _ _ _ _ => WonB.no) (fun _ => WonB.no) (fun _ _ => WonB.no) (fun _ _ => WonB.no) (fun _ _ _ => WonB.no) (fun _ _ _ => WonB.no) (fun _ => WonB.no) WonB.no (fun _ _ _ _ => WonB.no) v
noncomputable def onB (kbb : Bool → Bool) (z : Bool) (v : FV) : Bool := WonB.rec (motive := fun _ => Bool) kbb z (wonB v)
theorem onB_ok {kbb : Bool → Bool} {z : Bool} {v : FV} (h : onB kbb z v = true) : (∃ a0, v = .bb a0 ∧ kbb a0 = true) ∨ z = true := by
  cases v with
  | nn => exact .inr h
  | ii => exact .inr h
  | bb => exact .inl ⟨_, rfl, h⟩
  | ss => exact .inr h
  | pp => exact .inr h
  | ll => exact .inr h
  | mm => exact .inr h
  | aa => exact .inr h
  | tt => exact .inr h
  | ff => exact .inr h
  | cc => exact .inr h
  | oo => exact .inr h
inductive WonS where
  | ss (a0 : Nat) (a1 : Nat)
  | no
noncomputable def wonS (v : FV) : WonS := FV.rec (motive_1 := fun _ => WonS) (motive_2 := fun _ => WonS) (fun _ => WonS.no) (fun _ _ => WonS.no) (fun _ => WonS.no) WonS.ss (fun _ _ => WonS.no) (fun _ _ _ _ => WonS.no) (fun _ => WonS.no) (fun _ _ => WonS.no) (fun _ _ => WonS.no) (fun _ _ _ => WonS.no) (fun _ _ _ => WonS.no) (fun _ => WonS.no) WonS.no (fun _ _ _ _ => WonS.no) v
noncomputable def onS (kss : Nat → Nat → Bool) (z : Bool) (v : FV) : Bool := WonS.rec (motive := fun _ => Bool) kss z (wonS v)
theorem onS_ok {kss : Nat → Nat → Bool} {z : Bool} {v : FV} (h : onS kss z v = true) : (∃ a0 a1, v = .ss a0 a1 ∧ kss a0 a1 = true) ∨ z = true := by
  cases v with
  | nn => exact .inr h
  | ii => exact .inr h
  | bb => exact .inr h
  | ss => exact .inl ⟨_, _, rfl, h⟩
  | pp => exact .inr h
  | ll => exact .inr h
  | mm => exact .inr h
  | aa => exact .inr h
  | tt => exact .inr h
  | ff => exact .inr h
  | cc => exact .inr h
  | oo => exact .inr h
inductive WonP where
  | pp (a0 : Nat) (a1 : Nat)
  | no
noncomputable def wonP (v : FV) : WonP := FV.rec (motive_1 := fun _ => WonP) (motive_2 := fun _ => WonP) (fun _ => WonP.no) (fun _ _ => WonP.no) (fun _ => WonP.no) (fun _ _ => WonP.no) WonP.pp (fun _ _ _ _ => WonP.no) (fun _ => WonP.no) (fun _ _ => WonP.no) (fun _ _ => WonP.no) (fun _ _ _ => WonP.no) (fun _ _ _ => WonP.no) (fun _ => WonP.no) WonP.no (fun _ _ _ _ => WonP.no) v
noncomputable def onP (kpp : Nat → Nat → Bool) (z : Bool) (v : FV) : Bool := WonP.rec (motive := fun _ => Bool) kpp z (wonP v)
theorem onP_ok {kpp : Nat → Nat → Bool} {z : Bool} {v : FV} (h : onP kpp z v = true) : (∃ a0 a1, v = .pp a0 a1 ∧ kpp a0 a1 = true) ∨ z = true := by
  cases v with
  | nn => exact .inr h
  | ii => exact .inr h
  | bb => exact .inr h
  | ss => exact .inr h
  | pp => exact .inl ⟨_, _, rfl, h⟩
  | ll => exact .inr h
  | mm => exact .inr h
  | aa => exact .inr h
  | tt => exact .inr h
  | ff => exact .inr h
  | cc => exact .inr h
  | oo => exact .inr h
inductive WonL where
  | ll (a0 : Nat) (a1 : Nat) (a2 : Nat) (a3 : Nat)
  | oo (a0 : Value)
  | no
noncomputable def wonL (v : FV) : WonL := FV.rec (motive_1 := fun _ => WonL) (motive_2 := fun _ => WonL) (fun _ => WonL.no) (fun _ _ => WonL.no) (fun _ => WonL.no) (fun _ _ => WonL.no) (fun _ _ => WonL.no) WonL.ll (fun _ => WonL.no) (fun _ _ => WonL.no) (fun _ _ => WonL.no) (fun _ _ _ => WonL.no) (fun _ _ _ => WonL.no) WonL.oo WonL.no (fun _ _ _ _ => WonL.no) v
noncomputable def onL (kll : Nat → Nat → Nat → Nat → Bool) (koo : Value → Bool) (z : Bool) (v : FV) : Bool := WonL.rec (motive := fun _ => Bool) kll koo z (wonL v)
theorem onL_ok {kll : Nat → Nat → Nat → Nat → Bool} {koo : Value → Bool} {z : Bool} {v : FV} (h : onL kll koo z v = true) : (∃ a0 a1 a2 a3, v = .ll a0 a1 a2 a3 ∧ kll a0 a1 a2 a3 = true) ∨ (∃ a0, v = .oo a0 ∧ koo a0 = true) ∨ z = true := by
  cases v with
  | nn => exact .inr (.inr h)
  | ii => exact .inr (.inr h)
  | bb => exact .inr (.inr h)
  | ss => exact .inr (.inr h)
  | pp => exact .inr (.inr h)
  | ll => exact .inl ⟨_, _, _, _, rfl, h⟩
  | mm => exact .inr (.inr h)
  | aa => exact .inr (.inr h)
  | tt => exact .inr (.inr h)
  | ff => exact .inr (.inr h)
  | cc => exact .inr (.inr h)
  | oo => exact .inr (.inl ⟨_, rfl, h⟩)
inductive WonM where
  | mm (a0 : Nat)
  | oo (a0 : Value)
  | no
noncomputable def wonM (v : FV) : WonM := FV.rec (motive_1 := fun _ => WonM) (motive_2 := fun _ => WonM) (fun _ => WonM.no) (fun _ _ => WonM.no) (fun _ => WonM.no) (fun _ _ => WonM.no) (fun _ _ => WonM.no) (fun _ _ _ _ => WonM.no) WonM.mm (fun _ _ => WonM.no) (fun _ _ => WonM.no) (fun _ _ _ => WonM.no) (fun _ _ _ => WonM.no) WonM.oo WonM.no (fun _ _ _ _ => WonM.no) v
noncomputable def onM (kmm : Nat → Bool) (koo : Value → Bool) (z : Bool) (v : FV) : Bool := WonM.rec (motive := fun _ => Bool) kmm koo z (wonM v)
theorem onM_ok {kmm : Nat → Bool} {koo : Value → Bool} {z : Bool} {v : FV} (h : onM kmm koo z v = true) : (∃ a0, v = .mm a0 ∧ kmm a0 = true) ∨ (∃ a0, v = .oo a0 ∧ koo a0 = true) ∨ z = true := by
  cases v with
  | nn => exact .inr (.inr h)
  | ii => exact .inr (.inr h)
  | bb => exact .inr (.inr h)
  | ss => exact .inr (.inr h)
  | pp => exact .inr (.inr h)
  | ll => exact .inr (.inr h)
  | mm => exact .inl ⟨_, rfl, h⟩
  | aa => exact .inr (.inr h)
  | tt => exact .inr (.inr h)
  | ff => exact .inr (.inr h)
  | cc => exact .inr (.inr h)
  | oo => exact .inr (.inl ⟨_, rfl, h⟩)
inductive WonA where
  | aa (a0 : List FV)
  | no
noncomputable def wonA (v : FV) : WonA := FV.rec (motive_1 := fun _ => WonA) (motive_2 := fun _ => WonA) (fun _ => WonA.no) (fun _ _ => WonA.no) (fun _ => WonA.no) (fun _ _ => WonA.no) (fun _ _ => WonA.no) (fun _ _ _ _ => WonA.no) (fun _ => WonA.no) (fun a0 _ => WonA.aa a0) (fun _ _ => WonA.no) (fun _ _ _ => WonA.no) (fun _ _ _ => WonA.no) (fun _ => WonA.no) WonA.no (fun _ _ _ _ => WonA.no) v
noncomputable def onA (kaa : List FV → Bool) (z : Bool) (v : FV) : Bool := WonA.rec (motive := fun _ => Bool) kaa z (wonA v)
theorem onA_ok {kaa : List FV → Bool} {z : Bool} {v : FV} (h : onA kaa z v = true) : (∃ a0, v = .aa a0 ∧ kaa a0 = true) ∨ z = true := by
  cases v with
  | nn => exact .inr h
  | ii => exact .inr h
  | bb => exact .inr h
  | ss => exact .inr h
  | pp => exact .inr h
  | ll => exact .inr h
  | mm => exact .inr h
  | aa => exact .inl ⟨_, rfl, h⟩
  | tt => exact .inr h
  | ff => exact .inr h
  | cc => exact .inr h
  | oo => exact .inr h
inductive WonT where
  | tt (a0 : List FV)
  | no
noncomputable def wonT (v : FV) : WonT := FV.rec (motive_1 := fun _ => WonT) (motive_2 := fun _ => WonT) (fun _ => WonT.no) (fun _ _ => WonT.no) (fun _ => WonT.no) (fun _ _ => WonT.no) (fun _ _ => WonT.no) (fun _ _ _ _ => WonT.no) (fun _ => WonT.no) (fun _ _ => WonT.no) (fun a0 _ => WonT.tt a0) (fun _ _ _ => WonT.no) (fun _ _ _ => WonT.no) (fun _ => WonT.no) WonT.no (fun _ _ _ _ => WonT.no) v
noncomputable def onT (ktt : List FV → Bool) (z : Bool) (v : FV) : Bool := WonT.rec (motive := fun _ => Bool) ktt z (wonT v)
theorem onT_ok {ktt : List FV → Bool} {z : Bool} {v : FV} (h : onT ktt z v = true) : (∃ a0, v = .tt a0 ∧ ktt a0 = true) ∨ z = true := by
  cases v with
  | nn => exact .inr h
  | ii => exact .inr h
  | bb => exact .inr h
  | ss => exact .inr h
  | pp => exact .inr h
  | ll => exact .inr h
  | mm => exact .inr h
  | aa => exact .inr h
  | tt => exact .inl ⟨_, rfl, h⟩
  | ff => exact .inr h
  | cc => exact .inr h
  | oo => exact .inr h
inductive WonF where
  | ff (a0 : Nat) (a1 : List FV)
  | no
noncomputable def wonF (v : FV) : WonF := FV.rec (motive_1 := fun _ => WonF) (motive_2 := fun _ => WonF) (fun _ => WonF.no) (fun _ _ => WonF.no) (fun _ => WonF.no) (fun _ _ => WonF.no) (fun _ _ => WonF.no) (fun _ _ _ _ => WonF.no) (fun _ => WonF.no) (fun _ _ => WonF.no) (fun _ _ => WonF.no) (fun a0 a1 _ => WonF.ff a0 a1) (fun _ _ _ => WonF.no) (fun _ => WonF.no) WonF.no (fun _ _ _ _ => WonF.no) v
noncomputable def onF (kff : Nat → List FV → Bool) (z : Bool) (v : FV) : Bool := WonF.rec (motive := fun _ => Bool) kff z (wonF v)
theorem onF_ok {kff : Nat → List FV → Bool} {z : Bool} {v : FV} (h : onF kff z v = true) : (∃ a0 a1, v = .ff a0 a1 ∧ kff a0 a1 = true) ∨ z = true := by
  cases v with
  | nn => exact .inr h
  | ii => exact .inr h
  | bb => exact .inr h
  | ss => exact .inr h
  | pp => exact .inr h
  | ll => exact .inr h
  | mm => exact .inr h
  | aa => exact .inr h
  | tt => exact .inr h
  | ff => exact .inl ⟨_, _, rfl, h⟩
  | cc => exact .inr h
  | oo => exact .inr h
inductive WonI where
  | cc (a0 : TypeId) (a1 : FV)
  | no
noncomputable def wonI (v : FV) : WonI := FV.rec (motive_1 := fun _ => WonI) (motive_2 := fun _ => WonI) (fun _ => WonI.no) (fun _ _ => WonI.no) (fun _ => WonI.no) (fun _ _ => WonI.no) (fun _ _ => WonI.no) (fun _ _ _ _ => WonI.no) (fun _ => WonI.no) (fun _ _ => WonI.no) (fun _ _ => WonI.no) (fun _ _ _ => WonI.no) (fun a0 a1 _ => WonI.cc a0 a1) (fun _ => WonI.no) WonI.no (fun _ _ _ _ => WonI.no) v
noncomputable def onI (kcc : TypeId → FV → Bool) (z : Bool) (v : FV) : Bool := WonI.rec (motive := fun _ => Bool) kcc z (wonI v)
theorem onI_ok {kcc : TypeId → FV → Bool} {z : Bool} {v : FV} (h : onI kcc z v = true) : (∃ a0 a1, v = .cc a0 a1 ∧ kcc a0 a1 = true) ∨ z = true := by
  cases v with
  | nn => exact .inr h
  | ii => exact .inr h
  | bb => exact .inr h
  | ss => exact .inr h
  | pp => exact .inr h
  | ll => exact .inr h
  | mm => exact .inr h
  | aa => exact .inr h
  | tt => exact .inr h
  | ff => exact .inr h
  | cc => exact .inl ⟨_, _, rfl, h⟩
  | oo => exact .inr h
inductive WonPO where
  | pp (a0 : Nat) (a1 : Nat)
  | oo (a0 : Value)
  | no
noncomputable def wonPO (v : FV) : WonPO := FV.rec (motive_1 := fun _ => WonPO) (motive_2 := fun _ => WonPO) (fun _ => WonPO.no) (fun _ _ => WonPO.no) (fun _ => WonPO.no) (fun _ _ => WonPO.no) WonPO.pp (fun _ _ _ _ => WonPO.no) (fun _ => WonPO.no) (fun _ _ => WonPO.no) (fun _ _ => WonPO.no) (fun _ _ _ => WonPO.no) (fun _ _ _ => WonPO.no) WonPO.oo WonPO.no (fun _ _ _ _ => WonPO.no) v
noncomputable def onPO (kpp : Nat → Nat → Bool) (koo : Value → Bool) (z : Bool) (v : FV) : Bool := WonPO.rec (motive := fun _ => Bool) kpp koo z (wonPO v)
theorem onPO_ok {kpp : Nat → Nat → Bool} {koo : Value → Bool} {z : Bool} {v : FV} (h : onPO kpp koo z v = true) : (∃ a0 a1, v = .pp a0 a1 ∧ kpp a0 a1 = true) ∨ (∃ a0, v = .oo a0 ∧ koo a0 = true) ∨ z = true := by
  cases v with
  | nn => exact .inr (.inr h)
  | ii => exact .inr (.inr h)
  | bb => exact .inr (.inr h)
  | ss => exact .inr (.inr h)
  | pp => exact .inl ⟨_, _, rfl, h⟩
  | ll => exact .inr (.inr h)
  | mm => exact .inr (.inr h)
  | aa => exact .inr (.inr h)
  | tt => exact .inr (.inr h)
  | ff => exact .inr (.inr h)
  | cc => exact .inr (.inr h)
  | oo => exact .inr (.inl ⟨_, rfl, h⟩)
inductive WonIS where
  | nn (a0 : Nat)
  | ii (a0 : IntKind) (a1 : Int)
  | ss (a0 : Nat) (a1 : Nat)
  | no
noncomputable def wonIS (v : FV) : WonIS := FV.rec (motive_1 := fun _ => WonIS) (motive_2 := fun _ => WonIS) WonIS.nn WonIS.ii (fun _ => WonIS.no) WonIS.ss (fun _ _ => WonIS.no) (fun _ _ _ _ => WonIS.no) (fun _ => WonIS.no) (fun _ _ => WonIS.no) (fun _ _ => WonIS.no) (fun _ _ _ => WonIS.no) (fun _ _ _ => WonIS.no) (fun _ => WonIS.no) WonIS.no (fun _ _ _ _ => WonIS.no) v
noncomputable def onIS (knn : Nat → Bool) (kii : IntKind → Int → Bool) (kss : Nat → Nat → Bool) (z : Bool) (v : FV) : Bool := WonIS.rec (motive := fun _ => Bool) knn kii kss z (wonIS v)
theorem onIS_ok {knn : Nat → Bool} {kii : IntKind → Int → Bool} {kss : Nat → Nat → Bool} {z : Bool} {v : FV} (h : onIS knn kii kss z v = true) : (∃ a0, v = .nn a0 ∧ knn a0 = true) ∨ (∃ a0 a1, v = .ii a0 a1 ∧ kii a0 a1 = true) ∨ (∃ a0 a1, v = .ss a0 a1 ∧ kss a0 a1 = true) ∨ z = true := by
  cases v with
  | nn => exact .inl ⟨_, rfl, h⟩
  | ii => exact .inr (.inl ⟨_, _, rfl, h⟩)
  | bb => exact .inr (.inr (.inr h))
  | ss => exact .inr (.inr (.inl ⟨_, _, rfl, h⟩))
  | pp => exact .inr (.inr (.inr h))
  | ll => exact .inr (.inr (.inr h))
  | mm => exact .inr (.inr (.inr h))
  | aa => exact .inr (.inr (.inr h))
  | tt => exact .inr (.inr (.inr h))
  | ff => exact .inr (.inr (.inr h))
  | cc => exact .inr (.inr (.inr h))
  | oo => exact .inr (.inr (.inr h))
inductive WonO where
  | oo (a0 : Value)
  | no
noncomputable def wonO (v : FV) : WonO := FV.rec (motive_1 := fun _ => WonO) (motive_2 := fun _ => WonO) (fun _ => WonO.no) (fun _ _ => WonO.no) (fun _ => WonO.no) (fun _ _ => WonO.no) (fun _ _ => WonO.no) (fun _ _ _ _ => WonO.no) (fun _ => WonO.no) (fun _ _ => WonO.no) (fun _ _ => WonO.no) (fun _ _ _ => WonO.no) (fun _ _ _ => WonO.no) WonO.oo WonO.no (fun _ _ _ _ => WonO.no) v
noncomputable def onO (koo : Value → Bool) (z : Bool) (v : FV) : Bool := WonO.rec (motive := fun _ => Bool) koo z (wonO v)
theorem onO_ok {koo : Value → Bool} {z : Bool} {v : FV} (h : onO koo z v = true) : (∃ a0, v = .oo a0 ∧ koo a0 = true) ∨ z = true := by
  cases v with
  | nn => exact .inr h
  | ii => exact .inr h
  | bb => exact .inr h
  | ss => exact .inr h
  | pp => exact .inr h
  | ll => exact .inr h
  | mm => exact .inr h
  | aa => exact .inr h
  | tt => exact .inr h
  | ff => exact .inr h
  | cc => exact .inr h
  | oo => exact .inl ⟨_, rfl, h⟩
inductive WonLS where
  | ll (a0 : Nat) (a1 : Nat) (a2 : Nat) (a3 : Nat)
  | oo (a0 : Value)
  | ss (a0 : Nat) (a1 : Nat)
  | no
noncomputable def wonLS (v : FV) : WonLS := FV.rec (motive_1 := fun _ => WonLS) (motive_2 := fun _ => WonLS) (fun _ => WonLS.no) (fun _ _ => WonLS.no) (fun _ => WonLS.no) WonLS.ss (fun _ _ => WonLS.no) WonLS.ll (fun _ => WonLS.no) (fun _ _ => WonLS.no) (fun _ _ => WonLS.no) (fun _ _ _ => WonLS.no) (fun _ _ _ => WonLS.no) WonLS.oo WonLS.no (fun _ _ _ _ => WonLS.no) v
noncomputable def onLS (kll : Nat → Nat → Nat → Nat → Bool) (koo : Value → Bool) (kss : Nat → Nat → Bool) (z : Bool) (v : FV) : Bool := WonLS.rec (motive := fun _ => Bool) kll koo kss z (wonLS v)
theorem onLS_ok {kll : Nat → Nat → Nat → Nat → Bool} {koo : Value → Bool} {kss : Nat → Nat → Bool} {z : Bool} {v : FV} (h : onLS kll koo kss z v = true) : (∃ a0 a1 a2 a3, v = .ll a0 a1 a2 a3 ∧ kll a0 a1 a2 a3 = true) ∨ (∃ a0, v = .oo a0 ∧ koo a0 = true) ∨ (∃ a0 a1, v = .ss a0 a1 ∧ kss a0 a1 = true) ∨ z = true := by
  cases v with
  | nn => exact .inr (.inr (.inr h))
  | ii => exact .inr (.inr (.inr h))
  | bb => exact .inr (.inr (.inr h))
  | ss => exact .inr (.inr (.inl ⟨_, _, rfl, h⟩))
  | pp => exact .inr (.inr (.inr h))
  | ll => exact .inl ⟨_, _, _, _, rfl, h⟩
  | mm => exact .inr (.inr (.inr h))
  | aa => exact .inr (.inr (.inr h))
  | tt => exact .inr (.inr (.inr h))
  | ff => exact .inr (.inr (.inr h))
  | cc => exact .inr (.inr (.inr h))
  | oo => exact .inr (.inl ⟨_, rfl, h⟩)
end Go.Proofs.YtaadahhjdkkkaaaGreatDoor.Ev
