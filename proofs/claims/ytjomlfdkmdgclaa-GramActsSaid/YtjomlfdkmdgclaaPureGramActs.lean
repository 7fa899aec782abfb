/- GramActs: plain law. -/
import Derived.Test.YtjomlfdkmdgclaaP13
import Derived.Test.YtjomlfdkmdgclaaHLaw4
namespace Go.Proofs.Ytjomlfdkmdgclaa.Pure
open Go.RowKit Go.Proofs.Ytjomlfdkmdgclaa.P Go.Proofs.YtjomlfdkmdgclaaW.PrintWords Go.Proofs.YtjomlfdkmdgclaaW.PrintLast
set_option maxRecDepth 100000 in
theorem acts_0 : ∀ (k : Fin 8) (m : Fin 6), interlocutorlaw4_GramActs.l0 40 (wrap64 (((0 : Nat) : Int) - 1)) ((k.val : Nat) : Int) (wrap64 (1 + ((m.val : Nat) : Int))) 0 0 ([] : List Int) (wrap64 (((0 : Nat) : Int) - 1)) 0 = some true := by decide +kernel
set_option maxRecDepth 100000 in
theorem acts_1 : ∀ (k : Fin 8) (m : Fin 6), interlocutorlaw4_GramActs.l0 40 (wrap64 (((1 : Nat) : Int) - 1)) ((k.val : Nat) : Int) (wrap64 (1 + ((m.val : Nat) : Int))) 0 0 ([] : List Int) (wrap64 (((1 : Nat) : Int) - 1)) 0 = some true := by decide +kernel
set_option maxRecDepth 100000 in
theorem acts_2 : ∀ (k : Fin 8) (m : Fin 6), interlocutorlaw4_GramActs.l0 40 (wrap64 (((2 : Nat) : Int) - 1)) ((k.val : Nat) : Int) (wrap64 (1 + ((m.val : Nat) : Int))) 0 0 ([] : List Int) (wrap64 (((2 : Nat) : Int) - 1)) 0 = some true := by decide +kernel
set_option maxRecDepth 100000 in
theorem acts_3 : ∀ (k : Fin 8) (m : Fin 6), interlocutorlaw4_GramActs.l0 40 (wrap64 (((3 : Nat) : Int) - 1)) ((k.val : Nat) : Int) (wrap64 (1 + ((m.val : Nat) : Int))) 0 0 ([] : List Int) (wrap64 (((3 : Nat) : Int) - 1)) 0 = some true := by decide +kernel
set_option maxRecDepth 100000 in
theorem acts_4 : ∀ (k : Fin 8) (m : Fin 6), interlocutorlaw4_GramActs.l0 40 (wrap64 (((4 : Nat) : Int) - 1)) ((k.val : Nat) : Int) (wrap64 (1 + ((m.val : Nat) : Int))) 0 0 ([] : List Int) (wrap64 (((4 : Nat) : Int) - 1)) 0 = some true := by decide +kernel
set_option maxRecDepth 100000 in
theorem acts_5 : ∀ (k : Fin 8) (m : Fin 6), interlocutorlaw4_GramActs.l0 40 (wrap64 (((5 : Nat) : Int) - 1)) ((k.val : Nat) : Int) (wrap64 (1 + ((m.val : Nat) : Int))) 0 0 ([] : List Int) (wrap64 (((5 : Nat) : Int) - 1)) 0 = some true := by decide +kernel
set_option maxRecDepth 100000 in
theorem acts_6 : ∀ (k : Fin 8) (m : Fin 6), interlocutorlaw4_GramActs.l0 40 (wrap64 (((6 : Nat) : Int) - 1)) ((k.val : Nat) : Int) (wrap64 (1 + ((m.val : Nat) : Int))) 0 0 ([] : List Int) (wrap64 (((6 : Nat) : Int) - 1)) 0 = some true := by decide +kernel
set_option maxRecDepth 100000 in
theorem acts_7 : ∀ (k : Fin 8) (m : Fin 6), interlocutorlaw4_GramActs.l0 40 (wrap64 (((7 : Nat) : Int) - 1)) ((k.val : Nat) : Int) (wrap64 (1 + ((m.val : Nat) : Int))) 0 0 ([] : List Int) (wrap64 (((7 : Nat) : Int) - 1)) 0 = some true := by decide +kernel
set_option maxRecDepth 100000 in
theorem acts_8 : ∀ (k : Fin 8) (m : Fin 6), interlocutorlaw4_GramActs.l0 40 (wrap64 (((8 : Nat) : Int) - 1)) ((k.val : Nat) : Int) (wrap64 (1 + ((m.val : Nat) : Int))) 0 0 ([] : List Int) (wrap64 (((8 : Nat) : Int) - 1)) 0 = some true := by decide +kernel
set_option maxRecDepth 100000 in
theorem acts_9 : ∀ (k : Fin 8) (m : Fin 6), interlocutorlaw4_GramActs.l0 40 (wrap64 (((9 : Nat) : Int) - 1)) ((k.val : Nat) : Int) (wrap64 (1 + ((m.val : Nat) : Int))) 0 0 ([] : List Int) (wrap64 (((9 : Nat) : Int) - 1)) 0 = some true := by decide +kernel
set_option maxRecDepth 100000 in
theorem acts_10 : ∀ (k : Fin 8) (m : Fin 6), interlocutorlaw4_GramActs.l0 40 (wrap64 (((10 : Nat) : Int) - 1)) ((k.val : Nat) : Int) (wrap64 (1 + ((m.val : Nat) : Int))) 0 0 ([] : List Int) (wrap64 (((10 : Nat) : Int) - 1)) 0 = some true := by decide +kernel
set_option maxRecDepth 100000 in
theorem acts_11 : ∀ (k : Fin 8) (m : Fin 6), interlocutorlaw4_GramActs.l0 40 (wrap64 (((11 : Nat) : Int) - 1)) ((k.val : Nat) : Int) (wrap64 (1 + ((m.val : Nat) : Int))) 0 0 ([] : List Int) (wrap64 (((11 : Nat) : Int) - 1)) 0 = some true := by decide +kernel
set_option maxRecDepth 100000 in
theorem acts_12 : ∀ (k : Fin 8) (m : Fin 6), interlocutorlaw4_GramActs.l0 40 (wrap64 (((12 : Nat) : Int) - 1)) ((k.val : Nat) : Int) (wrap64 (1 + ((m.val : Nat) : Int))) 0 0 ([] : List Int) (wrap64 (((12 : Nat) : Int) - 1)) 0 = some true := by decide +kernel
set_option maxRecDepth 100000 in
theorem acts_13 : ∀ (k : Fin 8) (m : Fin 6), interlocutorlaw4_GramActs.l0 40 (wrap64 (((13 : Nat) : Int) - 1)) ((k.val : Nat) : Int) (wrap64 (1 + ((m.val : Nat) : Int))) 0 0 ([] : List Int) (wrap64 (((13 : Nat) : Int) - 1)) 0 = some true := by decide +kernel
set_option maxRecDepth 100000 in
theorem acts_14 : ∀ (k : Fin 8) (m : Fin 6), interlocutorlaw4_GramActs.l0 40 (wrap64 (((14 : Nat) : Int) - 1)) ((k.val : Nat) : Int) (wrap64 (1 + ((m.val : Nat) : Int))) 0 0 ([] : List Int) (wrap64 (((14 : Nat) : Int) - 1)) 0 = some true := by decide +kernel
set_option maxRecDepth 100000 in
theorem acts_15 : ∀ (k : Fin 8) (m : Fin 6), interlocutorlaw4_GramActs.l0 40 (wrap64 (((15 : Nat) : Int) - 1)) ((k.val : Nat) : Int) (wrap64 (1 + ((m.val : Nat) : Int))) 0 0 ([] : List Int) (wrap64 (((15 : Nat) : Int) - 1)) 0 = some true := by decide +kernel
set_option maxRecDepth 100000 in
theorem acts_16 : ∀ (k : Fin 8) (m : Fin 6), interlocutorlaw4_GramActs.l0 40 (wrap64 (((16 : Nat) : Int) - 1)) ((k.val : Nat) : Int) (wrap64 (1 + ((m.val : Nat) : Int))) 0 0 ([] : List Int) (wrap64 (((16 : Nat) : Int) - 1)) 0 = some true := by decide +kernel
set_option maxRecDepth 100000 in
theorem acts_17 : ∀ (k : Fin 8) (m : Fin 6), interlocutorlaw4_GramActs.l0 40 (wrap64 (((17 : Nat) : Int) - 1)) ((k.val : Nat) : Int) (wrap64 (1 + ((m.val : Nat) : Int))) 0 0 ([] : List Int) (wrap64 (((17 : Nat) : Int) - 1)) 0 = some true := by decide +kernel
theorem acts_all : ∀ (o : Fin 18) (k : Fin 8) (m : Fin 6), interlocutorlaw4_GramActs.l0 40 (wrap64 (((o.val : Nat) : Int) - 1)) ((k.val : Nat) : Int) (wrap64 (1 + ((m.val : Nat) : Int))) 0 0 ([] : List Int) (wrap64 (((o.val : Nat) : Int) - 1)) 0 = some true
  | ⟨0, _⟩ => acts_0
  | ⟨1, _⟩ => acts_1
  | ⟨2, _⟩ => acts_2
  | ⟨3, _⟩ => acts_3
  | ⟨4, _⟩ => acts_4
  | ⟨5, _⟩ => acts_5
  | ⟨6, _⟩ => acts_6
  | ⟨7, _⟩ => acts_7
  | ⟨8, _⟩ => acts_8
  | ⟨9, _⟩ => acts_9
  | ⟨10, _⟩ => acts_10
  | ⟨11, _⟩ => acts_11
  | ⟨12, _⟩ => acts_12
  | ⟨13, _⟩ => acts_13
  | ⟨14, _⟩ => acts_14
  | ⟨15, _⟩ => acts_15
  | ⟨16, _⟩ => acts_16
  | ⟨17, _⟩ => acts_17
  | ⟨n + 18, h⟩ => absurd h (by omega)
theorem GramActs : interlocutorlaw4_GramActs.Pure := by
  intro a0 a1 a2 _ _ _
  refine ⟨40, ?_⟩
  unfold interlocutorlaw4_GramActs.f
  rw [within_rem a0 18 (by omega) (by omega), within_rem a1 8 (by omega) (by omega), within_rem a2 6 (by omega) (by omega)]
  obtain ⟨o, ho⟩ := as_fin 18 rfl (rem_ge a0 18 (by omega)) (rem_lt a0 18 (by omega))
  obtain ⟨k, hk⟩ := as_fin 8 rfl (rem_ge a1 8 (by omega)) (rem_lt a1 8 (by omega))
  obtain ⟨m, hm⟩ := as_fin 6 rfl (rem_ge a2 6 (by omega)) (rem_lt a2 6 (by omega))
  rw [ho, hk, hm]
  have hkn : interlocutorlaw4_known.f = some true := rfl
  rw [hkn, Option.bind_some, if_pos rfl, Option.bind_some, Option.bind_some, Option.bind_some]
  exact acts_all o k m
end Go.Proofs.Ytjomlfdkmdgclaa.Pure
