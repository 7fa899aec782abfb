/- GramMany: plain law. -/
import Derived.Test.YtjomlfdkmdgclaaP10
import Derived.Test.YtjomlfdkmdgclaaHLaw4
import Derived.Test.YtjomlfdkmdgclaaHGramPure
namespace Go.Proofs.Ytjomlfdkmdgclaa.Pure
open Go.RowKit Go.Proofs.Ytjomlfdkmdgclaa.P Go.Proofs.YtjomlfdkmdgclaaW.PrintWords Go.Proofs.YtjomlfdkmdgclaaW.PrintLast
def manyR (i : Nat) : Rule' := ⟨Int.tmod (i : Int) 20, [-1], ⟨8, [0]⟩, 0⟩
def manyL (n : Nat) : List Rule' := (List.range n).map manyR
theorem manyL_succ (n : Nat) : manyL (n + 1) = manyL n ++ [manyR n] := by
  unfold manyL
  rw [List.range_succ, List.map_append]
  rfl
theorem tmod20 (i : Nat) : Int.tmod (i : Int) 20 = ((i % 20 : Nat) : Int) := by
  rw [Int.tmod_eq_emod_of_nonneg (by omega)]
  omega
theorem manyR_right (i : Nat) : rightR (manyR i) = true := by
  unfold manyR rightR rightP
  rw [tmod20]
  have h : symbolB ((i % 20 : Nat) : Int) = true := by
    unfold symbolB
    rw [decide_eq_true (by omega), decide_eq_true (by omega)]
    rfl
  rw [h]
  rfl
theorem many_check (n : Nat) : checkP (manyL n) = decide (n ≤ 60) := by
  have hlen : (manyL n).length = n := by simp [manyL]
  have hall : (manyL n).all rightR = true := by
    rw [List.all_eq_true]
    intro r hr
    obtain ⟨i, _, rfl⟩ := List.mem_map.1 hr
    exact manyR_right i
  have hiff : checkP (manyL n) = true ↔ n ≤ 60 := by
    rw [checkP_iff, hlen]
    refine ⟨fun h => h.1, fun h => ⟨h, hall, fun x hx => no_round _ id (fun r hr y hy _ hs => ?_) x hx⟩⟩
    obtain ⟨i, _, rfl⟩ := List.mem_map.1 hr
    have : y = -1 := by have := List.cons.inj hy; exact this.1.symm
    subst this
    exact absurd hs.1 (by omega)
  by_cases h : n ≤ 60
  · rw [hiff.2 h, decide_eq_true h]
  · rw [decide_eq_false h]
    cases hc : checkP (manyL n) with
    | false => rfl
    | true => exact absurd (hiff.1 hc) h
theorem many_loop (k : Nat) (hk : k ≤ 1000) : ∀ (d n fuel : Nat), n + d = k → d < fuel → interlocutorlaw4_GramMany.l0 fuel (k : Int) (manyL n) (n : Int) = some (checkP (manyL k) == decide ((k : Int) ≤ 60)) := by
  intro d
  induction d with
  | zero =>
    intro n fuel hn hf
    obtain ⟨fuel, rfl⟩ : ∃ j, fuel = j + 1 := ⟨fuel - 1, by omega⟩
    have : n = k := by omega
    subst this
    simp only [interlocutorlaw4_GramMany.l0]
    rw [if_neg (by omega)]
    rfl
  | succ d ih =>
    intro n fuel hn hf
    obtain ⟨fuel, rfl⟩ : ∃ j, fuel = j + 1 := ⟨fuel - 1, by omega⟩
    simp only [interlocutorlaw4_GramMany.l0]
    have hlen : (manyL n).length = n := by simp [manyL]
    rw [if_pos (by omega), if_pos (by omega)]
    have h1 := ih (n + 1) fuel (by omega) (by omega)
    rw [manyL_succ] at h1
    have h2 : wrap64 ((n : Int) + 1) = ((n + 1 : Nat) : Int) := by rw [wrap_in (by omega)]; rfl
    rw [h2]
    exact h1
theorem GramMany : interlocutorlaw4_GramMany.Pure := by
  intro a0 _
  refine ⟨100, ?_⟩
  unfold interlocutorlaw4_GramMany.f
  rw [within_rem a0 10 (by omega) (by omega)]
  have h0 := rem_ge a0 10 (by omega)
  have h1 := rem_lt a0 10 (by omega)
  generalize a0 % 10 = m at *
  obtain ⟨n, rfl⟩ : ∃ n : Nat, m = n := ⟨m.toNat, by omega⟩
  have hkn : interlocutorlaw4_known.f = some true := rfl
  rw [hkn, Option.bind_some, if_pos rfl, Option.bind_some, wrap_in (by omega)]
  have h2 := many_loop (55 + n) (by omega) (55 + n) 0 100 (by omega) (by omega)
  have h3 : (55 : Int) + (n : Int) = ((55 + n : Nat) : Int) := by omega
  rw [h3]
  refine Eq.trans h2 ?_
  rw [many_check]
  congr 1
  have h4 : decide (55 + n ≤ 60) = decide (((55 + n : Nat) : Int) ≤ 60) := decide_eq_decide.2 (by omega)
  rw [h4]
  simp
end Go.Proofs.Ytjomlfdkmdgclaa.Pure
