/- law4: within; ranges of few. -/
import Derived.Test.YtjomlfdkmdgclaaP1
namespace Go.Proofs.Ytjomlfdkmdgclaa.P
open Go.RowKit Go.Proofs.YtjomlfdkmdgclaaW.PrintWords Go.Proofs.YtjomlfdkmdgclaaW.PrintLast Go.Proofs.YtjomlfdkmdgclaaW.PrintMore
attribute [local go_sem] max2_int min2_int max_two min_two max_three min_three max_four min_four   -- for this text's walks alone
set_option linter.unusedVariables false
set_option linter.unusedSimpArgs false

theorem within_rem (a n : Int) (hn : 0 < n) (hn2 : n ≤ 4611686018427387904) : interlocutorlaw4_within.f a n = some (a % n) := by
  unfold interlocutorlaw4_within.f
  have h1 := Int.emod_nonneg a (by omega : n ≠ 0)
  have h2 := Int.emod_lt_of_pos a hn
  have h4 : (n.natAbs : Int) = n := by omega
  rw [if_neg (by omega)]
  have h3 := @Int.tmod_eq_emod a n
  by_cases hd : 0 ≤ a ∨ n ∣ a
  · rw [if_pos hd] at h3
    rw [if_neg (by omega), h3]
    congr 1
    omega
  · rw [if_neg hd, h4] at h3
    rw [if_pos (by omega), h3]
    congr 1
    unfold wrap64
    omega
theorem rem_ge (a n : Int) (hn : 0 < n) : 0 ≤ a % n := Int.emod_nonneg a (by omega)
theorem rem_lt (a n : Int) (hn : 0 < n) : a % n < n := Int.emod_lt_of_pos a hn
/-- A number below n is one of n. -/
theorem as_fin {x n : Int} (m : Nat) (hm : n = m) (h0 : 0 ≤ x) (h1 : x < n) : ∃ i : Fin m, x = ((i.val : Nat) : Int) := ⟨⟨x.toNat, by omega⟩, by simp; omega⟩
end Go.Proofs.Ytjomlfdkmdgclaa.P
