/- GramFewer: plain law. -/
import Derived.Test.YtjomlfdkmdgclaaP11
import Derived.Test.YtjomlfdkmdgclaaHRules
namespace Go.Proofs.Ytjomlfdkmdgclaa.Pure
open Go.RowKit Go.Proofs.Ytjomlfdkmdgclaa.P Go.Proofs.YtjomlfdkmdgclaaW.PrintWords Go.Proofs.YtjomlfdkmdgclaaW.PrintLast
theorem check_sub (a b : List Rule') (hl : b.length ≤ a.length) (hs : ∀ r ∈ b, r ∈ a) (h : checkP a = true) : checkP b = true := by
  rw [checkP_iff] at h ⊢
  obtain ⟨h1, h2, h3⟩ := h
  have hrow : ∀ x, inSym x → ∀ y ∈ rowsNext b x, y ∈ rowsNext a x := by
    intro x hx y hy
    obtain ⟨q1, r, q2, q3⟩ := (mem_rowsNext b x hx y).1 hy
    exact (mem_rowsNext a x hx y).2 ⟨q1, r, hs r q2, q3⟩
  refine ⟨by omega, List.all_eq_true.2 fun r hr => List.all_eq_true.1 h2 r (hs r hr), fun x hx hR => h3 x hx ?_⟩
  exact P.Reach.mono (rowsNext_sym b) (rowsNext_sym b x hx) (hrow x hx) hrow hR
theorem reach_sub (a b : List Rule') (hs : ∀ r ∈ b, r ∈ a) : (reachL (nextP b) [0]).length ≤ (reachL (nextP a) [0]).length := by
  unfold reachL
  rw [← List.countP_eq_length_filter, ← List.countP_eq_length_filter]
  refine List.countP_mono_left fun y _ h => ?_
  simp only [decide_eq_true_eq] at h ⊢
  refine P.Reach.mono (fun x _ => nextP_sym b x) zero_sym (fun x hx => hx) (fun x _ y hy => ?_) h
  obtain ⟨q1, r, q2, q3⟩ := (mem_nextP b x y).1 hy
  exact (mem_nextP a x y).2 ⟨q1, r, hs r q2, q3⟩
theorem sumLen_made (s : Int) : ∀ a : List Rule', (∀ r ∈ a, Made s r) → sumLen a ≤ 3 * a.length
  | [], _ => by simp [sumLen]
  | r :: a, h => by
    have h1 := sumLen_made s a (fun q hq => h q (List.mem_cons_of_mem _ hq))
    have h2 := (h r List.mem_cons_self).len.2
    unfold sumLen at h1 ⊢
    rw [List.map_cons, List.sum_cons, List.length_cons]
    omega
theorem GramFewer (l0 : List Raw') (a1 a2 : Int) (hl : l0.length ≤ 9223372036854775807) (hok : ∀ x ∈ l0, okRaw x) : ∃ k, interlocutorlaw4_GramFewer.f k l0 a1 a2 = some true := by
  refine ⟨l0.length + 300, ?_⟩
  have hkn : interlocutorlaw4_known.f = some true := rfl
  unfold interlocutorlaw4_GramFewer.f
  rw [hkn, Option.bind_some, if_pos rfl, few_some l0 hl _ (by omega), Option.bind_some]
  by_cases hf : (fewB l0 && decide (l0.length ≤ 80)) = true
  · rw [if_pos hf]
    rw [Bool.and_eq_true, decide_eq_true_eq] at hf
    have hs0 := rem_ge a1 20 (by omega)
    have hs1 := rem_lt a1 20 (by omega)
    obtain ⟨a, ha, hr⟩ := rules_some l0 (1 + a1 % 20) ⟨by omega, by omega⟩ hf.2 hok hf.1
    have hc := ha.check
    have hlen := ((checkP_iff a).1 hc).1
    rw [within_rem a1 20 (by omega) (by omega), Option.bind_some, wrap_in (by omega), hr _ (by omega), Option.bind_some]
    by_cases h0 : (a.length : Int) = 0
    · rw [if_pos h0]
      show (some (checkP a)).bind _ = _
      rw [hc]
      rfl
    · rw [if_neg h0, within_rem a2 _ (by omega) (by omega), Option.bind_some, Option.bind_some]
      have hk0 := rem_ge a2 (a.length : Int) (by omega)
      have hk1 := rem_lt a2 (a.length : Int) (by omega)
      generalize a2 % (a.length : Int) = m at *
      obtain ⟨n, rfl⟩ : ∃ n : Nat, m = n := ⟨m.toNat, by omega⟩
      have hw : wrap64 ((n : Int) + 1) = ((n + 1 : Nat) : Int) := by rw [wrap_in (by omega)]; rfl
      have hsub : ∀ r ∈ a.take n ++ a.drop (n + 1), r ∈ a := fun r hr => (List.mem_append.1 hr).elim List.mem_of_mem_take List.mem_of_mem_drop
      have hbl : (a.take n ++ a.drop (n + 1)).length ≤ a.length := by rw [List.length_append, List.length_take, List.length_drop]; omega
      have hcb := check_sub a (a.take n ++ a.drop (n + 1)) hbl hsub hc
      have hsa := sumLen_made _ a ha.made
      have hsb := sumLen_made _ (a.take n ++ a.drop (n + 1)) (fun r hr => ha.made r (hsub r hr))
      have e1 : gram_Check.f a = some true := congrArg some hc
      have e2 : gram_Check.f (a.take n ++ a.drop (n + 1)) = some true := congrArg some hcb
      have e3 : gram_Reached.f a = some (reachL (nextP a) [0]) := if_pos (by omega)
      have e4 : gram_Reached.f (a.take n ++ a.drop (n + 1)) = some (reachL (nextP (a.take n ++ a.drop (n + 1))) [0]) := if_pos (by omega)
      have hrl := reach_sub a _ hsub
      have t1 : (a.take n).length ≤ 60 := Nat.le_trans (List.length_take_le _ _) (by omega)
      have t2 : (a.drop (n + 1)).length ≤ 60 := by rw [List.length_drop]; omega
      rw [if_pos (by omega), if_pos (by omega)]
      simp only [Int.toNat_natCast, Option.bind_some, List.nil_append, List.length_nil, Nat.zero_add, hw]
      rw [if_pos (by omega), if_pos (by omega), if_pos (by omega), if_pos (by omega), e1]
      simp only [Option.bind_some, if_true, e2, e3, e4]
      rw [decide_eq_true (by omega)]
  · rw [if_neg hf]
end Go.Proofs.Ytjomlfdkmdgclaa.Pure
