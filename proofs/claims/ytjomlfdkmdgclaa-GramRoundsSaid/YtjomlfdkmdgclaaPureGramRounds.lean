/- GramRounds: plain law. -/
import Derived.Test.YtjomlfdkmdgclaaP9
import Derived.Test.YtjomlfdkmdgclaaHLaw4
import Derived.Test.YtjomlfdkmdgclaaHGramPure
namespace Go.Proofs.Ytjomlfdkmdgclaa.Pure
open Go.RowKit Go.Proofs.Ytjomlfdkmdgclaa.P Go.Proofs.YtjomlfdkmdgclaaW.PrintWords Go.Proofs.YtjomlfdkmdgclaaW.PrintLast
def roundR (i : Nat) : Rule' := ⟨(i : Int), [(i : Int) + 1], ⟨0, [0]⟩, 0⟩
def lastR (k a : Nat) : Rule' := ⟨(k : Int), [(a : Int)], ⟨0, [0]⟩, 0⟩
def twoR (k : Nat) : Rule' := ⟨(k : Int), [0, 0], ⟨0, [0]⟩, 0⟩
def roundsL (n : Nat) : List Rule' := (List.range n).map roundR
theorem roundsL_succ (n : Nat) : roundsL (n + 1) = roundsL n ++ [roundR n] := by
  unfold roundsL
  rw [List.range_succ, List.map_append]
  rfl
theorem roundsL_length (n : Nat) : (roundsL n).length = n := by simp [roundsL]
theorem roundR_right : ∀ i : Fin 19, rightR (roundR i.val) = true := by decide
theorem lastR_right : ∀ k a : Fin 20, rightR (lastR k.val a.val) = true := by decide
theorem twoR_right : ∀ k : Fin 20, rightR (twoR k.val) = true := by decide
theorem rounds_right (k : Nat) (hk : k ≤ 19) : (roundsL k).all rightR = true := by
  rw [List.all_eq_true]
  intro r hr
  obtain ⟨i, hi, rfl⟩ := List.mem_map.1 hr
  rw [List.mem_range] at hi
  exact roundR_right ⟨i, by omega⟩
theorem open_ok (k : Nat) (hk : k ≤ 19) : checkP (roundsL k) = true ∧ checkP (roundsL k ++ [twoR k]) = true := by
  have h1 : ∀ r ∈ roundsL k, ∀ y, r.f1 = [y] → r.f0 < y := by
    intro r hr y hy
    obtain ⟨i, hi, rfl⟩ := List.mem_map.1 hr
    have : (i : Int) + 1 = y := (List.cons.inj hy).1
    show (i : Int) < y
    omega
  constructor
  · rw [checkP_iff, roundsL_length]
    exact ⟨by omega, rounds_right k hk, fun x hx => no_round _ id (fun r hr y hy _ _ => h1 r hr y hy) x hx⟩
  · rw [checkP_iff, List.length_append, roundsL_length]
    refine ⟨by simp; omega, ?_, fun x hx => no_round _ id (fun r hr y hy _ _ => ?_) x hx⟩
    · rw [List.all_append, rounds_right k hk]
      simp only [List.all_cons, List.all_nil, Bool.true_and, Bool.and_true]
      exact twoR_right ⟨k, by omega⟩
    · rcases List.mem_append.1 hr with hr | hr
      · exact h1 r hr y hy
      · rw [List.mem_singleton.1 hr] at hy
        have := (List.cons.inj hy).2
        cases this
theorem closed_no (k a : Nat) (hk : k ≤ 19) (ha : a ≤ k) (L : List Rule') (hL : ∀ i, i < k → roundR i ∈ L) (hl : lastR k a ∈ L) : checkP L = false := by
  have h : ¬ checkP L = true := by
    rw [checkP_iff]
    rintro ⟨_, _, h⟩
    have sa : inSym (a : Int) := ⟨by omega, by omega⟩
    have sk : inSym (k : Int) := ⟨by omega, by omega⟩
    refine h a sa ?_
    have hback : (a : Int) ∈ rowsNext L k := (mem_rowsNext L k sk a).2 ⟨sa, lastR k a, hl, rfl, rfl⟩
    by_cases e : a = k
    · subst e
      exact .base hback
    · have hup : ∀ d, a + 1 + d ≤ k → P.Reach (rowsNext L) (rowsNext L (a : Int)) ((a + 1 + d : Nat) : Int) := by
        intro d
        induction d with
        | zero =>
          intro hd
          refine .base ((mem_rowsNext L a sa _).2 ⟨⟨by omega, by omega⟩, roundR a, hL a (by omega), rfl, ?_⟩)
          exact congrArg (fun z => [z]) (show (a : Int) + 1 = ((a + 1 + 0 : Nat) : Int) by omega)
        | succ d ih =>
          intro hd
          refine .step (ih (by omega)) ((mem_rowsNext L _ ⟨by omega, by omega⟩ _).2 ⟨⟨by omega, by omega⟩, roundR (a + 1 + d), hL _ (by omega), rfl, ?_⟩)
          exact congrArg (fun z => [z]) (show ((a + 1 + d : Nat) : Int) + 1 = ((a + 1 + (d + 1) : Nat) : Int) by omega)
      have hk2 := hup (k - a - 1) (by omega)
      rw [show a + 1 + (k - a - 1) = k by omega] at hk2
      exact .step hk2 hback
  cases hc : checkP L with
  | false => rfl
  | true => exact absurd hc h
theorem reach_rounds (k : Nat) (hk : k ≤ 19) (L : List Rule') (hL : ∀ i, i < k → roundR i ∈ L) (hin : ∀ r ∈ L, ∀ y ∈ r.f1, y ≤ (k : Int)) : (reachL (nextP L) [0]).length = k + 1 := by
  have h : reachL (nextP L) [0] = symbols.filter fun y => decide (y ≤ (k : Int)) := by
    unfold reachL
    refine List.filter_congr fun y hy => ?_
    refine decide_eq_decide.2 ⟨fun h => ?_, fun h => ?_⟩
    · exact P.Reach.inv (P := fun y => y ≤ (k : Int)) (fun x hx => by rw [List.mem_singleton.1 hx]; omega) (fun x _ y hy => by
        obtain ⟨_, r, hr, _, h2⟩ := (mem_nextP L x y).1 hy
        exact hin r hr y h2) h
    · have hs := (mem_symbols y).1 hy
      have hup : ∀ d : Nat, d ≤ k → P.Reach (nextP L) [0] (d : Int) := by
        intro d
        induction d with
        | zero => intro _; exact .base (by simp)
        | succ d ih =>
          intro hd
          refine .step (ih (by omega)) ((mem_nextP L _ _).2 ⟨⟨by omega, by omega⟩, roundR d, hL d (by omega), rfl, ?_⟩)
          exact List.mem_singleton.2 (show ((d + 1 : Nat) : Int) = (d : Int) + 1 by omega)
      have := hup y.toNat (by have := hs.1; omega)
      rwa [Int.toNat_of_nonneg hs.1] at this
  rw [h]
  have hc : ∀ k : Fin 20, (symbols.filter fun y => decide (y ≤ ((k.val : Nat) : Int))).length = k.val + 1 := by decide
  exact hc ⟨k, by omega⟩
theorem sumLen_rounds (k : Nat) : sumLen (roundsL k) = k := by
  induction k with
  | zero => rfl
  | succ k ih =>
    rw [roundsL_succ]
    unfold sumLen at ih ⊢
    rw [List.map_append, List.sum_append, ih]
    rfl
theorem rounds_end (k : Nat) (hk : k ≤ 19) (x1 : Int) (x2 : Bool) (fuel : Nat) : interlocutorlaw4_GramRounds.l0 (fuel + 1) x1 x2 (k : Int) (roundsL k) (k : Int) = some true := by
  have hmem : ∀ i, i < k → roundR i ∈ roundsL k := fun i hi => List.mem_map.2 ⟨i, List.mem_range.2 hi, rfl⟩
  have hfst : ∀ r ∈ roundsL k, ∀ y ∈ r.f1, y ≤ (k : Int) := by
    intro r hr y hy
    obtain ⟨i, hi, rfl⟩ := List.mem_map.1 hr
    rw [List.mem_range] at hi
    have : y = (i : Int) + 1 := List.mem_singleton.1 hy
    omega
  have hw : wrap64 ((k : Int) + 1) = (k : Int) + 1 := wrap_in (by omega)
  have hlen := roundsL_length k
  simp only [interlocutorlaw4_GramRounds.l0]
  rw [if_neg (by omega), hw]
  cases x2 with
  | true =>
    rw [within_rem x1 ((k : Int) + 1) (by omega) (by omega)]
    have h0 := rem_ge x1 ((k : Int) + 1) (by omega)
    have h1 := rem_lt x1 ((k : Int) + 1) (by omega)
    generalize x1 % ((k : Int) + 1) = m at *
    obtain ⟨a, rfl⟩ : ∃ a : Nat, m = a := ⟨m.toNat, by omega⟩
    have e1 : (⟨(k : Int), [(a : Int)], ⟨0, [0]⟩, 0⟩ : Rule') = lastR k a := rfl
    have e2 : (⟨(k : Int), [0, 0], ⟨0, [0]⟩, 0⟩ : Rule') = twoR k := rfl
    have c1 := closed_no k a hk (by omega) (roundsL k ++ [lastR k a]) (fun i hi => List.mem_append_left _ (hmem i hi)) (List.mem_append_right _ (List.mem_singleton.2 rfl))
    have c2 := closed_no k a hk (by omega) (roundsL k ++ [lastR k a] ++ [twoR k]) (fun i hi => List.mem_append_left _ (List.mem_append_left _ (hmem i hi))) (List.mem_append_left _ (List.mem_append_right _ (List.mem_singleton.2 rfl)))
    have c3 := reach_rounds k hk (roundsL k ++ [lastR k a]) (fun i hi => List.mem_append_left _ (hmem i hi)) (fun r hr y hy => by
      rcases List.mem_append.1 hr with hr | hr
      · exact hfst r hr y hy
      · rw [List.mem_singleton.1 hr] at hy
        have : y = (a : Int) := List.mem_singleton.1 hy
        omega)
    have c4 : sumLen (roundsL k ++ [lastR k a]) ≤ 1000000 := by
      have h5 := sumLen_rounds k
      unfold sumLen at h5 ⊢
      rw [List.map_append, List.sum_append, h5]
      simp [lastR]
      omega
    have l1 : (roundsL k ++ [lastR k a]).length = k + 1 := by rw [List.length_append, hlen]; rfl
    simp only [if_true, Option.bind_some, List.nil_append, List.length_nil, Nat.zero_add, hlen, e1, e2]
    rw [if_pos (by omega), l1, if_pos (by omega), if_pos (by omega)]
    simp only [gram_Check.f, gram_Reached.f, Option.bind_some, c1, c2, if_pos c4, c3]
    simp
  | false =>
    have e2 : (⟨(k : Int), [0, 0], ⟨0, [0]⟩, 0⟩ : Rule') = twoR k := rfl
    obtain ⟨c1, c2⟩ := open_ok k hk
    have c3 := reach_rounds k hk (roundsL k) hmem hfst
    have c4 : sumLen (roundsL k) ≤ 1000000 := by rw [sumLen_rounds]; omega
    simp only [Bool.false_eq_true, if_false, Option.bind_some, List.nil_append, List.length_nil, Nat.zero_add, hlen, e2]
    rw [if_pos (by omega), if_pos (by omega)]
    simp only [gram_Check.f, gram_Reached.f, Option.bind_some, c1, c2, if_pos c4, c3]
    simp
theorem rounds_loop (k : Nat) (hk : k ≤ 19) (x1 : Int) (x2 : Bool) : ∀ (d n fuel : Nat), n + d = k → d < fuel → interlocutorlaw4_GramRounds.l0 fuel x1 x2 (k : Int) (roundsL n) (n : Int) = some true := by
  intro d
  induction d with
  | zero =>
    intro n fuel hn hf
    obtain ⟨fuel, rfl⟩ : ∃ j, fuel = j + 1 := ⟨fuel - 1, by omega⟩
    have : n = k := by omega
    subst this
    exact rounds_end n hk x1 x2 fuel
  | succ d ih =>
    intro n fuel hn hf
    obtain ⟨fuel, rfl⟩ : ∃ j, fuel = j + 1 := ⟨fuel - 1, by omega⟩
    have h1 := ih (n + 1) fuel (by omega) (by omega)
    rw [roundsL_succ] at h1
    have hw : wrap64 ((n : Int) + 1) = ((n + 1 : Nat) : Int) := by rw [wrap_in (by omega)]; rfl
    simp only [interlocutorlaw4_GramRounds.l0]
    rw [if_pos (by omega), if_pos (by rw [roundsL_length]; omega), hw]
    exact h1
theorem GramRounds : interlocutorlaw4_GramRounds.Pure := by
  intro a0 a1 a2 _ _
  refine ⟨100, ?_⟩
  unfold interlocutorlaw4_GramRounds.f
  rw [within_rem a0 19 (by omega) (by omega)]
  have h0 := rem_ge a0 19 (by omega)
  have h1 := rem_lt a0 19 (by omega)
  generalize a0 % 19 = m at *
  obtain ⟨n, rfl⟩ : ∃ n : Nat, m = n := ⟨m.toNat, by omega⟩
  have hkn : interlocutorlaw4_known.f = some true := rfl
  rw [hkn, Option.bind_some, if_pos rfl, Option.bind_some, wrap_in (by omega)]
  have h2 := rounds_loop (1 + n) (by omega) a1 a2 (1 + n) 0 100 (by omega) (by omega)
  have h3 : (1 : Int) + (n : Int) = ((1 + n : Nat) : Int) := by omega
  rw [h3]
  exact h2
end Go.Proofs.Ytjomlfdkmdgclaa.Pure
