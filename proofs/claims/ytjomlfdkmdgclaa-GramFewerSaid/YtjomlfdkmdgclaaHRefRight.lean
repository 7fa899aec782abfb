/- ref4.Right, ref4.wants: what they tell is what gram.Right tells. Plain Lean. -/
import Derived.Test.YtjomlfdkmdgclaaHGramCheck
import Derived.Test.YtjomlfdkmdgclaaP5
import Derived.Test.YtjomlfdkmdgclaaP4
namespace Go.Proofs.Ytjomlfdkmdgclaa.P
open Go.RowKit Go.Proofs.YtjomlfdkmdgclaaW.PrintWords Go.Proofs.YtjomlfdkmdgclaaW.PrintLast Go.Proofs.YtjomlfdkmdgclaaW.PrintMore
attribute [local go_sem] max2_int min2_int max_two min_two max_three min_three max_four min_four   -- for this text's walks alone
set_option linter.unusedVariables false
set_option linter.unusedSimpArgs false

theorem wants_some (k : Nat) (op : Int) : interlocutorref4_wants.f (k + 4) op = some (askedP op) := by
  by_cases h : 0 ≤ op ∧ op ≤ 15
  · have : op = 0 ∨ op = 1 ∨ op = 2 ∨ op = 3 ∨ op = 4 ∨ op = 5 ∨ op = 6 ∨ op = 7 ∨ op = 8 ∨ op = 9 ∨ op = 10 ∨ op = 11 ∨ op = 12 ∨ op = 13 ∨ op = 14 ∨ op = 15 := by omega
    rcases this with rfl | rfl | rfl | rfl | rfl | rfl | rfl | rfl | rfl | rfl | rfl | rfl | rfl | rfl | rfl | rfl <;> rfl
  · have n : ∀ k : Int, 0 ≤ k → k ≤ 15 → ¬ op = k := fun k h0 h1 e => h (by omega)
    have b : ∀ k : Int, 0 ≤ k → k ≤ 15 → ¬ (op == k) = true := fun k h0 h1 e => n k h0 h1 (by simpa using e)
    have e : askedP op = (1, 0) := by
      unfold askedP
      rw [if_neg (by omega), if_neg (by omega), if_neg (by omega), if_neg (by omega), if_neg (by omega)]
    rw [e]
    unfold interlocutorref4_wants.f
    rw [if_neg (n 0 (by omega) (by omega)), if_neg (n 7 (by omega) (by omega)), if_neg (n 8 (by omega) (by omega)), interlocutorref4_wants.j0]
    rw [if_neg (b 11 (by omega) (by omega)), if_neg (n 2 (by omega) (by omega)), if_neg (n 5 (by omega) (by omega)), if_neg (n 9 (by omega) (by omega)), if_neg (n 12 (by omega) (by omega)), if_neg (n 13 (by omega) (by omega)), if_neg (n 14 (by omega) (by omega)), interlocutorref4_wants.j1]
    rw [if_neg (b 15 (by omega) (by omega)), if_neg (n 1 (by omega) (by omega)), interlocutorref4_wants.j2]
    rw [if_neg (b 6 (by omega) (by omega)), if_neg (n 3 (by omega) (by omega)), interlocutorref4_wants.j3]
    rw [if_neg (b 4 (by omega) (by omega)), if_neg (n 10 (by omega) (by omega))]
section
variable (a0 : Int) (l1 : List Int) (a2 : Int) (l3 : List Int) (a4 : Int)
theorem refPlaces (hl : l3.length ≤ 9223372036854775807) : ∀ (n k x : Nat), x ≤ l3.length → l3.length - x = n → n < k → interlocutorref4_Right.l1 k x a0 l1 a2 l3 a4 = some ((l3.drop x).all (placeB l1.length)) := by
  intro n
  induction n with
  | zero =>
    intro k x hx hn hk
    obtain ⟨k, rfl⟩ : ∃ j, k = j + 1 := ⟨k - 1, by omega⟩
    have he : x = l3.length := by omega
    subst he
    simp only [interlocutorref4_Right.l1]
    rw [if_neg (by omega), List.drop_length]
    rfl
  | succ n ih =>
    intro k x hx hn hk
    obtain ⟨k, rfl⟩ : ∃ j, k = j + 1 := ⟨k - 1, by omega⟩
    have hlt : x < l3.length := by omega
    simp only [interlocutorref4_Right.l1]
    rw [if_pos (by omega), if_pos (by omega), rd_getElem l3 x hlt, List.drop_eq_getElem_cons hlt, List.all_cons]
    unfold placeB
    by_cases h0 : l3[x] < 0
    · rw [if_pos h0, decide_eq_false (by omega)]; rfl
    · rw [if_neg h0, decide_eq_true (by omega : 0 ≤ l3[x])]
      by_cases h1 : l3[x] ≥ (l1.length : Int)
      · rw [if_pos h1, decide_eq_false (by omega)]; rfl
      · rw [if_neg h1, decide_eq_true (by omega : l3[x] < (l1.length : Int)), wrap_in (by omega)]
        exact ih k (x + 1) (by omega) (by omega) (by omega)
theorem refItems (hl : l1.length ≤ 9223372036854775807) (hl3 : l3.length ≤ 9223372036854775807) : ∀ (n k x : Nat), x ≤ l1.length → l1.length - x = n → n + l3.length + 8 < k → interlocutorref4_Right.l0 k x a0 l1 a2 l3 a4 = some ((l1.drop x).all itemB && (withinB l3.length (askedP a2).1 (askedP a2).2 && l3.all (placeB l1.length))) := by
  intro n
  induction n with
  | zero =>
    intro k x hx hn hk
    obtain ⟨k, rfl⟩ : ∃ j, k = j + 5 := ⟨k - 5, by omega⟩
    have he : x = l1.length := by omega
    subst he
    rw [show k + 5 = (k + 4) + 1 by omega]
    simp only [interlocutorref4_Right.l0]
    rw [if_neg (by omega), List.drop_length, wants_some]
    simp only [Option.bind_some, List.all_nil, Bool.true_and]
    have h2 := refPlaces a0 l1 a2 l3 a4 hl3 l3.length (k + 3) 0 (Nat.zero_le _) rfl (by omega)
    rw [List.drop_zero] at h2
    have h2' : interlocutorref4_Right.l1 (k + 3) 0 a0 l1 a2 l3 a4 = some (l3.all (placeB l1.length)) := h2
    unfold withinB
    by_cases h0 : (l3.length : Int) < (askedP a2).1
    · rw [if_pos h0, show k + 4 = (k + 3) + 1 by omega]
      simp only [interlocutorref4_Right.j2]
      rw [decide_eq_false (by omega)]
      simp
    · rw [if_neg h0, show k + 4 = (k + 3) + 1 by omega]
      simp only [interlocutorref4_Right.j2]
      rw [decide_eq_true (by omega : (askedP a2).1 ≤ (l3.length : Int)), h2']
      by_cases h1 : (l3.length : Int) > (askedP a2).2
      · rw [decide_eq_true h1, decide_eq_false (by omega : ¬ (l3.length : Int) ≤ (askedP a2).2)]
        simp
      · rw [decide_eq_false h1, decide_eq_true (by omega : (l3.length : Int) ≤ (askedP a2).2)]
        simp
  | succ n ih =>
    intro k x hx hn hk
    obtain ⟨k, rfl⟩ : ∃ j, k = j + 1 := ⟨k - 1, by omega⟩
    have hlt : x < l1.length := by omega
    simp only [interlocutorref4_Right.l0]
    rw [if_pos (by omega), if_pos (by omega), rd_getElem l1 x hlt, List.drop_eq_getElem_cons hlt, List.all_cons]
    by_cases h0 : l1[x] ≥ 20
    · rw [if_pos h0, show itemB l1[x] = false by unfold itemB; simp; omega]; rfl
    · rw [if_neg h0]
      by_cases h1 : l1[x] < -61
      · rw [if_pos h1, show itemB l1[x] = false by unfold itemB; simp; omega]; rfl
      · rw [if_neg h1, show itemB l1[x] = true by unfold itemB; simp; omega, Bool.true_and, wrap_in (by omega)]
        exact ih k (x + 1) (by omega) (by omega) (by omega)
theorem refRight_some (k : Nat) (hl : l1.length ≤ 9223372036854775807) (hl3 : l3.length ≤ 9223372036854775807) (hk : l1.length + l3.length + 10 < k) : interlocutorref4_Right.f k a0 l1 a2 l3 a4 = some (rightP a0 l1 a2 l3 a4) := by
  obtain ⟨k, rfl⟩ : ∃ j, k = j + 1 := ⟨k - 1, by omega⟩
  have h2 := refItems a0 l1 a2 l3 a4 hl hl3 l1.length k 0 (Nat.zero_le _) rfl (by omega)
  rw [List.drop_zero] at h2
  have h2' : interlocutorref4_Right.l0 k 0 a0 l1 a2 l3 a4 = some (l1.all itemB && (withinB l3.length (askedP a2).1 (askedP a2).2 && l3.all (placeB l1.length))) := h2
  unfold interlocutorref4_Right.f
  simp only [interlocutorref4_Right.j0, if_true]
  unfold rightP symbolB
  by_cases c1 : a0 < 0
  · rw [if_pos c1, decide_eq_false (by omega)]; rfl
  rw [if_neg c1, decide_eq_true (by omega : 0 ≤ a0)]
  by_cases c2 : a0 ≥ 20
  · rw [if_pos c2, decide_eq_false (by omega)]; rfl
  rw [if_neg c2, decide_eq_true (by omega : a0 < 20), h2']
  by_cases c3 : (l1.length : Int) < 1
  · rw [if_pos c3, show withinB l1.length 1 6 = false by unfold withinB; simp; omega]; rfl
  rw [if_neg c3]
  by_cases c4 : (l1.length : Int) > 6
  · rw [if_pos c4, show withinB l1.length 1 6 = false by unfold withinB; simp; omega]; rfl
  rw [if_neg c4, show withinB l1.length 1 6 = true by unfold withinB; simp; omega]
  by_cases c5 : a4 < 0
  · rw [if_pos c5, show withinB a4 0 100 = false by unfold withinB; simp; omega]
    simp
  rw [if_neg c5]
  by_cases c6 : a4 > 100
  · rw [decide_eq_true c6, show withinB a4 0 100 = false by unfold withinB; simp; omega]
    simp
  · rw [decide_eq_false c6, show withinB a4 0 100 = true by unfold withinB; simp; omega]
    simp
end
end Go.Proofs.Ytjomlfdkmdgclaa.P
