/- GramRight: whether any rule may be is the document's; so is one of which one thing was turned. Part 5: contracts of the functions that the law reaches, and words for them. -/
import Derived.BigRegion
import Derived.Test.YtjomlfdkmdgclaaMRight4
section
namespace Go.Proofs.Ytjomlfdkmdgclaa.P
open Go.RowKit Go.Proofs.YtjomlfdkmdgclaaW.PrintWords Go.Proofs.YtjomlfdkmdgclaaW.PrintLast Go.Proofs.YtjomlfdkmdgclaaW.PrintMore
attribute [local go_sem] max2_int min2_int max_two min_two max_three min_three max_four min_four   
set_option linter.unusedVariables false
set_option linter.unusedSimpArgs false
theorem wants_some (k : Nat) (op : Int) : interlocutorref4_wants.f (k + 4) op = some (askedP op) := by
  by_cases h : 0 ≤ op ∧ op ≤ 15
  · have : op = 0 ∨ op = 1 ∨ op = 2 ∨ op = 3 ∨ op = 4 ∨ op = 5 ∨ op = 6 ∨ op = 7 ∨ op = 8 ∨ op = 9 ∨ op = 10 ∨ op = 11 ∨ op = 12 ∨ op = 13 ∨ op = 14 ∨ op = 15 := by omega
    rcases this with rfl | rfl | rfl | rfl | rfl | rfl | rfl | rfl | rfl | rfl | rfl | rfl | rfl | rfl | rfl | rfl <;> rfl
  · have n : ∀ k : Int, 0 ≤ k → k ≤ 15 → ¬ op = k := fun k h0 h1 e => h (by omega)
    have b : ∀ k : Int, 0 ≤ k → k ≤ 15 → ¬ (op == k) = true := fun k h0 h1 e => n k h0 h1 (by simpa using e)
    have e : askedP op = (1, 0) := by
      unfold askedP
      rw [if_neg (by omega), if_neg (by omega), if_neg (by omega), if_neg (by omega), if_neg (by omega)]
    rw [e]
    unfold interlocutorref4_wants.f
    rw [if_neg (n 0 (by omega) (by omega)), if_neg (n 7 (by omega) (by omega)), if_neg (n 8 (by omega) (by omega)), interlocutorref4_wants.j0]
    rw [if_neg (b 11 (by omega) (by omega)), if_neg (n 2 (by omega) (by omega)), if_neg (n 5 (by omega) (by omega)), if_neg (n 9 (by omega) (by omega)), if_neg (n 12 (by omega) (by omega)), if_neg (n 13 (by omega) (by omega)), if_neg (n 14 (by omega) (by omega)), interlocutorref4_wants.j1]
    rw [if_neg (b 15 (by omega) (by omega)), if_neg (n 1 (by omega) (by omega)), interlocutorref4_wants.j2]
    rw [if_neg (b 6 (by omega) (by omega)), if_neg (n 3 (by omega) (by omega)), interlocutorref4_wants.j3]
    rw [if_neg (b 4 (by omega) (by omega)), if_neg (n 10 (by omega) (by omega))]
section
variable (a0 : Int) (l1 : List Int) (a2 : Int) (l3 : List Int) (a4 : Int)
theorem refPlaces (hl : l3.length ≤ 9223372036854775807) : ∀ (n k x : Nat), x ≤ l3.length → l3.length - x = n → n < k → interlocutorref4_Right.l1 k x a0 l1 a2 l3 a4 = some ((l3.drop x).all (placeB l1.length)) := by
  intro n
  induction n with
  | zero =>
    intro k x hx hn hk
    obtain ⟨k, rfl⟩ : ∃ j, k = j + 1 := ⟨k - 1, by omega⟩
    have he : x = l3.length := by omega
    subst he
    simp only [interlocutorref4_Right.l1]
    rw [if_neg (by omega), List.drop_length]
    rfl
  | succ n ih =>
    intro k x hx hn hk
    obtain ⟨k, rfl⟩ : ∃ j, k = j + 1 := ⟨k - 1, by omega⟩
    have hlt : x < l3.length := by omega
    simp only [interlocutorref4_Right.l1]
    rw [if_pos (by omega), if_pos (by omega), rd_getElem l3 x hlt, List.drop_eq_getElem_cons hlt, List.all_cons]
    unfold placeB
    by_cases h0 : l3[x] < 0
    · rw [if_pos h0, decide_eq_false (by omega)]; rfl
    · rw [if_neg h0, decide_eq_true (by omega : 0 ≤ l3[x])]
      by_cases h1 : l3[x] ≥ (l1.length : Int)
      · rw [if_pos h1, decide_eq_false (by omega)]; rfl
      · rw [if_neg h1, decide_eq_true (by omega : l3[x] < (l1.length : Int)), wrap_in (by omega)]
        exact ih k (x + 1) (by omega) (by omega) (by omega)
theorem refItems (hl : l1.length ≤ 9223372036854775807) (hl3 : l3.length ≤ 9223372036854775807) : ∀ (n k x : Nat), x ≤ l1.length → l1.length - x = n → n + l3.length + 8 < k → interlocutorref4_Right.l0 k x a0 l1 a2 l3 a4 = some ((l1.drop x).all itemB && (withinB l3.length (askedP a2).1 (askedP a2).2 && l3.all (placeB l1.length))) := by
  intro n
  induction n with
  | zero =>
    intro k x hx hn hk
    obtain ⟨k, rfl⟩ : ∃ j, k = j + 5 := ⟨k - 5, by omega⟩
    have he : x = l1.length := by omega
    subst he
    rw [show k + 5 = (k + 4) + 1 by omega]
    simp only [interlocutorref4_Right.l0]
    rw [if_neg (by omega), List.drop_length, wants_some]
    simp only [Option.bind_some, List.all_nil, Bool.true_and]
    have h2 := refPlaces a0 l1 a2 l3 a4 hl3 l3.length (k + 3) 0 (Nat.zero_le _) rfl (by omega)
    rw [List.drop_zero] at h2
    have h2' : interlocutorref4_Right.l1 (k + 3) 0 a0 l1 a2 l3 a4 = some (l3.all (placeB l1.length)) := h2
    unfold withinB
    by_cases h0 : (l3.length : Int) < (askedP a2).1
    · rw [if_pos h0, show k + 4 = (k + 3) + 1 by omega]
      simp only [interlocutorref4_Right.j2]
      rw [decide_eq_false (by omega)]
      simp
    · rw [if_neg h0, show k + 4 = (k + 3) + 1 by omega]
      simp only [interlocutorref4_Right.j2]
      rw [decide_eq_true (by omega : (askedP a2).1 ≤ (l3.length : Int)), h2']
      by_cases h1 : (l3.length : Int) > (askedP a2).2
      · rw [decide_eq_true h1, decide_eq_false (by omega : ¬ (l3.length : Int) ≤ (askedP a2).2)]
        simp
      · rw [decide_eq_false h1, decide_eq_true (by omega : (l3.length : Int) ≤ (askedP a2).2)]
        simp
  | succ n ih =>
    intro k x hx hn hk
    obtain ⟨k, rfl⟩ : ∃ j, k = j + 1 := ⟨k - 1, by omega⟩
    have hlt : x < l1.length := by omega
    simp only [interlocutorref4_Right.l0]
    rw [if_pos (by omega), if_pos (by omega), rd_getElem l1 x hlt, List.drop_eq_getElem_cons hlt, List.all_cons]
    by_cases h0 : l1[x] ≥ 20
    · rw [if_pos h0, show itemB l1[x] = false by unfold itemB; simp; omega]; rfl
    · rw [if_neg h0]
      by_cases h1 : l1[x] < -61
      · rw [if_pos h1, show itemB l1[x] = false by unfold itemB; simp; omega]; rfl
      · rw [if_neg h1, show itemB l1[x] = true by unfold itemB; simp; omega, Bool.true_and, wrap_in (by omega)]
        exact ih k (x + 1) (by omega) (by omega) (by omega)
theorem refRight_some (k : Nat) (hl : l1.length ≤ 9223372036854775807) (hl3 : l3.length ≤ 9223372036854775807) (hk : l1.length + l3.length + 10 < k) : interlocutorref4_Right.f k a0 l1 a2 l3 a4 = some (rightP a0 l1 a2 l3 a4) := by
  obtain ⟨k, rfl⟩ : ∃ j, k = j + 1 := ⟨k - 1, by omega⟩
  have h2 := refItems a0 l1 a2 l3 a4 hl hl3 l1.length k 0 (Nat.zero_le _) rfl (by omega)
  rw [List.drop_zero] at h2
  have h2' : interlocutorref4_Right.l0 k 0 a0 l1 a2 l3 a4 = some (l1.all itemB && (withinB l3.length (askedP a2).1 (askedP a2).2 && l3.all (placeB l1.length))) := h2
  unfold interlocutorref4_Right.f
  simp only [interlocutorref4_Right.j0, if_true]
  unfold rightP symbolB
  by_cases c1 : a0 < 0
  · rw [if_pos c1, decide_eq_false (by omega)]; rfl
  rw [if_neg c1, decide_eq_true (by omega : 0 ≤ a0)]
  by_cases c2 : a0 ≥ 20
  · rw [if_pos c2, decide_eq_false (by omega)]; rfl
  rw [if_neg c2, decide_eq_true (by omega : a0 < 20), h2']
  by_cases c3 : (l1.length : Int) < 1
  · rw [if_pos c3, show withinB l1.length 1 6 = false by unfold withinB; simp; omega]; rfl
  rw [if_neg c3]
  by_cases c4 : (l1.length : Int) > 6
  · rw [if_pos c4, show withinB l1.length 1 6 = false by unfold withinB; simp; omega]; rfl
  rw [if_neg c4, show withinB l1.length 1 6 = true by unfold withinB; simp; omega]
  by_cases c5 : a4 < 0
  · rw [if_pos c5, show withinB a4 0 100 = false by unfold withinB; simp; omega]
    simp
  rw [if_neg c5]
  by_cases c6 : a4 > 100
  · rw [decide_eq_true c6, show withinB a4 0 100 = false by unfold withinB; simp; omega]
    simp
  · rw [decide_eq_false c6, show withinB a4 0 100 = true by unfold withinB; simp; omega]
    simp
end
end Go.Proofs.Ytjomlfdkmdgclaa.P
end
section
namespace Go.Proofs.Ytjomlfdkmdgclaa.P
open Go.RowKit Go.Proofs.YtjomlfdkmdgclaaW.PrintWords Go.Proofs.YtjomlfdkmdgclaaW.PrintLast Go.Proofs.YtjomlfdkmdgclaaW.PrintMore
attribute [local go_sem] max2_int min2_int max_two min_two max_three min_three max_four min_four   
set_option linter.unusedVariables false
set_option linter.unusedSimpArgs false
end Go.Proofs.Ytjomlfdkmdgclaa.P
end
section
namespace Go.Proofs.Ytjomlfdkmdgclaa.P
open Go.RowKit Go.Proofs.YtjomlfdkmdgclaaW.PrintWords Go.Proofs.YtjomlfdkmdgclaaW.PrintLast Go.Proofs.YtjomlfdkmdgclaaW.PrintMore
attribute [local go_sem] max2_int min2_int max_two min_two max_three min_three max_four min_four   
set_option linter.unusedVariables false
set_option linter.unusedSimpArgs false
end Go.Proofs.Ytjomlfdkmdgclaa.P
end
section
namespace Go.Proofs.Ytjomlfdkmdgclaa.P
open Go.RowKit Go.Proofs.YtjomlfdkmdgclaaW.PrintWords Go.Proofs.YtjomlfdkmdgclaaW.PrintLast Go.Proofs.YtjomlfdkmdgclaaW.PrintMore
attribute [local go_sem] max2_int min2_int max_two min_two max_three min_three max_four min_four   
set_option linter.unusedVariables false
set_option linter.unusedSimpArgs false
end Go.Proofs.Ytjomlfdkmdgclaa.P
end
section
namespace Go.Proofs.Ytjomlfdkmdgclaa.P
open Go.RowKit Go.Proofs.YtjomlfdkmdgclaaW.PrintWords Go.Proofs.YtjomlfdkmdgclaaW.PrintLast Go.Proofs.YtjomlfdkmdgclaaW.PrintMore
attribute [local go_sem] max2_int min2_int max_two min_two max_three min_three max_four min_four   
set_option linter.unusedVariables false
set_option linter.unusedSimpArgs false
abbrev Raw' := S31
theorem rdR_getElem (l : List Raw') (j : Nat) (h : j < l.length) : rd_T31 l j = l[j] := by
  unfold rd_T31
  rw [Int.toNat_natCast, List.getD_eq_getElem?_getD, List.getElem?_eq_getElem h]
  rfl
def fewB (l : List Raw') : Bool := l.all fun x => decide (x.f3.length ≤ 20 ∧ x.f4.length ≤ 20)
theorem few_loop (l : List Raw') (hl : l.length ≤ 9223372036854775807) : ∀ (d j : Nat), j + d = l.length → ∀ k, d < k → interlocutorlaw4_Few.l0 k l j = some (fewB (l.drop j) && decide (l.length ≤ 80)) := by
  intro d
  induction d with
  | zero =>
    intro j hj k hk
    obtain ⟨k, rfl⟩ : ∃ i, k = i + 1 := ⟨k - 1, by omega⟩
    simp only [interlocutorlaw4_Few.l0]
    rw [if_neg (by omega), show j = l.length by omega, List.drop_length]
    have : decide ((l.length : Int) ≤ 80) = decide (l.length ≤ 80) := decide_eq_decide.2 (by omega)
    rw [this]
    rfl
  | succ d ih =>
    intro j hj k hk
    obtain ⟨k, rfl⟩ : ∃ i, k = i + 1 := ⟨k - 1, by omega⟩
    have hlt : j < l.length := by omega
    have hw : wrap64 ((j : Int) + 1) = ((j + 1 : Nat) : Int) := by rw [wrap_in (by omega)]; rfl
    have h1 := ih (j + 1) (by omega) k (by omega)
    simp only [interlocutorlaw4_Few.l0]
    rw [if_pos (by omega), if_pos (by omega), rdR_getElem l j hlt, hw, h1, List.drop_eq_getElem_cons hlt]
    unfold fewB
    rw [List.all_cons]
    by_cases h3 : (l[j].f3.length : Int) > 20
    · rw [if_pos h3, decide_eq_false (by omega)]; rfl
    · rw [if_neg h3]
      by_cases h4 : (l[j].f4.length : Int) > 20
      · rw [if_pos h4, decide_eq_false (by omega)]; rfl
      · rw [if_neg h4, decide_eq_true (by omega : l[j].f3.length ≤ 20 ∧ l[j].f4.length ≤ 20)]
        rfl
theorem few_some (l : List Raw') (hl : l.length ≤ 9223372036854775807) (k : Nat) (hk : l.length < k) : interlocutorlaw4_Few.f k l = some (fewB l && decide (l.length ≤ 80)) := by
  have h := few_loop l hl l.length 0 (by omega) k hk
  rw [List.drop_zero] at h
  exact h
def kidOk (s : Int) (y : Int) : Prop := (0 ≤ y ∧ y < s) ∨ (-55 ≤ y ∧ y ≤ -1)
section
variable (s n a0 a1 a2 : Int) (l3 l4 : List Int) (c0 : Int) (rhs : List Int) (c2 c4 : Int)
theorem make_places (hn : n ≤ 3) (hr : 1 ≤ rhs.length) (hr2 : rhs.length ≤ 10) (h4 : l4.length ≤ 20) : ∀ (d j : Nat) (ps : List Int), (j : Int) + d = n → ps.length = j → (∀ p ∈ ps, 0 ≤ p ∧ p < (rhs.length : Int)) →
    ∃ ps' : List Int, (ps'.length : Int) = n ∧ (∀ p ∈ ps', 0 ≤ p ∧ p < (rhs.length : Int)) ∧ ∀ k, d < k → interlocutorlaw4_Raw_Make.l1 k n j a0 a1 a2 l3 l4 c0 rhs c2 ps c4 = some (c0, rhs, c2, ps', c4) := by
  intro d
  induction d with
  | zero =>
    intro j ps hj hl hp
    refine ⟨ps, by omega, hp, fun k hk => ?_⟩
    obtain ⟨k, rfl⟩ : ∃ i, k = i + 1 := ⟨k - 1, by omega⟩
    simp only [interlocutorlaw4_Raw_Make.l1]
    rw [if_neg (by omega)]
  | succ d ih =>
    intro j ps hj hl hp
    have hw : wrap64 ((j : Int) + 1) = ((j + 1 : Nat) : Int) := by rw [wrap_in (by omega)]; rfl
    by_cases h : (j : Int) < (l4.length : Int)
    · have hv0 := rem_ge (rd l4 j) (rhs.length : Int) (by omega)
      have hv1 := rem_lt (rd l4 j) (rhs.length : Int) (by omega)
      obtain ⟨ps', h1, h2, h3⟩ := ih (j + 1) (ps ++ [rd l4 j % (rhs.length : Int)]) (by omega) (by rw [List.length_append, hl]; rfl) (fun p hp' => by
        rcases List.mem_append.1 hp' with hp' | hp'
        · exact hp p hp'
        · rw [List.mem_singleton.1 hp']; exact ⟨hv0, hv1⟩)
      refine ⟨ps', h1, h2, fun k hk => ?_⟩
      obtain ⟨k, rfl⟩ : ∃ i, k = i + 1 := ⟨k - 1, by omega⟩
      simp only [interlocutorlaw4_Raw_Make.l1]
      rw [if_pos (by omega), if_pos h, if_pos (by omega), within_rem _ _ (by omega) (by omega), Option.bind_some, if_pos (by omega), hw]
      exact h3 k (by omega)
    · have hv0 := rem_ge (j : Int) (rhs.length : Int) (by omega)
      have hv1 := rem_lt (j : Int) (rhs.length : Int) (by omega)
      obtain ⟨ps', h1, h2, h3⟩ := ih (j + 1) (ps ++ [(j : Int) % (rhs.length : Int)]) (by omega) (by rw [List.length_append, hl]; rfl) (fun p hp' => by
        rcases List.mem_append.1 hp' with hp' | hp'
        · exact hp p hp'
        · rw [List.mem_singleton.1 hp']; exact ⟨hv0, hv1⟩)
      refine ⟨ps', h1, h2, fun k hk => ?_⟩
      obtain ⟨k, rfl⟩ : ∃ i, k = i + 1 := ⟨k - 1, by omega⟩
      simp only [interlocutorlaw4_Raw_Make.l1]
      rw [if_pos (by omega), if_neg h, within_rem _ _ (by omega) (by omega), Option.bind_some, if_pos (by omega), hw]
      exact h3 k (by omega)
theorem kid_table : ∀ t : Fin 11, -55 ≤ wrap64 ((-1) - (rd ([0, 0, 0, 1, 2, 3, 50, 51, 52, 53, 54] : List Int) ((t.val : Nat) : Int))) ∧ wrap64 ((-1) - (rd ([0, 0, 0, 1, 2, 3, 50, 51, 52, 53, 54] : List Int) ((t.val : Nat) : Int))) ≤ -1 := by decide +kernel
theorem make_kids (s n a0 a1 a2 : Int) (l3 l4 : List Int) (c0 c2 c4 : Int) (hs : 1 ≤ s ∧ s ≤ 20) (hn : 1 ≤ n ∧ n ≤ 3) (h3 : l3.length ≤ 20) (hw3 : ∀ y ∈ l3, wfI y) (h4 : l4.length ≤ 20) (ha1 : wfI a1) : ∀ (d i : Nat) (rhs : List Int), i + d = 3 → rhs.length = i → (∀ y ∈ rhs, kidOk s y) →
    ∃ rhs' ps', (1 ≤ rhs'.length ∧ rhs'.length ≤ 3) ∧ (∀ y ∈ rhs', kidOk s y) ∧ ((ps'.length : Int) = n) ∧ (∀ p ∈ ps', 0 ≤ p ∧ p < (rhs'.length : Int)) ∧ ∀ k, 3 * d + 20 < k → interlocutorlaw4_Raw_Make.l0 k s n i a0 a1 a2 l3 l4 c0 rhs c2 c4 = some (c0, rhs', c2, ps', c4) := by
  intro d
  induction d with
  | zero =>
    intro i rhs hi hl hk
    obtain ⟨ps', p1, p2, p3⟩ := make_places n a0 a1 a2 l3 l4 c0 rhs c2 c4 hn.2 (by omega) (by omega) h4 n.toNat 0 [] (by omega) rfl (by simp)
    refine ⟨rhs, ps', ⟨by omega, by omega⟩, hk, p1, p2, fun k hk => ?_⟩
    obtain ⟨k, rfl⟩ : ∃ j, k = j + 2 := ⟨k - 2, by omega⟩
    have hm0 := rem_ge (l3.length : Int) 3 (by omega)
    have hm1 := rem_lt (l3.length : Int) 3 (by omega)
    rw [show k + 2 = (k + 1) + 1 by omega]
    simp only [interlocutorlaw4_Raw_Make.l0]
    rw [within_rem _ 3 (by omega) (by omega), Option.bind_some, wrap_in (by omega), if_neg (by omega), if_neg (by omega)]
    simp only [interlocutorlaw4_Raw_Make.j1, Bool.false_eq_true, if_false]
    exact p3 k (by omega)
  | succ d ih =>
    intro i rhs hi hl hk
    have hm0 := rem_ge (l3.length : Int) 3 (by omega)
    have hm1 := rem_lt (l3.length : Int) 3 (by omega)
    obtain ⟨b, hb0, hb⟩ : ∃ b : Bool, (i = 0 → b = true) ∧ ∀ k, interlocutorlaw4_Raw_Make.l0 (k + 1) s n i a0 a1 a2 l3 l4 c0 rhs c2 c4 = interlocutorlaw4_Raw_Make.j1 k s n i b a0 a1 a2 l3 l4 c0 rhs c2 c4 := by
      by_cases h1 : (i : Int) < 1 + (l3.length : Int) % 3
      · refine ⟨true, fun _ => rfl, fun k => ?_⟩
        simp only [interlocutorlaw4_Raw_Make.l0]
        rw [within_rem _ 3 (by omega) (by omega), Option.bind_some, wrap_in (by omega), if_pos h1]
      · by_cases h2 : (i : Int) < n
        · refine ⟨(wrap64 (Int.tdiv a1 16) % 2 == 0), fun h => by omega, fun k => ?_⟩
          simp only [interlocutorlaw4_Raw_Make.l0]
          rw [within_rem _ 3 (by omega) (by omega), Option.bind_some, wrap_in (by omega), if_neg h1, if_pos h2, within_rem _ 2 (by omega) (by omega), Option.bind_some]
        · refine ⟨false, fun h => by omega, fun k => ?_⟩
          simp only [interlocutorlaw4_Raw_Make.l0]
          rw [within_rem _ 3 (by omega) (by omega), Option.bind_some, wrap_in (by omega), if_neg h1, if_neg h2]
    cases b with
    | false =>
      have hi1 : i ≠ 0 := fun h => by have := hb0 h; cases this
      obtain ⟨ps', p1, p2, p3⟩ := make_places n a0 a1 a2 l3 l4 c0 rhs c2 c4 hn.2 (by omega) (by omega) h4 n.toNat 0 [] (by omega) rfl (by simp)
      refine ⟨rhs, ps', ⟨by omega, by omega⟩, hk, p1, p2, fun k hk => ?_⟩
      obtain ⟨k, rfl⟩ : ∃ j, k = j + 2 := ⟨k - 2, by omega⟩
      rw [show k + 2 = (k + 1) + 1 by omega, hb]
      simp only [interlocutorlaw4_Raw_Make.j1, Bool.false_eq_true, if_false]
      exact p3 k (by omega)
    | true =>
      obtain ⟨v, hv⟩ : ∃ v : Int, ∀ k, interlocutorlaw4_Raw_Make.j1 (k + 1) s n i true a0 a1 a2 l3 l4 c0 rhs c2 c4 = interlocutorlaw4_Raw_Make.j2 k s n i v a0 a1 a2 l3 l4 c0 rhs c2 c4 := by
        by_cases h1 : (i : Int) < (l3.length : Int)
        · refine ⟨rd l3 i, fun k => ?_⟩
          simp only [interlocutorlaw4_Raw_Make.j1, if_true]
          rw [if_pos h1, if_pos (by omega)]
        · refine ⟨i, fun k => ?_⟩
          simp only [interlocutorlaw4_Raw_Make.j1, if_true]
          rw [if_neg h1]
      have hw : wrap64 ((i : Int) + 1) = ((i + 1 : Nat) : Int) := by rw [wrap_in (by omega)]; rfl
      obtain ⟨y, hy, hj⟩ : ∃ y : Int, kidOk s y ∧ ∀ k, interlocutorlaw4_Raw_Make.j2 (k + 1) s n i v a0 a1 a2 l3 l4 c0 rhs c2 c4 = interlocutorlaw4_Raw_Make.l0 k s n ((i + 1 : Nat) : Int) a0 a1 a2 l3 l4 c0 (rhs ++ [y]) c2 c4 := by
        by_cases h1 : wrap64 (Int.tdiv v 20) % 2 = 0
        · obtain ⟨t, ht⟩ := as_fin 11 rfl (rem_ge (wrap64 (Int.tdiv v 40)) 11 (by omega)) (rem_lt (wrap64 (Int.tdiv v 40)) 11 (by omega))
          refine ⟨_, .inr (kid_table t), fun k => ?_⟩
          simp only [interlocutorlaw4_Raw_Make.j2]
          rw [within_rem v s (by omega) (by omega), Option.bind_some, within_rem _ 2 (by omega) (by omega), Option.bind_some, if_pos h1, Option.bind_some, within_rem _ 11 (by omega) (by omega), Option.bind_some, ht, if_pos (by omega), if_pos (by have := t.isLt; simp; omega), if_pos (by omega), hw]
        · refine ⟨v % s, .inl ⟨rem_ge v s (by omega), rem_lt v s (by omega)⟩, fun k => ?_⟩
          simp only [interlocutorlaw4_Raw_Make.j2]
          rw [within_rem v s (by omega) (by omega), Option.bind_some, within_rem _ 2 (by omega) (by omega), Option.bind_some, if_neg h1, if_pos (by omega), hw]
      obtain ⟨rhs', ps', q1, q2, q3, q4, q5⟩ := ih (i + 1) (rhs ++ [y]) (by omega) (by rw [List.length_append, hl]; rfl) (fun z hz => by
        rcases List.mem_append.1 hz with hz | hz
        · exact hk z hz
        · rw [List.mem_singleton.1 hz]; exact hy)
      refine ⟨rhs', ps', q1, q2, q3, q4, fun k hk => ?_⟩
      obtain ⟨k, rfl⟩ : ∃ j, k = j + 3 := ⟨k - 3, by omega⟩
      rw [show k + 3 = ((k + 1) + 1) + 1 by omega, hb, hv, hj]
      exact q5 k (by omega)
def makeN (o : Nat) : Int := rd ([1, 3, 2, 2, 2, 2, 3, 1, 1, 2, 1, 1, 2, 2, 2, 2] : List Int) (o : Int)
theorem makeN_ok : ∀ o : Fin 16, (1 ≤ makeN o.val ∧ makeN o.val ≤ 3) ∧ (askedP ((o.val : Nat) : Int)).1 ≤ makeN o.val ∧ makeN o.val ≤ (askedP ((o.val : Nat) : Int)).2 := by decide +kernel
structure Made (s : Int) (r : Rule') : Prop where
  lhs : 0 ≤ r.f0 ∧ r.f0 < s
  len : 1 ≤ r.f1.length ∧ r.f1.length ≤ 3
  kids : ∀ y ∈ r.f1, kidOk s y
  right : rightR r = true
theorem make_some (x : Raw') (s : Int) (hs : 1 ≤ s ∧ s ≤ 20) (hx : okRaw x) (h3 : x.f3.length ≤ 20) (h4 : x.f4.length ≤ 20) :
    ∃ r : Rule', Made s r ∧ ∀ k, 40 ≤ k → interlocutorlaw4_Raw_Make.f k x.f0 x.f1 x.f2 x.f3 x.f4 s = some (r.f0, r.f1, r.f2.f0, r.f2.f1, r.f3) := by
  obtain ⟨_, hw1, _, hw3, _⟩ := hx
  obtain ⟨o, ho⟩ := as_fin 16 rfl (rem_ge x.f1 16 (by omega)) (rem_lt x.f1 16 (by omega))
  have hn := makeN_ok o
  have hc0 := rem_ge x.f2 101 (by omega)
  have hc1 := rem_lt x.f2 101 (by omega)
  have hl0 := rem_ge x.f0 s (by omega)
  have hl1 := rem_lt x.f0 s (by omega)
  obtain ⟨rhs, ps, p1, p2, p3, p4, p5⟩ := make_kids s (makeN o.val) x.f0 x.f1 x.f2 x.f3 x.f4 (x.f0 % s) ((o.val : Nat) : Int) (x.f2 % 101) hs hn.1 h3 hw3 h4 hw1 3 0 [] rfl rfl (by simp)
  refine ⟨⟨x.f0 % s, rhs, ⟨((o.val : Nat) : Int), ps⟩, x.f2 % 101⟩, ⟨⟨hl0, hl1⟩, p1, p2, ?_⟩, fun k hk => ?_⟩
  · show rightP (x.f0 % s) rhs ((o.val : Nat) : Int) ps (x.f2 % 101) = true
    unfold rightP symbolB withinB
    simp only [Bool.and_eq_true, decide_eq_true_eq, List.all_eq_true]
    refine ⟨⟨hl0, by omega⟩, ⟨by omega, by omega⟩, fun y hy => ?_, ⟨hc0, by omega⟩, ⟨by omega, by omega⟩, fun p hp => ?_⟩
    · unfold itemB
      rcases p2 y hy with h | h
      · rw [decide_eq_true (by omega), decide_eq_true (by omega)]; rfl
      · rw [decide_eq_true (by omega), decide_eq_true (by omega)]; rfl
    · have h := p4 p hp
      unfold placeB
      rw [decide_eq_true h.1, decide_eq_true h.2]; rfl
  · unfold interlocutorlaw4_Raw_Make.f
    rw [within_rem x.f0 s (by omega) (by omega), Option.bind_some, within_rem x.f2 101 (by omega) (by omega), Option.bind_some, within_rem x.f1 16 (by omega) (by omega), Option.bind_some, Option.bind_some, ho, if_pos (by omega), if_pos (by have := o.isLt; simp; omega)]
    exact p5 k (by omega)
end
end Go.Proofs.Ytjomlfdkmdgclaa.P
end
section
namespace Go.Proofs.Ytjomlfdkmdgclaa.Pure
open Go.RowKit Go.Proofs.Ytjomlfdkmdgclaa.P Go.Proofs.YtjomlfdkmdgclaaW.PrintWords Go.Proofs.YtjomlfdkmdgclaaW.PrintLast
theorem both (k : Nat) (a0 : Int) (l1 : List Int) (a2 : Int) (l3 : List Int) (a4 : Int) (b0 : Int) (m1 : List Int) (b2 : Int) (m3 : List Int) (b4 : Int) (h1 : l1.length ≤ 20) (h3 : l3.length ≤ 20) (h2 : m1.length ≤ 20) (h4 : m3.length ≤ 20) (hk : 100 < k) :
    interlocutorlaw4_GramRight.j1 k a0 l1 a2 l3 a4 b0 m1 b2 m3 b4 = some true := by
  obtain ⟨k, rfl⟩ : ∃ i, k = i + 1 := ⟨k - 1, by omega⟩
  simp only [interlocutorlaw4_GramRight.j1]
  have e1 : gram_Right.f b0 m1 b2 m3 b4 = some (rightP b0 m1 b2 m3 b4) := rfl
  have e2 : gram_Right.f a0 l1 a2 l3 a4 = some (rightP a0 l1 a2 l3 a4) := rfl
  rw [e1, Option.bind_some, refRight_some b0 m1 b2 m3 b4 k (by omega) (by omega) (by omega), Option.bind_some, if_pos (by simp), e2, Option.bind_some, refRight_some a0 l1 a2 l3 a4 k (by omega) (by omega) (by omega), Option.bind_some]
  simp
theorem GramRight (x : Rule') (l0 : List Raw') (a2 a3 : Int) (h1 : x.f1.length ≤ 9223372036854775807) (h3 : x.f2.f1.length ≤ 9223372036854775807) (hl : l0.length ≤ 9223372036854775807) (hok : ∀ x ∈ l0, okRaw x) :
    ∃ k, interlocutorlaw4_GramRight.f k x.f0 x.f1 x.f2.f0 x.f2.f1 x.f3 l0 a2 a3 = some true := by
  refine ⟨l0.length + 600, ?_⟩
  have hkn : interlocutorlaw4_known.f = some true := rfl
  have hj : ∀ k x0 x1 x2 x3 x4, interlocutorlaw4_GramRight.j0 (k + 1) l0 a2 a3 true x0 x1 x2 x3 x4 = some true := by
    intro k x0 x1 x2 x3 x4
    simp only [interlocutorlaw4_GramRight.j0, if_true]
  unfold interlocutorlaw4_GramRight.f
  rw [hkn, Option.bind_some, if_pos rfl, few_some l0 hl _ (by omega), Option.bind_some]
  by_cases hf : (fewB l0 && decide (l0.length ≤ 80)) = true
  · rw [if_pos hf]
    rw [Bool.and_eq_true, decide_eq_true_eq] at hf
    by_cases c1 : (x.f1.length : Int) > 20
    · rw [if_pos c1]; exact hj _ _ _ _ _ _
    rw [if_neg c1]
    by_cases c2 : (x.f2.f1.length : Int) > 20
    · rw [if_pos c2]; exact hj _ _ _ _ _ _
    rw [if_neg c2]
    by_cases c3 : (l0.length : Int) = 0
    · rw [show ((l0.length : Int) == 0) = true by simpa using c3]; exact hj _ _ _ _ _ _
    rw [show ((l0.length : Int) == 0) = false by simpa using c3]
    have hlt : 0 < l0.length := by omega
    obtain ⟨r, hr, hm⟩ := make_some l0[0] 20 ⟨by omega, by omega⟩ (hok _ (List.getElem_mem hlt)) (of_decide_eq_true (List.all_eq_true.1 hf.1 _ (List.getElem_mem hlt))).1 (of_decide_eq_true (List.all_eq_true.1 hf.1 _ (List.getElem_mem hlt))).2
    have hrr : rightP r.f0 r.f1 r.f2.f0 r.f2.f1 r.f3 = true := hr.right
    have hr3 : 1 ≤ r.f2.f1.length ∧ r.f2.f1.length ≤ 6 := by
      have h := hrr
      unfold rightP withinB at h
      simp only [Bool.and_eq_true, decide_eq_true_eq] at h
      have h5 := h.2.2.2.2.1
      have h6 : 1 ≤ (askedP r.f2.f0).1 ∧ (askedP r.f2.f0).2 ≤ 6 := by
        unfold askedP
        repeat' split
        all_goals exact ⟨by simp, by simp⟩
      omega
    have hl1 := hr.len
    have e1 : gram_Right.f r.f0 r.f1 r.f2.f0 r.f2.f1 r.f3 = some true := congrArg some hrr
    have hrd : rd_T31 l0 0 = l0[0] := rdR_getElem l0 0 hlt
    have b0 := rem_ge a2 7 (by omega)
    have b1 := rem_lt a2 7 (by omega)
    have p0 := rem_ge a3 5 (by omega)
    have p1 := rem_lt a3 5 (by omega)
    have q0 := rem_ge a3 6 (by omega)
    have q1 := rem_lt a3 6 (by omega)
    have s0 := rem_ge a3 8 (by omega)
    have s1 := rem_lt a3 8 (by omega)
    show interlocutorlaw4_GramRight.j0 ((l0.length + 599) + 1) l0 a2 a3 false x.f0 x.f1 x.f2.f0 x.f2.f1 x.f3 = some true
    simp only [interlocutorlaw4_GramRight.j0, Bool.false_eq_true, if_false]
    rw [if_pos (by omega), hrd, hm _ (by omega), Option.bind_some]
    simp only []
    rw [e1, Option.bind_some, if_pos rfl, within_rem a2 7 (by omega) (by omega), Option.bind_some]
    by_cases d0 : a2 % 7 = 0
    · rw [if_pos d0, Option.bind_some, within_rem a3 5 (by omega) (by omega), Option.bind_some, if_pos p0, if_pos (by simp; omega)]
      exact both _ _ _ _ _ _ _ _ _ _ _ (by omega) (by omega) (by omega) (by omega) (by omega)
    rw [if_neg d0]
    by_cases d1 : a2 % 7 = 1
    · rw [if_pos d1, Option.bind_some, within_rem a3 6 (by omega) (by omega), Option.bind_some, if_pos q0, if_pos (by simp; omega), if_pos (by omega)]
      exact both _ _ _ _ _ _ _ _ _ _ _ (by omega) (by omega) (by rw [List.length_set]; omega) (by omega) (by omega)
    rw [if_neg d1]
    by_cases d2 : a2 % 7 = 2
    · rw [if_pos d2, Option.bind_some, if_pos (by simp; omega), Option.bind_some, Option.bind_some, if_pos (by simp; omega)]
      exact both _ _ _ _ _ _ _ _ _ _ _ (by omega) (by omega) (by simp; omega) (by omega) (by omega)
    rw [if_neg d2]
    by_cases d3 : a2 % 7 = 3
    · rw [if_pos d3, Option.bind_some, within_rem a3 5 (by omega) (by omega), Option.bind_some, if_pos p0, if_pos (by simp; omega)]
      exact both _ _ _ _ _ _ _ _ _ _ _ (by omega) (by omega) (by omega) (by omega) (by omega)
    rw [if_neg d3]
    by_cases d4 : a2 % 7 = 4
    · rw [if_pos d4, Option.bind_some, within_rem a3 8 (by omega) (by omega), Option.bind_some, if_pos s0, if_pos (by simp; omega)]
      exact both _ _ _ _ _ _ _ _ _ _ _ (by omega) (by omega) (by omega) (by omega) (by omega)
    rw [if_neg d4]
    by_cases d5 : a2 % 7 = 5
    · rw [if_pos d5, Option.bind_some, if_pos (by simp; omega), Option.bind_some, if_pos (by simp; omega)]
      exact both _ _ _ _ _ _ _ _ _ _ _ (by omega) (by omega) (by omega) (by simp; omega) (by omega)
    rw [if_neg d5]
    by_cases d6 : a2 % 7 = 6
    · rw [if_pos d6, Option.bind_some, within_rem a3 6 (by omega) (by omega), Option.bind_some, if_pos q0, if_pos (by simp; omega), if_pos (by omega)]
      exact both _ _ _ _ _ _ _ _ _ _ _ (by omega) (by omega) (by omega) (by rw [List.length_set]; omega) (by omega)
    omega
  · rw [if_neg hf]
    exact hj _ _ _ _ _ _
end Go.Proofs.Ytjomlfdkmdgclaa.Pure
end
