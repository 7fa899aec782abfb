/- GramChecks: of any rules whether they may be, their units, what is reached, are the document's. Part 4: contracts of the functions that the law reaches, and words for them. -/
import Derived.Test.YtjomlfdkmdgclaaMChecks3
section
namespace Go.Proofs.Ytjomlfdkmdgclaa.P
open Go.RowKit Go.Proofs.YtjomlfdkmdgclaaW.PrintWords Go.Proofs.YtjomlfdkmdgclaaW.PrintLast Go.Proofs.YtjomlfdkmdgclaaW.PrintMore
attribute [local go_sem] max2_int min2_int max_two min_two max_three min_three max_four min_four   
set_option linter.unusedVariables false
set_option linter.unusedSimpArgs false
abbrev Raw' := S31
theorem rdR_getElem (l : List Raw') (j : Nat) (h : j < l.length) : rd_T31 l j = l[j] := by
  unfold rd_T31
  rw [Int.toNat_natCast, List.getD_eq_getElem?_getD, List.getElem?_eq_getElem h]
  rfl
def fewB (l : List Raw') : Bool := l.all fun x => decide (x.f3.length ≤ 20 ∧ x.f4.length ≤ 20)
theorem few_loop (l : List Raw') (hl : l.length ≤ 9223372036854775807) : ∀ (d j : Nat), j + d = l.length → ∀ k, d < k → interlocutorlaw4_Few.l0 k l j = some (fewB (l.drop j) && decide (l.length ≤ 80)) := by
  intro d
  induction d with
  | zero =>
    intro j hj k hk
    obtain ⟨k, rfl⟩ : ∃ i, k = i + 1 := ⟨k - 1, by omega⟩
    simp only [interlocutorlaw4_Few.l0]
    rw [if_neg (by omega), show j = l.length by omega, List.drop_length]
    have : decide ((l.length : Int) ≤ 80) = decide (l.length ≤ 80) := decide_eq_decide.2 (by omega)
    rw [this]
    rfl
  | succ d ih =>
    intro j hj k hk
    obtain ⟨k, rfl⟩ : ∃ i, k = i + 1 := ⟨k - 1, by omega⟩
    have hlt : j < l.length := by omega
    have hw : wrap64 ((j : Int) + 1) = ((j + 1 : Nat) : Int) := by rw [wrap_in (by omega)]; rfl
    have h1 := ih (j + 1) (by omega) k (by omega)
    simp only [interlocutorlaw4_Few.l0]
    rw [if_pos (by omega), if_pos (by omega), rdR_getElem l j hlt, hw, h1, List.drop_eq_getElem_cons hlt]
    unfold fewB
    rw [List.all_cons]
    by_cases h3 : (l[j].f3.length : Int) > 20
    · rw [if_pos h3, decide_eq_false (by omega)]; rfl
    · rw [if_neg h3]
      by_cases h4 : (l[j].f4.length : Int) > 20
      · rw [if_pos h4, decide_eq_false (by omega)]; rfl
      · rw [if_neg h4, decide_eq_true (by omega : l[j].f3.length ≤ 20 ∧ l[j].f4.length ≤ 20)]
        rfl
theorem few_some (l : List Raw') (hl : l.length ≤ 9223372036854775807) (k : Nat) (hk : l.length < k) : interlocutorlaw4_Few.f k l = some (fewB l && decide (l.length ≤ 80)) := by
  have h := few_loop l hl l.length 0 (by omega) k hk
  rw [List.drop_zero] at h
  exact h
def kidOk (s : Int) (y : Int) : Prop := (0 ≤ y ∧ y < s) ∨ (-55 ≤ y ∧ y ≤ -1)
section
variable (s n a0 a1 a2 : Int) (l3 l4 : List Int) (c0 : Int) (rhs : List Int) (c2 c4 : Int)
theorem make_places (hn : n ≤ 3) (hr : 1 ≤ rhs.length) (hr2 : rhs.length ≤ 10) (h4 : l4.length ≤ 20) : ∀ (d j : Nat) (ps : List Int), (j : Int) + d = n → ps.length = j → (∀ p ∈ ps, 0 ≤ p ∧ p < (rhs.length : Int)) →
    ∃ ps' : List Int, (ps'.length : Int) = n ∧ (∀ p ∈ ps', 0 ≤ p ∧ p < (rhs.length : Int)) ∧ ∀ k, d < k → interlocutorlaw4_Raw_Make.l1 k n j a0 a1 a2 l3 l4 c0 rhs c2 ps c4 = some (c0, rhs, c2, ps', c4) := by
  intro d
  induction d with
  | zero =>
    intro j ps hj hl hp
    refine ⟨ps, by omega, hp, fun k hk => ?_⟩
    obtain ⟨k, rfl⟩ : ∃ i, k = i + 1 := ⟨k - 1, by omega⟩
    simp only [interlocutorlaw4_Raw_Make.l1]
    rw [if_neg (by omega)]
  | succ d ih =>
    intro j ps hj hl hp
    have hw : wrap64 ((j : Int) + 1) = ((j + 1 : Nat) : Int) := by rw [wrap_in (by omega)]; rfl
    by_cases h : (j : Int) < (l4.length : Int)
    · have hv0 := rem_ge (rd l4 j) (rhs.length : Int) (by omega)
      have hv1 := rem_lt (rd l4 j) (rhs.length : Int) (by omega)
      obtain ⟨ps', h1, h2, h3⟩ := ih (j + 1) (ps ++ [rd l4 j % (rhs.length : Int)]) (by omega) (by rw [List.length_append, hl]; rfl) (fun p hp' => by
        rcases List.mem_append.1 hp' with hp' | hp'
        · exact hp p hp'
        · rw [List.mem_singleton.1 hp']; exact ⟨hv0, hv1⟩)
      refine ⟨ps', h1, h2, fun k hk => ?_⟩
      obtain ⟨k, rfl⟩ : ∃ i, k = i + 1 := ⟨k - 1, by omega⟩
      simp only [interlocutorlaw4_Raw_Make.l1]
      rw [if_pos (by omega), if_pos h, if_pos (by omega), within_rem _ _ (by omega) (by omega), Option.bind_some, if_pos (by omega), hw]
      exact h3 k (by omega)
    · have hv0 := rem_ge (j : Int) (rhs.length : Int) (by omega)
      have hv1 := rem_lt (j : Int) (rhs.length : Int) (by omega)
      obtain ⟨ps', h1, h2, h3⟩ := ih (j + 1) (ps ++ [(j : Int) % (rhs.length : Int)]) (by omega) (by rw [List.length_append, hl]; rfl) (fun p hp' => by
        rcases List.mem_append.1 hp' with hp' | hp'
        · exact hp p hp'
        · rw [List.mem_singleton.1 hp']; exact ⟨hv0, hv1⟩)
      refine ⟨ps', h1, h2, fun k hk => ?_⟩
      obtain ⟨k, rfl⟩ : ∃ i, k = i + 1 := ⟨k - 1, by omega⟩
      simp only [interlocutorlaw4_Raw_Make.l1]
      rw [if_pos (by omega), if_neg h, within_rem _ _ (by omega) (by omega), Option.bind_some, if_pos (by omega), hw]
      exact h3 k (by omega)
theorem kid_table : ∀ t : Fin 11, -55 ≤ wrap64 ((-1) - (rd ([0, 0, 0, 1, 2, 3, 50, 51, 52, 53, 54] : List Int) ((t.val : Nat) : Int))) ∧ wrap64 ((-1) - (rd ([0, 0, 0, 1, 2, 3, 50, 51, 52, 53, 54] : List Int) ((t.val : Nat) : Int))) ≤ -1 := by decide +kernel
theorem make_kids (s n a0 a1 a2 : Int) (l3 l4 : List Int) (c0 c2 c4 : Int) (hs : 1 ≤ s ∧ s ≤ 20) (hn : 1 ≤ n ∧ n ≤ 3) (h3 : l3.length ≤ 20) (hw3 : ∀ y ∈ l3, wfI y) (h4 : l4.length ≤ 20) (ha1 : wfI a1) : ∀ (d i : Nat) (rhs : List Int), i + d = 3 → rhs.length = i → (∀ y ∈ rhs, kidOk s y) →
    ∃ rhs' ps', (1 ≤ rhs'.length ∧ rhs'.length ≤ 3) ∧ (∀ y ∈ rhs', kidOk s y) ∧ ((ps'.length : Int) = n) ∧ (∀ p ∈ ps', 0 ≤ p ∧ p < (rhs'.length : Int)) ∧ ∀ k, 3 * d + 20 < k → interlocutorlaw4_Raw_Make.l0 k s n i a0 a1 a2 l3 l4 c0 rhs c2 c4 = some (c0, rhs', c2, ps', c4) := by
  intro d
  induction d with
  | zero =>
    intro i rhs hi hl hk
    obtain ⟨ps', p1, p2, p3⟩ := make_places n a0 a1 a2 l3 l4 c0 rhs c2 c4 hn.2 (by omega) (by omega) h4 n.toNat 0 [] (by omega) rfl (by simp)
    refine ⟨rhs, ps', ⟨by omega, by omega⟩, hk, p1, p2, fun k hk => ?_⟩
    obtain ⟨k, rfl⟩ : ∃ j, k = j + 2 := ⟨k - 2, by omega⟩
    have hm0 := rem_ge (l3.length : Int) 3 (by omega)
    have hm1 := rem_lt (l3.length : Int) 3 (by omega)
    rw [show k + 2 = (k + 1) + 1 by omega]
    simp only [interlocutorlaw4_Raw_Make.l0]
    rw [within_rem _ 3 (by omega) (by omega), Option.bind_some, wrap_in (by omega), if_neg (by omega), if_neg (by omega)]
    simp only [interlocutorlaw4_Raw_Make.j1, Bool.false_eq_true, if_false]
    exact p3 k (by omega)
  | succ d ih =>
    intro i rhs hi hl hk
    have hm0 := rem_ge (l3.length : Int) 3 (by omega)
    have hm1 := rem_lt (l3.length : Int) 3 (by omega)
    obtain ⟨b, hb0, hb⟩ : ∃ b : Bool, (i = 0 → b = true) ∧ ∀ k, interlocutorlaw4_Raw_Make.l0 (k + 1) s n i a0 a1 a2 l3 l4 c0 rhs c2 c4 = interlocutorlaw4_Raw_Make.j1 k s n i b a0 a1 a2 l3 l4 c0 rhs c2 c4 := by
      by_cases h1 : (i : Int) < 1 + (l3.length : Int) % 3
      · refine ⟨true, fun _ => rfl, fun k => ?_⟩
        simp only [interlocutorlaw4_Raw_Make.l0]
        rw [within_rem _ 3 (by omega) (by omega), Option.bind_some, wrap_in (by omega), if_pos h1]
      · by_cases h2 : (i : Int) < n
        · refine ⟨(wrap64 (Int.tdiv a1 16) % 2 == 0), fun h => by omega, fun k => ?_⟩
          simp only [interlocutorlaw4_Raw_Make.l0]
          rw [within_rem _ 3 (by omega) (by omega), Option.bind_some, wrap_in (by omega), if_neg h1, if_pos h2, within_rem _ 2 (by omega) (by omega), Option.bind_some]
        · refine ⟨false, fun h => by omega, fun k => ?_⟩
          simp only [interlocutorlaw4_Raw_Make.l0]
          rw [within_rem _ 3 (by omega) (by omega), Option.bind_some, wrap_in (by omega), if_neg h1, if_neg h2]
    cases b with
    | false =>
      have hi1 : i ≠ 0 := fun h => by have := hb0 h; cases this
      obtain ⟨ps', p1, p2, p3⟩ := make_places n a0 a1 a2 l3 l4 c0 rhs c2 c4 hn.2 (by omega) (by omega) h4 n.toNat 0 [] (by omega) rfl (by simp)
      refine ⟨rhs, ps', ⟨by omega, by omega⟩, hk, p1, p2, fun k hk => ?_⟩
      obtain ⟨k, rfl⟩ : ∃ j, k = j + 2 := ⟨k - 2, by omega⟩
      rw [show k + 2 = (k + 1) + 1 by omega, hb]
      simp only [interlocutorlaw4_Raw_Make.j1, Bool.false_eq_true, if_false]
      exact p3 k (by omega)
    | true =>
      obtain ⟨v, hv⟩ : ∃ v : Int, ∀ k, interlocutorlaw4_Raw_Make.j1 (k + 1) s n i true a0 a1 a2 l3 l4 c0 rhs c2 c4 = interlocutorlaw4_Raw_Make.j2 k s n i v a0 a1 a2 l3 l4 c0 rhs c2 c4 := by
        by_cases h1 : (i : Int) < (l3.length : Int)
        · refine ⟨rd l3 i, fun k => ?_⟩
          simp only [interlocutorlaw4_Raw_Make.j1, if_true]
          rw [if_pos h1, if_pos (by omega)]
        · refine ⟨i, fun k => ?_⟩
          simp only [interlocutorlaw4_Raw_Make.j1, if_true]
          rw [if_neg h1]
      have hw : wrap64 ((i : Int) + 1) = ((i + 1 : Nat) : Int) := by rw [wrap_in (by omega)]; rfl
      obtain ⟨y, hy, hj⟩ : ∃ y : Int, kidOk s y ∧ ∀ k, interlocutorlaw4_Raw_Make.j2 (k + 1) s n i v a0 a1 a2 l3 l4 c0 rhs c2 c4 = interlocutorlaw4_Raw_Make.l0 k s n ((i + 1 : Nat) : Int) a0 a1 a2 l3 l4 c0 (rhs ++ [y]) c2 c4 := by
        by_cases h1 : wrap64 (Int.tdiv v 20) % 2 = 0
        · obtain ⟨t, ht⟩ := as_fin 11 rfl (rem_ge (wrap64 (Int.tdiv v 40)) 11 (by omega)) (rem_lt (wrap64 (Int.tdiv v 40)) 11 (by omega))
          refine ⟨_, .inr (kid_table t), fun k => ?_⟩
          simp only [interlocutorlaw4_Raw_Make.j2]
          rw [within_rem v s (by omega) (by omega), Option.bind_some, within_rem _ 2 (by omega) (by omega), Option.bind_some, if_pos h1, Option.bind_some, within_rem _ 11 (by omega) (by omega), Option.bind_some, ht, if_pos (by omega), if_pos (by have := t.isLt; simp; omega), if_pos (by omega), hw]
        · refine ⟨v % s, .inl ⟨rem_ge v s (by omega), rem_lt v s (by omega)⟩, fun k => ?_⟩
          simp only [interlocutorlaw4_Raw_Make.j2]
          rw [within_rem v s (by omega) (by omega), Option.bind_some, within_rem _ 2 (by omega) (by omega), Option.bind_some, if_neg h1, if_pos (by omega), hw]
      obtain ⟨rhs', ps', q1, q2, q3, q4, q5⟩ := ih (i + 1) (rhs ++ [y]) (by omega) (by rw [List.length_append, hl]; rfl) (fun z hz => by
        rcases List.mem_append.1 hz with hz | hz
        · exact hk z hz
        · rw [List.mem_singleton.1 hz]; exact hy)
      refine ⟨rhs', ps', q1, q2, q3, q4, fun k hk => ?_⟩
      obtain ⟨k, rfl⟩ : ∃ j, k = j + 3 := ⟨k - 3, by omega⟩
      rw [show k + 3 = ((k + 1) + 1) + 1 by omega, hb, hv, hj]
      exact q5 k (by omega)
def makeN (o : Nat) : Int := rd ([1, 3, 2, 2, 2, 2, 3, 1, 1, 2, 1, 1, 2, 2, 2, 2] : List Int) (o : Int)
theorem makeN_ok : ∀ o : Fin 16, (1 ≤ makeN o.val ∧ makeN o.val ≤ 3) ∧ (askedP ((o.val : Nat) : Int)).1 ≤ makeN o.val ∧ makeN o.val ≤ (askedP ((o.val : Nat) : Int)).2 := by decide +kernel
structure Made (s : Int) (r : Rule') : Prop where
  lhs : 0 ≤ r.f0 ∧ r.f0 < s
  len : 1 ≤ r.f1.length ∧ r.f1.length ≤ 3
  kids : ∀ y ∈ r.f1, kidOk s y
  right : rightR r = true
theorem make_some (x : Raw') (s : Int) (hs : 1 ≤ s ∧ s ≤ 20) (hx : okRaw x) (h3 : x.f3.length ≤ 20) (h4 : x.f4.length ≤ 20) :
    ∃ r : Rule', Made s r ∧ ∀ k, 40 ≤ k → interlocutorlaw4_Raw_Make.f k x.f0 x.f1 x.f2 x.f3 x.f4 s = some (r.f0, r.f1, r.f2.f0, r.f2.f1, r.f3) := by
  obtain ⟨_, hw1, _, hw3, _⟩ := hx
  obtain ⟨o, ho⟩ := as_fin 16 rfl (rem_ge x.f1 16 (by omega)) (rem_lt x.f1 16 (by omega))
  have hn := makeN_ok o
  have hc0 := rem_ge x.f2 101 (by omega)
  have hc1 := rem_lt x.f2 101 (by omega)
  have hl0 := rem_ge x.f0 s (by omega)
  have hl1 := rem_lt x.f0 s (by omega)
  obtain ⟨rhs, ps, p1, p2, p3, p4, p5⟩ := make_kids s (makeN o.val) x.f0 x.f1 x.f2 x.f3 x.f4 (x.f0 % s) ((o.val : Nat) : Int) (x.f2 % 101) hs hn.1 h3 hw3 h4 hw1 3 0 [] rfl rfl (by simp)
  refine ⟨⟨x.f0 % s, rhs, ⟨((o.val : Nat) : Int), ps⟩, x.f2 % 101⟩, ⟨⟨hl0, hl1⟩, p1, p2, ?_⟩, fun k hk => ?_⟩
  · show rightP (x.f0 % s) rhs ((o.val : Nat) : Int) ps (x.f2 % 101) = true
    unfold rightP symbolB withinB
    simp only [Bool.and_eq_true, decide_eq_true_eq, List.all_eq_true]
    refine ⟨⟨hl0, by omega⟩, ⟨by omega, by omega⟩, fun y hy => ?_, ⟨hc0, by omega⟩, ⟨by omega, by omega⟩, fun p hp => ?_⟩
    · unfold itemB
      rcases p2 y hy with h | h
      · rw [decide_eq_true (by omega), decide_eq_true (by omega)]; rfl
      · rw [decide_eq_true (by omega), decide_eq_true (by omega)]; rfl
    · have h := p4 p hp
      unfold placeB
      rw [decide_eq_true h.1, decide_eq_true h.2]; rfl
  · unfold interlocutorlaw4_Raw_Make.f
    rw [within_rem x.f0 s (by omega) (by omega), Option.bind_some, within_rem x.f2 101 (by omega) (by omega), Option.bind_some, within_rem x.f1 16 (by omega) (by omega), Option.bind_some, Option.bind_some, ho, if_pos (by omega), if_pos (by have := o.isLt; simp; omega)]
    exact p5 k (by omega)
end
theorem rule_eta (r : Rule') : (⟨r.f0, r.f1, (⟨r.f2.f0, r.f2.f1⟩ : S24), r.f3⟩ : Rule') = r := rfl
end Go.Proofs.Ytjomlfdkmdgclaa.P
end
section
namespace Go.Proofs.Ytjomlfdkmdgclaa.P
open Go.RowKit Go.Proofs.YtjomlfdkmdgclaaW.PrintWords Go.Proofs.YtjomlfdkmdgclaaW.PrintLast Go.Proofs.YtjomlfdkmdgclaaW.PrintMore
attribute [local go_sem] max2_int min2_int max_two min_two max_three min_three max_four min_four   
set_option linter.unusedVariables false
set_option linter.unusedSimpArgs false
theorem refRows_sorted (l : List Rule') (s : Nat) : (refRows l s).Pairwise (· < ·) := by
  have : ∀ (l : List Rule') (rows : Nat → List Int), (∀ s, (rows s).Pairwise (· < ·)) → ∀ s, ((l.foldl rowStep rows) s).Pairwise (· < ·) := by
    intro l
    induction l with
    | nil => exact fun rows h s => h s
    | cons r l ih =>
      intro rows h s
      rw [List.foldl_cons]
      refine ih _ (fun s => ?_) s
      unfold rowStep
      split
      · exact putP_sorted _ _ (h s)
      · exact h s
  exact this l _ (fun _ => List.Pairwise.nil) s
theorem units_eq (l0 : List Rule') (hr : l0.all rightR = true) : refUnitsP l0 = unitsP l0 := by
  show (List.range 20).map (refRows l0) = (List.range 20).map (fun s => rowUpto (foundL l0) s 20)
  refine List.map_congr_left fun s hs => ?_
  have hs20 : s < 20 := List.mem_range.1 hs
  refine sorted_ext (refRows_sorted _ _) (rowUpto_sorted _ _) fun y => ?_
  rw [refRows_iff l0 hr s hs20, rowsNext_at l0 s hs20]
theorem rightR_sym (r : Rule') (h : rightR r = true) : (0 ≤ r.f0 ∧ r.f0 < 20) ∧ (1 ≤ r.f1.length ∧ r.f1.length ≤ 6) ∧ (∀ y ∈ r.f1, -61 ≤ y ∧ y < 20) ∧ (0 ≤ r.f3 ∧ r.f3 ≤ 100) := by
  unfold rightR rightP symbolB withinB at h
  simp only [Bool.and_eq_true, decide_eq_true_eq, List.all_eq_true] at h
  refine ⟨h.1, ⟨by omega, by omega⟩, fun y hy => ?_, h.2.2.2.1⟩
  have := h.2.2.1 y hy
  unfold itemB at this
  simp only [Bool.and_eq_true, decide_eq_true_eq] at this
  omega
theorem symRules_of (l0 : List Rule') (hr : l0.all rightR = true) : symRules l0 = true := by
  unfold symRules
  rw [List.all_eq_true]
  intro r h
  obtain ⟨h1, _, h3, _⟩ := rightR_sym r (List.all_eq_true.1 hr r h)
  rw [Bool.and_eq_true, decide_eq_true_eq, List.all_eq_true]
  exact ⟨h1, fun y hy => decide_eq_true (h3 y hy).2⟩
theorem unitsB_right (l0 : List Rule') (h1 : l0.length ≤ 1000000000000) (hr : l0.all rightR = true) : unitsB l0 = true := by
  unfold unitsB
  rw [Bool.and_eq_true, decide_eq_true_eq, List.all_eq_true]
  exact ⟨fun r h => decide_eq_true (rightR_sym r (List.all_eq_true.1 hr r h)).1, h1⟩
theorem sumLen_right : ∀ a : List Rule', a.all rightR = true → sumLen a ≤ 6 * a.length
  | [], _ => by simp [sumLen]
  | r :: a, h => by
    rw [List.all_cons, Bool.and_eq_true] at h
    have h1 := sumLen_right a h.2
    have h2 := (rightR_sym r h.1).2.1.2
    unfold sumLen at h1 ⊢
    rw [List.map_cons, List.sum_cons, List.length_cons]
    omega
theorem rdU (l : List (List Int)) (j : Nat) (h : j < l.length) : rd_L2 l j = l[j] := by
  unfold rd_L2
  rw [Int.toNat_natCast, List.getD_eq_getElem?_getD, List.getElem?_eq_getElem h]
  rfl
end Go.Proofs.Ytjomlfdkmdgclaa.P
end
section
namespace Go.Proofs.Ytjomlfdkmdgclaa.Pure
open Go.RowKit Go.Proofs.Ytjomlfdkmdgclaa.P Go.Proofs.YtjomlfdkmdgclaaW.PrintWords Go.Proofs.YtjomlfdkmdgclaaW.PrintLast
theorem ints_loop (l : List Int) (hl : l.length ≤ 1000000) : ∀ (d j : Nat), j + d = l.length → ∀ k, d < k → interlocutorref3_Ints.l0 k l l j = some true := by
  intro d
  induction d with
  | zero =>
    intro j hj k hk
    obtain ⟨k, rfl⟩ : ∃ i, k = i + 1 := ⟨k - 1, by omega⟩
    simp only [interlocutorref3_Ints.l0]
    rw [if_neg (by omega)]
  | succ d ih =>
    intro j hj k hk
    obtain ⟨k, rfl⟩ : ∃ i, k = i + 1 := ⟨k - 1, by omega⟩
    have hw : wrap64 ((j : Int) + 1) = ((j + 1 : Nat) : Int) := by rw [wrap_in (by omega)]; rfl
    simp only [interlocutorref3_Ints.l0]
    rw [if_pos (by omega), if_pos (by omega), hw]
    simp only [if_true]
    rw [if_pos (by omega)]
    exact ih (j + 1) (by omega) k (by omega)
theorem ints_same (l : List Int) (hl : l.length ≤ 1000000) (k : Nat) (hk : l.length < k) : interlocutorref3_Ints.f k l l = some true := by
  unfold interlocutorref3_Ints.f
  rw [if_pos rfl]
  exact ints_loop l hl l.length 0 (by omega) k hk
theorem rows_loop (u : List (List Int)) (hu : u.length = 20) (hr : ∀ r ∈ u, r.length ≤ 20) : ∀ (d j : Nat), j + d = 20 → ∀ k, d + 30 < k → interlocutorlaw4_GramChecks.l2 k u u j = some true := by
  intro d
  induction d with
  | zero =>
    intro j hj k hk
    obtain ⟨k, rfl⟩ : ∃ i, k = i + 1 := ⟨k - 1, by omega⟩
    simp only [interlocutorlaw4_GramChecks.l2]
    rw [if_neg (by omega)]
  | succ d ih =>
    intro j hj k hk
    obtain ⟨k, rfl⟩ : ∃ i, k = i + 1 := ⟨k - 1, by omega⟩
    have hw : wrap64 ((j : Int) + 1) = ((j + 1 : Nat) : Int) := by rw [wrap_in (by omega)]; rfl
    have hlt : j < u.length := by omega
    have hl := hr _ (List.getElem_mem hlt)
    simp only [interlocutorlaw4_GramChecks.l2]
    rw [if_pos (by omega), if_pos (by omega), if_pos (by omega), rdU u j hlt, ints_same _ (by omega) k (by omega), Option.bind_some, if_pos rfl, hw]
    exact ih (j + 1) (by omega) k (by omega)
theorem unitsP_rows (a : List Rule') : ∀ r ∈ unitsP a, r.length ≤ 20 := by
  intro r hr
  obtain ⟨s, _, rfl⟩ := List.mem_map.1 (show r ∈ (List.range 20).map (fun s => rowUpto (foundL a) s 20) from hr)
  exact rowUpto_len _ _ _
theorem asked (a : List Rule') (ha : a.all rightR = true) (hl : a.length ≤ 1000) (k : Nat) (hk : 100 < k) : interlocutorlaw4_GramChecks.j2 k a = some true := by
  obtain ⟨k, rfl⟩ : ∃ i, k = i + 2 := ⟨k - 2, by omega⟩
  rw [show k + 2 = (k + 1) + 1 by omega]
  simp only [interlocutorlaw4_GramChecks.j2]
  have e1 : gram_Units.f a = some (unitsP a) := if_pos (unitsB_right a (by omega) ha)
  have e2 : interlocutorref4_Units.f a = some (refUnitsP a) := if_pos (unitsB_right a (by omega) ha)
  have e3 : gram_Check.f a = some (checkP a) := rfl
  have e4 : interlocutorref4_Check.f a = some (checkP a) := rfl
  have hs := sumLen_right a ha
  have e5 : gram_Reached.f a = some (reachL (nextP a) [0]) := if_pos (by omega)
  have e6 : interlocutorref4_Reached.f a = some (reachL (nextP a) [0]) := if_pos (symRules_of a ha)
  have hrl := reachL_length (nextP a) [0]
  rw [e1, Option.bind_some, e2, Option.bind_some, units_eq a ha, if_pos rfl, e3, Option.bind_some, e4, Option.bind_some, if_neg (by simp), e5, Option.bind_some, e6, Option.bind_some, ints_same _ (by omega) (k + 1) (by omega), Option.bind_some]
  simp only [interlocutorlaw4_GramChecks.j3, Bool.not_true, Bool.false_eq_true, if_false]
  exact rows_loop (unitsP a) (unitsP_length a) (unitsP_rows a) 20 0 (by omega) k (by omega)
theorem rdRule (l : List Rule') (j : Nat) (h : j < l.length) : rd_T26 l j = l[j] := by
  unfold rd_T26
  rw [Int.toNat_natCast, List.getD_eq_getElem?_getD, List.getElem?_eq_getElem h]
  rfl
theorem twice_loop (a2 : Int) : ∀ (d j : Nat) (a : List Rule'), j + d = 12 → a.all rightR = true → a.length + d ≤ 900 → ∀ k, d + 200 < k → interlocutorlaw4_GramChecks.l1 k a2 a j = some true := by
  have h0 := rem_ge a2 12 (by omega)
  have h1 := rem_lt a2 12 (by omega)
  intro d
  induction d with
  | zero =>
    intro j a hj ha hl k hk
    obtain ⟨k, rfl⟩ : ∃ i, k = i + 1 := ⟨k - 1, by omega⟩
    simp only [interlocutorlaw4_GramChecks.l1]
    rw [within_rem _ 12 (by omega) (by omega), Option.bind_some, if_neg (by omega)]
    exact asked a ha (by omega) k (by omega)
  | succ d ih =>
    intro j a hj ha hl k hk
    obtain ⟨k, rfl⟩ : ∃ i, k = i + 1 := ⟨k - 1, by omega⟩
    simp only [interlocutorlaw4_GramChecks.l1]
    rw [within_rem _ 12 (by omega) (by omega), Option.bind_some]
    by_cases hlt : (j : Int) < a2 % 12
    · rw [if_pos hlt]
      by_cases hp : (a.length : Int) > 0
      · have hm : Int.tmod (j : Int) (a.length : Int) = ((j % a.length : Nat) : Int) := by rw [Int.tmod_eq_emod_of_nonneg (by omega)]; rfl
        have hm2 : j % a.length < a.length := Nat.mod_lt _ (by omega)
        have hw : wrap64 ((j : Int) + 1) = ((j + 1 : Nat) : Int) := by rw [wrap_in (by omega)]; rfl
        rw [if_pos hp, if_neg (by omega), hm, if_pos (by omega), if_pos (by omega), if_pos (by omega), rdRule a _ hm2, hw]
        refine ih (j + 1) _ (by omega) ?_ (by rw [List.length_append]; simp; omega) k (by omega)
        rw [List.all_append, Bool.and_eq_true, ha]
        refine ⟨rfl, ?_⟩
        rw [List.all_cons, List.all_nil, Bool.and_true]
        exact List.all_eq_true.1 ha _ (List.getElem_mem hm2)
      · rw [if_neg hp]
        exact asked a ha (by omega) k (by omega)
    · rw [if_neg hlt]
      exact asked a ha (by omega) k (by omega)
theorem make_loop (l0 : List Raw') (a2 s : Int) (hs : 1 ≤ s ∧ s ≤ 20) (hl : l0.length ≤ 80) (hok : ∀ x ∈ l0, okRaw x) (hf : ∀ x ∈ l0, x.f3.length ≤ 20 ∧ x.f4.length ≤ 20) : ∀ (d j : Nat) (a : List Rule'), j + d = l0.length → a.length = j → a.all rightR = true → ∀ k, d + 400 < k → interlocutorlaw4_GramChecks.l0 k l0 a2 a s j = some true := by
  intro d
  induction d with
  | zero =>
    intro j a hj hl2 ha k hk
    obtain ⟨k, rfl⟩ : ∃ i, k = i + 1 := ⟨k - 1, by omega⟩
    simp only [interlocutorlaw4_GramChecks.l0]
    rw [if_neg (by omega)]
    exact twice_loop a2 12 0 a (by omega) ha (by omega) k (by omega)
  | succ d ih =>
    intro j a hj hl2 ha k hk
    obtain ⟨k, rfl⟩ : ∃ i, k = i + 1 := ⟨k - 1, by omega⟩
    have hlt : j < l0.length := by omega
    obtain ⟨r, hr, hm⟩ := make_some l0[j] s hs (hok _ (List.getElem_mem hlt)) (hf _ (List.getElem_mem hlt)).1 (hf _ (List.getElem_mem hlt)).2
    have hw : wrap64 ((j : Int) + 1) = ((j + 1 : Nat) : Int) := by rw [wrap_in (by omega)]; rfl
    simp only [interlocutorlaw4_GramChecks.l0]
    rw [if_pos (by omega), if_pos (by omega), rdR_getElem l0 j hlt, hm k (by omega), Option.bind_some]
    simp only [rule_eta]
    rw [if_pos (by omega), hw]
    refine ih (j + 1) _ (by omega) (by rw [List.length_append]; simp; omega) ?_ k (by omega)
    rw [List.all_append, Bool.and_eq_true, ha]
    exact ⟨rfl, by rw [List.all_cons, List.all_nil, Bool.and_true]; exact hr.right⟩
theorem GramChecks (l0 : List Raw') (a1 a2 : Int) (hl : l0.length ≤ 9223372036854775807) (hok : ∀ x ∈ l0, okRaw x) : ∃ k, interlocutorlaw4_GramChecks.f k l0 a1 a2 = some true := by
  refine ⟨l0.length + 600, ?_⟩
  have hkn : interlocutorlaw4_known.f = some true := rfl
  unfold interlocutorlaw4_GramChecks.f
  rw [hkn, Option.bind_some, if_pos rfl, few_some l0 hl _ (by omega), Option.bind_some]
  by_cases hf : (fewB l0 && decide (l0.length ≤ 80)) = true
  · rw [if_pos hf]
    rw [Bool.and_eq_true, decide_eq_true_eq] at hf
    have hs0 := rem_ge a1 20 (by omega)
    have hs1 := rem_lt a1 20 (by omega)
    rw [within_rem a1 20 (by omega) (by omega), Option.bind_some, wrap_in (by omega)]
    exact make_loop l0 a2 (1 + a1 % 20) ⟨by omega, by omega⟩ hf.2 hok (fun x hx => of_decide_eq_true (List.all_eq_true.1 hf.1 x hx)) l0.length 0 [] (by omega) rfl rfl _ (by omega)
  · rw [if_neg hf]
end Go.Proofs.Ytjomlfdkmdgclaa.Pure
end
