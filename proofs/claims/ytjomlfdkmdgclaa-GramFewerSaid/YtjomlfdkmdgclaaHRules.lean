/- law4.Rules: as many made rules as may be. Plain Lean. -/
import Derived.Test.YtjomlfdkmdgclaaP1
import Derived.Test.YtjomlfdkmdgclaaP2
import Derived.Test.YtjomlfdkmdgclaaHLaw4
import Derived.Test.YtjomlfdkmdgclaaHGramPure
import Derived.Test.YtjomlfdkmdgclaaHOpenGram
import Derived.Test.YtjomlfdkmdgclaaP10
namespace Go.Proofs.Ytjomlfdkmdgclaa.P
open Go.RowKit Go.Proofs.YtjomlfdkmdgclaaW.PrintWords Go.Proofs.YtjomlfdkmdgclaaW.PrintLast Go.Proofs.YtjomlfdkmdgclaaW.PrintMore
attribute [local go_sem] max2_int min2_int max_two min_two max_three min_three max_four min_four   -- for this text's walks alone
set_option linter.unusedVariables false
set_option linter.unusedSimpArgs false

abbrev Raw' := S31
theorem wfI_iff (n : Int) : wfI n ↔ -9223372036854775808 ≤ n ∧ n ≤ 9223372036854775807 := by
  unfold wfI
  constructor
  · intro h
    simp only [Lit.wf, Bool.and_eq_true, decide_eq_true_eq] at h
    have e1 : IntKind.i64.min = -9223372036854775808 := by decide
    have e2 : IntKind.i64.max = 9223372036854775807 := by decide
    rw [e1, e2] at h
    exact h
  · intro h
    exact WalkArith.wf_i64 (by omega)
theorem rdR_getElem (l : List Raw') (j : Nat) (h : j < l.length) : rd_T31 l j = l[j] := by
  unfold rd_T31
  rw [Int.toNat_natCast, List.getD_eq_getElem?_getD, List.getElem?_eq_getElem h]
  rfl
def fewB (l : List Raw') : Bool := l.all fun x => decide (x.f3.length ≤ 20 ∧ x.f4.length ≤ 20)
theorem few_loop (l : List Raw') (hl : l.length ≤ 9223372036854775807) : ∀ (d j : Nat), j + d = l.length → ∀ k, d < k → interlocutorlaw4_Few.l0 k l j = some (fewB (l.drop j) && decide (l.length ≤ 80)) := by
  intro d
  induction d with
  | zero =>
    intro j hj k hk
    obtain ⟨k, rfl⟩ : ∃ i, k = i + 1 := ⟨k - 1, by omega⟩
    simp only [interlocutorlaw4_Few.l0]
    rw [if_neg (by omega), show j = l.length by omega, List.drop_length]
    have : decide ((l.length : Int) ≤ 80) = decide (l.length ≤ 80) := decide_eq_decide.2 (by omega)
    rw [this]
    rfl
  | succ d ih =>
    intro j hj k hk
    obtain ⟨k, rfl⟩ : ∃ i, k = i + 1 := ⟨k - 1, by omega⟩
    have hlt : j < l.length := by omega
    have hw : wrap64 ((j : Int) + 1) = ((j + 1 : Nat) : Int) := by rw [wrap_in (by omega)]; rfl
    have h1 := ih (j + 1) (by omega) k (by omega)
    simp only [interlocutorlaw4_Few.l0]
    rw [if_pos (by omega), if_pos (by omega), rdR_getElem l j hlt, hw, h1, List.drop_eq_getElem_cons hlt]
    unfold fewB
    rw [List.all_cons]
    by_cases h3 : (l[j].f3.length : Int) > 20
    · rw [if_pos h3, decide_eq_false (by omega)]; rfl
    · rw [if_neg h3]
      by_cases h4 : (l[j].f4.length : Int) > 20
      · rw [if_pos h4, decide_eq_false (by omega)]; rfl
      · rw [if_neg h4, decide_eq_true (by omega : l[j].f3.length ≤ 20 ∧ l[j].f4.length ≤ 20)]
        rfl
theorem few_some (l : List Raw') (hl : l.length ≤ 9223372036854775807) (k : Nat) (hk : l.length < k) : interlocutorlaw4_Few.f k l = some (fewB l && decide (l.length ≤ 80)) := by
  have h := few_loop l hl l.length 0 (by omega) k hk
  rw [List.drop_zero] at h
  exact h
/-- What is laid for a child. -/
def kidOk (s : Int) (y : Int) : Prop := (0 ≤ y ∧ y < s) ∨ (-55 ≤ y ∧ y ≤ -1)
section
variable (s n a0 a1 a2 : Int) (l3 l4 : List Int) (c0 : Int) (rhs : List Int) (c2 c4 : Int)
theorem make_places (hn : n ≤ 3) (hr : 1 ≤ rhs.length) (hr2 : rhs.length ≤ 10) (h4 : l4.length ≤ 20) : ∀ (d j : Nat) (ps : List Int), (j : Int) + d = n → ps.length = j → (∀ p ∈ ps, 0 ≤ p ∧ p < (rhs.length : Int)) →
    ∃ ps' : List Int, (ps'.length : Int) = n ∧ (∀ p ∈ ps', 0 ≤ p ∧ p < (rhs.length : Int)) ∧ ∀ k, d < k → interlocutorlaw4_Raw_Make.l1 k n j a0 a1 a2 l3 l4 c0 rhs c2 ps c4 = some (c0, rhs, c2, ps', c4) := by
  intro d
  induction d with
  | zero =>
    intro j ps hj hl hp
    refine ⟨ps, by omega, hp, fun k hk => ?_⟩
    obtain ⟨k, rfl⟩ : ∃ i, k = i + 1 := ⟨k - 1, by omega⟩
    simp only [interlocutorlaw4_Raw_Make.l1]
    rw [if_neg (by omega)]
  | succ d ih =>
    intro j ps hj hl hp
    have hw : wrap64 ((j : Int) + 1) = ((j + 1 : Nat) : Int) := by rw [wrap_in (by omega)]; rfl
    by_cases h : (j : Int) < (l4.length : Int)
    · have hv0 := rem_ge (rd l4 j) (rhs.length : Int) (by omega)
      have hv1 := rem_lt (rd l4 j) (rhs.length : Int) (by omega)
      obtain ⟨ps', h1, h2, h3⟩ := ih (j + 1) (ps ++ [rd l4 j % (rhs.length : Int)]) (by omega) (by rw [List.length_append, hl]; rfl) (fun p hp' => by
        rcases List.mem_append.1 hp' with hp' | hp'
        · exact hp p hp'
        · rw [List.mem_singleton.1 hp']; exact ⟨hv0, hv1⟩)
      refine ⟨ps', h1, h2, fun k hk => ?_⟩
      obtain ⟨k, rfl⟩ : ∃ i, k = i + 1 := ⟨k - 1, by omega⟩
      simp only [interlocutorlaw4_Raw_Make.l1]
      rw [if_pos (by omega), if_pos h, if_pos (by omega), within_rem _ _ (by omega) (by omega), Option.bind_some, if_pos (by omega), hw]
      exact h3 k (by omega)
    · have hv0 := rem_ge (j : Int) (rhs.length : Int) (by omega)
      have hv1 := rem_lt (j : Int) (rhs.length : Int) (by omega)
      obtain ⟨ps', h1, h2, h3⟩ := ih (j + 1) (ps ++ [(j : Int) % (rhs.length : Int)]) (by omega) (by rw [List.length_append, hl]; rfl) (fun p hp' => by
        rcases List.mem_append.1 hp' with hp' | hp'
        · exact hp p hp'
        · rw [List.mem_singleton.1 hp']; exact ⟨hv0, hv1⟩)
      refine ⟨ps', h1, h2, fun k hk => ?_⟩
      obtain ⟨k, rfl⟩ : ∃ i, k = i + 1 := ⟨k - 1, by omega⟩
      simp only [interlocutorlaw4_Raw_Make.l1]
      rw [if_pos (by omega), if_neg h, within_rem _ _ (by omega) (by omega), Option.bind_some, if_pos (by omega), hw]
      exact h3 k (by omega)
theorem kid_table : ∀ t : Fin 11, -55 ≤ wrap64 ((-1) - (rd ([0, 0, 0, 1, 2, 3, 50, 51, 52, 53, 54] : List Int) ((t.val : Nat) : Int))) ∧ wrap64 ((-1) - (rd ([0, 0, 0, 1, 2, 3, 50, 51, 52, 53, 54] : List Int) ((t.val : Nat) : Int))) ≤ -1 := by decide +kernel
/-- The children: at each turn one more, three at most. -/
theorem make_kids (s n a0 a1 a2 : Int) (l3 l4 : List Int) (c0 c2 c4 : Int) (hs : 1 ≤ s ∧ s ≤ 20) (hn : 1 ≤ n ∧ n ≤ 3) (h3 : l3.length ≤ 20) (hw3 : ∀ y ∈ l3, wfI y) (h4 : l4.length ≤ 20) (ha1 : wfI a1) : ∀ (d i : Nat) (rhs : List Int), i + d = 3 → rhs.length = i → (∀ y ∈ rhs, kidOk s y) →
    ∃ rhs' ps', (1 ≤ rhs'.length ∧ rhs'.length ≤ 3) ∧ (∀ y ∈ rhs', kidOk s y) ∧ ((ps'.length : Int) = n) ∧ (∀ p ∈ ps', 0 ≤ p ∧ p < (rhs'.length : Int)) ∧ ∀ k, 3 * d + 20 < k → interlocutorlaw4_Raw_Make.l0 k s n i a0 a1 a2 l3 l4 c0 rhs c2 c4 = some (c0, rhs', c2, ps', c4) := by
  intro d
  induction d with
  | zero =>
    intro i rhs hi hl hk
    obtain ⟨ps', p1, p2, p3⟩ := make_places n a0 a1 a2 l3 l4 c0 rhs c2 c4 hn.2 (by omega) (by omega) h4 n.toNat 0 [] (by omega) rfl (by simp)
    refine ⟨rhs, ps', ⟨by omega, by omega⟩, hk, p1, p2, fun k hk => ?_⟩
    obtain ⟨k, rfl⟩ : ∃ j, k = j + 2 := ⟨k - 2, by omega⟩
    have hm0 := rem_ge (l3.length : Int) 3 (by omega)
    have hm1 := rem_lt (l3.length : Int) 3 (by omega)
    rw [show k + 2 = (k + 1) + 1 by omega]
    simp only [interlocutorlaw4_Raw_Make.l0]
    rw [within_rem _ 3 (by omega) (by omega), Option.bind_some, wrap_in (by omega), if_neg (by omega), if_neg (by omega)]
    simp only [interlocutorlaw4_Raw_Make.j1, Bool.false_eq_true, if_false]
    exact p3 k (by omega)
  | succ d ih =>
    intro i rhs hi hl hk
    have hm0 := rem_ge (l3.length : Int) 3 (by omega)
    have hm1 := rem_lt (l3.length : Int) 3 (by omega)
    obtain ⟨b, hb0, hb⟩ : ∃ b : Bool, (i = 0 → b = true) ∧ ∀ k, interlocutorlaw4_Raw_Make.l0 (k + 1) s n i a0 a1 a2 l3 l4 c0 rhs c2 c4 = interlocutorlaw4_Raw_Make.j1 k s n i b a0 a1 a2 l3 l4 c0 rhs c2 c4 := by
      by_cases h1 : (i : Int) < 1 + (l3.length : Int) % 3
      · refine ⟨true, fun _ => rfl, fun k => ?_⟩
        simp only [interlocutorlaw4_Raw_Make.l0]
        rw [within_rem _ 3 (by omega) (by omega), Option.bind_some, wrap_in (by omega), if_pos h1]
      · by_cases h2 : (i : Int) < n
        · refine ⟨(wrap64 (Int.tdiv a1 16) % 2 == 0), fun h => by omega, fun k => ?_⟩
          simp only [interlocutorlaw4_Raw_Make.l0]
          rw [within_rem _ 3 (by omega) (by omega), Option.bind_some, wrap_in (by omega), if_neg h1, if_pos h2, within_rem _ 2 (by omega) (by omega), Option.bind_some]
        · refine ⟨false, fun h => by omega, fun k => ?_⟩
          simp only [interlocutorlaw4_Raw_Make.l0]
          rw [within_rem _ 3 (by omega) (by omega), Option.bind_some, wrap_in (by omega), if_neg h1, if_neg h2]
    cases b with
    | false =>
      have hi1 : i ≠ 0 := fun h => by have := hb0 h; cases this
      obtain ⟨ps', p1, p2, p3⟩ := make_places n a0 a1 a2 l3 l4 c0 rhs c2 c4 hn.2 (by omega) (by omega) h4 n.toNat 0 [] (by omega) rfl (by simp)
      refine ⟨rhs, ps', ⟨by omega, by omega⟩, hk, p1, p2, fun k hk => ?_⟩
      obtain ⟨k, rfl⟩ : ∃ j, k = j + 2 := ⟨k - 2, by omega⟩
      rw [show k + 2 = (k + 1) + 1 by omega, hb]
      simp only [interlocutorlaw4_Raw_Make.j1, Bool.false_eq_true, if_false]
      exact p3 k (by omega)
    | true =>
      obtain ⟨v, hv⟩ : ∃ v : Int, ∀ k, interlocutorlaw4_Raw_Make.j1 (k + 1) s n i true a0 a1 a2 l3 l4 c0 rhs c2 c4 = interlocutorlaw4_Raw_Make.j2 k s n i v a0 a1 a2 l3 l4 c0 rhs c2 c4 := by
        by_cases h1 : (i : Int) < (l3.length : Int)
        · refine ⟨rd l3 i, fun k => ?_⟩
          simp only [interlocutorlaw4_Raw_Make.j1, if_true]
          rw [if_pos h1, if_pos (by omega)]
        · refine ⟨i, fun k => ?_⟩
          simp only [interlocutorlaw4_Raw_Make.j1, if_true]
          rw [if_neg h1]
      have hw : wrap64 ((i : Int) + 1) = ((i + 1 : Nat) : Int) := by rw [wrap_in (by omega)]; rfl
      obtain ⟨y, hy, hj⟩ : ∃ y : Int, kidOk s y ∧ ∀ k, interlocutorlaw4_Raw_Make.j2 (k + 1) s n i v a0 a1 a2 l3 l4 c0 rhs c2 c4 = interlocutorlaw4_Raw_Make.l0 k s n ((i + 1 : Nat) : Int) a0 a1 a2 l3 l4 c0 (rhs ++ [y]) c2 c4 := by
        by_cases h1 : wrap64 (Int.tdiv v 20) % 2 = 0
        · obtain ⟨t, ht⟩ := as_fin 11 rfl (rem_ge (wrap64 (Int.tdiv v 40)) 11 (by omega)) (rem_lt (wrap64 (Int.tdiv v 40)) 11 (by omega))
          refine ⟨_, .inr (kid_table t), fun k => ?_⟩
          simp only [interlocutorlaw4_Raw_Make.j2]
          rw [within_rem v s (by omega) (by omega), Option.bind_some, within_rem _ 2 (by omega) (by omega), Option.bind_some, if_pos h1, Option.bind_some, within_rem _ 11 (by omega) (by omega), Option.bind_some, ht, if_pos (by omega), if_pos (by have := t.isLt; simp; omega), if_pos (by omega), hw]
        · refine ⟨v % s, .inl ⟨rem_ge v s (by omega), rem_lt v s (by omega)⟩, fun k => ?_⟩
          simp only [interlocutorlaw4_Raw_Make.j2]
          rw [within_rem v s (by omega) (by omega), Option.bind_some, within_rem _ 2 (by omega) (by omega), Option.bind_some, if_neg h1, if_pos (by omega), hw]
      obtain ⟨rhs', ps', q1, q2, q3, q4, q5⟩ := ih (i + 1) (rhs ++ [y]) (by omega) (by rw [List.length_append, hl]; rfl) (fun z hz => by
        rcases List.mem_append.1 hz with hz | hz
        · exact hk z hz
        · rw [List.mem_singleton.1 hz]; exact hy)
      refine ⟨rhs', ps', q1, q2, q3, q4, fun k hk => ?_⟩
      obtain ⟨k, rfl⟩ : ∃ j, k = j + 3 := ⟨k - 3, by omega⟩
      rw [show k + 3 = ((k + 1) + 1) + 1 by omega, hb, hv, hj]
      exact q5 k (by omega)
/-- How many children an action of a made rule has. -/
def makeN (o : Nat) : Int := rd ([1, 3, 2, 2, 2, 2, 3, 1, 1, 2, 1, 1, 2, 2, 2, 2] : List Int) (o : Int)
theorem makeN_ok : ∀ o : Fin 16, (1 ≤ makeN o.val ∧ makeN o.val ≤ 3) ∧ (askedP ((o.val : Nat) : Int)).1 ≤ makeN o.val ∧ makeN o.val ≤ (askedP ((o.val : Nat) : Int)).2 := by decide +kernel
/-- A made rule: right; its symbols below s; one child at least, three at most. -/
structure Made (s : Int) (r : Rule') : Prop where
  lhs : 0 ≤ r.f0 ∧ r.f0 < s
  len : 1 ≤ r.f1.length ∧ r.f1.length ≤ 3
  kids : ∀ y ∈ r.f1, kidOk s y
  right : rightR r = true
theorem make_some (x : Raw') (s : Int) (hs : 1 ≤ s ∧ s ≤ 20) (hx : okRaw x) (h3 : x.f3.length ≤ 20) (h4 : x.f4.length ≤ 20) :
    ∃ r : Rule', Made s r ∧ ∀ k, 40 ≤ k → interlocutorlaw4_Raw_Make.f k x.f0 x.f1 x.f2 x.f3 x.f4 s = some (r.f0, r.f1, r.f2.f0, r.f2.f1, r.f3) := by
  obtain ⟨_, hw1, _, hw3, _⟩ := hx
  obtain ⟨o, ho⟩ := as_fin 16 rfl (rem_ge x.f1 16 (by omega)) (rem_lt x.f1 16 (by omega))
  have hn := makeN_ok o
  have hc0 := rem_ge x.f2 101 (by omega)
  have hc1 := rem_lt x.f2 101 (by omega)
  have hl0 := rem_ge x.f0 s (by omega)
  have hl1 := rem_lt x.f0 s (by omega)
  obtain ⟨rhs, ps, p1, p2, p3, p4, p5⟩ := make_kids s (makeN o.val) x.f0 x.f1 x.f2 x.f3 x.f4 (x.f0 % s) ((o.val : Nat) : Int) (x.f2 % 101) hs hn.1 h3 hw3 h4 hw1 3 0 [] rfl rfl (by simp)
  refine ⟨⟨x.f0 % s, rhs, ⟨((o.val : Nat) : Int), ps⟩, x.f2 % 101⟩, ⟨⟨hl0, hl1⟩, p1, p2, ?_⟩, fun k hk => ?_⟩
  · show rightP (x.f0 % s) rhs ((o.val : Nat) : Int) ps (x.f2 % 101) = true
    unfold rightP symbolB withinB
    simp only [Bool.and_eq_true, decide_eq_true_eq, List.all_eq_true]
    refine ⟨⟨hl0, by omega⟩, ⟨by omega, by omega⟩, fun y hy => ?_, ⟨hc0, by omega⟩, ⟨by omega, by omega⟩, fun p hp => ?_⟩
    · unfold itemB
      rcases p2 y hy with h | h
      · rw [decide_eq_true (by omega), decide_eq_true (by omega)]; rfl
      · rw [decide_eq_true (by omega), decide_eq_true (by omega)]; rfl
    · have h := p4 p hp
      unfold placeB
      rw [decide_eq_true h.1, decide_eq_true h.2]; rfl
  · unfold interlocutorlaw4_Raw_Make.f
    rw [within_rem x.f0 s (by omega) (by omega), Option.bind_some, within_rem x.f2 101 (by omega) (by omega), Option.bind_some, within_rem x.f1 16 (by omega) (by omega), Option.bind_some, Option.bind_some, ho, if_pos (by omega), if_pos (by have := o.isLt; simp; omega)]
    exact p5 k (by omega)
end
structure Told (s : Int) (out : List Rule') : Prop where
  made : ∀ r ∈ out, Made s r
  check : checkP out = true
theorem rule_eta (r : Rule') : (⟨r.f0, r.f1, (⟨r.f2.f0, r.f2.f1⟩ : S24), r.f3⟩ : Rule') = r := rfl
theorem rules_loop (l : List Raw') (s : Int) (hs : 1 ≤ s ∧ s ≤ 20) (hl : l.length ≤ 80) (hok : ∀ x ∈ l, okRaw x) (hf : ∀ x ∈ l, x.f3.length ≤ 20 ∧ x.f4.length ≤ 20) : ∀ (d i : Nat) (out : List Rule'), i + d = l.length → out.length ≤ i → Told s out →
    ∃ res, Told s res ∧ ∀ k, 2 * d + 45 < k → interlocutorlaw4_Rules.l0 k l s out i = some res := by
  intro d
  induction d with
  | zero =>
    intro i out hi ho ht
    refine ⟨out, ht, fun k hk => ?_⟩
    obtain ⟨k, rfl⟩ : ∃ j, k = j + 2 := ⟨k - 2, by omega⟩
    rw [show k + 2 = (k + 1) + 1 by omega]
    simp only [interlocutorlaw4_Rules.l0]
    rw [if_neg (by omega)]
    simp only [interlocutorlaw4_Rules.j1, Bool.false_eq_true, if_false]
  | succ d ih =>
    intro i out hi ho ht
    have hlt : i < l.length := by omega
    by_cases h20 : (i : Int) < 20
    · obtain ⟨r, hr, hm⟩ := make_some l[i] s hs (hok _ (List.getElem_mem hlt)) (hf _ (List.getElem_mem hlt)).1 (hf _ (List.getElem_mem hlt)).2
      have hw : wrap64 ((i : Int) + 1) = ((i + 1 : Nat) : Int) := by rw [wrap_in (by omega)]; rfl
      have hmade : ∀ q ∈ out ++ [r], Made s q := by
        intro q hq
        rcases List.mem_append.1 hq with hq | hq
        · exact ht.made q hq
        · rw [List.mem_singleton.1 hq]; exact hr
      have hstep : ∀ k, 45 < k → interlocutorlaw4_Rules.l0 (k + 2) l s out i = if checkP (out ++ [r]) = true then interlocutorlaw4_Rules.l0 k l s (out ++ [r]) ((i + 1 : Nat) : Int) else interlocutorlaw4_Rules.l0 k l s out ((i + 1 : Nat) : Int) := by
        intro k hk
        rw [show k + 2 = (k + 1) + 1 by omega]
        simp only [interlocutorlaw4_Rules.l0]
        rw [if_pos (by omega), decide_eq_true h20]
        simp only [interlocutorlaw4_Rules.j1, if_true, Option.bind_some, List.nil_append, List.length_nil, Nat.zero_add]
        rw [if_pos (by omega), if_pos (by omega), if_pos (by omega), rdR_getElem l i hlt, hm k (by omega), Option.bind_some]
        simp only [rule_eta]
        rw [if_pos (by omega), hw]
        rfl
      cases hc : checkP (out ++ [r]) with
      | true =>
        obtain ⟨res, h1, h2⟩ := ih (i + 1) (out ++ [r]) (by omega) (by rw [List.length_append]; simp; omega) ⟨hmade, hc⟩
        refine ⟨res, h1, fun k hk => ?_⟩
        obtain ⟨k, rfl⟩ : ∃ j, k = j + 2 := ⟨k - 2, by omega⟩
        rw [hstep k (by omega), hc, if_pos rfl]
        exact h2 k (by omega)
      | false =>
        obtain ⟨res, h1, h2⟩ := ih (i + 1) out (by omega) (by omega) ht
        refine ⟨res, h1, fun k hk => ?_⟩
        obtain ⟨k, rfl⟩ : ∃ j, k = j + 2 := ⟨k - 2, by omega⟩
        rw [hstep k (by omega), hc, if_neg (by simp)]
        exact h2 k (by omega)
    · refine ⟨out, ht, fun k hk => ?_⟩
      obtain ⟨k, rfl⟩ : ∃ j, k = j + 2 := ⟨k - 2, by omega⟩
      rw [show k + 2 = (k + 1) + 1 by omega]
      simp only [interlocutorlaw4_Rules.l0]
      rw [if_pos (by omega), decide_eq_false h20]
      simp only [interlocutorlaw4_Rules.j1, Bool.false_eq_true, if_false]
theorem rules_some (l : List Raw') (s : Int) (hs : 1 ≤ s ∧ s ≤ 20) (hl : l.length ≤ 80) (hok : ∀ x ∈ l, okRaw x) (hf : fewB l = true) : ∃ res, Told s res ∧ ∀ k, 300 ≤ k → interlocutorlaw4_Rules.f k l s = some res := by
  obtain ⟨res, h1, h2⟩ := rules_loop l s hs hl hok (fun x hx => of_decide_eq_true (List.all_eq_true.1 hf x hx)) l.length 0 [] (by omega) (Nat.le_refl _) ⟨fun r hr => (by cases hr), check_nil⟩
  exact ⟨res, h1, fun k hk => h2 k (by omega)⟩
end Go.Proofs.Ytjomlfdkmdgclaa.P
