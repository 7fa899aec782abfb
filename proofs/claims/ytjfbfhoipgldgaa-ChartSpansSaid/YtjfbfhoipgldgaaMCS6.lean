/- ChartSpans: there is a span just where there is a derivation. Part 6: contracts of the functions that the law reaches, and words for them. -/
import Derived.Test.YtjfbfhoipgldgaaMCS5
section
namespace Go.Proofs.Ytjfbfhoipgldgaa.P
open Go.RowKit Go.Proofs.YtjfbfhoipgldgaaW.PrintWords Go.Proofs.YtjfbfhoipgldgaaW.PrintLast Go.Proofs.YtjfbfhoipgldgaaW.PrintMore
attribute [local go_sem] max2_int min2_int max_two min_two max_three min_three max_four min_four   
set_option linter.unusedVariables false
set_option linter.unusedSimpArgs false
abbrev Raw' := S49
theorem rdR_getElem (l : List Raw') (j : Nat) (h : j < l.length) : rd_T49 l j = l[j] := by
  unfold rd_T49
  rw [Int.toNat_natCast, List.getD_eq_getElem?_getD, List.getElem?_eq_getElem h]
  rfl
def fewB (l : List Raw') : Bool := l.all fun x => decide (x.f3.length ≤ 20 ∧ x.f4.length ≤ 20)
theorem few_loop (l : List Raw') (hl : l.length ≤ 9223372036854775807) : ∀ (d j : Nat), j + d = l.length → ∀ k, d < k → l4_Few.l0 k l j = some (fewB (l.drop j) && decide (l.length ≤ 80)) := by
  intro d
  induction d with
  | zero =>
    intro j hj k hk
    obtain ⟨k, rfl⟩ : ∃ i, k = i + 1 := ⟨k - 1, by omega⟩
    simp only [l4_Few.l0]
    rw [if_neg (by omega), show j = l.length by omega, List.drop_length]
    have : decide ((l.length : Int) ≤ 80) = decide (l.length ≤ 80) := decide_eq_decide.2 (by omega)
    rw [this]
    rfl
  | succ d ih =>
    intro j hj k hk
    obtain ⟨k, rfl⟩ : ∃ i, k = i + 1 := ⟨k - 1, by omega⟩
    have hlt : j < l.length := by omega
    have hw : wrap64 ((j : Int) + 1) = ((j + 1 : Nat) : Int) := by rw [wrap_in (by omega)]; rfl
    have h1 := ih (j + 1) (by omega) k (by omega)
    simp only [l4_Few.l0]
    rw [if_pos (by omega), if_pos (by omega), rdR_getElem l j hlt, hw, h1, List.drop_eq_getElem_cons hlt]
    unfold fewB
    rw [List.all_cons]
    by_cases h3 : (l[j].f3.length : Int) > 20
    · rw [if_pos h3, decide_eq_false (by omega)]; rfl
    · rw [if_neg h3]
      by_cases h4 : (l[j].f4.length : Int) > 20
      · rw [if_pos h4, decide_eq_false (by omega)]; rfl
      · rw [if_neg h4, decide_eq_true (by omega : l[j].f3.length ≤ 20 ∧ l[j].f4.length ≤ 20)]
        rfl
theorem few_some (l : List Raw') (hl : l.length ≤ 9223372036854775807) (k : Nat) (hk : l.length < k) : l4_Few.f k l = some (fewB l && decide (l.length ≤ 80)) := by
  have h := few_loop l hl l.length 0 (by omega) k hk
  rw [List.drop_zero] at h
  exact h
def kidOk (s : Int) (y : Int) : Prop := (0 ≤ y ∧ y < s) ∨ (-55 ≤ y ∧ y ≤ -1)
section
variable (s n a0 a1 a2 : Int) (l3 l4 : List Int) (c0 : Int) (rhs : List Int) (c2 c4 : Int)
theorem make_places (hn : n ≤ 3) (hr : 1 ≤ rhs.length) (hr2 : rhs.length ≤ 10) (h4 : l4.length ≤ 20) : ∀ (d j : Nat) (ps : List Int), (j : Int) + d = n → ps.length = j → (∀ p ∈ ps, 0 ≤ p ∧ p < (rhs.length : Int)) →
    ∃ ps' : List Int, (ps'.length : Int) = n ∧ (∀ p ∈ ps', 0 ≤ p ∧ p < (rhs.length : Int)) ∧ ∀ k, d < k → l4_Raw_Make.l1 k n j a0 a1 a2 l3 l4 c0 rhs c2 ps c4 = some (c0, rhs, c2, ps', c4) := by
  intro d
  induction d with
  | zero =>
    intro j ps hj hl hp
    refine ⟨ps, by omega, hp, fun k hk => ?_⟩
    obtain ⟨k, rfl⟩ : ∃ i, k = i + 1 := ⟨k - 1, by omega⟩
    simp only [l4_Raw_Make.l1]
    rw [if_neg (by omega)]
  | succ d ih =>
    intro j ps hj hl hp
    have hw : wrap64 ((j : Int) + 1) = ((j + 1 : Nat) : Int) := by rw [wrap_in (by omega)]; rfl
    by_cases h : (j : Int) < (l4.length : Int)
    · have hv0 := rem_ge (rd l4 j) (rhs.length : Int) (by omega)
      have hv1 := rem_lt (rd l4 j) (rhs.length : Int) (by omega)
      obtain ⟨ps', h1, h2, h3⟩ := ih (j + 1) (ps ++ [rd l4 j % (rhs.length : Int)]) (by omega) (by rw [List.length_append, hl]; rfl) (fun p hp' => by
        rcases List.mem_append.1 hp' with hp' | hp'
        · exact hp p hp'
        · rw [List.mem_singleton.1 hp']; exact ⟨hv0, hv1⟩)
      refine ⟨ps', h1, h2, fun k hk => ?_⟩
      obtain ⟨k, rfl⟩ : ∃ i, k = i + 1 := ⟨k - 1, by omega⟩
      simp only [l4_Raw_Make.l1]
      rw [if_pos (by omega), if_pos h, if_pos (by omega), within_rem _ _ (by omega) (by omega), Option.bind_some, if_pos (by omega), hw]
      exact h3 k (by omega)
    · have hv0 := rem_ge (j : Int) (rhs.length : Int) (by omega)
      have hv1 := rem_lt (j : Int) (rhs.length : Int) (by omega)
      obtain ⟨ps', h1, h2, h3⟩ := ih (j + 1) (ps ++ [(j : Int) % (rhs.length : Int)]) (by omega) (by rw [List.length_append, hl]; rfl) (fun p hp' => by
        rcases List.mem_append.1 hp' with hp' | hp'
        · exact hp p hp'
        · rw [List.mem_singleton.1 hp']; exact ⟨hv0, hv1⟩)
      refine ⟨ps', h1, h2, fun k hk => ?_⟩
      obtain ⟨k, rfl⟩ : ∃ i, k = i + 1 := ⟨k - 1, by omega⟩
      simp only [l4_Raw_Make.l1]
      rw [if_pos (by omega), if_neg h, within_rem _ _ (by omega) (by omega), Option.bind_some, if_pos (by omega), hw]
      exact h3 k (by omega)
theorem kid_table : ∀ t : Fin 11, -55 ≤ wrap64 ((-1) - (rd ([0, 0, 0, 1, 2, 3, 50, 51, 52, 53, 54] : List Int) ((t.val : Nat) : Int))) ∧ wrap64 ((-1) - (rd ([0, 0, 0, 1, 2, 3, 50, 51, 52, 53, 54] : List Int) ((t.val : Nat) : Int))) ≤ -1 := by decide +kernel
theorem make_kids (s n a0 a1 a2 : Int) (l3 l4 : List Int) (c0 c2 c4 : Int) (hs : 1 ≤ s ∧ s ≤ 20) (hn : 1 ≤ n ∧ n ≤ 3) (h3 : l3.length ≤ 20) (hw3 : ∀ y ∈ l3, wfI y) (h4 : l4.length ≤ 20) (ha1 : wfI a1) : ∀ (d i : Nat) (rhs : List Int), i + d = 3 → rhs.length = i → (∀ y ∈ rhs, kidOk s y) →
    ∃ rhs' ps', (1 ≤ rhs'.length ∧ rhs'.length ≤ 3) ∧ (∀ y ∈ rhs', kidOk s y) ∧ ((ps'.length : Int) = n) ∧ (∀ p ∈ ps', 0 ≤ p ∧ p < (rhs'.length : Int)) ∧ ∀ k, 3 * d + 20 < k → l4_Raw_Make.l0 k s n i a0 a1 a2 l3 l4 c0 rhs c2 c4 = some (c0, rhs', c2, ps', c4) := by
  intro d
  induction d with
  | zero =>
    intro i rhs hi hl hk
    obtain ⟨ps', p1, p2, p3⟩ := make_places n a0 a1 a2 l3 l4 c0 rhs c2 c4 hn.2 (by omega) (by omega) h4 n.toNat 0 [] (by omega) rfl (by simp)
    refine ⟨rhs, ps', ⟨by omega, by omega⟩, hk, p1, p2, fun k hk => ?_⟩
    obtain ⟨k, rfl⟩ : ∃ j, k = j + 2 := ⟨k - 2, by omega⟩
    have hm0 := rem_ge (l3.length : Int) 3 (by omega)
    have hm1 := rem_lt (l3.length : Int) 3 (by omega)
    rw [show k + 2 = (k + 1) + 1 by omega]
    simp only [l4_Raw_Make.l0]
    rw [within_rem _ 3 (by omega) (by omega), Option.bind_some, wrap_in (by omega), if_neg (by omega), if_neg (by omega)]
    simp only [l4_Raw_Make.j1, Bool.false_eq_true, if_false]
    exact p3 k (by omega)
  | succ d ih =>
    intro i rhs hi hl hk
    have hm0 := rem_ge (l3.length : Int) 3 (by omega)
    have hm1 := rem_lt (l3.length : Int) 3 (by omega)
    obtain ⟨b, hb0, hb⟩ : ∃ b : Bool, (i = 0 → b = true) ∧ ∀ k, l4_Raw_Make.l0 (k + 1) s n i a0 a1 a2 l3 l4 c0 rhs c2 c4 = l4_Raw_Make.j1 k s n i b a0 a1 a2 l3 l4 c0 rhs c2 c4 := by
      by_cases h1 : (i : Int) < 1 + (l3.length : Int) % 3
      · refine ⟨true, fun _ => rfl, fun k => ?_⟩
        simp only [l4_Raw_Make.l0]
        rw [within_rem _ 3 (by omega) (by omega), Option.bind_some, wrap_in (by omega), if_pos h1]
      · by_cases h2 : (i : Int) < n
        · refine ⟨(wrap64 (Int.tdiv a1 16) % 2 == 0), fun h => by omega, fun k => ?_⟩
          simp only [l4_Raw_Make.l0]
          rw [within_rem _ 3 (by omega) (by omega), Option.bind_some, wrap_in (by omega), if_neg h1, if_pos h2, within_rem _ 2 (by omega) (by omega), Option.bind_some]
        · refine ⟨false, fun h => by omega, fun k => ?_⟩
          simp only [l4_Raw_Make.l0]
          rw [within_rem _ 3 (by omega) (by omega), Option.bind_some, wrap_in (by omega), if_neg h1, if_neg h2]
    cases b with
    | false =>
      have hi1 : i ≠ 0 := fun h => by have := hb0 h; cases this
      obtain ⟨ps', p1, p2, p3⟩ := make_places n a0 a1 a2 l3 l4 c0 rhs c2 c4 hn.2 (by omega) (by omega) h4 n.toNat 0 [] (by omega) rfl (by simp)
      refine ⟨rhs, ps', ⟨by omega, by omega⟩, hk, p1, p2, fun k hk => ?_⟩
      obtain ⟨k, rfl⟩ : ∃ j, k = j + 2 := ⟨k - 2, by omega⟩
      rw [show k + 2 = (k + 1) + 1 by omega, hb]
      simp only [l4_Raw_Make.j1, Bool.false_eq_true, if_false]
      exact p3 k (by omega)
    | true =>
      obtain ⟨v, hv⟩ : ∃ v : Int, ∀ k, l4_Raw_Make.j1 (k + 1) s n i true a0 a1 a2 l3 l4 c0 rhs c2 c4 = l4_Raw_Make.j2 k s n i v a0 a1 a2 l3 l4 c0 rhs c2 c4 := by
        by_cases h1 : (i : Int) < (l3.length : Int)
        · refine ⟨rd l3 i, fun k => ?_⟩
          simp only [l4_Raw_Make.j1, if_true]
          rw [if_pos h1, if_pos (by omega)]
        · refine ⟨i, fun k => ?_⟩
          simp only [l4_Raw_Make.j1, if_true]
          rw [if_neg h1]
      have hw : wrap64 ((i : Int) + 1) = ((i + 1 : Nat) : Int) := by rw [wrap_in (by omega)]; rfl
      obtain ⟨y, hy, hj⟩ : ∃ y : Int, kidOk s y ∧ ∀ k, l4_Raw_Make.j2 (k + 1) s n i v a0 a1 a2 l3 l4 c0 rhs c2 c4 = l4_Raw_Make.l0 k s n ((i + 1 : Nat) : Int) a0 a1 a2 l3 l4 c0 (rhs ++ [y]) c2 c4 := by
        by_cases h1 : wrap64 (Int.tdiv v 20) % 2 = 0
        · obtain ⟨t, ht⟩ := as_fin 11 rfl (rem_ge (wrap64 (Int.tdiv v 40)) 11 (by omega)) (rem_lt (wrap64 (Int.tdiv v 40)) 11 (by omega))
          refine ⟨_, .inr (kid_table t), fun k => ?_⟩
          simp only [l4_Raw_Make.j2]
          rw [within_rem v s (by omega) (by omega), Option.bind_some, within_rem _ 2 (by omega) (by omega), Option.bind_some, if_pos h1, Option.bind_some, within_rem _ 11 (by omega) (by omega), Option.bind_some, ht, if_pos (by omega), if_pos (by have := t.isLt; simp; omega), if_pos (by omega), hw]
        · refine ⟨v % s, .inl ⟨rem_ge v s (by omega), rem_lt v s (by omega)⟩, fun k => ?_⟩
          simp only [l4_Raw_Make.j2]
          rw [within_rem v s (by omega) (by omega), Option.bind_some, within_rem _ 2 (by omega) (by omega), Option.bind_some, if_neg h1, if_pos (by omega), hw]
      obtain ⟨rhs', ps', q1, q2, q3, q4, q5⟩ := ih (i + 1) (rhs ++ [y]) (by omega) (by rw [List.length_append, hl]; rfl) (fun z hz => by
        rcases List.mem_append.1 hz with hz | hz
        · exact hk z hz
        · rw [List.mem_singleton.1 hz]; exact hy)
      refine ⟨rhs', ps', q1, q2, q3, q4, fun k hk => ?_⟩
      obtain ⟨k, rfl⟩ : ∃ j, k = j + 3 := ⟨k - 3, by omega⟩
      rw [show k + 3 = ((k + 1) + 1) + 1 by omega, hb, hv, hj]
      exact q5 k (by omega)
def makeN (o : Nat) : Int := rd ([1, 3, 2, 2, 2, 2, 3, 1, 1, 2, 1, 1, 2, 2, 2, 2] : List Int) (o : Int)
theorem makeN_ok : ∀ o : Fin 16, (1 ≤ makeN o.val ∧ makeN o.val ≤ 3) ∧ (askedP ((o.val : Nat) : Int)).1 ≤ makeN o.val ∧ makeN o.val ≤ (askedP ((o.val : Nat) : Int)).2 := by decide +kernel
structure Made (s : Int) (r : Rule') : Prop where
  lhs : 0 ≤ r.f0 ∧ r.f0 < s
  len : 1 ≤ r.f1.length ∧ r.f1.length ≤ 3
  kids : ∀ y ∈ r.f1, kidOk s y
  right : rightR r = true
theorem make_some (x : Raw') (s : Int) (hs : 1 ≤ s ∧ s ≤ 20) (hx : okRaw x) (h3 : x.f3.length ≤ 20) (h4 : x.f4.length ≤ 20) :
    ∃ r : Rule', Made s r ∧ ∀ k, 40 ≤ k → l4_Raw_Make.f k x.f0 x.f1 x.f2 x.f3 x.f4 s = some (r.f0, r.f1, r.f2.f0, r.f2.f1, r.f3) := by
  obtain ⟨_, hw1, _, hw3, _⟩ := hx
  obtain ⟨o, ho⟩ := as_fin 16 rfl (rem_ge x.f1 16 (by omega)) (rem_lt x.f1 16 (by omega))
  have hn := makeN_ok o
  have hc0 := rem_ge x.f2 101 (by omega)
  have hc1 := rem_lt x.f2 101 (by omega)
  have hl0 := rem_ge x.f0 s (by omega)
  have hl1 := rem_lt x.f0 s (by omega)
  obtain ⟨rhs, ps, p1, p2, p3, p4, p5⟩ := make_kids s (makeN o.val) x.f0 x.f1 x.f2 x.f3 x.f4 (x.f0 % s) ((o.val : Nat) : Int) (x.f2 % 101) hs hn.1 h3 hw3 h4 hw1 3 0 [] rfl rfl (by simp)
  refine ⟨⟨x.f0 % s, rhs, ⟨((o.val : Nat) : Int), ps⟩, x.f2 % 101⟩, ⟨⟨hl0, hl1⟩, p1, p2, ?_⟩, fun k hk => ?_⟩
  · show rightP (x.f0 % s) rhs ((o.val : Nat) : Int) ps (x.f2 % 101) = true
    unfold rightP symbolB withinB
    simp only [Bool.and_eq_true, decide_eq_true_eq, List.all_eq_true]
    refine ⟨⟨hl0, by omega⟩, ⟨by omega, by omega⟩, fun y hy => ?_, ⟨hc0, by omega⟩, ⟨by omega, by omega⟩, fun p hp => ?_⟩
    · unfold itemB
      rcases p2 y hy with h | h
      · rw [decide_eq_true (by omega), decide_eq_true (by omega)]; rfl
      · rw [decide_eq_true (by omega), decide_eq_true (by omega)]; rfl
    · have h := p4 p hp
      unfold placeB
      rw [decide_eq_true h.1, decide_eq_true h.2]; rfl
  · unfold l4_Raw_Make.f
    rw [within_rem x.f0 s (by omega) (by omega), Option.bind_some, within_rem x.f2 101 (by omega) (by omega), Option.bind_some, within_rem x.f1 16 (by omega) (by omega), Option.bind_some, Option.bind_some, ho, if_pos (by omega), if_pos (by have := o.isLt; simp; omega)]
    exact p5 k (by omega)
end
structure Told (s : Int) (out : List Rule') : Prop where
  made : ∀ r ∈ out, Made s r
  check : checkP out = true
theorem rule_eta (r : Rule') : (⟨r.f0, r.f1, (⟨r.f2.f0, r.f2.f1⟩ : S39), r.f3⟩ : Rule') = r := rfl
theorem rules_loop (l : List Raw') (s : Int) (hs : 1 ≤ s ∧ s ≤ 20) (hl : l.length ≤ 80) (hok : ∀ x ∈ l, okRaw x) (hf : ∀ x ∈ l, x.f3.length ≤ 20 ∧ x.f4.length ≤ 20) : ∀ (d i : Nat) (out : List Rule'), i + d = l.length → out.length ≤ i → Told s out →
    ∃ res, Told s res ∧ ∀ k, 2 * d + 45 < k → l4_Rules.l0 k l s out i = some res := by
  intro d
  induction d with
  | zero =>
    intro i out hi ho ht
    refine ⟨out, ht, fun k hk => ?_⟩
    obtain ⟨k, rfl⟩ : ∃ j, k = j + 2 := ⟨k - 2, by omega⟩
    rw [show k + 2 = (k + 1) + 1 by omega]
    simp only [l4_Rules.l0]
    rw [if_neg (by omega)]
    simp only [l4_Rules.j1, Bool.false_eq_true, if_false]
  | succ d ih =>
    intro i out hi ho ht
    have hlt : i < l.length := by omega
    by_cases h20 : (i : Int) < 20
    · obtain ⟨r, hr, hm⟩ := make_some l[i] s hs (hok _ (List.getElem_mem hlt)) (hf _ (List.getElem_mem hlt)).1 (hf _ (List.getElem_mem hlt)).2
      have hw : wrap64 ((i : Int) + 1) = ((i + 1 : Nat) : Int) := by rw [wrap_in (by omega)]; rfl
      have hmade : ∀ q ∈ out ++ [r], Made s q := by
        intro q hq
        rcases List.mem_append.1 hq with hq | hq
        · exact ht.made q hq
        · rw [List.mem_singleton.1 hq]; exact hr
      have hstep : ∀ k, 45 < k → l4_Rules.l0 (k + 2) l s out i = if checkP (out ++ [r]) = true then l4_Rules.l0 k l s (out ++ [r]) ((i + 1 : Nat) : Int) else l4_Rules.l0 k l s out ((i + 1 : Nat) : Int) := by
        intro k hk
        rw [show k + 2 = (k + 1) + 1 by omega]
        simp only [l4_Rules.l0]
        rw [if_pos (by omega), decide_eq_true h20]
        simp only [l4_Rules.j1, if_true, Option.bind_some, List.nil_append, List.length_nil, Nat.zero_add]
        rw [if_pos (by omega), if_pos (by omega), if_pos (by omega), rdR_getElem l i hlt, hm k (by omega), Option.bind_some]
        simp only [rule_eta]
        rw [if_pos (by omega), hw]
        rfl
      cases hc : checkP (out ++ [r]) with
      | true =>
        obtain ⟨res, h1, h2⟩ := ih (i + 1) (out ++ [r]) (by omega) (by rw [List.length_append]; simp; omega) ⟨hmade, hc⟩
        refine ⟨res, h1, fun k hk => ?_⟩
        obtain ⟨k, rfl⟩ : ∃ j, k = j + 2 := ⟨k - 2, by omega⟩
        rw [hstep k (by omega), hc, if_pos rfl]
        exact h2 k (by omega)
      | false =>
        obtain ⟨res, h1, h2⟩ := ih (i + 1) out (by omega) (by omega) ht
        refine ⟨res, h1, fun k hk => ?_⟩
        obtain ⟨k, rfl⟩ : ∃ j, k = j + 2 := ⟨k - 2, by omega⟩
        rw [hstep k (by omega), hc, if_neg (by simp)]
        exact h2 k (by omega)
    · refine ⟨out, ht, fun k hk => ?_⟩
      obtain ⟨k, rfl⟩ : ∃ j, k = j + 2 := ⟨k - 2, by omega⟩
      rw [show k + 2 = (k + 1) + 1 by omega]
      simp only [l4_Rules.l0]
      rw [if_pos (by omega), decide_eq_false h20]
      simp only [l4_Rules.j1, Bool.false_eq_true, if_false]
theorem check_nilR : checkP [] = true := by
  rw [checkP_iff]
  exact ⟨by simp, rfl, fun x hx => no_round _ id (fun r hr => by cases hr) x hx⟩
theorem rules_some (l : List Raw') (s : Int) (hs : 1 ≤ s ∧ s ≤ 20) (hl : l.length ≤ 80) (hok : ∀ x ∈ l, okRaw x) (hf : fewB l = true) : ∃ res, Told s res ∧ ∀ k, 300 ≤ k → l4_Rules.f k l s = some res := by
  obtain ⟨res, h1, h2⟩ := rules_loop l s hs hl hok (fun x hx => of_decide_eq_true (List.all_eq_true.1 hf x hx)) l.length 0 [] (by omega) (Nat.le_refl _) ⟨fun r hr => (by cases hr), check_nilR⟩
  exact ⟨res, h1, fun k hk => h2 k (by omega)⟩
end Go.Proofs.Ytjfbfhoipgldgaa.P
end
section
namespace Go.Proofs.Ytjfbfhoipgldgaa.Pure
open Go.RowKit Go.Proofs.Ytjfbfhoipgldgaa.P Go.Proofs.YtjfbfhoipgldgaaW.PrintWords Go.Proofs.YtjfbfhoipgldgaaW.PrintLast
def clsTok (c : Nat → Int) (i : Nat) : Tok' := ⟨(i : Int), (i : Int) + 1, c i, 0, 0⟩
def clsL (c : Nat → Int) (k : Nat) : List Tok' := (List.range k).map (clsTok c)
theorem clsL_succ (c : Nat → Int) (k : Nat) : clsL c (k + 1) = clsL c k ++ [clsTok c k] := by
  unfold clsL
  rw [List.range_succ, List.map_append]
  rfl
theorem clsL_len (c : Nat → Int) (k : Nat) : (clsL c k).length = k := by simp [clsL]
theorem clsL_toks (c : Nat → Int) (k : Nat) : ∀ x ∈ clsL c k, 0 ≤ x.f0 ∧ x.f0 < x.f1 ∧ x.f1 ≤ (k : Int) := fun x hx => by
  obtain ⟨i, hi, rfl⟩ := List.mem_map.1 hx
  have := List.mem_range.1 hi
  unfold clsTok
  simp only
  omega
theorem clsL_size (c : Nat → Int) : ∀ k, sizeL (clsL c k) = (k : Int)
  | 0 => rfl
  | k + 1 => by
    have ih := clsL_size c k
    unfold sizeL at ih ⊢
    rw [clsL_succ, List.foldl_append, ih]
    show max (k : Int) ((k : Int) + 1) = ((k + 1 : Nat) : Int)
    omega
theorem clsL_ok (rules : List Rule') (c : Nat → Int) (hc : ∀ i, -1000000 ≤ c i ∧ c i ≤ 1000000) (k n : Nat) (hr : rules.length ≤ 1000000) (hk : k ≤ n) (hk2 : k ≤ 1000) : okIn rules (clsL c k) n = true := by
  refine (okIn_iff _ _ _).2 ⟨hr, by rw [clsL_len]; exact hk2, fun x hx => ?_⟩
  have h1 := clsL_toks c k x hx
  obtain ⟨i, hi, rfl⟩ := List.mem_map.1 hx
  exact ⟨⟨h1.1, h1.2.1, by omega⟩, hc i⟩
theorem count_cls (rules : List Rule') (hl : rules.length ≤ 1000000) (hch : checkP rules = true) (c : Nat → Int) (hc : ∀ i, -1000000 ≤ c i ∧ c i ≤ 1000000) (k s p q : Nat) (hk : k ≤ 1000) (hs : s ≤ 1000) (hp : p ≤ k) (hq : q ≤ k) (most : Int) (h0 : 0 < most) (h1 : most ≤ 1000000000) :
    chart_Count.f rules (clsL c k) (s : Int) (p : Int) (q : Int) most = some ((min (numP rules (clsL c k) k (s : Int) p q) most.toNat : Nat) : Int) := by
  unfold chart_Count.f
  rw [if_pos ⟨⟨⟨⟨by omega, by omega⟩, ⟨by omega, by omega⟩, ⟨by omega, by omega⟩, ⟨by omega, by omega⟩⟩, h1⟩, clsL_ok rules c hc k 1000000 hl (by omega) hk⟩]
  unfold countP
  congr 1
  by_cases hm : q ≤ p
  · rw [if_pos (.inr (.inr (by omega)))]
    have hf : Chart.Fwd (tokT (clsL c k)) := tok_fwd _ fun x hx => (clsL_toks c k x hx).2.1
    have h9 : numP rules (clsL c k) k (s : Int) p q = 0 := Chart.Num_fwd _ _ _ hf (plain_ne rules hch) _ p q (by omega)
    rw [h9]
    simp
  · rw [if_neg (by omega), clsL_size, if_neg (by omega), if_pos hch]
    simp only [Int.toNat_natCast]
    rfl
def cnt (L : List Sp) (b : Sp) : Nat := (L.filter fun x => ltOf cmpS x b).length
theorem cnt_congr (L : List Sp) (b b' : Sp) (h : ∀ x ∈ L, ltS x b ↔ ltS x b') : cnt L b = cnt L b' := by
  unfold cnt
  congr 1
  refine List.filter_congr fun x hx => ?_
  have h1 := h x hx
  rw [← ltOf_cmpS, ← ltOf_cmpS] at h1
  cases e1 : ltOf cmpS x b <;> cases e2 : ltOf cmpS x b' <;> simp_all
open Classical in
theorem cnt_step (s p q : Int) : ∀ (L : List Sp), L.Nodup → cnt L ⟨s, p, q + 1⟩ = cnt L ⟨s, p, q⟩ + if (⟨s, p, q⟩ : Sp) ∈ L then 1 else 0
  | [], _ => by simp [cnt]
  | y :: L, hn => by
    rw [List.nodup_cons] at hn
    have ih := cnt_step s p q L hn.2
    have e : ∀ b, cnt (y :: L) b = cnt L b + if ltS y b then 1 else 0 := by
      intro b
      unfold cnt
      rw [List.filter_cons]
      by_cases h : ltS y b
      · rw [if_pos ((ltOf_cmpS y b).2 h), if_pos h]; rfl
      · rw [if_neg (fun h1 => h ((ltOf_cmpS y b).1 h1)), if_neg h]; rfl
    rw [e, e, ih]
    by_cases hy : y = ⟨s, p, q⟩
    · subst hy
      have a1 : ltS (⟨s, p, q⟩ : Sp) ⟨s, p, q + 1⟩ := .inr ⟨rfl, .inr ⟨rfl, by show q < q + 1; omega⟩⟩
      rw [if_pos a1, if_neg (ltS_irrefl _), if_neg hn.1, if_pos List.mem_cons_self]
    · have a2 : ltS y ⟨s, p, q + 1⟩ ↔ ltS y ⟨s, p, q⟩ := by
        constructor
        · intro h
          have h2 : ¬ (y.f0 = s ∧ y.f1 = p ∧ y.f2 = q) := fun h2 => hy (by obtain ⟨a, b, c⟩ := y; simp only at h2; obtain ⟨rfl, rfl, rfl⟩ := h2; rfl)
          unfold ltS at h ⊢
          simp only at h ⊢
          omega
        · intro h
          unfold ltS at h ⊢
          simp only at h ⊢
          omega
      have a3 : ((⟨s, p, q⟩ : Sp) ∈ y :: L) ↔ (⟨s, p, q⟩ : Sp) ∈ L := by
        rw [List.mem_cons]
        exact ⟨fun h => h.resolve_left (fun e => hy e.symm), .inr⟩
      simp only [a2, a3]
      omega
theorem up {g : Nat → Option Bool} (hm : ∀ k, LeO (g k) (g (k + 1))) {k k' : Nat} (h : k ≤ k') (hk : g k = some true) : g k' = some true := by
  obtain ⟨d, rfl⟩ : ∃ d, k' = k + d := ⟨k' - k, by omega⟩
  clear h
  induction d with
  | zero => exact hk
  | succ d ih => exact hm _ _ ih
section
variable (R : List Rule') (c : Nat → Int) (k : Nat)
noncomputable abbrev tl : List Sp := spansP R (clsL c k) k
theorem tl_mem (x : Sp) : x ∈ tl R c k ↔ checkP R = true ∧ ∃ (s : Int) (p q : Nat), x = ⟨s, (p : Int), (q : Int)⟩ ∧ numP R (clsL c k) k s p q ≠ 0 := spansP_mem R (clsL c k) k (clsL_toks c k) x
theorem tl_nodup : (tl R c k).Nodup := (spansP_rising R (clsL c k) k).imp fun {x y} h (e : x = y) => ltS_irrefl y (by rw [e] at h; exact h)
variable (hch : checkP R = true) (hc : ∀ i, -1000000 ≤ c i ∧ c i ≤ 1000000) (hk : k ≤ 5) (hs3 : ∀ r ∈ R, 0 ≤ r.f0 ∧ r.f0 < 3)
include hch hs3 in
theorem tl_rng (x : Sp) (hx : x ∈ tl R c k) : (0 ≤ x.f0 ∧ x.f0 < 3) ∧ 0 ≤ x.f1 ∧ x.f1 < x.f2 ∧ x.f2 ≤ (k : Int) := by
  obtain ⟨_, s, p, q, rfl, hn⟩ := (tl_mem R c k x).1 hx
  obtain ⟨r, hr, he⟩ := num_lhs _ _ _ _ _ _ hn
  obtain ⟨r0, hr0, rfl⟩ := List.mem_map.1 hr
  have h1 := hs3 r0 hr0
  have he' : r0.f0 = s := he
  have h2 := num_tok R hch (clsL c k) k k (clsL_toks c k) s p q hn
  have hf : Chart.Fwd (tokT (clsL c k)) := tok_fwd _ fun x hx => (clsL_toks c k x hx).2.1
  have h3 : p < q := Classical.byContradiction fun h => hn (Chart.Num_fwd _ _ _ hf (plain_ne R hch) s p q h)
  simp only
  omega
open Classical in
include hch hc hk in
theorem spans_at (n s p q : Nat) (hs : s < 3) (hp : p ≤ q) (hq : q ≤ k) (m : Nat) (hm : l7_ChartSpans.l3 m R (clsL c k) (k : Int) (tl R c k) ((n + (if (⟨(s : Int), (p : Int), (q : Int)⟩ : Sp) ∈ tl R c k then 1 else 0) : Nat) : Int) (s : Int) (p : Int) ((q + 1 : Nat) : Int) = some true) (hnb : n ≤ 1000) (hlen : (tl R c k).length ≤ 1000000) :
    ∃ m', l7_ChartSpans.l3 m' R (clsL c k) (k : Int) (tl R c k) (n : Int) (s : Int) (p : Int) (q : Int) = some true := by
  obtain ⟨L, hL⟩ : ∃ L, L = tl R c k := ⟨_, rfl⟩
  have hmem := tl_mem R c k ⟨(s : Int), (p : Int), (q : Int)⟩
  rw [← hL] at hm hmem hlen ⊢
  have hrl : R.length ≤ 1000000 := by have := ((checkP_iff R).1 hch).1; omega
  have hcount := count_cls R hrl hch c hc k s p q (by omega) (by omega) (by omega) hq 5 (by decide) (by decide)
  have hw : wrap64 ((q : Int) + 1) = ((q + 1 : Nat) : Int) := by unfold wrap64; omega
  have hwn : wrap64 ((n : Int) + 1) = ((n + 1 : Nat) : Int) := by unfold wrap64; omega
  have key : (⟨(s : Int), (p : Int), (q : Int)⟩ : Sp) ∈ L ↔ numP R (clsL c k) k (s : Int) p q ≠ 0 := by
    rw [hmem]
    constructor
    · rintro ⟨_, s', p', q', e, h⟩
      injection e with e1 e2 e3
      obtain rfl : p = p' := by omega
      obtain rfl : q = q' := by omega
      rw [e1]
      exact h
    · exact fun h => ⟨hch, _, _, _, rfl, h⟩
  clear hmem
  have hend : ∀ b : Bool, (b = true ↔ (⟨(s : Int), (p : Int), (q : Int)⟩ : Sp) ∈ L) → l7_ChartSpans.l4 (m + 1) R (clsL c k) (k : Int) L (n : Int) (s : Int) (p : Int) (q : Int) b (L.length : Int) = some true := by
    intro b hb
    rw [l7_ChartSpans.l4, if_neg (by omega), hcount]
    have h5 : (5 : Int).toNat = 5 := rfl
    rw [h5]
    cases b
    · have hno : ¬ (⟨(s : Int), (p : Int), (q : Int)⟩ : Sp) ∈ L := fun h => by have := hb.2 h; cases this
      have hz : numP R (clsL c k) k (s : Int) p q = 0 := Classical.byContradiction fun h => hno (key.2 h)
      rw [if_neg hno, Nat.add_zero] at hm
      rw [if_neg (by decide), Option.bind_some, hz, if_neg (by decide), hw]
      exact hm
    · have hyes := hb.1 rfl
      have hz := key.1 hyes
      rw [if_pos hyes] at hm
      rw [if_pos rfl, Option.bind_some, if_neg (by rw [decide_eq_true (show ((min (numP R (clsL c k) k (s : Int) p q) 5 : Nat) : Int) > 0 by omega)]; decide), hw, hwn]
      exact hm
  have hloop : ∀ d i, i + d = L.length → ∀ b : Bool, (b = true ↔ (⟨(s : Int), (p : Int), (q : Int)⟩ : Sp) ∈ L.take i) → l7_ChartSpans.l4 (m + 1 + d) R (clsL c k) (k : Int) L (n : Int) (s : Int) (p : Int) (q : Int) b (i : Int) = some true := by
    intro d
    induction d with
    | zero =>
      intro i hi b hb
      obtain rfl : i = L.length := by omega
      rw [List.take_length] at hb
      exact hend b hb
    | succ d ih =>
      intro i hi b hb
      have hil : i < L.length := by omega
      have hwi : wrap64 ((i : Int) + 1) = ((i + 1 : Nat) : Int) := by unfold wrap64; omega
      have hx : rd_T35 L (i : Int) = L[i] := by
        show L.getD (i : Int).toNat _ = _
        rw [Int.toNat_natCast, List.getD_eq_getElem?_getD, List.getElem?_eq_getElem hil]
        rfl
      rw [show m + 1 + (d + 1) = (m + 1 + d) + 1 by omega, l7_ChartSpans.l4, if_pos (by omega)]
      cases b
      · rw [if_neg Bool.false_ne_true, if_pos (Int.natCast_nonneg i), hx, hwi]
        refine ih (i + 1) (by omega) _ ?_
        have hno : ¬ (⟨(s : Int), (p : Int), (q : Int)⟩ : Sp) ∈ L.take i := fun h => by have := hb.2 h; cases this
        rw [List.take_succ_eq_append_getElem hil, List.mem_append, List.mem_singleton]
        simp only [Bool.and_eq_true, beq_iff_eq]
        constructor
        · rintro ⟨a1, a2, a3⟩
          refine .inr ?_
          rw [← a1, ← a2, ← a3]
        · rintro (h | h)
          · exact absurd h hno
          · rw [← h]
            exact ⟨rfl, rfl, rfl⟩
      · rw [if_pos rfl, hwi]
        refine ih (i + 1) (by omega) true ?_
        rw [List.take_succ_eq_append_getElem hil]
        exact ⟨fun _ => List.mem_append_left _ (hb.1 rfl), fun _ => rfl⟩
  refine ⟨m + 1 + L.length + 1, ?_⟩
  rw [l7_ChartSpans.l3, if_pos (by omega)]
  exact hloop L.length 0 (by omega) false (by simp)
include hk in
theorem tl_len : (tl R c k).length ≤ 720 := by
  have h1 := spansP_len R (clsL c k) k
  have h2 : 20 * (k + 1) * (k + 1) ≤ 20 * 6 * 6 := Nat.mul_le_mul (by omega) (by omega)
  exact Nat.le_trans h1 h2
theorem cnt_le (L : List Sp) (b : Sp) : cnt L b ≤ L.length := List.length_filter_le _ _
noncomputable abbrev cn (s p q : Nat) : Nat := cnt (tl R c k) ⟨(s : Int), (p : Int), (q : Int)⟩
open Classical in
theorem cn_step (s p q : Nat) : cn R c k s p (q + 1) = cn R c k s p q + if (⟨(s : Int), (p : Int), (q : Int)⟩ : Sp) ∈ tl R c k then 1 else 0 :=
  Eq.trans (show cn R c k s p (q + 1) = cnt (tl R c k) ⟨(s : Int), (p : Int), (q : Int) + 1⟩ from rfl) (cnt_step (s : Int) (p : Int) (q : Int) (tl R c k) (tl_nodup R c k))
open Classical in
include hch hc hk in
theorem chain3 (s p : Nat) (hs : s < 3) (hm : ∃ m, l7_ChartSpans.l2 m R (clsL c k) (k : Int) (tl R c k) ((cn R c k s p (k + 1) : Nat) : Int) (s : Int) ((p + 1 : Nat) : Int) = some true) (hpk : p ≤ k) :
    ∀ d q, q + d = k + 1 → p ≤ q → ∃ m, l7_ChartSpans.l3 m R (clsL c k) (k : Int) (tl R c k) ((cn R c k s p q : Nat) : Int) (s : Int) (p : Int) (q : Int) = some true
  | 0, q, h, _ => by
    obtain rfl : q = k + 1 := by omega
    obtain ⟨m, hm⟩ := hm
    have hw : wrap64 ((p : Int) + 1) = ((p + 1 : Nat) : Int) := by unfold wrap64; omega
    refine ⟨m + 1, ?_⟩
    rw [l7_ChartSpans.l3, if_neg (by omega), hw]
    exact hm
  | d + 1, q, h, hpq => by
    obtain ⟨m, ih⟩ := chain3 s p hs hm hpk d (q + 1) (by omega) (by omega)
    have hlen := tl_len R c k hk
    have hle := cnt_le (tl R c k) ⟨(s : Int), (p : Int), (q : Int)⟩
    rw [cn_step] at ih
    exact spans_at R c k hch hc hk (cn R c k s p q) s p q hs hpq (by omega) m ih (Nat.le_trans hle (by omega)) (by omega)
include hch hc hk hs3 in
theorem chain2 (s : Nat) (hs : s < 3) (hm : ∃ m, l7_ChartSpans.l1 m R (clsL c k) (k : Int) (tl R c k) ((cn R c k (s + 1) 0 0 : Nat) : Int) ((s + 1 : Nat) : Int) = some true) :
    ∀ d p, p + d = k + 1 → ∃ m, l7_ChartSpans.l2 m R (clsL c k) (k : Int) (tl R c k) ((cn R c k s p p : Nat) : Int) (s : Int) (p : Int) = some true
  | 0, p, h => by
    obtain rfl : p = k + 1 := by omega
    obtain ⟨m, hm⟩ := hm
    have hw : wrap64 ((s : Int) + 1) = ((s + 1 : Nat) : Int) := by unfold wrap64; omega
    have e : cn R c k s (k + 1) (k + 1) = cn R c k (s + 1) 0 0 := cnt_congr _ _ _ fun x hx => by
      have h1 := tl_rng R c k hch hs3 x hx
      unfold ltS
      simp only
      omega
    refine ⟨m + 1, ?_⟩
    rw [l7_ChartSpans.l2, if_neg (by omega), hw, e]
    exact hm
  | d + 1, p, h => by
    obtain ⟨m, ih⟩ := chain2 s hs hm d (p + 1) (by omega)
    have e : cn R c k s p (k + 1) = cn R c k s (p + 1) (p + 1) := cnt_congr _ _ _ fun x hx => by
      have h1 := tl_rng R c k hch hs3 x hx
      unfold ltS
      simp only
      omega
    rw [← e] at ih
    obtain ⟨m', h3⟩ := chain3 R c k hch hc hk s p hs ⟨m, ih⟩ (by omega) (k + 1 - p) p (by omega) (Nat.le_refl _)
    refine ⟨m' + 1, ?_⟩
    rw [l7_ChartSpans.l2, if_pos (by omega)]
    exact h3
include hch hc hk hs3 in
theorem chain1 : ∀ d s, s + d = 3 → ∃ m, l7_ChartSpans.l1 m R (clsL c k) (k : Int) (tl R c k) ((cn R c k s 0 0 : Nat) : Int) (s : Int) = some true
  | 0, s, h => by
    obtain rfl : s = 3 := by omega
    have e : cn R c k 3 0 0 = (tl R c k).length := by
      show ((tl R c k).filter _).length = _
      rw [List.filter_eq_self.2 fun x hx => (ltOf_cmpS _ _).2 (.inl (by have h1 := tl_rng R c k hch hs3 x hx; show x.f0 < 3; omega))]
    refine ⟨1, ?_⟩
    rw [l7_ChartSpans.l1, if_neg (by omega), e]
    simp
  | d + 1, s, h => by
    obtain ⟨m, ih⟩ := chain2 R c k hch hc hk hs3 s (by omega) (chain1 d (s + 1) (by omega)) (k + 1) 0 (by omega)
    refine ⟨m + 1, ?_⟩
    rw [l7_ChartSpans.l1, if_pos (by omega)]
    exact ih
end
def spanC (ns : List Int) (i : Nat) : Int := rd ([0, 1, 50] : List Int) ((rd ns (i : Int)) % 3)
theorem spanC_rng (ns : List Int) (i : Nat) : -1000000 ≤ spanC ns i ∧ spanC ns i ≤ 1000000 := by
  unfold spanC
  obtain ⟨j, hj⟩ := as_fin 3 rfl (rem_ge (rd ns (i : Int)) 3 (by decide)) (rem_lt (rd ns (i : Int)) 3 (by decide))
  rw [hj]
  exact (by decide : ∀ j : Fin 3, -1000000 ≤ rd ([0, 1, 50] : List Int) ((j.val : Nat) : Int) ∧ rd ([0, 1, 50] : List Int) ((j.val : Nat) : Int) ≤ 1000000) j
theorem spans_signs (R : List Rule') (hch : checkP R = true) (hs3 : ∀ r ∈ R, 0 ≤ r.f0 ∧ r.f0 < 3) (ns : List Int) (K : Nat) (hK : K ≤ 5) (hKn : K ≤ ns.length) : ∀ d i, i + d = K → ∃ m, l7_ChartSpans.l0 m ns R (clsL (spanC ns) i) (K : Int) (i : Int) = some true
  | 0, i, h => by
    obtain rfl : i = K := by omega
    obtain ⟨m, hm⟩ := chain1 R (spanC ns) i hch (spanC_rng ns) hK hs3 3 0 (by omega)
    have hrl : R.length ≤ 1000000 := by have := ((checkP_iff R).1 hch).1; omega
    have hs : chart_Spans.f R (clsL (spanC ns) i) (i : Int) = some (tl R (spanC ns) i) := by
      unfold chart_Spans.f
      rw [if_pos ⟨⟨by omega, by omega⟩, by rw [Int.toNat_natCast]; exact clsL_ok R _ (spanC_rng ns) i i hrl (Nat.le_refl _) (by omega)⟩, Int.toNat_natCast]
    have e : cn R (spanC ns) i 0 0 0 = 0 := by
      show ((tl R (spanC ns) i).filter _).length = _
      rw [List.filter_eq_nil_iff.2 fun x hx => by
        have h1 := tl_rng R (spanC ns) i hch hs3 x hx
        rw [ltOf_cmpS]
        unfold ltS
        simp only
        omega]
      rfl
    refine ⟨m + 1, ?_⟩
    rw [l7_ChartSpans.l0, if_neg (by omega), hs, Option.bind_some]
    rw [e] at hm
    exact hm
  | d + 1, i, h => by
    obtain ⟨m, ih⟩ := spans_signs R hch hs3 ns K hK hKn d (i + 1) (by omega)
    have hw : wrap64 ((i : Int) + 1) = ((i + 1 : Nat) : Int) := by unfold wrap64; omega
    have h0 := rem_ge (rd ns (i : Int)) 3 (by decide)
    have h1 := rem_lt (rd ns (i : Int)) 3 (by decide)
    refine ⟨m + 1, ?_⟩
    rw [l7_ChartSpans.l0, if_pos (by omega), Option.bind_some, if_pos (by omega), if_pos (by omega), within7_rem _ 3 (by decide) (by decide), Option.bind_some, if_pos h0, if_pos (by show _ < (3 : Int); exact h1), if_pos (by rw [clsL_len]; omega)]
    have hrow : clsL (spanC ns) i ++ [(⟨(i : Int), wrap64 ((i : Int) + 1), rd ([0, 1, 50] : List Int) ((rd ns (i : Int)) % 3), 0, 0⟩ : Tok')] = clsL (spanC ns) (i + 1) := by
      rw [clsL_succ, hw]
      rfl
    rw [hrow, hw]
    exact ih
theorem ChartSpans (l0 : List Raw') (l1 : List Int) (hl : l0.length ≤ 9223372036854775807) (hok : ∀ x ∈ l0, okRaw x) (_ : l1.length ≤ 9223372036854775807) (_ : ∀ n ∈ l1, wfI n) : ∃ k, l7_ChartSpans.f k l0 l1 = some true := by
  by_cases hf : (fewB l0 && decide (l0.length ≤ 80)) = true
  · have hf2 := hf
    rw [Bool.and_eq_true, decide_eq_true_eq] at hf2
    by_cases h8 : l0.length > 8
    · refine ⟨l0.length + 1, ?_⟩
      unfold l7_ChartSpans.f
      rw [known_true, Option.bind_some, if_pos rfl, few_some l0 hl _ (by omega), Option.bind_some, if_pos hf, l7_ChartSpans.j0, if_pos (decide_eq_true (by omega))]
    · obtain ⟨res, hT, hR⟩ := rules_some l0 3 ⟨by decide, by decide⟩ hf2.2 hok hf2.1
      obtain ⟨K, hK⟩ : ∃ K : Nat, mn (l1.length : Int) 5 = (K : Int) := ⟨(mn (l1.length : Int) 5).toNat, by unfold mn; split <;> omega⟩
      have hKb : K ≤ 5 ∧ K ≤ l1.length := by
        unfold mn at hK
        split at hK <;> omega
      obtain ⟨m, hm⟩ := spans_signs res hT.check (fun r hr => (hT.made r hr).lhs) l1 K hKb.1 hKb.2 K 0 (by omega)
      refine ⟨max m (max 300 l0.length) + 1, ?_⟩
      unfold l7_ChartSpans.f
      rw [known_true, Option.bind_some, if_pos rfl, few_some l0 hl _ (by omega), Option.bind_some, if_pos hf, l7_ChartSpans.j0, if_neg (by rw [decide_eq_false (by omega)]; decide), hR _ (by omega), Option.bind_some, hK]
      exact up (g := fun k => l7_ChartSpans.l0 k l1 res [] (K : Int) 0) (fun k => (l7_ChartSpans.mono_l k).2.1 _ _ _ _ _) (show m ≤ max m (max 300 l0.length) by omega) hm
  · refine ⟨l0.length + 1, ?_⟩
    unfold l7_ChartSpans.f
    rw [known_true, Option.bind_some, if_pos rfl, few_some l0 hl _ (by omega), Option.bind_some, if_neg hf, l7_ChartSpans.j0, if_pos rfl]
end Go.Proofs.Ytjfbfhoipgldgaa.Pure
end
