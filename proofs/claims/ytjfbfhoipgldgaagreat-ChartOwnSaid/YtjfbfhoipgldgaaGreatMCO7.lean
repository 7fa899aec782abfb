/- Spans that were told may be overwritten: told again they are alike; rules and signs are not changed. Part 7: contracts of the functions that the law reaches, and words for them. -/
import Derived.Test.YtjfbfhoipgldgaaGreatMCO6
section
namespace Go.Proofs.YtjfbfhoipgldgaaGreat.P
open Go.RowKit Go.Proofs.YtjfbfhoipgldgaaGreatW.PrintWords Go.Proofs.YtjfbfhoipgldgaaGreatW.PrintLast Go.Proofs.YtjfbfhoipgldgaaGreatW.PrintMore
attribute [local go_sem] ob_ lb_ vb_ ub_ db_ cb_ nb_ kb_   
set_option linter.unusedVariables false
set_option linter.unusedSimpArgs false
abbrev Raw' := S50
theorem lk_ (l : List Raw') (j : Nat) (h : j < l.length) : ta_ l j = l[j] := by
 unfold ta_
 rw [Int.toNat_natCast, List.getD_eq_getElem?_getD, List.getElem?_eq_getElem h]
 rfl
def fewB (l : List Raw') : Bool := l.all fun x => decide (x.f3.length ≤ 20 ∧ x.f4.length ≤ 20)
theorem few_loop (l : List Raw') (hl : l.length ≤ 9223372036854775807) : ∀ (d j : Nat), j + d = l.length → ∀ k, d < k → l4_Few.l0 k l j = some (fewB (l.drop j) && decide (l.length ≤ 80)) := by
 intro d
 induction d with
 | zero =>
  intro j hj k hk
  obtain ⟨k, rfl⟩ : ∃ i, k = i + 1 := ⟨k - 1, by omega⟩
  simp only [l4_Few.l0]
  rw [if_neg (by omega), show j = l.length by omega, List.drop_length]
  have : decide ((l.length : Int) ≤ 80) = decide (l.length ≤ 80) := decide_eq_decide.2 (by omega)
  rw [this]
  rfl
 | succ d ih =>
  intro j hj k hk
  obtain ⟨k, rfl⟩ : ∃ i, k = i + 1 := ⟨k - 1, by omega⟩
  have hlt : j < l.length := by omega
  have hw : wrap64 ((j : Int) + 1) = ((j + 1 : Nat) : Int) := by rw [ke_ (by omega)]; rfl
  have h1 := ih (j + 1) (by omega) k (by omega)
  simp only [l4_Few.l0]
  rw [if_pos (by omega), if_pos (by omega), lk_ l j hlt, hw, h1, List.drop_eq_getElem_cons hlt]
  unfold fewB
  rw [List.all_cons]
  by_cases h3 : (l[j].f3.length : Int) > 20
  ·rw [if_pos h3, decide_eq_false (by omega)]; rfl
  rw [if_neg h3]
  by_cases h4 : (l[j].f4.length : Int) > 20
  ·rw [if_pos h4, decide_eq_false (by omega)]; rfl
  rw [if_neg h4, decide_eq_true (by omega : l[j].f3.length ≤ 20 ∧ l[j].f4.length ≤ 20)]
  rfl
theorem nm_ (l : List Raw') (hl : l.length ≤ 9223372036854775807) (k : Nat) (hk : l.length < k) : l4_Few.f k l = some (fewB l && decide (l.length ≤ 80)) := by
 have h := few_loop l hl l.length 0 (by omega) k hk
 rw [List.drop_zero] at h
 exact h
def kidOk (s : Int) (y : Int) : Prop := (0 ≤ y ∧ y < s) ∨ (-55 ≤ y ∧ y ≤ -1)
section
variable (s n a0 a1 a2 : Int) (l3 l4 : List Int) (c0 : Int) (rhs : List Int) (c2 c4 : Int)
theorem rk_ (hn : n ≤ 3) (hr : 1 ≤ rhs.length) (hr2 : rhs.length ≤ 10) (h4 : l4.length ≤ 20) : ∀ (d j : Nat) (ps : List Int), (j : Int) + d = n → ps.length = j → (∀ p ∈ ps, 0 ≤ p ∧ p < (rhs.length : Int)) →
  ∃ ps' : List Int, (ps'.length : Int) = n ∧ (∀ p ∈ ps', 0 ≤ p ∧ p < (rhs.length : Int)) ∧ ∀ k, d < k → l4_Raw_Make.l1 k n j a0 a1 a2 l3 l4 c0 rhs c2 ps c4 = some (c0, rhs, c2, ps', c4) := by
 intro d
 induction d with
 | zero =>
  intro j ps hj hl hp
  refine ⟨ps, by omega, hp, fun k hk => ?_⟩
  obtain ⟨k, rfl⟩ : ∃ i, k = i + 1 := ⟨k - 1, by omega⟩
  simp only [l4_Raw_Make.l1]
  rw [if_neg (by omega)]
 | succ d ih =>
  intro j ps hj hl hp
  have hw : wrap64 ((j : Int) + 1) = ((j + 1 : Nat) : Int) := by rw [ke_ (by omega)]; rfl
  by_cases h : (j : Int) < (l4.length : Int)
  ·have hv0 := kf_ (rd l4 j) (rhs.length : Int) (by omega)
   have hv1 := jf_ (rd l4 j) (rhs.length : Int) (by omega)
   obtain ⟨ps', h1, h2, h3⟩ := ih (j + 1) (ps ++ [rd l4 j % (rhs.length : Int)]) (by omega) (by rw [List.length_append, hl]; rfl) (fun p hp' => by
    rcases List.mem_append.1 hp' with hp' | hp'
    ·exact hp p hp'
    rw [List.mem_singleton.1 hp']; exact ⟨hv0, hv1⟩)
   refine ⟨ps', h1, h2, fun k hk => ?_⟩
   obtain ⟨k, rfl⟩ : ∃ i, k = i + 1 := ⟨k - 1, by omega⟩
   simp only [l4_Raw_Make.l1]
   rw [if_pos (by omega), if_pos h, if_pos (by omega), jc_ _ _ (by omega) (by omega), Option.bind_some, if_pos (by omega), hw]
   exact h3 k (by omega)
  have hv0 := kf_ (j : Int) (rhs.length : Int) (by omega)
  have hv1 := jf_ (j : Int) (rhs.length : Int) (by omega)
  obtain ⟨ps', h1, h2, h3⟩ := ih (j + 1) (ps ++ [(j : Int) % (rhs.length : Int)]) (by omega) (by rw [List.length_append, hl]; rfl) (fun p hp' => by
   rcases List.mem_append.1 hp' with hp' | hp'
   ·exact hp p hp'
   rw [List.mem_singleton.1 hp']; exact ⟨hv0, hv1⟩)
  refine ⟨ps', h1, h2, fun k hk => ?_⟩
  obtain ⟨k, rfl⟩ : ∃ i, k = i + 1 := ⟨k - 1, by omega⟩
  simp only [l4_Raw_Make.l1]
  rw [if_pos (by omega), if_neg h, jc_ _ _ (by omega) (by omega), Option.bind_some, if_pos (by omega), hw]
  exact h3 k (by omega)
theorem sv_ : ∀ t : Fin 11, -55 ≤ wrap64 ((-1) - (rd ([0, 0, 0, 1, 2, 3, 50, 51, 52, 53, 54] : List Int) ((t.val : Nat) : Int))) ∧ wrap64 ((-1) - (rd ([0, 0, 0, 1, 2, 3, 50, 51, 52, 53, 54] : List Int) ((t.val : Nat) : Int))) ≤ -1 := by decide +kernel
theorem qv_ (s n a0 a1 a2 : Int) (l3 l4 : List Int) (c0 c2 c4 : Int) (hs : 1 ≤ s ∧ s ≤ 20) (hn : 1 ≤ n ∧ n ≤ 3) (h3 : l3.length ≤ 20) (hw3 : ∀ y ∈ l3, wfI y) (h4 : l4.length ≤ 20) (ha1 : wfI a1) : ∀ (d i : Nat) (rhs : List Int), i + d = 3 → rhs.length = i → (∀ y ∈ rhs, kidOk s y) →
  ∃ rhs' ps', (1 ≤ rhs'.length ∧ rhs'.length ≤ 3) ∧ (∀ y ∈ rhs', kidOk s y) ∧ ((ps'.length : Int) = n) ∧ (∀ p ∈ ps', 0 ≤ p ∧ p < (rhs'.length : Int)) ∧ ∀ k, 3 * d + 20 < k → l4_Raw_Make.l0 k s n i a0 a1 a2 l3 l4 c0 rhs c2 c4 = some (c0, rhs', c2, ps', c4) := by
 intro d
 induction d with
 | zero =>
  intro i rhs hi hl hk
  obtain ⟨ps', p1, p2, p3⟩ := rk_ n a0 a1 a2 l3 l4 c0 rhs c2 c4 hn.2 (by omega) (by omega) h4 n.toNat 0 [] (by omega) rfl (by simp)
  refine ⟨rhs, ps', ⟨by omega, by omega⟩, hk, p1, p2, fun k hk => ?_⟩
  obtain ⟨k, rfl⟩ : ∃ j, k = j + 2 := ⟨k - 2, by omega⟩
  have hm0 := kf_ (l3.length : Int) 3 (by omega)
  have hm1 := jf_ (l3.length : Int) 3 (by omega)
  rw [show k + 2 = (k + 1) + 1 by omega]
  simp only [l4_Raw_Make.l0]
  rw [jc_ _ 3 (by omega) (by omega), Option.bind_some, ke_ (by omega), if_neg (by omega), if_neg (by omega)]
  simp only [l4_Raw_Make.j1, Bool.false_eq_true, if_false]
  exact p3 k (by omega)
 | succ d ih =>
  intro i rhs hi hl hk
  have hm0 := kf_ (l3.length : Int) 3 (by omega)
  have hm1 := jf_ (l3.length : Int) 3 (by omega)
  obtain ⟨b, hb0, hb⟩ : ∃ b : Bool, (i = 0 → b = true) ∧ ∀ k, l4_Raw_Make.l0 (k + 1) s n i a0 a1 a2 l3 l4 c0 rhs c2 c4 = l4_Raw_Make.j1 k s n i b a0 a1 a2 l3 l4 c0 rhs c2 c4 := by
   by_cases h1 : (i : Int) < 1 + (l3.length : Int) % 3
   ·refine ⟨true, fun _ => rfl, fun k => ?_⟩
    simp only [l4_Raw_Make.l0]
    rw [jc_ _ 3 (by omega) (by omega), Option.bind_some, ke_ (by omega), if_pos h1]
   by_cases h2 : (i : Int) < n
   ·refine ⟨(wrap64 (Int.tdiv a1 16) % 2 == 0), fun h => by omega, fun k => ?_⟩
    simp only [l4_Raw_Make.l0]
    rw [jc_ _ 3 (by omega) (by omega), Option.bind_some, ke_ (by omega), if_neg h1, if_pos h2, jc_ _ 2 (by omega) (by omega), Option.bind_some]
   refine ⟨false, fun h => by omega, fun k => ?_⟩
   simp only [l4_Raw_Make.l0]
   rw [jc_ _ 3 (by omega) (by omega), Option.bind_some, ke_ (by omega), if_neg h1, if_neg h2]
  cases b with
  | false =>
   have hi1 : i ≠ 0 := fun h => by have := hb0 h; cases this
   obtain ⟨ps', p1, p2, p3⟩ := rk_ n a0 a1 a2 l3 l4 c0 rhs c2 c4 hn.2 (by omega) (by omega) h4 n.toNat 0 [] (by omega) rfl (by simp)
   refine ⟨rhs, ps', ⟨by omega, by omega⟩, hk, p1, p2, fun k hk => ?_⟩
   obtain ⟨k, rfl⟩ : ∃ j, k = j + 2 := ⟨k - 2, by omega⟩
   rw [show k + 2 = (k + 1) + 1 by omega, hb]
   simp only [l4_Raw_Make.j1, Bool.false_eq_true, if_false]
   exact p3 k (by omega)
  | true =>
   obtain ⟨v, hv⟩ : ∃ v : Int, ∀ k, l4_Raw_Make.j1 (k + 1) s n i true a0 a1 a2 l3 l4 c0 rhs c2 c4 = l4_Raw_Make.j2 k s n i v a0 a1 a2 l3 l4 c0 rhs c2 c4 := by
    by_cases h1 : (i : Int) < (l3.length : Int)
    ·refine ⟨rd l3 i, fun k => ?_⟩
     simp only [l4_Raw_Make.j1, if_true]
     rw [if_pos h1, if_pos (by omega)]
    refine ⟨i, fun k => ?_⟩
    simp only [l4_Raw_Make.j1, if_true]
    rw [if_neg h1]
   have hw : wrap64 ((i : Int) + 1) = ((i + 1 : Nat) : Int) := by rw [ke_ (by omega)]; rfl
   obtain ⟨y, hy, hj⟩ : ∃ y : Int, kidOk s y ∧ ∀ k, l4_Raw_Make.j2 (k + 1) s n i v a0 a1 a2 l3 l4 c0 rhs c2 c4 = l4_Raw_Make.l0 k s n ((i + 1 : Nat) : Int) a0 a1 a2 l3 l4 c0 (rhs ++ [y]) c2 c4 := by
    by_cases h1 : wrap64 (Int.tdiv v 20) % 2 = 0
    ·obtain ⟨t, ht⟩ := pt_ 11 rfl (kf_ (wrap64 (Int.tdiv v 40)) 11 (by omega)) (jf_ (wrap64 (Int.tdiv v 40)) 11 (by omega))
     refine ⟨_, .inr (sv_ t), fun k => ?_⟩
     simp only [l4_Raw_Make.j2]
     rw [jc_ v s (by omega) (by omega), Option.bind_some, jc_ _ 2 (by omega) (by omega), Option.bind_some, if_pos h1, Option.bind_some, jc_ _ 11 (by omega) (by omega), Option.bind_some, ht, if_pos (by omega), if_pos (by have := t.isLt; simp; omega), if_pos (by omega), hw]
    refine ⟨v % s, .inl ⟨kf_ v s (by omega), jf_ v s (by omega)⟩, fun k => ?_⟩
    simp only [l4_Raw_Make.j2]
    rw [jc_ v s (by omega) (by omega), Option.bind_some, jc_ _ 2 (by omega) (by omega), Option.bind_some, if_neg h1, if_pos (by omega), hw]
   obtain ⟨rhs', ps', q1, q2, q3, q4, q5⟩ := ih (i + 1) (rhs ++ [y]) (by omega) (by rw [List.length_append, hl]; rfl) (fun z hz => by
    rcases List.mem_append.1 hz with hz | hz
    ·exact hk z hz
    rw [List.mem_singleton.1 hz]; exact hy)
   refine ⟨rhs', ps', q1, q2, q3, q4, fun k hk => ?_⟩
   obtain ⟨k, rfl⟩ : ∃ j, k = j + 3 := ⟨k - 3, by omega⟩
   rw [show k + 3 = ((k + 1) + 1) + 1 by omega, hb, hv, hj]
   exact q5 k (by omega)
def dr_ (o : Nat) : Int := rd ([1, 3, 2, 2, 2, 2, 3, 1, 1, 2, 1, 1, 2, 2, 2, 2] : List Int) (o : Int)
theorem makeN_ok : ∀ o : Fin 16, (1 ≤ dr_ o.val ∧ dr_ o.val ≤ 3) ∧ (jd_ ((o.val : Nat) : Int)).1 ≤ dr_ o.val ∧ dr_ o.val ≤ (jd_ ((o.val : Nat) : Int)).2 := by decide +kernel
structure Made (s : Int) (r : qa_) : Prop where
 lhs : 0 ≤ r.f0 ∧ r.f0 < s
 len : 1 ≤ r.f1.length ∧ r.f1.length ≤ 3
 kids : ∀ y ∈ r.f1, kidOk s y
 right : tc_ r = true
theorem pv_ (x : Raw') (s : Int) (hs : 1 ≤ s ∧ s ≤ 20) (hx : zn_ x) (h3 : x.f3.length ≤ 20) (h4 : x.f4.length ≤ 20) :
  ∃ r : qa_, Made s r ∧ ∀ k, 40 ≤ k → l4_Raw_Make.f k x.f0 x.f1 x.f2 x.f3 x.f4 s = some (r.f0, r.f1, r.f2.f0, r.f2.f1, r.f3) := by
 obtain ⟨_, hw1, _, hw3, _⟩ := hx
 obtain ⟨o, ho⟩ := pt_ 16 rfl (kf_ x.f1 16 (by omega)) (jf_ x.f1 16 (by omega))
 have hn := makeN_ok o
 have hc0 := kf_ x.f2 101 (by omega)
 have hc1 := jf_ x.f2 101 (by omega)
 have hl0 := kf_ x.f0 s (by omega)
 have hl1 := jf_ x.f0 s (by omega)
 obtain ⟨rhs, ps, p1, p2, p3, p4, p5⟩ := qv_ s (dr_ o.val) x.f0 x.f1 x.f2 x.f3 x.f4 (x.f0 % s) ((o.val : Nat) : Int) (x.f2 % 101) hs hn.1 h3 hw3 h4 hw1 3 0 [] rfl rfl (by simp)
 refine ⟨⟨x.f0 % s, rhs, ⟨((o.val : Nat) : Int), ps⟩, x.f2 % 101⟩, ⟨⟨hl0, hl1⟩, p1, p2, ?_⟩, fun k hk => ?_⟩
 ·show af_ (x.f0 % s) rhs ((o.val : Nat) : Int) ps (x.f2 % 101) = true
  unfold af_ be_ bc_
  simp only [Bool.and_eq_true, decide_eq_true_eq, List.all_eq_true]
  refine ⟨⟨hl0, by omega⟩, ⟨by omega, by omega⟩, fun y hy => ?_, ⟨hc0, by omega⟩, ⟨by omega, by omega⟩, fun p hp => ?_⟩
  ·unfold zd_
   rcases p2 y hy with h | h
   ·rw [decide_eq_true (by omega), decide_eq_true (by omega)]; rfl
   rw [decide_eq_true (by omega), decide_eq_true (by omega)]; rfl
  have h := p4 p hp
  unfold xd_
  rw [decide_eq_true h.1, decide_eq_true h.2]; rfl
 unfold l4_Raw_Make.f
 rw [jc_ x.f0 s (by omega) (by omega), Option.bind_some, jc_ x.f2 101 (by omega) (by omega), Option.bind_some, jc_ x.f1 16 (by omega) (by omega), Option.bind_some, Option.bind_some, ho, if_pos (by omega), if_pos (by have := o.isLt; simp; omega)]
 exact p5 k (by omega)
end
structure Told (s : Int) (out : List qa_) : Prop where
 made : ∀ r ∈ out, Made s r
 check : bb_ out = true
theorem rule_eta (r : qa_) : (⟨r.f0, r.f1, (⟨r.f2.f0, r.f2.f1⟩ : S46), r.f3⟩ : qa_) = r := rfl
theorem ks_ (l : List Raw') (s : Int) (hs : 1 ≤ s ∧ s ≤ 20) (hl : l.length ≤ 80) (hok : ∀ x ∈ l, zn_ x) (hf : ∀ x ∈ l, x.f3.length ≤ 20 ∧ x.f4.length ≤ 20) : ∀ (d i : Nat) (out : List qa_), i + d = l.length → out.length ≤ i → Told s out →
  ∃ res, Told s res ∧ ∀ k, 2 * d + 45 < k → l4_Rules.l0 k l s out i = some res := by
 intro d
 induction d with
 | zero =>
  intro i out hi ho ht
  refine ⟨out, ht, fun k hk => ?_⟩
  obtain ⟨k, rfl⟩ : ∃ j, k = j + 2 := ⟨k - 2, by omega⟩
  rw [show k + 2 = (k + 1) + 1 by omega]
  simp only [l4_Rules.l0]
  rw [if_neg (by omega)]
  simp only [l4_Rules.j1, Bool.false_eq_true, if_false]
 | succ d ih =>
  intro i out hi ho ht
  have hlt : i < l.length := by omega
  by_cases h20 : (i : Int) < 20
  ·obtain ⟨r, hr, hm⟩ := pv_ l[i] s hs (hok _ (List.getElem_mem hlt)) (hf _ (List.getElem_mem hlt)).1 (hf _ (List.getElem_mem hlt)).2
   have hw : wrap64 ((i : Int) + 1) = ((i + 1 : Nat) : Int) := by rw [ke_ (by omega)]; rfl
   have hmade : ∀ q ∈ out ++ [r], Made s q := by
    intro q hq
    rcases List.mem_append.1 hq with hq | hq
    ·exact ht.made q hq
    rw [List.mem_singleton.1 hq]; exact hr
   have hstep : ∀ k, 45 < k → l4_Rules.l0 (k + 2) l s out i = if bb_ (out ++ [r]) = true then l4_Rules.l0 k l s (out ++ [r]) ((i + 1 : Nat) : Int) else l4_Rules.l0 k l s out ((i + 1 : Nat) : Int) := by
    intro k hk
    rw [show k + 2 = (k + 1) + 1 by omega]
    simp only [l4_Rules.l0]
    rw [if_pos (by omega), decide_eq_true h20]
    simp only [l4_Rules.j1, if_true, Option.bind_some, List.nil_append, List.length_nil, Nat.zero_add]
    rw [if_pos (by omega), if_pos (by omega), if_pos (by omega), lk_ l i hlt, hm k (by omega), Option.bind_some]
    simp only [rule_eta]
    rw [if_pos (by omega), hw]
    rfl
   cases hc : bb_ (out ++ [r]) with
   | true =>
    obtain ⟨res, h1, h2⟩ := ih (i + 1) (out ++ [r]) (by omega) (by rw [List.length_append]; simp; omega) ⟨hmade, hc⟩
    refine ⟨res, h1, fun k hk => ?_⟩
    obtain ⟨k, rfl⟩ : ∃ j, k = j + 2 := ⟨k - 2, by omega⟩
    rw [hstep k (by omega), hc, if_pos rfl]
    exact h2 k (by omega)
   | false =>
    obtain ⟨res, h1, h2⟩ := ih (i + 1) out (by omega) (by omega) ht
    refine ⟨res, h1, fun k hk => ?_⟩
    obtain ⟨k, rfl⟩ : ∃ j, k = j + 2 := ⟨k - 2, by omega⟩
    rw [hstep k (by omega), hc, if_neg (by simp)]
    exact h2 k (by omega)
  refine ⟨out, ht, fun k hk => ?_⟩
  obtain ⟨k, rfl⟩ : ∃ j, k = j + 2 := ⟨k - 2, by omega⟩
  rw [show k + 2 = (k + 1) + 1 by omega]
  simp only [l4_Rules.l0]
  rw [if_pos (by omega), decide_eq_false h20]
  simp only [l4_Rules.j1, Bool.false_eq_true, if_false]
theorem lt_ : bb_ [] = true := by
 rw [cc_]
 exact ⟨by simp, rfl, fun x hx => ar_ _ id (fun r hr => by cases hr) x hx⟩
theorem js_ (l : List Raw') (s : Int) (hs : 1 ≤ s ∧ s ≤ 20) (hl : l.length ≤ 80) (hok : ∀ x ∈ l, zn_ x) (hf : fewB l = true) : ∃ res, Told s res ∧ ∀ k, 300 ≤ k → l4_Rules.f k l s = some res := by
 obtain ⟨res, h1, h2⟩ := ks_ l s hs hl hok (fun x hx => of_decide_eq_true (List.all_eq_true.1 hf x hx)) l.length 0 [] (by omega) (Nat.le_refl _) ⟨fun r hr => (by cases hr), lt_⟩
 exact ⟨res, h1, fun k hk => h2 k (by omega)⟩
end Go.Proofs.YtjfbfhoipgldgaaGreat.P
end
section
namespace Go.Proofs.YtjfbfhoipgldgaaGreat.Pure
open Go.RowKit Go.Proofs.YtjfbfhoipgldgaaGreat.P Go.Proofs.YtjfbfhoipgldgaaGreatW.PrintWords Go.Proofs.YtjfbfhoipgldgaaGreatW.PrintLast
def ownC (ns : List Int) (i : Nat) : Int := rd ([0, 0, 1, 2, 50, 51] : List Int) ((rd ns (i : Int)) % 6)
def ownV (ns : List Int) (i : Nat) : Int := (wrap64 (Int.tdiv (rd ns (i : Int)) 6)) % 20
theorem ownC_rng (ns : List Int) (i : Nat) : -1000000 ≤ ownC ns i ∧ ownC ns i ≤ 1000000 := by
 unfold ownC
 obtain ⟨j, hj⟩ := pt_ 6 rfl (kf_ (rd ns (i : Int)) 6 (by decide)) (jf_ (rd ns (i : Int)) 6 (by decide))
 rw [hj]
 exact (by decide : ∀ j : Fin 6, -1000000 ≤ rd ([0, 0, 1, 2, 50, 51] : List Int) ((j.val : Nat) : Int) ∧ rd ([0, 0, 1, 2, 50, 51] : List Int) ((j.val : Nat) : Int) ≤ 1000000) j
theorem mk_ (ns : List Int) (K : Nat) (hK : K ≤ 5) (hKn : K ≤ ns.length) (m : Nat) : ∀ d i, i + d = K → l7_row.l0 (m + 1 + d) ns (genL (ownC ns) (ownV ns) 1 i) (K : Int) (i : Int) = some (genL (ownC ns) (ownV ns) 1 K, (K : Int))
 | 0, i, h => by
  obtain rfl : i = K := by omega
  rw [Nat.add_zero, l7_row.l0, if_neg (by omega)]
 | d + 1, i, h => by
  have ih := mk_ ns K hK hKn m d (i + 1) (by omega)
  have hw : wrap64 ((i : Int) + 1) = ((i + 1 : Nat) : Int) := by unfold wrap64; omega
  have h0 := kf_ (rd ns (i : Int)) 6 (by decide)
  have h1 := jf_ (rd ns (i : Int)) 6 (by decide)
  rw [show m + 1 + (d + 1) = (m + 1 + d) + 1 by omega, l7_row.l0, if_pos (by omega), Option.bind_some, if_pos (by omega), if_pos (by omega), ck_ _ 6 (by decide) (by decide), Option.bind_some, if_pos h0, if_pos (by show _ < (6 : Int); exact h1), ck_ _ 20 (by decide) (by decide), Option.bind_some, if_pos (by rw [lm_]; omega)]
  have hrow : genL (ownC ns) (ownV ns) 1 i ++ [(⟨(i : Int), wrap64 ((i : Int) + 1), rd ([0, 0, 1, 2, 50, 51] : List Int) ((rd ns (i : Int)) % 6), (wrap64 (Int.tdiv (rd ns (i : Int)) 6)) % 20, 1⟩ : Tok')] = genL (ownC ns) (ownV ns) 1 (i + 1) := by
   rw [uv_, hw]
   rfl
  rw [hrow, hw]
  exact ih
theorem ownRow (ns : List Int) (K : Nat) (hK : mn (ns.length : Int) 5 = (K : Int)) (k : Nat) (hk : 10 ≤ k) : l7_row.f k ns 5 = some (genL (ownC ns) (ownV ns) 1 K, (K : Int)) := by
 have hKb : K ≤ 5 ∧ K ≤ ns.length := by
  unfold mn at hK
  split at hK <;> omega
 unfold l7_row.f
 rw [hK]
 have h := mk_ ns K hKb.1 hKb.2 (k - (1 + K)) K 0 (by omega)
 rwa [show k - (1 + K) + 1 + K = k by omega] at h
theorem aj_ (t : List Tok') (hb : t.length ≤ 1000000) (m : Nat) : ∀ d i, i + d = t.length → interlocutorref6_Same.l0 (m + 1 + d) t t (i : Int) = some true
 | 0, i, h => by
  rw [Nat.add_zero, interlocutorref6_Same.l0, if_neg (by omega)]
 | d + 1, i, h => by
  have ih := aj_ t hb m d (i + 1) (by omega)
  have hw : wrap64 ((i : Int) + 1) = ((i + 1 : Nat) : Int) := by unfold wrap64; omega
  rw [show m + 1 + (d + 1) = (m + 1 + d) + 1 by omega, interlocutorref6_Same.l0, if_pos (by omega), if_pos (by omega), if_pos (by omega), if_neg (by simp), hw]
  exact ih
theorem sameTok (t : List Tok') (hb : t.length ≤ 1000000) (k : Nat) (hk : t.length < k) : interlocutorref6_Same.f k t t = some true := by
 unfold interlocutorref6_Same.f
 rw [if_pos rfl]
 have h := aj_ t hb (k - t.length - 1) t.length 0 (by omega)
 rwa [show k - t.length - 1 + 1 + t.length = k by omega] at h
theorem xq_ (x2 : Int) (R R2 : List qa_) (t u : List Tok') (K : Int) (m : Nat) : ∀ d i (B : List Sp), B.length ≤ 1000000 → i + d = B.length →
  l7_ChartOwn.l0 (m + 1 + d) x2 R R2 t K u B (i : Int) = ((interlocutorref6_Same.f m t u).bind fun t291 => (if t291 = true then ((chart_Spans.f R t K).bind fun t292 => ((interlocutorref7_Spans.f R2 u K).bind fun t295 => ((l7_same.f m t292 t295).bind fun t298 => (some t298)))) else (some false)))
 | 0, i, B, hb, h => by
  rw [Nat.add_zero, l7_ChartOwn.l0, if_neg (by omega)]
 | d + 1, i, B, hb, h => by
  have hw : wrap64 ((i : Int) + 1) = ((i + 1 : Nat) : Int) := by unfold wrap64; omega
  rw [show m + 1 + (d + 1) = (m + 1 + d) + 1 by omega, l7_ChartOwn.l0, if_pos (by omega), if_pos (by omega), hw]
  exact xq_ x2 R R2 t u K m d (i + 1) _ (by rw [List.length_set]; exact hb) (by rw [List.length_set]; omega)
theorem ChartOwn (l0 : List Raw') (l1 : List Int) (a2 : Int) (hl : l0.length ≤ 9223372036854775807) (hok : ∀ x ∈ l0, zn_ x) (_ : l1.length ≤ 9223372036854775807) (_ : ∀ n ∈ l1, wfI n) : ∃ k, l7_ChartOwn.f k l0 l1 a2 = some true := by
 by_cases hf : (fewB l0 && decide (l0.length ≤ 80)) = true
 ·have hf2 := hf
  rw [Bool.and_eq_true, decide_eq_true_eq] at hf2
  by_cases h8 : l0.length > 8
  ·refine ⟨l0.length + 1, ?_⟩
   unfold l7_ChartOwn.f
   rw [pi_, Option.bind_some, if_pos rfl, nm_ l0 hl _ (by omega), Option.bind_some, if_pos hf, l7_ChartOwn.j0, if_pos (decide_eq_true (by omega))]
  obtain ⟨R, hT, hR⟩ := js_ l0 4 ⟨by decide, by decide⟩ hf2.2 hok hf2.1
  obtain ⟨K, hK⟩ : ∃ K : Nat, mn (l1.length : Int) 5 = (K : Int) := ⟨(mn (l1.length : Int) 5).toNat, by unfold mn; split <;> omega⟩
  have hKb : K ≤ 5 := by
   unfold mn at hK
   split at hK <;> omega
  have hRl : R.length ≤ 1000000 := by have := ((cc_ _).1 hT.check).1; omega
  obtain ⟨t, ht⟩ : ∃ t, t = genL (ownC l1) (ownV l1) 1 K := ⟨_, rfl⟩
  have htl : t.length ≤ 1000000 := by rw [ht, lm_]; omega
  have htok : okIn R t K = true := by rw [ht]; exact genL_ok R _ _ 1 (ownC_rng l1) K K hRl (Nat.le_refl _) (by omega)
  have hA := spans_lt R t K (by omega)
  obtain ⟨m, hm⟩ : ∃ m, m = t.length + (pc_ R t K).length + max 300 l0.length + 10 := ⟨_, rfl⟩
  have hloop := xq_ a2 R R t t (K : Int) m (pc_ R t K).length 0 (pc_ R t K) hA (by omega)
  rw [sameTok t htl m (by omega), Option.bind_some, if_pos rfl, wt_ R t K (by omega) htok, Option.bind_some, spans7_f R hT.check t K (by omega) htok, Option.bind_some, fv_ _ hA m (by omega), Option.bind_some] at hloop
  refine ⟨m + 1 + (pc_ R t K).length + 1, ?_⟩
  unfold l7_ChartOwn.f
  rw [pi_, Option.bind_some, if_pos rfl, nm_ l0 hl _ (by omega), Option.bind_some, if_pos hf, l7_ChartOwn.j0, if_neg (by rw [decide_eq_false (by omega)]; decide), hR _ (by omega), Option.bind_some, Option.bind_some, ownRow l1 K hK _ (by omega), Option.bind_some, Option.bind_some]
  show ((chart_Spans.f R (genL (ownC l1) (ownV l1) 1 K) (K : Int)).bind fun t287 => l7_ChartOwn.l0 (m + 1 + (pc_ R t K).length) a2 R R (genL (ownC l1) (ownV l1) 1 K) (K : Int) (genL (ownC l1) (ownV l1) 1 K) t287 0) = _
  rw [← ht, wt_ R t K (by omega) htok, Option.bind_some]
  exact hloop
 refine ⟨l0.length + 1, ?_⟩
 unfold l7_ChartOwn.f
 rw [pi_, Option.bind_some, if_pos rfl, nm_ l0 hl _ (by omega), Option.bind_some, if_neg hf, l7_ChartOwn.j0, if_pos rfl]
end Go.Proofs.YtjfbfhoipgldgaaGreat.Pure
end
