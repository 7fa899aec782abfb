/- Any name is resolved as the document says: what the parent has stands ahead: BlobResolves answers true for all that it is given, with no condition. Part 6: contracts of the functions that the law reaches, and words for them. -/
import Derived.Test.YtiocgaekoeekgaaGreatMBR5
set_option maxHeartbeats 32000000
set_option maxRecDepth 100000
section
namespace Go.Proofs.YtiocgaekoeekgaaGreat.P
open Go.RowKit YtiocgaekoeekgaaGreatW.PrintWords YtiocgaekoeekgaaGreatW.PrintLast YtiocgaekoeekgaaGreatW.PrintMore
attribute [local go_sem] ub_ rb_ cc_ bc_ kb_ jb_ tb_ qb_   
set_option linter.unusedVariables false
set_option linter.unusedSimpArgs false
abbrev Raw' := S120
theorem zk_ (l : List Raw') (j : Nat) (h : j < l.length) : xa_ l j = l[j] := by
 unfold xa_
 rw [Int.toNat_natCast, List.getD_eq_getElem?_getD, List.getElem?_eq_getElem h]
 rfl
def fewB (l : List Raw') : Bool := l.all fun x => decide (x.f3.length ≤ 20 ∧ x.f4.length ≤ 20)
theorem few_loop (l : List Raw') (hl : l.length ≤ 9223372036854775807) : ∀ (d j : Nat), j + d = l.length → ∀ k, d < k → l4_Few.l0 k l j = some (fewB (l.drop j) && decide (l.length ≤ 80)) := by
 intro d
 induction d with
 | zero =>
  intro j hj k hk; obtain ⟨k, rfl⟩ : ∃ i, k = i + 1 := ⟨k - 1, Td_⟩; simp only [l4_Few.l0]; rw [if_neg Td_, show j = l.length by omega, List.drop_length]; have : decide ((l.length : Int) ≤ 80) = decide (l.length ≤ 80) := decide_eq_decide.2 Td_; rw [this]
  rfl
 | succ d ih =>
  intro j hj k hk; obtain ⟨k, rfl⟩ : ∃ i, k = i + 1 := ⟨k - 1, Td_⟩; have hlt : j < l.length := by omega
  have hw : wrap64 ((j : Int) + 1) = ((j + 1 : Nat) : Int) := by rw [ge_ Td_]; rfl
  have h1 := ih (j + 1) Td_ k Td_; simp only [l4_Few.l0]; rw [if_pos Td_, if_pos Td_, zk_ l j hlt, hw, h1, List.drop_eq_getElem_cons hlt]; unfold fewB; rw [List.all_cons]
  by_cases h3 : (l[j].f3.length : Int) > 20
  ·rw [if_pos h3, decide_eq_false Td_]; rfl
  rw [if_neg h3]
  by_cases h4 : (l[j].f4.length : Int) > 20
  ·rw [if_pos h4, decide_eq_false Td_]; rfl
  rw [if_neg h4, decide_eq_true (by omega : l[j].f3.length ≤ 20 ∧ l[j].f4.length ≤ 20)]; rfl
theorem few_some (l : List Raw') (hl : l.length ≤ 9223372036854775807) (k : Nat) (hk : l.length < k) : l4_Few.f k l = some (fewB l && decide (l.length ≤ 80)) := by
 have h := few_loop l hl l.length 0 Td_ k hk
 rw [List.drop_zero] at h
 exact h
def kidOk (s : Int) (y : Int) : Prop := (0 ≤ y ∧ y < s) ∨ (-55 ≤ y ∧ y ≤ -1)
section
variable (s n a0 a1 a2 : Int) (l3 l4 : List Int) (c0 : Int) (rhs : List Int) (c2 c4 : Int)
theorem gl_ (hn : n ≤ 3) (hr : 1 ≤ rhs.length) (hr2 : rhs.length ≤ 10) (h4 : l4.length ≤ 20) : ∀ (d j : Nat) (ps : List Int), (j : Int) + d = n → ps.length = j → (∀ p ∈ ps, 0 ≤ p ∧ p < (rhs.length : Int)) →
  ∃ ps' : List Int, (ps'.length : Int) = n ∧ (∀ p ∈ ps', 0 ≤ p ∧ p < (rhs.length : Int)) ∧ ∀ k, d < k → l4_Raw_Make.l1 k n j a0 a1 a2 l3 l4 c0 rhs c2 ps c4 = some (c0, rhs, c2, ps', c4) := by
 intro d
 induction d with
 | zero =>
  intro j ps hj hl hp; refine ⟨ps, Td_, hp, fun k hk => ?_⟩; obtain ⟨k, rfl⟩ : ∃ i, k = i + 1 := ⟨k - 1, Td_⟩; simp only [l4_Raw_Make.l1]
  rw [if_neg Td_]
 | succ d ih =>
  intro j ps hj hl hp; have hw : wrap64 ((j : Int) + 1) = ((j + 1 : Nat) : Int) := by rw [ge_ Td_]; rfl
  by_cases h : (j : Int) < (l4.length : Int)
  ·have hv0 := jh_ (rd l4 j) (rhs.length : Int) Td_
   have hv1 := ih_ (rd l4 j) (rhs.length : Int) Td_
   obtain ⟨ps', h1, h2, h3⟩ := ih (j + 1) (ps ++ [rd l4 j % (rhs.length : Int)]) Td_ Xc_ (fun p hp' => by
    rcases List.mem_append.1 hp' with hp' | hp'
    ·exact hp p hp'
    rw [List.mem_singleton.1 hp']; exact ⟨hv0, hv1⟩)
   refine ⟨ps', h1, h2, fun k hk => ?_⟩; obtain ⟨k, rfl⟩ : ∃ i, k = i + 1 := ⟨k - 1, Td_⟩; simp only [l4_Raw_Make.l1]; rw [if_pos Td_, if_pos h, if_pos Td_, rc_ _ _ Td_ Td_, Option.bind_some, if_pos Td_, hw]; exact h3 k Td_
  have hv0 := jh_ (j : Int) (rhs.length : Int) Td_; have hv1 := ih_ (j : Int) (rhs.length : Int) Td_
  obtain ⟨ps', h1, h2, h3⟩ := ih (j + 1) (ps ++ [(j : Int) % (rhs.length : Int)]) Td_ Xc_ (fun p hp' => by
   rcases List.mem_append.1 hp' with hp' | hp'
   ·exact hp p hp'
   rw [List.mem_singleton.1 hp']; exact ⟨hv0, hv1⟩)
  refine ⟨ps', h1, h2, fun k hk => ?_⟩; obtain ⟨k, rfl⟩ : ∃ i, k = i + 1 := ⟨k - 1, Td_⟩; simp only [l4_Raw_Make.l1]; rw [if_pos Td_, if_neg h, rc_ _ _ Td_ Td_, Option.bind_some, if_pos Td_, hw]; exact h3 k Td_
theorem dv_ : ∀ t : Fin 11, -55 ≤ wrap64 ((-1) - (rd ([0, 0, 0, 1, 2, 3, 50, 51, 52, 53, 54] : List Int) ((t.val : Nat) : Int))) ∧ wrap64 ((-1) - (rd ([0, 0, 0, 1, 2, 3, 50, 51, 52, 53, 54] : List Int) ((t.val : Nat) : Int))) ≤ -1 := by decide +kernel
theorem bv_ (s n a0 a1 a2 : Int) (l3 l4 : List Int) (c0 c2 c4 : Int) (hs : 1 ≤ s ∧ s ≤ 20) (hn : 1 ≤ n ∧ n ≤ 3) (h3 : l3.length ≤ 20) (hw3 : ∀ y ∈ l3, wfI y) (h4 : l4.length ≤ 20) (ha1 : wfI a1) : ∀ (d i : Nat) (rhs : List Int), i + d = 3 → rhs.length = i → (∀ y ∈ rhs, kidOk s y) →
  ∃ rhs' ps', (1 ≤ rhs'.length ∧ rhs'.length ≤ 3) ∧ (∀ y ∈ rhs', kidOk s y) ∧ ((ps'.length : Int) = n) ∧ (∀ p ∈ ps', 0 ≤ p ∧ p < (rhs'.length : Int)) ∧ ∀ k, 3 * d + 20 < k → l4_Raw_Make.l0 k s n i a0 a1 a2 l3 l4 c0 rhs c2 c4 = some (c0, rhs', c2, ps', c4) := by
 intro d
 induction d with
 | zero =>
  intro i rhs hi hl hk; obtain ⟨ps', p1, p2, p3⟩ := gl_ n a0 a1 a2 l3 l4 c0 rhs c2 c4 hn.2 Td_ Td_ h4 n.toNat 0 [] Td_ rfl Tt_; refine ⟨rhs, ps', ⟨Td_, Td_⟩, hk, p1, p2, fun k hk => ?_⟩; obtain ⟨k, rfl⟩ : ∃ j, k = j + 2 := ⟨k - 2, Td_⟩; have hm0 := jh_ (l3.length : Int) 3 Td_; have hm1 := ih_ (l3.length : Int) 3 Td_; rw [show k + 2 = (k + 1) + 1 by omega]; simp only [l4_Raw_Make.l0]; rw [rc_ _ 3 Td_ Td_, Option.bind_some, ge_ Td_, if_neg Td_, if_neg Td_]; simp only [l4_Raw_Make.j1, Bool.false_eq_true, if_false]
  exact p3 k Td_
 | succ d ih =>
  intro i rhs hi hl hk; have hm0 := jh_ (l3.length : Int) 3 Td_; have hm1 := ih_ (l3.length : Int) 3 Td_
  obtain ⟨b, hb0, hb⟩ : ∃ b : Bool, (i = 0 → b = true) ∧ ∀ k, l4_Raw_Make.l0 (k + 1) s n i a0 a1 a2 l3 l4 c0 rhs c2 c4 = l4_Raw_Make.j1 k s n i b a0 a1 a2 l3 l4 c0 rhs c2 c4 := by
   by_cases h1 : (i : Int) < 1 + (l3.length : Int) % 3
   ·refine ⟨true, fun _ => rfl, fun k => ?_⟩
    simp only [l4_Raw_Make.l0]; rw [rc_ _ 3 Td_ Td_, Option.bind_some, ge_ Td_, if_pos h1]
   by_cases h2 : (i : Int) < n
   ·refine ⟨(wrap64 (Int.tdiv a1 16) % 2 == 0), fun h => by omega, fun k => ?_⟩
    simp only [l4_Raw_Make.l0]; rw [rc_ _ 3 Td_ Td_, Option.bind_some, ge_ Td_, if_neg h1, if_pos h2, rc_ _ 2 Td_ Td_, Option.bind_some]
   refine ⟨false, fun h => by omega, fun k => ?_⟩; simp only [l4_Raw_Make.l0]; rw [rc_ _ 3 Td_ Td_, Option.bind_some, ge_ Td_, if_neg h1, if_neg h2]
  cases b with
  | false =>
   have hi1 : i ≠ 0 := fun h => by have := hb0 h; cases this
   obtain ⟨ps', p1, p2, p3⟩ := gl_ n a0 a1 a2 l3 l4 c0 rhs c2 c4 hn.2 Td_ Td_ h4 n.toNat 0 [] Td_ rfl Tt_; refine ⟨rhs, ps', ⟨Td_, Td_⟩, hk, p1, p2, fun k hk => ?_⟩; obtain ⟨k, rfl⟩ : ∃ j, k = j + 2 := ⟨k - 2, Td_⟩; rw [show k + 2 = (k + 1) + 1 by omega, hb]; simp only [l4_Raw_Make.j1, Bool.false_eq_true, if_false]
   exact p3 k Td_
  | true =>
   obtain ⟨v, hv⟩ : ∃ v : Int, ∀ k, l4_Raw_Make.j1 (k + 1) s n i true a0 a1 a2 l3 l4 c0 rhs c2 c4 = l4_Raw_Make.j2 k s n i v a0 a1 a2 l3 l4 c0 rhs c2 c4 := by
    by_cases h1 : (i : Int) < (l3.length : Int)
    ·refine ⟨rd l3 i, fun k => ?_⟩
     simp only [l4_Raw_Make.j1, if_true]; rw [if_pos h1, if_pos Td_]
    refine ⟨i, fun k => ?_⟩; simp only [l4_Raw_Make.j1, if_true]; rw [if_neg h1]
   have hw : wrap64 ((i : Int) + 1) = ((i + 1 : Nat) : Int) := by rw [ge_ Td_]; rfl
   obtain ⟨y, hy, hj⟩ : ∃ y : Int, kidOk s y ∧ ∀ k, l4_Raw_Make.j2 (k + 1) s n i v a0 a1 a2 l3 l4 c0 rhs c2 c4 = l4_Raw_Make.l0 k s n ((i + 1 : Nat) : Int) a0 a1 a2 l3 l4 c0 (rhs ++ [y]) c2 c4 := by
    by_cases h1 : wrap64 (Int.tdiv v 20) % 2 = 0
    (focus (obtain ⟨t, ht⟩ := as_fin 11 rfl (jh_ (wrap64 (Int.tdiv v 40)) 11 Td_) (ih_ (wrap64 (Int.tdiv v 40)) 11 Td_); refine ⟨_, .inr (dv_ t), fun k => ?_⟩; simp only [l4_Raw_Make.j2]; rw [rc_ v s Td_ Td_, Option.bind_some, rc_ _ 2 Td_ Td_, Option.bind_some, if_pos h1, Option.bind_some, rc_ _ 11 Td_ Td_, Option.bind_some, ht, if_pos Td_, if_pos (by have := t.isLt; simp; omega), if_pos Td_, hw])); refine ⟨v % s, .inl ⟨jh_ v s Td_, ih_ v s Td_⟩, fun k => ?_⟩; simp only [l4_Raw_Make.j2]; rw [rc_ v s Td_ Td_, Option.bind_some, rc_ _ 2 Td_ Td_, Option.bind_some, if_neg h1, if_pos Td_, hw]
   obtain ⟨rhs', ps', q1, q2, q3, q4, q5⟩ := ih (i + 1) (rhs ++ [y]) Td_ Xc_ (fun z hz => by
    rcases List.mem_append.1 hz with hz | hz
    ·exact hk z hz
    rw [List.mem_singleton.1 hz]; exact hy)
   refine ⟨rhs', ps', q1, q2, q3, q4, fun k hk => ?_⟩; obtain ⟨k, rfl⟩ : ∃ j, k = j + 3 := ⟨k - 3, Td_⟩; rw [show k + 3 = ((k + 1) + 1) + 1 by omega, hb, hv, hj]; exact q5 k Td_
def vq_ (o : Nat) : Int := rd ([1, 3, 2, 2, 2, 2, 3, 1, 1, 2, 1, 1, 2, 2, 2, 2] : List Int) (o : Int)
theorem makeN_ok : ∀ o : Fin 16, (1 ≤ vq_ o.val ∧ vq_ o.val ≤ 3) ∧ (nd_ ((o.val : Nat) : Int)).1 ≤ vq_ o.val ∧ vq_ o.val ≤ (nd_ ((o.val : Nat) : Int)).2 := by decide +kernel
structure Made (s : Int) (r : dc_) : Prop where
 lhs : 0 ≤ r.f0 ∧ r.f0 < s
 len : 1 ≤ r.f1.length ∧ r.f1.length ≤ 3
 kids : ∀ y ∈ r.f1, kidOk s y
 right : yd_ r = true
theorem av_ (x : Raw') (s : Int) (hs : 1 ≤ s ∧ s ≤ 20) (hx : dl_ x) (h3 : x.f3.length ≤ 20) (h4 : x.f4.length ≤ 20) :
  ∃ r : dc_, Made s r ∧ ∀ k, 40 ≤ k → l4_Raw_Make.f k x.f0 x.f1 x.f2 x.f3 x.f4 s = some (r.f0, r.f1, r.f2.f0, r.f2.f1, r.f3) := by
 obtain ⟨_, hw1, _, hw3, _⟩ := hx
 obtain ⟨o, ho⟩ := as_fin 16 rfl (jh_ x.f1 16 Td_) (ih_ x.f1 16 Td_)
 have hn := makeN_ok o
 have hc0 := jh_ x.f2 101 Td_
 have hc1 := ih_ x.f2 101 Td_
 have hl0 := jh_ x.f0 s Td_
 have hl1 := ih_ x.f0 s Td_
 obtain ⟨rhs, ps, p1, p2, p3, p4, p5⟩ := bv_ s (vq_ o.val) x.f0 x.f1 x.f2 x.f3 x.f4 (x.f0 % s) ((o.val : Nat) : Int) (x.f2 % 101) hs hn.1 h3 hw3 h4 hw1 3 0 [] rfl rfl Tt_
 refine ⟨⟨x.f0 % s, rhs, ⟨((o.val : Nat) : Int), ps⟩, x.f2 % 101⟩, ⟨⟨hl0, hl1⟩, p1, p2, ?_⟩, fun k hk => ?_⟩
 ·show hf_ (x.f0 % s) rhs ((o.val : Nat) : Int) ps (x.f2 % 101) = true
  unfold hf_ ze_ hc_; simp only [Bool.and_eq_true, decide_eq_true_eq, List.all_eq_true]; refine ⟨⟨hl0, Td_⟩, ⟨Td_, Td_⟩, fun y hy => ?_, ⟨hc0, Td_⟩, ⟨Td_, Td_⟩, fun p hp => ?_⟩
  ·unfold xe_
   rcases p2 y hy with h | h
   ·rw [decide_eq_true Td_, decide_eq_true Td_]; rfl
   rw [decide_eq_true Td_, decide_eq_true Td_]; rfl
  have h := p4 p hp; unfold me_; rw [decide_eq_true h.1, decide_eq_true h.2]; rfl
 unfold l4_Raw_Make.f
 rw [rc_ x.f0 s Td_ Td_, Option.bind_some, rc_ x.f2 101 Td_ Td_, Option.bind_some, rc_ x.f1 16 Td_ Td_, Option.bind_some, Option.bind_some, ho, if_pos Td_, if_pos (by have := o.isLt; simp; omega)]
 exact p5 k Td_
end
structure Told (s : Int) (out : List dc_) : Prop where
 made : ∀ r ∈ out, Made s r
 check : uc_ out = true
theorem rule_eta (r : dc_) : (⟨r.f0, r.f1, (⟨r.f2.f0, r.f2.f1⟩ : S54), r.f3⟩ : dc_) = r := rfl
theorem vr_ (l : List Raw') (s : Int) (hs : 1 ≤ s ∧ s ≤ 20) (hl : l.length ≤ 80) (hok : ∀ x ∈ l, dl_ x) (hf : ∀ x ∈ l, x.f3.length ≤ 20 ∧ x.f4.length ≤ 20) : ∀ (d i : Nat) (out : List dc_), i + d = l.length → out.length ≤ i → Told s out →
  ∃ res, Told s res ∧ ∀ k, 2 * d + 45 < k → l4_Rules.l0 k l s out i = some res := by
 intro d
 induction d with
 | zero =>
  intro i out hi ho ht; refine ⟨out, ht, fun k hk => ?_⟩; obtain ⟨k, rfl⟩ : ∃ j, k = j + 2 := ⟨k - 2, Td_⟩; rw [show k + 2 = (k + 1) + 1 by omega]; simp only [l4_Rules.l0]; rw [if_neg Td_]
  simp only [l4_Rules.j1, Bool.false_eq_true, if_false]
 | succ d ih =>
  intro i out hi ho ht; have hlt : i < l.length := by omega
  by_cases h20 : (i : Int) < 20
  ·obtain ⟨r, hr, hm⟩ := av_ l[i] s hs (hok _ (List.getElem_mem hlt)) (hf _ (List.getElem_mem hlt)).1 (hf _ (List.getElem_mem hlt)).2
   have hw : wrap64 ((i : Int) + 1) = ((i + 1 : Nat) : Int) := by rw [ge_ Td_]; rfl
   have hmade : ∀ q ∈ out ++ [r], Made s q := by
    intro q hq
    rcases List.mem_append.1 hq with hq | hq
    ·exact ht.made q hq
    rw [List.mem_singleton.1 hq]; exact hr
   have hstep : ∀ k, 45 < k → l4_Rules.l0 (k + 2) l s out i = if uc_ (out ++ [r]) = true then l4_Rules.l0 k l s (out ++ [r]) ((i + 1 : Nat) : Int) else l4_Rules.l0 k l s out ((i + 1 : Nat) : Int) := by
    intro k hk; rw [show k + 2 = (k + 1) + 1 by omega]; simp only [l4_Rules.l0]; rw [if_pos Td_, decide_eq_true h20]; simp only [l4_Rules.j1, if_true, Option.bind_some, List.nil_append, List.length_nil, Nat.zero_add]; rw [if_pos Td_, if_pos Td_, if_pos Td_, zk_ l i hlt, hm k Td_, Option.bind_some]; simp only [rule_eta]; rw [if_pos Td_, hw]; rfl
   cases hc : uc_ (out ++ [r]) with
   | true =>
    obtain ⟨res, h1, h2⟩ := ih (i + 1) (out ++ [r]) Td_ (by rw [List.length_append]; simp; omega) ⟨hmade, hc⟩; refine ⟨res, h1, fun k hk => ?_⟩; obtain ⟨k, rfl⟩ : ∃ j, k = j + 2 := ⟨k - 2, Td_⟩; rw [hstep k Td_, hc, if_pos rfl]
    exact h2 k Td_
   | false =>
    obtain ⟨res, h1, h2⟩ := ih (i + 1) out Td_ Td_ ht; refine ⟨res, h1, fun k hk => ?_⟩; obtain ⟨k, rfl⟩ : ∃ j, k = j + 2 := ⟨k - 2, Td_⟩; rw [hstep k Td_, hc, if_neg Tt_]; exact h2 k Td_
  refine ⟨out, ht, fun k hk => ?_⟩; obtain ⟨k, rfl⟩ : ∃ j, k = j + 2 := ⟨k - 2, Td_⟩; rw [show k + 2 = (k + 1) + 1 by omega]; simp only [l4_Rules.l0]; rw [if_pos Td_, decide_eq_false h20]; simp only [l4_Rules.j1, Bool.false_eq_true, if_false]
theorem it_ : uc_ [] = true := by
 rw [gg_]
 exact ⟨Tt_, rfl, fun x hx => cm_ _ id (fun r hr => by cases hr) x hx⟩
theorem ur_ (l : List Raw') (s : Int) (hs : 1 ≤ s ∧ s ≤ 20) (hl : l.length ≤ 80) (hok : ∀ x ∈ l, dl_ x) (hf : fewB l = true) : ∃ res, Told s res ∧ ∀ k, 300 ≤ k → l4_Rules.f k l s = some res := by
 obtain ⟨res, h1, h2⟩ := vr_ l s hs hl hok (fun x hx => of_decide_eq_true (List.all_eq_true.1 hf x hx)) l.length 0 [] Td_ (Nat.le_refl _) ⟨fun r hr => (by cases hr), it_⟩
 exact ⟨res, h1, fun k hk => h2 k Td_⟩
abbrev Loc5 := S44
abbrev Ent5 := S46
def zf_ : List Ent5 := [(⟨(⟨#[106, 97, 110]⟩ : BA), 1, 1⟩ : Ent5), (⟨(⟨#[102, 101, 98, 114, 117, 97, 114, 121]⟩ : BA), 1, 2⟩ : Ent5), (⟨(⟨#[109, 97, 121]⟩ : BA), 1, 5⟩ : Ent5), (⟨(⟨#[100, 101, 99]⟩ : BA), 1, 12⟩ : Ent5), (⟨(⟨#[109, 111, 110, 100, 97, 121]⟩ : BA), 2, 0⟩ : Ent5), (⟨(⟨#[102, 114, 105, 100, 97, 121]⟩ : BA), 2, 4⟩ : Ent5), (⟨(⟨#[100, 97, 121]⟩ : BA), 3, 1⟩ : Ent5), (⟨(⟨#[100, 97, 121, 115]⟩ : BA), 3, 1⟩ : Ent5), (⟨(⟨#[119, 101, 101, 107]⟩ : BA), 3, 2⟩ : Ent5), (⟨(⟨#[109, 111, 110, 116, 104, 115]⟩ : BA), 3, 3⟩ : Ent5), (⟨(⟨#[97, 103, 111]⟩ : BA), 4, (-1)⟩ : Ent5), (⟨(⟨#[104, 101, 110, 99, 101]⟩ : BA), 4, 1⟩ : Ent5), (⟨(⟨#[97, 109]⟩ : BA), 5, 0⟩ : Ent5), (⟨(⟨#[112, 109]⟩ : BA), 5, 1⟩ : Ent5), (⟨(⟨#[101, 117, 114]⟩ : BA), 6, 9782⟩ : Ent5), (⟨(⟨#[226, 130, 172]⟩ : BA), 6, 9782⟩ : Ent5), (⟨(⟨#[121, 101, 110]⟩ : BA), 6, 3920⟩ : Ent5), (⟨(⟨#[115]⟩ : BA), 7, 1⟩ : Ent5), (⟨(⟨#[109, 105, 110]⟩ : BA), 7, 60⟩ : Ent5), (⟨(⟨#[104]⟩ : BA), 7, 3600⟩ : Ent5), (⟨(⟨#[116, 111]⟩ : BA), 8, 0⟩ : Ent5), (⟨(⟨#[97]⟩ : BA), 9, 1⟩ : Ent5)]
def maiP : Ent5 := ⟨⟨#[109, 97, 105]⟩, 1, 5⟩
def baseL : Loc5 := ⟨⟨#[98, 97, 115, 101]⟩, -1, 0, zf_, xd_, ff_⟩
def enL (o : Int) : Loc5 := ⟨⟨#[101, 110]⟩, 0, 0, [], lf_ o, []⟩
def arL (d : Int) : Loc5 := ⟨⟨#[97, 114, 45, 49]⟩, 1, d, [maiP], [], []⟩
def ud_ : List ByteArray := [⟨#[111, 110, 101]⟩, ⟨#[120, 32, 121]⟩, ⟨#[195, 164]⟩, ⟨#[55, 117, 112]⟩, ⟨#[45]⟩]
def xL (d : Int) (s : BA) (c v : Int) (R : List S56) : Loc5 := ⟨⟨#[120]⟩, -1, d, [⟨s, c, v⟩, ⟨⟨#[116, 119, 111]⟩, 2, 2⟩], R, []⟩
def wa_ (o d : Int) : List Loc5 := [baseL, enL o, arL d]
theorem texts_ok : ∀ i : Fin 5, ie_ (⟨rdOf ByteArray.empty ud_ ((i : Nat) : Int), 1, 1⟩ : Ent5) = true := by decide +kernel
structure XOk (o d : Int) (m : List Loc5) : Prop where
 ord : 0 ≤ o ∧ o < 3
 dig : 0 ≤ d ∧ d < 4
 tail : m = [] ∨ ∃ s c v R, m = [xL d s c v R] ∧ ie_ (⟨s, 1, 1⟩ : Ent5) = true ∧ (1 ≤ c ∧ c ≤ 3) ∧ (-5 ≤ v ∧ v ≤ 94) ∧ Told 6 R
theorem sv_ (o : Int) (h : 0 ≤ o ∧ o < 3) : chkS (xd_ ++ lf_ o) = true := by
 obtain ⟨n, rfl⟩ := Int.eq_ofNat_of_zero_le h.1
 exact dates_ok ⟨n, Td_⟩
abbrev ck_ (m : List Loc5) : Prop := m = [] ∨ ∃ x, m = [x]
theorem r1 (o d : Int) (m : List Loc5) (hm : ck_ m) : jd_ (wa_ o d ++ m) 1 = xd_ ++ (lf_ o ++ []) := by rcases hm with rfl | ⟨x, rfl⟩ <;> rfl
theorem r2 (o d : Int) (m : List Loc5) (hm : ck_ m) : jd_ (wa_ o d ++ m) 2 = xd_ ++ (lf_ o ++ ([] ++ [])) := by rcases hm with rfl | ⟨x, rfl⟩ <;> rfl
theorem XOk.one {o d : Int} {m : List Loc5} (h : XOk o d m) : ck_ m := by
 rcases h.tail with rfl | ⟨s, c, v, R, rfl, _⟩
 ·exact .inl rfl
 exact .inr ⟨_, rfl⟩
theorem ne_ids : ((⟨#[98, 97, 115, 101]⟩ : BA).toList == (⟨#[101, 110]⟩ : BA).toList) = false ∧ ((⟨#[98, 97, 115, 101]⟩ : BA).toList == (⟨#[97, 114, 45, 49]⟩ : BA).toList) = false ∧ ((⟨#[101, 110]⟩ : BA).toList == (⟨#[97, 114, 45, 49]⟩ : BA).toList) = false ∧ ((⟨#[98, 97, 115, 101]⟩ : BA).toList == (⟨#[120]⟩ : BA).toList) = false ∧ ((⟨#[101, 110]⟩ : BA).toList == (⟨#[120]⟩ : BA).toList) = false ∧ ((⟨#[97, 114, 45, 49]⟩ : BA).toList == (⟨#[120]⟩ : BA).toList) = false := by decide +kernel
def okIB (n : Int) : Bool := decide (-9223372036854775808 ≤ n) && decide (n ≤ 9223372036854775807)
def entB (e : Ent5) : Bool := decide (e.f0.size ≤ 1000) && (okIB e.f1 && okIB e.f2)
def ho_ (l : List Int) : Bool := decide (l.length ≤ 1000) && l.all okIB
def vn_ (r : S56) : Bool := okIB r.f0 && (ho_ r.f1 && (okIB r.f2.f0 && (ho_ r.f2.f1 && okIB r.f3)))
def prtB (x : S48) : Bool := okIB x.f0 && (decide (x.f1.size ≤ 1000) && (okIB x.f2 && (okIB x.f3 && okIB x.f4)))
def styB (x : S52) : Bool := okIB x.f0 && (decide (x.f1.length ≤ 1000) && x.f1.all prtB)
def locB (x : Loc5) : Bool := decide (x.f0.size ≤ 1000000) && (okIB x.f1 && (okIB x.f2 && (decide (x.f3.length ≤ 1000) && (x.f3.all entB && (decide (x.f4.length ≤ 1000) && (x.f4.all vn_ && (decide (x.f5.length ≤ 1000) && x.f5.all styB)))))))
theorem re_ {n : Int} (h : okIB n = true) : okI n := by
 unfold okIB at h
 simp only [Bool.and_eq_true, decide_eq_true_eq] at h
 exact h
theorem du_ {α : Type} {enc : α → List Int} {b : Nat} : ∀ (l : List α), (∀ x ∈ l, (enc x).length ≤ b) → (l.flatMap enc).length ≤ b * l.length
 | [], _ => Nat.zero_le _
 | x :: l, h => by
  have h1 := h x List.mem_cons_self; have h2 := du_ l (fun y hy => h y (List.mem_cons_of_mem _ hy)); rw [List.flatMap_cons, List.length_append, List.length_cons, Nat.mul_add]; omega
theorem vj_ {α : Type} {enc : α → List Int} {b n : Nat} (l : List α) (hl : l.length ≤ n) (h : ∀ x ∈ l, (enc x).length ≤ b) : (pb_ enc l).length ≤ 8 + b * n := by
 have h1 := du_ l h
 have h2 : b * l.length ≤ b * n := Nat.mul_le_mul_left b hl
 unfold pb_
 rw [List.length_append, sa_]
 show 8 * 1 + _ ≤ _
 omega
theorem fu_ {e : Ent5} (h : entB e = true) : okEnt e ∧ (ent8 e).length ≤ 1024 := by
 unfold entB at h
 simp only [Bool.and_eq_true, decide_eq_true_eq] at h
 refine ⟨⟨Td_, re_ h.2.1, re_ h.2.2⟩, ?_⟩
 unfold ent8
 rw [List.length_append, ac_, sa_]
 show _ + 8 * 2 ≤ _
 omega
theorem dr_ {l : List Int} (h : ho_ l = true) : is_ l ∧ (vc_ l).length ≤ 8008 := by
 unfold ho_ at h
 simp only [Bool.and_eq_true, decide_eq_true_eq, List.all_eq_true] at h
 refine ⟨⟨Td_, fun n hn => re_ (h.2 n hn)⟩, ?_⟩
 unfold vc_
 rw [List.length_append, sa_, sa_]
 show 8 * 1 + _ ≤ _
 omega
theorem bq_ {r : S56} (h : vn_ r = true) : okRule r ∧ (fc_ r).length ≤ 20000 := by
 unfold vn_ at h
 simp only [Bool.and_eq_true] at h
 have h1 := dr_ h.2.1
 have h2 := dr_ h.2.2.2.1
 refine ⟨⟨re_ h.1, h1.1, re_ h.2.2.1, h2.1, re_ h.2.2.2.2⟩, ?_⟩
 unfold fc_
 simp only [List.length_append, sa_]
 show 8 * 1 + _ + 8 * 1 + _ + 8 * 1 ≤ _
 omega
theorem tt_ {x : S48} (h : prtB x = true) : okPart x ∧ (lc_ x).length ≤ 2000 := by
 unfold prtB at h
 simp only [Bool.and_eq_true, decide_eq_true_eq] at h
 refine ⟨⟨re_ h.1, Td_, re_ h.2.2.1, re_ h.2.2.2.1, re_ h.2.2.2.2⟩, ?_⟩
 unfold lc_
 simp only [List.length_append, sa_, ac_]
 show 8 * 1 + _ + 8 * 3 ≤ _
 omega
theorem ot_ {x : S52} (h : styB x = true) : vt_ x ∧ (mb_ x).length ≤ 2000016 := by
 unfold styB at h
 simp only [Bool.and_eq_true, decide_eq_true_eq, List.all_eq_true] at h
 refine ⟨⟨re_ h.1, Td_, fun y hy => (tt_ (h.2.2 y hy)).1⟩, ?_⟩
 have h1 := vj_ (enc := lc_) x.f1 h.2.1 (fun y hy => (tt_ (h.2.2 y hy)).2)
 unfold mb_
 rw [List.length_append, sa_]
 show 8 * 1 + _ ≤ _
 omega
theorem locB_ok {x : Loc5} (h : locB x = true) : okLoc8 x ∧ (loc8 x).length ≤ 3000000000 ∧ x.f0.size ≤ 1000000000000 ∧ x.f4.length ≤ 1000000 := by
 unfold locB at h
 simp only [Bool.and_eq_true, decide_eq_true_eq] at h
 obtain ⟨h0, h1, h2, h3, h4, h5, h6, h7, h8⟩ := h
 rw [List.all_eq_true] at h4 h6 h8
 refine ⟨⟨Td_, re_ h1, re_ h2, ⟨Td_, fun y hy => (fu_ (h4 y hy)).1⟩, ⟨Td_, fun y hy => (bq_ (h6 y hy)).1⟩, ⟨Td_, fun y hy => (ot_ (h8 y hy)).1⟩⟩, ?_, Td_, Td_⟩
 have e3 := vj_ (enc := ent8) x.f3 h3 (fun y hy => (fu_ (h4 y hy)).2)
 have e4 := vj_ (enc := fc_) x.f4 h5 (fun y hy => (bq_ (h6 y hy)).2)
 have e5 := vj_ (enc := mb_) x.f5 h7 (fun y hy => (ot_ (h8 y hy)).2)
 unfold loc8
 simp only [List.length_append, sa_, ac_]
 show _ + 8 * 2 + _ + _ + _ ≤ _
 omega
theorem asked_le {op : Int} {n : Nat} (h : hc_ (n : Int) (nd_ op).1 (nd_ op).2 = true) : 0 ≤ op ∧ op ≤ 15 ∧ n ≤ 6 := by
 unfold hc_ at h
 rw [Bool.and_eq_true, decide_eq_true_eq, decide_eq_true_eq] at h
 revert h
 unfold nd_
 repeat' split
 all_goals (intro h; simp only at h; omega)
theorem dq_ {r : dc_} (h : yd_ r = true) : vn_ r = true := by
 have h' : hf_ r.f0 r.f1 r.f2.f0 r.f2.f1 r.f3 = true := h
 unfold hf_ at h'
 simp only [Bool.and_eq_true, List.all_eq_true] at h'
 obtain ⟨h0, h1, h2, h3, h4, h5⟩ := h'
 have ha := asked_le h4
 unfold ze_ at h0
 unfold hc_ at h1 h3
 simp only [Bool.and_eq_true, decide_eq_true_eq] at h0 h1 h3
 unfold vn_ ho_ okIB
 simp only [Bool.and_eq_true, decide_eq_true_eq, List.all_eq_true]
 refine ⟨⟨Td_, Td_⟩, ⟨Td_, fun y hy => ?_⟩, ⟨Td_, Td_⟩, ⟨Td_, fun y hy => ?_⟩, ⟨Td_, Td_⟩⟩
 ·have h := h2 y hy
  unfold xe_ at h; simp only [Bool.and_eq_true, decide_eq_true_eq] at h; exact ⟨Td_, Td_⟩
 have h := h5 y hy
 unfold me_ at h
 simp only [Bool.and_eq_true, decide_eq_true_eq] at h
 exact ⟨Td_, Td_⟩
theorem base_B : locB baseL = true := by decide +kernel
theorem en_B : ∀ o : Fin 3, locB (enL ((o : Nat) : Int)) = true := by decide +kernel
theorem ar_B : ∀ d : Fin 4, locB (arL ((d : Nat) : Int)) = true := by decide +kernel
theorem ent_size {s : ByteArray} (h : ie_ (⟨s, 1, 1⟩ : Ent5) = true) : s.size ≤ 20 := by
 unfold ie_ at h
 rw [Bool.and_eq_true] at h
 have h := h.1
 unfold ib_ at h
 simp only [Bool.and_eq_true, decide_eq_true_eq] at h
 omega
theorem all_B {o d : Int} {m : List Loc5} (h : XOk o d m) : ∀ x ∈ wa_ o d ++ m, locB x = true := by
 intro x hx
 rcases List.mem_append.1 hx with hx | hx
 ·rcases List.mem_cons.1 hx with rfl | hx
  ·exact base_B
  rcases List.mem_cons.1 hx with rfl | hx
  ·obtain ⟨n, rfl⟩ := Int.eq_ofNat_of_zero_le h.ord.1
   exact en_B ⟨n, by have := h.ord.2; omega⟩
  rcases List.mem_cons.1 hx with rfl | hx
  ·obtain ⟨n, rfl⟩ := Int.eq_ofNat_of_zero_le h.dig.1
   exact ar_B ⟨n, by have := h.dig.2; omega⟩
  cases hx
 rcases h.tail with rfl | ⟨s, c, v, R, rfl, he, hc, hv, ht⟩
 ·cases hx
 rw [List.mem_singleton] at hx
 subst hx
 have hle := (gg_ R).1 ht.check
 have hs := ent_size he
 have hd := h.dig
 unfold locB xL entB okIB
 simp only [Bool.and_eq_true, decide_eq_true_eq, List.all_cons, List.all_nil, List.length_cons, List.length_nil]
 refine ⟨by show 1 ≤ _; omega, ⟨Td_, Td_⟩, ⟨Td_, Td_⟩, Td_, ⟨⟨Td_, ⟨Td_, Td_⟩, ⟨Td_, Td_⟩⟩, ⟨by show 3 ≤ _; omega, ⟨Td_, Td_⟩, ⟨Td_, Td_⟩⟩, trivial⟩, Td_, ?_, Td_, trivial⟩
 rw [List.all_eq_true]
 exact fun r hr => dq_ (ht.made r hr).right
theorem em_ {o d : Int} {m : List Loc5} (h : XOk o d m) : (wa_ o d ++ m).length ≤ 4 := by
 rcases h.tail with rfl | ⟨s, c, v, R, rfl, he, hc, hv, ht⟩
 ·show 3 ≤ 4
  omega
 show 4 ≤ 4
 omega
theorem yp_ (o d : Int) : l5_Sample.f o d = some (wa_ (o % 3) (d % 4)) := by
 unfold l5_Sample.f
 rw [sh_ d 4 Td_ Td_]
 rfl
theorem ov_ (a0 a1 a2 a3 : Int) (l : List Raw') (b : Bool) (hl : l.length ≤ 9223372036854775807) (k : Nat) (hk : l.length < k) : l5_Shape_Few.f k a0 a1 a2 a3 l b = some (fewB l && decide (l.length ≤ 12)) := by
 unfold l5_Shape_Few.f
 rw [few_some l hl k hk, Option.bind_some]
 have e : decide ((l.length : Int) ≤ 12) = decide (l.length ≤ 12) := decide_eq_decide.2 Td_
 rw [e]
 cases fewB l with
 | false => rfl
 | true =>
  by_cases h : l.length ≤ 12
  ·rw [decide_eq_true h, decide_eq_true (by omega : l.length ≤ 80)]; rfl
  rw [decide_eq_false h]
  split <;> rfl
end Go.Proofs.YtiocgaekoeekgaaGreat.P
end
section
namespace Go.Proofs.YtiocgaekoeekgaaGreat.P
open Go.RowKit YtiocgaekoeekgaaGreatW.PrintWords YtiocgaekoeekgaaGreatW.PrintLast YtiocgaekoeekgaaGreatW.PrintMore
attribute [local go_sem] ub_ rb_ cc_ bc_ kb_ jb_ tb_ qb_   
set_option linter.unusedVariables false
set_option linter.unusedSimpArgs false
attribute [local go_sem] Oper.semAt_some
def atP (l : List S44) : Nat → Nat → S44
 | 0, i => pa_ l (i : Int)
 | n + 1, i => if (pa_ l (i : Int)).f1 < 0 then pa_ l (i : Int) else ⟨(pa_ l (i : Int)).f0, (pa_ l (i : Int)).f1, (pa_ l (i : Int)).f2, (atP l n (pa_ l (i : Int)).f1.toNat).f3 ++ (pa_ l (i : Int)).f3, (atP l n (pa_ l (i : Int)).f1.toNat).f4 ++ (pa_ l (i : Int)).f4, (atP l n (pa_ l (i : Int)).f1.toNat).f5 ++ (pa_ l (i : Int)).f5⟩
def fj_ (l : List S44) : Nat → Nat → Prop
 | 0, _ => False
 | n + 1, i => i < l.length ∧ ((pa_ l (i : Int)).f1 < 0 ∨ (0 ≤ (pa_ l (i : Int)).f1 ∧ fj_ l n (pa_ l (i : Int)).f1.toNat))
def OK (s r gp k : Nat) : Prop := k < s ∨ (r + 2 ≤ k ∧ k ≠ gp)
def AtR (s : Nat) (w : World) (x : S44) (e : Ending) (w' : World) : Prop := ∃ A3 c3 A4 c4 A5 c5, e = .returned (.agg #[.string x.f0, .int .i64 x.f1, .int .i64 x.f2, .slice A3 x.f3.length c3, .slice A4 x.f4.length c4, .slice A5 x.f5.length c5]) ∧ (Kd.F k46 w' (fun k => k < s ∨ w.heap.size ≤ k) A3 x.f3.length x.f3 ∧ x.f3.length ≤ c3) ∧ (Kd.F k56 w' (fun k => k < s ∨ w.heap.size ≤ k) A4 x.f4.length x.f4 ∧ x.f4.length ≤ c4) ∧ (Kd.F k52 w' (fun k => k < s ∨ w.heap.size ≤ k) A5 x.f5.length x.f5 ∧ x.f5.length ≤ c5) ∧ Below w.heap.size w w'
theorem at5_w (l : List S44) (A : Option Addr) (c : Nat) (ws : World) (hr : Kd.C k44 ws A l.length l) (hc : l.length ≤ c) (hlen : ∀ n i, (atP l n i).f3.length ≤ 100000 ∧ (atP l n i).f4.length ≤ 100000 ∧ (atP l n i).f5.length ≤ 100000) : ∀ (n i : Nat) (w : World), Below ws.heap.size ws w → fj_ l n i →
  Calls Tryz.prog 55 #[.slice A l.length c, .int .i64 i] w fun e w' => AtR ws.heap.size w (atP l n i) e w' := by
 intro n
 induction n with
 | zero => intro i w hb hch; exact hch.elim
 | succ n ih =>
  intro i w hb hch; obtain ⟨hi, hp⟩ := hch; have hiz : (i : Int) < (l.length : Int) := by omega
  have hi0 : (0 : Int) ≤ (i : Int) := by omega
  have hbn := hr.2.1; obtain ⟨ad, X3, d3, X4, d4, X5, d5, hA, e0, e1, e2, e3, e4, e5, k3, g3, k4, g4, k5, g5⟩ := tf_ hr (i : Int) hi0 hiz; subst hA; rw [Int.toNat_natCast] at e0 e1 e2 e3 e4 e5; have hlx : (pa_ l (i : Int)).f3.length ≤ 100000 ∧ (pa_ l (i : Int)).f4.length ≤ 100000 ∧ (pa_ l (i : Int)).f5.length ≤ 100000 := hlen 0 i; have hX : atP l (n + 1) i = if (pa_ l (i : Int)).f1 < 0 then pa_ l (i : Int) else ⟨(pa_ l (i : Int)).f0, (pa_ l (i : Int)).f1, (pa_ l (i : Int)).f2, (atP l n (pa_ l (i : Int)).f1.toNat).f3 ++ (pa_ l (i : Int)).f3, (atP l n (pa_ l (i : Int)).f1.toNat).f4 ++ (pa_ l (i : Int)).f4, (atP l n (pa_ l (i : Int)).f1.toNat).f5 ++ (pa_ l (i : Int)).f5⟩ := rfl; have HX := aM_ hX; have HF3 := aM_ (Kd.F_below (Kd.C_F k46_heap g3) hb); have HF4 := aM_ (Kd.F_below (Kd.C_F br_ g4) hb); have HF5 := aM_ (Kd.F_below (Kd.C_F k52_heap g5) hb); have HK3 := aM_ k3; have HK4 := aM_ k4; have HK5 := aM_ k5; have HLX := aM_ hlx; have HBW := aM_ hb; have HLE := aM_ hlen; have HIH := aM_ ih; clear hX hlx g3 g4 g5 k3 k4 k5 ih; generalize (atP l (n + 1) i) = Y at *; generalize hx0 : (pa_ l (i : Int)).f0 = x0 at *; generalize hx1 : (pa_ l (i : Int)).f1 = x1 at *; generalize hx2 : (pa_ l (i : Int)).f2 = x2 at *; generalize hx3 : (pa_ l (i : Int)).f3 = x3 at *; generalize hx4 : (pa_ l (i : Int)).f4 = x4 at *; generalize hx5 : (pa_ l (i : Int)).f5 = x5 at *; have HXX : Az (pa_ l (i : Int) = ⟨x0, x1, x2, x3, x4, x5⟩) := ⟨by subst hx0 hx1 hx2 hx3 hx4 hx5; rfl⟩; generalize pa_ l (i : Int) = xx at *; clear hx0 hx1 hx2 hx3 hx4 hx5; have hba := aa_ (Below.refl w.heap.size w) (.cells #[.string ⟨#[]⟩, .int .i64 0, .int .i64 0, .slice none 0 0, .slice none 0 0, .slice none 0 0] 44); have hbz := da_ hb hba; have a0 := fa_ hbz e0; have a1 := fa_ hbz e1; have a2 := fa_ hbz e2; have a3 := fa_ hbz e3; have a4 := fa_ hbz e4; have a5 := fa_ hbz e5; have HZ0 := aM_ (oa_ w (.cells #[.string ⟨#[]⟩, .int .i64 0, .int .i64 0, .slice none 0 0, .slice none 0 0, .slice none 0 0] 44)); have HZB := aM_ hba; have hu1 := Tryz.underlying44; clear hb hba hbz e0 e1 e2 e3 e4 e5; have HXB := aM_ (oa_ (w.alloc (.cells #[.string ⟨#[]⟩, .int .i64 0, .int .i64 0, .slice none 0 0, .slice none 0 0, .slice none 0 0] 44)) (.cells #[.string x0, .int .i64 x1, .int .i64 x2, .slice X3 x3.length d3, .slice X4 x4.length d4, .slice X5 x5.length d5] 44)); have HXA := aM_ (aa_ (Below.refl (w.alloc (.cells #[.string ⟨#[]⟩, .int .i64 0, .int .i64 0, .slice none 0 0, .slice none 0 0, .slice none 0 0] 44)).heap.size (w.alloc (.cells #[.string ⟨#[]⟩, .int .i64 0, .int .i64 0, .slice none 0 0, .slice none 0 0, .slice none 0 0] 44))) (.cells #[.string x0, .int .i64 x1, .int .i64 x2, .slice X3 x3.length d3, .slice X4 x4.length d4, .slice X5 x5.length d5] 44))
  have hsz : (w.alloc (.cells #[.string ⟨#[]⟩, .int .i64 0, .int .i64 0, .slice none 0 0, .slice none 0 0, .slice none 0 0] 44)).heap.size = w.heap.size + 1 := by simp
  rw [hsz] at HXB
  by_cases hneg : x1 < 0
  ·have hd : decide (x1 < 0) = true := decide_eq_true hneg
   have HZ1 := aM_ (la_ HZ0.out HXA.out); have hb0 := ba_ HZ1.out 0; have hf0 := ha_ HZ1.out 0; have hb1 := ba_ HZ1.out 1; have hf1 := ha_ HZ1.out 1; have hb2 := ba_ HZ1.out 2; have hf2 := ha_ HZ1.out 2; have hb3 := ba_ HZ1.out 3; have hf3 := ha_ HZ1.out 3; have hb4 := ba_ HZ1.out 4; have hf4 := ha_ HZ1.out 4; have hb5 := ba_ HZ1.out 5; have hf5 := ha_ HZ1.out 5
   go_enter Tryz.func55, Tryz.ntmps55
   go_wp2_with fail
   have hb7 : ((w.alloc (.cells #[.string x0, .int .i64 x1, .int .i64 x2, .slice X3 x3.length d3, .slice X4 x4.length d4, .slice X5 x5.length d5] 44)).alloc (.cells #[.string x0, .int .i64 x1, .int .i64 x2, .slice X3 x3.length d3, .slice X4 x4.length d4, .slice X5 x5.length d5] 44)).heap[w.heap.size]? = some (.cells #[.string x0, .int .i64 x1, .int .i64 x2, .slice X3 x3.length d3, .slice X4 x4.length d4, .slice X5 x5.length d5] 44 (0, 0)) := la_ (oa_ w _) (aa_ (Below.refl _ _) _); have hv := aa_ (aa_ (Below.refl w.heap.size w) (.cells #[.string x0, .int .i64 x1, .int .i64 x2, .slice X3 x3.length d3, .slice X4 x4.length d4, .slice X5 x5.length d5] 44)) (.cells #[.string x0, .int .i64 x1, .int .i64 x2, .slice X3 x3.length d3, .slice X4 x4.length d4, .slice X5 x5.length d5] 44); have hg3 := Kd.F_mono (Kd.F_below HF3.out hv) (fun q hq => (Or.inl hq : q < ws.heap.size ∨ w.heap.size ≤ q)); have hg4 := Kd.F_mono (Kd.F_below HF4.out hv) (fun q hq => (Or.inl hq : q < ws.heap.size ∨ w.heap.size ≤ q)); have hg5 := Kd.F_mono (Kd.F_below HF5.out hv) (fun q hq => (Or.inl hq : q < ws.heap.size ∨ w.heap.size ≤ q)); have hY : Y = ⟨x0, x1, x2, x3, x4, x5⟩ := by rw [HX.out, if_pos hneg, HXX.out]
   refine bodyPost_ret (results_cell_row rfl _ _ w.heap.size 44 #[.string x0, .int .i64 x1, .int .i64 x2, .slice X3 x3.length d3, .slice X4 x4.length d4, .slice X5 x5.length d5] (0, 0) _ rfl hb7 Tryz.underlying44 rfl Ti_) rfl ?_; rw [hY]; exact ⟨_, _, _, _, _, _, rfl, ⟨hg3, HK3.out⟩, ⟨hg4, HK4.out⟩, ⟨hg5, HK5.out⟩, hv⟩
  have hd : decide (x1 < 0) = false := decide_eq_false hneg; obtain ⟨hp0, hpc⟩ := hp.resolve_left hneg; obtain ⟨m, hm⟩ := Int.eq_ofNat_of_zero_le hp0; subst hm; have hm2 : ((m : Int)).toNat = m := Int.toNat_natCast m; have hY := HX.out; rw [if_neg hneg] at hY; rw [hm2] at hpc hY; have HZ1 := aM_ (la_ HZ0.out HXA.out); have HV := aM_ (da_ HZB.out HXA.out); have HRC := HIH.out m ((w.alloc (.cells #[.string ⟨#[]⟩, .int .i64 0, .int .i64 0, .slice none 0 0, .slice none 0 0, .slice none 0 0] 44)).alloc (.cells #[.string x0, .int .i64 m, .int .i64 x2, .slice X3 x3.length d3, .slice X4 x4.length d4, .slice X5 x5.length d5] 44)) (da_ HBW.out HV.out) hpc; have HRC := aM_ HRC; have HLP := aM_ (HLE.out n m); have hVs : ((w.alloc (.cells #[.string ⟨#[]⟩, .int .i64 0, .int .i64 0, .slice none 0 0, .slice none 0 0, .slice none 0 0] 44)).alloc (.cells #[.string x0, .int .i64 m, .int .i64 x2, .slice X3 x3.length d3, .slice X4 x4.length d4, .slice X5 x5.length d5] 44)).heap.size = w.heap.size + 2 := by simp
  generalize hpp : atP l n m = p at *; obtain ⟨p0, p1, p2, p3, p4, p5⟩ := p; simp only at hY; have HY := aM_ hY; clear hY hm2 hpc hp hp0 HX HIH HLE hpp hneg HZ0 HZB HXA
  go_enter Tryz.func55, Tryz.ntmps55
  go_wp2_with fail
  have HVS := aM_ hVs; clear hVs a0 a1 a2 a3 a4 a5 hsz; generalize (w.alloc (.cells #[.string ⟨#[]⟩, .int .i64 0, .int .i64 0, .slice none 0 0, .slice none 0 0, .slice none 0 0] 44)).alloc (.cells #[.string x0, .int .i64 m, .int .i64 x2, .slice X3 x3.length d3, .slice X4 x4.length d4, .slice X5 x5.length d5] 44) = V at *; refine HRC.out.mono ?_; rintro e W6 ⟨P3, q3, P4, q4, P5, q5, rfl, ⟨f3, l3⟩, ⟨f4, l4⟩, ⟨f5, l5⟩, hb⟩; simp only at f3 f4 f5 l3 l4 l5; have hsw := HBW.out.size; have hvs := HVS.out; have hgpz : w.heap.size + 2 ≤ W6.heap.size := by rw [← hvs]; exact hb.size
  have hba := aa_ (Below.refl W6.heap.size W6) (.cells #[.string p0, .int .i64 p1, .int .i64 p2, .slice P3 p3.length q3, .slice P4 p4.length q4, .slice P5 p5.length q5] 44); have hal : (W6.alloc (.cells #[.string p0, .int .i64 p1, .int .i64 p2, .slice P3 p3.length q3, .slice P4 p4.length q4, .slice P5 p5.length q5] 44)).heap.size = W6.heap.size + 1 := by simp
  have hpx : ∀ q, ((q < ws.heap.size ∨ V.heap.size ≤ q) ∧ q < W6.heap.size) → OK ws.heap.size w.heap.size W6.heap.size q ∧ q < (W6.alloc (.cells #[.string p0, .int .i64 p1, .int .i64 p2, .slice P3 p3.length q3, .slice P4 p4.length q4, .slice P5 p5.length q5] 44)).heap.size := fun q hq => by
   unfold OK; rw [hal]; have h1 := hq.1; have h2 := hq.2; omega
  have hxx : ∀ q, q < ws.heap.size → OK ws.heap.size w.heap.size W6.heap.size q ∧ q < (W6.alloc (.cells #[.string p0, .int .i64 p1, .int .i64 p2, .slice P3 p3.length q3, .slice P4 p4.length q4, .slice P5 p5.length q5] 44)).heap.size := fun q hq => by
   unfold OK; rw [hal]; omega
  have HFP3 := aM_ (Kd.F_below (Kd.F_mono (ok' := fun k => OK ws.heap.size w.heap.size W6.heap.size k ∧ k < (W6.alloc (.cells #[.string p0, .int .i64 p1, .int .i64 p2, .slice P3 p3.length q3, .slice P4 p4.length q4, .slice P5 p5.length q5] 44)).heap.size) (Kd.F_bound f3) hpx) hba); have HFP4 := aM_ (Kd.F_below (Kd.F_mono (ok' := fun k => OK ws.heap.size w.heap.size W6.heap.size k ∧ k < (W6.alloc (.cells #[.string p0, .int .i64 p1, .int .i64 p2, .slice P3 p3.length q3, .slice P4 p4.length q4, .slice P5 p5.length q5] 44)).heap.size) (Kd.F_bound f4) hpx) hba); have HFP5 := aM_ (Kd.F_below (Kd.F_mono (ok' := fun k => OK ws.heap.size w.heap.size W6.heap.size k ∧ k < (W6.alloc (.cells #[.string p0, .int .i64 p1, .int .i64 p2, .slice P3 p3.length q3, .slice P4 p4.length q4, .slice P5 p5.length q5] 44)).heap.size) (Kd.F_bound f5) hpx) hba); have hbw := da_ (da_ HV.out hb) hba; have HFX3 := aM_ (Kd.F_mono (ok' := fun k => OK ws.heap.size w.heap.size W6.heap.size k ∧ k < (W6.alloc (.cells #[.string p0, .int .i64 p1, .int .i64 p2, .slice P3 p3.length q3, .slice P4 p4.length q4, .slice P5 p5.length q5] 44)).heap.size) (Kd.F_below HF3.out hbw) hxx); have HFX4 := aM_ (Kd.F_mono (ok' := fun k => OK ws.heap.size w.heap.size W6.heap.size k ∧ k < (W6.alloc (.cells #[.string p0, .int .i64 p1, .int .i64 p2, .slice P3 p3.length q3, .slice P4 p4.length q4, .slice P5 p5.length q5] 44)).heap.size) (Kd.F_below HF4.out hbw) hxx); have HFX5 := aM_ (Kd.F_mono (ok' := fun k => OK ws.heap.size w.heap.size W6.heap.size k ∧ k < (W6.alloc (.cells #[.string p0, .int .i64 p1, .int .i64 p2, .slice P3 p3.length q3, .slice P4 p4.length q4, .slice P5 p5.length q5] 44)).heap.size) (Kd.F_below HF5.out hbw) hxx); have HPB := aM_ (oa_ W6 (.cells #[.string p0, .int .i64 p1, .int .i64 p2, .slice P3 p3.length q3, .slice P4 p4.length q4, .slice P5 p5.length q5] 44)); have HZP := aM_ (la_ HZ1.out (da_ hb hba)); have HBX := aM_ (la_ HXB.out (da_ hb hba)); have HBWB := aM_ hbw; have HFR : Az (∀ k, (W6.alloc (.cells #[.string p0, .int .i64 p1, .int .i64 p2, .slice P3 p3.length q3, .slice P4 p4.length q4, .slice P5 p5.length q5] 44)).heap.size ≤ k → OK ws.heap.size w.heap.size W6.heap.size k) := ⟨fun k hk => by unfold OK; rw [hal] at hk; omega⟩; have HGE : Az (w.heap.size ≤ w.heap.size + 1 ∧ w.heap.size + 1 = w.heap.size + 1 ∧ W6.heap.size ≠ w.heap.size + 1 ∧ ws.heap.size ≤ w.heap.size) := ⟨Td_⟩; clear f3 f4 f5 l3 l4 l5 hb hba hal hpx hxx hbw hsw hvs hgpz HF3 HF4 HF5 HRC HZ1 HXB HV HVS
  go_wp2_with fail
  generalize W6.alloc (.cells #[.string p0, .int .i64 p1, .int .i64 p2, .slice P3 p3.length q3, .slice P4 p4.length q4, .slice P5 p5.length q5] 44) = WB at *; generalize W6.heap.size = gp at *; generalize hgx : w.heap.size + 1 = gx at *; have HGE : Az (w.heap.size ≤ gx ∧ gx = w.heap.size + 1 ∧ gp ≠ gx ∧ ws.heap.size ≤ w.heap.size) := ⟨HGE.out.1, hgx.symm, HGE.out.2.2⟩; clear hgx; have HCP : Az (WB.cell? ⟨gp, 3, none⟩ = some (.slice P3 p3.length q3)) := ⟨ba_ HPB.out 3⟩; have HCX : Az (WB.cell? ⟨gx, 3, none⟩ = some (.slice X3 x3.length d3)) := ⟨ba_ HBX.out 3⟩; have HLN : Az (p3.length + x3.length ≤ 1000000) := ⟨Vj_⟩; refine fd_ (n := 9) (S := fun w' => w'.cell? ⟨gp, 3, none⟩ = some (.slice P3 p3.length q3) ∧ w'.cell? ⟨gx, 3, none⟩ = some (.slice X3 x3.length d3) ∧ Az (Below WB.heap.size WB w')) (ds := [8]) (f_ 9 0) Ti_ rfl rfl ⟨HCP.out, HCX.out, ⟨ga_ (Below.refl _ _)⟩⟩ (fun hHeld => ?_); generalize WB.drew = w3 at *; refine pV_ 1 ?_; refine tV3_ 2 ?_; refine pV_ 4 ?_; refine tV3_ 5 ?_; refine oN_ 0 fun K hK => ?_
  refine cd_ (w1 := ?_) (v := ?_) Vh_ rfl ?_ ?_; rotate_left 2
  ·go_simp
   constructor
   ·rfl
   rfl
  have hB := aa_ (Below.refl w3.heap.size w3) (.cells #[] 46); have HN := aM_ (Kd.R_N (Kd.R_mono (ok' := OK ws.heap.size w.heap.size gp) (Kd.R_of_own0 (d := k46) (e := 46) (b := WB.heap.size) (s := WB.heap.size) w3 hHeld.2.2.out.size hHeld.2.2.out.size) (fun k hk => HFR.out k hk))); refine hK.out _ _ ⟨fa_ hB hHeld.1, fa_ hB hHeld.2.1, ⟨da_ hHeld.2.2.out hB⟩⟩ (fun hHeld => ?_); clear hK K hB; generalize w3.alloc (.cells #[] 46) = w4 at *; generalize w3.heap.size = n4 at *; have hK := trivial; have K := trivial; clear hK K; refine nO_ ?_; refine oN_ 3 fun K hK => ?_
  refine Kd.N_append_rows_step k46 (w0 := WB) WB.heap.size rfl (.tmp 19) (.tmp 21) 40 46 (.agg #[.string ⟨#[]⟩, .int .i64 0, .int .i64 0]) 32 rfl Tryz.underlying40 Ti_ rfl Xf_ Tm_ (.slice (some ⟨n4, 0, none⟩) 0 0) [] p3 P3 p3.length q3 (OK ws.heap.size w.heap.size gp) (fun k => OK ws.heap.size w.heap.size gp k ∧ k < WB.heap.size) rfl rfl HN.out (Kd.F_below HFP3.out hHeld.2.2.out) (fun k hk => ⟨hk.1, fun e => by have := Kd.N_base HN.out k e.symm; have := hk.2; omega⟩) (fun k hk => HFR.out k (Nat.le_trans hHeld.2.2.out.size hk)) hHeld.2.2.out hHeld.2.2.out.size Vc_ ?_; intro v5 w5 ho hB hg hat; clear hg hat; replace HN : Az (Kd.N k46 46 w5 WB.heap.size (OK ws.heap.size w.heap.size gp) v5 p3) := ⟨ho⟩; have hHB : Below WB.heap.size WB w5 := hB; refine hK.out _ _ ⟨fa_ hHB HCP.out, fa_ hHB HCX.out, ⟨hHB⟩⟩ (fun hHeld => ?_); clear ho hB hHB; obtain ⟨A5, c5, hv5⟩ := Kd.N_slice HN.out; subst hv5; clear hK K; refine nO_ ?_; refine oN_ 6 fun K hK => ?_
  refine Kd.N_append_rows_step k46 (w0 := WB) WB.heap.size rfl (.tmp 22) (.tmp 24) 40 46 (.agg #[.string ⟨#[]⟩, .int .i64 0, .int .i64 0]) 32 rfl Tryz.underlying40 Ti_ rfl Xf_ Tm_ (.slice A5 p3.length c5) p3 x3 X3 x3.length d3 (OK ws.heap.size w.heap.size gp) (fun k => OK ws.heap.size w.heap.size gp k ∧ k < WB.heap.size) rfl rfl HN.out (Kd.F_below HFX3.out hHeld.2.2.out) (fun k hk => ⟨hk.1, fun e => by have := Kd.N_base HN.out k e.symm; have := hk.2; omega⟩) (fun k hk => HFR.out k (Nat.le_trans hHeld.2.2.out.size hk)) hHeld.2.2.out hHeld.2.2.out.size Vc_ ?_; intro v6 w6 ho hB hg hat; clear hg hat; replace HN : Az (Kd.N k46 46 w6 WB.heap.size (OK ws.heap.size w.heap.size gp) v6 (p3 ++ x3)) := ⟨ho⟩; have hHB : Below WB.heap.size WB w6 := hB; refine hK.out _ _ ⟨fa_ hHB HCP.out, fa_ hHB HCX.out, ⟨hHB⟩⟩ (fun hHeld => ?_); clear ho hB hHB; obtain ⟨R3, t3, hv6⟩ := Kd.N_slice HN.out; subst hv6; generalize p3 ++ x3 = y3 at *; clear hK K; refine nO_ ?_; refine pV_ 7 ?_; refine lN_ 8 fun K hK => ?_
  have hz := hHeld.2.1; have HGX := aM_ (la_ HBX.out hHeld.2.2.out); have hy := ha_ HGX.out 3; refine uf_ (w1 := ?_) Vh_ rfl ?_ ?_; rotate_left
  ·go_simp
   rfl
  refine hK.out _ _ ?_; clear hK K; refine wd_ Ti_ ?_; have HB6 := hHeld.2.2; have HGE : Az (w.heap.size ≤ gx ∧ gx = w.heap.size + 1 ∧ gp ≠ gx ∧ ws.heap.size ≤ w.heap.size) := HGE; have HBX1 : Az ((w6.setCell ⟨gx, 3, none⟩ (.slice R3 y3.length t3)).heap[gx]? = some (.cells #[.string x0, .int .i64 m, .int .i64 x2, .slice R3 y3.length t3, .slice X4 x4.length d4, .slice X5 x5.length d5] 44 (0, 0))) := ⟨by simpa using qa_ HGX.out 3 (.slice R3 y3.length t3)⟩; have HZP1 : Az ((w6.setCell ⟨gx, 3, none⟩ (.slice R3 y3.length t3)).heap[w.heap.size]? = some (.cells #[.string ⟨#[]⟩, .int .i64 0, .int .i64 0, .slice none 0 0, .slice none 0 0, .slice none 0 0] 44 (0, 0))) := ⟨(heap_setCell_other w6 ⟨gx, 3, none⟩ _ _ Xa_).trans (la_ HZP.out HB6.out)⟩; have HPB1 : Az ((w6.setCell ⟨gx, 3, none⟩ (.slice R3 y3.length t3)).heap[gp]? = some (.cells #[.string p0, .int .i64 p1, .int .i64 p2, .slice P3 p3.length q3, .slice P4 p4.length q4, .slice P5 p5.length q5] 44 (0, 0))) := ⟨(heap_setCell_other w6 ⟨gx, 3, none⟩ _ _ (by have := HGE.out; show gp ≠ gx; omega)).trans (la_ HPB.out HB6.out)⟩; have HBW1 : Az (Below w.heap.size w (w6.setCell ⟨gx, 3, none⟩ (.slice R3 y3.length t3))) := ⟨Below.setCell (p := ⟨gx, 3, none⟩) (da_ HBWB.out HB6.out) HGE.out.1 _⟩; have HSZ1 : Az (WB.heap.size ≤ (w6.setCell ⟨gx, 3, none⟩ (.slice R3 y3.length t3)).heap.size) := ⟨Wx_⟩; have hq3 := (Kd.N_reads' HN.out).2; have hne : ∀ q, (OK ws.heap.size w.heap.size gp q ∧ q < WB.heap.size) → q ≠ (⟨gx, 3, none⟩ : Addr).block := fun q hq => by have := HGE.out; have h1 := hq.1; unfold OK at h1; show q ≠ gx; omega
  have hne' : ∀ q, OK ws.heap.size w.heap.size gp q → q ≠ (⟨gx, 3, none⟩ : Addr).block := fun q hq => by have := HGE.out; have h1 := hq; unfold OK at h1; show q ≠ gx; omega
  have HQ31 := aM_ (Kd.F_mono (ok' := fun k => OK ws.heap.size w.heap.size gp k ∧ k < (w6.setCell ⟨gx, 3, none⟩ (.slice R3 y3.length t3)).heap.size) (Kd.F_bound (Kd.F_far (Kd.N_F HN.out) hne' (.slice R3 y3.length t3))) (fun q hq => hq)); have HL3 := aM_ hq3.1; have HFP41 := aM_ (Kd.F_mono (ok' := fun k => OK ws.heap.size w.heap.size gp k ∧ k < (w6.setCell ⟨gx, 3, none⟩ (.slice R3 y3.length t3)).heap.size) (Kd.F_far (Kd.F_below HFP4.out HB6.out) hne (.slice R3 y3.length t3)) (fun q hq => ⟨hq.1, Nat.lt_of_lt_of_le hq.2 HSZ1.out⟩)); have HFX41 := aM_ (Kd.F_mono (ok' := fun k => OK ws.heap.size w.heap.size gp k ∧ k < (w6.setCell ⟨gx, 3, none⟩ (.slice R3 y3.length t3)).heap.size) (Kd.F_far (Kd.F_below HFX4.out HB6.out) hne (.slice R3 y3.length t3)) (fun q hq => ⟨hq.1, Nat.lt_of_lt_of_le hq.2 HSZ1.out⟩)); have HFP51 := aM_ (Kd.F_mono (ok' := fun k => OK ws.heap.size w.heap.size gp k ∧ k < (w6.setCell ⟨gx, 3, none⟩ (.slice R3 y3.length t3)).heap.size) (Kd.F_far (Kd.F_below HFP5.out HB6.out) hne (.slice R3 y3.length t3)) (fun q hq => ⟨hq.1, Nat.lt_of_lt_of_le hq.2 HSZ1.out⟩)); have HFX51 := aM_ (Kd.F_mono (ok' := fun k => OK ws.heap.size w.heap.size gp k ∧ k < (w6.setCell ⟨gx, 3, none⟩ (.slice R3 y3.length t3)).heap.size) (Kd.F_far (Kd.F_below HFX5.out HB6.out) hne (.slice R3 y3.length t3)) (fun q hq => ⟨hq.1, Nat.lt_of_lt_of_le hq.2 HSZ1.out⟩)); have HFR1 : Az (∀ k, (w6.setCell ⟨gx, 3, none⟩ (.slice R3 y3.length t3)).heap.size ≤ k → OK ws.heap.size w.heap.size gp k) := ⟨fun k hk => HFR.out k (Nat.le_trans HSZ1.out hk)⟩; generalize (w6.setCell ⟨gx, 3, none⟩ (.slice R3 y3.length t3)) = WC at *; clear hHeld HB6 HGX HN HSZ1 hne hne' hq3 HCP HCX hz hy HBX HZP HPB HBWB HFR HFP3 HFX3 HFP4 HFX4 HFP5 HFX5; have HBX := HBX1; have HZP := HZP1; have HPB := HPB1; have HFR := HFR1; have HQ3 := HQ31; have HFP4 := HFP41; have HFX4 := HFX41; have HFP5 := HFP51; have HFX5 := HFX51; have HBWB := HBW1; clear HBX1 HZP1 HPB1 HFR1 HQ31 HFP41 HFX41 HFP51 HFX51 HBW1; generalize WC = WB at *
  go_wp2_with fail
  have HCP : Az (WB.cell? ⟨gp, 4, none⟩ = some (.slice P4 p4.length q4)) := ⟨ba_ HPB.out 4⟩; have HCX : Az (WB.cell? ⟨gx, 4, none⟩ = some (.slice X4 x4.length d4)) := ⟨ba_ HBX.out 4⟩; have HLN : Az (p4.length + x4.length ≤ 1000000) := ⟨Vj_⟩; refine fd_ (n := 9) (S := fun w' => w'.cell? ⟨gp, 4, none⟩ = some (.slice P4 p4.length q4) ∧ w'.cell? ⟨gx, 4, none⟩ = some (.slice X4 x4.length d4) ∧ Az (Below WB.heap.size WB w')) (ds := [8]) (f_ 9 0) Ti_ rfl rfl ⟨HCP.out, HCX.out, ⟨ga_ (Below.refl _ _)⟩⟩ (fun hHeld => ?_); generalize WB.drew = w3 at *; refine pV_ 1 ?_; refine tV3_ 2 ?_; refine pV_ 4 ?_; refine tV3_ 5 ?_; refine oN_ 0 fun K hK => ?_
  refine cd_ (w1 := ?_) (v := ?_) Vh_ rfl ?_ ?_; rotate_left 2
  ·go_simp
   constructor
   ·rfl
   rfl
  have hB := aa_ (Below.refl w3.heap.size w3) (.cells #[] 56); have HN := aM_ (Kd.R_N (Kd.R_mono (ok' := OK ws.heap.size w.heap.size gp) (Kd.R_of_own0 (d := k56) (e := 56) (b := WB.heap.size) (s := WB.heap.size) w3 hHeld.2.2.out.size hHeld.2.2.out.size) (fun k hk => HFR.out k hk))); refine hK.out _ _ ⟨fa_ hB hHeld.1, fa_ hB hHeld.2.1, ⟨da_ hHeld.2.2.out hB⟩⟩ (fun hHeld => ?_); clear hK K hB; generalize w3.alloc (.cells #[] 56) = w4 at *; generalize w3.heap.size = n4 at *; have hK := trivial; have K := trivial; clear hK K; refine nO_ ?_; refine oN_ 3 fun K hK => ?_
  refine Kd.N_append_rows_step k56 (w0 := WB) WB.heap.size rfl (.tmp 27) (.tmp 29) 41 56 (.agg #[.int .i64 0, .slice none 0 0, .int .i64 0, .slice none 0 0, .int .i64 0]) 72 rfl Tryz.underlying41 Ti_ rfl Wh_ Tm_ (.slice (some ⟨n4, 0, none⟩) 0 0) [] p4 P4 p4.length q4 (OK ws.heap.size w.heap.size gp) (fun k => OK ws.heap.size w.heap.size gp k ∧ k < WB.heap.size) rfl rfl HN.out (Kd.F_below HFP4.out hHeld.2.2.out) (fun k hk => ⟨hk.1, fun e => by have := Kd.N_base HN.out k e.symm; have := hk.2; omega⟩) (fun k hk => HFR.out k (Nat.le_trans hHeld.2.2.out.size hk)) hHeld.2.2.out hHeld.2.2.out.size Vc_ ?_; intro v5 w5 ho hB hg hat; clear hg hat; replace HN : Az (Kd.N k56 56 w5 WB.heap.size (OK ws.heap.size w.heap.size gp) v5 p4) := ⟨ho⟩; have hHB : Below WB.heap.size WB w5 := hB; refine hK.out _ _ ⟨fa_ hHB HCP.out, fa_ hHB HCX.out, ⟨hHB⟩⟩ (fun hHeld => ?_); clear ho hB hHB; obtain ⟨A5, c5, hv5⟩ := Kd.N_slice HN.out; subst hv5; clear hK K; refine nO_ ?_; refine oN_ 6 fun K hK => ?_
  refine Kd.N_append_rows_step k56 (w0 := WB) WB.heap.size rfl (.tmp 30) (.tmp 32) 41 56 (.agg #[.int .i64 0, .slice none 0 0, .int .i64 0, .slice none 0 0, .int .i64 0]) 72 rfl Tryz.underlying41 Ti_ rfl Wh_ Tm_ (.slice A5 p4.length c5) p4 x4 X4 x4.length d4 (OK ws.heap.size w.heap.size gp) (fun k => OK ws.heap.size w.heap.size gp k ∧ k < WB.heap.size) rfl rfl HN.out (Kd.F_below HFX4.out hHeld.2.2.out) (fun k hk => ⟨hk.1, fun e => by have := Kd.N_base HN.out k e.symm; have := hk.2; omega⟩) (fun k hk => HFR.out k (Nat.le_trans hHeld.2.2.out.size hk)) hHeld.2.2.out hHeld.2.2.out.size Vc_ ?_; intro v6 w6 ho hB hg hat; clear hg hat; replace HN : Az (Kd.N k56 56 w6 WB.heap.size (OK ws.heap.size w.heap.size gp) v6 (p4 ++ x4)) := ⟨ho⟩; have hHB : Below WB.heap.size WB w6 := hB; refine hK.out _ _ ⟨fa_ hHB HCP.out, fa_ hHB HCX.out, ⟨hHB⟩⟩ (fun hHeld => ?_); clear ho hB hHB; obtain ⟨R4, t4, hv6⟩ := Kd.N_slice HN.out; subst hv6; generalize p4 ++ x4 = y4 at *; clear hK K; refine nO_ ?_; refine pV_ 7 ?_; refine lN_ 8 fun K hK => ?_
  have hz := hHeld.2.1; have HGX := aM_ (la_ HBX.out hHeld.2.2.out); have hy := ha_ HGX.out 4; refine uf_ (w1 := ?_) Vh_ rfl ?_ ?_; rotate_left
  ·go_simp
   rfl
  refine hK.out _ _ ?_; clear hK K; refine wd_ Ti_ ?_; have HB6 := hHeld.2.2; have HGE : Az (w.heap.size ≤ gx ∧ gx = w.heap.size + 1 ∧ gp ≠ gx ∧ ws.heap.size ≤ w.heap.size) := HGE; have HBX1 : Az ((w6.setCell ⟨gx, 4, none⟩ (.slice R4 y4.length t4)).heap[gx]? = some (.cells #[.string x0, .int .i64 m, .int .i64 x2, .slice R3 y3.length t3, .slice R4 y4.length t4, .slice X5 x5.length d5] 44 (0, 0))) := ⟨by simpa using qa_ HGX.out 4 (.slice R4 y4.length t4)⟩; have HZP1 : Az ((w6.setCell ⟨gx, 4, none⟩ (.slice R4 y4.length t4)).heap[w.heap.size]? = some (.cells #[.string ⟨#[]⟩, .int .i64 0, .int .i64 0, .slice none 0 0, .slice none 0 0, .slice none 0 0] 44 (0, 0))) := ⟨(heap_setCell_other w6 ⟨gx, 4, none⟩ _ _ Xa_).trans (la_ HZP.out HB6.out)⟩; have HPB1 : Az ((w6.setCell ⟨gx, 4, none⟩ (.slice R4 y4.length t4)).heap[gp]? = some (.cells #[.string p0, .int .i64 p1, .int .i64 p2, .slice P3 p3.length q3, .slice P4 p4.length q4, .slice P5 p5.length q5] 44 (0, 0))) := ⟨(heap_setCell_other w6 ⟨gx, 4, none⟩ _ _ (by have := HGE.out; show gp ≠ gx; omega)).trans (la_ HPB.out HB6.out)⟩; have HBW1 : Az (Below w.heap.size w (w6.setCell ⟨gx, 4, none⟩ (.slice R4 y4.length t4))) := ⟨Below.setCell (p := ⟨gx, 4, none⟩) (da_ HBWB.out HB6.out) HGE.out.1 _⟩; have HSZ1 : Az (WB.heap.size ≤ (w6.setCell ⟨gx, 4, none⟩ (.slice R4 y4.length t4)).heap.size) := ⟨Wx_⟩; have hq4 := (Kd.N_reads' HN.out).2; have hne : ∀ q, (OK ws.heap.size w.heap.size gp q ∧ q < WB.heap.size) → q ≠ (⟨gx, 4, none⟩ : Addr).block := fun q hq => by have := HGE.out; have h1 := hq.1; unfold OK at h1; show q ≠ gx; omega
  have hne' : ∀ q, OK ws.heap.size w.heap.size gp q → q ≠ (⟨gx, 4, none⟩ : Addr).block := fun q hq => by have := HGE.out; have h1 := hq; unfold OK at h1; show q ≠ gx; omega
  have HQ41 := aM_ (Kd.F_mono (ok' := fun k => OK ws.heap.size w.heap.size gp k ∧ k < (w6.setCell ⟨gx, 4, none⟩ (.slice R4 y4.length t4)).heap.size) (Kd.F_bound (Kd.F_far (Kd.N_F HN.out) hne' (.slice R4 y4.length t4))) (fun q hq => hq)); have HL4 := aM_ hq4.1; have HFP51 := aM_ (Kd.F_mono (ok' := fun k => OK ws.heap.size w.heap.size gp k ∧ k < (w6.setCell ⟨gx, 4, none⟩ (.slice R4 y4.length t4)).heap.size) (Kd.F_far (Kd.F_below HFP5.out HB6.out) hne (.slice R4 y4.length t4)) (fun q hq => ⟨hq.1, Nat.lt_of_lt_of_le hq.2 HSZ1.out⟩)); have HFX51 := aM_ (Kd.F_mono (ok' := fun k => OK ws.heap.size w.heap.size gp k ∧ k < (w6.setCell ⟨gx, 4, none⟩ (.slice R4 y4.length t4)).heap.size) (Kd.F_far (Kd.F_below HFX5.out HB6.out) hne (.slice R4 y4.length t4)) (fun q hq => ⟨hq.1, Nat.lt_of_lt_of_le hq.2 HSZ1.out⟩)); have HQ31 := aM_ (Kd.F_mono (ok' := fun k => OK ws.heap.size w.heap.size gp k ∧ k < (w6.setCell ⟨gx, 4, none⟩ (.slice R4 y4.length t4)).heap.size) (Kd.F_far (Kd.F_below HQ3.out HB6.out) hne (.slice R4 y4.length t4)) (fun q hq => ⟨hq.1, Nat.lt_of_lt_of_le hq.2 HSZ1.out⟩)); have HFR1 : Az (∀ k, (w6.setCell ⟨gx, 4, none⟩ (.slice R4 y4.length t4)).heap.size ≤ k → OK ws.heap.size w.heap.size gp k) := ⟨fun k hk => HFR.out k (Nat.le_trans HSZ1.out hk)⟩; generalize (w6.setCell ⟨gx, 4, none⟩ (.slice R4 y4.length t4)) = WC at *; clear hHeld HB6 HGX HN HSZ1 hne hne' hq4 HCP HCX hz hy HBX HZP HPB HBWB HFR HFP4 HFX4 HFP5 HFX5 HQ3; have HBX := HBX1; have HZP := HZP1; have HPB := HPB1; have HFR := HFR1; have HQ4 := HQ41; have HFP5 := HFP51; have HFX5 := HFX51; have HQ3 := HQ31; have HBWB := HBW1; clear HBX1 HZP1 HPB1 HFR1 HQ41 HFP51 HFX51 HQ31 HBW1; generalize WC = WB at *
  go_wp2_with fail
  have HCP : Az (WB.cell? ⟨gp, 5, none⟩ = some (.slice P5 p5.length q5)) := ⟨ba_ HPB.out 5⟩; have HCX : Az (WB.cell? ⟨gx, 5, none⟩ = some (.slice X5 x5.length d5)) := ⟨ba_ HBX.out 5⟩; have HLN : Az (p5.length + x5.length ≤ 1000000) := ⟨Vj_⟩; refine fd_ (n := 9) (S := fun w' => w'.cell? ⟨gp, 5, none⟩ = some (.slice P5 p5.length q5) ∧ w'.cell? ⟨gx, 5, none⟩ = some (.slice X5 x5.length d5) ∧ Az (Below WB.heap.size WB w')) (ds := [8]) (f_ 9 0) Ti_ rfl rfl ⟨HCP.out, HCX.out, ⟨ga_ (Below.refl _ _)⟩⟩ (fun hHeld => ?_); generalize WB.drew = w3 at *; refine pV_ 1 ?_; refine tV3_ 2 ?_; refine pV_ 4 ?_; refine tV3_ 5 ?_; refine oN_ 0 fun K hK => ?_
  refine cd_ (w1 := ?_) (v := ?_) Vh_ rfl ?_ ?_; rotate_left 2
  ·go_simp
   constructor
   ·rfl
   rfl
  have hB := aa_ (Below.refl w3.heap.size w3) (.cells #[] 52); have HN := aM_ (Kd.R_N (Kd.R_mono (ok' := OK ws.heap.size w.heap.size gp) (Kd.R_of_own0 (d := k52) (e := 52) (b := WB.heap.size) (s := WB.heap.size) w3 hHeld.2.2.out.size hHeld.2.2.out.size) (fun k hk => HFR.out k hk))); refine hK.out _ _ ⟨fa_ hB hHeld.1, fa_ hB hHeld.2.1, ⟨da_ hHeld.2.2.out hB⟩⟩ (fun hHeld => ?_); clear hK K hB; generalize w3.alloc (.cells #[] 52) = w4 at *; generalize w3.heap.size = n4 at *; have hK := trivial; have K := trivial; clear hK K; refine nO_ ?_; refine oN_ 3 fun K hK => ?_
  refine Kd.N_append_rows_step k52 (w0 := WB) WB.heap.size rfl (.tmp 35) (.tmp 37) 42 52 (.agg #[.int .i64 0, .slice none 0 0]) 32 rfl Tryz.underlying42 Ti_ rfl Xb_ Tm_ (.slice (some ⟨n4, 0, none⟩) 0 0) [] p5 P5 p5.length q5 (OK ws.heap.size w.heap.size gp) (fun k => OK ws.heap.size w.heap.size gp k ∧ k < WB.heap.size) rfl rfl HN.out (Kd.F_below HFP5.out hHeld.2.2.out) (fun k hk => ⟨hk.1, fun e => by have := Kd.N_base HN.out k e.symm; have := hk.2; omega⟩) (fun k hk => HFR.out k (Nat.le_trans hHeld.2.2.out.size hk)) hHeld.2.2.out hHeld.2.2.out.size Vc_ ?_; intro v5 w5 ho hB hg hat; clear hg hat; replace HN : Az (Kd.N k52 52 w5 WB.heap.size (OK ws.heap.size w.heap.size gp) v5 p5) := ⟨ho⟩; have hHB : Below WB.heap.size WB w5 := hB; refine hK.out _ _ ⟨fa_ hHB HCP.out, fa_ hHB HCX.out, ⟨hHB⟩⟩ (fun hHeld => ?_); clear ho hB hHB; obtain ⟨A5, c5, hv5⟩ := Kd.N_slice HN.out; subst hv5; clear hK K; refine nO_ ?_; refine oN_ 6 fun K hK => ?_
  refine Kd.N_append_rows_step k52 (w0 := WB) WB.heap.size rfl (.tmp 38) (.tmp 40) 42 52 (.agg #[.int .i64 0, .slice none 0 0]) 32 rfl Tryz.underlying42 Ti_ rfl Xb_ Tm_ (.slice A5 p5.length c5) p5 x5 X5 x5.length d5 (OK ws.heap.size w.heap.size gp) (fun k => OK ws.heap.size w.heap.size gp k ∧ k < WB.heap.size) rfl rfl HN.out (Kd.F_below HFX5.out hHeld.2.2.out) (fun k hk => ⟨hk.1, fun e => by have := Kd.N_base HN.out k e.symm; have := hk.2; omega⟩) (fun k hk => HFR.out k (Nat.le_trans hHeld.2.2.out.size hk)) hHeld.2.2.out hHeld.2.2.out.size Vc_ ?_; intro v6 w6 ho hB hg hat; clear hg hat; replace HN : Az (Kd.N k52 52 w6 WB.heap.size (OK ws.heap.size w.heap.size gp) v6 (p5 ++ x5)) := ⟨ho⟩; have hHB : Below WB.heap.size WB w6 := hB; refine hK.out _ _ ⟨fa_ hHB HCP.out, fa_ hHB HCX.out, ⟨hHB⟩⟩ (fun hHeld => ?_); clear ho hB hHB; obtain ⟨R5, t5, hv6⟩ := Kd.N_slice HN.out; subst hv6; generalize p5 ++ x5 = y5 at *; clear hK K; refine nO_ ?_; refine pV_ 7 ?_; refine lN_ 8 fun K hK => ?_
  have hz := hHeld.2.1; have HGX := aM_ (la_ HBX.out hHeld.2.2.out); have hy := ha_ HGX.out 5; refine uf_ (w1 := ?_) Vh_ rfl ?_ ?_; rotate_left
  ·go_simp
   rfl
  refine hK.out _ _ ?_; clear hK K; refine wd_ Ti_ ?_; have HB6 := hHeld.2.2; have HGE : Az (w.heap.size ≤ gx ∧ gx = w.heap.size + 1 ∧ gp ≠ gx ∧ ws.heap.size ≤ w.heap.size) := HGE; have HBX1 : Az ((w6.setCell ⟨gx, 5, none⟩ (.slice R5 y5.length t5)).heap[gx]? = some (.cells #[.string x0, .int .i64 m, .int .i64 x2, .slice R3 y3.length t3, .slice R4 y4.length t4, .slice R5 y5.length t5] 44 (0, 0))) := ⟨by simpa using qa_ HGX.out 5 (.slice R5 y5.length t5)⟩; have HZP1 : Az ((w6.setCell ⟨gx, 5, none⟩ (.slice R5 y5.length t5)).heap[w.heap.size]? = some (.cells #[.string ⟨#[]⟩, .int .i64 0, .int .i64 0, .slice none 0 0, .slice none 0 0, .slice none 0 0] 44 (0, 0))) := ⟨(heap_setCell_other w6 ⟨gx, 5, none⟩ _ _ Xa_).trans (la_ HZP.out HB6.out)⟩; have HPB1 : Az ((w6.setCell ⟨gx, 5, none⟩ (.slice R5 y5.length t5)).heap[gp]? = some (.cells #[.string p0, .int .i64 p1, .int .i64 p2, .slice P3 p3.length q3, .slice P4 p4.length q4, .slice P5 p5.length q5] 44 (0, 0))) := ⟨(heap_setCell_other w6 ⟨gx, 5, none⟩ _ _ (by have := HGE.out; show gp ≠ gx; omega)).trans (la_ HPB.out HB6.out)⟩; have HBW1 : Az (Below w.heap.size w (w6.setCell ⟨gx, 5, none⟩ (.slice R5 y5.length t5))) := ⟨Below.setCell (p := ⟨gx, 5, none⟩) (da_ HBWB.out HB6.out) HGE.out.1 _⟩; have HSZ1 : Az (WB.heap.size ≤ (w6.setCell ⟨gx, 5, none⟩ (.slice R5 y5.length t5)).heap.size) := ⟨Wx_⟩; have hq5 := (Kd.N_reads' HN.out).2; have hne : ∀ q, (OK ws.heap.size w.heap.size gp q ∧ q < WB.heap.size) → q ≠ (⟨gx, 5, none⟩ : Addr).block := fun q hq => by have := HGE.out; have h1 := hq.1; unfold OK at h1; show q ≠ gx; omega
  have hne' : ∀ q, OK ws.heap.size w.heap.size gp q → q ≠ (⟨gx, 5, none⟩ : Addr).block := fun q hq => by have := HGE.out; have h1 := hq; unfold OK at h1; show q ≠ gx; omega
  have HQ51 := aM_ (Kd.F_mono (ok' := fun k => OK ws.heap.size w.heap.size gp k ∧ k < (w6.setCell ⟨gx, 5, none⟩ (.slice R5 y5.length t5)).heap.size) (Kd.F_bound (Kd.F_far (Kd.N_F HN.out) hne' (.slice R5 y5.length t5))) (fun q hq => hq)); have HL5 := aM_ hq5.1; have HQ31 := aM_ (Kd.F_mono (ok' := fun k => OK ws.heap.size w.heap.size gp k ∧ k < (w6.setCell ⟨gx, 5, none⟩ (.slice R5 y5.length t5)).heap.size) (Kd.F_far (Kd.F_below HQ3.out HB6.out) hne (.slice R5 y5.length t5)) (fun q hq => ⟨hq.1, Nat.lt_of_lt_of_le hq.2 HSZ1.out⟩)); have HQ41 := aM_ (Kd.F_mono (ok' := fun k => OK ws.heap.size w.heap.size gp k ∧ k < (w6.setCell ⟨gx, 5, none⟩ (.slice R5 y5.length t5)).heap.size) (Kd.F_far (Kd.F_below HQ4.out HB6.out) hne (.slice R5 y5.length t5)) (fun q hq => ⟨hq.1, Nat.lt_of_lt_of_le hq.2 HSZ1.out⟩)); have HFR1 : Az (∀ k, (w6.setCell ⟨gx, 5, none⟩ (.slice R5 y5.length t5)).heap.size ≤ k → OK ws.heap.size w.heap.size gp k) := ⟨fun k hk => HFR.out k (Nat.le_trans HSZ1.out hk)⟩; generalize (w6.setCell ⟨gx, 5, none⟩ (.slice R5 y5.length t5)) = WC at *; clear hHeld HB6 HGX HN HSZ1 hne hne' hq5 HCP HCX hz hy HBX HZP HPB HBWB HFR HFP5 HFX5 HQ3 HQ4; have HBX := HBX1; have HZP := HZP1; have HPB := HPB1; have HFR := HFR1; have HQ5 := HQ51; have HQ3 := HQ31; have HQ4 := HQ41; have HBWB := HBW1; clear HBX1 HZP1 HPB1 HFR1 HQ51 HQ31 HQ41 HBW1; generalize WC = WB at *; have ha0 := ba_ HBX.out 0; have hb0 := ba_ HZP.out 0; have hf0 := ha_ HZP.out 0; have ha1 := ba_ HBX.out 1; have hb1 := ba_ HZP.out 1; have hf1 := ha_ HZP.out 1; have ha2 := ba_ HBX.out 2; have hb2 := ba_ HZP.out 2; have hf2 := ha_ HZP.out 2; have ha3 := ba_ HBX.out 3; have hb3 := ba_ HZP.out 3; have hf3 := ha_ HZP.out 3; have ha4 := ba_ HBX.out 4; have hb4 := ba_ HZP.out 4; have hf4 := ha_ HZP.out 4; have ha5 := ba_ HBX.out 5; have hb5 := ba_ HZP.out 5; have hf5 := ha_ HZP.out 5
  go_wp2
  have hb7 : ((((((WB.setCell ⟨w.heap.size, 0, none⟩ (.string x0)).setCell ⟨w.heap.size, 1, none⟩ (.int .i64 m)).setCell ⟨w.heap.size, 2, none⟩ (.int .i64 x2)).setCell ⟨w.heap.size, 3, none⟩ (.slice R3 y3.length t3)).setCell ⟨w.heap.size, 4, none⟩ (.slice R4 y4.length t4)).setCell ⟨w.heap.size, 5, none⟩ (.slice R5 y5.length t5)).heap[w.heap.size]? = some (.cells #[.string x0, .int .i64 m, .int .i64 x2, .slice R3 y3.length t3, .slice R4 y4.length t4, .slice R5 y5.length t5] 44 (0, 0)) := by simpa using (qa_ (qa_ (qa_ (qa_ (qa_ (qa_ HZP.out 0 (.string x0)) 1 (.int .i64 m)) 2 (.int .i64 x2)) 3 (.slice R3 y3.length t3)) 4 (.slice R4 y4.length t4)) 5 (.slice R5 y5.length t5))
  refine bodyPost_ret (results_cell_row rfl _ _ w.heap.size 44 #[.string x0, .int .i64 m, .int .i64 x2, .slice R3 y3.length t3, .slice R4 y4.length t4, .slice R5 y5.length t5] (0, 0) _ rfl hb7 Tryz.underlying44 rfl Ti_) rfl ?_; rw [HY.out]; exact ⟨_, _, _, _, _, _, rfl, ⟨Kd.F_mono (Kd.F_far (Kd.F_far (Kd.F_far (Kd.F_far (Kd.F_far (Kd.F_far HQ3.out (p := ⟨w.heap.size, 0, none⟩) (fun q hq => by have h1 := hq.1; unfold OK at h1; have := HGE.out; show q ≠ w.heap.size; omega) (.string x0)) (p := ⟨w.heap.size, 1, none⟩) (fun q hq => by have h1 := hq.1; unfold OK at h1; have := HGE.out; show q ≠ w.heap.size; omega) (.int .i64 m)) (p := ⟨w.heap.size, 2, none⟩) (fun q hq => by have h1 := hq.1; unfold OK at h1; have := HGE.out; show q ≠ w.heap.size; omega) (.int .i64 x2)) (p := ⟨w.heap.size, 3, none⟩) (fun q hq => by have h1 := hq.1; unfold OK at h1; have := HGE.out; show q ≠ w.heap.size; omega) (.slice R3 y3.length t3)) (p := ⟨w.heap.size, 4, none⟩) (fun q hq => by have h1 := hq.1; unfold OK at h1; have := HGE.out; show q ≠ w.heap.size; omega) (.slice R4 y4.length t4)) (p := ⟨w.heap.size, 5, none⟩) (fun q hq => by have h1 := hq.1; unfold OK at h1; have := HGE.out; show q ≠ w.heap.size; omega) (.slice R5 y5.length t5)) (fun q hq => by have h1 := hq.1; unfold OK at h1; show q < ws.heap.size ∨ w.heap.size ≤ q; omega), HL3.out⟩, ⟨Kd.F_mono (Kd.F_far (Kd.F_far (Kd.F_far (Kd.F_far (Kd.F_far (Kd.F_far HQ4.out (p := ⟨w.heap.size, 0, none⟩) (fun q hq => by have h1 := hq.1; unfold OK at h1; have := HGE.out; show q ≠ w.heap.size; omega) (.string x0)) (p := ⟨w.heap.size, 1, none⟩) (fun q hq => by have h1 := hq.1; unfold OK at h1; have := HGE.out; show q ≠ w.heap.size; omega) (.int .i64 m)) (p := ⟨w.heap.size, 2, none⟩) (fun q hq => by have h1 := hq.1; unfold OK at h1; have := HGE.out; show q ≠ w.heap.size; omega) (.int .i64 x2)) (p := ⟨w.heap.size, 3, none⟩) (fun q hq => by have h1 := hq.1; unfold OK at h1; have := HGE.out; show q ≠ w.heap.size; omega) (.slice R3 y3.length t3)) (p := ⟨w.heap.size, 4, none⟩) (fun q hq => by have h1 := hq.1; unfold OK at h1; have := HGE.out; show q ≠ w.heap.size; omega) (.slice R4 y4.length t4)) (p := ⟨w.heap.size, 5, none⟩) (fun q hq => by have h1 := hq.1; unfold OK at h1; have := HGE.out; show q ≠ w.heap.size; omega) (.slice R5 y5.length t5)) (fun q hq => by have h1 := hq.1; unfold OK at h1; show q < ws.heap.size ∨ w.heap.size ≤ q; omega), HL4.out⟩, ⟨Kd.F_mono (Kd.F_far (Kd.F_far (Kd.F_far (Kd.F_far (Kd.F_far (Kd.F_far HQ5.out (p := ⟨w.heap.size, 0, none⟩) (fun q hq => by have h1 := hq.1; unfold OK at h1; have := HGE.out; show q ≠ w.heap.size; omega) (.string x0)) (p := ⟨w.heap.size, 1, none⟩) (fun q hq => by have h1 := hq.1; unfold OK at h1; have := HGE.out; show q ≠ w.heap.size; omega) (.int .i64 m)) (p := ⟨w.heap.size, 2, none⟩) (fun q hq => by have h1 := hq.1; unfold OK at h1; have := HGE.out; show q ≠ w.heap.size; omega) (.int .i64 x2)) (p := ⟨w.heap.size, 3, none⟩) (fun q hq => by have h1 := hq.1; unfold OK at h1; have := HGE.out; show q ≠ w.heap.size; omega) (.slice R3 y3.length t3)) (p := ⟨w.heap.size, 4, none⟩) (fun q hq => by have h1 := hq.1; unfold OK at h1; have := HGE.out; show q ≠ w.heap.size; omega) (.slice R4 y4.length t4)) (p := ⟨w.heap.size, 5, none⟩) (fun q hq => by have h1 := hq.1; unfold OK at h1; have := HGE.out; show q ≠ w.heap.size; omega) (.slice R5 y5.length t5)) (fun q hq => by have h1 := hq.1; unfold OK at h1; show q < ws.heap.size ∨ w.heap.size ≤ q; omega), HL5.out⟩, (Below.setCell (p := ⟨w.heap.size, 5, none⟩) (Below.setCell (p := ⟨w.heap.size, 4, none⟩) (Below.setCell (p := ⟨w.heap.size, 3, none⟩) (Below.setCell (p := ⟨w.heap.size, 2, none⟩) (Below.setCell (p := ⟨w.heap.size, 1, none⟩) (Below.setCell (p := ⟨w.heap.size, 0, none⟩) HBWB.out (Nat.le_refl _) (.string x0)) (Nat.le_refl _) (.int .i64 m)) (Nat.le_refl _) (.int .i64 x2)) (Nat.le_refl _) (.slice R3 y3.length t3)) (Nat.le_refl _) (.slice R4 y4.length t4)) (Nat.le_refl _) (.slice R5 y5.length t5))⟩
def RefR (l : List S44) (n : Nat) (id : BA) (e : Ending) (w' : World) : Prop :=
 (xc_ (hitL id) l < 0 ∧ e = .returned (.tuple #[.agg #[.string ⟨#[]⟩, .int .i64 0, .int .i64 0, .slice none 0 0, .slice none 0 0, .slice none 0 0], .bool false])) ∨
 (∃ k : Nat, xc_ (hitL id) l = (k : Int) ∧ k < l.length ∧ ∃ A3 c3 A4 c4 A5 c5, e = .returned (.tuple #[.agg #[.string (atP l n k).f0, .int .i64 (atP l n k).f1, .int .i64 (atP l n k).f2, .slice A3 (atP l n k).f3.length c3, .slice A4 (atP l n k).f4.length c4, .slice A5 (atP l n k).f5.length c5], .bool true]) ∧
  (Kd.C k46 w' A3 (atP l n k).f3.length (atP l n k).f3 ∧ (atP l n k).f3.length ≤ c3) ∧ (Kd.C k56 w' A4 (atP l n k).f4.length (atP l n k).f4 ∧ (atP l n k).f4.length ≤ c4) ∧ (Kd.C k52 w' A5 (atP l n k).f5.length (atP l n k).f5 ∧ (atP l n k).f5.length ≤ c5))
theorem gq_ (l : List S44) (A : Option Addr) (c : Nat) (id : BA) (n : Nat) (w : World) (hr : Kd.C k44 w A l.length l) (hc : l.length ≤ c) (hlen : ∀ n i, (atP l n i).f3.length ≤ 100000 ∧ (atP l n i).f4.length ≤ 100000 ∧ (atP l n i).f5.length ≤ 100000) (hch : ∀ i, i < l.length → fj_ l n i) :
  Calls Tryz.prog 24 #[.slice A l.length c, .string id] w fun e w' => RefR l n id e w' ∧ Below w.heap.size w w' := by
 have HR := aM_ hr
 have HAT := aM_ (fun (i : Nat) (W : World) (hW : Below w.heap.size w W) (hi : i < l.length) => at5_w l A c w hr hc hlen n i W hW (hch i hi))
 have hbn := hr.2.1
 have hu1 := Tryz.underlying44
 clear hr hc hlen hch
 have HZ := aM_ (oa_ w (.cells #[.string ⟨#[]⟩, .int .i64 0, .int .i64 0, .slice none 0 0, .slice none 0 0, .slice none 0 0] 44))
 have HB := aM_ (aa_ (Below.refl w.heap.size w) (.cells #[.string ⟨#[]⟩, .int .i64 0, .int .i64 0, .slice none 0 0, .slice none 0 0, .slice none 0 0] 44))
 have hsz : (w.alloc (.cells #[.string ⟨#[]⟩, .int .i64 0, .int .i64 0, .slice none 0 0, .slice none 0 0, .slice none 0 0] 44)).heap.size = w.heap.size + 1 := by simp
 have HSZ := aM_ hsz
 clear hsz
 go_enter Tryz.func24, Tryz.ntmps24
 go_wp2_with fail
 generalize w.alloc (.cells #[.string ⟨#[]⟩, .int .i64 0, .int .i64 0, .slice none 0 0, .slice none 0 0, .slice none 0 0] 44) = W1 at *
 generalize hgg : w.heap.size = g at *
 go_loopg [6] l.length (fun gg s6 wr => ∃ i : Nat, i ≤ l.length ∧ l.length - i ≤ gg ∧ s6 = .int .i64 i ∧ Az (∀ j, j < i → ∀ h : j < l.length, hitL id l[j] = false) ∧ Az (wr = W1))
 case atStart => exact ⟨0, Td_, Td_, rfl, ⟨fun j hj => by omega⟩, ⟨rfl⟩⟩
 obtain ⟨i, hi, hgi, rfl, HM, HQ⟩ := hrel
 generalize hqq : wr = W2 at *
 obtain rfl := HQ.out
 clear HQ hqq
 by_cases hil : i < l.length
 ·have hilz : (i : Int) < (l.length : Int) := by omega
  obtain ⟨ad, A3, c3, A4, c4, A5, c5, hA, h0, h1, h2, h3, h4, h5, l3, g3, l4, g4, l5, g5⟩ := tf_ HR.out (i : Int) Td_ hilz; subst hA; rw [Int.toNat_natCast] at h0
  have hy : pa_ l (i : Int) = l[i] := by
   show l.getD (i : Int).toNat _ = _; rw [Int.toNat_natCast, List.getD_eq_getElem?_getD, List.getElem?_eq_getElem hil]; rfl
  rw [hy] at h0; replace h0 := fa_ (by rw [hgg]; exact HB.out) h0
  cases hh : hitL id l[i] with
  | false =>
   have hh' : (l[i].f0.toList == id.toList) = false := hh
   have HM2 : Az (∀ j, j < i + 1 → ∀ h : j < l.length, hitL id l[j] = false) := ⟨fun j hj h => by
    by_cases e : j = i
    ·subst e; exact hh
    exact HM.out j Td_ h⟩
   clear HM hh hy h1 h2 h3 h4 h5 l3 g3 l4 g4 l5 g5
   go_wp2
   go_roundg (l.length - (i + 1))
   case measure => omega
   case rel => exact ⟨i + 1, Td_, Td_, Va_, HM2, ⟨rfl⟩⟩
  | true =>
   have hh' : (l[i].f0.toList == id.toList) = true := hh; have hix : xc_ (hitL id) l = (i : Int) := xf_ hil HM.out hh; have HIX := aM_ hix; have HA := HAT.out i W2 HB.out hil; have HA := aM_ HA; clear hix hh hy h1 h2 h3 h4 h5 l3 g3 l4 g4 l5 g5 HM HAT
   go_wp2_with fail
   refine HA.out.mono ?_; rintro e W3 ⟨P3, q3, P4, q4, P5, q5, rfl, ⟨f3, k3⟩, ⟨f4, k4⟩, ⟨f5, k5⟩, hb⟩; have HZ3 := la_ HZ.out hb; have hbw : Below w.heap.size w W3 := da_ (by rw [hgg]; exact HB.out) hb; have hle : w.heap.size ≤ g := by omega
   have hsz := HSZ.out; have HF3 := aM_ f3; have HF4 := aM_ f4; have HF5 := aM_ f5; have HBW := aM_ hbw; have HG := aM_ (And.intro hle (And.intro hgg hsz)); have HK := aM_ (And.intro k3 (And.intro k4 k5)); have hb0 := ba_ HZ3 0; have hf0 := ha_ HZ3 0; have hb1 := ba_ HZ3 1; have hf1 := ha_ HZ3 1; have hb2 := ba_ HZ3 2; have hf2 := ha_ HZ3 2; have hb3 := ba_ HZ3 3; have hf3 := ha_ HZ3 3; have hb4 := ba_ HZ3 4; have hf4 := ha_ HZ3 4; have hb5 := ba_ HZ3 5; have hf5 := ha_ HZ3 5; clear f3 f4 f5 hbw hle hsz hgg hb HA h0 k3 k4 k5
   go_wp2
   have hG := HG.out; have hb7 : ((((((W3.setCell ⟨g, 0, none⟩ (.string (atP l n i).f0)).setCell ⟨g, 1, none⟩ (.int .i64 (atP l n i).f1)).setCell ⟨g, 2, none⟩ (.int .i64 (atP l n i).f2)).setCell ⟨g, 3, none⟩ (.slice P3 (atP l n i).f3.length q3)).setCell ⟨g, 4, none⟩ (.slice P4 (atP l n i).f4.length q4)).setCell ⟨g, 5, none⟩ (.slice P5 (atP l n i).f5.length q5)).heap[g]? = some (.cells #[.string (atP l n i).f0, .int .i64 (atP l n i).f1, .int .i64 (atP l n i).f2, .slice P3 (atP l n i).f3.length q3, .slice P4 (atP l n i).f4.length q4, .slice P5 (atP l n i).f5.length q5] 44 (0, 0)) := by simpa using (qa_ (qa_ (qa_ (qa_ (qa_ (qa_ HZ3 0 (.string (atP l n i).f0)) 1 (.int .i64 (atP l n i).f1)) 2 (.int .i64 (atP l n i).f2)) 3 (.slice P3 (atP l n i).f3.length q3)) 4 (.slice P4 (atP l n i).f4.length q4)) 5 (.slice P5 (atP l n i).f5.length q5))
   refine bodyPost_ret (hh_ rfl _ _ g 44 #[.string (atP l n i).f0, .int .i64 (atP l n i).f1, .int .i64 (atP l n i).f2, .slice P3 (atP l n i).f3.length q3, .slice P4 (atP l n i).f4.length q4, .slice P5 (atP l n i).f5.length q5] (0, 0) _ rfl hb7 Tryz.underlying44 rfl Ti_) rfl ?_; exact ⟨.inr ⟨i, HIX.out, hil, _, _, _, _, _, _, rfl, ⟨(Kd.F_far (Kd.F_far (Kd.F_far (Kd.F_far (Kd.F_far (Kd.F_far HF3.out (p := ⟨g, 0, none⟩) (fun q hq => by show q ≠ g; omega) (.string (atP l n i).f0)) (p := ⟨g, 1, none⟩) (fun q hq => by show q ≠ g; omega) (.int .i64 (atP l n i).f1)) (p := ⟨g, 2, none⟩) (fun q hq => by show q ≠ g; omega) (.int .i64 (atP l n i).f2)) (p := ⟨g, 3, none⟩) (fun q hq => by show q ≠ g; omega) (.slice P3 (atP l n i).f3.length q3)) (p := ⟨g, 4, none⟩) (fun q hq => by show q ≠ g; omega) (.slice P4 (atP l n i).f4.length q4)) (p := ⟨g, 5, none⟩) (fun q hq => by show q ≠ g; omega) (.slice P5 (atP l n i).f5.length q5)) _ (fun _ _ _ => rfl), HK.out.1⟩, ⟨(Kd.F_far (Kd.F_far (Kd.F_far (Kd.F_far (Kd.F_far (Kd.F_far HF4.out (p := ⟨g, 0, none⟩) (fun q hq => by show q ≠ g; omega) (.string (atP l n i).f0)) (p := ⟨g, 1, none⟩) (fun q hq => by show q ≠ g; omega) (.int .i64 (atP l n i).f1)) (p := ⟨g, 2, none⟩) (fun q hq => by show q ≠ g; omega) (.int .i64 (atP l n i).f2)) (p := ⟨g, 3, none⟩) (fun q hq => by show q ≠ g; omega) (.slice P3 (atP l n i).f3.length q3)) (p := ⟨g, 4, none⟩) (fun q hq => by show q ≠ g; omega) (.slice P4 (atP l n i).f4.length q4)) (p := ⟨g, 5, none⟩) (fun q hq => by show q ≠ g; omega) (.slice P5 (atP l n i).f5.length q5)) _ (fun _ _ _ => rfl), HK.out.2.1⟩, ⟨(Kd.F_far (Kd.F_far (Kd.F_far (Kd.F_far (Kd.F_far (Kd.F_far HF5.out (p := ⟨g, 0, none⟩) (fun q hq => by show q ≠ g; omega) (.string (atP l n i).f0)) (p := ⟨g, 1, none⟩) (fun q hq => by show q ≠ g; omega) (.int .i64 (atP l n i).f1)) (p := ⟨g, 2, none⟩) (fun q hq => by show q ≠ g; omega) (.int .i64 (atP l n i).f2)) (p := ⟨g, 3, none⟩) (fun q hq => by show q ≠ g; omega) (.slice P3 (atP l n i).f3.length q3)) (p := ⟨g, 4, none⟩) (fun q hq => by show q ≠ g; omega) (.slice P4 (atP l n i).f4.length q4)) (p := ⟨g, 5, none⟩) (fun q hq => by show q ≠ g; omega) (.slice P5 (atP l n i).f5.length q5)) _ (fun _ _ _ => rfl), HK.out.2.2⟩⟩, (Below.setCell (p := ⟨g, 5, none⟩) (Below.setCell (p := ⟨g, 4, none⟩) (Below.setCell (p := ⟨g, 3, none⟩) (Below.setCell (p := ⟨g, 2, none⟩) (Below.setCell (p := ⟨g, 1, none⟩) (Below.setCell (p := ⟨g, 0, none⟩) HBW.out HG.out.1 (.string (atP l n i).f0)) HG.out.1 (.int .i64 (atP l n i).f1)) HG.out.1 (.int .i64 (atP l n i).f2)) HG.out.1 (.slice P3 (atP l n i).f3.length q3)) HG.out.1 (.slice P4 (atP l n i).f4.length q4)) HG.out.1 (.slice P5 (atP l n i).f5.length q5))⟩
 have hilz : decide ((i : Int) < (l.length : Int)) = false := by simp; omega
 have hilz' : decide (i < l.length) = false := by simp; omega
 have hix : xc_ (hitL id) l < 0 := by
  rw [nh_ (fun j hj h => HM.out j Td_ h)]
  decide
 have HZ3 := HZ.out
 have hle : w.heap.size ≤ g := by omega
 have hbw : Below w.heap.size w W2 := by rw [hgg]; exact HB.out
 have HG := aM_ hle
 have HIX := aM_ hix
 have HBW := aM_ hbw
 have hb0 := ba_ HZ3 0
 have hf0 := ha_ HZ3 0
 have hb1 := ba_ HZ3 1
 have hf1 := ha_ HZ3 1
 have hb2 := ba_ HZ3 2
 have hf2 := ha_ HZ3 2
 have hb3 := ba_ HZ3 3
 have hf3 := ha_ HZ3 3
 have hb4 := ba_ HZ3 4
 have hf4 := ha_ HZ3 4
 have hb5 := ba_ HZ3 5
 have hf5 := ha_ HZ3 5
 clear hix hbw hle hgg
 go_wp2
 have hix := HIX.out
 have hb7 : ((((((W2.setCell ⟨g, 0, none⟩ (.string ⟨#[]⟩)).setCell ⟨g, 1, none⟩ (.int .i64 0)).setCell ⟨g, 2, none⟩ (.int .i64 0)).setCell ⟨g, 3, none⟩ (.slice none 0 0)).setCell ⟨g, 4, none⟩ (.slice none 0 0)).setCell ⟨g, 5, none⟩ (.slice none 0 0)).heap[g]? = some (.cells #[.string ⟨#[]⟩, .int .i64 0, .int .i64 0, .slice none 0 0, .slice none 0 0, .slice none 0 0] 44 (0, 0)) := by simpa using (qa_ (qa_ (qa_ (qa_ (qa_ (qa_ HZ3 0 (.string ⟨#[]⟩)) 1 (.int .i64 0)) 2 (.int .i64 0)) 3 (.slice none 0 0)) 4 (.slice none 0 0)) 5 (.slice none 0 0))
 refine bodyPost_ret (hh_ rfl _ _ g 44 #[.string ⟨#[]⟩, .int .i64 0, .int .i64 0, .slice none 0 0, .slice none 0 0, .slice none 0 0] (0, 0) _ rfl hb7 Tryz.underlying44 rfl Ti_) rfl ?_
 exact ⟨.inl ⟨hix, rfl⟩, (Below.setCell (p := ⟨g, 5, none⟩) (Below.setCell (p := ⟨g, 4, none⟩) (Below.setCell (p := ⟨g, 3, none⟩) (Below.setCell (p := ⟨g, 2, none⟩) (Below.setCell (p := ⟨g, 1, none⟩) (Below.setCell (p := ⟨g, 0, none⟩) HBW.out HG.out (.string ⟨#[]⟩)) HG.out (.int .i64 0)) HG.out (.int .i64 0)) HG.out (.slice none 0 0)) HG.out (.slice none 0 0)) HG.out (.slice none 0 0))⟩
def pl (a : S44) : S44 := ⟨a.f0, -1, a.f2, a.f3, a.f4, a.f5⟩
theorem same_w (a b : S44) (A3 A4 A5 B3 B4 B5 : Option Addr) (c3 c4 c5 d3 d4 d5 : Nat) (w : World) (a3 : Kd.C k46 w A3 a.f3.length a.f3) (l3 : a.f3.length ≤ c3) (a4 : Kd.C k56 w A4 a.f4.length a.f4) (l4 : a.f4.length ≤ c4) (a5 : Kd.C k52 w A5 a.f5.length a.f5) (l5 : a.f5.length ≤ c5) (b3 : Kd.C k46 w B3 b.f3.length b.f3) (m3 : b.f3.length ≤ d3) (b4 : Kd.C k56 w B4 b.f4.length b.f4) (m4 : b.f4.length ≤ d4) (b5 : Kd.C k52 w B5 b.f5.length b.f5) (m5 : b.f5.length ≤ d5) (ha : (enc8 [pl a]).length ≤ 1000000000000) (hb : (enc8 [pl b]).length ≤ 1000000000000) :
  Calls Tryz.prog 25 #[.agg #[.string a.f0, .int .i64 a.f1, .int .i64 a.f2, .slice A3 a.f3.length c3, .slice A4 a.f4.length c4, .slice A5 a.f5.length c5], .agg #[.string b.f0, .int .i64 b.f1, .int .i64 b.f2, .slice B3 b.f3.length d3, .slice B4 b.f4.length d4, .slice B5 b.f5.length d5]] w fun e w' => e = .returned (.bool (pf_ [pl a] [pl b])) ∧ Below w.heap.size w w' := by
 have HSA : Az (∀ (W : World) (nA nB : Nat), Below w.heap.size w W → W.heap[nA]? = some (.cells #[.string a.f0, .int .i64 (-1), .int .i64 a.f2, .slice A3 a.f3.length c3, .slice A4 a.f4.length c4, .slice A5 a.f5.length c5] 44 (0, 0)) → W.heap[nB]? = some (.cells #[.string b.f0, .int .i64 (-1), .int .i64 b.f2, .slice B3 b.f3.length d3, .slice B4 b.f4.length d4, .slice B5 b.f5.length d5] 44 (0, 0)) → Calls Tryz.prog 18 #[.slice (some ⟨nA, 0, none⟩) 1 1, .slice (some ⟨nB, 0, none⟩) 1 1] W fun e w' => e = .returned (.bool (pf_ [pl a] [pl b])) ∧ Below W.heap.size W w') := ⟨fun W nA nB hW hA hB => by
  refine pt_ (some ⟨nA, 0, none⟩) (some ⟨nB, 0, none⟩) 1 1 [pl a] [pl b] W (ai_ (xs := [pl a]) hA Tt_ (ts_ (lm_ W (pl a) l3 (Kd.C_below a3 hW) l4 (Kd.C_below a4 hW) l5 (Kd.C_below a5 hW)) rfl)) (Nat.le_refl _) ha (ai_ (xs := [pl b]) hB Tt_ (ts_ (lm_ W (pl b) m3 (Kd.C_below b3 hW) m4 (Kd.C_below b4 hW) m5 (Kd.C_below b5 hW)) rfl)) (Nat.le_refl _) hb⟩
 generalize pf_ [pl a] [pl b] = r at *
 have hu1 := Tryz.underlying44
 clear a3 l3 a4 l4 a5 l5 b3 m3 b4 m4 b5 m5 ha hb
 have hs1 : ((w.alloc (.cells #[.string a.f0, .int .i64 (-1), .int .i64 a.f2, .slice A3 a.f3.length c3, .slice A4 a.f4.length c4, .slice A5 a.f5.length c5] 44)).alloc (.cells #[.string b.f0, .int .i64 (-1), .int .i64 b.f2, .slice B3 b.f3.length d3, .slice B4 b.f4.length d4, .slice B5 b.f5.length d5] 44)).heap.size = w.heap.size + 1 + 1 := by simp
 have hs2 : (((w.alloc (.cells #[.string a.f0, .int .i64 (-1), .int .i64 a.f2, .slice A3 a.f3.length c3, .slice A4 a.f4.length c4, .slice A5 a.f5.length c5] 44)).alloc (.cells #[.string b.f0, .int .i64 (-1), .int .i64 b.f2, .slice B3 b.f3.length d3, .slice B4 b.f4.length d4, .slice B5 b.f5.length d5] 44)).alloc (.cells #[.string a.f0, .int .i64 (-1), .int .i64 a.f2, .slice A3 a.f3.length c3, .slice A4 a.f4.length c4, .slice A5 a.f5.length c5] 44)).heap.size = w.heap.size + 1 + 1 + 1 := by simp
 have hA := oa_ ((w.alloc (.cells #[.string a.f0, .int .i64 (-1), .int .i64 a.f2, .slice A3 a.f3.length c3, .slice A4 a.f4.length c4, .slice A5 a.f5.length c5] 44)).alloc (.cells #[.string b.f0, .int .i64 (-1), .int .i64 b.f2, .slice B3 b.f3.length d3, .slice B4 b.f4.length d4, .slice B5 b.f5.length d5] 44)) (.cells #[.string a.f0, .int .i64 (-1), .int .i64 a.f2, .slice A3 a.f3.length c3, .slice A4 a.f4.length c4, .slice A5 a.f5.length c5] 44)
 have hB := oa_ (((w.alloc (.cells #[.string a.f0, .int .i64 (-1), .int .i64 a.f2, .slice A3 a.f3.length c3, .slice A4 a.f4.length c4, .slice A5 a.f5.length c5] 44)).alloc (.cells #[.string b.f0, .int .i64 (-1), .int .i64 b.f2, .slice B3 b.f3.length d3, .slice B4 b.f4.length d4, .slice B5 b.f5.length d5] 44)).alloc (.cells #[.string a.f0, .int .i64 (-1), .int .i64 a.f2, .slice A3 a.f3.length c3, .slice A4 a.f4.length c4, .slice A5 a.f5.length c5] 44)) (.cells #[.string b.f0, .int .i64 (-1), .int .i64 b.f2, .slice B3 b.f3.length d3, .slice B4 b.f4.length d4, .slice B5 b.f5.length d5] 44)
 rw [hs1] at hA
 rw [hs2] at hB
 have hbw := aa_ (aa_ (aa_ (aa_ (Below.refl w.heap.size w) (.cells #[.string a.f0, .int .i64 (-1), .int .i64 a.f2, .slice A3 a.f3.length c3, .slice A4 a.f4.length c4, .slice A5 a.f5.length c5] 44)) (.cells #[.string b.f0, .int .i64 (-1), .int .i64 b.f2, .slice B3 b.f3.length d3, .slice B4 b.f4.length d4, .slice B5 b.f5.length d5] 44)) (.cells #[.string a.f0, .int .i64 (-1), .int .i64 a.f2, .slice A3 a.f3.length c3, .slice A4 a.f4.length c4, .slice A5 a.f5.length c5] 44)) (.cells #[.string b.f0, .int .i64 (-1), .int .i64 b.f2, .slice B3 b.f3.length d3, .slice B4 b.f4.length d4, .slice B5 b.f5.length d5] 44)
 have HQ := aM_ (HSA.out _ _ _ hbw (la_ hA (aa_ (Below.refl _ _) _)) hB)
 have HBW := aM_ hbw
 clear hs1 hs2 hA hB hbw HSA
 go_enter Tryz.func25, Tryz.ntmps25
 go_wp2_with fail
 refine HQ.out.mono ?_
 rintro e w9 ⟨rfl, hb⟩
 have HBF := aM_ (da_ HBW.out hb)
 clear hb HQ HBW
 go_wp2
 go_ret
 exact ⟨rfl, HBF.out⟩
theorem ne_ {P : Program} {md : Region.Mode} {ops : Array Oper} {Q : Exit → Act → World → Prop} {S S' : World → Prop} (hs : ∀ w, S' w → S w) : ∀ (fuel : Nat) (l : Array Bool) (a : Act) (w : World), S' w → ra_ P md ops Q S' [] fuel l a w → ra_ P md ops Q S [] fuel l a w
 | 0, _, _, _, _, h => h
 | fuel + 1, l, a, w, hw, h => ⟨h.1, fun i hi => wpOp_mono (fun a' w' h' => ⟨fun _ _ => hs _ (h'.1 Tt_ hw), ne_ hs fuel _ _ _ (h'.1 Tt_ hw) h'.2⟩) (h.2 i hi)⟩
theorem fi_ (a n : Int) (w : World) (hn : 0 < n) (hn2 : n ≤ 4611686018427387904) : Calls Tryz.prog 19 #[.int .i64 a, .int .i64 n] w fun e w' => e = .returned (.int .i64 (a % n)) ∧ Below w.heap.size w w' :=
 Calls.mono (l5_within.calls a n _ w (sh_ a n hn hn2)) Wi_
abbrev okF (w : World) (g k : Nat) : Prop := w.heap.size ≤ k ∧ k ≠ g
structure MkF (w : World) (g : Nat) (C : Array Value) (v : Value) (t : List S44) (W : World) : Prop where
 row : Kd.N k44 44 W w.heap.size (okF w g) v t
 blk : W.heap[g]? = some (.cells C 24 (0, 0))
 old : Below w.heap.size w W
theorem MkF.step {w : World} {g : Nat} {C : Array Value} {v : Value} {t : List S44} {W W' : World} (h : MkF w g C v t W) (hb : Below W.heap.size W W') : MkF w g C v t W' := ⟨Kd.N_below h.row hb, la_ h.blk hb, da_ h.old hb⟩
def RuF (w : World) (g : Nat) (v : Value) (A : Option Addr) (c : Nat) (res : List S56) (W : World) : Prop := Kd.F k56 W (fun k => okF w g k ∧ some k ≠ v.ownBlock) A res.length res ∧ res.length ≤ c
theorem RuF.step {w : World} {g : Nat} {v : Value} {A : Option Addr} {c : Nat} {res : List S56} {W W' : World} (h : RuF w g v A c res W) (hb : Below W.heap.size W W') : RuF w g v A c res W' := ⟨Kd.F_below h.1 hb, h.2⟩
theorem RuF.of {w : World} {g : Nat} {C : Array Value} {v : Value} {t : List S44} {W W' : World} {A : Option Addr} {c : Nat} {res : List S56} (h : MkF w g C v t W) (hN : Kd.N k56 56 W' W.heap.size (fun k => W.heap.size ≤ k) (.slice A res.length c) res) : RuF w g v A c res W' :=
 ⟨Kd.N_F (Kd.N_mono hN (fun k hk => ⟨⟨Nat.le_trans h.old.size hk, by have := bb_ h.blk; omega⟩, fun he => by have := Kd.N_lt h.row k he.symm; omega⟩)), (Kd.N_reads' hN).2.1⟩
def yq_ (t x3 xh : Int) : List S46 := [⟨rdOf ByteArray.empty ud_ t, wrap64 (1 + x3), wrap64 (xh - 5)⟩, ⟨⟨#[116, 119, 111]⟩, 2, 2⟩]
theorem LexF.of {w : World} {g : Nat} {C : Array Value} {v : Value} {t : List S44} {W W' : World} {A : Option Addr} {c n : Nat} {ys : List S46} (h : MkF w g C v t W) (ho : Kd.R k46 46 W' W.heap.size (fun _ => True) (.slice A n c) ys) : Kd.F k46 W' (fun k => okF w g k ∧ some k ≠ v.ownBlock) A ys.length ys ∧ ys.length ≤ c := by
 have h2 := Kd.R_reads' ho
 have h3 := Kd.R_F (Kd.R_mono (Kd.R_bound ho) (ok' := fun k => okF w g k ∧ some k ≠ v.ownBlock) (fun k hk => ⟨⟨Nat.le_trans h.old.size hk.2.1, by have := bb_ h.blk; have := hk.2.1; omega⟩, fun he => by have := Kd.N_lt h.row k he.symm; have := hk.2.1; omega⟩))
 rw [h2.1] at h3
 exact ⟨h3, Td_⟩
theorem xg_ (b : Nat) (t : Int) (h : 0 ≤ t ∧ t < 5) (W : World) (hb : W.heap[b]? = some (.cells #[.string (⟨#[111, 110, 101]⟩ : BA), .string (⟨#[120, 32, 121]⟩ : BA), .string (⟨#[195, 164]⟩ : BA), .string (⟨#[55, 117, 112]⟩ : BA), .string (⟨#[45]⟩ : BA)] 9 (0, 0))) : W.cell? ((⟨b, 0, none⟩ : Addr).add t.toNat) = some (.string (rdOf ByteArray.empty ud_ t)) := by
 have h5 : t = 0 ∨ t = 1 ∨ t = 2 ∨ t = 3 ∨ t = 4 := by omega
 rcases h5 with rfl | rfl | rfl | rfl | rfl
 ·exact ba_ hb 0
 ·exact ba_ hb 1
 ·exact ba_ hb 2
 ·exact ba_ hb 3
 exact ba_ hb 4
theorem ls_ (a0 a1 a2 a3 d4 t x3 xh : Int) (A4 : Option Addr) (c4 : Nat) (l : List Raw') (S : List S44) (res : List S56) (w : World) (hr : Kd.C k120 w A4 l.length l) (hc : l.length ≤ c4)
  (hS : l5_Sample.f a0 a1 = some S) (hSL : S.length = 3) (hres : l4_Rules.f 300 l 6 = some res) (h0 : a1 % 4 = d4) (h1 : a2 % 5 = t) (h2 : a3 % 3 = x3) (h3 : a3 % 100 = xh) :
  Calls Tryz.prog 13 #[.agg #[.int .i64 a0, .int .i64 a1, .int .i64 a2, .int .i64 a3, .slice A4 l.length c4, .bool true]] w fun e w' => ∃ v, e = .returned v ∧ Kd.N k44 44 w' w.heap.size (fun k => w.heap.size ≤ k) v (S ++ [⟨⟨#[120]⟩, -1, d4, yq_ t x3 xh, res, []⟩]) ∧ Below w.heap.size w w' := by
 have HW0 : Az (∀ W, Calls Tryz.prog 19 #[.int .i64 a1, .int .i64 4] W fun e w' => e = .returned (.int .i64 d4) ∧ Below W.heap.size W w') := ⟨fun W => h0 ▸ fi_ a1 4 W Td_ Td_⟩
 have HW1 : Az (∀ W, Calls Tryz.prog 19 #[.int .i64 a2, .int .i64 5] W fun e w' => e = .returned (.int .i64 t) ∧ Below W.heap.size W w') := ⟨fun W => h1 ▸ fi_ a2 5 W Td_ Td_⟩
 have HW2 : Az (∀ W, Calls Tryz.prog 19 #[.int .i64 a3, .int .i64 3] W fun e w' => e = .returned (.int .i64 x3) ∧ Below W.heap.size W w') := ⟨fun W => h2 ▸ fi_ a3 3 W Td_ Td_⟩
 have HW3 : Az (∀ W, Calls Tryz.prog 19 #[.int .i64 a3, .int .i64 100] W fun e w' => e = .returned (.int .i64 xh) ∧ Below W.heap.size W w') := ⟨fun W => h3 ▸ fi_ a3 100 W Td_ Td_⟩
 have HTB : Az (0 ≤ t ∧ t < 5) := ⟨Td_⟩
 have ht0 : 0 ≤ t := HTB.out.1
 have ht5 : t < 5 := HTB.out.2
 have HC := aM_ hr
 have HLC := aM_ hc
 have HRES := aM_ hres
 have HSS := aM_ hS
 have HSL := aM_ hSL
 have hu1 := Tryz.underlying24
 have hu2 := Tryz.underlying46
 have hu3 := Tryz.underlying44
 clear hr hc hS hSL hres h0 h1 h2 h3
 have HBK : Az ((w.alloc (.cells #[.int .i64 a0, .int .i64 a1, .int .i64 a2, .int .i64 a3, .slice A4 l.length c4, .bool true] 24)).heap[w.heap.size]? = some (.cells #[.int .i64 a0, .int .i64 a1, .int .i64 a2, .int .i64 a3, .slice A4 l.length c4, .bool true] 24 (0, 0))) := ⟨oa_ w _⟩
 have HB1 : Az (Below w.heap.size w (w.alloc (.cells #[.int .i64 a0, .int .i64 a1, .int .i64 a2, .int .i64 a3, .slice A4 l.length c4, .bool true] 24))) := ⟨aa_ (Below.refl _ _) _⟩
 go_enter Tryz.func13, Tryz.ntmps13
 go_wp2_with fail
 generalize w.alloc (.cells #[.int .i64 a0, .int .i64 a1, .int .i64 a2, .int .i64 a3, .slice A4 l.length c4, .bool true] 24) = W1 at *
 generalize hgg : w.heap.size = g at *
 have hc0 : W1.cell? ⟨g, 0, none⟩ = some (.int .i64 a0) := ba_ HBK.out 0
 have hc1 : W1.cell? ⟨g, 1, none⟩ = some (.int .i64 a1) := ba_ HBK.out 1
 go_wp2_with fail
 have HGG := aM_ hgg
 clear hgg
 refine (l5_Sample.calls a0 a1 S W1 HSS.out).mono ?_
 rintro e W2 ⟨vs, rfl, hN, hb⟩
 obtain ⟨As, cs, hvs⟩ := Kd.N_slice hN
 subst hvs
 have hBw : Below w.heap.size w W1 := by rw [HGG.out]; exact HB1.out
 have hgW := bb_ HBK.out
 have HF : Az (MkF w g #[.int .i64 a0, .int .i64 a1, .int .i64 a2, .int .i64 a3, .slice A4 l.length c4, .bool true] (.slice As S.length cs) S W2) := ⟨⟨Kd.N_mono (Kd.N_lower hN hBw.size) (fun k hk => ⟨Nat.le_trans hBw.size hk, Td_⟩), la_ HBK.out hb, da_ hBw hb⟩⟩
 clear hBw hgW
 have hc5 : W2.cell? ⟨g, 5, none⟩ = some (.bool true) := ba_ HF.out.blk 5
 clear hN hb HBK HB1 hc0 hc1
 go_wp2_with fail
 generalize W2 = W5 at *
 refine fd_ (n := 28) (S := fun w' => w'.heap[g]? = some (.cells #[.int .i64 a0, .int .i64 a1, .int .i64 a2, .int .i64 a3, .slice A4 l.length c4, .bool true] 24 (0, 0)) ∧ w'.heap[g]? = some (.cells #[.int .i64 a0, .int .i64 a1, .int .i64 a2, .int .i64 a3, .slice A4 l.length c4, .bool true] 24 (0, 0))) (ds := []) (f_ 28 0) Ti_ rfl rfl ⟨HF.out.blk, HF.out.blk⟩ (fun hHeld => ?_)
 replace HF := aM_ (MkF.step HF.out (ga_ (Below.refl W5.heap.size W5)))
 generalize W5.drew = W9 at *
 refine pV_ 0 ?_
 refine pV_ 1 ?_
 refine tV1_ 2 ?_ (hy := Ue_)
 refine pV_ 4 ?_
 refine tV1_ 5 ?_ (hy := Ue_)
 refine pV_ 8 ?_
 refine tV1_ 9 ?_ (hy := Ue_)
 refine pV_ 13 ?_
 refine tV1_ 14 ?_ (hy := Ue_)
 refine pV_ 17 ?_
 refine tV1_ 18 ?_ (hy := Ue_)
 refine pV_ 22 ?_
 focus
  refine wN_ 3 7 (fun K hK => ?_) fun K hK => ?_
  rotate_left
  focus
   refine cd_ (w1 := ?_) (v := ?_) Vh_ rfl ?_ ?_; rotate_left 2
   ·go_simp
    constructor
    ·rfl
    rfl
   have HT := aM_ (oa_ W9 (.cells #[.string (⟨#[111, 110, 101]⟩ : BA), .string (⟨#[120, 32, 121]⟩ : BA), .string (⟨#[195, 164]⟩ : BA), .string (⟨#[55, 117, 112]⟩ : BA), .string (⟨#[45]⟩ : BA)] 9)); replace HF := aM_ (MkF.step HF.out (aa_ (Below.refl W9.heap.size W9) (.cells #[.string (⟨#[111, 110, 101]⟩ : BA), .string (⟨#[120, 32, 121]⟩ : BA), .string (⟨#[195, 164]⟩ : BA), .string (⟨#[55, 117, 112]⟩ : BA), .string (⟨#[45]⟩ : BA)] 9))); refine hK.out _ _ ⟨HF.out.blk, HF.out.blk⟩ (fun hHeld => ?_); clear hK K hHeld; refine nO_ ?_; generalize W9.alloc (.cells #[.string (⟨#[111, 110, 101]⟩ : BA), .string (⟨#[120, 32, 121]⟩ : BA), .string (⟨#[195, 164]⟩ : BA), .string (⟨#[55, 117, 112]⟩ : BA), .string (⟨#[45]⟩ : BA)] 9) = W8 at *; generalize hbn : W9.heap.size = b at *; have HSC := xg_ b t HTB.out; generalize (⟨b, 0, none⟩ : Addr) = ad at *; have hHeld : W8.heap[g]? = some (.cells #[.int .i64 a0, .int .i64 a1, .int .i64 a2, .int .i64 a3, .slice A4 l.length c4, .bool true] 24 (0, 0)) ∧ W8.cell? (ad.add t.toNat) = some (.string (rdOf ByteArray.empty ud_ t)) := ⟨HF.out.blk, HSC _ HT.out⟩; refine ne_ (S' := fun w' => w'.heap[g]? = some (.cells #[.int .i64 a0, .int .i64 a1, .int .i64 a2, .int .i64 a3, .slice A4 l.length c4, .bool true] 24 (0, 0)) ∧ w'.cell? (ad.add t.toNat) = some (.string (rdOf ByteArray.empty ud_ t))) (fun _ h => ⟨h.1, h.1⟩) _ _ _ _ hHeld ?_; clear hbn
  rotate_left
  focus
   refine gO_ Tryz.func19 #[.int .i64 a1, .int .i64 4] ?_
   refine (HW0.out _).mono ?_; rintro e W9 ⟨rfl, hb⟩; replace HF := aM_ (MkF.step HF.out hb); clear hb; refine ⟨_, rfl, ?_⟩; refine hK.out _ _ ⟨HF.out.blk, HF.out.blk⟩ (fun hHeld => ?_); clear hK K; refine nO_ ?_
 all_goals try
  refine oN_ 3 fun K hK => ?_
  refine gO_ Tryz.func19 #[.int .i64 a1, .int .i64 4] ?_
  refine (HW0.out _).mono ?_; rintro e W9 ⟨rfl, hb⟩; replace HF := aM_ (MkF.step HF.out hb); replace HT := aM_ (la_ HT.out hb); clear hb; refine ⟨_, rfl, ?_⟩; refine hK.out _ _ ⟨HF.out.blk, HSC _ HT.out⟩ (fun hHeld => ?_); clear hK K; refine nO_ ?_
 focus
  refine wN_ 6 7 (fun K hK => ?_) fun K hK => ?_
  rotate_left
  focus
   refine cd_ (w1 := ?_) (v := ?_) Vh_ rfl ?_ ?_; rotate_left 2
   ·go_simp
    constructor
    ·rfl
    rfl
   have HT := aM_ (oa_ W9 (.cells #[.string (⟨#[111, 110, 101]⟩ : BA), .string (⟨#[120, 32, 121]⟩ : BA), .string (⟨#[195, 164]⟩ : BA), .string (⟨#[55, 117, 112]⟩ : BA), .string (⟨#[45]⟩ : BA)] 9)); replace HF := aM_ (MkF.step HF.out (aa_ (Below.refl W9.heap.size W9) (.cells #[.string (⟨#[111, 110, 101]⟩ : BA), .string (⟨#[120, 32, 121]⟩ : BA), .string (⟨#[195, 164]⟩ : BA), .string (⟨#[55, 117, 112]⟩ : BA), .string (⟨#[45]⟩ : BA)] 9))); refine hK.out _ _ ⟨HF.out.blk, HF.out.blk⟩ (fun hHeld => ?_); clear hK K hHeld; refine nO_ ?_; generalize W9.alloc (.cells #[.string (⟨#[111, 110, 101]⟩ : BA), .string (⟨#[120, 32, 121]⟩ : BA), .string (⟨#[195, 164]⟩ : BA), .string (⟨#[55, 117, 112]⟩ : BA), .string (⟨#[45]⟩ : BA)] 9) = W8 at *; generalize hbn : W9.heap.size = b at *; have HSC := xg_ b t HTB.out; generalize (⟨b, 0, none⟩ : Addr) = ad at *; have hHeld : W8.heap[g]? = some (.cells #[.int .i64 a0, .int .i64 a1, .int .i64 a2, .int .i64 a3, .slice A4 l.length c4, .bool true] 24 (0, 0)) ∧ W8.cell? (ad.add t.toNat) = some (.string (rdOf ByteArray.empty ud_ t)) := ⟨HF.out.blk, HSC _ HT.out⟩; refine ne_ (S' := fun w' => w'.heap[g]? = some (.cells #[.int .i64 a0, .int .i64 a1, .int .i64 a2, .int .i64 a3, .slice A4 l.length c4, .bool true] 24 (0, 0)) ∧ w'.cell? (ad.add t.toNat) = some (.string (rdOf ByteArray.empty ud_ t))) (fun _ h => ⟨h.1, h.1⟩) _ _ _ _ hHeld ?_; clear hbn
  rotate_left
  focus
   refine gO_ Tryz.func32 #[.slice A4 l.length c4, .int .i64 6] ?_
   refine (l4_Rules.calls 300 A4 c4 l 6 res _ (Kd.C_below HC.out HF.out.old) HLC.out HRES.out).mono ?_; rintro e W9 ⟨vr, rfl, hN, hb⟩; obtain ⟨A7, c7, hvr⟩ := Kd.N_slice hN; subst hvr; have HU := aM_ (RuF.of HF.out hN); clear hN; replace HF := aM_ (MkF.step HF.out hb); clear hb; refine ⟨_, rfl, ?_⟩; refine hK.out _ _ ⟨HF.out.blk, HF.out.blk⟩ (fun hHeld => ?_); clear hK K; refine nO_ ?_
 all_goals try
  refine oN_ 6 fun K hK => ?_
  refine gO_ Tryz.func32 #[.slice A4 l.length c4, .int .i64 6] ?_
  refine (l4_Rules.calls 300 A4 c4 l 6 res _ (Kd.C_below HC.out HF.out.old) HLC.out HRES.out).mono ?_; rintro e W9 ⟨vr, rfl, hN, hb⟩; obtain ⟨A7, c7, hvr⟩ := Kd.N_slice hN; subst hvr; have HU := aM_ (RuF.of HF.out hN); clear hN; replace HF := aM_ (MkF.step HF.out hb); replace HT := aM_ (la_ HT.out hb); clear hb; refine ⟨_, rfl, ?_⟩; refine hK.out _ _ ⟨HF.out.blk, HSC _ HT.out⟩ (fun hHeld => ?_); clear hK K; refine nO_ ?_
 focus
  refine wN_ 7 10 (fun K hK => ?_) fun K hK => ?_
  focus
   refine cd_ (w1 := ?_) (v := ?_) Vh_ rfl ?_ ?_; rotate_left 2
   ·go_simp
    constructor
    ·rfl
    rfl
   have HT := aM_ (oa_ W9 (.cells #[.string (⟨#[111, 110, 101]⟩ : BA), .string (⟨#[120, 32, 121]⟩ : BA), .string (⟨#[195, 164]⟩ : BA), .string (⟨#[55, 117, 112]⟩ : BA), .string (⟨#[45]⟩ : BA)] 9)); replace HF := aM_ (MkF.step HF.out (aa_ (Below.refl W9.heap.size W9) (.cells #[.string (⟨#[111, 110, 101]⟩ : BA), .string (⟨#[120, 32, 121]⟩ : BA), .string (⟨#[195, 164]⟩ : BA), .string (⟨#[55, 117, 112]⟩ : BA), .string (⟨#[45]⟩ : BA)] 9))); replace HU := aM_ (RuF.step HU.out (aa_ (Below.refl W9.heap.size W9) (.cells #[.string (⟨#[111, 110, 101]⟩ : BA), .string (⟨#[120, 32, 121]⟩ : BA), .string (⟨#[195, 164]⟩ : BA), .string (⟨#[55, 117, 112]⟩ : BA), .string (⟨#[45]⟩ : BA)] 9))); refine hK.out _ _ ⟨HF.out.blk, HF.out.blk⟩ (fun hHeld => ?_); clear hK K hHeld; refine nO_ ?_; generalize W9.alloc (.cells #[.string (⟨#[111, 110, 101]⟩ : BA), .string (⟨#[120, 32, 121]⟩ : BA), .string (⟨#[195, 164]⟩ : BA), .string (⟨#[55, 117, 112]⟩ : BA), .string (⟨#[45]⟩ : BA)] 9) = W8 at *; generalize hbn : W9.heap.size = b at *; have HSC := xg_ b t HTB.out; generalize (⟨b, 0, none⟩ : Addr) = ad at *; have hHeld : W8.heap[g]? = some (.cells #[.int .i64 a0, .int .i64 a1, .int .i64 a2, .int .i64 a3, .slice A4 l.length c4, .bool true] 24 (0, 0)) ∧ W8.cell? (ad.add t.toNat) = some (.string (rdOf ByteArray.empty ud_ t)) := ⟨HF.out.blk, HSC _ HT.out⟩; refine ne_ (S' := fun w' => w'.heap[g]? = some (.cells #[.int .i64 a0, .int .i64 a1, .int .i64 a2, .int .i64 a3, .slice A4 l.length c4, .bool true] 24 (0, 0)) ∧ w'.cell? (ad.add t.toNat) = some (.string (rdOf ByteArray.empty ud_ t))) (fun _ h => ⟨h.1, h.1⟩) _ _ _ _ hHeld ?_; clear hbn
  rotate_left
  focus
   refine gO_ Tryz.func19 #[.int .i64 a2, .int .i64 5] ?_
   refine (HW1.out _).mono ?_; rintro e W9 ⟨rfl, hb⟩; replace HU := aM_ (RuF.step HU.out hb); replace HF := aM_ (MkF.step HF.out hb); clear hb; refine ⟨_, rfl, ?_⟩; refine hK.out _ _ ⟨HF.out.blk, HF.out.blk⟩ (fun hHeld => ?_); clear hK K; refine nO_ ?_
 all_goals try
  refine oN_ 10 fun K hK => ?_
  refine gO_ Tryz.func19 #[.int .i64 a2, .int .i64 5] ?_
  refine (HW1.out _).mono ?_; rintro e W9 ⟨rfl, hb⟩; replace HU := aM_ (RuF.step HU.out hb); replace HF := aM_ (MkF.step HF.out hb); replace HT := aM_ (la_ HT.out hb); clear hb; refine ⟨_, rfl, ?_⟩; refine hK.out _ _ ⟨HF.out.blk, HSC _ HT.out⟩ (fun hHeld => ?_); clear hK K; refine nO_ ?_; refine pV_ 11 ?_; refine tV2_ 12 ?_
 focus
  refine wN_ 7 15 (fun K hK => ?_) fun K hK => ?_
  focus
   refine cd_ (w1 := ?_) (v := ?_) Vh_ rfl ?_ ?_; rotate_left 2
   ·go_simp
    constructor
    ·rfl
    rfl
   have HT := aM_ (oa_ W9 (.cells #[.string (⟨#[111, 110, 101]⟩ : BA), .string (⟨#[120, 32, 121]⟩ : BA), .string (⟨#[195, 164]⟩ : BA), .string (⟨#[55, 117, 112]⟩ : BA), .string (⟨#[45]⟩ : BA)] 9)); replace HF := aM_ (MkF.step HF.out (aa_ (Below.refl W9.heap.size W9) (.cells #[.string (⟨#[111, 110, 101]⟩ : BA), .string (⟨#[120, 32, 121]⟩ : BA), .string (⟨#[195, 164]⟩ : BA), .string (⟨#[55, 117, 112]⟩ : BA), .string (⟨#[45]⟩ : BA)] 9))); replace HU := aM_ (RuF.step HU.out (aa_ (Below.refl W9.heap.size W9) (.cells #[.string (⟨#[111, 110, 101]⟩ : BA), .string (⟨#[120, 32, 121]⟩ : BA), .string (⟨#[195, 164]⟩ : BA), .string (⟨#[55, 117, 112]⟩ : BA), .string (⟨#[45]⟩ : BA)] 9))); refine hK.out _ _ ⟨HF.out.blk, HF.out.blk⟩ (fun hHeld => ?_); clear hK K hHeld; refine nO_ ?_; generalize W9.alloc (.cells #[.string (⟨#[111, 110, 101]⟩ : BA), .string (⟨#[120, 32, 121]⟩ : BA), .string (⟨#[195, 164]⟩ : BA), .string (⟨#[55, 117, 112]⟩ : BA), .string (⟨#[45]⟩ : BA)] 9) = W8 at *; generalize hbn : W9.heap.size = b at *; have HSC := xg_ b t HTB.out; generalize (⟨b, 0, none⟩ : Addr) = ad at *; have hHeld : W8.heap[g]? = some (.cells #[.int .i64 a0, .int .i64 a1, .int .i64 a2, .int .i64 a3, .slice A4 l.length c4, .bool true] 24 (0, 0)) ∧ W8.cell? (ad.add t.toNat) = some (.string (rdOf ByteArray.empty ud_ t)) := ⟨HF.out.blk, HSC _ HT.out⟩; refine ne_ (S' := fun w' => w'.heap[g]? = some (.cells #[.int .i64 a0, .int .i64 a1, .int .i64 a2, .int .i64 a3, .slice A4 l.length c4, .bool true] 24 (0, 0)) ∧ w'.cell? (ad.add t.toNat) = some (.string (rdOf ByteArray.empty ud_ t))) (fun _ h => ⟨h.1, h.1⟩) _ _ _ _ hHeld ?_; clear hbn; refine pV_ 11 ?_; refine tV2_ 12 ?_
  rotate_left
  focus
   refine gO_ Tryz.func19 #[.int .i64 a3, .int .i64 3] ?_
   refine (HW2.out _).mono ?_; rintro e W9 ⟨rfl, hb⟩; replace HU := aM_ (RuF.step HU.out hb); replace HF := aM_ (MkF.step HF.out hb); clear hb; refine ⟨_, rfl, ?_⟩; refine hK.out _ _ ⟨HF.out.blk, HF.out.blk⟩ (fun hHeld => ?_); clear hK K; refine nO_ ?_; refine pV_ 16 ?_
 all_goals try
  refine oN_ 15 fun K hK => ?_
  refine gO_ Tryz.func19 #[.int .i64 a3, .int .i64 3] ?_
  refine (HW2.out _).mono ?_; rintro e W9 ⟨rfl, hb⟩; replace HU := aM_ (RuF.step HU.out hb); replace HF := aM_ (MkF.step HF.out hb); replace HT := aM_ (la_ HT.out hb); clear hb; refine ⟨_, rfl, ?_⟩; refine hK.out _ _ ⟨HF.out.blk, HSC _ HT.out⟩ (fun hHeld => ?_); clear hK K; refine nO_ ?_; refine pV_ 16 ?_
 focus
  refine wN_ 7 19 (fun K hK => ?_) fun K hK => ?_
  focus
   refine cd_ (w1 := ?_) (v := ?_) Vh_ rfl ?_ ?_; rotate_left 2
   ·go_simp
    constructor
    ·rfl
    rfl
   have HT := aM_ (oa_ W9 (.cells #[.string (⟨#[111, 110, 101]⟩ : BA), .string (⟨#[120, 32, 121]⟩ : BA), .string (⟨#[195, 164]⟩ : BA), .string (⟨#[55, 117, 112]⟩ : BA), .string (⟨#[45]⟩ : BA)] 9)); replace HF := aM_ (MkF.step HF.out (aa_ (Below.refl W9.heap.size W9) (.cells #[.string (⟨#[111, 110, 101]⟩ : BA), .string (⟨#[120, 32, 121]⟩ : BA), .string (⟨#[195, 164]⟩ : BA), .string (⟨#[55, 117, 112]⟩ : BA), .string (⟨#[45]⟩ : BA)] 9))); replace HU := aM_ (RuF.step HU.out (aa_ (Below.refl W9.heap.size W9) (.cells #[.string (⟨#[111, 110, 101]⟩ : BA), .string (⟨#[120, 32, 121]⟩ : BA), .string (⟨#[195, 164]⟩ : BA), .string (⟨#[55, 117, 112]⟩ : BA), .string (⟨#[45]⟩ : BA)] 9))); refine hK.out _ _ ⟨HF.out.blk, HF.out.blk⟩ (fun hHeld => ?_); clear hK K hHeld; refine nO_ ?_; generalize W9.alloc (.cells #[.string (⟨#[111, 110, 101]⟩ : BA), .string (⟨#[120, 32, 121]⟩ : BA), .string (⟨#[195, 164]⟩ : BA), .string (⟨#[55, 117, 112]⟩ : BA), .string (⟨#[45]⟩ : BA)] 9) = W8 at *; generalize hbn : W9.heap.size = b at *; have HSC := xg_ b t HTB.out; generalize (⟨b, 0, none⟩ : Addr) = ad at *; have hHeld : W8.heap[g]? = some (.cells #[.int .i64 a0, .int .i64 a1, .int .i64 a2, .int .i64 a3, .slice A4 l.length c4, .bool true] 24 (0, 0)) ∧ W8.cell? (ad.add t.toNat) = some (.string (rdOf ByteArray.empty ud_ t)) := ⟨HF.out.blk, HSC _ HT.out⟩; refine ne_ (S' := fun w' => w'.heap[g]? = some (.cells #[.int .i64 a0, .int .i64 a1, .int .i64 a2, .int .i64 a3, .slice A4 l.length c4, .bool true] 24 (0, 0)) ∧ w'.cell? (ad.add t.toNat) = some (.string (rdOf ByteArray.empty ud_ t))) (fun _ h => ⟨h.1, h.1⟩) _ _ _ _ hHeld ?_; clear hbn; refine pV_ 11 ?_; refine tV2_ 12 ?_
  rotate_left
  focus
   refine gO_ Tryz.func19 #[.int .i64 a3, .int .i64 100] ?_
   refine (HW3.out _).mono ?_; rintro e W9 ⟨rfl, hb⟩; replace HU := aM_ (RuF.step HU.out hb); replace HF := aM_ (MkF.step HF.out hb); clear hb; refine ⟨_, rfl, ?_⟩; refine hK.out _ _ ⟨HF.out.blk, HF.out.blk⟩ (fun hHeld => ?_); clear hK K; refine nO_ ?_; refine pV_ 20 ?_
 all_goals try
  refine oN_ 19 fun K hK => ?_
  refine gO_ Tryz.func19 #[.int .i64 a3, .int .i64 100] ?_
  refine (HW3.out _).mono ?_; rintro e W9 ⟨rfl, hb⟩; replace HU := aM_ (RuF.step HU.out hb); replace HF := aM_ (MkF.step HF.out hb); replace HT := aM_ (la_ HT.out hb); clear hb; refine ⟨_, rfl, ?_⟩; refine hK.out _ _ ⟨HF.out.blk, HSC _ HT.out⟩ (fun hHeld => ?_); clear hK K; refine nO_ ?_; refine pV_ 20 ?_; refine pV_ 21 ?_
 focus
  refine oN_ 7 fun K hK => ?_
  refine cd_ (w1 := ?_) (v := ?_) Vh_ rfl ?_ ?_; rotate_left 2
  ·go_simp
   constructor
   ·rfl
   rfl
  have HT := aM_ (oa_ W9 (.cells #[.string (⟨#[111, 110, 101]⟩ : BA), .string (⟨#[120, 32, 121]⟩ : BA), .string (⟨#[195, 164]⟩ : BA), .string (⟨#[55, 117, 112]⟩ : BA), .string (⟨#[45]⟩ : BA)] 9)); replace HF := aM_ (MkF.step HF.out (aa_ (Below.refl W9.heap.size W9) (.cells #[.string (⟨#[111, 110, 101]⟩ : BA), .string (⟨#[120, 32, 121]⟩ : BA), .string (⟨#[195, 164]⟩ : BA), .string (⟨#[55, 117, 112]⟩ : BA), .string (⟨#[45]⟩ : BA)] 9))); replace HU := aM_ (RuF.step HU.out (aa_ (Below.refl W9.heap.size W9) (.cells #[.string (⟨#[111, 110, 101]⟩ : BA), .string (⟨#[120, 32, 121]⟩ : BA), .string (⟨#[195, 164]⟩ : BA), .string (⟨#[55, 117, 112]⟩ : BA), .string (⟨#[45]⟩ : BA)] 9))); refine hK.out _ _ ⟨HF.out.blk, HF.out.blk⟩ (fun hHeld => ?_); clear hK K hHeld; refine nO_ ?_; generalize W9.alloc (.cells #[.string (⟨#[111, 110, 101]⟩ : BA), .string (⟨#[120, 32, 121]⟩ : BA), .string (⟨#[195, 164]⟩ : BA), .string (⟨#[55, 117, 112]⟩ : BA), .string (⟨#[45]⟩ : BA)] 9) = W8 at *; generalize hbn : W9.heap.size = b at *; have HSC := xg_ b t HTB.out; generalize (⟨b, 0, none⟩ : Addr) = ad at *; have hHeld : W8.heap[g]? = some (.cells #[.int .i64 a0, .int .i64 a1, .int .i64 a2, .int .i64 a3, .slice A4 l.length c4, .bool true] 24 (0, 0)) ∧ W8.cell? (ad.add t.toNat) = some (.string (rdOf ByteArray.empty ud_ t)) := ⟨HF.out.blk, HSC _ HT.out⟩; refine ne_ (S' := fun w' => w'.heap[g]? = some (.cells #[.int .i64 a0, .int .i64 a1, .int .i64 a2, .int .i64 a3, .slice A4 l.length c4, .bool true] 24 (0, 0)) ∧ w'.cell? (ad.add t.toNat) = some (.string (rdOf ByteArray.empty ud_ t))) (fun _ h => ⟨h.1, h.1⟩) _ _ _ _ hHeld ?_; clear hbn; refine pV_ 11 ?_; refine tV2_ 12 ?_; refine pV_ 21 ?_
 all_goals
 all_goals
  refine oN_ 23 fun K hK => ?_
  refine Kd.R_lit_step k46 _ 46 rfl (N := 34) rfl (xs := ([(⟨rdOf ByteArray.empty ud_ t, wrap64 (1 + x3), wrap64 (xh - 5)⟩ : S46), (⟨(⟨#[116, 119, 111]⟩ : BA), 2, 2⟩ : S46)] : List S46)) (inner := [.string (rdOf ByteArray.empty ud_ t), .int .i64 (wrap64 (1 + x3)), .int .i64 (wrap64 (xh - 5)), .string (⟨#[116, 119, 111]⟩ : BA), .int .i64 2, .int .i64 2]) (ok := fun _ => True) (okp := fun _ => True) Tx_ ?hp (fun _ hk => hk) trivial (Below.refl _ _) (Nat.le_refl _) Tt_ ?_; (case hp => exact (Reps.c3 (show Kd.M k46 _ _ _ (⟨rdOf ByteArray.empty ud_ t, wrap64 (1 + x3), wrap64 (xh - 5)⟩ : S46) [.string (rdOf ByteArray.empty ud_ t), .int .i64 (wrap64 (1 + x3)), .int .i64 (wrap64 (xh - 5))] from (mc_ _ _ _ (⟨rdOf ByteArray.empty ud_ t, wrap64 (1 + x3), wrap64 (xh - 5)⟩ : S46))) (Reps.c3 (show Kd.M k46 _ _ _ (⟨(⟨#[116, 119, 111]⟩ : BA), 2, 2⟩ : S46) [.string (⟨#[116, 119, 111]⟩ : BA), .int .i64 2, .int .i64 2] from (mc_ _ _ _ (⟨(⟨#[116, 119, 111]⟩ : BA), 2, 2⟩ : S46))) (Reps.none _ _)))); intro vx WX ho hb hg_ hnew_; clear hg_ hnew_; replace ho : Kd.R k46 46 WX _ _ vx (yq_ t x3 xh) := ho; obtain ⟨AX, cX, hvx⟩ := Kd.R_slice ho; subst hvx; have HX := aM_ (LexF.of HF.out ho); replace HF := aM_ (MkF.step HF.out hb); replace HU := aM_ (RuF.step HU.out hb); replace HT := aM_ (la_ HT.out hb); clear hb ho; refine hK.out _ _ ⟨HF.out.blk, HSC _ HT.out⟩ (fun hHeld => ?_); clear hK K; refine nO_ ?_; refine pV_ 24 ?_
 all_goals
  refine oN_ 25 fun K hK => ?_
  refine cd_ (w1 := ?_) (v := ?_) Vh_ rfl ?_ ?_; rotate_left 2
  ·go_simp
   constructor
   ·rfl
   rfl
  refine hK.out _ _ ⟨la_ HF.out.blk (aa_ (Below.refl _ _) _), HSC _ (la_ HT.out (aa_ (Below.refl _ _) _))⟩ (fun hHeld => ?_); clear hK K; refine nO_ ?_
 all_goals
  refine oN_ 26 fun K hK => ?_
  refine Kd.N_append_step k44 (w0 := w) w.heap.size Vh_ (.tmp 11) (.tmp 36) 26 44 (.agg #[(.string ⟨#[]⟩), (.int .i64 0), (.int .i64 0), (.slice none 0 0), (.slice none 0 0), (.slice none 0 0)]) 104 rfl Tryz.underlying26 info44 rfl Tm_ Td_ (.slice As S.length cs) S (⟨(⟨#[120]⟩ : BA), (-1), d4, yq_ t x3 xh, res, []⟩ : S44) [.string (⟨#[120]⟩ : BA), .int .i64 (-1), .int .i64 d4, .slice AX 2 cX, .slice A7 res.length c7, .slice none 0 0] (okF w g) (fun k => okF w g k ∧ some k ≠ (.slice As S.length cs : Value).ownBlock) rfl rfl (pl_ _ _ (⟨(⟨#[120]⟩ : BA), (-1), d4, yq_ t x3 xh, res, []⟩ : S44) HX.out.2 HX.out.1 HU.out.2 HU.out.1 (Nat.le_refl _) (Kd.F_nil _ _ _)) (fun _ hk => hk) (fun k hk => ⟨Nat.le_trans HF.out.old.size hk, by have := bb_ HF.out.blk; omega⟩) HF.out.row HF.out.old HF.out.old.size (by rw [HSL.out]; omega) ?_; intro vo WO ho hb hg hat; have HO := aM_ ho; have HOB := aM_ hb; have HZ := aM_ (fb_ HF.out.blk hg (Kd.N_ne HF.out.row HF.out.blk Tm_)); have HZT := aM_ (fb_ HT.out hg (Kd.N_ne HF.out.row HT.out Tm_)); clear ho hb hg hat; refine hK.out _ _ ⟨HZ.out, HSC _ HZT.out⟩ (fun hHeld => ?_); clear hK K; refine nO_ ?_; refine pV_ 27 ?_; refine wd_ Ti_ ?_; clear HF HU HT HX HZ HZT
  go_wp2
  go_ret
  exact ⟨_, rfl, Kd.N_mono HO.out (fun _ hk => hk.1), HOB.out⟩
theorem wq_ (a0 a1 a2 a3 : Int) (A4 : Option Addr) (c4 : Nat) (l : List Raw') (S : List S44) (w : World) (hS : l5_Sample.f a0 a1 = some S) :
  Calls Tryz.prog 13 #[.agg #[.int .i64 a0, .int .i64 a1, .int .i64 a2, .int .i64 a3, .slice A4 l.length c4, .bool false]] w fun e w' => ∃ v, e = .returned v ∧ Kd.N k44 44 w' w.heap.size (fun k => w.heap.size ≤ k) v S ∧ Below w.heap.size w w' := by
 have HSS := aM_ hS
 have hu1 := Tryz.underlying24
 clear hS
 have HBK : Az ((w.alloc (.cells #[.int .i64 a0, .int .i64 a1, .int .i64 a2, .int .i64 a3, .slice A4 l.length c4, .bool false] 24)).heap[w.heap.size]? = some (.cells #[.int .i64 a0, .int .i64 a1, .int .i64 a2, .int .i64 a3, .slice A4 l.length c4, .bool false] 24 (0, 0))) := ⟨oa_ w _⟩
 have HB1 : Az (Below w.heap.size w (w.alloc (.cells #[.int .i64 a0, .int .i64 a1, .int .i64 a2, .int .i64 a3, .slice A4 l.length c4, .bool false] 24))) := ⟨aa_ (Below.refl _ _) _⟩
 go_enter Tryz.func13, Tryz.ntmps13
 go_wp2_with fail
 generalize w.alloc (.cells #[.int .i64 a0, .int .i64 a1, .int .i64 a2, .int .i64 a3, .slice A4 l.length c4, .bool false] 24) = W1 at *
 generalize hgg : w.heap.size = g at *
 have hc0 : W1.cell? ⟨g, 0, none⟩ = some (.int .i64 a0) := ba_ HBK.out 0
 have hc1 : W1.cell? ⟨g, 1, none⟩ = some (.int .i64 a1) := ba_ HBK.out 1
 go_wp2_with fail
 refine (l5_Sample.calls a0 a1 S W1 HSS.out).mono ?_
 rintro e W2 ⟨vs, rfl, hN, hb⟩
 have hBw : Below w.heap.size w W1 := by rw [hgg]; exact HB1.out
 have HN := aM_ (Kd.N_mono (Kd.N_lower hN hBw.size) (fun k hk => Nat.le_trans hBw.size hk))
 have HB2 := aM_ (da_ hBw hb)
 have hc5 : W2.cell? ⟨g, 5, none⟩ = some (.bool false) := ba_ (la_ HBK.out hb) 5
 clear hN hb HBK HB1 hc0 hc1 hBw hgg
 go_wp2
 go_ret
 exact ⟨_, rfl, HN.out, HB2.out⟩
theorem make5_w (a0 a1 a2 a3 : Int) (A4 : Option Addr) (c4 : Nat) (l : List Raw') (b : Bool) (hc : l.length ≤ c4) (hl : l.length ≤ 12) (hok : ∀ x ∈ l, dl_ x) (hf : fewB l = true) :
  ∃ m, XOk (a0 % 3) (a1 % 4) m ∧ ∀ w, Kd.C k120 w A4 l.length l → Calls Tryz.prog 13 #[.agg #[.int .i64 a0, .int .i64 a1, .int .i64 a2, .int .i64 a3, .slice A4 l.length c4, .bool b]] w fun e w' => ∃ v, e = .returned v ∧ Kd.N k44 44 w' w.heap.size (fun k => w.heap.size ≤ k) v (wa_ (a0 % 3) (a1 % 4) ++ m) ∧ Below w.heap.size w w' := by
 have ho : 0 ≤ a0 % 3 ∧ a0 % 3 < 3 := by omega
 have hd : 0 ≤ a1 % 4 ∧ a1 % 4 < 4 := by omega
 have hSm := yp_ a0 a1
 cases b with
 | false =>
  refine ⟨[], ⟨ho, hd, .inl rfl⟩, fun w _ => ?_⟩; rw [List.append_nil]
  exact wq_ a0 a1 a2 a3 A4 c4 l _ w hSm
 | true =>
  obtain ⟨res, ht, hr⟩ := ur_ l 6 Td_ Td_ hok hf; obtain ⟨n, hn⟩ := Int.eq_ofNat_of_zero_le (show 0 ≤ a2 % 5 by omega); have he := texts_ok ⟨n, Td_⟩; have hw1 : wrap64 (1 + a3 % 3) = 1 + a3 % 3 := ge_ Td_; have hw2 : wrap64 (a3 % 100 - 5) = a3 % 100 - 5 := ge_ Td_; refine ⟨[xL (a1 % 4) (rdOf ByteArray.empty ud_ (n : Int)) (1 + a3 % 3) (a3 % 100 - 5) res], ⟨ho, hd, .inr ⟨_, _, _, _, rfl, he, Td_, Td_, ht⟩⟩, fun w hC => ?_⟩; have h := ls_ a0 a1 a2 a3 (a1 % 4) (n : Int) (a3 % 3) (a3 % 100) A4 c4 l _ res w hC hc hSm rfl (hr 300 Td_) rfl hn rfl rfl; unfold yq_ at h; rw [hw1, hw2] at h; exact h
theorem en_idx (o d : Int) (m : List Loc5) : xc_ (hitL (⟨#[101, 110]⟩ : BA)) (wa_ o d ++ m) = 1 := by
 have hl : (wa_ o d ++ m).length = 3 + m.length := List.length_append
 refine xf_ (k := 1) Td_ (fun j hj h => ?_) ?_
 ·obtain rfl : j = 0 := by omega
  exact ne_ids.1
 exact beq_self_eq_true ((⟨#[101, 110]⟩ : BA).toList)
theorem fo_ {o d : Int} {m : List Loc5} (h : XOk o d m) : am_ (wa_ o d ++ m) := by
 have hl := em_ h
 refine ⟨Td_, fun x hx => ?_⟩
 have hB := all_B h x hx
 unfold locB at hB
 simp only [Bool.and_eq_true, decide_eq_true_eq] at hB
 obtain ⟨h0, h1, h2, h3, h4, h5, h6, h7, h8⟩ := hB
 rw [List.all_eq_true] at h6 h8
 refine ⟨h3, ⟨h5, fun r hr => ?_⟩, h7, fun t ht => ?_⟩
 ·have h := h6 r hr
  unfold vn_ ho_ at h; simp only [Bool.and_eq_true, decide_eq_true_eq] at h; omega
 have h := h8 t ht
 unfold styB at h
 simp only [Bool.and_eq_true, decide_eq_true_eq] at h
 omega
end Go.Proofs.YtiocgaekoeekgaaGreat.P
end
section
namespace Go.Proofs.YtiocgaekoeekgaaGreat.P
open Go.RowKit YtiocgaekoeekgaaGreatW.PrintWords YtiocgaekoeekgaaGreatW.PrintLast YtiocgaekoeekgaaGreatW.PrintMore
attribute [local go_sem] ub_ rb_ cc_ bc_ kb_ jb_ tb_ qb_   
set_option linter.unusedVariables false
set_option linter.unusedSimpArgs false
abbrev Loc' := S44
theorem rdL_at (l : List Loc') (k : Nat) (h : k < l.length) : pa_ l (k : Int) = l[k] := by
 show l.getD (k : Int).toNat _ = _
 rw [Int.toNat_natCast, List.getD_eq_getElem?_getD, List.getElem?_eq_getElem h]
 rfl
def cg_ (B : Nat) (x : Loc') : Prop := x.f3.length ≤ B ∧ x.f4.length ≤ B ∧ x.f5.length ≤ B
theorem pr_ {l : List Loc'} {i : Nat} (h : (pa_ l (i : Int)).f1 < 0) : ∀ n, atP l n i = pa_ l (i : Int)
 | 0 => rfl
 | n + 1 => by rw [atP, if_pos h]
theorem xm_ {l : List Loc'} {i p B : Nat} (hp : (pa_ l (i : Int)).f1 = (p : Int)) (hB : ∀ n, cg_ B (atP l n p)) (hx : cg_ 1000 (pa_ l (i : Int))) : ∀ n, cg_ (B + 1000) (atP l n i)
 | 0 => by
  obtain ⟨h1, h2, h3⟩ := hx
  exact ⟨by show _ ≤ B + 1000; rw [atP]; omega, by rw [atP]; omega, by rw [atP]; omega⟩
 | n + 1 => by
  obtain ⟨h1, h2, h3⟩ := hx; obtain ⟨b1, b2, b3⟩ := hB n; rw [atP, if_neg (by rw [hp]; omega), hp, Int.toNat_natCast]; refine ⟨?_, ?_, ?_⟩
  ·show (_ ++ _ : List _).length ≤ _
   rw [List.length_append]; omega
  ·show (_ ++ _ : List _).length ≤ _
   rw [List.length_append]; omega
  show (_ ++ _ : List _).length ≤ _; rw [List.length_append]; omega
section
variable {o d : Int} {m : List Loc5} (h : XOk o d m)
theorem rd0 (o d : Int) (m : List Loc5) : pa_ (wa_ o d ++ m) ((0 : Nat) : Int) = baseL := rfl
theorem rd1 (o d : Int) (m : List Loc5) : pa_ (wa_ o d ++ m) ((1 : Nat) : Int) = enL o := rfl
theorem rd2 (o d : Int) (m : List Loc5) : pa_ (wa_ o d ++ m) ((2 : Nat) : Int) = arL d := rfl
end
theorem lens_all {o d : Int} {m : List Loc5} (h : XOk o d m) : ∀ n i, cg_ 100000 (atP (wa_ o d ++ m) n i) := by
 have hR := fo_ h
 have hz : cg_ 1000 (z44) := ⟨Tm_, Tm_, Tm_⟩
 have hx : ∀ i : Nat, cg_ 1000 (pa_ (wa_ o d ++ m) (i : Int)) := fun i => by
  by_cases hi : i < (wa_ o d ++ m).length
  ·rw [rdL_at _ i hi]
   have := hR.2 _ (List.getElem_mem hi); exact ⟨this.1, this.2.1.1, this.2.2.1⟩
  have : pa_ (wa_ o d ++ m) (i : Int) = z44 := by
   show (wa_ o d ++ m).getD (i : Int).toNat _ = _; rw [Int.toNat_natCast, List.getD_eq_getElem?_getD, List.getElem?_eq_none Td_]; rfl
  rw [this]; exact hz
 have h0 : ∀ n, cg_ 1000 (atP (wa_ o d ++ m) n 0) := fun n => by
  rw [pr_ (by rw [rd0]; decide) n]; exact hx 0
 have h1 : ∀ n, cg_ 2000 (atP (wa_ o d ++ m) n 1) := xm_ (p := 0) (by rw [rd1]; rfl) h0 (hx 1)
 have h2 : ∀ n, cg_ 3000 (atP (wa_ o d ++ m) n 2) := xm_ (p := 1) (by rw [rd2]; rfl) h1 (hx 2)
 have up : ∀ {B x}, cg_ B x → B ≤ 100000 → cg_ 100000 x := fun hh hB => ⟨Nat.le_trans hh.1 hB, Nat.le_trans hh.2.1 hB, Nat.le_trans hh.2.2 hB⟩
 intro n i
 by_cases e0 : i = 0
 ·subst e0; exact up (h0 n) Td_
 by_cases e1 : i = 1
 ·subst e1; exact up (h1 n) Td_
 by_cases e2 : i = 2
 ·subst e2; exact up (h2 n) Td_
 by_cases e3 : i < (wa_ o d ++ m).length
 ·have hl := em_ h
  obtain rfl : i = 3 := by omega
  rcases h.tail with rfl | ⟨s, c, v, R, rfl, _⟩
  ·exact absurd e3 (by show ¬ 3 < 3; omega)
  refine up ?_ (by omega : 1000 ≤ 100000); rw [pr_ (by show (-1 : Int) < 0; decide) n]; exact hx 3
 have hr : pa_ (wa_ o d ++ m) (i : Int) = z44 := by
  show (wa_ o d ++ m).getD (i : Int).toNat _ = _; rw [Int.toNat_natCast, List.getD_eq_getElem?_getD, List.getElem?_eq_none Td_]; rfl
 exact up (xm_ (p := 0) (by rw [hr]; rfl) h0 (hx i) n) Td_
theorem tv_ {o d : Int} {m : List Loc5} (h : XOk o d m) : ∀ i, i < (wa_ o d ++ m).length → fj_ (wa_ o d ++ m) 3 i := by
 have hl3 : 3 ≤ (wa_ o d ++ m).length := by rw [List.length_append]; exact Nat.le_add_right 3 _
 have c0 : ∀ n, fj_ (wa_ o d ++ m) (n + 1) 0 := fun n => ⟨Td_, .inl (by rw [rd0]; decide)⟩
 have c1 : ∀ n, fj_ (wa_ o d ++ m) (n + 2) 1 := fun n => ⟨Td_, .inr ⟨by rw [rd1]; exact (by decide : (0 : Int) ≤ 0), c0 n⟩⟩
 have c2 : ∀ n, fj_ (wa_ o d ++ m) (n + 3) 2 := fun n => ⟨Td_, .inr ⟨by rw [rd2]; exact (by decide : (0 : Int) ≤ 1), c1 n⟩⟩
 intro i hi
 have hl := em_ h
 by_cases e0 : i = 0
 ·subst e0; exact c0 2
 by_cases e1 : i = 1
 ·subst e1; exact c1 1
 by_cases e2 : i = 2
 ·subst e2; exact c2 0
 obtain rfl : i = 3 := by omega
 rcases h.tail with rfl | ⟨s, c, v, R, rfl, _⟩
 ·exact absurd hi (by show ¬ 3 < 3; omega)
 exact ⟨hi, .inl (by show (-1 : Int) < 0; decide)⟩
theorem vv_ {a b : ByteArray} (h : (a.toList == b.toList) = true) : a = b := by
 have h2 : a.toList = b.toList := by simpa using h
 rw [ByteArray.toList_eq, ByteArray.toList_eq] at h2
 cases a
 cases b
 congr 1
 exact Array.toList_inj.1 h2
def resL (id : BA) (l : List Loc') (k : Nat) : Loc' := ⟨id, (pa_ l (k : Int)).f1, (pa_ l (k : Int)).f2, lexP l k, jd_ l k, styP l k⟩
theorem res0 {o d : Int} {m : List Loc5} (h : ck_ m) : resL (pa_ (wa_ o d ++ m) ((0 : Nat) : Int)).f0 (wa_ o d ++ m) 0 = ⟨baseL.f0, -1, 0, zf_ ++ [], xd_ ++ [], ff_ ++ []⟩ := by rcases h with rfl | ⟨x, rfl⟩ <;> rfl
theorem res1 {o d : Int} {m : List Loc5} (h : ck_ m) : resL (pa_ (wa_ o d ++ m) ((1 : Nat) : Int)).f0 (wa_ o d ++ m) 1 = ⟨(enL o).f0, 0, 0, zf_ ++ ([] ++ []), xd_ ++ (lf_ o ++ []), ff_ ++ ([] ++ [])⟩ := by rcases h with rfl | ⟨x, rfl⟩ <;> rfl
theorem res2 {o d : Int} {m : List Loc5} (h : ck_ m) : resL (pa_ (wa_ o d ++ m) ((2 : Nat) : Int)).f0 (wa_ o d ++ m) 2 = ⟨(arL d).f0, 1, d, zf_ ++ ([] ++ ([maiP] ++ [])), xd_ ++ (lf_ o ++ ([] ++ [])), ff_ ++ ([] ++ ([] ++ []))⟩ := by rcases h with rfl | ⟨x, rfl⟩ <;> rfl
theorem res3 {o d d' : Int} {s : ByteArray} {c v : Int} {R : List S56} : resL (pa_ (wa_ o d ++ [xL d' s c v R]) ((3 : Nat) : Int)).f0 (wa_ o d ++ [xL d' s c v R]) 3 = ⟨(xL d' s c v R).f0, -1, d', (xL d' s c v R).f3 ++ [], R ++ [], [] ++ []⟩ := rfl
theorem at0 {o d : Int} {m : List Loc5} (h : ck_ m) : atP (wa_ o d ++ m) 3 0 = ⟨baseL.f0, -1, 0, zf_, xd_, ff_⟩ := by rcases h with rfl | ⟨x, rfl⟩ <;> rfl
theorem at1 {o d : Int} {m : List Loc5} (h : ck_ m) : atP (wa_ o d ++ m) 3 1 = ⟨(enL o).f0, 0, 0, zf_ ++ [], xd_ ++ lf_ o, ff_ ++ []⟩ := by rcases h with rfl | ⟨x, rfl⟩ <;> rfl
theorem at2 {o d : Int} {m : List Loc5} (h : ck_ m) : atP (wa_ o d ++ m) 3 2 = ⟨(arL d).f0, 1, d, (zf_ ++ []) ++ [maiP], (xd_ ++ lf_ o) ++ [], (ff_ ++ []) ++ []⟩ := by rcases h with rfl | ⟨x, rfl⟩ <;> rfl
theorem at3 {o d d' : Int} {s : ByteArray} {c v : Int} {R : List S56} : atP (wa_ o d ++ [xL d' s c v R]) 3 3 = ⟨(xL d' s c v R).f0, -1, d', (xL d' s c v R).f3, R, []⟩ := rfl
theorem res_eq {o d : Int} {m : List Loc5} (h : XOk o d m) (k : Nat) (hk : k < (wa_ o d ++ m).length) : resL (pa_ (wa_ o d ++ m) (k : Int)).f0 (wa_ o d ++ m) k = atP (wa_ o d ++ m) 3 k := by
 have hl := em_ h
 by_cases e0 : k = 0
 ·subst e0; rw [res0 h.one, at0 h.one]; simp only [List.append_nil]
 by_cases e1 : k = 1
 ·subst e1; rw [res1 h.one, at1 h.one]; simp only [List.append_nil]
 by_cases e2 : k = 2
 ·subst e2; rw [res2 h.one, at2 h.one]; simp only [List.append_nil, List.nil_append]
 obtain rfl : k = 3 := by omega
 rcases h.tail with rfl | ⟨s, c, v, R, rfl, _⟩
 ·exact absurd hk (by show ¬ 3 < 3; omega)
 rw [res3, at3]; simp only [List.append_nil]
theorem en_B2 : ∀ o : Fin 3, locB (pl ⟨(enL ((o : Nat) : Int)).f0, 0, 0, zf_ ++ [], xd_ ++ lf_ ((o : Nat) : Int), ff_ ++ []⟩) = true := by decide +kernel
theorem ar_B2 : ∀ o : Fin 3, ∀ d : Fin 4, locB (pl ⟨(arL ((d : Nat) : Int)).f0, 1, ((d : Nat) : Int), (zf_ ++ []) ++ [maiP], (xd_ ++ lf_ ((o : Nat) : Int)) ++ [], (ff_ ++ []) ++ []⟩) = true := by decide +kernel
theorem pl_B {x : Loc'} (h : locB x = true) : locB (pl x) = true := by
 unfold locB at h ⊢
 simp only [Bool.and_eq_true] at h ⊢
 exact ⟨h.1, (by decide : okIB (-1) = true), h.2.2⟩
theorem at_B {o d : Int} {m : List Loc5} (h : XOk o d m) (k : Nat) (hk : k < (wa_ o d ++ m).length) : locB (pl (atP (wa_ o d ++ m) 3 k)) = true := by
 have hl := em_ h
 have ho := h.ord
 have hd := h.dig
 by_cases e0 : k = 0
 ·subst e0; rw [at0 h.one]; exact pl_B base_B
 by_cases e1 : k = 1
 ·subst e1; rw [at1 h.one]
  obtain ⟨n, rfl⟩ := Int.eq_ofNat_of_zero_le ho.1; exact en_B2 ⟨n, Td_⟩
 by_cases e2 : k = 2
 ·subst e2; rw [at2 h.one]
  obtain ⟨n, rfl⟩ := Int.eq_ofNat_of_zero_le ho.1; obtain ⟨n2, rfl⟩ := Int.eq_ofNat_of_zero_le hd.1; exact ar_B2 ⟨n, Td_⟩ ⟨n2, Td_⟩
 obtain rfl : k = 3 := by omega
 have hB := all_B h
 rcases h.tail with rfl | ⟨s, c, v, R, rfl, _⟩
 ·exact absurd hk (by show ¬ 3 < 3; omega)
 rw [at3]
 exact pl_B (hB (xL d s c v R) (List.mem_append_right _ (List.mem_singleton.2 rfl)))
theorem at_enc {o d : Int} {m : List Loc5} (h : XOk o d m) (k : Nat) (hk : k < (wa_ o d ++ m).length) : (enc8 [pl (atP (wa_ o d ++ m) 3 k)]).length ≤ 1000000000000 := by
 have h1 := vj_ (enc := loc8) (b := 3000000000) (n := 1) [pl (atP (wa_ o d ++ m) 3 k)] Tt_ (fun x hx => by
  obtain rfl := List.mem_singleton.1 hx
  exact (locB_ok (at_B h k hk)).2.1)
 show (pb_ loc8 [pl (atP (wa_ o d ++ m) 3 k)]).length ≤ _
 omega
theorem ar_idx (o d : Int) (m : List Loc5) : xc_ (hitL (⟨#[97, 114, 45, 49]⟩ : BA)) (wa_ o d ++ m) = 2 := by
 have hl : (wa_ o d ++ m).length = 3 + m.length := List.length_append
 refine xf_ (k := 2) Td_ (fun j hj h => ?_) ?_
 ·by_cases e : j = 0
  ·subst e; exact ne_ids.2.1
  obtain rfl : j = 1 := by omega
  exact ne_ids.2.2.1
 exact beq_self_eq_true ((⟨#[97, 114, 45, 49]⟩ : BA).toList)
theorem fin_lens {o d : Int} {m : List Loc5} (h : XOk o d m) : (lexP (wa_ o d ++ m) 2).length = 23 ∧ (lexP (wa_ o d ++ m) 1).length = 22 ∧ (jd_ (wa_ o d ++ m) 2).length = 30 ∧ (jd_ (wa_ o d ++ m) 1).length = 30 ∧ le_ (lexP (wa_ o d ++ m) 2) 0 = ⟨⟨#[106, 97, 110]⟩, 1, 1⟩ := by
 have h1 := congrArg (fun x : Loc' => x.f3) (res1 (o := o) (d := d) h.one)
 have h2 := congrArg (fun x : Loc' => x.f3) (res2 (o := o) (d := d) h.one)
 have e1 : lexP (wa_ o d ++ m) 1 = zf_ ++ ([] ++ []) := h1
 have e2 : lexP (wa_ o d ++ m) 2 = zf_ ++ ([] ++ ([maiP] ++ [])) := h2
 rw [e1, e2, r1 o d m h.one, r2 o d m h.one]
 exact ⟨rfl, rfl, rfl, rfl, rfl⟩
theorem nv_ {o d : Int} {m : List Loc5} (h : XOk o d m) : uc_ (jd_ (wa_ o d ++ m) 2) = true := by
 rw [r2 o d m h.one, List.append_nil, List.append_nil]
 exact gt_ _ (sv_ o h.ord)
def BlobR (l : List Loc') (id : BA) (e : Ending) (w' : World) : Prop :=
 (xc_ (hitL id) l < 0 ∧ e = .returned (.tuple #[.agg #[.string ⟨#[]⟩, .int .i64 0, .int .i64 0, .slice none 0 0, .slice none 0 0, .slice none 0 0], .bool false])) ∨
 (∃ k : Nat, xc_ (hitL id) l = (k : Int) ∧ k < l.length ∧ ∃ A3 c3 A4 c4 A5 c5, e = .returned (.tuple #[.agg #[.string id, .int .i64 (resL id l k).f1, .int .i64 (resL id l k).f2, .slice A3 (resL id l k).f3.length c3, .slice A4 (resL id l k).f4.length c4, .slice A5 (resL id l k).f5.length c5], .bool true]) ∧
  (Kd.C k46 w' A3 (resL id l k).f3.length (resL id l k).f3 ∧ (resL id l k).f3.length ≤ c3) ∧ (Kd.C k56 w' A4 (resL id l k).f4.length (resL id l k).f4 ∧ (resL id l k).f4.length ≤ c4) ∧ (Kd.C k52 w' A5 (resL id l k).f5.length (resL id l k).f5 ∧ (resL id l k).f5.length ≤ c5))
theorem eq_ (A : Option Addr) (c : Nat) (l : List Loc') (id : BA) (w : World) (hr : Kd.C k44 w A l.length l) (hc : l.length ≤ c) (hok : am_ l) :
  Calls Tryz.prog 23 #[.slice A l.length c, .string id] w fun e w' => BlobR l id e w' ∧ Below w.heap.size w w' := by
 by_cases hi : xc_ (hitL id) l < 0
 ·refine (ri_ A c l id w hr hc hi).mono ?_
  rintro e w' ⟨rfl, hb⟩; exact ⟨.inl ⟨hi, rfl⟩, hb⟩
 obtain ⟨k, hk, hlt⟩ := jo_ _ _ hi
 refine (rg_ A c l id k w hr hc hok hk hlt).mono ?_
 rintro e w' ⟨v3, v4, v5, rfl, h3, h4, h5, hb⟩
 obtain ⟨A3, c3, rfl⟩ := Kd.R_slice h3
 obtain ⟨A4, c4, rfl⟩ := Kd.R_slice h4
 obtain ⟨A5, c5, rfl⟩ := Kd.R_slice h5
 have r3 := Kd.R_reads' h3
 have r4 := Kd.R_reads' h4
 have r5 := Kd.R_reads' h5
 exact ⟨.inr ⟨k, hk, hlt, A3, c3, A4, c4, A5, c5, rfl, ⟨r3.2.2, r3.2.1⟩, ⟨r4.2.2, r4.2.1⟩, ⟨r5.2.2, r5.2.1⟩⟩, hb⟩
theorem idx_hit {l : List Loc'} {id : ByteArray} {k : Nat} (h : xc_ (hitL id) l = (k : Int)) (hk : k < l.length) : (pa_ l (k : Int)).f0 = id := by
 rw [rdL_at l k hk]
 refine vv_ ?_
 unfold xc_ at h
 cases hf : l.findIdx? (hitL id) with
 | none => rw [hf] at h; have h' : (-1 : Int) = (k : Int) := h; omega
 | some i =>
  rw [hf] at h; have h' : (i : Int) = (k : Int) := h; obtain rfl : i = k := by omega
  rw [List.findIdx?_eq_some_iff_getElem] at hf; exact hf.2.1
end Go.Proofs.YtiocgaekoeekgaaGreat.P
end
section
namespace Go.Proofs.YtiocgaekoeekgaaGreat.P
open Go.RowKit YtiocgaekoeekgaaGreatW.PrintWords YtiocgaekoeekgaaGreatW.PrintLast YtiocgaekoeekgaaGreatW.PrintMore
attribute [local go_sem] ub_ rb_ cc_ bc_ kb_ jb_ tb_ qb_   
set_option linter.unusedVariables false
set_option linter.unusedSimpArgs false
attribute [local go_sem] Oper.semAt_some
def zL : Loc' := ⟨⟨#[]⟩, 0, 0, [], [], []⟩
theorem zL_enc : (enc8 [pl zL]).length ≤ 1000000000000 := by decide +kernel
theorem st_ (A : Option Addr) (c : Nat) (L : List Loc') (w : World) (hr : Kd.C k44 w A L.length L) (hc : L.length ≤ c) (hok : am_ L) (id : BA) (k n3 n4 : Nat) (hi : xc_ (hitL id) L = (k : Int)) (hk : k < L.length) (h3 : (lexP L k).length = n3) (h4 : (jd_ L k).length = n4) :
  Calls Tryz.prog 23 #[.slice A L.length c, .string id] w fun e w' => ∃ p d A3 c3 A4 c4 A5 n5 c5, e = .returned (.tuple #[.agg #[.string id, .int .i64 p, .int .i64 d, .slice A3 n3 c3, .slice A4 n4 c4, .slice A5 n5 c5], .bool true]) ∧ (Kd.C k46 w' A3 (lexP L k).length (lexP L k) ∧ n3 ≤ c3) ∧ (Kd.C k56 w' A4 (jd_ L k).length (jd_ L k) ∧ n4 ≤ c4) ∧ Below w.heap.size w w' := by
 refine (rg_ A c L id k w hr hc hok hi hk).mono ?_
 rintro e w' ⟨v3, v4, v5, rfl, g3, g4, g5, hb⟩
 obtain ⟨A3, c3, rfl⟩ := Kd.R_slice g3
 obtain ⟨A4, c4, rfl⟩ := Kd.R_slice g4
 obtain ⟨A5, c5, rfl⟩ := Kd.R_slice g5
 have r3 := Kd.R_reads' g3
 have r4 := Kd.R_reads' g4
 rw [h3, h4]
 exact ⟨_, _, A3, c3, A4, c4, A5, _, c5, rfl, ⟨by rw [← h3]; exact r3.2.2, by rw [← h3]; exact r3.2.1⟩, ⟨by rw [← h4]; exact r4.2.2, by rw [← h4]; exact r4.2.1⟩, hb⟩
theorem text_jan : interlocutorref3_Text.f 60 (⟨#[106, 97, 110]⟩ : BA) = some (⟨#[106, 97, 110]⟩ : BA) := by decide +kernel
theorem ids_cell (bi : Nat) (name : BA) (i : Nat) (h : i < 7) (W : World) (hb : W.heap[bi]? = some (.cells #[.string name, .string (⟨#[98, 97, 115, 101]⟩ : BA), .string (⟨#[101, 110]⟩ : BA), .string (⟨#[97, 114, 45, 49]⟩ : BA), .string (⟨#[120]⟩ : BA), .string (⟨#[]⟩ : BA), .string (⟨#[69, 78]⟩ : BA)] 9 (0, 0))) : ∃ s, W.cell? ⟨bi, i, none⟩ = some (.string s) := by
 have h5 : i = 0 ∨ i = 1 ∨ i = 2 ∨ i = 3 ∨ i = 4 ∨ i = 5 ∨ i = 6 := by omega
 rcases h5 with rfl | rfl | rfl | rfl | rfl | rfl | rfl
 ·exact ⟨_, ba_ hb 0⟩
 ·exact ⟨_, ba_ hb 1⟩
 ·exact ⟨_, ba_ hb 2⟩
 ·exact ⟨_, ba_ hb 3⟩
 ·exact ⟨_, ba_ hb 4⟩
 ·exact ⟨_, ba_ hb 5⟩
 exact ⟨_, ba_ hb 6⟩
theorem blobres_walk (x0 x1 x2 x3 : Int) (A : Option Addr) (c : Nat) (l : List Raw') (b : Bool) (name : BA) (n5 : Int) (w : World) (hr : Kd.C k120 w A l.length l) (hc : l.length ≤ c) (hnm : name.size ≤ 9223372036854775807) (hok : ∀ x ∈ l, dl_ x) :
  Calls Tryz.prog 6 #[.agg #[.int .i64 x0, .int .i64 x1, .int .i64 x2, .int .i64 x3, .slice A l.length c, .bool b], .string name, .int .i64 n5] w fun e w' => e = .returned (.bool true) ∧ Below w.heap.size w w' := by
 have HR := aM_ hr
 have HC := aM_ hc
 have hbn := hr.2.1
 have hf := ov_ x0 x1 x2 x3 l b hr.2.1 (l.length + 1) Td_
 have HMK : Az ((fewB l && decide (l.length ≤ 12)) = true → ∃ m, XOk (x0 % 3) (x1 % 4) m ∧ ∀ w, Kd.C k120 w A l.length l → Calls Tryz.prog 13 #[.agg #[.int .i64 x0, .int .i64 x1, .int .i64 x2, .int .i64 x3, .slice A l.length c, .bool b]] w fun e w' => ∃ v, e = .returned v ∧ Kd.N k44 44 w' w.heap.size (fun k => w.heap.size ≤ k) v (wa_ (x0 % 3) (x1 % 4) ++ m) ∧ Below w.heap.size w w') := ⟨fun h => by
  rw [Bool.and_eq_true, decide_eq_true_eq] at h
  exact make5_w x0 x1 x2 x3 A c l b hc h.2 hok h.1⟩
 have hu1 := Tryz.underlying24
 have HBK : Az ((w.alloc (.cells #[.int .i64 x0, .int .i64 x1, .int .i64 x2, .int .i64 x3, .slice A l.length c, .bool b] 24)).heap[w.heap.size]? = some (.cells #[.int .i64 x0, .int .i64 x1, .int .i64 x2, .int .i64 x3, .slice A l.length c, .bool b] 24 (0, 0))) := ⟨oa_ w _⟩
 have HB1 : Az (Below w.heap.size w (w.alloc (.cells #[.int .i64 x0, .int .i64 x1, .int .i64 x2, .int .i64 x3, .slice A l.length c, .bool b] 24))) := ⟨aa_ (Below.refl _ _) _⟩
 generalize (fewB l && decide (l.length ≤ 12)) = q at *
 have HF := aM_ hf
 clear hr hc hok hf
 go_enter Tryz.func6, Tryz.ntmps6
 go_wp2_with fail
 generalize w.alloc (.cells #[.int .i64 x0, .int .i64 x1, .int .i64 x2, .int .i64 x3, .slice A l.length c, .bool b] 24) = W1 at *
 generalize hgg : w.heap.size = g at *
 refine (zq_ W1).mono ?_
 rintro e W2 ⟨rfl, hb⟩
 have HBK2 := aM_ (la_ HBK.out hb)
 have HB2 : Az (Below w.heap.size w W2) := ⟨da_ (by rw [hgg]; exact HB1.out) hb⟩
 have HGG := aM_ hgg
 clear hb HBK HB1 hgg
 have h0 : W2.cell? ⟨g, 0, none⟩ = some (.int .i64 x0) := ba_ HBK2.out 0
 have h1 : W2.cell? ⟨g, 1, none⟩ = some (.int .i64 x1) := ba_ HBK2.out 1
 have h2 : W2.cell? ⟨g, 2, none⟩ = some (.int .i64 x2) := ba_ HBK2.out 2
 have h3 : W2.cell? ⟨g, 3, none⟩ = some (.int .i64 x3) := ba_ HBK2.out 3
 have h4 : W2.cell? ⟨g, 4, none⟩ = some (.slice A l.length c) := ba_ HBK2.out 4
 have h5 : W2.cell? ⟨g, 5, none⟩ = some (.bool b) := ba_ HBK2.out 5
 go_wp2_with fail
 refine (l5_Shape_Few.calls (l.length + 1) x0 x1 x2 x3 A c l b q W2 (Kd.C_below HR.out HB2.out) HC.out HF.out).mono ?_
 rintro e W3 ⟨rfl, hb⟩
 have HBK3 := aM_ (la_ HBK2.out hb)
 have HB3 : Az (Below w.heap.size w W3) := ⟨da_ HB2.out hb⟩
 clear hb HBK2 HB2 h0 h1 h2 h3 h4 h5
 cases q with
 | false =>
  go_wp2
  go_ret
  exact ⟨rfl, HB3.out⟩
 | true =>
  by_cases h60 : (60 : Int) < (name.size : Int)
  ·have h60d : decide ((60 : Int) < (name.size : Int)) = true := decide_eq_true h60
   go_wp2
   go_ret
   exact ⟨rfl, HB3.out⟩
  have h60d : decide ((60 : Int) < (name.size : Int)) = false := decide_eq_false h60; obtain ⟨m, hx, hmk⟩ := HMK.out rfl; have HM := aM_ hmk; have HX := aM_ hx; have HOR := aM_ (fo_ hx); have HLA := aM_ (lens_all hx); have HCH := aM_ (tv_ hx); have HEQ := aM_ (res_eq hx); have HEN := aM_ (at_enc hx); have HFL := aM_ (fin_lens hx); have HFC := aM_ (nv_ hx); have HLT : Az (2 < (wa_ (x0 % 3) (x1 % 4) ++ m).length ∧ 1 < (wa_ (x0 % 3) (x1 % 4) ++ m).length) := ⟨by rw [List.length_append]; exact ⟨Nat.lt_of_lt_of_le (by decide : 2 < 3) (Nat.le_add_right 3 _), Nat.lt_of_lt_of_le (by decide : 1 < 3) (Nat.le_add_right 3 _)⟩⟩; have HI1 := aM_ (en_idx (x0 % 3) (x1 % 4) m); have HI2 := aM_ (ar_idx (x0 % 3) (x1 % 4) m); generalize wa_ (x0 % 3) (x1 % 4) ++ m = L at *; have h0 : W3.cell? ⟨g, 0, none⟩ = some (.int .i64 x0) := ba_ HBK3.out 0; have h1 : W3.cell? ⟨g, 1, none⟩ = some (.int .i64 x1) := ba_ HBK3.out 1; have h2 : W3.cell? ⟨g, 2, none⟩ = some (.int .i64 x2) := ba_ HBK3.out 2; have h3 : W3.cell? ⟨g, 3, none⟩ = some (.int .i64 x3) := ba_ HBK3.out 3; have h4 : W3.cell? ⟨g, 4, none⟩ = some (.slice A l.length c) := ba_ HBK3.out 4; have h5 : W3.cell? ⟨g, 5, none⟩ = some (.bool b) := ba_ HBK3.out 5; clear hmk hx HMK HF HX
  go_wp2_with fail
  refine (HM.out W3 (Kd.C_below HR.out HB3.out)).mono ?_; rintro e W4 ⟨vl, rfl, hN, hb⟩; obtain ⟨AL, cL, rfl⟩ := Kd.N_slice hN; have hN2 := Kd.N_reads' hN; have HB4 : Az (Below w.heap.size w W4) := ⟨da_ HB3.out hb⟩; have HCL := aM_ hN2.2.2; have HLL := aM_ hN2.2.1; clear hN hN2 hb HBK3 HB3 h0 h1 h2 h3 h4 h5 HM; have HIB := aM_ (oa_ W4 (.cells #[.string name, .string (⟨#[98, 97, 115, 101]⟩ : BA), .string (⟨#[101, 110]⟩ : BA), .string (⟨#[97, 114, 45, 49]⟩ : BA), .string (⟨#[120]⟩ : BA), .string (⟨#[]⟩ : BA), .string (⟨#[69, 78]⟩ : BA)] 9)); have HB5 := aM_ (da_ HB4.out (aa_ (Below.refl W4.heap.size W4) (.cells #[.string name, .string (⟨#[98, 97, 115, 101]⟩ : BA), .string (⟨#[101, 110]⟩ : BA), .string (⟨#[97, 114, 45, 49]⟩ : BA), .string (⟨#[120]⟩ : BA), .string (⟨#[]⟩ : BA), .string (⟨#[69, 78]⟩ : BA)] 9))); have HCL5 := aM_ (Kd.C_below HCL.out (aa_ (Below.refl W4.heap.size W4) (.cells #[.string name, .string (⟨#[98, 97, 115, 101]⟩ : BA), .string (⟨#[101, 110]⟩ : BA), .string (⟨#[97, 114, 45, 49]⟩ : BA), .string (⟨#[120]⟩ : BA), .string (⟨#[]⟩ : BA), .string (⟨#[69, 78]⟩ : BA)] 9)))
  go_wp2_with fail
  clear HCL HB4; generalize W4.alloc (.cells #[.string name, .string (⟨#[98, 97, 115, 101]⟩ : BA), .string (⟨#[101, 110]⟩ : BA), .string (⟨#[97, 114, 45, 49]⟩ : BA), .string (⟨#[120]⟩ : BA), .string (⟨#[]⟩ : BA), .string (⟨#[69, 78]⟩ : BA)] 9) = W5 at *; generalize W4.heap.size = bi at *
  go_loopg [9] 7 (fun gg s9 wr => ∃ i : Nat, i ≤ 7 ∧ 7 - i ≤ gg ∧ s9 = .int .i64 i ∧ Az (Below W5.heap.size W5 wr))
  case atStart => exact ⟨0, Td_, Td_, rfl, ⟨Below.refl _ _⟩⟩
  obtain ⟨i, hi, hgi, rfl, HBW⟩ := hrel
  by_cases hil : i < 7
  ·have hilz : (i : Int) < 7 := by omega
   obtain ⟨s, hs⟩ := ids_cell bi name i hil wr (la_ HIB.out HBW.out); have HBL := aM_ (Kd.C_below HCL5.out HBW.out); have HSB := aM_ (la_ HIB.out HBW.out); have HRZ := aM_ (eq_ AL cL L s wr HBL.out HLL.out HOR.out)
   go_wp2_with fail
   refine HRZ.out.mono ?_; rintro e w6 ⟨hres, hb6⟩
   rcases hres with ⟨hneg, rfl⟩ | ⟨k, hk, hkl, A3, c3, A4, c4, A5, c5, rfl, ⟨r3, q3⟩, ⟨r4, q4⟩, ⟨r5, q5⟩⟩
   ·skip
    have hba := aa_ (Below.refl w6.heap.size w6) (.cells #[.string ⟨#[]⟩, .int .i64 0, .int .i64 0, .slice none 0 0, .slice none 0 0, .slice none 0 0] 44); have HW7 := aM_ (da_ HBW.out (da_ hb6 hba)); have hs7 := fa_ (da_ hb6 hba) hs; have HRF := aM_ (gq_ L AL cL s 3 (w6.alloc (.cells #[.string ⟨#[]⟩, .int .i64 0, .int .i64 0, .slice none 0 0, .slice none 0 0, .slice none 0 0] 44)) (Kd.C_below HBL.out (da_ hb6 hba)) HLL.out HLA.out HCH.out); have HGA := aM_ (oa_ w6 (.cells #[.string ⟨#[]⟩, .int .i64 0, .int .i64 0, .slice none 0 0, .slice none 0 0, .slice none 0 0] 44)); have HNEG := aM_ hneg; clear hba hs hb6 hneg
    go_wp2_with fail
    generalize w6.alloc (.cells #[.string ⟨#[]⟩, .int .i64 0, .int .i64 0, .slice none 0 0, .slice none 0 0, .slice none 0 0] 44) = w7 at *; generalize w6.heap.size = ga at *; refine HRF.out.mono ?_; rintro e w8 ⟨hres, hb8⟩; have hneg := HNEG.out
    rcases hres with ⟨_, rfl⟩ | ⟨k, hk, _⟩
    rotate_left
    ·exfalso; omega
    have hba := aa_ (Below.refl w8.heap.size w8) (.cells #[.string ⟨#[]⟩, .int .i64 0, .int .i64 0, .slice none 0 0, .slice none 0 0, .slice none 0 0] 44); have hga := la_ HGA.out (da_ hb8 hba); have ca0 := ba_ hga 0; have ca1 := ba_ hga 1; have ca2 := ba_ hga 2; have ca3 := ba_ hga 3; have ca4 := ba_ hga 4; have ca5 := ba_ hga 5; have hwf := da_ HW7.out (da_ hb8 hba)
    have HSM : Az (Calls Tryz.prog 25 #[.agg #[.string ⟨#[]⟩, .int .i64 0, .int .i64 0, .slice none 0 0, .slice none 0 0, .slice none 0 0], .agg #[.string ⟨#[]⟩, .int .i64 0, .int .i64 0, .slice none 0 0, .slice none 0 0, .slice none 0 0]] (w8.alloc (.cells #[.string ⟨#[]⟩, .int .i64 0, .int .i64 0, .slice none 0 0, .slice none 0 0, .slice none 0 0] 44)) fun e w' => e = .returned (.bool true) ∧ Below (w8.alloc (.cells #[.string ⟨#[]⟩, .int .i64 0, .int .i64 0, .slice none 0 0, .slice none 0 0, .slice none 0 0] 44)).heap.size (w8.alloc (.cells #[.string ⟨#[]⟩, .int .i64 0, .int .i64 0, .slice none 0 0, .slice none 0 0, .slice none 0 0] 44)) w') := ⟨by
     have h := same_w zL zL none none none none none none 0 0 0 0 0 0 (w8.alloc (.cells #[.string ⟨#[]⟩, .int .i64 0, .int .i64 0, .slice none 0 0, .slice none 0 0, .slice none 0 0] 44)) (Kd.C_nil _ _) (Nat.le_refl _) (Kd.C_nil _ _) (Nat.le_refl _) (Kd.C_nil _ _) (Nat.le_refl _) (Kd.C_nil _ _) (Nat.le_refl _) (Kd.C_nil _ _) (Nat.le_refl _) (Kd.C_nil _ _) (Nat.le_refl _) zL_enc zL_enc; have hs : pf_ [pl zL] [pl zL] = true := by unfold pf_; rw [beq_self_eq_true]
     rw [hs] at h
     exact h⟩
    have HWF := aM_ hwf; clear hba hga hwf hb8 hneg
    go_wp2_with fail
    refine HSM.out.mono ?_; rintro e w9 ⟨rfl, hb9⟩; have HBW9 := aM_ (da_ HWF.out hb9); clear hb9 HSM HBW ca0 ca1 ca2 ca3 ca4 ca5
    go_wp2
    go_roundg (7 - (i + 1))
    case measure => omega
    case rel => exact ⟨i + 1, Td_, Td_, Va_, HBW9⟩
   skip
   have hfs := idx_hit hk hkl; have heq := HEQ.out k hkl; rw [hfs] at heq; have hen := HEN.out k hkl; rw [heq] at r3 q3 r4 q4 r5 q5; rw [heq]; have hs0 : s = (atP L 3 k).f0 := by rw [← heq]; rfl
   subst hs0; have HIK := aM_ hk; generalize hxx : atP L 3 k = x at *; have HXX := aM_ hxx; clear hk hfs heq hxx; have hba := aa_ (Below.refl w6.heap.size w6) (.cells #[.string x.f0, .int .i64 x.f1, .int .i64 x.f2, .slice A3 x.f3.length c3, .slice A4 x.f4.length c4, .slice A5 x.f5.length c5] 44); have HW7 := aM_ (da_ HBW.out (da_ hb6 hba)); have hs7 := fa_ (da_ hb6 hba) hs; have HRF := aM_ (gq_ L AL cL x.f0 3 (w6.alloc (.cells #[.string x.f0, .int .i64 x.f1, .int .i64 x.f2, .slice A3 x.f3.length c3, .slice A4 x.f4.length c4, .slice A5 x.f5.length c5] 44)) (Kd.C_below HBL.out (da_ hb6 hba)) HLL.out HLA.out HCH.out); have HGA := aM_ (oa_ w6 (.cells #[.string x.f0, .int .i64 x.f1, .int .i64 x.f2, .slice A3 x.f3.length c3, .slice A4 x.f4.length c4, .slice A5 x.f5.length c5] 44)); have HA3 := aM_ (And.intro (Kd.C_below r3 hba) q3); have HA4 := aM_ (And.intro (Kd.C_below r4 hba) q4); have HA5 := aM_ (And.intro (Kd.C_below r5 hba) q5)
   skip
   have HEX := aM_ hen; clear hba hs hb6 r3 q3 r4 q4 r5 q5 hen
   go_wp2_with fail
   generalize w6.alloc (.cells #[.string x.f0, .int .i64 x.f1, .int .i64 x.f2, .slice A3 x.f3.length c3, .slice A4 x.f4.length c4, .slice A5 x.f5.length c5] 44) = w7 at *; generalize w6.heap.size = ga at *; refine HRF.out.mono ?_; rintro e w8 ⟨hres, hb8⟩; have hik := HIK.out
   rcases hres with ⟨hneg, _⟩ | ⟨k2, hk2, _, B3, d3, B4, d4, B5, d5, rfl, ⟨m3, p3⟩, ⟨m4, p4⟩, ⟨m5, p5⟩⟩
   ·exfalso; omega
   obtain rfl : k2 = k := by omega
   rw [HXX.out] at m3 p3 m4 p4 m5 p5; rw [HXX.out]; have hba := aa_ (Below.refl w8.heap.size w8) (.cells #[.string x.f0, .int .i64 x.f1, .int .i64 x.f2, .slice B3 x.f3.length d3, .slice B4 x.f4.length d4, .slice B5 x.f5.length d5] 44); have hga := la_ HGA.out (da_ hb8 hba); have ca0 := ba_ hga 0; have ca1 := ba_ hga 1; have ca2 := ba_ hga 2; have ca3 := ba_ hga 3; have ca4 := ba_ hga 4; have ca5 := ba_ hga 5; have hwf := da_ HW7.out (da_ hb8 hba)
   have HSM : Az (Calls Tryz.prog 25 #[.agg #[.string x.f0, .int .i64 x.f1, .int .i64 x.f2, .slice A3 x.f3.length c3, .slice A4 x.f4.length c4, .slice A5 x.f5.length c5], .agg #[.string x.f0, .int .i64 x.f1, .int .i64 x.f2, .slice B3 x.f3.length d3, .slice B4 x.f4.length d4, .slice B5 x.f5.length d5]] (w8.alloc (.cells #[.string x.f0, .int .i64 x.f1, .int .i64 x.f2, .slice B3 x.f3.length d3, .slice B4 x.f4.length d4, .slice B5 x.f5.length d5] 44)) fun e w' => e = .returned (.bool true) ∧ Below (w8.alloc (.cells #[.string x.f0, .int .i64 x.f1, .int .i64 x.f2, .slice B3 x.f3.length d3, .slice B4 x.f4.length d4, .slice B5 x.f5.length d5] 44)).heap.size (w8.alloc (.cells #[.string x.f0, .int .i64 x.f1, .int .i64 x.f2, .slice B3 x.f3.length d3, .slice B4 x.f4.length d4, .slice B5 x.f5.length d5] 44)) w') := ⟨by
    have hbb := da_ hb8 hba; have h := same_w x x A3 A4 A5 B3 B4 B5 c3 c4 c5 d3 d4 d5 (w8.alloc (.cells #[.string x.f0, .int .i64 x.f1, .int .i64 x.f2, .slice B3 x.f3.length d3, .slice B4 x.f4.length d4, .slice B5 x.f5.length d5] 44)) (Kd.C_below HA3.out.1 hbb) HA3.out.2 (Kd.C_below HA4.out.1 hbb) HA4.out.2 (Kd.C_below HA5.out.1 hbb) HA5.out.2 (Kd.C_below m3 hba) p3 (Kd.C_below m4 hba) p4 (Kd.C_below m5 hba) p5 HEX.out HEX.out; have hs : pf_ [pl x] [pl x] = true := by unfold pf_; rw [beq_self_eq_true]
    rw [hs] at h
    exact h⟩
   have HWF := aM_ hwf; clear hba hga hwf hb8 hik m3 p3 m4 p4 m5 p5
   go_wp2_with fail
   refine HSM.out.mono ?_; rintro e w9 ⟨rfl, hb9⟩; have HBW9 := aM_ (da_ HWF.out hb9); clear hb9 HSM HBW ca0 ca1 ca2 ca3 ca4 ca5
   go_wp2
   go_roundg (7 - (i + 1))
   case measure => omega
   case rel => exact ⟨i + 1, Td_, Td_, Va_, HBW9⟩
  obtain rfl : i = 7 := by omega
  have hll : 2 < L.length ∧ 1 < L.length := HLT.out; have HBL := aM_ (Kd.C_below HCL5.out HBW.out); have HR2 := aM_ (st_ AL cL L wr HBL.out HLL.out HOR.out (⟨#[97, 114, 45, 49]⟩ : BA) 2 23 30 HI2.out hll.1 HFL.out.1 HFL.out.2.2.1); have HL1 := aM_ hll.2; clear hll
  go_wp2_with fail
  refine HR2.out.mono ?_; rintro e w6 ⟨p2, e2, A3, c3, A4, c4, A5, s5, c5, rfl, r3, r4, hb6⟩; have hba := aa_ (Below.refl w6.heap.size w6) (.cells #[.string (⟨#[97, 114, 45, 49]⟩ : BA), .int .i64 p2, .int .i64 e2, .slice A3 23 c3, .slice A4 30 c4, .slice A5 s5 c5] 44); have HGA := aM_ (oa_ w6 (.cells #[.string (⟨#[97, 114, 45, 49]⟩ : BA), .int .i64 p2, .int .i64 e2, .slice A3 23 c3, .slice A4 30 c4, .slice A5 s5 c5] 44)); have hbb := da_ hb6 hba; have HW7 := aM_ (da_ HBW.out hbb); have HX3 := aM_ (And.intro (Kd.C_below r3.1 hba) r3.2); have HX4 := aM_ (And.intro (Kd.C_below r4.1 hba) r4.2); have HR1 := aM_ (st_ AL cL L (w6.alloc (.cells #[.string (⟨#[97, 114, 45, 49]⟩ : BA), .int .i64 p2, .int .i64 e2, .slice A3 23 c3, .slice A4 30 c4, .slice A5 s5 c5] 44)) (Kd.C_below HBL.out hbb) HLL.out HOR.out (⟨#[101, 110]⟩ : BA) 1 22 30 HI1.out HL1.out HFL.out.2.1 HFL.out.2.2.2.1); clear r3 r4 hb6 hba hbb HR2 HBL HBW
  go_wp2_with fail
  generalize w6.alloc (.cells #[.string (⟨#[97, 114, 45, 49]⟩ : BA), .int .i64 p2, .int .i64 e2, .slice A3 23 c3, .slice A4 30 c4, .slice A5 s5 c5] 44) = w7 at *; generalize w6.heap.size = ga at *; refine HR1.out.mono ?_; rintro e w8 ⟨p1, e1, B3, d3, B4, d4, B5, t5, d5, rfl, m3, m4, hb8⟩; have hba := aa_ (Below.refl w8.heap.size w8) (.cells #[.string (⟨#[101, 110]⟩ : BA), .int .i64 p1, .int .i64 e1, .slice B3 22 d3, .slice B4 30 d4, .slice B5 t5 d5] 44); have HGB := aM_ (oa_ w8 (.cells #[.string (⟨#[101, 110]⟩ : BA), .int .i64 p1, .int .i64 e1, .slice B3 22 d3, .slice B4 30 d4, .slice B5 t5 d5] 44)); have hbb := da_ hb8 hba; replace HGA := aM_ (la_ HGA.out hbb); have HW9 := aM_ (da_ HW7.out hbb); replace HX3 := aM_ (And.intro (Kd.C_below HX3.out.1 hbb) HX3.out.2); replace HX4 := aM_ (And.intro (Kd.C_below HX4.out.1 hbb) HX4.out.2); clear m3 m4 hb8 hba hbb HR1 HW7
  go_wp2_with fail
  generalize w8.alloc (.cells #[.string (⟨#[101, 110]⟩ : BA), .int .i64 p1, .int .i64 e1, .slice B3 22 d3, .slice B4 30 d4, .slice B5 t5 d5] 44) = w9 at *; generalize w8.heap.size = gb at *; obtain ⟨ad, hA, f0, f1, f2⟩ := tp_ HX3.out.1 0 Td_ (by have := HFL.out.1; omega); subst hA
  have f0' : w9.cell? ad = some (.string (⟨#[106, 97, 110]⟩ : BA)) := by
   rw [HFL.out.2.2.2.2] at f0; have e : ad.add ((0 : Int).toNat * 3) = ad := by unfold Addr.add; exact if_pos rfl
   rw [e] at f0; exact f0
  have ca3 : w9.cell? ⟨ga, 3, none⟩ = some (.slice (some ad) 23 c3) := ba_ HGA.out 3; have ca4 : w9.cell? ⟨ga, 4, none⟩ = some (.slice A4 30 c4) := ba_ HGA.out 4; have cb3 : w9.cell? ⟨gb, 3, none⟩ = some (.slice B3 22 d3) := ba_ HGB.out 3; have cb4 : w9.cell? ⟨gb, 4, none⟩ = some (.slice B4 30 d4) := ba_ HGB.out 4
  have HCK : Az (∀ W, Below w9.heap.size w9 W → Calls Tryz.prog 28 #[.slice A4 30 c4] W fun e w' => e = .returned (.bool true) ∧ Below W.heap.size W w') := ⟨fun W hW => by
   have e : (jd_ L 2).length = 30 := HFL.out.2.2.1; have h := r4_Check.calls A4 c4 (jd_ L 2) true W (Kd.C_below HX4.out.1 hW) (by rw [e]; exact HX4.out.2) (by unfold r4_Check.f; rw [HFC.out]); rw [e] at h
   exact h⟩
  have hw23 : wrap64 23 = 23 := ge_ Td_; have hw30 : wrap64 30 = 30 := ge_ Td_; clear f0 f1 f2 HX3 HX4; refine fd_ (n := 49) (S := fun w' => w'.cell? ⟨ga, 3, none⟩ = some (.slice (some ad) 23 c3) ∧ w'.cell? ⟨ga, 4, none⟩ = some (.slice A4 30 c4) ∧ w'.cell? ⟨gb, 3, none⟩ = some (.slice B3 22 d3) ∧ w'.cell? ⟨gb, 4, none⟩ = some (.slice B4 30 d4) ∧ w'.cell? ad = some (.string (⟨#[106, 97, 110]⟩ : BA)) ∧ Az (Below w9.heap.size w9 w')) (ds := []) (f_ 49 0) Ti_ rfl rfl ⟨ca3, ca4, cb3, cb4, f0', ⟨ga_ (Below.refl _ _)⟩⟩ (fun hHeld => ?_); refine pV_ 0 ?_; refine tV6_ 1 ?_; refine pV_ 2 ?_; refine pV_ 3 ?_; refine tV6_ 4 ?_; refine pV_ 5 ?_; refine pV_ 6 ?_; refine pV_ 7 ?_; refine pV_ 8 ?_; refine pV_ 9 ?_; refine tV6_ 10 ?_; refine pV_ 11 ?_; refine pV_ 12 ?_; refine tV6_ 13 ?_; refine pV_ 14 ?_; refine pV_ 15 ?_; refine pV_ 16 ?_; refine pV_ 17 ?_; refine pV_ 18 ?_; refine tV6_ 19 ?_; refine pV_ 20 ?_; refine pV_ 23 ?_; refine oN_ 21 fun K hK => ?_
  refine ko_ Tryz.func26 Ti_ rfl #[] Vh_ rfl rfl (by simp only [List.map_toArray, List.map_nil]) ?_
  refine (rj_ _).mono ?_; rintro e w21 ⟨vo, rfl, hS, hB⟩; obtain ⟨voA, voc, vos, _⟩ := Kd.S_reads hS; have voh : vo = .slice voA 22 voc := vos; clear vos hS; subst voh; refine ⟨_, rfl, ?_⟩; refine hK.out _ _ ⟨fa_ hB hHeld.1, fa_ hB hHeld.2.1, fa_ hB hHeld.2.2.1, fa_ hB hHeld.2.2.2.1, fa_ hB hHeld.2.2.2.2.1, ⟨da_ hHeld.2.2.2.2.2.out hB⟩⟩ (fun hHeld => ?_); clear hK K; refine nO_ ?_; refine pV_ 22 ?_; refine oN_ 24 fun K hK => ?_
  refine gO_ Tryz.func27 #[.int .i64 n5] ?_
  refine (jl_ n5 _).mono ?_; rintro e w24 ⟨vd, rfl, hS, hB⟩; obtain ⟨vdA, vdc, vds, _⟩ := Kd.S_reads hS; have vdh : vd = .slice vdA 8 vdc := vds; clear vds hS; subst vdh; refine ⟨_, rfl, ?_⟩; refine hK.out _ _ ⟨fa_ hB hHeld.1, fa_ hB hHeld.2.1, fa_ hB hHeld.2.2.1, fa_ hB hHeld.2.2.2.1, fa_ hB hHeld.2.2.2.2.1, ⟨da_ hHeld.2.2.2.2.2.out hB⟩⟩ (fun hHeld => ?_); clear hK K; refine nO_ ?_; refine pV_ 25 ?_; refine pV_ 26 ?_; refine pV_ 27 ?_; refine pV_ 28 ?_; refine pV_ 29 ?_; refine pV_ 30 ?_; refine tV6_ 31 ?_; refine oN_ 32 fun K hK => ?_
  refine gO_ Tryz.func28 #[.slice A4 30 c4] ?_
  refine (HCK.out _ hHeld.2.2.2.2.2.out).mono ?_; rintro e w32 ⟨rfl, hB⟩; refine ⟨_, rfl, ?_⟩; refine hK.out _ _ ⟨fa_ hB hHeld.1, fa_ hB hHeld.2.1, fa_ hB hHeld.2.2.1, fa_ hB hHeld.2.2.2.1, fa_ hB hHeld.2.2.2.2.1, ⟨da_ hHeld.2.2.2.2.2.out hB⟩⟩ (fun hHeld => ?_); clear hK K; refine nO_ ?_; refine pV_ 33 ?_; refine pV_ 34 ?_; refine pV_ 35 ?_; refine tV6_ 36 ?_; refine pV_ 37 ?_; refine pV_ 38 ?_; refine tV6_ 39 ?_; refine pV_ 41 ?_; refine tV6_ 42 ?_; refine pV_ 43 ?_; refine pV_ 44 ?_; refine tV6_ 45 ?_; refine oN_ 40 fun K hK => ?_
  refine gO_ Tryz.func29 #[.string (⟨#[106, 97, 110]⟩ : BA)] ?_
  refine (interlocutorref3_Text.calls 60 _ _ _ text_jan).mono ?_; rintro e w40 ⟨rfl, hB⟩; refine ⟨_, rfl, ?_⟩; refine hK.out _ _ ⟨fa_ hB hHeld.1, fa_ hB hHeld.2.1, fa_ hB hHeld.2.2.1, fa_ hB hHeld.2.2.2.1, fa_ hB hHeld.2.2.2.2.1, ⟨da_ hHeld.2.2.2.2.2.out hB⟩⟩ (fun hHeld => ?_); clear hK K; refine nO_ ?_; refine pV_ 46 ?_; refine pV_ 47 ?_; refine pV_ 48 ?_; refine wd_ Ti_ ?_
  go_wp2
  go_ret
  exact ⟨rfl, da_ HB5.out (da_ HW9.out hHeld.2.2.2.2.2.out)⟩
end Go.Proofs.YtiocgaekoeekgaaGreat.P
end
section
namespace Go.Proofs.YtiocgaekoeekgaaGreat.P
open Go.RowKit YtiocgaekoeekgaaGreatW.PrintWords YtiocgaekoeekgaaGreatW.PrintLast YtiocgaekoeekgaaGreatW.PrintMore
attribute [local go_sem] ub_ rb_ cc_ bc_ kb_ jb_ tb_ qb_   
set_option linter.unusedVariables false
set_option linter.unusedSimpArgs false
theorem gs_ {P : Program} {t : TypeId} (ht : P.underlying t = some .bool) (hc : P.cellsOf t = 1) : aj_ P t Kd.bool (fun _ => True) := by
 refine ⟨hc, fun H enc W base spare held fuel cs x h => ?_⟩
 obtain ⟨b, rfl, _⟩ := DataW.trod_bool ht h
 exact ⟨b, rfl, trivial⟩
theorem opBool : aj_ Tryz.prog 4 Kd.bool (fun _ => True) := gs_ Tryz.underlying4 Ti_
theorem open_shape {H : Type} {enc : TypeId × Value → H} {W : World} {base : Nat} {spare : Nat → Bool} {held : Bool} {fuel : Nat} {cs : List Value} {x : DataW H × List MemPlace} (h : DataW.trod enc Tryz.prog W base spare held fuel 24 cs = some x) :
  ∃ (a0 a1 a2 a3 : Int) (l : List S120) (b : Bool) (A : Option Addr) (c : Nat), cs = [.int .i64 a0, .int .i64 a1, .int .i64 a2, .int .i64 a3, .slice A l.length c, .bool b] ∧ (wfI a0 ∧ wfI a1 ∧ wfI a2 ∧ wfI a3) ∧ (∀ x ∈ l, dl_ x) ∧ l.length ≤ c ∧ Kd.C k120 W A l.length l := by
 obtain ⟨hl, hf⟩ := sj_ Tryz.underlying24 h
 have hl2 : cs.length = 6 := hl.trans Ti_
 obtain ⟨v0, k0, w0⟩ := hf 0 _ rfl cl_
 obtain ⟨v1, k1, w1⟩ := hf 1 _ rfl cl_
 obtain ⟨v2, k2, w2⟩ := hf 2 _ rfl cl_
 obtain ⟨v3, k3, w3⟩ := hf 3 _ rfl cl_
 obtain ⟨v4, ⟨A4, c4, k4, l4, g4⟩, w4⟩ := hf 4 _ rfl opRaws
 obtain ⟨v5, k5, w5⟩ := hf 5 _ rfl opBool
 match cs, hl2 with
 | [b0, b1, b2, b3, b4, b5], _ =>
  have e0 : [b0] = [.int .i64 v0] := k0; have e1 : [b1] = [.int .i64 v1] := k1; have e2 : [b2] = [.int .i64 v2] := k2; have e3 : [b3] = [.int .i64 v3] := k3; have e4 : [b4] = [.slice A4 v4.length c4] := k4; have e5 : [b5] = [.bool v5] := k5; rw [(List.cons.inj e0).1, (List.cons.inj e1).1, (List.cons.inj e2).1, (List.cons.inj e3).1, (List.cons.inj e4).1, (List.cons.inj e5).1]; exact ⟨v0, v1, v2, v3, v4, v5, A4, c4, rfl, ⟨w0, w1, w2, w3⟩, w4, l4, g4⟩
end Go.Proofs.YtiocgaekoeekgaaGreat.P
end
