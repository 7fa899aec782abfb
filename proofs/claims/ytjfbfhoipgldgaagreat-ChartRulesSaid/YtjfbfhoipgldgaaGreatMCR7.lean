/- Of any rules, over any rows of numbers and marks, chart.Spans and chart.Count tell what the document's chapter 7 tells. Part 7: contracts of the functions that the law reaches, and words for them. -/
import Derived.Test.YtjfbfhoipgldgaaGreatMCR6
section
namespace Go.Proofs.YtjfbfhoipgldgaaGreat.Pure
open Go.RowKit Go.Proofs.YtjfbfhoipgldgaaGreat.P Go.Proofs.YtjfbfhoipgldgaaGreatW.PrintWords Go.Proofs.YtjfbfhoipgldgaaGreatW.PrintLast
def tn_ (ns : List Int) (i : Nat) : Int := rd ([0, 0, 1, 2, 50, 51] : List Int) ((rd ns (i : Int)) % 6)
def ruleD (ns : List Int) (i : Nat) : Int := rd ([0, 1, 3, 53] : List Int) ((wrap64 (Int.tdiv (rd ns (i : Int)) 18)) % 4)
def ik_ (ns : List Int) (K i : Nat) : Bool := decide (i + 2 ≤ K) && decide ((wrap64 (Int.tdiv (rd ns (i : Int)) 6)) % 3 = 0)
def aj_ (ns : List Int) (K i : Nat) : List Tok' := ⟨(i : Int), ((i + 1 : Nat) : Int), tn_ ns i, 0, 0⟩ :: if ik_ ns K i = true then [⟨(i : Int), ((i + 2 : Nat) : Int), ruleD ns i, 0, 0⟩] else []
def yd_ (ns : List Int) (K i : Nat) : List Tok' := (List.range i).flatMap (aj_ ns K)
theorem vl_ (ns : List Int) (K i : Nat) : yd_ ns K (i + 1) = yd_ ns K i ++ aj_ ns K i := by
 unfold yd_
 rw [List.range_succ, List.flatMap_append]
 simp
theorem iv_ (ns : List Int) (K i : Nat) : (aj_ ns K i).length ≤ 2 := by
 unfold aj_
 split <;> simp
theorem tj_ (ns : List Int) (K : Nat) : ∀ i, (yd_ ns K i).length ≤ 2 * i
 | 0 => by simp [yd_]
 | i + 1 => by
  have h1 := tj_ ns K i
  have h2 := iv_ ns K i
  rw [vl_, List.length_append]
  omega
theorem lv_ (ns : List Int) (i : Nat) : -1000000 ≤ tn_ ns i ∧ tn_ ns i ≤ 1000000 := by
 unfold tn_
 obtain ⟨j, hj⟩ := tp_ 6 rfl (oe_ (rd ns (i : Int)) 6 (by decide)) (ne_ (rd ns (i : Int)) 6 (by decide))
 rw [hj]
 exact (by decide : ∀ j : Fin 6, -1000000 ≤ rd ([0, 0, 1, 2, 50, 51] : List Int) ((j.val : Nat) : Int) ∧ rd ([0, 0, 1, 2, 50, 51] : List Int) ((j.val : Nat) : Int) ≤ 1000000) j
theorem kv_ (ns : List Int) (i : Nat) : -1000000 ≤ ruleD ns i ∧ ruleD ns i ≤ 1000000 := by
 unfold ruleD
 obtain ⟨j, hj⟩ := tp_ 4 rfl (oe_ (wrap64 (Int.tdiv (rd ns (i : Int)) 18)) 4 (by decide)) (ne_ (wrap64 (Int.tdiv (rd ns (i : Int)) 18)) 4 (by decide))
 rw [hj]
 exact (by decide : ∀ j : Fin 4, -1000000 ≤ rd ([0, 1, 3, 53] : List Int) ((j.val : Nat) : Int) ∧ rd ([0, 1, 3, 53] : List Int) ((j.val : Nat) : Int) ≤ 1000000) j
theorem os_ (ns : List Int) (K : Nat) (x : Tok') (hx : x ∈ yd_ ns K K) : (0 ≤ x.f0 ∧ x.f0 < x.f1 ∧ x.f1 ≤ (K : Int)) ∧ (-1000000 ≤ x.f2 ∧ x.f2 ≤ 1000000) := by
 obtain ⟨i, hi, hx⟩ := List.mem_flatMap.1 hx
 have hiK := List.mem_range.1 hi
 unfold aj_ at hx
 rcases List.mem_cons.1 hx with rfl | hx
 ·exact ⟨⟨by show (0 : Int) ≤ (i : Int); omega, by show (i : Int) < ((i + 1 : Nat) : Int); omega, by show ((i + 1 : Nat) : Int) ≤ (K : Int); omega⟩, lv_ ns i⟩
 split at hx
 ·rename_i hb
  unfold ik_ at hb
  simp only [Bool.and_eq_true, decide_eq_true_eq] at hb
  rw [List.mem_singleton.1 hx]
  exact ⟨⟨by show (0 : Int) ≤ (i : Int); omega, by show (i : Int) < ((i + 2 : Nat) : Int); omega, by show ((i + 2 : Nat) : Int) ≤ (K : Int); omega⟩, kv_ ns i⟩
 simp at hx
theorem ruleL_ok (R : List qa_) (hR : R.length ≤ 1000000) (ns : List Int) (K : Nat) (hK : K ≤ 7) : okIn R (yd_ ns K K) K = true :=
 (qe_ _ _ _).2 ⟨hR, by have := tj_ ns K K; omega, fun x hx => os_ ns K x hx⟩
theorem jv_ (ns : List Int) (K : Nat) : K = 0 ∨ ∃ x ∈ yd_ ns K K, x.f1 = (K : Int) := by
 cases K with
 | zero => exact .inl rfl
 | succ K =>
  refine .inr ⟨⟨(K : Int), ((K + 1 : Nat) : Int), tn_ ns K, 0, 0⟩, ?_, rfl⟩
  refine List.mem_flatMap.2 ⟨K, List.mem_range.2 (Nat.lt_succ_self K), ?_⟩
  unfold aj_
  exact List.mem_cons_self
theorem wl_ (R : List qa_) (ns : List Int) (K : Nat) (hK : K ≤ 7) (hKn : K ≤ ns.length) (m : Nat) : ∀ d i, i + d = K → l7_ChartRules.l0 (m + 1 + d) ns R (yd_ ns K i) (K : Int) (i : Int) = ((chart_Spans.f R (yd_ ns K K) (K : Int)).bind fun t249 => ((interlocutorref7_Spans.f R (yd_ ns K K) (K : Int)).bind fun t252 => ((l7_same.f m t249 t252).bind fun t255 => (if t255 = true then (l7_ChartRules.l1 m R (yd_ ns K K) (K : Int) 0) else (some false)))))
 | 0, i, h => by
  obtain rfl : i = K := by omega
  rw [Nat.add_zero, l7_ChartRules.l0, if_neg (by omega)]
 | d + 1, i, h => by
  have ih := wl_ R ns K hK hKn m d (i + 1) (by omega)
  have hw : wrap64 ((i : Int) + 1) = ((i + 1 : Nat) : Int) := by unfold wrap64; omega
  have hw2 : wrap64 ((i : Int) + 2) = ((i + 2 : Nat) : Int) := by unfold wrap64; omega
  have h0 := oe_ (rd ns (i : Int)) 6 (by decide)
  have h1 := ne_ (rd ns (i : Int)) 6 (by decide)
  have h2 := oe_ (wrap64 (Int.tdiv (rd ns (i : Int)) 18)) 4 (by decide)
  have h3 := ne_ (wrap64 (Int.tdiv (rd ns (i : Int)) 18)) 4 (by decide)
  have hlen := tj_ ns K i
  have hs := vl_ ns K i
  rw [show m + 1 + (d + 1) = (m + 1 + d) + 1 by omega, l7_ChartRules.l0, if_pos (by omega), Option.bind_some, if_pos (by omega), if_pos (by omega), tf_ _ 6 (by decide) (by decide), Option.bind_some, if_pos h0, if_pos (by show _ < (6 : Int); exact h1), if_pos (by omega), Option.bind_some, hw2, hw]
  have e1 : yd_ ns K i ++ [(⟨(i : Int), ((i + 1 : Nat) : Int), rd ([0, 0, 1, 2, 50, 51] : List Int) ((rd ns (i : Int)) % 6), 0, 0⟩ : Tok')] = yd_ ns K i ++ [⟨(i : Int), ((i + 1 : Nat) : Int), tn_ ns i, 0, 0⟩] := rfl
  by_cases hb1 : i + 2 ≤ K
  ·rw [if_pos (by omega), tf_ _ 3 (by decide) (by decide), Option.bind_some]
   by_cases hb2 : (wrap64 (Int.tdiv (rd ns (i : Int)) 6)) % 3 = 0
   ·have hb : ik_ ns K i = true := by unfold ik_; rw [decide_eq_true hb1, decide_eq_true hb2]; rfl
    rw [if_pos hb2, Option.bind_some, tf_ _ 4 (by decide) (by decide), Option.bind_some, if_pos h2, if_pos (by show _ < (4 : Int); exact h3), if_pos (by rw [List.length_append]; simp; omega)]
    have hrow : yd_ ns K i ++ [(⟨(i : Int), ((i + 1 : Nat) : Int), rd ([0, 0, 1, 2, 50, 51] : List Int) ((rd ns (i : Int)) % 6), 0, 0⟩ : Tok')] ++ [(⟨(i : Int), ((i + 2 : Nat) : Int), rd ([0, 1, 3, 53] : List Int) ((wrap64 (Int.tdiv (rd ns (i : Int)) 18)) % 4), 0, 0⟩ : Tok')] = yd_ ns K (i + 1) := by
     rw [hs]
     unfold aj_
     rw [if_pos hb, List.append_assoc]
     rfl
    rw [hrow]
    exact ih
   have hb : ¬ ik_ ns K i = true := by unfold ik_; rw [decide_eq_false hb2]; simp
   rw [if_neg hb2]
   have hrow : yd_ ns K i ++ [(⟨(i : Int), ((i + 1 : Nat) : Int), rd ([0, 0, 1, 2, 50, 51] : List Int) ((rd ns (i : Int)) % 6), 0, 0⟩ : Tok')] = yd_ ns K (i + 1) := by
    rw [hs]
    unfold aj_
    rw [if_neg hb]
    rfl
   rw [hrow]
   exact ih
  have hb : ¬ ik_ ns K i = true := by unfold ik_; rw [decide_eq_false hb1]; simp
  rw [if_neg (by omega)]
  have hrow : yd_ ns K i ++ [(⟨(i : Int), ((i + 1 : Nat) : Int), rd ([0, 0, 1, 2, 50, 51] : List Int) ((rd ns (i : Int)) % 6), 0, 0⟩ : Tok')] = yd_ ns K (i + 1) := by
   rw [hs]
   unfold aj_
   rw [if_neg hb]
   rfl
  rw [hrow]
  exact ih
theorem eh_ (R : List qa_) (hch : xa_ R = true) (toks : List Tok') (K : Nat) (hK : K ≤ 256) (hok : okIn R toks K = true) (hend : K = 0 ∨ ∃ x ∈ toks, x.f1 = (K : Int)) (m : Nat) : ∀ (d s : Nat), s + d = 5 → l7_ChartRules.l1 (m + 1 + d) R toks (K : Int) (s : Int) = some true
 | 0, s, h => by
  rw [Nat.add_zero, l7_ChartRules.l1, if_neg (by omega)]
 | d + 1, s, h => by
  have ih := eh_ R hch toks K hK hok hend m d (s + 1) (by omega)
  have hw : wrap64 ((s : Int) + 1) = ((s + 1 : Nat) : Int) := by unfold wrap64; omega
  obtain ⟨v, e1, e2⟩ := np_ R hch toks K hK hok hend s (by omega) 1000000 (by decide) (by decide)
  rw [show m + 1 + (d + 1) = (m + 1 + d) + 1 by omega, l7_ChartRules.l1, if_pos (by omega), e1, Option.bind_some, e2, Option.bind_some, if_pos rfl, hw]
  exact ih
theorem ChartRules (l0 : List Raw') (a1 : Int) (l2 : List Int) (hl : l0.length ≤ 9223372036854775807) (hok : ∀ x ∈ l0, ao_ x) (_ : l2.length ≤ 9223372036854775807) (_ : ∀ n ∈ l2, wfI n) : ∃ k, l7_ChartRules.f k l0 a1 l2 = some true := by
 by_cases hf : (fewB l0 && decide (l0.length ≤ 80)) = true
 ·have hf2 := hf
  rw [Bool.and_eq_true, decide_eq_true_eq] at hf2
  by_cases h8 : l0.length > 10
  ·refine ⟨l0.length + 1, ?_⟩
   unfold l7_ChartRules.f
   rw [si_, Option.bind_some, if_pos rfl, mm_ l0 hl _ (by omega), Option.bind_some, if_pos hf, l7_ChartRules.j0, if_pos (decide_eq_true (by omega))]
  have h0 := oe_ a1 5 (by decide)
  have h1 := ne_ a1 5 (by decide)
  have hws : wrap64 (1 + a1 % 5) = 1 + a1 % 5 := by unfold wrap64; omega
  obtain ⟨R, hT, hR⟩ := ms_ l0 (1 + a1 % 5) ⟨by omega, by omega⟩ hf2.2 hok hf2.1
  obtain ⟨K, hK⟩ : ∃ K : Nat, mn (l2.length : Int) 7 = (K : Int) := ⟨(mn (l2.length : Int) 7).toNat, by unfold mn; split <;> omega⟩
  have hKb : K ≤ 7 ∧ K ≤ l2.length := by
   unfold mn at hK
   split at hK <;> omega
  have hRl : R.length ≤ 1000000 := by have := ((bc_ _).1 hT.check).1; omega
  obtain ⟨t, ht⟩ : ∃ t, t = yd_ l2 K K := ⟨_, rfl⟩
  have htok : okIn R t K = true := by rw [ht]; exact ruleL_ok R hRl l2 K hKb.1
  have hend : K = 0 ∨ ∃ x ∈ t, x.f1 = (K : Int) := by rw [ht]; exact jv_ l2 K
  have hA := spans_lt R t K (by omega)
  obtain ⟨m, hm⟩ : ∃ m, m = (tc_ R t K).length + max 300 l0.length + 10 := ⟨_, rfl⟩
  have hloop := wl_ R l2 K hKb.1 hKb.2 (m + 1 + 5) K 0 (by omega)
  rw [← ht, spans_f R t K (by omega) htok, Option.bind_some, spans7_f R hT.check t K (by omega) htok, Option.bind_some, hv_ _ hA (m + 1 + 5) (by omega), Option.bind_some, if_pos rfl] at hloop
  have hcnt := eh_ R hT.check t K (by omega) htok hend m 5 0 (by omega)
  refine ⟨m + 1 + 5 + 1 + K + 1, ?_⟩
  unfold l7_ChartRules.f
  rw [si_, Option.bind_some, if_pos rfl, mm_ l0 hl _ (by omega), Option.bind_some, if_pos hf, l7_ChartRules.j0, if_neg (by rw [decide_eq_false (by omega)]; decide), tf_ a1 5 (by decide) (by decide), Option.bind_some, hws, hR _ (by omega), Option.bind_some, hK]
  exact hloop.trans hcnt
 refine ⟨l0.length + 1, ?_⟩
 unfold l7_ChartRules.f
 rw [si_, Option.bind_some, if_pos rfl, mm_ l0 hl _ (by omega), Option.bind_some, if_neg hf, l7_ChartRules.j0, if_pos rfl]
end Go.Proofs.YtjfbfhoipgldgaaGreat.Pure
end
