/- What Check, Units, Reached tell, in plain words. -/
import Derived.Test.YtjomlfdkmdgclaaHGramCheck
import Derived.Test.YtjomlfdkmdgclaaHGramReached
namespace Go.Proofs.Ytjomlfdkmdgclaa.P
open Go.RowKit Go.Proofs.YtjomlfdkmdgclaaW.PrintWords Go.Proofs.YtjomlfdkmdgclaaW.PrintLast Go.Proofs.YtjomlfdkmdgclaaW.PrintMore
attribute [local go_sem] max2_int min2_int max_two min_two max_three min_three max_four min_four   -- for this text's walks alone
set_option linter.unusedVariables false
set_option linter.unusedSimpArgs false

theorem Reach.inv {next : Int → List Int} {l0 : List Int} {P : Int → Prop} (h0 : ∀ x ∈ l0, P x) (hs : ∀ x, P x → ∀ y ∈ next x, P y) {y : Int} (h : Reach next l0 y) : P y := by
  induction h with
  | base h => exact h0 _ h
  | step _ h ih => exact hs _ ih _ h
theorem Reach.mono {next next' : Int → List Int} {l0 l0' : List Int} (hd : ∀ x, inSym x → ∀ y ∈ next x, inSym y) (hl : ∀ x ∈ l0, inSym x) (h0 : ∀ x ∈ l0, x ∈ l0') (hs : ∀ x, inSym x → ∀ y ∈ next x, y ∈ next' x) {y : Int} (h : Reach next l0 y) : Reach next' l0' y := by
  have : Reach next' l0' y ∧ inSym y := by
    induction h with
    | base h => exact ⟨.base (h0 _ h), hl _ h⟩
    | step _ h ih => exact ⟨.step ih.1 (hs _ ih.2 _ h), hd _ ih.2 _ h⟩
  exact this.1
theorem reachL_eq {next next' : Int → List Int} {l0 l0' : List Int} (h : ∀ y, inSym y → (Reach next l0 y ↔ Reach next' l0' y)) : reachL next l0 = reachL next' l0' := by
  unfold reachL
  refine List.filter_congr fun y hy => ?_
  exact decide_eq_decide.2 (h y ((mem_symbols y).1 hy))

def hits (r : Rule') (p : Int × Int) : Prop := r.f1 = [p.2] ∧ inSym p.2 ∧ r.f0 = p.1
theorem hits_iff (r : Rule') (p : Int × Int) : hits r p ↔ (r.f1.length = 1 ∧ 0 ≤ rd r.f1 0 ∧ rd r.f1 0 < 20) ∧ p = (r.f0, rd r.f1 0) := by
  unfold hits inSym
  constructor
  · rintro ⟨h1, h2, h3⟩
    have h4 : rd r.f1 0 = p.2 := by rw [h1]; rfl
    rw [h4, h3, h1]
    exact ⟨⟨rfl, h2⟩, rfl⟩
  · rintro ⟨⟨h1, h2, h3⟩, rfl⟩
    refine ⟨?_, ⟨h2, h3⟩, rfl⟩
    match hr : r.f1, h1 with
    | [x], _ => simp [rd]
theorem found_pos (p : Int × Int) : ∀ (l : List Rule') (m : List ((Int × Int) × Int)), (∀ q, 0 ≤ (mget m q).getD 0) → (0 < (mget (l.foldl foundStep m) p).getD 0 ↔ 0 < (mget m p).getD 0 ∨ ∃ r ∈ l, hits r p)
  | [], m, h => by simp
  | r :: l, m, h => by
    have h2 : ∀ q, 0 ≤ (mget (foundStep m r) q).getD 0 := by
      intro q
      unfold foundStep
      split
      · by_cases e : q = (r.f0, rd r.f1 0)
        · subst e
          rw [mget_mput_same]
          have := h (r.f0, rd r.f1 0)
          simp only [Option.getD_some]
          omega
        · rw [mget_mput_other _ _ _ e]; exact h q
      · exact h q
    rw [List.foldl_cons, found_pos p l _ h2]
    have h3 : 0 < (mget (foundStep m r) p).getD 0 ↔ 0 < (mget m p).getD 0 ∨ hits r p := by
      rw [hits_iff]
      unfold foundStep
      split
      case isTrue hc =>
        by_cases e : p = (r.f0, rd r.f1 0)
        · have := h p
          rw [e, mget_mput_same]
          simp only [Option.getD_some]
          rw [e] at this
          constructor
          · intro _; exact .inr ⟨hc, trivial⟩
          · intro _; omega
        · rw [mget_mput_other _ _ _ e]
          exact ⟨.inl, fun h => h.elim id (fun h => absurd h.2 e)⟩
      case isFalse hc => exact ⟨.inl, fun h => h.elim id (fun h => absurd h.1 hc)⟩
    rw [h3, or_assoc]
    simp
theorem mem_rowsNext (l0 : List Rule') (x : Int) (hx : inSym x) (y : Int) : y ∈ rowsNext l0 x ↔ inSym y ∧ ∃ r ∈ l0, r.f0 = x ∧ r.f1 = [y] := by
  obtain ⟨n, rfl⟩ : ∃ n : Nat, x = n := ⟨x.toNat, by have := hx.1; omega⟩
  rw [rowsNext_at l0 n (by have := hx.2; omega)]
  unfold rowUpto foundL
  rw [List.mem_filter]
  have hm : y ∈ (List.range 20).map (fun (x : Nat) => (x : Int)) ↔ inSym y := mem_symbols y
  rw [hm, decide_eq_true_eq, found_pos _ l0 [] (fun q => by simp [mget])]
  simp only [mget, Option.getD_none, Int.lt_irrefl, false_or, hits]
  constructor
  · rintro ⟨h1, r, hr, h2, _, h3⟩
    exact ⟨h1, r, hr, h3, h2⟩
  · rintro ⟨h1, r, hr, h2, h3⟩
    exact ⟨h1, r, hr, h3, h1, h2⟩
theorem leadsBack_iff (l0 : List Rule') (x : Int) (hx : inSym x) : leadsBack l0 x = true ↔ Reach (rowsNext l0) (rowsNext l0 x) x := by
  unfold leadsBack
  rw [decide_eq_true_eq, mem_reachL (rowsNext_sym l0) (rowsNext_sym l0 x hx)]
theorem checkP_iff (l0 : List Rule') : checkP l0 = true ↔ l0.length ≤ 60 ∧ l0.all rightR = true ∧ ∀ x, inSym x → ¬ Reach (rowsNext l0) (rowsNext l0 x) x := by
  unfold checkP
  rw [Bool.and_eq_true, Bool.and_eq_true, decide_eq_true_eq, List.all_eq_true (l := symbols)]
  refine and_congr Iff.rfl (and_congr Iff.rfl ⟨fun h x hx => ?_, fun h x hx => ?_⟩)
  · have h1 := h x ((mem_symbols x).2 hx)
    rw [← leadsBack_iff l0 x hx]
    intro h2
    rw [h2] at h1
    cases h1
  · have hx' := (mem_symbols x).1 hx
    have h1 := h x hx'
    rw [← leadsBack_iff l0 x hx'] at h1
    simp [h1]
/-- Units that rise lead to no round. -/
theorem no_round (l0 : List Rule') (f : Int → Int) (h : ∀ r ∈ l0, ∀ y, r.f1 = [y] → inSym r.f0 → inSym y → f r.f0 < f y) (x : Int) (hx : inSym x) : ¬ Reach (rowsNext l0) (rowsNext l0 x) x := by
  have hstep : ∀ x, inSym x → ∀ y ∈ rowsNext l0 x, f x < f y := by
    intro x hx y hy
    obtain ⟨h1, r, hr, h2, h3⟩ := (mem_rowsNext l0 x hx y).1 hy
    subst h2
    exact h r hr y h3 hx h1
  intro hr
  have := Reach.inv (P := fun y => inSym y ∧ f x < f y) (fun y hy => ⟨rowsNext_sym l0 x hx y hy, hstep x hx y hy⟩) (fun z hz y hy => ⟨rowsNext_sym l0 z hz.1 y hy, Int.lt_trans hz.2 (hstep z hz.1 y hy)⟩) hr
  exact Int.lt_irrefl _ this.2
theorem mem_nextP (l0 : List Rule') (x y : Int) : y ∈ nextP l0 x ↔ inSym y ∧ ∃ r ∈ l0, r.f0 = x ∧ y ∈ r.f1 := by
  unfold nextP
  rw [List.mem_flatMap]
  constructor
  · rintro ⟨r, hr, h⟩
    split at h
    case isTrue he =>
      have := List.mem_filter.1 h
      exact ⟨by have := this.2; simpa [symbolB, inSym] using this, r, hr, he, this.1⟩
    case isFalse => cases h
  · rintro ⟨h1, r, hr, h2, h3⟩
    refine ⟨r, hr, ?_⟩
    rw [if_pos h2, List.mem_filter]
    exact ⟨h3, by simpa [symbolB, inSym] using h1⟩
theorem inSym_zero : inSym 0 := ⟨by omega, by omega⟩
theorem zero_sym : ∀ x ∈ ([0] : List Int), inSym x := fun x hx => by rw [List.mem_singleton.1 hx]; exact inSym_zero
theorem mem_reached (l0 : List Rule') (y : Int) : y ∈ reachL (nextP l0) [0] ↔ Reach (nextP l0) [0] y := mem_reachL (fun x _ => nextP_sym l0 x) zero_sym y
theorem reachL_sorted (next : Int → List Int) (l : List Int) : (reachL next l).Pairwise (· < ·) := symbols_sorted.filter _
theorem rowUpto_sorted (m : List ((Int × Int) × Int)) (s : Nat) : (rowUpto m s 20).Pairwise (· < ·) := symbols_sorted.filter _
end Go.Proofs.Ytjomlfdkmdgclaa.P
