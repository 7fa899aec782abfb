/- What 'from' tells: all that is reached, in order. Plain Lean. -/
import Derived.Test.YtjomlfdkmdgclaaHGramFrom
namespace Go.Proofs.Ytjomlfdkmdgclaa.P
open Go.RowKit Go.Proofs.YtjomlfdkmdgclaaW.PrintWords Go.Proofs.YtjomlfdkmdgclaaW.PrintLast Go.Proofs.YtjomlfdkmdgclaaW.PrintMore
attribute [local go_sem] max2_int min2_int max_two min_two max_three min_three max_four min_four   -- for this text's walks alone
set_option linter.unusedVariables false
set_option linter.unusedSimpArgs false

inductive Reach (next : Int → List Int) (l0 : List Int) : Int → Prop
  | base {x : Int} : x ∈ l0 → Reach next l0 x
  | step {x y : Int} : Reach next l0 x → y ∈ next x → Reach next l0 y
def inSym (x : Int) : Prop := 0 ≤ x ∧ x < 20
theorem Reach.sym {next : Int → List Int} {l0 : List Int} (hd : ∀ x, inSym x → ∀ y ∈ next x, inSym y) (hl : ∀ x ∈ l0, inSym x) {x : Int} (h : Reach next l0 x) : inSym x := by
  induction h with
  | base h => exact hl _ h
  | step _ h ih => exact hd _ ih _ h
def symbols : List Int := (List.range 20).map fun (x : Nat) => (x : Int)
theorem mem_symbols (x : Int) : x ∈ symbols ↔ inSym x := by
  unfold symbols inSym
  rw [List.mem_map]
  constructor
  · rintro ⟨n, hn, rfl⟩
    rw [List.mem_range] at hn
    omega
  · rintro ⟨h0, h1⟩
    exact ⟨x.toNat, by rw [List.mem_range]; omega, by omega⟩
theorem symbols_sorted : symbols.Pairwise (· < ·) := by decide
theorem symbols_nodup : symbols.Nodup := by decide
open Classical in
noncomputable def reachL (next : Int → List Int) (l0 : List Int) : List Int := symbols.filter fun y => decide (Reach next l0 y)
theorem mem_reachL {next : Int → List Int} {l0 : List Int} (hd : ∀ x, inSym x → ∀ y ∈ next x, inSym y) (hl : ∀ x ∈ l0, inSym x) (y : Int) : y ∈ reachL next l0 ↔ Reach next l0 y := by
  unfold reachL
  rw [List.mem_filter, mem_symbols]
  simp only [decide_eq_true_eq]
  exact ⟨fun h => h.2, fun h => ⟨h.sym hd hl, h⟩⟩
theorem length_of_sub {l : List Int} (hn : l.Nodup) (hs : ∀ x ∈ l, inSym x) : l.length ≤ 20 := by
  have hp : l.Perm (symbols.filter fun x => decide (x ∈ l)) := (List.perm_ext_iff_of_nodup hn (symbols_nodup.filter _)).2 fun x => by
    rw [List.mem_filter, mem_symbols]
    simp only [decide_eq_true_eq]
    exact ⟨fun h => ⟨hs x h, h⟩, fun h => h.2⟩
  rw [hp.length_eq]
  exact List.length_filter_le _ symbols
theorem from_some_aux (next : Int → List Int) (B : Nat) (hB : B ≤ 1000000) (hlen : ∀ x, inSym x → (next x).length ≤ B) (hd : ∀ x, inSym x → ∀ y ∈ next x, inSym y) (l0 : List Int) (hl : ∀ x ∈ l0, inSym x) :
    ∀ (M : Nat) (m : List (Int × Int)) (q : List Int) (V : Nat), (∀ x ∈ q, Reach next l0 x) → (∀ x ∈ m.map (·.1), Reach next l0 x) → (m.map (·.1)).Nodup →
      (∀ x, 0 ≤ (mget m x).getD 0 ∧ (mget m x).getD 0 ≤ V) → (∀ x ∈ m.map (·.1), 1 ≤ (mget m x).getD 0) → (∀ x ∈ m.map (·.1), ∀ y ∈ next x, y ∈ q ∨ y ∈ m.map (·.1)) → (∀ x ∈ l0, x ∈ q ∨ x ∈ m.map (·.1)) →
      q.length + B * (20 - m.length) ≤ M → M + V ≤ 100000000 →
      ∃ k r, fromF next k m q = some r ∧ (∀ y, y ∈ r.map (·.1) ↔ Reach next l0 y) ∧ (r.map (·.1)).Nodup := by
  intro M
  induction M with
  | zero =>
    intro m q V hq hm hn hv hp hc h0 hM hV
    have hqe : q = [] := List.length_eq_zero_iff.1 (by omega)
    subst hqe
    have hml : m.length ≤ 20 := by have := length_of_sub hn (fun x hx => (hm x hx).sym hd hl); simpa using this
    refine ⟨1, m, by simp only [fromF]; rw [if_pos (by omega)], fun y => ⟨hm y, fun h => ?_⟩, hn⟩
    induction h with
    | base h => exact (h0 _ h).elim (fun h => by cases h) id
    | step _ h ih => exact (hc _ ih _ h).elim (fun h => by cases h) id
  | succ M ihM =>
    intro m q V hq hm hn hv hp hc h0 hM hV
    have hml : m.length ≤ 20 := by have := length_of_sub hn (fun x hx => (hm x hx).sym hd hl); simpa using this
    cases q with
    | nil =>
      refine ⟨1, m, by simp only [fromF]; rw [if_pos (by omega)], fun y => ⟨hm y, fun h => ?_⟩, hn⟩
      induction h with
      | base h => exact (h0 _ h).elim (fun h => by cases h) id
      | step _ h ih => exact (hc _ ih _ h).elim (fun h => by cases h) id
    | cons x q =>
      have hrx := hq x List.mem_cons_self
      have hsx := hrx.sym hd hl
      have hlx := hlen x hsx
      have hvx := hv x
      have hguard : (x :: q).length ≤ 1000000000 ∧ (next x).length ≤ 1000000000 ∧ 0 ≤ (mget m x).getD 0 ∧ (mget m x).getD 0 ≤ 1000000000000 := ⟨by omega, by omega, hvx.1, by omega⟩
      have hv2 : ∀ y, 0 ≤ (mget (mput m x ((mget m x).getD 0 + 1)) y).getD 0 ∧ (mget (mput m x ((mget m x).getD 0 + 1)) y).getD 0 ≤ ((V + 1 : Nat) : Int) := by
        intro y
        by_cases e : y = x
        · subst e
          rw [mget_mput_same]
          simp only [Option.getD_some]
          omega
        · rw [mget_mput_other _ _ _ e]
          have := hv y
          omega
      have hkeys := mput_keys x ((mget m x).getD 0 + 1) m
      have hp2 : ∀ y ∈ (mput m x ((mget m x).getD 0 + 1)).map (·.1), 1 ≤ (mget (mput m x ((mget m x).getD 0 + 1)) y).getD 0 := by
        intro y hy
        by_cases e : y = x
        · subst e
          rw [mget_mput_same]
          simp only [Option.getD_some]
          omega
        · rw [mget_mput_other _ _ _ e]
          refine hp y ?_
          rw [hkeys] at hy
          split at hy
          · exact hy
          · exact (List.mem_append.1 hy).elim id (fun h => absurd (List.mem_singleton.1 h) e)
      by_cases h0v : (mget m x).getD 0 = 0
      · have hxm : x ∉ m.map (·.1) := fun h => by have := hp x h; omega
        rw [if_neg hxm] at hkeys
        have hmlen : (mput m x ((mget m x).getD 0 + 1)).length = m.length + 1 := by
          have := congrArg List.length hkeys
          simpa using this
        have hn2 : ((mput m x ((mget m x).getD 0 + 1)).map (·.1)).Nodup := by
          rw [hkeys, List.nodup_append]
          refine ⟨hn, by simp, fun a ha b hb => ?_⟩
          rw [List.mem_singleton] at hb
          subst hb
          intro e
          subst e
          exact hxm ha
        have hm2 : ∀ y ∈ (mput m x ((mget m x).getD 0 + 1)).map (·.1), Reach next l0 y := by
          intro y hy
          rw [hkeys] at hy
          exact (List.mem_append.1 hy).elim (hm y) (fun h => by rw [List.mem_singleton.1 h]; exact hrx)
        have hml2 : m.length + 1 ≤ 20 := by
          have := length_of_sub hn2 (fun x hx => (hm2 x hx).sym hd hl)
          rw [List.length_map, hmlen] at this
          exact this
        obtain ⟨k, r, hk, hr⟩ := ihM (mput m x ((mget m x).getD 0 + 1)) (q ++ next x) (V + 1)
          (fun y hy => (List.mem_append.1 hy).elim (fun h => hq y (List.mem_cons_of_mem _ h)) (fun h => .step hrx h)) hm2 hn2 hv2 hp2
          (fun z hz y hy => by
            rw [hkeys] at hz ⊢
            rcases List.mem_append.1 hz with h | h
            · rcases hc z h y hy with h | h
              · rcases List.mem_cons.1 h with h | h
                · subst h; exact .inr (by simp)
                · exact .inl (List.mem_append_left _ h)
              · exact .inr (List.mem_append_left _ h)
            · rw [List.mem_singleton.1 h] at hy
              exact .inl (List.mem_append_right _ hy))
          (fun z hz => by
            rw [hkeys]
            rcases h0 z hz with h | h
            · rcases List.mem_cons.1 h with h | h
              · subst h; exact .inr (by simp)
              · exact .inl (List.mem_append_left _ h)
            · exact .inr (List.mem_append_left _ h))
          (by
            rw [hmlen, List.length_append]
            have e1 : 20 - m.length = (20 - (m.length + 1)) + 1 := by omega
            rw [e1, Nat.mul_add, Nat.mul_one, List.length_cons] at hM
            omega) (by omega)
        exact ⟨k + 1, r, by simp only [fromF]; rw [if_pos hguard, if_pos h0v]; exact hk, hr⟩
      · have hxm : x ∈ m.map (·.1) := by
          rw [← mget_isSome]
          cases h : mget m x with
          | none => rw [h] at h0v; simp at h0v
          | some v => rfl
        rw [if_pos hxm] at hkeys
        have hmlen : (mput m x ((mget m x).getD 0 + 1)).length = m.length := by
          have := congrArg List.length hkeys
          simpa using this
        obtain ⟨k, r, hk, hr⟩ := ihM (mput m x ((mget m x).getD 0 + 1)) q (V + 1) (fun y hy => hq y (List.mem_cons_of_mem _ hy)) (by rw [hkeys]; exact hm) (by rw [hkeys]; exact hn) hv2 hp2
          (fun z hz y hy => by
            rw [hkeys] at hz ⊢
            rcases hc z hz y hy with h | h
            · rcases List.mem_cons.1 h with h | h
              · subst h; exact .inr hxm
              · exact .inl h
            · exact .inr h)
          (fun z hz => by
            rw [hkeys]
            rcases h0 z hz with h | h
            · rcases List.mem_cons.1 h with h | h
              · subst h; exact .inr hxm
              · exact .inl h
            · exact .inr h)
          (by rw [hmlen]; rw [List.length_cons] at hM; omega) (by omega)
        exact ⟨k + 1, r, by simp only [fromF]; rw [if_pos hguard, if_neg h0v]; exact hk, hr⟩

theorem from_reach (next : Int → List Int) (hlen : ∀ x, inSym x → (next x).length ≤ 1000000) (hd : ∀ x, inSym x → ∀ y ∈ next x, inSym y) (l0 : List Int) (hl : ∀ x ∈ l0, inSym x) (hl0 : l0.length ≤ 1000000) :
    ∃ k r, fromF next k [] l0 = some r ∧ sortI (r.map (·.1)) = reachL next l0 := by
  obtain ⟨k, r, hk, hm, hn⟩ := from_some_aux next 1000000 (Nat.le_refl _) hlen hd l0 hl (l0.length + 1000000 * 20) [] l0 0 (fun x hx => .base hx) (by simp) (by simp) (fun x => by simp [mget]) (by simp) (by simp) (fun x hx => .inl hx) (by simp) (by omega)
  refine ⟨k, r, hk, ?_⟩
  have hp : (r.map (·.1)).Perm (reachL next l0) := (List.perm_ext_iff_of_nodup hn (symbols_nodup.filter _)).2 fun y => (hm y).trans (mem_reachL hd hl y).symm
  have h2 : sortI (reachL next l0) = reachL next l0 := by
    unfold sortI
    refine List.mergeSort_of_pairwise ?_
    refine (symbols_sorted.filter _).imp ?_
    intro a b h
    simp [leI]
    omega
  rw [← h2]
  exact mergeSort_of_perm_i hp
end Go.Proofs.Ytjomlfdkmdgclaa.P
