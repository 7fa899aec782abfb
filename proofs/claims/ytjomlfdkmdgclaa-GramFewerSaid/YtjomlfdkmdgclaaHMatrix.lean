/- A matrix of twenty by twenty, closed in place: plain Lean, and its block. -/
import Derived.Test.YtjomlfdkmdgclaaHStore
namespace Go.Proofs.Ytjomlfdkmdgclaa.P
open Go.RowKit Go.Proofs.YtjomlfdkmdgclaaW.PrintWords Go.Proofs.YtjomlfdkmdgclaaW.PrintLast Go.Proofs.YtjomlfdkmdgclaaW.PrintMore
attribute [local go_sem] max2_int min2_int max_two min_two max_three min_three max_four min_four   -- for this text's walks alone
set_option linter.unusedVariables false
set_option linter.unusedSimpArgs false

def matD (e : Nat → Nat → Bool) : Nat → Nat → Nat → Bool
  | 0 => e
  | k + 1 => fun i j => matD e k i j || (matD e k i k && matD e k k j)
theorem matD_mono {e : Nat → Nat → Bool} {k i j : Nat} (h : matD e k i j = true) : matD e (k + 1) i j = true := by
  simp [matD, h]
theorem matD_base {e : Nat → Nat → Bool} {i j : Nat} (h : e i j = true) : ∀ k, matD e k i j = true
  | 0 => h
  | k + 1 => matD_mono (matD_base h k)
theorem matD_row (e : Nat → Nat → Bool) (k j : Nat) : matD e (k + 1) k j = matD e k k j := by
  simp only [matD]
  cases matD e k k j <;> simp
theorem matD_col (e : Nat → Nat → Bool) (k i : Nat) : matD e (k + 1) i k = matD e k i k := by
  simp only [matD]
  cases matD e k i k <;> simp
theorem matD_trans {e : Nat → Nat → Bool} : ∀ (k i m j : Nat), m < k → matD e k i m = true → matD e k m j = true → matD e k i j = true
  | 0, _, _, _, h, _, _ => by omega
  | k + 1, i, m, j, hm, h1, h2 => by
    have T := matD_trans (e := e) k
    by_cases e1 : m = k
    · subst e1
      rw [matD_col] at h1
      rw [matD_row] at h2
      simp [matD, h1, h2]
    · have hm' : m < k := by omega
      simp only [matD, Bool.or_eq_true, Bool.and_eq_true] at h1 h2 ⊢
      rcases h1 with h1 | ⟨h1, h1'⟩
      · rcases h2 with h2 | ⟨h2, h2'⟩
        · exact .inl (T i m j hm' h1 h2)
        · exact .inr ⟨T i m k hm' h1 h2, h2'⟩
      · rcases h2 with h2 | ⟨h2, h2'⟩
        · exact .inr ⟨h1, T k m j hm' h1' h2⟩
        · exact .inr ⟨h1, h2'⟩
theorem matD_sound {e : Nat → Nat → Bool} {R : Nat → Nat → Prop} (hb : ∀ i j, e i j = true → R i j) (ht : ∀ i m j, R i m → R m j → R i j) : ∀ (k i j : Nat), matD e k i j = true → R i j
  | 0, i, j, h => hb i j h
  | k + 1, i, j, h => by
    simp only [matD, Bool.or_eq_true, Bool.and_eq_true] at h
    rcases h with h | ⟨h1, h2⟩
    · exact matD_sound hb ht k i j h
    · exact ht i k j (matD_sound hb ht k i k h1) (matD_sound hb ht k k j h2)

/-- In the midst of round k, ahead of place (i, j). -/
def stage (e : Nat → Nat → Bool) (k i j : Nat) : Nat → Nat → Bool := fun a b => if a < i ∨ (a = i ∧ b < j) then matD e (k + 1) a b else matD e k a b
def upd (mt : Nat → Nat → Bool) (i j : Nat) (v : Bool) : Nat → Nat → Bool := fun a b => if a = i ∧ b = j then v else mt a b
theorem stage_col (e : Nat → Nat → Bool) (k i j a : Nat) : stage e k i j a k = matD e k a k := by
  unfold stage; split
  · exact matD_col e k a
  · rfl
theorem stage_row (e : Nat → Nat → Bool) (k i j b : Nat) : stage e k i j k b = matD e k k b := by
  unfold stage; split
  · exact matD_row e k b
  · rfl
theorem stage_at (e : Nat → Nat → Bool) (k i j : Nat) : stage e k i j i j = matD e k i j := by
  unfold stage; rw [if_neg (by omega)]
theorem stage_upd (e : Nat → Nat → Bool) (k i j : Nat) : upd (stage e k i j) i j (stage e k i j i j || (stage e k i j i k && stage e k i j k j)) = stage e k i (j + 1) := by
  rw [stage_at, stage_col, stage_row]
  funext a b
  unfold upd stage
  by_cases h : a = i ∧ b = j
  · obtain ⟨rfl, rfl⟩ := h
    rw [if_pos ⟨rfl, rfl⟩, if_pos (by omega)]
    rfl
  · rw [if_neg h]
    by_cases h2 : a < i ∨ (a = i ∧ b < j)
    · rw [if_pos h2, if_pos (by omega)]
    · rw [if_neg h2, if_neg (by omega)]

/-! ### its block -/
def matCells (mt : Nat → Nat → Bool) : List Value := (List.range 400).map fun n => Value.bool (mt (n / 20) (n % 20))
theorem matCells_length (mt : Nat → Nat → Bool) : (matCells mt).length = 400 := by simp [matCells]
theorem matCells_at (mt : Nat → Nat → Bool) (i j : Nat) (hi : i < 20) (hj : j < 20) : (matCells mt)[i * 20 + j]? = some (.bool (mt i j)) := by
  unfold matCells
  rw [List.getElem?_map, List.getElem?_range (by omega)]
  simp only [Option.map_some]
  rw [show (i * 20 + j) / 20 = i by omega, show (i * 20 + j) % 20 = j by omega]
theorem matCells_congr {mt mt' : Nat → Nat → Bool} (h : ∀ i j, i < 20 → j < 20 → mt i j = mt' i j) : matCells mt = matCells mt' := by
  unfold matCells
  refine List.map_congr_left fun n hn => ?_
  rw [List.mem_range] at hn
  rw [h _ _ (by omega) (by omega)]
theorem matCells_set (mt : Nat → Nat → Bool) (i j : Nat) (v : Bool) (hi : i < 20) (hj : j < 20) : (matCells mt).set (i * 20 + j) (.bool v) = matCells (upd mt i j v) := by
  apply List.ext_getElem?
  intro n
  by_cases hn : n < 400
  · obtain ⟨a, b, rfl, ha, hb⟩ : ∃ a b, n = a * 20 + b ∧ a < 20 ∧ b < 20 := ⟨n / 20, n % 20, by omega, by omega, by omega⟩
    rw [matCells_at _ a b ha hb]
    by_cases h : a = i ∧ b = j
    · obtain ⟨rfl, rfl⟩ := h
      rw [List.getElem?_set_self (by rw [matCells_length]; omega)]
      simp [upd]
    · rw [List.getElem?_set_ne (by omega), matCells_at _ a b ha hb]
      simp [upd, h]
  · rw [List.getElem?_eq_none (by rw [List.length_set, matCells_length]; omega), List.getElem?_eq_none (by rw [matCells_length]; omega)]
/-- A block that holds such a matrix. -/
def Mat (W : World) (t : TypeId) (g : Nat) (mt : Nat → Nat → Bool) : Prop := W.heap[g]? = some (.cells (matCells mt).toArray t (0, 0))
theorem Mat.cell {W : World} {t : TypeId} {g : Nat} {mt : Nat → Nat → Bool} (h : Mat W t g mt) (i j : Nat) (hi : i < 20) (hj : j < 20) : W.cell? ⟨g, i * 20 + j, none⟩ = some (.bool (mt i j)) :=
  (blk_cell h _).trans (by rw [List.getElem?_toArray]; exact matCells_at mt i j hi hj)
theorem Mat.frozen {W : World} {t : TypeId} {g : Nat} {mt : Nat → Nat → Bool} (h : Mat W t g mt) (n : Nat) : W.frozen? ⟨g, n, none⟩ = false := blk_frozen h n
theorem Mat.set {W : World} {t : TypeId} {g : Nat} {mt : Nat → Nat → Bool} (h : Mat W t g mt) (i j : Nat) (v : Bool) (hi : i < 20) (hj : j < 20) : Mat (W.setCell ⟨g, i * 20 + j, none⟩ (.bool v)) t g (upd mt i j v) := by
  unfold Mat
  refine blk_put h (i * 20 + j) (.bool v) ?_
  rw [← matCells_set mt i j v hi hj]
  simp
theorem Mat.congr {W : World} {t : TypeId} {g : Nat} {mt mt' : Nat → Nat → Bool} (h : Mat W t g mt) (he : ∀ i j, i < 20 → j < 20 → mt i j = mt' i j) : Mat W t g mt' := by
  unfold Mat
  rw [← matCells_congr he]
  exact h
theorem Mat.below {W W1 : World} {t : TypeId} {g : Nat} {mt : Nat → Nat → Bool} (h : Mat W t g mt) (hb : Below W.heap.size W W1) : Mat W1 t g mt := blk_below h hb
theorem mat_zero : (matCells fun _ _ => false).toArray = Array.replicate 400 (Value.bool false) := by
  apply Array.ext_getElem?
  intro n
  rw [List.getElem?_toArray, Array.getElem?_replicate]
  unfold matCells
  by_cases h : n < 400
  · rw [if_pos h, List.getElem?_map, List.getElem?_range h]; rfl
  · rw [if_neg h, List.getElem?_eq_none (by simp; omega)]
end Go.Proofs.Ytjomlfdkmdgclaa.P
