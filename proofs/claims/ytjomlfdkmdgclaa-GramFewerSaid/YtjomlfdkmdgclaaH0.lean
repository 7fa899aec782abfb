/- Words that the hand-made contracts share: what a function value tells; the first place at which a predicate holds. -/
import Derived.Test.YtjomlfdkmdgclaaP0
import Derived.Shelf.Abstract
namespace Go.Proofs.Ytjomlfdkmdgclaa.P
open Go.RowKit Go.Shelf Go.Proofs.YtjomlfdkmdgclaaW.PrintWords Go.Proofs.YtjomlfdkmdgclaaW.PrintLast Go.Proofs.YtjomlfdkmdgclaaW.PrintMore

/-- What a function value that tells a bool answers: it may make memory, and changes none that was there. -/
def FnTells {α : Type} (P : Program) (w : World) (rel : World → α → Value → Prop) (fv : Value) (p : α → Bool) : Prop :=
  ∃ (g : Nat) (pre lb : Array Value), fv = .func (.func g) pre lb ∧ (∀ args w, (callFunc g args).run P w = .ok (.enter g args) w) ∧
    ∀ W x v, Below w.heap.size w W → rel W x v → Calls P g (pre ++ #[v] ++ lb) W fun e w' => e = .returned (.bool (p x)) ∧ Below W.heap.size W w'

theorem ret_bool {a b : Bool} (h : a = b) : Ending.returned (.bool a) = .returned (.bool b) := by rw [h]
theorem ret_int {a b : Int} (h : a = b) : Ending.returned (.int .i64 a) = .returned (.int .i64 b) := by rw [h]
theorem cell_new0 (w : World) (v : Value) (t : TypeId) : (w.alloc (.cells #[v] t)).cell? ⟨w.heap.size, 0, none⟩ = some v := World.cell?_alloc_at _ _ _ _ rfl

/-- An int, as a value. -/
def IntRel (_ : World) (x : Int) (v : Value) : Prop := v = .int .i64 x
/-- A struct, as a value. -/
def AggRel {α : Type} (d : Kd α) (W : World) (x : α) (v : Value) : Prop := ∃ cs : List Value, v = .agg cs.toArray ∧ d.K W x cs

theorem FnTells.later {α : Type} {P : Program} {w W : World} {rel : World → α → Value → Prop} {fv : Value} {p : α → Bool} (h : FnTells P w rel fv p) (hb : Below w.heap.size w W) : FnTells P W rel fv p := by
  obtain ⟨g, pre, lb, rfl, eg, hq⟩ := h
  exact ⟨g, pre, lb, rfl, eg, fun W' x v hb' hr => hq W' x v (hb.trans (hb'.mono hb.size)) hr⟩

/-- The place of the first of which p holds; -1. -/
def idxOf {α : Type} (p : α → Bool) (l : List α) : Int := match l.findIdx? p with | some i => i | none => -1
theorem idxOf_hit {α : Type} {p : α → Bool} {l : List α} {k : Nat} (hk : k < l.length) (h0 : ∀ j, j < k → ∀ h : j < l.length, p l[j] = false) (h1 : p l[k] = true) : idxOf p l = k := by
  have : l.findIdx? p = some k := by
    rw [List.findIdx?_eq_some_iff_getElem]
    exact ⟨hk, h1, fun j hj => by simpa using h0 j hj (by omega)⟩
  simp [idxOf, this]
theorem idxOf_miss {α : Type} {p : α → Bool} {l : List α} (h0 : ∀ j, j < l.length → ∀ h : j < l.length, p l[j] = false) : idxOf p l = -1 := by
  have : l.findIdx? p = none := by
    rw [List.findIdx?_eq_none_iff]
    intro x hx
    obtain ⟨j, hj, rfl⟩ := List.mem_iff_getElem.1 hx
    exact h0 j hj hj
  simp [idxOf, this]
theorem idxOf_ge {α : Type} (p : α → Bool) (l : List α) : decide (0 ≤ idxOf p l) = l.any p := by
  unfold idxOf
  cases h : l.findIdx? p with
  | none =>
    rw [List.findIdx?_eq_none_iff] at h
    have : l.any p = false := by simpa using h
    simp [this]
  | some i =>
    have h2 := List.findIdx?_eq_some_iff_getElem.1 h
    have : l.any p = true := List.any_eq_true.2 ⟨_, List.getElem_mem h2.1, h2.2.1⟩
    simp [this]
theorem rd_getElem (xs : List Int) (j : Nat) (h : j < xs.length) : rd xs j = xs[j] := by
  simp [rd, List.getD_eq_getElem?_getD, List.getElem?_eq_getElem h]

end Go.Proofs.Ytjomlfdkmdgclaa.P
