/- api.Act, api.Rule, law4.Raw that came in, opened. -/
import Derived.Test.YtjomlfdkmdgclaaHStore
import Derived.Deep.Slices
import Derived.ChangeArms
import Derived.ChangeSame
namespace Go.Proofs.Ytjomlfdkmdgclaa.P
open Go.RowKit Go.Proofs.YtjomlfdkmdgclaaW.PrintWords Go.Proofs.YtjomlfdkmdgclaaW.PrintLast Go.Proofs.YtjomlfdkmdgclaaW.PrintMore
attribute [local go_sem] max2_int min2_int max_two min_two max_three min_three max_four min_four   -- for this text's walks alone
set_option linter.unusedVariables false
set_option linter.unusedSimpArgs false

def Opens (P : Program) (t : TypeId) {α : Type} (d : Kd α) (ok : α → Prop) : Prop :=
  P.cellsOf t = d.sz ∧ ∀ (H : Type) (enc : TypeId × Value → H) (W : World) (base : Nat) (spare : Nat → Bool) (held : Bool) (fuel : Nat) (cs : List Value) (x : DataW H × List MemPlace), DataW.trod enc P W base spare held fuel t cs = some x → ∃ v : α, d.K W v cs ∧ ok v
theorem opens_int {P : Program} {t : TypeId} {k : IntKind} (ht : P.underlying t = some (.int k)) (hc : P.cellsOf t = 1) : Opens P t (Kd.int k) (fun n => (Lit.int k n).wf = true) := by
  refine ⟨hc, fun H enc W base spare held fuel cs x h => ?_⟩
  obtain ⟨n, rfl, _, hw⟩ := DataW.trod_int ht h
  exact ⟨n, rfl, hw⟩
theorem list_of {α : Type} {p : Nat → α → Prop} : ∀ n : Nat, (∀ i, i < n → ∃ v, p i v) → ∃ xs : List α, xs.length = n ∧ ∀ i v, xs[i]? = some v → p i v
  | 0, _ => ⟨[], rfl, fun i v h => by simp at h⟩
  | n + 1, h => by
    obtain ⟨xs, hl, hx⟩ := list_of n (fun i hi => h i (by omega))
    obtain ⟨v, hv⟩ := h n (by omega)
    refine ⟨xs ++ [v], by rw [List.length_append, hl]; rfl, fun i u hu => ?_⟩
    by_cases hi : i < xs.length
    · rw [List.getElem?_append_left hi] at hu
      exact hx i u hu
    · rw [List.getElem?_append_right (by omega)] at hu
      have h0 : i - xs.length = 0 := by
        have := (List.getElem?_eq_some_iff.1 hu).1
        simp at this
        omega
      rw [h0] at hu
      obtain rfl := Option.some.inj hu
      have : i = n := by omega
      rw [this]
      exact hv
theorem opens_slice {P : Program} {t e : TypeId} {α : Type} {d : Kd α} {ok : α → Prop} (ht : P.underlying t = some (.slice e)) (hc : P.cellsOf t = 1) (h : Opens P e d ok) : Opens P t (Kd.slice e d) (fun xs => ∀ x ∈ xs, ok x) := by
  refine ⟨hc, fun H enc W base spare held fuel cs x hx => ?_⟩
  rcases Go.Deep.open_slice ht hx with ⟨rfl, _⟩ | ⟨a, len, cap, m, n, D, Pl, rfl, _, hl, hm, hmm, _, hel⟩
  · exact ⟨[], ⟨none, 0, rfl, Nat.le_refl _, rfl, by simp, fun h => absurd h (Nat.lt_irrefl _)⟩, by simp⟩
  · have hle : len ≤ m := by rw [hmm]; split <;> omega
    obtain ⟨xs, hxl, hxs⟩ := list_of (p := fun i v => ∃ cs', W.cells? base (a.add (i * d.sz)) d.sz = some cs' ∧ d.K W v cs' ∧ ok v) len (fun i hi => by
      obtain ⟨cs', h1, h2⟩ := hel i (by omega)
      obtain ⟨v, h3, h4⟩ := h.2 H enc W base spare held n cs' _ h2
      rw [h.1] at h1
      exact ⟨v, cs', h1, h3, h4⟩)
    have hmax : maxLen ≤ 9223372036854775807 := by decide
    refine ⟨xs, ⟨some a, cap, by rw [hxl], by omega, rfl, by omega, fun _ => ⟨a, rfl, fun j p hj => ?_⟩⟩, fun y hy => ?_⟩
    · obtain ⟨cs', h1, h2, _⟩ := hxs j p hj
      obtain ⟨_, h3, h4⟩ := World.cells?_some h1
      refine ⟨cs', h3, h2, fun i u hu => ?_⟩
      have h5 := h4 i (by rw [← h3]; exact (List.getElem?_eq_some_iff.1 hu).1)
      rw [hu, add_add] at h5
      exact h5
    · obtain ⟨j, hj, rfl⟩ := List.mem_iff_getElem.1 hy
      obtain ⟨_, _, _, h4⟩ := hxs j _ (List.getElem?_eq_getElem hj)
      exact h4
abbrev wfI (n : Int) : Prop := (Lit.int .i64 n).wf = true
theorem opInt : Opens Try.prog 3 (Kd.int .i64) wfI := opens_int Try.underlying3 (by kernel_rfl)
theorem opInts : Opens Try.prog 22 (Kd.slice 3 (Kd.int .i64)) (fun l => ∀ n ∈ l, wfI n) := opens_slice Try.underlying22 (by kernel_rfl) opInt
/-- A struct's fields, each opened. -/
theorem opens_fields {P : Program} {t : TypeId} {fs : Array Field} (ht : P.underlying t = some (.struct fs)) {H : Type} {enc : TypeId × Value → H} {W : World} {base : Nat} {spare : Nat → Bool} {held : Bool} {fuel : Nat} {cs : List Value} {x : DataW H × List MemPlace} (h : DataW.trod enc P W base spare held fuel t cs = some x) :
    cs.length = P.cellsOf t ∧ ∀ (i : Nat) (f : Field), fs[i]? = some f → ∀ {α : Type} {d : Kd α} {ok : α → Prop}, Opens P f.type d ok → ∃ v, d.K W v ((cs.drop f.offset).take d.sz) ∧ ok v := by
  obtain ⟨xs, n, _, _, hl, hlen, hf⟩ := DataW.trod_struct ht h
  refine ⟨hl, fun i f hi α d ok ho => ?_⟩
  have h1 := hf i f hi
  have hil : i < xs.length := by
    have := (Array.getElem?_eq_some_iff.1 hi).1
    omega
  rw [List.getElem?_eq_getElem hil, ho.1] at h1
  exact ho.2 H enc W base spare held n _ _ h1
def ok24 (x : S24) : Prop := wfI x.f0 ∧ ∀ n ∈ x.f1, wfI n
theorem opAct : Opens Try.prog 24 k24 ok24 := by
  refine ⟨by kernel_rfl, fun H enc W base spare held fuel cs x h => ?_⟩
  obtain ⟨hl, hf⟩ := opens_fields Try.underlying24 h
  have hl2 : cs.length = 2 := hl.trans (by kernel_rfl)
  obtain ⟨v0, k0, w0⟩ := hf 0 _ rfl opInt
  obtain ⟨v1, ⟨A1, c1, k1, l1, g1⟩, w1⟩ := hf 1 _ rfl opInts
  match cs, hl2 with
  | [b0, b1], _ =>
    have e0 : [b0] = [.int .i64 v0] := k0
    have e1 : [b1] = [.slice A1 v1.length c1] := k1
    rw [(List.cons.inj e0).1, (List.cons.inj e1).1]
    exact ⟨⟨v0, v1⟩, k24_mk W ⟨v0, v1⟩ l1 g1, w0, w1⟩
def ok26 (x : S26) : Prop := wfI x.f0 ∧ (∀ n ∈ x.f1, wfI n) ∧ ok24 x.f2 ∧ wfI x.f3
theorem opRule : Opens Try.prog 26 k26 ok26 := by
  refine ⟨by kernel_rfl, fun H enc W base spare held fuel cs x h => ?_⟩
  obtain ⟨hl, hf⟩ := opens_fields Try.underlying26 h
  have hl2 : cs.length = 5 := hl.trans (by kernel_rfl)
  obtain ⟨v0, k0, w0⟩ := hf 0 _ rfl opInt
  obtain ⟨v1, ⟨A1, c1, k1, l1, g1⟩, w1⟩ := hf 1 _ rfl opInts
  obtain ⟨v2, k2, w2⟩ := hf 2 _ rfl opAct
  obtain ⟨v3, k3, w3⟩ := hf 3 _ rfl opInt
  obtain ⟨A3, c3, k2', l3, g3⟩ := k24_open k2
  match cs, hl2 with
  | [b0, b1, b2, b3, b4], _ =>
    have e0 : [b0] = [.int .i64 v0] := k0
    have e1 : [b1] = [.slice A1 v1.length c1] := k1
    have e2 : [b2, b3] = [.int .i64 v2.f0, .slice A3 v2.f1.length c3] := k2'
    have e3 : [b4] = [.int .i64 v3] := k3
    rw [(List.cons.inj e0).1, (List.cons.inj e1).1, (List.cons.inj e2).1, (List.cons.inj (List.cons.inj e2).2).1, (List.cons.inj e3).1]
    exact ⟨⟨v0, v1, v2, v3⟩, k26_mk W ⟨v0, v1, v2, v3⟩ l1 g1 l3 g3, w0, w1, w2, w3⟩
def okRaw (x : S31) : Prop := wfI x.f0 ∧ wfI x.f1 ∧ wfI x.f2 ∧ (∀ n ∈ x.f3, wfI n) ∧ ∀ n ∈ x.f4, wfI n
theorem opRaw : Opens Try.prog 31 k31 okRaw := by
  refine ⟨by kernel_rfl, fun H enc W base spare held fuel cs x h => ?_⟩
  obtain ⟨hl, hf⟩ := opens_fields Try.underlying31 h
  have hl2 : cs.length = 5 := hl.trans (by kernel_rfl)
  obtain ⟨v0, k0, w0⟩ := hf 0 _ rfl opInt
  obtain ⟨v1, k1, w1⟩ := hf 1 _ rfl opInt
  obtain ⟨v2, k2, w2⟩ := hf 2 _ rfl opInt
  obtain ⟨v3, ⟨A3, c3, k3, l3, g3⟩, w3⟩ := hf 3 _ rfl opInts
  obtain ⟨v4, ⟨A4, c4, k4, l4, g4⟩, w4⟩ := hf 4 _ rfl opInts
  match cs, hl2 with
  | [b0, b1, b2, b3, b4], _ =>
    have e0 : [b0] = [.int .i64 v0] := k0
    have e1 : [b1] = [.int .i64 v1] := k1
    have e2 : [b2] = [.int .i64 v2] := k2
    have e3 : [b3] = [.slice A3 v3.length c3] := k3
    have e4 : [b4] = [.slice A4 v4.length c4] := k4
    rw [(List.cons.inj e0).1, (List.cons.inj e1).1, (List.cons.inj e2).1, (List.cons.inj e3).1, (List.cons.inj e4).1]
    exact ⟨⟨v0, v1, v2, v3, v4⟩, k31_mk W ⟨v0, v1, v2, v3, v4⟩ l3 g3 l4 g4, w0, w1, w2, w3, w4⟩
theorem opRaws : Opens Try.prog 27 (Kd.slice 31 k31) (fun l => ∀ x ∈ l, okRaw x) := opens_slice Try.underlying27 (by kernel_rfl) opRaw
end Go.Proofs.Ytjomlfdkmdgclaa.P
