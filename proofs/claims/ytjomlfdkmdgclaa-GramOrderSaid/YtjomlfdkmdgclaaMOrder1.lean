/- GramOrder: rules in another order, or twice, are as right; what is reached is the same. Part 1: contracts of the functions that the law reaches, and words for them. -/
import Derived.Test.YtjomlfdkmdgclaaProg
import Derived.Below
import Derived.Deep.Draws
import Derived.Deep.AppendLies
import Derived.Maps.AppendAt
import Derived.OwnWalk
import Derived.Laws.BytesArg
import Derived.Laws.MakeOwn
import Derived.Laws.OwnMore
import Derived.Deep.OwnRows
import Derived.Tactics
import Derived.Lib.ConvBytes
import Derived.Laws.Slices
import Derived.WalkKit
import Derived.KernelRfl
import Derived.RowKit3
import Derived.Deep.LoopGhost
import Derived.Deep.QuietTactic
import Derived.BigQuiet
import Derived.WideLaws
import Derived.Deep.DeepCutAuto
import Derived.Deep.CutBlock
import Derived.Deep.RegionHeld3
import Derived.Laws.Rows
import Derived.Lib.AppendStr
import Derived.ArgAppend
import Derived.Laws.IdiomCopy
import Derived.OrdersHeld
import Derived.Laws.BitsLemmas
import Derived.RowKit
import Derived.Shelf.Abstract
import Derived.Maps.OwnOps
import Derived.MapKept
import Derived.Shelf.SlIterI.Nil
import Derived.Shelf.SortM.Plain
import Derived.Shelf.SortM.SortNone
import Derived.Ground.GgzProg
import Derived.Ground.SlgmProg
import Derived.CallsIn
import Derived.WalkSpells
import Derived.Test.YtjomlfdkmdgclaaMOrder0
section
namespace Go.Proofs.Ytjomlfdkmdgclaa.P
open Go.RowKit Go.Proofs.YtjomlfdkmdgclaaW.PrintWords Go.Proofs.YtjomlfdkmdgclaaW.PrintLast Go.Proofs.YtjomlfdkmdgclaaW.PrintMore
attribute [local go_sem] max2_int min2_int max_two min_two max_three min_three max_four min_four   
set_option linter.unusedVariables false
set_option linter.unusedSimpArgs false
def errW : Option Int → Value
  | none => .nilIface
  | some c => .iface 0 (.int .i64 c)
theorem errW_none : errW none = .nilIface := rfl
theorem errW_some (c : Int) : errW (some c) = .iface 0 (.int .i64 c) := rfl
theorem info3 : (Try.prog.info? 3).map (fun i => (i.zero, i.size, i.bytes)) = some (some (.int .i64 0), 1, 8) := by kernel_rfl
theorem info26 : (Try.prog.info? 26).map (fun i => (i.zero, i.size, i.bytes)) = some (some (.agg #[(.int .i64 0), (.slice none 0 0), (.int .i64 0), (.slice none 0 0), (.int .i64 0)]), 5, 72) := by kernel_rfl
def rd_L2 (xs : List (List Int)) (i : Int) : (List Int) := xs.getD i.toNat ([] : List Int)
theorem at_L2 {w : World} {A : Option Addr} {n : Nat} {xs : List (List Int)} (h : Kd.C (Kd.slice 3 (Kd.int .i64)) w A n xs) (i : Int) (h0 : 0 ≤ i) (h1 : i < n) : ∃ ad A0 c0, A = some ad ∧ w.cell? (ad.add i.toNat) = some (.slice A0 (rd_L2 xs i).length c0) ∧ (rd_L2 xs i).length ≤ c0 ∧ (Kd.int .i64).C w A0 (rd_L2 xs i).length (rd_L2 xs i) := by
  obtain ⟨ad, c, e, _, hK, hc0⟩ := Kd.C_get h ([] : List Int) i h0 h1
  have hc : ∀ j u, c[j]? = some u → w.cell? (ad.add (i.toNat * 1 + j)) = some u := hc0
  obtain ⟨A0, c0, rfl, l0, g0⟩ := hK
  exact ⟨ad, A0, c0, e, by have hq := hc 0 _ rfl; rwa [Nat.mul_one, Nat.add_zero] at hq, l0, g0⟩
structure S31 where
  f0 : Int
  f1 : Int
  f2 : Int
  f3 : (List Int)
  f4 : (List Int)
def z31 : S31 := ⟨(0 : Int), (0 : Int), (0 : Int), ([] : List Int), ([] : List Int)⟩
def k31 : Kd S31 := Kd.iso (Kd.pair (Kd.int .i64) (Kd.pair (Kd.int .i64) (Kd.pair (Kd.int .i64) (Kd.pair (Kd.slice 3 (Kd.int .i64)) (Kd.slice 3 (Kd.int .i64)))))) (fun x : S31 => (x.f0, x.f1, x.f2, x.f3, x.f4))
theorem k31_open {w : World} {x : S31} {cs : List Value} (h : k31.K w x cs) : ∃ A3 c3 A4 c4, cs = [.int .i64 x.f0, .int .i64 x.f1, .int .i64 x.f2, .slice A3 x.f3.length c3, .slice A4 x.f4.length c4] ∧ x.f3.length ≤ c3 ∧ (Kd.int .i64).C w A3 x.f3.length x.f3 ∧ x.f4.length ≤ c4 ∧ (Kd.int .i64).C w A4 x.f4.length x.f4 := by
  obtain ⟨_, _, rfl, rfl, ⟨_, _, rfl, rfl, ⟨_, _, rfl, rfl, ⟨_, _, rfl, ⟨A3, c3, rfl, l3, g3⟩, ⟨A4, c4, rfl, l4, g4⟩⟩⟩⟩⟩ := h
  exact ⟨A3, c3, A4, c4, rfl, l3, g3, l4, g4⟩
theorem k31_mk (w : World) (x : S31) {A3 : Option Addr} {c3 : Nat} (l3 : x.f3.length ≤ c3) (g3 : (Kd.int .i64).C w A3 x.f3.length x.f3) {A4 : Option Addr} {c4 : Nat} (l4 : x.f4.length ≤ c4) (g4 : (Kd.int .i64).C w A4 x.f4.length x.f4) : k31.K w x [.int .i64 x.f0, .int .i64 x.f1, .int .i64 x.f2, .slice A3 x.f3.length c3, .slice A4 x.f4.length c4] := ⟨[.int .i64 x.f0], [.int .i64 x.f1, .int .i64 x.f2, .slice A3 x.f3.length c3, .slice A4 x.f4.length c4], rfl, rfl, ⟨[.int .i64 x.f1], [.int .i64 x.f2, .slice A3 x.f3.length c3, .slice A4 x.f4.length c4], rfl, rfl, ⟨[.int .i64 x.f2], [.slice A3 x.f3.length c3, .slice A4 x.f4.length c4], rfl, rfl, ⟨[.slice A3 x.f3.length c3], [.slice A4 x.f4.length c4], rfl, ⟨A3, c3, rfl, l3, g3⟩, ⟨A4, c4, rfl, l4, g4⟩⟩⟩⟩⟩
def rd_T31 (xs : List S31) (i : Int) : S31 := xs.getD i.toNat z31
theorem at_T31 {w : World} {A : Option Addr} {n : Nat} {xs : List S31} (h : Kd.C k31 w A n xs) (i : Int) (h0 : 0 ≤ i) (h1 : i < n) : ∃ ad A3 c3 A4 c4, A = some ad ∧ w.cell? (ad.add (i.toNat * 5)) = some (.int .i64 (rd_T31 xs i).f0) ∧ w.cell? ⟨(ad.add (i.toNat * 5)).block, (ad.add (i.toNat * 5)).off + 1, none⟩ = some (.int .i64 (rd_T31 xs i).f1) ∧ w.cell? ⟨(ad.add (i.toNat * 5)).block, (ad.add (i.toNat * 5)).off + 2, none⟩ = some (.int .i64 (rd_T31 xs i).f2) ∧ w.cell? ⟨(ad.add (i.toNat * 5)).block, (ad.add (i.toNat * 5)).off + 3, none⟩ = some (.slice A3 (rd_T31 xs i).f3.length c3) ∧ w.cell? ⟨(ad.add (i.toNat * 5)).block, (ad.add (i.toNat * 5)).off + 4, none⟩ = some (.slice A4 (rd_T31 xs i).f4.length c4) ∧ (rd_T31 xs i).f3.length ≤ c3 ∧ (Kd.int .i64).C w A3 (rd_T31 xs i).f3.length (rd_T31 xs i).f3 ∧ (rd_T31 xs i).f4.length ≤ c4 ∧ (Kd.int .i64).C w A4 (rd_T31 xs i).f4.length (rd_T31 xs i).f4 := by
  obtain ⟨ad, c, e, _, hK, hc0⟩ := Kd.C_get h z31 i h0 h1
  have hc : ∀ j u, c[j]? = some u → w.cell? (ad.add (i.toNat * 5 + j)) = some u := hc0
  obtain ⟨A3, c3, A4, c4, rfl, l3, g3, l4, g4⟩ := k31_open hK
  exact ⟨ad, A3, c3, A4, c4, e, hc 0 _ rfl, by rw [← add_field _ _ 1 (by omega)]; exact hc 1 _ rfl, by rw [← add_field _ _ 2 (by omega)]; exact hc 2 _ rfl, by rw [← add_field _ _ 3 (by omega)]; exact hc 3 _ rfl, by rw [← add_field _ _ 4 (by omega)]; exact hc 4 _ rfl, l3, g3, l4, g4⟩
structure S24 where
  f0 : Int
  f1 : (List Int)
def z24 : S24 := ⟨(0 : Int), ([] : List Int)⟩
def k24 : Kd S24 := Kd.iso (Kd.pair (Kd.int .i64) (Kd.slice 3 (Kd.int .i64))) (fun x : S24 => (x.f0, x.f1))
theorem k24_open {w : World} {x : S24} {cs : List Value} (h : k24.K w x cs) : ∃ A1 c1, cs = [.int .i64 x.f0, .slice A1 x.f1.length c1] ∧ x.f1.length ≤ c1 ∧ (Kd.int .i64).C w A1 x.f1.length x.f1 := by
  obtain ⟨_, _, rfl, rfl, ⟨A1, c1, rfl, l1, g1⟩⟩ := h
  exact ⟨A1, c1, rfl, l1, g1⟩
theorem k24_mk (w : World) (x : S24) {A1 : Option Addr} {c1 : Nat} (l1 : x.f1.length ≤ c1) (g1 : (Kd.int .i64).C w A1 x.f1.length x.f1) : k24.K w x [.int .i64 x.f0, .slice A1 x.f1.length c1] := ⟨[.int .i64 x.f0], [.slice A1 x.f1.length c1], rfl, rfl, ⟨A1, c1, rfl, l1, g1⟩⟩
theorem k24_mkM (w : World) (base : Nat) (ok : Nat → Prop) (x : S24) {v1 : Value} (g1 : (Kd.int .i64).R 3 w base ok v1 x.f1) : k24.M w base ok x [.int .i64 x.f0, v1] := ⟨[.int .i64 x.f0], [v1], rfl, rfl, ⟨v1, rfl, g1⟩⟩
structure S26 where
  f0 : Int
  f1 : (List Int)
  f2 : S24
  f3 : Int
def z26 : S26 := ⟨(0 : Int), ([] : List Int), z24, (0 : Int)⟩
def k26 : Kd S26 := Kd.iso (Kd.pair (Kd.int .i64) (Kd.pair (Kd.slice 3 (Kd.int .i64)) (Kd.pair k24 (Kd.int .i64)))) (fun x : S26 => (x.f0, x.f1, x.f2, x.f3))
theorem k26_open {w : World} {x : S26} {cs : List Value} (h : k26.K w x cs) : ∃ A1 c1 A3 c3, cs = [.int .i64 x.f0, .slice A1 x.f1.length c1, .int .i64 x.f2.f0, .slice A3 x.f2.f1.length c3, .int .i64 x.f3] ∧ x.f1.length ≤ c1 ∧ (Kd.int .i64).C w A1 x.f1.length x.f1 ∧ x.f2.f1.length ≤ c3 ∧ (Kd.int .i64).C w A3 x.f2.f1.length x.f2.f1 := by
  obtain ⟨_, _, rfl, rfl, ⟨_, _, rfl, ⟨A1, c1, rfl, l1, g1⟩, ⟨_, _, rfl, s2, rfl⟩⟩⟩ := h
  obtain ⟨A3, c3, rfl, l3, g3⟩ := k24_open s2
  exact ⟨A1, c1, A3, c3, rfl, l1, g1, l3, g3⟩
theorem k26_mk (w : World) (x : S26) {A1 : Option Addr} {c1 : Nat} (l1 : x.f1.length ≤ c1) (g1 : (Kd.int .i64).C w A1 x.f1.length x.f1) {A3 : Option Addr} {c3 : Nat} (l3 : x.f2.f1.length ≤ c3) (g3 : (Kd.int .i64).C w A3 x.f2.f1.length x.f2.f1) : k26.K w x [.int .i64 x.f0, .slice A1 x.f1.length c1, .int .i64 x.f2.f0, .slice A3 x.f2.f1.length c3, .int .i64 x.f3] := ⟨[.int .i64 x.f0], [.slice A1 x.f1.length c1, .int .i64 x.f2.f0, .slice A3 x.f2.f1.length c3, .int .i64 x.f3], rfl, rfl, ⟨[.slice A1 x.f1.length c1], [.int .i64 x.f2.f0, .slice A3 x.f2.f1.length c3, .int .i64 x.f3], rfl, ⟨A1, c1, rfl, l1, g1⟩, ⟨[.int .i64 x.f2.f0, .slice A3 x.f2.f1.length c3], [.int .i64 x.f3], rfl, (k24_mk w x.f2 l3 g3), rfl⟩⟩⟩
theorem k26_mkM (w : World) (base : Nat) (ok : Nat → Prop) (x : S26) {v1 : Value} (g1 : (Kd.int .i64).R 3 w base ok v1 x.f1) {v3 : Value} (g3 : (Kd.int .i64).R 3 w base ok v3 x.f2.f1) : k26.M w base ok x [.int .i64 x.f0, v1, .int .i64 x.f2.f0, v3, .int .i64 x.f3] := ⟨[.int .i64 x.f0], [v1, .int .i64 x.f2.f0, v3, .int .i64 x.f3], rfl, rfl, ⟨[v1], [.int .i64 x.f2.f0, v3, .int .i64 x.f3], rfl, ⟨v1, rfl, g1⟩, ⟨[.int .i64 x.f2.f0, v3], [.int .i64 x.f3], rfl, (k24_mkM w base ok x.f2 g3), rfl⟩⟩⟩
def rd_T26 (xs : List S26) (i : Int) : S26 := xs.getD i.toNat z26
theorem at_T26 {w : World} {A : Option Addr} {n : Nat} {xs : List S26} (h : Kd.C k26 w A n xs) (i : Int) (h0 : 0 ≤ i) (h1 : i < n) : ∃ ad A1 c1 A3 c3, A = some ad ∧ w.cell? (ad.add (i.toNat * 5)) = some (.int .i64 (rd_T26 xs i).f0) ∧ w.cell? ⟨(ad.add (i.toNat * 5)).block, (ad.add (i.toNat * 5)).off + 1, none⟩ = some (.slice A1 (rd_T26 xs i).f1.length c1) ∧ w.cell? ⟨(ad.add (i.toNat * 5)).block, (ad.add (i.toNat * 5)).off + 2, none⟩ = some (.int .i64 (rd_T26 xs i).f2.f0) ∧ w.cell? ⟨(ad.add (i.toNat * 5)).block, (ad.add (i.toNat * 5)).off + 3, none⟩ = some (.slice A3 (rd_T26 xs i).f2.f1.length c3) ∧ w.cell? ⟨(ad.add (i.toNat * 5)).block, (ad.add (i.toNat * 5)).off + 4, none⟩ = some (.int .i64 (rd_T26 xs i).f3) ∧ (rd_T26 xs i).f1.length ≤ c1 ∧ (Kd.int .i64).C w A1 (rd_T26 xs i).f1.length (rd_T26 xs i).f1 ∧ (rd_T26 xs i).f2.f1.length ≤ c3 ∧ (Kd.int .i64).C w A3 (rd_T26 xs i).f2.f1.length (rd_T26 xs i).f2.f1 := by
  obtain ⟨ad, c, e, _, hK, hc0⟩ := Kd.C_get h z26 i h0 h1
  have hc : ∀ j u, c[j]? = some u → w.cell? (ad.add (i.toNat * 5 + j)) = some u := hc0
  obtain ⟨A1, c1, A3, c3, rfl, l1, g1, l3, g3⟩ := k26_open hK
  exact ⟨ad, A1, c1, A3, c3, e, hc 0 _ rfl, by rw [← add_field _ _ 1 (by omega)]; exact hc 1 _ rfl, by rw [← add_field _ _ 2 (by omega)]; exact hc 2 _ rfl, by rw [← add_field _ _ 3 (by omega)]; exact hc 3 _ rfl, by rw [← add_field _ _ 4 (by omega)]; exact hc 4 _ rfl, l1, g1, l3, g3⟩
end Go.Proofs.Ytjomlfdkmdgclaa.P
end
section
namespace Go.Proofs.Ytjomlfdkmdgclaa.P
open Go.RowKit Go.Shelf Go.Proofs.YtjomlfdkmdgclaaW.PrintWords Go.Proofs.YtjomlfdkmdgclaaW.PrintLast Go.Proofs.YtjomlfdkmdgclaaW.PrintMore
def FnTells {α : Type} (P : Program) (w : World) (rel : World → α → Value → Prop) (fv : Value) (p : α → Bool) : Prop :=
  ∃ (g : Nat) (pre lb : Array Value), fv = .func (.func g) pre lb ∧ (∀ args w, (callFunc g args).run P w = .ok (.enter g args) w) ∧
    ∀ W x v, Below w.heap.size w W → rel W x v → Calls P g (pre ++ #[v] ++ lb) W fun e w' => e = .returned (.bool (p x)) ∧ Below W.heap.size W w'
theorem ret_bool {a b : Bool} (h : a = b) : Ending.returned (.bool a) = .returned (.bool b) := by rw [h]
theorem cell_new0 (w : World) (v : Value) (t : TypeId) : (w.alloc (.cells #[v] t)).cell? ⟨w.heap.size, 0, none⟩ = some v := World.cell?_alloc_at _ _ _ _ rfl
def IntRel (_ : World) (x : Int) (v : Value) : Prop := v = .int .i64 x
def AggRel {α : Type} (d : Kd α) (W : World) (x : α) (v : Value) : Prop := ∃ cs : List Value, v = .agg cs.toArray ∧ d.K W x cs
def idxOf {α : Type} (p : α → Bool) (l : List α) : Int := match l.findIdx? p with | some i => i | none => -1
theorem idxOf_hit {α : Type} {p : α → Bool} {l : List α} {k : Nat} (hk : k < l.length) (h0 : ∀ j, j < k → ∀ h : j < l.length, p l[j] = false) (h1 : p l[k] = true) : idxOf p l = k := by
  have : l.findIdx? p = some k := by
    rw [List.findIdx?_eq_some_iff_getElem]
    exact ⟨hk, h1, fun j hj => by simpa using h0 j hj (by omega)⟩
  simp [idxOf, this]
theorem idxOf_miss {α : Type} {p : α → Bool} {l : List α} (h0 : ∀ j, j < l.length → ∀ h : j < l.length, p l[j] = false) : idxOf p l = -1 := by
  have : l.findIdx? p = none := by
    rw [List.findIdx?_eq_none_iff]
    intro x hx
    obtain ⟨j, hj, rfl⟩ := List.mem_iff_getElem.1 hx
    exact h0 j hj hj
  simp [idxOf, this]
theorem idxOf_ge {α : Type} (p : α → Bool) (l : List α) : decide (0 ≤ idxOf p l) = l.any p := by
  unfold idxOf
  cases h : l.findIdx? p with
  | none =>
    rw [List.findIdx?_eq_none_iff] at h
    have : l.any p = false := by simpa using h
    simp [this]
  | some i =>
    have h2 := List.findIdx?_eq_some_iff_getElem.1 h
    have : l.any p = true := List.any_eq_true.2 ⟨_, List.getElem_mem h2.1, h2.2.1⟩
    simp [this]
theorem rd_getElem (xs : List Int) (j : Nat) (h : j < xs.length) : rd xs j = xs[j] := by
  simp [rd, List.getD_eq_getElem?_getD, List.getElem?_eq_getElem h]
end Go.Proofs.Ytjomlfdkmdgclaa.P
end
section
namespace Go.Proofs.Ytjomlfdkmdgclaa.P
open Go.RowKit Go.Proofs.YtjomlfdkmdgclaaW.PrintWords Go.Proofs.YtjomlfdkmdgclaaW.PrintLast Go.Proofs.YtjomlfdkmdgclaaW.PrintMore
attribute [local go_sem] max2_int min2_int max_two min_two max_three min_three max_four min_four   
set_option linter.unusedVariables false
set_option linter.unusedSimpArgs false
section
variable {P : Program} {ops : Array Oper} {rest : List Oper} {o : Oper} {a : Act} {Q : Exit → Act → World → Prop}
theorem store_block {W : World} (hN : o.dst = none) (hgd : o.guard = none) (t : TypeId) (p x : Operand) (ho : o.op = .store t p x) {g i : Nat} {e : TypeId} {cur : Array Value} (u : Value) (haddr : a.eval p = .pointer (some ⟨g, i, none⟩)) (hx : a.eval x = u)
    (hu : u.cells.toList = [u]) (h1 : u.oneCell' = true) (ht : (P.info? t).map (·.size) = some 1) (hblk : W.heap[g]? = some (.cells cur e (0, 0))) (hi : i < cur.size)
    (h : ∀ w1, w1 = W.setCell ⟨g, i, none⟩ u → wpList P ops Q rest a w1) : wpList P ops Q (o :: rest) a W := by
  have hrun := run_store_run t u [u] hblk hu ht (Nat.succ_le_of_lt hi) (by intro q hq; rw [List.mem_singleton] at hq; rw [hq]; exact h1)
  refine wpList_plain hgd fun K hK => ?_
  unfold Oper.wp execOp
  simp only [ho, haddr, hx, Sem.run_bind, Sem.run_pure, Result.andThen_ok, hrun]
  show K (a.put o.dst undef) _
  rw [hN]
  exact hK a _ (h _ rfl)
end
theorem kn_C_of_blk {α : Type} {d : Kd α} {w : World} {b : Nat} {e : TypeId} {cs : List Value} {xs : List α} (hblk : w.heap[b]? = some (.cells cs.toArray e (0, 0))) (hn : xs.length ≤ 9223372036854775807) (hr : Reps (d.K w) d.sz xs cs) : d.C w (some ⟨b, 0, none⟩) xs.length xs := by
  refine ⟨rfl, hn, fun _ => ⟨_, rfl, fun j p hp => ?_⟩⟩
  have hj : j < xs.length := (List.getElem?_eq_some_iff.1 hp).1
  have h1 : j * d.sz + d.sz ≤ cs.length := by rw [hr.1, ← Nat.succ_mul]; exact Nat.mul_le_mul_right _ hj
  refine ⟨(cs.drop (j * d.sz)).take d.sz, by rw [List.length_take, List.length_drop]; omega, hr.2 j p hp, fun i u hu => ?_⟩
  have hi : i < d.sz := by
    have := (List.getElem?_eq_some_iff.1 hu).1
    rw [List.length_take] at this
    omega
  rw [List.getElem?_take_of_lt hi, List.getElem?_drop] at hu
  have h2 := blk_cell hblk (j * d.sz + i)
  rw [List.getElem?_toArray, hu] at h2
  have h3 : (Addr.mk b 0 none).add (j * d.sz + i) = ⟨b, j * d.sz + i, none⟩ := by
    unfold Addr.add
    by_cases h : j * d.sz + i = 0
    · rw [if_pos h, h]
    · rw [if_neg h, Nat.zero_add]
  rw [h3]
  exact h2
theorem kn_one {α : Type} {R : α → List Value → Prop} {sz : Nat} {x : α} {cs : List Value} (h : R x cs) (hl : cs.length = sz) : Reps R sz [x] cs := by
  have := (Reps.none R sz).snoc h hl
  simpa using this
theorem kn_two {α : Type} {R : α → List Value → Prop} {sz : Nat} {x y : α} {cs ds : List Value} (h : R x cs) (hl : cs.length = sz) (h2 : R y ds) (hl2 : ds.length = sz) : Reps R sz [x, y] (cs ++ ds) := by
  have := (kn_one h hl).snoc h2 hl2
  simpa using this
theorem kn_blk_alloc {w : World} {o o' : Obj} {b : Nat} (h : w.heap[b]? = some o) : (w.alloc o').heap[b]? = some o := blk_below h (below_alloc (Below.refl _ _) _)
theorem kn_blk_at {w : World} {cs : Array Value} {t : TypeId} {n : Nat} (h : w.heap.size = n) : (w.alloc (.cells cs t)).heap[n]? = some (.cells cs t (0, 0)) := h ▸ blk_new w _
end Go.Proofs.Ytjomlfdkmdgclaa.P
end
section
namespace Go.Proofs.Ytjomlfdkmdgclaa.P
open Go.RowKit Go.Proofs.YtjomlfdkmdgclaaW.PrintWords Go.Proofs.YtjomlfdkmdgclaaW.PrintLast Go.Proofs.YtjomlfdkmdgclaaW.PrintMore
attribute [local go_sem] max2_int min2_int max_two min_two max_three min_three max_four min_four   
set_option linter.unusedVariables false
set_option linter.unusedSimpArgs false
noncomputable def interlocutorlaw4_Few.l0 : Nat → List (S31) → Int → Option (Bool)
  | 0, _, _ => none
  | k + 1, x0, x3 => if x3 < (x0.length : Int) then (if 0 ≤ x3 then (if (((rd_T31 x0 x3).f3).length : Int) > 20 then (some false) else (if (((rd_T31 x0 x3).f4).length : Int) > 20 then (some false) else (interlocutorlaw4_Few.l0 k x0 (wrap64 (x3 + 1))))) else (none)) else (some (decide ((x0.length : Int) ≤ 80)))
noncomputable def interlocutorlaw4_Few.f (k : Nat) (l0 : List (S31)) : Option (Bool) := interlocutorlaw4_Few.l0 k l0 0
theorem interlocutorlaw4_Few.mono_l : ∀ k, (∀ y0 y1, LeO (interlocutorlaw4_Few.l0 k y0 y1) (interlocutorlaw4_Few.l0 (k + 1) y0 y1))
  | 0 => fun _ _ r h => by simp [interlocutorlaw4_Few.l0] at h
  | k + 1 => by
    have ih0 := interlocutorlaw4_Few.mono_l k
    · intro y0 y1
      unfold interlocutorlaw4_Few.l0
      repeat' first
      | (with_reducible exact ih0 _ _)
      | (with_reducible exact LeO.refl _)
      | (with_reducible exact LeO.none _)
      | (with_reducible refine LeO.ite ?_ ?_)
      | (with_reducible refine LeO.bind ?_ (fun _ => ?_))
      | exact ih0 _ _
      | exact LeO.none _
      | refine LeO.ite ?_ ?_
      | refine LeO.bind ?_ (fun _ => ?_)
theorem interlocutorlaw4_Few.mono : ∀ a0 k, LeO (interlocutorlaw4_Few.f k a0) (interlocutorlaw4_Few.f (k + 1) a0) := by
  intro a0 k
  have ih0 := interlocutorlaw4_Few.mono_l k
  unfold interlocutorlaw4_Few.f
  repeat' first
      | (with_reducible exact ih0 _ _)
      | (with_reducible exact LeO.refl _)
      | (with_reducible exact LeO.none _)
      | (with_reducible refine LeO.ite ?_ ?_)
      | (with_reducible refine LeO.bind ?_ (fun _ => ?_))
      | exact ih0 _ _
      | exact LeO.none _
      | refine LeO.ite ?_ ?_
      | refine LeO.bind ?_ (fun _ => ?_)
set_option maxHeartbeats 8000000 in
set_option maxRecDepth 100000 in
theorem interlocutorlaw4_Few.calls (k : Nat) (A0 : Option Addr) (c0 : Nat) (l0 : List (S31)) (r : Bool) (w : World) (hr0 : Kd.C k31 w A0 l0.length l0) (hc0 : l0.length ≤ c0) (h : interlocutorlaw4_Few.f k l0 = some r) :
    Calls Try.prog 14 #[.slice A0 l0.length c0] w fun e w' => e = .returned (.bool r) ∧ Drawn0 w w' := by
  have HR0 := Aside0.mk hr0
  have HC0 := Aside0.mk hc0
  clear hr0 hc0
  have H : (interlocutorlaw4_Few.l0 k l0 0) = some r := h
  clear h
  have H' := Aside0.mk H
  clear H
  go_enter Try.func14, Try.ntmps14
  go_wp2
  go_loopg [3] k (fun kq v3 w' => ∃ (x3_1 : Int), v3 = .int .i64 x3_1 ∧ Aside0 (interlocutorlaw4_Few.l0 kq l0 x3_1 = some r) ∧ Aside0 (kq ≤ k) ∧ Drawn0 w w')
  case atStart => exact ⟨(0), (by first | rfl | (simp; done) | (simp [*]; done)), H', ⟨Nat.le_refl _⟩, by repeat (first | exact Drawn0.refl _ | apply Drawn0.step)⟩
  case round =>
    clear H'
    try clear c1
    obtain ⟨x3_1, rfl, HA, HK1, ⟨m1, rfl⟩⟩ := hrel
    cases gk with
    | zero => exact absurd HA.out (by simp [interlocutorlaw4_Few.l0])
    | succ k1 =>
      have H := HA.out
      clear HA
      simp only [interlocutorlaw4_Few.l0] at H
      by_cases c2 : x3_1 < (l0.length : Int)
      · rw [if_pos c2] at H
        have c2b0 : decide (x3_1 < (l0.length : Int)) = true := decide_eq_true c2
        clear c2
        by_cases c3 : 0 ≤ x3_1
        · rw [if_pos c3] at H
          have c3b0 : decide (0 ≤ x3_1) = true := decide_eq_true c3
          clear c3
          by_cases c4 : (((rd_T31 l0 x3_1).f3).length : Int) > 20
          · rw [if_pos c4] at H
            have c4b0 : decide (20 < (((rd_T31 l0 x3_1).f3).length : Int)) = true := decide_eq_true c4
            have c4b1 : decide (20 < ((rd_T31 l0 x3_1).f3).length) = true := decide_eq_true (by omega)
            clear c4
            obtain rfl := Option.some.inj H
            have p101 : 0 ≤ (x3_1 : Int) := of_decide_eq_true (by first | (with_reducible assumption) | assumption)
            have q101 : x3_1 < (l0.length : Int) := of_decide_eq_true (by first | (with_reducible assumption) | assumption)
            obtain ⟨ad101, A101_3, c101_3, A101_4, c101_4, e101, hx101_0, hx101_1, hx101_2, hx101_3, hx101_4, hl101_3, hi101_3, hl101_4, hi101_4⟩ := at_T31 HR0.out x3_1 p101 q101
            cases e101
            have HR101_3 := Aside0.mk hi101_3
            have HC101_3 := Aside0.mk hl101_3
            clear hi101_3 hl101_3
            have HR101_4 := Aside0.mk hi101_4
            have HC101_4 := Aside0.mk hl101_4
            clear hi101_4 hl101_4
            replace p101 := eq_true p101
            replace q101 := eq_true q101
            go_wp2
            go_ret
            exact ⟨by first | rfl | (simp; done) | (simp [*]; done), by repeat (first | exact Drawn0.refl _ | apply Drawn0.step)⟩
          · rw [if_neg c4] at H
            have c4b0 : decide (20 < (((rd_T31 l0 x3_1).f3).length : Int)) = false := decide_eq_false c4
            have c4b1 : decide (20 < ((rd_T31 l0 x3_1).f3).length) = false := decide_eq_false (by omega)
            clear c4
            by_cases c5 : (((rd_T31 l0 x3_1).f4).length : Int) > 20
            · rw [if_pos c5] at H
              have c5b0 : decide (20 < (((rd_T31 l0 x3_1).f4).length : Int)) = true := decide_eq_true c5
              have c5b1 : decide (20 < ((rd_T31 l0 x3_1).f4).length) = true := decide_eq_true (by omega)
              clear c5
              obtain rfl := Option.some.inj H
              have p101 : 0 ≤ (x3_1 : Int) := of_decide_eq_true (by first | (with_reducible assumption) | assumption)
              have q101 : x3_1 < (l0.length : Int) := of_decide_eq_true (by first | (with_reducible assumption) | assumption)
              obtain ⟨ad101, A101_3, c101_3, A101_4, c101_4, e101, hx101_0, hx101_1, hx101_2, hx101_3, hx101_4, hl101_3, hi101_3, hl101_4, hi101_4⟩ := at_T31 HR0.out x3_1 p101 q101
              cases e101
              have HR101_3 := Aside0.mk hi101_3
              have HC101_3 := Aside0.mk hl101_3
              clear hi101_3 hl101_3
              have HR101_4 := Aside0.mk hi101_4
              have HC101_4 := Aside0.mk hl101_4
              clear hi101_4 hl101_4
              replace p101 := eq_true p101
              replace q101 := eq_true q101
              have p102 : 0 ≤ (x3_1 : Int) := of_decide_eq_true (by first | (with_reducible assumption) | assumption)
              have q102 : x3_1 < (l0.length : Int) := of_decide_eq_true (by first | (with_reducible assumption) | assumption)
              obtain ⟨ad102, A102_3, c102_3, A102_4, c102_4, e102, hx102_0, hx102_1, hx102_2, hx102_3, hx102_4, hl102_3, hi102_3, hl102_4, hi102_4⟩ := at_T31 HR0.out x3_1 p102 q102
              obtain rfl : ad101 = ad102 := (by injection e102)
              have HR102_3 := Aside0.mk hi102_3
              have HC102_3 := Aside0.mk hl102_3
              clear hi102_3 hl102_3
              have HR102_4 := Aside0.mk hi102_4
              have HC102_4 := Aside0.mk hl102_4
              clear hi102_4 hl102_4
              replace p102 := eq_true p102
              replace q102 := eq_true q102
              have ea_ := Option.some.inj (hx101_3.symm.trans hx102_3)
              injection ea_ with ea_ en_ ec_
              subst ea_
              subst ec_
              clear en_
              have ea_ := Option.some.inj (hx101_4.symm.trans hx102_4)
              injection ea_ with ea_ en_ ec_
              subst ea_
              subst ec_
              clear en_
              go_wp2
              go_ret
              exact ⟨by first | rfl | (simp; done) | (simp [*]; done), by repeat (first | exact Drawn0.refl _ | apply Drawn0.step)⟩
            · rw [if_neg c5] at H
              have c5b0 : decide (20 < (((rd_T31 l0 x3_1).f4).length : Int)) = false := decide_eq_false c5
              have c5b1 : decide (20 < ((rd_T31 l0 x3_1).f4).length) = false := decide_eq_false (by omega)
              clear c5
              have H' := Aside0.mk H
              clear H
              have p101 : 0 ≤ (x3_1 : Int) := of_decide_eq_true (by first | (with_reducible assumption) | assumption)
              have q101 : x3_1 < (l0.length : Int) := of_decide_eq_true (by first | (with_reducible assumption) | assumption)
              obtain ⟨ad101, A101_3, c101_3, A101_4, c101_4, e101, hx101_0, hx101_1, hx101_2, hx101_3, hx101_4, hl101_3, hi101_3, hl101_4, hi101_4⟩ := at_T31 HR0.out x3_1 p101 q101
              cases e101
              have HR101_3 := Aside0.mk hi101_3
              have HC101_3 := Aside0.mk hl101_3
              clear hi101_3 hl101_3
              have HR101_4 := Aside0.mk hi101_4
              have HC101_4 := Aside0.mk hl101_4
              clear hi101_4 hl101_4
              replace p101 := eq_true p101
              replace q101 := eq_true q101
              have p102 : 0 ≤ (x3_1 : Int) := of_decide_eq_true (by first | (with_reducible assumption) | assumption)
              have q102 : x3_1 < (l0.length : Int) := of_decide_eq_true (by first | (with_reducible assumption) | assumption)
              obtain ⟨ad102, A102_3, c102_3, A102_4, c102_4, e102, hx102_0, hx102_1, hx102_2, hx102_3, hx102_4, hl102_3, hi102_3, hl102_4, hi102_4⟩ := at_T31 HR0.out x3_1 p102 q102
              obtain rfl : ad101 = ad102 := (by injection e102)
              have HR102_3 := Aside0.mk hi102_3
              have HC102_3 := Aside0.mk hl102_3
              clear hi102_3 hl102_3
              have HR102_4 := Aside0.mk hi102_4
              have HC102_4 := Aside0.mk hl102_4
              clear hi102_4 hl102_4
              replace p102 := eq_true p102
              replace q102 := eq_true q102
              have ea_ := Option.some.inj (hx101_3.symm.trans hx102_3)
              injection ea_ with ea_ en_ ec_
              subst ea_
              subst ec_
              clear en_
              have ea_ := Option.some.inj (hx101_4.symm.trans hx102_4)
              injection ea_ with ea_ en_ ec_
              subst ea_
              subst ec_
              clear en_
              go_wp2
              go_roundg k1
              case measure => have := HK1.out; omega
              case rel => exact ⟨(wrap64 (x3_1 + 1)), (by first | rfl | (simp; done) | (simp [*]; done)), H', ⟨by have := HK1.out; omega⟩, by repeat (first | exact Drawn0.refl _ | apply Drawn0.step)⟩
        · rw [if_neg c3] at H
          exact absurd H (by simp)
      · rw [if_neg c2] at H
        have c2b0 : decide (x3_1 < (l0.length : Int)) = false := decide_eq_false c2
        clear c2
        obtain rfl := Option.some.inj H
        go_wp2
        go_ret
        exact ⟨by first | rfl | (simp; done) | (simp [*]; done), by repeat (first | exact Drawn0.refl _ | apply Drawn0.step)⟩
noncomputable def interlocutorlaw4_within.f (a0 : Int) (a1 : Int) : Option (Int) := if a1 = 0 then (none) else (if (Int.tmod a0 a1) < 0 then (some (wrap64 ((Int.tmod a0 a1) + a1))) else (some (Int.tmod a0 a1)))
set_option maxHeartbeats 8000000 in
set_option maxRecDepth 100000 in
theorem interlocutorlaw4_within.calls (a0 : Int) (a1 : Int) (r : Int) (w : World) (h : interlocutorlaw4_within.f a0 a1 = some r) :
    Calls Try.prog 17 #[.int .i64 a0, .int .i64 a1] w fun e w' => e = .returned (.int .i64 r) ∧ Drawn0 w w' := by
  have H : (if a1 = 0 then (none) else (if (Int.tmod a0 a1) < 0 then (some (wrap64 ((Int.tmod a0 a1) + a1))) else (some (Int.tmod a0 a1)))) = some r := h
  clear h
  by_cases c3 : a1 = 0
  · rw [if_pos c3] at H
    exact absurd H (by simp)
  · rw [if_neg c3] at H
    have c3b0 : (a1 == 0) = false := beq_eq_false_iff_ne.mpr c3
    have c3b1 : (a1 != 0) = true := bne_iff_ne.mpr c3
    by_cases c4 : (Int.tmod a0 a1) < 0
    · rw [if_pos c4] at H
      have c4b0 : decide ((Int.tmod a0 a1) < 0) = true := decide_eq_true c4
      clear c4
      obtain rfl := Option.some.inj H
      go_enter Try.func17, Try.ntmps17
      go_wp2
      go_ret
      exact ⟨by first | rfl | (simp; done) | (simp [*]; done), by repeat (first | exact Drawn0.refl _ | apply Drawn0.step)⟩
    · rw [if_neg c4] at H
      have c4b0 : decide ((Int.tmod a0 a1) < 0) = false := decide_eq_false c4
      clear c4
      obtain rfl := Option.some.inj H
      go_enter Try.func17, Try.ntmps17
      go_wp2
      go_ret
      exact ⟨by first | rfl | (simp; done) | (simp [*]; done), by repeat (first | exact Drawn0.refl _ | apply Drawn0.step)⟩
end Go.Proofs.Ytjomlfdkmdgclaa.P
end
section
namespace Go.Proofs.Ytjomlfdkmdgclaa.P
open Go.RowKit Go.Proofs.YtjomlfdkmdgclaaW.PrintWords Go.Proofs.YtjomlfdkmdgclaaW.PrintLast Go.Proofs.YtjomlfdkmdgclaaW.PrintMore
attribute [local go_sem] max2_int min2_int max_two min_two max_three min_three max_four min_four   
set_option linter.unusedVariables false
set_option linter.unusedSimpArgs false
mutual
noncomputable def interlocutorlaw4_Raw_Make.l0 : Nat → Int → Int → Int → Int → Int → Int → List Int → List Int → Int → List Int → Int → Int → Option (Int × List Int × Int × List Int × Int)
  | 0, _, _, _, _, _, _, _, _, _, _, _, _ => none
  | k + 1, x1, x6, x7, x104000, x104001, x104002, x104003, x104004, x108000, x108001, x108002, x108004 => (interlocutorlaw4_within.f (x104003.length : Int) 3).bind fun t113 => (if x7 < (wrap64 (1 + t113)) then (interlocutorlaw4_Raw_Make.j1 k x1 x6 x7 true x104000 x104001 x104002 x104003 x104004 x108000 x108001 x108002 x108004) else (if x7 < x6 then ((interlocutorlaw4_within.f (wrap64 (Int.tdiv x104001 16)) 2).bind fun t114 => (interlocutorlaw4_Raw_Make.j1 k x1 x6 x7 (t114 == 0) x104000 x104001 x104002 x104003 x104004 x108000 x108001 x108002 x108004)) else (interlocutorlaw4_Raw_Make.j1 k x1 x6 x7 false x104000 x104001 x104002 x104003 x104004 x108000 x108001 x108002 x108004)))
noncomputable def interlocutorlaw4_Raw_Make.j1 : Nat → Int → Int → Int → Bool → Int → Int → Int → List Int → List Int → Int → List Int → Int → Int → Option (Int × List Int × Int × List Int × Int)
  | 0, _, _, _, _, _, _, _, _, _, _, _, _, _ => none
  | k + 1, x1, x6, x7, x49, x104000, x104001, x104002, x104003, x104004, x108000, x108001, x108002, x108004 => if x49 = true then (if x7 < (x104003.length : Int) then (if 0 ≤ x7 then (interlocutorlaw4_Raw_Make.j2 k x1 x6 x7 (rd x104003 x7) x104000 x104001 x104002 x104003 x104004 x108000 x108001 x108002 x108004) else (none)) else (interlocutorlaw4_Raw_Make.j2 k x1 x6 x7 x7 x104000 x104001 x104002 x104003 x104004 x108000 x108001 x108002 x108004)) else (interlocutorlaw4_Raw_Make.l1 k x6 0 x104000 x104001 x104002 x104003 x104004 x108000 x108001 x108002 ([] : List Int) x108004)
noncomputable def interlocutorlaw4_Raw_Make.j2 : Nat → Int → Int → Int → Int → Int → Int → Int → List Int → List Int → Int → List Int → Int → Int → Option (Int × List Int × Int × List Int × Int)
  | 0, _, _, _, _, _, _, _, _, _, _, _, _, _ => none
  | k + 1, x1, x6, x7, x8, x104000, x104001, x104002, x104003, x104004, x108000, x108001, x108002, x108004 => (interlocutorlaw4_within.f x8 x1).bind fun t116 => ((interlocutorlaw4_within.f (wrap64 (Int.tdiv x8 20)) 2).bind fun t117 => (if t117 = 0 then ((some (([0, 0, 0, 1, 2, 3, 50, 51, 52, 53, 54] : List Int) : List Int)).bind fun y118 => ((interlocutorlaw4_within.f (wrap64 (Int.tdiv x8 40)) 11).bind fun t121 => (if 0 ≤ t121 then (if t121 < (y118.length : Int) then (if x108001.length < 17592186044416 then (interlocutorlaw4_Raw_Make.l0 k x1 x6 (wrap64 (x7 + 1)) x104000 x104001 x104002 x104003 x104004 x108000 (x108001 ++ [wrap64 ((-1) - (rd y118 t121))]) x108002 x108004) else (none)) else (none)) else (none)))) else (if x108001.length < 17592186044416 then (interlocutorlaw4_Raw_Make.l0 k x1 x6 (wrap64 (x7 + 1)) x104000 x104001 x104002 x104003 x104004 x108000 (x108001 ++ [t116]) x108002 x108004) else (none))))
noncomputable def interlocutorlaw4_Raw_Make.l1 : Nat → Int → Int → Int → Int → Int → List Int → List Int → Int → List Int → Int → List Int → Int → Option (Int × List Int × Int × List Int × Int)
  | 0, _, _, _, _, _, _, _, _, _, _, _, _ => none
  | k + 1, x6, x10, x104000, x104001, x104002, x104003, x104004, x108000, x108001, x108002, x108003, x108004 => if x10 < x6 then (if x10 < (x104004.length : Int) then (if 0 ≤ x10 then ((interlocutorlaw4_within.f (rd x104004 x10) (x108001.length : Int)).bind fun t130 => (if x108003.length < 17592186044416 then (interlocutorlaw4_Raw_Make.l1 k x6 (wrap64 (x10 + 1)) x104000 x104001 x104002 x104003 x104004 x108000 x108001 x108002 (x108003 ++ [t130]) x108004) else (none))) else (none)) else ((interlocutorlaw4_within.f x10 (x108001.length : Int)).bind fun t134 => (if x108003.length < 17592186044416 then (interlocutorlaw4_Raw_Make.l1 k x6 (wrap64 (x10 + 1)) x104000 x104001 x104002 x104003 x104004 x108000 x108001 x108002 (x108003 ++ [t134]) x108004) else (none)))) else (some (x108000, x108001, x108002, x108003, x108004))
end
noncomputable def interlocutorlaw4_Raw_Make.f (k : Nat) (a0_0 : Int) (a0_1 : Int) (a0_2 : Int) (l0_3 : List Int) (l0_4 : List Int) (a1 : Int) : Option (Int × List Int × Int × List Int × Int) := (interlocutorlaw4_within.f a0_0 a1).bind fun t105 => ((interlocutorlaw4_within.f a0_2 101).bind fun t106 => ((interlocutorlaw4_within.f a0_1 16).bind fun t108 => ((some (([1, 3, 2, 2, 2, 2, 3, 1, 1, 2, 1, 1, 2, 2, 2, 2] : List Int) : List Int)).bind fun y109 => (if 0 ≤ t108 then (if t108 < (y109.length : Int) then (interlocutorlaw4_Raw_Make.l0 k a1 (rd y109 t108) 0 a0_0 a0_1 a0_2 l0_3 l0_4 t105 ([] : List Int) t108 t106) else (none)) else (none)))))
theorem interlocutorlaw4_Raw_Make.mono_l : ∀ k, (∀ y0 y1 y2 y3 y4 y5 y6 y7 y8 y9 y10 y11, LeO (interlocutorlaw4_Raw_Make.l0 k y0 y1 y2 y3 y4 y5 y6 y7 y8 y9 y10 y11) (interlocutorlaw4_Raw_Make.l0 (k + 1) y0 y1 y2 y3 y4 y5 y6 y7 y8 y9 y10 y11)) ∧ (∀ y0 y1 y2 y3 y4 y5 y6 y7 y8 y9 y10 y11 y12, LeO (interlocutorlaw4_Raw_Make.j1 k y0 y1 y2 y3 y4 y5 y6 y7 y8 y9 y10 y11 y12) (interlocutorlaw4_Raw_Make.j1 (k + 1) y0 y1 y2 y3 y4 y5 y6 y7 y8 y9 y10 y11 y12)) ∧ (∀ y0 y1 y2 y3 y4 y5 y6 y7 y8 y9 y10 y11 y12, LeO (interlocutorlaw4_Raw_Make.j2 k y0 y1 y2 y3 y4 y5 y6 y7 y8 y9 y10 y11 y12) (interlocutorlaw4_Raw_Make.j2 (k + 1) y0 y1 y2 y3 y4 y5 y6 y7 y8 y9 y10 y11 y12)) ∧ (∀ y0 y1 y2 y3 y4 y5 y6 y7 y8 y9 y10 y11, LeO (interlocutorlaw4_Raw_Make.l1 k y0 y1 y2 y3 y4 y5 y6 y7 y8 y9 y10 y11) (interlocutorlaw4_Raw_Make.l1 (k + 1) y0 y1 y2 y3 y4 y5 y6 y7 y8 y9 y10 y11))
  | 0 => ⟨fun _ _ _ _ _ _ _ _ _ _ _ _ r h => by simp [interlocutorlaw4_Raw_Make.l0] at h, fun _ _ _ _ _ _ _ _ _ _ _ _ _ r h => by simp [interlocutorlaw4_Raw_Make.j1] at h, fun _ _ _ _ _ _ _ _ _ _ _ _ _ r h => by simp [interlocutorlaw4_Raw_Make.j2] at h, fun _ _ _ _ _ _ _ _ _ _ _ _ r h => by simp [interlocutorlaw4_Raw_Make.l1] at h⟩
  | k + 1 => by
    obtain ⟨ih0, ih1, ih2, ih3⟩ := interlocutorlaw4_Raw_Make.mono_l k
    refine ⟨?_, ?_, ?_, ?_⟩
    · intro y0 y1 y2 y3 y4 y5 y6 y7 y8 y9 y10 y11
      unfold interlocutorlaw4_Raw_Make.l0
      repeat' first
      | (with_reducible exact ih0 _ _ _ _ _ _ _ _ _ _ _ _)
      | (with_reducible exact ih1 _ _ _ _ _ _ _ _ _ _ _ _ _)
      | (with_reducible exact ih2 _ _ _ _ _ _ _ _ _ _ _ _ _)
      | (with_reducible exact ih3 _ _ _ _ _ _ _ _ _ _ _ _)
      | (with_reducible exact LeO.refl _)
      | (with_reducible exact LeO.none _)
      | (with_reducible refine LeO.ite ?_ ?_)
      | (with_reducible refine LeO.bind ?_ (fun _ => ?_))
      | exact ih0 _ _ _ _ _ _ _ _ _ _ _ _
      | exact ih1 _ _ _ _ _ _ _ _ _ _ _ _ _
      | exact ih2 _ _ _ _ _ _ _ _ _ _ _ _ _
      | exact ih3 _ _ _ _ _ _ _ _ _ _ _ _
      | exact LeO.none _
      | refine LeO.ite ?_ ?_
      | refine LeO.bind ?_ (fun _ => ?_)
    · intro y0 y1 y2 y3 y4 y5 y6 y7 y8 y9 y10 y11 y12
      unfold interlocutorlaw4_Raw_Make.j1
      repeat' first
      | (with_reducible exact ih0 _ _ _ _ _ _ _ _ _ _ _ _)
      | (with_reducible exact ih1 _ _ _ _ _ _ _ _ _ _ _ _ _)
      | (with_reducible exact ih2 _ _ _ _ _ _ _ _ _ _ _ _ _)
      | (with_reducible exact ih3 _ _ _ _ _ _ _ _ _ _ _ _)
      | (with_reducible exact LeO.refl _)
      | (with_reducible exact LeO.none _)
      | (with_reducible refine LeO.ite ?_ ?_)
      | (with_reducible refine LeO.bind ?_ (fun _ => ?_))
      | exact ih0 _ _ _ _ _ _ _ _ _ _ _ _
      | exact ih1 _ _ _ _ _ _ _ _ _ _ _ _ _
      | exact ih2 _ _ _ _ _ _ _ _ _ _ _ _ _
      | exact ih3 _ _ _ _ _ _ _ _ _ _ _ _
      | exact LeO.none _
      | refine LeO.ite ?_ ?_
      | refine LeO.bind ?_ (fun _ => ?_)
    · intro y0 y1 y2 y3 y4 y5 y6 y7 y8 y9 y10 y11 y12
      unfold interlocutorlaw4_Raw_Make.j2
      repeat' first
      | (with_reducible exact ih0 _ _ _ _ _ _ _ _ _ _ _ _)
      | (with_reducible exact ih1 _ _ _ _ _ _ _ _ _ _ _ _ _)
      | (with_reducible exact ih2 _ _ _ _ _ _ _ _ _ _ _ _ _)
      | (with_reducible exact ih3 _ _ _ _ _ _ _ _ _ _ _ _)
      | (with_reducible exact LeO.refl _)
      | (with_reducible exact LeO.none _)
      | (with_reducible refine LeO.ite ?_ ?_)
      | (with_reducible refine LeO.bind ?_ (fun _ => ?_))
      | exact ih0 _ _ _ _ _ _ _ _ _ _ _ _
      | exact ih1 _ _ _ _ _ _ _ _ _ _ _ _ _
      | exact ih2 _ _ _ _ _ _ _ _ _ _ _ _ _
      | exact ih3 _ _ _ _ _ _ _ _ _ _ _ _
      | exact LeO.none _
      | refine LeO.ite ?_ ?_
      | refine LeO.bind ?_ (fun _ => ?_)
    · intro y0 y1 y2 y3 y4 y5 y6 y7 y8 y9 y10 y11
      unfold interlocutorlaw4_Raw_Make.l1
      repeat' first
      | (with_reducible exact ih0 _ _ _ _ _ _ _ _ _ _ _ _)
      | (with_reducible exact ih1 _ _ _ _ _ _ _ _ _ _ _ _ _)
      | (with_reducible exact ih2 _ _ _ _ _ _ _ _ _ _ _ _ _)
      | (with_reducible exact ih3 _ _ _ _ _ _ _ _ _ _ _ _)
      | (with_reducible exact LeO.refl _)
      | (with_reducible exact LeO.none _)
      | (with_reducible refine LeO.ite ?_ ?_)
      | (with_reducible refine LeO.bind ?_ (fun _ => ?_))
      | exact ih0 _ _ _ _ _ _ _ _ _ _ _ _
      | exact ih1 _ _ _ _ _ _ _ _ _ _ _ _ _
      | exact ih2 _ _ _ _ _ _ _ _ _ _ _ _ _
      | exact ih3 _ _ _ _ _ _ _ _ _ _ _ _
      | exact LeO.none _
      | refine LeO.ite ?_ ?_
      | refine LeO.bind ?_ (fun _ => ?_)
theorem interlocutorlaw4_Raw_Make.mono : ∀ a0 a1 a2 a3 a4 a5 k, LeO (interlocutorlaw4_Raw_Make.f k a0 a1 a2 a3 a4 a5) (interlocutorlaw4_Raw_Make.f (k + 1) a0 a1 a2 a3 a4 a5) := by
  intro a0 a1 a2 a3 a4 a5 k
  obtain ⟨ih0, ih1, ih2, ih3⟩ := interlocutorlaw4_Raw_Make.mono_l k
  unfold interlocutorlaw4_Raw_Make.f
  repeat' first
      | (with_reducible exact ih0 _ _ _ _ _ _ _ _ _ _ _ _)
      | (with_reducible exact ih1 _ _ _ _ _ _ _ _ _ _ _ _ _)
      | (with_reducible exact ih2 _ _ _ _ _ _ _ _ _ _ _ _ _)
      | (with_reducible exact ih3 _ _ _ _ _ _ _ _ _ _ _ _)
      | (with_reducible exact LeO.refl _)
      | (with_reducible exact LeO.none _)
      | (with_reducible refine LeO.ite ?_ ?_)
      | (with_reducible refine LeO.bind ?_ (fun _ => ?_))
      | exact ih0 _ _ _ _ _ _ _ _ _ _ _ _
      | exact ih1 _ _ _ _ _ _ _ _ _ _ _ _ _
      | exact ih2 _ _ _ _ _ _ _ _ _ _ _ _ _
      | exact ih3 _ _ _ _ _ _ _ _ _ _ _ _
      | exact LeO.none _
      | refine LeO.ite ?_ ?_
      | refine LeO.bind ?_ (fun _ => ?_)
def interlocutorlaw4_Raw_Make.T1 : Bool × List (List Nat × List Nat) := (true, [([], []), ([0], [0]), ([], []), ([1, 2], [1, 2]), ([], []), ([4], [4]), ([5, 3], [5]), ([3, 6], [3, 6]), ([], []), ([8, 7, 6, 0, 1, 2, 3, 4, 5, 6, 7, 8], [7, 8])])
def interlocutorlaw4_Raw_Make.B1 : List Nat := [0, 1, 0, 7, 0, 16, 63, 127, 0, 511]
theorem interlocutorlaw4_Raw_Make.tab1 : rtab .any (opsOf Try.f15 1) = interlocutorlaw4_Raw_Make.T1 := by kernel_rfl
theorem interlocutorlaw4_Raw_Make.bits1 : waitsOk interlocutorlaw4_Raw_Make.T1.2 interlocutorlaw4_Raw_Make.B1 = true := by kernel_rfl
def interlocutorlaw4_Raw_Make.T20 : Bool × List (List Nat × List Nat) := (true, [([], []), ([0], [0]), ([1], [1]), ([], []), ([], []), ([4], [4]), ([5], [5]), ([3, 6], [3, 6]), ([7], [7]), ([2, 8, 7], [2, 8]), ([0, 1, 2, 3, 4, 5, 6, 7, 8, 9], []), ([10, 0, 1, 2, 3, 4, 5, 6, 7, 8, 9], [10]), ([11, 9, 9, 0, 1, 2, 3, 4, 5, 6, 7, 8, 9], [9, 11])])
def interlocutorlaw4_Raw_Make.B20 : List Nat := [0, 1, 3, 0, 0, 16, 48, 120, 248, 511, 1023, 2047, 4095]
theorem interlocutorlaw4_Raw_Make.tab20 : rtab .any (opsOf Try.f15 20) = interlocutorlaw4_Raw_Make.T20 := by kernel_rfl
theorem interlocutorlaw4_Raw_Make.bits20 : waitsOk interlocutorlaw4_Raw_Make.T20.2 interlocutorlaw4_Raw_Make.B20 = true := by kernel_rfl
set_option maxHeartbeats 8000000 in
set_option maxRecDepth 100000 in
theorem interlocutorlaw4_Raw_Make.calls (k : Nat) (a0_0 : Int) (a0_1 : Int) (a0_2 : Int) (A0_3 : Option Addr) (c0_3 : Nat) (l0_3 : List Int) (A0_4 : Option Addr) (c0_4 : Nat) (l0_4 : List Int) (a1 : Int) (r1 : Int) (r2 : List Int) (r3 : Int) (r4 : List Int) (r5 : Int) (w : World) (hr0_3 : Kd.C (Kd.int .i64) w A0_3 l0_3.length l0_3) (hc0_3 : l0_3.length ≤ c0_3) (hr0_4 : Kd.C (Kd.int .i64) w A0_4 l0_4.length l0_4) (hc0_4 : l0_4.length ≤ c0_4) (h : interlocutorlaw4_Raw_Make.f k a0_0 a0_1 a0_2 l0_3 l0_4 a1 = some (r1, r2, r3, r4, r5)) :
    Calls Try.prog 15 #[.agg #[.int .i64 a0_0, .int .i64 a0_1, .int .i64 a0_2, .slice A0_3 l0_3.length c0_3, .slice A0_4 l0_4.length c0_4], .int .i64 a1] w fun e w' => ∃ v1_ v3_ : Value, e = .returned (.agg #[.int .i64 r1, v1_, .int .i64 r3, v3_, .int .i64 r5]) ∧ Kd.R (Kd.int .i64) 3 w' w.heap.size (fun k_ => some k_ ≠ (v3_ : Value).ownBlock) v1_ r2 ∧ Kd.R (Kd.int .i64) 3 w' w.heap.size (fun k_ => some k_ ≠ (v1_ : Value).ownBlock) v3_ r4 ∧ Below w.heap.size w w' := by
  have hu31 := Try.underlying31
  have hu26 := Try.underlying26
  have HR0_3 := Aside0.mk hr0_3
  have HC0_3 := Aside0.mk hc0_3
  clear hr0_3 hc0_3
  have HR0_4 := Aside0.mk hr0_4
  have HC0_4 := Aside0.mk hc0_4
  clear hr0_4 hc0_4
  have HB := Aside0.mk (Below.refl w.heap.size w)
  have H : ((interlocutorlaw4_within.f a0_0 a1).bind fun t105 => ((interlocutorlaw4_within.f a0_2 101).bind fun t106 => ((interlocutorlaw4_within.f a0_1 16).bind fun t108 => ((some (([1, 3, 2, 2, 2, 2, 3, 1, 1, 2, 1, 1, 2, 2, 2, 2] : List Int) : List Int)).bind fun y109 => (if 0 ≤ t108 then (if t108 < (y109.length : Int) then (interlocutorlaw4_Raw_Make.l0 k a1 (rd y109 t108) 0 a0_0 a0_1 a0_2 l0_3 l0_4 t105 ([] : List Int) t108 t106) else (none)) else (none)))))) = some (r1, r2, r3, r4, r5) := h
  clear h
  replace H := Option.bind_eq_some_iff.mp H
  obtain ⟨t105, A30, H⟩ := H
  replace H : ((interlocutorlaw4_within.f a0_2 101).bind fun t106 => ((interlocutorlaw4_within.f a0_1 16).bind fun t108 => ((some (([1, 3, 2, 2, 2, 2, 3, 1, 1, 2, 1, 1, 2, 2, 2, 2] : List Int) : List Int)).bind fun y109 => (if 0 ≤ t108 then (if t108 < (y109.length : Int) then (interlocutorlaw4_Raw_Make.l0 k a1 (rd y109 t108) 0 a0_0 a0_1 a0_2 l0_3 l0_4 t105 ([] : List Int) t108 t106) else (none)) else (none))))) = some (r1, r2, r3, r4, r5) := H
  have A3 := Aside0.mk A30
  clear A30
  replace H := Option.bind_eq_some_iff.mp H
  obtain ⟨t106, A40, H⟩ := H
  replace H : ((interlocutorlaw4_within.f a0_1 16).bind fun t108 => ((some (([1, 3, 2, 2, 2, 2, 3, 1, 1, 2, 1, 1, 2, 2, 2, 2] : List Int) : List Int)).bind fun y109 => (if 0 ≤ t108 then (if t108 < (y109.length : Int) then (interlocutorlaw4_Raw_Make.l0 k a1 (rd y109 t108) 0 a0_0 a0_1 a0_2 l0_3 l0_4 t105 ([] : List Int) t108 t106) else (none)) else (none)))) = some (r1, r2, r3, r4, r5) := H
  have A4 := Aside0.mk A40
  clear A40
  replace H := Option.bind_eq_some_iff.mp H
  obtain ⟨t108, A50, H⟩ := H
  replace H : ((some (([1, 3, 2, 2, 2, 2, 3, 1, 1, 2, 1, 1, 2, 2, 2, 2] : List Int) : List Int)).bind fun y109 => (if 0 ≤ t108 then (if t108 < (y109.length : Int) then (interlocutorlaw4_Raw_Make.l0 k a1 (rd y109 t108) 0 a0_0 a0_1 a0_2 l0_3 l0_4 t105 ([] : List Int) t108 t106) else (none)) else (none))) = some (r1, r2, r3, r4, r5) := H
  have A5 := Aside0.mk A50
  clear A50
  obtain ⟨y109, hy109⟩ : ∃ y_ : List Int, y_ = (([1, 3, 2, 2, 2, 2, 3, 1, 1, 2, 1, 1, 2, 2, 2, 2] : List Int)) := ⟨_, rfl⟩
  replace H : (if 0 ≤ t108 then (if t108 < (y109.length : Int) then (interlocutorlaw4_Raw_Make.l0 k a1 (rd y109 t108) 0 a0_0 a0_1 a0_2 l0_3 l0_4 t105 ([] : List Int) t108 t106) else (none)) else (none)) = some (r1, r2, r3, r4, r5) := by first | (rw [hy109]; with_reducible exact H) | (have H2_ := (Option.bind_some _ _).symm.trans H; rw [hy109]; with_reducible exact H2_) | (have H2_ := (Option.bind_some _ _).symm.trans H; with_reducible exact H2_) | with_reducible exact H | (rw [hy109]; exact H) | exact H
  have Ny109 := Aside0.mk hy109
  clear hy109
  by_cases c6 : 0 ≤ t108
  · rw [if_pos c6] at H
    have c6b0 : decide (0 ≤ t108) = true := decide_eq_true c6
    clear c6
    by_cases c7 : t108 < (y109.length : Int)
    · rw [if_pos c7] at H
      have c7b0 : decide (t108 < (y109.length : Int)) = true := decide_eq_true c7
      clear c7
      have H' := Aside0.mk H
      clear H
      go_enter Try.func15, Try.ntmps15
      try go_wp2_with (first | ((with_reducible refine gate_dst (N := 2) rfl ?_); refine box_event ?hg (N := 2) ?hd (cs := #[.int .i64 a0_0, .int .i64 a0_1, .int .i64 a0_2, .slice A0_3 l0_3.length c0_3, .slice A0_4 l0_4.length c0_4]) (t := 31) ?hr ?_; (case hd => rfl); (case hg => rfl); (case hr => first | (go_simp; done) | (go_simp; rfl)); intro gb103 hg w8 hbox hb; have n0_ := Aside0.mk (below_step (by repeat (first | (with_reducible first | exact HB.out | apply below_alloc | apply pw_below_drewN | apply below_drew1) | exact HB.out)) hb); have n1_ := Aside0.mk (hbox); have n2_ := Aside0.mk ((by rw [hg]; exact (below_size (by repeat (first | (with_reducible first | exact HB.out | apply below_alloc | apply pw_below_drewN | apply below_drew1) | exact HB.out))) : w.heap.size ≤ gb103)); have n3_ := Aside0.mk ((by rw [hg]; exact (below_size (by repeat (first | (with_reducible first | exact HB.out | apply below_alloc | apply pw_below_drewN | apply below_drew1) | exact HB.out))) : w.heap.size ≤ gb103)); clear HB; have HB := n0_; have BK103 := n1_; have GW103 := n2_; have GE103 := n3_; clear n0_ n1_ n2_ n3_; clear hb hbox hg) | ((with_reducible refine gate_dst (N := 4) rfl ?_); refine box_event ?hg (N := 4) ?hd (cs := #[.int .i64 0, .slice none 0 0, .int .i64 0, .slice none 0 0, .int .i64 0]) (t := 26) ?hr ?_; (case hd => rfl); (case hg => rfl); (case hr => first | (go_simp; done) | (go_simp; rfl)); intro gb104 hg w9 hbox hb; have n0_ := Aside0.mk (blk_below (g := gb103) (o := .cells #[.int .i64 a0_0, .int .i64 a0_1, .int .i64 a0_2, .slice A0_3 l0_3.length c0_3, .slice A0_4 l0_4.length c0_4] 31 (0, 0)) (by (with_reducible repeat (first | refine blk_drewN ?_ _ | refine blk_drew ?_ | refine blk_alloc ?_ _)); exact BK103.out) hb); have n1_ := Aside0.mk (below_step (by repeat (first | (with_reducible first | exact HB.out | apply below_alloc | apply pw_below_drewN | apply below_drew1 | refine below_set ?_ GE103.out) | exact HB.out)) hb); have n2_ := Aside0.mk (hbox); have n3_ := Aside0.mk ((by rw [hg]; exact (below_size (by repeat (first | (with_reducible first | exact HB.out | apply below_alloc | apply pw_below_drewN | apply below_drew1 | refine below_set ?_ GE103.out) | exact HB.out))) : w.heap.size ≤ gb104)); have n4_ := Aside0.mk ((by rw [hg]; exact (below_size (by repeat (first | (with_reducible first | exact HB.out | apply below_alloc | apply pw_below_drewN | apply below_drew1 | refine below_set ?_ GE103.out) | exact HB.out))) : w.heap.size ≤ gb104)); have n5_ := Aside0.mk ((by rw [hg]; exact Nat.ne_of_lt (blk_lt (g := gb103) (o := .cells #[.int .i64 a0_0, .int .i64 a0_1, .int .i64 a0_2, .slice A0_3 l0_3.length c0_3, .slice A0_4 l0_4.length c0_4] 31 (0, 0)) (by (with_reducible repeat (first | refine blk_drewN ?_ _ | refine blk_drew ?_ | refine blk_alloc ?_ _)); exact BK103.out)) : gb103 ≠ gb104)); have n6_ := Aside0.mk ((by rw [hg]; exact Nat.ne_of_gt (blk_lt (g := gb103) (o := .cells #[.int .i64 a0_0, .int .i64 a0_1, .int .i64 a0_2, .slice A0_3 l0_3.length c0_3, .slice A0_4 l0_4.length c0_4] 31 (0, 0)) (by (with_reducible repeat (first | refine blk_drewN ?_ _ | refine blk_drew ?_ | refine blk_alloc ?_ _)); exact BK103.out)) : gb104 ≠ gb103)); clear BK103; clear HB; have BK103 := n0_; have HB := n1_; have BK104 := n2_; have GW104 := n3_; have GE104 := n4_; have NB103_104 := n5_; have NB104_103 := n6_; clear n0_ n1_ n2_ n3_ n4_ n5_ n6_; clear hb hbox hg))
      have n0_ := Aside0.mk (blk_drew BK103.out)
      have n1_ := Aside0.mk (blk_drew BK104.out)
      have n2_ := Aside0.mk (below_drew1 HB.out)
      clear BK103
      clear BK104
      clear HB
      have BK103 := n0_
      have BK104 := n1_
      have HB := n2_
      clear n0_ n1_ n2_
      refine start_ (n := 10) (S := fun w' => w'.cell? ⟨gb103, 0, none⟩ = some (.int .i64 a0_0) ∧ w'.cell? ⟨gb103, 1, none⟩ = some (.int .i64 a0_1) ∧ w'.cell? ⟨gb103, 2, none⟩ = some (.int .i64 a0_2) ∧ w'.cell? ⟨gb103, 3, none⟩ = some (.slice A0_3 l0_3.length c0_3) ∧ w'.cell? ⟨gb103, 4, none⟩ = some (.slice A0_4 l0_4.length c0_4)) (ds := []) #[false, false, false, false, false, false, false, false, false, false] (by kernel_rfl) rfl rfl ⟨(blk_cell BK103.out 0).trans rfl, (blk_cell BK103.out 1).trans rfl, (blk_cell BK103.out 2).trans rfl, (blk_cell BK103.out 3).trans rfl, (blk_cell BK103.out 4).trans rfl⟩ (fun hHeld => ?_); refine with_tabW interlocutorlaw4_Raw_Make.tab1 interlocutorlaw4_Raw_Make.bits1 (fun HT_ HW_ => ?_)
      generalize w9.drew = w10 at BK103 BK104 HB hHeld ⊢
      refine pure_ (i := 0) (N := some 12) (v := ?_) (a' := ?_) #[true, false, false, false, false, false, false, false, false, false] rfl rfl (any_of HT_.out (by kernel_rfl)) (fun _ _ _ h => h) (Or.inl ⟨by rfl, ?_⟩) ?_ ?_
      rotate_left
      · intro w'
        go_simp
        with_reducible rfl
      rotate_left
      · simp only [Act.put, List.setIfInBounds_toArray, List.set_cons_zero, List.set_cons_succ, i64_w, i32_w]
        rfl
      refine pure_ (i := 2) (N := some 14) (v := ?_) (a' := ?_) #[true, false, true, false, false, false, false, false, false, false] rfl rfl (any_of HT_.out (by kernel_rfl)) (fun _ _ _ h => h) (Or.inl ⟨by rfl, ?_⟩) ?_ ?_
      rotate_left
      · intro w'
        go_simp
        with_reducible rfl
      rotate_left
      · simp only [Act.put, List.setIfInBounds_toArray, List.set_cons_zero, List.set_cons_succ, i64_w, i32_w]
        rfl
      refine pure_ (i := 4) (N := some 16) (v := ?_) (a' := ?_) #[true, false, true, false, true, false, false, false, false, false] rfl rfl (any_of HT_.out (by kernel_rfl)) (fun _ _ _ h => h) (Or.inl ⟨by rfl, ?_⟩) ?_ ?_
      rotate_left
      · intro w'
        go_simp
        with_reducible rfl
      rotate_left
      · simp only [Act.put, List.setIfInBounds_toArray, List.set_cons_zero, List.set_cons_succ, i64_w, i32_w]
        rfl
      refine take_ (i := 1) (N := some 13) (v := ?_) (a' := ?_) #[true, true, true, false, true, false, false, false, false, false] rfl rfl (take_ofW HT_.out HW_.out (by kernel_rfl)) (fun _ _ _ h => h) (Or.inl ⟨by rfl, ?_⟩) hHeld ?_ ?_
      rotate_left
      · rintro w' ⟨s0, s1, s2, s3, s4⟩
        go_simp
        with_reducible rfl
      rotate_left
      · simp only [Act.put, List.setIfInBounds_toArray, List.set_cons_zero, List.set_cons_succ, i64_w, i32_w]
        rfl
      refine take_ (i := 5) (N := some 17) (v := ?_) (a' := ?_) #[true, true, true, false, true, true, false, false, false, false] rfl rfl (take_ofW HT_.out HW_.out (by kernel_rfl)) (fun _ _ _ h => h) (Or.inl ⟨by rfl, ?_⟩) hHeld ?_ ?_
      rotate_left
      · rintro w' ⟨s0, s1, s2, s3, s4⟩
        go_simp
        with_reducible rfl
      rotate_left
      · simp only [Act.put, List.setIfInBounds_toArray, List.set_cons_zero, List.set_cons_succ, i64_w, i32_w]
        rfl
      refine join_ (σ := Nat) 1 #[true, true, true, true, true, true, true, true, true, false] (fun s_ => [(15, .int .i64 t105), (18, .int .i64 t106), (5, .pointer (some ⟨s_, 0, none⟩)), (19, .agg #[.int .i64 t105, .slice none 0 0, .int .i64 0, .slice none 0 0, .int .i64 t106])]) (fun s_ w' => (w'.cell? ⟨gb103, 0, none⟩ = some (.int .i64 a0_0) ∧ w'.cell? ⟨gb103, 1, none⟩ = some (.int .i64 a0_1) ∧ w'.cell? ⟨gb103, 2, none⟩ = some (.int .i64 a0_2) ∧ w'.cell? ⟨gb103, 3, none⟩ = some (.slice A0_3 l0_3.length c0_3) ∧ w'.cell? ⟨gb103, 4, none⟩ = some (.slice A0_4 l0_4.length c0_4)) ∧ (w'.heap[gb103]? = some (.cells #[.int .i64 a0_0, .int .i64 a0_1, .int .i64 a0_2, .slice A0_3 l0_3.length c0_3, .slice A0_4 l0_4.length c0_4] 31 (0, 0))) ∧ (w'.heap[gb104]? = some (.cells #[.int .i64 0, .slice none 0 0, .int .i64 0, .slice none 0 0, .int .i64 0] 26 (0, 0))) ∧ (w'.heap[s_]? = some (.cells #[.int .i64 0, .slice none 0 0, .int .i64 0, .slice none 0 0, .int .i64 0] 26 (0, 0))) ∧ (w.heap.size ≤ s_) ∧ (w.heap.size ≤ s_) ∧ (gb103 ≠ s_) ∧ (s_ ≠ gb103) ∧ (gb104 ≠ s_) ∧ (s_ ≠ gb104) ∧ (Below w.heap.size w w')) ?_ ?_
      rotate_left
      · intro hCont
        refine two_ (i := 3) (j := 8) (Ni := some 15) (Nj := some 5) #[true, true, true, true, true, true, false, false, false, false] #[true, true, true, false, true, true, false, false, true, false] rfl rfl rfl rfl (two_of HT_.out (by kernel_rfl)) (by decide) (by decide) (fun K hK => ?_) (fun K hK => ?_)
        · skip
          refine goes_ Try.func17 (by kernel_rfl) rfl #[.int .i64 a0_0, .int .i64 a1] (by rfl) rfl rfl (by (try simp only [List.map_toArray, List.map_cons, List.map_nil]); first | done | rfl | (simp only [List.length_drop, List.length_take]; rfl)) ?_
          with_reducible refine (interlocutorlaw4_within.calls a0_0 a1 t105 _ A3.out).mono ?_
          rintro e w' ⟨rfl, ⟨nd, rfl⟩⟩
          refine ⟨_, rfl, ?_⟩
          refine hK.out _ _ ⟨(blk_cell BK103.out 0).trans rfl, (blk_cell BK103.out 1).trans rfl, (blk_cell BK103.out 2).trans rfl, (blk_cell BK103.out 3).trans rfl, (blk_cell BK103.out 4).trans rfl⟩ (fun hHeld => ?_)
          clear hK K
          refine norm_ (a' := ?_) ?_ ?_
          rotate_left
          · show Act.put _ (some 15) _ = _
            simp only [Act.put, List.setIfInBounds_toArray, List.set_cons_zero, List.set_cons_succ, i64_w, i32_w]
            rfl
          refine two_ (i := 6) (j := 8) (Ni := some 18) (Nj := some 5) #[true, true, true, true, true, true, true, false, false, false] #[true, true, true, true, true, true, false, false, true, false] rfl rfl rfl rfl (two_of HT_.out (by kernel_rfl)) (by decide) (by decide) (fun K hK => ?_) (fun K hK => ?_)
          · skip
            refine goes_ Try.func17 (by kernel_rfl) rfl #[.int .i64 a0_2, .int .i64 101] (by rfl) rfl rfl (by (try simp only [List.map_toArray, List.map_cons, List.map_nil]); first | done | rfl | (simp only [List.length_drop, List.length_take]; rfl)) ?_
            with_reducible refine (interlocutorlaw4_within.calls a0_2 101 t106 _ A4.out).mono ?_
            rintro e w' ⟨rfl, ⟨nd, rfl⟩⟩
            refine ⟨_, rfl, ?_⟩
            refine hK.out _ _ ⟨(blk_cell BK103.out 0).trans rfl, (blk_cell BK103.out 1).trans rfl, (blk_cell BK103.out 2).trans rfl, (blk_cell BK103.out 3).trans rfl, (blk_cell BK103.out 4).trans rfl⟩ (fun hHeld => ?_)
            clear hK K
            refine norm_ (a' := ?_) ?_ ?_
            rotate_left
            · show Act.put _ (some 18) _ = _
              simp only [Act.put, List.setIfInBounds_toArray, List.set_cons_zero, List.set_cons_succ, i64_w, i32_w]
              rfl
            refine pure_ (i := 7) (N := some 19) (v := ?_) (a' := ?_) #[true, true, true, true, true, true, true, true, false, false] rfl rfl (any_of HT_.out (by kernel_rfl)) (fun _ _ _ h => h) (Or.inl ⟨by rfl, ?_⟩) ?_ ?_
            rotate_left
            · intro w'
              go_simp
              with_reducible rfl
            rotate_left
            · simp only [Act.put, List.setIfInBounds_toArray, List.set_cons_zero, List.set_cons_succ, i64_w, i32_w]
              rfl
            refine one_ (i := 8) (N := some 5) #[true, true, true, true, true, true, true, true, true, false] rfl rfl (one_of HT_.out (by kernel_rfl)) (by decide) (fun K hK => ?_)
            refine box_step ?hg (N := 5) ?hd (cs := #[.int .i64 0, .slice none 0 0, .int .i64 0, .slice none 0 0, .int .i64 0]) (t := 26) ?hr ?_; (case hd => rfl); (case hg => rfl); (case hr => first | (go_simp; done) | (go_simp; rfl))
            intro gb107 hg w11 hbox hb
            have n0_ := Aside0.mk (blk_below (g := gb103) (o := .cells #[.int .i64 a0_0, .int .i64 a0_1, .int .i64 a0_2, .slice A0_3 l0_3.length c0_3, .slice A0_4 l0_4.length c0_4] 31 (0, 0)) (by (with_reducible repeat (first | refine blk_drewN ?_ _ | refine blk_drew ?_ | refine blk_alloc ?_ _)); exact BK103.out) hb)
            have n1_ := Aside0.mk (blk_below (g := gb104) (o := .cells #[.int .i64 0, .slice none 0 0, .int .i64 0, .slice none 0 0, .int .i64 0] 26 (0, 0)) (by (with_reducible repeat (first | refine blk_drewN ?_ _ | refine blk_drew ?_ | refine blk_alloc ?_ _)); exact BK104.out) hb)
            have n2_ := Aside0.mk (below_step (by repeat (first | (with_reducible first | exact HB.out | apply below_alloc | apply pw_below_drewN | apply below_drew1 | refine below_set ?_ GE103.out | refine below_set ?_ GE104.out) | exact HB.out)) hb)
            have n3_ := Aside0.mk (hbox)
            have n4_ := Aside0.mk ((by rw [hg]; exact (below_size (by repeat (first | (with_reducible first | exact HB.out | apply below_alloc | apply pw_below_drewN | apply below_drew1 | refine below_set ?_ GE103.out | refine below_set ?_ GE104.out) | exact HB.out))) : w.heap.size ≤ gb107))
            have n5_ := Aside0.mk ((by rw [hg]; exact (below_size (by repeat (first | (with_reducible first | exact HB.out | apply below_alloc | apply pw_below_drewN | apply below_drew1 | refine below_set ?_ GE103.out | refine below_set ?_ GE104.out) | exact HB.out))) : w.heap.size ≤ gb107))
            have n6_ := Aside0.mk ((by rw [hg]; exact Nat.ne_of_lt (blk_lt (g := gb103) (o := .cells #[.int .i64 a0_0, .int .i64 a0_1, .int .i64 a0_2, .slice A0_3 l0_3.length c0_3, .slice A0_4 l0_4.length c0_4] 31 (0, 0)) (by (with_reducible repeat (first | refine blk_drewN ?_ _ | refine blk_drew ?_ | refine blk_alloc ?_ _)); exact BK103.out)) : gb103 ≠ gb107))
            have n7_ := Aside0.mk ((by rw [hg]; exact Nat.ne_of_gt (blk_lt (g := gb103) (o := .cells #[.int .i64 a0_0, .int .i64 a0_1, .int .i64 a0_2, .slice A0_3 l0_3.length c0_3, .slice A0_4 l0_4.length c0_4] 31 (0, 0)) (by (with_reducible repeat (first | refine blk_drewN ?_ _ | refine blk_drew ?_ | refine blk_alloc ?_ _)); exact BK103.out)) : gb107 ≠ gb103))
            have n8_ := Aside0.mk ((by rw [hg]; exact Nat.ne_of_lt (blk_lt (g := gb104) (o := .cells #[.int .i64 0, .slice none 0 0, .int .i64 0, .slice none 0 0, .int .i64 0] 26 (0, 0)) (by (with_reducible repeat (first | refine blk_drewN ?_ _ | refine blk_drew ?_ | refine blk_alloc ?_ _)); exact BK104.out)) : gb104 ≠ gb107))
            have n9_ := Aside0.mk ((by rw [hg]; exact Nat.ne_of_gt (blk_lt (g := gb104) (o := .cells #[.int .i64 0, .slice none 0 0, .int .i64 0, .slice none 0 0, .int .i64 0] 26 (0, 0)) (by (with_reducible repeat (first | refine blk_drewN ?_ _ | refine blk_drew ?_ | refine blk_alloc ?_ _)); exact BK104.out)) : gb107 ≠ gb104))
            clear BK103
            clear BK104
            clear HB
            have BK103 := n0_
            have BK104 := n1_
            have HB := n2_
            have BK107 := n3_
            have GW107 := n4_
            have GE107 := n5_
            have NB103_107 := n6_
            have NB107_103 := n7_
            have NB104_107 := n8_
            have NB107_104 := n9_
            clear n0_ n1_ n2_ n3_ n4_ n5_ n6_ n7_ n8_ n9_
            clear hb hbox hg
            refine hK.out _ _ ⟨(blk_cell BK103.out 0).trans rfl, (blk_cell BK103.out 1).trans rfl, (blk_cell BK103.out 2).trans rfl, (blk_cell BK103.out 3).trans rfl, (blk_cell BK103.out 4).trans rfl⟩ (fun hHeld => ?_)
            clear hK K
            refine norm_ (a' := ?_) ?_ ?_
            rotate_left
            · show Act.put _ (some 5) _ = _
              simp only [Act.put, List.setIfInBounds_toArray, List.set_cons_zero, List.set_cons_succ, i64_w, i32_w]
              rfl
            exact norm_ (by simp only [putAll, Act.put, List.setIfInBounds_toArray, List.set_cons_zero, List.set_cons_succ]) (hCont (gb107) _ ⟨hHeld, (by (with_reducible repeat (first | refine blk_drewN ?_ _ | refine blk_drew ?_ | refine blk_alloc ?_ _)); exact BK103.out), (by (with_reducible repeat (first | refine blk_drewN ?_ _ | refine blk_drew ?_ | refine blk_alloc ?_ _)); exact BK104.out), (by (with_reducible repeat (first | refine blk_drewN ?_ _ | refine blk_drew ?_ | refine blk_alloc ?_ _)); exact BK107.out), GW107.out, GE107.out, NB103_107.out, NB107_103.out, NB104_107.out, NB107_104.out, (by repeat (first | (with_reducible first | exact HB.out | apply below_alloc | apply pw_below_drewN | apply below_drew1 | refine below_set ?_ GE103.out | refine below_set ?_ GE104.out | refine below_set ?_ GE107.out) | exact HB.out))⟩)
          · skip
            refine box_step ?hg (N := 5) ?hd (cs := #[.int .i64 0, .slice none 0 0, .int .i64 0, .slice none 0 0, .int .i64 0]) (t := 26) ?hr ?_; (case hd => rfl); (case hg => rfl); (case hr => first | (go_simp; done) | (go_simp; rfl))
            intro gb107 hg w11 hbox hb
            have n0_ := Aside0.mk (blk_below (g := gb103) (o := .cells #[.int .i64 a0_0, .int .i64 a0_1, .int .i64 a0_2, .slice A0_3 l0_3.length c0_3, .slice A0_4 l0_4.length c0_4] 31 (0, 0)) (by (with_reducible repeat (first | refine blk_drewN ?_ _ | refine blk_drew ?_ | refine blk_alloc ?_ _)); exact BK103.out) hb)
            have n1_ := Aside0.mk (blk_below (g := gb104) (o := .cells #[.int .i64 0, .slice none 0 0, .int .i64 0, .slice none 0 0, .int .i64 0] 26 (0, 0)) (by (with_reducible repeat (first | refine blk_drewN ?_ _ | refine blk_drew ?_ | refine blk_alloc ?_ _)); exact BK104.out) hb)
            have n2_ := Aside0.mk (below_step (by repeat (first | (with_reducible first | exact HB.out | apply below_alloc | apply pw_below_drewN | apply below_drew1 | refine below_set ?_ GE103.out | refine below_set ?_ GE104.out) | exact HB.out)) hb)
            have n3_ := Aside0.mk (hbox)
            have n4_ := Aside0.mk ((by rw [hg]; exact (below_size (by repeat (first | (with_reducible first | exact HB.out | apply below_alloc | apply pw_below_drewN | apply below_drew1 | refine below_set ?_ GE103.out | refine below_set ?_ GE104.out) | exact HB.out))) : w.heap.size ≤ gb107))
            have n5_ := Aside0.mk ((by rw [hg]; exact (below_size (by repeat (first | (with_reducible first | exact HB.out | apply below_alloc | apply pw_below_drewN | apply below_drew1 | refine below_set ?_ GE103.out | refine below_set ?_ GE104.out) | exact HB.out))) : w.heap.size ≤ gb107))
            have n6_ := Aside0.mk ((by rw [hg]; exact Nat.ne_of_lt (blk_lt (g := gb103) (o := .cells #[.int .i64 a0_0, .int .i64 a0_1, .int .i64 a0_2, .slice A0_3 l0_3.length c0_3, .slice A0_4 l0_4.length c0_4] 31 (0, 0)) (by (with_reducible repeat (first | refine blk_drewN ?_ _ | refine blk_drew ?_ | refine blk_alloc ?_ _)); exact BK103.out)) : gb103 ≠ gb107))
            have n7_ := Aside0.mk ((by rw [hg]; exact Nat.ne_of_gt (blk_lt (g := gb103) (o := .cells #[.int .i64 a0_0, .int .i64 a0_1, .int .i64 a0_2, .slice A0_3 l0_3.length c0_3, .slice A0_4 l0_4.length c0_4] 31 (0, 0)) (by (with_reducible repeat (first | refine blk_drewN ?_ _ | refine blk_drew ?_ | refine blk_alloc ?_ _)); exact BK103.out)) : gb107 ≠ gb103))
            have n8_ := Aside0.mk ((by rw [hg]; exact Nat.ne_of_lt (blk_lt (g := gb104) (o := .cells #[.int .i64 0, .slice none 0 0, .int .i64 0, .slice none 0 0, .int .i64 0] 26 (0, 0)) (by (with_reducible repeat (first | refine blk_drewN ?_ _ | refine blk_drew ?_ | refine blk_alloc ?_ _)); exact BK104.out)) : gb104 ≠ gb107))
            have n9_ := Aside0.mk ((by rw [hg]; exact Nat.ne_of_gt (blk_lt (g := gb104) (o := .cells #[.int .i64 0, .slice none 0 0, .int .i64 0, .slice none 0 0, .int .i64 0] 26 (0, 0)) (by (with_reducible repeat (first | refine blk_drewN ?_ _ | refine blk_drew ?_ | refine blk_alloc ?_ _)); exact BK104.out)) : gb107 ≠ gb104))
            clear BK103
            clear BK104
            clear HB
            have BK103 := n0_
            have BK104 := n1_
            have HB := n2_
            have BK107 := n3_
            have GW107 := n4_
            have GE107 := n5_
            have NB103_107 := n6_
            have NB107_103 := n7_
            have NB104_107 := n8_
            have NB107_104 := n9_
            clear n0_ n1_ n2_ n3_ n4_ n5_ n6_ n7_ n8_ n9_
            clear hb hbox hg
            refine hK.out _ _ ⟨(blk_cell BK103.out 0).trans rfl, (blk_cell BK103.out 1).trans rfl, (blk_cell BK103.out 2).trans rfl, (blk_cell BK103.out 3).trans rfl, (blk_cell BK103.out 4).trans rfl⟩ (fun hHeld => ?_)
            clear hK K
            refine norm_ (a' := ?_) ?_ ?_
            rotate_left
            · show Act.put _ (some 5) _ = _
              simp only [Act.put, List.setIfInBounds_toArray, List.set_cons_zero, List.set_cons_succ, i64_w, i32_w]
              rfl
            refine one_ (i := 6) (N := some 18) #[true, true, true, true, true, true, true, false, true, false] rfl rfl (one_of HT_.out (by kernel_rfl)) (by decide) (fun K hK => ?_)
            refine goes_ Try.func17 (by kernel_rfl) rfl #[.int .i64 a0_2, .int .i64 101] (by rfl) rfl rfl (by (try simp only [List.map_toArray, List.map_cons, List.map_nil]); first | done | rfl | (simp only [List.length_drop, List.length_take]; rfl)) ?_
            with_reducible refine (interlocutorlaw4_within.calls a0_2 101 t106 _ A4.out).mono ?_
            rintro e w' ⟨rfl, ⟨nd, rfl⟩⟩
            refine ⟨_, rfl, ?_⟩
            refine hK.out _ _ ⟨(blk_cell BK103.out 0).trans rfl, (blk_cell BK103.out 1).trans rfl, (blk_cell BK103.out 2).trans rfl, (blk_cell BK103.out 3).trans rfl, (blk_cell BK103.out 4).trans rfl⟩ (fun hHeld => ?_)
            clear hK K
            refine norm_ (a' := ?_) ?_ ?_
            rotate_left
            · show Act.put _ (some 18) _ = _
              simp only [Act.put, List.setIfInBounds_toArray, List.set_cons_zero, List.set_cons_succ, i64_w, i32_w]
              rfl
            refine pure_ (i := 7) (N := some 19) (v := ?_) (a' := ?_) #[true, true, true, true, true, true, true, true, true, false] rfl rfl (any_of HT_.out (by kernel_rfl)) (fun _ _ _ h => h) (Or.inl ⟨by rfl, ?_⟩) ?_ ?_
            rotate_left
            · intro w'
              go_simp
              with_reducible rfl
            rotate_left
            · simp only [Act.put, List.setIfInBounds_toArray, List.set_cons_zero, List.set_cons_succ, i64_w, i32_w]
              rfl
            exact norm_ (by simp only [putAll, Act.put, List.setIfInBounds_toArray, List.set_cons_zero, List.set_cons_succ]) (hCont (gb107) _ ⟨hHeld, (by (with_reducible repeat (first | refine blk_drewN ?_ _ | refine blk_drew ?_ | refine blk_alloc ?_ _)); exact BK103.out), (by (with_reducible repeat (first | refine blk_drewN ?_ _ | refine blk_drew ?_ | refine blk_alloc ?_ _)); exact BK104.out), (by (with_reducible repeat (first | refine blk_drewN ?_ _ | refine blk_drew ?_ | refine blk_alloc ?_ _)); exact BK107.out), GW107.out, GE107.out, NB103_107.out, NB107_103.out, NB104_107.out, NB107_104.out, (by repeat (first | (with_reducible first | exact HB.out | apply below_alloc | apply pw_below_drewN | apply below_drew1 | refine below_set ?_ GE103.out | refine below_set ?_ GE104.out | refine below_set ?_ GE107.out) | exact HB.out))⟩)
        · skip
          refine box_step ?hg (N := 5) ?hd (cs := #[.int .i64 0, .slice none 0 0, .int .i64 0, .slice none 0 0, .int .i64 0]) (t := 26) ?hr ?_; (case hd => rfl); (case hg => rfl); (case hr => first | (go_simp; done) | (go_simp; rfl))
          intro gb107 hg w11 hbox hb
          have n0_ := Aside0.mk (blk_below (g := gb103) (o := .cells #[.int .i64 a0_0, .int .i64 a0_1, .int .i64 a0_2, .slice A0_3 l0_3.length c0_3, .slice A0_4 l0_4.length c0_4] 31 (0, 0)) (by (with_reducible repeat (first | refine blk_drewN ?_ _ | refine blk_drew ?_ | refine blk_alloc ?_ _)); exact BK103.out) hb)
          have n1_ := Aside0.mk (blk_below (g := gb104) (o := .cells #[.int .i64 0, .slice none 0 0, .int .i64 0, .slice none 0 0, .int .i64 0] 26 (0, 0)) (by (with_reducible repeat (first | refine blk_drewN ?_ _ | refine blk_drew ?_ | refine blk_alloc ?_ _)); exact BK104.out) hb)
          have n2_ := Aside0.mk (below_step (by repeat (first | (with_reducible first | exact HB.out | apply below_alloc | apply pw_below_drewN | apply below_drew1 | refine below_set ?_ GE103.out | refine below_set ?_ GE104.out) | exact HB.out)) hb)
          have n3_ := Aside0.mk (hbox)
          have n4_ := Aside0.mk ((by rw [hg]; exact (below_size (by repeat (first | (with_reducible first | exact HB.out | apply below_alloc | apply pw_below_drewN | apply below_drew1 | refine below_set ?_ GE103.out | refine below_set ?_ GE104.out) | exact HB.out))) : w.heap.size ≤ gb107))
          have n5_ := Aside0.mk ((by rw [hg]; exact (below_size (by repeat (first | (with_reducible first | exact HB.out | apply below_alloc | apply pw_below_drewN | apply below_drew1 | refine below_set ?_ GE103.out | refine below_set ?_ GE104.out) | exact HB.out))) : w.heap.size ≤ gb107))
          have n6_ := Aside0.mk ((by rw [hg]; exact Nat.ne_of_lt (blk_lt (g := gb103) (o := .cells #[.int .i64 a0_0, .int .i64 a0_1, .int .i64 a0_2, .slice A0_3 l0_3.length c0_3, .slice A0_4 l0_4.length c0_4] 31 (0, 0)) (by (with_reducible repeat (first | refine blk_drewN ?_ _ | refine blk_drew ?_ | refine blk_alloc ?_ _)); exact BK103.out)) : gb103 ≠ gb107))
          have n7_ := Aside0.mk ((by rw [hg]; exact Nat.ne_of_gt (blk_lt (g := gb103) (o := .cells #[.int .i64 a0_0, .int .i64 a0_1, .int .i64 a0_2, .slice A0_3 l0_3.length c0_3, .slice A0_4 l0_4.length c0_4] 31 (0, 0)) (by (with_reducible repeat (first | refine blk_drewN ?_ _ | refine blk_drew ?_ | refine blk_alloc ?_ _)); exact BK103.out)) : gb107 ≠ gb103))
          have n8_ := Aside0.mk ((by rw [hg]; exact Nat.ne_of_lt (blk_lt (g := gb104) (o := .cells #[.int .i64 0, .slice none 0 0, .int .i64 0, .slice none 0 0, .int .i64 0] 26 (0, 0)) (by (with_reducible repeat (first | refine blk_drewN ?_ _ | refine blk_drew ?_ | refine blk_alloc ?_ _)); exact BK104.out)) : gb104 ≠ gb107))
          have n9_ := Aside0.mk ((by rw [hg]; exact Nat.ne_of_gt (blk_lt (g := gb104) (o := .cells #[.int .i64 0, .slice none 0 0, .int .i64 0, .slice none 0 0, .int .i64 0] 26 (0, 0)) (by (with_reducible repeat (first | refine blk_drewN ?_ _ | refine blk_drew ?_ | refine blk_alloc ?_ _)); exact BK104.out)) : gb107 ≠ gb104))
          clear BK103
          clear BK104
          clear HB
          have BK103 := n0_
          have BK104 := n1_
          have HB := n2_
          have BK107 := n3_
          have GW107 := n4_
          have GE107 := n5_
          have NB103_107 := n6_
          have NB107_103 := n7_
          have NB104_107 := n8_
          have NB107_104 := n9_
          clear n0_ n1_ n2_ n3_ n4_ n5_ n6_ n7_ n8_ n9_
          clear hb hbox hg
          refine hK.out _ _ ⟨(blk_cell BK103.out 0).trans rfl, (blk_cell BK103.out 1).trans rfl, (blk_cell BK103.out 2).trans rfl, (blk_cell BK103.out 3).trans rfl, (blk_cell BK103.out 4).trans rfl⟩ (fun hHeld => ?_)
          clear hK K
          refine norm_ (a' := ?_) ?_ ?_
          rotate_left
          · show Act.put _ (some 5) _ = _
            simp only [Act.put, List.setIfInBounds_toArray, List.set_cons_zero, List.set_cons_succ, i64_w, i32_w]
            rfl
          refine one_ (i := 3) (N := some 15) #[true, true, true, true, true, true, false, false, true, false] rfl rfl (one_of HT_.out (by kernel_rfl)) (by decide) (fun K hK => ?_)
          refine goes_ Try.func17 (by kernel_rfl) rfl #[.int .i64 a0_0, .int .i64 a1] (by rfl) rfl rfl (by (try simp only [List.map_toArray, List.map_cons, List.map_nil]); first | done | rfl | (simp only [List.length_drop, List.length_take]; rfl)) ?_
          with_reducible refine (interlocutorlaw4_within.calls a0_0 a1 t105 _ A3.out).mono ?_
          rintro e w' ⟨rfl, ⟨nd, rfl⟩⟩
          refine ⟨_, rfl, ?_⟩
          refine hK.out _ _ ⟨(blk_cell BK103.out 0).trans rfl, (blk_cell BK103.out 1).trans rfl, (blk_cell BK103.out 2).trans rfl, (blk_cell BK103.out 3).trans rfl, (blk_cell BK103.out 4).trans rfl⟩ (fun hHeld => ?_)
          clear hK K
          refine norm_ (a' := ?_) ?_ ?_
          rotate_left
          · show Act.put _ (some 15) _ = _
            simp only [Act.put, List.setIfInBounds_toArray, List.set_cons_zero, List.set_cons_succ, i64_w, i32_w]
            rfl
          refine one_ (i := 6) (N := some 18) #[true, true, true, true, true, true, true, false, true, false] rfl rfl (one_of HT_.out (by kernel_rfl)) (by decide) (fun K hK => ?_)
          refine goes_ Try.func17 (by kernel_rfl) rfl #[.int .i64 a0_2, .int .i64 101] (by rfl) rfl rfl (by (try simp only [List.map_toArray, List.map_cons, List.map_nil]); first | done | rfl | (simp only [List.length_drop, List.length_take]; rfl)) ?_
          with_reducible refine (interlocutorlaw4_within.calls a0_2 101 t106 _ A4.out).mono ?_
          rintro e w' ⟨rfl, ⟨nd, rfl⟩⟩
          refine ⟨_, rfl, ?_⟩
          refine hK.out _ _ ⟨(blk_cell BK103.out 0).trans rfl, (blk_cell BK103.out 1).trans rfl, (blk_cell BK103.out 2).trans rfl, (blk_cell BK103.out 3).trans rfl, (blk_cell BK103.out 4).trans rfl⟩ (fun hHeld => ?_)
          clear hK K
          refine norm_ (a' := ?_) ?_ ?_
          rotate_left
          · show Act.put _ (some 18) _ = _
            simp only [Act.put, List.setIfInBounds_toArray, List.set_cons_zero, List.set_cons_succ, i64_w, i32_w]
            rfl
          refine pure_ (i := 7) (N := some 19) (v := ?_) (a' := ?_) #[true, true, true, true, true, true, true, true, true, false] rfl rfl (any_of HT_.out (by kernel_rfl)) (fun _ _ _ h => h) (Or.inl ⟨by rfl, ?_⟩) ?_ ?_
          rotate_left
          · intro w'
            go_simp
            with_reducible rfl
          rotate_left
          · simp only [Act.put, List.setIfInBounds_toArray, List.set_cons_zero, List.set_cons_succ, i64_w, i32_w]
            rfl
          exact norm_ (by simp only [putAll, Act.put, List.setIfInBounds_toArray, List.set_cons_zero, List.set_cons_succ]) (hCont (gb107) _ ⟨hHeld, (by (with_reducible repeat (first | refine blk_drewN ?_ _ | refine blk_drew ?_ | refine blk_alloc ?_ _)); exact BK103.out), (by (with_reducible repeat (first | refine blk_drewN ?_ _ | refine blk_drew ?_ | refine blk_alloc ?_ _)); exact BK104.out), (by (with_reducible repeat (first | refine blk_drewN ?_ _ | refine blk_drew ?_ | refine blk_alloc ?_ _)); exact BK107.out), GW107.out, GE107.out, NB103_107.out, NB107_103.out, NB104_107.out, NB107_104.out, (by repeat (first | (with_reducible first | exact HB.out | apply below_alloc | apply pw_below_drewN | apply below_drew1 | refine below_set ?_ GE103.out | refine below_set ?_ GE104.out | refine below_set ?_ GE107.out) | exact HB.out))⟩)
      rintro gb107 w12 ⟨hS_, h0_, h1_, h2_, h3_, h4_, h5_, h6_, h7_, h8_, h9_⟩
      have n0_ : Aside0 (w12.heap[gb103]? = some (.cells #[.int .i64 a0_0, .int .i64 a0_1, .int .i64 a0_2, .slice A0_3 l0_3.length c0_3, .slice A0_4 l0_4.length c0_4] 31 (0, 0))) := ⟨h0_⟩
      have n1_ : Aside0 (w12.heap[gb104]? = some (.cells #[.int .i64 0, .slice none 0 0, .int .i64 0, .slice none 0 0, .int .i64 0] 26 (0, 0))) := ⟨h1_⟩
      have n2_ : Aside0 (w12.heap[gb107]? = some (.cells #[.int .i64 0, .slice none 0 0, .int .i64 0, .slice none 0 0, .int .i64 0] 26 (0, 0))) := ⟨h2_⟩
      have n3_ : Aside0 (w.heap.size ≤ gb107) := ⟨h3_⟩
      have n4_ : Aside0 (w.heap.size ≤ gb107) := ⟨h4_⟩
      have n5_ : Aside0 (gb103 ≠ gb107) := ⟨h5_⟩
      have n6_ : Aside0 (gb107 ≠ gb103) := ⟨h6_⟩
      have n7_ : Aside0 (gb104 ≠ gb107) := ⟨h7_⟩
      have n8_ : Aside0 (gb107 ≠ gb104) := ⟨h8_⟩
      have n9_ : Aside0 (Below w.heap.size w w12) := ⟨h9_⟩
      clear BK103
      clear BK104
      clear HB
      clear h0_ h1_ h2_ h3_ h4_ h5_ h6_ h7_ h8_ h9_
      have BK103 := n0_
      have BK104 := n1_
      have BK107 := n2_
      have GW107 := n3_
      have GE107 := n4_
      have NB103_107 := n5_
      have NB107_103 := n6_
      have NB104_107 := n7_
      have NB107_104 := n8_
      have HB := n9_
      clear n0_ n1_ n2_ n3_ n4_ n5_ n6_ n7_ n8_ n9_
      have hHeld : w12.cell? ⟨gb103, 0, none⟩ = some (.int .i64 a0_0) ∧ w12.cell? ⟨gb103, 1, none⟩ = some (.int .i64 a0_1) ∧ w12.cell? ⟨gb103, 2, none⟩ = some (.int .i64 a0_2) ∧ w12.cell? ⟨gb103, 3, none⟩ = some (.slice A0_3 l0_3.length c0_3) ∧ w12.cell? ⟨gb103, 4, none⟩ = some (.slice A0_4 l0_4.length c0_4) := hS_
      refine norm_ (a' := ?_) ?_ ?_
      rotate_left
      · simp only [putAll, Act.put, List.setIfInBounds_toArray, List.set_cons_zero, List.set_cons_succ]
        rfl
      refine one_ (i := 9) (N := none) #[true, true, true, true, true, true, true, true, true, true] rfl rfl (one_of HT_.out (by kernel_rfl)) (by decide) (fun K hK => ?_)
      have hs13 : w12.cell? ⟨gb107, 0, none⟩ = some (.int .i64 0) := (blk_cell BK107.out 0).trans rfl
      have hfs13 := blk_frozen BK107.out 0
      have hns13_0 := NB103_107.out
      have hns13_1 := NB104_107.out
      have hms13_0 := NB107_103.out
      have hms13_1 := NB107_104.out
      have hs14 : w12.cell? ⟨gb107, 1, none⟩ = some (.slice none 0 0) := (blk_cell BK107.out 1).trans rfl
      have hfs14 := blk_frozen BK107.out 1
      have hns14_0 := NB103_107.out
      have hns14_1 := NB104_107.out
      have hms14_0 := NB107_103.out
      have hms14_1 := NB107_104.out
      have hs15 : w12.cell? ⟨gb107, 2, none⟩ = some (.int .i64 0) := (blk_cell BK107.out 2).trans rfl
      have hfs15 := blk_frozen BK107.out 2
      have hns15_0 := NB103_107.out
      have hns15_1 := NB104_107.out
      have hms15_0 := NB107_103.out
      have hms15_1 := NB107_104.out
      have hs16 : w12.cell? ⟨gb107, 3, none⟩ = some (.slice none 0 0) := (blk_cell BK107.out 3).trans rfl
      have hfs16 := blk_frozen BK107.out 3
      have hns16_0 := NB103_107.out
      have hns16_1 := NB104_107.out
      have hms16_0 := NB107_103.out
      have hms16_1 := NB107_104.out
      have hs17 : w12.cell? ⟨gb107, 4, none⟩ = some (.int .i64 0) := (blk_cell BK107.out 4).trans rfl
      have hfs17 := blk_frozen BK107.out 4
      have hns17_0 := NB103_107.out
      have hns17_1 := NB104_107.out
      have hms17_0 := NB107_103.out
      have hms17_1 := NB107_104.out
      refine skip_ (w1 := ?_) (by rfl) rfl ?_ ?_
      rotate_left
      · go_simp
        rfl
      refine hK.out _ _ ⟨((cell_far (p := ⟨gb107, _, none⟩) NB103_107.out _).trans (((cell_far (p := ⟨gb107, _, none⟩) NB103_107.out _).trans (((cell_far (p := ⟨gb107, _, none⟩) NB103_107.out _).trans (((cell_far (p := ⟨gb107, _, none⟩) NB103_107.out _).trans (((cell_far (p := ⟨gb107, _, none⟩) NB103_107.out _).trans (hHeld.1)))))))))), ((cell_far (p := ⟨gb107, _, none⟩) NB103_107.out _).trans (((cell_far (p := ⟨gb107, _, none⟩) NB103_107.out _).trans (((cell_far (p := ⟨gb107, _, none⟩) NB103_107.out _).trans (((cell_far (p := ⟨gb107, _, none⟩) NB103_107.out _).trans (((cell_far (p := ⟨gb107, _, none⟩) NB103_107.out _).trans (hHeld.2.1)))))))))), ((cell_far (p := ⟨gb107, _, none⟩) NB103_107.out _).trans (((cell_far (p := ⟨gb107, _, none⟩) NB103_107.out _).trans (((cell_far (p := ⟨gb107, _, none⟩) NB103_107.out _).trans (((cell_far (p := ⟨gb107, _, none⟩) NB103_107.out _).trans (((cell_far (p := ⟨gb107, _, none⟩) NB103_107.out _).trans (hHeld.2.2.1)))))))))), ((cell_far (p := ⟨gb107, _, none⟩) NB103_107.out _).trans (((cell_far (p := ⟨gb107, _, none⟩) NB103_107.out _).trans (((cell_far (p := ⟨gb107, _, none⟩) NB103_107.out _).trans (((cell_far (p := ⟨gb107, _, none⟩) NB103_107.out _).trans (((cell_far (p := ⟨gb107, _, none⟩) NB103_107.out _).trans (hHeld.2.2.2.1)))))))))), ((cell_far (p := ⟨gb107, _, none⟩) NB103_107.out _).trans (((cell_far (p := ⟨gb107, _, none⟩) NB103_107.out _).trans (((cell_far (p := ⟨gb107, _, none⟩) NB103_107.out _).trans (((cell_far (p := ⟨gb107, _, none⟩) NB103_107.out _).trans (((cell_far (p := ⟨gb107, _, none⟩) NB103_107.out _).trans (hHeld.2.2.2.2))))))))))⟩ (fun hHeld => ?_)
      clear hK K
      refine done_ (done_of HT_.out (by kernel_rfl)) ?_
      have hnb18 := NB103_104.out
      have hnc18 := NB104_103.out
      have hnb19 := NB103_107.out
      have hnc19 := NB107_103.out
      have hcz20_0 : w12.cell? ⟨gb103, 0, none⟩ = some (.int .i64 a0_0) := (blk_cell BK103.out 0).trans rfl
      have hcz20_1 : w12.cell? ⟨gb103, 1, none⟩ = some (.int .i64 a0_1) := (blk_cell BK103.out 1).trans rfl
      have hcz20_2 : w12.cell? ⟨gb103, 2, none⟩ = some (.int .i64 a0_2) := (blk_cell BK103.out 2).trans rfl
      have hcz20_3 : w12.cell? ⟨gb103, 3, none⟩ = some (.slice A0_3 l0_3.length c0_3) := (blk_cell BK103.out 3).trans rfl
      have hcz20_4 : w12.cell? ⟨gb103, 4, none⟩ = some (.slice A0_4 l0_4.length c0_4) := (blk_cell BK103.out 4).trans rfl
      have hfz20_0 := blk_frozen BK103.out 0
      have hfz20_1 := blk_frozen BK103.out 1
      have hfz20_2 := blk_frozen BK103.out 2
      have hfz20_3 := blk_frozen BK103.out 3
      have hfz20_4 := blk_frozen BK103.out 4
      try go_wp2_with (first | ((with_reducible refine gate_callee (f := 17) rfl ?_); refine goesL_ (some 22) rfl rfl Try.func17 (by kernel_rfl) rfl #[.int .i64 a0_1, .int .i64 16] rfl (by (try simp only [List.map_toArray, List.map_cons, List.map_nil]); first | done | rfl | (simp only [List.length_drop, List.length_take]; rfl)) ?_; (with_reducible refine (interlocutorlaw4_within.calls a0_1 16 t108 _ A5.out).mono ?_); rintro e w' ⟨rfl, ⟨nd, rfl⟩⟩; refine ⟨_, rfl, ?_⟩; have hnb21 := NB107_104.out; have hnc21 := NB104_107.out; have hcz22_0 : w12.cell? ⟨gb107, 0, none⟩ = some (.int .i64 0) := (blk_cell BK107.out 0).trans rfl; have hcz22_1 : w12.cell? ⟨gb107, 1, none⟩ = some (.slice none 0 0) := (blk_cell BK107.out 1).trans rfl; have hcz22_2 : w12.cell? ⟨gb107, 2, none⟩ = some (.int .i64 0) := (blk_cell BK107.out 2).trans rfl; have hcz22_3 : w12.cell? ⟨gb107, 3, none⟩ = some (.slice none 0 0) := (blk_cell BK107.out 3).trans rfl; have hcz22_4 : w12.cell? ⟨gb107, 4, none⟩ = some (.int .i64 0) := (blk_cell BK107.out 4).trans rfl; have hfz22_0 := blk_frozen BK107.out 0; have hfz22_1 := blk_frozen BK107.out 1; have hfz22_2 := blk_frozen BK107.out 2; have hfz22_3 := blk_frozen BK107.out 3; have hfz22_4 := blk_frozen BK107.out 4) | ((with_reducible refine gate_dst (N := 25) rfl ?_); refine Kd.R_lit (Kd.int .i64) _ 3 ?hg (N := 25) ?hd (xs := ([1, 3, 2, 2, 2, 2, 3, 1, 1, 2, 1, 1, 2, 2, 2, 2] : List Int)) (inner := [.int .i64 1, .int .i64 3, .int .i64 2, .int .i64 2, .int .i64 2, .int .i64 2, .int .i64 3, .int .i64 1, .int .i64 1, .int .i64 2, .int .i64 1, .int .i64 1, .int .i64 2, .int .i64 2, .int .i64 2, .int .i64 2]) (ok := fun _ => True) (okp := fun _ => True) ?hr ?hp (fun _ hk => hk) trivial (Below.refl _ _) (Nat.le_refl _) (by simp) ?_; (case hd => rfl); (case hg => rfl); (case hr => first | (go_simp; done) | (go_simp; rfl)); (case hp => exact (Reps.one (show Kd.M (Kd.int .i64) _ _ _ 1 [.int .i64 1] from rfl) (Reps.one (show Kd.M (Kd.int .i64) _ _ _ 3 [.int .i64 3] from rfl) (Reps.one (show Kd.M (Kd.int .i64) _ _ _ 2 [.int .i64 2] from rfl) (Reps.one (show Kd.M (Kd.int .i64) _ _ _ 2 [.int .i64 2] from rfl) (Reps.one (show Kd.M (Kd.int .i64) _ _ _ 2 [.int .i64 2] from rfl) (Reps.one (show Kd.M (Kd.int .i64) _ _ _ 2 [.int .i64 2] from rfl) (Reps.one (show Kd.M (Kd.int .i64) _ _ _ 3 [.int .i64 3] from rfl) (Reps.one (show Kd.M (Kd.int .i64) _ _ _ 1 [.int .i64 1] from rfl) (Reps.one (show Kd.M (Kd.int .i64) _ _ _ 1 [.int .i64 1] from rfl) (Reps.one (show Kd.M (Kd.int .i64) _ _ _ 2 [.int .i64 2] from rfl) (Reps.one (show Kd.M (Kd.int .i64) _ _ _ 1 [.int .i64 1] from rfl) (Reps.one (show Kd.M (Kd.int .i64) _ _ _ 1 [.int .i64 1] from rfl) (Reps.one (show Kd.M (Kd.int .i64) _ _ _ 2 [.int .i64 2] from rfl) (Reps.one (show Kd.M (Kd.int .i64) _ _ _ 2 [.int .i64 2] from rfl) (Reps.one (show Kd.M (Kd.int .i64) _ _ _ 2 [.int .i64 2] from rfl) (Reps.one (show Kd.M (Kd.int .i64) _ _ _ 2 [.int .i64 2] from rfl) (Reps.none _ _)))))))))))))))))); intro v110 w23 ho24 hb hg_ hnew_; clear hg_ hnew_; (first | rw [← Ny109.out] at ho24 | (simp only [Int.reduceToNat] at ho24; rw [← Ny109.out] at ho24)); have n0_ := Aside0.mk (Kd.R_lower ho24 (below_size (by repeat (first | (with_reducible first | exact HB.out | apply below_alloc | apply pw_below_drewN | apply below_drew1 | refine below_set ?_ GE103.out | refine below_set ?_ GE104.out | refine below_set ?_ GE107.out) | exact HB.out)))); have n1_ := Aside0.mk (blk_below (g := gb103) (o := .cells #[.int .i64 a0_0, .int .i64 a0_1, .int .i64 a0_2, .slice A0_3 l0_3.length c0_3, .slice A0_4 l0_4.length c0_4] 31 (0, 0)) (by (with_reducible repeat (first | refine blk_drewN ?_ _ | refine blk_drew ?_ | refine blk_alloc ?_ _)); refine blk_far ?_ NB103_107.out _; (with_reducible repeat (first | refine blk_drewN ?_ _ | refine blk_drew ?_ | refine blk_alloc ?_ _)); refine blk_far ?_ NB103_107.out _; (with_reducible repeat (first | refine blk_drewN ?_ _ | refine blk_drew ?_ | refine blk_alloc ?_ _)); refine blk_far ?_ NB103_107.out _; (with_reducible repeat (first | refine blk_drewN ?_ _ | refine blk_drew ?_ | refine blk_alloc ?_ _)); refine blk_far ?_ NB103_107.out _; (with_reducible repeat (first | refine blk_drewN ?_ _ | refine blk_drew ?_ | refine blk_alloc ?_ _)); refine blk_far ?_ NB103_107.out _; (with_reducible repeat (first | refine blk_drewN ?_ _ | refine blk_drew ?_ | refine blk_alloc ?_ _)); refine blk_far ?_ NB103_107.out _; (with_reducible repeat (first | refine blk_drewN ?_ _ | refine blk_drew ?_ | refine blk_alloc ?_ _)); exact BK103.out) hb); have n2_ := Aside0.mk (blk_below (g := gb104) (o := .cells #[.int .i64 0, .slice none 0 0, .int .i64 0, .slice none 0 0, .int .i64 0] 26 (0, 0)) (by (with_reducible repeat (first | refine blk_drewN ?_ _ | refine blk_drew ?_ | refine blk_alloc ?_ _)); refine blk_far ?_ NB104_107.out _; (with_reducible repeat (first | refine blk_drewN ?_ _ | refine blk_drew ?_ | refine blk_alloc ?_ _)); refine blk_far ?_ NB104_107.out _; (with_reducible repeat (first | refine blk_drewN ?_ _ | refine blk_drew ?_ | refine blk_alloc ?_ _)); refine blk_far ?_ NB104_107.out _; (with_reducible repeat (first | refine blk_drewN ?_ _ | refine blk_drew ?_ | refine blk_alloc ?_ _)); refine blk_far ?_ NB104_107.out _; (with_reducible repeat (first | refine blk_drewN ?_ _ | refine blk_drew ?_ | refine blk_alloc ?_ _)); refine blk_far ?_ NB104_107.out _; (with_reducible repeat (first | refine blk_drewN ?_ _ | refine blk_drew ?_ | refine blk_alloc ?_ _)); refine blk_far ?_ NB104_107.out _; (with_reducible repeat (first | refine blk_drewN ?_ _ | refine blk_drew ?_ | refine blk_alloc ?_ _)); exact BK104.out) hb); have n3_ := Aside0.mk (blk_below (g := gb107) (o := .cells #[.int .i64 t105, .slice none 0 0, .int .i64 t108, .slice none 0 0, .int .i64 t106] 26 (0, 0)) (by (with_reducible repeat (first | refine blk_drewN ?_ _ | refine blk_drew ?_ | refine blk_alloc ?_ _)); refine blk_put (cs := #[.int .i64 t105, .slice none 0 0, .int .i64 0, .slice none 0 0, .int .i64 t106]) ?_ 2 _ rfl; (with_reducible repeat (first | refine blk_drewN ?_ _ | refine blk_drew ?_ | refine blk_alloc ?_ _)); refine blk_put (cs := #[.int .i64 t105, .slice none 0 0, .int .i64 0, .slice none 0 0, .int .i64 0]) ?_ 4 _ rfl; (with_reducible repeat (first | refine blk_drewN ?_ _ | refine blk_drew ?_ | refine blk_alloc ?_ _)); refine blk_put (cs := #[.int .i64 t105, .slice none 0 0, .int .i64 0, .slice none 0 0, .int .i64 0]) ?_ 3 _ rfl; (with_reducible repeat (first | refine blk_drewN ?_ _ | refine blk_drew ?_ | refine blk_alloc ?_ _)); refine blk_put (cs := #[.int .i64 t105, .slice none 0 0, .int .i64 0, .slice none 0 0, .int .i64 0]) ?_ 2 _ rfl; (with_reducible repeat (first | refine blk_drewN ?_ _ | refine blk_drew ?_ | refine blk_alloc ?_ _)); refine blk_put (cs := #[.int .i64 t105, .slice none 0 0, .int .i64 0, .slice none 0 0, .int .i64 0]) ?_ 1 _ rfl; (with_reducible repeat (first | refine blk_drewN ?_ _ | refine blk_drew ?_ | refine blk_alloc ?_ _)); refine blk_put (cs := #[.int .i64 0, .slice none 0 0, .int .i64 0, .slice none 0 0, .int .i64 0]) ?_ 0 _ rfl; (with_reducible repeat (first | refine blk_drewN ?_ _ | refine blk_drew ?_ | refine blk_alloc ?_ _)); exact BK107.out) hb); have n4_ := Aside0.mk (below_step (by repeat (first | (with_reducible first | exact HB.out | apply below_alloc | apply pw_below_drewN | apply below_drew1 | refine below_set ?_ GE103.out | refine below_set ?_ GE104.out | refine below_set ?_ GE107.out) | exact HB.out)) hb); clear BK103; clear BK104; clear BK107; clear HB; have HO111 := n0_; have BK103 := n1_; have BK104 := n2_; have BK107 := n3_; have HB := n4_; clear n0_ n1_ n2_ n3_ n4_; clear hb ho24; have hcz25_0 : w23.cell? ⟨gb107, 0, none⟩ = some (.int .i64 t105) := (blk_cell BK107.out 0).trans rfl; have hcz25_1 : w23.cell? ⟨gb107, 1, none⟩ = some (.slice none 0 0) := (blk_cell BK107.out 1).trans rfl; have hcz25_2 : w23.cell? ⟨gb107, 2, none⟩ = some (.int .i64 t108) := (blk_cell BK107.out 2).trans rfl; have hcz25_3 : w23.cell? ⟨gb107, 3, none⟩ = some (.slice none 0 0) := (blk_cell BK107.out 3).trans rfl; have hcz25_4 : w23.cell? ⟨gb107, 4, none⟩ = some (.int .i64 t106) := (blk_cell BK107.out 4).trans rfl; have hfz25_0 := blk_frozen BK107.out 0; have hfz25_1 := blk_frozen BK107.out 1; have hfz25_2 := blk_frozen BK107.out 2; have hfz25_3 := blk_frozen BK107.out 3; have hfz25_4 := blk_frozen BK107.out 4; obtain ⟨Ao26, co26, eo26⟩ := Kd.R_slice HO111.out; subst eo26; have p112 : 0 ≤ (t108 : Int) := of_decide_eq_true (by first | (with_reducible assumption) | assumption); have q112 : t108 < (y109.length : Int) := of_decide_eq_true (by first | (with_reducible assumption) | assumption); obtain ⟨ad112, e112, hx112_0⟩ := Kd.at_int (Kd.R_reads' HO111.out).2.2 t108 p112 q112; cases e112; replace p112 := eq_true p112; replace q112 := eq_true q112))
      go_loopg [7] k (fun kq v7 w' => ∃ (x7_1 : Int) (x108001_1 : List Int) (u108001 : Value), v7 = .int .i64 x7_1 ∧ Aside0 (interlocutorlaw4_Raw_Make.l0 kq a1 (rd y109 t108) x7_1 a0_0 a0_1 a0_2 l0_3 l0_4 t105 x108001_1 t108 t106 = some (r1, r2, r3, r4, r5)) ∧ Aside0 (kq ≤ k) ∧ Aside0 (Kd.R (Kd.int .i64) 3 w' w.heap.size (fun _ => True) u108001 x108001_1) ∧ Aside0 (w'.heap[gb103]? = some (.cells #[.int .i64 a0_0, .int .i64 a0_1, .int .i64 a0_2, (.slice A0_3 l0_3.length c0_3), (.slice A0_4 l0_4.length c0_4)] 31 (0, 0))) ∧ Aside0 (w'.heap[gb104]? = some (.cells #[.int .i64 0, (.slice none 0 0), .int .i64 0, (.slice none 0 0), .int .i64 0] 26 (0, 0))) ∧ Aside0 (w'.heap[gb107]? = some (.cells #[.int .i64 t105, u108001, .int .i64 t108, (.slice none 0 0), .int .i64 t106] 26 (0, 0))) ∧ Aside0 (Below w.heap.size w w'))
      case atStart => exact ⟨(0), (([] : List Int)), (.slice none 0 0), (by first | rfl | (simp; done) | (simp [*]; done)), H', ⟨Nat.le_refl _⟩, ⟨by first | exact Kd.R_nil _ _ _ _ _ | exact Kd.N_nil _ _ _ _ _ | exact Kd.V_nil _ _ _ _ _ | exact Kd.Q_nil _ _ _ _ _ | exact Kd.S_nil _ _ _ _ _⟩, ⟨by (with_reducible repeat (first | refine blk_drewN ?_ _ | refine blk_drew ?_ | refine blk_alloc ?_ _)); exact BK103.out⟩, ⟨by (with_reducible repeat (first | refine blk_drewN ?_ _ | refine blk_drew ?_ | refine blk_alloc ?_ _)); exact BK104.out⟩, ⟨by (with_reducible repeat (first | refine blk_drewN ?_ _ | refine blk_drew ?_ | refine blk_alloc ?_ _)); exact BK107.out⟩, ⟨by repeat (first | (with_reducible first | exact HB.out | apply below_alloc | apply pw_below_drewN | apply below_drew1 | refine below_set ?_ GE103.out | refine below_set ?_ GE104.out | refine below_set ?_ GE107.out) | exact HB.out)⟩⟩
      case round =>
        clear H'
        try clear c1
        try clear p1
        try clear q1
        try clear hx1
        try clear c2
        try clear p2
        try clear c6
        try clear c6b0
        try clear c7
        try clear c7b0
        try clear p11
        try clear q11
        try clear hx11
        try clear c15
        try clear c17
        try clear c18
        try clear c19
        try clear c21
        try clear hcz20_0
        try clear hcz20_1
        try clear hcz20_2
        try clear hcz20_3
        try clear hcz20_4
        try clear hcz22_0
        try clear hcz22_1
        try clear hcz22_2
        try clear hcz22_3
        try clear hcz22_4
        try clear hcz25_0
        try clear hcz25_1
        try clear hcz25_2
        try clear hcz25_3
        try clear hcz25_4
        try clear hfz20_0
        try clear hfz20_1
        try clear hfz20_2
        try clear hfz20_3
        try clear hfz20_4
        try clear hfz22_0
        try clear hfz22_1
        try clear hfz22_2
        try clear hfz22_3
        try clear hfz22_4
        try clear hfz25_0
        try clear hfz25_1
        try clear hfz25_2
        try clear hfz25_3
        try clear hfz25_4
        try clear hx112_0
        try clear p112
        try clear q112
        obtain ⟨x7_1, x108001_1, u108001, rfl, HA, HK1, HO_108001, BK103, BK104, BK107, HB⟩ := hrel
        cases gk with
        | zero => exact absurd HA.out (by simp [interlocutorlaw4_Raw_Make.l0])
        | succ k1 =>
          have H := HA.out
          clear HA
          simp only [interlocutorlaw4_Raw_Make.l0] at H
          have HC27 := Aside0.mk H
          clear H
          go_upto_region 5 with (fail)
          go_cut [49] (fun v49 wc => ∃ (kq : Nat) (x49_26 : Bool), v49 = .bool x49_26 ∧ Aside0 (interlocutorlaw4_Raw_Make.j1 kq a1 (rd y109 t108) x7_1 x49_26 a0_0 a0_1 a0_2 l0_3 l0_4 t105 x108001_1 t108 t106 = some (r1, r2, r3, r4, r5)) ∧ Aside0 (kq ≤ k1) ∧ Aside0 (Kd.R (Kd.int .i64) 3 wc w.heap.size (fun _ => True) u108001 x108001_1) ∧ Aside0 (wc.heap[gb103]? = some (.cells #[.int .i64 a0_0, .int .i64 a0_1, .int .i64 a0_2, (.slice A0_3 l0_3.length c0_3), (.slice A0_4 l0_4.length c0_4)] 31 (0, 0))) ∧ Aside0 (wc.heap[gb104]? = some (.cells #[.int .i64 0, (.slice none 0 0), .int .i64 0, (.slice none 0 0), .int .i64 0] 26 (0, 0))) ∧ Aside0 (wc.heap[gb107]? = some (.cells #[.int .i64 t105, u108001, .int .i64 t108, (.slice none 0 0), .int .i64 t106] 26 (0, 0))) ∧ Aside0 (Below w.heap.size w wc))
          case first =>
            have H := HC27.out
            clear HC27
            replace H := Option.bind_eq_some_iff.mp H
            obtain ⟨t113, A280, H⟩ := H
            replace H : (if x7_1 < (wrap64 (1 + t113)) then (interlocutorlaw4_Raw_Make.j1 k1 a1 (rd y109 t108) x7_1 true a0_0 a0_1 a0_2 l0_3 l0_4 t105 x108001_1 t108 t106) else (if x7_1 < (rd y109 t108) then ((interlocutorlaw4_within.f (wrap64 (Int.tdiv a0_1 16)) 2).bind fun t114 => (interlocutorlaw4_Raw_Make.j1 k1 a1 (rd y109 t108) x7_1 (t114 == 0) a0_0 a0_1 a0_2 l0_3 l0_4 t105 x108001_1 t108 t106)) else (interlocutorlaw4_Raw_Make.j1 k1 a1 (rd y109 t108) x7_1 false a0_0 a0_1 a0_2 l0_3 l0_4 t105 x108001_1 t108 t106))) = some (r1, r2, r3, r4, r5) := H
            have A28 := Aside0.mk A280
            clear A280
            by_cases c29 : x7_1 < (wrap64 (1 + t113))
            · rw [if_pos c29] at H
              have c29b0 : decide (x7_1 < (wrap64 (1 + t113))) = true := decide_eq_true c29
              clear c29
              (first | rw [c29b0] | (simp only [i64_w, i32_w]; rw [c29b0]) | skip)
              have H' := Aside0.mk H
              clear H
              have hnb30 := NB103_104.out
              have hnc30 := NB104_103.out
              have hnb31 := NB103_107.out
              have hnc31 := NB107_103.out
              have hcz32_0 : wr.cell? ⟨gb103, 0, none⟩ = some (.int .i64 a0_0) := (blk_cell BK103.out 0).trans rfl
              have hcz32_1 : wr.cell? ⟨gb103, 1, none⟩ = some (.int .i64 a0_1) := (blk_cell BK103.out 1).trans rfl
              have hcz32_2 : wr.cell? ⟨gb103, 2, none⟩ = some (.int .i64 a0_2) := (blk_cell BK103.out 2).trans rfl
              have hcz32_3 : wr.cell? ⟨gb103, 3, none⟩ = some (.slice A0_3 l0_3.length c0_3) := (blk_cell BK103.out 3).trans rfl
              have hcz32_4 : wr.cell? ⟨gb103, 4, none⟩ = some (.slice A0_4 l0_4.length c0_4) := (blk_cell BK103.out 4).trans rfl
              have hfz32_0 := blk_frozen BK103.out 0
              have hfz32_1 := blk_frozen BK103.out 1
              have hfz32_2 := blk_frozen BK103.out 2
              have hfz32_3 := blk_frozen BK103.out 3
              have hfz32_4 := blk_frozen BK103.out 4
              go_wp2_with (first | ((with_reducible refine gate_callee (f := 17) rfl ?_); refine goesL_ (some 35) rfl rfl Try.func17 (by kernel_rfl) rfl #[.int .i64 (l0_3.length : Int), .int .i64 3] rfl (by (try simp only [List.map_toArray, List.map_cons, List.map_nil]); first | done | rfl | (simp only [List.length_drop, List.length_take]; rfl)) ?_; (with_reducible refine (interlocutorlaw4_within.calls (l0_3.length : Int) 3 t113 _ A28.out).mono ?_); rintro e w' ⟨rfl, ⟨nd, rfl⟩⟩; refine ⟨_, rfl, ?_⟩))
              go_meet
              case rel => exact ⟨_, (true), (by first | rfl | (simp; done) | (simp [*]; done)), H', ⟨by have := HK1.out; first | omega | exact Nat.le_refl _⟩, ⟨by (with_reducible repeat (first | apply Kd.R_alloc | apply Kd.R_drewN | apply Kd.R_drew)); exact HO_108001.out⟩, ⟨by (with_reducible repeat (first | refine blk_drewN ?_ _ | refine blk_drew ?_ | refine blk_alloc ?_ _)); exact BK103.out⟩, ⟨by (with_reducible repeat (first | refine blk_drewN ?_ _ | refine blk_drew ?_ | refine blk_alloc ?_ _)); exact BK104.out⟩, ⟨by (with_reducible repeat (first | refine blk_drewN ?_ _ | refine blk_drew ?_ | refine blk_alloc ?_ _)); exact BK107.out⟩, ⟨by repeat (first | (with_reducible first | exact HB.out | apply below_alloc | apply pw_below_drewN | apply below_drew1 | refine below_set ?_ GE103.out | refine below_set ?_ GE104.out | refine below_set ?_ GE107.out) | exact HB.out)⟩⟩
            · rw [if_neg c29] at H
              have c29b0 : decide (x7_1 < (wrap64 (1 + t113))) = false := decide_eq_false c29
              clear c29
              (first | rw [c29b0] | (simp only [i64_w, i32_w]; rw [c29b0]) | skip)
              by_cases c33 : x7_1 < (rd y109 t108)
              · rw [if_pos c33] at H
                have c33b0 : decide (x7_1 < (rd y109 t108)) = true := decide_eq_true c33
                clear c33
                replace H := Option.bind_eq_some_iff.mp H
                obtain ⟨t114, A340, H⟩ := H
                replace H : (interlocutorlaw4_Raw_Make.j1 k1 a1 (rd y109 t108) x7_1 (t114 == 0) a0_0 a0_1 a0_2 l0_3 l0_4 t105 x108001_1 t108 t106) = some (r1, r2, r3, r4, r5) := H
                have A34 := Aside0.mk A340
                clear A340
                have H' := Aside0.mk H
                clear H
                have hnb35 := NB103_104.out
                have hnc35 := NB104_103.out
                have hnb36 := NB103_107.out
                have hnc36 := NB107_103.out
                have hcz37_0 : wr.cell? ⟨gb103, 0, none⟩ = some (.int .i64 a0_0) := (blk_cell BK103.out 0).trans rfl
                have hcz37_1 : wr.cell? ⟨gb103, 1, none⟩ = some (.int .i64 a0_1) := (blk_cell BK103.out 1).trans rfl
                have hcz37_2 : wr.cell? ⟨gb103, 2, none⟩ = some (.int .i64 a0_2) := (blk_cell BK103.out 2).trans rfl
                have hcz37_3 : wr.cell? ⟨gb103, 3, none⟩ = some (.slice A0_3 l0_3.length c0_3) := (blk_cell BK103.out 3).trans rfl
                have hcz37_4 : wr.cell? ⟨gb103, 4, none⟩ = some (.slice A0_4 l0_4.length c0_4) := (blk_cell BK103.out 4).trans rfl
                have hfz37_0 := blk_frozen BK103.out 0
                have hfz37_1 := blk_frozen BK103.out 1
                have hfz37_2 := blk_frozen BK103.out 2
                have hfz37_3 := blk_frozen BK103.out 3
                have hfz37_4 := blk_frozen BK103.out 4
                go_wp2_with (first | ((with_reducible refine gate_callee (f := 17) rfl ?_); refine goesL_ (some 35) rfl rfl Try.func17 (by kernel_rfl) rfl #[.int .i64 (l0_3.length : Int), .int .i64 3] rfl (by (try simp only [List.map_toArray, List.map_cons, List.map_nil]); first | done | rfl | (simp only [List.length_drop, List.length_take]; rfl)) ?_; (with_reducible refine (interlocutorlaw4_within.calls (l0_3.length : Int) 3 t113 _ A28.out).mono ?_); rintro e w' ⟨rfl, ⟨nd, rfl⟩⟩; refine ⟨_, rfl, ?_⟩) | (go_at_call 17; (with_reducible refine (interlocutorlaw4_within.calls (wrap64 (Int.tdiv a0_1 16)) 2 t114 _ A34.out).mono ?_); rintro e w' ⟨rfl, ⟨nd, rfl⟩⟩))
                go_meet
                case rel => exact ⟨_, ((t114 == 0)), (by first | rfl | (simp; done) | (simp [*]; done)), H', ⟨by have := HK1.out; first | omega | exact Nat.le_refl _⟩, ⟨by (with_reducible repeat (first | apply Kd.R_alloc | apply Kd.R_drewN | apply Kd.R_drew)); exact HO_108001.out⟩, ⟨by (with_reducible repeat (first | refine blk_drewN ?_ _ | refine blk_drew ?_ | refine blk_alloc ?_ _)); exact BK103.out⟩, ⟨by (with_reducible repeat (first | refine blk_drewN ?_ _ | refine blk_drew ?_ | refine blk_alloc ?_ _)); exact BK104.out⟩, ⟨by (with_reducible repeat (first | refine blk_drewN ?_ _ | refine blk_drew ?_ | refine blk_alloc ?_ _)); exact BK107.out⟩, ⟨by repeat (first | (with_reducible first | exact HB.out | apply below_alloc | apply pw_below_drewN | apply below_drew1 | refine below_set ?_ GE103.out | refine below_set ?_ GE104.out | refine below_set ?_ GE107.out) | exact HB.out)⟩⟩
              · rw [if_neg c33] at H
                have c33b0 : decide (x7_1 < (rd y109 t108)) = false := decide_eq_false c33
                clear c33
                have H' := Aside0.mk H
                clear H
                have hnb38 := NB103_104.out
                have hnc38 := NB104_103.out
                have hnb39 := NB103_107.out
                have hnc39 := NB107_103.out
                have hcz40_0 : wr.cell? ⟨gb103, 0, none⟩ = some (.int .i64 a0_0) := (blk_cell BK103.out 0).trans rfl
                have hcz40_1 : wr.cell? ⟨gb103, 1, none⟩ = some (.int .i64 a0_1) := (blk_cell BK103.out 1).trans rfl
                have hcz40_2 : wr.cell? ⟨gb103, 2, none⟩ = some (.int .i64 a0_2) := (blk_cell BK103.out 2).trans rfl
                have hcz40_3 : wr.cell? ⟨gb103, 3, none⟩ = some (.slice A0_3 l0_3.length c0_3) := (blk_cell BK103.out 3).trans rfl
                have hcz40_4 : wr.cell? ⟨gb103, 4, none⟩ = some (.slice A0_4 l0_4.length c0_4) := (blk_cell BK103.out 4).trans rfl
                have hfz40_0 := blk_frozen BK103.out 0
                have hfz40_1 := blk_frozen BK103.out 1
                have hfz40_2 := blk_frozen BK103.out 2
                have hfz40_3 := blk_frozen BK103.out 3
                have hfz40_4 := blk_frozen BK103.out 4
                go_wp2_with (first | ((with_reducible refine gate_callee (f := 17) rfl ?_); refine goesL_ (some 35) rfl rfl Try.func17 (by kernel_rfl) rfl #[.int .i64 (l0_3.length : Int), .int .i64 3] rfl (by (try simp only [List.map_toArray, List.map_cons, List.map_nil]); first | done | rfl | (simp only [List.length_drop, List.length_take]; rfl)) ?_; (with_reducible refine (interlocutorlaw4_within.calls (l0_3.length : Int) 3 t113 _ A28.out).mono ?_); rintro e w' ⟨rfl, ⟨nd, rfl⟩⟩; refine ⟨_, rfl, ?_⟩))
                go_meet
                case rel => exact ⟨_, (false), (by first | rfl | (simp; done) | (simp [*]; done)), H', ⟨by have := HK1.out; first | omega | exact Nat.le_refl _⟩, ⟨by (with_reducible repeat (first | apply Kd.R_alloc | apply Kd.R_drewN | apply Kd.R_drew)); exact HO_108001.out⟩, ⟨by (with_reducible repeat (first | refine blk_drewN ?_ _ | refine blk_drew ?_ | refine blk_alloc ?_ _)); exact BK103.out⟩, ⟨by (with_reducible repeat (first | refine blk_drewN ?_ _ | refine blk_drew ?_ | refine blk_alloc ?_ _)); exact BK104.out⟩, ⟨by (with_reducible repeat (first | refine blk_drewN ?_ _ | refine blk_drew ?_ | refine blk_alloc ?_ _)); exact BK107.out⟩, ⟨by repeat (first | (with_reducible first | exact HB.out | apply below_alloc | apply pw_below_drewN | apply below_drew1 | refine below_set ?_ GE103.out | refine below_set ?_ GE104.out | refine below_set ?_ GE107.out) | exact HB.out)⟩⟩
          case rest =>
            clear HC27
            try clear c1
            try clear p1
            try clear q1
            try clear hx1
            try clear c2
            try clear p2
            try clear c3
            try clear c6
            try clear c6b0
            try clear p6
            try clear c7
            try clear c7b0
            try clear p11
            try clear q11
            try clear hx11
            try clear c15
            try clear c17
            try clear c18
            try clear c19
            try clear c21
            try clear c29
            try clear c29b0
            try clear c30
            try clear c31
            try clear c33
            try clear c33b0
            try clear c35
            try clear c36
            try clear c38
            try clear c39
            try clear hcz20_0
            try clear hcz20_1
            try clear hcz20_2
            try clear hcz20_3
            try clear hcz20_4
            try clear hcz22_0
            try clear hcz22_1
            try clear hcz22_2
            try clear hcz22_3
            try clear hcz22_4
            try clear hcz25_0
            try clear hcz25_1
            try clear hcz25_2
            try clear hcz25_3
            try clear hcz25_4
            try clear hcz32_0
            try clear hcz32_1
            try clear hcz32_2
            try clear hcz32_3
            try clear hcz32_4
            try clear hcz37_0
            try clear hcz37_1
            try clear hcz37_2
            try clear hcz37_3
            try clear hcz37_4
            try clear hcz40_0
            try clear hcz40_1
            try clear hcz40_2
            try clear hcz40_3
            try clear hcz40_4
            try clear hfz20_0
            try clear hfz20_1
            try clear hfz20_2
            try clear hfz20_3
            try clear hfz20_4
            try clear hfz22_0
            try clear hfz22_1
            try clear hfz22_2
            try clear hfz22_3
            try clear hfz22_4
            try clear hfz25_0
            try clear hfz25_1
            try clear hfz25_2
            try clear hfz25_3
            try clear hfz25_4
            try clear hfz32_0
            try clear hfz32_1
            try clear hfz32_2
            try clear hfz32_3
            try clear hfz32_4
            try clear hfz37_0
            try clear hfz37_1
            try clear hfz37_2
            try clear hfz37_3
            try clear hfz37_4
            try clear hfz40_0
            try clear hfz40_1
            try clear hfz40_2
            try clear hfz40_3
            try clear hfz40_4
            try clear hx112_0
            try clear p1
            try clear p11
            try clear p112
            try clear p2
            try clear q1
            try clear q11
            try clear q112
            obtain ⟨kq, x49_26, rfl, HA, HJ26, HO_108001, BK103, BK104, BK107, HB⟩ := hcut
            cases kq with
            | zero => exact absurd HA.out (by simp [interlocutorlaw4_Raw_Make.j1])
            | succ kj26 =>
              have H := HA.out
              clear HA
              simp only [interlocutorlaw4_Raw_Make.j1] at H
              by_cases c41 : x49_26 = true
              · subst c41
                have H1 : (if x7_1 < (l0_3.length : Int) then (if 0 ≤ x7_1 then (interlocutorlaw4_Raw_Make.j2 kj26 a1 (rd y109 t108) x7_1 (rd l0_3 x7_1) a0_0 a0_1 a0_2 l0_3 l0_4 t105 x108001_1 t108 t106) else (none)) else (interlocutorlaw4_Raw_Make.j2 kj26 a1 (rd y109 t108) x7_1 x7_1 a0_0 a0_1 a0_2 l0_3 l0_4 t105 x108001_1 t108 t106)) = some (r1, r2, r3, r4, r5) := by rw [if_pos rfl] at H; exact H
                clear H
                have H := H1
                clear H1
                have HC42 := Aside0.mk H
                clear H
                have hnb43 := NB103_104.out
                have hnc43 := NB104_103.out
                have hnb44 := NB103_107.out
                have hnc44 := NB107_103.out
                have hcz45_0 : wc.cell? ⟨gb103, 0, none⟩ = some (.int .i64 a0_0) := (blk_cell BK103.out 0).trans rfl
                have hcz45_1 : wc.cell? ⟨gb103, 1, none⟩ = some (.int .i64 a0_1) := (blk_cell BK103.out 1).trans rfl
                have hcz45_2 : wc.cell? ⟨gb103, 2, none⟩ = some (.int .i64 a0_2) := (blk_cell BK103.out 2).trans rfl
                have hcz45_3 : wc.cell? ⟨gb103, 3, none⟩ = some (.slice A0_3 l0_3.length c0_3) := (blk_cell BK103.out 3).trans rfl
                have hcz45_4 : wc.cell? ⟨gb103, 4, none⟩ = some (.slice A0_4 l0_4.length c0_4) := (blk_cell BK103.out 4).trans rfl
                have hfz45_0 := blk_frozen BK103.out 0
                have hfz45_1 := blk_frozen BK103.out 1
                have hfz45_2 := blk_frozen BK103.out 2
                have hfz45_3 := blk_frozen BK103.out 3
                have hfz45_4 := blk_frozen BK103.out 4
                go_upto_if 57 with (fail)
                go_cut [8] (fun v8 wc => ∃ (kq : Nat) (x8_41 : Int), v8 = .int .i64 x8_41 ∧ Aside0 (interlocutorlaw4_Raw_Make.j2 kq a1 (rd y109 t108) x7_1 x8_41 a0_0 a0_1 a0_2 l0_3 l0_4 t105 x108001_1 t108 t106 = some (r1, r2, r3, r4, r5)) ∧ Aside0 (kq ≤ kj26) ∧ Aside0 (Kd.R (Kd.int .i64) 3 wc w.heap.size (fun _ => True) u108001 x108001_1) ∧ Aside0 (wc.heap[gb103]? = some (.cells #[.int .i64 a0_0, .int .i64 a0_1, .int .i64 a0_2, (.slice A0_3 l0_3.length c0_3), (.slice A0_4 l0_4.length c0_4)] 31 (0, 0))) ∧ Aside0 (wc.heap[gb104]? = some (.cells #[.int .i64 0, (.slice none 0 0), .int .i64 0, (.slice none 0 0), .int .i64 0] 26 (0, 0))) ∧ Aside0 (wc.heap[gb107]? = some (.cells #[.int .i64 t105, u108001, .int .i64 t108, (.slice none 0 0), .int .i64 t106] 26 (0, 0))) ∧ Aside0 (Below w.heap.size w wc))
                case first =>
                  have H := HC42.out
                  clear HC42
                  by_cases c46 : x7_1 < (l0_3.length : Int)
                  · rw [if_pos c46] at H
                    have c46b0 : decide (x7_1 < (l0_3.length : Int)) = true := decide_eq_true c46
                    clear c46
                    (first | rw [c46b0] | (simp only [i64_w, i32_w]; rw [c46b0]) | skip)
                    by_cases c47 : 0 ≤ x7_1
                    · rw [if_pos c47] at H
                      have c47b0 : decide (0 ≤ x7_1) = true := decide_eq_true c47
                      clear c47
                      have H' := Aside0.mk H
                      clear H
                      have hnb48 := NB103_104.out
                      have hnc48 := NB104_103.out
                      have hnb49 := NB103_107.out
                      have hnc49 := NB107_103.out
                      have hcz50_0 : wc.cell? ⟨gb103, 0, none⟩ = some (.int .i64 a0_0) := (blk_cell BK103.out 0).trans rfl
                      have hcz50_1 : wc.cell? ⟨gb103, 1, none⟩ = some (.int .i64 a0_1) := (blk_cell BK103.out 1).trans rfl
                      have hcz50_2 : wc.cell? ⟨gb103, 2, none⟩ = some (.int .i64 a0_2) := (blk_cell BK103.out 2).trans rfl
                      have hcz50_3 : wc.cell? ⟨gb103, 3, none⟩ = some (.slice A0_3 l0_3.length c0_3) := (blk_cell BK103.out 3).trans rfl
                      have hcz50_4 : wc.cell? ⟨gb103, 4, none⟩ = some (.slice A0_4 l0_4.length c0_4) := (blk_cell BK103.out 4).trans rfl
                      have hfz50_0 := blk_frozen BK103.out 0
                      have hfz50_1 := blk_frozen BK103.out 1
                      have hfz50_2 := blk_frozen BK103.out 2
                      have hfz50_3 := blk_frozen BK103.out 3
                      have hfz50_4 := blk_frozen BK103.out 4
                      have p115 : 0 ≤ (x7_1 : Int) := of_decide_eq_true (by first | (with_reducible assumption) | assumption)
                      have q115 : x7_1 < (l0_3.length : Int) := of_decide_eq_true (by first | (with_reducible assumption) | assumption)
                      obtain ⟨ad115, e115, hx115_0⟩ := Kd.at_int HR0_3.out x7_1 p115 q115
                      cases e115
                      replace hx115_0 := (HB.out.cell (World.block_lt_of_cell? w _ hx115_0)).trans hx115_0
                      replace p115 := eq_true p115
                      replace q115 := eq_true q115
                      go_wp2
                      go_meet
                      case rel => exact ⟨_, (rd l0_3 x7_1), (by first | rfl | (simp; done) | (simp [*]; done)), H', ⟨by have := HK1.out; have := HJ26.out; first | omega | exact Nat.le_refl _⟩, ⟨by (with_reducible repeat (first | apply Kd.R_alloc | apply Kd.R_drewN | apply Kd.R_drew)); exact HO_108001.out⟩, ⟨by (with_reducible repeat (first | refine blk_drewN ?_ _ | refine blk_drew ?_ | refine blk_alloc ?_ _)); exact BK103.out⟩, ⟨by (with_reducible repeat (first | refine blk_drewN ?_ _ | refine blk_drew ?_ | refine blk_alloc ?_ _)); exact BK104.out⟩, ⟨by (with_reducible repeat (first | refine blk_drewN ?_ _ | refine blk_drew ?_ | refine blk_alloc ?_ _)); exact BK107.out⟩, ⟨by repeat (first | (with_reducible first | exact HB.out | apply below_alloc | apply pw_below_drewN | apply below_drew1 | refine below_set ?_ GE103.out | refine below_set ?_ GE104.out | refine below_set ?_ GE107.out) | exact HB.out)⟩⟩
                    · rw [if_neg c47] at H
                      exact absurd H (by simp)
                  · rw [if_neg c46] at H
                    have c46b0 : decide (x7_1 < (l0_3.length : Int)) = false := decide_eq_false c46
                    clear c46
                    (first | rw [c46b0] | (simp only [i64_w, i32_w]; rw [c46b0]) | skip)
                    have H' := Aside0.mk H
                    clear H
                    go_wp2
                    go_meet
                    case rel => exact ⟨_, (x7_1), (by first | rfl | (simp; done) | (simp [*]; done)), H', ⟨by have := HK1.out; have := HJ26.out; first | omega | exact Nat.le_refl _⟩, ⟨by (with_reducible repeat (first | apply Kd.R_alloc | apply Kd.R_drewN | apply Kd.R_drew)); exact HO_108001.out⟩, ⟨by (with_reducible repeat (first | refine blk_drewN ?_ _ | refine blk_drew ?_ | refine blk_alloc ?_ _)); exact BK103.out⟩, ⟨by (with_reducible repeat (first | refine blk_drewN ?_ _ | refine blk_drew ?_ | refine blk_alloc ?_ _)); exact BK104.out⟩, ⟨by (with_reducible repeat (first | refine blk_drewN ?_ _ | refine blk_drew ?_ | refine blk_alloc ?_ _)); exact BK107.out⟩, ⟨by repeat (first | (with_reducible first | exact HB.out | apply below_alloc | apply pw_below_drewN | apply below_drew1 | refine below_set ?_ GE103.out | refine below_set ?_ GE104.out | refine below_set ?_ GE107.out) | exact HB.out)⟩⟩
                case rest =>
                  clear HC42
                  try clear c1
                  try clear p1
                  try clear q1
                  try clear hx1
                  try clear c2
                  try clear p2
                  try clear c3
                  try clear c4
                  try clear c6
                  try clear c6b0
                  try clear p6
                  try clear c7
                  try clear c7b0
                  try clear p11
                  try clear q11
                  try clear hx11
                  try clear c15
                  try clear c17
                  try clear c18
                  try clear c19
                  try clear c21
                  try clear c29
                  try clear c29b0
                  try clear c30
                  try clear c31
                  try clear c33
                  try clear c33b0
                  try clear c35
                  try clear c36
                  try clear c38
                  try clear c39
                  try clear c41
                  try clear c43
                  try clear c44
                  try clear c46
                  try clear c46b0
                  try clear c47
                  try clear c47b0
                  try clear c48
                  try clear c49
                  try clear hcz20_0
                  try clear hcz20_1
                  try clear hcz20_2
                  try clear hcz20_3
                  try clear hcz20_4
                  try clear hcz22_0
                  try clear hcz22_1
                  try clear hcz22_2
                  try clear hcz22_3
                  try clear hcz22_4
                  try clear hcz25_0
                  try clear hcz25_1
                  try clear hcz25_2
                  try clear hcz25_3
                  try clear hcz25_4
                  try clear hcz32_0
                  try clear hcz32_1
                  try clear hcz32_2
                  try clear hcz32_3
                  try clear hcz32_4
                  try clear hcz37_0
                  try clear hcz37_1
                  try clear hcz37_2
                  try clear hcz37_3
                  try clear hcz37_4
                  try clear hcz40_0
                  try clear hcz40_1
                  try clear hcz40_2
                  try clear hcz40_3
                  try clear hcz40_4
                  try clear hcz45_0
                  try clear hcz45_1
                  try clear hcz45_2
                  try clear hcz45_3
                  try clear hcz45_4
                  try clear hcz50_0
                  try clear hcz50_1
                  try clear hcz50_2
                  try clear hcz50_3
                  try clear hcz50_4
                  try clear hfz20_0
                  try clear hfz20_1
                  try clear hfz20_2
                  try clear hfz20_3
                  try clear hfz20_4
                  try clear hfz22_0
                  try clear hfz22_1
                  try clear hfz22_2
                  try clear hfz22_3
                  try clear hfz22_4
                  try clear hfz25_0
                  try clear hfz25_1
                  try clear hfz25_2
                  try clear hfz25_3
                  try clear hfz25_4
                  try clear hfz32_0
                  try clear hfz32_1
                  try clear hfz32_2
                  try clear hfz32_3
                  try clear hfz32_4
                  try clear hfz37_0
                  try clear hfz37_1
                  try clear hfz37_2
                  try clear hfz37_3
                  try clear hfz37_4
                  try clear hfz40_0
                  try clear hfz40_1
                  try clear hfz40_2
                  try clear hfz40_3
                  try clear hfz40_4
                  try clear hfz45_0
                  try clear hfz45_1
                  try clear hfz45_2
                  try clear hfz45_3
                  try clear hfz45_4
                  try clear hfz50_0
                  try clear hfz50_1
                  try clear hfz50_2
                  try clear hfz50_3
                  try clear hfz50_4
                  try clear hx112_0
                  try clear hx115_0
                  try clear p1
                  try clear p11
                  try clear p112
                  try clear p115
                  try clear p2
                  try clear p6
                  try clear q1
                  try clear q11
                  try clear q112
                  try clear q115
                  obtain ⟨kq, x8_41, rfl, HA, HJ41, HO_108001, BK103, BK104, BK107, HB⟩ := hcut
                  cases kq with
                  | zero => exact absurd HA.out (by simp [interlocutorlaw4_Raw_Make.j2])
                  | succ kj41 =>
                    have H := HA.out
                    clear HA
                    simp only [interlocutorlaw4_Raw_Make.j2] at H
                    replace H := Option.bind_eq_some_iff.mp H
                    obtain ⟨t116, A510, H⟩ := H
                    replace H : ((interlocutorlaw4_within.f (wrap64 (Int.tdiv x8_41 20)) 2).bind fun t117 => (if t117 = 0 then ((some (([0, 0, 0, 1, 2, 3, 50, 51, 52, 53, 54] : List Int) : List Int)).bind fun y118 => ((interlocutorlaw4_within.f (wrap64 (Int.tdiv x8_41 40)) 11).bind fun t121 => (if 0 ≤ t121 then (if t121 < (y118.length : Int) then (if x108001_1.length < 17592186044416 then (interlocutorlaw4_Raw_Make.l0 kj41 a1 (rd y109 t108) (wrap64 (x7_1 + 1)) a0_0 a0_1 a0_2 l0_3 l0_4 t105 (x108001_1 ++ [wrap64 ((-1) - (rd y118 t121))]) t108 t106) else (none)) else (none)) else (none)))) else (if x108001_1.length < 17592186044416 then (interlocutorlaw4_Raw_Make.l0 kj41 a1 (rd y109 t108) (wrap64 (x7_1 + 1)) a0_0 a0_1 a0_2 l0_3 l0_4 t105 (x108001_1 ++ [t116]) t108 t106) else (none)))) = some (r1, r2, r3, r4, r5) := H
                    have A51 := Aside0.mk A510
                    clear A510
                    replace H := Option.bind_eq_some_iff.mp H
                    obtain ⟨t117, A520, H⟩ := H
                    replace H : (if t117 = 0 then ((some (([0, 0, 0, 1, 2, 3, 50, 51, 52, 53, 54] : List Int) : List Int)).bind fun y118 => ((interlocutorlaw4_within.f (wrap64 (Int.tdiv x8_41 40)) 11).bind fun t121 => (if 0 ≤ t121 then (if t121 < (y118.length : Int) then (if x108001_1.length < 17592186044416 then (interlocutorlaw4_Raw_Make.l0 kj41 a1 (rd y109 t108) (wrap64 (x7_1 + 1)) a0_0 a0_1 a0_2 l0_3 l0_4 t105 (x108001_1 ++ [wrap64 ((-1) - (rd y118 t121))]) t108 t106) else (none)) else (none)) else (none)))) else (if x108001_1.length < 17592186044416 then (interlocutorlaw4_Raw_Make.l0 kj41 a1 (rd y109 t108) (wrap64 (x7_1 + 1)) a0_0 a0_1 a0_2 l0_3 l0_4 t105 (x108001_1 ++ [t116]) t108 t106) else (none))) = some (r1, r2, r3, r4, r5) := H
                    have A52 := Aside0.mk A520
                    clear A520
                    by_cases c53 : t117 = 0
                    · rw [if_pos c53] at H
                      have c53b0 : (t117 == 0) = true := beq_iff_eq.mpr c53
                      have c53b1 : (t117 != 0) = false := bne_eq_false_iff_eq.mpr c53
                      clear c53
                      obtain ⟨y118, hy118⟩ : ∃ y_ : List Int, y_ = (([0, 0, 0, 1, 2, 3, 50, 51, 52, 53, 54] : List Int)) := ⟨_, rfl⟩
                      replace H : ((interlocutorlaw4_within.f (wrap64 (Int.tdiv x8_41 40)) 11).bind fun t121 => (if 0 ≤ t121 then (if t121 < (y118.length : Int) then (if x108001_1.length < 17592186044416 then (interlocutorlaw4_Raw_Make.l0 kj41 a1 (rd y109 t108) (wrap64 (x7_1 + 1)) a0_0 a0_1 a0_2 l0_3 l0_4 t105 (x108001_1 ++ [wrap64 ((-1) - (rd y118 t121))]) t108 t106) else (none)) else (none)) else (none))) = some (r1, r2, r3, r4, r5) := by first | (rw [hy118]; with_reducible exact H) | (have H2_ := (Option.bind_some _ _).symm.trans H; rw [hy118]; with_reducible exact H2_) | (have H2_ := (Option.bind_some _ _).symm.trans H; with_reducible exact H2_) | with_reducible exact H | (rw [hy118]; exact H) | exact H
                      have Ny118 := Aside0.mk hy118
                      clear hy118
                      replace H := Option.bind_eq_some_iff.mp H
                      obtain ⟨t121, A540, H⟩ := H
                      replace H : (if 0 ≤ t121 then (if t121 < (y118.length : Int) then (if x108001_1.length < 17592186044416 then (interlocutorlaw4_Raw_Make.l0 kj41 a1 (rd y109 t108) (wrap64 (x7_1 + 1)) a0_0 a0_1 a0_2 l0_3 l0_4 t105 (x108001_1 ++ [wrap64 ((-1) - (rd y118 t121))]) t108 t106) else (none)) else (none)) else (none)) = some (r1, r2, r3, r4, r5) := H
                      have A54 := Aside0.mk A540
                      clear A540
                      by_cases c55 : 0 ≤ t121
                      · rw [if_pos c55] at H
                        have c55b0 : decide (0 ≤ t121) = true := decide_eq_true c55
                        clear c55
                        by_cases c56 : t121 < (y118.length : Int)
                        · rw [if_pos c56] at H
                          have c56b0 : decide (t121 < (y118.length : Int)) = true := decide_eq_true c56
                          clear c56
                          by_cases c57 : x108001_1.length < 17592186044416
                          · rw [if_pos c57] at H
                            have LMc57 := Aside0.mk c57
                            clear c57
                            obtain ⟨y123, hy123⟩ : ∃ y_ : List Int, y_ = (x108001_1 ++ [wrap64 ((-1) - (rd y118 t121))]) := ⟨_, rfl⟩
                            replace H : (interlocutorlaw4_Raw_Make.l0 kj41 a1 (rd y109 t108) (wrap64 (x7_1 + 1)) a0_0 a0_1 a0_2 l0_3 l0_4 t105 y123 t108 t106) = some (r1, r2, r3, r4, r5) := by first | (rw [hy123]; with_reducible exact H) | (have H2_ := (Option.bind_some _ _).symm.trans H; rw [hy123]; with_reducible exact H2_) | (have H2_ := (Option.bind_some _ _).symm.trans H; with_reducible exact H2_) | with_reducible exact H | (rw [hy123]; exact H) | exact H
                            have Ny123 := Aside0.mk hy123
                            clear hy123
                            have H' := Aside0.mk H
                            clear H
                            go_wp2_with (first | ((with_reducible refine gate_callee (f := 17) rfl ?_); refine goesL_ (some 65) rfl rfl Try.func17 (by kernel_rfl) rfl #[.int .i64 x8_41, .int .i64 a1] rfl (by (try simp only [List.map_toArray, List.map_cons, List.map_nil]); first | done | rfl | (simp only [List.length_drop, List.length_take]; rfl)) ?_; (with_reducible refine (interlocutorlaw4_within.calls x8_41 a1 t116 _ A51.out).mono ?_); rintro e w' ⟨rfl, ⟨nd, rfl⟩⟩; refine ⟨_, rfl, ?_⟩; (try (rw [drewN_self wc]; generalize hq_ : World.drewN wc _ = wc; have n0_ : Aside0 (Kd.R (Kd.int .i64) 3 wc w.heap.size (fun _ => True) u108001 x108001_1) := ⟨by rw [← hq_]; exact (by (with_reducible repeat (first | apply Kd.R_alloc | apply Kd.R_drewN | apply Kd.R_drew)); exact HO_108001.out)⟩; have n1_ : Aside0 (wc.heap[gb103]? = some (.cells #[.int .i64 a0_0, .int .i64 a0_1, .int .i64 a0_2, .slice A0_3 l0_3.length c0_3, .slice A0_4 l0_4.length c0_4] 31 (0, 0))) := ⟨by rw [← hq_]; exact (by (with_reducible repeat (first | refine blk_drewN ?_ _ | refine blk_drew ?_ | refine blk_alloc ?_ _)); exact BK103.out)⟩; have n2_ : Aside0 (wc.heap[gb104]? = some (.cells #[.int .i64 0, .slice none 0 0, .int .i64 0, .slice none 0 0, .int .i64 0] 26 (0, 0))) := ⟨by rw [← hq_]; exact (by (with_reducible repeat (first | refine blk_drewN ?_ _ | refine blk_drew ?_ | refine blk_alloc ?_ _)); exact BK104.out)⟩; have n3_ : Aside0 (wc.heap[gb107]? = some (.cells #[.int .i64 t105, u108001, .int .i64 t108, .slice none 0 0, .int .i64 t106] 26 (0, 0))) := ⟨by rw [← hq_]; exact (by (with_reducible repeat (first | refine blk_drewN ?_ _ | refine blk_drew ?_ | refine blk_alloc ?_ _)); exact BK107.out)⟩; have n4_ : Aside0 (Below w.heap.size w wc) := ⟨by rw [← hq_]; exact (by repeat (first | (with_reducible first | exact HB.out | apply below_alloc | apply pw_below_drewN | apply below_drew1 | refine below_set ?_ GE103.out | refine below_set ?_ GE104.out | refine below_set ?_ GE107.out) | exact HB.out))⟩; clear HO_108001 BK103 BK104 BK107 HB hq_; have HO_108001 := n0_; have BK103 := n1_; have BK104 := n2_; have BK107 := n3_; have HB := n4_; clear n0_ n1_ n2_ n3_ n4_))) | ((with_reducible refine gate_callee (f := 17) rfl ?_); refine goesL_ (some 68) rfl rfl Try.func17 (by kernel_rfl) rfl #[.int .i64 (wrap64 (Int.tdiv x8_41 20)), .int .i64 2] rfl (by (try simp only [List.map_toArray, List.map_cons, List.map_nil]); first | done | rfl | (simp only [List.length_drop, List.length_take]; rfl)) ?_; (with_reducible refine (interlocutorlaw4_within.calls (wrap64 (Int.tdiv x8_41 20)) 2 t117 _ A52.out).mono ?_); rintro e w' ⟨rfl, ⟨nd, rfl⟩⟩; refine ⟨_, rfl, ?_⟩; (try (rw [drewN_self wc]; generalize hq_ : World.drewN wc _ = wc; have n0_ : Aside0 (Kd.R (Kd.int .i64) 3 wc w.heap.size (fun _ => True) u108001 x108001_1) := ⟨by rw [← hq_]; exact (by (with_reducible repeat (first | apply Kd.R_alloc | apply Kd.R_drewN | apply Kd.R_drew)); exact HO_108001.out)⟩; have n1_ : Aside0 (wc.heap[gb103]? = some (.cells #[.int .i64 a0_0, .int .i64 a0_1, .int .i64 a0_2, .slice A0_3 l0_3.length c0_3, .slice A0_4 l0_4.length c0_4] 31 (0, 0))) := ⟨by rw [← hq_]; exact (by (with_reducible repeat (first | refine blk_drewN ?_ _ | refine blk_drew ?_ | refine blk_alloc ?_ _)); exact BK103.out)⟩; have n2_ : Aside0 (wc.heap[gb104]? = some (.cells #[.int .i64 0, .slice none 0 0, .int .i64 0, .slice none 0 0, .int .i64 0] 26 (0, 0))) := ⟨by rw [← hq_]; exact (by (with_reducible repeat (first | refine blk_drewN ?_ _ | refine blk_drew ?_ | refine blk_alloc ?_ _)); exact BK104.out)⟩; have n3_ : Aside0 (wc.heap[gb107]? = some (.cells #[.int .i64 t105, u108001, .int .i64 t108, .slice none 0 0, .int .i64 t106] 26 (0, 0))) := ⟨by rw [← hq_]; exact (by (with_reducible repeat (first | refine blk_drewN ?_ _ | refine blk_drew ?_ | refine blk_alloc ?_ _)); exact BK107.out)⟩; have n4_ : Aside0 (Below w.heap.size w wc) := ⟨by rw [← hq_]; exact (by repeat (first | (with_reducible first | exact HB.out | apply below_alloc | apply pw_below_drewN | apply below_drew1 | refine below_set ?_ GE103.out | refine below_set ?_ GE104.out | refine below_set ?_ GE107.out) | exact HB.out))⟩; clear HO_108001 BK103 BK104 BK107 HB hq_; have HO_108001 := n0_; have BK103 := n1_; have BK104 := n2_; have BK107 := n3_; have HB := n4_; clear n0_ n1_ n2_ n3_ n4_))) | ((with_reducible refine gate_dst (N := 70) rfl ?_); refine Kd.R_lit (Kd.int .i64) _ 3 ?hg (N := 70) ?hd (xs := ([0, 0, 0, 1, 2, 3, 50, 51, 52, 53, 54] : List Int)) (inner := [.int .i64 0, .int .i64 0, .int .i64 0, .int .i64 1, .int .i64 2, .int .i64 3, .int .i64 50, .int .i64 51, .int .i64 52, .int .i64 53, .int .i64 54]) (ok := fun _ => True) (okp := fun _ => True) ?hr ?hp (fun _ hk => hk) trivial (Below.refl _ _) (Nat.le_refl _) (by simp) ?_; (case hd => rfl); (case hg => rfl); (case hr => first | (go_simp; done) | (go_simp; rfl)); (case hp => exact (Reps.one (show Kd.M (Kd.int .i64) _ _ _ 0 [.int .i64 0] from rfl) (Reps.one (show Kd.M (Kd.int .i64) _ _ _ 0 [.int .i64 0] from rfl) (Reps.one (show Kd.M (Kd.int .i64) _ _ _ 0 [.int .i64 0] from rfl) (Reps.one (show Kd.M (Kd.int .i64) _ _ _ 1 [.int .i64 1] from rfl) (Reps.one (show Kd.M (Kd.int .i64) _ _ _ 2 [.int .i64 2] from rfl) (Reps.one (show Kd.M (Kd.int .i64) _ _ _ 3 [.int .i64 3] from rfl) (Reps.one (show Kd.M (Kd.int .i64) _ _ _ 50 [.int .i64 50] from rfl) (Reps.one (show Kd.M (Kd.int .i64) _ _ _ 51 [.int .i64 51] from rfl) (Reps.one (show Kd.M (Kd.int .i64) _ _ _ 52 [.int .i64 52] from rfl) (Reps.one (show Kd.M (Kd.int .i64) _ _ _ 53 [.int .i64 53] from rfl) (Reps.one (show Kd.M (Kd.int .i64) _ _ _ 54 [.int .i64 54] from rfl) (Reps.none _ _))))))))))))); intro v119 w58 ho59 hb hg_ hnew_; clear hg_ hnew_; (first | rw [← Ny118.out] at ho59 | (simp only [Int.reduceToNat] at ho59; rw [← Ny118.out] at ho59)); have n0_ := Aside0.mk (Kd.R_elder' (by (with_reducible repeat (first | apply Kd.R_alloc | apply Kd.R_drewN | apply Kd.R_drew)); exact HO_108001.out) (Kd.R_base ho59) hb); have n1_ := Aside0.mk (Kd.R_lower (Kd.R_new' ho59 (Kd.R_lt (by (with_reducible repeat (first | apply Kd.R_alloc | apply Kd.R_drewN | apply Kd.R_drew)); exact HO_108001.out))) (below_size (by repeat (first | (with_reducible first | exact HB.out | apply below_alloc | apply pw_below_drewN | apply below_drew1 | refine below_set ?_ GE103.out | refine below_set ?_ GE104.out | refine below_set ?_ GE107.out) | exact HB.out)))); have n2_ := Aside0.mk (blk_below (g := gb103) (o := .cells #[.int .i64 a0_0, .int .i64 a0_1, .int .i64 a0_2, .slice A0_3 l0_3.length c0_3, .slice A0_4 l0_4.length c0_4] 31 (0, 0)) (by (with_reducible repeat (first | refine blk_drewN ?_ _ | refine blk_drew ?_ | refine blk_alloc ?_ _)); exact BK103.out) hb); have n3_ := Aside0.mk (blk_below (g := gb104) (o := .cells #[.int .i64 0, .slice none 0 0, .int .i64 0, .slice none 0 0, .int .i64 0] 26 (0, 0)) (by (with_reducible repeat (first | refine blk_drewN ?_ _ | refine blk_drew ?_ | refine blk_alloc ?_ _)); exact BK104.out) hb); have n4_ := Aside0.mk (blk_below (g := gb107) (o := .cells #[.int .i64 t105, u108001, .int .i64 t108, .slice none 0 0, .int .i64 t106] 26 (0, 0)) (by (with_reducible repeat (first | refine blk_drewN ?_ _ | refine blk_drew ?_ | refine blk_alloc ?_ _)); exact BK107.out) hb); have n5_ := Aside0.mk (below_step (by repeat (first | (with_reducible first | exact HB.out | apply below_alloc | apply pw_below_drewN | apply below_drew1 | refine below_set ?_ GE103.out | refine below_set ?_ GE104.out | refine below_set ?_ GE107.out) | exact HB.out)) hb); clear HO_108001; clear BK103; clear BK104; clear BK107; clear HB; have HO_108001 := n0_; have HO120 := n1_; have BK103 := n2_; have BK104 := n3_; have BK107 := n4_; have HB := n5_; clear n0_ n1_ n2_ n3_ n4_ n5_; clear hb ho59) | ((with_reducible refine gate_callee (f := 17) rfl ?_); refine goesL_ (some 73) rfl rfl Try.func17 (by kernel_rfl) rfl #[.int .i64 (wrap64 (Int.tdiv x8_41 40)), .int .i64 11] rfl (by (try simp only [List.map_toArray, List.map_cons, List.map_nil]); first | done | rfl | (simp only [List.length_drop, List.length_take]; rfl)) ?_; (with_reducible refine (interlocutorlaw4_within.calls (wrap64 (Int.tdiv x8_41 40)) 11 t121 _ A54.out).mono ?_); rintro e w' ⟨rfl, ⟨nd, rfl⟩⟩; refine ⟨_, rfl, ?_⟩; (try (rw [drewN_self w58]; generalize hq_ : World.drewN w58 _ = w58; have n0_ : Aside0 (Kd.R (Kd.int .i64) 3 w58 w.heap.size (fun k_ => (True ∧ some k_ ≠ (u108001 : Value).ownBlock)) v119 y118) := ⟨by rw [← hq_]; exact (by (with_reducible repeat (first | apply Kd.R_alloc | apply Kd.R_drewN | apply Kd.R_drew)); exact HO120.out)⟩; have n1_ : Aside0 (Kd.R (Kd.int .i64) 3 w58 w.heap.size (fun k_ => (True ∧ some k_ ≠ (v119 : Value).ownBlock)) u108001 x108001_1) := ⟨by rw [← hq_]; exact (by (with_reducible repeat (first | apply Kd.R_alloc | apply Kd.R_drewN | apply Kd.R_drew)); exact HO_108001.out)⟩; have n2_ : Aside0 (w58.heap[gb103]? = some (.cells #[.int .i64 a0_0, .int .i64 a0_1, .int .i64 a0_2, .slice A0_3 l0_3.length c0_3, .slice A0_4 l0_4.length c0_4] 31 (0, 0))) := ⟨by rw [← hq_]; exact (by (with_reducible repeat (first | refine blk_drewN ?_ _ | refine blk_drew ?_ | refine blk_alloc ?_ _)); exact BK103.out)⟩; have n3_ : Aside0 (w58.heap[gb104]? = some (.cells #[.int .i64 0, .slice none 0 0, .int .i64 0, .slice none 0 0, .int .i64 0] 26 (0, 0))) := ⟨by rw [← hq_]; exact (by (with_reducible repeat (first | refine blk_drewN ?_ _ | refine blk_drew ?_ | refine blk_alloc ?_ _)); exact BK104.out)⟩; have n4_ : Aside0 (w58.heap[gb107]? = some (.cells #[.int .i64 t105, u108001, .int .i64 t108, .slice none 0 0, .int .i64 t106] 26 (0, 0))) := ⟨by rw [← hq_]; exact (by (with_reducible repeat (first | refine blk_drewN ?_ _ | refine blk_drew ?_ | refine blk_alloc ?_ _)); exact BK107.out)⟩; have n5_ : Aside0 (Below w.heap.size w w58) := ⟨by rw [← hq_]; exact (by repeat (first | (with_reducible first | exact HB.out | apply below_alloc | apply pw_below_drewN | apply below_drew1 | refine below_set ?_ GE103.out | refine below_set ?_ GE104.out | refine below_set ?_ GE107.out) | exact HB.out))⟩; clear HO120 HO_108001 BK103 BK104 BK107 HB hq_; have HO120 := n0_; have HO_108001 := n1_; have BK103 := n2_; have BK104 := n3_; have BK107 := n4_; have HB := n5_; clear n0_ n1_ n2_ n3_ n4_ n5_)); obtain ⟨Ao60, co60, eo60⟩ := Kd.R_slice HO120.out; subst eo60; have p122 : 0 ≤ (t121 : Int) := of_decide_eq_true (by first | (with_reducible assumption) | assumption); have q122 : t121 < (y118.length : Int) := of_decide_eq_true (by first | (with_reducible assumption) | assumption); obtain ⟨ad122, e122, hx122_0⟩ := Kd.at_int (Kd.R_reads' HO120.out).2.2 t121 p122 q122; cases e122; replace p122 := eq_true p122; replace q122 := eq_true q122; have hnb61 := NB107_103.out; have hnc61 := NB103_107.out; have hnb62 := NB107_104.out; have hnc62 := NB104_107.out; have hcz63_0 : w58.cell? ⟨gb107, 0, none⟩ = some (.int .i64 t105) := (blk_cell BK107.out 0).trans rfl; have hcz63_1 : w58.cell? ⟨gb107, 1, none⟩ = some (u108001) := (blk_cell BK107.out 1).trans rfl; have hcz63_2 : w58.cell? ⟨gb107, 2, none⟩ = some (.int .i64 t108) := (blk_cell BK107.out 2).trans rfl; have hcz63_3 : w58.cell? ⟨gb107, 3, none⟩ = some (.slice none 0 0) := (blk_cell BK107.out 3).trans rfl; have hcz63_4 : w58.cell? ⟨gb107, 4, none⟩ = some (.int .i64 t106) := (blk_cell BK107.out 4).trans rfl; have hfz63_0 := blk_frozen BK107.out 0; have hfz63_1 := blk_frozen BK107.out 1; have hfz63_2 := blk_frozen BK107.out 2; have hfz63_3 := blk_frozen BK107.out 3; have hfz63_4 := blk_frozen BK107.out 4) | ((with_reducible refine gate_builtin (b := .append) (xs := #[.tmp 78, .tmp 80]) rfl ?_); at_builtin; refine Kd.R_append (Kd.int .i64) (w0 := w) w.heap.size rfl (.tmp 78) (.tmp 80) 22 3 (.int .i64 0) 8 rfl Try.underlying22 info3 rfl (by decide) (by omega) u108001 x108001_1 (wrap64 ((-1) - (rd y118 t121))) [.int .i64 (wrap64 ((-1) - (rd y118 t121)))] (fun k_ => some k_ ≠ (.slice (some ad122) y118.length co60 : Value).ownBlock) (fun _ => False) rfl rfl ?aP (fun _ hk => hk.elim) ?aF ?aO ?aB ?aS ?aL ?_; (case aP => exact rfl); (case aB => exact (by repeat (first | (with_reducible first | exact HB.out | apply below_alloc | apply pw_below_drewN | apply below_drew1 | refine below_set ?_ GE103.out | refine below_set ?_ GE104.out | refine below_set ?_ GE107.out) | exact HB.out))); (case aF => exact (fun k_ hk => Kd.fresh' (Kd.R_lt (by (with_reducible repeat (first | apply Kd.R_alloc | apply Kd.R_drewN | apply Kd.R_drew)); exact HO120.out)) k_ hk)); (case aO => exact (by (with_reducible repeat (first | apply Kd.R_alloc | apply Kd.R_drewN | apply Kd.R_drew)); (first | exact Kd.R_mono HO_108001.out (fun _ hk => hk.2) | exact HO_108001.out))); (case aS => exact (below_size (by repeat (first | (with_reducible first | exact HB.out | apply below_alloc | apply pw_below_drewN | apply below_drew1 | refine below_set ?_ GE103.out | refine below_set ?_ GE104.out | refine below_set ?_ GE107.out) | exact HB.out)))); (case aL => have := LMc57.out; omega); intro v124 w64 ho hb hg hat; rw [← Ny123.out] at ho; have n0_ := Aside0.mk (blk_grown (g := gb103) (o := .cells #[.int .i64 a0_0, .int .i64 a0_1, .int .i64 a0_2, .slice A0_3 l0_3.length c0_3, .slice A0_4 l0_4.length c0_4] 31 (0, 0)) (by (with_reducible repeat (first | refine blk_drewN ?_ _ | refine blk_drew ?_ | refine blk_alloc ?_ _)); exact BK103.out) hg (Kd.R_ne HO_108001.out BK103.out (by decide))); have n1_ := Aside0.mk (blk_grown (g := gb104) (o := .cells #[.int .i64 0, .slice none 0 0, .int .i64 0, .slice none 0 0, .int .i64 0] 26 (0, 0)) (by (with_reducible repeat (first | refine blk_drewN ?_ _ | refine blk_drew ?_ | refine blk_alloc ?_ _)); exact BK104.out) hg (Kd.R_ne HO_108001.out BK104.out (by decide))); have n2_ := Aside0.mk (blk_grown (g := gb107) (o := .cells #[.int .i64 t105, u108001, .int .i64 t108, .slice none 0 0, .int .i64 t106] 26 (0, 0)) (by (with_reducible repeat (first | refine blk_drewN ?_ _ | refine blk_drew ?_ | refine blk_alloc ?_ _)); exact BK107.out) hg (Kd.R_ne HO_108001.out BK107.out (by decide))); have n3_ := Aside0.mk (Kd.R_after (ok := (fun _ => True)) (by (with_reducible repeat (first | apply Kd.R_alloc | apply Kd.R_drewN | apply Kd.R_drew)); exact HO120.out) hg hat); have n4_ := Aside0.mk (hb); have n5_ := Aside0.mk (ho); clear BK103; clear BK104; clear BK107; clear HO120; clear HB; clear HO_108001; have BK103 := n0_; have BK104 := n1_; have BK107 := n2_; have HO120 := n3_; have HB := n4_; have HO125 := n5_; clear n0_ n1_ n2_ n3_ n4_ n5_; clear ho hb hg hat; obtain ⟨Ao65, co65, eo65⟩ := Kd.R_slice HO125.out; subst eo65; have hcz66_0 : w64.cell? ⟨gb107, 0, none⟩ = some (.int .i64 t105) := (blk_cell BK107.out 0).trans rfl; have hcz66_1 : w64.cell? ⟨gb107, 1, none⟩ = some (u108001) := (blk_cell BK107.out 1).trans rfl; have hcz66_2 : w64.cell? ⟨gb107, 2, none⟩ = some (.int .i64 t108) := (blk_cell BK107.out 2).trans rfl; have hcz66_3 : w64.cell? ⟨gb107, 3, none⟩ = some (.slice none 0 0) := (blk_cell BK107.out 3).trans rfl; have hcz66_4 : w64.cell? ⟨gb107, 4, none⟩ = some (.int .i64 t106) := (blk_cell BK107.out 4).trans rfl; have hfz66_0 := blk_frozen BK107.out 0; have hfz66_1 := blk_frozen BK107.out 1; have hfz66_2 := blk_frozen BK107.out 2; have hfz66_3 := blk_frozen BK107.out 3; have hfz66_4 := blk_frozen BK107.out 4))
                            go_roundg kj41
                            case measure => have := HK1.out; have := HJ26.out; have := HJ41.out; omega
                            case rel => exact ⟨(wrap64 (x7_1 + 1)), (y123), (.slice Ao65 y123.length co65), (by first | rfl | (simp; done) | (simp [*]; done)), H', ⟨by have := HK1.out; have := HJ26.out; have := HJ41.out; omega⟩, ⟨by (with_reducible repeat (first | apply Kd.R_alloc | apply Kd.R_drewN | apply Kd.R_drew)); exact Kd.R_mono (Kd.R_far (p := ⟨gb107, 1, none⟩) (Kd.R_types HO125.out BK107.out (by decide)) (fun _ hk => hk.2) (.slice Ao65 y123.length co65)) (fun _ hk => trivial)⟩, ⟨by (with_reducible repeat (first | refine blk_drewN ?_ _ | refine blk_drew ?_ | refine blk_alloc ?_ _)); refine blk_far ?_ NB103_107.out _; (with_reducible repeat (first | refine blk_drewN ?_ _ | refine blk_drew ?_ | refine blk_alloc ?_ _)); exact BK103.out⟩, ⟨by (with_reducible repeat (first | refine blk_drewN ?_ _ | refine blk_drew ?_ | refine blk_alloc ?_ _)); refine blk_far ?_ NB104_107.out _; (with_reducible repeat (first | refine blk_drewN ?_ _ | refine blk_drew ?_ | refine blk_alloc ?_ _)); exact BK104.out⟩, ⟨by (with_reducible repeat (first | refine blk_drewN ?_ _ | refine blk_drew ?_ | refine blk_alloc ?_ _)); refine blk_put (cs := #[.int .i64 t105, u108001, .int .i64 t108, .slice none 0 0, .int .i64 t106]) ?_ 1 _ rfl; (with_reducible repeat (first | refine blk_drewN ?_ _ | refine blk_drew ?_ | refine blk_alloc ?_ _)); exact BK107.out⟩, ⟨by repeat (first | (with_reducible first | exact HB.out | apply below_alloc | apply pw_below_drewN | apply below_drew1 | refine below_set ?_ GE103.out | refine below_set ?_ GE104.out | refine below_set ?_ GE107.out) | exact HB.out)⟩⟩
                          · rw [if_neg c57] at H
                            exact absurd H (by simp)
                        · rw [if_neg c56] at H
                          exact absurd H (by simp)
                      · rw [if_neg c55] at H
                        exact absurd H (by simp)
                    · rw [if_neg c53] at H
                      have c53b0 : (t117 == 0) = false := beq_eq_false_iff_ne.mpr c53
                      have c53b1 : (t117 != 0) = true := bne_iff_ne.mpr c53
                      by_cases c67 : x108001_1.length < 17592186044416
                      · rw [if_pos c67] at H
                        have LMc67 := Aside0.mk c67
                        clear c67
                        obtain ⟨y126, hy126⟩ : ∃ y_ : List Int, y_ = (x108001_1 ++ [t116]) := ⟨_, rfl⟩
                        replace H : (interlocutorlaw4_Raw_Make.l0 kj41 a1 (rd y109 t108) (wrap64 (x7_1 + 1)) a0_0 a0_1 a0_2 l0_3 l0_4 t105 y126 t108 t106) = some (r1, r2, r3, r4, r5) := by first | (rw [hy126]; with_reducible exact H) | (have H2_ := (Option.bind_some _ _).symm.trans H; rw [hy126]; with_reducible exact H2_) | (have H2_ := (Option.bind_some _ _).symm.trans H; with_reducible exact H2_) | with_reducible exact H | (rw [hy126]; exact H) | exact H
                        have Ny126 := Aside0.mk hy126
                        clear hy126
                        have H' := Aside0.mk H
                        clear H
                        go_wp2_with (first | ((with_reducible refine gate_callee (f := 17) rfl ?_); refine goesL_ (some 65) rfl rfl Try.func17 (by kernel_rfl) rfl #[.int .i64 x8_41, .int .i64 a1] rfl (by (try simp only [List.map_toArray, List.map_cons, List.map_nil]); first | done | rfl | (simp only [List.length_drop, List.length_take]; rfl)) ?_; (with_reducible refine (interlocutorlaw4_within.calls x8_41 a1 t116 _ A51.out).mono ?_); rintro e w' ⟨rfl, ⟨nd, rfl⟩⟩; refine ⟨_, rfl, ?_⟩; (try (rw [drewN_self wc]; generalize hq_ : World.drewN wc _ = wc; have n0_ : Aside0 (Kd.R (Kd.int .i64) 3 wc w.heap.size (fun _ => True) u108001 x108001_1) := ⟨by rw [← hq_]; exact (by (with_reducible repeat (first | apply Kd.R_alloc | apply Kd.R_drewN | apply Kd.R_drew)); exact HO_108001.out)⟩; have n1_ : Aside0 (wc.heap[gb103]? = some (.cells #[.int .i64 a0_0, .int .i64 a0_1, .int .i64 a0_2, .slice A0_3 l0_3.length c0_3, .slice A0_4 l0_4.length c0_4] 31 (0, 0))) := ⟨by rw [← hq_]; exact (by (with_reducible repeat (first | refine blk_drewN ?_ _ | refine blk_drew ?_ | refine blk_alloc ?_ _)); exact BK103.out)⟩; have n2_ : Aside0 (wc.heap[gb104]? = some (.cells #[.int .i64 0, .slice none 0 0, .int .i64 0, .slice none 0 0, .int .i64 0] 26 (0, 0))) := ⟨by rw [← hq_]; exact (by (with_reducible repeat (first | refine blk_drewN ?_ _ | refine blk_drew ?_ | refine blk_alloc ?_ _)); exact BK104.out)⟩; have n3_ : Aside0 (wc.heap[gb107]? = some (.cells #[.int .i64 t105, u108001, .int .i64 t108, .slice none 0 0, .int .i64 t106] 26 (0, 0))) := ⟨by rw [← hq_]; exact (by (with_reducible repeat (first | refine blk_drewN ?_ _ | refine blk_drew ?_ | refine blk_alloc ?_ _)); exact BK107.out)⟩; have n4_ : Aside0 (Below w.heap.size w wc) := ⟨by rw [← hq_]; exact (by repeat (first | (with_reducible first | exact HB.out | apply below_alloc | apply pw_below_drewN | apply below_drew1 | refine below_set ?_ GE103.out | refine below_set ?_ GE104.out | refine below_set ?_ GE107.out) | exact HB.out))⟩; clear HO_108001 BK103 BK104 BK107 HB hq_; have HO_108001 := n0_; have BK103 := n1_; have BK104 := n2_; have BK107 := n3_; have HB := n4_; clear n0_ n1_ n2_ n3_ n4_))) | ((with_reducible refine gate_callee (f := 17) rfl ?_); refine goesL_ (some 68) rfl rfl Try.func17 (by kernel_rfl) rfl #[.int .i64 (wrap64 (Int.tdiv x8_41 20)), .int .i64 2] rfl (by (try simp only [List.map_toArray, List.map_cons, List.map_nil]); first | done | rfl | (simp only [List.length_drop, List.length_take]; rfl)) ?_; (with_reducible refine (interlocutorlaw4_within.calls (wrap64 (Int.tdiv x8_41 20)) 2 t117 _ A52.out).mono ?_); rintro e w' ⟨rfl, ⟨nd, rfl⟩⟩; refine ⟨_, rfl, ?_⟩; (try (rw [drewN_self wc]; generalize hq_ : World.drewN wc _ = wc; have n0_ : Aside0 (Kd.R (Kd.int .i64) 3 wc w.heap.size (fun _ => True) u108001 x108001_1) := ⟨by rw [← hq_]; exact (by (with_reducible repeat (first | apply Kd.R_alloc | apply Kd.R_drewN | apply Kd.R_drew)); exact HO_108001.out)⟩; have n1_ : Aside0 (wc.heap[gb103]? = some (.cells #[.int .i64 a0_0, .int .i64 a0_1, .int .i64 a0_2, .slice A0_3 l0_3.length c0_3, .slice A0_4 l0_4.length c0_4] 31 (0, 0))) := ⟨by rw [← hq_]; exact (by (with_reducible repeat (first | refine blk_drewN ?_ _ | refine blk_drew ?_ | refine blk_alloc ?_ _)); exact BK103.out)⟩; have n2_ : Aside0 (wc.heap[gb104]? = some (.cells #[.int .i64 0, .slice none 0 0, .int .i64 0, .slice none 0 0, .int .i64 0] 26 (0, 0))) := ⟨by rw [← hq_]; exact (by (with_reducible repeat (first | refine blk_drewN ?_ _ | refine blk_drew ?_ | refine blk_alloc ?_ _)); exact BK104.out)⟩; have n3_ : Aside0 (wc.heap[gb107]? = some (.cells #[.int .i64 t105, u108001, .int .i64 t108, .slice none 0 0, .int .i64 t106] 26 (0, 0))) := ⟨by rw [← hq_]; exact (by (with_reducible repeat (first | refine blk_drewN ?_ _ | refine blk_drew ?_ | refine blk_alloc ?_ _)); exact BK107.out)⟩; have n4_ : Aside0 (Below w.heap.size w wc) := ⟨by rw [← hq_]; exact (by repeat (first | (with_reducible first | exact HB.out | apply below_alloc | apply pw_below_drewN | apply below_drew1 | refine below_set ?_ GE103.out | refine below_set ?_ GE104.out | refine below_set ?_ GE107.out) | exact HB.out))⟩; clear HO_108001 BK103 BK104 BK107 HB hq_; have HO_108001 := n0_; have BK103 := n1_; have BK104 := n2_; have BK107 := n3_; have HB := n4_; clear n0_ n1_ n2_ n3_ n4_)); have hnb68 := NB107_103.out; have hnc68 := NB103_107.out; have hnb69 := NB107_104.out; have hnc69 := NB104_107.out; have hcz70_0 : wc.cell? ⟨gb107, 0, none⟩ = some (.int .i64 t105) := (blk_cell BK107.out 0).trans rfl; have hcz70_1 : wc.cell? ⟨gb107, 1, none⟩ = some (u108001) := (blk_cell BK107.out 1).trans rfl; have hcz70_2 : wc.cell? ⟨gb107, 2, none⟩ = some (.int .i64 t108) := (blk_cell BK107.out 2).trans rfl; have hcz70_3 : wc.cell? ⟨gb107, 3, none⟩ = some (.slice none 0 0) := (blk_cell BK107.out 3).trans rfl; have hcz70_4 : wc.cell? ⟨gb107, 4, none⟩ = some (.int .i64 t106) := (blk_cell BK107.out 4).trans rfl; have hfz70_0 := blk_frozen BK107.out 0; have hfz70_1 := blk_frozen BK107.out 1; have hfz70_2 := blk_frozen BK107.out 2; have hfz70_3 := blk_frozen BK107.out 3; have hfz70_4 := blk_frozen BK107.out 4) | ((with_reducible refine gate_builtin (b := .append) (xs := #[.tmp 78, .tmp 80]) rfl ?_); at_builtin; refine Kd.R_append (Kd.int .i64) (w0 := w) w.heap.size rfl (.tmp 78) (.tmp 80) 22 3 (.int .i64 0) 8 rfl Try.underlying22 info3 rfl (by decide) (by omega) u108001 x108001_1 t116 [.int .i64 t116] (fun _ => True) (fun _ => False) rfl rfl ?aP (fun _ hk => hk.elim) ?aF ?aO ?aB ?aS ?aL ?_; (case aP => exact rfl); (case aB => exact (by repeat (first | (with_reducible first | exact HB.out | apply below_alloc | apply pw_below_drewN | apply below_drew1 | refine below_set ?_ GE103.out | refine below_set ?_ GE104.out | refine below_set ?_ GE107.out) | exact HB.out))); (case aF => exact (fun _ _ => trivial)); (case aO => exact (by (with_reducible repeat (first | apply Kd.R_alloc | apply Kd.R_drewN | apply Kd.R_drew)); exact HO_108001.out)); (case aS => exact (below_size (by repeat (first | (with_reducible first | exact HB.out | apply below_alloc | apply pw_below_drewN | apply below_drew1 | refine below_set ?_ GE103.out | refine below_set ?_ GE104.out | refine below_set ?_ GE107.out) | exact HB.out)))); (case aL => have := LMc67.out; omega); intro v127 w71 ho hb hg hat; rw [← Ny126.out] at ho; have n0_ := Aside0.mk (blk_grown (g := gb103) (o := .cells #[.int .i64 a0_0, .int .i64 a0_1, .int .i64 a0_2, .slice A0_3 l0_3.length c0_3, .slice A0_4 l0_4.length c0_4] 31 (0, 0)) (by (with_reducible repeat (first | refine blk_drewN ?_ _ | refine blk_drew ?_ | refine blk_alloc ?_ _)); exact BK103.out) hg (Kd.R_ne HO_108001.out BK103.out (by decide))); have n1_ := Aside0.mk (blk_grown (g := gb104) (o := .cells #[.int .i64 0, .slice none 0 0, .int .i64 0, .slice none 0 0, .int .i64 0] 26 (0, 0)) (by (with_reducible repeat (first | refine blk_drewN ?_ _ | refine blk_drew ?_ | refine blk_alloc ?_ _)); exact BK104.out) hg (Kd.R_ne HO_108001.out BK104.out (by decide))); have n2_ := Aside0.mk (blk_grown (g := gb107) (o := .cells #[.int .i64 t105, u108001, .int .i64 t108, .slice none 0 0, .int .i64 t106] 26 (0, 0)) (by (with_reducible repeat (first | refine blk_drewN ?_ _ | refine blk_drew ?_ | refine blk_alloc ?_ _)); exact BK107.out) hg (Kd.R_ne HO_108001.out BK107.out (by decide))); have n3_ := Aside0.mk (hb); have n4_ := Aside0.mk (ho); clear BK103; clear BK104; clear BK107; clear HB; clear HO_108001; have BK103 := n0_; have BK104 := n1_; have BK107 := n2_; have HB := n3_; have HO128 := n4_; clear n0_ n1_ n2_ n3_ n4_; clear ho hb hg hat; obtain ⟨Ao72, co72, eo72⟩ := Kd.R_slice HO128.out; subst eo72; have hcz73_0 : w71.cell? ⟨gb107, 0, none⟩ = some (.int .i64 t105) := (blk_cell BK107.out 0).trans rfl; have hcz73_1 : w71.cell? ⟨gb107, 1, none⟩ = some (u108001) := (blk_cell BK107.out 1).trans rfl; have hcz73_2 : w71.cell? ⟨gb107, 2, none⟩ = some (.int .i64 t108) := (blk_cell BK107.out 2).trans rfl; have hcz73_3 : w71.cell? ⟨gb107, 3, none⟩ = some (.slice none 0 0) := (blk_cell BK107.out 3).trans rfl; have hcz73_4 : w71.cell? ⟨gb107, 4, none⟩ = some (.int .i64 t106) := (blk_cell BK107.out 4).trans rfl; have hfz73_0 := blk_frozen BK107.out 0; have hfz73_1 := blk_frozen BK107.out 1; have hfz73_2 := blk_frozen BK107.out 2; have hfz73_3 := blk_frozen BK107.out 3; have hfz73_4 := blk_frozen BK107.out 4))
                        go_roundg kj41
                        case measure => have := HK1.out; have := HJ26.out; have := HJ41.out; omega
                        case rel => exact ⟨(wrap64 (x7_1 + 1)), (y126), (.slice Ao72 y126.length co72), (by first | rfl | (simp; done) | (simp [*]; done)), H', ⟨by have := HK1.out; have := HJ26.out; have := HJ41.out; omega⟩, ⟨by (with_reducible repeat (first | apply Kd.R_alloc | apply Kd.R_drewN | apply Kd.R_drew)); exact Kd.R_mono (Kd.R_far (p := ⟨gb107, 1, none⟩) (Kd.R_types HO128.out BK107.out (by decide)) (fun _ hk => hk.2) (.slice Ao72 y126.length co72)) (fun _ hk => trivial)⟩, ⟨by (with_reducible repeat (first | refine blk_drewN ?_ _ | refine blk_drew ?_ | refine blk_alloc ?_ _)); refine blk_far ?_ NB103_107.out _; (with_reducible repeat (first | refine blk_drewN ?_ _ | refine blk_drew ?_ | refine blk_alloc ?_ _)); exact BK103.out⟩, ⟨by (with_reducible repeat (first | refine blk_drewN ?_ _ | refine blk_drew ?_ | refine blk_alloc ?_ _)); refine blk_far ?_ NB104_107.out _; (with_reducible repeat (first | refine blk_drewN ?_ _ | refine blk_drew ?_ | refine blk_alloc ?_ _)); exact BK104.out⟩, ⟨by (with_reducible repeat (first | refine blk_drewN ?_ _ | refine blk_drew ?_ | refine blk_alloc ?_ _)); refine blk_put (cs := #[.int .i64 t105, u108001, .int .i64 t108, .slice none 0 0, .int .i64 t106]) ?_ 1 _ rfl; (with_reducible repeat (first | refine blk_drewN ?_ _ | refine blk_drew ?_ | refine blk_alloc ?_ _)); exact BK107.out⟩, ⟨by repeat (first | (with_reducible first | exact HB.out | apply below_alloc | apply pw_below_drewN | apply below_drew1 | refine below_set ?_ GE103.out | refine below_set ?_ GE104.out | refine below_set ?_ GE107.out) | exact HB.out)⟩⟩
                      · rw [if_neg c67] at H
                        exact absurd H (by simp)
              · replace c41 := Bool.eq_false_iff.mpr c41
                subst c41
                have H1 : (interlocutorlaw4_Raw_Make.l1 kj26 (rd y109 t108) 0 a0_0 a0_1 a0_2 l0_3 l0_4 t105 x108001_1 t108 ([] : List Int) t106) = some (r1, r2, r3, r4, r5) := by rw [if_neg (show ¬ (false = true) by decide)] at H; exact H
                clear H
                have H := H1
                clear H1
                have H' := Aside0.mk H
                clear H
                go_wp2
                go_loopg [10] kj26 (fun kq v10 w' => ∃ (x10_3 : Int) (x108003_3 : List Int) (u108003 : Value), v10 = .int .i64 x10_3 ∧ Aside0 (interlocutorlaw4_Raw_Make.l1 kq (rd y109 t108) x10_3 a0_0 a0_1 a0_2 l0_3 l0_4 t105 x108001_1 t108 x108003_3 t106 = some (r1, r2, r3, r4, r5)) ∧ Aside0 (kq ≤ kj26) ∧ Aside0 (Kd.R (Kd.int .i64) 3 w' w.heap.size (fun k_ => some k_ ≠ (u108003 : Value).ownBlock) u108001 x108001_1) ∧ Aside0 (Kd.R (Kd.int .i64) 3 w' w.heap.size (fun k_ => some k_ ≠ (u108001 : Value).ownBlock) u108003 x108003_3) ∧ Aside0 (w'.heap[gb103]? = some (.cells #[.int .i64 a0_0, .int .i64 a0_1, .int .i64 a0_2, (.slice A0_3 l0_3.length c0_3), (.slice A0_4 l0_4.length c0_4)] 31 (0, 0))) ∧ Aside0 (w'.heap[gb104]? = some (.cells #[.int .i64 0, (.slice none 0 0), .int .i64 0, (.slice none 0 0), .int .i64 0] 26 (0, 0))) ∧ Aside0 (w'.heap[gb107]? = some (.cells #[.int .i64 t105, u108001, .int .i64 t108, u108003, .int .i64 t106] 26 (0, 0))) ∧ Aside0 (Below w.heap.size w w'))
                case atStart => exact ⟨(0), (([] : List Int)), (.slice none 0 0), (by first | rfl | (simp; done) | (simp [*]; done)), H', ⟨Nat.le_refl _⟩, ⟨by (with_reducible repeat (first | apply Kd.R_alloc | apply Kd.R_drewN | apply Kd.R_drew)); exact Kd.R_mono HO_108001.out (fun _ hk => (by simp [Value.ownBlock]))⟩, ⟨by first | exact Kd.R_nil _ _ _ _ _ | exact Kd.N_nil _ _ _ _ _ | exact Kd.V_nil _ _ _ _ _ | exact Kd.Q_nil _ _ _ _ _ | exact Kd.S_nil _ _ _ _ _⟩, ⟨by (with_reducible repeat (first | refine blk_drewN ?_ _ | refine blk_drew ?_ | refine blk_alloc ?_ _)); exact BK103.out⟩, ⟨by (with_reducible repeat (first | refine blk_drewN ?_ _ | refine blk_drew ?_ | refine blk_alloc ?_ _)); exact BK104.out⟩, ⟨by (with_reducible repeat (first | refine blk_drewN ?_ _ | refine blk_drew ?_ | refine blk_alloc ?_ _)); exact BK107.out⟩, ⟨by repeat (first | (with_reducible first | exact HB.out | apply below_alloc | apply pw_below_drewN | apply below_drew1 | refine below_set ?_ GE103.out | refine below_set ?_ GE104.out | refine below_set ?_ GE107.out) | exact HB.out)⟩⟩
                case round =>
                  clear H'
                  try clear c1
                  try clear p1
                  try clear q1
                  try clear hx1
                  try clear c2
                  try clear p2
                  try clear c3
                  try clear c4
                  try clear c5
                  try clear c6
                  try clear c6b0
                  try clear p6
                  try clear c7
                  try clear c7b0
                  try clear p11
                  try clear q11
                  try clear hx11
                  try clear p12
                  try clear q12
                  try clear hx12
                  try clear c15
                  try clear c17
                  try clear c18
                  try clear c19
                  try clear c21
                  try clear c29
                  try clear c29b0
                  try clear c30
                  try clear c31
                  try clear c33
                  try clear c33b0
                  try clear c35
                  try clear c36
                  try clear c38
                  try clear c39
                  try clear c41
                  try clear c43
                  try clear c44
                  try clear c46
                  try clear c46b0
                  try clear c47
                  try clear c47b0
                  try clear c48
                  try clear c49
                  try clear c53
                  try clear c53b0
                  try clear c53b1
                  try clear c55
                  try clear c55b0
                  try clear c56
                  try clear c56b0
                  try clear c57
                  try clear c61
                  try clear c62
                  try clear p64
                  try clear c67
                  try clear c68
                  try clear c69
                  try clear hcz20_0
                  try clear hcz20_1
                  try clear hcz20_2
                  try clear hcz20_3
                  try clear hcz20_4
                  try clear hcz22_0
                  try clear hcz22_1
                  try clear hcz22_2
                  try clear hcz22_3
                  try clear hcz22_4
                  try clear hcz25_0
                  try clear hcz25_1
                  try clear hcz25_2
                  try clear hcz25_3
                  try clear hcz25_4
                  try clear hcz32_0
                  try clear hcz32_1
                  try clear hcz32_2
                  try clear hcz32_3
                  try clear hcz32_4
                  try clear hcz37_0
                  try clear hcz37_1
                  try clear hcz37_2
                  try clear hcz37_3
                  try clear hcz37_4
                  try clear hcz40_0
                  try clear hcz40_1
                  try clear hcz40_2
                  try clear hcz40_3
                  try clear hcz40_4
                  try clear hcz45_0
                  try clear hcz45_1
                  try clear hcz45_2
                  try clear hcz45_3
                  try clear hcz45_4
                  try clear hcz50_0
                  try clear hcz50_1
                  try clear hcz50_2
                  try clear hcz50_3
                  try clear hcz50_4
                  try clear hcz63_0
                  try clear hcz63_1
                  try clear hcz63_2
                  try clear hcz63_3
                  try clear hcz63_4
                  try clear hcz66_0
                  try clear hcz66_1
                  try clear hcz66_2
                  try clear hcz66_3
                  try clear hcz66_4
                  try clear hcz70_0
                  try clear hcz70_1
                  try clear hcz70_2
                  try clear hcz70_3
                  try clear hcz70_4
                  try clear hcz73_0
                  try clear hcz73_1
                  try clear hcz73_2
                  try clear hcz73_3
                  try clear hcz73_4
                  try clear hfz20_0
                  try clear hfz20_1
                  try clear hfz20_2
                  try clear hfz20_3
                  try clear hfz20_4
                  try clear hfz22_0
                  try clear hfz22_1
                  try clear hfz22_2
                  try clear hfz22_3
                  try clear hfz22_4
                  try clear hfz25_0
                  try clear hfz25_1
                  try clear hfz25_2
                  try clear hfz25_3
                  try clear hfz25_4
                  try clear hfz32_0
                  try clear hfz32_1
                  try clear hfz32_2
                  try clear hfz32_3
                  try clear hfz32_4
                  try clear hfz37_0
                  try clear hfz37_1
                  try clear hfz37_2
                  try clear hfz37_3
                  try clear hfz37_4
                  try clear hfz40_0
                  try clear hfz40_1
                  try clear hfz40_2
                  try clear hfz40_3
                  try clear hfz40_4
                  try clear hfz45_0
                  try clear hfz45_1
                  try clear hfz45_2
                  try clear hfz45_3
                  try clear hfz45_4
                  try clear hfz50_0
                  try clear hfz50_1
                  try clear hfz50_2
                  try clear hfz50_3
                  try clear hfz50_4
                  try clear hfz63_0
                  try clear hfz63_1
                  try clear hfz63_2
                  try clear hfz63_3
                  try clear hfz63_4
                  try clear hfz66_0
                  try clear hfz66_1
                  try clear hfz66_2
                  try clear hfz66_3
                  try clear hfz66_4
                  try clear hfz70_0
                  try clear hfz70_1
                  try clear hfz70_2
                  try clear hfz70_3
                  try clear hfz70_4
                  try clear hfz73_0
                  try clear hfz73_1
                  try clear hfz73_2
                  try clear hfz73_3
                  try clear hfz73_4
                  try clear hx112_0
                  try clear hx115_0
                  try clear hx122_0
                  try clear p1
                  try clear p11
                  try clear p112
                  try clear p115
                  try clear p122
                  try clear p2
                  try clear p6
                  try clear q1
                  try clear q11
                  try clear q112
                  try clear q115
                  try clear q122
                  obtain ⟨x10_3, x108003_3, u108003, rfl, HA, HK3, HO_108001, HO_108003, BK103, BK104, BK107, HB⟩ := hrel
                  cases gk with
                  | zero => exact absurd HA.out (by simp [interlocutorlaw4_Raw_Make.l1])
                  | succ k3 =>
                    have H := HA.out
                    clear HA
                    simp only [interlocutorlaw4_Raw_Make.l1] at H
                    by_cases c74 : x10_3 < (rd y109 t108)
                    · rw [if_pos c74] at H
                      have c74b0 : decide (x10_3 < (rd y109 t108)) = true := decide_eq_true c74
                      clear c74
                      by_cases c75 : x10_3 < (l0_4.length : Int)
                      · rw [if_pos c75] at H
                        have c75b0 : decide (x10_3 < (l0_4.length : Int)) = true := decide_eq_true c75
                        clear c75
                        by_cases c76 : 0 ≤ x10_3
                        · rw [if_pos c76] at H
                          have c76b0 : decide (0 ≤ x10_3) = true := decide_eq_true c76
                          clear c76
                          replace H := Option.bind_eq_some_iff.mp H
                          obtain ⟨t130, A770, H⟩ := H
                          replace H : (if x108003_3.length < 17592186044416 then (interlocutorlaw4_Raw_Make.l1 k3 (rd y109 t108) (wrap64 (x10_3 + 1)) a0_0 a0_1 a0_2 l0_3 l0_4 t105 x108001_1 t108 (x108003_3 ++ [t130]) t106) else (none)) = some (r1, r2, r3, r4, r5) := H
                          have A77 := Aside0.mk A770
                          clear A770
                          by_cases c78 : x108003_3.length < 17592186044416
                          · rw [if_pos c78] at H
                            have LMc78 := Aside0.mk c78
                            clear c78
                            obtain ⟨y131, hy131⟩ : ∃ y_ : List Int, y_ = (x108003_3 ++ [t130]) := ⟨_, rfl⟩
                            replace H : (interlocutorlaw4_Raw_Make.l1 k3 (rd y109 t108) (wrap64 (x10_3 + 1)) a0_0 a0_1 a0_2 l0_3 l0_4 t105 x108001_1 t108 y131 t106) = some (r1, r2, r3, r4, r5) := by first | (rw [hy131]; with_reducible exact H) | (have H2_ := (Option.bind_some _ _).symm.trans H; rw [hy131]; with_reducible exact H2_) | (have H2_ := (Option.bind_some _ _).symm.trans H; with_reducible exact H2_) | with_reducible exact H | (rw [hy131]; exact H) | exact H
                            have Ny131 := Aside0.mk hy131
                            clear hy131
                            have H' := Aside0.mk H
                            clear H
                            have hnb79 := NB103_104.out
                            have hnc79 := NB104_103.out
                            have hnb80 := NB103_107.out
                            have hnc80 := NB107_103.out
                            have hcz81_0 : wr.cell? ⟨gb103, 0, none⟩ = some (.int .i64 a0_0) := (blk_cell BK103.out 0).trans rfl
                            have hcz81_1 : wr.cell? ⟨gb103, 1, none⟩ = some (.int .i64 a0_1) := (blk_cell BK103.out 1).trans rfl
                            have hcz81_2 : wr.cell? ⟨gb103, 2, none⟩ = some (.int .i64 a0_2) := (blk_cell BK103.out 2).trans rfl
                            have hcz81_3 : wr.cell? ⟨gb103, 3, none⟩ = some (.slice A0_3 l0_3.length c0_3) := (blk_cell BK103.out 3).trans rfl
                            have hcz81_4 : wr.cell? ⟨gb103, 4, none⟩ = some (.slice A0_4 l0_4.length c0_4) := (blk_cell BK103.out 4).trans rfl
                            have hfz81_0 := blk_frozen BK103.out 0
                            have hfz81_1 := blk_frozen BK103.out 1
                            have hfz81_2 := blk_frozen BK103.out 2
                            have hfz81_3 := blk_frozen BK103.out 3
                            have hfz81_4 := blk_frozen BK103.out 4
                            have p129 : 0 ≤ (x10_3 : Int) := of_decide_eq_true (by first | (with_reducible assumption) | assumption)
                            have q129 : x10_3 < (l0_4.length : Int) := of_decide_eq_true (by first | (with_reducible assumption) | assumption)
                            obtain ⟨ad129, e129, hx129_0⟩ := Kd.at_int HR0_4.out x10_3 p129 q129
                            cases e129
                            replace hx129_0 := (HB.out.cell (World.block_lt_of_cell? w _ hx129_0)).trans hx129_0
                            replace p129 := eq_true p129
                            replace q129 := eq_true q129
                            try go_wp2
                            have n0_ := Aside0.mk (Kd.R_drew HO_108001.out)
                            have n1_ := Aside0.mk (Kd.R_drew HO_108003.out)
                            have n2_ := Aside0.mk (blk_drew BK103.out)
                            have n3_ := Aside0.mk (blk_drew BK104.out)
                            have n4_ := Aside0.mk (blk_drew BK107.out)
                            have n5_ := Aside0.mk (below_drew1 HB.out)
                            clear HO_108001
                            clear HO_108003
                            clear BK103
                            clear BK104
                            clear BK107
                            clear HB
                            have HO_108001 := n0_
                            have HO_108003 := n1_
                            have BK103 := n2_
                            have BK104 := n3_
                            have BK107 := n4_
                            have HB := n5_
                            clear n0_ n1_ n2_ n3_ n4_ n5_
                            obtain ⟨Ao83, co83, eo83⟩ := Kd.R_slice HO_108001.out
                            (first | subst eo83 | (injection eo83 with f1_ f2_ f3_; have f4_ := f1_.symm; have f5_ := f3_.symm; clear f1_ f2_ f3_; subst f4_; subst f5_))
                            refine start_ (n := 13) (S := fun w' => w'.cell? ⟨gb107, 0, none⟩ = some (.int .i64 t105) ∧ w'.cell? ⟨gb107, 1, none⟩ = some (.slice Ao83 x108001_1.length co83) ∧ w'.cell? ⟨gb107, 2, none⟩ = some (.int .i64 t108) ∧ w'.cell? ⟨gb107, 3, none⟩ = some (u108003) ∧ w'.cell? ⟨gb107, 4, none⟩ = some (.int .i64 t106)) (ds := [12]) #[false, false, false, false, false, false, false, false, false, false, false, false, false] (by kernel_rfl) rfl rfl ⟨(blk_cell BK107.out 0).trans rfl, (blk_cell BK107.out 1).trans rfl, (blk_cell BK107.out 2).trans rfl, (blk_cell BK107.out 3).trans rfl, (blk_cell BK107.out 4).trans rfl⟩ (fun hHeld => ?_); refine with_tabW interlocutorlaw4_Raw_Make.tab20 interlocutorlaw4_Raw_Make.bits20 (fun HT_ HW_ => ?_)
                            generalize wr.drew = w82 at HO_108001 HO_108003 BK103 BK104 BK107 HB hHeld ⊢
                            refine pure_ (i := 0) (N := some 99) (v := ?_) (a' := ?_) #[true, false, false, false, false, false, false, false, false, false, false, false, false] rfl rfl (any_of HT_.out (by kernel_rfl)) (fun _ _ _ h => h) (Or.inl ⟨by rfl, ?_⟩) ?_ ?_
                            rotate_left
                            · intro w'
                              go_simp
                              with_reducible rfl
                            rotate_left
                            · simp only [Act.put, List.setIfInBounds_toArray, List.set_cons_zero, List.set_cons_succ, i64_w, i32_w]
                              rfl
                            refine pure_ (i := 1) (N := some 100) (v := ?_) (a' := ?_) #[true, true, false, false, false, false, false, false, false, false, false, false, false] rfl rfl (any_of HT_.out (by kernel_rfl)) (fun _ _ _ h => h) (Or.inl ⟨by rfl, ?_⟩) ?_ ?_
                            rotate_left
                            · intro w'
                              go_simp
                              with_reducible rfl
                            rotate_left
                            · simp only [Act.put, List.setIfInBounds_toArray, List.set_cons_zero, List.set_cons_succ, i64_w, i32_w]
                              rfl
                            refine pure_ (i := 3) (N := some 102) (v := ?_) (a' := ?_) #[true, true, false, true, false, false, false, false, false, false, false, false, false] rfl rfl (any_of HT_.out (by kernel_rfl)) (fun _ _ _ h => h) (Or.inl ⟨by rfl, ?_⟩) ?_ ?_
                            rotate_left
                            · intro w'
                              go_simp
                              with_reducible rfl
                            rotate_left
                            · simp only [Act.put, List.setIfInBounds_toArray, List.set_cons_zero, List.set_cons_succ, i64_w, i32_w]
                              rfl
                            refine pure_ (i := 4) (N := some 103) (v := ?_) (a' := ?_) #[true, true, false, true, true, false, false, false, false, false, false, false, false] rfl rfl (any_of HT_.out (by kernel_rfl)) (fun _ _ _ h => h) (Or.inl ⟨by rfl, ?_⟩) ?_ ?_
                            rotate_left
                            · intro w'
                              go_simp
                              with_reducible rfl
                            rotate_left
                            · simp only [Act.put, List.setIfInBounds_toArray, List.set_cons_zero, List.set_cons_succ, i64_w, i32_w]
                              rfl
                            refine take_ (i := 2) (N := some 101) (v := ?_) (a' := ?_) #[true, true, true, true, true, false, false, false, false, false, false, false, false] rfl rfl (take_ofW HT_.out HW_.out (by kernel_rfl)) (fun _ _ _ h => h) (Or.inl ⟨by rfl, ?_⟩) hHeld ?_ ?_
                            rotate_left
                            · rintro w' ⟨s0, s1, s2, s3, s4⟩
                              go_simp
                              with_reducible rfl
                            rotate_left
                            · simp only [Act.put, List.setIfInBounds_toArray, List.set_cons_zero, List.set_cons_succ, i64_w, i32_w]
                              rfl
                            refine take_ (i := 5) (N := some 104) (v := ?_) (a' := ?_) #[true, true, true, true, true, true, false, false, false, false, false, false, false] rfl rfl (take_ofW HT_.out HW_.out (by kernel_rfl)) (fun _ _ _ h => h) (Or.inl ⟨by rfl, ?_⟩) hHeld ?_ ?_
                            rotate_left
                            · rintro w' ⟨s0, s1, s2, s3, s4⟩
                              go_simp
                              with_reducible rfl
                            rotate_left
                            · simp only [Act.put, List.setIfInBounds_toArray, List.set_cons_zero, List.set_cons_succ, i64_w, i32_w]
                              rfl
                            refine pure_ (i := 6) (N := some 105) (v := ?_) (a' := ?_) #[true, true, true, true, true, true, true, false, false, false, false, false, false] rfl rfl (any_of HT_.out (by kernel_rfl)) (fun _ _ _ h => h) (Or.inl ⟨by rfl, ?_⟩) ?_ ?_
                            rotate_left
                            · intro w'
                              go_simp
                              with_reducible rfl
                            rotate_left
                            · simp only [Act.put, List.setIfInBounds_toArray, List.set_cons_zero, List.set_cons_succ, i64_w, i32_w]
                              rfl
                            refine one_ (i := 7) (N := some 106) #[true, true, true, true, true, true, true, true, false, false, false, false, false] rfl rfl (one_of HT_.out (by kernel_rfl)) (by decide) (fun K hK => ?_)
                            refine goes_ Try.func17 (by kernel_rfl) rfl #[.int .i64 (rd l0_4 x10_3), .int .i64 (x108001_1.length : Int)] (by rfl) rfl rfl (by (try simp only [List.map_toArray, List.map_cons, List.map_nil]); first | done | rfl | (simp only [List.length_drop, List.length_take]; rfl)) ?_
                            with_reducible refine (interlocutorlaw4_within.calls (rd l0_4 x10_3) (x108001_1.length : Int) t130 _ A77.out).mono ?_
                            rintro e w' ⟨rfl, ⟨nd, rfl⟩⟩
                            refine ⟨_, rfl, ?_⟩
                            refine hK.out _ _ ⟨(blk_cell BK107.out 0).trans rfl, (blk_cell BK107.out 1).trans rfl, (blk_cell BK107.out 2).trans rfl, (blk_cell BK107.out 3).trans rfl, (blk_cell BK107.out 4).trans rfl⟩ (fun hHeld => ?_)
                            clear hK K
                            refine norm_ (a' := ?_) ?_ ?_
                            rotate_left
                            · show Act.put _ (some 106) _ = _
                              simp only [Act.put, List.setIfInBounds_toArray, List.set_cons_zero, List.set_cons_succ, i64_w, i32_w]
                              rfl
                            refine one_ (i := 8) (N := some 107) #[true, true, true, true, true, true, true, true, true, false, false, false, false] rfl rfl (one_of HT_.out (by kernel_rfl)) (by decide) (fun K hK => ?_)
                            refine value_ (w1 := ?_) (v := ?_) (by rfl) rfl ?_ ?_
                            rotate_left 2
                            · go_simp
                              constructor
                              · rfl
                              · rfl
                            refine hK.out _ _ ⟨(blk_cell (blk_alloc BK107.out _) 0).trans rfl, (blk_cell (blk_alloc BK107.out _) 1).trans rfl, (blk_cell (blk_alloc BK107.out _) 2).trans rfl, (blk_cell (blk_alloc BK107.out _) 3).trans rfl, (blk_cell (blk_alloc BK107.out _) 4).trans rfl⟩ (fun hHeld => ?_)
                            clear hK K
                            refine norm_ (a' := ?_) ?_ ?_
                            rotate_left
                            · show Act.put _ (some 107) _ = _
                              simp only [Act.put, List.setIfInBounds_toArray, List.set_cons_zero, List.set_cons_succ, i64_w, i32_w]
                              rfl
                            refine one_ (i := 9) (N := some 108) #[true, true, true, true, true, true, true, true, true, true, false, false, false] rfl rfl (one_of HT_.out (by kernel_rfl)) (by decide) (fun K hK => ?_)
                            refine Kd.R_append_step (Kd.int .i64) (w0 := w) w.heap.size (by rfl) (.tmp 101) (.tmp 107) 22 3 (.int .i64 0) 8 rfl Try.underlying22 info3 rfl (by decide) (by omega) u108003 x108003_3 t130 [.int .i64 t130] (fun k_ => some k_ ≠ (.slice Ao83 x108001_1.length co83 : Value).ownBlock) (fun _ => False) rfl rfl ?aP (fun _ hk => hk.elim) ?aF ?aO ?aB ?aS ?aL ?_
                            (case aP => exact rfl)
                            (case aB => exact (by repeat (first | (with_reducible first | exact HB.out | apply below_alloc | apply pw_below_drewN | apply below_drew1 | refine below_set ?_ GE103.out | refine below_set ?_ GE104.out | refine below_set ?_ GE107.out) | exact HB.out)))
                            (case aF => exact (fun k_ hk => Kd.fresh' (Kd.R_lt (by (with_reducible repeat (first | apply Kd.R_alloc | apply Kd.R_drewN | apply Kd.R_drew)); exact HO_108001.out)) k_ hk))
                            (case aO => exact (by (with_reducible repeat (first | apply Kd.R_alloc | apply Kd.R_drewN | apply Kd.R_drew)); exact HO_108003.out))
                            (case aS => exact (below_size (by repeat (first | (with_reducible first | exact HB.out | apply below_alloc | apply pw_below_drewN | apply below_drew1 | refine below_set ?_ GE103.out | refine below_set ?_ GE104.out | refine below_set ?_ GE107.out) | exact HB.out))))
                            (case aL => have := LMc78.out; omega)
                            intro v132 w84 ho hb hg hat
                            rw [← Ny131.out] at ho
                            have n0_ := Aside0.mk (Kd.R_after (ok := (fun _ => True)) (by (with_reducible repeat (first | apply Kd.R_alloc | apply Kd.R_drewN | apply Kd.R_drew)); exact Kd.R_mono HO_108001.out (fun _ hk => ⟨trivial, hk⟩)) hg hat)
                            have n1_ := Aside0.mk (blk_grown (g := gb103) (o := .cells #[.int .i64 a0_0, .int .i64 a0_1, .int .i64 a0_2, .slice A0_3 l0_3.length c0_3, .slice (some ad129) l0_4.length c0_4] 31 (0, 0)) (by (with_reducible repeat (first | refine blk_drewN ?_ _ | refine blk_drew ?_ | refine blk_alloc ?_ _)); exact BK103.out) hg (Kd.R_ne HO_108003.out BK103.out (by decide)))
                            have n2_ := Aside0.mk (blk_grown (g := gb104) (o := .cells #[.int .i64 0, .slice none 0 0, .int .i64 0, .slice none 0 0, .int .i64 0] 26 (0, 0)) (by (with_reducible repeat (first | refine blk_drewN ?_ _ | refine blk_drew ?_ | refine blk_alloc ?_ _)); exact BK104.out) hg (Kd.R_ne HO_108003.out BK104.out (by decide)))
                            have n3_ := Aside0.mk (blk_grown (g := gb107) (o := .cells #[.int .i64 t105, .slice Ao83 x108001_1.length co83, .int .i64 t108, u108003, .int .i64 t106] 26 (0, 0)) (by (with_reducible repeat (first | refine blk_drewN ?_ _ | refine blk_drew ?_ | refine blk_alloc ?_ _)); exact BK107.out) hg (Kd.R_ne HO_108003.out BK107.out (by decide)))
                            have n4_ := Aside0.mk (hb)
                            have n5_ := Aside0.mk (ho)
                            clear HO_108001
                            clear BK103
                            clear BK104
                            clear BK107
                            clear HB
                            clear HO_108003
                            have HO_108001 := n0_
                            have BK103 := n1_
                            have BK104 := n2_
                            have BK107 := n3_
                            have HB := n4_
                            have HO133 := n5_
                            clear n0_ n1_ n2_ n3_ n4_ n5_
                            clear ho hb hg hat
                            obtain ⟨Ao85, co85, eo85⟩ := Kd.R_slice HO133.out
                            (first | subst eo85 | (injection eo85 with f1_ f2_ f3_; have f4_ := f1_.symm; have f5_ := f3_.symm; clear f1_ f2_ f3_; subst f4_; subst f5_))
                            refine hK.out _ _ ⟨(blk_cell BK107.out 0).trans rfl, (blk_cell BK107.out 1).trans rfl, (blk_cell BK107.out 2).trans rfl, (blk_cell BK107.out 3).trans rfl, (blk_cell BK107.out 4).trans rfl⟩ (fun hHeld => ?_)
                            clear hK K
                            refine norm_ (a' := ?_) ?_ ?_
                            rotate_left
                            · show Act.put _ (some 108) _ = _
                              simp only [Act.put, List.setIfInBounds_toArray, List.set_cons_zero, List.set_cons_succ, i64_w, i32_w]
                              rfl
                            refine pure_ (i := 10) (N := some 109) (v := ?_) (a' := ?_) #[true, true, true, true, true, true, true, true, true, true, true, false, false] rfl rfl (any_of HT_.out (by kernel_rfl)) (fun _ _ _ h => h) (Or.inl ⟨by rfl, ?_⟩) ?_ ?_
                            rotate_left
                            · intro w'
                              go_simp
                              with_reducible rfl
                            rotate_left
                            · simp only [Act.put, List.setIfInBounds_toArray, List.set_cons_zero, List.set_cons_succ, i64_w, i32_w]
                              rfl
                            refine pure_ (i := 11) (N := some 110) (v := ?_) (a' := ?_) #[true, true, true, true, true, true, true, true, true, true, true, true, false] rfl rfl (any_of HT_.out (by kernel_rfl)) (fun _ _ _ h => h) (Or.inl ⟨by rfl, ?_⟩) ?_ ?_
                            rotate_left
                            · intro w'
                              go_simp
                              with_reducible rfl
                            rotate_left
                            · simp only [Act.put, List.setIfInBounds_toArray, List.set_cons_zero, List.set_cons_succ, i64_w, i32_w]
                              rfl
                            refine last_ (i := 12) (N := none) #[true, true, true, true, true, true, true, true, true, true, true, true, true] rfl rfl (one_of HT_.out (by kernel_rfl)) (by decide) (fun K hK => ?_)
                            have hs86 : w84.cell? ⟨gb107, 3, none⟩ = some (u108003) := (blk_cell BK107.out 3).trans rfl
                            have hfs86 := blk_frozen BK107.out 3
                            have hns86_0 := NB103_107.out
                            have hns86_1 := NB104_107.out
                            have hms86_0 := NB107_103.out
                            have hms86_1 := NB107_104.out
                            refine skip_ (w1 := ?_) (by rfl) rfl ?_ ?_
                            rotate_left
                            · go_simp
                              rfl
                            refine hK.out _ _ ?_
                            clear hK K
                            refine done_ (done_of HT_.out (by kernel_rfl)) ?_
                            try go_wp2
                            go_roundg k3
                            case measure => have := HK1.out; have := HJ26.out; have := HK3.out; omega
                            case rel => exact ⟨(wrap64 (x10_3 + 1)), (y131), (.slice Ao85 y131.length co85), (by first | rfl | (simp; done) | (simp [*]; done)), H', ⟨by have := HK1.out; have := HJ26.out; have := HK3.out; omega⟩, ⟨by (with_reducible repeat (first | apply Kd.R_alloc | apply Kd.R_drewN | apply Kd.R_drew)); exact Kd.R_mono (Kd.R_far (p := ⟨gb107, 3, none⟩) (Kd.R_types HO_108001.out BK107.out (by decide)) (fun _ hk => hk.2) (.slice Ao85 y131.length co85)) (fun _ hk => hk.1.2)⟩, ⟨by (with_reducible repeat (first | apply Kd.R_alloc | apply Kd.R_drewN | apply Kd.R_drew)); exact Kd.R_mono (Kd.R_far (p := ⟨gb107, 3, none⟩) (Kd.R_types HO133.out BK107.out (by decide)) (fun _ hk => hk.2) (.slice Ao85 y131.length co85)) (fun _ hk => hk.1)⟩, ⟨by (with_reducible repeat (first | refine blk_drewN ?_ _ | refine blk_drew ?_ | refine blk_alloc ?_ _)); refine blk_far ?_ NB103_107.out _; (with_reducible repeat (first | refine blk_drewN ?_ _ | refine blk_drew ?_ | refine blk_alloc ?_ _)); exact BK103.out⟩, ⟨by (with_reducible repeat (first | refine blk_drewN ?_ _ | refine blk_drew ?_ | refine blk_alloc ?_ _)); refine blk_far ?_ NB104_107.out _; (with_reducible repeat (first | refine blk_drewN ?_ _ | refine blk_drew ?_ | refine blk_alloc ?_ _)); exact BK104.out⟩, ⟨by (with_reducible repeat (first | refine blk_drewN ?_ _ | refine blk_drew ?_ | refine blk_alloc ?_ _)); refine blk_put (cs := #[.int .i64 t105, .slice Ao83 x108001_1.length co83, .int .i64 t108, u108003, .int .i64 t106]) ?_ 3 _ rfl; (with_reducible repeat (first | refine blk_drewN ?_ _ | refine blk_drew ?_ | refine blk_alloc ?_ _)); exact BK107.out⟩, ⟨by repeat (first | (with_reducible first | exact HB.out | apply below_alloc | apply pw_below_drewN | apply below_drew1 | refine below_set ?_ GE103.out | refine below_set ?_ GE104.out | refine below_set ?_ GE107.out) | exact HB.out)⟩⟩
                          · rw [if_neg c78] at H
                            exact absurd H (by simp)
                        · rw [if_neg c76] at H
                          exact absurd H (by simp)
                      · rw [if_neg c75] at H
                        have c75b0 : decide (x10_3 < (l0_4.length : Int)) = false := decide_eq_false c75
                        clear c75
                        replace H := Option.bind_eq_some_iff.mp H
                        obtain ⟨t134, A870, H⟩ := H
                        replace H : (if x108003_3.length < 17592186044416 then (interlocutorlaw4_Raw_Make.l1 k3 (rd y109 t108) (wrap64 (x10_3 + 1)) a0_0 a0_1 a0_2 l0_3 l0_4 t105 x108001_1 t108 (x108003_3 ++ [t134]) t106) else (none)) = some (r1, r2, r3, r4, r5) := H
                        have A87 := Aside0.mk A870
                        clear A870
                        by_cases c88 : x108003_3.length < 17592186044416
                        · rw [if_pos c88] at H
                          have LMc88 := Aside0.mk c88
                          clear c88
                          obtain ⟨y135, hy135⟩ : ∃ y_ : List Int, y_ = (x108003_3 ++ [t134]) := ⟨_, rfl⟩
                          replace H : (interlocutorlaw4_Raw_Make.l1 k3 (rd y109 t108) (wrap64 (x10_3 + 1)) a0_0 a0_1 a0_2 l0_3 l0_4 t105 x108001_1 t108 y135 t106) = some (r1, r2, r3, r4, r5) := by first | (rw [hy135]; with_reducible exact H) | (have H2_ := (Option.bind_some _ _).symm.trans H; rw [hy135]; with_reducible exact H2_) | (have H2_ := (Option.bind_some _ _).symm.trans H; with_reducible exact H2_) | with_reducible exact H | (rw [hy135]; exact H) | exact H
                          have Ny135 := Aside0.mk hy135
                          clear hy135
                          have H' := Aside0.mk H
                          clear H
                          have hnb89 := NB103_104.out
                          have hnc89 := NB104_103.out
                          have hnb90 := NB103_107.out
                          have hnc90 := NB107_103.out
                          have hcz91_0 : wr.cell? ⟨gb103, 0, none⟩ = some (.int .i64 a0_0) := (blk_cell BK103.out 0).trans rfl
                          have hcz91_1 : wr.cell? ⟨gb103, 1, none⟩ = some (.int .i64 a0_1) := (blk_cell BK103.out 1).trans rfl
                          have hcz91_2 : wr.cell? ⟨gb103, 2, none⟩ = some (.int .i64 a0_2) := (blk_cell BK103.out 2).trans rfl
                          have hcz91_3 : wr.cell? ⟨gb103, 3, none⟩ = some (.slice A0_3 l0_3.length c0_3) := (blk_cell BK103.out 3).trans rfl
                          have hcz91_4 : wr.cell? ⟨gb103, 4, none⟩ = some (.slice A0_4 l0_4.length c0_4) := (blk_cell BK103.out 4).trans rfl
                          have hfz91_0 := blk_frozen BK103.out 0
                          have hfz91_1 := blk_frozen BK103.out 1
                          have hfz91_2 := blk_frozen BK103.out 2
                          have hfz91_3 := blk_frozen BK103.out 3
                          have hfz91_4 := blk_frozen BK103.out 4
                          try go_wp2
                          have n0_ := Aside0.mk (Kd.R_drew HO_108001.out)
                          have n1_ := Aside0.mk (Kd.R_drew HO_108003.out)
                          have n2_ := Aside0.mk (blk_drew BK103.out)
                          have n3_ := Aside0.mk (blk_drew BK104.out)
                          have n4_ := Aside0.mk (blk_drew BK107.out)
                          have n5_ := Aside0.mk (below_drew1 HB.out)
                          clear HO_108001
                          clear HO_108003
                          clear BK103
                          clear BK104
                          clear BK107
                          clear HB
                          have HO_108001 := n0_
                          have HO_108003 := n1_
                          have BK103 := n2_
                          have BK104 := n3_
                          have BK107 := n4_
                          have HB := n5_
                          clear n0_ n1_ n2_ n3_ n4_ n5_
                          obtain ⟨Ao93, co93, eo93⟩ := Kd.R_slice HO_108001.out
                          (first | subst eo93 | (injection eo93 with f1_ f2_ f3_; have f4_ := f1_.symm; have f5_ := f3_.symm; clear f1_ f2_ f3_; subst f4_; subst f5_))
                          refine start_ (n := 13) (S := fun w' => w'.cell? ⟨gb107, 0, none⟩ = some (.int .i64 t105) ∧ w'.cell? ⟨gb107, 1, none⟩ = some (.slice Ao93 x108001_1.length co93) ∧ w'.cell? ⟨gb107, 2, none⟩ = some (.int .i64 t108) ∧ w'.cell? ⟨gb107, 3, none⟩ = some (u108003) ∧ w'.cell? ⟨gb107, 4, none⟩ = some (.int .i64 t106)) (ds := [12]) #[false, false, false, false, false, false, false, false, false, false, false, false, false] (by kernel_rfl) rfl rfl ⟨(blk_cell BK107.out 0).trans rfl, (blk_cell BK107.out 1).trans rfl, (blk_cell BK107.out 2).trans rfl, (blk_cell BK107.out 3).trans rfl, (blk_cell BK107.out 4).trans rfl⟩ (fun hHeld => ?_); refine with_tabW interlocutorlaw4_Raw_Make.tab20 interlocutorlaw4_Raw_Make.bits20 (fun HT_ HW_ => ?_)
                          generalize wr.drew = w92 at HO_108001 HO_108003 BK103 BK104 BK107 HB hHeld ⊢
                          refine pure_ (i := 0) (N := some 99) (v := ?_) (a' := ?_) #[true, false, false, false, false, false, false, false, false, false, false, false, false] rfl rfl (any_of HT_.out (by kernel_rfl)) (fun _ _ _ h => h) (Or.inl ⟨by rfl, ?_⟩) ?_ ?_
                          rotate_left
                          · intro w'
                            go_simp
                            with_reducible rfl
                          rotate_left
                          · simp only [Act.put, List.setIfInBounds_toArray, List.set_cons_zero, List.set_cons_succ, i64_w, i32_w]
                            rfl
                          refine pure_ (i := 1) (N := some 100) (v := ?_) (a' := ?_) #[true, true, false, false, false, false, false, false, false, false, false, false, false] rfl rfl (any_of HT_.out (by kernel_rfl)) (fun _ _ _ h => h) (Or.inl ⟨by rfl, ?_⟩) ?_ ?_
                          rotate_left
                          · intro w'
                            go_simp
                            with_reducible rfl
                          rotate_left
                          · simp only [Act.put, List.setIfInBounds_toArray, List.set_cons_zero, List.set_cons_succ, i64_w, i32_w]
                            rfl
                          refine pure_ (i := 3) (N := some 102) (v := ?_) (a' := ?_) #[true, true, false, true, false, false, false, false, false, false, false, false, false] rfl rfl (any_of HT_.out (by kernel_rfl)) (fun _ _ _ h => h) (Or.inl ⟨by rfl, ?_⟩) ?_ ?_
                          rotate_left
                          · intro w'
                            go_simp
                            with_reducible rfl
                          rotate_left
                          · simp only [Act.put, List.setIfInBounds_toArray, List.set_cons_zero, List.set_cons_succ, i64_w, i32_w]
                            rfl
                          refine pure_ (i := 4) (N := some 103) (v := ?_) (a' := ?_) #[true, true, false, true, true, false, false, false, false, false, false, false, false] rfl rfl (any_of HT_.out (by kernel_rfl)) (fun _ _ _ h => h) (Or.inl ⟨by rfl, ?_⟩) ?_ ?_
                          rotate_left
                          · intro w'
                            go_simp
                            with_reducible rfl
                          rotate_left
                          · simp only [Act.put, List.setIfInBounds_toArray, List.set_cons_zero, List.set_cons_succ, i64_w, i32_w]
                            rfl
                          refine take_ (i := 2) (N := some 101) (v := ?_) (a' := ?_) #[true, true, true, true, true, false, false, false, false, false, false, false, false] rfl rfl (take_ofW HT_.out HW_.out (by kernel_rfl)) (fun _ _ _ h => h) (Or.inl ⟨by rfl, ?_⟩) hHeld ?_ ?_
                          rotate_left
                          · rintro w' ⟨s0, s1, s2, s3, s4⟩
                            go_simp
                            with_reducible rfl
                          rotate_left
                          · simp only [Act.put, List.setIfInBounds_toArray, List.set_cons_zero, List.set_cons_succ, i64_w, i32_w]
                            rfl
                          refine take_ (i := 5) (N := some 104) (v := ?_) (a' := ?_) #[true, true, true, true, true, true, false, false, false, false, false, false, false] rfl rfl (take_ofW HT_.out HW_.out (by kernel_rfl)) (fun _ _ _ h => h) (Or.inl ⟨by rfl, ?_⟩) hHeld ?_ ?_
                          rotate_left
                          · rintro w' ⟨s0, s1, s2, s3, s4⟩
                            go_simp
                            with_reducible rfl
                          rotate_left
                          · simp only [Act.put, List.setIfInBounds_toArray, List.set_cons_zero, List.set_cons_succ, i64_w, i32_w]
                            rfl
                          refine pure_ (i := 6) (N := some 105) (v := ?_) (a' := ?_) #[true, true, true, true, true, true, true, false, false, false, false, false, false] rfl rfl (any_of HT_.out (by kernel_rfl)) (fun _ _ _ h => h) (Or.inl ⟨by rfl, ?_⟩) ?_ ?_
                          rotate_left
                          · intro w'
                            go_simp
                            with_reducible rfl
                          rotate_left
                          · simp only [Act.put, List.setIfInBounds_toArray, List.set_cons_zero, List.set_cons_succ, i64_w, i32_w]
                            rfl
                          refine one_ (i := 7) (N := some 106) #[true, true, true, true, true, true, true, true, false, false, false, false, false] rfl rfl (one_of HT_.out (by kernel_rfl)) (by decide) (fun K hK => ?_)
                          refine goes_ Try.func17 (by kernel_rfl) rfl #[.int .i64 x10_3, .int .i64 (x108001_1.length : Int)] (by rfl) rfl rfl (by (try simp only [List.map_toArray, List.map_cons, List.map_nil]); first | done | rfl | (simp only [List.length_drop, List.length_take]; rfl)) ?_
                          with_reducible refine (interlocutorlaw4_within.calls x10_3 (x108001_1.length : Int) t134 _ A87.out).mono ?_
                          rintro e w' ⟨rfl, ⟨nd, rfl⟩⟩
                          refine ⟨_, rfl, ?_⟩
                          refine hK.out _ _ ⟨(blk_cell BK107.out 0).trans rfl, (blk_cell BK107.out 1).trans rfl, (blk_cell BK107.out 2).trans rfl, (blk_cell BK107.out 3).trans rfl, (blk_cell BK107.out 4).trans rfl⟩ (fun hHeld => ?_)
                          clear hK K
                          refine norm_ (a' := ?_) ?_ ?_
                          rotate_left
                          · show Act.put _ (some 106) _ = _
                            simp only [Act.put, List.setIfInBounds_toArray, List.set_cons_zero, List.set_cons_succ, i64_w, i32_w]
                            rfl
                          refine one_ (i := 8) (N := some 107) #[true, true, true, true, true, true, true, true, true, false, false, false, false] rfl rfl (one_of HT_.out (by kernel_rfl)) (by decide) (fun K hK => ?_)
                          refine value_ (w1 := ?_) (v := ?_) (by rfl) rfl ?_ ?_
                          rotate_left 2
                          · go_simp
                            constructor
                            · rfl
                            · rfl
                          refine hK.out _ _ ⟨(blk_cell (blk_alloc BK107.out _) 0).trans rfl, (blk_cell (blk_alloc BK107.out _) 1).trans rfl, (blk_cell (blk_alloc BK107.out _) 2).trans rfl, (blk_cell (blk_alloc BK107.out _) 3).trans rfl, (blk_cell (blk_alloc BK107.out _) 4).trans rfl⟩ (fun hHeld => ?_)
                          clear hK K
                          refine norm_ (a' := ?_) ?_ ?_
                          rotate_left
                          · show Act.put _ (some 107) _ = _
                            simp only [Act.put, List.setIfInBounds_toArray, List.set_cons_zero, List.set_cons_succ, i64_w, i32_w]
                            rfl
                          refine one_ (i := 9) (N := some 108) #[true, true, true, true, true, true, true, true, true, true, false, false, false] rfl rfl (one_of HT_.out (by kernel_rfl)) (by decide) (fun K hK => ?_)
                          refine Kd.R_append_step (Kd.int .i64) (w0 := w) w.heap.size (by rfl) (.tmp 101) (.tmp 107) 22 3 (.int .i64 0) 8 rfl Try.underlying22 info3 rfl (by decide) (by omega) u108003 x108003_3 t134 [.int .i64 t134] (fun k_ => some k_ ≠ (.slice Ao93 x108001_1.length co93 : Value).ownBlock) (fun _ => False) rfl rfl ?aP (fun _ hk => hk.elim) ?aF ?aO ?aB ?aS ?aL ?_
                          (case aP => exact rfl)
                          (case aB => exact (by repeat (first | (with_reducible first | exact HB.out | apply below_alloc | apply pw_below_drewN | apply below_drew1 | refine below_set ?_ GE103.out | refine below_set ?_ GE104.out | refine below_set ?_ GE107.out) | exact HB.out)))
                          (case aF => exact (fun k_ hk => Kd.fresh' (Kd.R_lt (by (with_reducible repeat (first | apply Kd.R_alloc | apply Kd.R_drewN | apply Kd.R_drew)); exact HO_108001.out)) k_ hk))
                          (case aO => exact (by (with_reducible repeat (first | apply Kd.R_alloc | apply Kd.R_drewN | apply Kd.R_drew)); exact HO_108003.out))
                          (case aS => exact (below_size (by repeat (first | (with_reducible first | exact HB.out | apply below_alloc | apply pw_below_drewN | apply below_drew1 | refine below_set ?_ GE103.out | refine below_set ?_ GE104.out | refine below_set ?_ GE107.out) | exact HB.out))))
                          (case aL => have := LMc88.out; omega)
                          intro v136 w94 ho hb hg hat
                          rw [← Ny135.out] at ho
                          have n0_ := Aside0.mk (Kd.R_after (ok := (fun _ => True)) (by (with_reducible repeat (first | apply Kd.R_alloc | apply Kd.R_drewN | apply Kd.R_drew)); exact Kd.R_mono HO_108001.out (fun _ hk => ⟨trivial, hk⟩)) hg hat)
                          have n1_ := Aside0.mk (blk_grown (g := gb103) (o := .cells #[.int .i64 a0_0, .int .i64 a0_1, .int .i64 a0_2, .slice A0_3 l0_3.length c0_3, .slice A0_4 l0_4.length c0_4] 31 (0, 0)) (by (with_reducible repeat (first | refine blk_drewN ?_ _ | refine blk_drew ?_ | refine blk_alloc ?_ _)); exact BK103.out) hg (Kd.R_ne HO_108003.out BK103.out (by decide)))
                          have n2_ := Aside0.mk (blk_grown (g := gb104) (o := .cells #[.int .i64 0, .slice none 0 0, .int .i64 0, .slice none 0 0, .int .i64 0] 26 (0, 0)) (by (with_reducible repeat (first | refine blk_drewN ?_ _ | refine blk_drew ?_ | refine blk_alloc ?_ _)); exact BK104.out) hg (Kd.R_ne HO_108003.out BK104.out (by decide)))
                          have n3_ := Aside0.mk (blk_grown (g := gb107) (o := .cells #[.int .i64 t105, .slice Ao93 x108001_1.length co93, .int .i64 t108, u108003, .int .i64 t106] 26 (0, 0)) (by (with_reducible repeat (first | refine blk_drewN ?_ _ | refine blk_drew ?_ | refine blk_alloc ?_ _)); exact BK107.out) hg (Kd.R_ne HO_108003.out BK107.out (by decide)))
                          have n4_ := Aside0.mk (hb)
                          have n5_ := Aside0.mk (ho)
                          clear HO_108001
                          clear BK103
                          clear BK104
                          clear BK107
                          clear HB
                          clear HO_108003
                          have HO_108001 := n0_
                          have BK103 := n1_
                          have BK104 := n2_
                          have BK107 := n3_
                          have HB := n4_
                          have HO137 := n5_
                          clear n0_ n1_ n2_ n3_ n4_ n5_
                          clear ho hb hg hat
                          obtain ⟨Ao95, co95, eo95⟩ := Kd.R_slice HO137.out
                          (first | subst eo95 | (injection eo95 with f1_ f2_ f3_; have f4_ := f1_.symm; have f5_ := f3_.symm; clear f1_ f2_ f3_; subst f4_; subst f5_))
                          refine hK.out _ _ ⟨(blk_cell BK107.out 0).trans rfl, (blk_cell BK107.out 1).trans rfl, (blk_cell BK107.out 2).trans rfl, (blk_cell BK107.out 3).trans rfl, (blk_cell BK107.out 4).trans rfl⟩ (fun hHeld => ?_)
                          clear hK K
                          refine norm_ (a' := ?_) ?_ ?_
                          rotate_left
                          · show Act.put _ (some 108) _ = _
                            simp only [Act.put, List.setIfInBounds_toArray, List.set_cons_zero, List.set_cons_succ, i64_w, i32_w]
                            rfl
                          refine pure_ (i := 10) (N := some 109) (v := ?_) (a' := ?_) #[true, true, true, true, true, true, true, true, true, true, true, false, false] rfl rfl (any_of HT_.out (by kernel_rfl)) (fun _ _ _ h => h) (Or.inl ⟨by rfl, ?_⟩) ?_ ?_
                          rotate_left
                          · intro w'
                            go_simp
                            with_reducible rfl
                          rotate_left
                          · simp only [Act.put, List.setIfInBounds_toArray, List.set_cons_zero, List.set_cons_succ, i64_w, i32_w]
                            rfl
                          refine pure_ (i := 11) (N := some 110) (v := ?_) (a' := ?_) #[true, true, true, true, true, true, true, true, true, true, true, true, false] rfl rfl (any_of HT_.out (by kernel_rfl)) (fun _ _ _ h => h) (Or.inl ⟨by rfl, ?_⟩) ?_ ?_
                          rotate_left
                          · intro w'
                            go_simp
                            with_reducible rfl
                          rotate_left
                          · simp only [Act.put, List.setIfInBounds_toArray, List.set_cons_zero, List.set_cons_succ, i64_w, i32_w]
                            rfl
                          refine last_ (i := 12) (N := none) #[true, true, true, true, true, true, true, true, true, true, true, true, true] rfl rfl (one_of HT_.out (by kernel_rfl)) (by decide) (fun K hK => ?_)
                          have hs96 : w94.cell? ⟨gb107, 3, none⟩ = some (u108003) := (blk_cell BK107.out 3).trans rfl
                          have hfs96 := blk_frozen BK107.out 3
                          have hns96_0 := NB103_107.out
                          have hns96_1 := NB104_107.out
                          have hms96_0 := NB107_103.out
                          have hms96_1 := NB107_104.out
                          refine skip_ (w1 := ?_) (by rfl) rfl ?_ ?_
                          rotate_left
                          · go_simp
                            rfl
                          refine hK.out _ _ ?_
                          clear hK K
                          refine done_ (done_of HT_.out (by kernel_rfl)) ?_
                          try go_wp2
                          go_roundg k3
                          case measure => have := HK1.out; have := HJ26.out; have := HK3.out; omega
                          case rel => exact ⟨(wrap64 (x10_3 + 1)), (y135), (.slice Ao95 y135.length co95), (by first | rfl | (simp; done) | (simp [*]; done)), H', ⟨by have := HK1.out; have := HJ26.out; have := HK3.out; omega⟩, ⟨by (with_reducible repeat (first | apply Kd.R_alloc | apply Kd.R_drewN | apply Kd.R_drew)); exact Kd.R_mono (Kd.R_far (p := ⟨gb107, 3, none⟩) (Kd.R_types HO_108001.out BK107.out (by decide)) (fun _ hk => hk.2) (.slice Ao95 y135.length co95)) (fun _ hk => hk.1.2)⟩, ⟨by (with_reducible repeat (first | apply Kd.R_alloc | apply Kd.R_drewN | apply Kd.R_drew)); exact Kd.R_mono (Kd.R_far (p := ⟨gb107, 3, none⟩) (Kd.R_types HO137.out BK107.out (by decide)) (fun _ hk => hk.2) (.slice Ao95 y135.length co95)) (fun _ hk => hk.1)⟩, ⟨by (with_reducible repeat (first | refine blk_drewN ?_ _ | refine blk_drew ?_ | refine blk_alloc ?_ _)); refine blk_far ?_ NB103_107.out _; (with_reducible repeat (first | refine blk_drewN ?_ _ | refine blk_drew ?_ | refine blk_alloc ?_ _)); exact BK103.out⟩, ⟨by (with_reducible repeat (first | refine blk_drewN ?_ _ | refine blk_drew ?_ | refine blk_alloc ?_ _)); refine blk_far ?_ NB104_107.out _; (with_reducible repeat (first | refine blk_drewN ?_ _ | refine blk_drew ?_ | refine blk_alloc ?_ _)); exact BK104.out⟩, ⟨by (with_reducible repeat (first | refine blk_drewN ?_ _ | refine blk_drew ?_ | refine blk_alloc ?_ _)); refine blk_put (cs := #[.int .i64 t105, .slice Ao93 x108001_1.length co93, .int .i64 t108, u108003, .int .i64 t106]) ?_ 3 _ rfl; (with_reducible repeat (first | refine blk_drewN ?_ _ | refine blk_drew ?_ | refine blk_alloc ?_ _)); exact BK107.out⟩, ⟨by repeat (first | (with_reducible first | exact HB.out | apply below_alloc | apply pw_below_drewN | apply below_drew1 | refine below_set ?_ GE103.out | refine below_set ?_ GE104.out | refine below_set ?_ GE107.out) | exact HB.out)⟩⟩
                        · rw [if_neg c88] at H
                          exact absurd H (by simp)
                    · rw [if_neg c74] at H
                      have c74b0 : decide (x10_3 < (rd y109 t108)) = false := decide_eq_false c74
                      clear c74
                      simp only [Option.some.injEq, Prod.mk.injEq] at H
                      obtain ⟨rfl, rfl, rfl, rfl, rfl⟩ := H
                      have hnb97 := NB107_103.out
                      have hnc97 := NB103_107.out
                      have hnb98 := NB107_104.out
                      have hnc98 := NB104_107.out
                      have hcz99_0 : wr.cell? ⟨gb107, 0, none⟩ = some (.int .i64 t105) := (blk_cell BK107.out 0).trans rfl
                      have hcz99_1 : wr.cell? ⟨gb107, 1, none⟩ = some (u108001) := (blk_cell BK107.out 1).trans rfl
                      have hcz99_2 : wr.cell? ⟨gb107, 2, none⟩ = some (.int .i64 t108) := (blk_cell BK107.out 2).trans rfl
                      have hcz99_3 : wr.cell? ⟨gb107, 3, none⟩ = some (u108003) := (blk_cell BK107.out 3).trans rfl
                      have hcz99_4 : wr.cell? ⟨gb107, 4, none⟩ = some (.int .i64 t106) := (blk_cell BK107.out 4).trans rfl
                      have hfz99_0 := blk_frozen BK107.out 0
                      have hfz99_1 := blk_frozen BK107.out 1
                      have hfz99_2 := blk_frozen BK107.out 2
                      have hfz99_3 := blk_frozen BK107.out 3
                      have hfz99_4 := blk_frozen BK107.out 4
                      have hnb100 := NB104_103.out
                      have hnc100 := NB103_104.out
                      have hcz101_0 : wr.cell? ⟨gb104, 0, none⟩ = some (.int .i64 0) := (blk_cell BK104.out 0).trans rfl
                      have hcz101_1 : wr.cell? ⟨gb104, 1, none⟩ = some (.slice none 0 0) := (blk_cell BK104.out 1).trans rfl
                      have hcz101_2 : wr.cell? ⟨gb104, 2, none⟩ = some (.int .i64 0) := (blk_cell BK104.out 2).trans rfl
                      have hcz101_3 : wr.cell? ⟨gb104, 3, none⟩ = some (.slice none 0 0) := (blk_cell BK104.out 3).trans rfl
                      have hcz101_4 : wr.cell? ⟨gb104, 4, none⟩ = some (.int .i64 0) := (blk_cell BK104.out 4).trans rfl
                      have hfz101_0 := blk_frozen BK104.out 0
                      have hfz101_1 := blk_frozen BK104.out 1
                      have hfz101_2 := blk_frozen BK104.out 2
                      have hfz101_3 := blk_frozen BK104.out 3
                      have hfz101_4 := blk_frozen BK104.out 4
                      obtain ⟨Ao102, co102, eo102⟩ := Kd.R_slice HO_108001.out
                      subst eo102
                      obtain ⟨Ao103, co103, eo103⟩ := Kd.R_slice HO_108003.out
                      subst eo103
                      go_wp2
                      refine bodyPost_ret (results_cell_row rfl _ _ gb104 26 #[.int .i64 t105, .slice Ao102 x108001_1.length co102, .int .i64 t108, .slice Ao103 x108003_3.length co103, .int .i64 t106] (0, 0) _ rfl (by (with_reducible repeat (first | refine blk_drewN ?_ _ | refine blk_drew ?_ | refine blk_alloc ?_ _)); refine blk_put (cs := #[.int .i64 t105, .slice Ao102 x108001_1.length co102, .int .i64 t108, .slice Ao103 x108003_3.length co103, .int .i64 0]) ?_ 4 _ rfl; (with_reducible repeat (first | refine blk_drewN ?_ _ | refine blk_drew ?_ | refine blk_alloc ?_ _)); refine blk_put (cs := #[.int .i64 t105, .slice Ao102 x108001_1.length co102, .int .i64 t108, .slice none 0 0, .int .i64 0]) ?_ 3 _ rfl; (with_reducible repeat (first | refine blk_drewN ?_ _ | refine blk_drew ?_ | refine blk_alloc ?_ _)); refine blk_put (cs := #[.int .i64 t105, .slice Ao102 x108001_1.length co102, .int .i64 0, .slice none 0 0, .int .i64 0]) ?_ 2 _ rfl; (with_reducible repeat (first | refine blk_drewN ?_ _ | refine blk_drew ?_ | refine blk_alloc ?_ _)); refine blk_put (cs := #[.int .i64 t105, .slice none 0 0, .int .i64 0, .slice none 0 0, .int .i64 0]) ?_ 1 _ rfl; (with_reducible repeat (first | refine blk_drewN ?_ _ | refine blk_drew ?_ | refine blk_alloc ?_ _)); refine blk_put (cs := #[.int .i64 0, .slice none 0 0, .int .i64 0, .slice none 0 0, .int .i64 0]) ?_ 0 _ rfl; (with_reducible repeat (first | refine blk_drewN ?_ _ | refine blk_drew ?_ | refine blk_alloc ?_ _)); exact BK104.out) Try.underlying26 rfl (by kernel_rfl)) rfl ?_
                      exact ⟨_, _, by first | rfl | (simp [errW_none, errW_some] <;> rfl) | (simp [*, errW_none, errW_some] <;> rfl), by (with_reducible repeat (first | apply Kd.R_alloc | apply Kd.R_drewN | apply Kd.R_drew)); exact Kd.R_mono (Kd.R_far (p := ⟨gb104, 4, none⟩) (Kd.R_far (p := ⟨gb104, 3, none⟩) (Kd.R_far (p := ⟨gb104, 2, none⟩) (Kd.R_far (p := ⟨gb104, 1, none⟩) (Kd.R_far (p := ⟨gb104, 0, none⟩) (Kd.R_types HO_108001.out BK104.out (by decide)) (fun _ hk => hk.2) (.int .i64 t105)) (fun _ hk => hk.2) (.slice Ao102 x108001_1.length co102)) (fun _ hk => hk.2) (.int .i64 t108)) (fun _ hk => hk.2) (.slice Ao103 x108003_3.length co103)) (fun _ hk => hk.2) (.int .i64 t106)) (fun _ hk => hk.1), by (with_reducible repeat (first | apply Kd.R_alloc | apply Kd.R_drewN | apply Kd.R_drew)); exact Kd.R_mono (Kd.R_far (p := ⟨gb104, 4, none⟩) (Kd.R_far (p := ⟨gb104, 3, none⟩) (Kd.R_far (p := ⟨gb104, 2, none⟩) (Kd.R_far (p := ⟨gb104, 1, none⟩) (Kd.R_far (p := ⟨gb104, 0, none⟩) (Kd.R_types HO_108003.out BK104.out (by decide)) (fun _ hk => hk.2) (.int .i64 t105)) (fun _ hk => hk.2) (.slice Ao102 x108001_1.length co102)) (fun _ hk => hk.2) (.int .i64 t108)) (fun _ hk => hk.2) (.slice Ao103 x108003_3.length co103)) (fun _ hk => hk.2) (.int .i64 t106)) (fun _ hk => hk.1), by repeat (first | (with_reducible first | exact HB.out | apply below_alloc | apply pw_below_drewN | apply below_drew1 | refine below_set ?_ GE103.out | refine below_set ?_ GE104.out | refine below_set ?_ GE107.out) | exact HB.out)⟩
    · rw [if_neg c7] at H
      exact absurd H (by simp)
  · rw [if_neg c6] at H
    exact absurd H (by simp)
end Go.Proofs.Ytjomlfdkmdgclaa.P
end
section
namespace Go.Proofs.Ytjomlfdkmdgclaa.P
open Go.RowKit Go.Proofs.YtjomlfdkmdgclaaW.PrintWords Go.Proofs.YtjomlfdkmdgclaaW.PrintLast Go.Proofs.YtjomlfdkmdgclaaW.PrintMore
attribute [local go_sem] max2_int min2_int max_two min_two max_three min_three max_four min_four   
set_option linter.unusedVariables false
set_option linter.unusedSimpArgs false
theorem within_rem (a n : Int) (hn : 0 < n) (hn2 : n ≤ 4611686018427387904) : interlocutorlaw4_within.f a n = some (a % n) := by
  unfold interlocutorlaw4_within.f
  have h1 := Int.emod_nonneg a (by omega : n ≠ 0)
  have h2 := Int.emod_lt_of_pos a hn
  have h4 : (n.natAbs : Int) = n := by omega
  rw [if_neg (by omega)]
  have h3 := @Int.tmod_eq_emod a n
  by_cases hd : 0 ≤ a ∨ n ∣ a
  · rw [if_pos hd] at h3
    rw [if_neg (by omega), h3]
    congr 1
    omega
  · rw [if_neg hd, h4] at h3
    rw [if_pos (by omega), h3]
    congr 1
    unfold wrap64
    omega
theorem rem_ge (a n : Int) (hn : 0 < n) : 0 ≤ a % n := Int.emod_nonneg a (by omega)
theorem rem_lt (a n : Int) (hn : 0 < n) : a % n < n := Int.emod_lt_of_pos a hn
theorem as_fin {x n : Int} (m : Nat) (hm : n = m) (h0 : 0 ≤ x) (h1 : x < n) : ∃ i : Fin m, x = ((i.val : Nat) : Int) := ⟨⟨x.toNat, by omega⟩, by simp; omega⟩
end Go.Proofs.Ytjomlfdkmdgclaa.P
end
section
namespace Go.Proofs.Ytjomlfdkmdgclaa.P
set_option linter.unusedVariables false
set_option linter.unusedSimpArgs false
open Go.RowKit Go.Shelf Go.Proofs.YtjomlfdkmdgclaaW.PrintWords Go.Proofs.YtjomlfdkmdgclaaW.PrintLast Go.Proofs.YtjomlfdkmdgclaaW.PrintMore
open Go.Maps (Keyed)
open Go.MapKept (Stamped)
section
variable {κ : Type} [DecidableEq κ]
def mget {ν : Type} : List (κ × ν) → κ → Option ν
  | [], _ => none
  | p :: m, k => if p.1 = k then some p.2 else mget m k
def mput {ν : Type} : List (κ × ν) → κ → ν → List (κ × ν)
  | [], k, v => [(k, v)]
  | p :: m, k, v => if p.1 = k then (k, v) :: m else p :: mput m k v
theorem mget_mput_same {ν : Type} (k : κ) (v : ν) : ∀ m : List (κ × ν), mget (mput m k v) k = some v
  | [] => by simp [mput, mget]
  | p :: m => by
    unfold mput
    by_cases h : p.1 = k
    · rw [if_pos h]; simp [mget]
    · rw [if_neg h, mget, if_neg h]; exact mget_mput_same k v m
theorem mget_mput_other {ν : Type} (k : κ) (v : ν) (j : κ) (hj : j ≠ k) : ∀ m : List (κ × ν), mget (mput m k v) j = mget m j
  | [] => by simp [mput, mget, Ne.symm hj]
  | p :: m => by
    unfold mput
    by_cases h : p.1 = k
    · rw [if_pos h]; simp [mget, h, Ne.symm hj]
    · rw [if_neg h, mget, mget, mget_mput_other k v j hj m]
theorem mput_keys {ν : Type} (k : κ) (v : ν) : ∀ m : List (κ × ν), (mput m k v).map (·.1) = if k ∈ m.map (·.1) then m.map (·.1) else m.map (·.1) ++ [k]
  | [] => by simp [mput]
  | p :: m => by
    unfold mput
    by_cases h : p.1 = k
    · rw [if_pos h]; simp [h]
    · rw [if_neg h]
      simp only [List.map_cons, List.mem_cons, mput_keys k v m]
      have h2 : ¬ k = p.1 := fun e => h e.symm
      by_cases h3 : k ∈ m.map (·.1)
      · simp [h3]
      · simp [h2, h3]
theorem mget_isSome {ν : Type} (k : κ) : ∀ m : List (κ × ν), (mget m k).isSome = true ↔ k ∈ m.map (·.1)
  | [] => by simp [mget]
  | p :: m => by
    unfold mget
    by_cases h : p.1 = k
    · rw [if_pos h]; simp [h]
    · rw [if_neg h, mget_isSome k m]
      have h2 : ¬ k = p.1 := fun e => h e.symm
      simp [h2]
theorem mput_mem {ν : Type} {k : κ} {v : ν} {m : List (κ × ν)} {p : κ × ν} (h : p ∈ mput m k v) : p = (k, v) ∨ p ∈ m := by
  induction m with
  | nil => simp [mput] at h; exact .inl h
  | cons q m ih =>
    unfold mput at h
    by_cases hq : q.1 = k
    · rw [if_pos hq] at h
      rcases List.mem_cons.1 h with h | h
      · exact .inl h
      · exact .inr (List.mem_cons_of_mem _ h)
    · rw [if_neg hq] at h
      rcases List.mem_cons.1 h with h | h
      · exact .inr (h ▸ List.mem_cons_self)
      · rcases ih h with h | h
        · exact .inl h
        · exact .inr (List.mem_cons_of_mem _ h)
omit [DecidableEq κ] in
theorem map_vals {ν μ : Type} (f : ν → μ) (m : List (κ × ν)) : (m.map fun p => (p.1, f p.2)).map (·.1) = m.map (·.1) := by
  rw [List.map_map]; rfl
theorem mget_map {ν μ : Type} (f : ν → μ) (k : κ) : ∀ m : List (κ × ν), mget (m.map fun p => (p.1, f p.2)) k = (mget m k).map f
  | [] => rfl
  | p :: m => by
    rw [List.map_cons, mget, mget]
    by_cases h : p.1 = k
    · rw [if_pos h, if_pos h]; rfl
    · rw [if_neg h, if_neg h, mget_map f k m]
theorem mput_map {ν μ : Type} (f : ν → μ) (k : κ) (v : ν) : ∀ m : List (κ × ν), mput (m.map fun p => (p.1, f p.2)) k (f v) = (mput m k v).map fun p => (p.1, f p.2)
  | [] => rfl
  | p :: m => by
    rw [List.map_cons, mput, mput]
    by_cases h : p.1 = k
    · rw [if_pos h, if_pos h]; rfl
    · rw [if_neg h, if_neg h, mput_map f k v m]; rfl
def MapOf (P : Program) (kt : TypeId) (enc : κ → Value) (w : World) (b : Nat) (m : List (κ × Value)) : Prop :=
  ∃ es clock, w.heap[b]? = some (.map es clock) ∧ es.toList.map (fun e => (e.key, e.val)) = m.map (fun p => (enc p.1, p.2)) ∧
    (∀ p ∈ m, ∃ l, keyOf P kt (enc p.1) = some l) ∧ Stamped es clock
variable {P : Program} {kt : TypeId} {enc : κ → Value} {w w1 : World} {b : Nat} {m : List (κ × Value)}
omit [DecidableEq κ] in
theorem MapOf.made (P : Program) (kt : TypeId) (enc : κ → Value) (w : World) : MapOf P kt enc (w.alloc (.map #[] 0)) w.heap.size [] :=
  ⟨#[], 0, (MapKept.heap_alloc w _).1, rfl, by simp, MapKept.stamped_empty 0⟩
omit [DecidableEq κ] in
theorem MapOf.lt (h : MapOf P kt enc w b m) : b < w.heap.size := by
  obtain ⟨es, clock, hb, _⟩ := h
  exact (Array.getElem?_eq_some_iff.1 hb).1
omit [DecidableEq κ] in
theorem MapOf.same (h : MapOf P kt enc w b m) (hw : w1.heap[b]? = w.heap[b]?) : MapOf P kt enc w1 b m := by
  obtain ⟨es, clock, hb, r⟩ := h
  exact ⟨es, clock, hw.trans hb, r⟩
omit [DecidableEq κ] in
theorem MapOf.below (h : MapOf P kt enc w b m) (hb : Below w.heap.size w w1) : MapOf P kt enc w1 b m := h.same (hb.block b h.lt)
omit [DecidableEq κ] in
theorem MapOf.alloc (h : MapOf P kt enc w b m) (o : Obj) : MapOf P kt enc (w.alloc o) b m := h.below (below_alloc (Below.refl _ _) o)
omit [DecidableEq κ] in
theorem MapOf.drewN (h : MapOf P kt enc w b m) (n : Nat) : MapOf P kt enc (w.drewN n) b m := h
omit [DecidableEq κ] in
theorem MapOf.drew (h : MapOf P kt enc w b m) : MapOf P kt enc w.drew b m := h
omit [DecidableEq κ] in
theorem MapOf.grown (h : MapOf P kt enc w b m) {row : Option Nat} (hg : w.grownBy w1 row) (hne : some b ≠ row) : MapOf P kt enc w1 b m := h.same (hg.block b h.lt hne)
omit [DecidableEq κ] in
theorem MapOf.setCell (h : MapOf P kt enc w b m) (p : Addr) (hp : b ≠ p.block) (u : Value) : MapOf P kt enc (w.setCell p u) b m := h.same (Below.heap_setCell w p u b hp)
omit [DecidableEq κ] in
theorem MapOf.not_cells (h : MapOf P kt enc w b m) {g : Nat} {cs : Array Value} {t : TypeId} {z : Nat × Nat} (hg : w.heap[g]? = some (.cells cs t z)) : b ≠ g := by
  obtain ⟨es, clock, h1, _⟩ := h
  intro e
  rw [e, hg] at h1
  cases h1
omit [DecidableEq κ] in
theorem MapOf.nodup (h : MapOf P kt enc w b m) : (m.map (·.1)).Nodup := by
  obtain ⟨es, clock, _, he, _, hs⟩ := h
  have hp := ((MapKept.stamped_iff es clock).1 hs).2.2
  have h1 : es.toList.map (fun e => e.key) = m.map (fun p => enc p.1) := by
    have := congrArg (List.map (·.1)) he
    simpa [List.map_map, Function.comp_def] using this
  have h2 : (es.toList.map (fun e => e.key)).Pairwise (· ≠ ·) := List.pairwise_map.2 hp
  rw [h1] at h2
  rw [List.Nodup, List.pairwise_map]
  have h3 := List.pairwise_map.1 h2
  exact h3.imp (fun hne e => hne (by rw [e]))
theorem MapOf.find_cases (K : Keyed P kt) (hinj : ∀ x y, enc x = enc y → x = y) {es : Array MapEntry} (he : es.toList.map (fun e => (e.key, e.val)) = m.map (fun p => (enc p.1, p.2)))
    (hks : ∀ p ∈ m, ∃ l, keyOf P kt (enc p.1) = some l) (w : World) (k : κ) (hk : ∃ l, keyOf P kt (enc k) = some l) (hnd : (m.map (·.1)).Nodup) :
    ((Instr.findKey kt (enc k) es.toList).run P w = .ok none w ∧ (∀ e ∈ es.toList, e.key ≠ enc k) ∧ mget m k = none ∧ ∀ v, mput m k v = m ++ [(k, v)]) ∨
    ∃ j e, (Instr.findKey kt (enc k) es.toList).run P w = .ok (some (j, e.val)) w ∧ es.toList[j]? = some e ∧ e.key = enc k ∧ mget m k = some e.val ∧
      ∀ v, ∃ _ : j < m.length, mput m k v = m.set j (k, v) := by
  obtain ⟨l, hl⟩ := hk
  have hkeys : ∀ e ∈ es.toList, ∃ l, keyOf P kt e.key = some l := by
    intro e hem
    have : (e.key, e.val) ∈ m.map (fun p => (enc p.1, p.2)) := by rw [← he]; exact List.mem_map.2 ⟨e, hem, rfl⟩
    obtain ⟨p, hp, hpe⟩ := List.mem_map.1 this
    obtain ⟨l', hl'⟩ := hks p hp
    exact ⟨l', by rw [← (Prod.mk.inj hpe).1]; exact hl'⟩
  rcases K.find w hl es.toList hkeys with ⟨h1, h2⟩ | ⟨j, e, h1, h2, h3⟩
  · refine .inl ⟨h1, h2, ?_⟩
    have hno : ∀ p ∈ m, p.1 ≠ k := by
      intro p hp hpk
      have : (enc p.1, p.2) ∈ es.toList.map (fun e => (e.key, e.val)) := by rw [he]; exact List.mem_map.2 ⟨p, hp, rfl⟩
      obtain ⟨e, hem, hee⟩ := List.mem_map.1 this
      exact h2 e hem (by rw [(Prod.mk.inj hee).1, hpk])
    clear he hks hnd
    induction m with
    | nil => exact ⟨rfl, fun _ => rfl⟩
    | cons p m ih =>
      have hp := hno p List.mem_cons_self
      obtain ⟨i1, i2⟩ := ih (fun q hq => hno q (List.mem_cons_of_mem _ hq))
      exact ⟨by rw [mget, if_neg hp]; exact i1, fun v => by rw [mput, if_neg hp, i2]; rfl⟩
  · refine .inr ⟨j, e, h1, h2, h3, ?_⟩
    have hm : m[j]? = some (k, e.val) := by
      have : (m.map (fun p => (enc p.1, p.2)))[j]? = some (e.key, e.val) := by rw [← he, List.getElem?_map, h2]; rfl
      rw [List.getElem?_map] at this
      obtain ⟨p, hp, hpe⟩ := Option.map_eq_some_iff.1 this
      obtain ⟨q1, q2⟩ := Prod.mk.inj hpe
      rw [hp, ← q2, ← hinj p.1 k (by rw [q1, h3])]
    clear he hks h1 h2 h3
    induction m generalizing j with
    | nil => simp at hm
    | cons p m ih =>
      rw [List.map_cons, List.nodup_cons] at hnd
      cases j with
      | zero =>
        rw [List.getElem?_cons_zero] at hm
        obtain rfl := Option.some.inj hm
        exact ⟨by simp [mget], fun v => ⟨by simp, by simp [mput]⟩⟩
      | succ j =>
        rw [List.getElem?_cons_succ] at hm
        have hp : p.1 ≠ k := fun e2 => hnd.1 (by rw [e2]; exact List.mem_map.2 ⟨_, List.mem_of_getElem? hm, rfl⟩)
        obtain ⟨i1, i2⟩ := ih hnd.2 j hm
        refine ⟨by rw [mget, if_neg hp]; exact i1, fun v => ?_⟩
        obtain ⟨hj, i3⟩ := i2 v
        exact ⟨by simp; omega, by rw [mput, if_neg hp, i3]; rfl⟩
theorem MapOf.lookup {t e : TypeId} (h : MapOf P kt enc w b m) (K : Keyed P kt) (hinj : ∀ x y, enc x = enc y → x = y) (ht : P.underlying t = some (.map kt e)) {z : Value} (hz : (zeroValue e).run P w = .ok z w)
    (k : κ) (hk : ∃ l, keyOf P kt (enc k) = some l) (c : Bool) :
    (Instr.lookup t (.map (some b)) (enc k) c).run P w = .ok (if c then .tuple #[(mget m k).getD z, .bool (mget m k).isSome] else (mget m k).getD z) w := by
  have hnd := h.nodup
  obtain ⟨es, clock, hb, he, hks, hs⟩ := h
  obtain ⟨l, hl⟩ := hk
  rcases MapOf.find_cases K hinj he hks w k ⟨l, hl⟩ hnd with ⟨h1, _, h3, _⟩ | ⟨j, e0, h1, _, _, h4, _⟩
  · rw [h3]; simp [Instr.lookup, run_underlying ht, MapKept.run_getObj_map hb, K.check w _ hl, h1, hz, Result.andThen]
  · rw [h4]; simp [Instr.lookup, run_underlying ht, MapKept.run_getObj_map hb, K.check w _ hl, h1, Result.andThen]
omit [DecidableEq κ] in
theorem grown_set (w : World) {b : Nat} {o o' : Obj} (hb : w.heap[b]? = some o) : w.grownBy { w with heap := w.heap.setIfInBounds b o' } (some b) :=
  ⟨rfl, rfl, rfl, by simp, fun k _ hne => (MapKept.heap_set hb).2 k (fun e => hne (by rw [e]))⟩
omit [DecidableEq κ] in
theorem map_set_entry {es : Array MapEntry} {j : Nat} {k : κ} {v : Value} (he : es.toList.map (fun e => (e.key, e.val)) = m.map (fun p => (enc p.1, p.2))) (f : MapEntry → MapEntry) (hf : ∀ e, es.toList[j]? = some e → (f e).key = enc k ∧ (f e).val = v) :
    (es.modify j f).toList.map (fun e => (e.key, e.val)) = (m.set j (k, v)).map (fun p => (enc p.1, p.2)) := by
  rw [List.map_set, ← he, Array.toList_modify]
  apply List.ext_getElem?
  intro i
  rw [List.getElem?_map, List.getElem?_modify, List.getElem?_set, List.getElem?_map, List.length_map]
  by_cases hij : j = i
  · subst hij
    rw [if_pos rfl]
    cases hes : es.toList[j]? with
    | none =>
      have : ¬ j < es.toList.length := fun hl => by rw [List.getElem?_eq_getElem hl] at hes; cases hes
      rw [if_neg this]; rfl
    | some e =>
      have hl := (List.getElem?_eq_some_iff.1 hes).1
      rw [if_pos hl]
      simp [hf e hes]
  · rw [if_neg hij]
    cases es.toList[i]? <;> simp [hij]
theorem MapOf.update {t e : TypeId} (h : MapOf P kt enc w b m) (K : Keyed P kt) (hinj : ∀ x y, enc x = enc y → x = y) (ht : P.underlying t = some (.map kt e)) (k : κ) (hk : ∃ l, keyOf P kt (enc k) = some l) (v : Value) :
    ∃ w', (Instr.mapUpdate t (.map (some b)) (enc k) v).run P w = .ok () w' ∧ MapOf P kt enc w' b (mput m k v) ∧ w.grownBy w' (some b) ∧ w'.heap.size = w.heap.size := by
  have hnd := h.nodup
  obtain ⟨es, clock, hb, he, hks, hs⟩ := h
  obtain ⟨l, hl⟩ := hk
  have hks' : ∀ p ∈ mput m k v, ∃ l, keyOf P kt (enc p.1) = some l := by
    intro p hp
    rcases mput_mem hp with rfl | hp
    · exact ⟨l, hl⟩
    · exact hks p hp
  rcases MapOf.find_cases K hinj he hks w k ⟨l, hl⟩ hnd with ⟨h1, h2, _, h4⟩ | ⟨j, e0, h1, h2, h3, _, h5⟩
  · refine ⟨{ w with heap := w.heap.setIfInBounds b (.map (es.push ⟨enc k, v, clock⟩) (clock + 1)) }, ?_, ⟨es.push ⟨enc k, v, clock⟩, clock + 1, (MapKept.heap_set hb).1, ?_, hks', MapKept.stamped_push hs h2⟩, grown_set w hb, by simp⟩
    · simp [Instr.mapUpdate, run_underlying ht, MapKept.run_getObj_map hb, K.check w false hl, h1, MapKept.run_setObj_map _ hb, Result.andThen]
    · rw [h4, Array.toList_push, List.map_append, List.map_append, he]; rfl
  · have hj2 : es[j]? = some e0 := by simpa using h2
    obtain ⟨hj, h6⟩ := h5 v
    refine ⟨{ w with heap := w.heap.setIfInBounds b (.map (es.modify j fun e => { e with key := enc k, val := v }) clock) }, ?_, ⟨es.modify j fun e => { e with key := enc k, val := v }, clock, (MapKept.heap_set hb).1, ?_, hks', ?_⟩, grown_set w hb, by simp⟩
    · simp [Instr.mapUpdate, run_underlying ht, MapKept.run_getObj_map hb, K.check w false hl, h1, hj2, h3, K.stays w hl, MapKept.run_setObj_map _ hb, Result.andThen]
    · rw [h6]; exact map_set_entry he _ (fun e _ => ⟨rfl, rfl⟩)
    · exact MapKept.stamped_modify hs _ _ (fun _ _ => rfl) (fun e' _ he' => by rw [hj2] at he'; cases he'; exact h3.symm)
omit [DecidableEq κ] in
theorem findIdx?_list {α : Type} (xs : Array α) (p : α → Bool) : xs.findIdx? p = xs.toList.findIdx? p := by
  cases xs with | mk l => exact List.findIdx?_toArray p l
theorem MapOf.entry {t e : TypeId} (h : MapOf P kt enc w b m) (K : Keyed P kt) (hinj : ∀ x y, enc x = enc y → x = y) (ht : P.underlying t = some (.map kt e)) {z : Value} (hz : ∀ w, (zeroValue e).run P w = .ok z w) (k : κ) (hk : ∃ l, keyOf P kt (enc k) = some l) :
    ∃ w1 n, (Instr.mapEntry t (.map (some b)) (enc k)).run P w = .ok (.tuple #[(mget m k).getD z, .int .i64 n]) w1 ∧ w.grownBy w1 (some b) ∧ w1.heap.size = w.heap.size ∧ (∃ m1, MapOf P kt enc w1 b m1 ∧ mget m1 k = some ((mget m k).getD z)) ∧
      ∀ v, ∃ w2, (Instr.entryStore t (.map (some b)) (.int .i64 n) v).run P w1 = .ok () w2 ∧ MapOf P kt enc w2 b (mput m k v) ∧ w.grownBy w2 (some b) ∧ w2.heap.size = w.heap.size := by
  have hnd := h.nodup
  obtain ⟨es, clock, hb, he, hks, hs⟩ := h
  obtain ⟨l, hl⟩ := hk
  have hks' : ∀ v, ∀ p ∈ mput m k v, ∃ l, keyOf P kt (enc p.1) = some l := by
    intro v p hp
    rcases mput_mem hp with rfl | hp
    · exact ⟨l, hl⟩
    · exact hks p hp
  have hst := (MapKept.stamped_iff es clock).1 hs
  rcases MapOf.find_cases K hinj he hks w k ⟨l, hl⟩ hnd with ⟨h1, h2, h3, h4⟩ | ⟨j, e0, h1, h2, h3, h4, h5⟩
  · have hb1 : ({ w with heap := w.heap.setIfInBounds b (.map (es.push ⟨enc k, z, clock⟩) (clock + 1)) } : World).heap[b]? = some (.map (es.push ⟨enc k, z, clock⟩) (clock + 1)) := (MapKept.heap_set hb).1
    have hf : (es.push ⟨enc k, z, clock⟩).findIdx? (fun e => (e.born : Int) == (clock : Int)) = some es.size := by
      rw [findIdx?_list, List.findIdx?_eq_some_iff_getElem]
      refine ⟨by simp, by simp, fun i hi => ?_⟩
      have hi' : i < es.toList.length := by simpa using hi
      have e1 : (es.push ⟨enc k, z, clock⟩).toList[i]'(by simp; omega) = es.toList[i] := by simp [Array.toList_push, List.getElem_append_left hi']
      rw [e1]
      have h9 := hst.1 _ (List.getElem_mem hi')
      intro hc
      have h10 : (es.toList[i].born : Int) = clock := beq_iff_eq.1 hc
      omega
    refine ⟨{ w with heap := w.heap.setIfInBounds b (.map (es.push ⟨enc k, z, clock⟩) (clock + 1)) }, (clock : Int), ?_, grown_set w hb, by simp, ⟨mput m k z, ⟨es.push ⟨enc k, z, clock⟩, clock + 1, hb1, by rw [h4, Array.toList_push, List.map_append, List.map_append, he]; rfl, hks' z, MapKept.stamped_push hs h2⟩, by rw [mget_mput_same, h3]; rfl⟩, fun v => ⟨{ w with heap := w.heap.setIfInBounds b (.map ((es.push ⟨enc k, z, clock⟩).modify es.size fun e => { e with val := v }) (clock + 1)) }, ?_, ⟨(es.push ⟨enc k, z, clock⟩).modify es.size fun e => { e with val := v }, clock + 1, (MapKept.heap_set hb).1, ?_, hks' v, ?_⟩, grown_set w hb, by simp⟩⟩
    · rw [h3]; simp [Instr.mapEntry, run_underlying ht, MapKept.run_getObj_map hb, K.check w false hl, h1, MapKept.run_setObj_map _ hb, Result.andThen, hz, goInt]
    · simp only [Instr.entryStore]
      simp [MapKept.run_getObj_map hb1, asInt, asIntOf, hf, MapKept.run_setObj_map _ hb1, Result.andThen]
    · have hpush : (es.push ⟨enc k, z, clock⟩).toList.map (fun e => (e.key, e.val)) = (m ++ [(k, z)]).map (fun p => (enc p.1, p.2)) := by rw [Array.toList_push, List.map_append, List.map_append, he]; rfl
      have hlen : es.size = m.length := by have := congrArg List.length he; simpa using this
      rw [h4, map_set_entry (k := k) (v := v) hpush _ (fun e he2 => ?_)]
      · rw [hlen]; simp
      · have : e = ⟨enc k, z, clock⟩ := by
          rw [Array.toList_push, List.getElem?_append_right (by simp)] at he2
          simpa using he2.symm
        subst this
        exact ⟨rfl, rfl⟩
    · exact MapKept.stamped_modify (MapKept.stamped_push hs h2) _ _ (fun _ _ => rfl) (fun _ _ _ => rfl)
  · have hj2 : es[j]? = some e0 := by simpa using h2
    obtain ⟨hj, _⟩ := h5 z
    have hjs : j < es.size := (Array.getElem?_eq_some_iff.1 hj2).1
    have hb1 : ({ w with heap := w.heap.setIfInBounds b (.map (es.modify j fun e => { e with key := enc k }) clock) } : World).heap[b]? = some (.map (es.modify j fun e => { e with key := enc k }) clock) := (MapKept.heap_set hb).1
    have hs1 : Stamped (es.modify j fun e => { e with key := enc k }) clock := MapKept.stamped_modify hs _ _ (fun _ _ => rfl) (fun e' _ he' => by rw [hj2] at he'; cases he'; exact h3.symm)
    have hf : (es.modify j fun e => { e with key := enc k }).findIdx? (fun e => (e.born : Int) == (e0.born : Int)) = some j := by
      rw [findIdx?_list, List.findIdx?_eq_some_iff_getElem]
      have hn := hst.2.1
      have g : ∀ i (hi : i < es.toList.length), ((es.modify j fun e => { e with key := enc k }).toList[i]'(by simpa using hi)).born = es.toList[i].born := by
        intro i hi
        simp only [Array.toList_modify, List.getElem_modify]
        split <;> rfl
      refine ⟨by simpa using hjs, by rw [g j (by simpa using hjs)]; simp [(Array.getElem?_eq_some_iff.1 hj2).2], fun i hi => ?_⟩
      have hi' : i < es.toList.length := by simp; omega
      rw [g i hi']
      intro hc
      have h6 : es.toList[i].born = e0.born := by have := beq_iff_eq.1 hc; omega
      have h7 : es.toList[j]'(by simpa using hjs) = e0 := by simp [(Array.getElem?_eq_some_iff.1 hj2).2]
      have h8 : (es.toList.map (·.born))[i]'(by simpa using hi') = (es.toList.map (·.born))[j]'(by simpa using hjs) := by simp only [List.getElem_map, h6, h7]
      have := (List.getElem_inj hn).1 h8
      omega
    refine ⟨{ w with heap := w.heap.setIfInBounds b (.map (es.modify j fun e => { e with key := enc k }) clock) }, (e0.born : Int), ?_, grown_set w hb, by simp, ⟨mput m k e0.val, ⟨es.modify j fun e => { e with key := enc k }, clock, hb1, by obtain ⟨_, h6⟩ := h5 e0.val; rw [h6]; exact map_set_entry he _ (fun e he2 => by rw [h2] at he2; cases he2; exact ⟨rfl, rfl⟩), hks' _, hs1⟩, by rw [mget_mput_same, h4]; rfl⟩, fun v => ⟨{ w with heap := w.heap.setIfInBounds b (.map ((es.modify j fun e => { e with key := enc k }).modify j fun e => { e with val := v }) clock) }, ?_, ⟨(es.modify j fun e => { e with key := enc k }).modify j fun e => { e with val := v }, clock, (MapKept.heap_set hb).1, ?_, hks' v, ?_⟩, grown_set w hb, by simp⟩⟩
    · rw [h4]; simp [Instr.mapEntry, run_underlying ht, MapKept.run_getObj_map hb, K.check w false hl, h1, hj2, h3, K.stays w hl, MapKept.run_setObj_map _ hb, Result.andThen, goInt]
    · simp only [Instr.entryStore]
      simp [MapKept.run_getObj_map hb1, asInt, asIntOf, hf, MapKept.run_setObj_map _ hb1, Result.andThen]
    · obtain ⟨_, h6⟩ := h5 v
      have h7 := map_set_entry (k := k) (v := e0.val) he (fun e => { e with key := enc k }) (j := j) (fun e he2 => by rw [h2] at he2; cases he2; exact ⟨rfl, rfl⟩)
      rw [h6, map_set_entry (k := k) (v := v) h7 _ (fun e he2 => ?_)]
      · simp
      · rw [Array.toList_modify, List.getElem?_modify, h2] at he2
        simp at he2
        subst he2
        exact ⟨rfl, rfl⟩
    · exact MapKept.stamped_modify hs1 _ _ (fun _ _ => rfl) (fun _ _ _ => rfl)
variable {ops : Array Oper} {rest : List Oper} {o : Oper} {a : Act} {Q : Exit → Act → World → Prop}
theorem wpList_lookup_map (hg : o.guard = none) (mO x : Operand) (t e : TypeId) (hop : o.op = Op.lookup t mO x false) (K : Keyed P kt) (hinj : ∀ x y, enc x = enc y → x = y) (ht : P.underlying t = some (.map kt e)) {z : Value} (hz : ∀ w, (zeroValue e).run P w = .ok z w)
    (hm : a.eval mO = .map (some b)) (h : MapOf P kt enc w b m) (k : κ) (hx : a.eval x = enc k) (hk : ∃ l, keyOf P kt (enc k) = some l) (v : Value) (hv : (mget m k).getD z = v) (hK : wpList P ops Q rest (a.put o.dst v) w) :
    wpList P ops Q (o :: rest) a w := by
  refine wpList_plain hg fun K' hK' => ?_
  have hrun := h.lookup K hinj ht (hz w) k hk false
  unfold Oper.wp
  simp [execOp, hop, hm, hx, hrun, Result.andThen]
  exact hK' _ _ (by rw [hv]; exact hK)
theorem wpList_update_map (hg : o.guard = none) (mO x v : Operand) (t e : TypeId) (hop : o.op = Op.mapUpdate t mO x v) (K : Keyed P kt) (hinj : ∀ x y, enc x = enc y → x = y) (ht : P.underlying t = some (.map kt e))
    (hm : a.eval mO = .map (some b)) (h : MapOf P kt enc w b m) (k : κ) (hx : a.eval x = enc k) (hk : ∃ l, keyOf P kt (enc k) = some l) (val : Value) (hv : a.eval v = val)
    (hK : ∀ w', MapOf P kt enc w' b (mput m k val) → w.grownBy w' (some b) → w'.heap.size = w.heap.size → wpList P ops Q rest (a.put o.dst undef) w') :
    wpList P ops Q (o :: rest) a w := by
  refine wpList_plain hg fun K' hK' => ?_
  obtain ⟨w', hrun, r1, r2, r3⟩ := h.update K hinj ht k hk val
  unfold Oper.wp
  simp [execOp, hop, hm, hx, hv, hrun, Result.andThen]
  exact hK' _ _ (hK w' r1 r2 r3)
end
end Go.Proofs.Ytjomlfdkmdgclaa.P
end
section
namespace Go.Proofs
open Go.Shelf
def Try.keysA_ren : Go.Shelf.Ren := ⟨fun | 7 => 47 | 10 => 51 | n => n, fun | 23 => 66 | 26 => 3 | 3 => 3 | 28 => 69 | 0 => 0 | 27 => 68 | 33 => 44 | 4 => 4 | n => n, fun | n => n⟩
theorem Try.keysA : Go.Proofs.SlLaysZI.n7 Try.prog Try.keysA_ren := {
  mixed := by kernel_rfl
  f7 := ⟨Try.f47.name, by decide, Try.func47.trans (congrArg some (by kernel_rfl))⟩
  f10 := ⟨Try.f51.name, by decide, Try.func51.trans (congrArg some (by kernel_rfl))⟩
  t0 := Try.underlying0
  a0 := Try.isAgg0
  z0 := Try.sizeOf0
  v0 := Try.zeroValue0
  t4 := Try.underlying4
  a4 := Try.isAgg4
  z4 := Try.sizeOf4
  v4 := Try.zeroValue4
  t23 := Try.underlying66
  a23 := Try.isAgg66
  z23 := Try.sizeOf66
  v23 := Try.zeroValue66
  t26 := Try.underlying3
  a26 := Try.isAgg3
  z26 := Try.sizeOf3
  v26 := Try.zeroValue3
  t27 := Try.underlying68
  a27 := Try.isAgg68
  z27 := Try.sizeOf68
  v27 := Try.zeroValue68
  t28 := Try.underlying69
  a28 := Try.isAgg69
  z28 := Try.sizeOf69
  v28 := Try.zeroValue69
  t33 := Try.underlying44
  a33 := Try.isAgg44
  z33 := Try.sizeOf44
  v33 := Try.zeroValue44 }
def Try.sortedA_ren : Go.Shelf.Ren := ⟨fun | 6 => 46 | 8 => 49 | 9 => 50 | 11 => 52 | 13 => 54 | 12 => 53 | 23 => 64 | 24 => 65 | 14 => 55 | 15 => 56 | 16 => 57 | 17 => 58 | 18 => 59 | 19 => 60 | 20 => 61 | 21 => 62 | 22 => 63 | 25 => 66 | 26 => 67 | 27 => 68 | 28 => 69 | 29 => 70 | 30 => 71 | 31 => 72 | n => n, fun | 26 => 3 | 28 => 69 | 24 => 22 | 0 => 0 | 3 => 3 | 37 => 76 | 48 => 87 | 50 => 89 | 4 => 4 | 40 => 79 | 39 => 78 | 45 => 84 | 5 => 5 | 9 => 9 | 51 => 90 | 55 => 94 | 57 => 96 | 58 => 52 | 33 => 44 | n => n, fun | n => n⟩
theorem Try.sortedA : Go.Proofs.SlLaysZI.n6 Try.prog Try.sortedA_ren := {
  mixed := by kernel_rfl
  f6 := ⟨Try.f46.name, by decide, Try.func46.trans (congrArg some (by kernel_rfl))⟩
  f8 := ⟨Try.f49.name, by decide, Try.func49.trans (congrArg some (by kernel_rfl))⟩
  f11 := ⟨Try.f52.name, by decide, Try.func52.trans (congrArg some (by kernel_rfl))⟩
  t0 := Try.underlying0
  a0 := Try.isAgg0
  z0 := Try.sizeOf0
  v0 := Try.zeroValue0
  t24 := Try.underlying22
  a24 := Try.isAgg22
  z24 := Try.sizeOf22
  v24 := Try.zeroValue22
  t26 := Try.underlying3
  a26 := Try.isAgg3
  z26 := Try.sizeOf3
  v26 := Try.zeroValue3
  t28 := Try.underlying69
  a28 := Try.isAgg69
  z28 := Try.sizeOf69
  v28 := Try.zeroValue69
  i26 := by kernel_rfl }
def Try.sortA_ren : Go.Shelf.Ren := ⟨fun | 5 => 50 | 8 => 54 | 7 => 53 | 19 => 64 | 20 => 65 | 10 => 55 | 11 => 56 | 12 => 57 | 13 => 58 | 14 => 59 | 15 => 60 | 16 => 61 | 17 => 62 | 18 => 63 | 30 => 66 | 31 => 67 | 32 => 68 | 33 => 69 | 34 => 70 | 35 => 71 | 40 => 72 | n => n, fun | 23 => 22 | 25 => 3 | 3 => 3 | 32 => 76 | 22 => 22 | 0 => 0 | 44 => 87 | 46 => 89 | 4 => 4 | 36 => 79 | 35 => 78 | 41 => 84 | 5 => 5 | 9 => 9 | 53 => 90 | 57 => 94 | 63 => 96 | 64 => 52 | n => n, fun | n => n⟩
theorem Try.sortA : Go.Proofs.SlLaysM.n5 Try.prog Try.sortA_ren := {
  mixed := by kernel_rfl
  f5 := ⟨Try.f50.name, by decide, Try.func50.trans (congrArg some (by kernel_rfl))⟩
  f7 := ⟨Try.f53.name, by decide, Try.func53.trans (congrArg some (by kernel_rfl))⟩
  f8 := Try.func54.trans (congrArg some (by kernel_rfl))
  f10 := ⟨Try.f55.name, by decide, Try.func55.trans (congrArg some (by kernel_rfl))⟩
  f11 := ⟨Try.f56.name, by decide, Try.func56.trans (congrArg some (by kernel_rfl))⟩
  f12 := ⟨Try.f57.name, by decide, Try.func57.trans (congrArg some (by kernel_rfl))⟩
  f13 := ⟨Try.f58.name, by decide, Try.func58.trans (congrArg some (by kernel_rfl))⟩
  f14 := ⟨Try.f59.name, by decide, Try.func59.trans (congrArg some (by kernel_rfl))⟩
  f15 := ⟨Try.f60.name, by decide, Try.func60.trans (congrArg some (by kernel_rfl))⟩
  f16 := ⟨Try.f61.name, by decide, Try.func61.trans (congrArg some (by kernel_rfl))⟩
  f17 := ⟨Try.f62.name, by decide, Try.func62.trans (congrArg some (by kernel_rfl))⟩
  f18 := ⟨Try.f63.name, by decide, Try.func63.trans (congrArg some (by kernel_rfl))⟩
  f19 := Try.func64.trans (congrArg some (by kernel_rfl))
  f20 := Try.func65.trans (congrArg some (by kernel_rfl))
  f30 := ⟨Try.f66.name, by decide, Try.func66.trans (congrArg some (by kernel_rfl))⟩
  f31 := Try.func67.trans (congrArg some (by kernel_rfl))
  f32 := Try.func68.trans (congrArg some (by kernel_rfl))
  f33 := ⟨Try.f69.name, by decide, Try.func69.trans (congrArg some (by kernel_rfl))⟩
  f34 := ⟨Try.f70.name, by decide, Try.func70.trans (congrArg some (by kernel_rfl))⟩
  f35 := ⟨Try.f71.name, by decide, Try.func71.trans (congrArg some (by kernel_rfl))⟩
  f40 := ⟨Try.f72.name, by decide, Try.func72.trans (congrArg some (by kernel_rfl))⟩
  t0 := Try.underlying0
  a0 := Try.isAgg0
  z0 := Try.sizeOf0
  v0 := Try.zeroValue0
  t3 := Try.underlying3
  a3 := Try.isAgg3
  z3 := Try.sizeOf3
  v3 := Try.zeroValue3
  t4 := Try.underlying4
  a4 := Try.isAgg4
  z4 := Try.sizeOf4
  v4 := Try.zeroValue4
  t5 := Try.underlying5
  a5 := Try.isAgg5
  z5 := Try.sizeOf5
  v5 := Try.zeroValue5
  t9 := Try.underlying9
  a9 := Try.isAgg9
  z9 := Try.sizeOf9
  v9 := Try.zeroValue9
  t22 := Try.underlying22
  a22 := Try.isAgg22
  z22 := Try.sizeOf22
  v22 := Try.zeroValue22
  t23 := Try.underlying22
  a23 := Try.isAgg22
  z23 := Try.sizeOf22
  v23 := Try.zeroValue22
  t25 := Try.underlying3
  a25 := Try.isAgg3
  z25 := Try.sizeOf3
  v25 := Try.zeroValue3
  t32 := Try.underlying76
  a32 := Try.isAgg76
  z32 := Try.sizeOf76
  v32 := Try.zeroValue76
  t35 := Try.underlying78
  a35 := Try.isAgg78
  z35 := Try.sizeOf78
  v35 := Try.zeroValue78
  t36 := Try.underlying79
  a36 := Try.isAgg79
  z36 := Try.sizeOf79
  v36 := Try.zeroValue79
  t41 := Try.underlying84
  a41 := Try.isAgg84
  z41 := Try.sizeOf84
  v41 := Try.zeroValue84
  t44 := Try.underlying87
  a44 := Try.isAgg87
  z44 := Try.sizeOf87
  v44 := Try.zeroValue87
  t46 := Try.underlying89
  a46 := Try.isAgg89
  z46 := Try.sizeOf89
  v46 := Try.zeroValue89
  t53 := Try.underlying90
  a53 := Try.isAgg90
  z53 := Try.sizeOf90
  v53 := Try.zeroValue90
  t57 := Try.underlying94
  a57 := Try.isAgg94
  z57 := Try.sizeOf94
  v57 := Try.zeroValue94
  t63 := Try.underlying96
  a63 := Try.isAgg96
  z63 := Try.sizeOf96
  v63 := Try.zeroValue96
  t64 := Try.underlying52
  a64 := Try.isAgg52
  z64 := Try.sizeOf52
  v64 := Try.zeroValue52 }
end Go.Proofs
end
section
namespace Go.Proofs.Ytjomlfdkmdgclaa.P
open Go.RowKit Go.Proofs.YtjomlfdkmdgclaaW.PrintWords Go.Proofs.YtjomlfdkmdgclaaW.PrintLast Go.Proofs.YtjomlfdkmdgclaaW.PrintMore
attribute [local go_sem] max2_int min2_int max_two min_two max_three min_three max_four min_four   
set_option linter.unusedVariables false
set_option linter.unusedSimpArgs false
open Go.Maps (Keyed)
open Go.WideElems (Fit rd rg rg_of)
def sortI (l : List Int) : List Int := l.mergeSort leI
theorem keys_calls (b : Nat) (W : World) : Calls Try.prog 47 #[.map (some b)] W fun e w' => e = .returned (.func (.func 51) #[] #[.pointer (some ⟨W.heap.size, 0, none⟩)]) ∧ w' = W.alloc (.cells #[.map (some b)] 66) :=
  (callsIn_wide (n := 5)).1 (AnyZI.keys_in Try.keysA Fence.wide 5 trivial rfl (some b) W)
theorem sortsA (m : Nat) : AnyZI.SortsIn Try.prog Try.sortedA_ren Fence.wide m :=
  ⟨fun blk off cap ss W hH hblk hsz => callsIn_wide.2 (AnyM.slices_Sort_int Try.sortA blk off cap ss W hH hblk hsz),
   fun p cap W => callsIn_wide.2 (AnyM.slices_Sort_int_none Try.sortA p cap W)⟩
theorem ownsMap_of {P : Program} {kt : TypeId} {w : World} {b : Nat} {m : List (Int × Value)} (hkt : P.underlying kt = some (.int .i64)) (h : MapOf P kt (Value.int .i64) w b m) (hlen : m.length ≤ maxLen) :
    ∃ D0 : DataW Unit, w.ownsMap P kt (fun _ => some (DataW.nil, [])) b m.length D0 ∧ (Go.intKeys D0).Perm (m.map (·.1)) ∧ Maps.size D0 = m.length := by
  obtain ⟨es, clock, hb, he, hk, hs⟩ := h
  have hl : es.size = m.length := by have := congrArg List.length he; simpa using this
  have hkey : ∀ x ∈ es.toList, ∃ a, x.key = .int .i64 a ∧ keyOf P kt x.key = some (.int .i64 a) := by
    intro x hx
    have : (x.key, x.val) ∈ m.map (fun p => (Value.int .i64 p.1, p.2)) := by rw [← he]; exact List.mem_map.2 ⟨x, hx, rfl⟩
    obtain ⟨p, hp, hpe⟩ := List.mem_map.1 this
    obtain ⟨l, hl⟩ := hk p hp
    obtain ⟨a, ha, rfl, _⟩ := Maps.keyOf_i64 hkt hl
    have h1 := (Prod.mk.inj hpe).1
    exact ⟨p.1, h1.symm, by rw [← h1, hl, Go.encZ_inj ha]⟩
  have hrd : ∀ x ∈ es.toList, ∃ y, rd P kt (fun _ => some ((DataW.nil : DataW Unit), [])) x = some y := by
    intro x hx
    obtain ⟨a, _, h2⟩ := hkey x hx
    exact ⟨_, Go.WideElems.rd_mk h2 rfl⟩
  refine ⟨.map ((es.toList.map (rg P kt (fun _ => some (DataW.nil, [])))).foldr DataW.insert []), ⟨es, clock, hb, ⟨by omega, hs, hrd⟩, by omega, rfl⟩, ?_, ?_⟩
  · have hp := Go.WideShapes.sorted_perm (es.toList.map (rg P kt (fun _ => some ((DataW.nil : DataW Unit), []))))
    refine ((hp.map fun p => Go.intOf p.1)).trans (.of_eq ?_)
    rw [List.map_map]
    have h2 : m.map (·.1) = es.toList.map (fun x => match x.key with | .int _ a => a | _ => 0) := by
      have := congrArg (List.map (fun q : Value × Value => match q.1 with | .int _ a => a | _ => 0)) he
      rw [List.map_map, List.map_map] at this
      exact (this.trans (by rfl)).symm
    rw [h2]
    refine List.map_congr_left fun x hx => ?_
    obtain ⟨a, h3, h4⟩ := hkey x hx
    show Go.intOf (rg P kt _ x).1 = _
    rw [rg_of (Go.WideElems.rd_mk h4 rfl), h3]
    rfl
  · show ((es.toList.map (rg P kt (fun _ => some ((DataW.nil : DataW Unit), [])))).foldr DataW.insert []).length = m.length
    rw [length_sorted]
    simpa using hl
theorem sorted_calls (b : Nat) (m : List (Int × Value)) (w : World) (h : MapOf Try.prog 3 (Value.int .i64) w b m) (hlen : m.length * 8 ≤ 140737488355328) :
    Calls Try.prog 46 #[.func (.func 51) #[] #[.pointer (some ⟨w.heap.size, 0, none⟩)]] (w.alloc (.cells #[.map (some b)] 66)) fun e w' =>
      ∃ v : Value, e = .returned v ∧ Kd.R (Kd.int .i64) 3 w' w.heap.size (fun _ => True) v (sortI (m.map (·.1))) ∧ Below w.heap.size w w' := by
  obtain ⟨D0, hown, hperm, hsize⟩ := ownsMap_of Try.underlying3 h (by unfold maxLen; omega)
  have hbl := hown.lt
  have hseq : SeqGives Fence.wide 2 Try.prog 51 #[.pointer (some ⟨w.heap.size, 0, none⟩)] encZ (fun ss => ss.Perm (intKeys D0)) (Maps.size D0) (w.alloc (.cells #[.map (some b)] 66)) :=
    AnyZI.keys_gives (ρ := Try.keysA_ren) { Try.keysA with } Fence.wide _ trivial rfl (by omega) w.heap.size b m.length D0 _ (by simp) (by simp) (by
      obtain ⟨es, clock, hb, Ft, hs, hD⟩ := hown
      exact ⟨es, clock, (Below.heap_alloc _ _ b hbl).trans hb, Ft, hs, hD⟩)
  have cS := AnyZI.sorted_in Try.sortedA Fence.wide 5 trivial trivial trivial trivial rfl (by omega) (sortsA _) (enters_of Try.func50 (by kernel_rfl) rfl) 51 #[.pointer (some ⟨w.heap.size, 0, none⟩)] trivial (enters_of Try.func51 (by kernel_rfl) rfl) _ _ (by rw [hsize]; unfold maxLen; omega) (by rw [hsize]; exact hlen) _ hseq
  change CallsIn _ _ Try.prog 46 _ _ _ at cS
  refine ((callsIn_wide (n := 5)).1 cS).mono ?_
  rintro e w' ⟨v, ss, rfl, hS, hrow, hnil, hb⟩
  have e1 : ss.mergeSort leI = sortI (m.map (·.1)) := mergeSort_of_perm_i (hS.trans hperm)
  refine ⟨v, rfl, ?_, (below_alloc (Below.refl _ w) _).trans (hb.mono (by simp))⟩
  have h3 : (sortI (m.map (·.1))).length = ss.length := by rw [← e1]; exact List.length_mergeSort ss
  have hr2 : w'.ownsRow (w.alloc (.cells #[.map (some b)] 66)).heap.size 3 1 v (sortI (m.map (·.1))).length ((sortI (m.map (·.1))).map (Value.int .i64)) := by
    rw [h3, ← e1]
    exact hrow
  have h4 : Kd.R (Kd.int .i64) 3 w' (w.alloc (.cells #[.map (some b)] 66)).heap.size (fun _ => True) v (sortI (m.map (·.1))) := Kd.R_of_own hr2 (fun _ _ => trivial)
  exact Kd.R_lower h4 (by simp)
end Go.Proofs.Ytjomlfdkmdgclaa.P
end
section
namespace Go.Proofs.Ytjomlfdkmdgclaa.P
open Go.RowKit Go.Proofs.YtjomlfdkmdgclaaW.PrintWords Go.Proofs.YtjomlfdkmdgclaaW.PrintLast Go.Proofs.YtjomlfdkmdgclaaW.PrintMore
attribute [local go_sem] max2_int min2_int max_two min_two max_three min_three max_four min_four   
set_option linter.unusedVariables false
set_option linter.unusedSimpArgs false
def slices_Clone_int_int.f (l0 : List Int) : Option (List Int) := if l0.length < 17592186044416 then some l0 else none
theorem slices_Clone_int_int.calls (A0 : Option Addr) (c0 : Nat) (l0 : List Int) (r : List Int) (w : World) (hr0 : Kd.C (Kd.int .i64) w A0 l0.length l0) (hc0 : l0.length ≤ c0) (h : slices_Clone_int_int.f l0 = some r) :
    Calls Try.prog 34 #[.slice A0 l0.length c0] w fun e w' => ∃ v0_ : Value, e = .returned (v0_) ∧ Kd.R (Kd.int .i64) 3 w' w.heap.size (fun _ => True) v0_ r ∧ Below w.heap.size w w' := by
  unfold slices_Clone_int_int.f at h
  split at h
  case isFalse => cases h
  case isTrue hl =>
  obtain rfl := Option.some.inj h
  clear h
  have q22 : ∀ (w : World) (a : Option Addr) (n c n' c' : Nat), (binOp .eql 22 (.slice a n c) (.slice none n' c')).run Try.prog w = .ok (.bool a.isNone) w := fun w a n c n' c' => Lib.run_eql_slice_nil w _ _ a n c n' c' Try.underlying22
  have HR := Aside0.mk hr0
  have HL := Aside0.mk hl
  clear hr0 hl
  cases A0 with
  | none =>
    have h0 : l0 = [] := by
      cases l0 with
      | nil => rfl
      | cons x l => obtain ⟨ad, e, _⟩ := HR.out.2.2 (by simp); cases e
    subst h0
    go_enter Try.func34, Try.ntmps34
    go_wp2
    go_ret
    exact ⟨_, rfl, Kd.R_nil _ _ _ _ _, Below.refl _ _⟩
  | some ad =>
    go_enter Try.func34, Try.ntmps34
    go_wp2_with (at_builtin; go_loud (refine Kd.R_append_row (Value.int .i64) 0 (h1 := fun _ => rfl) (w0 := w) w.heap.size rfl (.tmp 5) (.tmp 6) 22 3 (.int .i64 0) 8 rfl Try.underlying22 info3 rfl (by decide) (.slice (some ⟨w.heap.size, 0, none⟩) 0 0) [] l0 (some ad) l0.length c0 (fun _ => True) rfl rfl (fun _ _ => trivial) ?hO ?hR ?hB ?hb ?hl ?_); (case hO => go_loud (exact Kd.R_of_own (World.ownsRow_made w #[] 0 (Nat.le_refl _) (Nat.zero_le _) rfl) (fun _ _ => trivial))); (case hR => go_loud (exact Kd.C_alloc HR.out _)); (case hB => exact below_alloc (Below.refl _ _) _); (case hb => go_loud (simp)); (case hl => go_loud (have := HL.out; simp; omega)); intro v1 w1 ho hb hg hat)
    have ho' : Kd.R (Kd.int .i64) 3 w1 w.heap.size (fun _ => True) v1 l0 := ho
    have HO := Aside0.mk ho'
    have HB := Aside0.mk hb
    clear ho ho' hb hg hat
    go_wp2
    go_ret
    exact ⟨_, rfl, HO.out, HB.out⟩
end Go.Proofs.Ytjomlfdkmdgclaa.P
end
section
namespace Go.Proofs.Ytjomlfdkmdgclaa.P
open Go.RowKit Go.Proofs.YtjomlfdkmdgclaaW.PrintWords Go.Proofs.YtjomlfdkmdgclaaW.PrintLast Go.Proofs.YtjomlfdkmdgclaaW.PrintMore
attribute [local go_sem] max2_int min2_int max_two min_two max_three min_three max_four min_four   
set_option linter.unusedVariables false
set_option linter.unusedSimpArgs false
open Go.Maps (Keyed)
def FnLists (P : Program) (w : World) (dom : Int → Prop) (fv : Value) (next : Int → List Int) : Prop :=
  ∃ (g : Nat) (pre lb : Array Value), fv = .func (.func g) pre lb ∧ (∀ args w, (callFunc g args).run P w = .ok (.enter g args) w) ∧
    ∀ W x, Below w.heap.size w W → dom x → Calls P g (pre ++ #[.int .i64 x] ++ lb) W fun e w' => ∃ (A : Option Addr) (c : Nat), e = .returned (.slice A (next x).length c) ∧ (next x).length ≤ c ∧ Kd.C (Kd.int .i64) w' A (next x).length (next x) ∧ Below W.heap.size W w'
def fromF (next : Int → List Int) : Nat → List (Int × Int) → List Int → Option (List (Int × Int))
  | 0, _, _ => none
  | k + 1, m, q => match q with
    | [] => if m.length * 8 ≤ 140737488355328 then some m else none
    | x :: q => if (x :: q).length ≤ 1000000000 ∧ (next x).length ≤ 1000000000 ∧ 0 ≤ (mget m x).getD 0 ∧ (mget m x).getD 0 ≤ 1000000000000 then
        (if (mget m x).getD 0 = 0 then fromF next k (mput m x ((mget m x).getD 0 + 1)) (q ++ next x) else fromF next k (mput m x ((mget m x).getD 0 + 1)) q) else none
abbrev encI (m : List (Int × Int)) : List (Int × Value) := m.map fun p => (p.1, Value.int .i64 p.2)
theorem intKeyed : Keyed Try.prog 3 := Go.Maps.int_keyed Try.underlying3
theorem int_inj : ∀ x y : Int, Value.int .i64 x = Value.int .i64 y → x = y := fun x y h => by simpa using h
theorem zero_int (w : World) : (zeroValue 3).run Try.prog w = .ok (.int .i64 0) w := by kernel_rfl
theorem getD_encI (m : List (Int × Int)) (x : Int) : (mget (encI m) x).getD (.int .i64 0) = .int .i64 ((mget m x).getD 0) := by
  rw [mget_map]; cases mget m x <;> rfl
theorem fit_i64 {x : Int} (h : -9223372036854775808 ≤ x ∧ x ≤ 9223372036854775807) : ∃ l, keyOf Try.prog 3 (.int .i64 x) = some l := ⟨_, Go.Maps.keyOf_int_mk Try.underlying3 (WalkArith.wf_i64 (by omega))⟩
theorem from_walk (fv : Value) (next : Int → List Int) (dom : Int → Prop) (hdom : ∀ x, dom x → (-9223372036854775808 ≤ x ∧ x ≤ 9223372036854775807) ∧ ∀ y ∈ next x, dom y) (k : Nat) (A0 : Option Addr) (c0 : Nat) (l0 : List Int) (r : List (Int × Int)) (w : World)
    (hf : FnLists Try.prog w dom fv next) (hl0 : ∀ x ∈ l0, dom x) (hr0 : Kd.C (Kd.int .i64) w A0 l0.length l0) (hc0 : l0.length ≤ c0) (h : fromF next k [] l0 = some r) :
    Calls Try.prog 39 #[.slice A0 l0.length c0, fv] w fun e w' => ∃ v0_ : Value, e = .returned (v0_) ∧ Kd.R (Kd.int .i64) 3 w' w.heap.size (fun _ => True) v0_ (sortI (r.map (·.1))) ∧ Below w.heap.size w w' := by
  obtain ⟨g, pre, lb, rfl, eg, hq⟩ := hf
  have HQ := Aside0.mk hq
  have HR := Aside0.mk hr0
  have HC := Aside0.mk hc0
  have HD := Aside0.mk hdom
  have HL := Aside0.mk hl0
  have H := Aside0.mk h
  have hmm := @run_makeMap Try.prog
  clear hq hr0 hc0 hdom hl0 h
  go_enter Try.func39, Try.ntmps39
  go_wp2
  go_loopg [0] k (fun kq v0 wr => ∃ (q : List Int) (m : List (Int × Int)) (A : Option Addr) (c : Nat), v0 = .slice A q.length c ∧ Aside0 (fromF next kq m q = some r) ∧ Aside0 (kq ≤ k) ∧ Aside0 (q.length ≤ c) ∧ Aside0 (Kd.C (Kd.int .i64) wr A q.length q) ∧ Aside0 (∀ x ∈ q, dom x) ∧
    Aside0 (MapOf Try.prog 3 (Value.int .i64) wr w.heap.size (encI m)) ∧ Aside0 (Below w.heap.size w wr) ∧ Aside0 (w.heap.size < wr.heap.size))
  case atStart => exact ⟨l0, [], A0, c0, rfl, H, ⟨Nat.le_refl _⟩, HC, ⟨Kd.C_below HR.out (below_alloc (Below.refl _ _) _)⟩, HL, ⟨MapOf.made _ _ _ _⟩, ⟨below_alloc (Below.refl _ _) _⟩, ⟨by simp⟩⟩
  case round =>
    clear H HR HC HL
    obtain ⟨q, m, A, c, rfl, HF, HK, HC, HR, HL, HM, HB, HS⟩ := hrel
    cases gk with
    | zero => exact absurd HF.out (by simp [fromF])
    | succ k1 =>
      cases q with
      | nil =>
        have h2 := HF.out
        simp only [fromF] at h2
        split at h2
        case isFalse => cases h2
        case isTrue hlen =>
        obtain rfl := Option.some.inj h2
        clear h2
        have HN := Aside0.mk hlen
        clear hlen
        have hlt : ¬ (0 : Int) < (([] : List Int).length : Int) := by simp
        go_wp2_with fail
        refine (keys_calls _ _).mono ?_
        rintro e w' ⟨rfl, rfl⟩
        go_wp2_with fail
        refine (sorted_calls w.heap.size (encI m) _ HM.out (by rw [List.length_map]; exact HN.out)).mono ?_
        rintro e w' ⟨v, rfl, hR, hb⟩
        have hR2 := Aside0.mk hR
        have hb2 := Aside0.mk hb
        clear hR hb
        go_wp2
        go_ret
        have h3 := hR2.out
        rw [map_vals] at h3
        exact ⟨v, rfl, Kd.R_lower h3 HB.out.size, below_step HB.out hb2.out⟩
      | cons x q =>
        have h2 := HF.out
        simp only [fromF] at h2
        split at h2
        case isFalse => cases h2
        case isTrue hb =>
        obtain ⟨b1, b2, b3, b4⟩ := hb
        have hdx := HL.out x List.mem_cons_self
        obtain ⟨hx, hnx⟩ := HD.out x hdx
        have hkey := fit_i64 hx
        have HX := Aside0.mk hx
        have HNX := Aside0.mk hnx
        have HDX := Aside0.mk hdx
        have B1 := Aside0.mk b1
        have B2 := Aside0.mk b2
        have H3 := Aside0.mk h2
        obtain ⟨ad, hA, hcell⟩ := Kd.at_int HR.out 0 (by omega) (by simp)
        have hcell' : wr.cell? ad = some (.int .i64 x) := hcell
        subst hA
        obtain ⟨i0, hi, hz0, hz1, hz2⟩ := info_parts info3
        obtain ⟨A', hrun, hread, hcap⟩ := print_drop_of (P := Try.prog) (Value.int .i64) (0 : Int) 22 3 .i64 Try.underlying22 hi hz1 (some ad) c (x :: q) 1 (by omega) (by simp; omega) HC.out
        have hread2 : Kd.C (Kd.int .i64) wr A' q.length q := Kd.C_of_reads (hread wr (Kd.reads_of_C (d := (0 : Int)) HR.out))
        have hrun2 : ∀ W : World, (Instr.slice 22 (.slice (some ad) (x :: q).length c) (some (.int .i64 1)) none none).run Try.prog W = .ok (.slice A' q.length (c - 1)) W := hrun
        have hlt : (0 : Int) < ((x :: q).length : Int) := by simp
        have HR2 := Aside0.mk hread2
        have HC2 : Aside0 (q.length ≤ c - 1) := ⟨hcap⟩
        clear hcell hrun hread hcap hread2 hx hnx hdx b1 b2 h2 hi hz0 hz1 hz2
        have HB1 : (x :: q).length ≤ 1000000000 := B1.out
        generalize hn : (x :: q).length = n at hrun2 hlt HB1
        try rw [hn]
        have HN := Aside0.mk hn
        clear hn
        go_wp2_with fail
        refine (slices_Clone_int_int.calls _ _ q q _ HR2.out HC2.out (if_pos (by have := B1.out; simp at this; omega))).mono ?_
        rintro e w1 ⟨v1, rfl, hR1, hb1⟩
        have HM1 := Aside0.mk (HM.out.below hb1)
        have HR1 := Aside0.mk (Kd.R_lower (Kd.R_mono (Kd.R_bound hR1) (ok' := fun k => wr.heap.size ≤ k) (fun k hk => hk.2.1)) HB.out.size)
        have HB1' := Aside0.mk (below_step HB.out hb1)
        have HS1 := Aside0.mk (Nat.lt_of_lt_of_le HS.out hb1.size)
        obtain ⟨A1, c1, rfl⟩ := Kd.R_slice hR1
        clear hR1 hb1 hcell' hrun2
        have h3 := H3.out
        have hget := getD_encI m x
        have hmp := mput_map (Value.int .i64) x ((mget m x).getD 0 + 1) m
        have hgs : (mget (encI (mput m x ((mget m x).getD 0 + 1))) x).getD (.int .i64 0) = .int .i64 ((mget m x).getD 0 + 1) := by rw [getD_encI, mget_mput_same]; rfl
        generalize hv : (mget m x).getD 0 = v at h3 hget hmp hgs b3 b4
        have HG := Aside0.mk hget
        have HMP := Aside0.mk hmp
        have HGS := Aside0.mk hgs
        have H3' := Aside0.mk h3
        clear hget hmp hgs hv h3 H3
        by_cases hv0 : v = 0
        · have H4 := Aside0.mk ((if_pos hv0).symm.trans H3'.out)
          subst hv0
          clear H3'
          go_wp2_with (first
            | (at_lookup; refine wpList_lookup_map rfl (.tmp 17) (.tmp 18) 66 3 rfl intKeyed int_inj Try.underlying66 zero_int rfl HM1.out x rfl hkey (.int .i64 0) HG.out ?_)
            | (at_mapUpdate; refine wpList_update_map rfl (.tmp 17) (.tmp 18) (.tmp 20) 66 3 rfl intKeyed int_inj Try.underlying66 rfl HM1.out x rfl hkey (.int .i64 (0 + 1)) rfl ?_; intro w2 hm2 hg2 hz2; rw [HMP.out] at hm2; have HM2 := Aside0.mk hm2; have HR2' := Aside0.mk (Kd.R_grown HR1.out hg2 (fun k hk e => by have := HS.out; have e2 := Option.some.inj e; omega)); have HB2 := Aside0.mk (HB1'.out.grown hg2 HB1'.out.size (fun j e => by have e2 := Option.some.inj e; omega)); have HS2 : Aside0 (w.heap.size < w2.heap.size) := ⟨by rw [hz2]; exact HS1.out⟩; clear hm2 hg2 hz2 HR1 HM1 HB1' HS1)
            | (at_lookup; refine wpList_lookup_map rfl (.tmp 21) (.tmp 22) 66 3 rfl intKeyed int_inj Try.underlying66 zero_int rfl HM2.out x rfl hkey (.int .i64 (0 + 1)) HGS.out ?_)
            | fail)
          refine (HQ.out _ x HB2.out HDX.out).mono ?_
          rintro e w3 ⟨A3, c3, rfl, hc3, hr3, hb3⟩
          have HR3 := Aside0.mk hr3
          have HC3 := Aside0.mk hc3
          have HM3 := Aside0.mk (HM2.out.below hb3)
          have HR2'' := Aside0.mk (Kd.R_mono (Kd.R_below HR2'.out hb3) (ok' := fun k => w.heap.size < k) (fun k hk => Nat.lt_of_lt_of_le HS.out hk))
          have HB3 := Aside0.mk (below_step HB2.out hb3)
          have HS3 := Aside0.mk (Nat.lt_of_lt_of_le HS2.out hb3.size)
          clear hr3 hc3 hb3 HM2 HR2' HB2 HS2
          go_wp2_with (at_builtin; refine Kd.R_append_row (Value.int .i64) 0 (h1 := fun _ => rfl) (w0 := w) w.heap.size rfl (.tmp 25) (.tmp 28) 22 3 (.int .i64 0) 8 rfl Try.underlying22 info3 rfl (by decide) (.slice A1 q.length c1) q (next x) A3 (next x).length c3 (fun k => w.heap.size < k) rfl rfl (fun k hk => Nat.lt_of_lt_of_le HS3.out hk) HR2''.out HR3.out HB3.out HB3.out.size (by have h1_ := B1.out; have h2_ := B2.out; simp only [List.length_cons] at h1_; omega) ?_; intro v4 w4 ho4 hb4 hg4 hat4; have HM4 := Aside0.mk (HM3.out.grown hg4 (fun e => by have h_ := HR2''.out.1 w.heap.size e.symm; exact absurd h_ (Nat.lt_irrefl _))); have ho5 : Kd.R (Kd.int .i64) 3 w4 w.heap.size (fun k => w.heap.size < k) v4 (q ++ next x) := ho4; have HR4 := Aside0.mk ho5; have HB4 := Aside0.mk hb4; have HS4 : Aside0 (w.heap.size < w4.heap.size) := ⟨Nat.lt_of_lt_of_le HS3.out hg4.size⟩; obtain ⟨A4, c4, rfl⟩ := Kd.R_slice ho5; clear ho4 ho5 hb4 hg4 hat4 HM3 HR2'' HB3 HS3 HR3 HC3)
          obtain ⟨A5, c5, e5, hle5, hC5⟩ := Kd.R_reads HR4.out
          injection e5 with e6 e7 e8
          subst e6 e8
          have HL5 := Aside0.mk hle5
          have HC5 := Aside0.mk hC5
          clear hle5 hC5 e7
          go_roundg k1
          case measure => have := HK.out; omega
          case rel =>
            exact ⟨q ++ next x, mput m x (0 + 1), A4, c4, by rw [List.length_append], H4, ⟨by have := HK.out; omega⟩, HL5, HC5, ⟨fun y hy => (List.mem_append.1 hy).elim (fun hy => HL.out y (List.mem_cons_of_mem _ hy)) (fun hy => HNX.out y hy)⟩, HM4, HB4, HS4⟩
        · have H4 := Aside0.mk ((if_neg hv0).symm.trans H3'.out)
          have ht : ¬ (v + 1 = 1) := by omega
          clear H3'
          go_wp2_with (first
            | (at_lookup; refine wpList_lookup_map rfl (.tmp 17) (.tmp 18) 66 3 rfl intKeyed int_inj Try.underlying66 zero_int rfl HM1.out x rfl hkey (.int .i64 v) HG.out ?_)
            | (at_mapUpdate; refine wpList_update_map rfl (.tmp 17) (.tmp 18) (.tmp 20) 66 3 rfl intKeyed int_inj Try.underlying66 rfl HM1.out x rfl hkey (.int .i64 (v + 1)) rfl ?_; intro w2 hm2 hg2 hz2; rw [HMP.out] at hm2; have HM2 := Aside0.mk hm2; have HR2' := Aside0.mk (Kd.R_grown HR1.out hg2 (fun k hk e => by have := HS.out; have e2 := Option.some.inj e; omega)); have HB2 := Aside0.mk (HB1'.out.grown hg2 HB1'.out.size (fun j e => by have e2 := Option.some.inj e; omega)); have HS2 : Aside0 (w.heap.size < w2.heap.size) := ⟨by rw [hz2]; exact HS1.out⟩; clear hm2 hg2 hz2 HR1 HM1 HB1' HS1)
            | (at_lookup; refine wpList_lookup_map rfl (.tmp 21) (.tmp 22) 66 3 rfl intKeyed int_inj Try.underlying66 zero_int rfl HM2.out x rfl hkey (.int .i64 (v + 1)) HGS.out ?_))
          obtain ⟨A5, c5, e5, hle5, hC5⟩ := Kd.R_reads HR2'.out
          injection e5 with e6 e7 e8
          subst e6 e8
          have HL5 := Aside0.mk hle5
          have HC5 := Aside0.mk hC5
          clear hle5 hC5 e7
          go_roundg k1
          case measure => have := HK.out; omega
          case rel =>
            exact ⟨q, mput m x (v + 1), A1, c1, rfl, H4, ⟨by have := HK.out; omega⟩, HL5, HC5, ⟨fun y hy => HL.out y (List.mem_cons_of_mem _ hy)⟩, HM2, HB2, HS2⟩
end Go.Proofs.Ytjomlfdkmdgclaa.P
end
section
namespace Go.Proofs.Ytjomlfdkmdgclaa.P
open Go.RowKit Go.Proofs.YtjomlfdkmdgclaaW.PrintWords Go.Proofs.YtjomlfdkmdgclaaW.PrintLast Go.Proofs.YtjomlfdkmdgclaaW.PrintMore
attribute [local go_sem] max2_int min2_int max_two min_two max_three min_three max_four min_four   
set_option linter.unusedVariables false
set_option linter.unusedSimpArgs false
theorem indexFunc_int (fv : Value) (A0 : Option Addr) (c0 : Nat) (l0 : List Int) (p : Int → Bool) (w : World) (hr0 : Kd.C (Kd.int .i64) w A0 l0.length l0) (hc0 : l0.length ≤ c0)
   (hf : FnTells Try.prog w IntRel fv p) :
   Calls Try.prog 48 #[.slice A0 l0.length c0, fv] w fun e w' => e = .returned (.int .i64 (idxOf p l0)) ∧ Below w.heap.size w w' := by
  obtain ⟨g, pre, lb, rfl, eg, hq⟩ := hf
  have hl : l0.length ≤ 9223372036854775807 := hr0.2.1
  have HR := Aside0.mk hr0
  clear hr0
  have HQ := Aside0.mk hq
  clear hq
  go_enter Try.func48, Try.ntmps48
  go_wp2
  go_loopg [8] l0.length (fun gg s8 wr => ∃ kk : Nat, kk ≤ l0.length ∧ l0.length - kk ≤ gg ∧ s8 = .int .i64 kk ∧ Aside0 (Below w.heap.size w wr) ∧ Aside0 (∀ j, j < kk → ∀ h : j < l0.length, p l0[j] = false))
  case atStart => exact ⟨0, Nat.zero_le _, by omega, rfl, ⟨Below.refl _ w⟩, ⟨fun j hj => absurd hj (Nat.not_lt_zero _)⟩⟩
  case round =>
    obtain ⟨kk, hkk, hg, rfl, BW, A⟩ := hrel
    by_cases hlt : kk < l0.length
    · have hltz : (kk : Int) < (l0.length : Int) := by omega
      obtain ⟨ad, hA, hcell⟩ := Kd.at_int HR.out kk (by omega) hltz
      have hcell' : wr.cell? (ad.add kk) = some (.int .i64 (rd l0 kk)) := pw_cell_below BW.out (by simpa using hcell)
      have hcall := HQ.out wr (rd l0 kk) _ BW.out rfl
      subst hA
      clear hcell
      cases hp : p (rd l0 kk) with
      | true =>
        rw [hp] at hcall
        go_wp2_with fail
        refine hcall.mono ?_
        rintro e w' ⟨rfl, hb'⟩
        go_wp2
        go_ret
        refine ⟨?_, below_then BW.out BW.out.size hb'⟩
        rw [idxOf_hit hlt A.out (by rw [← rd_getElem l0 kk hlt]; exact hp)]
        rfl
      | false =>
        rw [hp] at hcall
        go_wp2_with fail
        refine hcall.mono ?_
        rintro e w' ⟨rfl, hb'⟩
        go_wp2
        go_roundg (l0.length - (kk + 1))
        case measure => omega
        case rel =>
          refine ⟨kk + 1, by omega, by omega, by go_num, ⟨below_then BW.out BW.out.size hb'⟩, ⟨fun j hj hlt => ?_⟩⟩
          by_cases e : j = kk
          · subst e
            rw [← rd_getElem l0 j hlt]; exact hp
          · exact A.out j (by omega) hlt
    · have hltz : ¬ (kk : Int) < (l0.length : Int) := by omega
      have : kk = l0.length := by omega
      subst this
      go_wp2
      go_ret
      refine ⟨?_, BW.out⟩
      rw [idxOf_miss A.out]
      rfl
theorem containsFunc_int (fv : Value) (A0 : Option Addr) (c0 : Nat) (l0 : List Int) (p : Int → Bool) (w : World) (hr0 : Kd.C (Kd.int .i64) w A0 l0.length l0) (hc0 : l0.length ≤ c0)
   (hf : FnTells Try.prog w IntRel fv p) :
   Calls Try.prog 42 #[.slice A0 l0.length c0, fv] w fun e w' => e = .returned (.bool (l0.any p)) ∧ Below w.heap.size w w' := by
  have hc := indexFunc_int fv A0 c0 l0 p w hr0 hc0 hf
  rw [← idxOf_ge]
  clear hr0 hf
  generalize idxOf p l0 = q at hc
  go_enter Try.func42, Try.ntmps42
  go_wp2_with fail
  refine hc.mono ?_
  rintro e w' ⟨rfl, hb'⟩
  go_wp2
  go_ret
  exact ⟨rfl, hb'⟩
end Go.Proofs.Ytjomlfdkmdgclaa.P
end
