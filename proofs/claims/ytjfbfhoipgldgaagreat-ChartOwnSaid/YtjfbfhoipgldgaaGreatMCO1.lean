/- Spans that were told may be overwritten: told again they are alike; rules and signs are not changed. Part 1: contracts of the functions that the law reaches, and words for them. -/
import Derived.Test.YtjfbfhoipgldgaaGreatProg
import Derived.Below
import Derived.Deep.Draws
import Derived.Deep.AppendLies
import Derived.Maps.AppendAt
import Derived.OwnWalk
import Derived.Laws.BytesArg
import Derived.Laws.MakeOwn
import Derived.Laws.OwnMore
import Derived.Deep.OwnRows
import Derived.Tactics
import Derived.Lib.ConvBytes
import Derived.Laws.Slices
import Derived.WalkKit
import Derived.KernelRfl
import Derived.RowKit3
import Derived.Deep.LoopGhost
import Derived.Deep.QuietTactic
import Derived.BigQuiet
import Derived.WideLaws
import Derived.Deep.DeepCutAuto
import Derived.Deep.CutBlock
import Derived.Deep.RegionHeld3
import Derived.Laws.Rows
import Derived.Lib.AppendStr
import Derived.ArgAppend
import Derived.Laws.IdiomCopy
import Derived.OrdersHeld
import Derived.Laws.BitsLemmas
import Derived.RowKit
import Derived.Shelf.Abstract
import Derived.Maps.OwnOps
import Derived.MapKept
import Derived.Shelf.SlIterI.Nil
import Derived.Shelf.SortM.Plain
import Derived.Shelf.SortM.SortNone
import Derived.Ground.GgzProg
import Derived.Ground.SlgmProg
import Derived.CallsIn
import Derived.WalkSpells
import Derived.BigRegion
import Derived.DeepKeys4
import Derived.RangeFuncNested
import Derived.RangeFuncBound
import Derived.RangeFuncCalls
import Derived.RangeFuncLeaves
import Derived.Shelf.RegionOpen
import Derived.OwnWalkIn
import Derived.TacticsInMore
import Derived.LoopNIn
import Derived.LoopIn
import Derived.RecoverIn
import Derived.Laws.Pointers
import Derived.Test.YtjfbfhoipgldgaaGreatMCO0
section
namespace Go.Proofs.YtjfbfhoipgldgaaGreat.P
open Go.RowKit Go.Proofs.YtjfbfhoipgldgaaGreatW.PrintWords Go.Proofs.YtjfbfhoipgldgaaGreatW.PrintLast Go.Proofs.YtjfbfhoipgldgaaGreatW.PrintMore
attribute [local go_sem] ob_ lb_ vb_ ub_ db_ cb_ nb_ kb_   
set_option linter.unusedVariables false
set_option linter.unusedSimpArgs false
def errW : Option Int → Value
 | none => .nilIface
 | some c => .iface 0 (.int .i64 c)
theorem wa_ : errW none = .nilIface := rfl
theorem va_ (c : Int) : errW (some c) = .iface 0 (.int .i64 c) := rfl
theorem ae_ : (Tryz.prog.info? 3).map (fun i => (i.zero, i.size, i.bytes)) = some (some (.int .i64 0), 1, 8) := by kernel_rfl
theorem info31 : (Tryz.prog.info? 31).map (fun i => (i.zero, i.size, i.bytes)) = some (some (.agg #[(.int .i64 0), (.int .i64 0), (.int .i64 0), (.int .i64 0), (.int .i64 0)]), 5, 40) := by kernel_rfl
theorem info42 : (Tryz.prog.info? 42).map (fun i => (i.zero, i.size, i.bytes)) = some (some (.agg #[(.int .i64 0), (.int .i64 0), (.int .i64 0)]), 3, 24) := by kernel_rfl
theorem jp_ : (Tryz.prog.info? 48).map (fun i => (i.zero, i.size, i.bytes)) = some (some (.agg #[(.int .i64 0), (.slice none 0 0), (.int .i64 0), (.slice none 0 0), (.int .i64 0)]), 5, 72) := by kernel_rfl
theorem info53 : (Tryz.prog.info? 53).map (fun i => (i.zero, i.size, i.bytes)) = some (some (.agg #[(.int .i64 0), (.int .i64 0), (.int .i64 0)]), 3, 24) := by kernel_rfl
def eh_ (xs : List (List Int)) (i : Int) : (List Int) := xs.getD i.toNat ([] : List Int)
theorem at_L1 {w : World} {A : Option Addr} {n : Nat} {xs : List (List Int)} (h : Kd.C (Kd.slice 3 (Kd.int .i64)) w A n xs) (i : Int) (h0 : 0 ≤ i) (h1 : i < n) : ∃ ad A0 c0, A = some ad ∧ w.cell? (ad.add i.toNat) = some (.slice A0 (eh_ xs i).length c0) ∧ (eh_ xs i).length ≤ c0 ∧ (Kd.int .i64).C w A0 (eh_ xs i).length (eh_ xs i) := by
 obtain ⟨ad, c, e, _, hK, hc0⟩ := Kd.C_get h ([] : List Int) i h0 h1
 have hc : ∀ j u, c[j]? = some u → w.cell? (ad.add (i.toNat * 1 + j)) = some u := hc0
 obtain ⟨A0, c0, rfl, l0, g0⟩ := hK
 exact ⟨ad, A0, c0, e, by have hq := hc 0 _ rfl; rwa [Nat.mul_one, Nat.add_zero] at hq, l0, g0⟩
structure S46 where
 f0 : Int
 f1 : (List Int)
def z46 : S46 := ⟨(0 : Int), ([] : List Int)⟩
def k46 : Kd S46 := Kd.iso (Kd.pair (Kd.int .i64) (Kd.slice 3 (Kd.int .i64))) (fun x : S46 => (x.f0, x.f1))
theorem k46_open {w : World} {x : S46} {cs : List Value} (h : k46.K w x cs) : ∃ A1 c1, cs = [.int .i64 x.f0, .slice A1 x.f1.length c1] ∧ x.f1.length ≤ c1 ∧ (Kd.int .i64).C w A1 x.f1.length x.f1 := by
 obtain ⟨_, _, rfl, rfl, ⟨A1, c1, rfl, l1, g1⟩⟩ := h
 exact ⟨A1, c1, rfl, l1, g1⟩
theorem k46_mk (w : World) (x : S46) {A1 : Option Addr} {c1 : Nat} (l1 : x.f1.length ≤ c1) (g1 : (Kd.int .i64).C w A1 x.f1.length x.f1) : k46.K w x [.int .i64 x.f0, .slice A1 x.f1.length c1] := ⟨[.int .i64 x.f0], [.slice A1 x.f1.length c1], rfl, rfl, ⟨A1, c1, rfl, l1, g1⟩⟩
structure S48 where
 f0 : Int
 f1 : (List Int)
 f2 : S46
 f3 : Int
def z48 : S48 := ⟨(0 : Int), ([] : List Int), z46, (0 : Int)⟩
def k48 : Kd S48 := Kd.iso (Kd.pair (Kd.int .i64) (Kd.pair (Kd.slice 3 (Kd.int .i64)) (Kd.pair k46 (Kd.int .i64)))) (fun x : S48 => (x.f0, x.f1, x.f2, x.f3))
theorem ir_ {w : World} {x : S48} {cs : List Value} (h : k48.K w x cs) : ∃ A1 c1 A3 c3, cs = [.int .i64 x.f0, .slice A1 x.f1.length c1, .int .i64 x.f2.f0, .slice A3 x.f2.f1.length c3, .int .i64 x.f3] ∧ x.f1.length ≤ c1 ∧ (Kd.int .i64).C w A1 x.f1.length x.f1 ∧ x.f2.f1.length ≤ c3 ∧ (Kd.int .i64).C w A3 x.f2.f1.length x.f2.f1 := by
 obtain ⟨_, _, rfl, rfl, ⟨_, _, rfl, ⟨A1, c1, rfl, l1, g1⟩, ⟨_, _, rfl, s2, rfl⟩⟩⟩ := h
 obtain ⟨A3, c3, rfl, l3, g3⟩ := k46_open s2
 exact ⟨A1, c1, A3, c3, rfl, l1, g1, l3, g3⟩
theorem k48_mk (w : World) (x : S48) {A1 : Option Addr} {c1 : Nat} (l1 : x.f1.length ≤ c1) (g1 : (Kd.int .i64).C w A1 x.f1.length x.f1) {A3 : Option Addr} {c3 : Nat} (l3 : x.f2.f1.length ≤ c3) (g3 : (Kd.int .i64).C w A3 x.f2.f1.length x.f2.f1) : k48.K w x [.int .i64 x.f0, .slice A1 x.f1.length c1, .int .i64 x.f2.f0, .slice A3 x.f2.f1.length c3, .int .i64 x.f3] := ⟨[.int .i64 x.f0], [.slice A1 x.f1.length c1, .int .i64 x.f2.f0, .slice A3 x.f2.f1.length c3, .int .i64 x.f3], rfl, rfl, ⟨[.slice A1 x.f1.length c1], [.int .i64 x.f2.f0, .slice A3 x.f2.f1.length c3, .int .i64 x.f3], rfl, ⟨A1, c1, rfl, l1, g1⟩, ⟨[.int .i64 x.f2.f0, .slice A3 x.f2.f1.length c3], [.int .i64 x.f3], rfl, (k46_mk w x.f2 l3 g3), rfl⟩⟩⟩
theorem we_ (W : World) (ok : Nat → Prop) (x : S48) {A1 : Option Addr} {c1 : Nat} (l1 : x.f1.length ≤ c1) (g1 : Kd.F (Kd.int .i64) W ok A1 x.f1.length x.f1) {A3 : Option Addr} {c3 : Nat} (l3 : x.f2.f1.length ≤ c3) (g3 : Kd.F (Kd.int .i64) W ok A3 x.f2.f1.length x.f2.f1) : Kd.FK k48 W ok x [.int .i64 x.f0, .slice A1 x.f1.length c1, .int .i64 x.f2.f0, .slice A3 x.f2.f1.length c3, .int .i64 x.f3] := fun W2 hW => k48_mk W2 x l1 (g1 W2 hW) l3 (g3 W2 hW)
def sb_ (xs : List S48) (i : Int) : S48 := xs.getD i.toNat z48
theorem pf_ {w : World} {A : Option Addr} {n : Nat} {xs : List S48} (h : Kd.C k48 w A n xs) (i : Int) (h0 : 0 ≤ i) (h1 : i < n) : ∃ ad A1 c1 A3 c3, A = some ad ∧ w.cell? (ad.add (i.toNat * 5)) = some (.int .i64 (sb_ xs i).f0) ∧ w.cell? ⟨(ad.add (i.toNat * 5)).block, (ad.add (i.toNat * 5)).off + 1, none⟩ = some (.slice A1 (sb_ xs i).f1.length c1) ∧ w.cell? ⟨(ad.add (i.toNat * 5)).block, (ad.add (i.toNat * 5)).off + 2, none⟩ = some (.int .i64 (sb_ xs i).f2.f0) ∧ w.cell? ⟨(ad.add (i.toNat * 5)).block, (ad.add (i.toNat * 5)).off + 3, none⟩ = some (.slice A3 (sb_ xs i).f2.f1.length c3) ∧ w.cell? ⟨(ad.add (i.toNat * 5)).block, (ad.add (i.toNat * 5)).off + 4, none⟩ = some (.int .i64 (sb_ xs i).f3) ∧ (sb_ xs i).f1.length ≤ c1 ∧ (Kd.int .i64).C w A1 (sb_ xs i).f1.length (sb_ xs i).f1 ∧ (sb_ xs i).f2.f1.length ≤ c3 ∧ (Kd.int .i64).C w A3 (sb_ xs i).f2.f1.length (sb_ xs i).f2.f1 := by
 obtain ⟨ad, c, e, _, hK, hc0⟩ := Kd.C_get h z48 i h0 h1
 have hc : ∀ j u, c[j]? = some u → w.cell? (ad.add (i.toNat * 5 + j)) = some u := hc0
 obtain ⟨A1, c1, A3, c3, rfl, l1, g1, l3, g3⟩ := ir_ hK
 exact ⟨ad, A1, c1, A3, c3, e, hc 0 _ rfl, by rw [← oc_ _ _ 1 (by omega)]; exact hc 1 _ rfl, by rw [← oc_ _ _ 2 (by omega)]; exact hc 2 _ rfl, by rw [← oc_ _ _ 3 (by omega)]; exact hc 3 _ rfl, by rw [← oc_ _ _ 4 (by omega)]; exact hc 4 _ rfl, l1, g1, l3, g3⟩
structure S31 where
 f0 : Int
 f1 : Int
 f2 : Int
 f3 : Int
 f4 : Int
def z31 : S31 := ⟨(0 : Int), (0 : Int), (0 : Int), (0 : Int), (0 : Int)⟩
def k31 : Kd S31 := Kd.iso (Kd.pair (Kd.int .i64) (Kd.pair (Kd.int .i64) (Kd.pair (Kd.int .i64) (Kd.pair (Kd.int .i64) (Kd.int .i64))))) (fun x : S31 => (x.f0, x.f1, x.f2, x.f3, x.f4))
theorem k31_open {w : World} {x : S31} {cs : List Value} (h : k31.K w x cs) : cs = [.int .i64 x.f0, .int .i64 x.f1, .int .i64 x.f2, .int .i64 x.f3, .int .i64 x.f4] := by
 obtain ⟨_, _, rfl, rfl, ⟨_, _, rfl, rfl, ⟨_, _, rfl, rfl, ⟨_, _, rfl, rfl, rfl⟩⟩⟩⟩ := h
 exact rfl
theorem vd_ (w : World) (base : Nat) (ok : Nat → Prop) (x : S31)  : k31.M w base ok x [.int .i64 x.f0, .int .i64 x.f1, .int .i64 x.f2, .int .i64 x.f3, .int .i64 x.f4] := ⟨[.int .i64 x.f0], [.int .i64 x.f1, .int .i64 x.f2, .int .i64 x.f3, .int .i64 x.f4], rfl, rfl, ⟨[.int .i64 x.f1], [.int .i64 x.f2, .int .i64 x.f3, .int .i64 x.f4], rfl, rfl, ⟨[.int .i64 x.f2], [.int .i64 x.f3, .int .i64 x.f4], rfl, rfl, ⟨[.int .i64 x.f3], [.int .i64 x.f4], rfl, rfl, rfl⟩⟩⟩⟩
def ra_ (xs : List S31) (i : Int) : S31 := xs.getD i.toNat z31
theorem qf_ {w : World} {A : Option Addr} {n : Nat} {xs : List S31} (h : Kd.C k31 w A n xs) (i : Int) (h0 : 0 ≤ i) (h1 : i < n) : ∃ ad , A = some ad ∧ w.cell? (ad.add (i.toNat * 5)) = some (.int .i64 (ra_ xs i).f0) ∧ w.cell? ⟨(ad.add (i.toNat * 5)).block, (ad.add (i.toNat * 5)).off + 1, none⟩ = some (.int .i64 (ra_ xs i).f1) ∧ w.cell? ⟨(ad.add (i.toNat * 5)).block, (ad.add (i.toNat * 5)).off + 2, none⟩ = some (.int .i64 (ra_ xs i).f2) ∧ w.cell? ⟨(ad.add (i.toNat * 5)).block, (ad.add (i.toNat * 5)).off + 3, none⟩ = some (.int .i64 (ra_ xs i).f3) ∧ w.cell? ⟨(ad.add (i.toNat * 5)).block, (ad.add (i.toNat * 5)).off + 4, none⟩ = some (.int .i64 (ra_ xs i).f4) := by
 obtain ⟨ad, c, e, _, hK, hc0⟩ := Kd.C_get h z31 i h0 h1
 have hc : ∀ j u, c[j]? = some u → w.cell? (ad.add (i.toNat * 5 + j)) = some u := hc0
 obtain rfl := k31_open hK
 exact ⟨ad, e, hc 0 _ rfl, by rw [← oc_ _ _ 1 (by omega)]; exact hc 1 _ rfl, by rw [← oc_ _ _ 2 (by omega)]; exact hc 2 _ rfl, by rw [← oc_ _ _ 3 (by omega)]; exact hc 3 _ rfl, by rw [← oc_ _ _ 4 (by omega)]; exact hc 4 _ rfl⟩
structure S42 where
 f0 : Int
 f1 : Int
 f2 : Int
def z42 : S42 := ⟨(0 : Int), (0 : Int), (0 : Int)⟩
def k42 : Kd S42 := Kd.iso (Kd.pair (Kd.int .i64) (Kd.pair (Kd.int .i64) (Kd.int .i64))) (fun x : S42 => (x.f0, x.f1, x.f2))
theorem im_ {w : World} {x : S42} {cs : List Value} (h : k42.K w x cs) : cs = [.int .i64 x.f0, .int .i64 x.f1, .int .i64 x.f2] := by
 obtain ⟨_, _, rfl, rfl, ⟨_, _, rfl, rfl, rfl⟩⟩ := h
 exact rfl
theorem yj_ {w : World} {base : Nat} {ok : Nat → Prop} {x : S42} {cs : List Value} (h : k42.M w base ok x cs) : cs = [.int .i64 x.f0, .int .i64 x.f1, .int .i64 x.f2] := by
 obtain ⟨_, _, rfl, rfl, ⟨_, _, rfl, rfl, rfl⟩⟩ := h
 exact rfl
theorem k42_mk (w : World) (x : S42)  : k42.K w x [.int .i64 x.f0, .int .i64 x.f1, .int .i64 x.f2] := ⟨[.int .i64 x.f0], [.int .i64 x.f1, .int .i64 x.f2], rfl, rfl, ⟨[.int .i64 x.f1], [.int .i64 x.f2], rfl, rfl, rfl⟩⟩
theorem cl_ (w : World) (base : Nat) (ok : Nat → Prop) (x : S42)  : k42.M w base ok x [.int .i64 x.f0, .int .i64 x.f1, .int .i64 x.f2] := ⟨[.int .i64 x.f0], [.int .i64 x.f1, .int .i64 x.f2], rfl, rfl, ⟨[.int .i64 x.f1], [.int .i64 x.f2], rfl, rfl, rfl⟩⟩
def hc_ (xs : List S42) (i : Int) : S42 := xs.getD i.toNat z42
theorem wg_ {w : World} {A : Option Addr} {n : Nat} {xs : List S42} (h : Kd.C k42 w A n xs) (i : Int) (h0 : 0 ≤ i) (h1 : i < n) : ∃ ad , A = some ad ∧ w.cell? (ad.add (i.toNat * 3)) = some (.int .i64 (hc_ xs i).f0) ∧ w.cell? ⟨(ad.add (i.toNat * 3)).block, (ad.add (i.toNat * 3)).off + 1, none⟩ = some (.int .i64 (hc_ xs i).f1) ∧ w.cell? ⟨(ad.add (i.toNat * 3)).block, (ad.add (i.toNat * 3)).off + 2, none⟩ = some (.int .i64 (hc_ xs i).f2) := by
 obtain ⟨ad, c, e, _, hK, hc0⟩ := Kd.C_get h z42 i h0 h1
 have hc : ∀ j u, c[j]? = some u → w.cell? (ad.add (i.toNat * 3 + j)) = some u := hc0
 obtain rfl := im_ hK
 exact ⟨ad, e, hc 0 _ rfl, by rw [← oc_ _ _ 1 (by omega)]; exact hc 1 _ rfl, by rw [← oc_ _ _ 2 (by omega)]; exact hc 2 _ rfl⟩
structure S50 where
 f0 : Int
 f1 : Int
 f2 : Int
 f3 : (List Int)
 f4 : (List Int)
def z50 : S50 := ⟨(0 : Int), (0 : Int), (0 : Int), ([] : List Int), ([] : List Int)⟩
def k50 : Kd S50 := Kd.iso (Kd.pair (Kd.int .i64) (Kd.pair (Kd.int .i64) (Kd.pair (Kd.int .i64) (Kd.pair (Kd.slice 3 (Kd.int .i64)) (Kd.slice 3 (Kd.int .i64)))))) (fun x : S50 => (x.f0, x.f1, x.f2, x.f3, x.f4))
theorem k50_open {w : World} {x : S50} {cs : List Value} (h : k50.K w x cs) : ∃ A3 c3 A4 c4, cs = [.int .i64 x.f0, .int .i64 x.f1, .int .i64 x.f2, .slice A3 x.f3.length c3, .slice A4 x.f4.length c4] ∧ x.f3.length ≤ c3 ∧ (Kd.int .i64).C w A3 x.f3.length x.f3 ∧ x.f4.length ≤ c4 ∧ (Kd.int .i64).C w A4 x.f4.length x.f4 := by
 obtain ⟨_, _, rfl, rfl, ⟨_, _, rfl, rfl, ⟨_, _, rfl, rfl, ⟨_, _, rfl, ⟨A3, c3, rfl, l3, g3⟩, ⟨A4, c4, rfl, l4, g4⟩⟩⟩⟩⟩ := h
 exact ⟨A3, c3, A4, c4, rfl, l3, g3, l4, g4⟩
theorem k50_mk (w : World) (x : S50) {A3 : Option Addr} {c3 : Nat} (l3 : x.f3.length ≤ c3) (g3 : (Kd.int .i64).C w A3 x.f3.length x.f3) {A4 : Option Addr} {c4 : Nat} (l4 : x.f4.length ≤ c4) (g4 : (Kd.int .i64).C w A4 x.f4.length x.f4) : k50.K w x [.int .i64 x.f0, .int .i64 x.f1, .int .i64 x.f2, .slice A3 x.f3.length c3, .slice A4 x.f4.length c4] := ⟨[.int .i64 x.f0], [.int .i64 x.f1, .int .i64 x.f2, .slice A3 x.f3.length c3, .slice A4 x.f4.length c4], rfl, rfl, ⟨[.int .i64 x.f1], [.int .i64 x.f2, .slice A3 x.f3.length c3, .slice A4 x.f4.length c4], rfl, rfl, ⟨[.int .i64 x.f2], [.slice A3 x.f3.length c3, .slice A4 x.f4.length c4], rfl, rfl, ⟨[.slice A3 x.f3.length c3], [.slice A4 x.f4.length c4], rfl, ⟨A3, c3, rfl, l3, g3⟩, ⟨A4, c4, rfl, l4, g4⟩⟩⟩⟩⟩
def ta_ (xs : List S50) (i : Int) : S50 := xs.getD i.toNat z50
theorem ri_ {w : World} {A : Option Addr} {n : Nat} {xs : List S50} (h : Kd.C k50 w A n xs) (i : Int) (h0 : 0 ≤ i) (h1 : i < n) : ∃ ad A3 c3 A4 c4, A = some ad ∧ w.cell? (ad.add (i.toNat * 5)) = some (.int .i64 (ta_ xs i).f0) ∧ w.cell? ⟨(ad.add (i.toNat * 5)).block, (ad.add (i.toNat * 5)).off + 1, none⟩ = some (.int .i64 (ta_ xs i).f1) ∧ w.cell? ⟨(ad.add (i.toNat * 5)).block, (ad.add (i.toNat * 5)).off + 2, none⟩ = some (.int .i64 (ta_ xs i).f2) ∧ w.cell? ⟨(ad.add (i.toNat * 5)).block, (ad.add (i.toNat * 5)).off + 3, none⟩ = some (.slice A3 (ta_ xs i).f3.length c3) ∧ w.cell? ⟨(ad.add (i.toNat * 5)).block, (ad.add (i.toNat * 5)).off + 4, none⟩ = some (.slice A4 (ta_ xs i).f4.length c4) ∧ (ta_ xs i).f3.length ≤ c3 ∧ (Kd.int .i64).C w A3 (ta_ xs i).f3.length (ta_ xs i).f3 ∧ (ta_ xs i).f4.length ≤ c4 ∧ (Kd.int .i64).C w A4 (ta_ xs i).f4.length (ta_ xs i).f4 := by
 obtain ⟨ad, c, e, _, hK, hc0⟩ := Kd.C_get h z50 i h0 h1
 have hc : ∀ j u, c[j]? = some u → w.cell? (ad.add (i.toNat * 5 + j)) = some u := hc0
 obtain ⟨A3, c3, A4, c4, rfl, l3, g3, l4, g4⟩ := k50_open hK
 exact ⟨ad, A3, c3, A4, c4, e, hc 0 _ rfl, by rw [← oc_ _ _ 1 (by omega)]; exact hc 1 _ rfl, by rw [← oc_ _ _ 2 (by omega)]; exact hc 2 _ rfl, by rw [← oc_ _ _ 3 (by omega)]; exact hc 3 _ rfl, by rw [← oc_ _ _ 4 (by omega)]; exact hc 4 _ rfl, l3, g3, l4, g4⟩
structure S53 where
 f0 : Int
 f1 : Int
 f2 : Int
def z53 : S53 := ⟨(0 : Int), (0 : Int), (0 : Int)⟩
def k53 : Kd S53 := Kd.iso (Kd.pair (Kd.int .i64) (Kd.pair (Kd.int .i64) (Kd.int .i64))) (fun x : S53 => (x.f0, x.f1, x.f2))
theorem hr_ {w : World} {x : S53} {cs : List Value} (h : k53.K w x cs) : cs = [.int .i64 x.f0, .int .i64 x.f1, .int .i64 x.f2] := by
 obtain ⟨_, _, rfl, rfl, ⟨_, _, rfl, rfl, rfl⟩⟩ := h
 exact rfl
theorem k53_mk (w : World) (x : S53)  : k53.K w x [.int .i64 x.f0, .int .i64 x.f1, .int .i64 x.f2] := ⟨[.int .i64 x.f0], [.int .i64 x.f1, .int .i64 x.f2], rfl, rfl, ⟨[.int .i64 x.f1], [.int .i64 x.f2], rfl, rfl, rfl⟩⟩
theorem k53_mkM (w : World) (base : Nat) (ok : Nat → Prop) (x : S53)  : k53.M w base ok x [.int .i64 x.f0, .int .i64 x.f1, .int .i64 x.f2] := ⟨[.int .i64 x.f0], [.int .i64 x.f1, .int .i64 x.f2], rfl, rfl, ⟨[.int .i64 x.f1], [.int .i64 x.f2], rfl, rfl, rfl⟩⟩
def ad_ (xs : List S53) (i : Int) : S53 := xs.getD i.toNat z53
theorem vg_ {w : World} {A : Option Addr} {n : Nat} {xs : List S53} (h : Kd.C k53 w A n xs) (i : Int) (h0 : 0 ≤ i) (h1 : i < n) : ∃ ad , A = some ad ∧ w.cell? (ad.add (i.toNat * 3)) = some (.int .i64 (ad_ xs i).f0) ∧ w.cell? ⟨(ad.add (i.toNat * 3)).block, (ad.add (i.toNat * 3)).off + 1, none⟩ = some (.int .i64 (ad_ xs i).f1) ∧ w.cell? ⟨(ad.add (i.toNat * 3)).block, (ad.add (i.toNat * 3)).off + 2, none⟩ = some (.int .i64 (ad_ xs i).f2) := by
 obtain ⟨ad, c, e, _, hK, hc0⟩ := Kd.C_get h z53 i h0 h1
 have hc : ∀ j u, c[j]? = some u → w.cell? (ad.add (i.toNat * 3 + j)) = some u := hc0
 obtain rfl := hr_ hK
 exact ⟨ad, e, hc 0 _ rfl, by rw [← oc_ _ _ 1 (by omega)]; exact hc 1 _ rfl, by rw [← oc_ _ _ 2 (by omega)]; exact hc 2 _ rfl⟩
end Go.Proofs.YtjfbfhoipgldgaaGreat.P
end
section
namespace Go.Proofs.YtjfbfhoipgldgaaGreat.P
open Go.RowKit Go.Shelf Go.Proofs.YtjfbfhoipgldgaaGreatW.PrintWords Go.Proofs.YtjfbfhoipgldgaaGreatW.PrintLast Go.Proofs.YtjfbfhoipgldgaaGreatW.PrintMore
def qe_ {α : Type} (P : Program) (w : World) (rel : World → α → Value → Prop) (fv : Value) (p : α → Bool) : Prop :=
 ∃ (g : Nat) (pre lb : Array Value), fv = .func (.func g) pre lb ∧ (∀ args w, (callFunc g args).run P w = .ok (.enter g args) w) ∧
  ∀ W x v, Below w.heap.size w W → rel W x v → Calls P g (pre ++ #[v] ++ lb) W fun e w' => e = .returned (.bool (p x)) ∧ Below W.heap.size W w'
theorem qd_ {a b : Bool} (h : a = b) : Ending.returned (.bool a) = .returned (.bool b) := by rw [h]
theorem cj_ {a b : Int} (h : a = b) : Ending.returned (.int .i64 a) = .returned (.int .i64 b) := by rw [h]
theorem lo_ (w : World) (v : Value) (t : TypeId) : (w.alloc (.cells #[v] t)).cell? ⟨w.heap.size, 0, none⟩ = some v := World.cell?_alloc_at _ _ _ _ rfl
def lh_ (_ : World) (x : Int) (v : Value) : Prop := v = .int .i64 x
def ut_ {α : Type} (d : Kd α) (W : World) (x : α) (v : Value) : Prop := ∃ cs : List Value, v = .agg cs.toArray ∧ d.K W x cs
def ji_ {α : Type} (p : α → Bool) (l : List α) : Int := match l.findIdx? p with | some i => i | none => -1
theorem eo_ {α : Type} {p : α → Bool} {l : List α} {k : Nat} (hk : k < l.length) (h0 : ∀ j, j < k → ∀ h : j < l.length, p l[j] = false) (h1 : p l[k] = true) : ji_ p l = k := by
 have : l.findIdx? p = some k := by
  rw [List.findIdx?_eq_some_iff_getElem]
  exact ⟨hk, h1, fun j hj => by simpa using h0 j hj (by omega)⟩
 simp [ji_, this]
theorem km_ {α : Type} {p : α → Bool} {l : List α} (h0 : ∀ j, j < l.length → ∀ h : j < l.length, p l[j] = false) : ji_ p l = -1 := by
 have : l.findIdx? p = none := by
  rw [List.findIdx?_eq_none_iff]
  intro x hx
  obtain ⟨j, hj, rfl⟩ := List.mem_iff_getElem.1 hx
  exact h0 j hj hj
 simp [ji_, this]
theorem jr_ {α : Type} (p : α → Bool) (l : List α) : decide (0 ≤ ji_ p l) = l.any p := by
 unfold ji_
 cases h : l.findIdx? p with
 | none =>
  rw [List.findIdx?_eq_none_iff] at h
  have : l.any p = false := by simpa using h
  simp [this]
 | some i =>
  have h2 := List.findIdx?_eq_some_iff_getElem.1 h
  have : l.any p = true := List.any_eq_true.2 ⟨_, List.getElem_mem h2.1, h2.2.1⟩
  simp [this]
theorem de_ (xs : List Int) (j : Nat) (h : j < xs.length) : rd xs j = xs[j] := by
 simp [rd, List.getD_eq_getElem?_getD, List.getElem?_eq_getElem h]
end Go.Proofs.YtjfbfhoipgldgaaGreat.P
end
section
namespace Go.Proofs.YtjfbfhoipgldgaaGreat.P
set_option linter.unusedVariables false
set_option linter.unusedSimpArgs false
open Go.RowKit Go.Shelf Go.Proofs.YtjfbfhoipgldgaaGreatW.PrintWords Go.Proofs.YtjfbfhoipgldgaaGreatW.PrintLast Go.Proofs.YtjfbfhoipgldgaaGreatW.PrintMore
open Go.Maps (Keyed)
open Go.MapKept (Stamped)
section
variable {κ : Type} [DecidableEq κ]
def mget {ν : Type} : List (κ × ν) → κ → Option ν
 | [], _ => none
 | p :: m, k => if p.1 = k then some p.2 else mget m k
def mput {ν : Type} : List (κ × ν) → κ → ν → List (κ × ν)
 | [], k, v => [(k, v)]
 | p :: m, k, v => if p.1 = k then (k, v) :: m else p :: mput m k v
theorem mb_ {ν : Type} (k : κ) (v : ν) : ∀ m : List (κ × ν), mget (mput m k v) k = some v
 | [] => by simp [mput, mget]
 | p :: m => by
  unfold mput
  by_cases h : p.1 = k
  ·rw [if_pos h]; simp [mget]
  rw [if_neg h, mget, if_neg h]; exact mb_ k v m
theorem wb_ {ν : Type} (k : κ) (v : ν) (j : κ) (hj : j ≠ k) : ∀ m : List (κ × ν), mget (mput m k v) j = mget m j
 | [] => by simp [mput, mget, Ne.symm hj]
 | p :: m => by
  unfold mput
  by_cases h : p.1 = k
  ·rw [if_pos h]; simp [mget, h, Ne.symm hj]
  rw [if_neg h, mget, mget, wb_ k v j hj m]
theorem co_ {ν : Type} (k : κ) (v : ν) : ∀ m : List (κ × ν), (mput m k v).map (·.1) = if k ∈ m.map (·.1) then m.map (·.1) else m.map (·.1) ++ [k]
 | [] => by simp [mput]
 | p :: m => by
  unfold mput
  by_cases h : p.1 = k
  ·rw [if_pos h]; simp [h]
  rw [if_neg h]
  simp only [List.map_cons, List.mem_cons, co_ k v m]
  have h2 : ¬ k = p.1 := fun e => h e.symm
  by_cases h3 : k ∈ m.map (·.1)
  ·simp [h3]
  simp [h2, h3]
theorem pk_ {ν : Type} (k : κ) : ∀ m : List (κ × ν), (mget m k).isSome = true ↔ k ∈ m.map (·.1)
 | [] => by simp [mget]
 | p :: m => by
  unfold mget
  by_cases h : p.1 = k
  ·rw [if_pos h]; simp [h]
  rw [if_neg h, pk_ k m]
  have h2 : ¬ k = p.1 := fun e => h e.symm
  simp [h2]
theorem fj_ {ν : Type} {k : κ} {v : ν} {m : List (κ × ν)} {p : κ × ν} (h : p ∈ mput m k v) : p = (k, v) ∨ p ∈ m := by
 induction m with
 | nil => simp [mput] at h; exact .inl h
 | cons q m ih =>
  unfold mput at h
  by_cases hq : q.1 = k
  ·rw [if_pos hq] at h
   rcases List.mem_cons.1 h with h | h
   ·exact .inl h
   exact .inr (List.mem_cons_of_mem _ h)
  rw [if_neg hq] at h
  rcases List.mem_cons.1 h with h | h
  ·exact .inr (h ▸ List.mem_cons_self)
  rcases ih h with h | h
  ·exact .inl h
  exact .inr (List.mem_cons_of_mem _ h)
theorem am_ {ν : Type} {k : κ} {v : ν} : ∀ {m : List (κ × ν)}, mget m k = some v → (k, v) ∈ m
 | p :: m, h => by
  unfold mget at h
  by_cases hq : p.1 = k
  ·rw [if_pos hq] at h
   obtain rfl := Option.some.inj h
   rw [← hq]; exact List.mem_cons_self
  rw [if_neg hq] at h
  exact List.mem_cons_of_mem _ (am_ h)
omit [DecidableEq κ] in
theorem map_vals {ν μ : Type} (f : ν → μ) (m : List (κ × ν)) : (m.map fun p => (p.1, f p.2)).map (·.1) = m.map (·.1) := by
 rw [List.map_map]; rfl
theorem ne_ {ν μ : Type} (f : ν → μ) (k : κ) : ∀ m : List (κ × ν), mget (m.map fun p => (p.1, f p.2)) k = (mget m k).map f
 | [] => rfl
 | p :: m => by
  rw [List.map_cons, mget, mget]
  by_cases h : p.1 = k
  ·rw [if_pos h, if_pos h]; rfl
  rw [if_neg h, if_neg h, ne_ f k m]
theorem fg_ {ν μ : Type} (f : ν → μ) (k : κ) (v : ν) : ∀ m : List (κ × ν), mput (m.map fun p => (p.1, f p.2)) k (f v) = (mput m k v).map fun p => (p.1, f p.2)
 | [] => rfl
 | p :: m => by
  rw [List.map_cons, mput, mput]
  by_cases h : p.1 = k
  ·rw [if_pos h, if_pos h]; rfl
  rw [if_neg h, if_neg h, fg_ f k v m]; rfl
def MapOf (P : Program) (kt : TypeId) (enc : κ → Value) (w : World) (b : Nat) (m : List (κ × Value)) : Prop :=
 ∃ es clock, w.heap[b]? = some (.map es clock) ∧ es.toList.map (fun e => (e.key, e.val)) = m.map (fun p => (enc p.1, p.2)) ∧
  (∀ p ∈ m, ∃ l, keyOf P kt (enc p.1) = some l) ∧ Stamped es clock
variable {P : Program} {kt : TypeId} {enc : κ → Value} {w w1 : World} {b : Nat} {m : List (κ × Value)}
omit [DecidableEq κ] in
theorem MapOf.made (P : Program) (kt : TypeId) (enc : κ → Value) (w : World) : MapOf P kt enc (w.alloc (.map #[] 0)) w.heap.size [] :=
 ⟨#[], 0, (MapKept.heap_alloc w _).1, rfl, by simp, MapKept.stamped_empty 0⟩
omit [DecidableEq κ] in
theorem MapOf.lt (h : MapOf P kt enc w b m) : b < w.heap.size := by
 obtain ⟨es, clock, hb, _⟩ := h
 exact (Array.getElem?_eq_some_iff.1 hb).1
omit [DecidableEq κ] in
theorem MapOf.same (h : MapOf P kt enc w b m) (hw : w1.heap[b]? = w.heap[b]?) : MapOf P kt enc w1 b m := by
 obtain ⟨es, clock, hb, r⟩ := h
 exact ⟨es, clock, hw.trans hb, r⟩
omit [DecidableEq κ] in
theorem MapOf.below (h : MapOf P kt enc w b m) (hb : Below w.heap.size w w1) : MapOf P kt enc w1 b m := h.same (hb.block b h.lt)
omit [DecidableEq κ] in
theorem MapOf.alloc (h : MapOf P kt enc w b m) (o : Obj) : MapOf P kt enc (w.alloc o) b m := h.below (ba_ (Below.refl _ _) o)
omit [DecidableEq κ] in
theorem MapOf.drewN (h : MapOf P kt enc w b m) (n : Nat) : MapOf P kt enc (w.drewN n) b m := h
omit [DecidableEq κ] in
theorem MapOf.drew (h : MapOf P kt enc w b m) : MapOf P kt enc w.drew b m := h
omit [DecidableEq κ] in
theorem MapOf.grown (h : MapOf P kt enc w b m) {row : Option Nat} (hg : w.grownBy w1 row) (hne : some b ≠ row) : MapOf P kt enc w1 b m := h.same (hg.block b h.lt hne)
omit [DecidableEq κ] in
theorem MapOf.setCell (h : MapOf P kt enc w b m) (p : Addr) (hp : b ≠ p.block) (u : Value) : MapOf P kt enc (w.setCell p u) b m := h.same (Below.heap_setCell w p u b hp)
omit [DecidableEq κ] in
theorem MapOf.not_cells (h : MapOf P kt enc w b m) {g : Nat} {cs : Array Value} {t : TypeId} {z : Nat × Nat} (hg : w.heap[g]? = some (.cells cs t z)) : b ≠ g := by
 obtain ⟨es, clock, h1, _⟩ := h
 intro e
 rw [e, hg] at h1
 cases h1
omit [DecidableEq κ] in
theorem MapOf.nodup (h : MapOf P kt enc w b m) : (m.map (·.1)).Nodup := by
 obtain ⟨es, clock, _, he, _, hs⟩ := h
 have hp := ((MapKept.stamped_iff es clock).1 hs).2.2
 have h1 : es.toList.map (fun e => e.key) = m.map (fun p => enc p.1) := by
  have := congrArg (List.map (·.1)) he
  simpa [List.map_map, Function.comp_def] using this
 have h2 : (es.toList.map (fun e => e.key)).Pairwise (· ≠ ·) := List.pairwise_map.2 hp
 rw [h1] at h2
 rw [List.Nodup, List.pairwise_map]
 have h3 := List.pairwise_map.1 h2
 exact h3.imp (fun hne e => hne (by rw [e]))
theorem MapOf.find_cases (K : Keyed P kt) (hinj : ∀ x y, enc x = enc y → x = y) {es : Array MapEntry} (he : es.toList.map (fun e => (e.key, e.val)) = m.map (fun p => (enc p.1, p.2)))
  (hks : ∀ p ∈ m, ∃ l, keyOf P kt (enc p.1) = some l) (w : World) (k : κ) (hk : ∃ l, keyOf P kt (enc k) = some l) (hnd : (m.map (·.1)).Nodup) :
  ((Instr.findKey kt (enc k) es.toList).run P w = .ok none w ∧ (∀ e ∈ es.toList, e.key ≠ enc k) ∧ mget m k = none ∧ ∀ v, mput m k v = m ++ [(k, v)]) ∨
  ∃ j e, (Instr.findKey kt (enc k) es.toList).run P w = .ok (some (j, e.val)) w ∧ es.toList[j]? = some e ∧ e.key = enc k ∧ mget m k = some e.val ∧
   ∀ v, ∃ _ : j < m.length, mput m k v = m.set j (k, v) := by
 obtain ⟨l, hl⟩ := hk
 have hkeys : ∀ e ∈ es.toList, ∃ l, keyOf P kt e.key = some l := by
  intro e hem
  have : (e.key, e.val) ∈ m.map (fun p => (enc p.1, p.2)) := by rw [← he]; exact List.mem_map.2 ⟨e, hem, rfl⟩
  obtain ⟨p, hp, hpe⟩ := List.mem_map.1 this
  obtain ⟨l', hl'⟩ := hks p hp
  exact ⟨l', by rw [← (Prod.mk.inj hpe).1]; exact hl'⟩
 rcases K.find w hl es.toList hkeys with ⟨h1, h2⟩ | ⟨j, e, h1, h2, h3⟩
 ·refine .inl ⟨h1, h2, ?_⟩
  have hno : ∀ p ∈ m, p.1 ≠ k := by
   intro p hp hpk
   have : (enc p.1, p.2) ∈ es.toList.map (fun e => (e.key, e.val)) := by rw [he]; exact List.mem_map.2 ⟨p, hp, rfl⟩
   obtain ⟨e, hem, hee⟩ := List.mem_map.1 this
   exact h2 e hem (by rw [(Prod.mk.inj hee).1, hpk])
  clear he hks hnd
  induction m with
  | nil => exact ⟨rfl, fun _ => rfl⟩
  | cons p m ih =>
   have hp := hno p List.mem_cons_self
   obtain ⟨i1, i2⟩ := ih (fun q hq => hno q (List.mem_cons_of_mem _ hq))
   exact ⟨by rw [mget, if_neg hp]; exact i1, fun v => by rw [mput, if_neg hp, i2]; rfl⟩
 refine .inr ⟨j, e, h1, h2, h3, ?_⟩
 have hm : m[j]? = some (k, e.val) := by
  have : (m.map (fun p => (enc p.1, p.2)))[j]? = some (e.key, e.val) := by rw [← he, List.getElem?_map, h2]; rfl
  rw [List.getElem?_map] at this
  obtain ⟨p, hp, hpe⟩ := Option.map_eq_some_iff.1 this
  obtain ⟨q1, q2⟩ := Prod.mk.inj hpe
  rw [hp, ← q2, ← hinj p.1 k (by rw [q1, h3])]
 clear he hks h1 h2 h3
 induction m generalizing j with
 | nil => simp at hm
 | cons p m ih =>
  rw [List.map_cons, List.nodup_cons] at hnd
  cases j with
  | zero =>
   rw [List.getElem?_cons_zero] at hm
   obtain rfl := Option.some.inj hm
   exact ⟨by simp [mget], fun v => ⟨by simp, by simp [mput]⟩⟩
  | succ j =>
   rw [List.getElem?_cons_succ] at hm
   have hp : p.1 ≠ k := fun e2 => hnd.1 (by rw [e2]; exact List.mem_map.2 ⟨_, List.mem_of_getElem? hm, rfl⟩)
   obtain ⟨i1, i2⟩ := ih hnd.2 j hm
   refine ⟨by rw [mget, if_neg hp]; exact i1, fun v => ?_⟩
   obtain ⟨hj, i3⟩ := i2 v
   exact ⟨by simp; omega, by rw [mput, if_neg hp, i3]; rfl⟩
theorem MapOf.lookup {t e : TypeId} (h : MapOf P kt enc w b m) (K : Keyed P kt) (hinj : ∀ x y, enc x = enc y → x = y) (ht : P.underlying t = some (.map kt e)) {z : Value} (hz : (zeroValue e).run P w = .ok z w)
  (k : κ) (hk : ∃ l, keyOf P kt (enc k) = some l) (c : Bool) :
  (Instr.lookup t (.map (some b)) (enc k) c).run P w = .ok (if c then .tuple #[(mget m k).getD z, .bool (mget m k).isSome] else (mget m k).getD z) w := by
 have hnd := h.nodup
 obtain ⟨es, clock, hb, he, hks, hs⟩ := h
 obtain ⟨l, hl⟩ := hk
 rcases MapOf.find_cases K hinj he hks w k ⟨l, hl⟩ hnd with ⟨h1, _, h3, _⟩ | ⟨j, e0, h1, _, _, h4, _⟩
 ·rw [h3]; simp [Instr.lookup, run_underlying ht, MapKept.run_getObj_map hb, K.check w _ hl, h1, hz, Result.andThen]
 rw [h4]; simp [Instr.lookup, run_underlying ht, MapKept.run_getObj_map hb, K.check w _ hl, h1, Result.andThen]
omit [DecidableEq κ] in
theorem sd_ (w : World) {b : Nat} {o o' : Obj} (hb : w.heap[b]? = some o) : w.grownBy { w with heap := w.heap.setIfInBounds b o' } (some b) :=
 ⟨rfl, rfl, rfl, by simp, fun k _ hne => (MapKept.heap_set hb).2 k (fun e => hne (by rw [e]))⟩
omit [DecidableEq κ] in
theorem qc_ {es : Array MapEntry} {j : Nat} {k : κ} {v : Value} (he : es.toList.map (fun e => (e.key, e.val)) = m.map (fun p => (enc p.1, p.2))) (f : MapEntry → MapEntry) (hf : ∀ e, es.toList[j]? = some e → (f e).key = enc k ∧ (f e).val = v) :
  (es.modify j f).toList.map (fun e => (e.key, e.val)) = (m.set j (k, v)).map (fun p => (enc p.1, p.2)) := by
 rw [List.map_set, ← he, Array.toList_modify]
 apply List.ext_getElem?
 intro i
 rw [List.getElem?_map, List.getElem?_modify, List.getElem?_set, List.getElem?_map, List.length_map]
 by_cases hij : j = i
 ·subst hij
  rw [if_pos rfl]
  cases hes : es.toList[j]? with
  | none =>
   have : ¬ j < es.toList.length := fun hl => by rw [List.getElem?_eq_getElem hl] at hes; cases hes
   rw [if_neg this]; rfl
  | some e =>
   have hl := (List.getElem?_eq_some_iff.1 hes).1
   rw [if_pos hl]
   simp [hf e hes]
 rw [if_neg hij]
 cases es.toList[i]? <;> simp [hij]
theorem MapOf.update {t e : TypeId} (h : MapOf P kt enc w b m) (K : Keyed P kt) (hinj : ∀ x y, enc x = enc y → x = y) (ht : P.underlying t = some (.map kt e)) (k : κ) (hk : ∃ l, keyOf P kt (enc k) = some l) (v : Value) :
  ∃ w', (Instr.mapUpdate t (.map (some b)) (enc k) v).run P w = .ok () w' ∧ MapOf P kt enc w' b (mput m k v) ∧ w.grownBy w' (some b) ∧ w'.heap.size = w.heap.size := by
 have hnd := h.nodup
 obtain ⟨es, clock, hb, he, hks, hs⟩ := h
 obtain ⟨l, hl⟩ := hk
 have hks' : ∀ p ∈ mput m k v, ∃ l, keyOf P kt (enc p.1) = some l := by
  intro p hp
  rcases fj_ hp with rfl | hp
  ·exact ⟨l, hl⟩
  exact hks p hp
 rcases MapOf.find_cases K hinj he hks w k ⟨l, hl⟩ hnd with ⟨h1, h2, _, h4⟩ | ⟨j, e0, h1, h2, h3, _, h5⟩
 ·refine ⟨{ w with heap := w.heap.setIfInBounds b (.map (es.push ⟨enc k, v, clock⟩) (clock + 1)) }, ?_, ⟨es.push ⟨enc k, v, clock⟩, clock + 1, (MapKept.heap_set hb).1, ?_, hks', MapKept.stamped_push hs h2⟩, sd_ w hb, by simp⟩
  ·simp [Instr.mapUpdate, run_underlying ht, MapKept.run_getObj_map hb, K.check w false hl, h1, MapKept.run_setObj_map _ hb, Result.andThen]
  rw [h4, Array.toList_push, List.map_append, List.map_append, he]; rfl
 have hj2 : es[j]? = some e0 := by simpa using h2
 obtain ⟨hj, h6⟩ := h5 v
 refine ⟨{ w with heap := w.heap.setIfInBounds b (.map (es.modify j fun e => { e with key := enc k, val := v }) clock) }, ?_, ⟨es.modify j fun e => { e with key := enc k, val := v }, clock, (MapKept.heap_set hb).1, ?_, hks', ?_⟩, sd_ w hb, by simp⟩
 ·simp [Instr.mapUpdate, run_underlying ht, MapKept.run_getObj_map hb, K.check w false hl, h1, hj2, h3, K.stays w hl, MapKept.run_setObj_map _ hb, Result.andThen]
 ·rw [h6]; exact qc_ he _ (fun e _ => ⟨rfl, rfl⟩)
 exact MapKept.stamped_modify hs _ _ (fun _ _ => rfl) (fun e' _ he' => by rw [hj2] at he'; cases he'; exact h3.symm)
omit [DecidableEq κ] in
theorem xe_ {α : Type} (xs : Array α) (p : α → Bool) : xs.findIdx? p = xs.toList.findIdx? p := by
 cases xs with | mk l => exact List.findIdx?_toArray p l
theorem MapOf.entry {t e : TypeId} (h : MapOf P kt enc w b m) (K : Keyed P kt) (hinj : ∀ x y, enc x = enc y → x = y) (ht : P.underlying t = some (.map kt e)) {z : Value} (hz : ∀ w, (zeroValue e).run P w = .ok z w) (k : κ) (hk : ∃ l, keyOf P kt (enc k) = some l) :
  ∃ w1 n, (Instr.mapEntry t (.map (some b)) (enc k)).run P w = .ok (.tuple #[(mget m k).getD z, .int .i64 n]) w1 ∧ w.grownBy w1 (some b) ∧ w1.heap.size = w.heap.size ∧ (∃ m1, MapOf P kt enc w1 b m1 ∧ mget m1 k = some ((mget m k).getD z)) ∧
   ∀ v, ∃ w2, (Instr.entryStore t (.map (some b)) (.int .i64 n) v).run P w1 = .ok () w2 ∧ MapOf P kt enc w2 b (mput m k v) ∧ w.grownBy w2 (some b) ∧ w2.heap.size = w.heap.size := by
 have hnd := h.nodup
 obtain ⟨es, clock, hb, he, hks, hs⟩ := h
 obtain ⟨l, hl⟩ := hk
 have hks' : ∀ v, ∀ p ∈ mput m k v, ∃ l, keyOf P kt (enc p.1) = some l := by
  intro v p hp
  rcases fj_ hp with rfl | hp
  ·exact ⟨l, hl⟩
  exact hks p hp
 have hst := (MapKept.stamped_iff es clock).1 hs
 rcases MapOf.find_cases K hinj he hks w k ⟨l, hl⟩ hnd with ⟨h1, h2, h3, h4⟩ | ⟨j, e0, h1, h2, h3, h4, h5⟩
 ·have hb1 : ({ w with heap := w.heap.setIfInBounds b (.map (es.push ⟨enc k, z, clock⟩) (clock + 1)) } : World).heap[b]? = some (.map (es.push ⟨enc k, z, clock⟩) (clock + 1)) := (MapKept.heap_set hb).1
  have hf : (es.push ⟨enc k, z, clock⟩).findIdx? (fun e => (e.born : Int) == (clock : Int)) = some es.size := by
   rw [xe_, List.findIdx?_eq_some_iff_getElem]
   refine ⟨by simp, by simp, fun i hi => ?_⟩
   have hi' : i < es.toList.length := by simpa using hi
   have e1 : (es.push ⟨enc k, z, clock⟩).toList[i]'(by simp; omega) = es.toList[i] := by simp [Array.toList_push, List.getElem_append_left hi']
   rw [e1]
   have h9 := hst.1 _ (List.getElem_mem hi')
   intro hc
   have h10 : (es.toList[i].born : Int) = clock := beq_iff_eq.1 hc
   omega
  refine ⟨{ w with heap := w.heap.setIfInBounds b (.map (es.push ⟨enc k, z, clock⟩) (clock + 1)) }, (clock : Int), ?_, sd_ w hb, by simp, ⟨mput m k z, ⟨es.push ⟨enc k, z, clock⟩, clock + 1, hb1, by rw [h4, Array.toList_push, List.map_append, List.map_append, he]; rfl, hks' z, MapKept.stamped_push hs h2⟩, by rw [mb_, h3]; rfl⟩, fun v => ⟨{ w with heap := w.heap.setIfInBounds b (.map ((es.push ⟨enc k, z, clock⟩).modify es.size fun e => { e with val := v }) (clock + 1)) }, ?_, ⟨(es.push ⟨enc k, z, clock⟩).modify es.size fun e => { e with val := v }, clock + 1, (MapKept.heap_set hb).1, ?_, hks' v, ?_⟩, sd_ w hb, by simp⟩⟩
  ·rw [h3]; simp [Instr.mapEntry, run_underlying ht, MapKept.run_getObj_map hb, K.check w false hl, h1, MapKept.run_setObj_map _ hb, Result.andThen, hz, goInt]
  ·simp only [Instr.entryStore]
   simp [MapKept.run_getObj_map hb1, asInt, asIntOf, hf, MapKept.run_setObj_map _ hb1, Result.andThen]
  ·have hpush : (es.push ⟨enc k, z, clock⟩).toList.map (fun e => (e.key, e.val)) = (m ++ [(k, z)]).map (fun p => (enc p.1, p.2)) := by rw [Array.toList_push, List.map_append, List.map_append, he]; rfl
   have hlen : es.size = m.length := by have := congrArg List.length he; simpa using this
   rw [h4, qc_ (k := k) (v := v) hpush _ (fun e he2 => ?_)]
   ·rw [hlen]; simp
   have : e = ⟨enc k, z, clock⟩ := by
    rw [Array.toList_push, List.getElem?_append_right (by simp)] at he2
    simpa using he2.symm
   subst this
   exact ⟨rfl, rfl⟩
  exact MapKept.stamped_modify (MapKept.stamped_push hs h2) _ _ (fun _ _ => rfl) (fun _ _ _ => rfl)
 have hj2 : es[j]? = some e0 := by simpa using h2
 obtain ⟨hj, _⟩ := h5 z
 have hjs : j < es.size := (Array.getElem?_eq_some_iff.1 hj2).1
 have hb1 : ({ w with heap := w.heap.setIfInBounds b (.map (es.modify j fun e => { e with key := enc k }) clock) } : World).heap[b]? = some (.map (es.modify j fun e => { e with key := enc k }) clock) := (MapKept.heap_set hb).1
 have hs1 : Stamped (es.modify j fun e => { e with key := enc k }) clock := MapKept.stamped_modify hs _ _ (fun _ _ => rfl) (fun e' _ he' => by rw [hj2] at he'; cases he'; exact h3.symm)
 have hf : (es.modify j fun e => { e with key := enc k }).findIdx? (fun e => (e.born : Int) == (e0.born : Int)) = some j := by
  rw [xe_, List.findIdx?_eq_some_iff_getElem]
  have hn := hst.2.1
  have g : ∀ i (hi : i < es.toList.length), ((es.modify j fun e => { e with key := enc k }).toList[i]'(by simpa using hi)).born = es.toList[i].born := by
   intro i hi
   simp only [Array.toList_modify, List.getElem_modify]
   split <;> rfl
  refine ⟨by simpa using hjs, by rw [g j (by simpa using hjs)]; simp [(Array.getElem?_eq_some_iff.1 hj2).2], fun i hi => ?_⟩
  have hi' : i < es.toList.length := by simp; omega
  rw [g i hi']
  intro hc
  have h6 : es.toList[i].born = e0.born := by have := beq_iff_eq.1 hc; omega
  have h7 : es.toList[j]'(by simpa using hjs) = e0 := by simp [(Array.getElem?_eq_some_iff.1 hj2).2]
  have h8 : (es.toList.map (·.born))[i]'(by simpa using hi') = (es.toList.map (·.born))[j]'(by simpa using hjs) := by simp only [List.getElem_map, h6, h7]
  have := (List.getElem_inj hn).1 h8
  omega
 refine ⟨{ w with heap := w.heap.setIfInBounds b (.map (es.modify j fun e => { e with key := enc k }) clock) }, (e0.born : Int), ?_, sd_ w hb, by simp, ⟨mput m k e0.val, ⟨es.modify j fun e => { e with key := enc k }, clock, hb1, by obtain ⟨_, h6⟩ := h5 e0.val; rw [h6]; exact qc_ he _ (fun e he2 => by rw [h2] at he2; cases he2; exact ⟨rfl, rfl⟩), hks' _, hs1⟩, by rw [mb_, h4]; rfl⟩, fun v => ⟨{ w with heap := w.heap.setIfInBounds b (.map ((es.modify j fun e => { e with key := enc k }).modify j fun e => { e with val := v }) clock) }, ?_, ⟨(es.modify j fun e => { e with key := enc k }).modify j fun e => { e with val := v }, clock, (MapKept.heap_set hb).1, ?_, hks' v, ?_⟩, sd_ w hb, by simp⟩⟩
 ·rw [h4]; simp [Instr.mapEntry, run_underlying ht, MapKept.run_getObj_map hb, K.check w false hl, h1, hj2, h3, K.stays w hl, MapKept.run_setObj_map _ hb, Result.andThen, goInt]
 ·simp only [Instr.entryStore]
  simp [MapKept.run_getObj_map hb1, asInt, asIntOf, hf, MapKept.run_setObj_map _ hb1, Result.andThen]
 ·obtain ⟨_, h6⟩ := h5 v
  have h7 := qc_ (k := k) (v := e0.val) he (fun e => { e with key := enc k }) (j := j) (fun e he2 => by rw [h2] at he2; cases he2; exact ⟨rfl, rfl⟩)
  rw [h6, qc_ (k := k) (v := v) h7 _ (fun e he2 => ?_)]
  ·simp
  rw [Array.toList_modify, List.getElem?_modify, h2] at he2
  simp at he2
  subst he2
  exact ⟨rfl, rfl⟩
 exact MapKept.stamped_modify hs1 _ _ (fun _ _ => rfl) (fun _ _ _ => rfl)
variable {ops : Array Oper} {rest : List Oper} {o : Oper} {a : Act} {Q : Exit → Act → World → Prop}
theorem sc_ (hg : o.guard = none) (mO x : Operand) (t e : TypeId) (hop : o.op = Op.lookup t mO x false) (K : Keyed P kt) (hinj : ∀ x y, enc x = enc y → x = y) (ht : P.underlying t = some (.map kt e)) {z : Value} (hz : ∀ w, (zeroValue e).run P w = .ok z w)
  (hm : a.eval mO = .map (some b)) (h : MapOf P kt enc w b m) (k : κ) (hx : a.eval x = enc k) (hk : ∃ l, keyOf P kt (enc k) = some l) (v : Value) (hv : (mget m k).getD z = v) (hK : wpList P ops Q rest (a.put o.dst v) w) :
  wpList P ops Q (o :: rest) a w := by
 refine wpList_plain hg fun K' hK' => ?_
 have hrun := h.lookup K hinj ht (hz w) k hk false
 unfold Oper.wp
 simp [execOp, hop, hm, hx, hrun, Result.andThen]
 exact hK' _ _ (by rw [hv]; exact hK)
theorem ud_ (hg : o.guard = none) (mO x v : Operand) (t e : TypeId) (hop : o.op = Op.mapUpdate t mO x v) (K : Keyed P kt) (hinj : ∀ x y, enc x = enc y → x = y) (ht : P.underlying t = some (.map kt e))
  (hm : a.eval mO = .map (some b)) (h : MapOf P kt enc w b m) (k : κ) (hx : a.eval x = enc k) (hk : ∃ l, keyOf P kt (enc k) = some l) (val : Value) (hv : a.eval v = val)
  (hK : ∀ w', MapOf P kt enc w' b (mput m k val) → w.grownBy w' (some b) → w'.heap.size = w.heap.size → wpList P ops Q rest (a.put o.dst undef) w') :
  wpList P ops Q (o :: rest) a w := by
 refine wpList_plain hg fun K' hK' => ?_
 obtain ⟨w', hrun, r1, r2, r3⟩ := h.update K hinj ht k hk val
 unfold Oper.wp
 simp [execOp, hop, hm, hx, hv, hrun, Result.andThen]
 exact hK' _ _ (hK w' r1 r2 r3)
end
end Go.Proofs.YtjfbfhoipgldgaaGreat.P
end
section
namespace Go.Proofs
open Go.Shelf
def Tryz.keysA_ren : Go.Shelf.Ren := ⟨fun | 7 => 80 | 10 => 94 | n => n, fun | 23 => 126 | 26 => 3 | 3 => 3 | 28 => 129 | 0 => 0 | 27 => 128 | 33 => 102 | 4 => 4 | n => n, fun | n => n⟩
theorem Tryz.keysA : Go.Proofs.SlLaysZI.n7 Tryz.prog Tryz.keysA_ren := {
 mixed := by kernel_rfl
 f7 := ⟨Tryz.f80.name, by decide, Tryz.func80.trans (congrArg some (by kernel_rfl))⟩
 f10 := ⟨Tryz.f94.name, by decide, Tryz.func94.trans (congrArg some (by kernel_rfl))⟩
 t0 := Tryz.underlying0
 a0 := Tryz.isAgg0
 z0 := Tryz.sizeOf0
 v0 := Tryz.zeroValue0
 t4 := Tryz.underlying4
 a4 := Tryz.isAgg4
 z4 := Tryz.sizeOf4
 v4 := Tryz.zeroValue4
 t23 := Tryz.underlying126
 a23 := Tryz.isAgg126
 z23 := Tryz.sizeOf126
 v23 := Tryz.zeroValue126
 t26 := Tryz.underlying3
 a26 := Tryz.isAgg3
 z26 := Tryz.sizeOf3
 v26 := Tryz.zeroValue3
 t27 := Tryz.underlying128
 a27 := Tryz.isAgg128
 z27 := Tryz.sizeOf128
 v27 := Tryz.zeroValue128
 t28 := Tryz.underlying129
 a28 := Tryz.isAgg129
 z28 := Tryz.sizeOf129
 v28 := Tryz.zeroValue129
 t33 := Tryz.underlying102
 a33 := Tryz.isAgg102
 z33 := Tryz.sizeOf102
 v33 := Tryz.zeroValue102 }
def Tryz.sortedA_ren : Go.Shelf.Ren := ⟨fun | 6 => 79 | 8 => 93 | 9 => 54 | 11 => 106 | 13 => 36 | 12 => 82 | 23 => 68 | 24 => 69 | 14 => 95 | 15 => 96 | 16 => 97 | 17 => 98 | 18 => 99 | 19 => 100 | 20 => 101 | 21 => 102 | 22 => 103 | 25 => 107 | 26 => 87 | 27 => 88 | 28 => 108 | 29 => 109 | 30 => 91 | 31 => 110 | n => n, fun | 26 => 3 | 28 => 129 | 24 => 23 | 0 => 0 | 3 => 3 | 37 => 87 | 48 => 118 | 50 => 120 | 4 => 4 | 40 => 111 | 39 => 110 | 45 => 115 | 5 => 5 | 9 => 9 | 51 => 136 | 55 => 140 | 57 => 147 | 58 => 94 | 33 => 102 | n => n, fun | n => n⟩
theorem Tryz.sortedA : Go.Proofs.SlLaysZI.n6 Tryz.prog Tryz.sortedA_ren := {
 mixed := by kernel_rfl
 f6 := ⟨Tryz.f79.name, by decide, Tryz.func79.trans (congrArg some (by kernel_rfl))⟩
 f8 := ⟨Tryz.f93.name, by decide, Tryz.func93.trans (congrArg some (by kernel_rfl))⟩
 f11 := ⟨Tryz.f106.name, by decide, Tryz.func106.trans (congrArg some (by kernel_rfl))⟩
 t0 := Tryz.underlying0
 a0 := Tryz.isAgg0
 z0 := Tryz.sizeOf0
 v0 := Tryz.zeroValue0
 t24 := Tryz.underlying23
 a24 := Tryz.isAgg23
 z24 := Tryz.sizeOf23
 v24 := Tryz.zeroValue23
 t26 := Tryz.underlying3
 a26 := Tryz.isAgg3
 z26 := Tryz.sizeOf3
 v26 := Tryz.zeroValue3
 t28 := Tryz.underlying129
 a28 := Tryz.isAgg129
 z28 := Tryz.sizeOf129
 v28 := Tryz.zeroValue129
 i26 := by kernel_rfl }
def Tryz.sortA_ren : Go.Shelf.Ren := ⟨fun | 5 => 54 | 8 => 36 | 7 => 82 | 19 => 68 | 20 => 69 | 10 => 95 | 11 => 96 | 12 => 97 | 13 => 98 | 14 => 99 | 15 => 100 | 16 => 101 | 17 => 102 | 18 => 103 | 30 => 107 | 31 => 87 | 32 => 88 | 33 => 108 | 34 => 109 | 35 => 91 | 40 => 110 | n => n, fun | 23 => 23 | 25 => 3 | 3 => 3 | 32 => 87 | 22 => 23 | 0 => 0 | 44 => 118 | 46 => 120 | 4 => 4 | 36 => 111 | 35 => 110 | 41 => 115 | 5 => 5 | 9 => 9 | 53 => 136 | 57 => 140 | 63 => 147 | 64 => 94 | n => n, fun | n => n⟩
theorem Tryz.sortA : Go.Proofs.SlLaysM.n5 Tryz.prog Tryz.sortA_ren := {
 mixed := by kernel_rfl
 f5 := ⟨Tryz.f54.name, by decide, Tryz.func54.trans (congrArg some (by kernel_rfl))⟩
 f7 := ⟨Tryz.f82.name, by decide, Tryz.func82.trans (congrArg some (by kernel_rfl))⟩
 f8 := Tryz.func36.trans (congrArg some (by kernel_rfl))
 f10 := ⟨Tryz.f95.name, by decide, Tryz.func95.trans (congrArg some (by kernel_rfl))⟩
 f11 := ⟨Tryz.f96.name, by decide, Tryz.func96.trans (congrArg some (by kernel_rfl))⟩
 f12 := ⟨Tryz.f97.name, by decide, Tryz.func97.trans (congrArg some (by kernel_rfl))⟩
 f13 := ⟨Tryz.f98.name, by decide, Tryz.func98.trans (congrArg some (by kernel_rfl))⟩
 f14 := ⟨Tryz.f99.name, by decide, Tryz.func99.trans (congrArg some (by kernel_rfl))⟩
 f15 := ⟨Tryz.f100.name, by decide, Tryz.func100.trans (congrArg some (by kernel_rfl))⟩
 f16 := ⟨Tryz.f101.name, by decide, Tryz.func101.trans (congrArg some (by kernel_rfl))⟩
 f17 := ⟨Tryz.f102.name, by decide, Tryz.func102.trans (congrArg some (by kernel_rfl))⟩
 f18 := ⟨Tryz.f103.name, by decide, Tryz.func103.trans (congrArg some (by kernel_rfl))⟩
 f19 := Tryz.func68.trans (congrArg some (by kernel_rfl))
 f20 := Tryz.func69.trans (congrArg some (by kernel_rfl))
 f30 := ⟨Tryz.f107.name, by decide, Tryz.func107.trans (congrArg some (by kernel_rfl))⟩
 f31 := Tryz.func87.trans (congrArg some (by kernel_rfl))
 f32 := Tryz.func88.trans (congrArg some (by kernel_rfl))
 f33 := ⟨Tryz.f108.name, by decide, Tryz.func108.trans (congrArg some (by kernel_rfl))⟩
 f34 := ⟨Tryz.f109.name, by decide, Tryz.func109.trans (congrArg some (by kernel_rfl))⟩
 f35 := ⟨Tryz.f91.name, by decide, Tryz.func91.trans (congrArg some (by kernel_rfl))⟩
 f40 := ⟨Tryz.f110.name, by decide, Tryz.func110.trans (congrArg some (by kernel_rfl))⟩
 t0 := Tryz.underlying0
 a0 := Tryz.isAgg0
 z0 := Tryz.sizeOf0
 v0 := Tryz.zeroValue0
 t3 := Tryz.underlying3
 a3 := Tryz.isAgg3
 z3 := Tryz.sizeOf3
 v3 := Tryz.zeroValue3
 t4 := Tryz.underlying4
 a4 := Tryz.isAgg4
 z4 := Tryz.sizeOf4
 v4 := Tryz.zeroValue4
 t5 := Tryz.underlying5
 a5 := Tryz.isAgg5
 z5 := Tryz.sizeOf5
 v5 := Tryz.zeroValue5
 t9 := Tryz.underlying9
 a9 := Tryz.isAgg9
 z9 := Tryz.sizeOf9
 v9 := Tryz.zeroValue9
 t22 := Tryz.underlying23
 a22 := Tryz.isAgg23
 z22 := Tryz.sizeOf23
 v22 := Tryz.zeroValue23
 t23 := Tryz.underlying23
 a23 := Tryz.isAgg23
 z23 := Tryz.sizeOf23
 v23 := Tryz.zeroValue23
 t25 := Tryz.underlying3
 a25 := Tryz.isAgg3
 z25 := Tryz.sizeOf3
 v25 := Tryz.zeroValue3
 t32 := Tryz.underlying87
 a32 := Tryz.isAgg87
 z32 := Tryz.sizeOf87
 v32 := Tryz.zeroValue87
 t35 := Tryz.underlying110
 a35 := Tryz.isAgg110
 z35 := Tryz.sizeOf110
 v35 := Tryz.zeroValue110
 t36 := Tryz.underlying111
 a36 := Tryz.isAgg111
 z36 := Tryz.sizeOf111
 v36 := Tryz.zeroValue111
 t41 := Tryz.underlying115
 a41 := Tryz.isAgg115
 z41 := Tryz.sizeOf115
 v41 := Tryz.zeroValue115
 t44 := Tryz.underlying118
 a44 := Tryz.isAgg118
 z44 := Tryz.sizeOf118
 v44 := Tryz.zeroValue118
 t46 := Tryz.underlying120
 a46 := Tryz.isAgg120
 z46 := Tryz.sizeOf120
 v46 := Tryz.zeroValue120
 t53 := Tryz.underlying136
 a53 := Tryz.isAgg136
 z53 := Tryz.sizeOf136
 v53 := Tryz.zeroValue136
 t57 := Tryz.underlying140
 a57 := Tryz.isAgg140
 z57 := Tryz.sizeOf140
 v57 := Tryz.zeroValue140
 t63 := Tryz.underlying147
 a63 := Tryz.isAgg147
 z63 := Tryz.sizeOf147
 v63 := Tryz.zeroValue147
 t64 := Tryz.underlying94
 a64 := Tryz.isAgg94
 z64 := Tryz.sizeOf94
 v64 := Tryz.zeroValue94 }
end Go.Proofs
end
section
namespace Go.Proofs.YtjfbfhoipgldgaaGreat.P
open Go.RowKit Go.Proofs.YtjfbfhoipgldgaaGreatW.PrintWords Go.Proofs.YtjfbfhoipgldgaaGreatW.PrintLast Go.Proofs.YtjfbfhoipgldgaaGreatW.PrintMore
attribute [local go_sem] ob_ lb_ vb_ ub_ db_ cb_ nb_ kb_   
set_option linter.unusedVariables false
set_option linter.unusedSimpArgs false
open Go.Maps (Keyed)
open Go.WideElems (Fit rd rg rg_of)
def zc_ (l : List Int) : List Int := l.mergeSort leI
theorem ws_ (b : Nat) (W : World) : Calls Tryz.prog 80 #[.map (some b)] W fun e w' => e = .returned (.func (.func 94) #[] #[.pointer (some ⟨W.heap.size, 0, none⟩)]) ∧ w' = W.alloc (.cells #[.map (some b)] 126) :=
 (callsIn_wide (n := 5)).1 (AnyZI.keys_in Tryz.keysA Fence.wide 5 trivial rfl (some b) W)
theorem sortsA (m : Nat) : AnyZI.SortsIn Tryz.prog Tryz.sortedA_ren Fence.wide m :=
 ⟨fun blk off cap ss W hH hblk hsz => callsIn_wide.2 (AnyM.slices_Sort_int Tryz.sortA blk off cap ss W hH hblk hsz),
  fun p cap W => callsIn_wide.2 (AnyM.slices_Sort_int_none Tryz.sortA p cap W)⟩
theorem rs_ {P : Program} {kt : TypeId} {w : World} {b : Nat} {m : List (Int × Value)} (hkt : P.underlying kt = some (.int .i64)) (h : MapOf P kt (Value.int .i64) w b m) (hlen : m.length ≤ maxLen) :
  ∃ D0 : DataW Unit, w.ownsMap P kt (fun _ => some (DataW.nil, [])) b m.length D0 ∧ (Go.intKeys D0).Perm (m.map (·.1)) ∧ Maps.size D0 = m.length := by
 obtain ⟨es, clock, hb, he, hk, hs⟩ := h
 have hl : es.size = m.length := by have := congrArg List.length he; simpa using this
 have hkey : ∀ x ∈ es.toList, ∃ a, x.key = .int .i64 a ∧ keyOf P kt x.key = some (.int .i64 a) := by
  intro x hx
  have : (x.key, x.val) ∈ m.map (fun p => (Value.int .i64 p.1, p.2)) := by rw [← he]; exact List.mem_map.2 ⟨x, hx, rfl⟩
  obtain ⟨p, hp, hpe⟩ := List.mem_map.1 this
  obtain ⟨l, hl⟩ := hk p hp
  obtain ⟨a, ha, rfl, _⟩ := Maps.keyOf_i64 hkt hl
  have h1 := (Prod.mk.inj hpe).1
  exact ⟨p.1, h1.symm, by rw [← h1, hl, Go.encZ_inj ha]⟩
 have hrd : ∀ x ∈ es.toList, ∃ y, rd P kt (fun _ => some ((DataW.nil : DataW Unit), [])) x = some y := by
  intro x hx
  obtain ⟨a, _, h2⟩ := hkey x hx
  exact ⟨_, Go.WideElems.rd_mk h2 rfl⟩
 refine ⟨.map ((es.toList.map (rg P kt (fun _ => some (DataW.nil, [])))).foldr DataW.insert []), ⟨es, clock, hb, ⟨by omega, hs, hrd⟩, by omega, rfl⟩, ?_, ?_⟩
 ·have hp := Go.WideShapes.sorted_perm (es.toList.map (rg P kt (fun _ => some ((DataW.nil : DataW Unit), []))))
  refine ((hp.map fun p => Go.intOf p.1)).trans (.of_eq ?_)
  rw [List.map_map]
  have h2 : m.map (·.1) = es.toList.map (fun x => match x.key with | .int _ a => a | _ => 0) := by
   have := congrArg (List.map (fun q : Value × Value => match q.1 with | .int _ a => a | _ => 0)) he
   rw [List.map_map, List.map_map] at this
   exact (this.trans (by rfl)).symm
  rw [h2]
  refine List.map_congr_left fun x hx => ?_
  obtain ⟨a, h3, h4⟩ := hkey x hx
  show Go.intOf (rg P kt _ x).1 = _
  rw [rg_of (Go.WideElems.rd_mk h4 rfl), h3]
  rfl
 show ((es.toList.map (rg P kt (fun _ => some ((DataW.nil : DataW Unit), [])))).foldr DataW.insert []).length = m.length
 rw [length_sorted]
 simpa using hl
theorem ro_ (b : Nat) (m : List (Int × Value)) (w : World) (h : MapOf Tryz.prog 3 (Value.int .i64) w b m) (hlen : m.length * 8 ≤ 140737488355328) :
  Calls Tryz.prog 79 #[.func (.func 94) #[] #[.pointer (some ⟨w.heap.size, 0, none⟩)]] (w.alloc (.cells #[.map (some b)] 126)) fun e w' =>
   ∃ v : Value, e = .returned v ∧ Kd.R (Kd.int .i64) 3 w' w.heap.size (fun _ => True) v (zc_ (m.map (·.1))) ∧ Below w.heap.size w w' := by
 obtain ⟨D0, hown, hperm, hsize⟩ := rs_ Tryz.underlying3 h (by unfold maxLen; omega)
 have hbl := hown.lt
 have hseq : SeqGives Fence.wide 2 Tryz.prog 94 #[.pointer (some ⟨w.heap.size, 0, none⟩)] encZ (fun ss => ss.Perm (intKeys D0)) (Maps.size D0) (w.alloc (.cells #[.map (some b)] 126)) :=
  AnyZI.keys_gives (ρ := Tryz.keysA_ren) { Tryz.keysA with } Fence.wide _ trivial rfl (by omega) w.heap.size b m.length D0 _ (by simp) (by simp) (by
   obtain ⟨es, clock, hb, Ft, hs, hD⟩ := hown
   exact ⟨es, clock, (Below.heap_alloc _ _ b hbl).trans hb, Ft, hs, hD⟩)
 have cS := AnyZI.sorted_in Tryz.sortedA Fence.wide 5 trivial trivial trivial trivial rfl (by omega) (sortsA _) (enters_of Tryz.func54 (by kernel_rfl) rfl) 94 #[.pointer (some ⟨w.heap.size, 0, none⟩)] trivial (enters_of Tryz.func94 (by kernel_rfl) rfl) _ _ (by rw [hsize]; unfold maxLen; omega) (by rw [hsize]; exact hlen) _ hseq
 change CallsIn _ _ Tryz.prog 79 _ _ _ at cS
 refine ((callsIn_wide (n := 5)).1 cS).mono ?_
 rintro e w' ⟨v, ss, rfl, hS, hrow, hnil, hb⟩
 have e1 : ss.mergeSort leI = zc_ (m.map (·.1)) := mergeSort_of_perm_i (hS.trans hperm)
 refine ⟨v, rfl, ?_, (ba_ (Below.refl _ w) _).trans (hb.mono (by simp))⟩
 have h3 : (zc_ (m.map (·.1))).length = ss.length := by rw [← e1]; exact List.length_mergeSort ss
 have hr2 : w'.ownsRow (w.alloc (.cells #[.map (some b)] 126)).heap.size 3 1 v (zc_ (m.map (·.1))).length ((zc_ (m.map (·.1))).map (Value.int .i64)) := by
  rw [h3, ← e1]
  exact hrow
 have h4 : Kd.R (Kd.int .i64) 3 w' (w.alloc (.cells #[.map (some b)] 126)).heap.size (fun _ => True) v (zc_ (m.map (·.1))) := Kd.R_of_own hr2 (fun _ _ => trivial)
 exact Kd.R_lower h4 (by simp)
end Go.Proofs.YtjfbfhoipgldgaaGreat.P
end
section
namespace Go.Proofs.YtjfbfhoipgldgaaGreat.P
open Go.RowKit Go.Proofs.YtjfbfhoipgldgaaGreatW.PrintWords Go.Proofs.YtjfbfhoipgldgaaGreatW.PrintLast Go.Proofs.YtjfbfhoipgldgaaGreatW.PrintMore
attribute [local go_sem] ob_ lb_ vb_ ub_ db_ cb_ nb_ kb_   
set_option linter.unusedVariables false
set_option linter.unusedSimpArgs false
def slices_Clone_int_int.f (l0 : List Int) : Option (List Int) := if l0.length < 17592186044416 then some l0 else none
theorem slices_Clone_int_int.calls (A0 : Option Addr) (c0 : Nat) (l0 : List Int) (r : List Int) (w : World) (hr0 : Kd.C (Kd.int .i64) w A0 l0.length l0) (hc0 : l0.length ≤ c0) (h : slices_Clone_int_int.f l0 = some r) :
  Calls Tryz.prog 53 #[.slice A0 l0.length c0] w fun e w' => ∃ v0_ : Value, e = .returned (v0_) ∧ Kd.R (Kd.int .i64) 3 w' w.heap.size (fun _ => True) v0_ r ∧ Below w.heap.size w w' := by
 unfold slices_Clone_int_int.f at h
 split at h
 case isFalse => cases h
 case isTrue hl =>
 obtain rfl := Option.some.inj h
 clear h
 have q22 : ∀ (w : World) (a : Option Addr) (n c n' c' : Nat), (binOp .eql 23 (.slice a n c) (.slice none n' c')).run Tryz.prog w = .ok (.bool a.isNone) w := fun w a n c n' c' => Lib.run_eql_slice_nil w _ _ a n c n' c' Tryz.underlying23
 have HR := Aside0.mk hr0
 have HL := Aside0.mk hl
 clear hr0 hl
 cases A0 with
 | none =>
  have h0 : l0 = [] := by
   cases l0 with
   | nil => rfl
   | cons x l => obtain ⟨ad, e, _⟩ := HR.out.2.2 (by simp); cases e
  subst h0
  go_enter Tryz.func53, Tryz.ntmps53
  go_wp2
  go_ret
  exact ⟨_, rfl, Kd.R_nil _ _ _ _ _, Below.refl _ _⟩
 | some ad =>
  go_enter Tryz.func53, Tryz.ntmps53
  go_wp2_with (at_builtin; go_loud (refine Kd.R_append_row (Value.int .i64) 0 (h1 := fun _ => rfl) (w0 := w) w.heap.size rfl (.tmp 5) (.tmp 6) 23 3 (.int .i64 0) 8 rfl Tryz.underlying23 ae_ rfl (by decide) (.slice (some ⟨w.heap.size, 0, none⟩) 0 0) [] l0 (some ad) l0.length c0 (fun _ => True) rfl rfl (fun _ _ => trivial) ?hO ?hR ?hB ?hb ?hl ?_); (case hO => go_loud (exact Kd.R_of_own (World.ownsRow_made w #[] 0 (Nat.le_refl _) (Nat.zero_le _) rfl) (fun _ _ => trivial))); (case hR => go_loud (exact Kd.C_alloc HR.out _)); (case hB => exact ba_ (Below.refl _ _) _); (case hb => go_loud (simp)); (case hl => go_loud (have := HL.out; simp; omega)); intro v1 w1 ho hb hg hat)
  have ho' : Kd.R (Kd.int .i64) 3 w1 w.heap.size (fun _ => True) v1 l0 := ho
  have HO := Aside0.mk ho'
  have HB := Aside0.mk hb
  clear ho ho' hb hg hat
  go_wp2
  go_ret
  exact ⟨_, rfl, HO.out, HB.out⟩
end Go.Proofs.YtjfbfhoipgldgaaGreat.P
end
section
namespace Go.Proofs.YtjfbfhoipgldgaaGreat.P
open Go.RowKit Go.Proofs.YtjfbfhoipgldgaaGreatW.PrintWords Go.Proofs.YtjfbfhoipgldgaaGreatW.PrintLast Go.Proofs.YtjfbfhoipgldgaaGreatW.PrintMore
attribute [local go_sem] ob_ lb_ vb_ ub_ db_ cb_ nb_ kb_   
set_option linter.unusedVariables false
set_option linter.unusedSimpArgs false
open Go.Maps (Keyed)
def qj_ (P : Program) (w : World) (dom : Int → Prop) (fv : Value) (next : Int → List Int) : Prop :=
 ∃ (g : Nat) (pre lb : Array Value), fv = .func (.func g) pre lb ∧ (∀ args w, (callFunc g args).run P w = .ok (.enter g args) w) ∧
  ∀ W x, Below w.heap.size w W → dom x → Calls P g (pre ++ #[.int .i64 x] ++ lb) W fun e w' => ∃ (A : Option Addr) (c : Nat), e = .returned (.slice A (next x).length c) ∧ (next x).length ≤ c ∧ Kd.C (Kd.int .i64) w' A (next x).length (next x) ∧ Below W.heap.size W w'
def kg_ (next : Int → List Int) : Nat → List (Int × Int) → List Int → Option (List (Int × Int))
 | 0, _, _ => none
 | k + 1, m, q => match q with
  | [] => if m.length * 8 ≤ 140737488355328 then some m else none
  | x :: q => if (x :: q).length ≤ 1000000000 ∧ (next x).length ≤ 1000000000 ∧ 0 ≤ (mget m x).getD 0 ∧ (mget m x).getD 0 ≤ 1000000000000 then
    (if (mget m x).getD 0 = 0 then kg_ next k (mput m x ((mget m x).getD 0 + 1)) (q ++ next x) else kg_ next k (mput m x ((mget m x).getD 0 + 1)) q) else none
abbrev encI (m : List (Int × Int)) : List (Int × Value) := m.map fun p => (p.1, Value.int .i64 p.2)
theorem jg_ : Keyed Tryz.prog 3 := Go.Maps.int_keyed Tryz.underlying3
theorem uh_ : ∀ x y : Int, Value.int .i64 x = Value.int .i64 y → x = y := fun x y h => by simpa using h
theorem ye_ (w : World) : (zeroValue 3).run Tryz.prog w = .ok (.int .i64 0) w := by kernel_rfl
theorem go_ (m : List (Int × Int)) (x : Int) : (mget (encI m) x).getD (.int .i64 0) = .int .i64 ((mget m x).getD 0) := by
 rw [ne_]; cases mget m x <;> rfl
theorem fit_i64 {x : Int} (h : -9223372036854775808 ≤ x ∧ x ≤ 9223372036854775807) : ∃ l, keyOf Tryz.prog 3 (.int .i64 x) = some l := ⟨_, Go.Maps.keyOf_int_mk Tryz.underlying3 (WalkArith.wf_i64 (by omega))⟩
theorem vv_ (fv : Value) (next : Int → List Int) (dom : Int → Prop) (hdom : ∀ x, dom x → (-9223372036854775808 ≤ x ∧ x ≤ 9223372036854775807) ∧ ∀ y ∈ next x, dom y) (k : Nat) (A0 : Option Addr) (c0 : Nat) (l0 : List Int) (r : List (Int × Int)) (w : World)
  (hf : qj_ Tryz.prog w dom fv next) (hl0 : ∀ x ∈ l0, dom x) (hr0 : Kd.C (Kd.int .i64) w A0 l0.length l0) (hc0 : l0.length ≤ c0) (h : kg_ next k [] l0 = some r) :
  Calls Tryz.prog 48 #[.slice A0 l0.length c0, fv] w fun e w' => ∃ v0_ : Value, e = .returned (v0_) ∧ Kd.R (Kd.int .i64) 3 w' w.heap.size (fun _ => True) v0_ (zc_ (r.map (·.1))) ∧ Below w.heap.size w w' := by
 obtain ⟨g, pre, lb, rfl, eg, hq⟩ := hf
 have HQ := Aside0.mk hq
 have HR := Aside0.mk hr0
 have HC := Aside0.mk hc0
 have HD := Aside0.mk hdom
 have HL := Aside0.mk hl0
 have H := Aside0.mk h
 have hmm := @run_makeMap Tryz.prog
 clear hq hr0 hc0 hdom hl0 h
 go_enter Tryz.func48, Tryz.ntmps48
 go_wp2
 go_loopg [0] k (fun kq v0 wr => ∃ (q : List Int) (m : List (Int × Int)) (A : Option Addr) (c : Nat), v0 = .slice A q.length c ∧ Aside0 (kg_ next kq m q = some r) ∧ Aside0 (kq ≤ k) ∧ Aside0 (q.length ≤ c) ∧ Aside0 (Kd.C (Kd.int .i64) wr A q.length q) ∧ Aside0 (∀ x ∈ q, dom x) ∧
  Aside0 (MapOf Tryz.prog 3 (Value.int .i64) wr w.heap.size (encI m)) ∧ Aside0 (Below w.heap.size w wr) ∧ Aside0 (w.heap.size < wr.heap.size))
 case atStart => exact ⟨l0, [], A0, c0, rfl, H, ⟨Nat.le_refl _⟩, HC, ⟨Kd.C_below HR.out (ba_ (Below.refl _ _) _)⟩, HL, ⟨MapOf.made _ _ _ _⟩, ⟨ba_ (Below.refl _ _) _⟩, ⟨by simp⟩⟩
 clear H HR HC HL
 obtain ⟨q, m, A, c, rfl, HF, HK, HC, HR, HL, HM, HB, HS⟩ := hrel
 cases gk with
 | zero => exact absurd HF.out (by simp [kg_])
 | succ k1 =>
  cases q with
  | nil =>
   have h2 := HF.out
   simp only [kg_] at h2
   split at h2
   case isFalse => cases h2
   case isTrue hlen =>
   obtain rfl := Option.some.inj h2
   clear h2
   have HN := Aside0.mk hlen
   clear hlen
   have hlt : ¬ (0 : Int) < (([] : List Int).length : Int) := by simp
   go_wp2_with fail
   refine (ws_ _ _).mono ?_
   rintro e w' ⟨rfl, rfl⟩
   go_wp2_with fail
   refine (ro_ w.heap.size (encI m) _ HM.out (by rw [List.length_map]; exact HN.out)).mono ?_
   rintro e w' ⟨v, rfl, hR, hb⟩
   have hR2 := Aside0.mk hR
   have hb2 := Aside0.mk hb
   clear hR hb
   go_wp2
   go_ret
   have h3 := hR2.out
   rw [map_vals] at h3
   exact ⟨v, rfl, Kd.R_lower h3 HB.out.size, ma_ HB.out hb2.out⟩
  | cons x q =>
   have h2 := HF.out
   simp only [kg_] at h2
   split at h2
   case isFalse => cases h2
   case isTrue hb =>
   obtain ⟨b1, b2, b3, b4⟩ := hb
   have hdx := HL.out x List.mem_cons_self
   obtain ⟨hx, hnx⟩ := HD.out x hdx
   have hkey := fit_i64 hx
   have HX := Aside0.mk hx
   have HNX := Aside0.mk hnx
   have HDX := Aside0.mk hdx
   have B1 := Aside0.mk b1
   have B2 := Aside0.mk b2
   have H3 := Aside0.mk h2
   obtain ⟨ad, hA, hcell⟩ := Kd.at_int HR.out 0 (by omega) (by simp)
   have hcell' : wr.cell? ad = some (.int .i64 x) := hcell
   subst hA
   obtain ⟨i0, hi, hz0, hz1, hz2⟩ := info_parts ae_
   obtain ⟨A', hrun, hread, hcap⟩ := bg_ (P := Tryz.prog) (Value.int .i64) (0 : Int) 23 3 .i64 Tryz.underlying23 hi hz1 (some ad) c (x :: q) 1 (by omega) (by simp; omega) HC.out
   have hread2 : Kd.C (Kd.int .i64) wr A' q.length q := Kd.C_of_reads (hread wr (Kd.reads_of_C (d := (0 : Int)) HR.out))
   have hrun2 : ∀ W : World, (Instr.slice 23 (.slice (some ad) (x :: q).length c) (some (.int .i64 1)) none none).run Tryz.prog W = .ok (.slice A' q.length (c - 1)) W := hrun
   have hlt : (0 : Int) < ((x :: q).length : Int) := by simp
   have HR2 := Aside0.mk hread2
   have HC2 : Aside0 (q.length ≤ c - 1) := ⟨hcap⟩
   clear hcell hrun hread hcap hread2 hx hnx hdx b1 b2 h2 hi hz0 hz1 hz2
   have HB1 : (x :: q).length ≤ 1000000000 := B1.out
   generalize hn : (x :: q).length = n at hrun2 hlt HB1
   try rw [hn]
   have HN := Aside0.mk hn
   clear hn
   go_wp2_with fail
   refine (slices_Clone_int_int.calls _ _ q q _ HR2.out HC2.out (if_pos (by have := B1.out; simp at this; omega))).mono ?_
   rintro e w1 ⟨v1, rfl, hR1, hb1⟩
   have HM1 := Aside0.mk (HM.out.below hb1)
   have HR1 := Aside0.mk (Kd.R_lower (Kd.R_mono (Kd.R_bound hR1) (ok' := fun k => wr.heap.size ≤ k) (fun k hk => hk.2.1)) HB.out.size)
   have HB1' := Aside0.mk (ma_ HB.out hb1)
   have HS1 := Aside0.mk (Nat.lt_of_lt_of_le HS.out hb1.size)
   obtain ⟨A1, c1, rfl⟩ := Kd.R_slice hR1
   clear hR1 hb1 hcell' hrun2
   have h3 := H3.out
   have hget := go_ m x
   have hmp := fg_ (Value.int .i64) x ((mget m x).getD 0 + 1) m
   have hgs : (mget (encI (mput m x ((mget m x).getD 0 + 1))) x).getD (.int .i64 0) = .int .i64 ((mget m x).getD 0 + 1) := by rw [go_, mb_]; rfl
   generalize hv : (mget m x).getD 0 = v at h3 hget hmp hgs b3 b4
   have HG := Aside0.mk hget
   have HMP := Aside0.mk hmp
   have HGS := Aside0.mk hgs
   have H3' := Aside0.mk h3
   clear hget hmp hgs hv h3 H3
   by_cases hv0 : v = 0
   ·have H4 := Aside0.mk ((if_pos hv0).symm.trans H3'.out)
    subst hv0
    clear H3'
    go_wp2_with (first
     | (at_lookup; refine sc_ rfl (.tmp 17) (.tmp 18) 126 3 rfl jg_ uh_ Tryz.underlying126 ye_ rfl HM1.out x rfl hkey (.int .i64 0) HG.out ?_)
     | (at_mapUpdate; refine ud_ rfl (.tmp 17) (.tmp 18) (.tmp 20) 126 3 rfl jg_ uh_ Tryz.underlying126 rfl HM1.out x rfl hkey (.int .i64 (0 + 1)) rfl ?_; intro w2 hm2 hg2 hz2; rw [HMP.out] at hm2; have HM2 := Aside0.mk hm2; have HR2' := Aside0.mk (Kd.R_grown HR1.out hg2 (fun k hk e => by have := HS.out; have e2 := Option.some.inj e; omega)); have HB2 := Aside0.mk (HB1'.out.grown hg2 HB1'.out.size (fun j e => by have e2 := Option.some.inj e; omega)); have HS2 : Aside0 (w.heap.size < w2.heap.size) := ⟨by rw [hz2]; exact HS1.out⟩; clear hm2 hg2 hz2 HR1 HM1 HB1' HS1)
     | (at_lookup; refine sc_ rfl (.tmp 21) (.tmp 22) 126 3 rfl jg_ uh_ Tryz.underlying126 ye_ rfl HM2.out x rfl hkey (.int .i64 (0 + 1)) HGS.out ?_)
     | fail)
    refine (HQ.out _ x HB2.out HDX.out).mono ?_
    rintro e w3 ⟨A3, c3, rfl, hc3, hr3, hb3⟩
    have HR3 := Aside0.mk hr3
    have HC3 := Aside0.mk hc3
    have HM3 := Aside0.mk (HM2.out.below hb3)
    have HR2'' := Aside0.mk (Kd.R_mono (Kd.R_below HR2'.out hb3) (ok' := fun k => w.heap.size < k) (fun k hk => Nat.lt_of_lt_of_le HS.out hk))
    have HB3 := Aside0.mk (ma_ HB2.out hb3)
    have HS3 := Aside0.mk (Nat.lt_of_lt_of_le HS2.out hb3.size)
    clear hr3 hc3 hb3 HM2 HR2' HB2 HS2
    go_wp2_with (at_builtin; refine Kd.R_append_row (Value.int .i64) 0 (h1 := fun _ => rfl) (w0 := w) w.heap.size rfl (.tmp 25) (.tmp 28) 23 3 (.int .i64 0) 8 rfl Tryz.underlying23 ae_ rfl (by decide) (.slice A1 q.length c1) q (next x) A3 (next x).length c3 (fun k => w.heap.size < k) rfl rfl (fun k hk => Nat.lt_of_lt_of_le HS3.out hk) HR2''.out HR3.out HB3.out HB3.out.size (by have h1_ := B1.out; have h2_ := B2.out; simp only [List.length_cons] at h1_; omega) ?_; intro v4 w4 ho4 hb4 hg4 hat4; have HM4 := Aside0.mk (HM3.out.grown hg4 (fun e => by have h_ := HR2''.out.1 w.heap.size e.symm; exact absurd h_ (Nat.lt_irrefl _))); have ho5 : Kd.R (Kd.int .i64) 3 w4 w.heap.size (fun k => w.heap.size < k) v4 (q ++ next x) := ho4; have HR4 := Aside0.mk ho5; have HB4 := Aside0.mk hb4; have HS4 : Aside0 (w.heap.size < w4.heap.size) := ⟨Nat.lt_of_lt_of_le HS3.out hg4.size⟩; obtain ⟨A4, c4, rfl⟩ := Kd.R_slice ho5; clear ho4 ho5 hb4 hg4 hat4 HM3 HR2'' HB3 HS3 HR3 HC3)
    obtain ⟨A5, c5, e5, hle5, hC5⟩ := Kd.R_reads HR4.out
    injection e5 with e6 e7 e8
    subst e6 e8
    have HL5 := Aside0.mk hle5
    have HC5 := Aside0.mk hC5
    clear hle5 hC5 e7
    go_roundg k1
    case measure => have := HK.out; omega
    case rel =>
     exact ⟨q ++ next x, mput m x (0 + 1), A4, c4, by rw [List.length_append], H4, ⟨by have := HK.out; omega⟩, HL5, HC5, ⟨fun y hy => (List.mem_append.1 hy).elim (fun hy => HL.out y (List.mem_cons_of_mem _ hy)) (fun hy => HNX.out y hy)⟩, HM4, HB4, HS4⟩
   have H4 := Aside0.mk ((if_neg hv0).symm.trans H3'.out)
   have ht : ¬ (v + 1 = 1) := by omega
   clear H3'
   go_wp2_with (first
    | (at_lookup; refine sc_ rfl (.tmp 17) (.tmp 18) 126 3 rfl jg_ uh_ Tryz.underlying126 ye_ rfl HM1.out x rfl hkey (.int .i64 v) HG.out ?_)
    | (at_mapUpdate; refine ud_ rfl (.tmp 17) (.tmp 18) (.tmp 20) 126 3 rfl jg_ uh_ Tryz.underlying126 rfl HM1.out x rfl hkey (.int .i64 (v + 1)) rfl ?_; intro w2 hm2 hg2 hz2; rw [HMP.out] at hm2; have HM2 := Aside0.mk hm2; have HR2' := Aside0.mk (Kd.R_grown HR1.out hg2 (fun k hk e => by have := HS.out; have e2 := Option.some.inj e; omega)); have HB2 := Aside0.mk (HB1'.out.grown hg2 HB1'.out.size (fun j e => by have e2 := Option.some.inj e; omega)); have HS2 : Aside0 (w.heap.size < w2.heap.size) := ⟨by rw [hz2]; exact HS1.out⟩; clear hm2 hg2 hz2 HR1 HM1 HB1' HS1)
    | (at_lookup; refine sc_ rfl (.tmp 21) (.tmp 22) 126 3 rfl jg_ uh_ Tryz.underlying126 ye_ rfl HM2.out x rfl hkey (.int .i64 (v + 1)) HGS.out ?_))
   obtain ⟨A5, c5, e5, hle5, hC5⟩ := Kd.R_reads HR2'.out
   injection e5 with e6 e7 e8
   subst e6 e8
   have HL5 := Aside0.mk hle5
   have HC5 := Aside0.mk hC5
   clear hle5 hC5 e7
   go_roundg k1
   case measure => have := HK.out; omega
   case rel =>
    exact ⟨q, mput m x (v + 1), A1, c1, rfl, H4, ⟨by have := HK.out; omega⟩, HL5, HC5, ⟨fun y hy => HL.out y (List.mem_cons_of_mem _ hy)⟩, HM2, HB2, HS2⟩
end Go.Proofs.YtjfbfhoipgldgaaGreat.P
end
section
namespace Go.Proofs.YtjfbfhoipgldgaaGreat.P
open Go.RowKit Go.Proofs.YtjfbfhoipgldgaaGreatW.PrintWords Go.Proofs.YtjfbfhoipgldgaaGreatW.PrintLast Go.Proofs.YtjfbfhoipgldgaaGreatW.PrintMore
attribute [local go_sem] ob_ lb_ vb_ ub_ db_ cb_ nb_ kb_   
set_option linter.unusedVariables false
set_option linter.unusedSimpArgs false
theorem kn_ (fv : Value) (A0 : Option Addr) (c0 : Nat) (l0 : List Int) (p : Int → Bool) (w : World) (hr0 : Kd.C (Kd.int .i64) w A0 l0.length l0) (hc0 : l0.length ≤ c0)
  (hf : qe_ Tryz.prog w lh_ fv p) :
  Calls Tryz.prog 81 #[.slice A0 l0.length c0, fv] w fun e w' => e = .returned (.int .i64 (ji_ p l0)) ∧ Below w.heap.size w w' := by
 obtain ⟨g, pre, lb, rfl, eg, hq⟩ := hf
 have hl : l0.length ≤ 9223372036854775807 := hr0.2.1
 have HR := Aside0.mk hr0
 clear hr0
 have HQ := Aside0.mk hq
 clear hq
 go_enter Tryz.func81, Tryz.ntmps81
 go_wp2
 go_loopg [8] l0.length (fun gg s8 wr => ∃ kk : Nat, kk ≤ l0.length ∧ l0.length - kk ≤ gg ∧ s8 = .int .i64 kk ∧ Aside0 (Below w.heap.size w wr) ∧ Aside0 (∀ j, j < kk → ∀ h : j < l0.length, p l0[j] = false))
 case atStart => exact ⟨0, Nat.zero_le _, by omega, rfl, ⟨Below.refl _ w⟩, ⟨fun j hj => absurd hj (Nat.not_lt_zero _)⟩⟩
 obtain ⟨kk, hkk, hg, rfl, BW, A⟩ := hrel
 by_cases hlt : kk < l0.length
 ·have hltz : (kk : Int) < (l0.length : Int) := by omega
  obtain ⟨ad, hA, hcell⟩ := Kd.at_int HR.out kk (by omega) hltz
  have hcell' : wr.cell? (ad.add kk) = some (.int .i64 (rd l0 kk)) := fb_ BW.out (by simpa using hcell)
  have hcall := HQ.out wr (rd l0 kk) _ BW.out rfl
  subst hA
  clear hcell
  cases hp : p (rd l0 kk) with
  | true =>
   rw [hp] at hcall
   go_wp2_with fail
   refine hcall.mono ?_
   rintro e w' ⟨rfl, hb'⟩
   go_wp2
   go_ret
   refine ⟨?_, of_ BW.out BW.out.size hb'⟩
   rw [eo_ hlt A.out (by rw [← de_ l0 kk hlt]; exact hp)]
   rfl
  | false =>
   rw [hp] at hcall
   go_wp2_with fail
   refine hcall.mono ?_
   rintro e w' ⟨rfl, hb'⟩
   go_wp2
   go_roundg (l0.length - (kk + 1))
   case measure => omega
   case rel =>
    refine ⟨kk + 1, by omega, by omega, by go_num, ⟨of_ BW.out BW.out.size hb'⟩, ⟨fun j hj hlt => ?_⟩⟩
    by_cases e : j = kk
    ·subst e
     rw [← de_ l0 j hlt]; exact hp
    exact A.out j (by omega) hlt
 have hltz : ¬ (kk : Int) < (l0.length : Int) := by omega
 have : kk = l0.length := by omega
 subst this
 go_wp2
 go_ret
 refine ⟨?_, BW.out⟩
 rw [km_ A.out]
 rfl
theorem lg_ (fv : Value) (A0 : Option Addr) (c0 : Nat) (l0 : List Int) (p : Int → Bool) (w : World) (hr0 : Kd.C (Kd.int .i64) w A0 l0.length l0) (hc0 : l0.length ≤ c0)
  (hf : qe_ Tryz.prog w lh_ fv p) :
  Calls Tryz.prog 50 #[.slice A0 l0.length c0, fv] w fun e w' => e = .returned (.bool (l0.any p)) ∧ Below w.heap.size w w' := by
 have hc := kn_ fv A0 c0 l0 p w hr0 hc0 hf
 rw [← jr_]
 clear hr0 hf
 generalize ji_ p l0 = q at hc
 go_enter Tryz.func50, Tryz.ntmps50
 go_wp2_with fail
 refine hc.mono ?_
 rintro e w' ⟨rfl, hb'⟩
 go_wp2
 go_ret
 exact ⟨rfl, hb'⟩
mutual
noncomputable def gram_asked.j0 : Nat → Int → Bool → Option (Int × Int)
 | 0, _, _ => none
 | k + 1, x4, x5 => if x5 = true then (some (1, 1)) else (if x4 = 2 then (gram_asked.j1 k x4 (x4 == 2)) else (if x4 = 5 then (gram_asked.j1 k x4 (x4 == 5)) else (if x4 = 9 then (gram_asked.j1 k x4 (x4 == 9)) else (if x4 = 12 then (gram_asked.j1 k x4 (x4 == 12)) else (if x4 = 13 then (gram_asked.j1 k x4 (x4 == 13)) else (if x4 = 14 then (gram_asked.j1 k x4 (x4 == 14)) else (gram_asked.j1 k x4 (x4 == 15))))))))
noncomputable def gram_asked.j1 : Nat → Int → Bool → Option (Int × Int)
 | 0, _, _ => none
 | k + 1, x4, x10 => if x10 = true then (some (2, 2)) else (if x4 = 1 then (gram_asked.j2 k x4 (x4 == 1)) else (gram_asked.j2 k x4 (x4 == 6)))
noncomputable def gram_asked.j2 : Nat → Int → Bool → Option (Int × Int)
 | 0, _, _ => none
 | k + 1, x4, x18 => if x18 = true then (some (3, 3)) else (if x4 = 3 then (gram_asked.j3 k x4 (x4 == 3)) else (gram_asked.j3 k x4 (x4 == 4)))
noncomputable def gram_asked.j3 : Nat → Int → Bool → Option (Int × Int)
 | 0, _, _ => none
 | k + 1, x4, x21 => if x21 = true then (some (2, 3)) else (if x4 = 10 then (some (1, 6)) else (some (1, 0)))
end
noncomputable def gram_asked.f (k : Nat) (a0 : Int) : Option (Int × Int) := if a0 = 0 then (gram_asked.j0 k a0 (a0 == 0)) else (if a0 = 7 then (gram_asked.j0 k a0 (a0 == 7)) else (if a0 = 8 then (gram_asked.j0 k a0 (a0 == 8)) else (gram_asked.j0 k a0 (a0 == 11))))
set_option maxHeartbeats 8000000 in
set_option maxRecDepth 100000 in
theorem gram_asked.calls (k : Nat) (a0 : Int) (r1 : Int) (r2 : Int) (w : World) (h : gram_asked.f k a0 = some (r1, r2)) :
  Calls Tryz.prog 73 #[.int .i64 a0] w fun e w' => e = .returned (.tuple #[.int .i64 r1, .int .i64 r2]) ∧ Drawn0 w w' := by
 have H : (if a0 = 0 then (gram_asked.j0 k a0 (a0 == 0)) else (if a0 = 7 then (gram_asked.j0 k a0 (a0 == 7)) else (if a0 = 8 then (gram_asked.j0 k a0 (a0 == 8)) else (gram_asked.j0 k a0 (a0 == 11))))) = some (r1, r2) := h
 clear h
 have HC2 := Aside0.mk H
 clear H
 go_enter Tryz.func73, Tryz.ntmps73
 go_upto_if 5 with (fail)
 go_cut [5] (fun v5 wc => ∃ (kq : Nat) (x5_1 : Bool), v5 = .bool x5_1 ∧ Aside0 (gram_asked.j0 kq a0 x5_1 = some (r1, r2)) ∧ Aside0 (kq ≤ k) ∧ Drawn0 w wc)
 case first =>
  have H := HC2.out
  clear HC2
  by_cases c3 : a0 = 0
  ·rw [if_pos c3] at H
   have c3b0 : (a0 == 0) = true := beq_iff_eq.mpr c3
   have c3b1 : (a0 != 0) = false := bne_eq_false_iff_eq.mpr c3
   clear c3
   (first | rw [c3b0] | (simp only [ka_, la_]; rw [c3b0]) | skip)
   have H' := Aside0.mk H
   clear H
   go_wp2
   go_meet
   case rel => exact ⟨_, ((a0 == 0)), (by first | rfl | (simp; done) | (simp [*]; done)), H', ⟨by first | omega | exact Nat.le_refl _⟩, by repeat (first | exact Drawn0.refl _ | apply Drawn0.step)⟩
  rw [if_neg c3] at H
  have c3b0 : (a0 == 0) = false := beq_eq_false_iff_ne.mpr c3
  have c3b1 : (a0 != 0) = true := bne_iff_ne.mpr c3
  (first | rw [c3b0] | (simp only [ka_, la_]; rw [c3b0]) | skip)
  by_cases c4 : a0 = 7
  ·rw [if_pos c4] at H
   have c4b0 : (a0 == 7) = true := beq_iff_eq.mpr c4
   have c4b1 : (a0 != 7) = false := bne_eq_false_iff_eq.mpr c4
   clear c4
   have H' := Aside0.mk H
   clear H
   go_wp2
   go_meet
   case rel => exact ⟨_, ((a0 == 7)), (by first | rfl | (simp; done) | (simp [*]; done)), H', ⟨by first | omega | exact Nat.le_refl _⟩, by repeat (first | exact Drawn0.refl _ | apply Drawn0.step)⟩
  rw [if_neg c4] at H
  have c4b0 : (a0 == 7) = false := beq_eq_false_iff_ne.mpr c4
  have c4b1 : (a0 != 7) = true := bne_iff_ne.mpr c4
  by_cases c5 : a0 = 8
  ·rw [if_pos c5] at H
   have c5b0 : (a0 == 8) = true := beq_iff_eq.mpr c5
   have c5b1 : (a0 != 8) = false := bne_eq_false_iff_eq.mpr c5
   clear c5
   have H' := Aside0.mk H
   clear H
   go_wp2
   go_meet
   case rel => exact ⟨_, ((a0 == 8)), (by first | rfl | (simp; done) | (simp [*]; done)), H', ⟨by first | omega | exact Nat.le_refl _⟩, by repeat (first | exact Drawn0.refl _ | apply Drawn0.step)⟩
  rw [if_neg c5] at H
  have c5b0 : (a0 == 8) = false := beq_eq_false_iff_ne.mpr c5
  have c5b1 : (a0 != 8) = true := bne_iff_ne.mpr c5
  have H' := Aside0.mk H
  clear H
  go_wp2
  go_meet
  case rel => exact ⟨_, ((a0 == 11)), (by first | rfl | (simp; done) | (simp [*]; done)), H', ⟨by first | omega | exact Nat.le_refl _⟩, by repeat (first | exact Drawn0.refl _ | apply Drawn0.step)⟩
 clear HC2
 try clear p2
 try clear c3
 try clear c3b0
 try clear c3b1
 try clear c4
 try clear c4b0
 try clear c4b1
 try clear c5
 try clear c5b0
 try clear c5b1
 obtain ⟨kq, x5_1, rfl, HA, HJ1, ⟨mc1, rfl⟩⟩ := hcut
 cases kq with
 | zero => exact absurd HA.out (by simp [gram_asked.j0])
 | succ kj1 =>
  have H := HA.out
  clear HA
  simp only [gram_asked.j0] at H
  by_cases c6 : x5_1 = true
  ·subst c6
   have H1 : (some (1, 1)) = some (r1, r2) := by rw [if_pos rfl] at H; exact H
   clear H
   have H := H1
   clear H1
   simp only [Option.some.injEq, Prod.mk.injEq] at H
   obtain ⟨rfl, rfl⟩ := H
   go_wp2
   go_ret2
   exact ⟨by first | rfl | (simp; done) | (simp [*]; done), by repeat (first | exact Drawn0.refl _ | apply Drawn0.step)⟩
  replace c6 := Bool.eq_false_iff.mpr c6
  subst c6
  have H1 : (if a0 = 2 then (gram_asked.j1 kj1 a0 (a0 == 2)) else (if a0 = 5 then (gram_asked.j1 kj1 a0 (a0 == 5)) else (if a0 = 9 then (gram_asked.j1 kj1 a0 (a0 == 9)) else (if a0 = 12 then (gram_asked.j1 kj1 a0 (a0 == 12)) else (if a0 = 13 then (gram_asked.j1 kj1 a0 (a0 == 13)) else (if a0 = 14 then (gram_asked.j1 kj1 a0 (a0 == 14)) else (gram_asked.j1 kj1 a0 (a0 == 15)))))))) = some (r1, r2) := by rw [if_neg (show ¬ (false = true) by decide)] at H; exact H
  clear H
  have H := H1
  clear H1
  have HC7 := Aside0.mk H
  clear H
  go_upto_if 10 with (fail)
  go_cut [10] (fun v10 wc => ∃ (kq : Nat) (x10_6 : Bool), v10 = .bool x10_6 ∧ Aside0 (gram_asked.j1 kq a0 x10_6 = some (r1, r2)) ∧ Aside0 (kq ≤ kj1) ∧ Drawn0 w wc)
  case first =>
   have H := HC7.out
   clear HC7
   by_cases c8 : a0 = 2
   ·rw [if_pos c8] at H
    have c8b0 : (a0 == 2) = true := beq_iff_eq.mpr c8
    have c8b1 : (a0 != 2) = false := bne_eq_false_iff_eq.mpr c8
    clear c8
    (first | rw [c8b0] | (simp only [ka_, la_]; rw [c8b0]) | skip)
    have H' := Aside0.mk H
    clear H
    go_wp2
    go_meet
    case rel => exact ⟨_, ((a0 == 2)), (by first | rfl | (simp; done) | (simp [*]; done)), H', ⟨by have := HJ1.out; first | omega | exact Nat.le_refl _⟩, by repeat (first | exact Drawn0.refl _ | apply Drawn0.step)⟩
   rw [if_neg c8] at H
   have c8b0 : (a0 == 2) = false := beq_eq_false_iff_ne.mpr c8
   have c8b1 : (a0 != 2) = true := bne_iff_ne.mpr c8
   (first | rw [c8b0] | (simp only [ka_, la_]; rw [c8b0]) | skip)
   by_cases c9 : a0 = 5
   ·rw [if_pos c9] at H
    have c9b0 : (a0 == 5) = true := beq_iff_eq.mpr c9
    have c9b1 : (a0 != 5) = false := bne_eq_false_iff_eq.mpr c9
    clear c9
    have H' := Aside0.mk H
    clear H
    go_wp2
    go_meet
    case rel => exact ⟨_, ((a0 == 5)), (by first | rfl | (simp; done) | (simp [*]; done)), H', ⟨by have := HJ1.out; first | omega | exact Nat.le_refl _⟩, by repeat (first | exact Drawn0.refl _ | apply Drawn0.step)⟩
   rw [if_neg c9] at H
   have c9b0 : (a0 == 5) = false := beq_eq_false_iff_ne.mpr c9
   have c9b1 : (a0 != 5) = true := bne_iff_ne.mpr c9
   by_cases c10 : a0 = 9
   ·rw [if_pos c10] at H
    have c10b0 : (a0 == 9) = true := beq_iff_eq.mpr c10
    have c10b1 : (a0 != 9) = false := bne_eq_false_iff_eq.mpr c10
    clear c10
    have H' := Aside0.mk H
    clear H
    go_wp2
    go_meet
    case rel => exact ⟨_, ((a0 == 9)), (by first | rfl | (simp; done) | (simp [*]; done)), H', ⟨by have := HJ1.out; first | omega | exact Nat.le_refl _⟩, by repeat (first | exact Drawn0.refl _ | apply Drawn0.step)⟩
   rw [if_neg c10] at H
   have c10b0 : (a0 == 9) = false := beq_eq_false_iff_ne.mpr c10
   have c10b1 : (a0 != 9) = true := bne_iff_ne.mpr c10
   by_cases c11 : a0 = 12
   ·rw [if_pos c11] at H
    have c11b0 : (a0 == 12) = true := beq_iff_eq.mpr c11
    have c11b1 : (a0 != 12) = false := bne_eq_false_iff_eq.mpr c11
    clear c11
    have H' := Aside0.mk H
    clear H
    go_wp2
    go_meet
    case rel => exact ⟨_, ((a0 == 12)), (by first | rfl | (simp; done) | (simp [*]; done)), H', ⟨by have := HJ1.out; first | omega | exact Nat.le_refl _⟩, by repeat (first | exact Drawn0.refl _ | apply Drawn0.step)⟩
   rw [if_neg c11] at H
   have c11b0 : (a0 == 12) = false := beq_eq_false_iff_ne.mpr c11
   have c11b1 : (a0 != 12) = true := bne_iff_ne.mpr c11
   by_cases c12 : a0 = 13
   ·rw [if_pos c12] at H
    have c12b0 : (a0 == 13) = true := beq_iff_eq.mpr c12
    have c12b1 : (a0 != 13) = false := bne_eq_false_iff_eq.mpr c12
    clear c12
    have H' := Aside0.mk H
    clear H
    go_wp2
    go_meet
    case rel => exact ⟨_, ((a0 == 13)), (by first | rfl | (simp; done) | (simp [*]; done)), H', ⟨by have := HJ1.out; first | omega | exact Nat.le_refl _⟩, by repeat (first | exact Drawn0.refl _ | apply Drawn0.step)⟩
   rw [if_neg c12] at H
   have c12b0 : (a0 == 13) = false := beq_eq_false_iff_ne.mpr c12
   have c12b1 : (a0 != 13) = true := bne_iff_ne.mpr c12
   by_cases c13 : a0 = 14
   ·rw [if_pos c13] at H
    have c13b0 : (a0 == 14) = true := beq_iff_eq.mpr c13
    have c13b1 : (a0 != 14) = false := bne_eq_false_iff_eq.mpr c13
    clear c13
    have H' := Aside0.mk H
    clear H
    go_wp2
    go_meet
    case rel => exact ⟨_, ((a0 == 14)), (by first | rfl | (simp; done) | (simp [*]; done)), H', ⟨by have := HJ1.out; first | omega | exact Nat.le_refl _⟩, by repeat (first | exact Drawn0.refl _ | apply Drawn0.step)⟩
   rw [if_neg c13] at H
   have c13b0 : (a0 == 14) = false := beq_eq_false_iff_ne.mpr c13
   have c13b1 : (a0 != 14) = true := bne_iff_ne.mpr c13
   have H' := Aside0.mk H
   clear H
   go_wp2
   go_meet
   case rel => exact ⟨_, ((a0 == 15)), (by first | rfl | (simp; done) | (simp [*]; done)), H', ⟨by have := HJ1.out; first | omega | exact Nat.le_refl _⟩, by repeat (first | exact Drawn0.refl _ | apply Drawn0.step)⟩
  clear HC7
  try clear c1
  try clear p2
  try clear c3
  try clear c3b0
  try clear c3b1
  try clear c4
  try clear c4b0
  try clear c4b1
  try clear c5
  try clear c5b0
  try clear c5b1
  try clear c6
  try clear c7
  try clear c8
  try clear c8b0
  try clear c8b1
  try clear c9
  try clear c9b0
  try clear c9b1
  try clear c10
  try clear c10b0
  try clear c10b1
  try clear c11
  try clear c11b0
  try clear c11b1
  try clear c12
  try clear c12b0
  try clear c12b1
  try clear c13
  try clear c13b0
  try clear c13b1
  try clear p2
  obtain ⟨kq, x10_6, rfl, HA, HJ6, ⟨mc6, rfl⟩⟩ := hcut
  cases kq with
  | zero => exact absurd HA.out (by simp [gram_asked.j1])
  | succ kj6 =>
   have H := HA.out
   clear HA
   simp only [gram_asked.j1] at H
   by_cases c14 : x10_6 = true
   ·subst c14
    have H1 : (some (2, 2)) = some (r1, r2) := by rw [if_pos rfl] at H; exact H
    clear H
    have H := H1
    clear H1
    simp only [Option.some.injEq, Prod.mk.injEq] at H
    obtain ⟨rfl, rfl⟩ := H
    go_wp2
    go_ret2
    exact ⟨by first | rfl | (simp; done) | (simp [*]; done), by repeat (first | exact Drawn0.refl _ | apply Drawn0.step)⟩
   replace c14 := Bool.eq_false_iff.mpr c14
   subst c14
   have H1 : (if a0 = 1 then (gram_asked.j2 kj6 a0 (a0 == 1)) else (gram_asked.j2 kj6 a0 (a0 == 6))) = some (r1, r2) := by rw [if_neg (show ¬ (false = true) by decide)] at H; exact H
   clear H
   have H := H1
   clear H1
   have HC15 := Aside0.mk H
   clear H
   go_upto_if 18 with (fail)
   go_cut [18] (fun v18 wc => ∃ (kq : Nat) (x18_14 : Bool), v18 = .bool x18_14 ∧ Aside0 (gram_asked.j2 kq a0 x18_14 = some (r1, r2)) ∧ Aside0 (kq ≤ kj6) ∧ Drawn0 w wc)
   case first =>
    have H := HC15.out
    clear HC15
    by_cases c16 : a0 = 1
    ·rw [if_pos c16] at H
     have c16b0 : (a0 == 1) = true := beq_iff_eq.mpr c16
     have c16b1 : (a0 != 1) = false := bne_eq_false_iff_eq.mpr c16
     clear c16
     (first | rw [c16b0] | (simp only [ka_, la_]; rw [c16b0]) | skip)
     have H' := Aside0.mk H
     clear H
     go_wp2
     go_meet
     case rel => exact ⟨_, ((a0 == 1)), (by first | rfl | (simp; done) | (simp [*]; done)), H', ⟨by have := HJ1.out; have := HJ6.out; first | omega | exact Nat.le_refl _⟩, by repeat (first | exact Drawn0.refl _ | apply Drawn0.step)⟩
    rw [if_neg c16] at H
    have c16b0 : (a0 == 1) = false := beq_eq_false_iff_ne.mpr c16
    have c16b1 : (a0 != 1) = true := bne_iff_ne.mpr c16
    (first | rw [c16b0] | (simp only [ka_, la_]; rw [c16b0]) | skip)
    have H' := Aside0.mk H
    clear H
    go_wp2
    go_meet
    case rel => exact ⟨_, ((a0 == 6)), (by first | rfl | (simp; done) | (simp [*]; done)), H', ⟨by have := HJ1.out; have := HJ6.out; first | omega | exact Nat.le_refl _⟩, by repeat (first | exact Drawn0.refl _ | apply Drawn0.step)⟩
   clear HC15
   try clear c1
   try clear p2
   try clear c3
   try clear c3b0
   try clear c3b1
   try clear c4
   try clear c4b0
   try clear c4b1
   try clear c5
   try clear c5b0
   try clear c5b1
   try clear c6
   try clear c7
   try clear c8
   try clear c8b0
   try clear c8b1
   try clear c9
   try clear c9b0
   try clear c9b1
   try clear c10
   try clear c10b0
   try clear c10b1
   try clear c11
   try clear c11b0
   try clear c11b1
   try clear c12
   try clear c12b0
   try clear c12b1
   try clear c13
   try clear c13b0
   try clear c13b1
   try clear c14
   try clear c16
   try clear c16b0
   try clear c16b1
   try clear p2
   obtain ⟨kq, x18_14, rfl, HA, HJ14, ⟨mc14, rfl⟩⟩ := hcut
   cases kq with
   | zero => exact absurd HA.out (by simp [gram_asked.j2])
   | succ kj14 =>
    have H := HA.out
    clear HA
    simp only [gram_asked.j2] at H
    by_cases c17 : x18_14 = true
    ·subst c17
     have H1 : (some (3, 3)) = some (r1, r2) := by rw [if_pos rfl] at H; exact H
     clear H
     have H := H1
     clear H1
     simp only [Option.some.injEq, Prod.mk.injEq] at H
     obtain ⟨rfl, rfl⟩ := H
     go_wp2
     go_ret2
     exact ⟨by first | rfl | (simp; done) | (simp [*]; done), by repeat (first | exact Drawn0.refl _ | apply Drawn0.step)⟩
    replace c17 := Bool.eq_false_iff.mpr c17
    subst c17
    have H1 : (if a0 = 3 then (gram_asked.j3 kj14 a0 (a0 == 3)) else (gram_asked.j3 kj14 a0 (a0 == 4))) = some (r1, r2) := by rw [if_neg (show ¬ (false = true) by decide)] at H; exact H
    clear H
    have H := H1
    clear H1
    have HC18 := Aside0.mk H
    clear H
    go_upto_if 21 with (fail)
    go_cut [21] (fun v21 wc => ∃ (kq : Nat) (x21_17 : Bool), v21 = .bool x21_17 ∧ Aside0 (gram_asked.j3 kq a0 x21_17 = some (r1, r2)) ∧ Aside0 (kq ≤ kj14) ∧ Drawn0 w wc)
    case first =>
     have H := HC18.out
     clear HC18
     by_cases c19 : a0 = 3
     ·rw [if_pos c19] at H
      have c19b0 : (a0 == 3) = true := beq_iff_eq.mpr c19
      have c19b1 : (a0 != 3) = false := bne_eq_false_iff_eq.mpr c19
      clear c19
      (first | rw [c19b0] | (simp only [ka_, la_]; rw [c19b0]) | skip)
      have H' := Aside0.mk H
      clear H
      go_wp2
      go_meet
      case rel => exact ⟨_, ((a0 == 3)), (by first | rfl | (simp; done) | (simp [*]; done)), H', ⟨by have := HJ1.out; have := HJ6.out; have := HJ14.out; first | omega | exact Nat.le_refl _⟩, by repeat (first | exact Drawn0.refl _ | apply Drawn0.step)⟩
     rw [if_neg c19] at H
     have c19b0 : (a0 == 3) = false := beq_eq_false_iff_ne.mpr c19
     have c19b1 : (a0 != 3) = true := bne_iff_ne.mpr c19
     (first | rw [c19b0] | (simp only [ka_, la_]; rw [c19b0]) | skip)
     have H' := Aside0.mk H
     clear H
     go_wp2
     go_meet
     case rel => exact ⟨_, ((a0 == 4)), (by first | rfl | (simp; done) | (simp [*]; done)), H', ⟨by have := HJ1.out; have := HJ6.out; have := HJ14.out; first | omega | exact Nat.le_refl _⟩, by repeat (first | exact Drawn0.refl _ | apply Drawn0.step)⟩
    clear HC18
    try clear c1
    try clear p2
    try clear c3
    try clear c3b0
    try clear c3b1
    try clear c4
    try clear c4b0
    try clear c4b1
    try clear c5
    try clear c5b0
    try clear c5b1
    try clear c6
    try clear c7
    try clear c8
    try clear c8b0
    try clear c8b1
    try clear c9
    try clear c9b0
    try clear c9b1
    try clear c10
    try clear c10b0
    try clear c10b1
    try clear c11
    try clear c11b0
    try clear c11b1
    try clear c12
    try clear c12b0
    try clear c12b1
    try clear c13
    try clear c13b0
    try clear c13b1
    try clear c14
    try clear c16
    try clear c16b0
    try clear c16b1
    try clear c17
    try clear c19
    try clear c19b0
    try clear c19b1
    try clear p2
    obtain ⟨kq, x21_17, rfl, HA, HJ17, ⟨mc17, rfl⟩⟩ := hcut
    cases kq with
    | zero => exact absurd HA.out (by simp [gram_asked.j3])
    | succ kj17 =>
     have H := HA.out
     clear HA
     simp only [gram_asked.j3] at H
     by_cases c20 : x21_17 = true
     ·subst c20
      have H1 : (some (2, 3)) = some (r1, r2) := by rw [if_pos rfl] at H; exact H
      clear H
      have H := H1
      clear H1
      simp only [Option.some.injEq, Prod.mk.injEq] at H
      obtain ⟨rfl, rfl⟩ := H
      go_wp2
      go_ret2
      exact ⟨by first | rfl | (simp; done) | (simp [*]; done), by repeat (first | exact Drawn0.refl _ | apply Drawn0.step)⟩
     replace c20 := Bool.eq_false_iff.mpr c20
     subst c20
     have H1 : (if a0 = 10 then (some (1, 6)) else (some (1, 0))) = some (r1, r2) := by rw [if_neg (show ¬ (false = true) by decide)] at H; exact H
     clear H
     have H := H1
     clear H1
     by_cases c21 : a0 = 10
     ·rw [if_pos c21] at H
      have c21b0 : (a0 == 10) = true := beq_iff_eq.mpr c21
      have c21b1 : (a0 != 10) = false := bne_eq_false_iff_eq.mpr c21
      clear c21
      simp only [Option.some.injEq, Prod.mk.injEq] at H
      obtain ⟨rfl, rfl⟩ := H
      go_wp2
      go_ret2
      exact ⟨by first | rfl | (simp; done) | (simp [*]; done), by repeat (first | exact Drawn0.refl _ | apply Drawn0.step)⟩
     rw [if_neg c21] at H
     have c21b0 : (a0 == 10) = false := beq_eq_false_iff_ne.mpr c21
     have c21b1 : (a0 != 10) = true := bne_iff_ne.mpr c21
     simp only [Option.some.injEq, Prod.mk.injEq] at H
     obtain ⟨rfl, rfl⟩ := H
     go_wp2
     go_ret2
     exact ⟨by first | rfl | (simp; done) | (simp [*]; done), by repeat (first | exact Drawn0.refl _ | apply Drawn0.step)⟩
noncomputable def gram_within.f (a0 : Int) (a1 : Int) (a2 : Int) : Option (Bool) := if a0 ≥ a1 then (some (decide (a0 ≤ a2))) else (some false)
set_option maxHeartbeats 8000000 in
set_option maxRecDepth 100000 in
theorem gram_within.calls (a0 : Int) (a1 : Int) (a2 : Int) (r : Bool) (w : World) (h : gram_within.f a0 a1 a2 = some r) :
  Calls Tryz.prog 74 #[.int .i64 a0, .int .i64 a1, .int .i64 a2] w fun e w' => e = .returned (.bool r) ∧ Drawn0 w w' := by
 have H : (if a0 ≥ a1 then (some (decide (a0 ≤ a2))) else (some false)) = some r := h
 clear h
 by_cases c4 : a0 ≥ a1
 ·rw [if_pos c4] at H
  have c4b0 : decide (a1 ≤ a0) = true := decide_eq_true c4
  clear c4
  obtain rfl := Option.some.inj H
  go_enter Tryz.func74, Tryz.ntmps74
  go_wp2
  go_ret
  exact ⟨by first | rfl | (simp; done) | (simp [*]; done), by repeat (first | exact Drawn0.refl _ | apply Drawn0.step)⟩
 rw [if_neg c4] at H
 have c4b0 : decide (a1 ≤ a0) = false := decide_eq_false c4
 clear c4
 obtain rfl := Option.some.inj H
 go_enter Tryz.func74, Tryz.ntmps74
 go_wp2
 go_ret
 exact ⟨by first | rfl | (simp; done) | (simp [*]; done), by repeat (first | exact Drawn0.refl _ | apply Drawn0.step)⟩
noncomputable def gram_symbol.f (a0 : Int) : Option (Bool) := if a0 ≥ 0 then (some (decide (a0 < 20))) else (some false)
set_option maxHeartbeats 8000000 in
set_option maxRecDepth 100000 in
theorem gram_symbol.calls (a0 : Int) (r : Bool) (w : World) (h : gram_symbol.f a0 = some r) :
  Calls Tryz.prog 52 #[.int .i64 a0] w fun e w' => e = .returned (.bool r) ∧ Drawn0 w w' := by
 have H : (if a0 ≥ 0 then (some (decide (a0 < 20))) else (some false)) = some r := h
 clear h
 by_cases c2 : a0 ≥ 0
 ·rw [if_pos c2] at H
  have c2b0 : decide (0 ≤ a0) = true := decide_eq_true c2
  clear c2
  obtain rfl := Option.some.inj H
  go_enter Tryz.func52, Tryz.ntmps52
  go_wp2
  go_ret
  exact ⟨by first | rfl | (simp; done) | (simp [*]; done), by repeat (first | exact Drawn0.refl _ | apply Drawn0.step)⟩
 rw [if_neg c2] at H
 have c2b0 : decide (0 ≤ a0) = false := decide_eq_false c2
 clear c2
 obtain rfl := Option.some.inj H
 go_enter Tryz.func52, Tryz.ntmps52
 go_wp2
 go_ret
 exact ⟨by first | rfl | (simp; done) | (simp [*]; done), by repeat (first | exact Drawn0.refl _ | apply Drawn0.step)⟩
theorem wr_ (fv : Value) (p : Int → Bool) (w : World) (hf : qe_ Tryz.prog w lh_ fv p) :
  qe_ Tryz.prog (w.alloc (.cells #[fv] 102)) lh_ (.func (.func 92) #[] #[.pointer (some ⟨w.heap.size, 0, none⟩)]) (fun x => !p x) := by
 refine ⟨_, _, _, rfl, enters_of Tryz.func92 (by kernel_rfl) rfl, ?_⟩
 rintro W x v hb rfl
 obtain ⟨g, pre, lb, rfl, eg, hq⟩ := hf
 have hbw : Below w.heap.size w W := (ba_ (Below.refl _ w) _).trans (hb.mono (by simp))
 have hcall := hq W x _ hbw rfl
 have hcell : W.cell? ⟨w.heap.size, 0, none⟩ = some (.func (.func g) pre lb) := fb_ hb (lo_ _ _ _)
 clear hb hq hbw
 cases hp : p x with
 | true =>
  rw [hp] at hcall
  go_enter Tryz.func92, Tryz.ntmps92
  go_wp2_with fail
  refine hcall.mono ?_
  rintro e w' ⟨rfl, hb'⟩
  go_wp2
  go_ret
  exact ⟨qd_ (by rw [hp]; rfl), hb'⟩
 | false =>
  rw [hp] at hcall
  go_enter Tryz.func92, Tryz.ntmps92
  go_wp2_with fail
  refine hcall.mono ?_
  rintro e w' ⟨rfl, hb'⟩
  go_wp2
  go_ret
  exact ⟨qd_ (by rw [hp]; rfl), hb'⟩
theorem kh_ {α : Type} (p : α → Bool) : ∀ l : List α, l.any (fun x => !p x) = !l.all p
 | [] => rfl
 | x :: l => by simp only [List.any_cons, List.all_cons, kh_ p l, Bool.not_and]
theorem xc_ (fv : Value) (A0 : Option Addr) (c0 : Nat) (l0 : List Int) (p : Int → Bool) (w : World) (hr0 : Kd.C (Kd.int .i64) w A0 l0.length l0) (hc0 : l0.length ≤ c0)
  (hf : qe_ Tryz.prog w lh_ fv p) :
  Calls Tryz.prog 75 #[.slice A0 l0.length c0, fv] w fun e w' => e = .returned (.bool (l0.all p)) ∧ Below w.heap.size w w' := by
 have h1 := wr_ fv p w hf
 have hc := lg_ _ A0 c0 l0 (fun x => !p x) (w.alloc (.cells #[fv] 102)) (Kd.C_below hr0 (ba_ (Below.refl _ w) _)) hc0 h1
 have ha : l0.any (fun x => !p x) = !l0.all p := kh_ p l0
 rw [ha] at hc
 obtain ⟨g, pre, lb, rfl, eg, hq⟩ := hf
 clear hr0 hq h1 ha
 cases h : l0.all p with
 | true =>
  rw [h] at hc
  clear h
  go_enter Tryz.func75, Tryz.ntmps75
  go_wp2_with fail
  refine hc.mono ?_
  rintro e w' ⟨rfl, hb'⟩
  go_wp2
  go_ret
  exact ⟨rfl, (ba_ (Below.refl _ w) _).trans (hb'.mono (by simp))⟩
 | false =>
  rw [h] at hc
  clear h
  go_enter Tryz.func75, Tryz.ntmps75
  go_wp2_with fail
  refine hc.mono ?_
  rintro e w' ⟨rfl, hb'⟩
  go_wp2
  go_ret
  exact ⟨rfl, (ba_ (Below.refl _ w) _).trans (hb'.mono (by simp))⟩
def zd_ (x : Int) : Bool := decide (x < 20) && decide (-61 ≤ x)
def xd_ (n : Nat) (x : Int) : Bool := decide (0 ≤ x) && decide (x < (n : Int))
theorem xs_ (a0 : Int) (A1 : Option Addr) (c1 : Nat) (l1 : List Int) (a2 : Int) (A3 : Option Addr) (c3 : Nat) (l3 : List Int) (a4 : Int) (w : World) :
  qe_ Tryz.prog w lh_ (.func (.func 76) #[.agg #[.int .i64 a0, .slice A1 l1.length c1, .int .i64 a2, .slice A3 l3.length c3, .int .i64 a4]] #[]) zd_ := by
 refine ⟨_, _, _, rfl, enters_of Tryz.func76 (by kernel_rfl) rfl, ?_⟩
 rintro W x v hb rfl
 clear hb
 by_cases h1 : x < 20
 ·have d1 : decide (x < 20) = true := decide_eq_true h1
  by_cases h2 : -61 ≤ x
  ·have d2 : decide (-61 ≤ x) = true := decide_eq_true h2
   have hz : zd_ x = true := by simp [zd_, h1, h2]
   rw [hz]
   clear hz
   go_enter Tryz.func76, Tryz.ntmps76
   go_wp2
   go_ret
   exact ⟨rfl, ba_ (Below.refl _ _) _⟩
  have d2 : decide (-61 ≤ x) = false := decide_eq_false h2
  have hz : zd_ x = false := by simp [zd_, h1]; omega
  rw [hz]
  clear hz
  go_enter Tryz.func76, Tryz.ntmps76
  go_wp2
  go_ret
  exact ⟨rfl, ba_ (Below.refl _ _) _⟩
 have d1 : decide (x < 20) = false := decide_eq_false h1
 have hz : zd_ x = false := by simp [zd_, h1]
 rw [hz]
 clear hz
 go_enter Tryz.func76, Tryz.ntmps76
 go_wp2
 go_ret
 exact ⟨rfl, ba_ (Below.refl _ _) _⟩
theorem vq_ (a0 : Int) (A1 : Option Addr) (c1 : Nat) (l1 : List Int) (a2 : Int) (A3 : Option Addr) (c3 : Nat) (l3 : List Int) (a4 : Int) (w : World) (hl : l1.length ≤ 9223372036854775807) :
  qe_ Tryz.prog w lh_ (.func (.func 77) #[.agg #[.int .i64 a0, .slice A1 l1.length c1, .int .i64 a2, .slice A3 l3.length c3, .int .i64 a4]] #[]) (xd_ l1.length) := by
 refine ⟨_, _, _, rfl, enters_of Tryz.func77 (by kernel_rfl) rfl, ?_⟩
 rintro W x v hb rfl
 clear hb
 by_cases h1 : 0 ≤ x
 ·have d1 : decide (0 ≤ x) = true := decide_eq_true h1
  by_cases h2 : x < (l1.length : Int)
  ·have d2 : decide (x < (l1.length : Int)) = true := decide_eq_true h2
   have hz : xd_ l1.length x = true := by simp [xd_, h1, h2]
   rw [hz]
   clear hz
   go_enter Tryz.func77, Tryz.ntmps77
   go_wp2
   go_ret
   exact ⟨rfl, ba_ (Below.refl _ _) _⟩
  have d2 : decide (x < (l1.length : Int)) = false := decide_eq_false h2
  have hz : xd_ l1.length x = false := by simp [xd_, h1]; omega
  rw [hz]
  clear hz
  go_enter Tryz.func77, Tryz.ntmps77
  go_wp2
  go_ret
  exact ⟨rfl, ba_ (Below.refl _ _) _⟩
 have d1 : decide (0 ≤ x) = false := decide_eq_false h1
 have hz : xd_ l1.length x = false := by simp [xd_, h1]
 rw [hz]
 clear hz
 go_enter Tryz.func77, Tryz.ntmps77
 go_wp2
 go_ret
 exact ⟨rfl, ba_ (Below.refl _ _) _⟩
def jd_ (op : Int) : Int × Int :=
 if op = 0 ∨ op = 7 ∨ op = 8 ∨ op = 11 then (1, 1) else if op = 2 ∨ op = 5 ∨ op = 9 ∨ op = 12 ∨ op = 13 ∨ op = 14 ∨ op = 15 then (2, 2)
 else if op = 1 ∨ op = 6 then (3, 3) else if op = 3 ∨ op = 4 then (2, 3) else if op = 10 then (1, 6) else (1, 0)
def be_ (x : Int) : Bool := decide (0 ≤ x) && decide (x < 20)
def bc_ (x a b : Int) : Bool := decide (a ≤ x) && decide (x ≤ b)
theorem ot_ (k : Nat) (op : Int) : gram_asked.f (k + 4) op = some (jd_ op) := by
 by_cases h : 0 ≤ op ∧ op ≤ 15
 ·have : op = 0 ∨ op = 1 ∨ op = 2 ∨ op = 3 ∨ op = 4 ∨ op = 5 ∨ op = 6 ∨ op = 7 ∨ op = 8 ∨ op = 9 ∨ op = 10 ∨ op = 11 ∨ op = 12 ∨ op = 13 ∨ op = 14 ∨ op = 15 := by omega
  rcases this with rfl | rfl | rfl | rfl | rfl | rfl | rfl | rfl | rfl | rfl | rfl | rfl | rfl | rfl | rfl | rfl <;> rfl
 have n : ∀ k : Int, 0 ≤ k → k ≤ 15 → ¬ op = k := fun k h0 h1 e => h (by omega)
 have b : ∀ k : Int, 0 ≤ k → k ≤ 15 → ¬ (op == k) = true := fun k h0 h1 e => n k h0 h1 (by simpa using e)
 have e : jd_ op = (1, 0) := by
  unfold jd_
  rw [if_neg (by omega), if_neg (by omega), if_neg (by omega), if_neg (by omega), if_neg (by omega)]
 rw [e]
 unfold gram_asked.f
 rw [if_neg (n 0 (by omega) (by omega)), if_neg (n 7 (by omega) (by omega)), if_neg (n 8 (by omega) (by omega)), gram_asked.j0]
 rw [if_neg (b 11 (by omega) (by omega)), if_neg (n 2 (by omega) (by omega)), if_neg (n 5 (by omega) (by omega)), if_neg (n 9 (by omega) (by omega)), if_neg (n 12 (by omega) (by omega)), if_neg (n 13 (by omega) (by omega)), if_neg (n 14 (by omega) (by omega)), gram_asked.j1]
 rw [if_neg (b 15 (by omega) (by omega)), if_neg (n 1 (by omega) (by omega)), gram_asked.j2]
 rw [if_neg (b 6 (by omega) (by omega)), if_neg (n 3 (by omega) (by omega)), gram_asked.j3]
 rw [if_neg (b 4 (by omega) (by omega)), if_neg (n 10 (by omega) (by omega))]
theorem fk_ (x : Int) : gram_symbol.f x = some (be_ x) := by
 unfold gram_symbol.f be_
 by_cases h0 : 0 ≤ x
 ·rw [if_pos h0, decide_eq_true h0]; rfl
 rw [if_neg h0, decide_eq_false h0]; rfl
theorem zg_ (x a b : Int) : gram_within.f x a b = some (bc_ x a b) := by
 unfold gram_within.f bc_
 by_cases h0 : a ≤ x
 ·rw [if_pos h0, decide_eq_true h0]; rfl
 rw [if_neg h0, decide_eq_false h0]; rfl
def af_ (a0 : Int) (l1 : List Int) (a2 : Int) (l3 : List Int) (a4 : Int) : Bool :=
 be_ a0 && (bc_ l1.length 1 6 && (l1.all zd_ && (bc_ a4 0 100 && (bc_ l3.length (jd_ a2).1 (jd_ a2).2 && l3.all (xd_ l1.length)))))
def gram_Right.f (a0_0 : Int) (l0_1 : List Int) (a0_2 : Int) (l0_3 : List Int) (a0_4 : Int) : Option Bool := some (af_ a0_0 l0_1 a0_2 l0_3 a0_4)
theorem ns_ (a0_0 : Int) (A0_1 : Option Addr) (c0_1 : Nat) (l0_1 : List Int) (a0_2 : Int) (A0_3 : Option Addr) (c0_3 : Nat) (l0_3 : List Int) (a0_4 : Int) (w : World) (hr0_1 : Kd.C (Kd.int .i64) w A0_1 l0_1.length l0_1) (hc0_1 : l0_1.length ≤ c0_1) (hr0_3 : Kd.C (Kd.int .i64) w A0_3 l0_3.length l0_3) (hc0_3 : l0_3.length ≤ c0_3) :
  Calls Tryz.prog 46 #[.agg #[.int .i64 a0_0, .slice A0_1 l0_1.length c0_1, .int .i64 a0_2, .slice A0_3 l0_3.length c0_3, .int .i64 a0_4]] w fun e w' => e = .returned (.bool (af_ a0_0 l0_1 a0_2 l0_3 a0_4)) ∧ Below w.heap.size w w' := by
 have hl1 : l0_1.length ≤ 9223372036854775807 := hr0_1.2.1
 have hl3 : l0_3.length ≤ 9223372036854775807 := hr0_3.2.1
 have K1 := fun w => xs_ a0_0 A0_1 c0_1 l0_1 a0_2 A0_3 c0_3 l0_3 a0_4 w
 have K2 := fun w => vq_ a0_0 A0_1 c0_1 l0_1 a0_2 A0_3 c0_3 l0_3 a0_4 w hl1
 have HR1 := Aside0.mk hr0_1
 have HR3 := Aside0.mk hr0_3
 have HA := Aside0.mk (ot_ 5 a0_2)
 generalize hq : jd_ a0_2 = q at HA
 obtain ⟨q1, q2⟩ := q
 have HP : Aside0 (af_ a0_0 l0_1 a0_2 l0_3 a0_4 = (be_ a0_0 && (bc_ l0_1.length 1 6 && (l0_1.all zd_ && (bc_ a0_4 0 100 && (bc_ l0_3.length q1 q2 && l0_3.all (xd_ l0_1.length))))))) := ⟨by unfold af_; rw [hq]⟩
 clear hq hr0_1 hr0_3
 have HB := Aside0.mk (Below.refl w.heap.size w)
 rw [HP.out]
 clear HP
 have HS := Aside0.mk (fk_ a0_0)
 have HW1 := Aside0.mk (zg_ l0_1.length 1 6)
 have HW2 := Aside0.mk (zg_ a0_4 0 100)
 have HW3 := Aside0.mk (zg_ l0_3.length q1 q2)
 cases h0 : be_ a0_0 with
 | false =>
  rw [h0] at HS
  clear h0
  go_enter Tryz.func46, Tryz.ntmps46
  go_wp2_with fail
  refine (gram_asked.calls 9 _ q1 q2 _ HA.out).mono ?_
  rintro e w' ⟨rfl, ⟨nd, rfl⟩⟩
  go_wp2_with fail
  refine (gram_symbol.calls _ _ _ HS.out).mono ?_
  rintro e w' ⟨rfl, ⟨nd, rfl⟩⟩
  go_wp2
  go_ret
  exact ⟨rfl, by repeat (first | (with_reducible first | exact HB.out | apply ba_ | apply aa_ | apply da_) | exact HB.out)⟩
 | true =>
  rw [h0] at HS
  clear h0
  cases h1 : bc_ l0_1.length 1 6 with
  | false =>
   rw [h1] at HW1
   clear h1
   go_enter Tryz.func46, Tryz.ntmps46
   go_wp2_with fail
   refine (gram_asked.calls 9 _ q1 q2 _ HA.out).mono ?_
   rintro e w' ⟨rfl, ⟨nd, rfl⟩⟩
   go_wp2_with fail
   refine (gram_symbol.calls _ _ _ HS.out).mono ?_
   rintro e w' ⟨rfl, ⟨nd, rfl⟩⟩
   go_wp2_with fail
   refine (gram_within.calls _ _ _ _ _ HW1.out).mono ?_
   rintro e w' ⟨rfl, ⟨nd, rfl⟩⟩
   go_wp2
   go_ret
   exact ⟨rfl, by repeat (first | (with_reducible first | exact HB.out | apply ba_ | apply aa_ | apply da_) | exact HB.out)⟩
  | true =>
   rw [h1] at HW1
   clear h1
   cases h2 : l0_1.all zd_ with
   | false =>
    have H2 := Aside0.mk h2
    clear h2
    go_enter Tryz.func46, Tryz.ntmps46
    go_wp2_with fail
    refine (gram_asked.calls 9 _ q1 q2 _ HA.out).mono ?_
    rintro e w' ⟨rfl, ⟨nd, rfl⟩⟩
    go_wp2_with fail
    refine (gram_symbol.calls _ _ _ HS.out).mono ?_
    rintro e w' ⟨rfl, ⟨nd, rfl⟩⟩
    go_wp2_with fail
    refine (gram_within.calls _ _ _ _ _ HW1.out).mono ?_
    rintro e w' ⟨rfl, ⟨nd, rfl⟩⟩
    go_wp2_with fail
    refine (xc_ _ _ _ _ _ _ (Kd.C_below HR1.out ?b2) hc0_1 (K1 _)).mono ?_
    case b2 => repeat (first | (with_reducible first | exact HB.out | apply ba_ | apply aa_ | apply da_) | exact HB.out)
    rw [H2.out]
    rintro e w2 ⟨rfl, hb⟩
    have n0_ := Aside0.mk (ma_ (by repeat (first | (with_reducible first | exact HB.out | apply ba_ | apply aa_ | apply da_) | exact HB.out)) hb)
    have n1_ := Aside0.mk (ya_ (g := w.heap.size) (o := .cells #[.int .i64 a0_0, .slice A0_1 l0_1.length c0_1, .int .i64 a0_2, .slice A0_3 l0_3.length c0_3, .int .i64 a0_4] 48 (0, 0)) (by (with_reducible repeat (first | refine ha_ ?_ _ | refine ia_ ?_)); exact ga_ (qb_ _ _) _) hb)
    have n2_ := Aside0.mk (ya_ (g := w.heap.size + 1) (o := .cells #[.int .i64 a0_0, .slice A0_1 l0_1.length c0_1, .int .i64 a0_2, .slice A0_3 l0_3.length c0_3, .int .i64 a0_4] 123 (0, 0)) (by (with_reducible repeat (first | refine ha_ ?_ _ | refine ia_ ?_)); have h_ := qb_ (w.alloc (.cells #[.int .i64 a0_0, .slice A0_1 l0_1.length c0_1, .int .i64 a0_2, .slice A0_3 l0_3.length c0_3, .int .i64 a0_4] 48 (0, 0))) (.cells #[.int .i64 a0_0, .slice A0_1 l0_1.length c0_1, .int .i64 a0_2, .slice A0_3 l0_3.length c0_3, .int .i64 a0_4] 123 (0, 0)); rw [World.size_alloc] at h_; exact h_) hb)
    have c10 := ca_ n1_.out 0
    have c20 := ca_ n2_.out 0
    simp only [List.getElem?_toArray, List.getElem?_cons_succ, List.getElem?_cons_zero] at c10 c20
    have c11 := ca_ n1_.out 1
    have c21 := ca_ n2_.out 1
    simp only [List.getElem?_toArray, List.getElem?_cons_succ, List.getElem?_cons_zero] at c11 c21
    have c12 := ca_ n1_.out 2
    have c22 := ca_ n2_.out 2
    simp only [List.getElem?_toArray, List.getElem?_cons_succ, List.getElem?_cons_zero] at c12 c22
    have c13 := ca_ n1_.out 3
    have c23 := ca_ n2_.out 3
    simp only [List.getElem?_toArray, List.getElem?_cons_succ, List.getElem?_cons_zero] at c13 c23
    have c14 := ca_ n1_.out 4
    have c24 := ca_ n2_.out 4
    simp only [List.getElem?_toArray, List.getElem?_cons_succ, List.getElem?_cons_zero] at c14 c24
    clear n1_ n2_
    clear HB hb
    have HB := n0_
    clear n0_
    go_wp2
    go_ret
    exact ⟨rfl, by repeat (first | (with_reducible first | exact HB.out | apply ba_ | apply aa_ | apply da_) | exact HB.out)⟩
   | true =>
    have H2 := Aside0.mk h2
    clear h2
    cases h3 : bc_ a0_4 0 100 with
    | false =>
     rw [h3] at HW2
     clear h3
     go_enter Tryz.func46, Tryz.ntmps46
     go_wp2_with fail
     refine (gram_asked.calls 9 _ q1 q2 _ HA.out).mono ?_
     rintro e w' ⟨rfl, ⟨nd, rfl⟩⟩
     go_wp2_with fail
     refine (gram_symbol.calls _ _ _ HS.out).mono ?_
     rintro e w' ⟨rfl, ⟨nd, rfl⟩⟩
     go_wp2_with fail
     refine (gram_within.calls _ _ _ _ _ HW1.out).mono ?_
     rintro e w' ⟨rfl, ⟨nd, rfl⟩⟩
     go_wp2_with fail
     refine (xc_ _ _ _ _ _ _ (Kd.C_below HR1.out ?b2) hc0_1 (K1 _)).mono ?_
     case b2 => repeat (first | (with_reducible first | exact HB.out | apply ba_ | apply aa_ | apply da_) | exact HB.out)
     rw [H2.out]
     rintro e w2 ⟨rfl, hb⟩
     have n0_ := Aside0.mk (ma_ (by repeat (first | (with_reducible first | exact HB.out | apply ba_ | apply aa_ | apply da_) | exact HB.out)) hb)
     have n1_ := Aside0.mk (ya_ (g := w.heap.size) (o := .cells #[.int .i64 a0_0, .slice A0_1 l0_1.length c0_1, .int .i64 a0_2, .slice A0_3 l0_3.length c0_3, .int .i64 a0_4] 48 (0, 0)) (by (with_reducible repeat (first | refine ha_ ?_ _ | refine ia_ ?_)); exact ga_ (qb_ _ _) _) hb)
     have n2_ := Aside0.mk (ya_ (g := w.heap.size + 1) (o := .cells #[.int .i64 a0_0, .slice A0_1 l0_1.length c0_1, .int .i64 a0_2, .slice A0_3 l0_3.length c0_3, .int .i64 a0_4] 123 (0, 0)) (by (with_reducible repeat (first | refine ha_ ?_ _ | refine ia_ ?_)); have h_ := qb_ (w.alloc (.cells #[.int .i64 a0_0, .slice A0_1 l0_1.length c0_1, .int .i64 a0_2, .slice A0_3 l0_3.length c0_3, .int .i64 a0_4] 48 (0, 0))) (.cells #[.int .i64 a0_0, .slice A0_1 l0_1.length c0_1, .int .i64 a0_2, .slice A0_3 l0_3.length c0_3, .int .i64 a0_4] 123 (0, 0)); rw [World.size_alloc] at h_; exact h_) hb)
     have c10 := ca_ n1_.out 0
     have c20 := ca_ n2_.out 0
     simp only [List.getElem?_toArray, List.getElem?_cons_succ, List.getElem?_cons_zero] at c10 c20
     have c11 := ca_ n1_.out 1
     have c21 := ca_ n2_.out 1
     simp only [List.getElem?_toArray, List.getElem?_cons_succ, List.getElem?_cons_zero] at c11 c21
     have c12 := ca_ n1_.out 2
     have c22 := ca_ n2_.out 2
     simp only [List.getElem?_toArray, List.getElem?_cons_succ, List.getElem?_cons_zero] at c12 c22
     have c13 := ca_ n1_.out 3
     have c23 := ca_ n2_.out 3
     simp only [List.getElem?_toArray, List.getElem?_cons_succ, List.getElem?_cons_zero] at c13 c23
     have c14 := ca_ n1_.out 4
     have c24 := ca_ n2_.out 4
     simp only [List.getElem?_toArray, List.getElem?_cons_succ, List.getElem?_cons_zero] at c14 c24
     clear n1_ n2_
     clear HB hb
     have HB := n0_
     clear n0_
     go_wp2_with fail
     refine (gram_within.calls _ _ _ _ _ HW2.out).mono ?_
     rintro e w' ⟨rfl, ⟨nd, rfl⟩⟩
     go_wp2
     go_ret
     exact ⟨rfl, by repeat (first | (with_reducible first | exact HB.out | apply ba_ | apply aa_ | apply da_) | exact HB.out)⟩
    | true =>
     rw [h3] at HW2
     clear h3
     cases h4 : bc_ l0_3.length q1 q2 with
     | false =>
      rw [h4] at HW3
      clear h4
      go_enter Tryz.func46, Tryz.ntmps46
      go_wp2_with fail
      refine (gram_asked.calls 9 _ q1 q2 _ HA.out).mono ?_
      rintro e w' ⟨rfl, ⟨nd, rfl⟩⟩
      go_wp2_with fail
      refine (gram_symbol.calls _ _ _ HS.out).mono ?_
      rintro e w' ⟨rfl, ⟨nd, rfl⟩⟩
      go_wp2_with fail
      refine (gram_within.calls _ _ _ _ _ HW1.out).mono ?_
      rintro e w' ⟨rfl, ⟨nd, rfl⟩⟩
      go_wp2_with fail
      refine (xc_ _ _ _ _ _ _ (Kd.C_below HR1.out ?b2) hc0_1 (K1 _)).mono ?_
      case b2 => repeat (first | (with_reducible first | exact HB.out | apply ba_ | apply aa_ | apply da_) | exact HB.out)
      rw [H2.out]
      rintro e w2 ⟨rfl, hb⟩
      have n0_ := Aside0.mk (ma_ (by repeat (first | (with_reducible first | exact HB.out | apply ba_ | apply aa_ | apply da_) | exact HB.out)) hb)
      have n1_ := Aside0.mk (ya_ (g := w.heap.size) (o := .cells #[.int .i64 a0_0, .slice A0_1 l0_1.length c0_1, .int .i64 a0_2, .slice A0_3 l0_3.length c0_3, .int .i64 a0_4] 48 (0, 0)) (by (with_reducible repeat (first | refine ha_ ?_ _ | refine ia_ ?_)); exact ga_ (qb_ _ _) _) hb)
      have n2_ := Aside0.mk (ya_ (g := w.heap.size + 1) (o := .cells #[.int .i64 a0_0, .slice A0_1 l0_1.length c0_1, .int .i64 a0_2, .slice A0_3 l0_3.length c0_3, .int .i64 a0_4] 123 (0, 0)) (by (with_reducible repeat (first | refine ha_ ?_ _ | refine ia_ ?_)); have h_ := qb_ (w.alloc (.cells #[.int .i64 a0_0, .slice A0_1 l0_1.length c0_1, .int .i64 a0_2, .slice A0_3 l0_3.length c0_3, .int .i64 a0_4] 48 (0, 0))) (.cells #[.int .i64 a0_0, .slice A0_1 l0_1.length c0_1, .int .i64 a0_2, .slice A0_3 l0_3.length c0_3, .int .i64 a0_4] 123 (0, 0)); rw [World.size_alloc] at h_; exact h_) hb)
      have c10 := ca_ n1_.out 0
      have c20 := ca_ n2_.out 0
      simp only [List.getElem?_toArray, List.getElem?_cons_succ, List.getElem?_cons_zero] at c10 c20
      have c11 := ca_ n1_.out 1
      have c21 := ca_ n2_.out 1
      simp only [List.getElem?_toArray, List.getElem?_cons_succ, List.getElem?_cons_zero] at c11 c21
      have c12 := ca_ n1_.out 2
      have c22 := ca_ n2_.out 2
      simp only [List.getElem?_toArray, List.getElem?_cons_succ, List.getElem?_cons_zero] at c12 c22
      have c13 := ca_ n1_.out 3
      have c23 := ca_ n2_.out 3
      simp only [List.getElem?_toArray, List.getElem?_cons_succ, List.getElem?_cons_zero] at c13 c23
      have c14 := ca_ n1_.out 4
      have c24 := ca_ n2_.out 4
      simp only [List.getElem?_toArray, List.getElem?_cons_succ, List.getElem?_cons_zero] at c14 c24
      clear n1_ n2_
      clear HB hb
      have HB := n0_
      clear n0_
      go_wp2_with fail
      refine (gram_within.calls _ _ _ _ _ HW2.out).mono ?_
      rintro e w' ⟨rfl, ⟨nd, rfl⟩⟩
      go_wp2_with fail
      refine (gram_within.calls _ _ _ _ _ HW3.out).mono ?_
      rintro e w' ⟨rfl, ⟨nd, rfl⟩⟩
      go_wp2
      go_ret
      exact ⟨rfl, by repeat (first | (with_reducible first | exact HB.out | apply ba_ | apply aa_ | apply da_) | exact HB.out)⟩
     | true =>
      rw [h4] at HW3
      clear h4
      cases h5 : l0_3.all (xd_ l0_1.length) with
      | false =>
       have H5 := Aside0.mk h5
       clear h5
       go_enter Tryz.func46, Tryz.ntmps46
       go_wp2_with fail
       refine (gram_asked.calls 9 _ q1 q2 _ HA.out).mono ?_
       rintro e w' ⟨rfl, ⟨nd, rfl⟩⟩
       go_wp2_with fail
       refine (gram_symbol.calls _ _ _ HS.out).mono ?_
       rintro e w' ⟨rfl, ⟨nd, rfl⟩⟩
       go_wp2_with fail
       refine (gram_within.calls _ _ _ _ _ HW1.out).mono ?_
       rintro e w' ⟨rfl, ⟨nd, rfl⟩⟩
       go_wp2_with fail
       refine (xc_ _ _ _ _ _ _ (Kd.C_below HR1.out ?b2) hc0_1 (K1 _)).mono ?_
       case b2 => repeat (first | (with_reducible first | exact HB.out | apply ba_ | apply aa_ | apply da_) | exact HB.out)
       rw [H2.out]
       rintro e w2 ⟨rfl, hb⟩
       have n0_ := Aside0.mk (ma_ (by repeat (first | (with_reducible first | exact HB.out | apply ba_ | apply aa_ | apply da_) | exact HB.out)) hb)
       have n1_ := Aside0.mk (ya_ (g := w.heap.size) (o := .cells #[.int .i64 a0_0, .slice A0_1 l0_1.length c0_1, .int .i64 a0_2, .slice A0_3 l0_3.length c0_3, .int .i64 a0_4] 48 (0, 0)) (by (with_reducible repeat (first | refine ha_ ?_ _ | refine ia_ ?_)); exact ga_ (qb_ _ _) _) hb)
       have n2_ := Aside0.mk (ya_ (g := w.heap.size + 1) (o := .cells #[.int .i64 a0_0, .slice A0_1 l0_1.length c0_1, .int .i64 a0_2, .slice A0_3 l0_3.length c0_3, .int .i64 a0_4] 123 (0, 0)) (by (with_reducible repeat (first | refine ha_ ?_ _ | refine ia_ ?_)); have h_ := qb_ (w.alloc (.cells #[.int .i64 a0_0, .slice A0_1 l0_1.length c0_1, .int .i64 a0_2, .slice A0_3 l0_3.length c0_3, .int .i64 a0_4] 48 (0, 0))) (.cells #[.int .i64 a0_0, .slice A0_1 l0_1.length c0_1, .int .i64 a0_2, .slice A0_3 l0_3.length c0_3, .int .i64 a0_4] 123 (0, 0)); rw [World.size_alloc] at h_; exact h_) hb)
       have c10 := ca_ n1_.out 0
       have c20 := ca_ n2_.out 0
       simp only [List.getElem?_toArray, List.getElem?_cons_succ, List.getElem?_cons_zero] at c10 c20
       have c11 := ca_ n1_.out 1
       have c21 := ca_ n2_.out 1
       simp only [List.getElem?_toArray, List.getElem?_cons_succ, List.getElem?_cons_zero] at c11 c21
       have c12 := ca_ n1_.out 2
       have c22 := ca_ n2_.out 2
       simp only [List.getElem?_toArray, List.getElem?_cons_succ, List.getElem?_cons_zero] at c12 c22
       have c13 := ca_ n1_.out 3
       have c23 := ca_ n2_.out 3
       simp only [List.getElem?_toArray, List.getElem?_cons_succ, List.getElem?_cons_zero] at c13 c23
       have c14 := ca_ n1_.out 4
       have c24 := ca_ n2_.out 4
       simp only [List.getElem?_toArray, List.getElem?_cons_succ, List.getElem?_cons_zero] at c14 c24
       clear n1_ n2_
       clear HB hb
       have HB := n0_
       clear n0_
       go_wp2_with fail
       refine (gram_within.calls _ _ _ _ _ HW2.out).mono ?_
       rintro e w' ⟨rfl, ⟨nd, rfl⟩⟩
       go_wp2_with fail
       refine (gram_within.calls _ _ _ _ _ HW3.out).mono ?_
       rintro e w' ⟨rfl, ⟨nd, rfl⟩⟩
       go_wp2_with fail
       refine (xc_ _ _ _ _ _ _ (Kd.C_below HR3.out ?b5) hc0_3 (K2 _)).mono ?_
       case b5 => repeat (first | (with_reducible first | exact HB.out | apply ba_ | apply aa_ | apply da_) | exact HB.out)
       rw [H5.out]
       rintro e w5 ⟨rfl, hb⟩
       have n0_ := Aside0.mk (ma_ (by repeat (first | (with_reducible first | exact HB.out | apply ba_ | apply aa_ | apply da_) | exact HB.out)) hb)
       clear HB hb
       have HB := n0_
       clear n0_
       go_wp2
       go_ret
       exact ⟨rfl, by repeat (first | (with_reducible first | exact HB.out | apply ba_ | apply aa_ | apply da_) | exact HB.out)⟩
      | true =>
       have H5 := Aside0.mk h5
       clear h5
       go_enter Tryz.func46, Tryz.ntmps46
       go_wp2_with fail
       refine (gram_asked.calls 9 _ q1 q2 _ HA.out).mono ?_
       rintro e w' ⟨rfl, ⟨nd, rfl⟩⟩
       go_wp2_with fail
       refine (gram_symbol.calls _ _ _ HS.out).mono ?_
       rintro e w' ⟨rfl, ⟨nd, rfl⟩⟩
       go_wp2_with fail
       refine (gram_within.calls _ _ _ _ _ HW1.out).mono ?_
       rintro e w' ⟨rfl, ⟨nd, rfl⟩⟩
       go_wp2_with fail
       refine (xc_ _ _ _ _ _ _ (Kd.C_below HR1.out ?b2) hc0_1 (K1 _)).mono ?_
       case b2 => repeat (first | (with_reducible first | exact HB.out | apply ba_ | apply aa_ | apply da_) | exact HB.out)
       rw [H2.out]
       rintro e w2 ⟨rfl, hb⟩
       have n0_ := Aside0.mk (ma_ (by repeat (first | (with_reducible first | exact HB.out | apply ba_ | apply aa_ | apply da_) | exact HB.out)) hb)
       have n1_ := Aside0.mk (ya_ (g := w.heap.size) (o := .cells #[.int .i64 a0_0, .slice A0_1 l0_1.length c0_1, .int .i64 a0_2, .slice A0_3 l0_3.length c0_3, .int .i64 a0_4] 48 (0, 0)) (by (with_reducible repeat (first | refine ha_ ?_ _ | refine ia_ ?_)); exact ga_ (qb_ _ _) _) hb)
       have n2_ := Aside0.mk (ya_ (g := w.heap.size + 1) (o := .cells #[.int .i64 a0_0, .slice A0_1 l0_1.length c0_1, .int .i64 a0_2, .slice A0_3 l0_3.length c0_3, .int .i64 a0_4] 123 (0, 0)) (by (with_reducible repeat (first | refine ha_ ?_ _ | refine ia_ ?_)); have h_ := qb_ (w.alloc (.cells #[.int .i64 a0_0, .slice A0_1 l0_1.length c0_1, .int .i64 a0_2, .slice A0_3 l0_3.length c0_3, .int .i64 a0_4] 48 (0, 0))) (.cells #[.int .i64 a0_0, .slice A0_1 l0_1.length c0_1, .int .i64 a0_2, .slice A0_3 l0_3.length c0_3, .int .i64 a0_4] 123 (0, 0)); rw [World.size_alloc] at h_; exact h_) hb)
       have c10 := ca_ n1_.out 0
       have c20 := ca_ n2_.out 0
       simp only [List.getElem?_toArray, List.getElem?_cons_succ, List.getElem?_cons_zero] at c10 c20
       have c11 := ca_ n1_.out 1
       have c21 := ca_ n2_.out 1
       simp only [List.getElem?_toArray, List.getElem?_cons_succ, List.getElem?_cons_zero] at c11 c21
       have c12 := ca_ n1_.out 2
       have c22 := ca_ n2_.out 2
       simp only [List.getElem?_toArray, List.getElem?_cons_succ, List.getElem?_cons_zero] at c12 c22
       have c13 := ca_ n1_.out 3
       have c23 := ca_ n2_.out 3
       simp only [List.getElem?_toArray, List.getElem?_cons_succ, List.getElem?_cons_zero] at c13 c23
       have c14 := ca_ n1_.out 4
       have c24 := ca_ n2_.out 4
       simp only [List.getElem?_toArray, List.getElem?_cons_succ, List.getElem?_cons_zero] at c14 c24
       clear n1_ n2_
       clear HB hb
       have HB := n0_
       clear n0_
       go_wp2_with fail
       refine (gram_within.calls _ _ _ _ _ HW2.out).mono ?_
       rintro e w' ⟨rfl, ⟨nd, rfl⟩⟩
       go_wp2_with fail
       refine (gram_within.calls _ _ _ _ _ HW3.out).mono ?_
       rintro e w' ⟨rfl, ⟨nd, rfl⟩⟩
       go_wp2_with fail
       refine (xc_ _ _ _ _ _ _ (Kd.C_below HR3.out ?b5) hc0_3 (K2 _)).mono ?_
       case b5 => repeat (first | (with_reducible first | exact HB.out | apply ba_ | apply aa_ | apply da_) | exact HB.out)
       rw [H5.out]
       rintro e w5 ⟨rfl, hb⟩
       have n0_ := Aside0.mk (ma_ (by repeat (first | (with_reducible first | exact HB.out | apply ba_ | apply aa_ | apply da_) | exact HB.out)) hb)
       clear HB hb
       have HB := n0_
       clear n0_
       go_wp2
       go_ret
       exact ⟨rfl, by repeat (first | (with_reducible first | exact HB.out | apply ba_ | apply aa_ | apply da_) | exact HB.out)⟩
theorem gram_Right.calls (a0_0 : Int) (A0_1 : Option Addr) (c0_1 : Nat) (l0_1 : List Int) (a0_2 : Int) (A0_3 : Option Addr) (c0_3 : Nat) (l0_3 : List Int) (a0_4 : Int) (r : Bool) (w : World) (hr0_1 : Kd.C (Kd.int .i64) w A0_1 l0_1.length l0_1) (hc0_1 : l0_1.length ≤ c0_1) (hr0_3 : Kd.C (Kd.int .i64) w A0_3 l0_3.length l0_3) (hc0_3 : l0_3.length ≤ c0_3) (h : gram_Right.f a0_0 l0_1 a0_2 l0_3 a0_4 = some r) :
  Calls Tryz.prog 46 #[.agg #[.int .i64 a0_0, .slice A0_1 l0_1.length c0_1, .int .i64 a0_2, .slice A0_3 l0_3.length c0_3, .int .i64 a0_4]] w fun e w' => e = .returned (.bool r) ∧ Below w.heap.size w w' := by
 obtain rfl := Option.some.inj h
 exact ns_ a0_0 A0_1 c0_1 l0_1 a0_2 A0_3 c0_3 l0_3 a0_4 w hr0_1 hc0_1 hr0_3 hc0_3
end Go.Proofs.YtjfbfhoipgldgaaGreat.P
end
section
namespace Go.Proofs.YtjfbfhoipgldgaaGreat.P
open Go.RowKit Go.Proofs.YtjfbfhoipgldgaaGreatW.PrintWords Go.Proofs.YtjfbfhoipgldgaaGreatW.PrintLast Go.Proofs.YtjfbfhoipgldgaaGreatW.PrintMore
attribute [local go_sem] ob_ lb_ vb_ ub_ db_ cb_ nb_ kb_   
set_option linter.unusedVariables false
set_option linter.unusedSimpArgs false
section
variable {P : Program} {ops : Array Oper} {rest : List Oper} {o : Oper} {a : Act} {Q : Exit → Act → World → Prop}
theorem gk_ {W : World} (hN : o.dst = none) (hgd : o.guard = none) (t : TypeId) (p x : Operand) (ho : o.op = .store t p x) {g i : Nat} {e : TypeId} {cur : Array Value} (u : Value) (haddr : a.eval p = .pointer (some ⟨g, i, none⟩)) (hx : a.eval x = u)
  (hu : u.cells.toList = [u]) (h1 : u.oneCell' = true) (ht : (P.info? t).map (·.size) = some 1) (hblk : W.heap[g]? = some (.cells cur e (0, 0))) (hi : i < cur.size)
  (h : ∀ w1, w1 = W.setCell ⟨g, i, none⟩ u → wpList P ops Q rest a w1) : wpList P ops Q (o :: rest) a W := by
 have hrun := bi_ t u [u] hblk hu ht (Nat.succ_le_of_lt hi) (by intro q hq; rw [List.mem_singleton] at hq; rw [hq]; exact h1)
 refine wpList_plain hgd fun K hK => ?_
 unfold Oper.wp execOp
 simp only [ho, haddr, hx, Sem.run_bind, Sem.run_pure, Result.andThen_ok, hrun]
 show K (a.put o.dst undef) _
 rw [hN]
 exact hK a _ (h _ rfl)
end
theorem rc_ {α : Type} {d : Kd α} {w : World} {b : Nat} {e : TypeId} {cs : List Value} {xs : List α} (hblk : w.heap[b]? = some (.cells cs.toArray e (0, 0))) (hn : xs.length ≤ 9223372036854775807) (hr : Reps (d.K w) d.sz xs cs) : d.C w (some ⟨b, 0, none⟩) xs.length xs := by
 refine ⟨rfl, hn, fun _ => ⟨_, rfl, fun j p hp => ?_⟩⟩
 have hj : j < xs.length := (List.getElem?_eq_some_iff.1 hp).1
 have h1 : j * d.sz + d.sz ≤ cs.length := by rw [hr.1, ← Nat.succ_mul]; exact Nat.mul_le_mul_right _ hj
 refine ⟨(cs.drop (j * d.sz)).take d.sz, by rw [List.length_take, List.length_drop]; omega, hr.2 j p hp, fun i u hu => ?_⟩
 have hi : i < d.sz := by
  have := (List.getElem?_eq_some_iff.1 hu).1
  rw [List.length_take] at this
  omega
 rw [List.getElem?_take_of_lt hi, List.getElem?_drop] at hu
 have h2 := ca_ hblk (j * d.sz + i)
 rw [List.getElem?_toArray, hu] at h2
 have h3 : (Addr.mk b 0 none).add (j * d.sz + i) = ⟨b, j * d.sz + i, none⟩ := by
  unfold Addr.add
  by_cases h : j * d.sz + i = 0
  ·rw [if_pos h, h]
  rw [if_neg h, Nat.zero_add]
 rw [h3]
 exact h2
theorem lf_ {α : Type} {R : α → List Value → Prop} {sz : Nat} {x : α} {cs : List Value} (h : R x cs) (hl : cs.length = sz) : Reps R sz [x] cs := by
 have := (Reps.none R sz).snoc h hl
 simpa using this
theorem ua_ {w : World} {o o' : Obj} {b : Nat} (h : w.heap[b]? = some o) : (w.alloc o').heap[b]? = some o := ya_ h (ba_ (Below.refl _ _) _)
theorem nc_ {w : World} {cs : Array Value} {t : TypeId} {n : Nat} (h : w.heap.size = n) : (w.alloc (.cells cs t)).heap[n]? = some (.cells cs t (0, 0)) := h ▸ qb_ w _
end Go.Proofs.YtjfbfhoipgldgaaGreat.P
end
section
namespace Go.Proofs.YtjfbfhoipgldgaaGreat.P
open Go.RowKit Go.Proofs.YtjfbfhoipgldgaaGreatW.PrintWords Go.Proofs.YtjfbfhoipgldgaaGreatW.PrintLast Go.Proofs.YtjfbfhoipgldgaaGreatW.PrintMore
attribute [local go_sem] ob_ lb_ vb_ ub_ db_ cb_ nb_ kb_   
set_option linter.unusedVariables false
set_option linter.unusedSimpArgs false
open Go.Maps (Keyed)
abbrev qa_ := S48
def encP (p : Int × Int) : Value := .agg #[.int .i64 p.1, .int .i64 p.2]
theorem lj_ : ∀ x y, encP x = encP y → x = y := fun x y h => by
 simp [encP] at h
 exact Prod.ext h.1 h.2
theorem laidOut : laidOutB Tryz.prog = true := by kernel_rfl
theorem ph_ : Keyed Tryz.prog 104 := Keyed.of_law (deep_law_laid laidOut (m := 2) (by omega) (of_decide_eq_true (by kernel_rfl)) (by kernel_rfl) (by rw [Tryz.underlying104]))
theorem ev_ : ∃ n, Tryz.prog.types.size = n + 1 := ⟨Tryz.prog.types.size - 1, by have h : 0 < Tryz.prog.types.size := of_decide_eq_true (by kernel_rfl); omega⟩
theorem keyType2 : Tryz.prog.keyType 104 = true := by kernel_rfl
theorem rr_ : Tryz.prog.cellsOf 104 = 2 := by kernel_rfl
theorem cellsOf1 : Tryz.prog.cellsOf 3 = 1 := by kernel_rfl
theorem keyOfP {a b : Int} (ha : 0 ≤ a ∧ a < 20) (hb : 0 ≤ b ∧ b < 20) : ∃ l, keyOf Tryz.prog 104 (encP (a, b)) = some l := by
 obtain ⟨n, hn⟩ := ev_
 have wa : (Lit.int .i64 a).wf = true := WalkArith.wf_i64 (by omega)
 have wb : (Lit.int .i64 b).wf = true := WalkArith.wf_i64 (by omega)
 refine ⟨.string (keyBytes [.int .i64 a, .int .i64 b]), ?_⟩
 unfold keyOf encP
 rw [Tryz.underlying104]
 simp only [keyType2, Value.formed, Tryz.underlying104, rr_, Value.cells, hn]
 simp [Program.keyLits, Tryz.underlying104, Tryz.underlying3, rr_, cellsOf1, wa, wb, List.range_succ]
def gc_ (m : List ((Int × Int) × Int)) (r : qa_) : List ((Int × Int) × Int) :=
 if r.f1.length = 1 ∧ 0 ≤ rd r.f1 0 ∧ rd r.f1 0 < 20 then mput m (r.f0, rd r.f1 0) ((mget m (r.f0, rd r.f1 0)).getD 0 + 1) else m
def vc_ (l : List qa_) : List ((Int × Int) × Int) := l.foldl gc_ []
abbrev encM (m : List ((Int × Int) × Int)) : List ((Int × Int) × Value) := m.map fun p => (p.1, Value.int .i64 p.2)
theorem fo_ (m : List ((Int × Int) × Int)) (x : Int × Int) : (mget (encM m) x).getD (.int .i64 0) = .int .i64 ((mget m x).getD 0) := by
 rw [ne_]; cases mget m x <;> rfl
theorem uk_ (l : List qa_) (x : Int × Int) : 0 ≤ (mget (vc_ l) x).getD 0 ∧ (mget (vc_ l) x).getD 0 ≤ l.length := by
 suffices h : ∀ (l : List qa_) (m : List ((Int × Int) × Int)) (n : Nat), (∀ x, 0 ≤ (mget m x).getD 0 ∧ (mget m x).getD 0 ≤ n) → ∀ x, 0 ≤ (mget (l.foldl gc_ m) x).getD 0 ∧ (mget (l.foldl gc_ m) x).getD 0 ≤ (n + l.length : Nat) by
  have := h l [] 0 (fun x => by simp [mget]) x
  rw [Nat.zero_add] at this
  exact this
 intro l
 induction l with
 | nil => intro m n h x; exact h x
 | cons r l ih =>
  intro m n h x
  have h2 : ∀ y, 0 ≤ (mget (gc_ m r) y).getD 0 ∧ (mget (gc_ m r) y).getD 0 ≤ ((n + 1 : Nat) : Int) := by
   intro y
   unfold gc_
   split
   ·by_cases e : y = (r.f0, rd r.f1 0)
    ·subst e
     rw [mb_]
     have := h (r.f0, rd r.f1 0)
     simp only [Option.getD_some]
     omega
    rw [wb_ _ _ _ e]
    have := h y
    omega
   have := h y
   omega
  have := ih (gc_ m r) (n + 1) h2 x
  rw [List.foldl_cons, List.length_cons, show n + (l.length + 1) = n + 1 + l.length by omega]
  exact this
theorem dt_ (l : List qa_) (k : Nat) (h : k < l.length) : vc_ (l.take (k + 1)) = gc_ (vc_ (l.take k)) l[k] := by
 unfold vc_
 rw [List.take_succ_eq_append_getElem h, List.foldl_append]
 rfl
theorem map_incr {P : Program} {κ : Type} [DecidableEq κ] {kt t e : TypeId} {enc : κ → Value} {w : World} {b : Nat} {m : List (κ × Value)} {z : Value} (h : MapOf P kt enc w b m) (K : Keyed P kt) (hinj : ∀ x y, enc x = enc y → x = y) (ht : P.underlying t = some (.map kt e)) (hz : ∀ w, (zeroValue e).run P w = .ok z w)
  (k : κ) (hk : ∃ l, keyOf P kt (enc k) = some l) (v v2 : Value) (hv : (mget m k).getD z = v) :
  ∃ w1 n w2, (Instr.mapEntry t (.map (some b)) (enc k)).run P w = .ok (.tuple #[v, .int .i64 n]) w1 ∧ (Instr.lookup t (.map (some b)) (enc k) false).run P w1 = .ok v w1 ∧ (Instr.entryStore t (.map (some b)) (.int .i64 n) v2).run P w1 = .ok () w2 ∧ MapOf P kt enc w2 b (mput m k v2) ∧ w.grownBy w2 (some b) ∧ w2.heap.size = w.heap.size := by
 obtain ⟨w1, n, h1, _, _, ⟨m1, hm1, hg1⟩, h4⟩ := h.entry K hinj ht hz k hk
 obtain ⟨w2, h5, h6, h7, h8⟩ := h4 v2
 have h9 := hm1.lookup K hinj ht (hz w1) k hk false
 rw [hg1, hv] at h9
 exact ⟨w1, n, w2, by rw [h1, hv], h9, h5, h6, h7, h8⟩
def li_ (l0 : List qa_) : Bool := l0.all (fun r => decide (0 ≤ r.f0 ∧ r.f0 < 20)) && decide (l0.length ≤ 1000000000000)
def dc_ (l0 : List qa_) : List (List Int) := (List.range 20).map fun (s : Nat) => ((List.range 20).map fun (x : Nat) => (x : Int)).filter fun x => decide (0 < (mget (vc_ l0) ((s : Int), x)).getD 0)
def gram_Units.f (l0 : List qa_) : Option (List (List Int)) := if li_ l0 = true then some (dc_ l0) else none
def ic_ (m : List ((Int × Int) × Int)) (s n : Nat) : List Int := ((List.range n).map fun (x : Nat) => (x : Int)).filter fun x => decide (0 < (mget m ((s : Int), x)).getD 0)
theorem vo_ (m : List ((Int × Int) × Int)) (s n : Nat) : ic_ m s (n + 1) = ic_ m s n ++ if 0 < (mget m ((s : Int), (n : Int))).getD 0 then [(n : Int)] else [] := by
 unfold ic_
 rw [List.range_succ, List.map_append, List.filter_append]
 congr 1
 by_cases h : 0 < (mget m ((s : Int), (n : Int))).getD 0 <;> simp [h]
theorem ik_ (m : List ((Int × Int) × Int)) (s n : Nat) : (ic_ m s n).length ≤ n := by
 unfold ic_
 have := List.length_filter_le (fun x => decide (0 < (mget m ((s : Int), x)).getD 0)) ((List.range n).map fun (x : Nat) => (x : Int))
 simpa using this
structure URows (base g : Nat) (row : Nat → List Int) (i : Nat) (W : World) (vals : List Value) (f : Nat → Nat) : Prop where
 len : vals.length = 20
 blk : W.heap[g]? = some (.cells vals.toArray 23 (0, 0))
 ge : base ≤ g
 done : ∀ j, j < i → ∃ v, vals[j]? = some v ∧ Kd.R (Kd.int .i64) 3 W base (fun k => k ≠ g ∧ f k = j) v (row j)
 rest : ∀ j, i ≤ j → j < 20 → vals[j]? = some (.slice none 0 0)
structure UCur (base g N : Nat) (row : Nat → List Int) (i : Nat) (W : World) (vals : List Value) (f : Nat → Nat) (u : Value) (cur : List Int) : Prop where
 len : vals.length = 20
 blk : W.heap[g]? = some (.cells vals.toArray 23 (0, 0))
 ge : base ≤ g
 done : ∀ j, j < i → ∃ v, vals[j]? = some v ∧ Kd.R (Kd.int .i64) 3 W base (fun k => (k ≠ g ∧ f k = j) ∧ k < N) v (row j)
 rest : ∀ j, i < j → j < 20 → vals[j]? = some (.slice none 0 0)
 at_ : vals[i]? = some u
 cur : Kd.R (Kd.int .i64) 3 W base (fun k => k ≠ g ∧ N ≤ k) u cur
 gN : g < N
 size : N ≤ W.heap.size
theorem URows.start {base g : Nat} {row : Nat → List Int} {i : Nat} {W : World} {vals : List Value} {f : Nat → Nat} (h : URows base g row i W vals f) (hi : i < 20) : UCur base g W.heap.size row i W vals f (.slice none 0 0) [] :=
 ⟨h.len, h.blk, h.ge, fun j hj => by obtain ⟨v, h1, h2⟩ := h.done j hj; exact ⟨v, h1, Kd.R_mono (Kd.R_bound h2) (fun k hk => ⟨hk.1, hk.2.2.1⟩)⟩, fun j hj hj2 => h.rest j (by omega) hj2, h.rest i (Nat.le_refl _) hi, Kd.R_nil _ _ _ _ _, kc_ h.blk, Nat.le_refl _⟩
theorem UCur.below {base g N : Nat} {row : Nat → List Int} {i : Nat} {W W1 : World} {vals : List Value} {f : Nat → Nat} {u : Value} {cur : List Int} (h : UCur base g N row i W vals f u cur) (hb : Below W.heap.size W W1) : UCur base g N row i W1 vals f u cur :=
 ⟨h.len, ya_ h.blk hb, h.ge, fun j hj => by obtain ⟨v, h1, h2⟩ := h.done j hj; exact ⟨v, h1, Kd.R_below h2 hb⟩, h.rest, h.at_, Kd.R_below h.cur hb, h.gN, Nat.le_trans h.size hb.size⟩
theorem UCur.put {base g N : Nat} {row : Nat → List Int} {i : Nat} {W W1 : World} {vals : List Value} {f : Nat → Nat} {u u1 : Value} {cur cur1 : List Int} (h : UCur base g N row i W vals f u cur) (hg : W.grownBy W1 u.ownBlock)
  (hr : Kd.R (Kd.int .i64) 3 W1 base (fun k => k ≠ g ∧ N ≤ k) u1 cur1) : UCur base g N row i (W1.setCell ⟨g, i, none⟩ u1) (vals.set i u1) f u1 cur1 := by
 have hi : i < vals.length := (List.getElem?_eq_some_iff.1 h.at_).1
 have hne : ∀ k, (k ≠ g ∧ N ≤ k) → k ≠ (⟨g, i, none⟩ : Addr).block := fun k hk => hk.1
 have hub : ∀ k, k < N → some k ≠ u.ownBlock := fun k hk e => by have := (h.cur.1 k e.symm).2; omega
 have hb1 : W1.heap[g]? = some (.cells vals.toArray 23 (0, 0)) := xa_ h.blk hg (hub g h.gN)
 refine ⟨by rw [List.length_set]; exact h.len, ?_, h.ge, fun j hj => ?_, fun j hj hj2 => ?_, by rw [List.getElem?_set_self hi], Kd.R_far hr hne u1, h.gN, Nat.le_trans h.size (by simp [World.setCell]; exact hg.size)⟩
 ·refine wc_ hb1 i u1 ?_
  simp
 ·obtain ⟨v, h1, h2⟩ := h.done j hj
  refine ⟨v, by rw [List.getElem?_set_ne (by omega)]; exact h1, Kd.R_far (Kd.R_grown h2 hg (fun k hk => hub k hk.2)) (fun k hk => hk.1.1) u1⟩
 rw [List.getElem?_set_ne (by omega)]
 exact h.rest j hj hj2
theorem UCur.finish {base g N : Nat} {row : Nat → List Int} {i : Nat} {W : World} {vals : List Value} {f : Nat → Nat} {u : Value} (h : UCur base g N row i W vals f u (row i)) : URows base g row (i + 1) W vals (fun k => if k < N then f k else i) := by
 refine ⟨h.len, h.blk, h.ge, fun j hj => ?_, fun j hj hj2 => h.rest j (by omega) hj2⟩
 by_cases e : j = i
 ·subst e
  exact ⟨u, h.at_, Kd.R_mono h.cur (fun k hk => ⟨hk.1, by rw [if_neg (by omega)]⟩)⟩
 obtain ⟨v, h1, h2⟩ := h.done j (by omega)
 exact ⟨v, h1, Kd.R_mono h2 (fun k hk => ⟨hk.1.1, by rw [if_pos hk.2]; exact hk.1.2⟩)⟩
theorem URows.toS {base g : Nat} {row : Nat → List Int} {W : World} {vals : List Value} {f : Nat → Nat} (h : URows base g row 20 W vals f) :
  Kd.S (Kd.slice 3 (Kd.int .i64)) 23 W base (fun _ => True) (.slice (some ⟨g, 0, none⟩) 20 20) ((List.range 20).map row) := by
 refine ⟨f, fun _ _ => trivial, vals, ⟨?_, .inr ⟨g, 20, vals.toArray, rfl, h.ge, h.blk, by simp, by unfold maxLen; omega, by simp [h.len, Kd.tag, Kd.slice], ?_⟩⟩, ?_, fun j p hj => ?_⟩
 ·simp [h.len, Kd.tag, Kd.slice]
 ·have : vals.take 20 = vals := by rw [← h.len]; exact List.take_length
  simpa [Kd.tag, Kd.slice] using this
 ·simp [h.len, Kd.tag, Kd.slice]
 obtain ⟨x, n⟩ := p
 rw [List.getElem?_zipIdx] at hj
 obtain ⟨y, hy, hp⟩ := Option.map_eq_some_iff.1 hj
 simp only [Nat.zero_add, Prod.mk.injEq] at hp
 obtain ⟨rfl, rfl⟩ := hp
 have hj20 : j < 20 := by have := (List.getElem?_eq_some_iff.1 hy).1; simpa using this
 rw [List.getElem?_map, List.getElem?_range hj20] at hy
 have hy2 : row j = y := by simpa using hy
 obtain ⟨v, h1, h2⟩ := h.done j hj20
 have h3 : (vals.drop (j * 1)).take 1 = [v] := by
  obtain ⟨hl, hv⟩ := List.getElem?_eq_some_iff.1 h1
  rw [Nat.mul_one, List.drop_eq_getElem_cons hl, hv]; rfl
 show ((Kd.tag f (Kd.slice 3 (Kd.int .i64))).M W base _ (y, j) ((vals.drop (j * 1)).take 1))
 rw [h3]
 refine ⟨v, rfl, ?_⟩
 rw [← hy2]
 refine Kd.R_mono h2 (fun k hk => ⟨⟨trivial, ?_⟩, hk.2⟩)
 simp [Value.ownBlock]
 exact hk.1
set_option maxHeartbeats 4000000 in
set_option maxRecDepth 100000 in
theorem ml_ (A0 : Option Addr) (c0 : Nat) (l0 : List qa_) (w : World) (hr0 : Kd.C k48 w A0 l0.length l0) (hc0 : l0.length ≤ c0) (hu : li_ l0 = true) :
  Calls Tryz.prog 31 #[.slice A0 l0.length c0] w fun e w' => ∃ v0_ : Value, e = .returned (v0_) ∧ Kd.S (Kd.slice 3 (Kd.int .i64)) 23 w' w.heap.size (fun _ => True) v0_ (dc_ l0) ∧ Below w.heap.size w w' := by
 have hmm := @run_makeMap Tryz.prog
 have hu2 := hu
 simp only [li_, Bool.and_eq_true, List.all_eq_true, decide_eq_true_eq] at hu2
 obtain ⟨hu3, hlen⟩ := hu2
 have HU := Aside0.mk hu3
 have HR := Aside0.mk hr0
 have HC := Aside0.mk hc0
 clear hr0 hc0 hu hu3
 go_enter Tryz.func31, Tryz.ntmps31
 go_wp2
 go_loopg [12] l0.length (fun gg s12 wr => ∃ kk : Nat, kk ≤ l0.length ∧ l0.length - kk ≤ gg ∧ s12 = .int .i64 kk ∧ Aside0 (MapOf Tryz.prog 104 encP wr w.heap.size (encM (vc_ (l0.take kk)))) ∧ Aside0 (Below w.heap.size w wr) ∧ Aside0 (w.heap.size < wr.heap.size))
 case atStart => exact ⟨0, Nat.zero_le _, by omega, rfl, ⟨MapOf.made _ _ _ _⟩, ⟨ba_ (Below.refl _ _) _⟩, ⟨by simp⟩⟩
 obtain ⟨kk, hkk, hg, rfl, HM, HB, HS⟩ := hrel
 by_cases hlt : kk < l0.length
 ·have hltz : (kk : Int) < (l0.length : Int) := by omega
  obtain ⟨ad, A1, c1, A3, c3, hA, h0, h1, h2, h3, h4, l1, g1, l3, g3⟩ := pf_ (Kd.C_below HR.out HB.out) kk (by omega) hltz
  have hx : sb_ l0 kk = l0[kk] := by simp [sb_, List.getD_eq_getElem?_getD, List.getElem?_eq_getElem hlt]
  have hlhs := HU.out l0[kk] (List.getElem_mem hlt)
  rw [← hx] at hlhs
  have hsn := dt_ l0 kk hlt
  rw [← hx] at hsn
  generalize sb_ l0 kk = y at *
  rw [Int.toNat_natCast] at h0 h1 h2 h3 h4
  subst hA
  clear hx l3 g3
  have HSN := Aside0.mk hsn
  clear hsn
  by_cases hone : y.f1.length = 1
  ·obtain ⟨ad1, hA1, hcell⟩ := Kd.at_int g1 0 (by omega) (by omega)
   have hcell' : wr.cell? ad1 = some (.int .i64 (rd y.f1 0)) := hcell
   subst hA1
   have hlx : wr.heap.size > ad1.block := World.block_lt_of_cell? wr _ hcell'
   have hcell2 : (wr.alloc (.cells #[.int .i64 y.f0, .slice (some ad1) 1 c1, .int .i64 y.f2.f0, .slice A3 y.f2.f1.length c3, .int .i64 y.f3] 48)).cell? ad1 = some (.int .i64 (rd y.f1 0)) := (World.cell?_alloc_lt _ _ _ hlx).trans hcell'
   rw [hone] at h1
   generalize hrd : rd y.f1 0 = x at *
   have HRD := Aside0.mk hrd
   clear hrd
   have hsym := Aside0.mk (fk_ x)
   clear hcell g1 hcell' hlx
   have HM1 := Aside0.mk (HM.out.alloc (.cells #[.int .i64 y.f0, .slice (some ad1) 1 c1, .int .i64 y.f2.f0, .slice A3 y.f2.f1.length c3, .int .i64 y.f3] 48))
   have HB1 := Aside0.mk (ba_ HB.out (.cells #[.int .i64 y.f0, .slice (some ad1) 1 c1, .int .i64 y.f2.f0, .slice A3 y.f2.f1.length c3, .int .i64 y.f3] 48))
   have HBK := Aside0.mk (qb_ wr (.cells #[.int .i64 y.f0, .slice (some ad1) 1 c1, .int .i64 y.f2.f0, .slice A3 y.f2.f1.length c3, .int .i64 y.f3] 48))
   have HS1 : Aside0 (w.heap.size < (wr.alloc (.cells #[.int .i64 y.f0, .slice (some ad1) 1 c1, .int .i64 y.f2.f0, .slice A3 y.f2.f1.length c3, .int .i64 y.f3] 48)).heap.size) := ⟨Nat.lt_of_lt_of_le HS.out (by simp)⟩
   cases hsx : be_ x with
   | true =>
    rw [hsx] at hsym
    go_wp2_with fail
    refine (gram_symbol.calls _ _ _ hsym.out).mono ?_
    rintro e w' ⟨rfl, ⟨nd, rfl⟩⟩
    clear HM HB HS h0 h1 h2 h3 h4
    generalize hW : (wr.alloc (.cells #[.int .i64 y.f0, .slice (some ad1) 1 c1, .int .i64 y.f2.f0, .slice A3 y.f2.f1.length c3, .int .i64 y.f3] 48)).drewN nd = W1
    have HM2 : Aside0 (MapOf Tryz.prog 104 encP W1 w.heap.size (encM (vc_ (l0.take kk)))) := ⟨by rw [← hW]; exact HM1.out⟩
    have HB2 : Aside0 (Below w.heap.size w W1) := ⟨by rw [← hW]; exact aa_ HB1.out _⟩
    have HBK2 : Aside0 (W1.heap[wr.heap.size]? = some (.cells #[.int .i64 y.f0, .slice (some ad1) 1 c1, .int .i64 y.f2.f0, .slice A3 y.f2.f1.length c3, .int .i64 y.f3] 48 (0, 0))) := ⟨by rw [← hW]; exact ha_ HBK.out _⟩
    have HS2 : Aside0 (w.heap.size < W1.heap.size) := ⟨by rw [← hW]; exact HS1.out⟩
    have k2 : W1.cell? ad1 = some (.int .i64 x) := by rw [← hW]; exact hcell2
    clear hcell2 HM1 HB1 HBK HS1 hW
    have d0 := ca_ HBK2.out 0
    have d1 := ca_ HBK2.out 1
    simp only [List.getElem?_toArray, List.getElem?_cons_succ, List.getElem?_cons_zero] at d0 d1
    have hsb : 0 ≤ x ∧ x < 20 := by simpa [be_] using hsx
    obtain ⟨hx0, hx1⟩ := hsb
    obtain ⟨hy0, hy1⟩ := hlhs
    have hkey := keyOfP (a := y.f0) (b := x) ⟨hy0, hy1⟩ ⟨hx0, hx1⟩
    have hb := uk_ (l0.take kk) (y.f0, x)
    obtain ⟨hb0, hb1⟩ := hb
    have hb2 : (l0.take kk).length ≤ kk := List.length_take_le _ _
    have hgv := fo_ (vc_ (l0.take kk)) (y.f0, x)
    have hmp := fg_ (Value.int .i64) (y.f0, x) ((mget (vc_ (l0.take kk)) (y.f0, x)).getD 0 + 1) (vc_ (l0.take kk))
    have hstep : gc_ (vc_ (l0.take kk)) y = mput (vc_ (l0.take kk)) (y.f0, x) ((mget (vc_ (l0.take kk)) (y.f0, x)).getD 0 + 1) := by
     unfold gc_
     rw [if_pos ⟨hone, by rw [HRD.out]; exact ⟨hx0, hx1⟩⟩, HRD.out]
    generalize (mget (vc_ (l0.take kk)) (y.f0, x)).getD 0 = v at *
    have hv1 : v ≤ 1000000000000 := by omega
    have hlk := (HM2.out.drew).lookup ph_ lj_ Tryz.underlying103 (ye_ W1.drew) (y.f0, x) hkey false
    rw [hgv] at hlk
    have hlk2 : (Instr.lookup 103 (.map (some w.heap.size)) (.agg #[.int .i64 y.f0, .int .i64 x]) false).run Tryz.prog W1.drew = .ok (.int .i64 v) W1.drew := hlk
    obtain ⟨w3, n3, w4, hE1, hL3, hE2, hm4, hg4, hz4⟩ := map_incr (HM2.out.drew) ph_ lj_ Tryz.underlying103 ye_ (y.f0, x) hkey (.int .i64 v) (.int .i64 (v + 1)) hgv
    have hE3 : (Instr.mapEntry 103 (.map (some w.heap.size)) (.agg #[.int .i64 y.f0, .int .i64 x])).run Tryz.prog W1.drew = .ok (.tuple #[.int .i64 v, .int .i64 n3]) w3 := hE1
    rw [hmp, ← hstep] at hm4
    have hL4 : (Instr.lookup 103 (.map (some w.heap.size)) (.agg #[.int .i64 y.f0, .int .i64 x]) false).run Tryz.prog w3 = .ok (.int .i64 v) w3 := hL3
    have hwr : IntKind.i64.wrap (v + 1) = v + 1 := IntWalk.i64_in _ (by omega)
    have HM4 := Aside0.mk hm4
    have HG4 := Aside0.mk hg4
    have HZ4 := Aside0.mk hz4
    clear hlk hE1 hL3 hm4 hg4 hz4 hmp hstep hgv hb2
    go_wp2_with fail
    go_region
    all_goals
     go_wp2
     go_roundg (l0.length - (kk + 1))
     case measure => omega
     case rel =>
      exact ⟨kk + 1, by omega, by omega, by go_num, ⟨by rw [HSN.out]; exact HM4.out⟩, ⟨(HB2.out.drew).grown HG4.out HB2.out.size (fun j e => by cases e; exact Nat.le_refl _)⟩, ⟨by rw [HZ4.out]; exact HS2.out⟩⟩
   | false =>
    rw [hsx] at hsym
    go_wp2_with fail
    refine (gram_symbol.calls _ _ _ hsym.out).mono ?_
    rintro e w' ⟨rfl, ⟨nd, rfl⟩⟩
    go_wp2
    go_roundg (l0.length - (kk + 1))
    case measure => omega
    case rel =>
     refine ⟨kk + 1, by omega, by omega, by go_num, ⟨?_⟩, ⟨aa_ HB1.out _⟩, ⟨HS1.out⟩⟩
     have hst : gc_ (vc_ (l0.take kk)) y = vc_ (l0.take kk) := by
      unfold gc_
      rw [if_neg (fun h => by rw [HRD.out] at h; simp [be_, h.2.1] at hsx; omega)]
     rw [HSN.out, hst]
     exact HM1.out.drewN _
  have ht : ((y.f1.length : Int) == 1) = false := beq_eq_false_iff_ne.2 (by omega)
  have hst : gc_ (vc_ (l0.take kk)) y = vc_ (l0.take kk) := by
   unfold gc_
   rw [if_neg (fun h => hone h.1)]
  have HST := Aside0.mk hst
  clear hst
  go_wp2
  go_roundg (l0.length - (kk + 1))
  case measure => omega
  case rel => exact ⟨kk + 1, by omega, by omega, by go_num, ⟨by rw [HSN.out, HST.out]; exact HM.out.alloc _⟩, ⟨ba_ HB.out _⟩, ⟨Nat.lt_of_lt_of_le HS.out (by simp)⟩⟩
 have hltz : ¬ (kk : Int) < (l0.length : Int) := by omega
 have hkl : kk = l0.length := by omega
 subst hkl
 have HM0 : Aside0 (MapOf Tryz.prog 104 encP wr w.heap.size (encM (vc_ l0))) := ⟨by have := HM.out; rwa [List.take_length] at this⟩
 clear HM
 have HFB := Aside0.mk (uk_ l0)
 have HUP := Aside0.mk (show (List.range 20).map (fun j => ic_ (vc_ l0) j 20) = dc_ l0 from rfl)
 generalize vc_ l0 = m at *
 have hmk : ∀ w, (Instr.makeSlice 72 (.int .i64 20) (.int .i64 20)).run Tryz.prog w = .ok (.slice (some ⟨w.heap.size, 0, none⟩) 20 20) (w.alloc (.cells (List.replicate 20 (Value.slice none 0 0)).toArray 23)) := fun _ => by kernel_rfl
 have HU0 : Aside0 (∃ vals f, URows w.heap.size wr.heap.size (fun j => ic_ m j 20) 0 (wr.alloc (.cells (List.replicate 20 (Value.slice none 0 0)).toArray 23)) vals f) :=
  ⟨List.replicate 20 (.slice none 0 0), fun _ => 0, ⟨by simp, qb_ _ _, Nat.le_of_lt HS.out, fun j hj => absurd hj (Nat.not_lt_zero _), fun j _ hj => by rw [List.getElem?_replicate, if_pos hj]⟩⟩
 have HM1 := Aside0.mk (HM0.out.alloc (.cells (List.replicate 20 (Value.slice none 0 0)).toArray 23))
 have HB1 := Aside0.mk (ba_ HB.out (.cells (List.replicate 20 (Value.slice none 0 0)).toArray 23))
 clear HM0 HB HS
 go_wp2
 generalize wr.heap.size = g at *
 go_loopg [43] 20 (fun gg s43 W => ∃ i : Nat, i ≤ 20 ∧ 20 - i ≤ gg ∧ s43 = .int .i64 i ∧ Aside0 (∃ vals f, URows w.heap.size g (fun j => ic_ m j 20) i W vals f) ∧ Aside0 (MapOf Tryz.prog 104 encP W w.heap.size (encM m)) ∧ Aside0 (Below w.heap.size w W))
 case atStart => exact ⟨0, by omega, by omega, rfl, HU0, HM1, HB1⟩
 clear HU0 HM1 HB1
 obtain ⟨i, hi, hgi, rfl, HU1, HM1, HB1⟩ := hrel
 by_cases hi20 : i < 20
 ·have hi20z : (i : Int) < 20 := by omega
  obtain ⟨vals, f, hU1⟩ := HU1.out
  have HC1 := Aside0.mk (hU1.start hi20)
  clear HU1 hU1
  generalize wr.heap.size = N at HC1
  go_wp2
  go_loopg [46] 20 (fun gg2 s46 W2 => ∃ x : Nat, x ≤ 20 ∧ 20 - x ≤ gg2 ∧ s46 = .int .i64 x ∧ Aside0 (∃ vals f u, UCur w.heap.size g N (fun j => ic_ m j 20) i W2 vals f u (ic_ m i x)) ∧ Aside0 (MapOf Tryz.prog 104 encP W2 w.heap.size (encM m)) ∧ Aside0 (Below w.heap.size w W2))
  case atStart => exact ⟨0, by omega, by omega, rfl, ⟨_, _, _, HC1.out⟩, HM1, HB1⟩
  clear HC1 HM1 HB1
  obtain ⟨x, hx, hgx, rfl, HC2, HM2, HB2⟩ := hrel
  obtain ⟨vals, f, u, hC2⟩ := HC2.out
  have HC3 := Aside0.mk hC2
  clear HC2 hC2
  have hc : wr.cell? ⟨g, i, none⟩ = some u := (ca_ HC3.out.blk i).trans (by rw [List.getElem?_toArray]; exact HC3.out.at_)
  have hfz := fa_ HC3.out.blk i
  have hsu := vo_ m i x
  have hrl := ik_ m i x
  obtain ⟨A4, c4, rfl⟩ := Kd.R_slice HC3.out.cur
  by_cases hx20 : x < 20
  ·have hx20z : (x : Int) < 20 := by omega
   have hkey := keyOfP (a := (i : Int)) (b := (x : Int)) ⟨by omega, by omega⟩ ⟨by omega, by omega⟩
   have hgv := fo_ m ((i : Int), (x : Int))
   generalize (mget m ((i : Int), (x : Int))).getD 0 = v at hgv hsu
   have HGV := Aside0.mk hgv
   have HSU := Aside0.mk hsu
   clear hgv hsu
   by_cases hv : 0 < v
   ·have hub : ∀ k, k < N → some k ≠ (Value.slice A4 (ic_ m i x).length c4).ownBlock := fun k hk e => by have := (HC3.out.cur.1 k e.symm).2; omega
    have hgn := HC3.out.gN
    have hil : i < vals.toArray.size := by have := HC3.out.len; simp; omega
    go_wp2_with (first
     | (at_lookup; refine sc_ rfl (.tmp 49) (.tmp 52) 103 3 rfl ph_ lj_ Tryz.underlying103 ye_ rfl HM2.out ((i : Int), (x : Int)) rfl hkey (.int .i64 v) HGV.out ?_)
     | (at_builtin; refine Kd.R_append (Kd.int .i64) (w0 := w) w.heap.size rfl (.tmp 60) (.tmp 62) 23 3 (.int .i64 0) 8 rfl Tryz.underlying23 ae_ rfl (by decide) (by omega) (.slice A4 (ic_ m i x).length c4) (ic_ m i x) (x : Int) [.int .i64 x] (fun k => k ≠ g ∧ N ≤ k) (fun _ => False) rfl rfl rfl (fun _ hk => hk.elim) (fun k hk => ⟨fun e => by have := HC3.out.gN; have := HC3.out.size; omega, Nat.le_trans HC3.out.size hk⟩) HC3.out.cur HB2.out HB2.out.size (by omega) ?_; intro v1 w1 ho hb hgr hat; have ho' : Kd.R (Kd.int .i64) 3 w1 w.heap.size (fun k => k ≠ g ∧ N ≤ k) v1 (ic_ m i x ++ [(x : Int)]) := ho; have HR1 := Aside0.mk ho'; have HB3 := Aside0.mk hb; have HG1 := Aside0.mk hgr; obtain ⟨A5, c5, rfl⟩ := Kd.R_slice ho'; clear ho ho' hb hgr hat)
     | (refine gate_ (.store 23 (.tmp 64) (.tmp 63)) rfl ?_; have hblk1 := Aside0.mk (xa_ HC3.out.blk HG1.out (hub g hgn)); go_loud (refine gk_ rfl rfl 23 (.tmp 64) (.tmp 63) rfl (.slice A5 ((ic_ m i x).length + 1) c5) rfl rfl rfl rfl rfl hblk1.out hil ?_); intro w2 hw2)
     | fail)
    go_roundg (20 - (x + 1))
    case measure => omega
    case rel =>
     have e5 : (Value.slice A5 ((ic_ m i x).length + 1) c5) = .slice A5 (ic_ m i x ++ [(x : Int)]).length c5 := by rw [List.length_append]; rfl
     rw [e5] at hw2
     subst hw2
     refine ⟨x + 1, by omega, by omega, by go_num, ⟨vals.set i (.slice A5 (ic_ m i x ++ [(x : Int)]).length c5), f, .slice A5 (ic_ m i x ++ [(x : Int)]).length c5, ?_⟩, ⟨?_⟩, ⟨?_⟩⟩
     ·rw [HSU.out, if_pos hv]
      have h9 := HC3.out.put HG1.out HR1.out
      rw [← e5] at h9 ⊢
      exact h9
     ·have hbN : w.heap.size < N := Nat.lt_of_le_of_lt HC3.out.ge HC3.out.gN
      refine (HM2.out.grown HG1.out (hub _ hbN)).setCell _ (fun e => ?_) _
      exact HM2.out.not_cells HC3.out.blk e
     exact HB3.out.setCell HC3.out.ge _
   have hgt : ¬ (v > 0) := by omega
   go_wp2_with (first
    | (at_lookup; refine sc_ rfl (.tmp 49) (.tmp 52) 103 3 rfl ph_ lj_ Tryz.underlying103 ye_ rfl HM2.out ((i : Int), (x : Int)) rfl hkey (.int .i64 v) HGV.out ?_)
    | fail)
   go_roundg (20 - (x + 1))
   case measure => omega
   case rel =>
    refine ⟨x + 1, by omega, by omega, by go_num, ⟨vals, f, .slice A4 (ic_ m i x).length c4, ?_⟩, HM2, HB2⟩
    rw [HSU.out, if_neg (by omega), List.append_nil]
    exact HC3.out
  have hx20z : ¬ (x : Int) < 20 := by omega
  have hxe : x = 20 := by omega
  subst hxe
  obtain ⟨A6, c6, e6, hle6, hC6⟩ := Kd.R_reads HC3.out.cur
  injection e6 with e7 e8 e9
  subst e7 e9
  have HC6 := Aside0.mk hC6
  have HL6 := Aside0.mk hle6
  clear hC6 hle6 e8
  have hil : i < vals.toArray.size := by have := HC3.out.len; simp; omega
  go_wp2_with fail
  refine (slices_Clone_int_int.calls _ _ (ic_ m i 20) (ic_ m i 20) _ HC6.out HL6.out (if_pos (by omega))).mono ?_
  rintro e w1 ⟨v1, rfl, hR1, hb1⟩
  have HR1 := Aside0.mk (Kd.R_lower (Kd.R_mono (Kd.R_bound hR1) (ok' := fun k => k ≠ g ∧ N ≤ k) (fun k hk => ⟨fun e => by have := HC3.out.gN; have := HC3.out.size; omega, Nat.le_trans HC3.out.size hk.2.1⟩)) HB2.out.size)
  have HM1 := Aside0.mk (HM2.out.below hb1)
  have HB1 := Aside0.mk (ma_ HB2.out hb1)
  have HC1 := Aside0.mk (HC3.out.below hb1)
  have hblk1 := Aside0.mk HC1.out.blk
  obtain ⟨A7, c7, rfl⟩ := Kd.R_slice hR1
  clear hR1 hb1 hc hfz HC3 HM2 HB2 HC6 HL6
  generalize hrn : (ic_ m i 20).length = n7 at *
  go_wp2_with (first
    | (refine gate_ (.store 23 (.tmp 73) (.tmp 72)) rfl ?_; refine gk_ rfl rfl 23 (.tmp 73) (.tmp 72) rfl (.slice A7 n7 c7) rfl rfl rfl rfl rfl hblk1.out hil ?_; intro w2 hw2)
    | fail)
  go_roundg (20 - (i + 1))
  case measure => omega
  case rel =>
   subst hw2
   refine ⟨i + 1, by omega, by omega, by go_num, ⟨vals.set i (.slice A7 n7 c7), _, (HC1.out.put (World.grownBy.refl _ _) HR1.out).finish⟩, ⟨HM1.out.setCell _ (HM1.out.not_cells hblk1.out) _⟩, ⟨HB1.out.setCell HC1.out.ge _⟩⟩
 have hi20z : ¬ (i : Int) < 20 := by omega
 have hie : i = 20 := by omega
 subst hie
 obtain ⟨vals, f, hU1⟩ := HU1.out
 have HV := Aside0.mk hU1.toS
 clear hU1 HU1
 go_wp2
 go_ret
 have h9 := HV.out
 rw [HUP.out] at h9
 exact ⟨_, rfl, h9, HB1.out⟩
theorem gram_Units.calls (A0 : Option Addr) (c0 : Nat) (l0 : List qa_) (r : List (List Int)) (w : World) (hr0 : Kd.C k48 w A0 l0.length l0) (hc0 : l0.length ≤ c0) (h : gram_Units.f l0 = some r) :
  Calls Tryz.prog 31 #[.slice A0 l0.length c0] w fun e w' => ∃ v0_ : Value, e = .returned (v0_) ∧ Kd.S (Kd.slice 3 (Kd.int .i64)) 23 w' w.heap.size (fun _ => True) v0_ r ∧ Below w.heap.size w w' := by
 unfold gram_Units.f at h
 split at h
 case isFalse => cases h
 case isTrue hu =>
 obtain rfl := Option.some.inj h
 exact ml_ A0 c0 l0 w hr0 hc0 hu
end Go.Proofs.YtjfbfhoipgldgaaGreat.P
end
section
namespace Go.Proofs.YtjfbfhoipgldgaaGreat.P
open Go.RowKit Go.Proofs.YtjfbfhoipgldgaaGreatW.PrintWords Go.Proofs.YtjfbfhoipgldgaaGreatW.PrintLast Go.Proofs.YtjfbfhoipgldgaaGreatW.PrintMore
attribute [local go_sem] ob_ lb_ vb_ ub_ db_ cb_ nb_ kb_   
set_option linter.unusedVariables false
set_option linter.unusedSimpArgs false
inductive Reach (next : Int → List Int) (l0 : List Int) : Int → Prop
 | base {x : Int} : x ∈ l0 → Reach next l0 x
 | step {x y : Int} : Reach next l0 x → y ∈ next x → Reach next l0 y
def ac_ (x : Int) : Prop := 0 ≤ x ∧ x < 20
theorem Reach.sym {next : Int → List Int} {l0 : List Int} (hd : ∀ x, ac_ x → ∀ y ∈ next x, ac_ y) (hl : ∀ x ∈ l0, ac_ x) {x : Int} (h : Reach next l0 x) : ac_ x := by
 induction h with
 | base h => exact hl _ h
 | step _ h ih => exact hd _ ih _ h
def symbols : List Int := (List.range 20).map fun (x : Nat) => (x : Int)
theorem cd_ (x : Int) : x ∈ symbols ↔ ac_ x := by
 unfold symbols ac_
 rw [List.mem_map]
 constructor
 ·rintro ⟨n, hn, rfl⟩
  rw [List.mem_range] at hn
  omega
 rintro ⟨h0, h1⟩
 exact ⟨x.toNat, by rw [List.mem_range]; omega, by omega⟩
theorem symbols_sorted : symbols.Pairwise (· < ·) := by decide
theorem symbols_nodup : symbols.Nodup := by decide
open Classical in
noncomputable def ce_ (next : Int → List Int) (l0 : List Int) : List Int := symbols.filter fun y => decide (Reach next l0 y)
theorem bm_ {next : Int → List Int} {l0 : List Int} (hd : ∀ x, ac_ x → ∀ y ∈ next x, ac_ y) (hl : ∀ x ∈ l0, ac_ x) (y : Int) : y ∈ ce_ next l0 ↔ Reach next l0 y := by
 unfold ce_
 rw [List.mem_filter, cd_]
 simp only [decide_eq_true_eq]
 exact ⟨fun h => h.2, fun h => ⟨h.sym hd hl, h⟩⟩
theorem cg_ {l : List Int} (hn : l.Nodup) (hs : ∀ x ∈ l, ac_ x) : l.length ≤ 20 := by
 have hp : l.Perm (symbols.filter fun x => decide (x ∈ l)) := (List.perm_ext_iff_of_nodup hn (symbols_nodup.filter _)).2 fun x => by
  rw [List.mem_filter, cd_]
  simp only [decide_eq_true_eq]
  exact ⟨fun h => ⟨hs x h, h⟩, fun h => h.2⟩
 rw [hp.length_eq]
 exact List.length_filter_le _ symbols
theorem ln_ (next : Int → List Int) (B : Nat) (hB : B ≤ 1000000) (hlen : ∀ x, ac_ x → (next x).length ≤ B) (hd : ∀ x, ac_ x → ∀ y ∈ next x, ac_ y) (l0 : List Int) (hl : ∀ x ∈ l0, ac_ x) :
  ∀ (M : Nat) (m : List (Int × Int)) (q : List Int) (V : Nat), (∀ x ∈ q, Reach next l0 x) → (∀ x ∈ m.map (·.1), Reach next l0 x) → (m.map (·.1)).Nodup →
   (∀ x, 0 ≤ (mget m x).getD 0 ∧ (mget m x).getD 0 ≤ V) → (∀ x ∈ m.map (·.1), 1 ≤ (mget m x).getD 0) → (∀ x ∈ m.map (·.1), ∀ y ∈ next x, y ∈ q ∨ y ∈ m.map (·.1)) → (∀ x ∈ l0, x ∈ q ∨ x ∈ m.map (·.1)) →
   q.length + B * (20 - m.length) ≤ M → M + V ≤ 100000000 →
   ∃ k r, kg_ next k m q = some r ∧ (∀ y, y ∈ r.map (·.1) ↔ Reach next l0 y) ∧ (r.map (·.1)).Nodup := by
 intro M
 induction M with
 | zero =>
  intro m q V hq hm hn hv hp hc h0 hM hV
  have hqe : q = [] := List.length_eq_zero_iff.1 (by omega)
  subst hqe
  have hml : m.length ≤ 20 := by have := cg_ hn (fun x hx => (hm x hx).sym hd hl); simpa using this
  refine ⟨1, m, by simp only [kg_]; rw [if_pos (by omega)], fun y => ⟨hm y, fun h => ?_⟩, hn⟩
  induction h with
  | base h => exact (h0 _ h).elim (fun h => by cases h) id
  | step _ h ih => exact (hc _ ih _ h).elim (fun h => by cases h) id
 | succ M ihM =>
  intro m q V hq hm hn hv hp hc h0 hM hV
  have hml : m.length ≤ 20 := by have := cg_ hn (fun x hx => (hm x hx).sym hd hl); simpa using this
  cases q with
  | nil =>
   refine ⟨1, m, by simp only [kg_]; rw [if_pos (by omega)], fun y => ⟨hm y, fun h => ?_⟩, hn⟩
   induction h with
   | base h => exact (h0 _ h).elim (fun h => by cases h) id
   | step _ h ih => exact (hc _ ih _ h).elim (fun h => by cases h) id
  | cons x q =>
   have hrx := hq x List.mem_cons_self
   have hsx := hrx.sym hd hl
   have hlx := hlen x hsx
   have hvx := hv x
   have hguard : (x :: q).length ≤ 1000000000 ∧ (next x).length ≤ 1000000000 ∧ 0 ≤ (mget m x).getD 0 ∧ (mget m x).getD 0 ≤ 1000000000000 := ⟨by omega, by omega, hvx.1, by omega⟩
   have hv2 : ∀ y, 0 ≤ (mget (mput m x ((mget m x).getD 0 + 1)) y).getD 0 ∧ (mget (mput m x ((mget m x).getD 0 + 1)) y).getD 0 ≤ ((V + 1 : Nat) : Int) := by
    intro y
    by_cases e : y = x
    ·subst e
     rw [mb_]
     simp only [Option.getD_some]
     omega
    rw [wb_ _ _ _ e]
    have := hv y
    omega
   have hkeys := co_ x ((mget m x).getD 0 + 1) m
   have hp2 : ∀ y ∈ (mput m x ((mget m x).getD 0 + 1)).map (·.1), 1 ≤ (mget (mput m x ((mget m x).getD 0 + 1)) y).getD 0 := by
    intro y hy
    by_cases e : y = x
    ·subst e
     rw [mb_]
     simp only [Option.getD_some]
     omega
    rw [wb_ _ _ _ e]
    refine hp y ?_
    rw [hkeys] at hy
    split at hy
    ·exact hy
    exact (List.mem_append.1 hy).elim id (fun h => absurd (List.mem_singleton.1 h) e)
   by_cases h0v : (mget m x).getD 0 = 0
   ·have hxm : x ∉ m.map (·.1) := fun h => by have := hp x h; omega
    rw [if_neg hxm] at hkeys
    have hmlen : (mput m x ((mget m x).getD 0 + 1)).length = m.length + 1 := by
     have := congrArg List.length hkeys
     simpa using this
    have hn2 : ((mput m x ((mget m x).getD 0 + 1)).map (·.1)).Nodup := by
     rw [hkeys, List.nodup_append]
     refine ⟨hn, by simp, fun a ha b hb => ?_⟩
     rw [List.mem_singleton] at hb
     subst hb
     intro e
     subst e
     exact hxm ha
    have hm2 : ∀ y ∈ (mput m x ((mget m x).getD 0 + 1)).map (·.1), Reach next l0 y := by
     intro y hy
     rw [hkeys] at hy
     exact (List.mem_append.1 hy).elim (hm y) (fun h => by rw [List.mem_singleton.1 h]; exact hrx)
    have hml2 : m.length + 1 ≤ 20 := by
     have := cg_ hn2 (fun x hx => (hm2 x hx).sym hd hl)
     rw [List.length_map, hmlen] at this
     exact this
    obtain ⟨k, r, hk, hr⟩ := ihM (mput m x ((mget m x).getD 0 + 1)) (q ++ next x) (V + 1)
     (fun y hy => (List.mem_append.1 hy).elim (fun h => hq y (List.mem_cons_of_mem _ h)) (fun h => .step hrx h)) hm2 hn2 hv2 hp2
     (fun z hz y hy => by
      rw [hkeys] at hz ⊢
      rcases List.mem_append.1 hz with h | h
      ·rcases hc z h y hy with h | h
       ·rcases List.mem_cons.1 h with h | h
        ·subst h; exact .inr (by simp)
        exact .inl (List.mem_append_left _ h)
       exact .inr (List.mem_append_left _ h)
      rw [List.mem_singleton.1 h] at hy
      exact .inl (List.mem_append_right _ hy))
     (fun z hz => by
      rw [hkeys]
      rcases h0 z hz with h | h
      ·rcases List.mem_cons.1 h with h | h
       ·subst h; exact .inr (by simp)
       exact .inl (List.mem_append_left _ h)
      exact .inr (List.mem_append_left _ h))
     (by
      rw [hmlen, List.length_append]
      have e1 : 20 - m.length = (20 - (m.length + 1)) + 1 := by omega
      rw [e1, Nat.mul_add, Nat.mul_one, List.length_cons] at hM
      omega) (by omega)
    exact ⟨k + 1, r, by simp only [kg_]; rw [if_pos hguard, if_pos h0v]; exact hk, hr⟩
   have hxm : x ∈ m.map (·.1) := by
    rw [← pk_]
    cases h : mget m x with
    | none => rw [h] at h0v; simp at h0v
    | some v => rfl
   rw [if_pos hxm] at hkeys
   have hmlen : (mput m x ((mget m x).getD 0 + 1)).length = m.length := by
    have := congrArg List.length hkeys
    simpa using this
   obtain ⟨k, r, hk, hr⟩ := ihM (mput m x ((mget m x).getD 0 + 1)) q (V + 1) (fun y hy => hq y (List.mem_cons_of_mem _ hy)) (by rw [hkeys]; exact hm) (by rw [hkeys]; exact hn) hv2 hp2
    (fun z hz y hy => by
     rw [hkeys] at hz ⊢
     rcases hc z hz y hy with h | h
     ·rcases List.mem_cons.1 h with h | h
      ·subst h; exact .inr hxm
      exact .inl h
     exact .inr h)
    (fun z hz => by
     rw [hkeys]
     rcases h0 z hz with h | h
     ·rcases List.mem_cons.1 h with h | h
      ·subst h; exact .inr hxm
      exact .inl h
     exact .inr h)
    (by rw [hmlen]; rw [List.length_cons] at hM; omega) (by omega)
   exact ⟨k + 1, r, by simp only [kg_]; rw [if_pos hguard, if_neg h0v]; exact hk, hr⟩
theorem ct_ (next : Int → List Int) (hlen : ∀ x, ac_ x → (next x).length ≤ 1000000) (hd : ∀ x, ac_ x → ∀ y ∈ next x, ac_ y) (l0 : List Int) (hl : ∀ x ∈ l0, ac_ x) (hl0 : l0.length ≤ 1000000) :
  ∃ k r, kg_ next k [] l0 = some r ∧ zc_ (r.map (·.1)) = ce_ next l0 := by
 obtain ⟨k, r, hk, hm, hn⟩ := ln_ next 1000000 (Nat.le_refl _) hlen hd l0 hl (l0.length + 1000000 * 20) [] l0 0 (fun x hx => .base hx) (by simp) (by simp) (fun x => by simp [mget]) (by simp) (by simp) (fun x hx => .inl hx) (by simp) (by omega)
 refine ⟨k, r, hk, ?_⟩
 have hp : (r.map (·.1)).Perm (ce_ next l0) := (List.perm_ext_iff_of_nodup hn (symbols_nodup.filter _)).2 fun y => (hm y).trans (bm_ hd hl y).symm
 have h2 : zc_ (ce_ next l0) = ce_ next l0 := by
  unfold zc_
  refine List.mergeSort_of_pairwise ?_
  refine (symbols_sorted.filter _).imp ?_
  intro a b h
  simp [leI]
  omega
 rw [← h2]
 exact mergeSort_of_perm_i hp
theorem jm_ (fv : Value) (A0 : Option Addr) (c0 : Nat) (l0 : List S48) (p : S48 → Bool) (w : World) (hr0 : Kd.C k48 w A0 l0.length l0) (hc0 : l0.length ≤ c0)
  (hf : qe_ Tryz.prog w (ut_ k48) fv p) :
  Calls Tryz.prog 72 #[.slice A0 l0.length c0, fv] w fun e w' => e = .returned (.int .i64 (ji_ p l0)) ∧ Below w.heap.size w w' := by
 obtain ⟨g, pre, lb, rfl, eg, hq⟩ := hf
 have hl : l0.length ≤ 9223372036854775807 := hr0.2.1
 have HR := Aside0.mk hr0
 clear hr0
 have HQ := Aside0.mk hq
 clear hq
 go_enter Tryz.func72, Tryz.ntmps72
 go_wp2
 go_loopg [8] l0.length (fun gg s8 wr => ∃ kk : Nat, kk ≤ l0.length ∧ l0.length - kk ≤ gg ∧ s8 = .int .i64 kk ∧ Aside0 (Below w.heap.size w wr) ∧ Aside0 (∀ j, j < kk → ∀ h : j < l0.length, p l0[j] = false))
 case atStart => exact ⟨0, Nat.zero_le _, by omega, rfl, ⟨Below.refl _ w⟩, ⟨fun j hj => absurd hj (Nat.not_lt_zero _)⟩⟩
 obtain ⟨kk, hkk, hg, rfl, BW, A⟩ := hrel
 by_cases hlt : kk < l0.length
 ·have hltz : (kk : Int) < (l0.length : Int) := by omega
  obtain ⟨ad, A1, c1, A3, c3, hA, h0, h1, h2, h3, h4, l1, g1, l3, g3⟩ := pf_ (Kd.C_below HR.out BW.out) kk (by omega) hltz
  have hcall := HQ.out wr (sb_ l0 kk) _ BW.out ⟨_, rfl, k48_mk wr (sb_ l0 kk) l1 g1 l3 g3⟩
  have hx : sb_ l0 kk = l0[kk] := by simp [sb_, List.getD_eq_getElem?_getD, List.getElem?_eq_getElem hlt]
  have HX := Aside0.mk hx
  generalize sb_ l0 kk = y at *
  rw [Int.toNat_natCast] at h0 h1 h2 h3 h4
  subst hA
  clear hx l1 g1 l3 g3
  cases hp : p y with
  | true =>
   rw [hp] at hcall
   go_wp2_with fail
   refine hcall.mono ?_
   rintro e w' ⟨rfl, hb'⟩
   go_wp2
   go_ret
   refine ⟨?_, of_ BW.out BW.out.size hb'⟩
   rw [eo_ hlt A.out (by rw [← HX.out]; exact hp)]
   rfl
  | false =>
   rw [hp] at hcall
   go_wp2_with fail
   refine hcall.mono ?_
   rintro e w' ⟨rfl, hb'⟩
   go_wp2
   go_roundg (l0.length - (kk + 1))
   case measure => omega
   case rel =>
    refine ⟨kk + 1, by omega, by omega, by go_num, ⟨of_ BW.out BW.out.size hb'⟩, ⟨fun j hj hlt => ?_⟩⟩
    by_cases e : j = kk
    ·subst e
     rw [← HX.out]; exact hp
    exact A.out j (by omega) hlt
 have hltz : ¬ (kk : Int) < (l0.length : Int) := by omega
 have : kk = l0.length := by omega
 subst this
 go_wp2
 go_ret
 refine ⟨?_, BW.out⟩
 rw [km_ A.out]
 rfl
theorem mj_ (fv : Value) (A0 : Option Addr) (c0 : Nat) (l0 : List S48) (p : S48 → Bool) (w : World) (hr0 : Kd.C k48 w A0 l0.length l0) (hc0 : l0.length ≤ c0)
  (hf : qe_ Tryz.prog w (ut_ k48) fv p) :
  Calls Tryz.prog 44 #[.slice A0 l0.length c0, fv] w fun e w' => e = .returned (.bool (l0.any p)) ∧ Below w.heap.size w w' := by
 have hc := jm_ fv A0 c0 l0 p w hr0 hc0 hf
 rw [← jr_]
 clear hr0 hf
 generalize ji_ p l0 = q at hc
 go_enter Tryz.func44, Tryz.ntmps44
 go_wp2_with fail
 refine hc.mono ?_
 rintro e w' ⟨rfl, hb'⟩
 go_wp2
 go_ret
 exact ⟨rfl, hb'⟩
noncomputable def cmp_isNaN_int.f (a0 : Int) : Option (Bool) := some (a0 != a0)
set_option maxHeartbeats 8000000 in
set_option maxRecDepth 100000 in
theorem cmp_isNaN_int.calls (a0 : Int) (r : Bool) (w : World) (h : cmp_isNaN_int.f a0 = some r) :
  Calls Tryz.prog 91 #[.int .i64 a0] w fun e w' => e = .returned (.bool r) ∧ Drawn0 w w' := by
 have H : (some (a0 != a0)) = some r := h
 clear h
 obtain rfl := Option.some.inj H
 go_enter Tryz.func91, Tryz.ntmps91
 go_wp2
 go_ret
 exact ⟨by first | rfl | (simp; done) | (simp [*]; done), by repeat (first | exact Drawn0.refl _ | apply Drawn0.step)⟩
noncomputable def cmp_Compare_int.f (a0 : Int) (a1 : Int) : Option (Int) := (cmp_isNaN_int.f a0).bind fun t101 => ((cmp_isNaN_int.f a1).bind fun t102 => (if t101 = true then (if t102 = true then (some 0) else (some (-1))) else (if t102 = true then (some 1) else (if a0 < a1 then (some (-1)) else (if a0 > a1 then (some 1) else (some 0))))))
set_option maxHeartbeats 8000000 in
set_option maxRecDepth 100000 in
theorem cmp_Compare_int.calls (a0 : Int) (a1 : Int) (r : Int) (w : World) (h : cmp_Compare_int.f a0 a1 = some r) :
  Calls Tryz.prog 70 #[.int .i64 a0, .int .i64 a1] w fun e w' => e = .returned (.int .i64 r) ∧ Drawn0 w w' := by
 have H : ((cmp_isNaN_int.f a0).bind fun t101 => ((cmp_isNaN_int.f a1).bind fun t102 => (if t101 = true then (if t102 = true then (some 0) else (some (-1))) else (if t102 = true then (some 1) else (if a0 < a1 then (some (-1)) else (if a0 > a1 then (some 1) else (some 0))))))) = some r := h
 clear h
 replace H := Option.bind_eq_some_iff.mp H
 obtain ⟨t101, A30, H⟩ := H
 replace H : ((cmp_isNaN_int.f a1).bind fun t102 => (if t101 = true then (if t102 = true then (some 0) else (some (-1))) else (if t102 = true then (some 1) else (if a0 < a1 then (some (-1)) else (if a0 > a1 then (some 1) else (some 0)))))) = some r := H
 have A3 := Aside0.mk A30
 clear A30
 replace H := Option.bind_eq_some_iff.mp H
 obtain ⟨t102, A40, H⟩ := H
 replace H : (if t101 = true then (if t102 = true then (some 0) else (some (-1))) else (if t102 = true then (some 1) else (if a0 < a1 then (some (-1)) else (if a0 > a1 then (some 1) else (some 0))))) = some r := H
 have A4 := Aside0.mk A40
 clear A40
 by_cases c5 : t101 = true
 ·subst c5
  have H1 : (if t102 = true then (some 0) else (some (-1))) = some r := by rw [if_pos rfl] at H; exact H
  clear H
  have H := H1
  clear H1
  by_cases c6 : t102 = true
  ·subst c6
   have H1 : (some 0) = some r := by rw [if_pos rfl] at H; exact H
   clear H
   have H := H1
   clear H1
   obtain rfl := Option.some.inj H
   go_enter Tryz.func70, Tryz.ntmps70
   go_wp2_with (first | ((with_reducible refine pa_ (f := 91) rfl ?_); refine rb_ (some 8) rfl rfl Tryz.func91 (by kernel_rfl) rfl #[.int .i64 a0] rfl (by (try simp only [List.map_toArray, List.map_cons, List.map_nil]); first | done | rfl | (simp only [List.length_drop, List.length_take]; rfl)) ?_; (with_reducible refine (cmp_isNaN_int.calls a0 true _ A3.out).mono ?_); rintro e w' ⟨rfl, ⟨nd, rfl⟩⟩; refine ⟨_, rfl, ?_⟩) | ((with_reducible refine pa_ (f := 91) rfl ?_); refine rb_ (some 10) rfl rfl Tryz.func91 (by kernel_rfl) rfl #[.int .i64 a1] rfl (by (try simp only [List.map_toArray, List.map_cons, List.map_nil]); first | done | rfl | (simp only [List.length_drop, List.length_take]; rfl)) ?_; (with_reducible refine (cmp_isNaN_int.calls a1 true _ A4.out).mono ?_); rintro e w' ⟨rfl, ⟨nd, rfl⟩⟩; refine ⟨_, rfl, ?_⟩))
   go_ret
   exact ⟨by first | rfl | (simp; done) | (simp [*]; done), by repeat (first | exact Drawn0.refl _ | apply Drawn0.step)⟩
  replace c6 := Bool.eq_false_iff.mpr c6
  subst c6
  have H1 : (some (-1)) = some r := by rw [if_neg (show ¬ (false = true) by decide)] at H; exact H
  clear H
  have H := H1
  clear H1
  obtain rfl := Option.some.inj H
  go_enter Tryz.func70, Tryz.ntmps70
  go_wp2_with (first | ((with_reducible refine pa_ (f := 91) rfl ?_); refine rb_ (some 8) rfl rfl Tryz.func91 (by kernel_rfl) rfl #[.int .i64 a0] rfl (by (try simp only [List.map_toArray, List.map_cons, List.map_nil]); first | done | rfl | (simp only [List.length_drop, List.length_take]; rfl)) ?_; (with_reducible refine (cmp_isNaN_int.calls a0 true _ A3.out).mono ?_); rintro e w' ⟨rfl, ⟨nd, rfl⟩⟩; refine ⟨_, rfl, ?_⟩) | ((with_reducible refine pa_ (f := 91) rfl ?_); refine rb_ (some 10) rfl rfl Tryz.func91 (by kernel_rfl) rfl #[.int .i64 a1] rfl (by (try simp only [List.map_toArray, List.map_cons, List.map_nil]); first | done | rfl | (simp only [List.length_drop, List.length_take]; rfl)) ?_; (with_reducible refine (cmp_isNaN_int.calls a1 false _ A4.out).mono ?_); rintro e w' ⟨rfl, ⟨nd, rfl⟩⟩; refine ⟨_, rfl, ?_⟩))
  go_ret
  exact ⟨by first | rfl | (simp; done) | (simp [*]; done), by repeat (first | exact Drawn0.refl _ | apply Drawn0.step)⟩
 replace c5 := Bool.eq_false_iff.mpr c5
 subst c5
 have H1 : (if t102 = true then (some 1) else (if a0 < a1 then (some (-1)) else (if a0 > a1 then (some 1) else (some 0)))) = some r := by rw [if_neg (show ¬ (false = true) by decide)] at H; exact H
 clear H
 have H := H1
 clear H1
 by_cases c7 : t102 = true
 ·subst c7
  have H1 : (some 1) = some r := by rw [if_pos rfl] at H; exact H
  clear H
  have H := H1
  clear H1
  obtain rfl := Option.some.inj H
  go_enter Tryz.func70, Tryz.ntmps70
  go_wp2_with (first | ((with_reducible refine pa_ (f := 91) rfl ?_); refine rb_ (some 8) rfl rfl Tryz.func91 (by kernel_rfl) rfl #[.int .i64 a0] rfl (by (try simp only [List.map_toArray, List.map_cons, List.map_nil]); first | done | rfl | (simp only [List.length_drop, List.length_take]; rfl)) ?_; (with_reducible refine (cmp_isNaN_int.calls a0 false _ A3.out).mono ?_); rintro e w' ⟨rfl, ⟨nd, rfl⟩⟩; refine ⟨_, rfl, ?_⟩) | ((with_reducible refine pa_ (f := 91) rfl ?_); refine rb_ (some 10) rfl rfl Tryz.func91 (by kernel_rfl) rfl #[.int .i64 a1] rfl (by (try simp only [List.map_toArray, List.map_cons, List.map_nil]); first | done | rfl | (simp only [List.length_drop, List.length_take]; rfl)) ?_; (with_reducible refine (cmp_isNaN_int.calls a1 true _ A4.out).mono ?_); rintro e w' ⟨rfl, ⟨nd, rfl⟩⟩; refine ⟨_, rfl, ?_⟩))
  go_ret
  exact ⟨by first | rfl | (simp; done) | (simp [*]; done), by repeat (first | exact Drawn0.refl _ | apply Drawn0.step)⟩
 replace c7 := Bool.eq_false_iff.mpr c7
 subst c7
 have H1 : (if a0 < a1 then (some (-1)) else (if a0 > a1 then (some 1) else (some 0))) = some r := by rw [if_neg (show ¬ (false = true) by decide)] at H; exact H
 clear H
 have H := H1
 clear H1
 by_cases c8 : a0 < a1
 ·rw [if_pos c8] at H
  have c8b0 : decide (a0 < a1) = true := decide_eq_true c8
  clear c8
  obtain rfl := Option.some.inj H
  go_enter Tryz.func70, Tryz.ntmps70
  go_wp2_with (first | ((with_reducible refine pa_ (f := 91) rfl ?_); refine rb_ (some 8) rfl rfl Tryz.func91 (by kernel_rfl) rfl #[.int .i64 a0] rfl (by (try simp only [List.map_toArray, List.map_cons, List.map_nil]); first | done | rfl | (simp only [List.length_drop, List.length_take]; rfl)) ?_; (with_reducible refine (cmp_isNaN_int.calls a0 false _ A3.out).mono ?_); rintro e w' ⟨rfl, ⟨nd, rfl⟩⟩; refine ⟨_, rfl, ?_⟩) | ((with_reducible refine pa_ (f := 91) rfl ?_); refine rb_ (some 10) rfl rfl Tryz.func91 (by kernel_rfl) rfl #[.int .i64 a1] rfl (by (try simp only [List.map_toArray, List.map_cons, List.map_nil]); first | done | rfl | (simp only [List.length_drop, List.length_take]; rfl)) ?_; (with_reducible refine (cmp_isNaN_int.calls a1 false _ A4.out).mono ?_); rintro e w' ⟨rfl, ⟨nd, rfl⟩⟩; refine ⟨_, rfl, ?_⟩))
  go_ret
  exact ⟨by first | rfl | (simp; done) | (simp [*]; done), by repeat (first | exact Drawn0.refl _ | apply Drawn0.step)⟩
 rw [if_neg c8] at H
 have c8b0 : decide (a0 < a1) = false := decide_eq_false c8
 clear c8
 by_cases c9 : a0 > a1
 ·rw [if_pos c9] at H
  have c9b0 : decide (a1 < a0) = true := decide_eq_true c9
  clear c9
  obtain rfl := Option.some.inj H
  go_enter Tryz.func70, Tryz.ntmps70
  go_wp2_with (first | ((with_reducible refine pa_ (f := 91) rfl ?_); refine rb_ (some 8) rfl rfl Tryz.func91 (by kernel_rfl) rfl #[.int .i64 a0] rfl (by (try simp only [List.map_toArray, List.map_cons, List.map_nil]); first | done | rfl | (simp only [List.length_drop, List.length_take]; rfl)) ?_; (with_reducible refine (cmp_isNaN_int.calls a0 false _ A3.out).mono ?_); rintro e w' ⟨rfl, ⟨nd, rfl⟩⟩; refine ⟨_, rfl, ?_⟩) | ((with_reducible refine pa_ (f := 91) rfl ?_); refine rb_ (some 10) rfl rfl Tryz.func91 (by kernel_rfl) rfl #[.int .i64 a1] rfl (by (try simp only [List.map_toArray, List.map_cons, List.map_nil]); first | done | rfl | (simp only [List.length_drop, List.length_take]; rfl)) ?_; (with_reducible refine (cmp_isNaN_int.calls a1 false _ A4.out).mono ?_); rintro e w' ⟨rfl, ⟨nd, rfl⟩⟩; refine ⟨_, rfl, ?_⟩))
  go_ret
  exact ⟨by first | rfl | (simp; done) | (simp [*]; done), by repeat (first | exact Drawn0.refl _ | apply Drawn0.step)⟩
 rw [if_neg c9] at H
 have c9b0 : decide (a1 < a0) = false := decide_eq_false c9
 clear c9
 obtain rfl := Option.some.inj H
 go_enter Tryz.func70, Tryz.ntmps70
 go_wp2_with (first | ((with_reducible refine pa_ (f := 91) rfl ?_); refine rb_ (some 8) rfl rfl Tryz.func91 (by kernel_rfl) rfl #[.int .i64 a0] rfl (by (try simp only [List.map_toArray, List.map_cons, List.map_nil]); first | done | rfl | (simp only [List.length_drop, List.length_take]; rfl)) ?_; (with_reducible refine (cmp_isNaN_int.calls a0 false _ A3.out).mono ?_); rintro e w' ⟨rfl, ⟨nd, rfl⟩⟩; refine ⟨_, rfl, ?_⟩) | ((with_reducible refine pa_ (f := 91) rfl ?_); refine rb_ (some 10) rfl rfl Tryz.func91 (by kernel_rfl) rfl #[.int .i64 a1] rfl (by (try simp only [List.map_toArray, List.map_cons, List.map_nil]); first | done | rfl | (simp only [List.length_drop, List.length_take]; rfl)) ?_; (with_reducible refine (cmp_isNaN_int.calls a1 false _ A4.out).mono ?_); rintro e w' ⟨rfl, ⟨nd, rfl⟩⟩; refine ⟨_, rfl, ?_⟩))
 go_ret
 exact ⟨by first | rfl | (simp; done) | (simp [*]; done), by repeat (first | exact Drawn0.refl _ | apply Drawn0.step)⟩
noncomputable def slices_Compare_int_int.l0 : Nat → List Int → List Int → List Int → Int → Int → Option (Int)
 | 0, _, _, _, _, _ => none
 | k + 1, x0, x1, x9, x10, x11 => if x11 < x10 then (if 0 ≤ x11 then (if x11 < (x9.length : Int) then (if x11 ≥ (x1.length : Int) then (some 1) else (if x11 < (x1.length : Int) then ((cmp_Compare_int.f (rd x9 x11) (rd x1 x11)).bind fun t105 => (if t105 = 0 then (slices_Compare_int_int.l0 k x0 x1 x9 x10 (wrap64 (x11 + 1))) else (some t105))) else (none))) else (none)) else (none)) else (if (x0.length : Int) < (x1.length : Int) then (some (-1)) else (some 0))
noncomputable def slices_Compare_int_int.f (k : Nat) (l0 : List Int) (l1 : List Int) : Option (Int) := slices_Compare_int_int.l0 k l0 l1 l0 (l0.length : Int) 0
set_option maxHeartbeats 8000000 in
set_option maxRecDepth 100000 in
theorem slices_Compare_int_int.calls (k : Nat) (A0 : Option Addr) (c0 : Nat) (l0 : List Int) (A1 : Option Addr) (c1 : Nat) (l1 : List Int) (r : Int) (w : World) (hr0 : Kd.C (Kd.int .i64) w A0 l0.length l0) (hc0 : l0.length ≤ c0) (hr1 : Kd.C (Kd.int .i64) w A1 l1.length l1) (hc1 : l1.length ≤ c1) (h : slices_Compare_int_int.f k l0 l1 = some r) :
  Calls Tryz.prog 37 #[.slice A0 l0.length c0, .slice A1 l1.length c1] w fun e w' => e = .returned (.int .i64 r) ∧ Drawn0 w w' := by
 have HR0 := Aside0.mk hr0
 have HC0 := Aside0.mk hc0
 clear hr0 hc0
 have HR1 := Aside0.mk hr1
 have HC1 := Aside0.mk hc1
 clear hr1 hc1
 have H : (slices_Compare_int_int.l0 k l0 l1 l0 (l0.length : Int) 0) = some r := h
 clear h
 have H' := Aside0.mk H
 clear H
 go_enter Tryz.func37, Tryz.ntmps37
 go_wp2
 go_loopg [11] k (fun kq v11 w' => ∃ (x11_1 : Int), v11 = .int .i64 x11_1 ∧ Aside0 (slices_Compare_int_int.l0 kq l0 l1 l0 (l0.length : Int) x11_1 = some r) ∧ Aside0 (kq ≤ k) ∧ Drawn0 w w')
 case atStart => exact ⟨(0), (by first | rfl | (simp; done) | (simp [*]; done)), H', ⟨Nat.le_refl _⟩, by repeat (first | exact Drawn0.refl _ | apply Drawn0.step)⟩
 clear H'
 try clear c1
 try clear p2
 obtain ⟨x11_1, rfl, HA, HK1, ⟨m1, rfl⟩⟩ := hrel
 cases gk with
 | zero => exact absurd HA.out (by simp [slices_Compare_int_int.l0])
 | succ k1 =>
  have H := HA.out
  clear HA
  simp only [slices_Compare_int_int.l0] at H
  by_cases c3 : x11_1 < (l0.length : Int)
  ·rw [if_pos c3] at H
   have c3b0 : decide (x11_1 < (l0.length : Int)) = true := decide_eq_true c3
   clear c3
   by_cases c4 : 0 ≤ x11_1
   ·rw [if_pos c4] at H
    have c4b0 : decide (0 ≤ x11_1) = true := decide_eq_true c4
    clear c4
    by_cases c5 : x11_1 < (l0.length : Int)
    ·rw [if_pos c5] at H
     have c5b0 : decide (x11_1 < (l0.length : Int)) = true := decide_eq_true c5
     clear c5
     by_cases c6 : x11_1 ≥ (l1.length : Int)
     ·rw [if_pos c6] at H
      have c6b0 : decide ((l1.length : Int) ≤ x11_1) = true := decide_eq_true c6
      clear c6
      obtain rfl := Option.some.inj H
      have p103 : 0 ≤ (x11_1 : Int) := of_decide_eq_true (by first | (with_reducible assumption) | assumption)
      have q103 : x11_1 < (l0.length : Int) := of_decide_eq_true (by first | (with_reducible assumption) | assumption)
      obtain ⟨ad103, e103, hx103_0⟩ := Kd.at_int HR0.out x11_1 p103 q103
      cases e103
      replace p103 := eq_true p103
      replace q103 := eq_true q103
      go_wp2
      go_ret
      exact ⟨by first | rfl | (simp; done) | (simp [*]; done), by repeat (first | exact Drawn0.refl _ | apply Drawn0.step)⟩
     rw [if_neg c6] at H
     have c6b0 : decide ((l1.length : Int) ≤ x11_1) = false := decide_eq_false c6
     clear c6
     by_cases c7 : x11_1 < (l1.length : Int)
     ·rw [if_pos c7] at H
      have c7b0 : decide (x11_1 < (l1.length : Int)) = true := decide_eq_true c7
      clear c7
      replace H := Option.bind_eq_some_iff.mp H
      obtain ⟨t105, A80, H⟩ := H
      replace H : (if t105 = 0 then (slices_Compare_int_int.l0 k1 l0 l1 l0 (l0.length : Int) (wrap64 (x11_1 + 1))) else (some t105)) = some r := H
      have A8 := Aside0.mk A80
      clear A80
      by_cases c9 : t105 = 0
      ·rw [if_pos c9] at H
       have c9b0 : (t105 == 0) = true := beq_iff_eq.mpr c9
       have c9b1 : (t105 != 0) = false := bne_eq_false_iff_eq.mpr c9
       clear c9
       have H' := Aside0.mk H
       clear H
       have p103 : 0 ≤ (x11_1 : Int) := of_decide_eq_true (by first | (with_reducible assumption) | assumption)
       have q103 : x11_1 < (l0.length : Int) := of_decide_eq_true (by first | (with_reducible assumption) | assumption)
       obtain ⟨ad103, e103, hx103_0⟩ := Kd.at_int HR0.out x11_1 p103 q103
       cases e103
       replace p103 := eq_true p103
       replace q103 := eq_true q103
       have p104 : 0 ≤ (x11_1 : Int) := of_decide_eq_true (by first | (with_reducible assumption) | assumption)
       have q104 : x11_1 < (l1.length : Int) := of_decide_eq_true (by first | (with_reducible assumption) | assumption)
       obtain ⟨ad104, e104, hx104_0⟩ := Kd.at_int HR1.out x11_1 p104 q104
       cases e104
       replace p104 := eq_true p104
       replace q104 := eq_true q104
       go_wp2_with (first | ((with_reducible refine pa_ (f := 70) rfl ?_); refine rb_ (some 26) rfl rfl Tryz.func70 (by kernel_rfl) rfl #[.int .i64 (rd l0 x11_1), .int .i64 (rd l1 x11_1)] rfl (by (try simp only [List.map_toArray, List.map_cons, List.map_nil]); first | done | rfl | (simp only [List.length_drop, List.length_take]; rfl)) ?_; (with_reducible refine (cmp_Compare_int.calls (rd l0 x11_1) (rd l1 x11_1) t105 _ A8.out).mono ?_); rintro e w' ⟨rfl, ⟨nd, rfl⟩⟩; refine ⟨_, rfl, ?_⟩))
       go_roundg k1
       case measure => have := HK1.out; omega
       case rel => exact ⟨(wrap64 (x11_1 + 1)), (by first | rfl | (simp; done) | (simp [*]; done)), H', ⟨by have := HK1.out; omega⟩, by repeat (first | exact Drawn0.refl _ | apply Drawn0.step)⟩
      rw [if_neg c9] at H
      have c9b0 : (t105 == 0) = false := beq_eq_false_iff_ne.mpr c9
      have c9b1 : (t105 != 0) = true := bne_iff_ne.mpr c9
      obtain rfl := Option.some.inj H
      have p103 : 0 ≤ (x11_1 : Int) := of_decide_eq_true (by first | (with_reducible assumption) | assumption)
      have q103 : x11_1 < (l0.length : Int) := of_decide_eq_true (by first | (with_reducible assumption) | assumption)
      obtain ⟨ad103, e103, hx103_0⟩ := Kd.at_int HR0.out x11_1 p103 q103
      cases e103
      replace p103 := eq_true p103
      replace q103 := eq_true q103
      have p104 : 0 ≤ (x11_1 : Int) := of_decide_eq_true (by first | (with_reducible assumption) | assumption)
      have q104 : x11_1 < (l1.length : Int) := of_decide_eq_true (by first | (with_reducible assumption) | assumption)
      obtain ⟨ad104, e104, hx104_0⟩ := Kd.at_int HR1.out x11_1 p104 q104
      cases e104
      replace p104 := eq_true p104
      replace q104 := eq_true q104
      go_wp2_with (first | ((with_reducible refine pa_ (f := 70) rfl ?_); refine rb_ (some 26) rfl rfl Tryz.func70 (by kernel_rfl) rfl #[.int .i64 (rd l0 x11_1), .int .i64 (rd l1 x11_1)] rfl (by (try simp only [List.map_toArray, List.map_cons, List.map_nil]); first | done | rfl | (simp only [List.length_drop, List.length_take]; rfl)) ?_; (with_reducible refine (cmp_Compare_int.calls (rd l0 x11_1) (rd l1 x11_1) t105 _ A8.out).mono ?_); rintro e w' ⟨rfl, ⟨nd, rfl⟩⟩; refine ⟨_, rfl, ?_⟩))
      go_ret
      exact ⟨by first | rfl | (simp; done) | (simp [*]; done), by repeat (first | exact Drawn0.refl _ | apply Drawn0.step)⟩
     rw [if_neg c7] at H
     exact absurd H (by simp)
    rw [if_neg c5] at H
    exact absurd H (by simp)
   rw [if_neg c4] at H
   exact absurd H (by simp)
  rw [if_neg c3] at H
  have c3b0 : decide (x11_1 < (l0.length : Int)) = false := decide_eq_false c3
  clear c3
  by_cases c10 : (l0.length : Int) < (l1.length : Int)
  ·rw [if_pos c10] at H
   have c10b0 : decide ((l0.length : Int) < (l1.length : Int)) = true := decide_eq_true c10
   have c10b1 : decide (l0.length < l1.length) = true := decide_eq_true (Int.ofNat_lt.mp c10)
   clear c10
   obtain rfl := Option.some.inj H
   go_wp2
   go_ret
   exact ⟨by first | rfl | (simp; done) | (simp [*]; done), by repeat (first | exact Drawn0.refl _ | apply Drawn0.step)⟩
  rw [if_neg c10] at H
  have c10b0 : decide ((l0.length : Int) < (l1.length : Int)) = false := decide_eq_false c10
  have c10b1 : decide (l0.length < l1.length) = false := decide_eq_false (fun h => c10 (Int.ofNat_lt.mpr h))
  clear c10
  obtain rfl := Option.some.inj H
  go_wp2
  go_ret
  exact ⟨by first | rfl | (simp; done) | (simp [*]; done), by repeat (first | exact Drawn0.refl _ | apply Drawn0.step)⟩
noncomputable def slices_Index_int_int.l0 : Nat → List Int → Int → Int → Int → Option (Int)
 | 0, _, _, _, _ => none
 | k + 1, x0, x1, x7, x8 => if x8 < x7 then (if 0 ≤ x8 then (if x8 < (x0.length : Int) then (if x1 = (rd x0 x8) then (some x8) else (slices_Index_int_int.l0 k x0 x1 x7 (wrap64 (x8 + 1)))) else (none)) else (none)) else (some (-1))
noncomputable def slices_Index_int_int.f (k : Nat) (l0 : List Int) (a1 : Int) : Option (Int) := slices_Index_int_int.l0 k l0 a1 (l0.length : Int) 0
set_option maxHeartbeats 8000000 in
set_option maxRecDepth 100000 in
theorem slices_Index_int_int.calls (k : Nat) (A0 : Option Addr) (c0 : Nat) (l0 : List Int) (a1 : Int) (r : Int) (w : World) (hr0 : Kd.C (Kd.int .i64) w A0 l0.length l0) (hc0 : l0.length ≤ c0) (h : slices_Index_int_int.f k l0 a1 = some r) :
  Calls Tryz.prog 78 #[.slice A0 l0.length c0, .int .i64 a1] w fun e w' => e = .returned (.int .i64 r) ∧ Drawn0 w w' := by
 have HR0 := Aside0.mk hr0
 have HC0 := Aside0.mk hc0
 clear hr0 hc0
 have H : (slices_Index_int_int.l0 k l0 a1 (l0.length : Int) 0) = some r := h
 clear h
 have H' := Aside0.mk H
 clear H
 go_enter Tryz.func78, Tryz.ntmps78
 go_wp2
 go_loopg [8] k (fun kq v8 w' => ∃ (x8_1 : Int), v8 = .int .i64 x8_1 ∧ Aside0 (slices_Index_int_int.l0 kq l0 a1 (l0.length : Int) x8_1 = some r) ∧ Aside0 (kq ≤ k) ∧ Drawn0 w w')
 case atStart => exact ⟨(0), (by first | rfl | (simp; done) | (simp [*]; done)), H', ⟨Nat.le_refl _⟩, by repeat (first | exact Drawn0.refl _ | apply Drawn0.step)⟩
 clear H'
 try clear p2
 obtain ⟨x8_1, rfl, HA, HK1, ⟨m1, rfl⟩⟩ := hrel
 cases gk with
 | zero => exact absurd HA.out (by simp [slices_Index_int_int.l0])
 | succ k1 =>
  have H := HA.out
  clear HA
  simp only [slices_Index_int_int.l0] at H
  by_cases c3 : x8_1 < (l0.length : Int)
  ·rw [if_pos c3] at H
   have c3b0 : decide (x8_1 < (l0.length : Int)) = true := decide_eq_true c3
   clear c3
   by_cases c4 : 0 ≤ x8_1
   ·rw [if_pos c4] at H
    have c4b0 : decide (0 ≤ x8_1) = true := decide_eq_true c4
    clear c4
    by_cases c5 : x8_1 < (l0.length : Int)
    ·rw [if_pos c5] at H
     have c5b0 : decide (x8_1 < (l0.length : Int)) = true := decide_eq_true c5
     clear c5
     by_cases c6 : a1 = (rd l0 x8_1)
     ·rw [if_pos c6] at H
      have c6b0 : (a1 == (rd l0 x8_1)) = true := beq_iff_eq.mpr c6
      have c6b1 : (a1 != (rd l0 x8_1)) = false := bne_eq_false_iff_eq.mpr c6
      clear c6
      obtain rfl := Option.some.inj H
      have p115 : 0 ≤ (x8_1 : Int) := of_decide_eq_true (by first | (with_reducible assumption) | assumption)
      have q115 : x8_1 < (l0.length : Int) := of_decide_eq_true (by first | (with_reducible assumption) | assumption)
      obtain ⟨ad115, e115, hx115_0⟩ := Kd.at_int HR0.out x8_1 p115 q115
      cases e115
      replace p115 := eq_true p115
      replace q115 := eq_true q115
      go_wp2
      go_ret
      exact ⟨by first | rfl | (simp; done) | (simp [*]; done), by repeat (first | exact Drawn0.refl _ | apply Drawn0.step)⟩
     rw [if_neg c6] at H
     have c6b0 : (a1 == (rd l0 x8_1)) = false := beq_eq_false_iff_ne.mpr c6
     have c6b1 : (a1 != (rd l0 x8_1)) = true := bne_iff_ne.mpr c6
     have H' := Aside0.mk H
     clear H
     have p115 : 0 ≤ (x8_1 : Int) := of_decide_eq_true (by first | (with_reducible assumption) | assumption)
     have q115 : x8_1 < (l0.length : Int) := of_decide_eq_true (by first | (with_reducible assumption) | assumption)
     obtain ⟨ad115, e115, hx115_0⟩ := Kd.at_int HR0.out x8_1 p115 q115
     cases e115
     replace p115 := eq_true p115
     replace q115 := eq_true q115
     go_wp2
     go_roundg k1
     case measure => have := HK1.out; omega
     case rel => exact ⟨(wrap64 (x8_1 + 1)), (by first | rfl | (simp; done) | (simp [*]; done)), H', ⟨by have := HK1.out; omega⟩, by repeat (first | exact Drawn0.refl _ | apply Drawn0.step)⟩
    rw [if_neg c5] at H
    exact absurd H (by simp)
   rw [if_neg c4] at H
   exact absurd H (by simp)
  rw [if_neg c3] at H
  have c3b0 : decide (x8_1 < (l0.length : Int)) = false := decide_eq_false c3
  clear c3
  obtain rfl := Option.some.inj H
  go_wp2
  go_ret
  exact ⟨by first | rfl | (simp; done) | (simp [*]; done), by repeat (first | exact Drawn0.refl _ | apply Drawn0.step)⟩
noncomputable def slices_Contains_int_int.f (k : Nat) (l0 : List Int) (a1 : Int) : Option (Bool) := (slices_Index_int_int.f k l0 a1).bind fun t116 => (some (decide (t116 ≥ 0)))
set_option maxHeartbeats 8000000 in
set_option maxRecDepth 100000 in
theorem slices_Contains_int_int.calls (k : Nat) (A0 : Option Addr) (c0 : Nat) (l0 : List Int) (a1 : Int) (r : Bool) (w : World) (hr0 : Kd.C (Kd.int .i64) w A0 l0.length l0) (hc0 : l0.length ≤ c0) (h : slices_Contains_int_int.f k l0 a1 = some r) :
  Calls Tryz.prog 47 #[.slice A0 l0.length c0, .int .i64 a1] w fun e w' => e = .returned (.bool r) ∧ Drawn0 w w' := by
 have HR0 := Aside0.mk hr0
 have HC0 := Aside0.mk hc0
 clear hr0 hc0
 have H : ((slices_Index_int_int.f k l0 a1).bind fun t116 => (some (decide (t116 ≥ 0)))) = some r := h
 clear h
 replace H := Option.bind_eq_some_iff.mp H
 obtain ⟨t116, A30, H⟩ := H
 replace H : (some (decide (t116 ≥ 0))) = some r := H
 have A3 := Aside0.mk A30
 clear A30
 obtain rfl := Option.some.inj H
 go_enter Tryz.func47, Tryz.ntmps47
 go_wp2_with (first | ((with_reducible refine pa_ (f := 78) rfl ?_); refine rb_ (some 7) rfl rfl Tryz.func78 (by kernel_rfl) rfl #[.slice A0 l0.length c0, .int .i64 a1] rfl (by (try simp only [List.map_toArray, List.map_cons, List.map_nil]); first | done | rfl | (simp only [List.length_drop, List.length_take]; rfl)) ?_; (with_reducible refine (slices_Index_int_int.calls k _ _ l0 a1 t116 _ ?side1 ?side2 A3.out).mono ?_); (case side1 => repeat (first | exact HR0.out | (with_reducible refine Kd.C_alloc ?_ _) | (with_reducible refine Kd.C_drewN ?_ _) | (with_reducible refine Kd.C_drew ?_))); (case side2 => exact HC0.out); rintro e w' ⟨rfl, ⟨nd, rfl⟩⟩; refine ⟨_, rfl, ?_⟩))
 go_ret
 exact ⟨by first | rfl | (simp; done) | (simp [*]; done), by repeat (first | exact Drawn0.refl _ | apply Drawn0.step)⟩
theorem ke_ {n : Int} (h : -9223372036854775808 ≤ n ∧ n ≤ 9223372036854775807) : wrap64 n = n := by unfold wrap64; omega
theorem ys_ (l : List Int) (a : Int) (hl : l.length ≤ 9223372036854775807) : ∀ (n k : Nat) (x : Nat), x ≤ l.length → l.length - x = n → n < k → ∃ i : Int, slices_Index_int_int.l0 k l a (l.length : Int) x = some i ∧ (decide (i ≥ 0) = decide (a ∈ l.drop x)) := by
 intro n
 induction n with
 | zero =>
  intro k x hx hn hk
  obtain ⟨k, rfl⟩ : ∃ j, k = j + 1 := ⟨k - 1, by omega⟩
  have he : x = l.length := by omega
  subst he
  refine ⟨-1, ?_, by simp⟩
  simp only [slices_Index_int_int.l0]
  rw [if_neg (by omega)]
 | succ n ih =>
  intro k x hx hn hk
  obtain ⟨k, rfl⟩ : ∃ j, k = j + 1 := ⟨k - 1, by omega⟩
  have hlt : x < l.length := by omega
  simp only [slices_Index_int_int.l0]
  rw [if_pos (by omega), if_pos (by omega), if_pos (by omega), de_ l x hlt, List.drop_eq_getElem_cons hlt]
  by_cases he : a = l[x]
  ·rw [if_pos he]
   exact ⟨x, rfl, by rw [← he, decide_eq_true (Int.natCast_nonneg x : (x : Int) ≥ 0), decide_eq_true List.mem_cons_self]⟩
  rw [if_neg he, ke_ (by omega)]
  obtain ⟨i, h1, h2⟩ := ih k (x + 1) (by omega) (by omega) (by omega)
  refine ⟨i, h1, ?_⟩
  rw [h2]
  exact decide_eq_decide.2 ⟨fun h => List.mem_cons_of_mem _ h, fun h => (List.mem_cons.1 h).elim (fun h => absurd h he) id⟩
theorem dg_ (l : List Int) (a : Int) (k : Nat) (hl : l.length ≤ 9223372036854775807) (hk : l.length < k) : slices_Contains_int_int.f k l a = some (decide (a ∈ l)) := by
 obtain ⟨i, h1, h2⟩ := ys_ l a hl l.length k 0 (Nat.zero_le _) rfl hk
 unfold slices_Contains_int_int.f slices_Index_int_int.f
 rw [show ((0 : Nat) : Int) = 0 from rfl] at h1
 rw [h1]
 simp only [Option.bind_some, h2, List.drop_zero]
def tc_ (r : qa_) : Bool := af_ r.f0 r.f1 r.f2.f0 r.f2.f1 r.f3
theorem pp_ (w : World) : qe_ Tryz.prog w (ut_ k48) (.func (.func 45) #[] #[]) (fun r => !tc_ r) := by
 refine ⟨_, _, _, rfl, enters_of Tryz.func45 (by kernel_rfl) rfl, ?_⟩
 rintro W x v hb ⟨cs, rfl, hK⟩
 obtain ⟨A1, c1, A3, c3, rfl, l1, g1, l3, g3⟩ := ir_ hK
 clear hb hK
 have hcall := gram_Right.calls x.f0 A1 c1 x.f1 x.f2.f0 A3 c3 x.f2.f1 x.f3 (tc_ x) (W.alloc (.cells #[.int .i64 x.f0, .slice A1 x.f1.length c1, .int .i64 x.f2.f0, .slice A3 x.f2.f1.length c3, .int .i64 x.f3] 48)) (Kd.C_alloc g1 _) l1 (Kd.C_alloc g3 _) l3 rfl
 clear g1 g3
 cases hp : tc_ x with
 | true =>
  rw [hp] at hcall
  go_enter Tryz.func45, Tryz.ntmps45
  go_wp2_with fail
  refine hcall.mono ?_
  rintro e w' ⟨rfl, hb'⟩
  have HB := Aside0.mk (ma_ (ba_ (Below.refl _ W) _) hb')
  go_wp2
  go_ret
  exact ⟨qd_ (by rw [hp]; rfl), HB.out⟩
 | false =>
  rw [hp] at hcall
  go_enter Tryz.func45, Tryz.ntmps45
  go_wp2_with fail
  refine hcall.mono ?_
  rintro e w' ⟨rfl, hb'⟩
  have HB := Aside0.mk (ma_ (ba_ (Below.refl _ W) _) hb')
  go_wp2
  go_ret
  exact ⟨qd_ (by rw [hp]; rfl), HB.out⟩
theorem op_ (w : World) (g : Nat) (A : Option Addr) (c : Nat) (rows : List (List Int)) (hg : w.cell? ⟨g, 0, none⟩ = some (.slice A rows.length c)) (hlen : rows.length = 20) (hC : Kd.C (Kd.slice 3 (Kd.int .i64)) w A rows.length rows) :
  qj_ Tryz.prog w ac_ (.func (.func 49) #[] #[.pointer (some ⟨g, 0, none⟩)]) (fun y => eh_ rows y) := by
 refine ⟨_, _, _, rfl, enters_of Tryz.func49 (by kernel_rfl) rfl, ?_⟩
 rintro W x hb ⟨hx0, hx1⟩
 have hxl : x < (rows.length : Int) := by omega
 have hcell := fb_ hb hg
 obtain ⟨ad, A0, c0, rfl, h0, h1, h2⟩ := at_L1 (Kd.C_below hC hb) x hx0 hxl
 have hx0' : ¬ x < 0 := by omega
 clear hb hg hC
 have H2 := Aside0.mk h2
 clear h2
 go_enter Tryz.func49, Tryz.ntmps49
 go_wp2
 go_ret
 exact ⟨A0, c0, rfl, h1, H2.out, Below.refl _ _⟩
def sa_ (l0 : List qa_) : Int → List Int := fun y => eh_ (dc_ l0) y
theorem hb_ (l0 : List qa_) : (dc_ l0).length = 20 := by simp [dc_]
theorem ch_ (l0 : List qa_) (x : Nat) (h : x < 20) : sa_ l0 x = ic_ (vc_ l0) x 20 := by
 unfold sa_ eh_ dc_
 rw [Int.toNat_natCast, List.getD_eq_getElem?_getD, List.getElem?_map, List.getElem?_range h]
 rfl
theorem bj_ (l0 : List qa_) (x : Int) (h : ac_ x) : (sa_ l0 x).length ≤ 20 := by
 obtain ⟨n, rfl⟩ : ∃ n : Nat, x = n := ⟨x.toNat, by have := h.1; omega⟩
 rw [ch_ l0 n (by have := h.2; omega)]
 exact ik_ _ _ _
theorem zb_ (l0 : List qa_) (x : Int) (h : ac_ x) : ∀ y ∈ sa_ l0 x, ac_ y := by
 obtain ⟨n, rfl⟩ : ∃ n : Nat, x = n := ⟨x.toNat, by have := h.1; omega⟩
 rw [ch_ l0 n (by have := h.2; omega)]
 intro y hy
 exact (cd_ y).1 (List.mem_filter.1 hy).1
noncomputable def ge_ (l0 : List qa_) (x : Int) : Bool := decide (x ∈ ce_ (sa_ l0) (sa_ l0 x))
noncomputable def bb_ (l0 : List qa_) : Bool := decide (l0.length ≤ 60) && (l0.all tc_ && symbols.all fun x => !ge_ l0 x)
noncomputable def gram_Check.f (l0 : List qa_) : Option Bool := some (bb_ l0)
theorem rj_ (l0 : List qa_) (h1 : l0.length ≤ 60) (h2 : l0.all tc_ = true) : li_ l0 = true := by
 unfold li_
 rw [Bool.and_eq_true]
 refine ⟨List.all_eq_true.2 fun r hr => ?_, decide_eq_true (by omega)⟩
 have h3 := List.all_eq_true.1 h2 r hr
 unfold tc_ af_ be_ at h3
 simp only [Bool.and_eq_true, decide_eq_true_eq] at h3
 exact decide_eq_true h3.1
theorem al_ (l0 : List qa_) (fv : Value) (A : Option Addr) (c : Nat) (x : Int) (hx : ac_ x) (w : World) (hf : qj_ Tryz.prog w ac_ fv (sa_ l0)) (hC : Kd.C (Kd.int .i64) w A (sa_ l0 x).length (sa_ l0 x)) (hc : (sa_ l0 x).length ≤ c) :
  Calls Tryz.prog 48 #[.slice A (sa_ l0 x).length c, fv] w fun e w' => ∃ v0_ : Value, e = .returned (v0_) ∧ Kd.R (Kd.int .i64) 3 w' w.heap.size (fun _ => True) v0_ (ce_ (sa_ l0) (sa_ l0 x)) ∧ Below w.heap.size w w' := by
 obtain ⟨k, r, h1, h2⟩ := ct_ (sa_ l0) (fun y hy => Nat.le_trans (bj_ l0 y hy) (by omega)) (zb_ l0) (sa_ l0 x) (zb_ l0 x hx) (Nat.le_trans (bj_ l0 x hx) (by omega))
 rw [← h2]
 exact vv_ fv (sa_ l0) ac_ (fun y hy => ⟨⟨by have := hy.1; omega, by have := hy.2; omega⟩, zb_ l0 y hy⟩) k A c (sa_ l0 x) r w hf (zb_ l0 x hx) hC hc h1
theorem ag_ (next : Int → List Int) (l : List Int) : (ce_ next l).length ≤ 20 := Nat.le_trans (List.length_filter_le _ _) (by decide)
set_option maxHeartbeats 4000000 in
set_option maxRecDepth 100000 in
theorem kt_ (A0 : Option Addr) (c0 : Nat) (l0 : List qa_) (w : World) (hr0 : Kd.C k48 w A0 l0.length l0) (hc0 : l0.length ≤ c0) :
  Calls Tryz.prog 29 #[.slice A0 l0.length c0] w fun e w' => e = .returned (.bool (bb_ l0)) ∧ Below w.heap.size w w' := by
 by_cases h60 : l0.length ≤ 60
 ·have h60z : ¬ ((l0.length : Int) > 60) := by omega
  have hcall := mj_ _ A0 c0 l0 _ w hr0 hc0 (pp_ w)
  rw [kh_] at hcall
  have HR := Aside0.mk hr0
  have HC := Aside0.mk hc0
  clear hr0 hc0
  cases hall : l0.all tc_ with
  | false =>
   rw [hall] at hcall
   have hz : bb_ l0 = false := by simp [bb_, hall]
   go_enter Tryz.func29, Tryz.ntmps29
   go_wp2_with fail
   refine hcall.mono ?_
   rintro e w' ⟨rfl, hb'⟩
   have HB := Aside0.mk hb'
   clear hb'
   go_wp2
   go_ret
   exact ⟨qd_ hz.symm, HB.out⟩
  | true =>
   rw [hall] at hcall
   have hu := rj_ l0 h60 hall
   go_enter Tryz.func29, Tryz.ntmps29
   go_wp2_with fail
   refine hcall.mono ?_
   rintro e w1 ⟨rfl, hb'⟩
   have HB1 := Aside0.mk hb'
   have HR1 := Aside0.mk (Kd.C_below HR.out hb')
   clear hb' hcall
   go_wp2_with fail
   refine (ml_ A0 c0 l0 w1 HR1.out HC.out hu).mono ?_
   rintro e w2 ⟨v2, rfl, hS, hb2⟩
   obtain ⟨A2, c2, rfl, hc2, hC2⟩ := Kd.S_reads hS
   have hlen := hb_ l0
   have HB2 := Aside0.mk (ma_ HB1.out hb2)
   have HF0 := Aside0.mk hC2
   clear hS hb2 hc2 hC2
   rw [hlen]
   have HLN := Aside0.mk hlen
   clear hlen
   have HG := Aside0.mk (lo_ w2 (.slice A2 20 c2) 72)
   have HB3 := Aside0.mk (ba_ HB2.out (.cells #[.slice A2 20 c2] 72))
   have HC3 := Aside0.mk (Kd.C_alloc HF0.out (.cells #[.slice A2 20 c2] 72))
   clear HF0 HB2
   have HFN : Aside0 (qj_ Tryz.prog (w2.alloc (.cells #[.slice A2 20 c2] 72)) ac_ (.func (.func 49) #[] #[.pointer (some ⟨w2.heap.size, 0, none⟩)]) (sa_ l0)) :=
    ⟨op_ _ w2.heap.size A2 c2 (dc_ l0) (by rw [HLN.out]; exact HG.out) HLN.out HC3.out⟩
   go_wp2
   generalize w2.heap.size = g at *
   generalize (w2.alloc (.cells #[.slice A2 20 c2] 72)) = w3 at *
   go_loopg [17] 20 (fun gg s17 wr => ∃ kk : Nat, kk ≤ 20 ∧ 20 - kk ≤ gg ∧ s17 = .int .i64 kk ∧ Aside0 (Below w3.heap.size w3 wr) ∧ Aside0 (∀ j : Nat, j < kk → ge_ l0 j = false))
   case atStart => exact ⟨0, by omega, by omega, rfl, ⟨Below.refl _ _⟩, ⟨fun j hj => absurd hj (Nat.not_lt_zero _)⟩⟩
   obtain ⟨kk, hkk, hg, rfl, BW, AB⟩ := hrel
   by_cases hlt : kk < 20
   ·have hltz : (kk : Int) < 20 := by omega
    have hsym : ac_ (kk : Int) := ⟨by omega, by omega⟩
    have HFN2 : Aside0 (qj_ Tryz.prog wr ac_ (.func (.func 49) #[] #[.pointer (some ⟨g, 0, none⟩)]) (sa_ l0)) := by
     obtain ⟨g', pre, lb, e1, e2, e3⟩ := HFN.out
     exact ⟨g', pre, lb, e1, e2, fun W x hb hd => e3 W x (BW.out.trans (hb.mono BW.out.size)) hd⟩
    obtain ⟨ad, A4, c4, hA, h0, h1, h2⟩ := at_L1 (Kd.C_below HC3.out BW.out) kk (by omega) (by rw [HLN.out]; exact hltz)
    rw [Int.toNat_natCast] at h0
    subst hA
    have hrow : eh_ (dc_ l0) (kk : Int) = sa_ l0 kk := rfl
    rw [hrow] at h0 h1 h2
    have H1 := Aside0.mk h1
    have H2 := Aside0.mk h2
    clear hrow h1 h2
    go_wp2_with fail
    refine (al_ l0 _ A4 c4 kk hsym wr HFN2.out H2.out H1.out).mono ?_
    rintro e w4 ⟨v4, rfl, hR4, hb4⟩
    obtain ⟨A5, c5, rfl, hc5, hC5⟩ := Kd.R_reads hR4
    have HB4 := Aside0.mk (ma_ BW.out hb4)
    have HC5 := Aside0.mk hC5
    have HL5 := Aside0.mk hc5
    have hcs := dg_ (ce_ (sa_ l0) (sa_ l0 kk)) kk 100 (Nat.le_trans (ag_ _ _) (by omega)) (Nat.lt_of_le_of_lt (ag_ _ _) (by omega))
    have HCS := Aside0.mk hcs
    clear hR4 hb4 hC5 hc5 hcs h0
    have hlb : decide ((kk : Int) ∈ ce_ (sa_ l0) (sa_ l0 kk)) = ge_ l0 kk := rfl
    have HLB := Aside0.mk hlb
    clear hlb
    cases hb : ge_ l0 kk with
    | true =>
     have HCS2 : Aside0 (slices_Contains_int_int.f 100 (ce_ (sa_ l0) (sa_ l0 kk)) kk = some true) := ⟨by rw [HCS.out, HLB.out, hb]⟩
     have hz : bb_ l0 = false := by
      unfold bb_
      have : (symbols.all fun x => !ge_ l0 x) = false := List.all_eq_false.2 ⟨kk, (cd_ _).2 hsym, by simp [hb]⟩
      rw [this, Bool.and_false, Bool.and_false]
     go_wp2_with fail
     refine (slices_Contains_int_int.calls 100 A5 c5 _ kk true w4 HC5.out HL5.out HCS2.out).mono ?_
     rintro e w' ⟨rfl, ⟨nd, rfl⟩⟩
     go_wp2
     go_ret
     exact ⟨qd_ hz.symm, aa_ (HB3.out.trans (HB4.out.mono HB3.out.size)) _⟩
    | false =>
     have HCS2 : Aside0 (slices_Contains_int_int.f 100 (ce_ (sa_ l0) (sa_ l0 kk)) kk = some false) := ⟨by rw [HCS.out, HLB.out, hb]⟩
     go_wp2_with fail
     refine (slices_Contains_int_int.calls 100 A5 c5 _ kk false w4 HC5.out HL5.out HCS2.out).mono ?_
     rintro e w' ⟨rfl, ⟨nd, rfl⟩⟩
     go_wp2
     go_roundg (20 - (kk + 1))
     case measure => omega
     case rel =>
      refine ⟨kk + 1, by omega, by omega, by go_num, ⟨aa_ HB4.out _⟩, ⟨fun j hj => ?_⟩⟩
      by_cases e : j = kk
      ·subst e; exact hb
      exact AB.out j (by omega)
   have hltz : ¬ (kk : Int) < 20 := by omega
   have hkk : kk = 20 := by omega
   subst hkk
   have hz : bb_ l0 = true := by
    unfold bb_
    have : (symbols.all fun x => !ge_ l0 x) = true := by
     rw [List.all_eq_true]
     intro x hx
     have hs := (cd_ _).1 hx
     have h9 := AB.out x.toNat (by have := hs.1; have := hs.2; omega)
     rw [Int.toNat_of_nonneg hs.1] at h9
     rw [h9]; rfl
    rw [this, hall, decide_eq_true h60]; rfl
   go_wp2
   go_ret
   exact ⟨by first | rfl | exact qd_ hz.symm, HB3.out.trans (BW.out.mono HB3.out.size)⟩
 have h60z : (l0.length : Int) > 60 := by omega
 have hz : bb_ l0 = false := by simp [bb_, h60]
 go_enter Tryz.func29, Tryz.ntmps29
 go_wp2
 go_ret
 exact ⟨qd_ hz.symm, Below.refl _ _⟩
theorem gram_Check.calls (A0 : Option Addr) (c0 : Nat) (l0 : List qa_) (r : Bool) (w : World) (hr0 : Kd.C k48 w A0 l0.length l0) (hc0 : l0.length ≤ c0) (h : gram_Check.f l0 = some r) :
  Calls Tryz.prog 29 #[.slice A0 l0.length c0] w fun e w' => e = .returned (.bool r) ∧ Below w.heap.size w w' := by
 obtain rfl := Option.some.inj h
 exact kt_ A0 c0 l0 w hr0 hc0
end Go.Proofs.YtjfbfhoipgldgaaGreat.P
end
section
namespace Go.Proofs.YtjfbfhoipgldgaaGreat.P
open Go.RowKit Go.Proofs.YtjfbfhoipgldgaaGreatW.PrintWords Go.Proofs.YtjfbfhoipgldgaaGreatW.PrintLast Go.Proofs.YtjfbfhoipgldgaaGreatW.PrintMore
attribute [local go_sem] ob_ lb_ vb_ ub_ db_ cb_ nb_ kb_   
set_option linter.unusedVariables false
set_option linter.unusedSimpArgs false
open Go.Maps (Keyed)
def encK (p : Int × Int × Int) : Value := .agg #[.int .i64 p.1, .int .i64 p.2.1, .int .i64 p.2.2]
theorem yc_ : ∀ x y, encK x = encK y → x = y := fun x y h => by
 unfold encK at h
 injection h with h
 have h2 := congrArg Array.toList h
 simp at h2
 obtain ⟨a, b, c⟩ := x
 obtain ⟨a', b', c'⟩ := y
 simp at h2
 obtain ⟨h3, h4, h5⟩ := h2
 subst h3 h4 h5
 rfl
theorem chLaid : laidOutB Tryz.prog = true := by kernel_rfl
theorem ee_ : Keyed Tryz.prog 42 := Keyed.of_law (deep_law_laid chLaid (m := 2) (by omega) (of_decide_eq_true (by kernel_rfl)) (by kernel_rfl) (by rw [Tryz.underlying42]))
theorem te_ : Keyed Tryz.prog 134 := Keyed.of_law (deep_law_laid chLaid (m := 2) (by omega) (of_decide_eq_true (by kernel_rfl)) (by kernel_rfl) (by rw [Tryz.underlying134]))
theorem ku_ : ∃ n, Tryz.prog.types.size = n + 1 := ⟨Tryz.prog.types.size - 1, by have h : 0 < Tryz.prog.types.size := of_decide_eq_true (by kernel_rfl); omega⟩
theorem keySpan : Tryz.prog.keyType 42 = true := by kernel_rfl
theorem keyItem : Tryz.prog.keyType 134 = true := by kernel_rfl
theorem jo_ : Tryz.prog.cellsOf 42 = 3 := by kernel_rfl
theorem ko_ : Tryz.prog.cellsOf 134 = 3 := by kernel_rfl
theorem sr_ : Tryz.prog.cellsOf 3 = 1 := by kernel_rfl
abbrev he_ (a : Int) : Prop := -9223372036854775808 ≤ a ∧ a ≤ 9223372036854775807
theorem mf_ {a b c : Int} (ha : he_ a) (hb : he_ b) (hc : he_ c) : ∃ l, keyOf Tryz.prog 42 (encK (a, b, c)) = some l := by
 obtain ⟨n, hn⟩ := ku_
 have wa : (Lit.int .i64 a).wf = true := WalkArith.wf_i64 (by omega)
 have wb : (Lit.int .i64 b).wf = true := WalkArith.wf_i64 (by omega)
 have wc : (Lit.int .i64 c).wf = true := WalkArith.wf_i64 (by omega)
 refine ⟨.string (keyBytes [.int .i64 a, .int .i64 b, .int .i64 c]), ?_⟩
 unfold keyOf encK
 rw [Tryz.underlying42]
 simp only [keySpan, Value.formed, Tryz.underlying42, jo_, Value.cells, hn]
 simp [Program.keyLits, Tryz.underlying42, Tryz.underlying3, jo_, sr_, wa, wb, wc, List.range_succ]
theorem hm_ {a b c : Int} (ha : he_ a) (hb : he_ b) (hc : he_ c) : ∃ l, keyOf Tryz.prog 134 (encK (a, b, c)) = some l := by
 obtain ⟨n, hn⟩ := ku_
 have wa : (Lit.int .i64 a).wf = true := WalkArith.wf_i64 (by omega)
 have wb : (Lit.int .i64 b).wf = true := WalkArith.wf_i64 (by omega)
 have wc : (Lit.int .i64 c).wf = true := WalkArith.wf_i64 (by omega)
 refine ⟨.string (keyBytes [.int .i64 a, .int .i64 b, .int .i64 c]), ?_⟩
 unfold keyOf encK
 rw [Tryz.underlying134]
 simp only [keyItem, Value.formed, Tryz.underlying134, ko_, Value.cells, hn]
 simp [Program.keyLits, Tryz.underlying134, Tryz.underlying3, ko_, sr_, wa, wb, wc, List.range_succ]
theorem chInt : Keyed Tryz.prog 3 := Go.Maps.int_keyed Tryz.underlying3
theorem th_ {a : Int} (ha : he_ a) : ∃ l, keyOf Tryz.prog 3 (Value.int .i64 a) = some l := ⟨_, Go.Maps.keyOf_int_mk Tryz.underlying3 (WalkArith.wf_i64 (by omega))⟩
abbrev Key3 := Int × Int × Int
def encC {κ : Type} (m : List (κ × Int)) : List (κ × Value) := m.map fun p => (p.1, Value.int .i64 p.2)
theorem oe_ {κ : Type} [DecidableEq κ] (m : List (κ × Int)) (k : κ) : (mget (encC m) k).getD (.int .i64 0) = .int .i64 ((mget m k).getD 0) := by
 unfold encC
 rw [ne_]
 cases mget m k <;> rfl
structure TabP where
 w0 : World
 tb : Nat
 Ar : Option Addr
 cr : Nat
 Ao : Option Addr
 co : Nat
 b2 : Nat
 b3 : Nat
 b4 : Nat
 b5 : Nat
 rules : List S48
 order : List Int
 bs : List (Value × List Int)
 tk : List (Key3 × Int)
 most : Nat
def TabP.vals (P : TabP) : Array Value := #[.slice P.Ar P.rules.length P.cr, .slice P.Ao P.order.length P.co, .map (some P.b2), .map (some P.b3), .map (some P.b4), .map (some P.b5), .int .i64 (P.most : Int)]
def TabP.T (P : TabP) (x : Int) (p q : Nat) : Nat := ((mget P.tk (-1 - x, (p : Int), (q : Int))).getD 0).toNat
def TabP.rl (P : TabP) : List (Int × List Int) := P.rules.map fun r => (r.f0, r.f1)
abbrev TabP.base (P : TabP) : Nat := P.w0.heap.size
structure TabP.Ok (P : TabP) : Prop where
 rulesC : Kd.C k48 P.w0 P.Ar P.rules.length P.rules
 rulesL : P.rules.length ≤ P.cr
 most1 : 1 ≤ P.most
 most2 : P.most ≤ 1000000000
 syms : ∀ r ∈ P.rules, (-1000000 ≤ r.f0 ∧ r.f0 ≤ 1000000) ∧ (∀ x ∈ r.f1, -1000000 ≤ x ∧ x ≤ 1000000) ∧ r.f1.length ≤ 1000000
 rulesN : P.rules.length ≤ 1000000
 tk : ∀ k, 0 ≤ (mget P.tk k).getD 0 ∧ (mget P.tk k).getD 0 ≤ 1000000000000
structure Tab (P : TabP) (W : World) (st : Chart.St) (im : List (Key3 × Nat)) (em : List (Key3 × Value)) : Prop where
 ok : P.Ok
 blk : W.heap[P.tb]? = some (.cells P.vals 58 (0, 0))
 below : Below P.base P.w0 W
 toks : MapOf Tryz.prog 42 encK W P.b2 (encC P.tk)
 cells : ∃ m, MapOf Tryz.prog 42 encK W P.b3 (encC m) ∧ (∀ (s : Int) (p q : Nat), (mget m (s, (p : Int), (q : Int))).getD 0 = (st.cells s p q : Int)) ∧ ∀ kv ∈ m, ∃ (s : Int) (p q : Nat), kv.1 = (s, (p : Int), (q : Int)) ∧ st.cells s p q ≠ 0
 items : MapOf Tryz.prog 134 encK W P.b4 (im.map fun kv => (kv.1, Value.map (some kv.2)))
 inner : ∀ kv ∈ im, ∃ (m : List (Int × Int)) (i d f : Nat), kv.1 = ((i : Int), (d : Int), (f : Int)) ∧ MapOf Tryz.prog 3 (Value.int .i64) W kv.2 (encC m) ∧ ∀ q : Nat, (mget m (q : Int)).getD 0 = (st.items i d f q : Int)
 absent : ∀ i d f : Nat, mget im ((i : Int), (d : Int), (f : Int)) = none → ∀ q, st.items i d f q = 0
 apart : (P.b2 :: P.b3 :: P.b4 :: P.b5 :: im.map (·.2)).Nodup
 ends : ∃ (tag : Nat → Option Key3), MapOf Tryz.prog 134 encK W P.b5 em ∧ (Kd.R (Kd.int .i64) 3 W P.base (fun k => tag k = none) (.slice P.Ao P.order.length P.co) P.order ∧ ∀ p ∈ P.bs, Kd.R (Kd.int .i64) 3 W P.base (fun k => tag k = none) p.1 p.2) ∧
  ∀ i d f : Nat, Kd.R (Kd.int .i64) 3 W P.base (fun k => tag k = some ((i : Int), (d : Int), (f : Int))) ((mget em ((i : Int), (d : Int), (f : Int))).getD (.slice none 0 0)) ((st.ends i d f).map fun (q : Nat) => (q : Int))
 ge : P.base ≤ P.tb ∧ P.base ≤ P.b2 ∧ P.base ≤ P.b3 ∧ P.base ≤ P.b4 ∧ P.base ≤ P.b5 ∧ ∀ kv ∈ im, P.base ≤ kv.2
 low : ∀ s p q, st.cells s p q ≤ P.most
 low2 : ∀ i d f q, st.items i d f q ≤ P.most
theorem Tab.cell {P : TabP} {W : World} {st : Chart.St} {im : List (Key3 × Nat)} {em : List (Key3 × Value)} (h : Tab P W st im em) (i : Nat) (v : Value) (hv : P.vals[i]? = some v) : W.cell? ⟨P.tb, i, none⟩ = some v := (ca_ h.blk i).trans hv
theorem Tab.drewN {P : TabP} {W : World} {st : Chart.St} {im : List (Key3 × Nat)} {em : List (Key3 × Value)} (h : Tab P W st im em) (n : Nat) : Tab P (W.drewN n) st im em :=
 ⟨h.ok, h.blk, aa_ h.below n, h.toks, h.cells, h.items, h.inner, h.absent, h.apart, by
  obtain ⟨tag, h1, h2, h3⟩ := h.ends
  exact ⟨tag, h1, ⟨Kd.R_drewN h2.1 n, fun p hp => Kd.R_drewN (h2.2 p hp) n⟩, fun i d f => Kd.R_drewN (h3 i d f) n⟩, h.ge, h.low, h.low2⟩
theorem rd_ (w : World) : (zeroValue 3).run Tryz.prog w = .ok (.int .i64 0) w := by kernel_rfl
set_option maxHeartbeats 4000000 in
set_option maxRecDepth 100000 in
theorem cp_ (P : TabP) (W : World) (st : Chart.St) (im : List (Key3 × Nat)) (em : List (Key3 × Value)) (h : Tab P W st im em) (x : Int) (p q : Nat) (hx : -1000000 ≤ x ∧ x ≤ 1000000) (hp : p ≤ 1000000) (hq : q ≤ 1000000) :
  Calls Tryz.prog 85 #[.pointer (some ⟨P.tb, 0, none⟩), .int .i64 x, .int .i64 (p : Int), .int .i64 (q : Int)] W fun e W' => e = .returned (.int .i64 (st.of P.T P.most x p q : Int)) ∧ Drawn0 W W' := by
 have c2 : W.cell? ⟨P.tb, 2, none⟩ = some (.map (some P.b2)) := h.cell 2 _ rfl
 have c3 : W.cell? ⟨P.tb, 3, none⟩ = some (.map (some P.b3)) := h.cell 3 _ rfl
 have c6 : W.cell? ⟨P.tb, 6, none⟩ = some (.int .i64 (P.most : Int)) := h.cell 6 _ rfl
 have hm1 := h.ok.most1
 have hm2 := h.ok.most2
 obtain ⟨hx0, hx1⟩ := hx
 by_cases hneg : x < 0
 ·have hd : decide (x < 0) = true := decide_eq_true hneg
  have hkey := mf_ (a := -1 - x) (b := (p : Int)) (c := (q : Int)) ⟨by omega, by omega⟩ ⟨by omega, by omega⟩ ⟨by omega, by omega⟩
  have hl := fun n => (h.toks.drewN n).lookup ee_ yc_ Tryz.underlying54 (rd_ (W.drewN n)) (-1 - x, (p : Int), (q : Int)) hkey false
  simp only [oe_, Bool.false_eq_true, if_false] at hl
  have ht := h.ok.tk (-1 - x, (p : Int), (q : Int))
  have hof : st.of P.T P.most x p q = min ((mget P.tk (-1 - x, (p : Int), (q : Int))).getD 0).toNat P.most := by
   unfold Chart.St.of Chart.cap TabP.T
   rw [if_pos hneg]
  generalize (mget P.tk (-1 - x, (p : Int), (q : Int))).getD 0 = v at *
  obtain ⟨ht0, ht1⟩ := ht
  have hl1 : ∀ n, (Instr.lookup 54 (.map (some P.b2)) (.agg #[.int .i64 (-1 - x), .int .i64 (p : Int), .int .i64 (q : Int)]) false).run Tryz.prog (W.drewN n) = .ok (.int .i64 v) (W.drewN n) := hl
  have hl2 : (Instr.lookup 54 (.map (some P.b2)) (.agg #[.int .i64 (-1 - x), .int .i64 (p : Int), .int .i64 (q : Int)]) false).run Tryz.prog W.drew = .ok (.int .i64 v) W.drew := hl 1
  have hw : IntKind.i64.wrap (-1 - x) = -1 - x := IntWalk.i64_in _ (by omega)
  rw [hof]
  have hmin : ((min v.toNat P.most : Nat) : Int) = min v (P.most : Int) := by omega
  rw [hmin]
  have HH := Aside0.mk h
  clear h hl hof hkey hmin
  go_enter Tryz.func85, Tryz.ntmps85
  go_wp2
  go_quiet (fail)
  all_goals go_wp2
  all_goals
   go_ret
   exact ⟨cj_ (by omega), ⟨⟨_, rfl⟩⟩⟩
 have hd : decide (x < 0) = false := decide_eq_false hneg
 obtain ⟨m, hM, hget, _⟩ := h.cells
 have hkey := mf_ (a := x) (b := (p : Int)) (c := (q : Int)) ⟨by omega, by omega⟩ ⟨by omega, by omega⟩ ⟨by omega, by omega⟩
 have hl := hM.lookup ee_ yc_ Tryz.underlying54 (rd_ W) (x, (p : Int), (q : Int)) hkey false
 simp only [oe_, Bool.false_eq_true, if_false, hget] at hl
 have hl1 : (Instr.lookup 54 (.map (some P.b3)) (.agg #[.int .i64 x, .int .i64 (p : Int), .int .i64 (q : Int)]) false).run Tryz.prog W = .ok (.int .i64 (st.cells x p q : Int)) W := hl
 have hof : st.of P.T P.most x p q = st.cells x p q := by
  unfold Chart.St.of
  rw [if_neg hneg]
 rw [hof]
 clear h hl hof hkey hM hget
 generalize st.cells x p q = v at *
 go_enter Tryz.func85, Tryz.ntmps85
 go_wp2
 go_ret
 exact ⟨rfl, ⟨⟨0, rfl⟩⟩⟩
set_option maxHeartbeats 4000000 in
set_option maxRecDepth 100000 in
theorem yo_ (P : TabP) (W : World) (st : Chart.St) (im : List (Key3 × Nat)) (em : List (Key3 × Value)) (h : Tab P W st im em) (a b : Nat) (ha : a ≤ P.most) (hb : b ≤ P.most) :
  Calls Tryz.prog 84 #[.pointer (some ⟨P.tb, 0, none⟩), .int .i64 (a : Int), .int .i64 (b : Int)] W fun e W' => e = .returned (.int .i64 (Chart.cap P.most (a * b) : Int)) ∧ W' = W := by
 have c6 : W.cell? ⟨P.tb, 6, none⟩ = some (.int .i64 (P.most : Int)) := h.cell 6 _ rfl
 have hm1 := h.ok.most1
 have hm2 := h.ok.most2
 have hab : a * b ≤ 1000000000 * 1000000000 := Nat.mul_le_mul (by omega) (by omega)
 have hw : IntKind.i64.wrap ((a : Int) * (b : Int)) = ((a * b : Nat) : Int) := by rw [← Int.natCast_mul]; exact IntWalk.i64_in _ (by omega)
 have hw2 : wrap64 ((a : Int) * (b : Int)) = ((a * b : Nat) : Int) := by rw [← Int.natCast_mul, wrap64]; omega
 have HC : Aside0 (Chart.cap P.most (a * b) = min (a * b) P.most) := ⟨rfl⟩
 rw [HC.out]
 generalize a * b = c at *
 clear h HC ha hb
 have HW2 := Aside0.mk hw2
 clear hw2
 go_enter Tryz.func84, Tryz.ntmps84
 go_wp2
 all_goals
  go_ret
  exact ⟨cj_ (by omega), rfl⟩
theorem cq_ (P : TabP) (W : World) (st : Chart.St) (im : List (Key3 × Nat)) (em : List (Key3 × Value)) (h : Tab P W st im em) (a b : Nat) (ha : a ≤ P.most) (hb : b ≤ P.most) :
  Calls Tryz.prog 104 #[.pointer (some ⟨P.tb, 0, none⟩), .int .i64 (a : Int), .int .i64 (b : Int)] W fun e W' => e = .returned (.int .i64 (Chart.cap P.most (a + b) : Int)) ∧ W' = W := by
 have c6 : W.cell? ⟨P.tb, 6, none⟩ = some (.int .i64 (P.most : Int)) := h.cell 6 _ rfl
 have hm1 := h.ok.most1
 have hm2 := h.ok.most2
 have HC : Aside0 (Chart.cap P.most (a + b) = min (a + b) P.most) := ⟨rfl⟩
 rw [HC.out]
 clear h HC
 go_enter Tryz.func104, Tryz.ntmps104
 go_wp2
 all_goals
  go_ret
  exact ⟨cj_ (by omega), rfl⟩
theorem og_ {W W1 : World} {base : Nat} {ok : Nat → Prop} {v : Value} {xs : List Int} (h : Kd.R (Kd.int .i64) 3 W base ok v xs) {b : Nat} (hb : ∀ (cells : Array Value) (t : TypeId) (z : Nat × Nat), W.heap[b]? ≠ some (.cells cells t z)) (hg : W.grownBy W1 (some b)) : Kd.R (Kd.int .i64) 3 W1 base ok v xs := by
 refine Kd.R_mono (Kd.R_grown (Kd.R_tight rfl h) hg (fun k hk e => ?_)) (fun k hk => h.1 k hk.symm)
 obtain ⟨cells, hc⟩ := Kd.R_typed h k hk.symm
 injection e with e
 subst e
 exact hb _ _ _ hc
theorem MapOf.no_cells {κ : Type} [DecidableEq κ] {P : Program} {kt : TypeId} {enc : κ → Value} {w : World} {b : Nat} {m : List (κ × Value)} (h : MapOf P kt enc w b m) : ∀ (cells : Array Value) (t : TypeId) (z : Nat × Nat), w.heap[b]? ≠ some (.cells cells t z) := fun cells t z hc => h.not_cells hc rfl
theorem Tab.putCell {P : TabP} {W : World} {st : Chart.St} {im : List (Key3 × Nat)} {em : List (Key3 × Value)} (h : Tab P W st im em) (s : Int) (f t : Nat) :
  ∃ m, MapOf Tryz.prog 42 encK W P.b3 (encC m) ∧ (∀ (s : Int) (p q : Nat), (mget m (s, (p : Int), (q : Int))).getD 0 = (st.cells s p q : Int)) ∧
   ∀ (W1 : World) (c : Nat), 0 < c → c ≤ P.most → MapOf Tryz.prog 42 encK W1 P.b3 (mput (encC m) (s, (f : Int), (t : Int)) (.int .i64 (c : Int))) → W.grownBy W1 (some P.b3) →
    Tab P W1 { st with cells := fun s' p q => if s' = s ∧ p = f ∧ q = t then c else st.cells s' p q } im em := by
 obtain ⟨m, hM, hget, hkeys⟩ := h.cells
 refine ⟨m, hM, hget, fun W1 c hc0 hc1 hM1 hg => ?_⟩
 have hnc := hM.no_cells
 have hap := h.apart
 simp only [List.nodup_cons, List.mem_cons, not_or] at hap
 obtain ⟨⟨h23, h24, h25, h2i⟩, ⟨h34, h35, h3i⟩, ⟨h45, h4i⟩, h5i, _⟩ := hap
 have hge := h.ge
 have e1 : mput (encC m) (s, (f : Int), (t : Int)) (Value.int .i64 (c : Int)) = encC (mput m (s, (f : Int), (t : Int)) (c : Int)) := fg_ (Value.int .i64) _ _ m
 rw [e1] at hM1
 refine ⟨h.ok, xa_ h.blk hg (fun e => ?_), h.below.grown hg h.below.size (fun j e => by injection e with e; omega), h.toks.grown hg (fun e => by injection e with e; exact h23 e), ⟨mput m (s, (f : Int), (t : Int)) (c : Int), hM1, fun s' p q => ?_, fun kv hkv => ?_⟩, h.items.grown hg (fun e => by injection e with e; exact h34 e.symm), fun kv hkv => ?_, h.absent, h.apart, ?_, h.ge, fun s' p q => ?_, h.low2⟩
 ·injection e with e
  have hb := h.blk
  rw [e] at hb
  exact hnc _ _ _ hb
 ·by_cases e : s' = s ∧ p = f ∧ q = t
  ·obtain ⟨rfl, rfl, rfl⟩ := e
   rw [mb_]
   simp
  show _ = ((if s' = s ∧ p = f ∧ q = t then c else st.cells s' p q : Nat) : Int)
  rw [if_neg e, wb_ _ _ _ (fun k => e ?_)]
  ·exact hget s' p q
  injection k with k1 k2
  injection k2 with k2 k3
  exact ⟨k1, by omega, by omega⟩
 ·rcases fj_ hkv with rfl | hkv
  ·exact ⟨s, f, t, rfl, by simp; omega⟩
  obtain ⟨s', p, q, hk, hz⟩ := hkeys kv hkv
  refine ⟨s', p, q, hk, ?_⟩
  show (if s' = s ∧ p = f ∧ q = t then c else st.cells s' p q) ≠ 0
  split
  ·omega
  exact hz
 ·obtain ⟨m', i, d, f', hk, hM', hg'⟩ := h.inner kv hkv
  exact ⟨m', i, d, f', hk, hM'.grown hg (fun e => by injection e with e; exact h3i (e ▸ List.mem_map.2 ⟨kv, hkv, rfl⟩)), hg'⟩
 ·obtain ⟨tag, q1, q2, q3⟩ := h.ends
  exact ⟨tag, q1.grown hg (fun e => by injection e with e; exact h35 e.symm), ⟨og_ q2.1 hnc hg, fun p hp => og_ (q2.2 p hp) hnc hg⟩, fun i d f => og_ (q3 i d f) hnc hg⟩
 show (if s' = s ∧ p = f ∧ q = t then c else st.cells s' p q) ≤ P.most
 split
 ·exact hc1
 exact h.low s' p q
theorem Tab.putItem {P : TabP} {W : World} {st : Chart.St} {im : List (Key3 × Nat)} {em : List (Key3 × Value)} (h : Tab P W st im em) (i d f t : Nat) {b : Nat} (hb : mget im ((i : Int), (d : Int), (f : Int)) = some b) :
  ∃ m, MapOf Tryz.prog 3 (Value.int .i64) W b (encC m) ∧ (∀ q : Nat, (mget m (q : Int)).getD 0 = (st.items i d f q : Int)) ∧
   ∀ (W1 : World) (c : Nat), c ≤ P.most → MapOf Tryz.prog 3 (Value.int .i64) W1 b (mput (encC m) (t : Int) (.int .i64 (c : Int))) → W.grownBy W1 (some b) →
    Tab P W1 { st with items := fun i' d' f' t' => if i' = i ∧ d' = d ∧ f' = f ∧ t' = t then c else st.items i' d' f' t' } im em := by
 have hmem := am_ hb
 obtain ⟨m, i1, d1, f1, hk1, hM, hget⟩ := h.inner _ hmem
 have hk2 : i1 = i ∧ d1 = d ∧ f1 = f := by
  injection hk1 with k1 k2
  injection k2 with k2 k3
  exact ⟨by omega, by omega, by omega⟩
 obtain ⟨rfl, rfl, rfl⟩ := hk2
 refine ⟨m, hM, hget, fun W1 c hc1 hM1 hg => ?_⟩
 have hnc := hM.no_cells
 have hap := h.apart
 have hbi : b ∈ im.map (·.2) := List.mem_map.2 ⟨_, hmem, rfl⟩
 simp only [List.nodup_cons, List.mem_cons, not_or] at hap
 obtain ⟨⟨h23, h24, h25, h2i⟩, ⟨h34, h35, h3i⟩, ⟨h45, h4i⟩, h5i, hni⟩ := hap
 have hge := h.ge
 have e1 : mput (encC m) (t : Int) (Value.int .i64 (c : Int)) = encC (mput m (t : Int) (c : Int)) := fg_ (Value.int .i64) _ _ m
 rw [e1] at hM1
 obtain ⟨mc, hMc, hgc, hkc⟩ := h.cells
 have hone : ∀ kv ∈ im, kv.2 = b → kv = (((i1 : Int), (d1 : Int), (f1 : Int)), b) := by
  intro kv hkv hkb
  have hn : (im.map (·.2)).Nodup := hni
  rw [List.Nodup, List.pairwise_map] at hn
  refine Classical.byContradiction fun hne => ?_
  obtain ⟨x, hx, hx2⟩ := List.mem_iff_getElem.1 hkv
  obtain ⟨y, hy, hy2⟩ := List.mem_iff_getElem.1 hmem
  have hp := List.pairwise_iff_getElem.1 hn
  rcases Nat.lt_trichotomy x y with hlt | heq | hgt
  ·exact hp x y hx hy hlt (by rw [hx2, hy2]; exact hkb)
  ·subst heq; exact hne (hx2.symm.trans hy2)
  exact hp y x hy hx hgt (by rw [hx2, hy2]; exact hkb.symm)
 refine ⟨h.ok, xa_ h.blk hg (fun e => ?_), h.below.grown hg h.below.size (fun j e => by injection e with e; have := hge.2.2.2.2.2 _ hmem; simp at this; omega), h.toks.grown hg (fun e => by injection e with e; exact h2i (e ▸ hbi)), ⟨mc, hMc.grown hg (fun e => by injection e with e; exact h3i (e ▸ hbi)), hgc, hkc⟩, h.items.grown hg (fun e => by injection e with e; exact h4i (e ▸ hbi)), fun kv hkv => ?_, fun i' d' f' hab q => ?_, h.apart, ?_, h.ge, h.low, fun i' d' f' q => ?_⟩
 ·injection e with e
  have hb := h.blk
  rw [e] at hb
  exact hnc _ _ _ hb
 ·by_cases hkb : kv.2 = b
  ·have := hone kv hkv hkb
   subst this
   refine ⟨mput m (t : Int) (c : Int), i1, d1, f1, rfl, hM1, fun q => ?_⟩
   show _ = ((if i1 = i1 ∧ d1 = d1 ∧ f1 = f1 ∧ q = t then c else st.items i1 d1 f1 q : Nat) : Int)
   by_cases hq : q = t
   ·subst hq
    rw [mb_, if_pos ⟨rfl, rfl, rfl, rfl⟩]
    rfl
   rw [wb_ _ _ _ (fun k => hq (by omega)), if_neg (fun k => hq k.2.2.2)]
   exact hget q
  obtain ⟨m', i', d', f', hk, hM', hg'⟩ := h.inner kv hkv
  refine ⟨m', i', d', f', hk, hM'.grown hg (fun e => by injection e with e; exact hkb e), fun q => ?_⟩
  show _ = ((if i' = i1 ∧ d' = d1 ∧ f' = f1 ∧ q = t then c else st.items i' d' f' q : Nat) : Int)
  rw [if_neg (fun k => hkb ?_)]
  ·exact hg' q
  have hkn : (im.map (·.1)).Nodup := by
   have := h.items.nodup
   rwa [List.map_map] at this
  rw [List.Nodup, List.pairwise_map] at hkn
  obtain ⟨x, hx, hx2⟩ := List.mem_iff_getElem.1 hkv
  obtain ⟨y, hy, hy2⟩ := List.mem_iff_getElem.1 hmem
  have hp := List.pairwise_iff_getElem.1 hkn
  have hke : kv.1 = ((i1 : Int), (d1 : Int), (f1 : Int)) := by rw [hk, k.1, k.2.1, k.2.2.1]
  rcases Nat.lt_trichotomy x y with hlt | heq | hgt
  ·exact absurd (by rw [hx2, hy2]; exact hke) (hp x y hx hy hlt)
  ·subst heq; rw [← hx2, hy2]
  exact absurd (by rw [hx2, hy2]; exact hke.symm) (hp y x hy hx hgt)
 ·show (if i' = i1 ∧ d' = d1 ∧ f' = f1 ∧ q = t then c else st.items i' d' f' q) = 0
  rw [if_neg (fun k => ?_)]
  ·exact h.absent i' d' f' hab q
  rw [k.1, k.2.1, k.2.2.1, hb] at hab
  cases hab
 ·obtain ⟨tag, q1, q2, q3⟩ := h.ends
  exact ⟨tag, q1.grown hg (fun e => by injection e with e; exact h5i (e ▸ hbi)), ⟨og_ q2.1 hnc hg, fun p hp => og_ (q2.2 p hp) hnc hg⟩, fun i d f => og_ (q3 i d f) hnc hg⟩
 show (if i' = i1 ∧ d' = d1 ∧ f' = f1 ∧ q = t then c else st.items i' d' f' q) ≤ P.most
 split
 ·exact hc1
 exact h.low2 i' d' f' q
theorem Tab.belowW {P : TabP} {W W1 : World} {st : Chart.St} {im : List (Key3 × Nat)} {em : List (Key3 × Value)} (h : Tab P W st im em) (hb : Below W.heap.size W W1) : Tab P W1 st im em := by
 obtain ⟨m, hM, hget, hkeys⟩ := h.cells
 obtain ⟨tag, q1, q2, q3⟩ := h.ends
 exact ⟨h.ok, ya_ h.blk hb, ma_ h.below hb, h.toks.below hb, ⟨m, hM.below hb, hget, hkeys⟩, h.items.below hb, fun kv hkv => by
  obtain ⟨m', i, d, f, hk, hM', hg'⟩ := h.inner kv hkv
  exact ⟨m', i, d, f, hk, hM'.below hb, hg'⟩, h.absent, h.apart, ⟨tag, q1.below hb, ⟨Kd.R_below q2.1 hb, fun p hp => Kd.R_below (q2.2 p hp) hb⟩, fun i d f => Kd.R_below (q3 i d f) hb⟩, h.ge, h.low, h.low2⟩
theorem ok_ {κ ν : Type} [DecidableEq κ] (k : κ) (v : ν) : ∀ m : List (κ × ν), mget m k = none → mput m k v = m ++ [(k, v)]
 | [], _ => rfl
 | p :: m, h => by
  unfold mget at h
  split at h
  ·cases h
  rename_i hp
  unfold mput
  rw [if_neg hp, ok_ k v m h]
  rfl
theorem hh_ {κ ν : Type} [DecidableEq κ] (k : κ) (l : List (κ × ν)) : ∀ m : List (κ × ν), mget (m ++ l) k = match mget m k with | some v => some v | none => mget l k
 | [] => by simp [mget]
 | p :: m => by
  rw [List.cons_append, mget, mget]
  by_cases h : p.1 = k
  ·rw [if_pos h, if_pos h]
  rw [if_neg h, if_neg h, hh_ k l m]
theorem Tab.putNew {P : TabP} {W W2 : World} {st : Chart.St} {im : List (Key3 × Nat)} {em : List (Key3 × Value)} (h : Tab P W st im em) (i d f : Nat) (habs : mget im ((i : Int), (d : Int), (f : Int)) = none)
  (hM4 : MapOf Tryz.prog 134 encK W2 P.b4 (mput (im.map fun kv => (kv.1, Value.map (some kv.2))) ((i : Int), (d : Int), (f : Int)) (Value.map (some W.heap.size)))) (hg : (W.alloc (.map #[] 0)).grownBy W2 (some P.b4)) :
  Tab P W2 st (im ++ [(((i : Int), (d : Int), (f : Int)), W.heap.size)]) em := by
 have h1 := h.belowW (ba_ (Below.refl _ W) (.map #[] 0))
 have hnew : MapOf Tryz.prog 3 (Value.int .i64) (W.alloc (.map #[] 0)) W.heap.size ([] : List (Int × Value)) := MapOf.made _ _ _ _
 have hnc := h1.items.no_cells
 have hap := h.apart
 simp only [List.nodup_cons, List.mem_cons, not_or] at hap
 obtain ⟨⟨h23, h24, h25, h2i⟩, ⟨h34, h35, h3i⟩, ⟨h45, h4i⟩, h5i, hni⟩ := hap
 have hge := h.ge
 have l2 := h.toks.lt
 have l4 := h.items.lt
 obtain ⟨mc, hMc, hgc, hkc⟩ := h1.cells
 have l3 : P.b3 < W.heap.size := by obtain ⟨m, hm, _⟩ := h.cells; exact hm.lt
 have l5 : P.b5 < W.heap.size := by obtain ⟨tag, q1, _⟩ := h.ends; exact q1.lt
 have li : ∀ kv ∈ im, kv.2 < W.heap.size := fun kv hkv => by obtain ⟨m', _, _, _, _, hM', _⟩ := h.inner kv hkv; exact hM'.lt
 have hbs : P.base ≤ W.heap.size := h.below.size
 have e1 : mput (im.map fun kv => (kv.1, Value.map (some kv.2))) ((i : Int), (d : Int), (f : Int)) (Value.map (some W.heap.size)) = (im ++ [(((i : Int), (d : Int), (f : Int)), W.heap.size)]).map fun kv => (kv.1, Value.map (some kv.2)) := by
  rw [ok_ _ _ _ (by rw [ne_ (fun b => Value.map (some b)), habs]; rfl), List.map_append]
  rfl
 rw [e1] at hM4
 refine ⟨h.ok, xa_ h1.blk hg (fun e => ?_), h1.below.grown hg h1.below.size (fun j e => by injection e with e; omega), h1.toks.grown hg (fun e => by injection e with e; exact h24 e), ⟨mc, hMc.grown hg (fun e => by injection e with e; exact h34 e), hgc, hkc⟩, hM4, fun kv hkv => ?_, fun i' d' f' hab q => ?_, ?_, ?_, ⟨hge.1, hge.2.1, hge.2.2.1, hge.2.2.2.1, hge.2.2.2.2.1, fun kv hkv => ?_⟩, h.low, h.low2⟩
 ·injection e with e
  have hb := h1.blk
  rw [e] at hb
  exact hnc _ _ _ hb
 ·rcases List.mem_append.1 hkv with hkv | hkv
  ·obtain ⟨m', i', d', f', hk, hM', hg'⟩ := h1.inner kv hkv
   exact ⟨m', i', d', f', hk, hM'.grown hg (fun e => by injection e with e; exact h4i (e ▸ List.mem_map.2 ⟨kv, hkv, rfl⟩)), hg'⟩
  rw [List.mem_singleton.1 hkv]
  exact ⟨[], i, d, f, rfl, hnew.grown hg (fun e => by injection e with e; omega), fun q => by rw [h.absent i d f habs q]; rfl⟩
 ·refine h.absent i' d' f' ?_ q
  rw [hh_] at hab
  cases hh : mget im ((i' : Int), (d' : Int), (f' : Int)) with
  | none => rfl
  | some v => rw [hh] at hab; cases hab
 ·rw [List.map_append]
  have hn0 := h.apart
  show ([P.b2, P.b3, P.b4, P.b5] ++ (im.map (·.2) ++ [W.heap.size])).Nodup
  rw [← List.append_assoc]
  refine List.nodup_append.2 ⟨hn0, by simp, fun a ha b hb e => ?_⟩
  rw [List.mem_singleton] at hb
  subst hb
  subst e
  rcases List.mem_append.1 ha with ha | ha
  ·simp only [List.mem_cons, List.not_mem_nil, or_false] at ha
   omega
  obtain ⟨kv, hkv, hk2⟩ := List.mem_map.1 ha
  have := li kv hkv
  omega
 ·obtain ⟨tag, q1, q2, q3⟩ := h1.ends
  exact ⟨tag, q1.grown hg (fun e => by injection e with e; exact h45 e.symm), ⟨og_ q2.1 hnc hg, fun p hp => og_ (q2.2 p hp) hnc hg⟩, fun i d f => og_ (q3 i d f) hnc hg⟩
 rcases List.mem_append.1 hkv with hkv | hkv
 ·exact hge.2.2.2.2.2 kv hkv
 rw [List.mem_singleton.1 hkv]; exact hbs
theorem Tab.putEnd {P : TabP} {W : World} {st : Chart.St} {im : List (Key3 × Nat)} {em : List (Key3 × Value)} (h : Tab P W st im em) (i d f t : Nat) :
  MapOf Tryz.prog 134 encK W P.b5 em ∧ (∃ ok, Kd.R (Kd.int .i64) 3 W P.base ok ((mget em ((i : Int), (d : Int), (f : Int))).getD (.slice none 0 0)) ((st.ends i d f).map fun (q : Nat) => (q : Int))) ∧
   ∀ (W3 : World) (v1 : Value), MapOf Tryz.prog 134 encK W3 P.b5 (mput em ((i : Int), (d : Int), (f : Int)) v1) →
    Kd.R (Kd.int .i64) 3 W3 P.base (fun k => some k = ((mget em ((i : Int), (d : Int), (f : Int))).getD (.slice none 0 0)).ownBlock ∨ W.heap.size ≤ k) v1 (((st.ends i d f).map fun (q : Nat) => (q : Int)) ++ [(t : Int)]) →
    (∀ k, k < W.heap.size → k ≠ P.b5 → some k ≠ ((mget em ((i : Int), (d : Int), (f : Int))).getD (.slice none 0 0)).ownBlock → W3.heap[k]? = W.heap[k]?) → Below P.base P.w0 W3 →
    Tab P W3 { st with ends := fun i' d' f' => if i' = i ∧ d' = d ∧ f' = f then st.ends i d f ++ [t] else st.ends i' d' f' } im (mput em ((i : Int), (d : Int), (f : Int)) v1) := by
 obtain ⟨tag, q1, q2, q3⟩ := h.ends
 refine ⟨q1, ⟨_, q3 i d f⟩, fun W3 v1 hM hR hsame hbel => ?_⟩
 have hrow := q3 i d f
 generalize hu : (mget em ((i : Int), (d : Int), (f : Int))).getD (Value.slice none 0 0) = u at *
 have hap := h.apart
 simp only [List.nodup_cons, List.mem_cons, not_or] at hap
 obtain ⟨⟨h23, h24, h25, h2i⟩, ⟨h34, h35, h3i⟩, ⟨h45, h4i⟩, h5i, hni⟩ := hap
 have hcell : ∀ k, some k = u.ownBlock → ∃ cells, W.heap[k]? = some (.cells cells 3 (0, 0)) := fun k hk => Kd.R_typed hrow k hk.symm
 have hmap : ∀ {κ : Type} [DecidableEq κ] {kt : TypeId} {enc : κ → Value} {b : Nat} {m : List (κ × Value)}, MapOf Tryz.prog kt enc W b m → b ≠ P.b5 → MapOf Tryz.prog kt enc W3 b m := by
  intro κ _ kt enc b m hm hne
  refine hm.same (hsame b hm.lt hne fun e => ?_)
  obtain ⟨cells, hc⟩ := hcell b e
  exact hm.no_cells _ _ _ hc
 have hrows : ∀ {ok : Nat → Prop} {v : Value} {xs : List Int}, Kd.R (Kd.int .i64) 3 W P.base ok v xs → (∀ k, ok k → tag k ≠ some ((i : Int), (d : Int), (f : Int))) → Kd.R (Kd.int .i64) 3 W3 P.base (fun k => ok k ∧ k < W.heap.size) v xs := by
  intro ok v xs hv hok
  refine Kd.R_mono (Kd.R_step (Kd.R_tight rfl hv) (fun k hk hlt => hsame k hlt (fun e => ?_) (fun e => ?_))) (fun k hk => ⟨hv.1 k hk.symm, ?_⟩)
  ·obtain ⟨cells, hc⟩ := Kd.R_typed hv k hk.symm
   rw [e] at hc
   exact q1.no_cells _ _ _ hc
  ·exact hok k (hv.1 k hk.symm) (hrow.1 k e.symm)
  obtain ⟨cells, hc⟩ := Kd.R_typed hv k hk.symm
  exact kc_ hc
 obtain ⟨mc, hMc, hgc, hkc⟩ := h.cells
 refine ⟨h.ok, ?_, hbel, hmap h.toks h25, ⟨mc, hmap hMc h35, hgc, hkc⟩, hmap h.items h45, fun kv hkv => ?_, h.absent, h.apart, ?_, h.ge, h.low, h.low2⟩
 ·rw [hsame P.tb (kc_ h.blk) (fun e => ?_) (fun e => ?_)]
  ·exact h.blk
  ·have hb := h.blk
   rw [e] at hb
   exact q1.no_cells _ _ _ hb
  obtain ⟨cells, hc⟩ := hcell P.tb e
  rw [h.blk] at hc
  have h9 := Option.some.inj hc
  injection h9 with _ h9
  exact absurd h9 (by decide)
 ·obtain ⟨m', i', d', f', hk, hM', hg'⟩ := h.inner kv hkv
  exact ⟨m', i', d', f', hk, hmap hM' (fun e => h5i (e ▸ List.mem_map.2 ⟨kv, hkv, rfl⟩)), hg'⟩
 refine ⟨fun k => if k < W.heap.size then tag k else some ((i : Int), (d : Int), (f : Int)), hM, ⟨Kd.R_mono (hrows q2.1 (fun k hk e => by rw [hk] at e; cases e)) (fun k hk => by dsimp only; rw [if_pos hk.2]; exact hk.1), fun p hp => Kd.R_mono (hrows (q2.2 p hp) (fun k hk e => by rw [hk] at e; cases e)) (fun k hk => by dsimp only; rw [if_pos hk.2]; exact hk.1)⟩, fun i' d' f' => ?_⟩
 by_cases e : i' = i ∧ d' = d ∧ f' = f
 ·obtain ⟨rfl, rfl, rfl⟩ := e
  rw [mb_]
  show Kd.R (Kd.int .i64) 3 W3 P.base _ v1 ((if i' = i' ∧ d' = d' ∧ f' = f' then st.ends i' d' f' ++ [t] else st.ends i' d' f').map fun (q : Nat) => (q : Int))
  rw [if_pos ⟨rfl, rfl, rfl⟩, List.map_append]
  refine Kd.R_mono hR (fun k hk => ?_)
  dsimp only
  by_cases hlt : k < W.heap.size
  ·rw [if_pos hlt]
   rcases hk with hk | hk
   ·exact hrow.1 k hk.symm
   omega
  rw [if_neg hlt]
 rw [wb_ _ _ _ (fun k => e ?_)]
 ·show Kd.R (Kd.int .i64) 3 W3 P.base _ _ ((if i' = i ∧ d' = d ∧ f' = f then st.ends i d f ++ [t] else st.ends i' d' f').map fun (q : Nat) => (q : Int))
  rw [if_neg e]
  refine Kd.R_mono (hrows (q3 i' d' f') (fun k hk e2 => e ?_)) (fun k hk => by dsimp only; rw [if_pos hk.2]; exact hk.1)
  rw [hk] at e2
  injection e2 with e2
  injection e2 with k1 k2
  injection k2 with k2 k3
  exact ⟨by omega, by omega, by omega⟩
 injection k with k1 k2
 injection k2 with k2 k3
 exact ⟨by omega, by omega, by omega⟩
def Calm (W W' : World) : Prop := W.heap.size ≤ W'.heap.size ∧ ∀ (k : Nat) (o : Obj), W.heap[k]? = some o → (∀ c z, o ≠ .cells c 3 z) → (∀ es c, o ≠ .map es c) → W'.heap[k]? = some o
theorem Calm.refl (W : World) : Calm W W := ⟨Nat.le_refl _, fun _ _ h _ _ => h⟩
theorem Calm.trans {A B C : World} (h : Calm A B) (k : Calm B C) : Calm A C := ⟨Nat.le_trans h.1 k.1, fun i o hi h1 h2 => k.2 i o (h.2 i o hi h1 h2) h1 h2⟩
theorem Calm.below {W W' : World} (hb : Below W.heap.size W W') : Calm W W' := ⟨hb.size, fun _ _ h _ _ => (hb.block _ (Array.getElem?_eq_some_iff.1 h).1).trans h⟩
theorem Calm.drewN {W W' : World} (h : Calm W W') (n : Nat) : Calm W (W'.drewN n) := h
theorem Calm.map {κ : Type} [DecidableEq κ] {P : Program} {kt : TypeId} {enc : κ → Value} {W W' : World} {b : Nat} {m : List (κ × Value)} (hm : MapOf P kt enc W b m) (hg : W.grownBy W' (some b)) : Calm W W' :=
 ⟨hg.size, fun k o h _ h2 => (hg.block k (Array.getElem?_eq_some_iff.1 h).1 (fun e => by
  injection e with e
  subst e
  obtain ⟨es, c, hb, _⟩ := hm
  rw [hb] at h
  exact h2 es c (Option.some.inj h).symm)).trans h⟩
theorem Calm.row {W W' : World} {row : Option Nat} (hr : ∀ k, row = some k → ∃ cells, W.heap[k]? = some (.cells cells 3 (0, 0))) (hg : W.grownBy W' row) : Calm W W' :=
 ⟨hg.size, fun k o h h1 _ => (hg.block k (Array.getElem?_eq_some_iff.1 h).1 (fun e => by
  obtain ⟨c, hb⟩ := hr k e.symm
  rw [hb] at h
  exact h1 c (0, 0) (Option.some.inj h).symm)).trans h⟩
theorem Calm.blk {W W' : World} (h : Calm W W') {k : Nat} {c : Array Value} {t : TypeId} {z : Nat × Nat} (hb : W.heap[k]? = some (.cells c t z)) (ht : t ≠ 3) : W'.heap[k]? = some (.cells c t z) :=
 h.2 k _ hb (fun c' z' e => by injection e with _ e; exact ht e) (fun _ _ e => by cases e)
theorem wj_ : ∀ (k : Nat) (L : List Nat), L.Nodup → (∀ m ∈ L, m < k) → L.length ≤ k
 | 0, L, _, h => by
  cases L with
  | nil => exact Nat.le_refl _
  | cons a l => exact absurd (h a List.mem_cons_self) (by omega)
 | k + 1, L, hn, h => by
  by_cases hk : k ∈ L
  ·have h1 := wj_ k (L.erase k) (hn.erase k) (fun m hm => by
    have h2 := h m (List.mem_of_mem_erase hm)
    have h3 : m ≠ k := (List.Nodup.mem_erase_iff hn).1 hm |>.1
    omega)
   rw [List.length_erase_of_mem hk] at h1
   omega
  have := wj_ k L hn (fun m hm => by
   have h2 := h m hm
   have h3 : m ≠ k := fun e => hk (e ▸ hm)
   omega)
  omega
structure EndsOk (st : Chart.St) : Prop where
 ends : ∀ i d p, (st.ends i d p).Nodup ∧ ∀ q, q ∈ st.ends i d p ↔ st.items i d p q ≠ 0
 small : ∀ i d p q, q ∈ st.ends i d p → q ≤ 1000000
theorem EndsOk.len {st : Chart.St} (h : EndsOk st) (i d p : Nat) : (st.ends i d p).length ≤ 1000001 := wj_ _ _ (h.ends i d p).1 (fun m hm => by have := h.small i d p m hm; omega)
theorem EndsOk.add {st : Chart.St} (h : EndsOk st) {rules : List (Int × List Int)} {most : Nat} (hm : 0 < most) (i d f t v : Nat) (ht : t ≤ 1000000) : EndsOk (st.add rules most i d f t v) := by
 refine ⟨Chart.add_ends rules most hm st i d f t v h.ends, fun i' d' p q hq => ?_⟩
 unfold Chart.St.add at hq
 split at hq
 ·exact h.small i' d' p q hq
 split at hq
 ·exact h.small i' d' p q hq
 simp only at hq
 split at hq
 ·rcases List.mem_append.1 hq with hq | hq
  ·exact h.small i d f q hq
  rw [List.mem_singleton.1 hq]; exact ht
 exact h.small i' d' p q hq
theorem end_row {P : TabP} {W w1 : World} {st : Chart.St} {im : List (Key3 × Nat)} {em : List (Key3 × Value)} (h : Tab P W st im em) (i d f t : Nat) (hg1 : W.grownBy w1 (some P.b5)) :
  Kd.R (Kd.int .i64) 3 w1 P.base (fun k => some k = ((mget em ((i : Int), (d : Int), (f : Int))).getD (.slice none 0 0)).ownBlock ∨ W.heap.size ≤ k) ((mget em ((i : Int), (d : Int), (f : Int))).getD (.slice none 0 0)) ((st.ends i d f).map fun (q : Nat) => (q : Int)) ∧ Below P.base P.w0 w1 := by
 obtain ⟨hE, ⟨ok, hR⟩, _⟩ := h.putEnd i d f t
 exact ⟨og_ (Kd.R_mono (Kd.R_tight rfl hR) (fun k hk => .inl hk)) hE.no_cells hg1, h.below.grown hg1 h.below.size (fun j e => by injection e with e; have := h.ge.2.2.2.2.1; omega)⟩
theorem end_done {P : TabP} {W w1 w2 w3 : World} {st : Chart.St} {im : List (Key3 × Nat)} {em : List (Key3 × Value)} (h : Tab P W st im em) (i d f t : Nat) {m1 : List (Key3 × Value)} {v1 : Value}
  (hg1 : W.grownBy w1 (some P.b5)) (hs1 : w1.heap.size = W.heap.size) (hm1 : MapOf Tryz.prog 134 encK w1 P.b5 m1)
  (hR2 : Kd.R (Kd.int .i64) 3 w2 P.base (fun k => some k = ((mget em ((i : Int), (d : Int), (f : Int))).getD (.slice none 0 0)).ownBlock ∨ W.heap.size ≤ k) v1 (((st.ends i d f).map fun (q : Nat) => (q : Int)) ++ [(t : Int)]))
  (hB2 : Below P.base P.w0 w2) (hg2 : w1.grownBy w2 ((mget em ((i : Int), (d : Int), (f : Int))).getD (.slice none 0 0)).ownBlock)
  (hM3 : MapOf Tryz.prog 134 encK w3 P.b5 (mput em ((i : Int), (d : Int), (f : Int)) v1)) (hg3 : w2.grownBy w3 (some P.b5)) :
  Tab P w3 { st with ends := fun i' d' f' => if i' = i ∧ d' = d ∧ f' = f then st.ends i d f ++ [t] else st.ends i' d' f' } im (mput em ((i : Int), (d : Int), (f : Int)) v1) ∧ Calm W w3 := by
 obtain ⟨hE, ⟨ok, hR⟩, hfin⟩ := h.putEnd i d f t
 have hty := fun k (hk : ((mget em ((i : Int), (d : Int), (f : Int))).getD (Value.slice none 0 0)).ownBlock = some k) => Kd.R_typed hR k hk
 generalize (mget em ((i : Int), (d : Int), (f : Int))).getD (Value.slice none 0 0) = u at *
 have hne : some P.b5 ≠ u.ownBlock := fun e => by
  obtain ⟨c, hc⟩ := hty P.b5 e.symm
  exact hE.no_cells _ _ _ hc
 have hm2 : MapOf Tryz.prog 134 encK w2 P.b5 m1 := hm1.grown hg2 hne
 have hlt := hE.lt
 refine ⟨hfin w3 v1 hM3 (og_ hR2 hm2.no_cells hg3) (fun k hk h5 ho => ?_) (hB2.grown hg3 hB2.size (fun j e => by injection e with e; have := h.ge.2.2.2.2.1; omega)), (Calm.map hE hg1).trans ((Calm.row (fun k hk => ?_) hg2).trans (Calm.map hm2 hg3))⟩
 ·have s2 := hg2.size
  rw [hg3.block k (by omega) (fun e => h5 (by injection e)), hg2.block k (by omega) ho, hg1.block k hk (fun e => h5 (by injection e))]
 obtain ⟨c, hc⟩ := hty k hk
 refine ⟨c, ?_⟩
 rw [hg1.block k (kc_ hc) (fun e => by injection e with e; subst e; exact hE.no_cells _ _ _ hc)]
 exact hc
theorem rp_ {st st6 : Chart.St} {rules : List (Int × List Int)} {most i d f t v : Nat} (hv : v ≠ 0) (hd : d ≠ (Chart.rhsOf rules i).length) (hz : st.items i d f t = 0)
  (h6 : st6 = { st with ends := fun i' d' f' => if i' = i ∧ d' = d ∧ f' = f then st.ends i d f ++ [t] else st.ends i' d' f' }) :
  ({ st6 with items := fun i' d' f' t' => if i' = i ∧ d' = d ∧ f' = f ∧ t' = t then Chart.cap most (st6.items i d f t + v) else st6.items i' d' f' t' } : Chart.St) = st.add rules most i d f t v := by
 subst h6
 unfold Chart.St.add
 rw [if_neg hv, if_neg hd]
 simp only [hz, and_true]
theorem qp_ {st : Chart.St} {rules : List (Int × List Int)} {most i d f t v : Nat} (hv : v ≠ 0) (hd : d ≠ (Chart.rhsOf rules i).length) (hz : st.items i d f t ≠ 0) :
  ({ st with items := fun i' d' f' t' => if i' = i ∧ d' = d ∧ f' = f ∧ t' = t then Chart.cap most (st.items i d f t + v) else st.items i' d' f' t' } : Chart.St) = st.add rules most i d f t v := by
 unfold Chart.St.add
 rw [if_neg hv, if_neg hd]
 simp only [hz, and_false, if_false]
def ru_ (P : TabP) (em : List (Key3 × Value)) (key : Key3) (st : Chart.St) (W : World) (e : Ending) (W' : World) : Prop :=
 e = .returned (.tuple #[]) ∧ ∃ im' em', Tab P W' st im' em' ∧ (∀ k, k ≠ key → mget em' k = mget em k) ∧ Calm W W'
def TabP.box (P : TabP) (g : Nat) (x : Int) : TabP := { P with bs := (.slice (some ⟨g, 0, none⟩) 1 1, [x]) :: P.bs }
theorem TabP.Ok.box {P : TabP} (h2 : P.Ok) (g : Nat) (x : Int) : (P.box g x).Ok := ⟨h2.rulesC, h2.rulesL, h2.most1, h2.most2, h2.syms, h2.rulesN, h2.tk⟩
theorem TabP.Ok.unbox {P : TabP} {g : Nat} {x : Int} (h2 : (P.box g x).Ok) : P.Ok := ⟨h2.rulesC, h2.rulesL, h2.most1, h2.most2, h2.syms, h2.rulesN, h2.tk⟩
theorem Tab.rebox {P : TabP} {W : World} {st : Chart.St} {im : List (Key3 × Nat)} {em : List (Key3 × Value)} (h : Tab P W st im em) (x : Int) : Tab (P.box W.heap.size x) (W.alloc (.cells #[.int .i64 x] 3)) st im em := by
 have h1 := h.belowW (ba_ (Below.refl _ W) (.cells #[.int .i64 x] 3))
 have hbs : P.base ≤ W.heap.size := h.below.size
 refine ⟨h.ok.box _ _, h1.blk, h1.below, h1.toks, h1.cells, h1.items, h1.inner, h1.absent, h1.apart, ?_, h1.ge, h1.low, h1.low2⟩
 obtain ⟨tag, q1, q2, q3⟩ := h.ends
 have hb := ba_ (Below.refl _ W) (.cells #[.int .i64 x] 3)
 have tight : ∀ {ok : Nat → Prop} {v : Value} {xs : List Int}, Kd.R (Kd.int .i64) 3 W P.base ok v xs → Kd.R (Kd.int .i64) 3 (W.alloc (.cells #[.int .i64 x] 3)) P.base (fun k => ok k ∧ k < W.heap.size) v xs := fun hv =>
  Kd.R_below (Kd.R_mono (Kd.R_tight rfl hv) (fun k hk => ⟨hv.1 k hk.symm, by obtain ⟨c, hc⟩ := Kd.R_typed hv k hk.symm; exact kc_ hc⟩)) hb
 refine ⟨fun k => if k < W.heap.size then tag k else none, q1.below hb, ⟨Kd.R_mono (tight q2.1) (fun k hk => by dsimp only; rw [if_pos hk.2]; exact hk.1), fun p hp => ?_⟩, fun i d f => Kd.R_mono (tight (q3 i d f)) (fun k hk => by dsimp only; rw [if_pos hk.2]; exact hk.1)⟩
 rcases List.mem_cons.1 hp with rfl | hp
 ·refine ⟨fun k hk => ?_, [.int .i64 x], ⟨rfl, .inr ⟨W.heap.size, 1, #[.int .i64 x], rfl, hbs, qb_ W (.cells #[.int .i64 x] 3), Nat.le_refl _, by decide, rfl, rfl⟩⟩, lf_ rfl rfl⟩
  have : W.heap.size = k := Option.some.inj (show some W.heap.size = some k from hk)
  subst this
  dsimp only
  rw [if_neg (Nat.lt_irrefl _)]
 exact Kd.R_mono (tight (q2.2 p hp)) (fun k hk => by dsimp only; rw [if_pos hk.2]; exact hk.1)
theorem Tab.unbox {P : TabP} {W : World} {st : Chart.St} {im : List (Key3 × Nat)} {em : List (Key3 × Value)} {g : Nat} {x : Int} (h : Tab (P.box g x) W st im em) : Tab P W st im em := by
 obtain ⟨tag, q1, q2, q3⟩ := h.ends
 exact ⟨h.ok.unbox, h.blk, h.below, h.toks, h.cells, h.items, h.inner, h.absent, h.apart, ⟨tag, q1, ⟨q2.1, fun p hp => q2.2 p (List.mem_cons_of_mem _ hp)⟩, q3⟩, h.ge, h.low, h.low2⟩
theorem Tab.kept {P : TabP} {W : World} {st : Chart.St} {im : List (Key3 × Nat)} {em : List (Key3 × Value)} (h : Tab P W st im em) {A : Option Addr} {n c : Nat} {l : List Int} (hp : (Value.slice A n c, l) ∈ P.bs) : n = l.length ∧ n ≤ c ∧ Kd.C (Kd.int .i64) W A l.length l := by
 obtain ⟨tag, _, q2, _⟩ := h.ends
 exact Kd.R_reads' (q2.2 _ hp)
theorem Tab.boxed {P : TabP} {W : World} {st : Chart.St} {im : List (Key3 × Nat)} {em : List (Key3 × Value)} {g : Nat} {x : Int} (h : Tab (P.box g x) W st im em) : W.cell? ⟨g, 0, none⟩ = some (.int .i64 x) := by
 obtain ⟨_, _, hC⟩ := h.kept (A := some ⟨g, 0, none⟩) (n := 1) (c := 1) (l := [x]) (List.mem_cons_self)
 obtain ⟨ad, hA, hc⟩ := Kd.at_int hC 0 (by omega) (by show (0 : Int) < (1 : Nat); omega)
 have e : ad = ⟨g, 0, none⟩ := (Option.some.inj hA).symm
 subst e
 exact hc
theorem Tab.other {P : TabP} {W W1 : World} {st : Chart.St} {im : List (Key3 × Nat)} {em : List (Key3 × Value)} (h : Tab P W st im em) {D : Nat} {o : Obj} (ho : W.heap[D]? = some o) (hc : ∀ c t z, o ≠ .cells c t z) (hm : ∀ es c, o ≠ .map es c) (hD : P.base ≤ D) (hg : W.grownBy W1 (some D)) : Tab P W1 st im em := by
 have hmap : ∀ {κ : Type} [DecidableEq κ] {kt : TypeId} {enc : κ → Value} {b : Nat} {m : List (κ × Value)}, MapOf Tryz.prog kt enc W b m → MapOf Tryz.prog kt enc W1 b m := by
  intro κ _ kt enc b m hb
  refine hb.grown hg (fun e => ?_)
  injection e with e
  subst e
  obtain ⟨es, cl, hh, _⟩ := hb
  rw [hh] at ho
  exact hm es cl (Option.some.inj ho).symm
 have hrow : ∀ {ok : Nat → Prop} {v : Value} {xs : List Int}, Kd.R (Kd.int .i64) 3 W P.base ok v xs → Kd.R (Kd.int .i64) 3 W1 P.base ok v xs := fun hv => og_ hv (b := D) (fun cells t z e => by rw [ho] at e; exact hc _ _ _ (Option.some.inj e)) hg
 obtain ⟨m, q0, q1, q2⟩ := h.cells
 obtain ⟨tag, e1, e2, e3⟩ := h.ends
 refine ⟨h.ok, xa_ h.blk hg (fun e => ?_), h.below.grown hg h.below.size (fun j e => by injection e with e; omega), hmap h.toks, ⟨m, hmap q0, q1, q2⟩, hmap h.items, fun kv hkv => ?_, h.absent, h.apart, ⟨tag, hmap e1, ⟨hrow e2.1, fun p hp => hrow (e2.2 p hp)⟩, fun i d f => hrow (e3 i d f)⟩, h.ge, h.low, h.low2⟩
 ·injection e with e
  have hb := h.blk
  rw [e, ho] at hb
  exact hc _ _ _ (Option.some.inj hb)
 obtain ⟨m', i, d, f, hk, hM', hg'⟩ := h.inner kv hkv
 exact ⟨m', i, d, f, hk, hmap hM', hg'⟩
end Go.Proofs.YtjfbfhoipgldgaaGreat.P
end
section
namespace Go.Proofs.YtjfbfhoipgldgaaGreat.P
open Go.RowKit Go.Proofs.YtjfbfhoipgldgaaGreatW.PrintWords Go.Proofs.YtjfbfhoipgldgaaGreatW.PrintLast Go.Proofs.YtjfbfhoipgldgaaGreatW.PrintMore
attribute [local go_sem] ob_ lb_ vb_ ub_ db_ cb_ nb_ kb_   
set_option linter.unusedVariables false
set_option linter.unusedSimpArgs false
attribute [local go_sem] Oper.semAt_some
def BackPost (J : Nat → World → Prop) (e : Ending) (W' : World) : Prop := e = .returned (.tuple #[]) ∧ J 0 W'
set_option maxHeartbeats 4000000 in
set_option maxRecDepth 100000 in
theorem back_in (n : Nat) (hn : 1 ≤ n) (l g : Nat) (A : Option Addr) (c : Nat) (xs : List Int) (hl : xs.length ≤ 1000000) (J : Nat → World → Prop)
  (hJ : ∀ k W, J k W → W.cell? ⟨g, 0, none⟩ = some (.slice A xs.length c) ∧ Kd.C (Kd.int .i64) W A xs.length xs)
  (hY : ∀ k W, J (k + 1) W → k < xs.length → YieldAt Fence.wide (n - 1) Tryz.prog l #[.int .i64 (k : Int), .int .i64 (rd xs k)] W fun e W' => e = .returned (.bool true) ∧ J k W')
  (W : World) (h0 : J xs.length W) :
  CallsIn Fence.wide n Tryz.prog 56 #[.func (.yield l) #[] #[], .pointer (some ⟨g, 0, none⟩)] W fun e W' => BackPost J e W' := by
 have hcb := (hJ _ _ h0).1
 have HJ := Aside0.mk hJ
 have HY := Aside0.mk hY
 have H0 := Aside0.mk h0
 clear hJ hY h0
 refine callsIn_of_wp Tryz.func56 rfl trivial ?_ rfl
 simp only [Tryz.ntmps56, List.size_toArray, List.length_cons, List.length_nil, Nat.reduceAdd, Nat.reduceSub, Array.replicate_succ, Array.replicate_zero, List.push_toArray, List.append_toArray, List.nil_append, List.cons_append]
 gi_wp2
 gi_loopw [3] (fun s3 wr => (∃ k : Nat, s3 = .int .i64 (k : Int) ∧ k < xs.length ∧ Aside0 (J (k + 1) wr)) ∨ (s3 = .int .i64 (-1) ∧ Aside0 (J 0 wr))) (fun s3 _ => (intOf s3 + 1).toNat)
 case atStart =>
  by_cases hx : xs.length = 0
  ·refine .inr ⟨by rw [hx]; rfl, ⟨?_⟩⟩
   have h := H0.out
   rw [hx] at h
   exact h
  refine .inl ⟨xs.length - 1, by congr 1; omega, by omega, ⟨?_⟩⟩
  rw [show xs.length - 1 + 1 = xs.length by omega]
  exact H0.out
 clear H0 hcb
 rcases hrel with ⟨k, rfl, hk, HJk⟩ | ⟨rfl, HJ0⟩
 ·have hkz : (k : Int) < (xs.length : Int) := by omega
  have hk0 : decide (0 ≤ (k : Int)) = true := by simp
  have hcb := (HJ.out _ _ HJk.out).1
  obtain ⟨ad, hA, hcell⟩ := Kd.at_int (HJ.out _ _ HJk.out).2 (k : Int) (by omega) hkz
  subst hA
  rw [Int.toNat_natCast] at hcell
  obtain ⟨fn, tmps, assign, body, hy, hR⟩ := HY.out k wr HJk.out hk
  generalize rd xs (k : Int) = x at *
  have HRo := Aside0.mk hR
  clear hR
  gi_wp2
  refine HRo.out.mono ?_
  rintro e W3 ⟨rfl, hJ3⟩
  have HJ3 := Aside0.mk hJ3
  have hk1 : -1 ≤ (k : Int) - 1 := by omega
  clear hJ3
  gi_wp2
  go_roundw
  case rel =>
   by_cases h0 : k = 0
   ·subst h0
    exact .inr ⟨by rfl, HJ3⟩
   obtain ⟨k', rfl⟩ : ∃ k', k = k' + 1 := ⟨k - 1, by omega⟩
   exact .inl ⟨k', by congr 1; omega, by omega, HJ3⟩
  case measure => first | (simp [intOf]; done) | (simp [intOf]; omega)
 gi_wp2
 refine bodyPost_ret (results_none rfl _ _ _) rfl ?_
 exact ⟨rfl, HJ0.out⟩
theorem ps_ {assign body : Code} {Q : Exit → Act → World → Prop} {a : Act} {w : World} {gO : Operand} {ps : Array Tmp} (hps : ps.size = 2) {gs : Nat} (hg : a.eval gO = .func (.func 56) #[] #[.pointer (some ⟨gs, 0, none⟩)])
  (A : Option Addr) (c : Nat) (xs : List Int) (hl : xs.length ≤ 1000000) (I : Nat → World → Prop)
  (hIb : ∀ k W, I k W → W.cell? ⟨gs, 0, none⟩ = some (.slice A xs.length c) ∧ Kd.C (Kd.int .i64) W A xs.length xs)
  (hIput : ∀ k W D o o', I k W → w.heap.size ≤ D → W.heap[D]? = some o → (∀ c t z, o ≠ .cells c t z) → (∀ es c, o ≠ .map es c) → I k (W.putObj D o'))
  (hIalloc : ∀ k W o, I k W → I k (W.alloc o))
  (hround : ∀ (l k : Nat) (W : World), I (k + 1) W → k < xs.length →
   assign.wpIn (Fence.wide.inRound l) 4 Tryz.prog (Exit.then (fun a₁ w₁ => w₁ = W ∧ ∀ W2, I (k + 1) W2 → body.wpIn (Fence.wide.inRound l) 4 Tryz.prog (fun e _ W3 => e = .normal ∧ I k W3 ∧ Calm W2 W3) a₁ W2) (fun _ _ _ => False))
    { tmps := (ps.zip #[.int .i64 (k : Int), .int .i64 (rd xs k)]).foldl (fun t (p, v) => t.setIfInBounds p v) a.tmps, defers := [] } W)
  (h0 : I xs.length w)
  (hdone : ∀ (W : World), I 0 W → W.heap[w.heap.size]? = some (.deferred (some [])) → Q .normal { a with defers := { target := .collected w.heap.size, args := #[] } :: a.defers } W) :
  (Code.rangeFunc gO ps assign body).wpIn Fence.wide 6 Tryz.prog Q a w := by
 have eg : ∀ args w, (callFunc 56 args).run Tryz.prog w = .ok (.enter 56 args) w := enters_of Tryz.func56 (by kernel_rfl) rfl
 refine wpIn_rangeFunc ?_
 intro fn hfn
 obtain ⟨rec, hrec⟩ : ∃ rec : LoopState → Option Code → Loop, rec = fun st pe => { state := st, pending := pe, fn, tmps := a.tmps, params := ps, assign, body, defers := w.heap.size } := ⟨_, rfl⟩
 obtain ⟨W1, hW1⟩ : ∃ W1, (w.alloc (.deferred (some []))).alloc (.loop (rec .ready none)) = W1 := ⟨_, rfl⟩
 have hL1 : W1.heap[w.heap.size + 1]? = some (.loop (rec .ready none)) := by
  rw [← hW1]; have := World.alloc_heap_new (w.alloc (.deferred (some []))) (.loop (rec .ready none)); rwa [World.size_alloc] at this
 have hK1 : W1.heap[w.heap.size]? = some (.deferred (some [])) := by
  rw [← hW1]; exact (Below.heap_alloc _ _ _ (by simp)).trans (World.alloc_heap_new w _)
 have hI1 : I xs.length W1 := by rw [← hW1]; exact hIalloc _ _ _ (hIalloc _ _ _ h0)
 refine ⟨w.heap.size + 1, [{ target := .collected w.heap.size, args := #[] }], W1, { target := .fn (.func 56) #[.pointer (some ⟨gs, 0, none⟩)], args := #[.func (.yield (w.heap.size + 1)) #[] #[]] }, W1, 56,
  #[.func (.yield (w.heap.size + 1)) #[] #[], .pointer (some ⟨gs, 0, none⟩)], W1, ?_, ?_, fun _ _ => trivial, ?_, fun h => absurd h (by decide), ?_⟩
 ·rw [← hW1, hrec]; exact run_enterLoop_outer _ _ _ _ _
 ·simp only [resolve, hg]
  simp [go_sem]
 ·simp [invoke, go_sem, eg]
 have hbusy : ∀ (c : Array Value) (t : TypeId) (z : Nat × Nat), Obj.loop { rec .ready none with state := .busy } ≠ .cells c t z := fun _ _ _ e => by cases e
 refine (back_in 5 (by decide) (w.heap.size + 1) gs A c xs hl
  (fun k W => I k W ∧ W.heap[w.heap.size + 1]? = some (.loop (rec .ready none)) ∧ W.heap[w.heap.size]? = some (.deferred (some [])))
  (fun k W h => hIb k W h.1) ?_ W1 ⟨hI1, hL1, hK1⟩).mono ?_
 ·rintro k W ⟨hi, hl, hk⟩ hlt
  have hy := run_yield (P := Tryz.prog) (args := #[.int .i64 (k : Int), .int .i64 (rd xs k)]) hl (by rw [hrec]; exact hps.symm)
  have hll := (Array.getElem?_eq_some_iff.1 hl).1
  rw [hrec] at hy
  refine ⟨fn, _, assign, body, hy, roundIn_of_wpIn hfn (wpIn_mono (hround (w.heap.size + 1) k W hi hlt) ?_)⟩
  rintro e a1 w1 hp
  cases e with
  | normal =>
   obtain ⟨rfl, hb⟩ := hp
   refine ⟨_, run_beginRound hl (by rw [hrec]), ?_⟩
   have hl2 : (w1.putObj (w.heap.size + 1) (.loop { rec .ready none with state := .busy })).heap[w.heap.size + 1]? = some (.loop { rec .ready none with state := .busy }) := World.putObj_heap_same hll
   have hk2 : (w1.putObj (w.heap.size + 1) (.loop { rec .ready none with state := .busy })).heap[w.heap.size]? = some (.deferred (some [])) := (World.putObj_heap_other (by omega)).trans hk
   refine wpIn_mono (hb _ (hIput _ _ _ _ _ hi (by omega) hl (fun _ _ _ e => by cases e) (fun _ _ e => by cases e))) ?_
   rintro e a3 W3 ⟨rfl, hi3, hc3⟩
   have hl3 := hc3.2 _ _ hl2 (fun _ _ e => by cases e) (fun _ _ e => by cases e)
   have hk3 := hc3.2 _ _ hk2 (fun _ _ e => by cases e) (fun _ _ e => by cases e)
   have hr := run_endRound (P := Tryz.prog) none hl3
   rw [hrec] at hr
   have hll3 := (Array.getElem?_eq_some_iff.1 hl3).1
   refine ⟨_, _, hr, rfl, hIput _ _ _ _ _ hi3 (by omega) hl3 (fun _ _ _ e => by cases e) (fun _ _ e => by cases e), ?_, (World.putObj_heap_other (by omega)).trans hk3⟩
   rw [hrec]
   exact World.putObj_heap_same hll3
  | exit id => exact hp.elim
  | goto t => exact hp.elim
  | ret => exact hp.elim
  | panic ch => exact hp.elim
  | outgrown => exact hp.elim
 rintro e W2 ⟨rfl, hi, hl, hk⟩
 have hend := run_endLoop (P := Tryz.prog) hl (by rw [hrec]; simp)
 rw [hrec] at hend
 exact ⟨none, _, hend, hdone _ (hIput _ _ _ _ _ hi (by omega) hl (fun _ _ _ e => by cases e) (fun _ _ e => by cases e)) ((World.putObj_heap_other (by omega)).trans hk)⟩
theorem nr_ (n g tb : Nat) (u : TypeId) (pv : Value) (older : List PanicEntry) (w : World) (v0 v1 v2 v3 v4 v5 v6 : Value) (hg : w.cell? ⟨g, 0, none⟩ = some (.pointer (some ⟨tb, 0, none⟩))) (hb : w.heap[tb]? = some (.cells #[v0, v1, v2, v3, v4, v5, v6] 58 (0, 0))) :
  CallsDIn Fence.wide n Tryz.prog 28 #[.pointer (some ⟨g, 0, none⟩)] (.panicking ({ v := .iface u pv, recovered := false } :: older)) w fun e u' w' =>
   e = .returned (.tuple #[]) ∧ u' = .panicking ({ v := .iface u pv, recovered := true } :: older) ∧ w' = (w.alloc (.map #[] 0)).setCell ⟨tb, 3, none⟩ (.map (some w.heap.size)) := by
 have hba := ua_ (o' := .map #[] 0) hb
 have hca : (w.alloc (.map #[] 0)).cell? ⟨tb, 3, none⟩ = some v3 := ca_ hba 3
 have hza : (w.alloc (.map #[] 0)).frozen? ⟨tb, 3, none⟩ = false := fa_ hba 3
 have hmk := @run_makeMap Tryz.prog
 refine callsDIn_of_wpSIn Tryz.func28 rfl trivial fun c₀ cs hu => ?_
 apply wpSIn_seq
 apply wpSIn_region
 simp [wpOpsSIn, go_sem, recoverD, hu, Tryz.ntmps28, Exit.thenS]
 apply wpSIn_seq
 apply wpSIn_region
 simp [wpOpsSIn, go_sem, Exit.thenS]
 refine wpSIn_cond (t := true) (by simp [Act.eval, Array.replicate]) ?_
 simp only [if_true]
 apply wpSIn_region
 simp [wpOpsSIn, go_sem, hg, hca, hza, hmk, bodyPostS, results, Tryz.results28]
theorem aw_ (n g : Nat) (w : World) :
  CallsDIn Fence.wide n Tryz.prog 28 #[.pointer (some ⟨g, 0, none⟩)] .returning w fun e u' w' => e = .returned (.tuple #[]) ∧ u' = .returning ∧ w' = w := by
 refine callsDIn_of_wpSIn Tryz.func28 rfl trivial fun c₀ cs hu => ?_
 apply wpSIn_seq
 apply wpSIn_region
 simp [wpOpsSIn, go_sem, recoverD, hu, Tryz.ntmps28, Exit.thenS]
 apply wpSIn_seq
 apply wpSIn_region
 simp [wpOpsSIn, go_sem, Exit.thenS]
 refine wpSIn_cond (t := false) (by simp [Act.eval, Array.replicate]) ?_
 simp only [Bool.false_eq_true, if_false]
 refine wpSIn_of_wpIn rfl (wpIn_skip ?_)
 cases c₀
 simp_all [bodyPostS, results, Tryz.results28]
end Go.Proofs.YtjfbfhoipgldgaaGreat.P
end
