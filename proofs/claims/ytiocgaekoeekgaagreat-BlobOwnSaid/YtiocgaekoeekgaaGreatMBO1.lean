/- What was resolved is its own: written to, it does not change the locales: BlobOwn answers true for all that it is given, with no condition. Part 1: contracts of the functions that the law reaches, and words for them. -/
import Derived.Test.YtiocgaekoeekgaaGreatProg
import Derived.Below
import Derived.Deep.Draws
import Derived.Deep.AppendLies
import Derived.Maps.AppendAt
import Derived.OwnWalk
import Derived.Laws.BytesArg
import Derived.Laws.MakeOwn
import Derived.Laws.OwnMore
import Derived.Deep.OwnRows
import Derived.Tactics
import Derived.Lib.ConvBytes
import Derived.Laws.Slices
import Derived.WalkKit
import Derived.KernelRfl
import Derived.RowKit3
import Derived.Deep.LoopGhost
import Derived.Deep.QuietTactic
import Derived.BigQuiet
import Derived.WideLaws
import Derived.Deep.DeepCutAuto
import Derived.Deep.CutBlock
import Derived.Deep.RegionHeld3
import Derived.Laws.Rows
import Derived.Lib.AppendStr
import Derived.ArgAppend
import Derived.Laws.IdiomCopy
import Derived.OrdersHeld
import Derived.Laws.BitsLemmas
import Derived.RowKit
import Derived.Shelf.Abstract
import Derived.Maps.OwnOps
import Derived.MapKept
import Derived.Shelf.SlIterI.Nil
import Derived.Shelf.SortM.Plain
import Derived.Shelf.SortM.SortNone
import Derived.Ground.GgzProg
import Derived.Ground.SlgmProg
import Derived.CallsIn
import Derived.WalkSpells
import Derived.Test.YtiocgaekoeekgaaGreatMBO0
set_option maxHeartbeats 32000000
set_option maxRecDepth 100000
section
namespace Go.Proofs.YtiocgaekoeekgaaGreat.P
open Go.RowKit YtiocgaekoeekgaaGreatW.PrintWords YtiocgaekoeekgaaGreatW.PrintLast YtiocgaekoeekgaaGreatW.PrintMore
attribute [local go_sem] vb_ tb_ jc_ ic_ lb_ kb_ ub_ sb_   
set_option linter.unusedVariables false
set_option linter.unusedSimpArgs false
def errW : Option Int → Value
 | none => .nilIface
 | some c => .iface 0 (.int .i64 c)
theorem eb_ : errW none = .nilIface := rfl
theorem db_ (c : Int) : errW (some c) = .iface 0 (.int .i64 c) := rfl
theorem qh_ : (Tryz.prog.info? 3).map (fun i => (i.zero, i.size, i.bytes)) = some (some (.int .i64 0), 1, 8) := by kernel_rfl
theorem zn_ : (Tryz.prog.info? 5).map (fun i => (i.zero, i.size, i.bytes)) = some (some (.int .u8 0), 1, 1) := by kernel_rfl
theorem info44 : (Tryz.prog.info? 44).map (fun i => (i.zero, i.size, i.bytes)) = some (some (.agg #[(.string ⟨#[]⟩), (.int .i64 0), (.int .i64 0), (.slice none 0 0), (.slice none 0 0), (.slice none 0 0)]), 6, 104) := by kernel_rfl
theorem info46 : (Tryz.prog.info? 46).map (fun i => (i.zero, i.size, i.bytes)) = some (some (.agg #[(.string ⟨#[]⟩), (.int .i64 0), (.int .i64 0)]), 3, 32) := by kernel_rfl
theorem info52 : (Tryz.prog.info? 52).map (fun i => (i.zero, i.size, i.bytes)) = some (some (.agg #[(.int .i64 0), (.slice none 0 0)]), 2, 32) := by kernel_rfl
theorem fm_ : (Tryz.prog.info? 56).map (fun i => (i.zero, i.size, i.bytes)) = some (some (.agg #[(.int .i64 0), (.slice none 0 0), (.int .i64 0), (.slice none 0 0), (.int .i64 0)]), 5, 72) := by kernel_rfl
structure S46 where
 f0 : ByteArray
 f1 : Int
 f2 : Int
def z46 : S46 := ⟨(⟨#[]⟩ : BA), (0 : Int), (0 : Int)⟩
def k46 : Kd S46 := Kd.iso (Kd.pair Kd.string (Kd.pair (Kd.int .i64) (Kd.int .i64))) (fun x : S46 => (x.f0, x.f1, x.f2))
theorem k46_open {w : World} {x : S46} {cs : List Value} (h : k46.K w x cs) : cs = [.string x.f0, .int .i64 x.f1, .int .i64 x.f2] := by
 obtain ⟨_, _, rfl, rfl, ⟨_, _, rfl, rfl, rfl⟩⟩ := h
 exact rfl
theorem yu_ {w : World} {base : Nat} {ok : Nat → Prop} {x : S46} {cs : List Value} (h : k46.M w base ok x cs) : cs = [.string x.f0, .int .i64 x.f1, .int .i64 x.f2] := by
 obtain ⟨_, _, rfl, rfl, ⟨_, _, rfl, rfl, rfl⟩⟩ := h
 exact rfl
theorem k46_mk (w : World) (x : S46)  : k46.K w x [.string x.f0, .int .i64 x.f1, .int .i64 x.f2] := ⟨[.string x.f0], [.int .i64 x.f1, .int .i64 x.f2], rfl, rfl, ⟨[.int .i64 x.f1], [.int .i64 x.f2], rfl, rfl, rfl⟩⟩
theorem oc_ (w : World) (base : Nat) (ok : Nat → Prop) (x : S46)  : k46.M w base ok x [.string x.f0, .int .i64 x.f1, .int .i64 x.f2] := ⟨[.string x.f0], [.int .i64 x.f1, .int .i64 x.f2], rfl, rfl, ⟨[.int .i64 x.f1], [.int .i64 x.f2], rfl, rfl, rfl⟩⟩
def ve_ (xs : List S46) (i : Int) : S46 := xs.getD i.toNat z46
theorem bt_ {w : World} {A : Option Addr} {n : Nat} {xs : List S46} (h : Kd.C k46 w A n xs) (i : Int) (h0 : 0 ≤ i) (h1 : i < n) : ∃ ad , A = some ad ∧ w.cell? (ad.add (i.toNat * 3)) = some (.string (ve_ xs i).f0) ∧ w.cell? ⟨(ad.add (i.toNat * 3)).block, (ad.add (i.toNat * 3)).off + 1, none⟩ = some (.int .i64 (ve_ xs i).f1) ∧ w.cell? ⟨(ad.add (i.toNat * 3)).block, (ad.add (i.toNat * 3)).off + 2, none⟩ = some (.int .i64 (ve_ xs i).f2) := by
 obtain ⟨ad, c, e, _, hK, hc0⟩ := Kd.C_get h z46 i h0 h1
 have hc : ∀ j u, c[j]? = some u → w.cell? (ad.add (i.toNat * 3 + j)) = some u := hc0
 obtain rfl := k46_open hK
 exact ⟨ad, e, hc 0 _ rfl, by rw [← ac_ _ _ 1 (by omega)]; exact hc 1 _ rfl, by rw [← ac_ _ _ 2 (by omega)]; exact hc 2 _ rfl⟩
def li_ (xs : List (List Int)) (i : Int) : (List Int) := xs.getD i.toNat ([] : List Int)
theorem at_L5 {w : World} {A : Option Addr} {n : Nat} {xs : List (List Int)} (h : Kd.C (Kd.slice 3 (Kd.int .i64)) w A n xs) (i : Int) (h0 : 0 ≤ i) (h1 : i < n) : ∃ ad A0 c0, A = some ad ∧ w.cell? (ad.add i.toNat) = some (.slice A0 (li_ xs i).length c0) ∧ (li_ xs i).length ≤ c0 ∧ (Kd.int .i64).C w A0 (li_ xs i).length (li_ xs i) := by
 obtain ⟨ad, c, e, _, hK, hc0⟩ := Kd.C_get h ([] : List Int) i h0 h1
 have hc : ∀ j u, c[j]? = some u → w.cell? (ad.add (i.toNat * 1 + j)) = some u := hc0
 obtain ⟨A0, c0, rfl, l0, g0⟩ := hK
 exact ⟨ad, A0, c0, e, by have hq := hc 0 _ rfl; rwa [Nat.mul_one, Nat.add_zero] at hq, l0, g0⟩
structure S54 where
 f0 : Int
 f1 : (List Int)
def z54 : S54 := ⟨(0 : Int), ([] : List Int)⟩
def k54 : Kd S54 := Kd.iso (Kd.pair (Kd.int .i64) (Kd.slice 3 (Kd.int .i64))) (fun x : S54 => (x.f0, x.f1))
theorem k54_heap : Kd.Heap k54 := Kd.heap_iso _ (Kd.heap_pair (Kd.heap_int .i64) (Kd.heap_slice 3 (Kd.heap_int .i64)))
theorem k54_open {w : World} {x : S54} {cs : List Value} (h : k54.K w x cs) : ∃ A1 c1, cs = [.int .i64 x.f0, .slice A1 x.f1.length c1] ∧ x.f1.length ≤ c1 ∧ (Kd.int .i64).C w A1 x.f1.length x.f1 := by
 obtain ⟨_, _, rfl, rfl, ⟨A1, c1, rfl, l1, g1⟩⟩ := h
 exact ⟨A1, c1, rfl, l1, g1⟩
theorem wu_ {w : World} {base : Nat} {ok : Nat → Prop} {x : S54} {cs : List Value} (h : k54.M w base ok x cs) : ∃ v1, cs = [.int .i64 x.f0, v1] ∧ (Kd.int .i64).R 3 w base ok v1 x.f1 := by
 obtain ⟨_, _, rfl, rfl, ⟨v1, rfl, g1⟩⟩ := h
 exact ⟨v1, rfl, g1⟩
theorem k54_mk (w : World) (x : S54) {A1 : Option Addr} {c1 : Nat} (l1 : x.f1.length ≤ c1) (g1 : (Kd.int .i64).C w A1 x.f1.length x.f1) : k54.K w x [.int .i64 x.f0, .slice A1 x.f1.length c1] := ⟨[.int .i64 x.f0], [.slice A1 x.f1.length c1], rfl, rfl, ⟨A1, c1, rfl, l1, g1⟩⟩
theorem k54_mkM (w : World) (base : Nat) (ok : Nat → Prop) (x : S54) {v1 : Value} (g1 : (Kd.int .i64).R 3 w base ok v1 x.f1) : k54.M w base ok x [.int .i64 x.f0, v1] := ⟨[.int .i64 x.f0], [v1], rfl, rfl, ⟨v1, rfl, g1⟩⟩
structure S56 where
 f0 : Int
 f1 : (List Int)
 f2 : S54
 f3 : Int
def z56 : S56 := ⟨(0 : Int), ([] : List Int), z54, (0 : Int)⟩
def k56 : Kd S56 := Kd.iso (Kd.pair (Kd.int .i64) (Kd.pair (Kd.slice 3 (Kd.int .i64)) (Kd.pair k54 (Kd.int .i64)))) (fun x : S56 => (x.f0, x.f1, x.f2, x.f3))
theorem k56_heap : Kd.Heap k56 := Kd.heap_iso _ (Kd.heap_pair (Kd.heap_int .i64) (Kd.heap_pair (Kd.heap_slice 3 (Kd.heap_int .i64)) (Kd.heap_pair k54_heap (Kd.heap_int .i64))))
theorem qq_ {w : World} {x : S56} {cs : List Value} (h : k56.K w x cs) : ∃ A1 c1 A3 c3, cs = [.int .i64 x.f0, .slice A1 x.f1.length c1, .int .i64 x.f2.f0, .slice A3 x.f2.f1.length c3, .int .i64 x.f3] ∧ x.f1.length ≤ c1 ∧ (Kd.int .i64).C w A1 x.f1.length x.f1 ∧ x.f2.f1.length ≤ c3 ∧ (Kd.int .i64).C w A3 x.f2.f1.length x.f2.f1 := by
 obtain ⟨_, _, rfl, rfl, ⟨_, _, rfl, ⟨A1, c1, rfl, l1, g1⟩, ⟨_, _, rfl, s2, rfl⟩⟩⟩ := h
 obtain ⟨A3, c3, rfl, l3, g3⟩ := k54_open s2
 exact ⟨A1, c1, A3, c3, rfl, l1, g1, l3, g3⟩
theorem jk_ {w : World} {base : Nat} {ok : Nat → Prop} {x : S56} {cs : List Value} (h : k56.M w base ok x cs) : ∃ v1 v3, cs = [.int .i64 x.f0, v1, .int .i64 x.f2.f0, v3, .int .i64 x.f3] ∧ (Kd.int .i64).R 3 w base ok v1 x.f1 ∧ (Kd.int .i64).R 3 w base ok v3 x.f2.f1 := by
 obtain ⟨_, _, rfl, rfl, ⟨_, _, rfl, ⟨v1, rfl, g1⟩, ⟨_, _, rfl, s2, rfl⟩⟩⟩ := h
 obtain ⟨v3, rfl, g3⟩ := wu_ s2
 exact ⟨v1, v3, rfl, g1, g3⟩
theorem k56_mk (w : World) (x : S56) {A1 : Option Addr} {c1 : Nat} (l1 : x.f1.length ≤ c1) (g1 : (Kd.int .i64).C w A1 x.f1.length x.f1) {A3 : Option Addr} {c3 : Nat} (l3 : x.f2.f1.length ≤ c3) (g3 : (Kd.int .i64).C w A3 x.f2.f1.length x.f2.f1) : k56.K w x [.int .i64 x.f0, .slice A1 x.f1.length c1, .int .i64 x.f2.f0, .slice A3 x.f2.f1.length c3, .int .i64 x.f3] := ⟨[.int .i64 x.f0], [.slice A1 x.f1.length c1, .int .i64 x.f2.f0, .slice A3 x.f2.f1.length c3, .int .i64 x.f3], rfl, rfl, ⟨[.slice A1 x.f1.length c1], [.int .i64 x.f2.f0, .slice A3 x.f2.f1.length c3, .int .i64 x.f3], rfl, ⟨A1, c1, rfl, l1, g1⟩, ⟨[.int .i64 x.f2.f0, .slice A3 x.f2.f1.length c3], [.int .i64 x.f3], rfl, (k54_mk w x.f2 l3 g3), rfl⟩⟩⟩
theorem ll_ (w : World) (base : Nat) (ok : Nat → Prop) (x : S56) {v1 : Value} (g1 : (Kd.int .i64).R 3 w base ok v1 x.f1) {v3 : Value} (g3 : (Kd.int .i64).R 3 w base ok v3 x.f2.f1) : k56.M w base ok x [.int .i64 x.f0, v1, .int .i64 x.f2.f0, v3, .int .i64 x.f3] := ⟨[.int .i64 x.f0], [v1, .int .i64 x.f2.f0, v3, .int .i64 x.f3], rfl, rfl, ⟨[v1], [.int .i64 x.f2.f0, v3, .int .i64 x.f3], rfl, ⟨v1, rfl, g1⟩, ⟨[.int .i64 x.f2.f0, v3], [.int .i64 x.f3], rfl, (k54_mkM w base ok x.f2 g3), rfl⟩⟩⟩
theorem qt_ (W : World) (ok : Nat → Prop) (x : S56) {A1 : Option Addr} {c1 : Nat} (l1 : x.f1.length ≤ c1) (g1 : Kd.F (Kd.int .i64) W ok A1 x.f1.length x.f1) {A3 : Option Addr} {c3 : Nat} (l3 : x.f2.f1.length ≤ c3) (g3 : Kd.F (Kd.int .i64) W ok A3 x.f2.f1.length x.f2.f1) : Kd.FK k56 W ok x [.int .i64 x.f0, .slice A1 x.f1.length c1, .int .i64 x.f2.f0, .slice A3 x.f2.f1.length c3, .int .i64 x.f3] := fun W2 hW => k56_mk W2 x l1 (g1 W2 hW) l3 (g3 W2 hW)
def yb_ (xs : List S56) (i : Int) : S56 := xs.getD i.toNat z56
theorem bj_ {w : World} {A : Option Addr} {n : Nat} {xs : List S56} (h : Kd.C k56 w A n xs) (i : Int) (h0 : 0 ≤ i) (h1 : i < n) : ∃ ad A1 c1 A3 c3, A = some ad ∧ w.cell? (ad.add (i.toNat * 5)) = some (.int .i64 (yb_ xs i).f0) ∧ w.cell? ⟨(ad.add (i.toNat * 5)).block, (ad.add (i.toNat * 5)).off + 1, none⟩ = some (.slice A1 (yb_ xs i).f1.length c1) ∧ w.cell? ⟨(ad.add (i.toNat * 5)).block, (ad.add (i.toNat * 5)).off + 2, none⟩ = some (.int .i64 (yb_ xs i).f2.f0) ∧ w.cell? ⟨(ad.add (i.toNat * 5)).block, (ad.add (i.toNat * 5)).off + 3, none⟩ = some (.slice A3 (yb_ xs i).f2.f1.length c3) ∧ w.cell? ⟨(ad.add (i.toNat * 5)).block, (ad.add (i.toNat * 5)).off + 4, none⟩ = some (.int .i64 (yb_ xs i).f3) ∧ (yb_ xs i).f1.length ≤ c1 ∧ (Kd.int .i64).C w A1 (yb_ xs i).f1.length (yb_ xs i).f1 ∧ (yb_ xs i).f2.f1.length ≤ c3 ∧ (Kd.int .i64).C w A3 (yb_ xs i).f2.f1.length (yb_ xs i).f2.f1 := by
 obtain ⟨ad, c, e, _, hK, hc0⟩ := Kd.C_get h z56 i h0 h1
 have hc : ∀ j u, c[j]? = some u → w.cell? (ad.add (i.toNat * 5 + j)) = some u := hc0
 obtain ⟨A1, c1, A3, c3, rfl, l1, g1, l3, g3⟩ := qq_ hK
 exact ⟨ad, A1, c1, A3, c3, e, hc 0 _ rfl, by rw [← ac_ _ _ 1 (by omega)]; exact hc 1 _ rfl, by rw [← ac_ _ _ 2 (by omega)]; exact hc 2 _ rfl, by rw [← ac_ _ _ 3 (by omega)]; exact hc 3 _ rfl, by rw [← ac_ _ _ 4 (by omega)]; exact hc 4 _ rfl, l1, g1, l3, g3⟩
structure S48 where
 f0 : Int
 f1 : ByteArray
 f2 : Int
 f3 : Int
 f4 : Int
def z48 : S48 := ⟨(0 : Int), (⟨#[]⟩ : BA), (0 : Int), (0 : Int), (0 : Int)⟩
def k48 : Kd S48 := Kd.iso (Kd.pair (Kd.int .i64) (Kd.pair Kd.string (Kd.pair (Kd.int .i64) (Kd.pair (Kd.int .i64) (Kd.int .i64))))) (fun x : S48 => (x.f0, x.f1, x.f2, x.f3, x.f4))
theorem rq_ {w : World} {x : S48} {cs : List Value} (h : k48.K w x cs) : cs = [.int .i64 x.f0, .string x.f1, .int .i64 x.f2, .int .i64 x.f3, .int .i64 x.f4] := by
 obtain ⟨_, _, rfl, rfl, ⟨_, _, rfl, rfl, ⟨_, _, rfl, rfl, ⟨_, _, rfl, rfl, rfl⟩⟩⟩⟩ := h
 exact rfl
theorem xu_ {w : World} {base : Nat} {ok : Nat → Prop} {x : S48} {cs : List Value} (h : k48.M w base ok x cs) : cs = [.int .i64 x.f0, .string x.f1, .int .i64 x.f2, .int .i64 x.f3, .int .i64 x.f4] := by
 obtain ⟨_, _, rfl, rfl, ⟨_, _, rfl, rfl, ⟨_, _, rfl, rfl, ⟨_, _, rfl, rfl, rfl⟩⟩⟩⟩ := h
 exact rfl
theorem bp_ (w : World) (base : Nat) (ok : Nat → Prop) (x : S48)  : k48.M w base ok x [.int .i64 x.f0, .string x.f1, .int .i64 x.f2, .int .i64 x.f3, .int .i64 x.f4] := ⟨[.int .i64 x.f0], [.string x.f1, .int .i64 x.f2, .int .i64 x.f3, .int .i64 x.f4], rfl, rfl, ⟨[.string x.f1], [.int .i64 x.f2, .int .i64 x.f3, .int .i64 x.f4], rfl, rfl, ⟨[.int .i64 x.f2], [.int .i64 x.f3, .int .i64 x.f4], rfl, rfl, ⟨[.int .i64 x.f3], [.int .i64 x.f4], rfl, rfl, rfl⟩⟩⟩⟩
def qd_ (xs : List S48) (i : Int) : S48 := xs.getD i.toNat z48
theorem zs_ {w : World} {A : Option Addr} {n : Nat} {xs : List S48} (h : Kd.C k48 w A n xs) (i : Int) (h0 : 0 ≤ i) (h1 : i < n) : ∃ ad , A = some ad ∧ w.cell? (ad.add (i.toNat * 5)) = some (.int .i64 (qd_ xs i).f0) ∧ w.cell? ⟨(ad.add (i.toNat * 5)).block, (ad.add (i.toNat * 5)).off + 1, none⟩ = some (.string (qd_ xs i).f1) ∧ w.cell? ⟨(ad.add (i.toNat * 5)).block, (ad.add (i.toNat * 5)).off + 2, none⟩ = some (.int .i64 (qd_ xs i).f2) ∧ w.cell? ⟨(ad.add (i.toNat * 5)).block, (ad.add (i.toNat * 5)).off + 3, none⟩ = some (.int .i64 (qd_ xs i).f3) ∧ w.cell? ⟨(ad.add (i.toNat * 5)).block, (ad.add (i.toNat * 5)).off + 4, none⟩ = some (.int .i64 (qd_ xs i).f4) := by
 obtain ⟨ad, c, e, _, hK, hc0⟩ := Kd.C_get h z48 i h0 h1
 have hc : ∀ j u, c[j]? = some u → w.cell? (ad.add (i.toNat * 5 + j)) = some u := hc0
 obtain rfl := rq_ hK
 exact ⟨ad, e, hc 0 _ rfl, by rw [← ac_ _ _ 1 (by omega)]; exact hc 1 _ rfl, by rw [← ac_ _ _ 2 (by omega)]; exact hc 2 _ rfl, by rw [← ac_ _ _ 3 (by omega)]; exact hc 3 _ rfl, by rw [← ac_ _ _ 4 (by omega)]; exact hc 4 _ rfl⟩
structure S52 where
 f0 : Int
 f1 : (List S48)
def z52 : S52 := ⟨(0 : Int), ([] : List S48)⟩
def k52 : Kd S52 := Kd.iso (Kd.pair (Kd.int .i64) (Kd.slice 48 k48)) (fun x : S52 => (x.f0, x.f1))
theorem k52_open {w : World} {x : S52} {cs : List Value} (h : k52.K w x cs) : ∃ A1 c1, cs = [.int .i64 x.f0, .slice A1 x.f1.length c1] ∧ x.f1.length ≤ c1 ∧ k48.C w A1 x.f1.length x.f1 := by
 obtain ⟨_, _, rfl, rfl, ⟨A1, c1, rfl, l1, g1⟩⟩ := h
 exact ⟨A1, c1, rfl, l1, g1⟩
theorem xn_ {w : World} {base : Nat} {ok : Nat → Prop} {x : S52} {cs : List Value} (h : k52.M w base ok x cs) : ∃ v1, cs = [.int .i64 x.f0, v1] ∧ k48.R 48 w base ok v1 x.f1 := by
 obtain ⟨_, _, rfl, rfl, ⟨v1, rfl, g1⟩⟩ := h
 exact ⟨v1, rfl, g1⟩
theorem ap_ (w : World) (base : Nat) (ok : Nat → Prop) (x : S52) {v1 : Value} (g1 : k48.R 48 w base ok v1 x.f1) : k52.M w base ok x [.int .i64 x.f0, v1] := ⟨[.int .i64 x.f0], [v1], rfl, rfl, ⟨v1, rfl, g1⟩⟩
def he_ (xs : List S52) (i : Int) : S52 := xs.getD i.toNat z52
theorem ip_ {w : World} {A : Option Addr} {n : Nat} {xs : List S52} (h : Kd.C k52 w A n xs) (i : Int) (h0 : 0 ≤ i) (h1 : i < n) : ∃ ad A1 c1, A = some ad ∧ w.cell? (ad.add (i.toNat * 2)) = some (.int .i64 (he_ xs i).f0) ∧ w.cell? ⟨(ad.add (i.toNat * 2)).block, (ad.add (i.toNat * 2)).off + 1, none⟩ = some (.slice A1 (he_ xs i).f1.length c1) ∧ (he_ xs i).f1.length ≤ c1 ∧ k48.C w A1 (he_ xs i).f1.length (he_ xs i).f1 := by
 obtain ⟨ad, c, e, _, hK, hc0⟩ := Kd.C_get h z52 i h0 h1
 have hc : ∀ j u, c[j]? = some u → w.cell? (ad.add (i.toNat * 2 + j)) = some u := hc0
 obtain ⟨A1, c1, rfl, l1, g1⟩ := k52_open hK
 exact ⟨ad, A1, c1, e, hc 0 _ rfl, by rw [← ac_ _ _ 1 (by omega)]; exact hc 1 _ rfl, l1, g1⟩
structure S44 where
 f0 : ByteArray
 f1 : Int
 f2 : Int
 f3 : (List S46)
 f4 : (List S56)
 f5 : (List S52)
def z44 : S44 := ⟨(⟨#[]⟩ : BA), (0 : Int), (0 : Int), ([] : List S46), ([] : List S56), ([] : List S52)⟩
def k44 : Kd S44 := Kd.iso (Kd.pair Kd.string (Kd.pair (Kd.int .i64) (Kd.pair (Kd.int .i64) (Kd.pair (Kd.slice 46 k46) (Kd.pair (Kd.slice 56 k56) (Kd.slice 52 k52)))))) (fun x : S44 => (x.f0, x.f1, x.f2, x.f3, x.f4, x.f5))
theorem em_ {w : World} {x : S44} {cs : List Value} (h : k44.K w x cs) : ∃ A3 c3 A4 c4 A5 c5, cs = [.string x.f0, .int .i64 x.f1, .int .i64 x.f2, .slice A3 x.f3.length c3, .slice A4 x.f4.length c4, .slice A5 x.f5.length c5] ∧ x.f3.length ≤ c3 ∧ k46.C w A3 x.f3.length x.f3 ∧ x.f4.length ≤ c4 ∧ k56.C w A4 x.f4.length x.f4 ∧ x.f5.length ≤ c5 ∧ k52.C w A5 x.f5.length x.f5 := by
 obtain ⟨_, _, rfl, rfl, ⟨_, _, rfl, rfl, ⟨_, _, rfl, rfl, ⟨_, _, rfl, ⟨A3, c3, rfl, l3, g3⟩, ⟨_, _, rfl, ⟨A4, c4, rfl, l4, g4⟩, ⟨A5, c5, rfl, l5, g5⟩⟩⟩⟩⟩⟩ := h
 exact ⟨A3, c3, A4, c4, A5, c5, rfl, l3, g3, l4, g4, l5, g5⟩
theorem zu_ {w : World} {base : Nat} {ok : Nat → Prop} {x : S44} {cs : List Value} (h : k44.M w base ok x cs) : ∃ v3 v4 v5, cs = [.string x.f0, .int .i64 x.f1, .int .i64 x.f2, v3, v4, v5] ∧ k46.R 46 w base ok v3 x.f3 ∧ k56.R 56 w base ok v4 x.f4 ∧ k52.R 52 w base ok v5 x.f5 := by
 obtain ⟨_, _, rfl, rfl, ⟨_, _, rfl, rfl, ⟨_, _, rfl, rfl, ⟨_, _, rfl, ⟨v3, rfl, g3⟩, ⟨_, _, rfl, ⟨v4, rfl, g4⟩, ⟨v5, rfl, g5⟩⟩⟩⟩⟩⟩ := h
 exact ⟨v3, v4, v5, rfl, g3, g4, g5⟩
theorem ls_ (w : World) (x : S44) {A3 : Option Addr} {c3 : Nat} (l3 : x.f3.length ≤ c3) (g3 : k46.C w A3 x.f3.length x.f3) {A4 : Option Addr} {c4 : Nat} (l4 : x.f4.length ≤ c4) (g4 : k56.C w A4 x.f4.length x.f4) {A5 : Option Addr} {c5 : Nat} (l5 : x.f5.length ≤ c5) (g5 : k52.C w A5 x.f5.length x.f5) : k44.K w x [.string x.f0, .int .i64 x.f1, .int .i64 x.f2, .slice A3 x.f3.length c3, .slice A4 x.f4.length c4, .slice A5 x.f5.length c5] := ⟨[.string x.f0], [.int .i64 x.f1, .int .i64 x.f2, .slice A3 x.f3.length c3, .slice A4 x.f4.length c4, .slice A5 x.f5.length c5], rfl, rfl, ⟨[.int .i64 x.f1], [.int .i64 x.f2, .slice A3 x.f3.length c3, .slice A4 x.f4.length c4, .slice A5 x.f5.length c5], rfl, rfl, ⟨[.int .i64 x.f2], [.slice A3 x.f3.length c3, .slice A4 x.f4.length c4, .slice A5 x.f5.length c5], rfl, rfl, ⟨[.slice A3 x.f3.length c3], [.slice A4 x.f4.length c4, .slice A5 x.f5.length c5], rfl, ⟨A3, c3, rfl, l3, g3⟩, ⟨[.slice A4 x.f4.length c4], [.slice A5 x.f5.length c5], rfl, ⟨A4, c4, rfl, l4, g4⟩, ⟨A5, c5, rfl, l5, g5⟩⟩⟩⟩⟩⟩
theorem k44_mkM (w : World) (base : Nat) (ok : Nat → Prop) (x : S44) {v3 : Value} (g3 : k46.R 46 w base ok v3 x.f3) {v4 : Value} (g4 : k56.R 56 w base ok v4 x.f4) {v5 : Value} (g5 : k52.R 52 w base ok v5 x.f5) : k44.M w base ok x [.string x.f0, .int .i64 x.f1, .int .i64 x.f2, v3, v4, v5] := ⟨[.string x.f0], [.int .i64 x.f1, .int .i64 x.f2, v3, v4, v5], rfl, rfl, ⟨[.int .i64 x.f1], [.int .i64 x.f2, v3, v4, v5], rfl, rfl, ⟨[.int .i64 x.f2], [v3, v4, v5], rfl, rfl, ⟨[v3], [v4, v5], rfl, ⟨v3, rfl, g3⟩, ⟨[v4], [v5], rfl, ⟨v4, rfl, g4⟩, ⟨v5, rfl, g5⟩⟩⟩⟩⟩⟩
theorem ml_ (W : World) (ok : Nat → Prop) (x : S44) {A3 : Option Addr} {c3 : Nat} (l3 : x.f3.length ≤ c3) (g3 : Kd.F k46 W ok A3 x.f3.length x.f3) {A4 : Option Addr} {c4 : Nat} (l4 : x.f4.length ≤ c4) (g4 : Kd.F k56 W ok A4 x.f4.length x.f4) {A5 : Option Addr} {c5 : Nat} (l5 : x.f5.length ≤ c5) (g5 : Kd.F k52 W ok A5 x.f5.length x.f5) : Kd.FK k44 W ok x [.string x.f0, .int .i64 x.f1, .int .i64 x.f2, .slice A3 x.f3.length c3, .slice A4 x.f4.length c4, .slice A5 x.f5.length c5] := fun W2 hW => ls_ W2 x l3 (g3 W2 hW) l4 (g4 W2 hW) l5 (g5 W2 hW)
def ya_ (xs : List S44) (i : Int) : S44 := xs.getD i.toNat z44
theorem lg_ {w : World} {A : Option Addr} {n : Nat} {xs : List S44} (h : Kd.C k44 w A n xs) (i : Int) (h0 : 0 ≤ i) (h1 : i < n) : ∃ ad A3 c3 A4 c4 A5 c5, A = some ad ∧ w.cell? (ad.add (i.toNat * 6)) = some (.string (ya_ xs i).f0) ∧ w.cell? ⟨(ad.add (i.toNat * 6)).block, (ad.add (i.toNat * 6)).off + 1, none⟩ = some (.int .i64 (ya_ xs i).f1) ∧ w.cell? ⟨(ad.add (i.toNat * 6)).block, (ad.add (i.toNat * 6)).off + 2, none⟩ = some (.int .i64 (ya_ xs i).f2) ∧ w.cell? ⟨(ad.add (i.toNat * 6)).block, (ad.add (i.toNat * 6)).off + 3, none⟩ = some (.slice A3 (ya_ xs i).f3.length c3) ∧ w.cell? ⟨(ad.add (i.toNat * 6)).block, (ad.add (i.toNat * 6)).off + 4, none⟩ = some (.slice A4 (ya_ xs i).f4.length c4) ∧ w.cell? ⟨(ad.add (i.toNat * 6)).block, (ad.add (i.toNat * 6)).off + 5, none⟩ = some (.slice A5 (ya_ xs i).f5.length c5) ∧ (ya_ xs i).f3.length ≤ c3 ∧ k46.C w A3 (ya_ xs i).f3.length (ya_ xs i).f3 ∧ (ya_ xs i).f4.length ≤ c4 ∧ k56.C w A4 (ya_ xs i).f4.length (ya_ xs i).f4 ∧ (ya_ xs i).f5.length ≤ c5 ∧ k52.C w A5 (ya_ xs i).f5.length (ya_ xs i).f5 := by
 obtain ⟨ad, c, e, _, hK, hc0⟩ := Kd.C_get h z44 i h0 h1
 have hc : ∀ j u, c[j]? = some u → w.cell? (ad.add (i.toNat * 6 + j)) = some u := hc0
 obtain ⟨A3, c3, A4, c4, A5, c5, rfl, l3, g3, l4, g4, l5, g5⟩ := em_ hK
 exact ⟨ad, A3, c3, A4, c4, A5, c5, e, hc 0 _ rfl, by rw [← ac_ _ _ 1 (by omega)]; exact hc 1 _ rfl, by rw [← ac_ _ _ 2 (by omega)]; exact hc 2 _ rfl, by rw [← ac_ _ _ 3 (by omega)]; exact hc 3 _ rfl, by rw [← ac_ _ _ 4 (by omega)]; exact hc 4 _ rfl, by rw [← ac_ _ _ 5 (by omega)]; exact hc 5 _ rfl, l3, g3, l4, g4, l5, g5⟩
structure S192 where
 f0 : Int
 f1 : Int
 f2 : Int
 f3 : Int
def z192 : S192 := ⟨(0 : Int), (0 : Int), (0 : Int), (0 : Int)⟩
def k192 : Kd S192 := Kd.iso (Kd.pair (Kd.int .i64) (Kd.pair (Kd.int .i64) (Kd.pair (Kd.int .i64) (Kd.int .i64)))) (fun x : S192 => (x.f0, x.f1, x.f2, x.f3))
theorem av_ {w : World} {x : S192} {cs : List Value} (h : k192.K w x cs) : cs = [.int .i64 x.f0, .int .i64 x.f1, .int .i64 x.f2, .int .i64 x.f3] := by
 obtain ⟨_, _, rfl, rfl, ⟨_, _, rfl, rfl, ⟨_, _, rfl, rfl, rfl⟩⟩⟩ := h
 exact rfl
theorem vc_ (w : World) (base : Nat) (ok : Nat → Prop) (x : S192)  : k192.M w base ok x [.int .i64 x.f0, .int .i64 x.f1, .int .i64 x.f2, .int .i64 x.f3] := ⟨[.int .i64 x.f0], [.int .i64 x.f1, .int .i64 x.f2, .int .i64 x.f3], rfl, rfl, ⟨[.int .i64 x.f1], [.int .i64 x.f2, .int .i64 x.f3], rfl, rfl, ⟨[.int .i64 x.f2], [.int .i64 x.f3], rfl, rfl, rfl⟩⟩⟩
def fg_ (xs : List S192) (i : Int) : S192 := xs.getD i.toNat z192
theorem at_T192 {w : World} {A : Option Addr} {n : Nat} {xs : List S192} (h : Kd.C k192 w A n xs) (i : Int) (h0 : 0 ≤ i) (h1 : i < n) : ∃ ad , A = some ad ∧ w.cell? (ad.add (i.toNat * 4)) = some (.int .i64 (fg_ xs i).f0) ∧ w.cell? ⟨(ad.add (i.toNat * 4)).block, (ad.add (i.toNat * 4)).off + 1, none⟩ = some (.int .i64 (fg_ xs i).f1) ∧ w.cell? ⟨(ad.add (i.toNat * 4)).block, (ad.add (i.toNat * 4)).off + 2, none⟩ = some (.int .i64 (fg_ xs i).f2) ∧ w.cell? ⟨(ad.add (i.toNat * 4)).block, (ad.add (i.toNat * 4)).off + 3, none⟩ = some (.int .i64 (fg_ xs i).f3) := by
 obtain ⟨ad, c, e, _, hK, hc0⟩ := Kd.C_get h z192 i h0 h1
 have hc : ∀ j u, c[j]? = some u → w.cell? (ad.add (i.toNat * 4 + j)) = some u := hc0
 obtain rfl := av_ hK
 exact ⟨ad, e, hc 0 _ rfl, by rw [← ac_ _ _ 1 (by omega)]; exact hc 1 _ rfl, by rw [← ac_ _ _ 2 (by omega)]; exact hc 2 _ rfl, by rw [← ac_ _ _ 3 (by omega)]; exact hc 3 _ rfl⟩
structure S120 where
 f0 : Int
 f1 : Int
 f2 : Int
 f3 : (List Int)
 f4 : (List Int)
def z120 : S120 := ⟨(0 : Int), (0 : Int), (0 : Int), ([] : List Int), ([] : List Int)⟩
def k120 : Kd S120 := Kd.iso (Kd.pair (Kd.int .i64) (Kd.pair (Kd.int .i64) (Kd.pair (Kd.int .i64) (Kd.pair (Kd.slice 3 (Kd.int .i64)) (Kd.slice 3 (Kd.int .i64)))))) (fun x : S120 => (x.f0, x.f1, x.f2, x.f3, x.f4))
theorem bv_ {w : World} {x : S120} {cs : List Value} (h : k120.K w x cs) : ∃ A3 c3 A4 c4, cs = [.int .i64 x.f0, .int .i64 x.f1, .int .i64 x.f2, .slice A3 x.f3.length c3, .slice A4 x.f4.length c4] ∧ x.f3.length ≤ c3 ∧ (Kd.int .i64).C w A3 x.f3.length x.f3 ∧ x.f4.length ≤ c4 ∧ (Kd.int .i64).C w A4 x.f4.length x.f4 := by
 obtain ⟨_, _, rfl, rfl, ⟨_, _, rfl, rfl, ⟨_, _, rfl, rfl, ⟨_, _, rfl, ⟨A3, c3, rfl, l3, g3⟩, ⟨A4, c4, rfl, l4, g4⟩⟩⟩⟩⟩ := h
 exact ⟨A3, c3, A4, c4, rfl, l3, g3, l4, g4⟩
theorem k120_mk (w : World) (x : S120) {A3 : Option Addr} {c3 : Nat} (l3 : x.f3.length ≤ c3) (g3 : (Kd.int .i64).C w A3 x.f3.length x.f3) {A4 : Option Addr} {c4 : Nat} (l4 : x.f4.length ≤ c4) (g4 : (Kd.int .i64).C w A4 x.f4.length x.f4) : k120.K w x [.int .i64 x.f0, .int .i64 x.f1, .int .i64 x.f2, .slice A3 x.f3.length c3, .slice A4 x.f4.length c4] := ⟨[.int .i64 x.f0], [.int .i64 x.f1, .int .i64 x.f2, .slice A3 x.f3.length c3, .slice A4 x.f4.length c4], rfl, rfl, ⟨[.int .i64 x.f1], [.int .i64 x.f2, .slice A3 x.f3.length c3, .slice A4 x.f4.length c4], rfl, rfl, ⟨[.int .i64 x.f2], [.slice A3 x.f3.length c3, .slice A4 x.f4.length c4], rfl, rfl, ⟨[.slice A3 x.f3.length c3], [.slice A4 x.f4.length c4], rfl, ⟨A3, c3, rfl, l3, g3⟩, ⟨A4, c4, rfl, l4, g4⟩⟩⟩⟩⟩
def ta_ (xs : List S120) (i : Int) : S120 := xs.getD i.toNat z120
theorem hh_ {w : World} {A : Option Addr} {n : Nat} {xs : List S120} (h : Kd.C k120 w A n xs) (i : Int) (h0 : 0 ≤ i) (h1 : i < n) : ∃ ad A3 c3 A4 c4, A = some ad ∧ w.cell? (ad.add (i.toNat * 5)) = some (.int .i64 (ta_ xs i).f0) ∧ w.cell? ⟨(ad.add (i.toNat * 5)).block, (ad.add (i.toNat * 5)).off + 1, none⟩ = some (.int .i64 (ta_ xs i).f1) ∧ w.cell? ⟨(ad.add (i.toNat * 5)).block, (ad.add (i.toNat * 5)).off + 2, none⟩ = some (.int .i64 (ta_ xs i).f2) ∧ w.cell? ⟨(ad.add (i.toNat * 5)).block, (ad.add (i.toNat * 5)).off + 3, none⟩ = some (.slice A3 (ta_ xs i).f3.length c3) ∧ w.cell? ⟨(ad.add (i.toNat * 5)).block, (ad.add (i.toNat * 5)).off + 4, none⟩ = some (.slice A4 (ta_ xs i).f4.length c4) ∧ (ta_ xs i).f3.length ≤ c3 ∧ (Kd.int .i64).C w A3 (ta_ xs i).f3.length (ta_ xs i).f3 ∧ (ta_ xs i).f4.length ≤ c4 ∧ (Kd.int .i64).C w A4 (ta_ xs i).f4.length (ta_ xs i).f4 := by
 obtain ⟨ad, c, e, _, hK, hc0⟩ := Kd.C_get h z120 i h0 h1
 have hc : ∀ j u, c[j]? = some u → w.cell? (ad.add (i.toNat * 5 + j)) = some u := hc0
 obtain ⟨A3, c3, A4, c4, rfl, l3, g3, l4, g4⟩ := bv_ hK
 exact ⟨ad, A3, c3, A4, c4, e, hc 0 _ rfl, by rw [← ac_ _ _ 1 (by omega)]; exact hc 1 _ rfl, by rw [← ac_ _ _ 2 (by omega)]; exact hc 2 _ rfl, by rw [← ac_ _ _ 3 (by omega)]; exact hc 3 _ rfl, by rw [← ac_ _ _ 4 (by omega)]; exact hc 4 _ rfl, l3, g3, l4, g4⟩
noncomputable def l4_within.f (a0 : Int) (a1 : Int) : Option (Int) := if a1 = 0 then (none) else (if (Int.tmod a0 a1) < 0 then (some (wrap64 ((Int.tmod a0 a1) + a1))) else (some (Int.tmod a0 a1)))
theorem l4_within.calls (a0 : Int) (a1 : Int) (r : Int) (w : World) (h : l4_within.f a0 a1 = some r) :
  Calls Tryz.prog 122 #[.int .i64 a0, .int .i64 a1] w fun e w' => e = .returned (.int .i64 r) ∧ Drawn0 w w' := by
 have H : (if a1 = 0 then (none) else (if (Int.tmod a0 a1) < 0 then (some (wrap64 ((Int.tmod a0 a1) + a1))) else (some (Int.tmod a0 a1)))) = some r := h
 clear h
 by_cases c3 : a1 = 0
 ·rw [if_pos c3] at H
  exact absurd H (by simp)
 rw [if_neg c3] at H
 have c3b0 : (a1 == 0) = false := beq_eq_false_iff_ne.mpr c3
 have c3b1 : (a1 != 0) = true := bne_iff_ne.mpr c3
 by_cases c4 : (Int.tmod a0 a1) < 0
 ·rw [if_pos c4] at H
  have c4b0 : decide ((Int.tmod a0 a1) < 0) = true := decide_eq_true c4; clear c4; obtain rfl := Option.some.inj H
  go_enter Tryz.func122, Tryz.ntmps122
  go_wp2
  go_ret
  exact ⟨by first | rfl | (simp; done) | (simp [*]; done), by repeat (first | exact Drawn0.refl _ | apply Drawn0.step)⟩
 rw [if_neg c4] at H
 have c4b0 : decide ((Int.tmod a0 a1) < 0) = false := decide_eq_false c4
 clear c4
 obtain rfl := Option.some.inj H
 go_enter Tryz.func122, Tryz.ntmps122
 go_wp2
 go_ret
 exact ⟨by first | rfl | (simp; done) | (simp [*]; done), by repeat (first | exact Drawn0.refl _ | apply Drawn0.step)⟩
mutual
noncomputable def l4_Raw_Make.l0 : Nat → Int → Int → Int → Int → Int → Int → List Int → List Int → Int → List Int → Int → Int → Option (Int × List Int × Int × List Int × Int)
 | 0, _, _, _, _, _, _, _, _, _, _, _, _ => none
 | k + 1, x1, x6, x7, x284000, x284001, x284002, x284003, x284004, x288000, x288001, x288002, x288004 => (l4_within.f (x284003.length : Int) 3).bind fun t293 => (if x7 < (wrap64 (1 + t293)) then (l4_Raw_Make.j1 k x1 x6 x7 true x284000 x284001 x284002 x284003 x284004 x288000 x288001 x288002 x288004) else (if x7 < x6 then ((l4_within.f (wrap64 (Int.tdiv x284001 16)) 2).bind fun t294 => (l4_Raw_Make.j1 k x1 x6 x7 (t294 == 0) x284000 x284001 x284002 x284003 x284004 x288000 x288001 x288002 x288004)) else (l4_Raw_Make.j1 k x1 x6 x7 false x284000 x284001 x284002 x284003 x284004 x288000 x288001 x288002 x288004)))
noncomputable def l4_Raw_Make.j1 : Nat → Int → Int → Int → Bool → Int → Int → Int → List Int → List Int → Int → List Int → Int → Int → Option (Int × List Int × Int × List Int × Int)
 | 0, _, _, _, _, _, _, _, _, _, _, _, _, _ => none
 | k + 1, x1, x6, x7, x49, x284000, x284001, x284002, x284003, x284004, x288000, x288001, x288002, x288004 => if x49 = true then (if x7 < (x284003.length : Int) then (if 0 ≤ x7 then (l4_Raw_Make.j2 k x1 x6 x7 (rd x284003 x7) x284000 x284001 x284002 x284003 x284004 x288000 x288001 x288002 x288004) else (none)) else (l4_Raw_Make.j2 k x1 x6 x7 x7 x284000 x284001 x284002 x284003 x284004 x288000 x288001 x288002 x288004)) else (l4_Raw_Make.l1 k x6 0 x284000 x284001 x284002 x284003 x284004 x288000 x288001 x288002 ([] : List Int) x288004)
noncomputable def l4_Raw_Make.j2 : Nat → Int → Int → Int → Int → Int → Int → Int → List Int → List Int → Int → List Int → Int → Int → Option (Int × List Int × Int × List Int × Int)
 | 0, _, _, _, _, _, _, _, _, _, _, _, _, _ => none
 | k + 1, x1, x6, x7, x8, x284000, x284001, x284002, x284003, x284004, x288000, x288001, x288002, x288004 => (l4_within.f x8 x1).bind fun t296 => ((l4_within.f (wrap64 (Int.tdiv x8 20)) 2).bind fun t297 => (if t297 = 0 then ((some (([0, 0, 0, 1, 2, 3, 50, 51, 52, 53, 54] : List Int) : List Int)).bind fun y298 => ((l4_within.f (wrap64 (Int.tdiv x8 40)) 11).bind fun t301 => (if 0 ≤ t301 then (if t301 < (y298.length : Int) then (if x288001.length < 17592186044416 then (l4_Raw_Make.l0 k x1 x6 (wrap64 (x7 + 1)) x284000 x284001 x284002 x284003 x284004 x288000 (x288001 ++ [wrap64 ((-1) - (rd y298 t301))]) x288002 x288004) else (none)) else (none)) else (none)))) else (if x288001.length < 17592186044416 then (l4_Raw_Make.l0 k x1 x6 (wrap64 (x7 + 1)) x284000 x284001 x284002 x284003 x284004 x288000 (x288001 ++ [t296]) x288002 x288004) else (none))))
noncomputable def l4_Raw_Make.l1 : Nat → Int → Int → Int → Int → Int → List Int → List Int → Int → List Int → Int → List Int → Int → Option (Int × List Int × Int × List Int × Int)
 | 0, _, _, _, _, _, _, _, _, _, _, _, _ => none
 | k + 1, x6, x10, x284000, x284001, x284002, x284003, x284004, x288000, x288001, x288002, x288003, x288004 => if x10 < x6 then (if x10 < (x284004.length : Int) then (if 0 ≤ x10 then ((l4_within.f (rd x284004 x10) (x288001.length : Int)).bind fun t310 => (if x288003.length < 17592186044416 then (l4_Raw_Make.l1 k x6 (wrap64 (x10 + 1)) x284000 x284001 x284002 x284003 x284004 x288000 x288001 x288002 (x288003 ++ [t310]) x288004) else (none))) else (none)) else ((l4_within.f x10 (x288001.length : Int)).bind fun t314 => (if x288003.length < 17592186044416 then (l4_Raw_Make.l1 k x6 (wrap64 (x10 + 1)) x284000 x284001 x284002 x284003 x284004 x288000 x288001 x288002 (x288003 ++ [t314]) x288004) else (none)))) else (some (x288000, x288001, x288002, x288003, x288004))
end
noncomputable def l4_Raw_Make.f (k : Nat) (a0_0 : Int) (a0_1 : Int) (a0_2 : Int) (l0_3 : List Int) (l0_4 : List Int) (a1 : Int) : Option (Int × List Int × Int × List Int × Int) := (l4_within.f a0_0 a1).bind fun t285 => ((l4_within.f a0_2 101).bind fun t286 => ((l4_within.f a0_1 16).bind fun t288 => ((some (([1, 3, 2, 2, 2, 2, 3, 1, 1, 2, 1, 1, 2, 2, 2, 2] : List Int) : List Int)).bind fun y289 => (if 0 ≤ t288 then (if t288 < (y289.length : Int) then (l4_Raw_Make.l0 k a1 (rd y289 t288) 0 a0_0 a0_1 a0_2 l0_3 l0_4 t285 ([] : List Int) t288 t286) else (none)) else (none)))))
def l4_Raw_Make.T1 : Bool × List (List Nat × List Nat) := (true, [([], []), ([0], [0]), ([], []), ([1, 2], [1, 2]), ([], []), ([4], [4]), ([5, 3], [5]), ([3, 6], [3, 6]), ([], []), ([8, 7, 6, 0, 1, 2, 3, 4, 5, 6, 7, 8], [7, 8])])
def l4_Raw_Make.B1 : List Nat := [0, 1, 0, 7, 0, 16, 63, 127, 0, 511]
theorem l4_Raw_Make.tab1 : rtab .any (opsOf Tryz.f73 1) = l4_Raw_Make.T1 := by kernel_rfl
theorem l4_Raw_Make.bits1 : yg_ l4_Raw_Make.T1.2 l4_Raw_Make.B1 = true := by kernel_rfl
def l4_Raw_Make.T20 : Bool × List (List Nat × List Nat) := (true, [([], []), ([0], [0]), ([1], [1]), ([], []), ([], []), ([4], [4]), ([5], [5]), ([3, 6], [3, 6]), ([7], [7]), ([2, 8, 7], [2, 8]), ([0, 1, 2, 3, 4, 5, 6, 7, 8, 9], []), ([10, 0, 1, 2, 3, 4, 5, 6, 7, 8, 9], [10]), ([11, 9, 9, 0, 1, 2, 3, 4, 5, 6, 7, 8, 9], [9, 11])])
def l4_Raw_Make.B20 : List Nat := [0, 1, 3, 0, 0, 16, 48, 120, 248, 511, 1023, 2047, 4095]
theorem l4_Raw_Make.tab20 : rtab .any (opsOf Tryz.f73 20) = l4_Raw_Make.T20 := by kernel_rfl
theorem l4_Raw_Make.bits20 : yg_ l4_Raw_Make.T20.2 l4_Raw_Make.B20 = true := by kernel_rfl
theorem l4_Raw_Make.calls (k : Nat) (a0_0 : Int) (a0_1 : Int) (a0_2 : Int) (A0_3 : Option Addr) (c0_3 : Nat) (l0_3 : List Int) (A0_4 : Option Addr) (c0_4 : Nat) (l0_4 : List Int) (a1 : Int) (r1 : Int) (r2 : List Int) (r3 : Int) (r4 : List Int) (r5 : Int) (w : World) (hr0_3 : Kd.C (Kd.int .i64) w A0_3 l0_3.length l0_3) (hc0_3 : l0_3.length ≤ c0_3) (hr0_4 : Kd.C (Kd.int .i64) w A0_4 l0_4.length l0_4) (hc0_4 : l0_4.length ≤ c0_4) (h : l4_Raw_Make.f k a0_0 a0_1 a0_2 l0_3 l0_4 a1 = some (r1, r2, r3, r4, r5)) :
  Calls Tryz.prog 73 #[.agg #[.int .i64 a0_0, .int .i64 a0_1, .int .i64 a0_2, .slice A0_3 l0_3.length c0_3, .slice A0_4 l0_4.length c0_4], .int .i64 a1] w fun e w' => ∃ v1_ v3_ : Value, e = .returned (.agg #[.int .i64 r1, v1_, .int .i64 r3, v3_, .int .i64 r5]) ∧ Kd.R (Kd.int .i64) 3 w' w.heap.size (fun k_ => some k_ ≠ (v3_ : Value).ownBlock) v1_ r2 ∧ Kd.R (Kd.int .i64) 3 w' w.heap.size (fun k_ => some k_ ≠ (v1_ : Value).ownBlock) v3_ r4 ∧ Below w.heap.size w w' := by
 have hu120 := Tryz.underlying120
 have hu56 := Tryz.underlying56
 have HR0_3 := aM_ hr0_3
 have HC0_3 := aM_ hc0_3
 clear hr0_3 hc0_3
 have HR0_4 := aM_ hr0_4
 have HC0_4 := aM_ hc0_4
 clear hr0_4 hc0_4
 have HB := aM_ (Below.refl w.heap.size w)
 have H : ((l4_within.f a0_0 a1).bind fun t285 => ((l4_within.f a0_2 101).bind fun t286 => ((l4_within.f a0_1 16).bind fun t288 => ((some (([1, 3, 2, 2, 2, 2, 3, 1, 1, 2, 1, 1, 2, 2, 2, 2] : List Int) : List Int)).bind fun y289 => (if 0 ≤ t288 then (if t288 < (y289.length : Int) then (l4_Raw_Make.l0 k a1 (rd y289 t288) 0 a0_0 a0_1 a0_2 l0_3 l0_4 t285 ([] : List Int) t288 t286) else (none)) else (none)))))) = some (r1, r2, r3, r4, r5) := h
 clear h
 replace H := Option.bind_eq_some_iff.mp H
 obtain ⟨t285, A30, H⟩ := H
 replace H : ((l4_within.f a0_2 101).bind fun t286 => ((l4_within.f a0_1 16).bind fun t288 => ((some (([1, 3, 2, 2, 2, 2, 3, 1, 1, 2, 1, 1, 2, 2, 2, 2] : List Int) : List Int)).bind fun y289 => (if 0 ≤ t288 then (if t288 < (y289.length : Int) then (l4_Raw_Make.l0 k a1 (rd y289 t288) 0 a0_0 a0_1 a0_2 l0_3 l0_4 t285 ([] : List Int) t288 t286) else (none)) else (none))))) = some (r1, r2, r3, r4, r5) := H
 have A3 := aM_ A30
 clear A30
 replace H := Option.bind_eq_some_iff.mp H
 obtain ⟨t286, A40, H⟩ := H
 replace H : ((l4_within.f a0_1 16).bind fun t288 => ((some (([1, 3, 2, 2, 2, 2, 3, 1, 1, 2, 1, 1, 2, 2, 2, 2] : List Int) : List Int)).bind fun y289 => (if 0 ≤ t288 then (if t288 < (y289.length : Int) then (l4_Raw_Make.l0 k a1 (rd y289 t288) 0 a0_0 a0_1 a0_2 l0_3 l0_4 t285 ([] : List Int) t288 t286) else (none)) else (none)))) = some (r1, r2, r3, r4, r5) := H
 have A4 := aM_ A40
 clear A40
 replace H := Option.bind_eq_some_iff.mp H
 obtain ⟨t288, A50, H⟩ := H
 replace H : ((some (([1, 3, 2, 2, 2, 2, 3, 1, 1, 2, 1, 1, 2, 2, 2, 2] : List Int) : List Int)).bind fun y289 => (if 0 ≤ t288 then (if t288 < (y289.length : Int) then (l4_Raw_Make.l0 k a1 (rd y289 t288) 0 a0_0 a0_1 a0_2 l0_3 l0_4 t285 ([] : List Int) t288 t286) else (none)) else (none))) = some (r1, r2, r3, r4, r5) := H
 have A5 := aM_ A50
 clear A50
 obtain ⟨y289, hy289⟩ : ∃ y_ : List Int, y_ = (([1, 3, 2, 2, 2, 2, 3, 1, 1, 2, 1, 1, 2, 2, 2, 2] : List Int)) := ⟨_, rfl⟩
 replace H : (if 0 ≤ t288 then (if t288 < (y289.length : Int) then (l4_Raw_Make.l0 k a1 (rd y289 t288) 0 a0_0 a0_1 a0_2 l0_3 l0_4 t285 ([] : List Int) t288 t286) else (none)) else (none)) = some (r1, r2, r3, r4, r5) := by first | (rw [hy289]; with_reducible exact H) | (have H2_ := (Option.bind_some _ _).symm.trans H; rw [hy289]; with_reducible exact H2_) | (have H2_ := (Option.bind_some _ _).symm.trans H; with_reducible exact H2_) | with_reducible exact H | (rw [hy289]; exact H) | exact H
 have Ny289 := aM_ hy289
 clear hy289
 by_cases c6 : 0 ≤ t288
 ·rw [if_pos c6] at H
  have c6b0 : decide (0 ≤ t288) = true := decide_eq_true c6; clear c6
  by_cases c7 : t288 < (y289.length : Int)
  ·rw [if_pos c7] at H
   have c7b0 : decide (t288 < (y289.length : Int)) = true := decide_eq_true c7; clear c7; have H' := aM_ H; clear H
   go_enter Tryz.func73, Tryz.ntmps73
   try go_wp2_with (first | ((with_reducible refine ld_ (N := 2) rfl ?_); refine te_ ?hg (N := 2) ?hd (cs := #[.int .i64 a0_0, .int .i64 a0_1, .int .i64 a0_2, .slice A0_3 l0_3.length c0_3, .slice A0_4 l0_4.length c0_4]) (t := 120) ?hr ?_; (case hd => rfl); (case hg => rfl); (case hr => first | (go_simp; done) | (go_simp; rfl)); intro gb283 hg w8 hbox hb; have n0_ := aM_ (fa_ (by repeat (first | (with_reducible first | exact HB.out | apply aa_ | apply ca_ | apply ga_) | exact HB.out)) hb); have n1_ := aM_ (hbox); have n2_ := aM_ ((by rw [hg]; exact (qa_ (by repeat (first | (with_reducible first | exact HB.out | apply aa_ | apply ca_ | apply ga_) | exact HB.out))) : w.heap.size ≤ gb283)); have n3_ := aM_ ((by rw [hg]; exact (qa_ (by repeat (first | (with_reducible first | exact HB.out | apply aa_ | apply ca_ | apply ga_) | exact HB.out))) : w.heap.size ≤ gb283)); clear HB; have HB := n0_; have BK283 := n1_; have GW283 := n2_; have GE283 := n3_; clear n0_ n1_ n2_ n3_; clear hb hbox hg) | ((with_reducible refine ld_ (N := 4) rfl ?_); refine te_ ?hg (N := 4) ?hd (cs := #[.int .i64 0, .slice none 0 0, .int .i64 0, .slice none 0 0, .int .i64 0]) (t := 56) ?hr ?_; (case hd => rfl); (case hg => rfl); (case hr => first | (go_simp; done) | (go_simp; rfl)); intro gb284 hg w9 hbox hb; have n0_ := aM_ (oa_ (g := gb283) (o := .cells #[.int .i64 a0_0, .int .i64 a0_1, .int .i64 a0_2, .slice A0_3 l0_3.length c0_3, .slice A0_4 l0_4.length c0_4] 120 (0, 0)) (by (with_reducible repeat (first | refine la_ ?_ _ | refine ma_ ?_ | refine ka_ ?_ _)); exact BK283.out) hb); have n1_ := aM_ (fa_ (by repeat (first | (with_reducible first | exact HB.out | apply aa_ | apply ca_ | apply ga_ | refine na_ ?_ GE283.out) | exact HB.out)) hb); have n2_ := aM_ (hbox); have n3_ := aM_ ((by rw [hg]; exact (qa_ (by repeat (first | (with_reducible first | exact HB.out | apply aa_ | apply ca_ | apply ga_ | refine na_ ?_ GE283.out) | exact HB.out))) : w.heap.size ≤ gb284)); have n4_ := aM_ ((by rw [hg]; exact (qa_ (by repeat (first | (with_reducible first | exact HB.out | apply aa_ | apply ca_ | apply ga_ | refine na_ ?_ GE283.out) | exact HB.out))) : w.heap.size ≤ gb284)); have n5_ := aM_ ((by rw [hg]; exact Nat.ne_of_lt (za_ (g := gb283) (o := .cells #[.int .i64 a0_0, .int .i64 a0_1, .int .i64 a0_2, .slice A0_3 l0_3.length c0_3, .slice A0_4 l0_4.length c0_4] 120 (0, 0)) (by (with_reducible repeat (first | refine la_ ?_ _ | refine ma_ ?_ | refine ka_ ?_ _)); exact BK283.out)) : gb283 ≠ gb284)); have n6_ := aM_ ((by rw [hg]; exact Nat.ne_of_gt (za_ (g := gb283) (o := .cells #[.int .i64 a0_0, .int .i64 a0_1, .int .i64 a0_2, .slice A0_3 l0_3.length c0_3, .slice A0_4 l0_4.length c0_4] 120 (0, 0)) (by (with_reducible repeat (first | refine la_ ?_ _ | refine ma_ ?_ | refine ka_ ?_ _)); exact BK283.out)) : gb284 ≠ gb283)); clear BK283; clear HB; have BK283 := n0_; have HB := n1_; have BK284 := n2_; have GW284 := n3_; have GE284 := n4_; have NB283_284 := n5_; have NB284_283 := n6_; clear n0_ n1_ n2_ n3_ n4_ n5_ n6_; clear hb hbox hg))
   have n0_ := aM_ (ma_ BK283.out); have n1_ := aM_ (ma_ BK284.out); have n2_ := aM_ (ga_ HB.out); clear BK283; clear BK284; clear HB; have BK283 := n0_; have BK284 := n1_; have HB := n2_; clear n0_ n1_ n2_; refine wd_ (n := 10) (S := fun w' => w'.cell? ⟨gb283, 0, none⟩ = some (.int .i64 a0_0) ∧ w'.cell? ⟨gb283, 1, none⟩ = some (.int .i64 a0_1) ∧ w'.cell? ⟨gb283, 2, none⟩ = some (.int .i64 a0_2) ∧ w'.cell? ⟨gb283, 3, none⟩ = some (.slice A0_3 l0_3.length c0_3) ∧ w'.cell? ⟨gb283, 4, none⟩ = some (.slice A0_4 l0_4.length c0_4)) (ds := []) (f_ 10 0) (by kernel_rfl) rfl rfl ⟨(ba_ BK283.out 0).trans rfl, (ba_ BK283.out 1).trans rfl, (ba_ BK283.out 2).trans rfl, (ba_ BK283.out 3).trans rfl, (ba_ BK283.out 4).trans rfl⟩ (fun hHeld => ?_); refine mg_ l4_Raw_Make.tab1 l4_Raw_Make.bits1 (fun HT_ HW_ => ?_); generalize w9.drew = w10 at BK283 BK284 HB hHeld ⊢; refine pU_ 0 12 ?_ (f_ 10 1) rfl rfl (qc_ HT_.out (by kernel_rfl)) (fun _ _ _ h => h) (by rfl) ?_ ?_ ?_ ?_; rotate_left
   ·intro w'
    go_simp
    with_reducible rfl
   rotate_left
   ·simp only [Act.put, s1_, s2_, s3_, ia_, ja_]
    rfl
   refine pU_ 2 14 ?_ #[true, false, true, false, false, false, false, false, false, false] rfl rfl (qc_ HT_.out (by kernel_rfl)) (fun _ _ _ h => h) (by rfl) ?_ ?_ ?_ ?_; rotate_left
   ·intro w'
    go_simp
    with_reducible rfl
   rotate_left
   ·simp only [Act.put, s1_, s2_, s3_, ia_, ja_]
    rfl
   refine pU_ 4 16 ?_ #[true, false, true, false, true, false, false, false, false, false] rfl rfl (qc_ HT_.out (by kernel_rfl)) (fun _ _ _ h => h) (by rfl) ?_ ?_ ?_ ?_; rotate_left
   ·intro w'
    go_simp
    with_reducible rfl
   rotate_left
   ·simp only [Act.put, s1_, s2_, s3_, ia_, ja_]
    rfl
   refine take_ (i := 1) (N := some 13) (v := ?_) (a' := ?_) #[true, true, true, false, true, false, false, false, false, false] rfl rfl (nf_ HT_.out HW_.out (by kernel_rfl)) (fun _ _ _ h => h) (Or.inl ⟨by rfl, ?_⟩) hHeld ?_ ?_; rotate_left
   ·rintro w' ⟨s0, s1, s2, s3, s4⟩
    go_simp
    with_reducible rfl
   rotate_left
   ·simp only [Act.put, s1_, s2_, s3_, ia_, ja_]
    rfl
   refine take_ (i := 5) (N := some 17) (v := ?_) (a' := ?_) #[true, true, true, false, true, true, false, false, false, false] rfl rfl (nf_ HT_.out HW_.out (by kernel_rfl)) (fun _ _ _ h => h) (Or.inl ⟨by rfl, ?_⟩) hHeld ?_ ?_; rotate_left
   ·rintro w' ⟨s0, s1, s2, s3, s4⟩
    go_simp
    with_reducible rfl
   rotate_left
   ·simp only [Act.put, s1_, s2_, s3_, ia_, ja_]
    rfl
   refine join_ (σ := Nat) 1 (f_ 10 9) (fun s_ => [(15, .int .i64 t285), (18, .int .i64 t286), (5, .pointer (some ⟨s_, 0, none⟩)), (19, .agg #[.int .i64 t285, .slice none 0 0, .int .i64 0, .slice none 0 0, .int .i64 t286])]) (fun s_ w' => (w'.cell? ⟨gb283, 0, none⟩ = some (.int .i64 a0_0) ∧ w'.cell? ⟨gb283, 1, none⟩ = some (.int .i64 a0_1) ∧ w'.cell? ⟨gb283, 2, none⟩ = some (.int .i64 a0_2) ∧ w'.cell? ⟨gb283, 3, none⟩ = some (.slice A0_3 l0_3.length c0_3) ∧ w'.cell? ⟨gb283, 4, none⟩ = some (.slice A0_4 l0_4.length c0_4)) ∧ (w'.heap[gb283]? = some (.cells #[.int .i64 a0_0, .int .i64 a0_1, .int .i64 a0_2, .slice A0_3 l0_3.length c0_3, .slice A0_4 l0_4.length c0_4] 120 (0, 0))) ∧ (w'.heap[gb284]? = some (.cells #[.int .i64 0, .slice none 0 0, .int .i64 0, .slice none 0 0, .int .i64 0] 56 (0, 0))) ∧ (w'.heap[s_]? = some (.cells #[.int .i64 0, .slice none 0 0, .int .i64 0, .slice none 0 0, .int .i64 0] 56 (0, 0))) ∧ (w.heap.size ≤ s_) ∧ (w.heap.size ≤ s_) ∧ (gb283 ≠ s_) ∧ (s_ ≠ gb283) ∧ (gb284 ≠ s_) ∧ (s_ ≠ gb284) ∧ (Below w.heap.size w w')) ?_ ?_; rotate_left
   ·intro hCont
    refine two_ (i := 3) (j := 8) (Ni := some 15) (Nj := some 5) (f_ 10 6) #[true, true, true, false, true, true, false, false, true, false] rfl rfl rfl rfl (two_of HT_.out (by kernel_rfl)) (by decide) (by decide) (fun K hK => ?_) (fun K hK => ?_)
    ·skip
     refine wb_ Tryz.func122 (by kernel_rfl) rfl #[.int .i64 a0_0, .int .i64 a1] (by rfl) rfl rfl (by (try simp only [List.map_toArray, List.map_cons, List.map_nil]); first | done | rfl | (simp only [List.length_drop, List.length_take]; rfl)) ?_
     with_reducible refine (l4_within.calls a0_0 a1 t285 _ A3.out).mono ?_
     rintro e w' ⟨rfl, ⟨nd, rfl⟩⟩; refine ⟨_, rfl, ?_⟩; refine hK.out _ _ ⟨(ba_ BK283.out 0).trans rfl, (ba_ BK283.out 1).trans rfl, (ba_ BK283.out 2).trans rfl, (ba_ BK283.out 3).trans rfl, (ba_ BK283.out 4).trans rfl⟩ (fun hHeld => ?_); clear hK K; refine wa_ (a' := ?_) ?_ ?_; rotate_left; (focus (show Act.put _ (some 15) _ = _; simp only [Act.put, s1_, s2_, s3_, ia_, ja_]; rfl)); refine two_ (i := 6) (j := 8) (Ni := some 18) (Nj := some 5) (f_ 10 7) #[true, true, true, true, true, true, false, false, true, false] rfl rfl rfl rfl (two_of HT_.out (by kernel_rfl)) (by decide) (by decide) (fun K hK => ?_) (fun K hK => ?_)
     ·skip
      refine wb_ Tryz.func122 (by kernel_rfl) rfl #[.int .i64 a0_2, .int .i64 101] (by rfl) rfl rfl (by (try simp only [List.map_toArray, List.map_cons, List.map_nil]); first | done | rfl | (simp only [List.length_drop, List.length_take]; rfl)) ?_
      with_reducible refine (l4_within.calls a0_2 101 t286 _ A4.out).mono ?_
      rintro e w' ⟨rfl, ⟨nd, rfl⟩⟩; refine ⟨_, rfl, ?_⟩; refine hK.out _ _ ⟨(ba_ BK283.out 0).trans rfl, (ba_ BK283.out 1).trans rfl, (ba_ BK283.out 2).trans rfl, (ba_ BK283.out 3).trans rfl, (ba_ BK283.out 4).trans rfl⟩ (fun hHeld => ?_); clear hK K; refine wa_ (a' := ?_) ?_ ?_; rotate_left; (focus (show Act.put _ (some 18) _ = _; simp only [Act.put, s1_, s2_, s3_, ia_, ja_]; rfl)); refine pU_ 7 19 ?_ (f_ 10 8) rfl rfl (qc_ HT_.out (by kernel_rfl)) (fun _ _ _ h => h) (by rfl) ?_ ?_ ?_ ?_; rotate_left
      ·intro w'
       go_simp
       with_reducible rfl
      rotate_left
      ·simp only [Act.put, s1_, s2_, s3_, ia_, ja_]
       rfl
      refine one_ (i := 8) (N := some 5) (f_ 10 9) rfl rfl (id_ HT_.out (by kernel_rfl)) (by decide) (fun K hK => ?_); refine pm_ ?hg (N := 5) ?hd (cs := #[.int .i64 0, .slice none 0 0, .int .i64 0, .slice none 0 0, .int .i64 0]) (t := 56) ?hr ?_; (case hd => rfl); (case hg => rfl); (case hr => first | (go_simp; done) | (go_simp; rfl)); intro gb287 hg w11 hbox hb; have n0_ := aM_ (oa_ (g := gb283) (o := .cells #[.int .i64 a0_0, .int .i64 a0_1, .int .i64 a0_2, .slice A0_3 l0_3.length c0_3, .slice A0_4 l0_4.length c0_4] 120 (0, 0)) (by (with_reducible repeat (first | refine la_ ?_ _ | refine ma_ ?_ | refine ka_ ?_ _)); exact BK283.out) hb); have n1_ := aM_ (oa_ (g := gb284) (o := .cells #[.int .i64 0, .slice none 0 0, .int .i64 0, .slice none 0 0, .int .i64 0] 56 (0, 0)) (by (with_reducible repeat (first | refine la_ ?_ _ | refine ma_ ?_ | refine ka_ ?_ _)); exact BK284.out) hb); have n2_ := aM_ (fa_ (by repeat (first | (with_reducible first | exact HB.out | apply aa_ | apply ca_ | apply ga_ | refine na_ ?_ GE283.out | refine na_ ?_ GE284.out) | exact HB.out)) hb); have n3_ := aM_ (hbox); have n4_ := aM_ ((by rw [hg]; exact (qa_ (by repeat (first | (with_reducible first | exact HB.out | apply aa_ | apply ca_ | apply ga_ | refine na_ ?_ GE283.out | refine na_ ?_ GE284.out) | exact HB.out))) : w.heap.size ≤ gb287)); have n5_ := aM_ ((by rw [hg]; exact (qa_ (by repeat (first | (with_reducible first | exact HB.out | apply aa_ | apply ca_ | apply ga_ | refine na_ ?_ GE283.out | refine na_ ?_ GE284.out) | exact HB.out))) : w.heap.size ≤ gb287)); have n6_ := aM_ ((by rw [hg]; exact Nat.ne_of_lt (za_ (g := gb283) (o := .cells #[.int .i64 a0_0, .int .i64 a0_1, .int .i64 a0_2, .slice A0_3 l0_3.length c0_3, .slice A0_4 l0_4.length c0_4] 120 (0, 0)) (by (with_reducible repeat (first | refine la_ ?_ _ | refine ma_ ?_ | refine ka_ ?_ _)); exact BK283.out)) : gb283 ≠ gb287)); have n7_ := aM_ ((by rw [hg]; exact Nat.ne_of_gt (za_ (g := gb283) (o := .cells #[.int .i64 a0_0, .int .i64 a0_1, .int .i64 a0_2, .slice A0_3 l0_3.length c0_3, .slice A0_4 l0_4.length c0_4] 120 (0, 0)) (by (with_reducible repeat (first | refine la_ ?_ _ | refine ma_ ?_ | refine ka_ ?_ _)); exact BK283.out)) : gb287 ≠ gb283)); have n8_ := aM_ ((by rw [hg]; exact Nat.ne_of_lt (za_ (g := gb284) (o := .cells #[.int .i64 0, .slice none 0 0, .int .i64 0, .slice none 0 0, .int .i64 0] 56 (0, 0)) (by (with_reducible repeat (first | refine la_ ?_ _ | refine ma_ ?_ | refine ka_ ?_ _)); exact BK284.out)) : gb284 ≠ gb287))
      have n9_ := aM_ ((by rw [hg]; exact Nat.ne_of_gt (za_ (g := gb284) (o := .cells #[.int .i64 0, .slice none 0 0, .int .i64 0, .slice none 0 0, .int .i64 0] 56 (0, 0)) (by (with_reducible repeat (first | refine la_ ?_ _ | refine ma_ ?_ | refine ka_ ?_ _)); exact BK284.out)) : gb287 ≠ gb284)); clear BK283; clear BK284; clear HB; have BK283 := n0_; have BK284 := n1_; have HB := n2_; have BK287 := n3_; have GW287 := n4_; have GE287 := n5_; have NB283_287 := n6_; have NB287_283 := n7_; have NB284_287 := n8_; have NB287_284 := n9_; clear n0_ n1_ n2_ n3_ n4_ n5_ n6_ n7_ n8_ n9_; clear hb hbox hg; refine hK.out _ _ ⟨(ba_ BK283.out 0).trans rfl, (ba_ BK283.out 1).trans rfl, (ba_ BK283.out 2).trans rfl, (ba_ BK283.out 3).trans rfl, (ba_ BK283.out 4).trans rfl⟩ (fun hHeld => ?_); clear hK K; refine wa_ (a' := ?_) ?_ ?_; rotate_left; (focus (show Act.put _ (some 5) _ = _; simp only [Act.put, s1_, s2_, s3_, ia_, ja_]; rfl)); exact wa_ (by simp only [wi_, Act.put, s1_, s2_, s3_]) (hCont (gb287) _ ⟨hHeld, (by (with_reducible repeat (first | refine la_ ?_ _ | refine ma_ ?_ | refine ka_ ?_ _)); exact BK283.out), (by (with_reducible repeat (first | refine la_ ?_ _ | refine ma_ ?_ | refine ka_ ?_ _)); exact BK284.out), (by (with_reducible repeat (first | refine la_ ?_ _ | refine ma_ ?_ | refine ka_ ?_ _)); exact BK287.out), GW287.out, GE287.out, NB283_287.out, NB287_283.out, NB284_287.out, NB287_284.out, (by repeat (first | (with_reducible first | exact HB.out | apply aa_ | apply ca_ | apply ga_ | refine na_ ?_ GE283.out | refine na_ ?_ GE284.out | refine na_ ?_ GE287.out) | exact HB.out))⟩)
     skip
     refine pm_ ?hg (N := 5) ?hd (cs := #[.int .i64 0, .slice none 0 0, .int .i64 0, .slice none 0 0, .int .i64 0]) (t := 56) ?hr ?_; (case hd => rfl); (case hg => rfl); (case hr => first | (go_simp; done) | (go_simp; rfl)); intro gb287 hg w11 hbox hb; have n0_ := aM_ (oa_ (g := gb283) (o := .cells #[.int .i64 a0_0, .int .i64 a0_1, .int .i64 a0_2, .slice A0_3 l0_3.length c0_3, .slice A0_4 l0_4.length c0_4] 120 (0, 0)) (by (with_reducible repeat (first | refine la_ ?_ _ | refine ma_ ?_ | refine ka_ ?_ _)); exact BK283.out) hb); have n1_ := aM_ (oa_ (g := gb284) (o := .cells #[.int .i64 0, .slice none 0 0, .int .i64 0, .slice none 0 0, .int .i64 0] 56 (0, 0)) (by (with_reducible repeat (first | refine la_ ?_ _ | refine ma_ ?_ | refine ka_ ?_ _)); exact BK284.out) hb); have n2_ := aM_ (fa_ (by repeat (first | (with_reducible first | exact HB.out | apply aa_ | apply ca_ | apply ga_ | refine na_ ?_ GE283.out | refine na_ ?_ GE284.out) | exact HB.out)) hb); have n3_ := aM_ (hbox); have n4_ := aM_ ((by rw [hg]; exact (qa_ (by repeat (first | (with_reducible first | exact HB.out | apply aa_ | apply ca_ | apply ga_ | refine na_ ?_ GE283.out | refine na_ ?_ GE284.out) | exact HB.out))) : w.heap.size ≤ gb287)); have n5_ := aM_ ((by rw [hg]; exact (qa_ (by repeat (first | (with_reducible first | exact HB.out | apply aa_ | apply ca_ | apply ga_ | refine na_ ?_ GE283.out | refine na_ ?_ GE284.out) | exact HB.out))) : w.heap.size ≤ gb287)); have n6_ := aM_ ((by rw [hg]; exact Nat.ne_of_lt (za_ (g := gb283) (o := .cells #[.int .i64 a0_0, .int .i64 a0_1, .int .i64 a0_2, .slice A0_3 l0_3.length c0_3, .slice A0_4 l0_4.length c0_4] 120 (0, 0)) (by (with_reducible repeat (first | refine la_ ?_ _ | refine ma_ ?_ | refine ka_ ?_ _)); exact BK283.out)) : gb283 ≠ gb287)); have n7_ := aM_ ((by rw [hg]; exact Nat.ne_of_gt (za_ (g := gb283) (o := .cells #[.int .i64 a0_0, .int .i64 a0_1, .int .i64 a0_2, .slice A0_3 l0_3.length c0_3, .slice A0_4 l0_4.length c0_4] 120 (0, 0)) (by (with_reducible repeat (first | refine la_ ?_ _ | refine ma_ ?_ | refine ka_ ?_ _)); exact BK283.out)) : gb287 ≠ gb283)); have n8_ := aM_ ((by rw [hg]; exact Nat.ne_of_lt (za_ (g := gb284) (o := .cells #[.int .i64 0, .slice none 0 0, .int .i64 0, .slice none 0 0, .int .i64 0] 56 (0, 0)) (by (with_reducible repeat (first | refine la_ ?_ _ | refine ma_ ?_ | refine ka_ ?_ _)); exact BK284.out)) : gb284 ≠ gb287)); have n9_ := aM_ ((by rw [hg]; exact Nat.ne_of_gt (za_ (g := gb284) (o := .cells #[.int .i64 0, .slice none 0 0, .int .i64 0, .slice none 0 0, .int .i64 0] 56 (0, 0)) (by (with_reducible repeat (first | refine la_ ?_ _ | refine ma_ ?_ | refine ka_ ?_ _)); exact BK284.out)) : gb287 ≠ gb284))
     clear BK283; clear BK284; clear HB; have BK283 := n0_; have BK284 := n1_; have HB := n2_; have BK287 := n3_; have GW287 := n4_; have GE287 := n5_; have NB283_287 := n6_; have NB287_283 := n7_; have NB284_287 := n8_; have NB287_284 := n9_; clear n0_ n1_ n2_ n3_ n4_ n5_ n6_ n7_ n8_ n9_; clear hb hbox hg; refine hK.out _ _ ⟨(ba_ BK283.out 0).trans rfl, (ba_ BK283.out 1).trans rfl, (ba_ BK283.out 2).trans rfl, (ba_ BK283.out 3).trans rfl, (ba_ BK283.out 4).trans rfl⟩ (fun hHeld => ?_); clear hK K; refine wa_ (a' := ?_) ?_ ?_; rotate_left; (focus (show Act.put _ (some 5) _ = _; simp only [Act.put, s1_, s2_, s3_, ia_, ja_]; rfl)); refine one_ (i := 6) (N := some 18) #[true, true, true, true, true, true, true, false, true, false] rfl rfl (id_ HT_.out (by kernel_rfl)) (by decide) (fun K hK => ?_); refine wb_ Tryz.func122 (by kernel_rfl) rfl #[.int .i64 a0_2, .int .i64 101] (by rfl) rfl rfl (by (try simp only [List.map_toArray, List.map_cons, List.map_nil]); first | done | rfl | (simp only [List.length_drop, List.length_take]; rfl)) ?_
     with_reducible refine (l4_within.calls a0_2 101 t286 _ A4.out).mono ?_
     rintro e w' ⟨rfl, ⟨nd, rfl⟩⟩; refine ⟨_, rfl, ?_⟩; refine hK.out _ _ ⟨(ba_ BK283.out 0).trans rfl, (ba_ BK283.out 1).trans rfl, (ba_ BK283.out 2).trans rfl, (ba_ BK283.out 3).trans rfl, (ba_ BK283.out 4).trans rfl⟩ (fun hHeld => ?_); clear hK K; refine wa_ (a' := ?_) ?_ ?_; rotate_left; (focus (show Act.put _ (some 18) _ = _; simp only [Act.put, s1_, s2_, s3_, ia_, ja_]; rfl)); refine pU_ 7 19 ?_ (f_ 10 9) rfl rfl (qc_ HT_.out (by kernel_rfl)) (fun _ _ _ h => h) (by rfl) ?_ ?_ ?_ ?_; rotate_left
     ·intro w'
      go_simp
      with_reducible rfl
     rotate_left
     ·simp only [Act.put, s1_, s2_, s3_, ia_, ja_]
      rfl
     exact wa_ (by simp only [wi_, Act.put, s1_, s2_, s3_]) (hCont (gb287) _ ⟨hHeld, (by (with_reducible repeat (first | refine la_ ?_ _ | refine ma_ ?_ | refine ka_ ?_ _)); exact BK283.out), (by (with_reducible repeat (first | refine la_ ?_ _ | refine ma_ ?_ | refine ka_ ?_ _)); exact BK284.out), (by (with_reducible repeat (first | refine la_ ?_ _ | refine ma_ ?_ | refine ka_ ?_ _)); exact BK287.out), GW287.out, GE287.out, NB283_287.out, NB287_283.out, NB284_287.out, NB287_284.out, (by repeat (first | (with_reducible first | exact HB.out | apply aa_ | apply ca_ | apply ga_ | refine na_ ?_ GE283.out | refine na_ ?_ GE284.out | refine na_ ?_ GE287.out) | exact HB.out))⟩)
    skip
    refine pm_ ?hg (N := 5) ?hd (cs := #[.int .i64 0, .slice none 0 0, .int .i64 0, .slice none 0 0, .int .i64 0]) (t := 56) ?hr ?_; (case hd => rfl); (case hg => rfl); (case hr => first | (go_simp; done) | (go_simp; rfl)); intro gb287 hg w11 hbox hb; have n0_ := aM_ (oa_ (g := gb283) (o := .cells #[.int .i64 a0_0, .int .i64 a0_1, .int .i64 a0_2, .slice A0_3 l0_3.length c0_3, .slice A0_4 l0_4.length c0_4] 120 (0, 0)) (by (with_reducible repeat (first | refine la_ ?_ _ | refine ma_ ?_ | refine ka_ ?_ _)); exact BK283.out) hb); have n1_ := aM_ (oa_ (g := gb284) (o := .cells #[.int .i64 0, .slice none 0 0, .int .i64 0, .slice none 0 0, .int .i64 0] 56 (0, 0)) (by (with_reducible repeat (first | refine la_ ?_ _ | refine ma_ ?_ | refine ka_ ?_ _)); exact BK284.out) hb); have n2_ := aM_ (fa_ (by repeat (first | (with_reducible first | exact HB.out | apply aa_ | apply ca_ | apply ga_ | refine na_ ?_ GE283.out | refine na_ ?_ GE284.out) | exact HB.out)) hb); have n3_ := aM_ (hbox); have n4_ := aM_ ((by rw [hg]; exact (qa_ (by repeat (first | (with_reducible first | exact HB.out | apply aa_ | apply ca_ | apply ga_ | refine na_ ?_ GE283.out | refine na_ ?_ GE284.out) | exact HB.out))) : w.heap.size ≤ gb287)); have n5_ := aM_ ((by rw [hg]; exact (qa_ (by repeat (first | (with_reducible first | exact HB.out | apply aa_ | apply ca_ | apply ga_ | refine na_ ?_ GE283.out | refine na_ ?_ GE284.out) | exact HB.out))) : w.heap.size ≤ gb287)); have n6_ := aM_ ((by rw [hg]; exact Nat.ne_of_lt (za_ (g := gb283) (o := .cells #[.int .i64 a0_0, .int .i64 a0_1, .int .i64 a0_2, .slice A0_3 l0_3.length c0_3, .slice A0_4 l0_4.length c0_4] 120 (0, 0)) (by (with_reducible repeat (first | refine la_ ?_ _ | refine ma_ ?_ | refine ka_ ?_ _)); exact BK283.out)) : gb283 ≠ gb287)); have n7_ := aM_ ((by rw [hg]; exact Nat.ne_of_gt (za_ (g := gb283) (o := .cells #[.int .i64 a0_0, .int .i64 a0_1, .int .i64 a0_2, .slice A0_3 l0_3.length c0_3, .slice A0_4 l0_4.length c0_4] 120 (0, 0)) (by (with_reducible repeat (first | refine la_ ?_ _ | refine ma_ ?_ | refine ka_ ?_ _)); exact BK283.out)) : gb287 ≠ gb283)); have n8_ := aM_ ((by rw [hg]; exact Nat.ne_of_lt (za_ (g := gb284) (o := .cells #[.int .i64 0, .slice none 0 0, .int .i64 0, .slice none 0 0, .int .i64 0] 56 (0, 0)) (by (with_reducible repeat (first | refine la_ ?_ _ | refine ma_ ?_ | refine ka_ ?_ _)); exact BK284.out)) : gb284 ≠ gb287)); have n9_ := aM_ ((by rw [hg]; exact Nat.ne_of_gt (za_ (g := gb284) (o := .cells #[.int .i64 0, .slice none 0 0, .int .i64 0, .slice none 0 0, .int .i64 0] 56 (0, 0)) (by (with_reducible repeat (first | refine la_ ?_ _ | refine ma_ ?_ | refine ka_ ?_ _)); exact BK284.out)) : gb287 ≠ gb284))
    clear BK283; clear BK284; clear HB; have BK283 := n0_; have BK284 := n1_; have HB := n2_; have BK287 := n3_; have GW287 := n4_; have GE287 := n5_; have NB283_287 := n6_; have NB287_283 := n7_; have NB284_287 := n8_; have NB287_284 := n9_; clear n0_ n1_ n2_ n3_ n4_ n5_ n6_ n7_ n8_ n9_; clear hb hbox hg; refine hK.out _ _ ⟨(ba_ BK283.out 0).trans rfl, (ba_ BK283.out 1).trans rfl, (ba_ BK283.out 2).trans rfl, (ba_ BK283.out 3).trans rfl, (ba_ BK283.out 4).trans rfl⟩ (fun hHeld => ?_); clear hK K; refine wa_ (a' := ?_) ?_ ?_; rotate_left
    ·show Act.put _ (some 5) _ = _
     simp only [Act.put, s1_, s2_, s3_, ia_, ja_]; rfl
    refine one_ (i := 3) (N := some 15) #[true, true, true, true, true, true, false, false, true, false] rfl rfl (id_ HT_.out (by kernel_rfl)) (by decide) (fun K hK => ?_); refine wb_ Tryz.func122 (by kernel_rfl) rfl #[.int .i64 a0_0, .int .i64 a1] (by rfl) rfl rfl (by (try simp only [List.map_toArray, List.map_cons, List.map_nil]); first | done | rfl | (simp only [List.length_drop, List.length_take]; rfl)) ?_
    with_reducible refine (l4_within.calls a0_0 a1 t285 _ A3.out).mono ?_
    rintro e w' ⟨rfl, ⟨nd, rfl⟩⟩; refine ⟨_, rfl, ?_⟩; refine hK.out _ _ ⟨(ba_ BK283.out 0).trans rfl, (ba_ BK283.out 1).trans rfl, (ba_ BK283.out 2).trans rfl, (ba_ BK283.out 3).trans rfl, (ba_ BK283.out 4).trans rfl⟩ (fun hHeld => ?_); clear hK K; refine wa_ (a' := ?_) ?_ ?_; rotate_left
    ·show Act.put _ (some 15) _ = _
     simp only [Act.put, s1_, s2_, s3_, ia_, ja_]; rfl
    refine one_ (i := 6) (N := some 18) #[true, true, true, true, true, true, true, false, true, false] rfl rfl (id_ HT_.out (by kernel_rfl)) (by decide) (fun K hK => ?_); refine wb_ Tryz.func122 (by kernel_rfl) rfl #[.int .i64 a0_2, .int .i64 101] (by rfl) rfl rfl (by (try simp only [List.map_toArray, List.map_cons, List.map_nil]); first | done | rfl | (simp only [List.length_drop, List.length_take]; rfl)) ?_
    with_reducible refine (l4_within.calls a0_2 101 t286 _ A4.out).mono ?_
    rintro e w' ⟨rfl, ⟨nd, rfl⟩⟩; refine ⟨_, rfl, ?_⟩; refine hK.out _ _ ⟨(ba_ BK283.out 0).trans rfl, (ba_ BK283.out 1).trans rfl, (ba_ BK283.out 2).trans rfl, (ba_ BK283.out 3).trans rfl, (ba_ BK283.out 4).trans rfl⟩ (fun hHeld => ?_); clear hK K; refine wa_ (a' := ?_) ?_ ?_; rotate_left
    ·show Act.put _ (some 18) _ = _
     simp only [Act.put, s1_, s2_, s3_, ia_, ja_]; rfl
    refine pU_ 7 19 ?_ (f_ 10 9) rfl rfl (qc_ HT_.out (by kernel_rfl)) (fun _ _ _ h => h) (by rfl) ?_ ?_ ?_ ?_; rotate_left
    ·intro w'
     go_simp
     with_reducible rfl
    rotate_left
    ·simp only [Act.put, s1_, s2_, s3_, ia_, ja_]
     rfl
    exact wa_ (by simp only [wi_, Act.put, s1_, s2_, s3_]) (hCont (gb287) _ ⟨hHeld, (by (with_reducible repeat (first | refine la_ ?_ _ | refine ma_ ?_ | refine ka_ ?_ _)); exact BK283.out), (by (with_reducible repeat (first | refine la_ ?_ _ | refine ma_ ?_ | refine ka_ ?_ _)); exact BK284.out), (by (with_reducible repeat (first | refine la_ ?_ _ | refine ma_ ?_ | refine ka_ ?_ _)); exact BK287.out), GW287.out, GE287.out, NB283_287.out, NB287_283.out, NB284_287.out, NB287_284.out, (by repeat (first | (with_reducible first | exact HB.out | apply aa_ | apply ca_ | apply ga_ | refine na_ ?_ GE283.out | refine na_ ?_ GE284.out | refine na_ ?_ GE287.out) | exact HB.out))⟩)
   rintro gb287 w12 ⟨hS_, h0_, h1_, h2_, h3_, h4_, h5_, h6_, h7_, h8_, h9_⟩; have n0_ : Az (w12.heap[gb283]? = some (.cells #[.int .i64 a0_0, .int .i64 a0_1, .int .i64 a0_2, .slice A0_3 l0_3.length c0_3, .slice A0_4 l0_4.length c0_4] 120 (0, 0))) := ⟨h0_⟩; have n1_ : Az (w12.heap[gb284]? = some (.cells #[.int .i64 0, .slice none 0 0, .int .i64 0, .slice none 0 0, .int .i64 0] 56 (0, 0))) := ⟨h1_⟩; have n2_ : Az (w12.heap[gb287]? = some (.cells #[.int .i64 0, .slice none 0 0, .int .i64 0, .slice none 0 0, .int .i64 0] 56 (0, 0))) := ⟨h2_⟩; have n3_ : Az (w.heap.size ≤ gb287) := ⟨h3_⟩; have n4_ : Az (w.heap.size ≤ gb287) := ⟨h4_⟩; have n5_ : Az (gb283 ≠ gb287) := ⟨h5_⟩; have n6_ : Az (gb287 ≠ gb283) := ⟨h6_⟩; have n7_ : Az (gb284 ≠ gb287) := ⟨h7_⟩; have n8_ : Az (gb287 ≠ gb284) := ⟨h8_⟩; have n9_ : Az (Below w.heap.size w w12) := ⟨h9_⟩; clear BK283; clear BK284; clear HB; clear h0_ h1_ h2_ h3_ h4_ h5_ h6_ h7_ h8_ h9_; have BK283 := n0_; have BK284 := n1_; have BK287 := n2_; have GW287 := n3_; have GE287 := n4_; have NB283_287 := n5_; have NB287_283 := n6_; have NB284_287 := n7_; have NB287_284 := n8_; have HB := n9_; clear n0_ n1_ n2_ n3_ n4_ n5_ n6_ n7_ n8_ n9_; have hHeld : w12.cell? ⟨gb283, 0, none⟩ = some (.int .i64 a0_0) ∧ w12.cell? ⟨gb283, 1, none⟩ = some (.int .i64 a0_1) ∧ w12.cell? ⟨gb283, 2, none⟩ = some (.int .i64 a0_2) ∧ w12.cell? ⟨gb283, 3, none⟩ = some (.slice A0_3 l0_3.length c0_3) ∧ w12.cell? ⟨gb283, 4, none⟩ = some (.slice A0_4 l0_4.length c0_4) := hS_; refine wa_ (a' := ?_) ?_ ?_; rotate_left
   ·simp only [wi_, Act.put, s1_, s2_, s3_]
    rfl
   refine one_ (i := 9) (N := none) (f_ 10 10) rfl rfl (id_ HT_.out (by kernel_rfl)) (by decide) (fun K hK => ?_); have hs13 : w12.cell? ⟨gb287, 0, none⟩ = some (.int .i64 0) := (ba_ BK287.out 0).trans rfl; have hfs13 := da_ BK287.out 0; have hns13_0 := NB283_287.out; have hns13_1 := NB284_287.out; have hms13_0 := NB287_283.out; have hms13_1 := NB287_284.out; have hs14 : w12.cell? ⟨gb287, 1, none⟩ = some (.slice none 0 0) := (ba_ BK287.out 1).trans rfl; have hfs14 := da_ BK287.out 1; have hns14_0 := NB283_287.out; have hns14_1 := NB284_287.out; have hms14_0 := NB287_283.out; have hms14_1 := NB287_284.out; have hs15 : w12.cell? ⟨gb287, 2, none⟩ = some (.int .i64 0) := (ba_ BK287.out 2).trans rfl; have hfs15 := da_ BK287.out 2; have hns15_0 := NB283_287.out; have hns15_1 := NB284_287.out; have hms15_0 := NB287_283.out; have hms15_1 := NB287_284.out; have hs16 : w12.cell? ⟨gb287, 3, none⟩ = some (.slice none 0 0) := (ba_ BK287.out 3).trans rfl; have hfs16 := da_ BK287.out 3; have hns16_0 := NB283_287.out; have hns16_1 := NB284_287.out; have hms16_0 := NB287_283.out; have hms16_1 := NB287_284.out; have hs17 : w12.cell? ⟨gb287, 4, none⟩ = some (.int .i64 0) := (ba_ BK287.out 4).trans rfl; have hfs17 := da_ BK287.out 4; have hns17_0 := NB283_287.out; have hns17_1 := NB284_287.out; have hms17_0 := NB287_283.out; have hms17_1 := NB287_284.out; refine og_ (w1 := ?_) (by rfl) rfl ?_ ?_; rotate_left
   ·go_simp
    rfl
   refine hK.out _ _ ⟨((gc_ (p := ⟨gb287, _, none⟩) NB283_287.out _).trans (((gc_ (p := ⟨gb287, _, none⟩) NB283_287.out _).trans (((gc_ (p := ⟨gb287, _, none⟩) NB283_287.out _).trans (((gc_ (p := ⟨gb287, _, none⟩) NB283_287.out _).trans (((gc_ (p := ⟨gb287, _, none⟩) NB283_287.out _).trans (hHeld.1)))))))))), ((gc_ (p := ⟨gb287, _, none⟩) NB283_287.out _).trans (((gc_ (p := ⟨gb287, _, none⟩) NB283_287.out _).trans (((gc_ (p := ⟨gb287, _, none⟩) NB283_287.out _).trans (((gc_ (p := ⟨gb287, _, none⟩) NB283_287.out _).trans (((gc_ (p := ⟨gb287, _, none⟩) NB283_287.out _).trans (hHeld.2.1)))))))))), ((gc_ (p := ⟨gb287, _, none⟩) NB283_287.out _).trans (((gc_ (p := ⟨gb287, _, none⟩) NB283_287.out _).trans (((gc_ (p := ⟨gb287, _, none⟩) NB283_287.out _).trans (((gc_ (p := ⟨gb287, _, none⟩) NB283_287.out _).trans (((gc_ (p := ⟨gb287, _, none⟩) NB283_287.out _).trans (hHeld.2.2.1)))))))))), ((gc_ (p := ⟨gb287, _, none⟩) NB283_287.out _).trans (((gc_ (p := ⟨gb287, _, none⟩) NB283_287.out _).trans (((gc_ (p := ⟨gb287, _, none⟩) NB283_287.out _).trans (((gc_ (p := ⟨gb287, _, none⟩) NB283_287.out _).trans (((gc_ (p := ⟨gb287, _, none⟩) NB283_287.out _).trans (hHeld.2.2.2.1)))))))))), ((gc_ (p := ⟨gb287, _, none⟩) NB283_287.out _).trans (((gc_ (p := ⟨gb287, _, none⟩) NB283_287.out _).trans (((gc_ (p := ⟨gb287, _, none⟩) NB283_287.out _).trans (((gc_ (p := ⟨gb287, _, none⟩) NB283_287.out _).trans (((gc_ (p := ⟨gb287, _, none⟩) NB283_287.out _).trans (hHeld.2.2.2.2))))))))))⟩ (fun hHeld => ?_); clear hK K; refine je_ (uj_ HT_.out (by kernel_rfl)) ?_; have hnb18 := NB283_284.out; have hnc18 := NB284_283.out; have hnb19 := NB283_287.out; have hnc19 := NB287_283.out; have hcz20_0 : w12.cell? ⟨gb283, 0, none⟩ = some (.int .i64 a0_0) := (ba_ BK283.out 0).trans rfl; have hcz20_1 : w12.cell? ⟨gb283, 1, none⟩ = some (.int .i64 a0_1) := (ba_ BK283.out 1).trans rfl; have hcz20_2 : w12.cell? ⟨gb283, 2, none⟩ = some (.int .i64 a0_2) := (ba_ BK283.out 2).trans rfl; have hcz20_3 : w12.cell? ⟨gb283, 3, none⟩ = some (.slice A0_3 l0_3.length c0_3) := (ba_ BK283.out 3).trans rfl; have hcz20_4 : w12.cell? ⟨gb283, 4, none⟩ = some (.slice A0_4 l0_4.length c0_4) := (ba_ BK283.out 4).trans rfl; have hfz20_0 := da_ BK283.out 0; have hfz20_1 := da_ BK283.out 1; have hfz20_2 := da_ BK283.out 2; have hfz20_3 := da_ BK283.out 3; have hfz20_4 := da_ BK283.out 4
   try go_wp2_with (first | ((with_reducible refine mb_ (f := 122) rfl ?_); refine kd_ (some 22) rfl rfl Tryz.func122 (by kernel_rfl) rfl #[.int .i64 a0_1, .int .i64 16] rfl (by (try simp only [List.map_toArray, List.map_cons, List.map_nil]); first | done | rfl | (simp only [List.length_drop, List.length_take]; rfl)) ?_; (with_reducible refine (l4_within.calls a0_1 16 t288 _ A5.out).mono ?_); rintro e w' ⟨rfl, ⟨nd, rfl⟩⟩; refine ⟨_, rfl, ?_⟩; have hnb21 := NB287_284.out; have hnc21 := NB284_287.out; have hcz22_0 : w12.cell? ⟨gb287, 0, none⟩ = some (.int .i64 0) := (ba_ BK287.out 0).trans rfl; have hcz22_1 : w12.cell? ⟨gb287, 1, none⟩ = some (.slice none 0 0) := (ba_ BK287.out 1).trans rfl; have hcz22_2 : w12.cell? ⟨gb287, 2, none⟩ = some (.int .i64 0) := (ba_ BK287.out 2).trans rfl; have hcz22_3 : w12.cell? ⟨gb287, 3, none⟩ = some (.slice none 0 0) := (ba_ BK287.out 3).trans rfl; have hcz22_4 : w12.cell? ⟨gb287, 4, none⟩ = some (.int .i64 0) := (ba_ BK287.out 4).trans rfl; have hfz22_0 := da_ BK287.out 0; have hfz22_1 := da_ BK287.out 1; have hfz22_2 := da_ BK287.out 2; have hfz22_3 := da_ BK287.out 3; have hfz22_4 := da_ BK287.out 4) | ((with_reducible refine ld_ (N := 25) rfl ?_); refine Kd.R_lit (Kd.int .i64) _ 3 ?hg (N := 25) ?hd (xs := ([1, 3, 2, 2, 2, 2, 3, 1, 1, 2, 1, 1, 2, 2, 2, 2] : List Int)) (inner := [.int .i64 1, .int .i64 3, .int .i64 2, .int .i64 2, .int .i64 2, .int .i64 2, .int .i64 3, .int .i64 1, .int .i64 1, .int .i64 2, .int .i64 1, .int .i64 1, .int .i64 2, .int .i64 2, .int .i64 2, .int .i64 2]) (ok := fun _ => True) (okp := fun _ => True) ?hr ?hp (fun _ hk => hk) trivial (Below.refl _ _) (Nat.le_refl _) (by simp) ?_; (case hd => rfl); (case hg => rfl); (case hr => first | (go_simp; done) | (go_simp; rfl)); (case hp => exact (Reps.one (show Kd.M (Kd.int .i64) _ _ _ 1 [.int .i64 1] from rfl) (Reps.one (show Kd.M (Kd.int .i64) _ _ _ 3 [.int .i64 3] from rfl) (Reps.one (show Kd.M (Kd.int .i64) _ _ _ 2 [.int .i64 2] from rfl) (Reps.one (show Kd.M (Kd.int .i64) _ _ _ 2 [.int .i64 2] from rfl) (Reps.one (show Kd.M (Kd.int .i64) _ _ _ 2 [.int .i64 2] from rfl) (Reps.one (show Kd.M (Kd.int .i64) _ _ _ 2 [.int .i64 2] from rfl) (Reps.one (show Kd.M (Kd.int .i64) _ _ _ 3 [.int .i64 3] from rfl) (Reps.one (show Kd.M (Kd.int .i64) _ _ _ 1 [.int .i64 1] from rfl) (Reps.one (show Kd.M (Kd.int .i64) _ _ _ 1 [.int .i64 1] from rfl) (Reps.one (show Kd.M (Kd.int .i64) _ _ _ 2 [.int .i64 2] from rfl) (Reps.one (show Kd.M (Kd.int .i64) _ _ _ 1 [.int .i64 1] from rfl) (Reps.one (show Kd.M (Kd.int .i64) _ _ _ 1 [.int .i64 1] from rfl) (Reps.one (show Kd.M (Kd.int .i64) _ _ _ 2 [.int .i64 2] from rfl) (Reps.one (show Kd.M (Kd.int .i64) _ _ _ 2 [.int .i64 2] from rfl) (Reps.one (show Kd.M (Kd.int .i64) _ _ _ 2 [.int .i64 2] from rfl) (Reps.one (show Kd.M (Kd.int .i64) _ _ _ 2 [.int .i64 2] from rfl) (Reps.none _ _)))))))))))))))))); intro v290 w23 ho24 hb hg_ hnew_; clear hg_ hnew_; (first | rw [← Ny289.out] at ho24 | (simp only [Int.reduceToNat] at ho24; rw [← Ny289.out] at ho24)); have n0_ := aM_ (Kd.R_lower ho24 (qa_ (by repeat (first | (with_reducible first | exact HB.out | apply aa_ | apply ca_ | apply ga_ | refine na_ ?_ GE283.out | refine na_ ?_ GE284.out | refine na_ ?_ GE287.out) | exact HB.out)))); have n1_ := aM_ (oa_ (g := gb283) (o := .cells #[.int .i64 a0_0, .int .i64 a0_1, .int .i64 a0_2, .slice A0_3 l0_3.length c0_3, .slice A0_4 l0_4.length c0_4] 120 (0, 0)) (by (with_reducible repeat (first | refine la_ ?_ _ | refine ma_ ?_ | refine ka_ ?_ _)); refine ed_ ?_ NB283_287.out _; (with_reducible repeat (first | refine la_ ?_ _ | refine ma_ ?_ | refine ka_ ?_ _)); refine ed_ ?_ NB283_287.out _; (with_reducible repeat (first | refine la_ ?_ _ | refine ma_ ?_ | refine ka_ ?_ _)); refine ed_ ?_ NB283_287.out _; (with_reducible repeat (first | refine la_ ?_ _ | refine ma_ ?_ | refine ka_ ?_ _)); refine ed_ ?_ NB283_287.out _; (with_reducible repeat (first | refine la_ ?_ _ | refine ma_ ?_ | refine ka_ ?_ _)); refine ed_ ?_ NB283_287.out _; (with_reducible repeat (first | refine la_ ?_ _ | refine ma_ ?_ | refine ka_ ?_ _)); refine ed_ ?_ NB283_287.out _; (with_reducible repeat (first | refine la_ ?_ _ | refine ma_ ?_ | refine ka_ ?_ _)); exact BK283.out) hb); have n2_ := aM_ (oa_ (g := gb284) (o := .cells #[.int .i64 0, .slice none 0 0, .int .i64 0, .slice none 0 0, .int .i64 0] 56 (0, 0)) (by (with_reducible repeat (first | refine la_ ?_ _ | refine ma_ ?_ | refine ka_ ?_ _)); refine ed_ ?_ NB284_287.out _; (with_reducible repeat (first | refine la_ ?_ _ | refine ma_ ?_ | refine ka_ ?_ _)); refine ed_ ?_ NB284_287.out _; (with_reducible repeat (first | refine la_ ?_ _ | refine ma_ ?_ | refine ka_ ?_ _)); refine ed_ ?_ NB284_287.out _; (with_reducible repeat (first | refine la_ ?_ _ | refine ma_ ?_ | refine ka_ ?_ _)); refine ed_ ?_ NB284_287.out _; (with_reducible repeat (first | refine la_ ?_ _ | refine ma_ ?_ | refine ka_ ?_ _)); refine ed_ ?_ NB284_287.out _; (with_reducible repeat (first | refine la_ ?_ _ | refine ma_ ?_ | refine ka_ ?_ _)); refine ed_ ?_ NB284_287.out _; (with_reducible repeat (first | refine la_ ?_ _ | refine ma_ ?_ | refine ka_ ?_ _)); exact BK284.out) hb); have n3_ := aM_ (oa_ (g := gb287) (o := .cells #[.int .i64 t285, .slice none 0 0, .int .i64 t288, .slice none 0 0, .int .i64 t286] 56 (0, 0)) (by (with_reducible repeat (first | refine la_ ?_ _ | refine ma_ ?_ | refine ka_ ?_ _)); refine lc_ (cs := #[.int .i64 t285, .slice none 0 0, .int .i64 0, .slice none 0 0, .int .i64 t286]) ?_ 2 _ rfl; (with_reducible repeat (first | refine la_ ?_ _ | refine ma_ ?_ | refine ka_ ?_ _)); refine lc_ (cs := #[.int .i64 t285, .slice none 0 0, .int .i64 0, .slice none 0 0, .int .i64 0]) ?_ 4 _ rfl; (with_reducible repeat (first | refine la_ ?_ _ | refine ma_ ?_ | refine ka_ ?_ _)); refine lc_ (cs := #[.int .i64 t285, .slice none 0 0, .int .i64 0, .slice none 0 0, .int .i64 0]) ?_ 3 _ rfl; (with_reducible repeat (first | refine la_ ?_ _ | refine ma_ ?_ | refine ka_ ?_ _)); refine lc_ (cs := #[.int .i64 t285, .slice none 0 0, .int .i64 0, .slice none 0 0, .int .i64 0]) ?_ 2 _ rfl; (with_reducible repeat (first | refine la_ ?_ _ | refine ma_ ?_ | refine ka_ ?_ _)); refine lc_ (cs := #[.int .i64 t285, .slice none 0 0, .int .i64 0, .slice none 0 0, .int .i64 0]) ?_ 1 _ rfl; (with_reducible repeat (first | refine la_ ?_ _ | refine ma_ ?_ | refine ka_ ?_ _)); refine lc_ (cs := #[.int .i64 0, .slice none 0 0, .int .i64 0, .slice none 0 0, .int .i64 0]) ?_ 0 _ rfl; (with_reducible repeat (first | refine la_ ?_ _ | refine ma_ ?_ | refine ka_ ?_ _)); exact BK287.out) hb); have n4_ := aM_ (fa_ (by repeat (first | (with_reducible first | exact HB.out | apply aa_ | apply ca_ | apply ga_ | refine na_ ?_ GE283.out | refine na_ ?_ GE284.out | refine na_ ?_ GE287.out) | exact HB.out)) hb); clear BK283; clear BK284; clear BK287; clear HB; have HO291 := n0_; have BK283 := n1_; have BK284 := n2_; have BK287 := n3_; have HB := n4_; clear n0_ n1_ n2_ n3_ n4_; clear hb ho24; have hcz25_0 : w23.cell? ⟨gb287, 0, none⟩ = some (.int .i64 t285) := (ba_ BK287.out 0).trans rfl; have hcz25_1 : w23.cell? ⟨gb287, 1, none⟩ = some (.slice none 0 0) := (ba_ BK287.out 1).trans rfl; have hcz25_2 : w23.cell? ⟨gb287, 2, none⟩ = some (.int .i64 t288) := (ba_ BK287.out 2).trans rfl; have hcz25_3 : w23.cell? ⟨gb287, 3, none⟩ = some (.slice none 0 0) := (ba_ BK287.out 3).trans rfl; have hcz25_4 : w23.cell? ⟨gb287, 4, none⟩ = some (.int .i64 t286) := (ba_ BK287.out 4).trans rfl; have hfz25_0 := da_ BK287.out 0; have hfz25_1 := da_ BK287.out 1; have hfz25_2 := da_ BK287.out 2; have hfz25_3 := da_ BK287.out 3; have hfz25_4 := da_ BK287.out 4; obtain ⟨Ao26, co26, eo26⟩ := Kd.R_slice HO291.out; subst eo26; have p292 : 0 ≤ (t288 : Int) := of_decide_eq_true (by first | (with_reducible assumption) | assumption); have q292 : t288 < (y289.length : Int) := of_decide_eq_true (by first | (with_reducible assumption) | assumption); obtain ⟨ad292, e292, hx292_0⟩ := Kd.at_int (Kd.R_reads' HO291.out).2.2 t288 p292 q292; cases e292; replace p292 := eq_true p292; replace q292 := eq_true q292))
   go_loopg [7] k (fun kq v7 w' => ∃ (x7_1 : Int) (x288001_1 : List Int) (u288001 : Value), v7 = .int .i64 x7_1 ∧ Az (l4_Raw_Make.l0 kq a1 (rd y289 t288) x7_1 a0_0 a0_1 a0_2 l0_3 l0_4 t285 x288001_1 t288 t286 = some (r1, r2, r3, r4, r5)) ∧ Az (kq ≤ k) ∧ Az (Kd.R (Kd.int .i64) 3 w' w.heap.size (fun _ => True) u288001 x288001_1) ∧ Az (w'.heap[gb283]? = some (.cells #[.int .i64 a0_0, .int .i64 a0_1, .int .i64 a0_2, (.slice A0_3 l0_3.length c0_3), (.slice A0_4 l0_4.length c0_4)] 120 (0, 0))) ∧ Az (w'.heap[gb284]? = some (.cells #[.int .i64 0, (.slice none 0 0), .int .i64 0, (.slice none 0 0), .int .i64 0] 56 (0, 0))) ∧ Az (w'.heap[gb287]? = some (.cells #[.int .i64 t285, u288001, .int .i64 t288, (.slice none 0 0), .int .i64 t286] 56 (0, 0))) ∧ Az (Below w.heap.size w w'))
   case atStart => exact ⟨(0), (([] : List Int)), (.slice none 0 0), (by first | rfl | (simp; done) | (simp [*]; done)), H', ⟨Nat.le_refl _⟩, ⟨by first | exact Kd.R_nil _ _ _ _ _ | exact Kd.N_nil _ _ _ _ _ | exact Kd.V_nil _ _ _ _ _ | exact Kd.Q_nil _ _ _ _ _ | exact Kd.S_nil _ _ _ _ _⟩, ⟨by (with_reducible repeat (first | refine la_ ?_ _ | refine ma_ ?_ | refine ka_ ?_ _)); exact BK283.out⟩, ⟨by (with_reducible repeat (first | refine la_ ?_ _ | refine ma_ ?_ | refine ka_ ?_ _)); exact BK284.out⟩, ⟨by (with_reducible repeat (first | refine la_ ?_ _ | refine ma_ ?_ | refine ka_ ?_ _)); exact BK287.out⟩, ⟨by repeat (first | (with_reducible first | exact HB.out | apply aa_ | apply ca_ | apply ga_ | refine na_ ?_ GE283.out | refine na_ ?_ GE284.out | refine na_ ?_ GE287.out) | exact HB.out)⟩⟩
   clear H'; obtain ⟨x7_1, x288001_1, u288001, rfl, HA, HK1, HO_288001, BK283, BK284, BK287, HB⟩ := hrel
   cases gk with
   | zero => exact absurd HA.out (by simp [l4_Raw_Make.l0])
   | succ k1 =>
    have H := HA.out; clear HA; simp only [l4_Raw_Make.l0] at H; have HC27 := aM_ H; clear H
    go_upto_region 5 with (fail)
    go_cut [49] (fun v49 wc => ∃ (kq : Nat) (x49_26 : Bool), v49 = .bool x49_26 ∧ Az (l4_Raw_Make.j1 kq a1 (rd y289 t288) x7_1 x49_26 a0_0 a0_1 a0_2 l0_3 l0_4 t285 x288001_1 t288 t286 = some (r1, r2, r3, r4, r5)) ∧ Az (kq ≤ k1) ∧ Az (Kd.R (Kd.int .i64) 3 wc w.heap.size (fun _ => True) u288001 x288001_1) ∧ Az (wc.heap[gb283]? = some (.cells #[.int .i64 a0_0, .int .i64 a0_1, .int .i64 a0_2, (.slice A0_3 l0_3.length c0_3), (.slice A0_4 l0_4.length c0_4)] 120 (0, 0))) ∧ Az (wc.heap[gb284]? = some (.cells #[.int .i64 0, (.slice none 0 0), .int .i64 0, (.slice none 0 0), .int .i64 0] 56 (0, 0))) ∧ Az (wc.heap[gb287]? = some (.cells #[.int .i64 t285, u288001, .int .i64 t288, (.slice none 0 0), .int .i64 t286] 56 (0, 0))) ∧ Az (Below w.heap.size w wc))
    case first =>
     have H := HC27.out; clear HC27; replace H := Option.bind_eq_some_iff.mp H; obtain ⟨t293, A280, H⟩ := H; replace H : (if x7_1 < (wrap64 (1 + t293)) then (l4_Raw_Make.j1 k1 a1 (rd y289 t288) x7_1 true a0_0 a0_1 a0_2 l0_3 l0_4 t285 x288001_1 t288 t286) else (if x7_1 < (rd y289 t288) then ((l4_within.f (wrap64 (Int.tdiv a0_1 16)) 2).bind fun t294 => (l4_Raw_Make.j1 k1 a1 (rd y289 t288) x7_1 (t294 == 0) a0_0 a0_1 a0_2 l0_3 l0_4 t285 x288001_1 t288 t286)) else (l4_Raw_Make.j1 k1 a1 (rd y289 t288) x7_1 false a0_0 a0_1 a0_2 l0_3 l0_4 t285 x288001_1 t288 t286))) = some (r1, r2, r3, r4, r5) := H; have A28 := aM_ A280; clear A280
     by_cases c29 : x7_1 < (wrap64 (1 + t293))
     ·rw [if_pos c29] at H
      have c29b0 : decide (x7_1 < (wrap64 (1 + t293))) = true := decide_eq_true c29; clear c29
      (first | rw [c29b0] | (simp only [ia_, ja_]; rw [c29b0]) | skip)
      have H' := aM_ H; clear H; have hnb30 := NB283_284.out; have hnc30 := NB284_283.out; have hnb31 := NB283_287.out; have hnc31 := NB287_283.out; have hcz32_0 : wr.cell? ⟨gb283, 0, none⟩ = some (.int .i64 a0_0) := (ba_ BK283.out 0).trans rfl; have hcz32_1 : wr.cell? ⟨gb283, 1, none⟩ = some (.int .i64 a0_1) := (ba_ BK283.out 1).trans rfl; have hcz32_2 : wr.cell? ⟨gb283, 2, none⟩ = some (.int .i64 a0_2) := (ba_ BK283.out 2).trans rfl; have hcz32_3 : wr.cell? ⟨gb283, 3, none⟩ = some (.slice A0_3 l0_3.length c0_3) := (ba_ BK283.out 3).trans rfl; have hcz32_4 : wr.cell? ⟨gb283, 4, none⟩ = some (.slice A0_4 l0_4.length c0_4) := (ba_ BK283.out 4).trans rfl; have hfz32_0 := da_ BK283.out 0; have hfz32_1 := da_ BK283.out 1; have hfz32_2 := da_ BK283.out 2; have hfz32_3 := da_ BK283.out 3; have hfz32_4 := da_ BK283.out 4
      go_wp2_with (first | ((with_reducible refine mb_ (f := 122) rfl ?_); refine kd_ (some 35) rfl rfl Tryz.func122 (by kernel_rfl) rfl #[.int .i64 (l0_3.length : Int), .int .i64 3] rfl (by (try simp only [List.map_toArray, List.map_cons, List.map_nil]); first | done | rfl | (simp only [List.length_drop, List.length_take]; rfl)) ?_; (with_reducible refine (l4_within.calls (l0_3.length : Int) 3 t293 _ A28.out).mono ?_); rintro e w' ⟨rfl, ⟨nd, rfl⟩⟩; refine ⟨_, rfl, ?_⟩))
      go_meet
      case rel => exact ⟨_, (true), (by first | rfl | (simp; done) | (simp [*]; done)), H', ⟨by have := HK1.out; first | omega | exact Nat.le_refl _⟩, ⟨by (with_reducible repeat (first | apply Kd.R_alloc | apply Kd.R_drewN | apply Kd.R_drew)); exact HO_288001.out⟩, ⟨by (with_reducible repeat (first | refine la_ ?_ _ | refine ma_ ?_ | refine ka_ ?_ _)); exact BK283.out⟩, ⟨by (with_reducible repeat (first | refine la_ ?_ _ | refine ma_ ?_ | refine ka_ ?_ _)); exact BK284.out⟩, ⟨by (with_reducible repeat (first | refine la_ ?_ _ | refine ma_ ?_ | refine ka_ ?_ _)); exact BK287.out⟩, ⟨by repeat (first | (with_reducible first | exact HB.out | apply aa_ | apply ca_ | apply ga_ | refine na_ ?_ GE283.out | refine na_ ?_ GE284.out | refine na_ ?_ GE287.out) | exact HB.out)⟩⟩
     rw [if_neg c29] at H; have c29b0 : decide (x7_1 < (wrap64 (1 + t293))) = false := decide_eq_false c29; clear c29
     (first | rw [c29b0] | (simp only [ia_, ja_]; rw [c29b0]) | skip)
     by_cases c33 : x7_1 < (rd y289 t288)
     ·rw [if_pos c33] at H
      have c33b0 : decide (x7_1 < (rd y289 t288)) = true := decide_eq_true c33; clear c33; replace H := Option.bind_eq_some_iff.mp H; obtain ⟨t294, A340, H⟩ := H; replace H : (l4_Raw_Make.j1 k1 a1 (rd y289 t288) x7_1 (t294 == 0) a0_0 a0_1 a0_2 l0_3 l0_4 t285 x288001_1 t288 t286) = some (r1, r2, r3, r4, r5) := H; have A34 := aM_ A340; clear A340; have H' := aM_ H; clear H; have hnb35 := NB283_284.out; have hnc35 := NB284_283.out; have hnb36 := NB283_287.out; have hnc36 := NB287_283.out; have hcz37_0 : wr.cell? ⟨gb283, 0, none⟩ = some (.int .i64 a0_0) := (ba_ BK283.out 0).trans rfl; have hcz37_1 : wr.cell? ⟨gb283, 1, none⟩ = some (.int .i64 a0_1) := (ba_ BK283.out 1).trans rfl; have hcz37_2 : wr.cell? ⟨gb283, 2, none⟩ = some (.int .i64 a0_2) := (ba_ BK283.out 2).trans rfl; have hcz37_3 : wr.cell? ⟨gb283, 3, none⟩ = some (.slice A0_3 l0_3.length c0_3) := (ba_ BK283.out 3).trans rfl; have hcz37_4 : wr.cell? ⟨gb283, 4, none⟩ = some (.slice A0_4 l0_4.length c0_4) := (ba_ BK283.out 4).trans rfl; have hfz37_0 := da_ BK283.out 0; have hfz37_1 := da_ BK283.out 1; have hfz37_2 := da_ BK283.out 2; have hfz37_3 := da_ BK283.out 3; have hfz37_4 := da_ BK283.out 4
      go_wp2_with (first | ((with_reducible refine mb_ (f := 122) rfl ?_); refine kd_ (some 35) rfl rfl Tryz.func122 (by kernel_rfl) rfl #[.int .i64 (l0_3.length : Int), .int .i64 3] rfl (by (try simp only [List.map_toArray, List.map_cons, List.map_nil]); first | done | rfl | (simp only [List.length_drop, List.length_take]; rfl)) ?_; (with_reducible refine (l4_within.calls (l0_3.length : Int) 3 t293 _ A28.out).mono ?_); rintro e w' ⟨rfl, ⟨nd, rfl⟩⟩; refine ⟨_, rfl, ?_⟩) | (go_at_call 122; (with_reducible refine (l4_within.calls (wrap64 (Int.tdiv a0_1 16)) 2 t294 _ A34.out).mono ?_); rintro e w' ⟨rfl, ⟨nd, rfl⟩⟩))
      go_meet
      case rel => exact ⟨_, ((t294 == 0)), (by first | rfl | (simp; done) | (simp [*]; done)), H', ⟨by have := HK1.out; first | omega | exact Nat.le_refl _⟩, ⟨by (with_reducible repeat (first | apply Kd.R_alloc | apply Kd.R_drewN | apply Kd.R_drew)); exact HO_288001.out⟩, ⟨by (with_reducible repeat (first | refine la_ ?_ _ | refine ma_ ?_ | refine ka_ ?_ _)); exact BK283.out⟩, ⟨by (with_reducible repeat (first | refine la_ ?_ _ | refine ma_ ?_ | refine ka_ ?_ _)); exact BK284.out⟩, ⟨by (with_reducible repeat (first | refine la_ ?_ _ | refine ma_ ?_ | refine ka_ ?_ _)); exact BK287.out⟩, ⟨by repeat (first | (with_reducible first | exact HB.out | apply aa_ | apply ca_ | apply ga_ | refine na_ ?_ GE283.out | refine na_ ?_ GE284.out | refine na_ ?_ GE287.out) | exact HB.out)⟩⟩
     rw [if_neg c33] at H; have c33b0 : decide (x7_1 < (rd y289 t288)) = false := decide_eq_false c33; clear c33; have H' := aM_ H; clear H; have hnb38 := NB283_284.out; have hnc38 := NB284_283.out; have hnb39 := NB283_287.out; have hnc39 := NB287_283.out; have hcz40_0 : wr.cell? ⟨gb283, 0, none⟩ = some (.int .i64 a0_0) := (ba_ BK283.out 0).trans rfl; have hcz40_1 : wr.cell? ⟨gb283, 1, none⟩ = some (.int .i64 a0_1) := (ba_ BK283.out 1).trans rfl; have hcz40_2 : wr.cell? ⟨gb283, 2, none⟩ = some (.int .i64 a0_2) := (ba_ BK283.out 2).trans rfl; have hcz40_3 : wr.cell? ⟨gb283, 3, none⟩ = some (.slice A0_3 l0_3.length c0_3) := (ba_ BK283.out 3).trans rfl; have hcz40_4 : wr.cell? ⟨gb283, 4, none⟩ = some (.slice A0_4 l0_4.length c0_4) := (ba_ BK283.out 4).trans rfl; have hfz40_0 := da_ BK283.out 0; have hfz40_1 := da_ BK283.out 1; have hfz40_2 := da_ BK283.out 2; have hfz40_3 := da_ BK283.out 3; have hfz40_4 := da_ BK283.out 4
     go_wp2_with (first | ((with_reducible refine mb_ (f := 122) rfl ?_); refine kd_ (some 35) rfl rfl Tryz.func122 (by kernel_rfl) rfl #[.int .i64 (l0_3.length : Int), .int .i64 3] rfl (by (try simp only [List.map_toArray, List.map_cons, List.map_nil]); first | done | rfl | (simp only [List.length_drop, List.length_take]; rfl)) ?_; (with_reducible refine (l4_within.calls (l0_3.length : Int) 3 t293 _ A28.out).mono ?_); rintro e w' ⟨rfl, ⟨nd, rfl⟩⟩; refine ⟨_, rfl, ?_⟩))
     go_meet
     case rel => exact ⟨_, (false), (by first | rfl | (simp; done) | (simp [*]; done)), H', ⟨by have := HK1.out; first | omega | exact Nat.le_refl _⟩, ⟨by (with_reducible repeat (first | apply Kd.R_alloc | apply Kd.R_drewN | apply Kd.R_drew)); exact HO_288001.out⟩, ⟨by (with_reducible repeat (first | refine la_ ?_ _ | refine ma_ ?_ | refine ka_ ?_ _)); exact BK283.out⟩, ⟨by (with_reducible repeat (first | refine la_ ?_ _ | refine ma_ ?_ | refine ka_ ?_ _)); exact BK284.out⟩, ⟨by (with_reducible repeat (first | refine la_ ?_ _ | refine ma_ ?_ | refine ka_ ?_ _)); exact BK287.out⟩, ⟨by repeat (first | (with_reducible first | exact HB.out | apply aa_ | apply ca_ | apply ga_ | refine na_ ?_ GE283.out | refine na_ ?_ GE284.out | refine na_ ?_ GE287.out) | exact HB.out)⟩⟩
    clear HC27; obtain ⟨kq, x49_26, rfl, HA, HJ26, HO_288001, BK283, BK284, BK287, HB⟩ := hcut
    cases kq with
    | zero => exact absurd HA.out (by simp [l4_Raw_Make.j1])
    | succ kj26 =>
     have H := HA.out; clear HA; simp only [l4_Raw_Make.j1] at H
     by_cases c41 : x49_26 = true
     ·subst c41
      have H1 : (if x7_1 < (l0_3.length : Int) then (if 0 ≤ x7_1 then (l4_Raw_Make.j2 kj26 a1 (rd y289 t288) x7_1 (rd l0_3 x7_1) a0_0 a0_1 a0_2 l0_3 l0_4 t285 x288001_1 t288 t286) else (none)) else (l4_Raw_Make.j2 kj26 a1 (rd y289 t288) x7_1 x7_1 a0_0 a0_1 a0_2 l0_3 l0_4 t285 x288001_1 t288 t286)) = some (r1, r2, r3, r4, r5) := by rw [if_pos rfl] at H; exact H
      clear H; have H := H1; clear H1; have HC42 := aM_ H; clear H; have hnb43 := NB283_284.out; have hnc43 := NB284_283.out; have hnb44 := NB283_287.out; have hnc44 := NB287_283.out; have hcz45_0 : wc.cell? ⟨gb283, 0, none⟩ = some (.int .i64 a0_0) := (ba_ BK283.out 0).trans rfl; have hcz45_1 : wc.cell? ⟨gb283, 1, none⟩ = some (.int .i64 a0_1) := (ba_ BK283.out 1).trans rfl; have hcz45_2 : wc.cell? ⟨gb283, 2, none⟩ = some (.int .i64 a0_2) := (ba_ BK283.out 2).trans rfl; have hcz45_3 : wc.cell? ⟨gb283, 3, none⟩ = some (.slice A0_3 l0_3.length c0_3) := (ba_ BK283.out 3).trans rfl; have hcz45_4 : wc.cell? ⟨gb283, 4, none⟩ = some (.slice A0_4 l0_4.length c0_4) := (ba_ BK283.out 4).trans rfl; have hfz45_0 := da_ BK283.out 0; have hfz45_1 := da_ BK283.out 1; have hfz45_2 := da_ BK283.out 2; have hfz45_3 := da_ BK283.out 3; have hfz45_4 := da_ BK283.out 4
      go_upto_if 57 with (fail)
      go_cut [8] (fun v8 wc => ∃ (kq : Nat) (x8_41 : Int), v8 = .int .i64 x8_41 ∧ Az (l4_Raw_Make.j2 kq a1 (rd y289 t288) x7_1 x8_41 a0_0 a0_1 a0_2 l0_3 l0_4 t285 x288001_1 t288 t286 = some (r1, r2, r3, r4, r5)) ∧ Az (kq ≤ kj26) ∧ Az (Kd.R (Kd.int .i64) 3 wc w.heap.size (fun _ => True) u288001 x288001_1) ∧ Az (wc.heap[gb283]? = some (.cells #[.int .i64 a0_0, .int .i64 a0_1, .int .i64 a0_2, (.slice A0_3 l0_3.length c0_3), (.slice A0_4 l0_4.length c0_4)] 120 (0, 0))) ∧ Az (wc.heap[gb284]? = some (.cells #[.int .i64 0, (.slice none 0 0), .int .i64 0, (.slice none 0 0), .int .i64 0] 56 (0, 0))) ∧ Az (wc.heap[gb287]? = some (.cells #[.int .i64 t285, u288001, .int .i64 t288, (.slice none 0 0), .int .i64 t286] 56 (0, 0))) ∧ Az (Below w.heap.size w wc))
      case first =>
       have H := HC42.out; clear HC42
       by_cases c46 : x7_1 < (l0_3.length : Int)
       ·rw [if_pos c46] at H
        have c46b0 : decide (x7_1 < (l0_3.length : Int)) = true := decide_eq_true c46; clear c46
        (first | rw [c46b0] | (simp only [ia_, ja_]; rw [c46b0]) | skip)
        by_cases c47 : 0 ≤ x7_1
        ·rw [if_pos c47] at H
         have c47b0 : decide (0 ≤ x7_1) = true := decide_eq_true c47; clear c47; have H' := aM_ H; clear H; have hnb48 := NB283_284.out; have hnc48 := NB284_283.out; have hnb49 := NB283_287.out; have hnc49 := NB287_283.out; have hcz50_0 : wc.cell? ⟨gb283, 0, none⟩ = some (.int .i64 a0_0) := (ba_ BK283.out 0).trans rfl; have hcz50_1 : wc.cell? ⟨gb283, 1, none⟩ = some (.int .i64 a0_1) := (ba_ BK283.out 1).trans rfl; have hcz50_2 : wc.cell? ⟨gb283, 2, none⟩ = some (.int .i64 a0_2) := (ba_ BK283.out 2).trans rfl; have hcz50_3 : wc.cell? ⟨gb283, 3, none⟩ = some (.slice A0_3 l0_3.length c0_3) := (ba_ BK283.out 3).trans rfl; have hcz50_4 : wc.cell? ⟨gb283, 4, none⟩ = some (.slice A0_4 l0_4.length c0_4) := (ba_ BK283.out 4).trans rfl; have hfz50_0 := da_ BK283.out 0; have hfz50_1 := da_ BK283.out 1; have hfz50_2 := da_ BK283.out 2; have hfz50_3 := da_ BK283.out 3; have hfz50_4 := da_ BK283.out 4; have p295 : 0 ≤ (x7_1 : Int) := of_decide_eq_true (by first | (with_reducible assumption) | assumption); have q295 : x7_1 < (l0_3.length : Int) := of_decide_eq_true (by first | (with_reducible assumption) | assumption); obtain ⟨ad295, e295, hx295_0⟩ := Kd.at_int HR0_3.out x7_1 p295 q295
         cases e295
         replace hx295_0 := (HB.out.cell (World.block_lt_of_cell? w _ hx295_0)).trans hx295_0; replace p295 := eq_true p295; replace q295 := eq_true q295
         go_wp2
         go_meet
         case rel => exact ⟨_, (rd l0_3 x7_1), (by first | rfl | (simp; done) | (simp [*]; done)), H', ⟨by have := HK1.out; have := HJ26.out; first | omega | exact Nat.le_refl _⟩, ⟨by (with_reducible repeat (first | apply Kd.R_alloc | apply Kd.R_drewN | apply Kd.R_drew)); exact HO_288001.out⟩, ⟨by (with_reducible repeat (first | refine la_ ?_ _ | refine ma_ ?_ | refine ka_ ?_ _)); exact BK283.out⟩, ⟨by (with_reducible repeat (first | refine la_ ?_ _ | refine ma_ ?_ | refine ka_ ?_ _)); exact BK284.out⟩, ⟨by (with_reducible repeat (first | refine la_ ?_ _ | refine ma_ ?_ | refine ka_ ?_ _)); exact BK287.out⟩, ⟨by repeat (first | (with_reducible first | exact HB.out | apply aa_ | apply ca_ | apply ga_ | refine na_ ?_ GE283.out | refine na_ ?_ GE284.out | refine na_ ?_ GE287.out) | exact HB.out)⟩⟩
        rw [if_neg c47] at H; exact absurd H (by simp)
       rw [if_neg c46] at H; have c46b0 : decide (x7_1 < (l0_3.length : Int)) = false := decide_eq_false c46; clear c46
       (first | rw [c46b0] | (simp only [ia_, ja_]; rw [c46b0]) | skip)
       have H' := aM_ H; clear H
       go_wp2
       go_meet
       case rel => exact ⟨_, (x7_1), (by first | rfl | (simp; done) | (simp [*]; done)), H', ⟨by have := HK1.out; have := HJ26.out; first | omega | exact Nat.le_refl _⟩, ⟨by (with_reducible repeat (first | apply Kd.R_alloc | apply Kd.R_drewN | apply Kd.R_drew)); exact HO_288001.out⟩, ⟨by (with_reducible repeat (first | refine la_ ?_ _ | refine ma_ ?_ | refine ka_ ?_ _)); exact BK283.out⟩, ⟨by (with_reducible repeat (first | refine la_ ?_ _ | refine ma_ ?_ | refine ka_ ?_ _)); exact BK284.out⟩, ⟨by (with_reducible repeat (first | refine la_ ?_ _ | refine ma_ ?_ | refine ka_ ?_ _)); exact BK287.out⟩, ⟨by repeat (first | (with_reducible first | exact HB.out | apply aa_ | apply ca_ | apply ga_ | refine na_ ?_ GE283.out | refine na_ ?_ GE284.out | refine na_ ?_ GE287.out) | exact HB.out)⟩⟩
      clear HC42; obtain ⟨kq, x8_41, rfl, HA, HJ41, HO_288001, BK283, BK284, BK287, HB⟩ := hcut
      cases kq with
      | zero => exact absurd HA.out (by simp [l4_Raw_Make.j2])
      | succ kj41 =>
       have H := HA.out; clear HA; simp only [l4_Raw_Make.j2] at H; replace H := Option.bind_eq_some_iff.mp H; obtain ⟨t296, A510, H⟩ := H; replace H : ((l4_within.f (wrap64 (Int.tdiv x8_41 20)) 2).bind fun t297 => (if t297 = 0 then ((some (([0, 0, 0, 1, 2, 3, 50, 51, 52, 53, 54] : List Int) : List Int)).bind fun y298 => ((l4_within.f (wrap64 (Int.tdiv x8_41 40)) 11).bind fun t301 => (if 0 ≤ t301 then (if t301 < (y298.length : Int) then (if x288001_1.length < 17592186044416 then (l4_Raw_Make.l0 kj41 a1 (rd y289 t288) (wrap64 (x7_1 + 1)) a0_0 a0_1 a0_2 l0_3 l0_4 t285 (x288001_1 ++ [wrap64 ((-1) - (rd y298 t301))]) t288 t286) else (none)) else (none)) else (none)))) else (if x288001_1.length < 17592186044416 then (l4_Raw_Make.l0 kj41 a1 (rd y289 t288) (wrap64 (x7_1 + 1)) a0_0 a0_1 a0_2 l0_3 l0_4 t285 (x288001_1 ++ [t296]) t288 t286) else (none)))) = some (r1, r2, r3, r4, r5) := H; have A51 := aM_ A510; clear A510; replace H := Option.bind_eq_some_iff.mp H; obtain ⟨t297, A520, H⟩ := H; replace H : (if t297 = 0 then ((some (([0, 0, 0, 1, 2, 3, 50, 51, 52, 53, 54] : List Int) : List Int)).bind fun y298 => ((l4_within.f (wrap64 (Int.tdiv x8_41 40)) 11).bind fun t301 => (if 0 ≤ t301 then (if t301 < (y298.length : Int) then (if x288001_1.length < 17592186044416 then (l4_Raw_Make.l0 kj41 a1 (rd y289 t288) (wrap64 (x7_1 + 1)) a0_0 a0_1 a0_2 l0_3 l0_4 t285 (x288001_1 ++ [wrap64 ((-1) - (rd y298 t301))]) t288 t286) else (none)) else (none)) else (none)))) else (if x288001_1.length < 17592186044416 then (l4_Raw_Make.l0 kj41 a1 (rd y289 t288) (wrap64 (x7_1 + 1)) a0_0 a0_1 a0_2 l0_3 l0_4 t285 (x288001_1 ++ [t296]) t288 t286) else (none))) = some (r1, r2, r3, r4, r5) := H; have A52 := aM_ A520; clear A520
       by_cases c53 : t297 = 0
       ·rw [if_pos c53] at H
        have c53b0 : (t297 == 0) = true := beq_iff_eq.mpr c53; have c53b1 : (t297 != 0) = false := bne_eq_false_iff_eq.mpr c53; clear c53; obtain ⟨y298, hy298⟩ : ∃ y_ : List Int, y_ = (([0, 0, 0, 1, 2, 3, 50, 51, 52, 53, 54] : List Int)) := ⟨_, rfl⟩; replace H : ((l4_within.f (wrap64 (Int.tdiv x8_41 40)) 11).bind fun t301 => (if 0 ≤ t301 then (if t301 < (y298.length : Int) then (if x288001_1.length < 17592186044416 then (l4_Raw_Make.l0 kj41 a1 (rd y289 t288) (wrap64 (x7_1 + 1)) a0_0 a0_1 a0_2 l0_3 l0_4 t285 (x288001_1 ++ [wrap64 ((-1) - (rd y298 t301))]) t288 t286) else (none)) else (none)) else (none))) = some (r1, r2, r3, r4, r5) := by first | (rw [hy298]; with_reducible exact H) | (have H2_ := (Option.bind_some _ _).symm.trans H; rw [hy298]; with_reducible exact H2_) | (have H2_ := (Option.bind_some _ _).symm.trans H; with_reducible exact H2_) | with_reducible exact H | (rw [hy298]; exact H) | exact H
        have Ny298 := aM_ hy298; clear hy298; replace H := Option.bind_eq_some_iff.mp H; obtain ⟨t301, A540, H⟩ := H; replace H : (if 0 ≤ t301 then (if t301 < (y298.length : Int) then (if x288001_1.length < 17592186044416 then (l4_Raw_Make.l0 kj41 a1 (rd y289 t288) (wrap64 (x7_1 + 1)) a0_0 a0_1 a0_2 l0_3 l0_4 t285 (x288001_1 ++ [wrap64 ((-1) - (rd y298 t301))]) t288 t286) else (none)) else (none)) else (none)) = some (r1, r2, r3, r4, r5) := H; have A54 := aM_ A540; clear A540
        by_cases c55 : 0 ≤ t301
        ·rw [if_pos c55] at H
         have c55b0 : decide (0 ≤ t301) = true := decide_eq_true c55; clear c55
         by_cases c56 : t301 < (y298.length : Int)
         ·rw [if_pos c56] at H
          have c56b0 : decide (t301 < (y298.length : Int)) = true := decide_eq_true c56; clear c56
          by_cases c57 : x288001_1.length < 17592186044416
          ·rw [if_pos c57] at H
           have LMc57 := aM_ c57; clear c57; obtain ⟨y303, hy303⟩ : ∃ y_ : List Int, y_ = (x288001_1 ++ [wrap64 ((-1) - (rd y298 t301))]) := ⟨_, rfl⟩; replace H : (l4_Raw_Make.l0 kj41 a1 (rd y289 t288) (wrap64 (x7_1 + 1)) a0_0 a0_1 a0_2 l0_3 l0_4 t285 y303 t288 t286) = some (r1, r2, r3, r4, r5) := by first | (rw [hy303]; with_reducible exact H) | (have H2_ := (Option.bind_some _ _).symm.trans H; rw [hy303]; with_reducible exact H2_) | (have H2_ := (Option.bind_some _ _).symm.trans H; with_reducible exact H2_) | with_reducible exact H | (rw [hy303]; exact H) | exact H
           have Ny303 := aM_ hy303; clear hy303; have H' := aM_ H; clear H
           go_wp2_with (first | ((with_reducible refine mb_ (f := 122) rfl ?_); refine kd_ (some 65) rfl rfl Tryz.func122 (by kernel_rfl) rfl #[.int .i64 x8_41, .int .i64 a1] rfl (by (try simp only [List.map_toArray, List.map_cons, List.map_nil]); first | done | rfl | (simp only [List.length_drop, List.length_take]; rfl)) ?_; (with_reducible refine (l4_within.calls x8_41 a1 t296 _ A51.out).mono ?_); rintro e w' ⟨rfl, ⟨nd, rfl⟩⟩; refine ⟨_, rfl, ?_⟩; (try (rw [yf_ wc]; generalize hq_ : World.drewN wc _ = wc; have n0_ : Az (Kd.R (Kd.int .i64) 3 wc w.heap.size (fun _ => True) u288001 x288001_1) := ⟨by rw [← hq_]; exact (by (with_reducible repeat (first | apply Kd.R_alloc | apply Kd.R_drewN | apply Kd.R_drew)); exact HO_288001.out)⟩; have n1_ : Az (wc.heap[gb283]? = some (.cells #[.int .i64 a0_0, .int .i64 a0_1, .int .i64 a0_2, .slice A0_3 l0_3.length c0_3, .slice A0_4 l0_4.length c0_4] 120 (0, 0))) := ⟨by rw [← hq_]; exact (by (with_reducible repeat (first | refine la_ ?_ _ | refine ma_ ?_ | refine ka_ ?_ _)); exact BK283.out)⟩; have n2_ : Az (wc.heap[gb284]? = some (.cells #[.int .i64 0, .slice none 0 0, .int .i64 0, .slice none 0 0, .int .i64 0] 56 (0, 0))) := ⟨by rw [← hq_]; exact (by (with_reducible repeat (first | refine la_ ?_ _ | refine ma_ ?_ | refine ka_ ?_ _)); exact BK284.out)⟩; have n3_ : Az (wc.heap[gb287]? = some (.cells #[.int .i64 t285, u288001, .int .i64 t288, .slice none 0 0, .int .i64 t286] 56 (0, 0))) := ⟨by rw [← hq_]; exact (by (with_reducible repeat (first | refine la_ ?_ _ | refine ma_ ?_ | refine ka_ ?_ _)); exact BK287.out)⟩; have n4_ : Az (Below w.heap.size w wc) := ⟨by rw [← hq_]; exact (by repeat (first | (with_reducible first | exact HB.out | apply aa_ | apply ca_ | apply ga_ | refine na_ ?_ GE283.out | refine na_ ?_ GE284.out | refine na_ ?_ GE287.out) | exact HB.out))⟩; clear HO_288001 BK283 BK284 BK287 HB hq_; have HO_288001 := n0_; have BK283 := n1_; have BK284 := n2_; have BK287 := n3_; have HB := n4_; clear n0_ n1_ n2_ n3_ n4_))) | ((with_reducible refine mb_ (f := 122) rfl ?_); refine kd_ (some 68) rfl rfl Tryz.func122 (by kernel_rfl) rfl #[.int .i64 (wrap64 (Int.tdiv x8_41 20)), .int .i64 2] rfl (by (try simp only [List.map_toArray, List.map_cons, List.map_nil]); first | done | rfl | (simp only [List.length_drop, List.length_take]; rfl)) ?_; (with_reducible refine (l4_within.calls (wrap64 (Int.tdiv x8_41 20)) 2 t297 _ A52.out).mono ?_); rintro e w' ⟨rfl, ⟨nd, rfl⟩⟩; refine ⟨_, rfl, ?_⟩; (try (rw [yf_ wc]; generalize hq_ : World.drewN wc _ = wc; have n0_ : Az (Kd.R (Kd.int .i64) 3 wc w.heap.size (fun _ => True) u288001 x288001_1) := ⟨by rw [← hq_]; exact (by (with_reducible repeat (first | apply Kd.R_alloc | apply Kd.R_drewN | apply Kd.R_drew)); exact HO_288001.out)⟩; have n1_ : Az (wc.heap[gb283]? = some (.cells #[.int .i64 a0_0, .int .i64 a0_1, .int .i64 a0_2, .slice A0_3 l0_3.length c0_3, .slice A0_4 l0_4.length c0_4] 120 (0, 0))) := ⟨by rw [← hq_]; exact (by (with_reducible repeat (first | refine la_ ?_ _ | refine ma_ ?_ | refine ka_ ?_ _)); exact BK283.out)⟩; have n2_ : Az (wc.heap[gb284]? = some (.cells #[.int .i64 0, .slice none 0 0, .int .i64 0, .slice none 0 0, .int .i64 0] 56 (0, 0))) := ⟨by rw [← hq_]; exact (by (with_reducible repeat (first | refine la_ ?_ _ | refine ma_ ?_ | refine ka_ ?_ _)); exact BK284.out)⟩; have n3_ : Az (wc.heap[gb287]? = some (.cells #[.int .i64 t285, u288001, .int .i64 t288, .slice none 0 0, .int .i64 t286] 56 (0, 0))) := ⟨by rw [← hq_]; exact (by (with_reducible repeat (first | refine la_ ?_ _ | refine ma_ ?_ | refine ka_ ?_ _)); exact BK287.out)⟩; have n4_ : Az (Below w.heap.size w wc) := ⟨by rw [← hq_]; exact (by repeat (first | (with_reducible first | exact HB.out | apply aa_ | apply ca_ | apply ga_ | refine na_ ?_ GE283.out | refine na_ ?_ GE284.out | refine na_ ?_ GE287.out) | exact HB.out))⟩; clear HO_288001 BK283 BK284 BK287 HB hq_; have HO_288001 := n0_; have BK283 := n1_; have BK284 := n2_; have BK287 := n3_; have HB := n4_; clear n0_ n1_ n2_ n3_ n4_))) | ((with_reducible refine ld_ (N := 70) rfl ?_); refine Kd.R_lit (Kd.int .i64) _ 3 ?hg (N := 70) ?hd (xs := ([0, 0, 0, 1, 2, 3, 50, 51, 52, 53, 54] : List Int)) (inner := [.int .i64 0, .int .i64 0, .int .i64 0, .int .i64 1, .int .i64 2, .int .i64 3, .int .i64 50, .int .i64 51, .int .i64 52, .int .i64 53, .int .i64 54]) (ok := fun _ => True) (okp := fun _ => True) ?hr ?hp (fun _ hk => hk) trivial (Below.refl _ _) (Nat.le_refl _) (by simp) ?_; (case hd => rfl); (case hg => rfl); (case hr => first | (go_simp; done) | (go_simp; rfl)); (case hp => exact (Reps.one (show Kd.M (Kd.int .i64) _ _ _ 0 [.int .i64 0] from rfl) (Reps.one (show Kd.M (Kd.int .i64) _ _ _ 0 [.int .i64 0] from rfl) (Reps.one (show Kd.M (Kd.int .i64) _ _ _ 0 [.int .i64 0] from rfl) (Reps.one (show Kd.M (Kd.int .i64) _ _ _ 1 [.int .i64 1] from rfl) (Reps.one (show Kd.M (Kd.int .i64) _ _ _ 2 [.int .i64 2] from rfl) (Reps.one (show Kd.M (Kd.int .i64) _ _ _ 3 [.int .i64 3] from rfl) (Reps.one (show Kd.M (Kd.int .i64) _ _ _ 50 [.int .i64 50] from rfl) (Reps.one (show Kd.M (Kd.int .i64) _ _ _ 51 [.int .i64 51] from rfl) (Reps.one (show Kd.M (Kd.int .i64) _ _ _ 52 [.int .i64 52] from rfl) (Reps.one (show Kd.M (Kd.int .i64) _ _ _ 53 [.int .i64 53] from rfl) (Reps.one (show Kd.M (Kd.int .i64) _ _ _ 54 [.int .i64 54] from rfl) (Reps.none _ _))))))))))))); intro v299 w58 ho59 hb hg_ hnew_; clear hg_ hnew_; (first | rw [← Ny298.out] at ho59 | (simp only [Int.reduceToNat] at ho59; rw [← Ny298.out] at ho59)); have n0_ := aM_ (Kd.R_elder' (by (with_reducible repeat (first | apply Kd.R_alloc | apply Kd.R_drewN | apply Kd.R_drew)); exact HO_288001.out) (Kd.R_base ho59) hb); have n1_ := aM_ (Kd.R_lower (Kd.R_new' ho59 (Kd.R_lt (by (with_reducible repeat (first | apply Kd.R_alloc | apply Kd.R_drewN | apply Kd.R_drew)); exact HO_288001.out))) (qa_ (by repeat (first | (with_reducible first | exact HB.out | apply aa_ | apply ca_ | apply ga_ | refine na_ ?_ GE283.out | refine na_ ?_ GE284.out | refine na_ ?_ GE287.out) | exact HB.out)))); have n2_ := aM_ (oa_ (g := gb283) (o := .cells #[.int .i64 a0_0, .int .i64 a0_1, .int .i64 a0_2, .slice A0_3 l0_3.length c0_3, .slice A0_4 l0_4.length c0_4] 120 (0, 0)) (by (with_reducible repeat (first | refine la_ ?_ _ | refine ma_ ?_ | refine ka_ ?_ _)); exact BK283.out) hb); have n3_ := aM_ (oa_ (g := gb284) (o := .cells #[.int .i64 0, .slice none 0 0, .int .i64 0, .slice none 0 0, .int .i64 0] 56 (0, 0)) (by (with_reducible repeat (first | refine la_ ?_ _ | refine ma_ ?_ | refine ka_ ?_ _)); exact BK284.out) hb); have n4_ := aM_ (oa_ (g := gb287) (o := .cells #[.int .i64 t285, u288001, .int .i64 t288, .slice none 0 0, .int .i64 t286] 56 (0, 0)) (by (with_reducible repeat (first | refine la_ ?_ _ | refine ma_ ?_ | refine ka_ ?_ _)); exact BK287.out) hb); have n5_ := aM_ (fa_ (by repeat (first | (with_reducible first | exact HB.out | apply aa_ | apply ca_ | apply ga_ | refine na_ ?_ GE283.out | refine na_ ?_ GE284.out | refine na_ ?_ GE287.out) | exact HB.out)) hb); clear HO_288001; clear BK283; clear BK284; clear BK287; clear HB; have HO_288001 := n0_; have HO300 := n1_; have BK283 := n2_; have BK284 := n3_; have BK287 := n4_; have HB := n5_; clear n0_ n1_ n2_ n3_ n4_ n5_; clear hb ho59) | ((with_reducible refine mb_ (f := 122) rfl ?_); refine kd_ (some 73) rfl rfl Tryz.func122 (by kernel_rfl) rfl #[.int .i64 (wrap64 (Int.tdiv x8_41 40)), .int .i64 11] rfl (by (try simp only [List.map_toArray, List.map_cons, List.map_nil]); first | done | rfl | (simp only [List.length_drop, List.length_take]; rfl)) ?_; (with_reducible refine (l4_within.calls (wrap64 (Int.tdiv x8_41 40)) 11 t301 _ A54.out).mono ?_); rintro e w' ⟨rfl, ⟨nd, rfl⟩⟩; refine ⟨_, rfl, ?_⟩; (try (rw [yf_ w58]; generalize hq_ : World.drewN w58 _ = w58; have n0_ : Az (Kd.R (Kd.int .i64) 3 w58 w.heap.size (fun k_ => (True ∧ some k_ ≠ (u288001 : Value).ownBlock)) v299 y298) := ⟨by rw [← hq_]; exact (by (with_reducible repeat (first | apply Kd.R_alloc | apply Kd.R_drewN | apply Kd.R_drew)); exact HO300.out)⟩; have n1_ : Az (Kd.R (Kd.int .i64) 3 w58 w.heap.size (fun k_ => (True ∧ some k_ ≠ (v299 : Value).ownBlock)) u288001 x288001_1) := ⟨by rw [← hq_]; exact (by (with_reducible repeat (first | apply Kd.R_alloc | apply Kd.R_drewN | apply Kd.R_drew)); exact HO_288001.out)⟩; have n2_ : Az (w58.heap[gb283]? = some (.cells #[.int .i64 a0_0, .int .i64 a0_1, .int .i64 a0_2, .slice A0_3 l0_3.length c0_3, .slice A0_4 l0_4.length c0_4] 120 (0, 0))) := ⟨by rw [← hq_]; exact (by (with_reducible repeat (first | refine la_ ?_ _ | refine ma_ ?_ | refine ka_ ?_ _)); exact BK283.out)⟩; have n3_ : Az (w58.heap[gb284]? = some (.cells #[.int .i64 0, .slice none 0 0, .int .i64 0, .slice none 0 0, .int .i64 0] 56 (0, 0))) := ⟨by rw [← hq_]; exact (by (with_reducible repeat (first | refine la_ ?_ _ | refine ma_ ?_ | refine ka_ ?_ _)); exact BK284.out)⟩; have n4_ : Az (w58.heap[gb287]? = some (.cells #[.int .i64 t285, u288001, .int .i64 t288, .slice none 0 0, .int .i64 t286] 56 (0, 0))) := ⟨by rw [← hq_]; exact (by (with_reducible repeat (first | refine la_ ?_ _ | refine ma_ ?_ | refine ka_ ?_ _)); exact BK287.out)⟩; have n5_ : Az (Below w.heap.size w w58) := ⟨by rw [← hq_]; exact (by repeat (first | (with_reducible first | exact HB.out | apply aa_ | apply ca_ | apply ga_ | refine na_ ?_ GE283.out | refine na_ ?_ GE284.out | refine na_ ?_ GE287.out) | exact HB.out))⟩; clear HO300 HO_288001 BK283 BK284 BK287 HB hq_; have HO300 := n0_; have HO_288001 := n1_; have BK283 := n2_; have BK284 := n3_; have BK287 := n4_; have HB := n5_; clear n0_ n1_ n2_ n3_ n4_ n5_)); obtain ⟨Ao60, co60, eo60⟩ := Kd.R_slice HO300.out; subst eo60; have p302 : 0 ≤ (t301 : Int) := of_decide_eq_true (by first | (with_reducible assumption) | assumption); have q302 : t301 < (y298.length : Int) := of_decide_eq_true (by first | (with_reducible assumption) | assumption); obtain ⟨ad302, e302, hx302_0⟩ := Kd.at_int (Kd.R_reads' HO300.out).2.2 t301 p302 q302; cases e302; replace p302 := eq_true p302; replace q302 := eq_true q302; have hnb61 := NB287_283.out; have hnc61 := NB283_287.out; have hnb62 := NB287_284.out; have hnc62 := NB284_287.out; have hcz63_0 : w58.cell? ⟨gb287, 0, none⟩ = some (.int .i64 t285) := (ba_ BK287.out 0).trans rfl; have hcz63_1 : w58.cell? ⟨gb287, 1, none⟩ = some (u288001) := (ba_ BK287.out 1).trans rfl; have hcz63_2 : w58.cell? ⟨gb287, 2, none⟩ = some (.int .i64 t288) := (ba_ BK287.out 2).trans rfl; have hcz63_3 : w58.cell? ⟨gb287, 3, none⟩ = some (.slice none 0 0) := (ba_ BK287.out 3).trans rfl; have hcz63_4 : w58.cell? ⟨gb287, 4, none⟩ = some (.int .i64 t286) := (ba_ BK287.out 4).trans rfl; have hfz63_0 := da_ BK287.out 0; have hfz63_1 := da_ BK287.out 1; have hfz63_2 := da_ BK287.out 2; have hfz63_3 := da_ BK287.out 3; have hfz63_4 := da_ BK287.out 4) | ((with_reducible refine eh_ (b := .append) (xs := #[.tmp 78, .tmp 80]) rfl ?_); at_builtin; refine Kd.R_append (Kd.int .i64) (w0 := w) w.heap.size rfl (.tmp 78) (.tmp 80) 35 3 (.int .i64 0) 8 rfl Tryz.underlying35 qh_ rfl (by decide) (by omega) u288001 x288001_1 (wrap64 ((-1) - (rd y298 t301))) [.int .i64 (wrap64 ((-1) - (rd y298 t301)))] (fun k_ => some k_ ≠ (.slice (some ad302) y298.length co60 : Value).ownBlock) (fun _ => False) rfl rfl ?aP (fun _ hk => hk.elim) ?aF ?aO ?aB ?aS ?aL ?_; (case aP => exact rfl); (case aB => exact (by repeat (first | (with_reducible first | exact HB.out | apply aa_ | apply ca_ | apply ga_ | refine na_ ?_ GE283.out | refine na_ ?_ GE284.out | refine na_ ?_ GE287.out) | exact HB.out))); (case aF => exact (fun k_ hk => Kd.fresh' (Kd.R_lt (by (with_reducible repeat (first | apply Kd.R_alloc | apply Kd.R_drewN | apply Kd.R_drew)); exact HO300.out)) k_ hk)); (case aO => exact (by (with_reducible repeat (first | apply Kd.R_alloc | apply Kd.R_drewN | apply Kd.R_drew)); (first | exact Kd.R_mono HO_288001.out (fun _ hk => hk.2) | exact HO_288001.out))); (case aS => exact (qa_ (by repeat (first | (with_reducible first | exact HB.out | apply aa_ | apply ca_ | apply ga_ | refine na_ ?_ GE283.out | refine na_ ?_ GE284.out | refine na_ ?_ GE287.out) | exact HB.out)))); (case aL => have := LMc57.out; omega); intro v304 w64 ho hb hg hat; rw [← Ny303.out] at ho; have n0_ := aM_ (gb_ (g := gb283) (o := .cells #[.int .i64 a0_0, .int .i64 a0_1, .int .i64 a0_2, .slice A0_3 l0_3.length c0_3, .slice A0_4 l0_4.length c0_4] 120 (0, 0)) (by (with_reducible repeat (first | refine la_ ?_ _ | refine ma_ ?_ | refine ka_ ?_ _)); exact BK283.out) hg (Kd.R_ne HO_288001.out BK283.out (by decide))); have n1_ := aM_ (gb_ (g := gb284) (o := .cells #[.int .i64 0, .slice none 0 0, .int .i64 0, .slice none 0 0, .int .i64 0] 56 (0, 0)) (by (with_reducible repeat (first | refine la_ ?_ _ | refine ma_ ?_ | refine ka_ ?_ _)); exact BK284.out) hg (Kd.R_ne HO_288001.out BK284.out (by decide))); have n2_ := aM_ (gb_ (g := gb287) (o := .cells #[.int .i64 t285, u288001, .int .i64 t288, .slice none 0 0, .int .i64 t286] 56 (0, 0)) (by (with_reducible repeat (first | refine la_ ?_ _ | refine ma_ ?_ | refine ka_ ?_ _)); exact BK287.out) hg (Kd.R_ne HO_288001.out BK287.out (by decide))); have n3_ := aM_ (Kd.R_after (ok := (fun _ => True)) (by (with_reducible repeat (first | apply Kd.R_alloc | apply Kd.R_drewN | apply Kd.R_drew)); exact HO300.out) hg hat); have n4_ := aM_ (hb); have n5_ := aM_ (ho); clear BK283; clear BK284; clear BK287; clear HO300; clear HB; clear HO_288001; have BK283 := n0_; have BK284 := n1_; have BK287 := n2_; have HO300 := n3_; have HB := n4_; have HO305 := n5_; clear n0_ n1_ n2_ n3_ n4_ n5_; clear ho hb hg hat; obtain ⟨Ao65, co65, eo65⟩ := Kd.R_slice HO305.out; subst eo65; have hcz66_0 : w64.cell? ⟨gb287, 0, none⟩ = some (.int .i64 t285) := (ba_ BK287.out 0).trans rfl; have hcz66_1 : w64.cell? ⟨gb287, 1, none⟩ = some (u288001) := (ba_ BK287.out 1).trans rfl; have hcz66_2 : w64.cell? ⟨gb287, 2, none⟩ = some (.int .i64 t288) := (ba_ BK287.out 2).trans rfl; have hcz66_3 : w64.cell? ⟨gb287, 3, none⟩ = some (.slice none 0 0) := (ba_ BK287.out 3).trans rfl; have hcz66_4 : w64.cell? ⟨gb287, 4, none⟩ = some (.int .i64 t286) := (ba_ BK287.out 4).trans rfl; have hfz66_0 := da_ BK287.out 0; have hfz66_1 := da_ BK287.out 1; have hfz66_2 := da_ BK287.out 2; have hfz66_3 := da_ BK287.out 3; have hfz66_4 := da_ BK287.out 4))
           go_roundg kj41
           case measure => have := HK1.out; have := HJ26.out; have := HJ41.out; omega
           case rel => exact ⟨(wrap64 (x7_1 + 1)), (y303), (.slice Ao65 y303.length co65), (by first | rfl | (simp; done) | (simp [*]; done)), H', ⟨by have := HK1.out; have := HJ26.out; have := HJ41.out; omega⟩, ⟨by (with_reducible repeat (first | apply Kd.R_alloc | apply Kd.R_drewN | apply Kd.R_drew)); exact Kd.R_mono (Kd.R_far (p := ⟨gb287, 1, none⟩) (Kd.R_types HO305.out BK287.out (by decide)) (fun _ hk => hk.2) (.slice Ao65 y303.length co65)) (fun _ hk => trivial)⟩, ⟨by (with_reducible repeat (first | refine la_ ?_ _ | refine ma_ ?_ | refine ka_ ?_ _)); refine ed_ ?_ NB283_287.out _; (with_reducible repeat (first | refine la_ ?_ _ | refine ma_ ?_ | refine ka_ ?_ _)); exact BK283.out⟩, ⟨by (with_reducible repeat (first | refine la_ ?_ _ | refine ma_ ?_ | refine ka_ ?_ _)); refine ed_ ?_ NB284_287.out _; (with_reducible repeat (first | refine la_ ?_ _ | refine ma_ ?_ | refine ka_ ?_ _)); exact BK284.out⟩, ⟨by (with_reducible repeat (first | refine la_ ?_ _ | refine ma_ ?_ | refine ka_ ?_ _)); refine lc_ (cs := #[.int .i64 t285, u288001, .int .i64 t288, .slice none 0 0, .int .i64 t286]) ?_ 1 _ rfl; (with_reducible repeat (first | refine la_ ?_ _ | refine ma_ ?_ | refine ka_ ?_ _)); exact BK287.out⟩, ⟨by repeat (first | (with_reducible first | exact HB.out | apply aa_ | apply ca_ | apply ga_ | refine na_ ?_ GE283.out | refine na_ ?_ GE284.out | refine na_ ?_ GE287.out) | exact HB.out)⟩⟩
          rw [if_neg c57] at H; exact absurd H (by simp)
         rw [if_neg c56] at H; exact absurd H (by simp)
        rw [if_neg c55] at H; exact absurd H (by simp)
       rw [if_neg c53] at H; have c53b0 : (t297 == 0) = false := beq_eq_false_iff_ne.mpr c53; have c53b1 : (t297 != 0) = true := bne_iff_ne.mpr c53
       by_cases c67 : x288001_1.length < 17592186044416
       ·rw [if_pos c67] at H
        have LMc67 := aM_ c67; clear c67; obtain ⟨y306, hy306⟩ : ∃ y_ : List Int, y_ = (x288001_1 ++ [t296]) := ⟨_, rfl⟩; replace H : (l4_Raw_Make.l0 kj41 a1 (rd y289 t288) (wrap64 (x7_1 + 1)) a0_0 a0_1 a0_2 l0_3 l0_4 t285 y306 t288 t286) = some (r1, r2, r3, r4, r5) := by first | (rw [hy306]; with_reducible exact H) | (have H2_ := (Option.bind_some _ _).symm.trans H; rw [hy306]; with_reducible exact H2_) | (have H2_ := (Option.bind_some _ _).symm.trans H; with_reducible exact H2_) | with_reducible exact H | (rw [hy306]; exact H) | exact H
        have Ny306 := aM_ hy306; clear hy306; have H' := aM_ H; clear H
        go_wp2_with (first | ((with_reducible refine mb_ (f := 122) rfl ?_); refine kd_ (some 65) rfl rfl Tryz.func122 (by kernel_rfl) rfl #[.int .i64 x8_41, .int .i64 a1] rfl (by (try simp only [List.map_toArray, List.map_cons, List.map_nil]); first | done | rfl | (simp only [List.length_drop, List.length_take]; rfl)) ?_; (with_reducible refine (l4_within.calls x8_41 a1 t296 _ A51.out).mono ?_); rintro e w' ⟨rfl, ⟨nd, rfl⟩⟩; refine ⟨_, rfl, ?_⟩; (try (rw [yf_ wc]; generalize hq_ : World.drewN wc _ = wc; have n0_ : Az (Kd.R (Kd.int .i64) 3 wc w.heap.size (fun _ => True) u288001 x288001_1) := ⟨by rw [← hq_]; exact (by (with_reducible repeat (first | apply Kd.R_alloc | apply Kd.R_drewN | apply Kd.R_drew)); exact HO_288001.out)⟩; have n1_ : Az (wc.heap[gb283]? = some (.cells #[.int .i64 a0_0, .int .i64 a0_1, .int .i64 a0_2, .slice A0_3 l0_3.length c0_3, .slice A0_4 l0_4.length c0_4] 120 (0, 0))) := ⟨by rw [← hq_]; exact (by (with_reducible repeat (first | refine la_ ?_ _ | refine ma_ ?_ | refine ka_ ?_ _)); exact BK283.out)⟩; have n2_ : Az (wc.heap[gb284]? = some (.cells #[.int .i64 0, .slice none 0 0, .int .i64 0, .slice none 0 0, .int .i64 0] 56 (0, 0))) := ⟨by rw [← hq_]; exact (by (with_reducible repeat (first | refine la_ ?_ _ | refine ma_ ?_ | refine ka_ ?_ _)); exact BK284.out)⟩; have n3_ : Az (wc.heap[gb287]? = some (.cells #[.int .i64 t285, u288001, .int .i64 t288, .slice none 0 0, .int .i64 t286] 56 (0, 0))) := ⟨by rw [← hq_]; exact (by (with_reducible repeat (first | refine la_ ?_ _ | refine ma_ ?_ | refine ka_ ?_ _)); exact BK287.out)⟩; have n4_ : Az (Below w.heap.size w wc) := ⟨by rw [← hq_]; exact (by repeat (first | (with_reducible first | exact HB.out | apply aa_ | apply ca_ | apply ga_ | refine na_ ?_ GE283.out | refine na_ ?_ GE284.out | refine na_ ?_ GE287.out) | exact HB.out))⟩; clear HO_288001 BK283 BK284 BK287 HB hq_; have HO_288001 := n0_; have BK283 := n1_; have BK284 := n2_; have BK287 := n3_; have HB := n4_; clear n0_ n1_ n2_ n3_ n4_))) | ((with_reducible refine mb_ (f := 122) rfl ?_); refine kd_ (some 68) rfl rfl Tryz.func122 (by kernel_rfl) rfl #[.int .i64 (wrap64 (Int.tdiv x8_41 20)), .int .i64 2] rfl (by (try simp only [List.map_toArray, List.map_cons, List.map_nil]); first | done | rfl | (simp only [List.length_drop, List.length_take]; rfl)) ?_; (with_reducible refine (l4_within.calls (wrap64 (Int.tdiv x8_41 20)) 2 t297 _ A52.out).mono ?_); rintro e w' ⟨rfl, ⟨nd, rfl⟩⟩; refine ⟨_, rfl, ?_⟩; (try (rw [yf_ wc]; generalize hq_ : World.drewN wc _ = wc; have n0_ : Az (Kd.R (Kd.int .i64) 3 wc w.heap.size (fun _ => True) u288001 x288001_1) := ⟨by rw [← hq_]; exact (by (with_reducible repeat (first | apply Kd.R_alloc | apply Kd.R_drewN | apply Kd.R_drew)); exact HO_288001.out)⟩; have n1_ : Az (wc.heap[gb283]? = some (.cells #[.int .i64 a0_0, .int .i64 a0_1, .int .i64 a0_2, .slice A0_3 l0_3.length c0_3, .slice A0_4 l0_4.length c0_4] 120 (0, 0))) := ⟨by rw [← hq_]; exact (by (with_reducible repeat (first | refine la_ ?_ _ | refine ma_ ?_ | refine ka_ ?_ _)); exact BK283.out)⟩; have n2_ : Az (wc.heap[gb284]? = some (.cells #[.int .i64 0, .slice none 0 0, .int .i64 0, .slice none 0 0, .int .i64 0] 56 (0, 0))) := ⟨by rw [← hq_]; exact (by (with_reducible repeat (first | refine la_ ?_ _ | refine ma_ ?_ | refine ka_ ?_ _)); exact BK284.out)⟩; have n3_ : Az (wc.heap[gb287]? = some (.cells #[.int .i64 t285, u288001, .int .i64 t288, .slice none 0 0, .int .i64 t286] 56 (0, 0))) := ⟨by rw [← hq_]; exact (by (with_reducible repeat (first | refine la_ ?_ _ | refine ma_ ?_ | refine ka_ ?_ _)); exact BK287.out)⟩; have n4_ : Az (Below w.heap.size w wc) := ⟨by rw [← hq_]; exact (by repeat (first | (with_reducible first | exact HB.out | apply aa_ | apply ca_ | apply ga_ | refine na_ ?_ GE283.out | refine na_ ?_ GE284.out | refine na_ ?_ GE287.out) | exact HB.out))⟩; clear HO_288001 BK283 BK284 BK287 HB hq_; have HO_288001 := n0_; have BK283 := n1_; have BK284 := n2_; have BK287 := n3_; have HB := n4_; clear n0_ n1_ n2_ n3_ n4_)); have hnb68 := NB287_283.out; have hnc68 := NB283_287.out; have hnb69 := NB287_284.out; have hnc69 := NB284_287.out; have hcz70_0 : wc.cell? ⟨gb287, 0, none⟩ = some (.int .i64 t285) := (ba_ BK287.out 0).trans rfl; have hcz70_1 : wc.cell? ⟨gb287, 1, none⟩ = some (u288001) := (ba_ BK287.out 1).trans rfl; have hcz70_2 : wc.cell? ⟨gb287, 2, none⟩ = some (.int .i64 t288) := (ba_ BK287.out 2).trans rfl; have hcz70_3 : wc.cell? ⟨gb287, 3, none⟩ = some (.slice none 0 0) := (ba_ BK287.out 3).trans rfl; have hcz70_4 : wc.cell? ⟨gb287, 4, none⟩ = some (.int .i64 t286) := (ba_ BK287.out 4).trans rfl; have hfz70_0 := da_ BK287.out 0; have hfz70_1 := da_ BK287.out 1; have hfz70_2 := da_ BK287.out 2; have hfz70_3 := da_ BK287.out 3; have hfz70_4 := da_ BK287.out 4) | ((with_reducible refine eh_ (b := .append) (xs := #[.tmp 78, .tmp 80]) rfl ?_); at_builtin; refine Kd.R_append (Kd.int .i64) (w0 := w) w.heap.size rfl (.tmp 78) (.tmp 80) 35 3 (.int .i64 0) 8 rfl Tryz.underlying35 qh_ rfl (by decide) (by omega) u288001 x288001_1 t296 [.int .i64 t296] (fun _ => True) (fun _ => False) rfl rfl ?aP (fun _ hk => hk.elim) ?aF ?aO ?aB ?aS ?aL ?_; (case aP => exact rfl); (case aB => exact (by repeat (first | (with_reducible first | exact HB.out | apply aa_ | apply ca_ | apply ga_ | refine na_ ?_ GE283.out | refine na_ ?_ GE284.out | refine na_ ?_ GE287.out) | exact HB.out))); (case aF => exact (fun _ _ => trivial)); (case aO => exact (by (with_reducible repeat (first | apply Kd.R_alloc | apply Kd.R_drewN | apply Kd.R_drew)); exact HO_288001.out)); (case aS => exact (qa_ (by repeat (first | (with_reducible first | exact HB.out | apply aa_ | apply ca_ | apply ga_ | refine na_ ?_ GE283.out | refine na_ ?_ GE284.out | refine na_ ?_ GE287.out) | exact HB.out)))); (case aL => have := LMc67.out; omega); intro v307 w71 ho hb hg hat; rw [← Ny306.out] at ho; have n0_ := aM_ (gb_ (g := gb283) (o := .cells #[.int .i64 a0_0, .int .i64 a0_1, .int .i64 a0_2, .slice A0_3 l0_3.length c0_3, .slice A0_4 l0_4.length c0_4] 120 (0, 0)) (by (with_reducible repeat (first | refine la_ ?_ _ | refine ma_ ?_ | refine ka_ ?_ _)); exact BK283.out) hg (Kd.R_ne HO_288001.out BK283.out (by decide))); have n1_ := aM_ (gb_ (g := gb284) (o := .cells #[.int .i64 0, .slice none 0 0, .int .i64 0, .slice none 0 0, .int .i64 0] 56 (0, 0)) (by (with_reducible repeat (first | refine la_ ?_ _ | refine ma_ ?_ | refine ka_ ?_ _)); exact BK284.out) hg (Kd.R_ne HO_288001.out BK284.out (by decide))); have n2_ := aM_ (gb_ (g := gb287) (o := .cells #[.int .i64 t285, u288001, .int .i64 t288, .slice none 0 0, .int .i64 t286] 56 (0, 0)) (by (with_reducible repeat (first | refine la_ ?_ _ | refine ma_ ?_ | refine ka_ ?_ _)); exact BK287.out) hg (Kd.R_ne HO_288001.out BK287.out (by decide))); have n3_ := aM_ (hb); have n4_ := aM_ (ho); clear BK283; clear BK284; clear BK287; clear HB; clear HO_288001; have BK283 := n0_; have BK284 := n1_; have BK287 := n2_; have HB := n3_; have HO308 := n4_; clear n0_ n1_ n2_ n3_ n4_; clear ho hb hg hat; obtain ⟨Ao72, co72, eo72⟩ := Kd.R_slice HO308.out; subst eo72; have hcz73_0 : w71.cell? ⟨gb287, 0, none⟩ = some (.int .i64 t285) := (ba_ BK287.out 0).trans rfl; have hcz73_1 : w71.cell? ⟨gb287, 1, none⟩ = some (u288001) := (ba_ BK287.out 1).trans rfl; have hcz73_2 : w71.cell? ⟨gb287, 2, none⟩ = some (.int .i64 t288) := (ba_ BK287.out 2).trans rfl; have hcz73_3 : w71.cell? ⟨gb287, 3, none⟩ = some (.slice none 0 0) := (ba_ BK287.out 3).trans rfl; have hcz73_4 : w71.cell? ⟨gb287, 4, none⟩ = some (.int .i64 t286) := (ba_ BK287.out 4).trans rfl; have hfz73_0 := da_ BK287.out 0; have hfz73_1 := da_ BK287.out 1; have hfz73_2 := da_ BK287.out 2; have hfz73_3 := da_ BK287.out 3; have hfz73_4 := da_ BK287.out 4))
        go_roundg kj41
        case measure => have := HK1.out; have := HJ26.out; have := HJ41.out; omega
        case rel => exact ⟨(wrap64 (x7_1 + 1)), (y306), (.slice Ao72 y306.length co72), (by first | rfl | (simp; done) | (simp [*]; done)), H', ⟨by have := HK1.out; have := HJ26.out; have := HJ41.out; omega⟩, ⟨by (with_reducible repeat (first | apply Kd.R_alloc | apply Kd.R_drewN | apply Kd.R_drew)); exact Kd.R_mono (Kd.R_far (p := ⟨gb287, 1, none⟩) (Kd.R_types HO308.out BK287.out (by decide)) (fun _ hk => hk.2) (.slice Ao72 y306.length co72)) (fun _ hk => trivial)⟩, ⟨by (with_reducible repeat (first | refine la_ ?_ _ | refine ma_ ?_ | refine ka_ ?_ _)); refine ed_ ?_ NB283_287.out _; (with_reducible repeat (first | refine la_ ?_ _ | refine ma_ ?_ | refine ka_ ?_ _)); exact BK283.out⟩, ⟨by (with_reducible repeat (first | refine la_ ?_ _ | refine ma_ ?_ | refine ka_ ?_ _)); refine ed_ ?_ NB284_287.out _; (with_reducible repeat (first | refine la_ ?_ _ | refine ma_ ?_ | refine ka_ ?_ _)); exact BK284.out⟩, ⟨by (with_reducible repeat (first | refine la_ ?_ _ | refine ma_ ?_ | refine ka_ ?_ _)); refine lc_ (cs := #[.int .i64 t285, u288001, .int .i64 t288, .slice none 0 0, .int .i64 t286]) ?_ 1 _ rfl; (with_reducible repeat (first | refine la_ ?_ _ | refine ma_ ?_ | refine ka_ ?_ _)); exact BK287.out⟩, ⟨by repeat (first | (with_reducible first | exact HB.out | apply aa_ | apply ca_ | apply ga_ | refine na_ ?_ GE283.out | refine na_ ?_ GE284.out | refine na_ ?_ GE287.out) | exact HB.out)⟩⟩
       rw [if_neg c67] at H; exact absurd H (by simp)
     replace c41 := Bool.eq_false_iff.mpr c41; subst c41; have H1 : (l4_Raw_Make.l1 kj26 (rd y289 t288) 0 a0_0 a0_1 a0_2 l0_3 l0_4 t285 x288001_1 t288 ([] : List Int) t286) = some (r1, r2, r3, r4, r5) := by rw [if_neg (show ¬ (false = true) by decide)] at H; exact H
     clear H; have H := H1; clear H1; have H' := aM_ H; clear H
     go_wp2
     go_loopg [10] kj26 (fun kq v10 w' => ∃ (x10_3 : Int) (x288003_3 : List Int) (u288003 : Value), v10 = .int .i64 x10_3 ∧ Az (l4_Raw_Make.l1 kq (rd y289 t288) x10_3 a0_0 a0_1 a0_2 l0_3 l0_4 t285 x288001_1 t288 x288003_3 t286 = some (r1, r2, r3, r4, r5)) ∧ Az (kq ≤ kj26) ∧ Az (Kd.R (Kd.int .i64) 3 w' w.heap.size (fun k_ => some k_ ≠ (u288003 : Value).ownBlock) u288001 x288001_1) ∧ Az (Kd.R (Kd.int .i64) 3 w' w.heap.size (fun k_ => some k_ ≠ (u288001 : Value).ownBlock) u288003 x288003_3) ∧ Az (w'.heap[gb283]? = some (.cells #[.int .i64 a0_0, .int .i64 a0_1, .int .i64 a0_2, (.slice A0_3 l0_3.length c0_3), (.slice A0_4 l0_4.length c0_4)] 120 (0, 0))) ∧ Az (w'.heap[gb284]? = some (.cells #[.int .i64 0, (.slice none 0 0), .int .i64 0, (.slice none 0 0), .int .i64 0] 56 (0, 0))) ∧ Az (w'.heap[gb287]? = some (.cells #[.int .i64 t285, u288001, .int .i64 t288, u288003, .int .i64 t286] 56 (0, 0))) ∧ Az (Below w.heap.size w w'))
     case atStart => exact ⟨(0), (([] : List Int)), (.slice none 0 0), (by first | rfl | (simp; done) | (simp [*]; done)), H', ⟨Nat.le_refl _⟩, ⟨by (with_reducible repeat (first | apply Kd.R_alloc | apply Kd.R_drewN | apply Kd.R_drew)); exact Kd.R_mono HO_288001.out (fun _ hk => (by simp [Value.ownBlock]))⟩, ⟨by first | exact Kd.R_nil _ _ _ _ _ | exact Kd.N_nil _ _ _ _ _ | exact Kd.V_nil _ _ _ _ _ | exact Kd.Q_nil _ _ _ _ _ | exact Kd.S_nil _ _ _ _ _⟩, ⟨by (with_reducible repeat (first | refine la_ ?_ _ | refine ma_ ?_ | refine ka_ ?_ _)); exact BK283.out⟩, ⟨by (with_reducible repeat (first | refine la_ ?_ _ | refine ma_ ?_ | refine ka_ ?_ _)); exact BK284.out⟩, ⟨by (with_reducible repeat (first | refine la_ ?_ _ | refine ma_ ?_ | refine ka_ ?_ _)); exact BK287.out⟩, ⟨by repeat (first | (with_reducible first | exact HB.out | apply aa_ | apply ca_ | apply ga_ | refine na_ ?_ GE283.out | refine na_ ?_ GE284.out | refine na_ ?_ GE287.out) | exact HB.out)⟩⟩
     clear H'; obtain ⟨x10_3, x288003_3, u288003, rfl, HA, HK3, HO_288001, HO_288003, BK283, BK284, BK287, HB⟩ := hrel
     cases gk with
     | zero => exact absurd HA.out (by simp [l4_Raw_Make.l1])
     | succ k3 =>
      have H := HA.out; clear HA; simp only [l4_Raw_Make.l1] at H
      by_cases c74 : x10_3 < (rd y289 t288)
      ·rw [if_pos c74] at H
       have c74b0 : decide (x10_3 < (rd y289 t288)) = true := decide_eq_true c74; clear c74
       by_cases c75 : x10_3 < (l0_4.length : Int)
       ·rw [if_pos c75] at H
        have c75b0 : decide (x10_3 < (l0_4.length : Int)) = true := decide_eq_true c75; clear c75
        by_cases c76 : 0 ≤ x10_3
        ·rw [if_pos c76] at H
         have c76b0 : decide (0 ≤ x10_3) = true := decide_eq_true c76; clear c76; replace H := Option.bind_eq_some_iff.mp H; obtain ⟨t310, A770, H⟩ := H; replace H : (if x288003_3.length < 17592186044416 then (l4_Raw_Make.l1 k3 (rd y289 t288) (wrap64 (x10_3 + 1)) a0_0 a0_1 a0_2 l0_3 l0_4 t285 x288001_1 t288 (x288003_3 ++ [t310]) t286) else (none)) = some (r1, r2, r3, r4, r5) := H; have A77 := aM_ A770; clear A770
         by_cases c78 : x288003_3.length < 17592186044416
         ·rw [if_pos c78] at H
          have LMc78 := aM_ c78; clear c78; obtain ⟨y311, hy311⟩ : ∃ y_ : List Int, y_ = (x288003_3 ++ [t310]) := ⟨_, rfl⟩; replace H : (l4_Raw_Make.l1 k3 (rd y289 t288) (wrap64 (x10_3 + 1)) a0_0 a0_1 a0_2 l0_3 l0_4 t285 x288001_1 t288 y311 t286) = some (r1, r2, r3, r4, r5) := by first | (rw [hy311]; with_reducible exact H) | (have H2_ := (Option.bind_some _ _).symm.trans H; rw [hy311]; with_reducible exact H2_) | (have H2_ := (Option.bind_some _ _).symm.trans H; with_reducible exact H2_) | with_reducible exact H | (rw [hy311]; exact H) | exact H
          have Ny311 := aM_ hy311; clear hy311; have H' := aM_ H; clear H; have hnb79 := NB283_284.out; have hnc79 := NB284_283.out; have hnb80 := NB283_287.out; have hnc80 := NB287_283.out; have hcz81_0 : wr.cell? ⟨gb283, 0, none⟩ = some (.int .i64 a0_0) := (ba_ BK283.out 0).trans rfl; have hcz81_1 : wr.cell? ⟨gb283, 1, none⟩ = some (.int .i64 a0_1) := (ba_ BK283.out 1).trans rfl; have hcz81_2 : wr.cell? ⟨gb283, 2, none⟩ = some (.int .i64 a0_2) := (ba_ BK283.out 2).trans rfl; have hcz81_3 : wr.cell? ⟨gb283, 3, none⟩ = some (.slice A0_3 l0_3.length c0_3) := (ba_ BK283.out 3).trans rfl; have hcz81_4 : wr.cell? ⟨gb283, 4, none⟩ = some (.slice A0_4 l0_4.length c0_4) := (ba_ BK283.out 4).trans rfl; have hfz81_0 := da_ BK283.out 0; have hfz81_1 := da_ BK283.out 1; have hfz81_2 := da_ BK283.out 2; have hfz81_3 := da_ BK283.out 3; have hfz81_4 := da_ BK283.out 4; have p309 : 0 ≤ (x10_3 : Int) := of_decide_eq_true (by first | (with_reducible assumption) | assumption); have q309 : x10_3 < (l0_4.length : Int) := of_decide_eq_true (by first | (with_reducible assumption) | assumption); obtain ⟨ad309, e309, hx309_0⟩ := Kd.at_int HR0_4.out x10_3 p309 q309
          cases e309
          replace hx309_0 := (HB.out.cell (World.block_lt_of_cell? w _ hx309_0)).trans hx309_0; replace p309 := eq_true p309; replace q309 := eq_true q309
          try go_wp2
          have n0_ := aM_ (Kd.R_drew HO_288001.out); have n1_ := aM_ (Kd.R_drew HO_288003.out); have n2_ := aM_ (ma_ BK283.out); have n3_ := aM_ (ma_ BK284.out); have n4_ := aM_ (ma_ BK287.out); have n5_ := aM_ (ga_ HB.out); clear HO_288001; clear HO_288003; clear BK283; clear BK284; clear BK287; clear HB; have HO_288001 := n0_; have HO_288003 := n1_; have BK283 := n2_; have BK284 := n3_; have BK287 := n4_; have HB := n5_; clear n0_ n1_ n2_ n3_ n4_ n5_; obtain ⟨Ao83, co83, eo83⟩ := Kd.R_slice HO_288001.out
          (first | subst eo83 | (injection eo83 with f1_ f2_ f3_; have f4_ := f1_.symm; have f5_ := f3_.symm; clear f1_ f2_ f3_; subst f4_; subst f5_))
          refine wd_ (n := 13) (S := fun w' => w'.cell? ⟨gb287, 0, none⟩ = some (.int .i64 t285) ∧ w'.cell? ⟨gb287, 1, none⟩ = some (.slice Ao83 x288001_1.length co83) ∧ w'.cell? ⟨gb287, 2, none⟩ = some (.int .i64 t288) ∧ w'.cell? ⟨gb287, 3, none⟩ = some (u288003) ∧ w'.cell? ⟨gb287, 4, none⟩ = some (.int .i64 t286)) (ds := [12]) (f_ 13 0) (by kernel_rfl) rfl rfl ⟨(ba_ BK287.out 0).trans rfl, (ba_ BK287.out 1).trans rfl, (ba_ BK287.out 2).trans rfl, (ba_ BK287.out 3).trans rfl, (ba_ BK287.out 4).trans rfl⟩ (fun hHeld => ?_); refine mg_ l4_Raw_Make.tab20 l4_Raw_Make.bits20 (fun HT_ HW_ => ?_); generalize wr.drew = w82 at HO_288001 HO_288003 BK283 BK284 BK287 HB hHeld ⊢; refine pU_ 0 99 ?_ (f_ 13 1) rfl rfl (qc_ HT_.out (by kernel_rfl)) (fun _ _ _ h => h) (by rfl) ?_ ?_ ?_ ?_; rotate_left
          ·intro w'
           go_simp
           with_reducible rfl
          rotate_left; (focus (simp only [Act.put, s1_, s2_, s3_, ia_, ja_]; rfl)); refine pU_ 1 100 ?_ (f_ 13 2) rfl rfl (qc_ HT_.out (by kernel_rfl)) (fun _ _ _ h => h) (by rfl) ?_ ?_ ?_ ?_; rotate_left
          ·intro w'
           go_simp
           with_reducible rfl
          rotate_left; (focus (simp only [Act.put, s1_, s2_, s3_, ia_, ja_]; rfl)); refine pU_ 3 102 ?_ #[true, true, false, true, false, false, false, false, false, false, false, false, false] rfl rfl (qc_ HT_.out (by kernel_rfl)) (fun _ _ _ h => h) (by rfl) ?_ ?_ ?_ ?_; rotate_left
          ·intro w'
           go_simp
           with_reducible rfl
          rotate_left; (focus (simp only [Act.put, s1_, s2_, s3_, ia_, ja_]; rfl)); refine pU_ 4 103 ?_ #[true, true, false, true, true, false, false, false, false, false, false, false, false] rfl rfl (qc_ HT_.out (by kernel_rfl)) (fun _ _ _ h => h) (by rfl) ?_ ?_ ?_ ?_; rotate_left
          ·intro w'
           go_simp
           with_reducible rfl
          rotate_left; (focus (simp only [Act.put, s1_, s2_, s3_, ia_, ja_]; rfl)); refine take_ (i := 2) (N := some 101) (v := ?_) (a' := ?_) (f_ 13 5) rfl rfl (nf_ HT_.out HW_.out (by kernel_rfl)) (fun _ _ _ h => h) (Or.inl ⟨by rfl, ?_⟩) hHeld ?_ ?_; rotate_left
          ·rintro w' ⟨s0, s1, s2, s3, s4⟩
           go_simp
           with_reducible rfl
          rotate_left; (focus (simp only [Act.put, s1_, s2_, s3_, ia_, ja_]; rfl)); refine take_ (i := 5) (N := some 104) (v := ?_) (a' := ?_) (f_ 13 6) rfl rfl (nf_ HT_.out HW_.out (by kernel_rfl)) (fun _ _ _ h => h) (Or.inl ⟨by rfl, ?_⟩) hHeld ?_ ?_; rotate_left
          ·rintro w' ⟨s0, s1, s2, s3, s4⟩
           go_simp
           with_reducible rfl
          rotate_left; (focus (simp only [Act.put, s1_, s2_, s3_, ia_, ja_]; rfl)); refine pU_ 6 105 ?_ (f_ 13 7) rfl rfl (qc_ HT_.out (by kernel_rfl)) (fun _ _ _ h => h) (by rfl) ?_ ?_ ?_ ?_; rotate_left
          ·intro w'
           go_simp
           with_reducible rfl
          rotate_left; (focus (simp only [Act.put, s1_, s2_, s3_, ia_, ja_]; rfl)); refine one_ (i := 7) (N := some 106) (f_ 13 8) rfl rfl (id_ HT_.out (by kernel_rfl)) (by decide) (fun K hK => ?_); refine wb_ Tryz.func122 (by kernel_rfl) rfl #[.int .i64 (rd l0_4 x10_3), .int .i64 (x288001_1.length : Int)] (by rfl) rfl rfl (by (try simp only [List.map_toArray, List.map_cons, List.map_nil]); first | done | rfl | (simp only [List.length_drop, List.length_take]; rfl)) ?_
          with_reducible refine (l4_within.calls (rd l0_4 x10_3) (x288001_1.length : Int) t310 _ A77.out).mono ?_
          rintro e w' ⟨rfl, ⟨nd, rfl⟩⟩; refine ⟨_, rfl, ?_⟩; refine hK.out _ _ ⟨(ba_ BK287.out 0).trans rfl, (ba_ BK287.out 1).trans rfl, (ba_ BK287.out 2).trans rfl, (ba_ BK287.out 3).trans rfl, (ba_ BK287.out 4).trans rfl⟩ (fun hHeld => ?_); clear hK K; refine wa_ (a' := ?_) ?_ ?_; rotate_left; (focus (show Act.put _ (some 106) _ = _; simp only [Act.put, s1_, s2_, s3_, ia_, ja_]; rfl)); refine one_ (i := 8) (N := some 107) (f_ 13 9) rfl rfl (id_ HT_.out (by kernel_rfl)) (by decide) (fun K hK => ?_); refine hd_ (w1 := ?_) (v := ?_) (by rfl) rfl ?_ ?_; rotate_left 2
          ·go_simp
           constructor
           ·rfl
           rfl
          refine hK.out _ _ ⟨(ba_ (ka_ BK287.out _) 0).trans rfl, (ba_ (ka_ BK287.out _) 1).trans rfl, (ba_ (ka_ BK287.out _) 2).trans rfl, (ba_ (ka_ BK287.out _) 3).trans rfl, (ba_ (ka_ BK287.out _) 4).trans rfl⟩ (fun hHeld => ?_); clear hK K; refine wa_ (a' := ?_) ?_ ?_; rotate_left; (focus (show Act.put _ (some 107) _ = _; simp only [Act.put, s1_, s2_, s3_, ia_, ja_]; rfl)); refine one_ (i := 9) (N := some 108) (f_ 13 10) rfl rfl (id_ HT_.out (by kernel_rfl)) (by decide) (fun K hK => ?_); refine Kd.R_append_step (Kd.int .i64) (w0 := w) w.heap.size (by rfl) (.tmp 101) (.tmp 107) 35 3 (.int .i64 0) 8 rfl Tryz.underlying35 qh_ rfl (by decide) (by omega) u288003 x288003_3 t310 [.int .i64 t310] (fun k_ => some k_ ≠ (.slice Ao83 x288001_1.length co83 : Value).ownBlock) (fun _ => False) rfl rfl ?aP (fun _ hk => hk.elim) ?aF ?aO ?aB ?aS ?aL ?_
          (case aP => exact rfl)
          (case aB => exact (by repeat (first | (with_reducible first | exact HB.out | apply aa_ | apply ca_ | apply ga_ | refine na_ ?_ GE283.out | refine na_ ?_ GE284.out | refine na_ ?_ GE287.out) | exact HB.out)))
          (case aF => exact (fun k_ hk => Kd.fresh' (Kd.R_lt (by (with_reducible repeat (first | apply Kd.R_alloc | apply Kd.R_drewN | apply Kd.R_drew)); exact HO_288001.out)) k_ hk))
          (case aO => exact (by (with_reducible repeat (first | apply Kd.R_alloc | apply Kd.R_drewN | apply Kd.R_drew)); exact HO_288003.out))
          (case aS => exact (qa_ (by repeat (first | (with_reducible first | exact HB.out | apply aa_ | apply ca_ | apply ga_ | refine na_ ?_ GE283.out | refine na_ ?_ GE284.out | refine na_ ?_ GE287.out) | exact HB.out))))
          (case aL => have := LMc78.out; omega)
          intro v312 w84 ho hb hg hat; rw [← Ny311.out] at ho; have n0_ := aM_ (Kd.R_after (ok := (fun _ => True)) (by (with_reducible repeat (first | apply Kd.R_alloc | apply Kd.R_drewN | apply Kd.R_drew)); exact Kd.R_mono HO_288001.out (fun _ hk => ⟨trivial, hk⟩)) hg hat); have n1_ := aM_ (gb_ (g := gb283) (o := .cells #[.int .i64 a0_0, .int .i64 a0_1, .int .i64 a0_2, .slice A0_3 l0_3.length c0_3, .slice (some ad309) l0_4.length c0_4] 120 (0, 0)) (by (with_reducible repeat (first | refine la_ ?_ _ | refine ma_ ?_ | refine ka_ ?_ _)); exact BK283.out) hg (Kd.R_ne HO_288003.out BK283.out (by decide))); have n2_ := aM_ (gb_ (g := gb284) (o := .cells #[.int .i64 0, .slice none 0 0, .int .i64 0, .slice none 0 0, .int .i64 0] 56 (0, 0)) (by (with_reducible repeat (first | refine la_ ?_ _ | refine ma_ ?_ | refine ka_ ?_ _)); exact BK284.out) hg (Kd.R_ne HO_288003.out BK284.out (by decide))); have n3_ := aM_ (gb_ (g := gb287) (o := .cells #[.int .i64 t285, .slice Ao83 x288001_1.length co83, .int .i64 t288, u288003, .int .i64 t286] 56 (0, 0)) (by (with_reducible repeat (first | refine la_ ?_ _ | refine ma_ ?_ | refine ka_ ?_ _)); exact BK287.out) hg (Kd.R_ne HO_288003.out BK287.out (by decide))); have n4_ := aM_ (hb); have n5_ := aM_ (ho); clear HO_288001; clear BK283; clear BK284; clear BK287; clear HB; clear HO_288003; have HO_288001 := n0_; have BK283 := n1_; have BK284 := n2_; have BK287 := n3_; have HB := n4_; have HO313 := n5_; clear n0_ n1_ n2_ n3_ n4_ n5_; clear ho hb hg hat; obtain ⟨Ao85, co85, eo85⟩ := Kd.R_slice HO313.out
          (first | subst eo85 | (injection eo85 with f1_ f2_ f3_; have f4_ := f1_.symm; have f5_ := f3_.symm; clear f1_ f2_ f3_; subst f4_; subst f5_))
          refine hK.out _ _ ⟨(ba_ BK287.out 0).trans rfl, (ba_ BK287.out 1).trans rfl, (ba_ BK287.out 2).trans rfl, (ba_ BK287.out 3).trans rfl, (ba_ BK287.out 4).trans rfl⟩ (fun hHeld => ?_); clear hK K; refine wa_ (a' := ?_) ?_ ?_; rotate_left; (focus (show Act.put _ (some 108) _ = _; simp only [Act.put, s1_, s2_, s3_, ia_, ja_]; rfl)); refine pU_ 10 109 ?_ (f_ 13 11) rfl rfl (qc_ HT_.out (by kernel_rfl)) (fun _ _ _ h => h) (by rfl) ?_ ?_ ?_ ?_; rotate_left
          ·intro w'
           go_simp
           with_reducible rfl
          rotate_left; (focus (simp only [Act.put, s1_, s2_, s3_, ia_, ja_]; rfl)); refine pU_ 11 110 ?_ (f_ 13 12) rfl rfl (qc_ HT_.out (by kernel_rfl)) (fun _ _ _ h => h) (by rfl) ?_ ?_ ?_ ?_; rotate_left
          ·intro w'
           go_simp
           with_reducible rfl
          rotate_left; (focus (simp only [Act.put, s1_, s2_, s3_, ia_, ja_]; rfl)); refine qg_ (i := 12) (N := none) (f_ 13 13) rfl rfl (id_ HT_.out (by kernel_rfl)) (by decide) (fun K hK => ?_); have hs86 : w84.cell? ⟨gb287, 3, none⟩ = some (u288003) := (ba_ BK287.out 3).trans rfl; have hfs86 := da_ BK287.out 3; have hns86_0 := NB283_287.out; have hns86_1 := NB284_287.out; have hms86_0 := NB287_283.out; have hms86_1 := NB287_284.out; refine og_ (w1 := ?_) (by rfl) rfl ?_ ?_; rotate_left; (focus (go_simp; rfl)); refine hK.out _ _ ?_; clear hK K; refine je_ (uj_ HT_.out (by kernel_rfl)) ?_
          try go_wp2
          go_roundg k3
          case measure => have := HK1.out; have := HJ26.out; have := HK3.out; omega
          case rel => exact ⟨(wrap64 (x10_3 + 1)), (y311), (.slice Ao85 y311.length co85), (by first | rfl | (simp; done) | (simp [*]; done)), H', ⟨by have := HK1.out; have := HJ26.out; have := HK3.out; omega⟩, ⟨by (with_reducible repeat (first | apply Kd.R_alloc | apply Kd.R_drewN | apply Kd.R_drew)); exact Kd.R_mono (Kd.R_far (p := ⟨gb287, 3, none⟩) (Kd.R_types HO_288001.out BK287.out (by decide)) (fun _ hk => hk.2) (.slice Ao85 y311.length co85)) (fun _ hk => hk.1.2)⟩, ⟨by (with_reducible repeat (first | apply Kd.R_alloc | apply Kd.R_drewN | apply Kd.R_drew)); exact Kd.R_mono (Kd.R_far (p := ⟨gb287, 3, none⟩) (Kd.R_types HO313.out BK287.out (by decide)) (fun _ hk => hk.2) (.slice Ao85 y311.length co85)) (fun _ hk => hk.1)⟩, ⟨by (with_reducible repeat (first | refine la_ ?_ _ | refine ma_ ?_ | refine ka_ ?_ _)); refine ed_ ?_ NB283_287.out _; (with_reducible repeat (first | refine la_ ?_ _ | refine ma_ ?_ | refine ka_ ?_ _)); exact BK283.out⟩, ⟨by (with_reducible repeat (first | refine la_ ?_ _ | refine ma_ ?_ | refine ka_ ?_ _)); refine ed_ ?_ NB284_287.out _; (with_reducible repeat (first | refine la_ ?_ _ | refine ma_ ?_ | refine ka_ ?_ _)); exact BK284.out⟩, ⟨by (with_reducible repeat (first | refine la_ ?_ _ | refine ma_ ?_ | refine ka_ ?_ _)); refine lc_ (cs := #[.int .i64 t285, .slice Ao83 x288001_1.length co83, .int .i64 t288, u288003, .int .i64 t286]) ?_ 3 _ rfl; (with_reducible repeat (first | refine la_ ?_ _ | refine ma_ ?_ | refine ka_ ?_ _)); exact BK287.out⟩, ⟨by repeat (first | (with_reducible first | exact HB.out | apply aa_ | apply ca_ | apply ga_ | refine na_ ?_ GE283.out | refine na_ ?_ GE284.out | refine na_ ?_ GE287.out) | exact HB.out)⟩⟩
         rw [if_neg c78] at H; exact absurd H (by simp)
        rw [if_neg c76] at H; exact absurd H (by simp)
       rw [if_neg c75] at H; have c75b0 : decide (x10_3 < (l0_4.length : Int)) = false := decide_eq_false c75; clear c75; replace H := Option.bind_eq_some_iff.mp H; obtain ⟨t314, A870, H⟩ := H; replace H : (if x288003_3.length < 17592186044416 then (l4_Raw_Make.l1 k3 (rd y289 t288) (wrap64 (x10_3 + 1)) a0_0 a0_1 a0_2 l0_3 l0_4 t285 x288001_1 t288 (x288003_3 ++ [t314]) t286) else (none)) = some (r1, r2, r3, r4, r5) := H; have A87 := aM_ A870; clear A870
       by_cases c88 : x288003_3.length < 17592186044416
       ·rw [if_pos c88] at H
        have LMc88 := aM_ c88; clear c88; obtain ⟨y315, hy315⟩ : ∃ y_ : List Int, y_ = (x288003_3 ++ [t314]) := ⟨_, rfl⟩; replace H : (l4_Raw_Make.l1 k3 (rd y289 t288) (wrap64 (x10_3 + 1)) a0_0 a0_1 a0_2 l0_3 l0_4 t285 x288001_1 t288 y315 t286) = some (r1, r2, r3, r4, r5) := by first | (rw [hy315]; with_reducible exact H) | (have H2_ := (Option.bind_some _ _).symm.trans H; rw [hy315]; with_reducible exact H2_) | (have H2_ := (Option.bind_some _ _).symm.trans H; with_reducible exact H2_) | with_reducible exact H | (rw [hy315]; exact H) | exact H
        have Ny315 := aM_ hy315; clear hy315; have H' := aM_ H; clear H; have hnb89 := NB283_284.out; have hnc89 := NB284_283.out; have hnb90 := NB283_287.out; have hnc90 := NB287_283.out; have hcz91_0 : wr.cell? ⟨gb283, 0, none⟩ = some (.int .i64 a0_0) := (ba_ BK283.out 0).trans rfl; have hcz91_1 : wr.cell? ⟨gb283, 1, none⟩ = some (.int .i64 a0_1) := (ba_ BK283.out 1).trans rfl; have hcz91_2 : wr.cell? ⟨gb283, 2, none⟩ = some (.int .i64 a0_2) := (ba_ BK283.out 2).trans rfl; have hcz91_3 : wr.cell? ⟨gb283, 3, none⟩ = some (.slice A0_3 l0_3.length c0_3) := (ba_ BK283.out 3).trans rfl; have hcz91_4 : wr.cell? ⟨gb283, 4, none⟩ = some (.slice A0_4 l0_4.length c0_4) := (ba_ BK283.out 4).trans rfl; have hfz91_0 := da_ BK283.out 0; have hfz91_1 := da_ BK283.out 1; have hfz91_2 := da_ BK283.out 2; have hfz91_3 := da_ BK283.out 3; have hfz91_4 := da_ BK283.out 4
        try go_wp2
        have n0_ := aM_ (Kd.R_drew HO_288001.out); have n1_ := aM_ (Kd.R_drew HO_288003.out); have n2_ := aM_ (ma_ BK283.out); have n3_ := aM_ (ma_ BK284.out); have n4_ := aM_ (ma_ BK287.out); have n5_ := aM_ (ga_ HB.out); clear HO_288001; clear HO_288003; clear BK283; clear BK284; clear BK287; clear HB; have HO_288001 := n0_; have HO_288003 := n1_; have BK283 := n2_; have BK284 := n3_; have BK287 := n4_; have HB := n5_; clear n0_ n1_ n2_ n3_ n4_ n5_; obtain ⟨Ao93, co93, eo93⟩ := Kd.R_slice HO_288001.out
        (first | subst eo93 | (injection eo93 with f1_ f2_ f3_; have f4_ := f1_.symm; have f5_ := f3_.symm; clear f1_ f2_ f3_; subst f4_; subst f5_))
        refine wd_ (n := 13) (S := fun w' => w'.cell? ⟨gb287, 0, none⟩ = some (.int .i64 t285) ∧ w'.cell? ⟨gb287, 1, none⟩ = some (.slice Ao93 x288001_1.length co93) ∧ w'.cell? ⟨gb287, 2, none⟩ = some (.int .i64 t288) ∧ w'.cell? ⟨gb287, 3, none⟩ = some (u288003) ∧ w'.cell? ⟨gb287, 4, none⟩ = some (.int .i64 t286)) (ds := [12]) (f_ 13 0) (by kernel_rfl) rfl rfl ⟨(ba_ BK287.out 0).trans rfl, (ba_ BK287.out 1).trans rfl, (ba_ BK287.out 2).trans rfl, (ba_ BK287.out 3).trans rfl, (ba_ BK287.out 4).trans rfl⟩ (fun hHeld => ?_); refine mg_ l4_Raw_Make.tab20 l4_Raw_Make.bits20 (fun HT_ HW_ => ?_); generalize wr.drew = w92 at HO_288001 HO_288003 BK283 BK284 BK287 HB hHeld ⊢; refine pU_ 0 99 ?_ (f_ 13 1) rfl rfl (qc_ HT_.out (by kernel_rfl)) (fun _ _ _ h => h) (by rfl) ?_ ?_ ?_ ?_; rotate_left
        ·intro w'
         go_simp
         with_reducible rfl
        rotate_left
        ·simp only [Act.put, s1_, s2_, s3_, ia_, ja_]
         rfl
        refine pU_ 1 100 ?_ (f_ 13 2) rfl rfl (qc_ HT_.out (by kernel_rfl)) (fun _ _ _ h => h) (by rfl) ?_ ?_ ?_ ?_; rotate_left
        ·intro w'
         go_simp
         with_reducible rfl
        rotate_left
        ·simp only [Act.put, s1_, s2_, s3_, ia_, ja_]
         rfl
        refine pU_ 3 102 ?_ #[true, true, false, true, false, false, false, false, false, false, false, false, false] rfl rfl (qc_ HT_.out (by kernel_rfl)) (fun _ _ _ h => h) (by rfl) ?_ ?_ ?_ ?_; rotate_left
        ·intro w'
         go_simp
         with_reducible rfl
        rotate_left
        ·simp only [Act.put, s1_, s2_, s3_, ia_, ja_]
         rfl
        refine pU_ 4 103 ?_ #[true, true, false, true, true, false, false, false, false, false, false, false, false] rfl rfl (qc_ HT_.out (by kernel_rfl)) (fun _ _ _ h => h) (by rfl) ?_ ?_ ?_ ?_; rotate_left
        ·intro w'
         go_simp
         with_reducible rfl
        rotate_left
        ·simp only [Act.put, s1_, s2_, s3_, ia_, ja_]
         rfl
        refine take_ (i := 2) (N := some 101) (v := ?_) (a' := ?_) (f_ 13 5) rfl rfl (nf_ HT_.out HW_.out (by kernel_rfl)) (fun _ _ _ h => h) (Or.inl ⟨by rfl, ?_⟩) hHeld ?_ ?_; rotate_left
        ·rintro w' ⟨s0, s1, s2, s3, s4⟩
         go_simp
         with_reducible rfl
        rotate_left
        ·simp only [Act.put, s1_, s2_, s3_, ia_, ja_]
         rfl
        refine take_ (i := 5) (N := some 104) (v := ?_) (a' := ?_) (f_ 13 6) rfl rfl (nf_ HT_.out HW_.out (by kernel_rfl)) (fun _ _ _ h => h) (Or.inl ⟨by rfl, ?_⟩) hHeld ?_ ?_; rotate_left
        ·rintro w' ⟨s0, s1, s2, s3, s4⟩
         go_simp
         with_reducible rfl
        rotate_left
        ·simp only [Act.put, s1_, s2_, s3_, ia_, ja_]
         rfl
        refine pU_ 6 105 ?_ (f_ 13 7) rfl rfl (qc_ HT_.out (by kernel_rfl)) (fun _ _ _ h => h) (by rfl) ?_ ?_ ?_ ?_; rotate_left
        ·intro w'
         go_simp
         with_reducible rfl
        rotate_left
        ·simp only [Act.put, s1_, s2_, s3_, ia_, ja_]
         rfl
        refine one_ (i := 7) (N := some 106) (f_ 13 8) rfl rfl (id_ HT_.out (by kernel_rfl)) (by decide) (fun K hK => ?_); refine wb_ Tryz.func122 (by kernel_rfl) rfl #[.int .i64 x10_3, .int .i64 (x288001_1.length : Int)] (by rfl) rfl rfl (by (try simp only [List.map_toArray, List.map_cons, List.map_nil]); first | done | rfl | (simp only [List.length_drop, List.length_take]; rfl)) ?_
        with_reducible refine (l4_within.calls x10_3 (x288001_1.length : Int) t314 _ A87.out).mono ?_
        rintro e w' ⟨rfl, ⟨nd, rfl⟩⟩; refine ⟨_, rfl, ?_⟩; refine hK.out _ _ ⟨(ba_ BK287.out 0).trans rfl, (ba_ BK287.out 1).trans rfl, (ba_ BK287.out 2).trans rfl, (ba_ BK287.out 3).trans rfl, (ba_ BK287.out 4).trans rfl⟩ (fun hHeld => ?_); clear hK K; refine wa_ (a' := ?_) ?_ ?_; rotate_left; (focus (show Act.put _ (some 106) _ = _; simp only [Act.put, s1_, s2_, s3_, ia_, ja_]; rfl)); refine one_ (i := 8) (N := some 107) (f_ 13 9) rfl rfl (id_ HT_.out (by kernel_rfl)) (by decide) (fun K hK => ?_); refine hd_ (w1 := ?_) (v := ?_) (by rfl) rfl ?_ ?_; rotate_left 2
        ·go_simp
         constructor
         ·rfl
         rfl
        refine hK.out _ _ ⟨(ba_ (ka_ BK287.out _) 0).trans rfl, (ba_ (ka_ BK287.out _) 1).trans rfl, (ba_ (ka_ BK287.out _) 2).trans rfl, (ba_ (ka_ BK287.out _) 3).trans rfl, (ba_ (ka_ BK287.out _) 4).trans rfl⟩ (fun hHeld => ?_); clear hK K; refine wa_ (a' := ?_) ?_ ?_; rotate_left; (focus (show Act.put _ (some 107) _ = _; simp only [Act.put, s1_, s2_, s3_, ia_, ja_]; rfl)); refine one_ (i := 9) (N := some 108) (f_ 13 10) rfl rfl (id_ HT_.out (by kernel_rfl)) (by decide) (fun K hK => ?_); refine Kd.R_append_step (Kd.int .i64) (w0 := w) w.heap.size (by rfl) (.tmp 101) (.tmp 107) 35 3 (.int .i64 0) 8 rfl Tryz.underlying35 qh_ rfl (by decide) (by omega) u288003 x288003_3 t314 [.int .i64 t314] (fun k_ => some k_ ≠ (.slice Ao93 x288001_1.length co93 : Value).ownBlock) (fun _ => False) rfl rfl ?aP (fun _ hk => hk.elim) ?aF ?aO ?aB ?aS ?aL ?_
        (case aP => exact rfl)
        (case aB => exact (by repeat (first | (with_reducible first | exact HB.out | apply aa_ | apply ca_ | apply ga_ | refine na_ ?_ GE283.out | refine na_ ?_ GE284.out | refine na_ ?_ GE287.out) | exact HB.out)))
        (case aF => exact (fun k_ hk => Kd.fresh' (Kd.R_lt (by (with_reducible repeat (first | apply Kd.R_alloc | apply Kd.R_drewN | apply Kd.R_drew)); exact HO_288001.out)) k_ hk))
        (case aO => exact (by (with_reducible repeat (first | apply Kd.R_alloc | apply Kd.R_drewN | apply Kd.R_drew)); exact HO_288003.out))
        (case aS => exact (qa_ (by repeat (first | (with_reducible first | exact HB.out | apply aa_ | apply ca_ | apply ga_ | refine na_ ?_ GE283.out | refine na_ ?_ GE284.out | refine na_ ?_ GE287.out) | exact HB.out))))
        (case aL => have := LMc88.out; omega)
        intro v316 w94 ho hb hg hat; rw [← Ny315.out] at ho; have n0_ := aM_ (Kd.R_after (ok := (fun _ => True)) (by (with_reducible repeat (first | apply Kd.R_alloc | apply Kd.R_drewN | apply Kd.R_drew)); exact Kd.R_mono HO_288001.out (fun _ hk => ⟨trivial, hk⟩)) hg hat); have n1_ := aM_ (gb_ (g := gb283) (o := .cells #[.int .i64 a0_0, .int .i64 a0_1, .int .i64 a0_2, .slice A0_3 l0_3.length c0_3, .slice A0_4 l0_4.length c0_4] 120 (0, 0)) (by (with_reducible repeat (first | refine la_ ?_ _ | refine ma_ ?_ | refine ka_ ?_ _)); exact BK283.out) hg (Kd.R_ne HO_288003.out BK283.out (by decide))); have n2_ := aM_ (gb_ (g := gb284) (o := .cells #[.int .i64 0, .slice none 0 0, .int .i64 0, .slice none 0 0, .int .i64 0] 56 (0, 0)) (by (with_reducible repeat (first | refine la_ ?_ _ | refine ma_ ?_ | refine ka_ ?_ _)); exact BK284.out) hg (Kd.R_ne HO_288003.out BK284.out (by decide))); have n3_ := aM_ (gb_ (g := gb287) (o := .cells #[.int .i64 t285, .slice Ao93 x288001_1.length co93, .int .i64 t288, u288003, .int .i64 t286] 56 (0, 0)) (by (with_reducible repeat (first | refine la_ ?_ _ | refine ma_ ?_ | refine ka_ ?_ _)); exact BK287.out) hg (Kd.R_ne HO_288003.out BK287.out (by decide))); have n4_ := aM_ (hb); have n5_ := aM_ (ho); clear HO_288001; clear BK283; clear BK284; clear BK287; clear HB; clear HO_288003; have HO_288001 := n0_; have BK283 := n1_; have BK284 := n2_; have BK287 := n3_; have HB := n4_; have HO317 := n5_; clear n0_ n1_ n2_ n3_ n4_ n5_; clear ho hb hg hat; obtain ⟨Ao95, co95, eo95⟩ := Kd.R_slice HO317.out
        (first | subst eo95 | (injection eo95 with f1_ f2_ f3_; have f4_ := f1_.symm; have f5_ := f3_.symm; clear f1_ f2_ f3_; subst f4_; subst f5_))
        refine hK.out _ _ ⟨(ba_ BK287.out 0).trans rfl, (ba_ BK287.out 1).trans rfl, (ba_ BK287.out 2).trans rfl, (ba_ BK287.out 3).trans rfl, (ba_ BK287.out 4).trans rfl⟩ (fun hHeld => ?_); clear hK K; refine wa_ (a' := ?_) ?_ ?_; rotate_left; (focus (show Act.put _ (some 108) _ = _; simp only [Act.put, s1_, s2_, s3_, ia_, ja_]; rfl)); refine pU_ 10 109 ?_ (f_ 13 11) rfl rfl (qc_ HT_.out (by kernel_rfl)) (fun _ _ _ h => h) (by rfl) ?_ ?_ ?_ ?_; rotate_left
        ·intro w'
         go_simp
         with_reducible rfl
        rotate_left
        ·simp only [Act.put, s1_, s2_, s3_, ia_, ja_]
         rfl
        refine pU_ 11 110 ?_ (f_ 13 12) rfl rfl (qc_ HT_.out (by kernel_rfl)) (fun _ _ _ h => h) (by rfl) ?_ ?_ ?_ ?_; rotate_left
        ·intro w'
         go_simp
         with_reducible rfl
        rotate_left
        ·simp only [Act.put, s1_, s2_, s3_, ia_, ja_]
         rfl
        refine qg_ (i := 12) (N := none) (f_ 13 13) rfl rfl (id_ HT_.out (by kernel_rfl)) (by decide) (fun K hK => ?_); have hs96 : w94.cell? ⟨gb287, 3, none⟩ = some (u288003) := (ba_ BK287.out 3).trans rfl; have hfs96 := da_ BK287.out 3; have hns96_0 := NB283_287.out; have hns96_1 := NB284_287.out; have hms96_0 := NB287_283.out; have hms96_1 := NB287_284.out; refine og_ (w1 := ?_) (by rfl) rfl ?_ ?_; rotate_left
        ·go_simp
         rfl
        refine hK.out _ _ ?_; clear hK K; refine je_ (uj_ HT_.out (by kernel_rfl)) ?_
        try go_wp2
        go_roundg k3
        case measure => have := HK1.out; have := HJ26.out; have := HK3.out; omega
        case rel => exact ⟨(wrap64 (x10_3 + 1)), (y315), (.slice Ao95 y315.length co95), (by first | rfl | (simp; done) | (simp [*]; done)), H', ⟨by have := HK1.out; have := HJ26.out; have := HK3.out; omega⟩, ⟨by (with_reducible repeat (first | apply Kd.R_alloc | apply Kd.R_drewN | apply Kd.R_drew)); exact Kd.R_mono (Kd.R_far (p := ⟨gb287, 3, none⟩) (Kd.R_types HO_288001.out BK287.out (by decide)) (fun _ hk => hk.2) (.slice Ao95 y315.length co95)) (fun _ hk => hk.1.2)⟩, ⟨by (with_reducible repeat (first | apply Kd.R_alloc | apply Kd.R_drewN | apply Kd.R_drew)); exact Kd.R_mono (Kd.R_far (p := ⟨gb287, 3, none⟩) (Kd.R_types HO317.out BK287.out (by decide)) (fun _ hk => hk.2) (.slice Ao95 y315.length co95)) (fun _ hk => hk.1)⟩, ⟨by (with_reducible repeat (first | refine la_ ?_ _ | refine ma_ ?_ | refine ka_ ?_ _)); refine ed_ ?_ NB283_287.out _; (with_reducible repeat (first | refine la_ ?_ _ | refine ma_ ?_ | refine ka_ ?_ _)); exact BK283.out⟩, ⟨by (with_reducible repeat (first | refine la_ ?_ _ | refine ma_ ?_ | refine ka_ ?_ _)); refine ed_ ?_ NB284_287.out _; (with_reducible repeat (first | refine la_ ?_ _ | refine ma_ ?_ | refine ka_ ?_ _)); exact BK284.out⟩, ⟨by (with_reducible repeat (first | refine la_ ?_ _ | refine ma_ ?_ | refine ka_ ?_ _)); refine lc_ (cs := #[.int .i64 t285, .slice Ao93 x288001_1.length co93, .int .i64 t288, u288003, .int .i64 t286]) ?_ 3 _ rfl; (with_reducible repeat (first | refine la_ ?_ _ | refine ma_ ?_ | refine ka_ ?_ _)); exact BK287.out⟩, ⟨by repeat (first | (with_reducible first | exact HB.out | apply aa_ | apply ca_ | apply ga_ | refine na_ ?_ GE283.out | refine na_ ?_ GE284.out | refine na_ ?_ GE287.out) | exact HB.out)⟩⟩
       rw [if_neg c88] at H; exact absurd H (by simp)
      rw [if_neg c74] at H; have c74b0 : decide (x10_3 < (rd y289 t288)) = false := decide_eq_false c74; clear c74; simp only [Option.some.injEq, Prod.mk.injEq] at H; obtain ⟨rfl, rfl, rfl, rfl, rfl⟩ := H; have hnb97 := NB287_283.out; have hnc97 := NB283_287.out; have hnb98 := NB287_284.out; have hnc98 := NB284_287.out; have hcz99_0 : wr.cell? ⟨gb287, 0, none⟩ = some (.int .i64 t285) := (ba_ BK287.out 0).trans rfl; have hcz99_1 : wr.cell? ⟨gb287, 1, none⟩ = some (u288001) := (ba_ BK287.out 1).trans rfl; have hcz99_2 : wr.cell? ⟨gb287, 2, none⟩ = some (.int .i64 t288) := (ba_ BK287.out 2).trans rfl; have hcz99_3 : wr.cell? ⟨gb287, 3, none⟩ = some (u288003) := (ba_ BK287.out 3).trans rfl; have hcz99_4 : wr.cell? ⟨gb287, 4, none⟩ = some (.int .i64 t286) := (ba_ BK287.out 4).trans rfl; have hfz99_0 := da_ BK287.out 0; have hfz99_1 := da_ BK287.out 1; have hfz99_2 := da_ BK287.out 2; have hfz99_3 := da_ BK287.out 3; have hfz99_4 := da_ BK287.out 4; have hnb100 := NB284_283.out; have hnc100 := NB283_284.out; have hcz101_0 : wr.cell? ⟨gb284, 0, none⟩ = some (.int .i64 0) := (ba_ BK284.out 0).trans rfl; have hcz101_1 : wr.cell? ⟨gb284, 1, none⟩ = some (.slice none 0 0) := (ba_ BK284.out 1).trans rfl; have hcz101_2 : wr.cell? ⟨gb284, 2, none⟩ = some (.int .i64 0) := (ba_ BK284.out 2).trans rfl; have hcz101_3 : wr.cell? ⟨gb284, 3, none⟩ = some (.slice none 0 0) := (ba_ BK284.out 3).trans rfl; have hcz101_4 : wr.cell? ⟨gb284, 4, none⟩ = some (.int .i64 0) := (ba_ BK284.out 4).trans rfl; have hfz101_0 := da_ BK284.out 0; have hfz101_1 := da_ BK284.out 1; have hfz101_2 := da_ BK284.out 2; have hfz101_3 := da_ BK284.out 3; have hfz101_4 := da_ BK284.out 4; obtain ⟨Ao102, co102, eo102⟩ := Kd.R_slice HO_288001.out; subst eo102; obtain ⟨Ao103, co103, eo103⟩ := Kd.R_slice HO_288003.out; subst eo103
      go_wp2
      refine bodyPost_ret (results_cell_row rfl _ _ gb284 56 #[.int .i64 t285, .slice Ao102 x288001_1.length co102, .int .i64 t288, .slice Ao103 x288003_3.length co103, .int .i64 t286] (0, 0) _ rfl (by (with_reducible repeat (first | refine la_ ?_ _ | refine ma_ ?_ | refine ka_ ?_ _)); refine lc_ (cs := #[.int .i64 t285, .slice Ao102 x288001_1.length co102, .int .i64 t288, .slice Ao103 x288003_3.length co103, .int .i64 0]) ?_ 4 _ rfl; (with_reducible repeat (first | refine la_ ?_ _ | refine ma_ ?_ | refine ka_ ?_ _)); refine lc_ (cs := #[.int .i64 t285, .slice Ao102 x288001_1.length co102, .int .i64 t288, .slice none 0 0, .int .i64 0]) ?_ 3 _ rfl; (with_reducible repeat (first | refine la_ ?_ _ | refine ma_ ?_ | refine ka_ ?_ _)); refine lc_ (cs := #[.int .i64 t285, .slice Ao102 x288001_1.length co102, .int .i64 0, .slice none 0 0, .int .i64 0]) ?_ 2 _ rfl; (with_reducible repeat (first | refine la_ ?_ _ | refine ma_ ?_ | refine ka_ ?_ _)); refine lc_ (cs := #[.int .i64 t285, .slice none 0 0, .int .i64 0, .slice none 0 0, .int .i64 0]) ?_ 1 _ rfl; (with_reducible repeat (first | refine la_ ?_ _ | refine ma_ ?_ | refine ka_ ?_ _)); refine lc_ (cs := #[.int .i64 0, .slice none 0 0, .int .i64 0, .slice none 0 0, .int .i64 0]) ?_ 0 _ rfl; (with_reducible repeat (first | refine la_ ?_ _ | refine ma_ ?_ | refine ka_ ?_ _)); exact BK284.out) Tryz.underlying56 rfl (by kernel_rfl)) rfl ?_; exact ⟨_, _, by first | rfl | (simp [eb_, db_] <;> rfl) | (simp [*, eb_, db_] <;> rfl), by (with_reducible repeat (first | apply Kd.R_alloc | apply Kd.R_drewN | apply Kd.R_drew)); exact Kd.R_mono (Kd.R_far (p := ⟨gb284, 4, none⟩) (Kd.R_far (p := ⟨gb284, 3, none⟩) (Kd.R_far (p := ⟨gb284, 2, none⟩) (Kd.R_far (p := ⟨gb284, 1, none⟩) (Kd.R_far (p := ⟨gb284, 0, none⟩) (Kd.R_types HO_288001.out BK284.out (by decide)) (fun _ hk => hk.2) (.int .i64 t285)) (fun _ hk => hk.2) (.slice Ao102 x288001_1.length co102)) (fun _ hk => hk.2) (.int .i64 t288)) (fun _ hk => hk.2) (.slice Ao103 x288003_3.length co103)) (fun _ hk => hk.2) (.int .i64 t286)) (fun _ hk => hk.1), by (with_reducible repeat (first | apply Kd.R_alloc | apply Kd.R_drewN | apply Kd.R_drew)); exact Kd.R_mono (Kd.R_far (p := ⟨gb284, 4, none⟩) (Kd.R_far (p := ⟨gb284, 3, none⟩) (Kd.R_far (p := ⟨gb284, 2, none⟩) (Kd.R_far (p := ⟨gb284, 1, none⟩) (Kd.R_far (p := ⟨gb284, 0, none⟩) (Kd.R_types HO_288003.out BK284.out (by decide)) (fun _ hk => hk.2) (.int .i64 t285)) (fun _ hk => hk.2) (.slice Ao102 x288001_1.length co102)) (fun _ hk => hk.2) (.int .i64 t288)) (fun _ hk => hk.2) (.slice Ao103 x288003_3.length co103)) (fun _ hk => hk.2) (.int .i64 t286)) (fun _ hk => hk.1), by repeat (first | (with_reducible first | exact HB.out | apply aa_ | apply ca_ | apply ga_ | refine na_ ?_ GE283.out | refine na_ ?_ GE284.out | refine na_ ?_ GE287.out) | exact HB.out)⟩
  rw [if_neg c7] at H; exact absurd H (by simp)
 rw [if_neg c6] at H
 exact absurd H (by simp)
end Go.Proofs.YtiocgaekoeekgaaGreat.P
end
section
namespace Go.Proofs.YtiocgaekoeekgaaGreat.P
open Go.RowKit Go.Shelf YtiocgaekoeekgaaGreatW.PrintWords YtiocgaekoeekgaaGreatW.PrintLast YtiocgaekoeekgaaGreatW.PrintMore
def le_ {α : Type} (P : Program) (w : World) (rel : World → α → Value → Prop) (fv : Value) (p : α → Bool) : Prop :=
 ∃ (g : Nat) (pre lb : Array Value), fv = .func (.func g) pre lb ∧ (∀ args w, (callFunc g args).run P w = .ok (.enter g args) w) ∧
  ∀ W x v, Below w.heap.size w W → rel W x v → Calls P g (pre ++ #[v] ++ lb) W fun e w' => e = .returned (.bool (p x)) ∧ Below W.heap.size W w'
theorem sd_ {a b : Bool} (h : a = b) : Ending.returned (.bool a) = .returned (.bool b) := by rw [h]
theorem fo_ (w : World) (v : Value) (t : TypeId) : (w.alloc (.cells #[v] t)).cell? ⟨w.heap.size, 0, none⟩ = some v := World.cell?_alloc_at _ _ _ _ rfl
def dj_ (_ : World) (x : Int) (v : Value) : Prop := v = .int .i64 x
def ej_ {α : Type} (d : Kd α) (W : World) (x : α) (v : Value) : Prop := ∃ cs : List Value, v = .agg cs.toArray ∧ d.K W x cs
def xd_ {α : Type} (p : α → Bool) (l : List α) : Int := match l.findIdx? p with | some i => i | none => -1
theorem ci_ {α : Type} {p : α → Bool} {l : List α} {k : Nat} (hk : k < l.length) (h0 : ∀ j, j < k → ∀ h : j < l.length, p l[j] = false) (h1 : p l[k] = true) : xd_ p l = k := by
 have : l.findIdx? p = some k := by
  rw [List.findIdx?_eq_some_iff_getElem]; exact ⟨hk, h1, fun j hj => by simpa using h0 j hj (by omega)⟩
 simp [xd_, this]
theorem zi_ {α : Type} {p : α → Bool} {l : List α} (h0 : ∀ j, j < l.length → ∀ h : j < l.length, p l[j] = false) : xd_ p l = -1 := by
 have : l.findIdx? p = none := by
  rw [List.findIdx?_eq_none_iff]; intro x hx; obtain ⟨j, hj, rfl⟩ := List.mem_iff_getElem.1 hx; exact h0 j hj hj
 simp [xd_, this]
theorem hm_ {α : Type} (p : α → Bool) (l : List α) : decide (0 ≤ xd_ p l) = l.any p := by
 unfold xd_
 cases h : l.findIdx? p with
 | none =>
  rw [List.findIdx?_eq_none_iff] at h; have : l.any p = false := by simpa using h
  simp [this]
 | some i =>
  have h2 := List.findIdx?_eq_some_iff_getElem.1 h; have : l.any p = true := List.any_eq_true.2 ⟨_, List.getElem_mem h2.1, h2.2.1⟩; simp [this]
theorem df_ (xs : List Int) (j : Nat) (h : j < xs.length) : rd xs j = xs[j] := by
 simp [rd, List.getD_eq_getElem?_getD, List.getElem?_eq_getElem h]
end Go.Proofs.YtiocgaekoeekgaaGreat.P
end
section
namespace Go.Proofs.YtiocgaekoeekgaaGreat.P
set_option linter.unusedVariables false
set_option linter.unusedSimpArgs false
open Go.RowKit Go.Shelf YtiocgaekoeekgaaGreatW.PrintWords YtiocgaekoeekgaaGreatW.PrintLast YtiocgaekoeekgaaGreatW.PrintMore
open Go.Maps (Keyed)
open Go.MapKept (Stamped)
section
variable {κ : Type} [DecidableEq κ]
def mget {ν : Type} : List (κ × ν) → κ → Option ν
 | [], _ => none
 | p :: m, k => if p.1 = k then some p.2 else mget m k
def mput {ν : Type} : List (κ × ν) → κ → ν → List (κ × ν)
 | [], k, v => [(k, v)]
 | p :: m, k, v => if p.1 = k then (k, v) :: m else p :: mput m k v
theorem yc_ {ν : Type} (k : κ) (v : ν) : ∀ m : List (κ × ν), mget (mput m k v) k = some v
 | [] => by simp [mput, mget]
 | p :: m => by
  unfold mput
  by_cases h : p.1 = k
  ·rw [if_pos h]; simp [mget]
  rw [if_neg h, mget, if_neg h]; exact yc_ k v m
theorem rd_ {ν : Type} (k : κ) (v : ν) (j : κ) (hj : j ≠ k) : ∀ m : List (κ × ν), mget (mput m k v) j = mget m j
 | [] => by simp [mput, mget, Ne.symm hj]
 | p :: m => by
  unfold mput
  by_cases h : p.1 = k
  ·rw [if_pos h]; simp [mget, h, Ne.symm hj]
  rw [if_neg h, mget, mget, rd_ k v j hj m]
theorem vn_ {ν : Type} (k : κ) (v : ν) : ∀ m : List (κ × ν), (mput m k v).map (·.1) = if k ∈ m.map (·.1) then m.map (·.1) else m.map (·.1) ++ [k]
 | [] => by simp [mput]
 | p :: m => by
  unfold mput
  by_cases h : p.1 = k
  ·rw [if_pos h]; simp [h]
  rw [if_neg h]; simp only [List.map_cons, List.mem_cons, vn_ k v m]; have h2 : ¬ k = p.1 := fun e => h e.symm
  by_cases h3 : k ∈ m.map (·.1)
  ·simp [h3]
  simp [h2, h3]
theorem cl_ {ν : Type} (k : κ) : ∀ m : List (κ × ν), (mget m k).isSome = true ↔ k ∈ m.map (·.1)
 | [] => by simp [mget]
 | p :: m => by
  unfold mget
  by_cases h : p.1 = k
  ·rw [if_pos h]; simp [h]
  rw [if_neg h, cl_ k m]; have h2 : ¬ k = p.1 := fun e => h e.symm
  simp [h2]
theorem fq_ {ν : Type} {k : κ} {v : ν} {m : List (κ × ν)} {p : κ × ν} (h : p ∈ mput m k v) : p = (k, v) ∨ p ∈ m := by
 induction m with
 | nil => simp [mput] at h; exact .inl h
 | cons q m ih =>
  unfold mput at h
  by_cases hq : q.1 = k
  ·rw [if_pos hq] at h
   rcases List.mem_cons.1 h with h | h
   ·exact .inl h
   exact .inr (List.mem_cons_of_mem _ h)
  rw [if_neg hq] at h
  rcases List.mem_cons.1 h with h | h
  ·exact .inr (h ▸ List.mem_cons_self)
  rcases ih h with h | h
  ·exact .inl h
  exact .inr (List.mem_cons_of_mem _ h)
omit [DecidableEq κ] in
theorem map_vals {ν μ : Type} (f : ν → μ) (m : List (κ × ν)) : (m.map fun p => (p.1, f p.2)).map (·.1) = m.map (·.1) := by
 rw [List.map_map]; rfl
theorem zl_ {ν μ : Type} (f : ν → μ) (k : κ) : ∀ m : List (κ × ν), mget (m.map fun p => (p.1, f p.2)) k = (mget m k).map f
 | [] => rfl
 | p :: m => by
  rw [List.map_cons, mget, mget]
  by_cases h : p.1 = k
  ·rw [if_pos h, if_pos h]; rfl
  rw [if_neg h, if_neg h, zl_ f k m]
theorem yl_ {ν μ : Type} (f : ν → μ) (k : κ) (v : ν) : ∀ m : List (κ × ν), mput (m.map fun p => (p.1, f p.2)) k (f v) = (mput m k v).map fun p => (p.1, f p.2)
 | [] => rfl
 | p :: m => by
  rw [List.map_cons, mput, mput]
  by_cases h : p.1 = k
  ·rw [if_pos h, if_pos h]; rfl
  rw [if_neg h, if_neg h, yl_ f k v m]; rfl
def MapOf (P : Program) (kt : TypeId) (enc : κ → Value) (w : World) (b : Nat) (m : List (κ × Value)) : Prop :=
 ∃ es clock, w.heap[b]? = some (.map es clock) ∧ es.toList.map (fun e => (e.key, e.val)) = m.map (fun p => (enc p.1, p.2)) ∧
  (∀ p ∈ m, ∃ l, keyOf P kt (enc p.1) = some l) ∧ Stamped es clock
variable {P : Program} {kt : TypeId} {enc : κ → Value} {w w1 : World} {b : Nat} {m : List (κ × Value)}
omit [DecidableEq κ] in
theorem MapOf.made (P : Program) (kt : TypeId) (enc : κ → Value) (w : World) : MapOf P kt enc (w.alloc (.map #[] 0)) w.heap.size [] :=
 ⟨#[], 0, (MapKept.heap_alloc w _).1, rfl, by simp, MapKept.stamped_empty 0⟩
omit [DecidableEq κ] in
theorem MapOf.lt (h : MapOf P kt enc w b m) : b < w.heap.size := by
 obtain ⟨es, clock, hb, _⟩ := h
 exact (Array.getElem?_eq_some_iff.1 hb).1
omit [DecidableEq κ] in
theorem MapOf.same (h : MapOf P kt enc w b m) (hw : w1.heap[b]? = w.heap[b]?) : MapOf P kt enc w1 b m := by
 obtain ⟨es, clock, hb, r⟩ := h
 exact ⟨es, clock, hw.trans hb, r⟩
omit [DecidableEq κ] in
theorem MapOf.below (h : MapOf P kt enc w b m) (hb : Below w.heap.size w w1) : MapOf P kt enc w1 b m := h.same (hb.block b h.lt)
omit [DecidableEq κ] in
theorem MapOf.alloc (h : MapOf P kt enc w b m) (o : Obj) : MapOf P kt enc (w.alloc o) b m := h.below (aa_ (Below.refl _ _) o)
omit [DecidableEq κ] in
theorem MapOf.drewN (h : MapOf P kt enc w b m) (n : Nat) : MapOf P kt enc (w.drewN n) b m := h
omit [DecidableEq κ] in
theorem MapOf.drew (h : MapOf P kt enc w b m) : MapOf P kt enc w.drew b m := h
omit [DecidableEq κ] in
theorem MapOf.grown (h : MapOf P kt enc w b m) {row : Option Nat} (hg : w.grownBy w1 row) (hne : some b ≠ row) : MapOf P kt enc w1 b m := h.same (hg.block b h.lt hne)
omit [DecidableEq κ] in
theorem MapOf.setCell (h : MapOf P kt enc w b m) (p : Addr) (hp : b ≠ p.block) (u : Value) : MapOf P kt enc (w.setCell p u) b m := h.same (Below.heap_setCell w p u b hp)
omit [DecidableEq κ] in
theorem MapOf.not_cells (h : MapOf P kt enc w b m) {g : Nat} {cs : Array Value} {t : TypeId} {z : Nat × Nat} (hg : w.heap[g]? = some (.cells cs t z)) : b ≠ g := by
 obtain ⟨es, clock, h1, _⟩ := h
 intro e
 rw [e, hg] at h1
 cases h1
omit [DecidableEq κ] in
theorem MapOf.nodup (h : MapOf P kt enc w b m) : (m.map (·.1)).Nodup := by
 obtain ⟨es, clock, _, he, _, hs⟩ := h
 have hp := ((MapKept.stamped_iff es clock).1 hs).2.2
 have h1 : es.toList.map (fun e => e.key) = m.map (fun p => enc p.1) := by
  have := congrArg (List.map (·.1)) he
  simpa [List.map_map, Function.comp_def] using this
 have h2 : (es.toList.map (fun e => e.key)).Pairwise (· ≠ ·) := List.pairwise_map.2 hp
 rw [h1] at h2
 rw [List.Nodup, List.pairwise_map]
 have h3 := List.pairwise_map.1 h2
 exact h3.imp (fun hne e => hne (by rw [e]))
theorem MapOf.find_cases (K : Keyed P kt) (hinj : ∀ x y, enc x = enc y → x = y) {es : Array MapEntry} (he : es.toList.map (fun e => (e.key, e.val)) = m.map (fun p => (enc p.1, p.2)))
  (hks : ∀ p ∈ m, ∃ l, keyOf P kt (enc p.1) = some l) (w : World) (k : κ) (hk : ∃ l, keyOf P kt (enc k) = some l) (hnd : (m.map (·.1)).Nodup) :
  ((Instr.findKey kt (enc k) es.toList).run P w = .ok none w ∧ (∀ e ∈ es.toList, e.key ≠ enc k) ∧ mget m k = none ∧ ∀ v, mput m k v = m ++ [(k, v)]) ∨
  ∃ j e, (Instr.findKey kt (enc k) es.toList).run P w = .ok (some (j, e.val)) w ∧ es.toList[j]? = some e ∧ e.key = enc k ∧ mget m k = some e.val ∧
   ∀ v, ∃ _ : j < m.length, mput m k v = m.set j (k, v) := by
 obtain ⟨l, hl⟩ := hk
 have hkeys : ∀ e ∈ es.toList, ∃ l, keyOf P kt e.key = some l := by
  intro e hem; have : (e.key, e.val) ∈ m.map (fun p => (enc p.1, p.2)) := by rw [← he]; exact List.mem_map.2 ⟨e, hem, rfl⟩
  obtain ⟨p, hp, hpe⟩ := List.mem_map.1 this; obtain ⟨l', hl'⟩ := hks p hp; exact ⟨l', by rw [← (Prod.mk.inj hpe).1]; exact hl'⟩
 rcases K.find w hl es.toList hkeys with ⟨h1, h2⟩ | ⟨j, e, h1, h2, h3⟩
 ·refine .inl ⟨h1, h2, ?_⟩
  have hno : ∀ p ∈ m, p.1 ≠ k := by
   intro p hp hpk; have : (enc p.1, p.2) ∈ es.toList.map (fun e => (e.key, e.val)) := by rw [he]; exact List.mem_map.2 ⟨p, hp, rfl⟩
   obtain ⟨e, hem, hee⟩ := List.mem_map.1 this; exact h2 e hem (by rw [(Prod.mk.inj hee).1, hpk])
  clear he hks hnd
  induction m with
  | nil => exact ⟨rfl, fun _ => rfl⟩
  | cons p m ih =>
   have hp := hno p List.mem_cons_self; obtain ⟨i1, i2⟩ := ih (fun q hq => hno q (List.mem_cons_of_mem _ hq)); exact ⟨by rw [mget, if_neg hp]; exact i1, fun v => by rw [mput, if_neg hp, i2]; rfl⟩
 refine .inr ⟨j, e, h1, h2, h3, ?_⟩
 have hm : m[j]? = some (k, e.val) := by
  have : (m.map (fun p => (enc p.1, p.2)))[j]? = some (e.key, e.val) := by rw [← he, List.getElem?_map, h2]; rfl
  rw [List.getElem?_map] at this; obtain ⟨p, hp, hpe⟩ := Option.map_eq_some_iff.1 this; obtain ⟨q1, q2⟩ := Prod.mk.inj hpe; rw [hp, ← q2, ← hinj p.1 k (by rw [q1, h3])]
 clear he hks h1 h2 h3
 induction m generalizing j with
 | nil => simp at hm
 | cons p m ih =>
  rw [List.map_cons, List.nodup_cons] at hnd
  cases j with
  | zero =>
   rw [List.getElem?_cons_zero] at hm; obtain rfl := Option.some.inj hm
   exact ⟨by simp [mget], fun v => ⟨by simp, by simp [mput]⟩⟩
  | succ j =>
   rw [List.getElem?_cons_succ] at hm; have hp : p.1 ≠ k := fun e2 => hnd.1 (by rw [e2]; exact List.mem_map.2 ⟨_, List.mem_of_getElem? hm, rfl⟩)
   obtain ⟨i1, i2⟩ := ih hnd.2 j hm; refine ⟨by rw [mget, if_neg hp]; exact i1, fun v => ?_⟩; obtain ⟨hj, i3⟩ := i2 v; exact ⟨by simp; omega, by rw [mput, if_neg hp, i3]; rfl⟩
theorem MapOf.lookup {t e : TypeId} (h : MapOf P kt enc w b m) (K : Keyed P kt) (hinj : ∀ x y, enc x = enc y → x = y) (ht : P.underlying t = some (.map kt e)) {z : Value} (hz : (zeroValue e).run P w = .ok z w)
  (k : κ) (hk : ∃ l, keyOf P kt (enc k) = some l) (c : Bool) :
  (Instr.lookup t (.map (some b)) (enc k) c).run P w = .ok (if c then .tuple #[(mget m k).getD z, .bool (mget m k).isSome] else (mget m k).getD z) w := by
 have hnd := h.nodup
 obtain ⟨es, clock, hb, he, hks, hs⟩ := h
 obtain ⟨l, hl⟩ := hk
 rcases MapOf.find_cases K hinj he hks w k ⟨l, hl⟩ hnd with ⟨h1, _, h3, _⟩ | ⟨j, e0, h1, _, _, h4, _⟩
 ·rw [h3]; simp [Instr.lookup, run_underlying ht, MapKept.run_getObj_map hb, K.check w _ hl, h1, hz, Result.andThen]
 rw [h4]; simp [Instr.lookup, run_underlying ht, MapKept.run_getObj_map hb, K.check w _ hl, h1, Result.andThen]
omit [DecidableEq κ] in
theorem uf_ (w : World) {b : Nat} {o o' : Obj} (hb : w.heap[b]? = some o) : w.grownBy { w with heap := w.heap.setIfInBounds b o' } (some b) :=
 ⟨rfl, rfl, rfl, by simp, fun k _ hne => (MapKept.heap_set hb).2 k (fun e => hne (by rw [e]))⟩
omit [DecidableEq κ] in
theorem xe_ {es : Array MapEntry} {j : Nat} {k : κ} {v : Value} (he : es.toList.map (fun e => (e.key, e.val)) = m.map (fun p => (enc p.1, p.2))) (f : MapEntry → MapEntry) (hf : ∀ e, es.toList[j]? = some e → (f e).key = enc k ∧ (f e).val = v) :
  (es.modify j f).toList.map (fun e => (e.key, e.val)) = (m.set j (k, v)).map (fun p => (enc p.1, p.2)) := by
 rw [List.map_set, ← he, Array.toList_modify]
 apply List.ext_getElem?
 intro i
 rw [List.getElem?_map, List.getElem?_modify, List.getElem?_set, List.getElem?_map, List.length_map]
 by_cases hij : j = i
 ·subst hij
  rw [if_pos rfl]
  cases hes : es.toList[j]? with
  | none =>
   have : ¬ j < es.toList.length := fun hl => by rw [List.getElem?_eq_getElem hl] at hes; cases hes
   rw [if_neg this]; rfl
  | some e =>
   have hl := (List.getElem?_eq_some_iff.1 hes).1; rw [if_pos hl]; simp [hf e hes]
 rw [if_neg hij]
 cases es.toList[i]? <;> simp [hij]
theorem MapOf.update {t e : TypeId} (h : MapOf P kt enc w b m) (K : Keyed P kt) (hinj : ∀ x y, enc x = enc y → x = y) (ht : P.underlying t = some (.map kt e)) (k : κ) (hk : ∃ l, keyOf P kt (enc k) = some l) (v : Value) :
  ∃ w', (Instr.mapUpdate t (.map (some b)) (enc k) v).run P w = .ok () w' ∧ MapOf P kt enc w' b (mput m k v) ∧ w.grownBy w' (some b) ∧ w'.heap.size = w.heap.size := by
 have hnd := h.nodup
 obtain ⟨es, clock, hb, he, hks, hs⟩ := h
 obtain ⟨l, hl⟩ := hk
 have hks' : ∀ p ∈ mput m k v, ∃ l, keyOf P kt (enc p.1) = some l := by
  intro p hp
  rcases fq_ hp with rfl | hp
  ·exact ⟨l, hl⟩
  exact hks p hp
 rcases MapOf.find_cases K hinj he hks w k ⟨l, hl⟩ hnd with ⟨h1, h2, _, h4⟩ | ⟨j, e0, h1, h2, h3, _, h5⟩
 ·refine ⟨{ w with heap := w.heap.setIfInBounds b (.map (es.push ⟨enc k, v, clock⟩) (clock + 1)) }, ?_, ⟨es.push ⟨enc k, v, clock⟩, clock + 1, (MapKept.heap_set hb).1, ?_, hks', MapKept.stamped_push hs h2⟩, uf_ w hb, by simp⟩
  ·simp [Instr.mapUpdate, run_underlying ht, MapKept.run_getObj_map hb, K.check w false hl, h1, MapKept.run_setObj_map _ hb, Result.andThen]
  rw [h4, Array.toList_push, List.map_append, List.map_append, he]; rfl
 have hj2 : es[j]? = some e0 := by simpa using h2
 obtain ⟨hj, h6⟩ := h5 v
 refine ⟨{ w with heap := w.heap.setIfInBounds b (.map (es.modify j fun e => { e with key := enc k, val := v }) clock) }, ?_, ⟨es.modify j fun e => { e with key := enc k, val := v }, clock, (MapKept.heap_set hb).1, ?_, hks', ?_⟩, uf_ w hb, by simp⟩
 ·simp [Instr.mapUpdate, run_underlying ht, MapKept.run_getObj_map hb, K.check w false hl, h1, hj2, h3, K.stays w hl, MapKept.run_setObj_map _ hb, Result.andThen]
 ·rw [h6]; exact xe_ he _ (fun e _ => ⟨rfl, rfl⟩)
 exact MapKept.stamped_modify hs _ _ (fun _ _ => rfl) (fun e' _ he' => by rw [hj2] at he'; cases he'; exact h3.symm)
omit [DecidableEq κ] in
theorem qi_ {α : Type} (xs : Array α) (p : α → Bool) : xs.findIdx? p = xs.toList.findIdx? p := by
 cases xs with | mk l => exact List.findIdx?_toArray p l
theorem MapOf.entry {t e : TypeId} (h : MapOf P kt enc w b m) (K : Keyed P kt) (hinj : ∀ x y, enc x = enc y → x = y) (ht : P.underlying t = some (.map kt e)) {z : Value} (hz : ∀ w, (zeroValue e).run P w = .ok z w) (k : κ) (hk : ∃ l, keyOf P kt (enc k) = some l) :
  ∃ w1 n, (Instr.mapEntry t (.map (some b)) (enc k)).run P w = .ok (.tuple #[(mget m k).getD z, .int .i64 n]) w1 ∧ w.grownBy w1 (some b) ∧ w1.heap.size = w.heap.size ∧ (∃ m1, MapOf P kt enc w1 b m1 ∧ mget m1 k = some ((mget m k).getD z)) ∧
   ∀ v, ∃ w2, (Instr.entryStore t (.map (some b)) (.int .i64 n) v).run P w1 = .ok () w2 ∧ MapOf P kt enc w2 b (mput m k v) ∧ w.grownBy w2 (some b) ∧ w2.heap.size = w.heap.size := by
 have hnd := h.nodup
 obtain ⟨es, clock, hb, he, hks, hs⟩ := h
 obtain ⟨l, hl⟩ := hk
 have hks' : ∀ v, ∀ p ∈ mput m k v, ∃ l, keyOf P kt (enc p.1) = some l := by
  intro v p hp
  rcases fq_ hp with rfl | hp
  ·exact ⟨l, hl⟩
  exact hks p hp
 have hst := (MapKept.stamped_iff es clock).1 hs
 rcases MapOf.find_cases K hinj he hks w k ⟨l, hl⟩ hnd with ⟨h1, h2, h3, h4⟩ | ⟨j, e0, h1, h2, h3, h4, h5⟩
 ·have hb1 : ({ w with heap := w.heap.setIfInBounds b (.map (es.push ⟨enc k, z, clock⟩) (clock + 1)) } : World).heap[b]? = some (.map (es.push ⟨enc k, z, clock⟩) (clock + 1)) := (MapKept.heap_set hb).1
  have hf : (es.push ⟨enc k, z, clock⟩).findIdx? (fun e => (e.born : Int) == (clock : Int)) = some es.size := by
   rw [qi_, List.findIdx?_eq_some_iff_getElem]; refine ⟨by simp, by simp, fun i hi => ?_⟩; have hi' : i < es.toList.length := by simpa using hi
   have e1 : (es.push ⟨enc k, z, clock⟩).toList[i]'(by simp; omega) = es.toList[i] := by simp [Array.toList_push, List.getElem_append_left hi']
   rw [e1]; have h9 := hst.1 _ (List.getElem_mem hi'); intro hc; have h10 : (es.toList[i].born : Int) = clock := beq_iff_eq.1 hc; omega
  refine ⟨{ w with heap := w.heap.setIfInBounds b (.map (es.push ⟨enc k, z, clock⟩) (clock + 1)) }, (clock : Int), ?_, uf_ w hb, by simp, ⟨mput m k z, ⟨es.push ⟨enc k, z, clock⟩, clock + 1, hb1, by rw [h4, Array.toList_push, List.map_append, List.map_append, he]; rfl, hks' z, MapKept.stamped_push hs h2⟩, by rw [yc_, h3]; rfl⟩, fun v => ⟨{ w with heap := w.heap.setIfInBounds b (.map ((es.push ⟨enc k, z, clock⟩).modify es.size fun e => { e with val := v }) (clock + 1)) }, ?_, ⟨(es.push ⟨enc k, z, clock⟩).modify es.size fun e => { e with val := v }, clock + 1, (MapKept.heap_set hb).1, ?_, hks' v, ?_⟩, uf_ w hb, by simp⟩⟩
  ·rw [h3]; simp [Instr.mapEntry, run_underlying ht, MapKept.run_getObj_map hb, K.check w false hl, h1, MapKept.run_setObj_map _ hb, Result.andThen, hz, goInt]
  ·simp only [Instr.entryStore]
   simp [MapKept.run_getObj_map hb1, asInt, asIntOf, hf, MapKept.run_setObj_map _ hb1, Result.andThen]
  ·have hpush : (es.push ⟨enc k, z, clock⟩).toList.map (fun e => (e.key, e.val)) = (m ++ [(k, z)]).map (fun p => (enc p.1, p.2)) := by rw [Array.toList_push, List.map_append, List.map_append, he]; rfl
   have hlen : es.size = m.length := by have := congrArg List.length he; simpa using this
   rw [h4, xe_ (k := k) (v := v) hpush _ (fun e he2 => ?_)]
   ·rw [hlen]; simp
   have : e = ⟨enc k, z, clock⟩ := by
    rw [Array.toList_push, List.getElem?_append_right (by simp)] at he2
    simpa using he2.symm
   subst this; exact ⟨rfl, rfl⟩
  exact MapKept.stamped_modify (MapKept.stamped_push hs h2) _ _ (fun _ _ => rfl) (fun _ _ _ => rfl)
 have hj2 : es[j]? = some e0 := by simpa using h2
 obtain ⟨hj, _⟩ := h5 z
 have hjs : j < es.size := (Array.getElem?_eq_some_iff.1 hj2).1
 have hb1 : ({ w with heap := w.heap.setIfInBounds b (.map (es.modify j fun e => { e with key := enc k }) clock) } : World).heap[b]? = some (.map (es.modify j fun e => { e with key := enc k }) clock) := (MapKept.heap_set hb).1
 have hs1 : Stamped (es.modify j fun e => { e with key := enc k }) clock := MapKept.stamped_modify hs _ _ (fun _ _ => rfl) (fun e' _ he' => by rw [hj2] at he'; cases he'; exact h3.symm)
 have hf : (es.modify j fun e => { e with key := enc k }).findIdx? (fun e => (e.born : Int) == (e0.born : Int)) = some j := by
  rw [qi_, List.findIdx?_eq_some_iff_getElem]; have hn := hst.2.1
  have g : ∀ i (hi : i < es.toList.length), ((es.modify j fun e => { e with key := enc k }).toList[i]'(by simpa using hi)).born = es.toList[i].born := by
   intro i hi; simp only [Array.toList_modify, List.getElem_modify]
   split <;> rfl
  refine ⟨by simpa using hjs, by rw [g j (by simpa using hjs)]; simp [(Array.getElem?_eq_some_iff.1 hj2).2], fun i hi => ?_⟩; have hi' : i < es.toList.length := by simp; omega
  rw [g i hi']; intro hc; have h6 : es.toList[i].born = e0.born := by have := beq_iff_eq.1 hc; omega
  have h7 : es.toList[j]'(by simpa using hjs) = e0 := by simp [(Array.getElem?_eq_some_iff.1 hj2).2]
  have h8 : (es.toList.map (·.born))[i]'(by simpa using hi') = (es.toList.map (·.born))[j]'(by simpa using hjs) := by simp only [List.getElem_map, h6, h7]
  have := (List.getElem_inj hn).1 h8; omega
 refine ⟨{ w with heap := w.heap.setIfInBounds b (.map (es.modify j fun e => { e with key := enc k }) clock) }, (e0.born : Int), ?_, uf_ w hb, by simp, ⟨mput m k e0.val, ⟨es.modify j fun e => { e with key := enc k }, clock, hb1, by obtain ⟨_, h6⟩ := h5 e0.val; rw [h6]; exact xe_ he _ (fun e he2 => by rw [h2] at he2; cases he2; exact ⟨rfl, rfl⟩), hks' _, hs1⟩, by rw [yc_, h4]; rfl⟩, fun v => ⟨{ w with heap := w.heap.setIfInBounds b (.map ((es.modify j fun e => { e with key := enc k }).modify j fun e => { e with val := v }) clock) }, ?_, ⟨(es.modify j fun e => { e with key := enc k }).modify j fun e => { e with val := v }, clock, (MapKept.heap_set hb).1, ?_, hks' v, ?_⟩, uf_ w hb, by simp⟩⟩
 ·rw [h4]; simp [Instr.mapEntry, run_underlying ht, MapKept.run_getObj_map hb, K.check w false hl, h1, hj2, h3, K.stays w hl, MapKept.run_setObj_map _ hb, Result.andThen, goInt]
 ·simp only [Instr.entryStore]
  simp [MapKept.run_getObj_map hb1, asInt, asIntOf, hf, MapKept.run_setObj_map _ hb1, Result.andThen]
 ·obtain ⟨_, h6⟩ := h5 v
  have h7 := xe_ (k := k) (v := e0.val) he (fun e => { e with key := enc k }) (j := j) (fun e he2 => by rw [h2] at he2; cases he2; exact ⟨rfl, rfl⟩); rw [h6, xe_ (k := k) (v := v) h7 _ (fun e he2 => ?_)]
  ·simp
  rw [Array.toList_modify, List.getElem?_modify, h2] at he2; simp at he2; subst he2; exact ⟨rfl, rfl⟩
 exact MapKept.stamped_modify hs1 _ _ (fun _ _ => rfl) (fun _ _ _ => rfl)
variable {ops : Array Oper} {rest : List Oper} {o : Oper} {a : Act} {Q : Exit → Act → World → Prop}
theorem dd_ (hg : o.guard = none) (mO x : Operand) (t e : TypeId) (hop : o.op = Op.lookup t mO x false) (K : Keyed P kt) (hinj : ∀ x y, enc x = enc y → x = y) (ht : P.underlying t = some (.map kt e)) {z : Value} (hz : ∀ w, (zeroValue e).run P w = .ok z w)
  (hm : a.eval mO = .map (some b)) (h : MapOf P kt enc w b m) (k : κ) (hx : a.eval x = enc k) (hk : ∃ l, keyOf P kt (enc k) = some l) (v : Value) (hv : (mget m k).getD z = v) (hK : wpList P ops Q rest (a.put o.dst v) w) :
  wpList P ops Q (o :: rest) a w := by
 refine wpList_plain hg fun K' hK' => ?_
 have hrun := h.lookup K hinj ht (hz w) k hk false
 unfold Oper.wp
 simp [execOp, hop, hm, hx, hrun, Result.andThen]
 exact hK' _ _ (by rw [hv]; exact hK)
theorem bg_ (hg : o.guard = none) (mO x v : Operand) (t e : TypeId) (hop : o.op = Op.mapUpdate t mO x v) (K : Keyed P kt) (hinj : ∀ x y, enc x = enc y → x = y) (ht : P.underlying t = some (.map kt e))
  (hm : a.eval mO = .map (some b)) (h : MapOf P kt enc w b m) (k : κ) (hx : a.eval x = enc k) (hk : ∃ l, keyOf P kt (enc k) = some l) (val : Value) (hv : a.eval v = val)
  (hK : ∀ w', MapOf P kt enc w' b (mput m k val) → w.grownBy w' (some b) → w'.heap.size = w.heap.size → wpList P ops Q rest (a.put o.dst undef) w') :
  wpList P ops Q (o :: rest) a w := by
 refine wpList_plain hg fun K' hK' => ?_
 obtain ⟨w', hrun, r1, r2, r3⟩ := h.update K hinj ht k hk val
 unfold Oper.wp
 simp [execOp, hop, hm, hx, hv, hrun, Result.andThen]
 exact hK' _ _ (hK w' r1 r2 r3)
end
end Go.Proofs.YtiocgaekoeekgaaGreat.P
end
section
namespace Go.Proofs
open Go.Shelf
def Tryz.keysA_ren : Go.Shelf.Ren := ⟨fun | 7 => 141 | 10 => 157 | n => n, fun | 23 => 181 | 26 => 3 | 3 => 3 | 28 => 184 | 0 => 0 | 27 => 183 | 33 => 142 | 4 => 4 | n => n, fun | n => n⟩
theorem Tryz.keysA : Go.Proofs.SlLaysZI.n7 Tryz.prog Tryz.keysA_ren := {
 mixed := by kernel_rfl
 f7 := ⟨Tryz.f141.name, by decide, Tryz.func141.trans (congrArg some (by kernel_rfl))⟩
 f10 := ⟨Tryz.f157.name, by decide, Tryz.func157.trans (congrArg some (by kernel_rfl))⟩
 t0 := Tryz.underlying0
 a0 := Tryz.isAgg0
 z0 := Tryz.sizeOf0
 v0 := Tryz.zeroValue0
 t4 := Tryz.underlying4
 a4 := Tryz.isAgg4
 z4 := Tryz.sizeOf4
 v4 := Tryz.zeroValue4
 t23 := Tryz.underlying181
 a23 := Tryz.isAgg181
 z23 := Tryz.sizeOf181
 v23 := Tryz.zeroValue181
 t26 := Tryz.underlying3
 a26 := Tryz.isAgg3
 z26 := Tryz.sizeOf3
 v26 := Tryz.zeroValue3
 t27 := Tryz.underlying183
 a27 := Tryz.isAgg183
 z27 := Tryz.sizeOf183
 v27 := Tryz.zeroValue183
 t28 := Tryz.underlying184
 a28 := Tryz.isAgg184
 z28 := Tryz.sizeOf184
 v28 := Tryz.zeroValue184
 t33 := Tryz.underlying142
 a33 := Tryz.isAgg142
 z33 := Tryz.sizeOf142
 v33 := Tryz.zeroValue142 }
def Tryz.sortedA_ren : Go.Shelf.Ren := ⟨fun | 6 => 140 | 8 => 155 | 9 => 156 | 11 => 159 | 13 => 161 | 12 => 160 | 23 => 171 | 24 => 172 | 14 => 162 | 15 => 163 | 16 => 164 | 17 => 165 | 18 => 166 | 19 => 167 | 20 => 168 | 21 => 169 | 22 => 170 | 25 => 173 | 26 => 174 | 27 => 175 | 28 => 176 | 29 => 177 | 30 => 178 | 31 => 179 | n => n, fun | 26 => 3 | 28 => 184 | 24 => 35 | 0 => 0 | 3 => 3 | 37 => 150 | 48 => 188 | 50 => 209 | 4 => 4 | 40 => 202 | 39 => 201 | 45 => 195 | 5 => 5 | 9 => 9 | 51 => 210 | 55 => 214 | 57 => 216 | 58 => 160 | 33 => 142 | n => n, fun | n => n⟩
theorem Tryz.sortedA : Go.Proofs.SlLaysZI.n6 Tryz.prog Tryz.sortedA_ren := {
 mixed := by kernel_rfl
 f6 := ⟨Tryz.f140.name, by decide, Tryz.func140.trans (congrArg some (by kernel_rfl))⟩
 f8 := ⟨Tryz.f155.name, by decide, Tryz.func155.trans (congrArg some (by kernel_rfl))⟩
 f11 := ⟨Tryz.f159.name, by decide, Tryz.func159.trans (congrArg some (by kernel_rfl))⟩
 t0 := Tryz.underlying0
 a0 := Tryz.isAgg0
 z0 := Tryz.sizeOf0
 v0 := Tryz.zeroValue0
 t24 := Tryz.underlying35
 a24 := Tryz.isAgg35
 z24 := Tryz.sizeOf35
 v24 := Tryz.zeroValue35
 t26 := Tryz.underlying3
 a26 := Tryz.isAgg3
 z26 := Tryz.sizeOf3
 v26 := Tryz.zeroValue3
 t28 := Tryz.underlying184
 a28 := Tryz.isAgg184
 z28 := Tryz.sizeOf184
 v28 := Tryz.zeroValue184
 i26 := by kernel_rfl }
def Tryz.sortA_ren : Go.Shelf.Ren := ⟨fun | 5 => 156 | 8 => 161 | 7 => 160 | 19 => 171 | 20 => 172 | 10 => 162 | 11 => 163 | 12 => 164 | 13 => 165 | 14 => 166 | 15 => 167 | 16 => 168 | 17 => 169 | 18 => 170 | 30 => 173 | 31 => 174 | 32 => 175 | 33 => 176 | 34 => 177 | 35 => 178 | 40 => 179 | n => n, fun | 23 => 35 | 25 => 3 | 3 => 3 | 32 => 150 | 22 => 35 | 0 => 0 | 44 => 188 | 46 => 209 | 4 => 4 | 36 => 202 | 35 => 201 | 41 => 195 | 5 => 5 | 9 => 9 | 53 => 210 | 57 => 214 | 63 => 216 | 64 => 160 | n => n, fun | n => n⟩
theorem Tryz.sortA : Go.Proofs.SlLaysM.n5 Tryz.prog Tryz.sortA_ren := {
 mixed := by kernel_rfl
 f5 := ⟨Tryz.f156.name, by decide, Tryz.func156.trans (congrArg some (by kernel_rfl))⟩
 f7 := ⟨Tryz.f160.name, by decide, Tryz.func160.trans (congrArg some (by kernel_rfl))⟩
 f8 := Tryz.func161.trans (congrArg some (by kernel_rfl))
 f10 := ⟨Tryz.f162.name, by decide, Tryz.func162.trans (congrArg some (by kernel_rfl))⟩
 f11 := ⟨Tryz.f163.name, by decide, Tryz.func163.trans (congrArg some (by kernel_rfl))⟩
 f12 := ⟨Tryz.f164.name, by decide, Tryz.func164.trans (congrArg some (by kernel_rfl))⟩
 f13 := ⟨Tryz.f165.name, by decide, Tryz.func165.trans (congrArg some (by kernel_rfl))⟩
 f14 := ⟨Tryz.f166.name, by decide, Tryz.func166.trans (congrArg some (by kernel_rfl))⟩
 f15 := ⟨Tryz.f167.name, by decide, Tryz.func167.trans (congrArg some (by kernel_rfl))⟩
 f16 := ⟨Tryz.f168.name, by decide, Tryz.func168.trans (congrArg some (by kernel_rfl))⟩
 f17 := ⟨Tryz.f169.name, by decide, Tryz.func169.trans (congrArg some (by kernel_rfl))⟩
 f18 := ⟨Tryz.f170.name, by decide, Tryz.func170.trans (congrArg some (by kernel_rfl))⟩
 f19 := Tryz.func171.trans (congrArg some (by kernel_rfl))
 f20 := Tryz.func172.trans (congrArg some (by kernel_rfl))
 f30 := ⟨Tryz.f173.name, by decide, Tryz.func173.trans (congrArg some (by kernel_rfl))⟩
 f31 := Tryz.func174.trans (congrArg some (by kernel_rfl))
 f32 := Tryz.func175.trans (congrArg some (by kernel_rfl))
 f33 := ⟨Tryz.f176.name, by decide, Tryz.func176.trans (congrArg some (by kernel_rfl))⟩
 f34 := ⟨Tryz.f177.name, by decide, Tryz.func177.trans (congrArg some (by kernel_rfl))⟩
 f35 := ⟨Tryz.f178.name, by decide, Tryz.func178.trans (congrArg some (by kernel_rfl))⟩
 f40 := ⟨Tryz.f179.name, by decide, Tryz.func179.trans (congrArg some (by kernel_rfl))⟩
 t0 := Tryz.underlying0
 a0 := Tryz.isAgg0
 z0 := Tryz.sizeOf0
 v0 := Tryz.zeroValue0
 t3 := Tryz.underlying3
 a3 := Tryz.isAgg3
 z3 := Tryz.sizeOf3
 v3 := Tryz.zeroValue3
 t4 := Tryz.underlying4
 a4 := Tryz.isAgg4
 z4 := Tryz.sizeOf4
 v4 := Tryz.zeroValue4
 t5 := Tryz.underlying5
 a5 := Tryz.isAgg5
 z5 := Tryz.sizeOf5
 v5 := Tryz.zeroValue5
 t9 := Tryz.underlying9
 a9 := Tryz.isAgg9
 z9 := Tryz.sizeOf9
 v9 := Tryz.zeroValue9
 t22 := Tryz.underlying35
 a22 := Tryz.isAgg35
 z22 := Tryz.sizeOf35
 v22 := Tryz.zeroValue35
 t23 := Tryz.underlying35
 a23 := Tryz.isAgg35
 z23 := Tryz.sizeOf35
 v23 := Tryz.zeroValue35
 t25 := Tryz.underlying3
 a25 := Tryz.isAgg3
 z25 := Tryz.sizeOf3
 v25 := Tryz.zeroValue3
 t32 := Tryz.underlying150
 a32 := Tryz.isAgg150
 z32 := Tryz.sizeOf150
 v32 := Tryz.zeroValue150
 t35 := Tryz.underlying201
 a35 := Tryz.isAgg201
 z35 := Tryz.sizeOf201
 v35 := Tryz.zeroValue201
 t36 := Tryz.underlying202
 a36 := Tryz.isAgg202
 z36 := Tryz.sizeOf202
 v36 := Tryz.zeroValue202
 t41 := Tryz.underlying195
 a41 := Tryz.isAgg195
 z41 := Tryz.sizeOf195
 v41 := Tryz.zeroValue195
 t44 := Tryz.underlying188
 a44 := Tryz.isAgg188
 z44 := Tryz.sizeOf188
 v44 := Tryz.zeroValue188
 t46 := Tryz.underlying209
 a46 := Tryz.isAgg209
 z46 := Tryz.sizeOf209
 v46 := Tryz.zeroValue209
 t53 := Tryz.underlying210
 a53 := Tryz.isAgg210
 z53 := Tryz.sizeOf210
 v53 := Tryz.zeroValue210
 t57 := Tryz.underlying214
 a57 := Tryz.isAgg214
 z57 := Tryz.sizeOf214
 v57 := Tryz.zeroValue214
 t63 := Tryz.underlying216
 a63 := Tryz.isAgg216
 z63 := Tryz.sizeOf216
 v63 := Tryz.zeroValue216
 t64 := Tryz.underlying160
 a64 := Tryz.isAgg160
 z64 := Tryz.sizeOf160
 v64 := Tryz.zeroValue160 }
end Go.Proofs
end
section
namespace Go.Proofs.YtiocgaekoeekgaaGreat.P
open Go.RowKit YtiocgaekoeekgaaGreatW.PrintWords YtiocgaekoeekgaaGreatW.PrintLast YtiocgaekoeekgaaGreatW.PrintMore
attribute [local go_sem] vb_ tb_ jc_ ic_ lb_ kb_ ub_ sb_   
set_option linter.unusedVariables false
set_option linter.unusedSimpArgs false
open Go.Maps (Keyed)
open Go.WideElems (Fit rd rg rg_of)
def hi_ (l : List Int) : List Int := l.mergeSort leI
theorem ks_ (b : Nat) (W : World) : Calls Tryz.prog 141 #[.map (some b)] W fun e w' => e = .returned (.func (.func 157) #[] #[.pointer (some ⟨W.heap.size, 0, none⟩)]) ∧ w' = W.alloc (.cells #[.map (some b)] 181) :=
 (callsIn_wide (n := 5)).1 (AnyZI.keys_in Tryz.keysA Fence.wide 5 trivial rfl (some b) W)
theorem sortsA (m : Nat) : AnyZI.SortsIn Tryz.prog Tryz.sortedA_ren Fence.wide m :=
 ⟨fun blk off cap ss W hH hblk hsz => callsIn_wide.2 (AnyM.slices_Sort_int Tryz.sortA blk off cap ss W hH hblk hsz),
  fun p cap W => callsIn_wide.2 (AnyM.slices_Sort_int_none Tryz.sortA p cap W)⟩
theorem rr_ {P : Program} {kt : TypeId} {w : World} {b : Nat} {m : List (Int × Value)} (hkt : P.underlying kt = some (.int .i64)) (h : MapOf P kt (Value.int .i64) w b m) (hlen : m.length ≤ maxLen) :
  ∃ D0 : DataW Unit, w.ownsMap P kt (fun _ => some (DataW.nil, [])) b m.length D0 ∧ (Go.intKeys D0).Perm (m.map (·.1)) ∧ Maps.size D0 = m.length := by
 obtain ⟨es, clock, hb, he, hk, hs⟩ := h
 have hl : es.size = m.length := by have := congrArg List.length he; simpa using this
 have hkey : ∀ x ∈ es.toList, ∃ a, x.key = .int .i64 a ∧ keyOf P kt x.key = some (.int .i64 a) := by
  intro x hx; have : (x.key, x.val) ∈ m.map (fun p => (Value.int .i64 p.1, p.2)) := by rw [← he]; exact List.mem_map.2 ⟨x, hx, rfl⟩
  obtain ⟨p, hp, hpe⟩ := List.mem_map.1 this; obtain ⟨l, hl⟩ := hk p hp; obtain ⟨a, ha, rfl, _⟩ := Maps.keyOf_i64 hkt hl; have h1 := (Prod.mk.inj hpe).1; exact ⟨p.1, h1.symm, by rw [← h1, hl, Go.encZ_inj ha]⟩
 have hrd : ∀ x ∈ es.toList, ∃ y, rd P kt (fun _ => some ((DataW.nil : DataW Unit), [])) x = some y := by
  intro x hx; obtain ⟨a, _, h2⟩ := hkey x hx; exact ⟨_, Go.WideElems.rd_mk h2 rfl⟩
 refine ⟨.map ((es.toList.map (rg P kt (fun _ => some (DataW.nil, [])))).foldr DataW.insert []), ⟨es, clock, hb, ⟨by omega, hs, hrd⟩, by omega, rfl⟩, ?_, ?_⟩
 ·have hp := Go.WideShapes.sorted_perm (es.toList.map (rg P kt (fun _ => some ((DataW.nil : DataW Unit), []))))
  refine ((hp.map fun p => Go.intOf p.1)).trans (.of_eq ?_); rw [List.map_map]
  have h2 : m.map (·.1) = es.toList.map (fun x => match x.key with | .int _ a => a | _ => 0) := by
   have := congrArg (List.map (fun q : Value × Value => match q.1 with | .int _ a => a | _ => 0)) he; rw [List.map_map, List.map_map] at this; exact (this.trans (by rfl)).symm
  rw [h2]; refine List.map_congr_left fun x hx => ?_
  obtain ⟨a, h3, h4⟩ := hkey x hx; show Go.intOf (rg P kt _ x).1 = _; rw [rg_of (Go.WideElems.rd_mk h4 rfl), h3]; rfl
 show ((es.toList.map (rg P kt (fun _ => some ((DataW.nil : DataW Unit), [])))).foldr DataW.insert []).length = m.length
 rw [length_sorted]
 simpa using hl
theorem ko_ (b : Nat) (m : List (Int × Value)) (w : World) (h : MapOf Tryz.prog 3 (Value.int .i64) w b m) (hlen : m.length * 8 ≤ 140737488355328) :
  Calls Tryz.prog 140 #[.func (.func 157) #[] #[.pointer (some ⟨w.heap.size, 0, none⟩)]] (w.alloc (.cells #[.map (some b)] 181)) fun e w' =>
   ∃ v : Value, e = .returned v ∧ Kd.R (Kd.int .i64) 3 w' w.heap.size (fun _ => True) v (hi_ (m.map (·.1))) ∧ Below w.heap.size w w' := by
 obtain ⟨D0, hown, hperm, hsize⟩ := rr_ Tryz.underlying3 h (by unfold maxLen; omega)
 have hbl := hown.lt
 have hseq : SeqGives Fence.wide 2 Tryz.prog 157 #[.pointer (some ⟨w.heap.size, 0, none⟩)] encZ (fun ss => ss.Perm (intKeys D0)) (Maps.size D0) (w.alloc (.cells #[.map (some b)] 181)) :=
  AnyZI.keys_gives (ρ := Tryz.keysA_ren) { Tryz.keysA with } Fence.wide _ trivial rfl (by omega) w.heap.size b m.length D0 _ (by simp) (by simp) (by
   obtain ⟨es, clock, hb, Ft, hs, hD⟩ := hown
   exact ⟨es, clock, (Below.heap_alloc _ _ b hbl).trans hb, Ft, hs, hD⟩)
 have cS := AnyZI.sorted_in Tryz.sortedA Fence.wide 5 trivial trivial trivial trivial rfl (by omega) (sortsA _) (enters_of Tryz.func156 (by kernel_rfl) rfl) 157 #[.pointer (some ⟨w.heap.size, 0, none⟩)] trivial (enters_of Tryz.func157 (by kernel_rfl) rfl) _ _ (by rw [hsize]; unfold maxLen; omega) (by rw [hsize]; exact hlen) _ hseq
 change CallsIn _ _ Tryz.prog 140 _ _ _ at cS
 refine ((callsIn_wide (n := 5)).1 cS).mono ?_
 rintro e w' ⟨v, ss, rfl, hS, hrow, hnil, hb⟩
 have e1 : ss.mergeSort leI = hi_ (m.map (·.1)) := mergeSort_of_perm_i (hS.trans hperm)
 refine ⟨v, rfl, ?_, (aa_ (Below.refl _ w) _).trans (hb.mono (by simp))⟩
 have h3 : (hi_ (m.map (·.1))).length = ss.length := by rw [← e1]; exact List.length_mergeSort ss
 have hr2 : w'.ownsRow (w.alloc (.cells #[.map (some b)] 181)).heap.size 3 1 v (hi_ (m.map (·.1))).length ((hi_ (m.map (·.1))).map (Value.int .i64)) := by
  rw [h3, ← e1]; exact hrow
 have h4 : Kd.R (Kd.int .i64) 3 w' (w.alloc (.cells #[.map (some b)] 181)).heap.size (fun _ => True) v (hi_ (m.map (·.1))) := Kd.R_of_own hr2 (fun _ _ => trivial)
 exact Kd.R_lower h4 (by simp)
end Go.Proofs.YtiocgaekoeekgaaGreat.P
end
section
namespace Go.Proofs.YtiocgaekoeekgaaGreat.P
open Go.RowKit YtiocgaekoeekgaaGreatW.PrintWords YtiocgaekoeekgaaGreatW.PrintLast YtiocgaekoeekgaaGreatW.PrintMore
attribute [local go_sem] vb_ tb_ jc_ ic_ lb_ kb_ ub_ sb_   
set_option linter.unusedVariables false
set_option linter.unusedSimpArgs false
def slices_Clone_int_int.f (l0 : List Int) : Option (List Int) := if l0.length < 17592186044416 then some l0 else none
theorem slices_Clone_int_int.calls (A0 : Option Addr) (c0 : Nat) (l0 : List Int) (r : List Int) (w : World) (hr0 : Kd.C (Kd.int .i64) w A0 l0.length l0) (hc0 : l0.length ≤ c0) (h : slices_Clone_int_int.f l0 = some r) :
  Calls Tryz.prog 112 #[.slice A0 l0.length c0] w fun e w' => ∃ v0_ : Value, e = .returned (v0_) ∧ Kd.R (Kd.int .i64) 3 w' w.heap.size (fun _ => True) v0_ r ∧ Below w.heap.size w w' := by
 unfold slices_Clone_int_int.f at h
 split at h
 case isFalse => cases h
 case isTrue hl =>
 obtain rfl := Option.some.inj h
 clear h
 have q22 : ∀ (w : World) (a : Option Addr) (n c n' c' : Nat), (binOp .eql 35 (.slice a n c) (.slice none n' c')).run Tryz.prog w = .ok (.bool a.isNone) w := fun w a n c n' c' => Lib.run_eql_slice_nil w _ _ a n c n' c' Tryz.underlying35
 have HR := aM_ hr0
 have HL := aM_ hl
 clear hr0 hl
 cases A0 with
 | none =>
  have h0 : l0 = [] := by
   cases l0 with
   | nil => rfl
   | cons x l => obtain ⟨ad, e, _⟩ := HR.out.2.2 (by simp); cases e
  subst h0
  go_enter Tryz.func112, Tryz.ntmps112
  go_wp2
  go_ret
  exact ⟨_, rfl, Kd.R_nil _ _ _ _ _, Below.refl _ _⟩
 | some ad =>
  go_enter Tryz.func112, Tryz.ntmps112
  go_wp2_with (at_builtin; go_loud (refine Kd.R_append_row (Value.int .i64) 0 (h1 := fun _ => rfl) (w0 := w) w.heap.size rfl (.tmp 5) (.tmp 6) 35 3 (.int .i64 0) 8 rfl Tryz.underlying35 qh_ rfl (by decide) (.slice (some ⟨w.heap.size, 0, none⟩) 0 0) [] l0 (some ad) l0.length c0 (fun _ => True) rfl rfl (fun _ _ => trivial) ?hO ?hR ?hB ?hb ?hl ?_); (case hO => go_loud (exact Kd.R_of_own (World.ownsRow_made w #[] 0 (Nat.le_refl _) (Nat.zero_le _) rfl) (fun _ _ => trivial))); (case hR => go_loud (exact Kd.C_alloc HR.out _)); (case hB => exact aa_ (Below.refl _ _) _); (case hb => go_loud (simp)); (case hl => go_loud (have := HL.out; simp; omega)); intro v1 w1 ho hb hg hat)
  have ho' : Kd.R (Kd.int .i64) 3 w1 w.heap.size (fun _ => True) v1 l0 := ho; have HO := aM_ ho'; have HB := aM_ hb; clear ho ho' hb hg hat
  go_wp2
  go_ret
  exact ⟨_, rfl, HO.out, HB.out⟩
end Go.Proofs.YtiocgaekoeekgaaGreat.P
end
section
namespace Go.Proofs.YtiocgaekoeekgaaGreat.P
open Go.RowKit YtiocgaekoeekgaaGreatW.PrintWords YtiocgaekoeekgaaGreatW.PrintLast YtiocgaekoeekgaaGreatW.PrintMore
attribute [local go_sem] vb_ tb_ jc_ ic_ lb_ kb_ ub_ sb_   
set_option linter.unusedVariables false
set_option linter.unusedSimpArgs false
open Go.Maps (Keyed)
def zj_ (P : Program) (w : World) (dom : Int → Prop) (fv : Value) (next : Int → List Int) : Prop :=
 ∃ (g : Nat) (pre lb : Array Value), fv = .func (.func g) pre lb ∧ (∀ args w, (callFunc g args).run P w = .ok (.enter g args) w) ∧
  ∀ W x, Below w.heap.size w W → dom x → Calls P g (pre ++ #[.int .i64 x] ++ lb) W fun e w' => ∃ (A : Option Addr) (c : Nat), e = .returned (.slice A (next x).length c) ∧ (next x).length ≤ c ∧ Kd.C (Kd.int .i64) w' A (next x).length (next x) ∧ Below W.heap.size W w'
def sg_ (next : Int → List Int) : Nat → List (Int × Int) → List Int → Option (List (Int × Int))
 | 0, _, _ => none
 | k + 1, m, q => match q with
  | [] => if m.length * 8 ≤ 140737488355328 then some m else none
  | x :: q => if (x :: q).length ≤ 1000000000 ∧ (next x).length ≤ 1000000000 ∧ 0 ≤ (mget m x).getD 0 ∧ (mget m x).getD 0 ≤ 1000000000000 then
    (if (mget m x).getD 0 = 0 then sg_ next k (mput m x ((mget m x).getD 0 + 1)) (q ++ next x) else sg_ next k (mput m x ((mget m x).getD 0 + 1)) q) else none
abbrev encI (m : List (Int × Int)) : List (Int × Value) := m.map fun p => (p.1, Value.int .i64 p.2)
theorem rg_ : Keyed Tryz.prog 3 := Go.Maps.int_keyed Tryz.underlying3
theorem bi_ : ∀ x y : Int, Value.int .i64 x = Value.int .i64 y → x = y := fun x y h => by simpa using h
theorem mf_ (w : World) : (zeroValue 3).run Tryz.prog w = .ok (.int .i64 0) w := by kernel_rfl
theorem bo_ (m : List (Int × Int)) (x : Int) : (mget (encI m) x).getD (.int .i64 0) = .int .i64 ((mget m x).getD 0) := by
 rw [zl_]; cases mget m x <;> rfl
theorem fit_i64 {x : Int} (h : -9223372036854775808 ≤ x ∧ x ≤ 9223372036854775807) : ∃ l, keyOf Tryz.prog 3 (.int .i64 x) = some l := ⟨_, Go.Maps.keyOf_int_mk Tryz.underlying3 (WalkArith.wf_i64 (by omega))⟩
theorem dv_ (fv : Value) (next : Int → List Int) (dom : Int → Prop) (hdom : ∀ x, dom x → (-9223372036854775808 ≤ x ∧ x ≤ 9223372036854775807) ∧ ∀ y ∈ next x, dom y) (k : Nat) (A0 : Option Addr) (c0 : Nat) (l0 : List Int) (r : List (Int × Int)) (w : World)
  (hf : zj_ Tryz.prog w dom fv next) (hl0 : ∀ x ∈ l0, dom x) (hr0 : Kd.C (Kd.int .i64) w A0 l0.length l0) (hc0 : l0.length ≤ c0) (h : sg_ next k [] l0 = some r) :
  Calls Tryz.prog 100 #[.slice A0 l0.length c0, fv] w fun e w' => ∃ v0_ : Value, e = .returned (v0_) ∧ Kd.R (Kd.int .i64) 3 w' w.heap.size (fun _ => True) v0_ (hi_ (r.map (·.1))) ∧ Below w.heap.size w w' := by
 obtain ⟨g, pre, lb, rfl, eg, hq⟩ := hf
 have HQ := aM_ hq
 have HR := aM_ hr0
 have HC := aM_ hc0
 have HD := aM_ hdom
 have HL := aM_ hl0
 have H := aM_ h
 have hmm := @run_makeMap Tryz.prog
 clear hq hr0 hc0 hdom hl0 h
 go_enter Tryz.func100, Tryz.ntmps100
 go_wp2
 go_loopg [0] k (fun kq v0 wr => ∃ (q : List Int) (m : List (Int × Int)) (A : Option Addr) (c : Nat), v0 = .slice A q.length c ∧ Az (sg_ next kq m q = some r) ∧ Az (kq ≤ k) ∧ Az (q.length ≤ c) ∧ Az (Kd.C (Kd.int .i64) wr A q.length q) ∧ Az (∀ x ∈ q, dom x) ∧
  Az (MapOf Tryz.prog 3 (Value.int .i64) wr w.heap.size (encI m)) ∧ Az (Below w.heap.size w wr) ∧ Az (w.heap.size < wr.heap.size))
 case atStart => exact ⟨l0, [], A0, c0, rfl, H, ⟨Nat.le_refl _⟩, HC, ⟨Kd.C_below HR.out (aa_ (Below.refl _ _) _)⟩, HL, ⟨MapOf.made _ _ _ _⟩, ⟨aa_ (Below.refl _ _) _⟩, ⟨by simp⟩⟩
 clear H HR HC HL
 obtain ⟨q, m, A, c, rfl, HF, HK, HC, HR, HL, HM, HB, HS⟩ := hrel
 cases gk with
 | zero => exact absurd HF.out (by simp [sg_])
 | succ k1 =>
  cases q with
  | nil =>
   have h2 := HF.out; simp only [sg_] at h2
   split at h2
   case isFalse => cases h2
   case isTrue hlen =>
   obtain rfl := Option.some.inj h2; clear h2; have HN := aM_ hlen; clear hlen; have hlt : ¬ (0 : Int) < (([] : List Int).length : Int) := by simp
   go_wp2_with fail
   refine (ks_ _ _).mono ?_; rintro e w' ⟨rfl, rfl⟩
   go_wp2_with fail
   refine (ko_ w.heap.size (encI m) _ HM.out (by rw [List.length_map]; exact HN.out)).mono ?_; rintro e w' ⟨v, rfl, hR, hb⟩; have hR2 := aM_ hR; have hb2 := aM_ hb; clear hR hb
   go_wp2
   go_ret
   have h3 := hR2.out; rw [map_vals] at h3
   exact ⟨v, rfl, Kd.R_lower h3 HB.out.size, fa_ HB.out hb2.out⟩
  | cons x q =>
   have h2 := HF.out; simp only [sg_] at h2
   split at h2
   case isFalse => cases h2
   case isTrue hb =>
   obtain ⟨b1, b2, b3, b4⟩ := hb; have hdx := HL.out x List.mem_cons_self; obtain ⟨hx, hnx⟩ := HD.out x hdx; have hkey := fit_i64 hx; have HX := aM_ hx; have HNX := aM_ hnx; have HDX := aM_ hdx; have B1 := aM_ b1; have B2 := aM_ b2; have H3 := aM_ h2; obtain ⟨ad, hA, hcell⟩ := Kd.at_int HR.out 0 (by omega) (by simp); have hcell' : wr.cell? ad = some (.int .i64 x) := hcell; subst hA; obtain ⟨i0, hi, hz0, hz1, hz2⟩ := info_parts qh_; obtain ⟨A', hrun, hread, hcap⟩ := gg_ (P := Tryz.prog) (Value.int .i64) (0 : Int) 35 3 .i64 Tryz.underlying35 hi hz1 (some ad) c (x :: q) 1 (by omega) (by simp; omega) HC.out; have hread2 : Kd.C (Kd.int .i64) wr A' q.length q := Kd.C_of_reads (hread wr (Kd.reads_of_C (d := (0 : Int)) HR.out)); have hrun2 : ∀ W : World, (Instr.slice 35 (.slice (some ad) (x :: q).length c) (some (.int .i64 1)) none none).run Tryz.prog W = .ok (.slice A' q.length (c - 1)) W := hrun; have hlt : (0 : Int) < ((x :: q).length : Int) := by simp
   have HR2 := aM_ hread2; have HC2 : Az (q.length ≤ c - 1) := ⟨hcap⟩; clear hcell hrun hread hcap hread2 hx hnx hdx b1 b2 h2 hi hz0 hz1 hz2; have HB1 : (x :: q).length ≤ 1000000000 := B1.out; generalize hn : (x :: q).length = n at hrun2 hlt HB1
   try rw [hn]
   have HN := aM_ hn; clear hn
   go_wp2_with fail
   refine (slices_Clone_int_int.calls _ _ q q _ HR2.out HC2.out (if_pos (by have := B1.out; simp at this; omega))).mono ?_; rintro e w1 ⟨v1, rfl, hR1, hb1⟩; have HM1 := aM_ (HM.out.below hb1); have HR1 := aM_ (Kd.R_lower (Kd.R_mono (Kd.R_bound hR1) (ok' := fun k => wr.heap.size ≤ k) (fun k hk => hk.2.1)) HB.out.size); have HB1' := aM_ (fa_ HB.out hb1); have HS1 := aM_ (Nat.lt_of_lt_of_le HS.out hb1.size); obtain ⟨A1, c1, rfl⟩ := Kd.R_slice hR1; clear hR1 hb1 hcell' hrun2; have h3 := H3.out; have hget := bo_ m x; have hmp := yl_ (Value.int .i64) x ((mget m x).getD 0 + 1) m; have hgs : (mget (encI (mput m x ((mget m x).getD 0 + 1))) x).getD (.int .i64 0) = .int .i64 ((mget m x).getD 0 + 1) := by rw [bo_, yc_]; rfl
   generalize hv : (mget m x).getD 0 = v at h3 hget hmp hgs b3 b4; have HG := aM_ hget; have HMP := aM_ hmp; have HGS := aM_ hgs; have H3' := aM_ h3; clear hget hmp hgs hv h3 H3
   by_cases hv0 : v = 0
   ·have H4 := aM_ ((if_pos hv0).symm.trans H3'.out)
    subst hv0; clear H3'
    go_wp2_with (first
     | (at_lookup; refine dd_ rfl (.tmp 17) (.tmp 18) 181 3 rfl rg_ bi_ Tryz.underlying181 mf_ rfl HM1.out x rfl hkey (.int .i64 0) HG.out ?_)
     | (at_mapUpdate; refine bg_ rfl (.tmp 17) (.tmp 18) (.tmp 20) 181 3 rfl rg_ bi_ Tryz.underlying181 rfl HM1.out x rfl hkey (.int .i64 (0 + 1)) rfl ?_; intro w2 hm2 hg2 hz2; rw [HMP.out] at hm2; have HM2 := aM_ hm2; have HR2' := aM_ (Kd.R_grown HR1.out hg2 (fun k hk e => by have := HS.out; have e2 := Option.some.inj e; omega)); have HB2 := aM_ (HB1'.out.grown hg2 HB1'.out.size (fun j e => by have e2 := Option.some.inj e; omega)); have HS2 : Az (w.heap.size < w2.heap.size) := ⟨by rw [hz2]; exact HS1.out⟩; clear hm2 hg2 hz2 HR1 HM1 HB1' HS1)
     | (at_lookup; refine dd_ rfl (.tmp 21) (.tmp 22) 181 3 rfl rg_ bi_ Tryz.underlying181 mf_ rfl HM2.out x rfl hkey (.int .i64 (0 + 1)) HGS.out ?_)
     | fail)
    refine (HQ.out _ x HB2.out HDX.out).mono ?_; rintro e w3 ⟨A3, c3, rfl, hc3, hr3, hb3⟩; have HR3 := aM_ hr3; have HC3 := aM_ hc3; have HM3 := aM_ (HM2.out.below hb3); have HR2'' := aM_ (Kd.R_mono (Kd.R_below HR2'.out hb3) (ok' := fun k => w.heap.size < k) (fun k hk => Nat.lt_of_lt_of_le HS.out hk)); have HB3 := aM_ (fa_ HB2.out hb3); have HS3 := aM_ (Nat.lt_of_lt_of_le HS2.out hb3.size); clear hr3 hc3 hb3 HM2 HR2' HB2 HS2
    go_wp2_with (at_builtin; refine Kd.R_append_row (Value.int .i64) 0 (h1 := fun _ => rfl) (w0 := w) w.heap.size rfl (.tmp 25) (.tmp 28) 35 3 (.int .i64 0) 8 rfl Tryz.underlying35 qh_ rfl (by decide) (.slice A1 q.length c1) q (next x) A3 (next x).length c3 (fun k => w.heap.size < k) rfl rfl (fun k hk => Nat.lt_of_lt_of_le HS3.out hk) HR2''.out HR3.out HB3.out HB3.out.size (by have h1_ := B1.out; have h2_ := B2.out; simp only [List.length_cons] at h1_; omega) ?_; intro v4 w4 ho4 hb4 hg4 hat4; have HM4 := aM_ (HM3.out.grown hg4 (fun e => by have h_ := HR2''.out.1 w.heap.size e.symm; exact absurd h_ (Nat.lt_irrefl _))); have ho5 : Kd.R (Kd.int .i64) 3 w4 w.heap.size (fun k => w.heap.size < k) v4 (q ++ next x) := ho4; have HR4 := aM_ ho5; have HB4 := aM_ hb4; have HS4 : Az (w.heap.size < w4.heap.size) := ⟨Nat.lt_of_lt_of_le HS3.out hg4.size⟩; obtain ⟨A4, c4, rfl⟩ := Kd.R_slice ho5; clear ho4 ho5 hb4 hg4 hat4 HM3 HR2'' HB3 HS3 HR3 HC3)
    obtain ⟨A5, c5, e5, hle5, hC5⟩ := Kd.R_reads HR4.out; injection e5 with e6 e7 e8; subst e6 e8; have HL5 := aM_ hle5; have HC5 := aM_ hC5; clear hle5 hC5 e7
    go_roundg k1
    case measure => have := HK.out; omega
    case rel =>
     exact ⟨q ++ next x, mput m x (0 + 1), A4, c4, by rw [List.length_append], H4, ⟨by have := HK.out; omega⟩, HL5, HC5, ⟨fun y hy => (List.mem_append.1 hy).elim (fun hy => HL.out y (List.mem_cons_of_mem _ hy)) (fun hy => HNX.out y hy)⟩, HM4, HB4, HS4⟩
   have H4 := aM_ ((if_neg hv0).symm.trans H3'.out); have ht : ¬ (v + 1 = 1) := by omega
   clear H3'
   go_wp2_with (first
    | (at_lookup; refine dd_ rfl (.tmp 17) (.tmp 18) 181 3 rfl rg_ bi_ Tryz.underlying181 mf_ rfl HM1.out x rfl hkey (.int .i64 v) HG.out ?_)
    | (at_mapUpdate; refine bg_ rfl (.tmp 17) (.tmp 18) (.tmp 20) 181 3 rfl rg_ bi_ Tryz.underlying181 rfl HM1.out x rfl hkey (.int .i64 (v + 1)) rfl ?_; intro w2 hm2 hg2 hz2; rw [HMP.out] at hm2; have HM2 := aM_ hm2; have HR2' := aM_ (Kd.R_grown HR1.out hg2 (fun k hk e => by have := HS.out; have e2 := Option.some.inj e; omega)); have HB2 := aM_ (HB1'.out.grown hg2 HB1'.out.size (fun j e => by have e2 := Option.some.inj e; omega)); have HS2 : Az (w.heap.size < w2.heap.size) := ⟨by rw [hz2]; exact HS1.out⟩; clear hm2 hg2 hz2 HR1 HM1 HB1' HS1)
    | (at_lookup; refine dd_ rfl (.tmp 21) (.tmp 22) 181 3 rfl rg_ bi_ Tryz.underlying181 mf_ rfl HM2.out x rfl hkey (.int .i64 (v + 1)) HGS.out ?_))
   obtain ⟨A5, c5, e5, hle5, hC5⟩ := Kd.R_reads HR2'.out; injection e5 with e6 e7 e8; subst e6 e8; have HL5 := aM_ hle5; have HC5 := aM_ hC5; clear hle5 hC5 e7
   go_roundg k1
   case measure => have := HK.out; omega
   case rel =>
    exact ⟨q, mput m x (v + 1), A1, c1, rfl, H4, ⟨by have := HK.out; omega⟩, HL5, HC5, ⟨fun y hy => HL.out y (List.mem_cons_of_mem _ hy)⟩, HM2, HB2, HS2⟩
end Go.Proofs.YtiocgaekoeekgaaGreat.P
end
section
namespace Go.Proofs.YtiocgaekoeekgaaGreat.P
open Go.RowKit YtiocgaekoeekgaaGreatW.PrintWords YtiocgaekoeekgaaGreatW.PrintLast YtiocgaekoeekgaaGreatW.PrintMore
attribute [local go_sem] vb_ tb_ jc_ ic_ lb_ kb_ ub_ sb_   
set_option linter.unusedVariables false
set_option linter.unusedSimpArgs false
theorem gn_ (fv : Value) (A0 : Option Addr) (c0 : Nat) (l0 : List Int) (p : Int → Bool) (w : World) (hr0 : Kd.C (Kd.int .i64) w A0 l0.length l0) (hc0 : l0.length ≤ c0)
  (hf : le_ Tryz.prog w dj_ fv p) :
  Calls Tryz.prog 158 #[.slice A0 l0.length c0, fv] w fun e w' => e = .returned (.int .i64 (xd_ p l0)) ∧ Below w.heap.size w w' := by
 obtain ⟨g, pre, lb, rfl, eg, hq⟩ := hf
 have hl : l0.length ≤ 9223372036854775807 := hr0.2.1
 have HR := aM_ hr0
 clear hr0
 have HQ := aM_ hq
 clear hq
 go_enter Tryz.func158, Tryz.ntmps158
 go_wp2
 go_loopg [8] l0.length (fun gg s8 wr => ∃ kk : Nat, kk ≤ l0.length ∧ l0.length - kk ≤ gg ∧ s8 = .int .i64 kk ∧ Az (Below w.heap.size w wr) ∧ Az (∀ j, j < kk → ∀ h : j < l0.length, p l0[j] = false))
 case atStart => exact ⟨0, Nat.zero_le _, by omega, rfl, ⟨Below.refl _ w⟩, ⟨fun j hj => absurd hj (Nat.not_lt_zero _)⟩⟩
 obtain ⟨kk, hkk, hg, rfl, BW, A⟩ := hrel
 by_cases hlt : kk < l0.length
 ·have hltz : (kk : Int) < (l0.length : Int) := by omega
  obtain ⟨ad, hA, hcell⟩ := Kd.at_int HR.out kk (by omega) hltz; have hcell' : wr.cell? (ad.add kk) = some (.int .i64 (rd l0 kk)) := ha_ BW.out (by simpa using hcell); have hcall := HQ.out wr (rd l0 kk) _ BW.out rfl; subst hA; clear hcell
  cases hp : p (rd l0 kk) with
  | true =>
   rw [hp] at hcall
   go_wp2_with fail
   refine hcall.mono ?_; rintro e w' ⟨rfl, hb'⟩
   go_wp2
   go_ret
   refine ⟨?_, ef_ BW.out BW.out.size hb'⟩; rw [ci_ hlt A.out (by rw [← df_ l0 kk hlt]; exact hp)]
   rfl
  | false =>
   rw [hp] at hcall
   go_wp2_with fail
   refine hcall.mono ?_; rintro e w' ⟨rfl, hb'⟩
   go_wp2
   go_roundg (l0.length - (kk + 1))
   case measure => omega
   case rel =>
    refine ⟨kk + 1, by omega, by omega, by go_num, ⟨ef_ BW.out BW.out.size hb'⟩, ⟨fun j hj hlt => ?_⟩⟩
    by_cases e : j = kk
    ·subst e
     rw [← df_ l0 j hlt]; exact hp
    exact A.out j (by omega) hlt
 have hltz : ¬ (kk : Int) < (l0.length : Int) := by omega
 have : kk = l0.length := by omega
 subst this
 go_wp2
 go_ret
 refine ⟨?_, BW.out⟩
 rw [zi_ A.out]
 rfl
theorem lk_ (fv : Value) (A0 : Option Addr) (c0 : Nat) (l0 : List Int) (p : Int → Bool) (w : World) (hr0 : Kd.C (Kd.int .i64) w A0 l0.length l0) (hc0 : l0.length ≤ c0)
  (hf : le_ Tryz.prog w dj_ fv p) :
  Calls Tryz.prog 153 #[.slice A0 l0.length c0, fv] w fun e w' => e = .returned (.bool (l0.any p)) ∧ Below w.heap.size w w' := by
 have hc := gn_ fv A0 c0 l0 p w hr0 hc0 hf
 rw [← hm_]
 clear hr0 hf
 generalize xd_ p l0 = q at hc
 go_enter Tryz.func153, Tryz.ntmps153
 go_wp2_with fail
 refine hc.mono ?_
 rintro e w' ⟨rfl, hb'⟩
 go_wp2
 go_ret
 exact ⟨rfl, hb'⟩
end Go.Proofs.YtiocgaekoeekgaaGreat.P
end
