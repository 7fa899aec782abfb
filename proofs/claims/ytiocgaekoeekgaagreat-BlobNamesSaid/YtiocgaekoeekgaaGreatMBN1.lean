/- Names are of small letters, digits and dashes, and no two are one: the program and the document tell alike of any two names. Part 1: contracts of the functions that the law reaches, and words for them. -/
import Derived.Test.YtiocgaekoeekgaaGreatProg
import Derived.Below
import Derived.Deep.Draws
import Derived.Deep.AppendLies
import Derived.Maps.AppendAt
import Derived.OwnWalk
import Derived.Laws.BytesArg
import Derived.Laws.MakeOwn
import Derived.Laws.OwnMore
import Derived.Deep.OwnRows
import Derived.Tactics
import Derived.Lib.ConvBytes
import Derived.Laws.Slices
import Derived.WalkKit
import Derived.KernelRfl
import Derived.RowKit3
import Derived.Deep.LoopGhost
import Derived.Deep.QuietTactic
import Derived.BigQuiet
import Derived.WideLaws
import Derived.Deep.DeepCutAuto
import Derived.Deep.CutBlock
import Derived.Deep.RegionHeld3
import Derived.Laws.Rows
import Derived.Lib.AppendStr
import Derived.ArgAppend
import Derived.Laws.IdiomCopy
import Derived.OrdersHeld
import Derived.Laws.BitsLemmas
import Derived.RowKit
import Derived.Shelf.Abstract
import Derived.Shelf.Utf8.AppendRunePlain
import Derived.Ground.NamesProg
import Derived.Lib.OthersKept
import Derived.Laws.RangeAny
import Derived.Laws.RangeString
import Derived.WalkLawsBesides
import Derived.Maps.OwnOps
import Derived.MapKept
import Derived.Shelf.SlIterI.Nil
import Derived.Shelf.SortM.Plain
import Derived.Shelf.SortM.SortNone
import Derived.Ground.GgzProg
import Derived.Ground.SlgmProg
import Derived.Test.YtiocgaekoeekgaaGreatMBN0
section
namespace Go.Proofs.YtiocgaekoeekgaaGreat.P
open Go.RowKit Go.Proofs.YtiocgaekoeekgaaGreatW.PrintWords Go.Proofs.YtiocgaekoeekgaaGreatW.PrintLast Go.Proofs.YtiocgaekoeekgaaGreatW.PrintMore
attribute [local go_sem] max2_int min2_int max_two min_two max_three min_three max_four min_four   
set_option linter.unusedVariables false
set_option linter.unusedSimpArgs false
def errW : Option Int → Value
 | none => .nilIface
 | some c => .iface 0 (.int .i64 c)
theorem errW_none : errW none = .nilIface := rfl
theorem errW_some (c : Int) : errW (some c) = .iface 0 (.int .i64 c) := rfl
theorem info3 : (Tryz.prog.info? 3).map (fun i => (i.zero, i.size, i.bytes)) = some (some (.int .i64 0), 1, 8) := by kernel_rfl
theorem info5 : (Tryz.prog.info? 5).map (fun i => (i.zero, i.size, i.bytes)) = some (some (.int .u8 0), 1, 1) := by kernel_rfl
theorem info44 : (Tryz.prog.info? 44).map (fun i => (i.zero, i.size, i.bytes)) = some (some (.agg #[(.string ⟨#[]⟩), (.int .i64 0), (.int .i64 0), (.slice none 0 0), (.slice none 0 0), (.slice none 0 0)]), 6, 104) := by kernel_rfl
theorem info46 : (Tryz.prog.info? 46).map (fun i => (i.zero, i.size, i.bytes)) = some (some (.agg #[(.string ⟨#[]⟩), (.int .i64 0), (.int .i64 0)]), 3, 32) := by kernel_rfl
theorem info52 : (Tryz.prog.info? 52).map (fun i => (i.zero, i.size, i.bytes)) = some (some (.agg #[(.int .i64 0), (.slice none 0 0)]), 2, 32) := by kernel_rfl
structure S46 where
 f0 : ByteArray
 f1 : Int
 f2 : Int
def z46 : S46 := ⟨(⟨#[]⟩ : ByteArray), (0 : Int), (0 : Int)⟩
def k46 : Kd S46 := Kd.iso (Kd.pair Kd.string (Kd.pair (Kd.int .i64) (Kd.int .i64))) (fun x : S46 => (x.f0, x.f1, x.f2))
theorem k46_open {w : World} {x : S46} {cs : List Value} (h : k46.K w x cs) : cs = [.string x.f0, .int .i64 x.f1, .int .i64 x.f2] := by
 obtain ⟨_, _, rfl, rfl, ⟨_, _, rfl, rfl, rfl⟩⟩ := h
 exact rfl
theorem k46_openM {w : World} {base : Nat} {ok : Nat → Prop} {x : S46} {cs : List Value} (h : k46.M w base ok x cs) : cs = [.string x.f0, .int .i64 x.f1, .int .i64 x.f2] := by
 obtain ⟨_, _, rfl, rfl, ⟨_, _, rfl, rfl, rfl⟩⟩ := h
 exact rfl
theorem k46_mk (w : World) (x : S46)  : k46.K w x [.string x.f0, .int .i64 x.f1, .int .i64 x.f2] := ⟨[.string x.f0], [.int .i64 x.f1, .int .i64 x.f2], rfl, rfl, ⟨[.int .i64 x.f1], [.int .i64 x.f2], rfl, rfl, rfl⟩⟩
theorem k46_mkM (w : World) (base : Nat) (ok : Nat → Prop) (x : S46)  : k46.M w base ok x [.string x.f0, .int .i64 x.f1, .int .i64 x.f2] := ⟨[.string x.f0], [.int .i64 x.f1, .int .i64 x.f2], rfl, rfl, ⟨[.int .i64 x.f1], [.int .i64 x.f2], rfl, rfl, rfl⟩⟩
def rd_T46 (xs : List S46) (i : Int) : S46 := xs.getD i.toNat z46
theorem at_T46 {w : World} {A : Option Addr} {n : Nat} {xs : List S46} (h : Kd.C k46 w A n xs) (i : Int) (h0 : 0 ≤ i) (h1 : i < n) : ∃ ad , A = some ad ∧ w.cell? (ad.add (i.toNat * 3)) = some (.string (rd_T46 xs i).f0) ∧ w.cell? ⟨(ad.add (i.toNat * 3)).block, (ad.add (i.toNat * 3)).off + 1, none⟩ = some (.int .i64 (rd_T46 xs i).f1) ∧ w.cell? ⟨(ad.add (i.toNat * 3)).block, (ad.add (i.toNat * 3)).off + 2, none⟩ = some (.int .i64 (rd_T46 xs i).f2) := by
 obtain ⟨ad, c, e, _, hK, hc0⟩ := Kd.C_get h z46 i h0 h1
 have hc : ∀ j u, c[j]? = some u → w.cell? (ad.add (i.toNat * 3 + j)) = some u := hc0
 obtain rfl := k46_open hK
 exact ⟨ad, e, hc 0 _ rfl, by rw [← add_field _ _ 1 (by omega)]; exact hc 1 _ rfl, by rw [← add_field _ _ 2 (by omega)]; exact hc 2 _ rfl⟩
def rd_L5 (xs : List (List Int)) (i : Int) : (List Int) := xs.getD i.toNat ([] : List Int)
theorem at_L5 {w : World} {A : Option Addr} {n : Nat} {xs : List (List Int)} (h : Kd.C (Kd.slice 3 (Kd.int .i64)) w A n xs) (i : Int) (h0 : 0 ≤ i) (h1 : i < n) : ∃ ad A0 c0, A = some ad ∧ w.cell? (ad.add i.toNat) = some (.slice A0 (rd_L5 xs i).length c0) ∧ (rd_L5 xs i).length ≤ c0 ∧ (Kd.int .i64).C w A0 (rd_L5 xs i).length (rd_L5 xs i) := by
 obtain ⟨ad, c, e, _, hK, hc0⟩ := Kd.C_get h ([] : List Int) i h0 h1
 have hc : ∀ j u, c[j]? = some u → w.cell? (ad.add (i.toNat * 1 + j)) = some u := hc0
 obtain ⟨A0, c0, rfl, l0, g0⟩ := hK
 exact ⟨ad, A0, c0, e, by have hq := hc 0 _ rfl; rwa [Nat.mul_one, Nat.add_zero] at hq, l0, g0⟩
structure S54 where
 f0 : Int
 f1 : (List Int)
def z54 : S54 := ⟨(0 : Int), ([] : List Int)⟩
def k54 : Kd S54 := Kd.iso (Kd.pair (Kd.int .i64) (Kd.slice 3 (Kd.int .i64))) (fun x : S54 => (x.f0, x.f1))
theorem k54_heap : Kd.Heap k54 := Kd.heap_iso _ (Kd.heap_pair (Kd.heap_int .i64) (Kd.heap_slice 3 (Kd.heap_int .i64)))
theorem k54_open {w : World} {x : S54} {cs : List Value} (h : k54.K w x cs) : ∃ A1 c1, cs = [.int .i64 x.f0, .slice A1 x.f1.length c1] ∧ x.f1.length ≤ c1 ∧ (Kd.int .i64).C w A1 x.f1.length x.f1 := by
 obtain ⟨_, _, rfl, rfl, ⟨A1, c1, rfl, l1, g1⟩⟩ := h
 exact ⟨A1, c1, rfl, l1, g1⟩
theorem k54_openM {w : World} {base : Nat} {ok : Nat → Prop} {x : S54} {cs : List Value} (h : k54.M w base ok x cs) : ∃ v1, cs = [.int .i64 x.f0, v1] ∧ (Kd.int .i64).R 3 w base ok v1 x.f1 := by
 obtain ⟨_, _, rfl, rfl, ⟨v1, rfl, g1⟩⟩ := h
 exact ⟨v1, rfl, g1⟩
theorem k54_mk (w : World) (x : S54) {A1 : Option Addr} {c1 : Nat} (l1 : x.f1.length ≤ c1) (g1 : (Kd.int .i64).C w A1 x.f1.length x.f1) : k54.K w x [.int .i64 x.f0, .slice A1 x.f1.length c1] := ⟨[.int .i64 x.f0], [.slice A1 x.f1.length c1], rfl, rfl, ⟨A1, c1, rfl, l1, g1⟩⟩
theorem k54_mkM (w : World) (base : Nat) (ok : Nat → Prop) (x : S54) {v1 : Value} (g1 : (Kd.int .i64).R 3 w base ok v1 x.f1) : k54.M w base ok x [.int .i64 x.f0, v1] := ⟨[.int .i64 x.f0], [v1], rfl, rfl, ⟨v1, rfl, g1⟩⟩
structure S56 where
 f0 : Int
 f1 : (List Int)
 f2 : S54
 f3 : Int
def z56 : S56 := ⟨(0 : Int), ([] : List Int), z54, (0 : Int)⟩
def k56 : Kd S56 := Kd.iso (Kd.pair (Kd.int .i64) (Kd.pair (Kd.slice 3 (Kd.int .i64)) (Kd.pair k54 (Kd.int .i64)))) (fun x : S56 => (x.f0, x.f1, x.f2, x.f3))
theorem k56_heap : Kd.Heap k56 := Kd.heap_iso _ (Kd.heap_pair (Kd.heap_int .i64) (Kd.heap_pair (Kd.heap_slice 3 (Kd.heap_int .i64)) (Kd.heap_pair k54_heap (Kd.heap_int .i64))))
theorem k56_open {w : World} {x : S56} {cs : List Value} (h : k56.K w x cs) : ∃ A1 c1 A3 c3, cs = [.int .i64 x.f0, .slice A1 x.f1.length c1, .int .i64 x.f2.f0, .slice A3 x.f2.f1.length c3, .int .i64 x.f3] ∧ x.f1.length ≤ c1 ∧ (Kd.int .i64).C w A1 x.f1.length x.f1 ∧ x.f2.f1.length ≤ c3 ∧ (Kd.int .i64).C w A3 x.f2.f1.length x.f2.f1 := by
 obtain ⟨_, _, rfl, rfl, ⟨_, _, rfl, ⟨A1, c1, rfl, l1, g1⟩, ⟨_, _, rfl, s2, rfl⟩⟩⟩ := h
 obtain ⟨A3, c3, rfl, l3, g3⟩ := k54_open s2
 exact ⟨A1, c1, A3, c3, rfl, l1, g1, l3, g3⟩
theorem k56_openM {w : World} {base : Nat} {ok : Nat → Prop} {x : S56} {cs : List Value} (h : k56.M w base ok x cs) : ∃ v1 v3, cs = [.int .i64 x.f0, v1, .int .i64 x.f2.f0, v3, .int .i64 x.f3] ∧ (Kd.int .i64).R 3 w base ok v1 x.f1 ∧ (Kd.int .i64).R 3 w base ok v3 x.f2.f1 := by
 obtain ⟨_, _, rfl, rfl, ⟨_, _, rfl, ⟨v1, rfl, g1⟩, ⟨_, _, rfl, s2, rfl⟩⟩⟩ := h
 obtain ⟨v3, rfl, g3⟩ := k54_openM s2
 exact ⟨v1, v3, rfl, g1, g3⟩
theorem k56_mk (w : World) (x : S56) {A1 : Option Addr} {c1 : Nat} (l1 : x.f1.length ≤ c1) (g1 : (Kd.int .i64).C w A1 x.f1.length x.f1) {A3 : Option Addr} {c3 : Nat} (l3 : x.f2.f1.length ≤ c3) (g3 : (Kd.int .i64).C w A3 x.f2.f1.length x.f2.f1) : k56.K w x [.int .i64 x.f0, .slice A1 x.f1.length c1, .int .i64 x.f2.f0, .slice A3 x.f2.f1.length c3, .int .i64 x.f3] := ⟨[.int .i64 x.f0], [.slice A1 x.f1.length c1, .int .i64 x.f2.f0, .slice A3 x.f2.f1.length c3, .int .i64 x.f3], rfl, rfl, ⟨[.slice A1 x.f1.length c1], [.int .i64 x.f2.f0, .slice A3 x.f2.f1.length c3, .int .i64 x.f3], rfl, ⟨A1, c1, rfl, l1, g1⟩, ⟨[.int .i64 x.f2.f0, .slice A3 x.f2.f1.length c3], [.int .i64 x.f3], rfl, (k54_mk w x.f2 l3 g3), rfl⟩⟩⟩
theorem k56_mkM (w : World) (base : Nat) (ok : Nat → Prop) (x : S56) {v1 : Value} (g1 : (Kd.int .i64).R 3 w base ok v1 x.f1) {v3 : Value} (g3 : (Kd.int .i64).R 3 w base ok v3 x.f2.f1) : k56.M w base ok x [.int .i64 x.f0, v1, .int .i64 x.f2.f0, v3, .int .i64 x.f3] := ⟨[.int .i64 x.f0], [v1, .int .i64 x.f2.f0, v3, .int .i64 x.f3], rfl, rfl, ⟨[v1], [.int .i64 x.f2.f0, v3, .int .i64 x.f3], rfl, ⟨v1, rfl, g1⟩, ⟨[.int .i64 x.f2.f0, v3], [.int .i64 x.f3], rfl, (k54_mkM w base ok x.f2 g3), rfl⟩⟩⟩
def rd_T56 (xs : List S56) (i : Int) : S56 := xs.getD i.toNat z56
theorem at_T56 {w : World} {A : Option Addr} {n : Nat} {xs : List S56} (h : Kd.C k56 w A n xs) (i : Int) (h0 : 0 ≤ i) (h1 : i < n) : ∃ ad A1 c1 A3 c3, A = some ad ∧ w.cell? (ad.add (i.toNat * 5)) = some (.int .i64 (rd_T56 xs i).f0) ∧ w.cell? ⟨(ad.add (i.toNat * 5)).block, (ad.add (i.toNat * 5)).off + 1, none⟩ = some (.slice A1 (rd_T56 xs i).f1.length c1) ∧ w.cell? ⟨(ad.add (i.toNat * 5)).block, (ad.add (i.toNat * 5)).off + 2, none⟩ = some (.int .i64 (rd_T56 xs i).f2.f0) ∧ w.cell? ⟨(ad.add (i.toNat * 5)).block, (ad.add (i.toNat * 5)).off + 3, none⟩ = some (.slice A3 (rd_T56 xs i).f2.f1.length c3) ∧ w.cell? ⟨(ad.add (i.toNat * 5)).block, (ad.add (i.toNat * 5)).off + 4, none⟩ = some (.int .i64 (rd_T56 xs i).f3) ∧ (rd_T56 xs i).f1.length ≤ c1 ∧ (Kd.int .i64).C w A1 (rd_T56 xs i).f1.length (rd_T56 xs i).f1 ∧ (rd_T56 xs i).f2.f1.length ≤ c3 ∧ (Kd.int .i64).C w A3 (rd_T56 xs i).f2.f1.length (rd_T56 xs i).f2.f1 := by
 obtain ⟨ad, c, e, _, hK, hc0⟩ := Kd.C_get h z56 i h0 h1
 have hc : ∀ j u, c[j]? = some u → w.cell? (ad.add (i.toNat * 5 + j)) = some u := hc0
 obtain ⟨A1, c1, A3, c3, rfl, l1, g1, l3, g3⟩ := k56_open hK
 exact ⟨ad, A1, c1, A3, c3, e, hc 0 _ rfl, by rw [← add_field _ _ 1 (by omega)]; exact hc 1 _ rfl, by rw [← add_field _ _ 2 (by omega)]; exact hc 2 _ rfl, by rw [← add_field _ _ 3 (by omega)]; exact hc 3 _ rfl, by rw [← add_field _ _ 4 (by omega)]; exact hc 4 _ rfl, l1, g1, l3, g3⟩
structure S48 where
 f0 : Int
 f1 : ByteArray
 f2 : Int
 f3 : Int
 f4 : Int
def z48 : S48 := ⟨(0 : Int), (⟨#[]⟩ : ByteArray), (0 : Int), (0 : Int), (0 : Int)⟩
def k48 : Kd S48 := Kd.iso (Kd.pair (Kd.int .i64) (Kd.pair Kd.string (Kd.pair (Kd.int .i64) (Kd.pair (Kd.int .i64) (Kd.int .i64))))) (fun x : S48 => (x.f0, x.f1, x.f2, x.f3, x.f4))
theorem k48_open {w : World} {x : S48} {cs : List Value} (h : k48.K w x cs) : cs = [.int .i64 x.f0, .string x.f1, .int .i64 x.f2, .int .i64 x.f3, .int .i64 x.f4] := by
 obtain ⟨_, _, rfl, rfl, ⟨_, _, rfl, rfl, ⟨_, _, rfl, rfl, ⟨_, _, rfl, rfl, rfl⟩⟩⟩⟩ := h
 exact rfl
theorem k48_openM {w : World} {base : Nat} {ok : Nat → Prop} {x : S48} {cs : List Value} (h : k48.M w base ok x cs) : cs = [.int .i64 x.f0, .string x.f1, .int .i64 x.f2, .int .i64 x.f3, .int .i64 x.f4] := by
 obtain ⟨_, _, rfl, rfl, ⟨_, _, rfl, rfl, ⟨_, _, rfl, rfl, ⟨_, _, rfl, rfl, rfl⟩⟩⟩⟩ := h
 exact rfl
theorem k48_mkM (w : World) (base : Nat) (ok : Nat → Prop) (x : S48)  : k48.M w base ok x [.int .i64 x.f0, .string x.f1, .int .i64 x.f2, .int .i64 x.f3, .int .i64 x.f4] := ⟨[.int .i64 x.f0], [.string x.f1, .int .i64 x.f2, .int .i64 x.f3, .int .i64 x.f4], rfl, rfl, ⟨[.string x.f1], [.int .i64 x.f2, .int .i64 x.f3, .int .i64 x.f4], rfl, rfl, ⟨[.int .i64 x.f2], [.int .i64 x.f3, .int .i64 x.f4], rfl, rfl, ⟨[.int .i64 x.f3], [.int .i64 x.f4], rfl, rfl, rfl⟩⟩⟩⟩
def rd_T48 (xs : List S48) (i : Int) : S48 := xs.getD i.toNat z48
theorem at_T48 {w : World} {A : Option Addr} {n : Nat} {xs : List S48} (h : Kd.C k48 w A n xs) (i : Int) (h0 : 0 ≤ i) (h1 : i < n) : ∃ ad , A = some ad ∧ w.cell? (ad.add (i.toNat * 5)) = some (.int .i64 (rd_T48 xs i).f0) ∧ w.cell? ⟨(ad.add (i.toNat * 5)).block, (ad.add (i.toNat * 5)).off + 1, none⟩ = some (.string (rd_T48 xs i).f1) ∧ w.cell? ⟨(ad.add (i.toNat * 5)).block, (ad.add (i.toNat * 5)).off + 2, none⟩ = some (.int .i64 (rd_T48 xs i).f2) ∧ w.cell? ⟨(ad.add (i.toNat * 5)).block, (ad.add (i.toNat * 5)).off + 3, none⟩ = some (.int .i64 (rd_T48 xs i).f3) ∧ w.cell? ⟨(ad.add (i.toNat * 5)).block, (ad.add (i.toNat * 5)).off + 4, none⟩ = some (.int .i64 (rd_T48 xs i).f4) := by
 obtain ⟨ad, c, e, _, hK, hc0⟩ := Kd.C_get h z48 i h0 h1
 have hc : ∀ j u, c[j]? = some u → w.cell? (ad.add (i.toNat * 5 + j)) = some u := hc0
 obtain rfl := k48_open hK
 exact ⟨ad, e, hc 0 _ rfl, by rw [← add_field _ _ 1 (by omega)]; exact hc 1 _ rfl, by rw [← add_field _ _ 2 (by omega)]; exact hc 2 _ rfl, by rw [← add_field _ _ 3 (by omega)]; exact hc 3 _ rfl, by rw [← add_field _ _ 4 (by omega)]; exact hc 4 _ rfl⟩
structure S52 where
 f0 : Int
 f1 : (List S48)
def z52 : S52 := ⟨(0 : Int), ([] : List S48)⟩
def k52 : Kd S52 := Kd.iso (Kd.pair (Kd.int .i64) (Kd.slice 48 k48)) (fun x : S52 => (x.f0, x.f1))
theorem k52_open {w : World} {x : S52} {cs : List Value} (h : k52.K w x cs) : ∃ A1 c1, cs = [.int .i64 x.f0, .slice A1 x.f1.length c1] ∧ x.f1.length ≤ c1 ∧ k48.C w A1 x.f1.length x.f1 := by
 obtain ⟨_, _, rfl, rfl, ⟨A1, c1, rfl, l1, g1⟩⟩ := h
 exact ⟨A1, c1, rfl, l1, g1⟩
theorem k52_openM {w : World} {base : Nat} {ok : Nat → Prop} {x : S52} {cs : List Value} (h : k52.M w base ok x cs) : ∃ v1, cs = [.int .i64 x.f0, v1] ∧ k48.R 48 w base ok v1 x.f1 := by
 obtain ⟨_, _, rfl, rfl, ⟨v1, rfl, g1⟩⟩ := h
 exact ⟨v1, rfl, g1⟩
theorem k52_mkM (w : World) (base : Nat) (ok : Nat → Prop) (x : S52) {v1 : Value} (g1 : k48.R 48 w base ok v1 x.f1) : k52.M w base ok x [.int .i64 x.f0, v1] := ⟨[.int .i64 x.f0], [v1], rfl, rfl, ⟨v1, rfl, g1⟩⟩
def rd_T52 (xs : List S52) (i : Int) : S52 := xs.getD i.toNat z52
theorem at_T52 {w : World} {A : Option Addr} {n : Nat} {xs : List S52} (h : Kd.C k52 w A n xs) (i : Int) (h0 : 0 ≤ i) (h1 : i < n) : ∃ ad A1 c1, A = some ad ∧ w.cell? (ad.add (i.toNat * 2)) = some (.int .i64 (rd_T52 xs i).f0) ∧ w.cell? ⟨(ad.add (i.toNat * 2)).block, (ad.add (i.toNat * 2)).off + 1, none⟩ = some (.slice A1 (rd_T52 xs i).f1.length c1) ∧ (rd_T52 xs i).f1.length ≤ c1 ∧ k48.C w A1 (rd_T52 xs i).f1.length (rd_T52 xs i).f1 := by
 obtain ⟨ad, c, e, _, hK, hc0⟩ := Kd.C_get h z52 i h0 h1
 have hc : ∀ j u, c[j]? = some u → w.cell? (ad.add (i.toNat * 2 + j)) = some u := hc0
 obtain ⟨A1, c1, rfl, l1, g1⟩ := k52_open hK
 exact ⟨ad, A1, c1, e, hc 0 _ rfl, by rw [← add_field _ _ 1 (by omega)]; exact hc 1 _ rfl, l1, g1⟩
structure S44 where
 f0 : ByteArray
 f1 : Int
 f2 : Int
 f3 : (List S46)
 f4 : (List S56)
 f5 : (List S52)
def z44 : S44 := ⟨(⟨#[]⟩ : ByteArray), (0 : Int), (0 : Int), ([] : List S46), ([] : List S56), ([] : List S52)⟩
def k44 : Kd S44 := Kd.iso (Kd.pair Kd.string (Kd.pair (Kd.int .i64) (Kd.pair (Kd.int .i64) (Kd.pair (Kd.slice 46 k46) (Kd.pair (Kd.slice 56 k56) (Kd.slice 52 k52)))))) (fun x : S44 => (x.f0, x.f1, x.f2, x.f3, x.f4, x.f5))
theorem k44_open {w : World} {x : S44} {cs : List Value} (h : k44.K w x cs) : ∃ A3 c3 A4 c4 A5 c5, cs = [.string x.f0, .int .i64 x.f1, .int .i64 x.f2, .slice A3 x.f3.length c3, .slice A4 x.f4.length c4, .slice A5 x.f5.length c5] ∧ x.f3.length ≤ c3 ∧ k46.C w A3 x.f3.length x.f3 ∧ x.f4.length ≤ c4 ∧ k56.C w A4 x.f4.length x.f4 ∧ x.f5.length ≤ c5 ∧ k52.C w A5 x.f5.length x.f5 := by
 obtain ⟨_, _, rfl, rfl, ⟨_, _, rfl, rfl, ⟨_, _, rfl, rfl, ⟨_, _, rfl, ⟨A3, c3, rfl, l3, g3⟩, ⟨_, _, rfl, ⟨A4, c4, rfl, l4, g4⟩, ⟨A5, c5, rfl, l5, g5⟩⟩⟩⟩⟩⟩ := h
 exact ⟨A3, c3, A4, c4, A5, c5, rfl, l3, g3, l4, g4, l5, g5⟩
theorem k44_openM {w : World} {base : Nat} {ok : Nat → Prop} {x : S44} {cs : List Value} (h : k44.M w base ok x cs) : ∃ v3 v4 v5, cs = [.string x.f0, .int .i64 x.f1, .int .i64 x.f2, v3, v4, v5] ∧ k46.R 46 w base ok v3 x.f3 ∧ k56.R 56 w base ok v4 x.f4 ∧ k52.R 52 w base ok v5 x.f5 := by
 obtain ⟨_, _, rfl, rfl, ⟨_, _, rfl, rfl, ⟨_, _, rfl, rfl, ⟨_, _, rfl, ⟨v3, rfl, g3⟩, ⟨_, _, rfl, ⟨v4, rfl, g4⟩, ⟨v5, rfl, g5⟩⟩⟩⟩⟩⟩ := h
 exact ⟨v3, v4, v5, rfl, g3, g4, g5⟩
theorem k44_mk (w : World) (x : S44) {A3 : Option Addr} {c3 : Nat} (l3 : x.f3.length ≤ c3) (g3 : k46.C w A3 x.f3.length x.f3) {A4 : Option Addr} {c4 : Nat} (l4 : x.f4.length ≤ c4) (g4 : k56.C w A4 x.f4.length x.f4) {A5 : Option Addr} {c5 : Nat} (l5 : x.f5.length ≤ c5) (g5 : k52.C w A5 x.f5.length x.f5) : k44.K w x [.string x.f0, .int .i64 x.f1, .int .i64 x.f2, .slice A3 x.f3.length c3, .slice A4 x.f4.length c4, .slice A5 x.f5.length c5] := ⟨[.string x.f0], [.int .i64 x.f1, .int .i64 x.f2, .slice A3 x.f3.length c3, .slice A4 x.f4.length c4, .slice A5 x.f5.length c5], rfl, rfl, ⟨[.int .i64 x.f1], [.int .i64 x.f2, .slice A3 x.f3.length c3, .slice A4 x.f4.length c4, .slice A5 x.f5.length c5], rfl, rfl, ⟨[.int .i64 x.f2], [.slice A3 x.f3.length c3, .slice A4 x.f4.length c4, .slice A5 x.f5.length c5], rfl, rfl, ⟨[.slice A3 x.f3.length c3], [.slice A4 x.f4.length c4, .slice A5 x.f5.length c5], rfl, ⟨A3, c3, rfl, l3, g3⟩, ⟨[.slice A4 x.f4.length c4], [.slice A5 x.f5.length c5], rfl, ⟨A4, c4, rfl, l4, g4⟩, ⟨A5, c5, rfl, l5, g5⟩⟩⟩⟩⟩⟩
theorem k44_mkM (w : World) (base : Nat) (ok : Nat → Prop) (x : S44) {v3 : Value} (g3 : k46.R 46 w base ok v3 x.f3) {v4 : Value} (g4 : k56.R 56 w base ok v4 x.f4) {v5 : Value} (g5 : k52.R 52 w base ok v5 x.f5) : k44.M w base ok x [.string x.f0, .int .i64 x.f1, .int .i64 x.f2, v3, v4, v5] := ⟨[.string x.f0], [.int .i64 x.f1, .int .i64 x.f2, v3, v4, v5], rfl, rfl, ⟨[.int .i64 x.f1], [.int .i64 x.f2, v3, v4, v5], rfl, rfl, ⟨[.int .i64 x.f2], [v3, v4, v5], rfl, rfl, ⟨[v3], [v4, v5], rfl, ⟨v3, rfl, g3⟩, ⟨[v4], [v5], rfl, ⟨v4, rfl, g4⟩, ⟨v5, rfl, g5⟩⟩⟩⟩⟩⟩
def rd_T44 (xs : List S44) (i : Int) : S44 := xs.getD i.toNat z44
theorem at_T44 {w : World} {A : Option Addr} {n : Nat} {xs : List S44} (h : Kd.C k44 w A n xs) (i : Int) (h0 : 0 ≤ i) (h1 : i < n) : ∃ ad A3 c3 A4 c4 A5 c5, A = some ad ∧ w.cell? (ad.add (i.toNat * 6)) = some (.string (rd_T44 xs i).f0) ∧ w.cell? ⟨(ad.add (i.toNat * 6)).block, (ad.add (i.toNat * 6)).off + 1, none⟩ = some (.int .i64 (rd_T44 xs i).f1) ∧ w.cell? ⟨(ad.add (i.toNat * 6)).block, (ad.add (i.toNat * 6)).off + 2, none⟩ = some (.int .i64 (rd_T44 xs i).f2) ∧ w.cell? ⟨(ad.add (i.toNat * 6)).block, (ad.add (i.toNat * 6)).off + 3, none⟩ = some (.slice A3 (rd_T44 xs i).f3.length c3) ∧ w.cell? ⟨(ad.add (i.toNat * 6)).block, (ad.add (i.toNat * 6)).off + 4, none⟩ = some (.slice A4 (rd_T44 xs i).f4.length c4) ∧ w.cell? ⟨(ad.add (i.toNat * 6)).block, (ad.add (i.toNat * 6)).off + 5, none⟩ = some (.slice A5 (rd_T44 xs i).f5.length c5) ∧ (rd_T44 xs i).f3.length ≤ c3 ∧ k46.C w A3 (rd_T44 xs i).f3.length (rd_T44 xs i).f3 ∧ (rd_T44 xs i).f4.length ≤ c4 ∧ k56.C w A4 (rd_T44 xs i).f4.length (rd_T44 xs i).f4 ∧ (rd_T44 xs i).f5.length ≤ c5 ∧ k52.C w A5 (rd_T44 xs i).f5.length (rd_T44 xs i).f5 := by
 obtain ⟨ad, c, e, _, hK, hc0⟩ := Kd.C_get h z44 i h0 h1
 have hc : ∀ j u, c[j]? = some u → w.cell? (ad.add (i.toNat * 6 + j)) = some u := hc0
 obtain ⟨A3, c3, A4, c4, A5, c5, rfl, l3, g3, l4, g4, l5, g5⟩ := k44_open hK
 exact ⟨ad, A3, c3, A4, c4, A5, c5, e, hc 0 _ rfl, by rw [← add_field _ _ 1 (by omega)]; exact hc 1 _ rfl, by rw [← add_field _ _ 2 (by omega)]; exact hc 2 _ rfl, by rw [← add_field _ _ 3 (by omega)]; exact hc 3 _ rfl, by rw [← add_field _ _ 4 (by omega)]; exact hc 4 _ rfl, by rw [← add_field _ _ 5 (by omega)]; exact hc 5 _ rfl, l3, g3, l4, g4, l5, g5⟩
structure S192 where
 f0 : Int
 f1 : Int
 f2 : Int
 f3 : Int
def z192 : S192 := ⟨(0 : Int), (0 : Int), (0 : Int), (0 : Int)⟩
def k192 : Kd S192 := Kd.iso (Kd.pair (Kd.int .i64) (Kd.pair (Kd.int .i64) (Kd.pair (Kd.int .i64) (Kd.int .i64)))) (fun x : S192 => (x.f0, x.f1, x.f2, x.f3))
theorem k192_open {w : World} {x : S192} {cs : List Value} (h : k192.K w x cs) : cs = [.int .i64 x.f0, .int .i64 x.f1, .int .i64 x.f2, .int .i64 x.f3] := by
 obtain ⟨_, _, rfl, rfl, ⟨_, _, rfl, rfl, ⟨_, _, rfl, rfl, rfl⟩⟩⟩ := h
 exact rfl
theorem k192_mkM (w : World) (base : Nat) (ok : Nat → Prop) (x : S192)  : k192.M w base ok x [.int .i64 x.f0, .int .i64 x.f1, .int .i64 x.f2, .int .i64 x.f3] := ⟨[.int .i64 x.f0], [.int .i64 x.f1, .int .i64 x.f2, .int .i64 x.f3], rfl, rfl, ⟨[.int .i64 x.f1], [.int .i64 x.f2, .int .i64 x.f3], rfl, rfl, ⟨[.int .i64 x.f2], [.int .i64 x.f3], rfl, rfl, rfl⟩⟩⟩
def rd_T192 (xs : List S192) (i : Int) : S192 := xs.getD i.toNat z192
theorem at_T192 {w : World} {A : Option Addr} {n : Nat} {xs : List S192} (h : Kd.C k192 w A n xs) (i : Int) (h0 : 0 ≤ i) (h1 : i < n) : ∃ ad , A = some ad ∧ w.cell? (ad.add (i.toNat * 4)) = some (.int .i64 (rd_T192 xs i).f0) ∧ w.cell? ⟨(ad.add (i.toNat * 4)).block, (ad.add (i.toNat * 4)).off + 1, none⟩ = some (.int .i64 (rd_T192 xs i).f1) ∧ w.cell? ⟨(ad.add (i.toNat * 4)).block, (ad.add (i.toNat * 4)).off + 2, none⟩ = some (.int .i64 (rd_T192 xs i).f2) ∧ w.cell? ⟨(ad.add (i.toNat * 4)).block, (ad.add (i.toNat * 4)).off + 3, none⟩ = some (.int .i64 (rd_T192 xs i).f3) := by
 obtain ⟨ad, c, e, _, hK, hc0⟩ := Kd.C_get h z192 i h0 h1
 have hc : ∀ j u, c[j]? = some u → w.cell? (ad.add (i.toNat * 4 + j)) = some u := hc0
 obtain rfl := k192_open hK
 exact ⟨ad, e, hc 0 _ rfl, by rw [← add_field _ _ 1 (by omega)]; exact hc 1 _ rfl, by rw [← add_field _ _ 2 (by omega)]; exact hc 2 _ rfl, by rw [← add_field _ _ 3 (by omega)]; exact hc 3 _ rfl⟩
end Go.Proofs.YtiocgaekoeekgaaGreat.P
end
section
namespace Go.Proofs.YtiocgaekoeekgaaGreat.P
open Go.RowKit Go.Proofs.YtiocgaekoeekgaaGreatW.PrintWords Go.Proofs.YtiocgaekoeekgaaGreatW.PrintLast Go.Proofs.YtiocgaekoeekgaaGreatW.PrintMore
attribute [local go_sem] max2_int min2_int max_two min_two max_three min_three max_four min_four   
set_option linter.unusedVariables false
set_option linter.unusedSimpArgs false
noncomputable def blob_within.f (a0 : Int) (a1 : Int) (a2 : Int) : Option (Bool) := if a0 ≥ a1 then (some (decide (a0 ≤ a2))) else (some false)
set_option maxHeartbeats 8000000 in
set_option maxRecDepth 100000 in
theorem blob_within.calls (a0 : Int) (a1 : Int) (a2 : Int) (r : Bool) (w : World) (h : blob_within.f a0 a1 a2 = some r) :
  Calls Tryz.prog 42 #[.int .i64 a0, .int .i64 a1, .int .i64 a2] w fun e w' => e = .returned (.bool r) ∧ Drawn0 w w' := by
 have H : (if a0 ≥ a1 then (some (decide (a0 ≤ a2))) else (some false)) = some r := h
 clear h
 by_cases c4 : a0 ≥ a1
 ·rw [if_pos c4] at H
  have c4b0 : decide (a1 ≤ a0) = true := decide_eq_true c4
  clear c4
  obtain rfl := Option.some.inj H
  go_enter Tryz.func42, Tryz.ntmps42
  go_wp2
  go_ret
  exact ⟨by first | rfl | (simp; done) | (simp [*]; done), by repeat (first | exact Drawn0.refl _ | apply Drawn0.step)⟩
 ·rw [if_neg c4] at H
  have c4b0 : decide (a1 ≤ a0) = false := decide_eq_false c4
  clear c4
  obtain rfl := Option.some.inj H
  go_enter Tryz.func42, Tryz.ntmps42
  go_wp2
  go_ret
  exact ⟨by first | rfl | (simp; done) | (simp [*]; done), by repeat (first | exact Drawn0.refl _ | apply Drawn0.step)⟩
noncomputable def blob_id.l0 : Nat → ByteArray → Int → Option (Bool)
 | 0, _, _ => none
 | k + 1, x0, x3 => if x3 < (x0.size : Int) then (if 0 ≤ x3 then (if (bt x0 x3) < 97 then (if (bt x0 x3) < 48 then (if (bt x0 x3) = 45 then (blob_id.l0 k x0 (wrap64 (x3 + 1))) else (some false)) else (if (bt x0 x3) > 57 then (if (bt x0 x3) = 45 then (blob_id.l0 k x0 (wrap64 (x3 + 1))) else (some false)) else (blob_id.l0 k x0 (wrap64 (x3 + 1))))) else (if (bt x0 x3) > 122 then (if (bt x0 x3) < 48 then (if (bt x0 x3) = 45 then (blob_id.l0 k x0 (wrap64 (x3 + 1))) else (some false)) else (if (bt x0 x3) > 57 then (if (bt x0 x3) = 45 then (blob_id.l0 k x0 (wrap64 (x3 + 1))) else (some false)) else (blob_id.l0 k x0 (wrap64 (x3 + 1))))) else (blob_id.l0 k x0 (wrap64 (x3 + 1))))) else (none)) else ((blob_within.f (x0.size : Int) 1 12).bind fun t101 => (some t101))
noncomputable def blob_id.f (k : Nat) (a0 : ByteArray) : Option (Bool) := blob_id.l0 k a0 0
theorem blob_id.mono_l : ∀ k, (∀ y0 y1, LeO (blob_id.l0 k y0 y1) (blob_id.l0 (k + 1) y0 y1))
 | 0 => fun _ _ r h => by simp [blob_id.l0] at h
 | k + 1 => by
  have ih0 := blob_id.mono_l k
  ·intro y0 y1
   unfold blob_id.l0
   repeat' first
   | (with_reducible exact ih0 _ _)
   | (with_reducible exact LeO.refl _)
   | (with_reducible exact LeO.none _)
   | (with_reducible refine LeO.ite ?_ ?_)
   | (with_reducible refine LeO.bind ?_ (fun _ => ?_))
   | exact ih0 _ _
   | exact LeO.none _
   | refine LeO.ite ?_ ?_
   | refine LeO.bind ?_ (fun _ => ?_)
theorem blob_id.mono : ∀ a0 k, LeO (blob_id.f k a0) (blob_id.f (k + 1) a0) := by
 intro a0 k
 have ih0 := blob_id.mono_l k
 unfold blob_id.f
 repeat' first
   | (with_reducible exact ih0 _ _)
   | (with_reducible exact LeO.refl _)
   | (with_reducible exact LeO.none _)
   | (with_reducible refine LeO.ite ?_ ?_)
   | (with_reducible refine LeO.bind ?_ (fun _ => ?_))
   | exact ih0 _ _
   | exact LeO.none _
   | refine LeO.ite ?_ ?_
   | refine LeO.bind ?_ (fun _ => ?_)
set_option maxHeartbeats 8000000 in
set_option maxRecDepth 100000 in
theorem blob_id.calls (k : Nat) (a0 : ByteArray) (r : Bool) (w : World) (h : blob_id.f k a0 = some r) :
  Calls Tryz.prog 41 #[.string a0] w fun e w' => e = .returned (.bool r) ∧ Drawn0 w w' := by
 have H : (blob_id.l0 k a0 0) = some r := h
 clear h
 have H' := Aside0.mk H
 clear H
 go_enter Tryz.func41, Tryz.ntmps41
 go_wp2
 go_loopg [3] k (fun kq v3 w' => ∃ (x3_1 : Int), v3 = .int .i64 x3_1 ∧ Aside0 (blob_id.l0 kq a0 x3_1 = some r) ∧ Aside0 (kq ≤ k) ∧ Drawn0 w w')
 case atStart => exact ⟨(0), (by first | rfl | (simp; done) | (simp [*]; done)), H', ⟨Nat.le_refl _⟩, by repeat (first | exact Drawn0.refl _ | apply Drawn0.step)⟩
 case round =>
  clear H'
  obtain ⟨x3_1, rfl, HA, HK1, ⟨m1, rfl⟩⟩ := hrel
  cases gk with
  | zero => exact absurd HA.out (by simp [blob_id.l0])
  | succ k1 =>
   have H := HA.out
   clear HA
   simp only [blob_id.l0] at H
   by_cases c2 : x3_1 < (a0.size : Int)
   ·rw [if_pos c2] at H
    have c2b0 : decide (x3_1 < (a0.size : Int)) = true := decide_eq_true c2
    clear c2
    by_cases c3 : 0 ≤ x3_1
    ·rw [if_pos c3] at H
     have c3b0 : decide (0 ≤ x3_1) = true := decide_eq_true c3
     clear c3
     by_cases c5 : (bt a0 x3_1) < 97
     ·rw [if_pos c5] at H
      have c5b0 : decide ((bt a0 x3_1) < 97) = true := decide_eq_true c5
      clear c5
      by_cases c6 : (bt a0 x3_1) < 48
      ·rw [if_pos c6] at H
       have c6b0 : decide ((bt a0 x3_1) < 48) = true := decide_eq_true c6
       clear c6
       by_cases c7 : (bt a0 x3_1) = 45
       ·rw [if_pos c7] at H
        have c7b0 : ((bt a0 x3_1) == 45) = true := beq_iff_eq.mpr c7
        have c7b1 : ((bt a0 x3_1) != 45) = false := bne_eq_false_iff_eq.mpr c7
        clear c7
        have H' := Aside0.mk H
        clear H
        have p4 : 0 ≤ (x3_1 : Int) := of_decide_eq_true (by first | (with_reducible assumption) | assumption)
        have q4 : x3_1 < (a0.size : Int) := of_decide_eq_true (by first | (with_reducible assumption) | assumption)
        have hx4 := bt_at a0 x3_1
        replace p4 := eq_true p4
        replace q4 := eq_true q4
        go_wp2
        go_roundg k1
        case measure => have := HK1.out; omega
        case rel => exact ⟨(wrap64 (x3_1 + 1)), (by first | rfl | (simp; done) | (simp [*]; done)), H', ⟨by have := HK1.out; omega⟩, by repeat (first | exact Drawn0.refl _ | apply Drawn0.step)⟩
       ·rw [if_neg c7] at H
        have c7b0 : ((bt a0 x3_1) == 45) = false := beq_eq_false_iff_ne.mpr c7
        have c7b1 : ((bt a0 x3_1) != 45) = true := bne_iff_ne.mpr c7
        obtain rfl := Option.some.inj H
        have p4 : 0 ≤ (x3_1 : Int) := of_decide_eq_true (by first | (with_reducible assumption) | assumption)
        have q4 : x3_1 < (a0.size : Int) := of_decide_eq_true (by first | (with_reducible assumption) | assumption)
        have hx4 := bt_at a0 x3_1
        replace p4 := eq_true p4
        replace q4 := eq_true q4
        go_wp2
        go_ret
        exact ⟨by first | rfl | (simp; done) | (simp [*]; done), by repeat (first | exact Drawn0.refl _ | apply Drawn0.step)⟩
      ·rw [if_neg c6] at H
       have c6b0 : decide ((bt a0 x3_1) < 48) = false := decide_eq_false c6
       clear c6
       by_cases c8 : (bt a0 x3_1) > 57
       ·rw [if_pos c8] at H
        have c8b0 : decide (57 < (bt a0 x3_1)) = true := decide_eq_true c8
        clear c8
        by_cases c9 : (bt a0 x3_1) = 45
        ·rw [if_pos c9] at H
         have c9b0 : ((bt a0 x3_1) == 45) = true := beq_iff_eq.mpr c9
         have c9b1 : ((bt a0 x3_1) != 45) = false := bne_eq_false_iff_eq.mpr c9
         clear c9
         have H' := Aside0.mk H
         clear H
         have p4 : 0 ≤ (x3_1 : Int) := of_decide_eq_true (by first | (with_reducible assumption) | assumption)
         have q4 : x3_1 < (a0.size : Int) := of_decide_eq_true (by first | (with_reducible assumption) | assumption)
         have hx4 := bt_at a0 x3_1
         replace p4 := eq_true p4
         replace q4 := eq_true q4
         go_wp2
         go_roundg k1
         case measure => have := HK1.out; omega
         case rel => exact ⟨(wrap64 (x3_1 + 1)), (by first | rfl | (simp; done) | (simp [*]; done)), H', ⟨by have := HK1.out; omega⟩, by repeat (first | exact Drawn0.refl _ | apply Drawn0.step)⟩
        ·rw [if_neg c9] at H
         have c9b0 : ((bt a0 x3_1) == 45) = false := beq_eq_false_iff_ne.mpr c9
         have c9b1 : ((bt a0 x3_1) != 45) = true := bne_iff_ne.mpr c9
         obtain rfl := Option.some.inj H
         have p4 : 0 ≤ (x3_1 : Int) := of_decide_eq_true (by first | (with_reducible assumption) | assumption)
         have q4 : x3_1 < (a0.size : Int) := of_decide_eq_true (by first | (with_reducible assumption) | assumption)
         have hx4 := bt_at a0 x3_1
         replace p4 := eq_true p4
         replace q4 := eq_true q4
         go_wp2
         go_ret
         exact ⟨by first | rfl | (simp; done) | (simp [*]; done), by repeat (first | exact Drawn0.refl _ | apply Drawn0.step)⟩
       ·rw [if_neg c8] at H
        have c8b0 : decide (57 < (bt a0 x3_1)) = false := decide_eq_false c8
        clear c8
        have H' := Aside0.mk H
        clear H
        have p4 : 0 ≤ (x3_1 : Int) := of_decide_eq_true (by first | (with_reducible assumption) | assumption)
        have q4 : x3_1 < (a0.size : Int) := of_decide_eq_true (by first | (with_reducible assumption) | assumption)
        have hx4 := bt_at a0 x3_1
        replace p4 := eq_true p4
        replace q4 := eq_true q4
        go_wp2
        go_roundg k1
        case measure => have := HK1.out; omega
        case rel => exact ⟨(wrap64 (x3_1 + 1)), (by first | rfl | (simp; done) | (simp [*]; done)), H', ⟨by have := HK1.out; omega⟩, by repeat (first | exact Drawn0.refl _ | apply Drawn0.step)⟩
     ·rw [if_neg c5] at H
      have c5b0 : decide ((bt a0 x3_1) < 97) = false := decide_eq_false c5
      clear c5
      by_cases c10 : (bt a0 x3_1) > 122
      ·rw [if_pos c10] at H
       have c10b0 : decide (122 < (bt a0 x3_1)) = true := decide_eq_true c10
       clear c10
       by_cases c11 : (bt a0 x3_1) < 48
       ·rw [if_pos c11] at H
        have c11b0 : decide ((bt a0 x3_1) < 48) = true := decide_eq_true c11
        clear c11
        by_cases c12 : (bt a0 x3_1) = 45
        ·rw [if_pos c12] at H
         have c12b0 : ((bt a0 x3_1) == 45) = true := beq_iff_eq.mpr c12
         have c12b1 : ((bt a0 x3_1) != 45) = false := bne_eq_false_iff_eq.mpr c12
         clear c12
         have H' := Aside0.mk H
         clear H
         have p4 : 0 ≤ (x3_1 : Int) := of_decide_eq_true (by first | (with_reducible assumption) | assumption)
         have q4 : x3_1 < (a0.size : Int) := of_decide_eq_true (by first | (with_reducible assumption) | assumption)
         have hx4 := bt_at a0 x3_1
         replace p4 := eq_true p4
         replace q4 := eq_true q4
         go_wp2
         go_roundg k1
         case measure => have := HK1.out; omega
         case rel => exact ⟨(wrap64 (x3_1 + 1)), (by first | rfl | (simp; done) | (simp [*]; done)), H', ⟨by have := HK1.out; omega⟩, by repeat (first | exact Drawn0.refl _ | apply Drawn0.step)⟩
        ·rw [if_neg c12] at H
         have c12b0 : ((bt a0 x3_1) == 45) = false := beq_eq_false_iff_ne.mpr c12
         have c12b1 : ((bt a0 x3_1) != 45) = true := bne_iff_ne.mpr c12
         obtain rfl := Option.some.inj H
         have p4 : 0 ≤ (x3_1 : Int) := of_decide_eq_true (by first | (with_reducible assumption) | assumption)
         have q4 : x3_1 < (a0.size : Int) := of_decide_eq_true (by first | (with_reducible assumption) | assumption)
         have hx4 := bt_at a0 x3_1
         replace p4 := eq_true p4
         replace q4 := eq_true q4
         go_wp2
         go_ret
         exact ⟨by first | rfl | (simp; done) | (simp [*]; done), by repeat (first | exact Drawn0.refl _ | apply Drawn0.step)⟩
       ·rw [if_neg c11] at H
        have c11b0 : decide ((bt a0 x3_1) < 48) = false := decide_eq_false c11
        clear c11
        by_cases c13 : (bt a0 x3_1) > 57
        ·rw [if_pos c13] at H
         have c13b0 : decide (57 < (bt a0 x3_1)) = true := decide_eq_true c13
         clear c13
         by_cases c14 : (bt a0 x3_1) = 45
         ·rw [if_pos c14] at H
          have c14b0 : ((bt a0 x3_1) == 45) = true := beq_iff_eq.mpr c14
          have c14b1 : ((bt a0 x3_1) != 45) = false := bne_eq_false_iff_eq.mpr c14
          clear c14
          have H' := Aside0.mk H
          clear H
          have p4 : 0 ≤ (x3_1 : Int) := of_decide_eq_true (by first | (with_reducible assumption) | assumption)
          have q4 : x3_1 < (a0.size : Int) := of_decide_eq_true (by first | (with_reducible assumption) | assumption)
          have hx4 := bt_at a0 x3_1
          replace p4 := eq_true p4
          replace q4 := eq_true q4
          go_wp2
          go_roundg k1
          case measure => have := HK1.out; omega
          case rel => exact ⟨(wrap64 (x3_1 + 1)), (by first | rfl | (simp; done) | (simp [*]; done)), H', ⟨by have := HK1.out; omega⟩, by repeat (first | exact Drawn0.refl _ | apply Drawn0.step)⟩
         ·rw [if_neg c14] at H
          have c14b0 : ((bt a0 x3_1) == 45) = false := beq_eq_false_iff_ne.mpr c14
          have c14b1 : ((bt a0 x3_1) != 45) = true := bne_iff_ne.mpr c14
          obtain rfl := Option.some.inj H
          have p4 : 0 ≤ (x3_1 : Int) := of_decide_eq_true (by first | (with_reducible assumption) | assumption)
          have q4 : x3_1 < (a0.size : Int) := of_decide_eq_true (by first | (with_reducible assumption) | assumption)
          have hx4 := bt_at a0 x3_1
          replace p4 := eq_true p4
          replace q4 := eq_true q4
          go_wp2
          go_ret
          exact ⟨by first | rfl | (simp; done) | (simp [*]; done), by repeat (first | exact Drawn0.refl _ | apply Drawn0.step)⟩
        ·rw [if_neg c13] at H
         have c13b0 : decide (57 < (bt a0 x3_1)) = false := decide_eq_false c13
         clear c13
         have H' := Aside0.mk H
         clear H
         have p4 : 0 ≤ (x3_1 : Int) := of_decide_eq_true (by first | (with_reducible assumption) | assumption)
         have q4 : x3_1 < (a0.size : Int) := of_decide_eq_true (by first | (with_reducible assumption) | assumption)
         have hx4 := bt_at a0 x3_1
         replace p4 := eq_true p4
         replace q4 := eq_true q4
         go_wp2
         go_roundg k1
         case measure => have := HK1.out; omega
         case rel => exact ⟨(wrap64 (x3_1 + 1)), (by first | rfl | (simp; done) | (simp [*]; done)), H', ⟨by have := HK1.out; omega⟩, by repeat (first | exact Drawn0.refl _ | apply Drawn0.step)⟩
      ·rw [if_neg c10] at H
       have c10b0 : decide (122 < (bt a0 x3_1)) = false := decide_eq_false c10
       clear c10
       have H' := Aside0.mk H
       clear H
       have p4 : 0 ≤ (x3_1 : Int) := of_decide_eq_true (by first | (with_reducible assumption) | assumption)
       have q4 : x3_1 < (a0.size : Int) := of_decide_eq_true (by first | (with_reducible assumption) | assumption)
       have hx4 := bt_at a0 x3_1
       replace p4 := eq_true p4
       replace q4 := eq_true q4
       go_wp2
       go_roundg k1
       case measure => have := HK1.out; omega
       case rel => exact ⟨(wrap64 (x3_1 + 1)), (by first | rfl | (simp; done) | (simp [*]; done)), H', ⟨by have := HK1.out; omega⟩, by repeat (first | exact Drawn0.refl _ | apply Drawn0.step)⟩
    ·rw [if_neg c3] at H
     exact absurd H (by simp)
   ·rw [if_neg c2] at H
    have c2b0 : decide (x3_1 < (a0.size : Int)) = false := decide_eq_false c2
    clear c2
    replace H := Option.bind_eq_some_iff.mp H
    obtain ⟨t101, A150, H⟩ := H
    replace H : (some t101) = some r := H
    have A15 := Aside0.mk A150
    clear A150
    obtain rfl := Option.some.inj H
    go_wp2_with (first | ((with_reducible refine gate_callee (f := 42) rfl ?_); refine goesL_ (some 34) rfl rfl Tryz.func42 (by kernel_rfl) rfl #[.int .i64 (a0.size : Int), .int .i64 1, .int .i64 12] rfl (by (try simp only [List.map_toArray, List.map_cons, List.map_nil]); first | done | rfl | (simp only [List.length_drop, List.length_take]; rfl)) ?_; (with_reducible refine (blob_within.calls (a0.size : Int) 1 12 t101 _ A15.out).mono ?_); rintro e w' ⟨rfl, ⟨nd, rfl⟩⟩; refine ⟨_, rfl, ?_⟩))
    go_ret
    exact ⟨by first | rfl | (simp; done) | (simp [*]; done), by repeat (first | exact Drawn0.refl _ | apply Drawn0.step)⟩
noncomputable def blob_parent.f (l0 : List (S44)) (a1 : Int) : Option (Int) := if 0 ≤ a1 then (if a1 < (l0.length : Int) then (if ((rd_T44 l0 a1).f1) < a1 then (some ((rd_T44 l0 a1).f1)) else (some (-1))) else (none)) else (none)
set_option maxHeartbeats 8000000 in
set_option maxRecDepth 100000 in
theorem blob_parent.calls (A0 : Option Addr) (c0 : Nat) (l0 : List (S44)) (a1 : Int) (r : Int) (w : World) (hr0 : Kd.C k44 w A0 l0.length l0) (hc0 : l0.length ≤ c0) (h : blob_parent.f l0 a1 = some r) :
  Calls Tryz.prog 60 #[.slice A0 l0.length c0, .int .i64 a1] w fun e w' => e = .returned (.int .i64 r) ∧ Drawn0 w w' := by
 have HR0 := Aside0.mk hr0
 have HC0 := Aside0.mk hc0
 clear hr0 hc0
 have H : (if 0 ≤ a1 then (if a1 < (l0.length : Int) then (if ((rd_T44 l0 a1).f1) < a1 then (some ((rd_T44 l0 a1).f1)) else (some (-1))) else (none)) else (none)) = some r := h
 clear h
 by_cases c3 : 0 ≤ a1
 ·rw [if_pos c3] at H
  have c3b0 : decide (0 ≤ a1) = true := decide_eq_true c3
  clear c3
  by_cases c4 : a1 < (l0.length : Int)
  ·rw [if_pos c4] at H
   have c4b0 : decide (a1 < (l0.length : Int)) = true := decide_eq_true c4
   clear c4
   by_cases c5 : ((rd_T44 l0 a1).f1) < a1
   ·rw [if_pos c5] at H
    have c5b0 : decide (((rd_T44 l0 a1).f1) < a1) = true := decide_eq_true c5
    clear c5
    obtain rfl := Option.some.inj H
    have p102 : 0 ≤ (a1 : Int) := of_decide_eq_true (by first | (with_reducible assumption) | assumption)
    have q102 : a1 < (l0.length : Int) := of_decide_eq_true (by first | (with_reducible assumption) | assumption)
    obtain ⟨ad102, A102_3, c102_3, A102_4, c102_4, A102_5, c102_5, e102, hx102_0, hx102_1, hx102_2, hx102_3, hx102_4, hx102_5, hl102_3, hi102_3, hl102_4, hi102_4, hl102_5, hi102_5⟩ := at_T44 HR0.out a1 p102 q102
    cases e102
    have HR102_3 := Aside0.mk hi102_3
    have HC102_3 := Aside0.mk hl102_3
    clear hi102_3 hl102_3
    have HR102_4 := Aside0.mk hi102_4
    have HC102_4 := Aside0.mk hl102_4
    clear hi102_4 hl102_4
    have HR102_5 := Aside0.mk hi102_5
    have HC102_5 := Aside0.mk hl102_5
    clear hi102_5 hl102_5
    replace p102 := eq_true p102
    replace q102 := eq_true q102
    have p103 : 0 ≤ (a1 : Int) := of_decide_eq_true (by first | (with_reducible assumption) | assumption)
    have q103 : a1 < (l0.length : Int) := of_decide_eq_true (by first | (with_reducible assumption) | assumption)
    obtain ⟨ad103, A103_3, c103_3, A103_4, c103_4, A103_5, c103_5, e103, hx103_0, hx103_1, hx103_2, hx103_3, hx103_4, hx103_5, hl103_3, hi103_3, hl103_4, hi103_4, hl103_5, hi103_5⟩ := at_T44 HR0.out a1 p103 q103
    obtain rfl : ad102 = ad103 := (by injection e103)
    have HR103_3 := Aside0.mk hi103_3
    have HC103_3 := Aside0.mk hl103_3
    clear hi103_3 hl103_3
    have HR103_4 := Aside0.mk hi103_4
    have HC103_4 := Aside0.mk hl103_4
    clear hi103_4 hl103_4
    have HR103_5 := Aside0.mk hi103_5
    have HC103_5 := Aside0.mk hl103_5
    clear hi103_5 hl103_5
    replace p103 := eq_true p103
    replace q103 := eq_true q103
    have ea_ := Option.some.inj (hx102_3.symm.trans hx103_3)
    injection ea_ with ea_ en_ ec_
    subst ea_
    subst ec_
    clear en_
    have ea_ := Option.some.inj (hx102_4.symm.trans hx103_4)
    injection ea_ with ea_ en_ ec_
    subst ea_
    subst ec_
    clear en_
    have ea_ := Option.some.inj (hx102_5.symm.trans hx103_5)
    injection ea_ with ea_ en_ ec_
    subst ea_
    subst ec_
    clear en_
    go_enter Tryz.func60, Tryz.ntmps60
    go_wp2
    go_ret
    exact ⟨by first | rfl | (simp; done) | (simp [*]; done), by repeat (first | exact Drawn0.refl _ | apply Drawn0.step)⟩
   ·rw [if_neg c5] at H
    have c5b0 : decide (((rd_T44 l0 a1).f1) < a1) = false := decide_eq_false c5
    clear c5
    obtain rfl := Option.some.inj H
    have p102 : 0 ≤ (a1 : Int) := of_decide_eq_true (by first | (with_reducible assumption) | assumption)
    have q102 : a1 < (l0.length : Int) := of_decide_eq_true (by first | (with_reducible assumption) | assumption)
    obtain ⟨ad102, A102_3, c102_3, A102_4, c102_4, A102_5, c102_5, e102, hx102_0, hx102_1, hx102_2, hx102_3, hx102_4, hx102_5, hl102_3, hi102_3, hl102_4, hi102_4, hl102_5, hi102_5⟩ := at_T44 HR0.out a1 p102 q102
    cases e102
    have HR102_3 := Aside0.mk hi102_3
    have HC102_3 := Aside0.mk hl102_3
    clear hi102_3 hl102_3
    have HR102_4 := Aside0.mk hi102_4
    have HC102_4 := Aside0.mk hl102_4
    clear hi102_4 hl102_4
    have HR102_5 := Aside0.mk hi102_5
    have HC102_5 := Aside0.mk hl102_5
    clear hi102_5 hl102_5
    replace p102 := eq_true p102
    replace q102 := eq_true q102
    go_enter Tryz.func60, Tryz.ntmps60
    go_wp2
    go_ret
    exact ⟨by first | rfl | (simp; done) | (simp [*]; done), by repeat (first | exact Drawn0.refl _ | apply Drawn0.step)⟩
  ·rw [if_neg c4] at H
   exact absurd H (by simp)
 ·rw [if_neg c3] at H
  exact absurd H (by simp)
noncomputable def blob_word.f (a0 : Int) : Option (Bool) := (blob_within.f a0 1 49).bind fun t104 => (some t104)
set_option maxHeartbeats 8000000 in
set_option maxRecDepth 100000 in
theorem blob_word.calls (a0 : Int) (r : Bool) (w : World) (h : blob_word.f a0 = some r) :
  Calls Tryz.prog 92 #[.int .i64 a0] w fun e w' => e = .returned (.bool r) ∧ Drawn0 w w' := by
 have H : ((blob_within.f a0 1 49).bind fun t104 => (some t104)) = some r := h
 clear h
 replace H := Option.bind_eq_some_iff.mp H
 obtain ⟨t104, A20, H⟩ := H
 replace H : (some t104) = some r := H
 have A2 := Aside0.mk A20
 clear A20
 obtain rfl := Option.some.inj H
 go_enter Tryz.func92, Tryz.ntmps92
 go_wp2_with (first | ((with_reducible refine gate_callee (f := 42) rfl ?_); refine goesL_ (some 4) rfl rfl Tryz.func42 (by kernel_rfl) rfl #[.int .i64 a0, .int .i64 1, .int .i64 49] rfl (by (try simp only [List.map_toArray, List.map_cons, List.map_nil]); first | done | rfl | (simp only [List.length_drop, List.length_take]; rfl)) ?_; (with_reducible refine (blob_within.calls a0 1 49 t104 _ A2.out).mono ?_); rintro e w' ⟨rfl, ⟨nd, rfl⟩⟩; refine ⟨_, rfl, ?_⟩))
 go_ret
 exact ⟨by first | rfl | (simp; done) | (simp [*]; done), by repeat (first | exact Drawn0.refl _ | apply Drawn0.step)⟩
noncomputable def slices_Index_int_int.l0 : Nat → List Int → Int → Int → Int → Option (Int)
 | 0, _, _, _, _ => none
 | k + 1, x0, x1, x7, x8 => if x8 < x7 then (if 0 ≤ x8 then (if x8 < (x0.length : Int) then (if x1 = (rd x0 x8) then (some x8) else (slices_Index_int_int.l0 k x0 x1 x7 (wrap64 (x8 + 1)))) else (none)) else (none)) else (some (-1))
noncomputable def slices_Index_int_int.f (k : Nat) (l0 : List Int) (a1 : Int) : Option (Int) := slices_Index_int_int.l0 k l0 a1 (l0.length : Int) 0
theorem slices_Index_int_int.mono_l : ∀ k, (∀ y0 y1 y2 y3, LeO (slices_Index_int_int.l0 k y0 y1 y2 y3) (slices_Index_int_int.l0 (k + 1) y0 y1 y2 y3))
 | 0 => fun _ _ _ _ r h => by simp [slices_Index_int_int.l0] at h
 | k + 1 => by
  have ih0 := slices_Index_int_int.mono_l k
  ·intro y0 y1 y2 y3
   unfold slices_Index_int_int.l0
   repeat' first
   | (with_reducible exact ih0 _ _ _ _)
   | (with_reducible exact LeO.refl _)
   | (with_reducible exact LeO.none _)
   | (with_reducible refine LeO.ite ?_ ?_)
   | (with_reducible refine LeO.bind ?_ (fun _ => ?_))
   | exact ih0 _ _ _ _
   | exact LeO.none _
   | refine LeO.ite ?_ ?_
   | refine LeO.bind ?_ (fun _ => ?_)
theorem slices_Index_int_int.mono : ∀ a0 a1 k, LeO (slices_Index_int_int.f k a0 a1) (slices_Index_int_int.f (k + 1) a0 a1) := by
 intro a0 a1 k
 have ih0 := slices_Index_int_int.mono_l k
 unfold slices_Index_int_int.f
 repeat' first
   | (with_reducible exact ih0 _ _ _ _)
   | (with_reducible exact LeO.refl _)
   | (with_reducible exact LeO.none _)
   | (with_reducible refine LeO.ite ?_ ?_)
   | (with_reducible refine LeO.bind ?_ (fun _ => ?_))
   | exact ih0 _ _ _ _
   | exact LeO.none _
   | refine LeO.ite ?_ ?_
   | refine LeO.bind ?_ (fun _ => ?_)
set_option maxHeartbeats 8000000 in
set_option maxRecDepth 100000 in
theorem slices_Index_int_int.calls (k : Nat) (A0 : Option Addr) (c0 : Nat) (l0 : List Int) (a1 : Int) (r : Int) (w : World) (hr0 : Kd.C (Kd.int .i64) w A0 l0.length l0) (hc0 : l0.length ≤ c0) (h : slices_Index_int_int.f k l0 a1 = some r) :
  Calls Tryz.prog 139 #[.slice A0 l0.length c0, .int .i64 a1] w fun e w' => e = .returned (.int .i64 r) ∧ Drawn0 w w' := by
 have HR0 := Aside0.mk hr0
 have HC0 := Aside0.mk hc0
 clear hr0 hc0
 have H : (slices_Index_int_int.l0 k l0 a1 (l0.length : Int) 0) = some r := h
 clear h
 have H' := Aside0.mk H
 clear H
 go_enter Tryz.func139, Tryz.ntmps139
 go_wp2
 go_loopg [8] k (fun kq v8 w' => ∃ (x8_1 : Int), v8 = .int .i64 x8_1 ∧ Aside0 (slices_Index_int_int.l0 kq l0 a1 (l0.length : Int) x8_1 = some r) ∧ Aside0 (kq ≤ k) ∧ Drawn0 w w')
 case atStart => exact ⟨(0), (by first | rfl | (simp; done) | (simp [*]; done)), H', ⟨Nat.le_refl _⟩, by repeat (first | exact Drawn0.refl _ | apply Drawn0.step)⟩
 case round =>
  clear H'
  try clear c1
  try clear p2
  obtain ⟨x8_1, rfl, HA, HK1, ⟨m1, rfl⟩⟩ := hrel
  cases gk with
  | zero => exact absurd HA.out (by simp [slices_Index_int_int.l0])
  | succ k1 =>
   have H := HA.out
   clear HA
   simp only [slices_Index_int_int.l0] at H
   by_cases c3 : x8_1 < (l0.length : Int)
   ·rw [if_pos c3] at H
    have c3b0 : decide (x8_1 < (l0.length : Int)) = true := decide_eq_true c3
    clear c3
    by_cases c4 : 0 ≤ x8_1
    ·rw [if_pos c4] at H
     have c4b0 : decide (0 ≤ x8_1) = true := decide_eq_true c4
     clear c4
     by_cases c5 : x8_1 < (l0.length : Int)
     ·rw [if_pos c5] at H
      have c5b0 : decide (x8_1 < (l0.length : Int)) = true := decide_eq_true c5
      clear c5
      by_cases c6 : a1 = (rd l0 x8_1)
      ·rw [if_pos c6] at H
       have c6b0 : (a1 == (rd l0 x8_1)) = true := beq_iff_eq.mpr c6
       have c6b1 : (a1 != (rd l0 x8_1)) = false := bne_eq_false_iff_eq.mpr c6
       clear c6
       obtain rfl := Option.some.inj H
       have p105 : 0 ≤ (x8_1 : Int) := of_decide_eq_true (by first | (with_reducible assumption) | assumption)
       have q105 : x8_1 < (l0.length : Int) := of_decide_eq_true (by first | (with_reducible assumption) | assumption)
       obtain ⟨ad105, e105, hx105_0⟩ := Kd.at_int HR0.out x8_1 p105 q105
       cases e105
       replace p105 := eq_true p105
       replace q105 := eq_true q105
       go_wp2
       go_ret
       exact ⟨by first | rfl | (simp; done) | (simp [*]; done), by repeat (first | exact Drawn0.refl _ | apply Drawn0.step)⟩
      ·rw [if_neg c6] at H
       have c6b0 : (a1 == (rd l0 x8_1)) = false := beq_eq_false_iff_ne.mpr c6
       have c6b1 : (a1 != (rd l0 x8_1)) = true := bne_iff_ne.mpr c6
       have H' := Aside0.mk H
       clear H
       have p105 : 0 ≤ (x8_1 : Int) := of_decide_eq_true (by first | (with_reducible assumption) | assumption)
       have q105 : x8_1 < (l0.length : Int) := of_decide_eq_true (by first | (with_reducible assumption) | assumption)
       obtain ⟨ad105, e105, hx105_0⟩ := Kd.at_int HR0.out x8_1 p105 q105
       cases e105
       replace p105 := eq_true p105
       replace q105 := eq_true q105
       go_wp2
       go_roundg k1
       case measure => have := HK1.out; omega
       case rel => exact ⟨(wrap64 (x8_1 + 1)), (by first | rfl | (simp; done) | (simp [*]; done)), H', ⟨by have := HK1.out; omega⟩, by repeat (first | exact Drawn0.refl _ | apply Drawn0.step)⟩
     ·rw [if_neg c5] at H
      exact absurd H (by simp)
    ·rw [if_neg c4] at H
     exact absurd H (by simp)
   ·rw [if_neg c3] at H
    have c3b0 : decide (x8_1 < (l0.length : Int)) = false := decide_eq_false c3
    clear c3
    obtain rfl := Option.some.inj H
    go_wp2
    go_ret
    exact ⟨by first | rfl | (simp; done) | (simp [*]; done), by repeat (first | exact Drawn0.refl _ | apply Drawn0.step)⟩
noncomputable def slices_Contains_int_int.f (k : Nat) (l0 : List Int) (a1 : Int) : Option (Bool) := (slices_Index_int_int.f k l0 a1).bind fun t106 => (some (decide (t106 ≥ 0)))
theorem slices_Contains_int_int.mono : ∀ a0 a1 k, LeO (slices_Contains_int_int.f k a0 a1) (slices_Contains_int_int.f (k + 1) a0 a1) := by
 intro a0 a1 k
 unfold slices_Contains_int_int.f
 repeat' first
   | (with_reducible exact slices_Index_int_int.mono _ _ _)
   | (with_reducible exact LeO.refl _)
   | (with_reducible exact LeO.none _)
   | (with_reducible refine LeO.ite ?_ ?_)
   | (with_reducible refine LeO.bind ?_ (fun _ => ?_))
   | exact slices_Index_int_int.mono _ _ _
   | exact LeO.none _
   | refine LeO.ite ?_ ?_
   | refine LeO.bind ?_ (fun _ => ?_)
set_option maxHeartbeats 8000000 in
set_option maxRecDepth 100000 in
theorem slices_Contains_int_int.calls (k : Nat) (A0 : Option Addr) (c0 : Nat) (l0 : List Int) (a1 : Int) (r : Bool) (w : World) (hr0 : Kd.C (Kd.int .i64) w A0 l0.length l0) (hc0 : l0.length ≤ c0) (h : slices_Contains_int_int.f k l0 a1 = some r) :
  Calls Tryz.prog 99 #[.slice A0 l0.length c0, .int .i64 a1] w fun e w' => e = .returned (.bool r) ∧ Drawn0 w w' := by
 have HR0 := Aside0.mk hr0
 have HC0 := Aside0.mk hc0
 clear hr0 hc0
 have H : ((slices_Index_int_int.f k l0 a1).bind fun t106 => (some (decide (t106 ≥ 0)))) = some r := h
 clear h
 replace H := Option.bind_eq_some_iff.mp H
 obtain ⟨t106, A30, H⟩ := H
 replace H : (some (decide (t106 ≥ 0))) = some r := H
 have A3 := Aside0.mk A30
 clear A30
 obtain rfl := Option.some.inj H
 go_enter Tryz.func99, Tryz.ntmps99
 go_wp2_with (first | ((with_reducible refine gate_callee (f := 139) rfl ?_); refine goesL_ (some 7) rfl rfl Tryz.func139 (by kernel_rfl) rfl #[.slice A0 l0.length c0, .int .i64 a1] rfl (by (try simp only [List.map_toArray, List.map_cons, List.map_nil]); first | done | rfl | (simp only [List.length_drop, List.length_take]; rfl)) ?_; (with_reducible refine (slices_Index_int_int.calls k _ _ l0 a1 t106 _ ?side1 ?side2 A3.out).mono ?_); (case side1 => repeat (first | exact HR0.out | (with_reducible refine Kd.C_alloc ?_ _) | (with_reducible refine Kd.C_drewN ?_ _) | (with_reducible refine Kd.C_drew ?_))); (case side2 => exact HC0.out); rintro e w' ⟨rfl, ⟨nd, rfl⟩⟩; refine ⟨_, rfl, ?_⟩))
 go_ret
 exact ⟨by first | rfl | (simp; done) | (simp [*]; done), by repeat (first | exact Drawn0.refl _ | apply Drawn0.step)⟩
mutual
noncomputable def gram_asked.j0 : Nat → Int → Bool → Option (Int × Int)
 | 0, _, _ => none
 | k + 1, x4, x5 => if x5 = true then (some (1, 1)) else (if x4 = 2 then (gram_asked.j1 k x4 (x4 == 2)) else (if x4 = 5 then (gram_asked.j1 k x4 (x4 == 5)) else (if x4 = 9 then (gram_asked.j1 k x4 (x4 == 9)) else (if x4 = 12 then (gram_asked.j1 k x4 (x4 == 12)) else (if x4 = 13 then (gram_asked.j1 k x4 (x4 == 13)) else (if x4 = 14 then (gram_asked.j1 k x4 (x4 == 14)) else (gram_asked.j1 k x4 (x4 == 15))))))))
noncomputable def gram_asked.j1 : Nat → Int → Bool → Option (Int × Int)
 | 0, _, _ => none
 | k + 1, x4, x10 => if x10 = true then (some (2, 2)) else (if x4 = 1 then (gram_asked.j2 k x4 (x4 == 1)) else (gram_asked.j2 k x4 (x4 == 6)))
noncomputable def gram_asked.j2 : Nat → Int → Bool → Option (Int × Int)
 | 0, _, _ => none
 | k + 1, x4, x18 => if x18 = true then (some (3, 3)) else (if x4 = 3 then (gram_asked.j3 k x4 (x4 == 3)) else (gram_asked.j3 k x4 (x4 == 4)))
noncomputable def gram_asked.j3 : Nat → Int → Bool → Option (Int × Int)
 | 0, _, _ => none
 | k + 1, x4, x21 => if x21 = true then (some (2, 3)) else (if x4 = 10 then (some (1, 6)) else (some (1, 0)))
end
noncomputable def gram_asked.f (k : Nat) (a0 : Int) : Option (Int × Int) := if a0 = 0 then (gram_asked.j0 k a0 (a0 == 0)) else (if a0 = 7 then (gram_asked.j0 k a0 (a0 == 7)) else (if a0 = 8 then (gram_asked.j0 k a0 (a0 == 8)) else (gram_asked.j0 k a0 (a0 == 11))))
theorem gram_asked.mono_l : ∀ k, (∀ y0 y1, LeO (gram_asked.j0 k y0 y1) (gram_asked.j0 (k + 1) y0 y1)) ∧ (∀ y0 y1, LeO (gram_asked.j1 k y0 y1) (gram_asked.j1 (k + 1) y0 y1)) ∧ (∀ y0 y1, LeO (gram_asked.j2 k y0 y1) (gram_asked.j2 (k + 1) y0 y1)) ∧ (∀ y0 y1, LeO (gram_asked.j3 k y0 y1) (gram_asked.j3 (k + 1) y0 y1))
 | 0 => ⟨fun _ _ r h => by simp [gram_asked.j0] at h, fun _ _ r h => by simp [gram_asked.j1] at h, fun _ _ r h => by simp [gram_asked.j2] at h, fun _ _ r h => by simp [gram_asked.j3] at h⟩
 | k + 1 => by
  obtain ⟨ih0, ih1, ih2, ih3⟩ := gram_asked.mono_l k
  refine ⟨?_, ?_, ?_, ?_⟩
  ·intro y0 y1
   unfold gram_asked.j0
   repeat' first
   | (with_reducible exact ih0 _ _)
   | (with_reducible exact ih1 _ _)
   | (with_reducible exact ih2 _ _)
   | (with_reducible exact ih3 _ _)
   | (with_reducible exact LeO.refl _)
   | (with_reducible exact LeO.none _)
   | (with_reducible refine LeO.ite ?_ ?_)
   | (with_reducible refine LeO.bind ?_ (fun _ => ?_))
   | exact ih0 _ _
   | exact ih1 _ _
   | exact ih2 _ _
   | exact ih3 _ _
   | exact LeO.none _
   | refine LeO.ite ?_ ?_
   | refine LeO.bind ?_ (fun _ => ?_)
  ·intro y0 y1
   unfold gram_asked.j1
   repeat' first
   | (with_reducible exact ih0 _ _)
   | (with_reducible exact ih1 _ _)
   | (with_reducible exact ih2 _ _)
   | (with_reducible exact ih3 _ _)
   | (with_reducible exact LeO.refl _)
   | (with_reducible exact LeO.none _)
   | (with_reducible refine LeO.ite ?_ ?_)
   | (with_reducible refine LeO.bind ?_ (fun _ => ?_))
   | exact ih0 _ _
   | exact ih1 _ _
   | exact ih2 _ _
   | exact ih3 _ _
   | exact LeO.none _
   | refine LeO.ite ?_ ?_
   | refine LeO.bind ?_ (fun _ => ?_)
  ·intro y0 y1
   unfold gram_asked.j2
   repeat' first
   | (with_reducible exact ih0 _ _)
   | (with_reducible exact ih1 _ _)
   | (with_reducible exact ih2 _ _)
   | (with_reducible exact ih3 _ _)
   | (with_reducible exact LeO.refl _)
   | (with_reducible exact LeO.none _)
   | (with_reducible refine LeO.ite ?_ ?_)
   | (with_reducible refine LeO.bind ?_ (fun _ => ?_))
   | exact ih0 _ _
   | exact ih1 _ _
   | exact ih2 _ _
   | exact ih3 _ _
   | exact LeO.none _
   | refine LeO.ite ?_ ?_
   | refine LeO.bind ?_ (fun _ => ?_)
  ·intro y0 y1
   unfold gram_asked.j3
   repeat' first
   | (with_reducible exact ih0 _ _)
   | (with_reducible exact ih1 _ _)
   | (with_reducible exact ih2 _ _)
   | (with_reducible exact ih3 _ _)
   | (with_reducible exact LeO.refl _)
   | (with_reducible exact LeO.none _)
   | (with_reducible refine LeO.ite ?_ ?_)
   | (with_reducible refine LeO.bind ?_ (fun _ => ?_))
   | exact ih0 _ _
   | exact ih1 _ _
   | exact ih2 _ _
   | exact ih3 _ _
   | exact LeO.none _
   | refine LeO.ite ?_ ?_
   | refine LeO.bind ?_ (fun _ => ?_)
theorem gram_asked.mono : ∀ a0 k, LeO (gram_asked.f k a0) (gram_asked.f (k + 1) a0) := by
 intro a0 k
 obtain ⟨ih0, ih1, ih2, ih3⟩ := gram_asked.mono_l k
 unfold gram_asked.f
 repeat' first
   | (with_reducible exact ih0 _ _)
   | (with_reducible exact ih1 _ _)
   | (with_reducible exact ih2 _ _)
   | (with_reducible exact ih3 _ _)
   | (with_reducible exact LeO.refl _)
   | (with_reducible exact LeO.none _)
   | (with_reducible refine LeO.ite ?_ ?_)
   | (with_reducible refine LeO.bind ?_ (fun _ => ?_))
   | exact ih0 _ _
   | exact ih1 _ _
   | exact ih2 _ _
   | exact ih3 _ _
   | exact LeO.none _
   | refine LeO.ite ?_ ?_
   | refine LeO.bind ?_ (fun _ => ?_)
set_option maxHeartbeats 8000000 in
set_option maxRecDepth 100000 in
theorem gram_asked.calls (k : Nat) (a0 : Int) (r1 : Int) (r2 : Int) (w : World) (h : gram_asked.f k a0 = some (r1, r2)) :
  Calls Tryz.prog 133 #[.int .i64 a0] w fun e w' => e = .returned (.tuple #[.int .i64 r1, .int .i64 r2]) ∧ Drawn0 w w' := by
 have H : (if a0 = 0 then (gram_asked.j0 k a0 (a0 == 0)) else (if a0 = 7 then (gram_asked.j0 k a0 (a0 == 7)) else (if a0 = 8 then (gram_asked.j0 k a0 (a0 == 8)) else (gram_asked.j0 k a0 (a0 == 11))))) = some (r1, r2) := h
 clear h
 have HC2 := Aside0.mk H
 clear H
 go_enter Tryz.func133, Tryz.ntmps133
 go_upto_if 5 with (fail)
 go_cut [5] (fun v5 wc => ∃ (kq : Nat) (x5_1 : Bool), v5 = .bool x5_1 ∧ Aside0 (gram_asked.j0 kq a0 x5_1 = some (r1, r2)) ∧ Aside0 (kq ≤ k) ∧ Drawn0 w wc)
 case first =>
  have H := HC2.out
  clear HC2
  by_cases c3 : a0 = 0
  ·rw [if_pos c3] at H
   have c3b0 : (a0 == 0) = true := beq_iff_eq.mpr c3
   have c3b1 : (a0 != 0) = false := bne_eq_false_iff_eq.mpr c3
   clear c3
   (first | rw [c3b0] | (simp only [i64_w, i32_w]; rw [c3b0]) | skip)
   have H' := Aside0.mk H
   clear H
   go_wp2
   go_meet
   case rel => exact ⟨_, ((a0 == 0)), (by first | rfl | (simp; done) | (simp [*]; done)), H', ⟨by first | omega | exact Nat.le_refl _⟩, by repeat (first | exact Drawn0.refl _ | apply Drawn0.step)⟩
  ·rw [if_neg c3] at H
   have c3b0 : (a0 == 0) = false := beq_eq_false_iff_ne.mpr c3
   have c3b1 : (a0 != 0) = true := bne_iff_ne.mpr c3
   (first | rw [c3b0] | (simp only [i64_w, i32_w]; rw [c3b0]) | skip)
   by_cases c4 : a0 = 7
   ·rw [if_pos c4] at H
    have c4b0 : (a0 == 7) = true := beq_iff_eq.mpr c4
    have c4b1 : (a0 != 7) = false := bne_eq_false_iff_eq.mpr c4
    clear c4
    have H' := Aside0.mk H
    clear H
    go_wp2
    go_meet
    case rel => exact ⟨_, ((a0 == 7)), (by first | rfl | (simp; done) | (simp [*]; done)), H', ⟨by first | omega | exact Nat.le_refl _⟩, by repeat (first | exact Drawn0.refl _ | apply Drawn0.step)⟩
   ·rw [if_neg c4] at H
    have c4b0 : (a0 == 7) = false := beq_eq_false_iff_ne.mpr c4
    have c4b1 : (a0 != 7) = true := bne_iff_ne.mpr c4
    by_cases c5 : a0 = 8
    ·rw [if_pos c5] at H
     have c5b0 : (a0 == 8) = true := beq_iff_eq.mpr c5
     have c5b1 : (a0 != 8) = false := bne_eq_false_iff_eq.mpr c5
     clear c5
     have H' := Aside0.mk H
     clear H
     go_wp2
     go_meet
     case rel => exact ⟨_, ((a0 == 8)), (by first | rfl | (simp; done) | (simp [*]; done)), H', ⟨by first | omega | exact Nat.le_refl _⟩, by repeat (first | exact Drawn0.refl _ | apply Drawn0.step)⟩
    ·rw [if_neg c5] at H
     have c5b0 : (a0 == 8) = false := beq_eq_false_iff_ne.mpr c5
     have c5b1 : (a0 != 8) = true := bne_iff_ne.mpr c5
     have H' := Aside0.mk H
     clear H
     go_wp2
     go_meet
     case rel => exact ⟨_, ((a0 == 11)), (by first | rfl | (simp; done) | (simp [*]; done)), H', ⟨by first | omega | exact Nat.le_refl _⟩, by repeat (first | exact Drawn0.refl _ | apply Drawn0.step)⟩
 case rest =>
  clear HC2
  try clear c1
  try clear p2
  try clear c3
  try clear c3b0
  try clear c3b1
  try clear c4
  try clear c4b0
  try clear c4b1
  try clear c5
  try clear c5b0
  try clear c5b1
  obtain ⟨kq, x5_1, rfl, HA, HJ1, ⟨mc1, rfl⟩⟩ := hcut
  cases kq with
  | zero => exact absurd HA.out (by simp [gram_asked.j0])
  | succ kj1 =>
   have H := HA.out
   clear HA
   simp only [gram_asked.j0] at H
   by_cases c6 : x5_1 = true
   ·subst c6
    have H1 : (some (1, 1)) = some (r1, r2) := by rw [if_pos rfl] at H; exact H
    clear H
    have H := H1
    clear H1
    simp only [Option.some.injEq, Prod.mk.injEq] at H
    obtain ⟨rfl, rfl⟩ := H
    go_wp2
    go_ret2
    exact ⟨by first | rfl | (simp; done) | (simp [*]; done), by repeat (first | exact Drawn0.refl _ | apply Drawn0.step)⟩
   ·replace c6 := Bool.eq_false_iff.mpr c6
    subst c6
    have H1 : (if a0 = 2 then (gram_asked.j1 kj1 a0 (a0 == 2)) else (if a0 = 5 then (gram_asked.j1 kj1 a0 (a0 == 5)) else (if a0 = 9 then (gram_asked.j1 kj1 a0 (a0 == 9)) else (if a0 = 12 then (gram_asked.j1 kj1 a0 (a0 == 12)) else (if a0 = 13 then (gram_asked.j1 kj1 a0 (a0 == 13)) else (if a0 = 14 then (gram_asked.j1 kj1 a0 (a0 == 14)) else (gram_asked.j1 kj1 a0 (a0 == 15)))))))) = some (r1, r2) := by rw [if_neg (show ¬ (false = true) by decide)] at H; exact H
    clear H
    have H := H1
    clear H1
    have HC7 := Aside0.mk H
    clear H
    go_upto_if 10 with (fail)
    go_cut [10] (fun v10 wc => ∃ (kq : Nat) (x10_6 : Bool), v10 = .bool x10_6 ∧ Aside0 (gram_asked.j1 kq a0 x10_6 = some (r1, r2)) ∧ Aside0 (kq ≤ kj1) ∧ Drawn0 w wc)
    case first =>
     have H := HC7.out
     clear HC7
     by_cases c8 : a0 = 2
     ·rw [if_pos c8] at H
      have c8b0 : (a0 == 2) = true := beq_iff_eq.mpr c8
      have c8b1 : (a0 != 2) = false := bne_eq_false_iff_eq.mpr c8
      clear c8
      (first | rw [c8b0] | (simp only [i64_w, i32_w]; rw [c8b0]) | skip)
      have H' := Aside0.mk H
      clear H
      go_wp2
      go_meet
      case rel => exact ⟨_, ((a0 == 2)), (by first | rfl | (simp; done) | (simp [*]; done)), H', ⟨by have := HJ1.out; first | omega | exact Nat.le_refl _⟩, by repeat (first | exact Drawn0.refl _ | apply Drawn0.step)⟩
     ·rw [if_neg c8] at H
      have c8b0 : (a0 == 2) = false := beq_eq_false_iff_ne.mpr c8
      have c8b1 : (a0 != 2) = true := bne_iff_ne.mpr c8
      (first | rw [c8b0] | (simp only [i64_w, i32_w]; rw [c8b0]) | skip)
      by_cases c9 : a0 = 5
      ·rw [if_pos c9] at H
       have c9b0 : (a0 == 5) = true := beq_iff_eq.mpr c9
       have c9b1 : (a0 != 5) = false := bne_eq_false_iff_eq.mpr c9
       clear c9
       have H' := Aside0.mk H
       clear H
       go_wp2
       go_meet
       case rel => exact ⟨_, ((a0 == 5)), (by first | rfl | (simp; done) | (simp [*]; done)), H', ⟨by have := HJ1.out; first | omega | exact Nat.le_refl _⟩, by repeat (first | exact Drawn0.refl _ | apply Drawn0.step)⟩
      ·rw [if_neg c9] at H
       have c9b0 : (a0 == 5) = false := beq_eq_false_iff_ne.mpr c9
       have c9b1 : (a0 != 5) = true := bne_iff_ne.mpr c9
       by_cases c10 : a0 = 9
       ·rw [if_pos c10] at H
        have c10b0 : (a0 == 9) = true := beq_iff_eq.mpr c10
        have c10b1 : (a0 != 9) = false := bne_eq_false_iff_eq.mpr c10
        clear c10
        have H' := Aside0.mk H
        clear H
        go_wp2
        go_meet
        case rel => exact ⟨_, ((a0 == 9)), (by first | rfl | (simp; done) | (simp [*]; done)), H', ⟨by have := HJ1.out; first | omega | exact Nat.le_refl _⟩, by repeat (first | exact Drawn0.refl _ | apply Drawn0.step)⟩
       ·rw [if_neg c10] at H
        have c10b0 : (a0 == 9) = false := beq_eq_false_iff_ne.mpr c10
        have c10b1 : (a0 != 9) = true := bne_iff_ne.mpr c10
        by_cases c11 : a0 = 12
        ·rw [if_pos c11] at H
         have c11b0 : (a0 == 12) = true := beq_iff_eq.mpr c11
         have c11b1 : (a0 != 12) = false := bne_eq_false_iff_eq.mpr c11
         clear c11
         have H' := Aside0.mk H
         clear H
         go_wp2
         go_meet
         case rel => exact ⟨_, ((a0 == 12)), (by first | rfl | (simp; done) | (simp [*]; done)), H', ⟨by have := HJ1.out; first | omega | exact Nat.le_refl _⟩, by repeat (first | exact Drawn0.refl _ | apply Drawn0.step)⟩
        ·rw [if_neg c11] at H
         have c11b0 : (a0 == 12) = false := beq_eq_false_iff_ne.mpr c11
         have c11b1 : (a0 != 12) = true := bne_iff_ne.mpr c11
         by_cases c12 : a0 = 13
         ·rw [if_pos c12] at H
          have c12b0 : (a0 == 13) = true := beq_iff_eq.mpr c12
          have c12b1 : (a0 != 13) = false := bne_eq_false_iff_eq.mpr c12
          clear c12
          have H' := Aside0.mk H
          clear H
          go_wp2
          go_meet
          case rel => exact ⟨_, ((a0 == 13)), (by first | rfl | (simp; done) | (simp [*]; done)), H', ⟨by have := HJ1.out; first | omega | exact Nat.le_refl _⟩, by repeat (first | exact Drawn0.refl _ | apply Drawn0.step)⟩
         ·rw [if_neg c12] at H
          have c12b0 : (a0 == 13) = false := beq_eq_false_iff_ne.mpr c12
          have c12b1 : (a0 != 13) = true := bne_iff_ne.mpr c12
          by_cases c13 : a0 = 14
          ·rw [if_pos c13] at H
           have c13b0 : (a0 == 14) = true := beq_iff_eq.mpr c13
           have c13b1 : (a0 != 14) = false := bne_eq_false_iff_eq.mpr c13
           clear c13
           have H' := Aside0.mk H
           clear H
           go_wp2
           go_meet
           case rel => exact ⟨_, ((a0 == 14)), (by first | rfl | (simp; done) | (simp [*]; done)), H', ⟨by have := HJ1.out; first | omega | exact Nat.le_refl _⟩, by repeat (first | exact Drawn0.refl _ | apply Drawn0.step)⟩
          ·rw [if_neg c13] at H
           have c13b0 : (a0 == 14) = false := beq_eq_false_iff_ne.mpr c13
           have c13b1 : (a0 != 14) = true := bne_iff_ne.mpr c13
           have H' := Aside0.mk H
           clear H
           go_wp2
           go_meet
           case rel => exact ⟨_, ((a0 == 15)), (by first | rfl | (simp; done) | (simp [*]; done)), H', ⟨by have := HJ1.out; first | omega | exact Nat.le_refl _⟩, by repeat (first | exact Drawn0.refl _ | apply Drawn0.step)⟩
    case rest =>
     clear HC7
     try clear c1
     try clear p2
     try clear c3
     try clear c3b0
     try clear c3b1
     try clear c4
     try clear c4b0
     try clear c4b1
     try clear c5
     try clear c5b0
     try clear c5b1
     try clear c6
     try clear c8
     try clear c8b0
     try clear c8b1
     try clear c9
     try clear c9b0
     try clear c9b1
     try clear c10
     try clear c10b0
     try clear c10b1
     try clear c11
     try clear c11b0
     try clear c11b1
     try clear c12
     try clear c12b0
     try clear c12b1
     try clear c13
     try clear c13b0
     try clear c13b1
     try clear p2
     obtain ⟨kq, x10_6, rfl, HA, HJ6, ⟨mc6, rfl⟩⟩ := hcut
     cases kq with
     | zero => exact absurd HA.out (by simp [gram_asked.j1])
     | succ kj6 =>
      have H := HA.out
      clear HA
      simp only [gram_asked.j1] at H
      by_cases c14 : x10_6 = true
      ·subst c14
       have H1 : (some (2, 2)) = some (r1, r2) := by rw [if_pos rfl] at H; exact H
       clear H
       have H := H1
       clear H1
       simp only [Option.some.injEq, Prod.mk.injEq] at H
       obtain ⟨rfl, rfl⟩ := H
       go_wp2
       go_ret2
       exact ⟨by first | rfl | (simp; done) | (simp [*]; done), by repeat (first | exact Drawn0.refl _ | apply Drawn0.step)⟩
      ·replace c14 := Bool.eq_false_iff.mpr c14
       subst c14
       have H1 : (if a0 = 1 then (gram_asked.j2 kj6 a0 (a0 == 1)) else (gram_asked.j2 kj6 a0 (a0 == 6))) = some (r1, r2) := by rw [if_neg (show ¬ (false = true) by decide)] at H; exact H
       clear H
       have H := H1
       clear H1
       have HC15 := Aside0.mk H
       clear H
       go_upto_if 18 with (fail)
       go_cut [18] (fun v18 wc => ∃ (kq : Nat) (x18_14 : Bool), v18 = .bool x18_14 ∧ Aside0 (gram_asked.j2 kq a0 x18_14 = some (r1, r2)) ∧ Aside0 (kq ≤ kj6) ∧ Drawn0 w wc)
       case first =>
        have H := HC15.out
        clear HC15
        by_cases c16 : a0 = 1
        ·rw [if_pos c16] at H
         have c16b0 : (a0 == 1) = true := beq_iff_eq.mpr c16
         have c16b1 : (a0 != 1) = false := bne_eq_false_iff_eq.mpr c16
         clear c16
         (first | rw [c16b0] | (simp only [i64_w, i32_w]; rw [c16b0]) | skip)
         have H' := Aside0.mk H
         clear H
         go_wp2
         go_meet
         case rel => exact ⟨_, ((a0 == 1)), (by first | rfl | (simp; done) | (simp [*]; done)), H', ⟨by have := HJ1.out; have := HJ6.out; first | omega | exact Nat.le_refl _⟩, by repeat (first | exact Drawn0.refl _ | apply Drawn0.step)⟩
        ·rw [if_neg c16] at H
         have c16b0 : (a0 == 1) = false := beq_eq_false_iff_ne.mpr c16
         have c16b1 : (a0 != 1) = true := bne_iff_ne.mpr c16
         (first | rw [c16b0] | (simp only [i64_w, i32_w]; rw [c16b0]) | skip)
         have H' := Aside0.mk H
         clear H
         go_wp2
         go_meet
         case rel => exact ⟨_, ((a0 == 6)), (by first | rfl | (simp; done) | (simp [*]; done)), H', ⟨by have := HJ1.out; have := HJ6.out; first | omega | exact Nat.le_refl _⟩, by repeat (first | exact Drawn0.refl _ | apply Drawn0.step)⟩
       case rest =>
        clear HC15
        try clear c1
        try clear p2
        try clear c3
        try clear c3b0
        try clear c3b1
        try clear c4
        try clear c4b0
        try clear c4b1
        try clear c5
        try clear c5b0
        try clear c5b1
        try clear c6
        try clear c8
        try clear c8b0
        try clear c8b1
        try clear c9
        try clear c9b0
        try clear c9b1
        try clear c10
        try clear c10b0
        try clear c10b1
        try clear c11
        try clear c11b0
        try clear c11b1
        try clear c12
        try clear c12b0
        try clear c12b1
        try clear c13
        try clear c13b0
        try clear c13b1
        try clear c14
        try clear c16
        try clear c16b0
        try clear c16b1
        try clear p2
        obtain ⟨kq, x18_14, rfl, HA, HJ14, ⟨mc14, rfl⟩⟩ := hcut
        cases kq with
        | zero => exact absurd HA.out (by simp [gram_asked.j2])
        | succ kj14 =>
         have H := HA.out
         clear HA
         simp only [gram_asked.j2] at H
         by_cases c17 : x18_14 = true
         ·subst c17
          have H1 : (some (3, 3)) = some (r1, r2) := by rw [if_pos rfl] at H; exact H
          clear H
          have H := H1
          clear H1
          simp only [Option.some.injEq, Prod.mk.injEq] at H
          obtain ⟨rfl, rfl⟩ := H
          go_wp2
          go_ret2
          exact ⟨by first | rfl | (simp; done) | (simp [*]; done), by repeat (first | exact Drawn0.refl _ | apply Drawn0.step)⟩
         ·replace c17 := Bool.eq_false_iff.mpr c17
          subst c17
          have H1 : (if a0 = 3 then (gram_asked.j3 kj14 a0 (a0 == 3)) else (gram_asked.j3 kj14 a0 (a0 == 4))) = some (r1, r2) := by rw [if_neg (show ¬ (false = true) by decide)] at H; exact H
          clear H
          have H := H1
          clear H1
          have HC18 := Aside0.mk H
          clear H
          go_upto_if 21 with (fail)
          go_cut [21] (fun v21 wc => ∃ (kq : Nat) (x21_17 : Bool), v21 = .bool x21_17 ∧ Aside0 (gram_asked.j3 kq a0 x21_17 = some (r1, r2)) ∧ Aside0 (kq ≤ kj14) ∧ Drawn0 w wc)
          case first =>
           have H := HC18.out
           clear HC18
           by_cases c19 : a0 = 3
           ·rw [if_pos c19] at H
            have c19b0 : (a0 == 3) = true := beq_iff_eq.mpr c19
            have c19b1 : (a0 != 3) = false := bne_eq_false_iff_eq.mpr c19
            clear c19
            (first | rw [c19b0] | (simp only [i64_w, i32_w]; rw [c19b0]) | skip)
            have H' := Aside0.mk H
            clear H
            go_wp2
            go_meet
            case rel => exact ⟨_, ((a0 == 3)), (by first | rfl | (simp; done) | (simp [*]; done)), H', ⟨by have := HJ1.out; have := HJ6.out; have := HJ14.out; first | omega | exact Nat.le_refl _⟩, by repeat (first | exact Drawn0.refl _ | apply Drawn0.step)⟩
           ·rw [if_neg c19] at H
            have c19b0 : (a0 == 3) = false := beq_eq_false_iff_ne.mpr c19
            have c19b1 : (a0 != 3) = true := bne_iff_ne.mpr c19
            (first | rw [c19b0] | (simp only [i64_w, i32_w]; rw [c19b0]) | skip)
            have H' := Aside0.mk H
            clear H
            go_wp2
            go_meet
            case rel => exact ⟨_, ((a0 == 4)), (by first | rfl | (simp; done) | (simp [*]; done)), H', ⟨by have := HJ1.out; have := HJ6.out; have := HJ14.out; first | omega | exact Nat.le_refl _⟩, by repeat (first | exact Drawn0.refl _ | apply Drawn0.step)⟩
          case rest =>
           clear HC18
           try clear c1
           try clear p2
           try clear c3
           try clear c3b0
           try clear c3b1
           try clear c4
           try clear c4b0
           try clear c4b1
           try clear c5
           try clear c5b0
           try clear c5b1
           try clear c6
           try clear c8
           try clear c8b0
           try clear c8b1
           try clear c9
           try clear c9b0
           try clear c9b1
           try clear c10
           try clear c10b0
           try clear c10b1
           try clear c11
           try clear c11b0
           try clear c11b1
           try clear c12
           try clear c12b0
           try clear c12b1
           try clear c13
           try clear c13b0
           try clear c13b1
           try clear c14
           try clear c16
           try clear c16b0
           try clear c16b1
           try clear c17
           try clear c19
           try clear c19b0
           try clear c19b1
           try clear p2
           obtain ⟨kq, x21_17, rfl, HA, HJ17, ⟨mc17, rfl⟩⟩ := hcut
           cases kq with
           | zero => exact absurd HA.out (by simp [gram_asked.j3])
           | succ kj17 =>
            have H := HA.out
            clear HA
            simp only [gram_asked.j3] at H
            by_cases c20 : x21_17 = true
            ·subst c20
             have H1 : (some (2, 3)) = some (r1, r2) := by rw [if_pos rfl] at H; exact H
             clear H
             have H := H1
             clear H1
             simp only [Option.some.injEq, Prod.mk.injEq] at H
             obtain ⟨rfl, rfl⟩ := H
             go_wp2
             go_ret2
             exact ⟨by first | rfl | (simp; done) | (simp [*]; done), by repeat (first | exact Drawn0.refl _ | apply Drawn0.step)⟩
            ·replace c20 := Bool.eq_false_iff.mpr c20
             subst c20
             have H1 : (if a0 = 10 then (some (1, 6)) else (some (1, 0))) = some (r1, r2) := by rw [if_neg (show ¬ (false = true) by decide)] at H; exact H
             clear H
             have H := H1
             clear H1
             by_cases c21 : a0 = 10
             ·rw [if_pos c21] at H
              have c21b0 : (a0 == 10) = true := beq_iff_eq.mpr c21
              have c21b1 : (a0 != 10) = false := bne_eq_false_iff_eq.mpr c21
              clear c21
              simp only [Option.some.injEq, Prod.mk.injEq] at H
              obtain ⟨rfl, rfl⟩ := H
              go_wp2
              go_ret2
              exact ⟨by first | rfl | (simp; done) | (simp [*]; done), by repeat (first | exact Drawn0.refl _ | apply Drawn0.step)⟩
             ·rw [if_neg c21] at H
              have c21b0 : (a0 == 10) = false := beq_eq_false_iff_ne.mpr c21
              have c21b1 : (a0 != 10) = true := bne_iff_ne.mpr c21
              simp only [Option.some.injEq, Prod.mk.injEq] at H
              obtain ⟨rfl, rfl⟩ := H
              go_wp2
              go_ret2
              exact ⟨by first | rfl | (simp; done) | (simp [*]; done), by repeat (first | exact Drawn0.refl _ | apply Drawn0.step)⟩
noncomputable def gram_symbol.f (a0 : Int) : Option (Bool) := if a0 ≥ 0 then (some (decide (a0 < 20))) else (some false)
set_option maxHeartbeats 8000000 in
set_option maxRecDepth 100000 in
theorem gram_symbol.calls (a0 : Int) (r : Bool) (w : World) (h : gram_symbol.f a0 = some r) :
  Calls Tryz.prog 134 #[.int .i64 a0] w fun e w' => e = .returned (.bool r) ∧ Drawn0 w w' := by
 have H : (if a0 ≥ 0 then (some (decide (a0 < 20))) else (some false)) = some r := h
 clear h
 by_cases c2 : a0 ≥ 0
 ·rw [if_pos c2] at H
  have c2b0 : decide (0 ≤ a0) = true := decide_eq_true c2
  clear c2
  obtain rfl := Option.some.inj H
  go_enter Tryz.func134, Tryz.ntmps134
  go_wp2
  go_ret
  exact ⟨by first | rfl | (simp; done) | (simp [*]; done), by repeat (first | exact Drawn0.refl _ | apply Drawn0.step)⟩
 ·rw [if_neg c2] at H
  have c2b0 : decide (0 ≤ a0) = false := decide_eq_false c2
  clear c2
  obtain rfl := Option.some.inj H
  go_enter Tryz.func134, Tryz.ntmps134
  go_wp2
  go_ret
  exact ⟨by first | rfl | (simp; done) | (simp [*]; done), by repeat (first | exact Drawn0.refl _ | apply Drawn0.step)⟩
noncomputable def gram_within.f (a0 : Int) (a1 : Int) (a2 : Int) : Option (Bool) := if a0 ≥ a1 then (some (decide (a0 ≤ a2))) else (some false)
set_option maxHeartbeats 8000000 in
set_option maxRecDepth 100000 in
theorem gram_within.calls (a0 : Int) (a1 : Int) (a2 : Int) (r : Bool) (w : World) (h : gram_within.f a0 a1 a2 = some r) :
  Calls Tryz.prog 135 #[.int .i64 a0, .int .i64 a1, .int .i64 a2] w fun e w' => e = .returned (.bool r) ∧ Drawn0 w w' := by
 have H : (if a0 ≥ a1 then (some (decide (a0 ≤ a2))) else (some false)) = some r := h
 clear h
 by_cases c4 : a0 ≥ a1
 ·rw [if_pos c4] at H
  have c4b0 : decide (a1 ≤ a0) = true := decide_eq_true c4
  clear c4
  obtain rfl := Option.some.inj H
  go_enter Tryz.func135, Tryz.ntmps135
  go_wp2
  go_ret
  exact ⟨by first | rfl | (simp; done) | (simp [*]; done), by repeat (first | exact Drawn0.refl _ | apply Drawn0.step)⟩
 ·rw [if_neg c4] at H
  have c4b0 : decide (a1 ≤ a0) = false := decide_eq_false c4
  clear c4
  obtain rfl := Option.some.inj H
  go_enter Tryz.func135, Tryz.ntmps135
  go_wp2
  go_ret
  exact ⟨by first | rfl | (simp; done) | (simp [*]; done), by repeat (first | exact Drawn0.refl _ | apply Drawn0.step)⟩
noncomputable def fold_rows.f  : Option ((List (S192))) := some (([(⟨9, 9, 32, 0⟩ : S192), (⟨160, 160, 32, 0⟩ : S192), (⟨8192, 8202, 32, 0⟩ : S192), (⟨8239, 8239, 32, 0⟩ : S192), (⟨8287, 8287, 32, 0⟩ : S192), (⟨12288, 12288, 32, 0⟩ : S192), (⟨8208, 8213, 45, 0⟩ : S192), (⟨8722, 8722, 45, 0⟩ : S192), (⟨8216, 8217, 39, 0⟩ : S192), (⟨700, 700, 39, 0⟩ : S192), (⟨1632, 1641, 48, 1⟩ : S192), (⟨1776, 1785, 48, 1⟩ : S192), (⟨2406, 2415, 48, 1⟩ : S192), (⟨65, 90, 97, 1⟩ : S192), (⟨192, 214, 224, 1⟩ : S192), (⟨216, 222, 248, 1⟩ : S192), (⟨913, 929, 945, 1⟩ : S192), (⟨931, 937, 963, 1⟩ : S192), (⟨1040, 1071, 1072, 1⟩ : S192), (⟨1024, 1039, 1104, 1⟩ : S192)] : List (S192)))
set_option maxHeartbeats 8000000 in
set_option maxRecDepth 100000 in
theorem fold_rows.calls  (r : List (S192)) (w : World) (h : fold_rows.f  = some r) :
  Calls Tryz.prog 152 #[] w fun e w' => ∃ v0_ : Value, e = .returned (v0_) ∧ Kd.R k192 192 w' w.heap.size (fun _ => True) v0_ r ∧ Below w.heap.size w w' := by
 have hu192 := Tryz.underlying192
 have HB := Aside0.mk (Below.refl w.heap.size w)
 have H : (some (([(⟨9, 9, 32, 0⟩ : S192), (⟨160, 160, 32, 0⟩ : S192), (⟨8192, 8202, 32, 0⟩ : S192), (⟨8239, 8239, 32, 0⟩ : S192), (⟨8287, 8287, 32, 0⟩ : S192), (⟨12288, 12288, 32, 0⟩ : S192), (⟨8208, 8213, 45, 0⟩ : S192), (⟨8722, 8722, 45, 0⟩ : S192), (⟨8216, 8217, 39, 0⟩ : S192), (⟨700, 700, 39, 0⟩ : S192), (⟨1632, 1641, 48, 1⟩ : S192), (⟨1776, 1785, 48, 1⟩ : S192), (⟨2406, 2415, 48, 1⟩ : S192), (⟨65, 90, 97, 1⟩ : S192), (⟨192, 214, 224, 1⟩ : S192), (⟨216, 222, 248, 1⟩ : S192), (⟨913, 929, 945, 1⟩ : S192), (⟨931, 937, 963, 1⟩ : S192), (⟨1040, 1071, 1072, 1⟩ : S192), (⟨1024, 1039, 1104, 1⟩ : S192)] : List (S192)))) = some r := h
 clear h
 obtain ⟨y107, hy107⟩ : ∃ y_ : List (S192), y_ = (([(⟨9, 9, 32, 0⟩ : S192), (⟨160, 160, 32, 0⟩ : S192), (⟨8192, 8202, 32, 0⟩ : S192), (⟨8239, 8239, 32, 0⟩ : S192), (⟨8287, 8287, 32, 0⟩ : S192), (⟨12288, 12288, 32, 0⟩ : S192), (⟨8208, 8213, 45, 0⟩ : S192), (⟨8722, 8722, 45, 0⟩ : S192), (⟨8216, 8217, 39, 0⟩ : S192), (⟨700, 700, 39, 0⟩ : S192), (⟨1632, 1641, 48, 1⟩ : S192), (⟨1776, 1785, 48, 1⟩ : S192), (⟨2406, 2415, 48, 1⟩ : S192), (⟨65, 90, 97, 1⟩ : S192), (⟨192, 214, 224, 1⟩ : S192), (⟨216, 222, 248, 1⟩ : S192), (⟨913, 929, 945, 1⟩ : S192), (⟨931, 937, 963, 1⟩ : S192), (⟨1040, 1071, 1072, 1⟩ : S192), (⟨1024, 1039, 1104, 1⟩ : S192)] : List (S192))) := ⟨_, rfl⟩
 replace H : (some y107) = some r := by first | (rw [hy107]; with_reducible exact H) | (have H2_ := (Option.bind_some _ _).symm.trans H; rw [hy107]; with_reducible exact H2_) | (have H2_ := (Option.bind_some _ _).symm.trans H; with_reducible exact H2_) | with_reducible exact H | (rw [hy107]; exact H) | exact H
 have Ny107 := Aside0.mk hy107
 clear hy107
 obtain rfl := Option.some.inj H
 go_enter Tryz.func152, Tryz.ntmps152
 go_wp2_with (first | ((with_reducible refine gate_dst (N := 21) rfl ?_); refine Kd.R_lit k192 _ 192 ?hg (N := 21) ?hd (xs := ([(⟨9, 9, 32, 0⟩ : S192), (⟨160, 160, 32, 0⟩ : S192), (⟨8192, 8202, 32, 0⟩ : S192), (⟨8239, 8239, 32, 0⟩ : S192), (⟨8287, 8287, 32, 0⟩ : S192), (⟨12288, 12288, 32, 0⟩ : S192), (⟨8208, 8213, 45, 0⟩ : S192), (⟨8722, 8722, 45, 0⟩ : S192), (⟨8216, 8217, 39, 0⟩ : S192), (⟨700, 700, 39, 0⟩ : S192), (⟨1632, 1641, 48, 1⟩ : S192), (⟨1776, 1785, 48, 1⟩ : S192), (⟨2406, 2415, 48, 1⟩ : S192), (⟨65, 90, 97, 1⟩ : S192), (⟨192, 214, 224, 1⟩ : S192), (⟨216, 222, 248, 1⟩ : S192), (⟨913, 929, 945, 1⟩ : S192), (⟨931, 937, 963, 1⟩ : S192), (⟨1040, 1071, 1072, 1⟩ : S192), (⟨1024, 1039, 1104, 1⟩ : S192)] : List (S192))) (inner := [.int .i64 9, .int .i64 9, .int .i64 32, .int .i64 0, .int .i64 160, .int .i64 160, .int .i64 32, .int .i64 0, .int .i64 8192, .int .i64 8202, .int .i64 32, .int .i64 0, .int .i64 8239, .int .i64 8239, .int .i64 32, .int .i64 0, .int .i64 8287, .int .i64 8287, .int .i64 32, .int .i64 0, .int .i64 12288, .int .i64 12288, .int .i64 32, .int .i64 0, .int .i64 8208, .int .i64 8213, .int .i64 45, .int .i64 0, .int .i64 8722, .int .i64 8722, .int .i64 45, .int .i64 0, .int .i64 8216, .int .i64 8217, .int .i64 39, .int .i64 0, .int .i64 700, .int .i64 700, .int .i64 39, .int .i64 0, .int .i64 1632, .int .i64 1641, .int .i64 48, .int .i64 1, .int .i64 1776, .int .i64 1785, .int .i64 48, .int .i64 1, .int .i64 2406, .int .i64 2415, .int .i64 48, .int .i64 1, .int .i64 65, .int .i64 90, .int .i64 97, .int .i64 1, .int .i64 192, .int .i64 214, .int .i64 224, .int .i64 1, .int .i64 216, .int .i64 222, .int .i64 248, .int .i64 1, .int .i64 913, .int .i64 929, .int .i64 945, .int .i64 1, .int .i64 931, .int .i64 937, .int .i64 963, .int .i64 1, .int .i64 1040, .int .i64 1071, .int .i64 1072, .int .i64 1, .int .i64 1024, .int .i64 1039, .int .i64 1104, .int .i64 1]) (ok := fun _ => True) (okp := fun _ => True) ?hr ?hp (fun _ hk => hk) trivial (Below.refl _ _) (Nat.le_refl _) (by simp) ?_; (case hd => rfl); (case hg => rfl); (case hr => first | (go_simp; done) | (go_simp; rfl)); (case hp => exact (Reps.c4 (show Kd.M k192 _ _ _ (⟨9, 9, 32, 0⟩ : S192) [.int .i64 9, .int .i64 9, .int .i64 32, .int .i64 0] from (k192_mkM _ _ _ (⟨9, 9, 32, 0⟩ : S192) )) (Reps.c4 (show Kd.M k192 _ _ _ (⟨160, 160, 32, 0⟩ : S192) [.int .i64 160, .int .i64 160, .int .i64 32, .int .i64 0] from (k192_mkM _ _ _ (⟨160, 160, 32, 0⟩ : S192) )) (Reps.c4 (show Kd.M k192 _ _ _ (⟨8192, 8202, 32, 0⟩ : S192) [.int .i64 8192, .int .i64 8202, .int .i64 32, .int .i64 0] from (k192_mkM _ _ _ (⟨8192, 8202, 32, 0⟩ : S192) )) (Reps.c4 (show Kd.M k192 _ _ _ (⟨8239, 8239, 32, 0⟩ : S192) [.int .i64 8239, .int .i64 8239, .int .i64 32, .int .i64 0] from (k192_mkM _ _ _ (⟨8239, 8239, 32, 0⟩ : S192) )) (Reps.c4 (show Kd.M k192 _ _ _ (⟨8287, 8287, 32, 0⟩ : S192) [.int .i64 8287, .int .i64 8287, .int .i64 32, .int .i64 0] from (k192_mkM _ _ _ (⟨8287, 8287, 32, 0⟩ : S192) )) (Reps.c4 (show Kd.M k192 _ _ _ (⟨12288, 12288, 32, 0⟩ : S192) [.int .i64 12288, .int .i64 12288, .int .i64 32, .int .i64 0] from (k192_mkM _ _ _ (⟨12288, 12288, 32, 0⟩ : S192) )) (Reps.c4 (show Kd.M k192 _ _ _ (⟨8208, 8213, 45, 0⟩ : S192) [.int .i64 8208, .int .i64 8213, .int .i64 45, .int .i64 0] from (k192_mkM _ _ _ (⟨8208, 8213, 45, 0⟩ : S192) )) (Reps.c4 (show Kd.M k192 _ _ _ (⟨8722, 8722, 45, 0⟩ : S192) [.int .i64 8722, .int .i64 8722, .int .i64 45, .int .i64 0] from (k192_mkM _ _ _ (⟨8722, 8722, 45, 0⟩ : S192) )) (Reps.c4 (show Kd.M k192 _ _ _ (⟨8216, 8217, 39, 0⟩ : S192) [.int .i64 8216, .int .i64 8217, .int .i64 39, .int .i64 0] from (k192_mkM _ _ _ (⟨8216, 8217, 39, 0⟩ : S192) )) (Reps.c4 (show Kd.M k192 _ _ _ (⟨700, 700, 39, 0⟩ : S192) [.int .i64 700, .int .i64 700, .int .i64 39, .int .i64 0] from (k192_mkM _ _ _ (⟨700, 700, 39, 0⟩ : S192) )) (Reps.c4 (show Kd.M k192 _ _ _ (⟨1632, 1641, 48, 1⟩ : S192) [.int .i64 1632, .int .i64 1641, .int .i64 48, .int .i64 1] from (k192_mkM _ _ _ (⟨1632, 1641, 48, 1⟩ : S192) )) (Reps.c4 (show Kd.M k192 _ _ _ (⟨1776, 1785, 48, 1⟩ : S192) [.int .i64 1776, .int .i64 1785, .int .i64 48, .int .i64 1] from (k192_mkM _ _ _ (⟨1776, 1785, 48, 1⟩ : S192) )) (Reps.c4 (show Kd.M k192 _ _ _ (⟨2406, 2415, 48, 1⟩ : S192) [.int .i64 2406, .int .i64 2415, .int .i64 48, .int .i64 1] from (k192_mkM _ _ _ (⟨2406, 2415, 48, 1⟩ : S192) )) (Reps.c4 (show Kd.M k192 _ _ _ (⟨65, 90, 97, 1⟩ : S192) [.int .i64 65, .int .i64 90, .int .i64 97, .int .i64 1] from (k192_mkM _ _ _ (⟨65, 90, 97, 1⟩ : S192) )) (Reps.c4 (show Kd.M k192 _ _ _ (⟨192, 214, 224, 1⟩ : S192) [.int .i64 192, .int .i64 214, .int .i64 224, .int .i64 1] from (k192_mkM _ _ _ (⟨192, 214, 224, 1⟩ : S192) )) (Reps.c4 (show Kd.M k192 _ _ _ (⟨216, 222, 248, 1⟩ : S192) [.int .i64 216, .int .i64 222, .int .i64 248, .int .i64 1] from (k192_mkM _ _ _ (⟨216, 222, 248, 1⟩ : S192) )) (Reps.c4 (show Kd.M k192 _ _ _ (⟨913, 929, 945, 1⟩ : S192) [.int .i64 913, .int .i64 929, .int .i64 945, .int .i64 1] from (k192_mkM _ _ _ (⟨913, 929, 945, 1⟩ : S192) )) (Reps.c4 (show Kd.M k192 _ _ _ (⟨931, 937, 963, 1⟩ : S192) [.int .i64 931, .int .i64 937, .int .i64 963, .int .i64 1] from (k192_mkM _ _ _ (⟨931, 937, 963, 1⟩ : S192) )) (Reps.c4 (show Kd.M k192 _ _ _ (⟨1040, 1071, 1072, 1⟩ : S192) [.int .i64 1040, .int .i64 1071, .int .i64 1072, .int .i64 1] from (k192_mkM _ _ _ (⟨1040, 1071, 1072, 1⟩ : S192) )) (Reps.c4 (show Kd.M k192 _ _ _ (⟨1024, 1039, 1104, 1⟩ : S192) [.int .i64 1024, .int .i64 1039, .int .i64 1104, .int .i64 1] from (k192_mkM _ _ _ (⟨1024, 1039, 1104, 1⟩ : S192) )) (Reps.none _ _)))))))))))))))))))))); intro v108 w1 ho2 hb hg_ hnew_; clear hg_ hnew_; (first | rw [← Ny107.out] at ho2 | (simp only [Int.reduceToNat] at ho2; rw [← Ny107.out] at ho2)); have n0_ := Aside0.mk (Kd.R_lower ho2 (below_size (by repeat (first | (with_reducible first | exact HB.out | apply below_alloc | apply pw_below_drewN | apply below_drew1) | exact HB.out)))); have n1_ := Aside0.mk (below_step (by repeat (first | (with_reducible first | exact HB.out | apply below_alloc | apply pw_below_drewN | apply below_drew1) | exact HB.out)) hb); clear HB; have HO109 := n0_; have HB := n1_; clear n0_ n1_; clear hb ho2))
 go_ret
 exact ⟨_, by first | rfl | (simp [errW_none, errW_some] <;> rfl) | (simp [*, errW_none, errW_some] <;> rfl), by (with_reducible repeat (first | apply Kd.R_alloc | apply Kd.R_drewN | apply Kd.R_drew)); exact HO109.out, by repeat (first | (with_reducible first | exact HB.out | apply below_alloc | apply pw_below_drewN | apply below_drew1) | exact HB.out)⟩
end Go.Proofs.YtiocgaekoeekgaaGreat.P
end
section
namespace Go.Proofs.YtiocgaekoeekgaaGreat.P
open Go.RowKit Go.Shelf Go.Proofs.YtiocgaekoeekgaaGreatW.PrintWords Go.Proofs.YtiocgaekoeekgaaGreatW.PrintLast Go.Proofs.YtiocgaekoeekgaaGreatW.PrintMore
def FnTells {α : Type} (P : Program) (w : World) (rel : World → α → Value → Prop) (fv : Value) (p : α → Bool) : Prop :=
 ∃ (g : Nat) (pre lb : Array Value), fv = .func (.func g) pre lb ∧ (∀ args w, (callFunc g args).run P w = .ok (.enter g args) w) ∧
  ∀ W x v, Below w.heap.size w W → rel W x v → Calls P g (pre ++ #[v] ++ lb) W fun e w' => e = .returned (.bool (p x)) ∧ Below W.heap.size W w'
theorem ret_bool {a b : Bool} (h : a = b) : Ending.returned (.bool a) = .returned (.bool b) := by rw [h]
theorem cell_new0 (w : World) (v : Value) (t : TypeId) : (w.alloc (.cells #[v] t)).cell? ⟨w.heap.size, 0, none⟩ = some v := World.cell?_alloc_at _ _ _ _ rfl
def IntRel (_ : World) (x : Int) (v : Value) : Prop := v = .int .i64 x
def AggRel {α : Type} (d : Kd α) (W : World) (x : α) (v : Value) : Prop := ∃ cs : List Value, v = .agg cs.toArray ∧ d.K W x cs
def idxOf {α : Type} (p : α → Bool) (l : List α) : Int := match l.findIdx? p with | some i => i | none => -1
theorem idxOf_hit {α : Type} {p : α → Bool} {l : List α} {k : Nat} (hk : k < l.length) (h0 : ∀ j, j < k → ∀ h : j < l.length, p l[j] = false) (h1 : p l[k] = true) : idxOf p l = k := by
 have : l.findIdx? p = some k := by
  rw [List.findIdx?_eq_some_iff_getElem]
  exact ⟨hk, h1, fun j hj => by simpa using h0 j hj (by omega)⟩
 simp [idxOf, this]
theorem idxOf_miss {α : Type} {p : α → Bool} {l : List α} (h0 : ∀ j, j < l.length → ∀ h : j < l.length, p l[j] = false) : idxOf p l = -1 := by
 have : l.findIdx? p = none := by
  rw [List.findIdx?_eq_none_iff]
  intro x hx
  obtain ⟨j, hj, rfl⟩ := List.mem_iff_getElem.1 hx
  exact h0 j hj hj
 simp [idxOf, this]
theorem idxOf_ge {α : Type} (p : α → Bool) (l : List α) : decide (0 ≤ idxOf p l) = l.any p := by
 unfold idxOf
 cases h : l.findIdx? p with
 | none =>
  rw [List.findIdx?_eq_none_iff] at h
  have : l.any p = false := by simpa using h
  simp [this]
 | some i =>
  have h2 := List.findIdx?_eq_some_iff_getElem.1 h
  have : l.any p = true := List.any_eq_true.2 ⟨_, List.getElem_mem h2.1, h2.2.1⟩
  simp [this]
theorem rd_getElem (xs : List Int) (j : Nat) (h : j < xs.length) : rd xs j = xs[j] := by
 simp [rd, List.getD_eq_getElem?_getD, List.getElem?_eq_getElem h]
end Go.Proofs.YtiocgaekoeekgaaGreat.P
end
section
namespace Go.Proofs.YtiocgaekoeekgaaGreat.P
open Go.RowKit Go.Proofs.YtiocgaekoeekgaaGreatW.PrintWords Go.Proofs.YtiocgaekoeekgaaGreatW.PrintLast Go.Proofs.YtiocgaekoeekgaaGreatW.PrintMore
attribute [local go_sem] max2_int min2_int max_two min_two max_three min_three max_four min_four   
set_option linter.unusedVariables false
set_option linter.unusedSimpArgs false
section
variable {P : Program} {ops : Array Oper} {rest : List Oper} {o : Oper} {a : Act} {Q : Exit → Act → World → Prop}
theorem store_block {W : World} (hN : o.dst = none) (hgd : o.guard = none) (t : TypeId) (p x : Operand) (ho : o.op = .store t p x) {g i : Nat} {e : TypeId} {cur : Array Value} (u : Value) (haddr : a.eval p = .pointer (some ⟨g, i, none⟩)) (hx : a.eval x = u)
  (hu : u.cells.toList = [u]) (h1 : u.oneCell' = true) (ht : (P.info? t).map (·.size) = some 1) (hblk : W.heap[g]? = some (.cells cur e (0, 0))) (hi : i < cur.size)
  (h : ∀ w1, w1 = W.setCell ⟨g, i, none⟩ u → wpList P ops Q rest a w1) : wpList P ops Q (o :: rest) a W := by
 have hrun := run_store_run t u [u] hblk hu ht (Nat.succ_le_of_lt hi) (by intro q hq; rw [List.mem_singleton] at hq; rw [hq]; exact h1)
 refine wpList_plain hgd fun K hK => ?_
 unfold Oper.wp execOp
 simp only [ho, haddr, hx, Sem.run_bind, Sem.run_pure, Result.andThen_ok, hrun]
 show K (a.put o.dst undef) _
 rw [hN]
 exact hK a _ (h _ rfl)
end
theorem kn_C_of_blk {α : Type} {d : Kd α} {w : World} {b : Nat} {e : TypeId} {cs : List Value} {xs : List α} (hblk : w.heap[b]? = some (.cells cs.toArray e (0, 0))) (hn : xs.length ≤ 9223372036854775807) (hr : Reps (d.K w) d.sz xs cs) : d.C w (some ⟨b, 0, none⟩) xs.length xs := by
 refine ⟨rfl, hn, fun _ => ⟨_, rfl, fun j p hp => ?_⟩⟩
 have hj : j < xs.length := (List.getElem?_eq_some_iff.1 hp).1
 have h1 : j * d.sz + d.sz ≤ cs.length := by rw [hr.1, ← Nat.succ_mul]; exact Nat.mul_le_mul_right _ hj
 refine ⟨(cs.drop (j * d.sz)).take d.sz, by rw [List.length_take, List.length_drop]; omega, hr.2 j p hp, fun i u hu => ?_⟩
 have hi : i < d.sz := by
  have := (List.getElem?_eq_some_iff.1 hu).1
  rw [List.length_take] at this
  omega
 rw [List.getElem?_take_of_lt hi, List.getElem?_drop] at hu
 have h2 := blk_cell hblk (j * d.sz + i)
 rw [List.getElem?_toArray, hu] at h2
 have h3 : (Addr.mk b 0 none).add (j * d.sz + i) = ⟨b, j * d.sz + i, none⟩ := by
  unfold Addr.add
  by_cases h : j * d.sz + i = 0
  ·rw [if_pos h, h]
  ·rw [if_neg h, Nat.zero_add]
 rw [h3]
 exact h2
theorem kn_one {α : Type} {R : α → List Value → Prop} {sz : Nat} {x : α} {cs : List Value} (h : R x cs) (hl : cs.length = sz) : Reps R sz [x] cs := by
 have := (Reps.none R sz).snoc h hl
 simpa using this
theorem kn_blk_alloc {w : World} {o o' : Obj} {b : Nat} (h : w.heap[b]? = some o) : (w.alloc o').heap[b]? = some o := blk_below h (below_alloc (Below.refl _ _) _)
theorem kn_blk_at {w : World} {cs : Array Value} {t : TypeId} {n : Nat} (h : w.heap.size = n) : (w.alloc (.cells cs t)).heap[n]? = some (.cells cs t (0, 0)) := h ▸ blk_new w _
end Go.Proofs.YtiocgaekoeekgaaGreat.P
end
section
namespace Go.Proofs.YtiocgaekoeekgaaGreat.P
open Go.RowKit Go.Proofs.YtiocgaekoeekgaaGreatW.PrintWords Go.Proofs.YtiocgaekoeekgaaGreatW.PrintLast Go.Proofs.YtiocgaekoeekgaaGreatW.PrintMore
attribute [local go_sem] max2_int min2_int max_two min_two max_three min_three max_four min_four   
set_option linter.unusedVariables false
set_option linter.unusedSimpArgs false
attribute [local go_sem] Oper.semAt_some
def inRow (x : S192) (r : Int) : Bool := !decide (r < x.f0) && !decide (x.f1 < r)
def ofRow (x : S192) (r : Int) : Int := wrap64 (x.f2 + wrap64 (wrap64 (r - x.f0) * x.f3))
def ofVal (x : S192) (r : Int) : Int := if inRow x r then ofRow x r else r
set_option maxHeartbeats 4000000 in
set_option maxRecDepth 100000 in
theorem of_walk (x : S192) (r : Int) (w : World) :
  Calls Tryz.prog 151 #[.agg #[.int .i64 x.f0, .int .i64 x.f1, .int .i64 x.f2, .int .i64 x.f3], .int .i64 r] w fun e w' => e = .returned (.tuple #[.int .i64 (ofVal x r), .bool (inRow x r)]) ∧ Below w.heap.size w w' := by
 have hu1 := Tryz.underlying192
 by_cases h1 : r < x.f0
 ·have e1 : decide (r < x.f0) = true := decide_eq_true h1
  have HI : Aside0 (inRow x r = false) := ⟨by unfold inRow; rw [e1]; rfl⟩
  clear h1
  go_enter Tryz.func151, Tryz.ntmps151
  go_wp2
  refine bodyPost_ret (results_tmp2 rfl _ _ _) rfl ?_
  rw [show ofVal x r = _ from if_neg (by rw [HI.out]; decide), HI.out]
  exact ⟨rfl, below_alloc (Below.refl _ _) _⟩
 ·have e1 : decide (r < x.f0) = false := decide_eq_false h1
  by_cases h2 : x.f1 < r
  ·have e2 : decide (x.f1 < r) = true := decide_eq_true h2
   have HI : Aside0 (inRow x r = false) := ⟨by unfold inRow; rw [e1, e2]; rfl⟩
   clear h1 h2
   go_enter Tryz.func151, Tryz.ntmps151
   go_wp2
   refine bodyPost_ret (results_tmp2 rfl _ _ _) rfl ?_
   rw [show ofVal x r = _ from if_neg (by rw [HI.out]; decide), HI.out]
   exact ⟨rfl, below_alloc (Below.refl _ _) _⟩
  ·have e2 : decide (x.f1 < r) = false := decide_eq_false h2
   have HI : Aside0 (inRow x r = true) := ⟨by unfold inRow; rw [e1, e2]; rfl⟩
   clear h1 h2
   go_enter Tryz.func151, Tryz.ntmps151
   go_wp2
   refine bodyPost_ret (results_tmp2 rfl _ _ _) rfl ?_
   rw [show ofVal x r = _ from if_pos HI.out, HI.out]
   exact ⟨rfl, below_alloc (Below.refl _ _) _⟩
noncomputable def rowsP : List S192 := (fold_rows.f).getD []
def runeIn : List S192 → Int → Int
 | [], r => r
 | x :: l, r => if inRow x r then ofRow x r else runeIn l r
def wideOf (r : Int) : Int := if 65281 ≤ r ∧ r ≤ 65374 then wrap64 (r - 65248) else r
noncomputable def foldRune (r : Int) : Int := runeIn rowsP (wideOf r)
theorem rows_some : fold_rows.f = some rowsP := rfl
theorem runeIn_drop (L : List S192) (i : Nat) (hi : i < L.length) (r : Int) : runeIn (L.drop i) r = if inRow (rd_T192 L (i : Int)) r then ofRow (rd_T192 L (i : Int)) r else runeIn (L.drop (i + 1)) r := by
 have hn : rd_T192 L (i : Int) = L[i] := by
  show L.getD (i : Int).toNat _ = _
  rw [Int.toNat_natCast, List.getD_eq_getElem?_getD, List.getElem?_eq_getElem hi]
  rfl
 rw [hn, List.drop_eq_getElem_cons hi, runeIn]
set_option maxHeartbeats 4000000 in
set_option maxRecDepth 100000 in
theorem rune_walk (r0 : Int) (w : World) :
  Calls Tryz.prog 131 #[.int .i64 r0] w fun e w' => e = .returned (.int .i64 (foldRune r0)) ∧ Below w.heap.size w w' := by
 have hu1 := Tryz.underlying192
 have HRS : Aside0 (∀ W : World, Calls Tryz.prog 152 #[] W fun e w' => ∃ v0_ : Value, e = .returned (v0_) ∧ Kd.R k192 192 w' W.heap.size (fun _ => True) v0_ rowsP ∧ Below W.heap.size W w') := ⟨fun W => fold_rows.calls rowsP W rows_some⟩
 obtain ⟨L, hL⟩ : ∃ L, L = rowsP := ⟨_, rfl⟩
 have hll : rowsP.length ≤ 1000 := by decide
 rw [← hL] at HRS hll
 have HF : Aside0 (foldRune r0 = runeIn L (wideOf r0)) := ⟨by rw [hL]; rfl⟩
 clear hL
 obtain ⟨r, hr⟩ : ∃ r, r = wideOf r0 := ⟨_, rfl⟩
 rw [← hr] at HF
 have hcond : (decide (65281 ≤ r0) = false ∧ r = r0) ∨ (decide (65281 ≤ r0) = true ∧ decide (r0 ≤ 65374) = false ∧ r = r0) ∨ (decide (65281 ≤ r0) = true ∧ decide (r0 ≤ 65374) = true ∧ r = wrap64 (r0 - 65248)) := by
  unfold wideOf at hr
  split at hr
  ·next h => exact .inr (.inr ⟨decide_eq_true h.1, decide_eq_true h.2, hr⟩)
  ·next h =>
   by_cases h1 : 65281 ≤ r0
   ·exact .inr (.inl ⟨decide_eq_true h1, decide_eq_false (by omega), hr⟩)
   ·exact .inl ⟨decide_eq_false h1, hr⟩
 clear hr
 generalize foldRune r0 = z at *
 rcases hcond with ⟨e1, rfl⟩ | ⟨e1, e2, rfl⟩ | ⟨e1, e2, hr⟩ <;>
 ((try replace hr := hr.symm)
  go_enter Tryz.func131, Tryz.ntmps131
  go_wp2_with fail
  refine (HRS.out _).mono ?_
  rintro e w1 ⟨v, rfl, hR, hB1⟩
  obtain ⟨A1, c1, hs1⟩ := Kd.R_slice hR
  subst hs1
  have HC := Aside0.mk (Kd.R_reads' hR).2.2
  have HB := Aside0.mk hB1
  have HF0 : Aside0 (z = runeIn (L.drop 0) r) := ⟨HF.out⟩
  clear hR hB1 HRS HF
  go_wp2
  go_loopg [18] L.length (fun gg s18 wr => ∃ i : Nat, i ≤ L.length ∧ L.length - i ≤ gg ∧ s18 = .int .i64 i ∧ Aside0 (z = runeIn (L.drop i) r) ∧ Aside0 (Below w1.heap.size w1 wr))
  case atStart => exact ⟨0, by omega, by omega, rfl, HF0, ⟨Below.refl _ _⟩⟩
  case round =>
   clear HF0
   obtain ⟨i, hi, hgg, rfl, HF, HW⟩ := hrel
   by_cases hil : i < L.length
   ·have hilz : (i : Int) < (L.length : Int) := by omega
    have hdr := runeIn_drop L i hil r
    obtain ⟨ad, hA, h0, h1, h2, h3⟩ := at_T192 (Kd.C_below HC.out HW.out) (i : Int) (by omega) hilz
    subst hA
    rw [Int.toNat_natCast] at h0 h1 h2 h3
    generalize rd_T192 L (i : Int) = y at *
    have HD := Aside0.mk hdr
    clear hdr
    have hcl := of_walk y r
    go_wp2_with fail
    refine (hcl _).mono ?_
    rintro e w2 ⟨rfl, hB2⟩
    have HW2 : Aside0 (Below w1.heap.size w1 w2) := ⟨below_step HW.out (below_step (below_alloc (Below.refl _ _) _) hB2)⟩
    clear hB2 h0 h1 h2 h3 HW hcl
    cases hin : inRow y r with
    | true =>
     have HV : Aside0 (ofVal y r = ofRow y r) := ⟨if_pos hin⟩
     have HG : Aside0 (z = ofRow y r) := ⟨by rw [HF.out, HD.out, hin]; rfl⟩
     rw [HV.out]
     clear hin
     go_wp2
     go_ret
     rw [HG.out]
     exact ⟨rfl, below_step HB.out HW2.out⟩
    | false =>
     have HV : Aside0 (ofVal y r = r) := ⟨if_neg (by rw [hin]; decide)⟩
     have HG : Aside0 (z = runeIn (L.drop (i + 1)) r) := ⟨by rw [HF.out, HD.out, hin]; rfl⟩
     rw [HV.out]
     clear hin
     go_wp2
     go_roundg (L.length - (i + 1))
     case measure => omega
     case rel => exact ⟨i + 1, by omega, by omega, by go_num, HG, HW2⟩
   ·have he : i = L.length := by omega
    have hilz : decide ((i : Int) < (L.length : Int)) = false := by simp; omega
    have HG : Aside0 (z = r) := ⟨by rw [HF.out, he, List.drop_length]; rfl⟩
    clear he
    go_wp2
    go_ret
    rw [HG.out]
    exact ⟨rfl, below_step HB.out HW.out⟩)
end Go.Proofs.YtiocgaekoeekgaaGreat.P
end
section
namespace Go.Proofs
open Go.Shelf
def Tryz.runeA_ren : Go.Shelf.Ren := ⟨fun | 242 => 130 | 278 => 150 | n => n, fun | 37 => 28 | 21 => 21 | 51 => 188 | 4 => 4 | 5 => 5 | 46 => 150 | n => n, fun | n => n⟩
theorem Tryz.runeA : Go.Proofs.Lays.n242 Tryz.prog Tryz.runeA_ren := {
 mixed := by kernel_rfl
 f242 := Tryz.func130.trans (congrArg some (by kernel_rfl))
 f278 := Tryz.func150.trans (congrArg some (by kernel_rfl))
 t4 := Tryz.underlying4
 a4 := Tryz.isAgg4
 z4 := Tryz.sizeOf4
 v4 := Tryz.zeroValue4
 t5 := Tryz.underlying5
 a5 := Tryz.isAgg5
 z5 := Tryz.sizeOf5
 v5 := Tryz.zeroValue5
 t21 := Tryz.underlying21
 a21 := Tryz.isAgg21
 z21 := Tryz.sizeOf21
 v21 := Tryz.zeroValue21
 t37 := Tryz.underlying28
 a37 := Tryz.isAgg28
 z37 := Tryz.sizeOf28
 v37 := Tryz.zeroValue28
 t46 := Tryz.underlying150
 a46 := Tryz.isAgg150
 z46 := Tryz.sizeOf150
 v46 := Tryz.zeroValue150
 t51 := Tryz.underlying188
 a51 := Tryz.isAgg188
 z51 := Tryz.sizeOf188
 v51 := Tryz.zeroValue188 }
end Go.Proofs
end
section
namespace Go.Proofs.YtiocgaekoeekgaaGreat.P
open Go.RowKit Go.Proofs.YtiocgaekoeekgaaGreatW.PrintWords Go.Proofs.YtiocgaekoeekgaaGreatW.PrintLast Go.Proofs.YtiocgaekoeekgaaGreatW.PrintMore
attribute [local go_sem] max2_int min2_int max_two min_two max_three min_three max_four min_four   
set_option linter.unusedVariables false
set_option linter.unusedSimpArgs false
attribute [local go_sem] Oper.semAt_some
theorem own_iterAt5 {w : World} {B e size n : Nat} {v : Value} {xs : List Value} {k : Nat} {s : ByteArray} {pos : Nat} (h : w.ownsRow B e size v n xs) (hk : w.heap[k]? = some (.stringIter s pos)) (pos' : Nat) : (w.iterAt k s pos').ownsRow B e size v n xs := by
 refine ⟨h.1, ?_⟩
 rcases h.2 with h0 | ⟨g, cap, cur, hv, hb, hg, rest⟩
 ·exact .inl h0
 ·refine .inr ⟨g, cap, cur, hv, hb, ?_, rest⟩
  rw [Lib.iterAt_other _ _ _ _ _ (fun e => by subst e; rw [hk] at hg; cases hg)]
  exact hg
theorem width5 (s : ByteArray) (pos : Nat) (h : pos < s.size) : 1 ≤ (Utf8.decode s pos).2 := by
 by_cases ha : (s[pos]'h).toNat < 128
 ·rw [decode_ascii s pos h ha]
  exact Nat.le_refl _
 ·exact (decode_high s pos h (by omega)).2
noncomputable def signOf (s : ByteArray) (p : Nat) : Int := wrap32 (foldRune ((Utf8.decode s p).1 : Int))
noncomputable def foldCells (s : ByteArray) : Nat → Nat → List Int
 | 0, _ => []
 | n + 1, p => if p < s.size then Lib.encodeRuneZ (signOf s p) ++ foldCells s n (p + (Utf8.decode s p).2) else []
noncomputable def foldText (s : ByteArray) : ByteArray := strOfNums (foldCells s s.size 0)
theorem foldCells_more (s : ByteArray) : ∀ (n m p : Nat), s.size ≤ p + n → s.size ≤ p + m → foldCells s n p = foldCells s m p := by
 intro n
 induction n with
 | zero =>
  intro m p h1 h2
  cases m with
  | zero => rfl
  | succ m => rw [foldCells, foldCells, if_neg (by omega)]
 | succ n ih =>
  intro m p h1 h2
  cases m with
  | zero => rw [foldCells, foldCells, if_neg (by omega)]
  | succ m =>
   rw [foldCells, foldCells]
   split
   ·have hw := width5 s p (by assumption)
    rw [ih m _ (by omega) (by omega)]
   ·rfl
theorem signOf_range (s : ByteArray) (p : Nat) : -2147483648 ≤ signOf s p ∧ signOf s p ≤ 2147483647 := by
 unfold signOf wrap32
 omega
theorem rune_append (B : Nat) (v : Value) (xs : List Int) (r : Int) (W : World) (hr0 : -2147483648 ≤ r) (hr1 : r ≤ 2147483647) (hown : W.ownsRow B 5 1 v xs.length (xs.map (Value.int .u8))) (hlen : xs.length + 4 ≤ 140737488355328) (hB : B ≤ W.heap.size) :
  Calls Tryz.prog 130 #[v, .int .i32 r] W fun e w' => ∃ v', e = .returned v' ∧ w'.ownsRow B 5 1 v' (xs ++ Lib.encodeRuneZ r).length ((xs ++ Lib.encodeRuneZ r).map (Value.int .u8)) ∧ ∃ o, (W.alloc o).grownBy w' v.ownBlock := by
 refine Calls.mono (Any.utf8_AppendRune_plain Tryz.runeA (by kernel_rfl) B v xs.length (xs.map (Value.int .u8)) r hr0 hr1 W hown hlen hB) ?_
 rintro e w' ⟨v', rfl, h1, o, h2⟩
 refine ⟨v', rfl, ?_, o, h2⟩
 rw [List.length_append, List.map_append]
 have hl : (Lib.runeCells r).length = (Lib.encodeRuneZ r).length := by unfold Lib.runeCells; rw [List.length_map]
 rw [hl] at h1
 exact h1
theorem iter_blk {w w1 : World} {k : Nat} {s : ByteArray} {pos : Nat} {v : Value} {B e size n : Nat} {xs : List Value} (hk : w.heap[k]? = some (.stringIter s pos)) (hown : w.ownsRow B e size v n xs) {o : Obj} (hg : (w.alloc o).grownBy w1 v.ownBlock) : w1.heap[k]? = some (.stringIter s pos) := by
 refine blk_grown (blk_below hk (below_alloc (Below.refl _ _) o)) hg ?_
 rcases hown.2 with ⟨rfl, _⟩ | ⟨g, cap, cur, rfl, hb, hgg, rest⟩
 ·simp [Value.ownBlock]
 ·intro e
  simp only [Value.ownBlock, Option.some.injEq] at e
  subst e
  rw [hk] at hgg
  cases hgg
set_option maxHeartbeats 4000000 in
set_option maxRecDepth 100000 in
theorem foldText_walk (s : ByteArray) (w : World) (hs : s.size ≤ 1000000) :
  Calls Tryz.prog 91 #[.string s] w fun e w' => e = .returned (.string (foldText s)) ∧ Below w.heap.size w w' := by
 obtain ⟨T, hT⟩ : ∃ T, T = foldText s := ⟨_, rfl⟩
 have HT0 : Aside0 (T = strOfNums ([] ++ foldCells s s.size 0)) := ⟨hT⟩
 rw [← hT]
 have HSZ := Aside0.mk hs
 clear hT hs
 have hor : Aside0 ((w.iter s 0).ownsRow w.heap.size 5 1 (.slice none 0 0) ([] : List Int).length (([] : List Int).map (Value.int .u8))) := ⟨by simp [World.ownsRow, maxLen]⟩
 have hit : Aside0 ((w.iter s 0).heap[w.heap.size]? = some (.stringIter s 0)) := ⟨blk_new w _⟩
 have hbl : Aside0 (Below w.heap.size w (w.iter s 0)) := ⟨below_alloc (Below.refl _ _) _⟩
 go_enter Tryz.func91, Tryz.ntmps91
 go_wp2
 generalize w.iter s 0 = w1 at *
 go_loopg [3] s.size (fun gg s3 wr => ∃ (p n : Nat) (xs : List Int), s.size - p ≤ gg ∧ Aside0 (xs.length ≤ 4 * p) ∧ Aside0 (s.size ≤ p + n) ∧ Aside0 (T = strOfNums (xs ++ foldCells s n p)) ∧ Aside0 (wr.ownsRow w.heap.size 5 1 s3 xs.length (xs.map (Value.int .u8))) ∧ Aside0 (wr.heap[w.heap.size]? = some (.stringIter s p)) ∧ Aside0 (Below w.heap.size w wr))
 case atStart => exact ⟨0, s.size, [], by omega, ⟨by simp⟩, ⟨by omega⟩, HT0, hor, hit, hbl⟩
 case round =>
  clear HT0 hor hit hbl
  obtain ⟨p, n, xs, hgg, HL, HN, HT, HO, HI, HB⟩ := hrel
  by_cases hps : p < s.size
  ·have hnx : ∀ ty, (Instr.next (.pointer (some ⟨w.heap.size, 0, none⟩)) true ty).run Tryz.prog wr = _ := fun ty => Lib.run_next_any_at wr w.heap.size s p ty HI.out hps
   have hdl := decode_le s p
   have hwd := width5 s p hps
   have HSG : Aside0 (signOf s p = wrap32 (foldRune ((Utf8.decode s p).1 : Int))) := ⟨rfl⟩
   have HR := Aside0.mk (signOf_range s p)
   have HO1 := Aside0.mk (own_iterAt5 HO.out HI.out (p + (Utf8.decode s p).2))
   have HI1 : Aside0 ((wr.iterAt w.heap.size s (p + (Utf8.decode s p).2)).heap[w.heap.size]? = some (.stringIter s (p + (Utf8.decode s p).2))) := ⟨Lib.iterAt_heap wr _ s p _ HI.out⟩
   have HB1 : Aside0 (Below w.heap.size w (wr.iterAt w.heap.size s (p + (Utf8.decode s p).2))) := ⟨Lib.below_iterAt HB.out (Nat.le_refl _) s _⟩
   have hcv : wrap64 ((Utf8.decode s p).1 : Int) = ((Utf8.decode s p).1 : Int) := by rw [wrap64]; omega
   have HRW := Aside0.mk (rune_walk ((Utf8.decode s p).1 : Int))
   generalize wr.iterAt w.heap.size s (p + (Utf8.decode s p).2) = w2 at *
   have HT1 : Aside0 (T = strOfNums ((xs ++ Lib.encodeRuneZ (signOf s p)) ++ foldCells s n (p + (Utf8.decode s p).2))) := ⟨by
    cases n with
    | zero => exfalso; have := HN.out; omega
    | succ n =>
     rw [HT.out, foldCells, if_pos hps, List.append_assoc]
     congr 2
     congr 1
     exact foldCells_more s n (n + 1) _ (by have := HN.out; omega) (by have := HN.out; omega)⟩
   have HN1 : Aside0 (s.size ≤ p + (Utf8.decode s p).2 + n) := ⟨by have := HN.out; omega⟩
   clear HT HI HO HB
   generalize signOf s p = q at *
   generalize (Utf8.decode s p).2 = wd at *
   generalize (Utf8.decode s p).1 = d at *
   have hq : wrap32 (foldRune (d : Int)) = q := HSG.out.symm
   have HPS := Aside0.mk hps
   clear hdl HSG
   go_wp2_with fail
   refine (HRW.out _).mono ?_
   rintro e w3 ⟨rfl, hB3⟩
   have HO3 : Aside0 (w3.ownsRow w.heap.size 5 1 u3 xs.length (xs.map (Value.int .u8))) := ⟨pw_own_below HO1.out hB3⟩
   have HI3 := Aside0.mk (blk_below HI1.out hB3)
   have HB3 : Aside0 (Below w.heap.size w w3) := ⟨below_step HB1.out hB3⟩
   have HAP := Aside0.mk (rune_append w.heap.size u3 xs q w3 HR.out.1 HR.out.2 HO3.out (by have := HL.out; have := HSZ.out; omega) HB3.out.size)
   clear hB3 HO1 HI1 HB1 HRW
   go_wp2_with fail
   refine HAP.out.mono ?_
   rintro e w4 ⟨v', rfl, hown, o, hg⟩
   have HI4 := Aside0.mk (iter_blk HI3.out HO3.out hg)
   have HO4 := Aside0.mk hown
   have HB4 : Aside0 (Below w.heap.size w w4) := ⟨Below.grown (below_step HB3.out (below_alloc (Below.refl _ _) o)) hg (by have := HB3.out.size; simp; omega) (fun k hk => own_base HO3.out k hk)⟩
   have HL4 : Aside0 ((xs ++ Lib.encodeRuneZ q).length ≤ 4 * (p + wd)) := ⟨by rw [List.length_append]; have := HL.out; have := (Lib.encodeRuneZ_length q).2; omega⟩
   clear hown hg HAP HI3 HO3 HB3 HL
   generalize xs ++ Lib.encodeRuneZ q = ys at *
   go_wp2
   go_roundg (s.size - (p + wd))
   case measure => have := HPS.out; omega
   case rel => exact ⟨p + wd, n, ys, by omega, HL4, HN1, HT1, HO4, HI4, HB4⟩
  ·have hnx : ∀ ty, (Instr.next (.pointer (some ⟨w.heap.size, 0, none⟩)) true ty).run Tryz.prog wr = _ := fun ty => Lib.run_next_end_at wr w.heap.size s p ty HI.out hps
   have HTT : Aside0 (T = strOfNums xs) := ⟨by
    rw [HT.out]
    cases n with
    | zero => rw [foldCells, List.append_nil]
    | succ n => rw [foldCells, if_neg hps, List.append_nil]⟩
   have hR : Kd.R (Kd.int .u8) 5 wr w.heap.size (fun _ => True) u3 xs := Kd.R_of_own HO.out (fun _ _ => trivial)
   obtain ⟨A, c, hsl⟩ := Kd.R_slice hR
   subst hsl
   have hcv : (convert 28 9 (.slice A xs.length c)).run Tryz.prog wr = .ok (.string (strOfNums xs)) wr := Kd.C_string Tryz.underlying28 Tryz.underlying5 Tryz.underlying9 (Kd.R_reads' hR).2.2
   rw [← HTT.out] at hcv
   clear hR HTT HT HO
   go_wp2
   go_ret
   exact ⟨rfl, HB.out⟩
end Go.Proofs.YtiocgaekoeekgaaGreat.P
end
section
namespace Go.Proofs.YtiocgaekoeekgaaGreat.P
open Go.RowKit Go.Proofs.YtiocgaekoeekgaaGreatW.PrintWords Go.Proofs.YtiocgaekoeekgaaGreatW.PrintLast Go.Proofs.YtiocgaekoeekgaaGreatW.PrintMore
attribute [local go_sem] max2_int min2_int max_two min_two max_three min_three max_four min_four   
set_option linter.unusedVariables false
set_option linter.unusedSimpArgs false
attribute [local go_sem] Oper.semAt_some
def withinP (x a b : Int) : Bool := decide (a ≤ x) && decide (x ≤ b)
theorem withinP_some (x a b : Int) : blob_within.f x a b = some (withinP x a b) := by
 unfold blob_within.f withinP
 by_cases h : x ≥ a
 ·rw [if_pos h, decide_eq_true (show a ≤ x from h), Bool.true_and]
 ·rw [if_neg h, decide_eq_false (show ¬ a ≤ x from h), Bool.false_and]
theorem within_w (x a b : Int) (w : World) : Calls Tryz.prog 42 #[.int .i64 x, .int .i64 a, .int .i64 b] w fun e w' => e = .returned (.bool (withinP x a b)) ∧ Below w.heap.size w w' :=
 Calls.mono (blob_within.calls x a b _ w (withinP_some x a b)) (by rintro e w' ⟨rfl, hd⟩; exact ⟨rfl, hd.below⟩)
theorem word_w (x : Int) (w : World) : Calls Tryz.prog 92 #[.int .i64 x] w fun e w' => e = .returned (.bool (withinP x 1 49)) ∧ Below w.heap.size w w' :=
 Calls.mono (blob_word.calls x _ w (by unfold blob_word.f; rw [withinP_some]; rfl)) (by rintro e w' ⟨rfl, hd⟩; exact ⟨rfl, hd.below⟩)
theorem nogo_ {P : Program} {ops : Array Oper} {Q : Exit → Act → World → Prop} {oi : Oper} {N : Option Tmp} {a : Act} {w : World} {K : Act → World → Prop} (hw : Region.wanted oi (yielded ops a.tmps) = false) (h : K (a.put N undef) w) : if Region.wanted oi (yielded ops a.tmps) = true then Oper.wp P oi a w K Q else K (a.put N undef) w := by
 rw [hw]
 exact h
noncomputable def entryP (x : S46) : Bool :=
 withinP x.f0.size 1 20 && ((foldText x.f0).toList == x.f0.toList && (bt x.f0 0 != 32 && (bt x.f0 ((x.f0.size : Int) - 1) != 32 && (withinP x.f1 1 49 && withinP x.f2 (-1000000000) 1000000000))))
set_option maxHeartbeats 4000000 in
set_option maxRecDepth 100000 in
theorem entryR_walk (x : S46) (w : World) :
  Calls Tryz.prog 44 #[.agg #[.string x.f0, .int .i64 x.f1, .int .i64 x.f2]] w fun e w' => e = .returned (.bool (entryP x)) ∧ Below w.heap.size w w' := by
 obtain ⟨s, c, v⟩ := x
 have HE : Aside0 (entryP ⟨s, c, v⟩ = (withinP s.size 1 20 && ((foldText s).toList == s.toList && (bt s 0 != 32 && (bt s ((s.size : Int) - 1) != 32 && (withinP c 1 49 && withinP v (-1000000000) 1000000000)))))) := ⟨rfl⟩
 generalize entryP ⟨s, c, v⟩ = r at *
 have hu1 := Tryz.underlying46
 have HT : Aside0 (∀ W, s.size ≤ 20 → Calls Tryz.prog 91 #[.string s] W fun e w' => e = .returned (.string (foldText s)) ∧ Below W.heap.size W w') := ⟨fun W h => foldText_walk s W (by omega)⟩
 generalize foldText s = T at *
 obtain ⟨b1, hb1⟩ : ∃ b, withinP s.size 1 20 = b := ⟨_, rfl⟩
 obtain ⟨b2, hb2⟩ : ∃ b, (T.toList == s.toList) = b := ⟨_, rfl⟩
 obtain ⟨b3, hb3⟩ : ∃ b, (bt s 0 != 32) = b := ⟨_, rfl⟩
 obtain ⟨b4, hb4⟩ : ∃ b, (bt s ((s.size : Int) - 1) != 32) = b := ⟨_, rfl⟩
 obtain ⟨b5, hb5⟩ : ∃ b, withinP c 1 49 = b := ⟨_, rfl⟩
 obtain ⟨b6, hb6⟩ : ∃ b, withinP v (-1000000000) 1000000000 = b := ⟨_, rfl⟩
 have HR : Aside0 (r = (b1 && (b2 && (b3 && (b4 && (b5 && b6)))))) := ⟨by rw [HE.out, hb1, hb2, hb3, hb4, hb5, hb6]⟩
 have H1 : Aside0 (∀ W, Calls Tryz.prog 42 #[.int .i64 (s.size : Int), .int .i64 1, .int .i64 20] W fun e w' => e = .returned (.bool b1) ∧ Below W.heap.size W w') := ⟨by rw [← hb1]; exact within_w s.size 1 20⟩
 have H5 : Aside0 (∀ W, Calls Tryz.prog 92 #[.int .i64 c] W fun e w' => e = .returned (.bool b5) ∧ Below W.heap.size W w') := ⟨by rw [← hb5]; exact word_w c⟩
 have H6 : Aside0 (∀ W, Calls Tryz.prog 42 #[.int .i64 v, .int .i64 (-1000000000), .int .i64 1000000000] W fun e w' => e = .returned (.bool b6) ∧ Below W.heap.size W w') := ⟨by rw [← hb6]; exact within_w v _ _⟩
 have HB1 : Aside0 (b1 = true → 0 < s.size ∧ s.size ≤ 20) := ⟨fun h => by
  rw [h] at hb1
  unfold withinP at hb1
  simp only [Bool.and_eq_true, decide_eq_true_eq] at hb1
  omega⟩
 clear hb1 hb5 hb6 HE
 have hcase : (b1 = false ∧ r = false) ∨ (b1 = true ∧ b2 = false ∧ r = false) ∨ (b1 = true ∧ b2 = true ∧ b3 = false ∧ r = false) ∨ (b1 = true ∧ b2 = true ∧ b3 = true ∧ b4 = false ∧ r = false) ∨ (b1 = true ∧ b2 = true ∧ b3 = true ∧ b4 = true ∧ b5 = false ∧ r = false) ∨ (b1 = true ∧ b2 = true ∧ b3 = true ∧ b4 = true ∧ b5 = true ∧ r = b6) := by
  have h := HR.out
  clear hb2 hb3 hb4
  revert h
  cases b1 <;> cases b2 <;> cases b3 <;> cases b4 <;> cases b5 <;> simp
 clear HR
 obtain ⟨j, hj⟩ : ∃ j : Int, j = (s.size : Int) - 1 := ⟨_, rfl⟩
 rw [← hj] at hb4
 have hx0 : ∀ h : 0 < s.size, ((s[0]'h).toNat : Int) = bt s 0 := bt_at s 0
 have hx1 := bt_at s j
 rcases hcase with ⟨rfl, hr⟩ | ⟨rfl, rfl, hr⟩ | ⟨rfl, rfl, rfl, hr⟩ | ⟨rfl, rfl, rfl, rfl, hr⟩ | ⟨rfl, rfl, rfl, rfl, rfl, hr⟩ | ⟨rfl, rfl, rfl, rfl, rfl, hr⟩
 all_goals
  have HRR := Aside0.mk hr
  clear hr
  try
   have hsz := HB1.out rfl
   have HT1 := Aside0.mk (fun W => HT.out W hsz.2)
   have q5 : (0 < s.size) = True := eq_true hsz.1
   have qi5 : (0 < (s.size : Int)) = True := eq_true (by omega)
   have p12 : (0 ≤ j) = True := eq_true (by omega)
   have q12 : (j < (s.size : Int)) = True := eq_true (by omega)
   have hjw : wrap64 ((s.size : Int) - 1) = j := by rw [wrap64]; omega
  clear HB1 HT hj
  go_enter Tryz.func44, Tryz.ntmps44
  go_wp2_with fail
  have h0 : (w.alloc (.cells #[.string s, .int .i64 c, .int .i64 v] 46)).cell? ⟨w.heap.size, 0, none⟩ = some (.string s) := blk_cell (blk_new w _) 0
  have h1 : (w.alloc (.cells #[.string s, .int .i64 c, .int .i64 v] 46)).cell? ⟨w.heap.size, 1, none⟩ = some (.int .i64 c) := blk_cell (blk_new w _) 1
  have h2 : (w.alloc (.cells #[.string s, .int .i64 c, .int .i64 v] 46)).cell? ⟨w.heap.size, 2, none⟩ = some (.int .i64 v) := blk_cell (blk_new w _) 2
  have HB0 : Aside0 (Below w.heap.size w (w.alloc (.cells #[.string s, .int .i64 c, .int .i64 v] 46))) := ⟨below_alloc (Below.refl _ _) _⟩
  generalize w.alloc (.cells #[.string s, .int .i64 c, .int .i64 v] 46) = W1 at *
 all_goals refine start_ (n := 39) (S := fun w' => w'.cell? ⟨w.heap.size, 0, none⟩ = some (.string s) ∧ w'.cell? ⟨w.heap.size, 1, none⟩ = some (.int .i64 c) ∧ w'.cell? ⟨w.heap.size, 2, none⟩ = some (.int .i64 v) ∧ Aside0 (Below w.heap.size w w')) (ds := []) (f_ 39 0) (by kernel_rfl) rfl rfl ⟨h0, h1, h2, ⟨pw_below_drewN HB0.out 1⟩⟩ (fun hHeld => ?_)
 all_goals (refine pure_ (i := 0) (N := some 3) (v := ?_) (a' := ?_) (f_ 39 1) rfl rfl (by kernel_rfl) (fun _ _ _ h => h) (Or.inl ⟨?_, ?_⟩) ?_ ?_; rotate_left; (focus rfl); (focus (intro w'; go_simp; try with_reducible rfl)); rotate_left; (focus (simp only [Act.put, s1_, s2_, s3_, i64_w, i32_w]; rfl)))
 all_goals (refine take_ (i := 1) (N := some 4) (v := ?_) (a' := ?_) (f_ 39 2) rfl rfl (by kernel_rfl) (fun _ _ _ h => h) (Or.inl ⟨?_, ?_⟩) hHeld ?_ ?_; rotate_left; (focus rfl); (focus (rintro w' ⟨s0, s1, s2, s3⟩; go_simp; try with_reducible rfl)); rotate_left; (focus (simp only [Act.put, s1_, s2_, s3_, i64_w, i32_w]; rfl)))
 all_goals (refine pure_ (i := 2) (N := some 5) (v := ?_) (a' := ?_) (f_ 39 3) rfl rfl (by kernel_rfl) (fun _ _ _ h => h) (Or.inl ⟨?_, ?_⟩) ?_ ?_; rotate_left; (focus rfl); (focus (intro w'; go_simp; try with_reducible rfl)); rotate_left; (focus (simp only [Act.put, s1_, s2_, s3_, i64_w, i32_w]; rfl)))
 all_goals refine one_ (i := 3) (N := some 6) (f_ 39 4) rfl rfl (by kernel_rfl) (by decide) (fun K hK => ?_)
 all_goals first
  | (refine goes_ Tryz.func42 (by kernel_rfl) rfl #[.int .i64 (s.size : Int), .int .i64 1, .int .i64 20] ?_ rfl rfl (by (try simp only [List.map_toArray, List.map_cons, List.map_nil]); rfl) ?_; (focus rfl); refine (H1.out _).mono ?_; rintro e w' ⟨rfl, hB⟩; refine ⟨_, rfl, ?_⟩; refine hK.out _ _ ⟨pw_cell_below hB hHeld.1, pw_cell_below hB hHeld.2.1, pw_cell_below hB hHeld.2.2.1, ⟨below_step hHeld.2.2.2.out hB⟩⟩ (fun hHeld => ?_))
 all_goals clear hK K
 all_goals (refine norm_ (a' := ?_) ?_ ?_; rotate_left; (focus (show Act.put _ (some 6) _ = _; simp only [Act.put, s1_, s2_, s3_, i64_w, i32_w]; rfl)))
 all_goals (refine pure_ (i := 4) (N := some 7) (v := ?_) (a' := ?_) (f_ 39 5) rfl rfl (by kernel_rfl) (fun _ _ _ h => h) (Or.inl ⟨?_, ?_⟩) ?_ ?_; rotate_left; (focus rfl); (focus (intro w'; go_simp; try with_reducible rfl)); rotate_left; (focus (simp only [Act.put, s1_, s2_, s3_, i64_w, i32_w]; rfl)))
 all_goals first
  | (refine pure_ (i := 5) (N := some 8) (v := ?_) (a' := ?_) (f_ 39 6) rfl rfl (by kernel_rfl) (fun _ _ _ h => h) (Or.inl ⟨?_, ?_⟩) ?_ ?_; rotate_left; (focus rfl); (focus (intro w'; go_simp; try with_reducible rfl)); rotate_left; (focus (simp only [Act.put, s1_, s2_, s3_, i64_w, i32_w]; rfl)))
  | (refine pure_ (i := 5) (N := some 8) (v := undef) (a' := ?_) (f_ 39 6) rfl rfl (by kernel_rfl) (fun _ _ _ h => h) (Or.inr ⟨?_, rfl⟩) ?_ ?_; (focus rfl); rotate_left; (focus (simp only [Act.put, s1_, s2_, s3_, i64_w, i32_w]; rfl)))
 all_goals first
  | (refine take_ (i := 6) (N := some 9) (v := ?_) (a' := ?_) (f_ 39 7) rfl rfl (by kernel_rfl) (fun _ _ _ h => h) (Or.inl ⟨?_, ?_⟩) hHeld ?_ ?_; rotate_left; (focus rfl); (focus (rintro w' ⟨s0, s1, s2, s3⟩; go_simp; try with_reducible rfl)); rotate_left; (focus (simp only [Act.put, s1_, s2_, s3_, i64_w, i32_w]; rfl)))
  | (refine take_ (i := 6) (N := some 9) (v := undef) (a' := ?_) (f_ 39 7) rfl rfl (by kernel_rfl) (fun _ _ _ h => h) (Or.inr ⟨?_, rfl⟩) hHeld ?_ ?_; (focus rfl); rotate_left; (focus (simp only [Act.put, s1_, s2_, s3_, i64_w, i32_w]; rfl)))
 all_goals first
  | (refine pure_ (i := 8) (N := some 11) (v := ?_) (a' := ?_) #[true, true, true, true, true, true, true, false, true, false, false, false, false, false, false, false, false, false, false, false, false, false, false, false, false, false, false, false, false, false, false, false, false, false, false, false, false, false, false] rfl rfl (by kernel_rfl) (fun _ _ _ h => h) (Or.inl ⟨?_, ?_⟩) ?_ ?_; rotate_left; (focus rfl); (focus (intro w'; go_simp; try with_reducible rfl)); rotate_left; (focus (simp only [Act.put, s1_, s2_, s3_, i64_w, i32_w]; rfl)))
  | (refine pure_ (i := 8) (N := some 11) (v := undef) (a' := ?_) #[true, true, true, true, true, true, true, false, true, false, false, false, false, false, false, false, false, false, false, false, false, false, false, false, false, false, false, false, false, false, false, false, false, false, false, false, false, false, false] rfl rfl (by kernel_rfl) (fun _ _ _ h => h) (Or.inr ⟨?_, rfl⟩) ?_ ?_; (focus rfl); rotate_left; (focus (simp only [Act.put, s1_, s2_, s3_, i64_w, i32_w]; rfl)))
 all_goals first
  | (refine take_ (i := 9) (N := some 12) (v := ?_) (a' := ?_) #[true, true, true, true, true, true, true, false, true, true, false, false, false, false, false, false, false, false, false, false, false, false, false, false, false, false, false, false, false, false, false, false, false, false, false, false, false, false, false] rfl rfl (by kernel_rfl) (fun _ _ _ h => h) (Or.inl ⟨?_, ?_⟩) hHeld ?_ ?_; rotate_left; (focus rfl); (focus (rintro w' ⟨s0, s1, s2, s3⟩; go_simp; try with_reducible rfl)); rotate_left; (focus (simp only [Act.put, s1_, s2_, s3_, i64_w, i32_w]; rfl)))
  | (refine take_ (i := 9) (N := some 12) (v := undef) (a' := ?_) #[true, true, true, true, true, true, true, false, true, true, false, false, false, false, false, false, false, false, false, false, false, false, false, false, false, false, false, false, false, false, false, false, false, false, false, false, false, false, false] rfl rfl (by kernel_rfl) (fun _ _ _ h => h) (Or.inr ⟨?_, rfl⟩) hHeld ?_ ?_; (focus rfl); rotate_left; (focus (simp only [Act.put, s1_, s2_, s3_, i64_w, i32_w]; rfl)))
 all_goals refine one_ (i := 7) (N := some 10) (f_ 39 10) rfl rfl (by kernel_rfl) (by decide) (fun K hK => ?_)
 all_goals first
  | (refine goes_ Tryz.func91 (by kernel_rfl) rfl #[.string s] ?_ rfl rfl (by (try simp only [List.map_toArray, List.map_cons, List.map_nil]); rfl) ?_; (focus rfl); refine (HT1.out _).mono ?_; rintro e w' ⟨rfl, hB⟩; refine ⟨_, rfl, ?_⟩; refine hK.out _ _ ⟨pw_cell_below hB hHeld.1, pw_cell_below hB hHeld.2.1, pw_cell_below hB hHeld.2.2.1, ⟨below_step hHeld.2.2.2.out hB⟩⟩ (fun hHeld => ?_))
  | (refine nogo_ ?_ ?_; (focus rfl); refine hK.out _ _ hHeld (fun hHeld => ?_))
 all_goals clear hK K
 all_goals (refine norm_ (a' := ?_) ?_ ?_; rotate_left; (focus (show Act.put _ (some 10) _ = _; simp only [Act.put, s1_, s2_, s3_, i64_w, i32_w]; rfl)))
 all_goals first
  | (refine pure_ (i := 10) (N := some 13) (v := ?_) (a' := ?_) (f_ 39 11) rfl rfl (by kernel_rfl) (fun _ _ _ h => h) (Or.inl ⟨?_, ?_⟩) ?_ ?_; rotate_left; (focus rfl); (focus (intro w'; go_simp; try with_reducible rfl)); rotate_left; (focus (simp only [Act.put, s1_, s2_, s3_, i64_w, i32_w]; rfl)))
  | (refine pure_ (i := 10) (N := some 13) (v := undef) (a' := ?_) (f_ 39 11) rfl rfl (by kernel_rfl) (fun _ _ _ h => h) (Or.inr ⟨?_, rfl⟩) ?_ ?_; (focus rfl); rotate_left; (focus (simp only [Act.put, s1_, s2_, s3_, i64_w, i32_w]; rfl)))
 all_goals (refine pure_ (i := 11) (N := some 14) (v := ?_) (a' := ?_) (f_ 39 12) rfl rfl (by kernel_rfl) (fun _ _ _ h => h) (Or.inl ⟨?_, ?_⟩) ?_ ?_; rotate_left; (focus rfl); (focus (intro w'; go_simp; try with_reducible rfl)); rotate_left; (focus (simp only [Act.put, s1_, s2_, s3_, i64_w, i32_w]; rfl)))
 all_goals (refine pure_ (i := 12) (N := some 15) (v := ?_) (a' := ?_) (f_ 39 13) rfl rfl (by kernel_rfl) (fun _ _ _ h => h) (Or.inl ⟨?_, ?_⟩) ?_ ?_; rotate_left; (focus rfl); (focus (intro w'; go_simp; try with_reducible rfl)); rotate_left; (focus (simp only [Act.put, s1_, s2_, s3_, i64_w, i32_w]; rfl)))
 all_goals first
  | (refine pure_ (i := 13) (N := some 16) (v := ?_) (a' := ?_) (f_ 39 14) rfl rfl (by kernel_rfl) (fun _ _ _ h => h) (Or.inl ⟨?_, ?_⟩) ?_ ?_; rotate_left; (focus rfl); (focus (intro w'; go_simp; try with_reducible rfl)); rotate_left; (focus (simp only [Act.put, s1_, s2_, s3_, i64_w, i32_w]; rfl)))
  | (refine pure_ (i := 13) (N := some 16) (v := undef) (a' := ?_) (f_ 39 14) rfl rfl (by kernel_rfl) (fun _ _ _ h => h) (Or.inr ⟨?_, rfl⟩) ?_ ?_; (focus rfl); rotate_left; (focus (simp only [Act.put, s1_, s2_, s3_, i64_w, i32_w]; rfl)))
 all_goals first
  | (refine take_ (i := 14) (N := some 17) (v := ?_) (a' := ?_) (f_ 39 15) rfl rfl (by kernel_rfl) (fun _ _ _ h => h) (Or.inl ⟨?_, ?_⟩) hHeld ?_ ?_; rotate_left; (focus rfl); (focus (rintro w' ⟨s0, s1, s2, s3⟩; go_simp; try with_reducible rfl)); rotate_left; (focus (simp only [Act.put, s1_, s2_, s3_, i64_w, i32_w]; rfl)))
  | (refine take_ (i := 14) (N := some 17) (v := undef) (a' := ?_) (f_ 39 15) rfl rfl (by kernel_rfl) (fun _ _ _ h => h) (Or.inr ⟨?_, rfl⟩) hHeld ?_ ?_; (focus rfl); rotate_left; (focus (simp only [Act.put, s1_, s2_, s3_, i64_w, i32_w]; rfl)))
 all_goals first
  | (refine pure_ (i := 15) (N := some 18) (v := ?_) (a' := ?_) (f_ 39 16) rfl rfl (by kernel_rfl) (fun _ _ _ h => h) (Or.inl ⟨?_, ?_⟩) ?_ ?_; rotate_left; (focus rfl); (focus (intro w'; go_simp; try with_reducible rfl)); rotate_left; (focus (simp only [Act.put, s1_, s2_, s3_, i64_w, i32_w]; rfl)))
  | (refine pure_ (i := 15) (N := some 18) (v := undef) (a' := ?_) (f_ 39 16) rfl rfl (by kernel_rfl) (fun _ _ _ h => h) (Or.inr ⟨?_, rfl⟩) ?_ ?_; (focus rfl); rotate_left; (focus (simp only [Act.put, s1_, s2_, s3_, i64_w, i32_w]; rfl)))
 all_goals first
  | (refine pure_ (i := 16) (N := some 19) (v := ?_) (a' := ?_) (f_ 39 17) rfl rfl (by kernel_rfl) (fun _ _ _ h => h) (Or.inl ⟨?_, ?_⟩) ?_ ?_; rotate_left; (focus rfl); (focus (intro w'; go_simp; try with_reducible rfl)); rotate_left; (focus (simp only [Act.put, s1_, s2_, s3_, i64_w, i32_w]; rfl)))
  | (refine pure_ (i := 16) (N := some 19) (v := undef) (a' := ?_) (f_ 39 17) rfl rfl (by kernel_rfl) (fun _ _ _ h => h) (Or.inr ⟨?_, rfl⟩) ?_ ?_; (focus rfl); rotate_left; (focus (simp only [Act.put, s1_, s2_, s3_, i64_w, i32_w]; rfl)))
 all_goals (refine pure_ (i := 17) (N := some 20) (v := ?_) (a' := ?_) (f_ 39 18) rfl rfl (by kernel_rfl) (fun _ _ _ h => h) (Or.inl ⟨?_, ?_⟩) ?_ ?_; rotate_left; (focus rfl); (focus (intro w'; go_simp; try with_reducible rfl)); rotate_left; (focus (simp only [Act.put, s1_, s2_, s3_, i64_w, i32_w]; rfl)))
 all_goals (refine pure_ (i := 18) (N := some 21) (v := ?_) (a' := ?_) (f_ 39 19) rfl rfl (by kernel_rfl) (fun _ _ _ h => h) (Or.inl ⟨?_, ?_⟩) ?_ ?_; rotate_left; (focus rfl); (focus (intro w'; go_simp; try with_reducible rfl)); rotate_left; (focus (simp only [Act.put, s1_, s2_, s3_, i64_w, i32_w]; rfl)))
 all_goals first
  | (refine pure_ (i := 19) (N := some 22) (v := ?_) (a' := ?_) (f_ 39 20) rfl rfl (by kernel_rfl) (fun _ _ _ h => h) (Or.inl ⟨?_, ?_⟩) ?_ ?_; rotate_left; (focus rfl); (focus (intro w'; go_simp; try with_reducible rfl)); rotate_left; (focus (simp only [Act.put, s1_, s2_, s3_, i64_w, i32_w]; rfl)))
  | (refine pure_ (i := 19) (N := some 22) (v := undef) (a' := ?_) (f_ 39 20) rfl rfl (by kernel_rfl) (fun _ _ _ h => h) (Or.inr ⟨?_, rfl⟩) ?_ ?_; (focus rfl); rotate_left; (focus (simp only [Act.put, s1_, s2_, s3_, i64_w, i32_w]; rfl)))
 all_goals first
  | (refine take_ (i := 20) (N := some 23) (v := ?_) (a' := ?_) (f_ 39 21) rfl rfl (by kernel_rfl) (fun _ _ _ h => h) (Or.inl ⟨?_, ?_⟩) hHeld ?_ ?_; rotate_left; (focus rfl); (focus (rintro w' ⟨s0, s1, s2, s3⟩; go_simp; try with_reducible rfl)); rotate_left; (focus (simp only [Act.put, s1_, s2_, s3_, i64_w, i32_w]; rfl)))
  | (refine take_ (i := 20) (N := some 23) (v := undef) (a' := ?_) (f_ 39 21) rfl rfl (by kernel_rfl) (fun _ _ _ h => h) (Or.inr ⟨?_, rfl⟩) hHeld ?_ ?_; (focus rfl); rotate_left; (focus (simp only [Act.put, s1_, s2_, s3_, i64_w, i32_w]; rfl)))
 all_goals first
  | (refine pure_ (i := 21) (N := some 24) (v := ?_) (a' := ?_) (f_ 39 22) rfl rfl (by kernel_rfl) (fun _ _ _ h => h) (Or.inl ⟨?_, ?_⟩) ?_ ?_; rotate_left; (focus rfl); (focus (intro w'; go_simp; try with_reducible rfl)); rotate_left; (focus (simp only [Act.put, s1_, s2_, s3_, i64_w, i32_w]; rfl)))
  | (refine pure_ (i := 21) (N := some 24) (v := undef) (a' := ?_) (f_ 39 22) rfl rfl (by kernel_rfl) (fun _ _ _ h => h) (Or.inr ⟨?_, rfl⟩) ?_ ?_; (focus rfl); rotate_left; (focus (simp only [Act.put, s1_, s2_, s3_, i64_w, i32_w]; rfl)))
 all_goals first
  | (refine take_ (i := 22) (N := some 25) (v := ?_) (a' := ?_) (f_ 39 23) rfl rfl (by kernel_rfl) (fun _ _ _ h => h) (Or.inl ⟨?_, ?_⟩) hHeld ?_ ?_; rotate_left; (focus rfl); (focus (rintro w' ⟨s0, s1, s2, s3⟩; go_simp; try with_reducible rfl)); rotate_left; (focus (simp only [Act.put, s1_, s2_, s3_, i64_w, i32_w]; rfl)))
  | (refine take_ (i := 22) (N := some 25) (v := undef) (a' := ?_) (f_ 39 23) rfl rfl (by kernel_rfl) (fun _ _ _ h => h) (Or.inr ⟨?_, rfl⟩) hHeld ?_ ?_; (focus rfl); rotate_left; (focus (simp only [Act.put, s1_, s2_, s3_, i64_w, i32_w]; rfl)))
 all_goals first
  | (refine pure_ (i := 23) (N := some 26) (v := ?_) (a' := ?_) (f_ 39 24) rfl rfl (by kernel_rfl) (fun _ _ _ h => h) (Or.inl ⟨?_, ?_⟩) ?_ ?_; rotate_left; (focus rfl); (focus (intro w'; go_simp; try with_reducible rfl)); rotate_left; (focus (simp only [Act.put, s1_, s2_, s3_, i64_w, i32_w]; rfl)))
  | (refine pure_ (i := 23) (N := some 26) (v := undef) (a' := ?_) (f_ 39 24) rfl rfl (by kernel_rfl) (fun _ _ _ h => h) (Or.inr ⟨?_, rfl⟩) ?_ ?_; (focus rfl); rotate_left; (focus (simp only [Act.put, s1_, s2_, s3_, i64_w, i32_w]; rfl)))
 all_goals first
  | (refine pure_ (i := 24) (N := some 27) (v := ?_) (a' := ?_) (f_ 39 25) rfl rfl (by kernel_rfl) (fun _ _ _ h => h) (Or.inl ⟨?_, ?_⟩) ?_ ?_; rotate_left; (focus rfl); (focus (intro w'; go_simp; try with_reducible rfl)); rotate_left; (focus (simp only [Act.put, s1_, s2_, s3_, i64_w, i32_w]; rfl)))
  | (refine pure_ (i := 24) (N := some 27) (v := undef) (a' := ?_) (f_ 39 25) rfl rfl (by kernel_rfl) (fun _ _ _ h => h) (Or.inr ⟨?_, rfl⟩) ?_ ?_; (focus rfl); rotate_left; (focus (simp only [Act.put, s1_, s2_, s3_, i64_w, i32_w]; rfl)))
 all_goals first
  | (refine pure_ (i := 25) (N := some 28) (v := ?_) (a' := ?_) (f_ 39 26) rfl rfl (by kernel_rfl) (fun _ _ _ h => h) (Or.inl ⟨?_, ?_⟩) ?_ ?_; rotate_left; (focus rfl); (focus (intro w'; go_simp; try with_reducible rfl)); rotate_left; (focus (simp only [Act.put, s1_, s2_, s3_, i64_w, i32_w]; rfl)))
  | (refine pure_ (i := 25) (N := some 28) (v := undef) (a' := ?_) (f_ 39 26) rfl rfl (by kernel_rfl) (fun _ _ _ h => h) (Or.inr ⟨?_, rfl⟩) ?_ ?_; (focus rfl); rotate_left; (focus (simp only [Act.put, s1_, s2_, s3_, i64_w, i32_w]; rfl)))
 all_goals first
  | (refine pure_ (i := 26) (N := some 29) (v := ?_) (a' := ?_) (f_ 39 27) rfl rfl (by kernel_rfl) (fun _ _ _ h => h) (Or.inl ⟨?_, ?_⟩) ?_ ?_; rotate_left; (focus rfl); (focus (intro w'; go_simp; try with_reducible rfl)); rotate_left; (focus (simp only [Act.put, s1_, s2_, s3_, i64_w, i32_w]; rfl)))
  | (refine pure_ (i := 26) (N := some 29) (v := undef) (a' := ?_) (f_ 39 27) rfl rfl (by kernel_rfl) (fun _ _ _ h => h) (Or.inr ⟨?_, rfl⟩) ?_ ?_; (focus rfl); rotate_left; (focus (simp only [Act.put, s1_, s2_, s3_, i64_w, i32_w]; rfl)))
 all_goals (refine pure_ (i := 27) (N := some 30) (v := ?_) (a' := ?_) (f_ 39 28) rfl rfl (by kernel_rfl) (fun _ _ _ h => h) (Or.inl ⟨?_, ?_⟩) ?_ ?_; rotate_left; (focus rfl); (focus (intro w'; go_simp; try with_reducible rfl)); rotate_left; (focus (simp only [Act.put, s1_, s2_, s3_, i64_w, i32_w]; rfl)))
 all_goals (refine pure_ (i := 28) (N := some 31) (v := ?_) (a' := ?_) (f_ 39 29) rfl rfl (by kernel_rfl) (fun _ _ _ h => h) (Or.inl ⟨?_, ?_⟩) ?_ ?_; rotate_left; (focus rfl); (focus (intro w'; go_simp; try with_reducible rfl)); rotate_left; (focus (simp only [Act.put, s1_, s2_, s3_, i64_w, i32_w]; rfl)))
 all_goals first
  | (refine pure_ (i := 29) (N := some 32) (v := ?_) (a' := ?_) (f_ 39 30) rfl rfl (by kernel_rfl) (fun _ _ _ h => h) (Or.inl ⟨?_, ?_⟩) ?_ ?_; rotate_left; (focus rfl); (focus (intro w'; go_simp; try with_reducible rfl)); rotate_left; (focus (simp only [Act.put, s1_, s2_, s3_, i64_w, i32_w]; rfl)))
  | (refine pure_ (i := 29) (N := some 32) (v := undef) (a' := ?_) (f_ 39 30) rfl rfl (by kernel_rfl) (fun _ _ _ h => h) (Or.inr ⟨?_, rfl⟩) ?_ ?_; (focus rfl); rotate_left; (focus (simp only [Act.put, s1_, s2_, s3_, i64_w, i32_w]; rfl)))
 all_goals first
  | (refine take_ (i := 30) (N := some 33) (v := ?_) (a' := ?_) (f_ 39 31) rfl rfl (by kernel_rfl) (fun _ _ _ h => h) (Or.inl ⟨?_, ?_⟩) hHeld ?_ ?_; rotate_left; (focus rfl); (focus (rintro w' ⟨s0, s1, s2, s3⟩; go_simp; try with_reducible rfl)); rotate_left; (focus (simp only [Act.put, s1_, s2_, s3_, i64_w, i32_w]; rfl)))
  | (refine take_ (i := 30) (N := some 33) (v := undef) (a' := ?_) (f_ 39 31) rfl rfl (by kernel_rfl) (fun _ _ _ h => h) (Or.inr ⟨?_, rfl⟩) hHeld ?_ ?_; (focus rfl); rotate_left; (focus (simp only [Act.put, s1_, s2_, s3_, i64_w, i32_w]; rfl)))
 all_goals refine one_ (i := 31) (N := some 34) (f_ 39 32) rfl rfl (by kernel_rfl) (by decide) (fun K hK => ?_)
 all_goals first
  | (refine goes_ Tryz.func92 (by kernel_rfl) rfl #[.int .i64 c] ?_ rfl rfl (by (try simp only [List.map_toArray, List.map_cons, List.map_nil]); rfl) ?_; (focus rfl); refine (H5.out _).mono ?_; rintro e w' ⟨rfl, hB⟩; refine ⟨_, rfl, ?_⟩; refine hK.out _ _ ⟨pw_cell_below hB hHeld.1, pw_cell_below hB hHeld.2.1, pw_cell_below hB hHeld.2.2.1, ⟨below_step hHeld.2.2.2.out hB⟩⟩ (fun hHeld => ?_))
  | (refine nogo_ ?_ ?_; (focus rfl); refine hK.out _ _ hHeld (fun hHeld => ?_))
 all_goals clear hK K
 all_goals (refine norm_ (a' := ?_) ?_ ?_; rotate_left; (focus (show Act.put _ (some 34) _ = _; simp only [Act.put, s1_, s2_, s3_, i64_w, i32_w]; rfl)))
 all_goals (refine pure_ (i := 32) (N := some 35) (v := ?_) (a' := ?_) (f_ 39 33) rfl rfl (by kernel_rfl) (fun _ _ _ h => h) (Or.inl ⟨?_, ?_⟩) ?_ ?_; rotate_left; (focus rfl); (focus (intro w'; go_simp; try with_reducible rfl)); rotate_left; (focus (simp only [Act.put, s1_, s2_, s3_, i64_w, i32_w]; rfl)))
 all_goals (refine pure_ (i := 33) (N := some 36) (v := ?_) (a' := ?_) (f_ 39 34) rfl rfl (by kernel_rfl) (fun _ _ _ h => h) (Or.inl ⟨?_, ?_⟩) ?_ ?_; rotate_left; (focus rfl); (focus (intro w'; go_simp; try with_reducible rfl)); rotate_left; (focus (simp only [Act.put, s1_, s2_, s3_, i64_w, i32_w]; rfl)))
 all_goals first
  | (refine pure_ (i := 34) (N := some 37) (v := ?_) (a' := ?_) (f_ 39 35) rfl rfl (by kernel_rfl) (fun _ _ _ h => h) (Or.inl ⟨?_, ?_⟩) ?_ ?_; rotate_left; (focus rfl); (focus (intro w'; go_simp; try with_reducible rfl)); rotate_left; (focus (simp only [Act.put, s1_, s2_, s3_, i64_w, i32_w]; rfl)))
  | (refine pure_ (i := 34) (N := some 37) (v := undef) (a' := ?_) (f_ 39 35) rfl rfl (by kernel_rfl) (fun _ _ _ h => h) (Or.inr ⟨?_, rfl⟩) ?_ ?_; (focus rfl); rotate_left; (focus (simp only [Act.put, s1_, s2_, s3_, i64_w, i32_w]; rfl)))
 all_goals first
  | (refine take_ (i := 35) (N := some 38) (v := ?_) (a' := ?_) (f_ 39 36) rfl rfl (by kernel_rfl) (fun _ _ _ h => h) (Or.inl ⟨?_, ?_⟩) hHeld ?_ ?_; rotate_left; (focus rfl); (focus (rintro w' ⟨s0, s1, s2, s3⟩; go_simp; try with_reducible rfl)); rotate_left; (focus (simp only [Act.put, s1_, s2_, s3_, i64_w, i32_w]; rfl)))
  | (refine take_ (i := 35) (N := some 38) (v := undef) (a' := ?_) (f_ 39 36) rfl rfl (by kernel_rfl) (fun _ _ _ h => h) (Or.inr ⟨?_, rfl⟩) hHeld ?_ ?_; (focus rfl); rotate_left; (focus (simp only [Act.put, s1_, s2_, s3_, i64_w, i32_w]; rfl)))
 all_goals refine one_ (i := 36) (N := some 39) (f_ 39 37) rfl rfl (by kernel_rfl) (by decide) (fun K hK => ?_)
 all_goals first
  | (refine goes_ Tryz.func42 (by kernel_rfl) rfl #[.int .i64 v, .int .i64 (-1000000000), .int .i64 1000000000] ?_ rfl rfl (by (try simp only [List.map_toArray, List.map_cons, List.map_nil]); rfl) ?_; (focus rfl); refine (H6.out _).mono ?_; rintro e w' ⟨rfl, hB⟩; refine ⟨_, rfl, ?_⟩; refine hK.out _ _ ⟨pw_cell_below hB hHeld.1, pw_cell_below hB hHeld.2.1, pw_cell_below hB hHeld.2.2.1, ⟨below_step hHeld.2.2.2.out hB⟩⟩ (fun hHeld => ?_))
  | (refine nogo_ ?_ ?_; (focus rfl); refine hK.out _ _ hHeld (fun hHeld => ?_))
 all_goals clear hK K
 all_goals (refine norm_ (a' := ?_) ?_ ?_; rotate_left; (focus (show Act.put _ (some 39) _ = _; simp only [Act.put, s1_, s2_, s3_, i64_w, i32_w]; rfl)))
 all_goals (refine pure_ (i := 37) (N := some 40) (v := ?_) (a' := ?_) (f_ 39 38) rfl rfl (by kernel_rfl) (fun _ _ _ h => h) (Or.inl ⟨?_, ?_⟩) ?_ ?_; rotate_left; (focus rfl); (focus (intro w'; go_simp; try with_reducible rfl)); rotate_left; (focus (simp only [Act.put, s1_, s2_, s3_, i64_w, i32_w]; rfl)))
 all_goals (refine pure_ (i := 38) (N := some 2) (v := ?_) (a' := ?_) (f_ 39 39) rfl rfl (by kernel_rfl) (fun _ _ _ h => h) (Or.inl ⟨?_, ?_⟩) ?_ ?_; rotate_left; (focus rfl); (focus (intro w'; go_simp; try with_reducible rfl)); rotate_left; (focus (simp only [Act.put, s1_, s2_, s3_, i64_w, i32_w]; rfl)))
 all_goals refine done_ (by kernel_rfl) ?_
 all_goals
  go_wp2
  go_ret
  rw [HRR.out]
  exact ⟨rfl, hHeld.2.2.2.out⟩
end Go.Proofs.YtiocgaekoeekgaaGreat.P
end
section
namespace Go.Proofs.YtiocgaekoeekgaaGreat.P
open Go.RowKit Go.Proofs.YtiocgaekoeekgaaGreatW.PrintWords Go.Proofs.YtiocgaekoeekgaaGreatW.PrintLast Go.Proofs.YtiocgaekoeekgaaGreatW.PrintMore
attribute [local go_sem] max2_int min2_int max_two min_two max_three min_three max_four min_four   
set_option linter.unusedVariables false
set_option linter.unusedSimpArgs false
attribute [local go_sem] Oper.semAt_some
theorem eqA48 (d : Nat) (w : World) (x0 y0 : Int) (x1 y1 : ByteArray) (x2 y2 : Int) (x3 y3 : Int) (x4 y4 : Int) :
  (Op.equalIn (d + 2) 48 (.agg #[.int .i64 x0, .string x1, .int .i64 x2, .int .i64 x3, .int .i64 x4]) (.agg #[.int .i64 y0, .string y1, .int .i64 y2, .int .i64 y3, .int .i64 y4])).run Tryz.prog w = .ok (x0 == y0 && (x1.toList == y1.toList && (x2 == y2 && (x3 == y3 && (x4 == y4))))) w := by
 refine eqA_of Tryz.underlying48 (by kernel_rfl) ?_
 refine eqf_cons (by rfl) (by go_simp; rfl) (by go_simp; rfl) (by go_simp) ?_
 refine eqf_cons (by rfl) (by go_simp; rfl) (by go_simp; rfl) (by go_simp) ?_
 refine eqf_cons (by rfl) (by go_simp; rfl) (by go_simp; rfl) (by go_simp) ?_
 refine eqf_cons (by rfl) (by go_simp; rfl) (by go_simp; rfl) (by go_simp) ?_
 exact eqf_last (by rfl) (by go_simp; rfl) (by go_simp; rfl) (by go_simp)
attribute [local go_sem high] eqA48
def tailP (e : Bool) (s : ByteArray) (f v : Int) : Bool := e && (decide ((s.size : Int) ≤ 20) && (withinP f 0 5 && withinP v 0 9))
def partP (x : S48) : Bool :=
 if x.f0 = 0 then tailP (x.f2 == 0 && (x.f3 == 0 && x.f4 == 0)) x.f1 x.f2 x.f3
 else if x.f0 = 1 then tailP (x.f1.toList == ([] : List UInt8) && x.f4 == 0) x.f1 x.f2 x.f3
 else if x.f0 = 2 then withinP x.f4 1 49 && tailP (x.f1.toList == ([] : List UInt8) && x.f3 == 0) x.f1 x.f2 x.f3
 else false
set_option maxHeartbeats 4000000 in
set_option maxRecDepth 100000 in
theorem partR_walk (x : S48) (w : World) :
  Calls Tryz.prog 94 #[.agg #[.int .i64 x.f0, .string x.f1, .int .i64 x.f2, .int .i64 x.f3, .int .i64 x.f4]] w fun e w' => e = .returned (.bool (partP x)) ∧ Below w.heap.size w w' := by
 obtain ⟨k, s, f, v, c⟩ := x
 have HE : Aside0 (partP ⟨k, s, f, v, c⟩ = if k = 0 then tailP (f == 0 && (v == 0 && c == 0)) s f v else if k = 1 then tailP (s.toList == ([] : List UInt8) && c == 0) s f v else if k = 2 then withinP c 1 49 && tailP (s.toList == ([] : List UInt8) && v == 0) s f v else false) := ⟨rfl⟩
 generalize partP ⟨k, s, f, v, c⟩ = r at *
 have hu1 := Tryz.underlying48
 obtain ⟨b2, hb2⟩ : ∃ b, decide ((s.size : Int) ≤ 20) = b := ⟨_, rfl⟩
 have hb2' : decide (s.size ≤ 20) = b2 := by rw [← hb2]; congr 1; simp; omega
 obtain ⟨b3, hb3⟩ : ∃ b, withinP f 0 5 = b := ⟨_, rfl⟩
 obtain ⟨b4, hb4⟩ : ∃ b, withinP v 0 9 = b := ⟨_, rfl⟩
 obtain ⟨b5, hb5⟩ : ∃ b, withinP c 1 49 = b := ⟨_, rfl⟩
 have HT : Aside0 (∀ e, tailP e s f v = (e && (b2 && (b3 && b4)))) := ⟨fun e => by unfold tailP; rw [hb2, hb3, hb4]⟩
 have H3 : Aside0 (∀ W, Calls Tryz.prog 42 #[.int .i64 f, .int .i64 0, .int .i64 5] W fun e w' => e = .returned (.bool b3) ∧ Below W.heap.size W w') := ⟨by rw [← hb3]; exact within_w f 0 5⟩
 have H4 : Aside0 (∀ W, Calls Tryz.prog 42 #[.int .i64 v, .int .i64 0, .int .i64 9] W fun e w' => e = .returned (.bool b4) ∧ Below W.heap.size W w') := ⟨by rw [← hb4]; exact within_w v 0 9⟩
 have H5 : Aside0 (∀ W, Calls Tryz.prog 92 #[.int .i64 c] W fun e w' => e = .returned (.bool b5) ∧ Below W.heap.size W w') := ⟨by rw [← hb5]; exact word_w c⟩
 have HB5 := Aside0.mk hb5
 clear hb3 hb4 hb5
 by_cases k0 : k = 0
 ·subst k0
  obtain ⟨e, he⟩ : ∃ e, (f == 0 && (v == 0 && c == 0)) = e := ⟨_, rfl⟩
  have HR : Aside0 (r = (e && (b2 && (b3 && b4)))) := ⟨by rw [HE.out, if_pos rfl, HT.out, he]⟩
  clear HE HT HB5 H5
  have hcase : (e = false ∧ r = false) ∨ (e = true ∧ b2 = false ∧ r = false) ∨ (e = true ∧ b2 = true ∧ b3 = false ∧ r = false) ∨ (e = true ∧ b2 = true ∧ b3 = true ∧ r = b4) := by
   have h := HR.out
   clear he hb2 hb2'
   revert h
   cases e <;> cases b2 <;> cases b3 <;> simp
  clear HR
  rcases hcase with ⟨rfl, hr⟩ | ⟨rfl, rfl, hr⟩ | ⟨rfl, rfl, rfl, hr⟩ | ⟨rfl, rfl, rfl, hr⟩
  all_goals
   have HRR := Aside0.mk hr
   clear hr
   go_enter Tryz.func94, Tryz.ntmps94
   go_wp2_with (first | (go_at_call 42; with_reducible refine (H3.out _).mono ?_; rintro e w' ⟨rfl, hB3⟩; have h3' : w'.cell? ⟨w.heap.size, 3, none⟩ = some (.int .i64 v) := pw_cell_below hB3 (by go_simp); have HW3 : Aside0 (Below w.heap.size w w') := ⟨below_step (by repeat (first | with_reducible exact Below.refl _ _ | with_reducible apply below_alloc | with_reducible apply below_drew1 | (with_reducible refine Below.setCell (p := ⟨_, _, none⟩) ?_ ?_ _; rotate_left; (focus (simp; done))))) hB3⟩; clear hB3) | (go_at_call 42; with_reducible refine (H4.out _).mono ?_; rintro e w'' ⟨rfl, hB4⟩))
   go_ret
   rw [HRR.out]
   first | exact ⟨rfl, below_step HW3.out hB4⟩ | exact ⟨rfl, HW3.out⟩ | exact ⟨rfl, (by repeat (first | with_reducible exact Below.refl _ _ | with_reducible apply below_alloc | with_reducible apply below_drew1 | (with_reducible refine Below.setCell (p := ⟨_, _, none⟩) ?_ ?_ _; rotate_left; (focus (simp; done)))))⟩
 by_cases k1 : k = 1
 ·subst k1
  obtain ⟨e, he⟩ : ∃ e, (s.toList == ([] : List UInt8) && c == 0) = e := ⟨_, rfl⟩
  have hei : (s.toList.isEmpty && c == 0) = e := by rw [← he]; cases s.toList <;> rfl
  have HR : Aside0 (r = (e && (b2 && (b3 && b4)))) := ⟨by rw [HE.out, if_neg k0, if_pos rfl, HT.out, he]⟩
  clear HE HT HB5 H5
  have hcase : (e = false ∧ r = false) ∨ (e = true ∧ b2 = false ∧ r = false) ∨ (e = true ∧ b2 = true ∧ b3 = false ∧ r = false) ∨ (e = true ∧ b2 = true ∧ b3 = true ∧ r = b4) := by
   have h := HR.out
   clear he hei hb2 hb2'
   revert h
   cases e <;> cases b2 <;> cases b3 <;> simp
  clear HR
  rcases hcase with ⟨rfl, hr⟩ | ⟨rfl, rfl, hr⟩ | ⟨rfl, rfl, rfl, hr⟩ | ⟨rfl, rfl, rfl, hr⟩
  all_goals
   have HRR := Aside0.mk hr
   clear hr
   go_enter Tryz.func94, Tryz.ntmps94
   go_wp2_with fail
   go_region
   go_wp2_with (first | (go_at_call 42; with_reducible refine (H3.out _).mono ?_; rintro e w' ⟨rfl, hB3⟩; have h3' : w'.cell? ⟨w.heap.size, 3, none⟩ = some (.int .i64 v) := pw_cell_below hB3 (by go_simp); have HW3 : Aside0 (Below w.heap.size w w') := ⟨below_step (by repeat (first | with_reducible exact Below.refl _ _ | with_reducible apply below_alloc | with_reducible apply below_drew1 | (with_reducible refine Below.setCell (p := ⟨_, _, none⟩) ?_ ?_ _; rotate_left; (focus (simp; done))))) hB3⟩; clear hB3) | (go_at_call 42; with_reducible refine (H4.out _).mono ?_; rintro e w'' ⟨rfl, hB4⟩))
   go_ret
   rw [HRR.out]
   first | exact ⟨rfl, below_step HW3.out hB4⟩ | exact ⟨rfl, HW3.out⟩ | exact ⟨rfl, (by repeat (first | with_reducible exact Below.refl _ _ | with_reducible apply below_alloc | with_reducible apply below_drew1 | (with_reducible refine Below.setCell (p := ⟨_, _, none⟩) ?_ ?_ _; rotate_left; (focus (simp; done)))))⟩
 by_cases k2 : k = 2
 ·subst k2
  obtain ⟨e, he⟩ : ∃ e, (s.toList == ([] : List UInt8) && v == 0) = e := ⟨_, rfl⟩
  have hei : (s.toList.isEmpty && v == 0) = e := by rw [← he]; cases s.toList <;> rfl
  have HR : Aside0 (r = (b5 && (e && (b2 && (b3 && b4))))) := ⟨by rw [HE.out, if_neg k0, if_neg k1, if_pos rfl, HT.out, he, HB5.out]⟩
  clear HE HT HB5
  have hcase : (b5 = false ∧ r = false) ∨ (b5 = true ∧ e = false ∧ r = false) ∨ (b5 = true ∧ e = true ∧ b2 = false ∧ r = false) ∨ (b5 = true ∧ e = true ∧ b2 = true ∧ b3 = false ∧ r = false) ∨ (b5 = true ∧ e = true ∧ b2 = true ∧ b3 = true ∧ r = b4) := by
   have h := HR.out
   clear he hei hb2 hb2'
   revert h
   cases b5 <;> cases e <;> cases b2 <;> cases b3 <;> simp
  clear HR
  rcases hcase with ⟨rfl, hr⟩ | ⟨rfl, rfl, hr⟩ | ⟨rfl, rfl, rfl, hr⟩ | ⟨rfl, rfl, rfl, rfl, hr⟩ | ⟨rfl, rfl, rfl, rfl, hr⟩
  all_goals
   have HRR := Aside0.mk hr
   clear hr
   go_enter Tryz.func94, Tryz.ntmps94
   go_wp2_with fail
   go_region
   go_wp2_with (first | (go_at_call 42; with_reducible refine (H3.out _).mono ?_; rintro e w' ⟨rfl, hB3⟩; have h3' : w'.cell? ⟨w.heap.size, 3, none⟩ = some (.int .i64 v) := pw_cell_below hB3 ha3; have HW3 : Aside0 (Below w.heap.size w w') := ⟨below_step (by first | exact HW5.out | repeat (first | with_reducible exact Below.refl _ _ | with_reducible apply below_alloc | with_reducible apply below_drew1 | (with_reducible refine Below.setCell (p := ⟨_, _, none⟩) ?_ ?_ _; rotate_left; (focus (simp; done))))) hB3⟩; clear hB3) | (go_at_call 42; with_reducible refine (H4.out _).mono ?_; rintro e w'' ⟨rfl, hB4⟩) | (go_at_call 92; go_loud (with_reducible refine (H5.out _).mono ?_; rintro e w5 ⟨rfl, hB5⟩; have ha0 : w5.cell? ⟨w.heap.size, 0, none⟩ = some (.int .i64 2) := pw_cell_below hB5 (by go_simp); have ha1 : w5.cell? ⟨w.heap.size, 1, none⟩ = some (.string s) := pw_cell_below hB5 (by go_simp); have ha2 : w5.cell? ⟨w.heap.size, 2, none⟩ = some (.int .i64 f) := pw_cell_below hB5 (by go_simp); have ha3 : w5.cell? ⟨w.heap.size, 3, none⟩ = some (.int .i64 v) := pw_cell_below hB5 (by go_simp); have ha4 : w5.cell? ⟨w.heap.size, 4, none⟩ = some (.int .i64 c) := pw_cell_below hB5 (by go_simp); have hb0 : w5.cell? ⟨w.heap.size + 1, 0, none⟩ = some (.int .i64 2) := pw_cell_below hB5 (by go_simp); have hb1 : w5.cell? ⟨w.heap.size + 1, 1, none⟩ = some (.string ⟨#[]⟩) := pw_cell_below hB5 (by go_simp); have hb2 : w5.cell? ⟨w.heap.size + 1, 2, none⟩ = some (.int .i64 f) := pw_cell_below hB5 (by go_simp); have hb3 : w5.cell? ⟨w.heap.size + 1, 3, none⟩ = some (.int .i64 0) := pw_cell_below hB5 (by go_simp); have hb4 : w5.cell? ⟨w.heap.size + 1, 4, none⟩ = some (.int .i64 c) := pw_cell_below hB5 (by go_simp); have HW5 : Aside0 (Below w.heap.size w w5) := ⟨below_step (by repeat (first | with_reducible exact Below.refl _ _ | with_reducible apply below_alloc | with_reducible apply below_drew1)) hB5⟩; clear hB5)))
   go_ret
   rw [HRR.out]
   first | exact ⟨rfl, below_step HW3.out hB4⟩ | exact ⟨rfl, HW3.out⟩ | exact ⟨rfl, HW5.out⟩ | exact ⟨rfl, (by repeat (first | with_reducible exact Below.refl _ _ | with_reducible apply below_alloc | with_reducible apply below_drew1 | (with_reducible refine Below.setCell (p := ⟨_, _, none⟩) ?_ ?_ _; rotate_left; (focus (simp; done)))))⟩
 ·have hkk0 : (k == 0) = false := by simpa using k0
  have hkk1 : (k == 1) = false := by simpa using k1
  have hkk2 : (k == 2) = false := by simpa using k2
  have HR : Aside0 (r = false) := ⟨by rw [HE.out, if_neg k0, if_neg k1, if_neg k2]⟩
  clear HE HT HB5 k0 k1 k2
  go_enter Tryz.func94, Tryz.ntmps94
  go_wp2_with fail
  go_ret
  rw [HR.out]
  exact ⟨rfl, (by repeat (first | with_reducible exact Below.refl _ _ | with_reducible apply below_alloc))⟩
end Go.Proofs.YtiocgaekoeekgaaGreat.P
end
section
namespace Go.Proofs.YtiocgaekoeekgaaGreat.P
open Go.RowKit Go.Proofs.YtiocgaekoeekgaaGreatW.PrintWords Go.Proofs.YtiocgaekoeekgaaGreatW.PrintLast Go.Proofs.YtiocgaekoeekgaaGreatW.PrintMore
attribute [local go_sem] max2_int min2_int max_two min_two max_three min_three max_four min_four   
set_option linter.unusedVariables false
set_option linter.unusedSimpArgs false
attribute [local go_sem] Oper.semAt_some
set_option maxHeartbeats 4000000 in
set_option maxRecDepth 100000 in
theorem eachE_walk (A : Option Addr) (c : Nat) (l : List S46) (w : World) (hr : Kd.C k46 w A l.length l) (hc : l.length ≤ c) :
  Calls Tryz.prog 43 #[.slice A l.length c, .func (.func 44) #[] #[]] w fun e w' => e = .returned (.bool (l.all entryP)) ∧ Below w.heap.size w w' := by
 have HR := Aside0.mk hr
 have hbn : l.length ≤ 9223372036854775807 := hr.2.1
 have HE : Aside0 (l.all entryP = (l.drop 0).all entryP) := ⟨rfl⟩
 generalize l.all entryP = r at *
 clear hr
 go_enter Tryz.func43, Tryz.ntmps43
 go_wp2
 go_loopg [9] l.length (fun gg s9 wr => ∃ i : Nat, i ≤ l.length ∧ l.length - i ≤ gg ∧ s9 = .int .i64 i ∧ Aside0 (r = (l.drop i).all entryP) ∧ Aside0 (Below w.heap.size w wr))
 case atStart => exact ⟨0, by omega, by omega, rfl, HE, ⟨Below.refl _ _⟩⟩
 case round =>
  clear HE
  obtain ⟨i, hi, hgg, rfl, HE, HW⟩ := hrel
  by_cases hil : i < l.length
  ·have hilz : (i : Int) < (l.length : Int) := by omega
   obtain ⟨ad, hA, h0, h1, h2⟩ := at_T46 (Kd.C_below HR.out HW.out) (i : Int) (by omega) hilz
   subst hA
   have hy : rd_T46 l (i : Int) = l[i] := by
    show l.getD (i : Int).toNat _ = _
    rw [Int.toNat_natCast, List.getD_eq_getElem?_getD, List.getElem?_eq_getElem hil]
    rfl
   have HE1 : Aside0 (r = (entryP (rd_T46 l (i : Int)) && (l.drop (i + 1)).all entryP)) := ⟨by rw [HE.out, hy, List.drop_eq_getElem_cons hil, List.all_cons]⟩
   clear hy HE
   generalize rd_T46 l (i : Int) = y at *
   rw [Int.toNat_natCast] at h0 h1 h2
   go_wp2_with fail
   refine (entryR_walk y _).mono ?_
   rintro e w2 ⟨rfl, hB2⟩
   have HW2 : Aside0 (Below w.heap.size w w2) := ⟨below_step HW.out (below_step (below_alloc (Below.refl _ _) _) hB2)⟩
   clear hB2 HW h0 h1 h2
   cases hp : entryP y with
   | true =>
    have HG : Aside0 (r = (l.drop (i + 1)).all entryP) := ⟨by rw [HE1.out, hp, Bool.true_and]⟩
    clear hp HE1
    go_wp2
    go_roundg (l.length - (i + 1))
    case measure => omega
    case rel => exact ⟨i + 1, by omega, by omega, by go_num, HG, HW2⟩
   | false =>
    have HG : Aside0 (r = false) := ⟨by rw [HE1.out, hp, Bool.false_and]⟩
    clear hp HE1
    go_wp2
    go_ret
    rw [HG.out]
    exact ⟨rfl, HW2.out⟩
  ·have he : i = l.length := by omega
   have hilz : decide ((i : Int) < (l.length : Int)) = false := by simp; omega
   have HG : Aside0 (r = true) := ⟨by rw [HE.out, he, List.drop_length]; rfl⟩
   clear he
   go_wp2
   go_ret
   rw [HG.out]
   exact ⟨rfl, HW.out⟩
set_option maxHeartbeats 4000000 in
set_option maxRecDepth 100000 in
theorem eachP_walk (A : Option Addr) (c : Nat) (l : List S48) (w : World) (hr : Kd.C k48 w A l.length l) (hc : l.length ≤ c) :
  Calls Tryz.prog 93 #[.slice A l.length c, .func (.func 94) #[] #[]] w fun e w' => e = .returned (.bool (l.all partP)) ∧ Below w.heap.size w w' := by
 have HR := Aside0.mk hr
 have hbn : l.length ≤ 9223372036854775807 := hr.2.1
 have HE : Aside0 (l.all partP = (l.drop 0).all partP) := ⟨rfl⟩
 generalize l.all partP = r at *
 clear hr
 go_enter Tryz.func93, Tryz.ntmps93
 go_wp2
 go_loopg [9] l.length (fun gg s9 wr => ∃ i : Nat, i ≤ l.length ∧ l.length - i ≤ gg ∧ s9 = .int .i64 i ∧ Aside0 (r = (l.drop i).all partP) ∧ Aside0 (Below w.heap.size w wr))
 case atStart => exact ⟨0, by omega, by omega, rfl, HE, ⟨Below.refl _ _⟩⟩
 case round =>
  clear HE
  obtain ⟨i, hi, hgg, rfl, HE, HW⟩ := hrel
  by_cases hil : i < l.length
  ·have hilz : (i : Int) < (l.length : Int) := by omega
   obtain ⟨ad, hA, h0, h1, h2, h3, h4⟩ := at_T48 (Kd.C_below HR.out HW.out) (i : Int) (by omega) hilz
   subst hA
   have hy : rd_T48 l (i : Int) = l[i] := by
    show l.getD (i : Int).toNat _ = _
    rw [Int.toNat_natCast, List.getD_eq_getElem?_getD, List.getElem?_eq_getElem hil]
    rfl
   have HE1 : Aside0 (r = (partP (rd_T48 l (i : Int)) && (l.drop (i + 1)).all partP)) := ⟨by rw [HE.out, hy, List.drop_eq_getElem_cons hil, List.all_cons]⟩
   clear hy HE
   generalize rd_T48 l (i : Int) = y at *
   rw [Int.toNat_natCast] at h0 h1 h2 h3 h4
   go_wp2_with fail
   refine (partR_walk y _).mono ?_
   rintro e w2 ⟨rfl, hB2⟩
   have HW2 : Aside0 (Below w.heap.size w w2) := ⟨below_step HW.out (below_step (below_alloc (Below.refl _ _) _) hB2)⟩
   clear hB2 HW h0 h1 h2 h3 h4
   cases hp : partP y with
   | true =>
    have HG : Aside0 (r = (l.drop (i + 1)).all partP) := ⟨by rw [HE1.out, hp, Bool.true_and]⟩
    clear hp HE1
    go_wp2
    go_roundg (l.length - (i + 1))
    case measure => omega
    case rel => exact ⟨i + 1, by omega, by omega, by go_num, HG, HW2⟩
   | false =>
    have HG : Aside0 (r = false) := ⟨by rw [HE1.out, hp, Bool.false_and]⟩
    clear hp HE1
    go_wp2
    go_ret
    rw [HG.out]
    exact ⟨rfl, HW2.out⟩
  ·have he : i = l.length := by omega
   have hilz : decide ((i : Int) < (l.length : Int)) = false := by simp; omega
   have HG : Aside0 (r = true) := ⟨by rw [HE.out, he, List.drop_length]; rfl⟩
   clear he
   go_wp2
   go_ret
   rw [HG.out]
   exact ⟨rfl, HW.out⟩
def styleP (x : S52) : Bool := withinP x.f0 4 10 && (withinP (x.f1.length : Int) 1 12 && x.f1.all partP)
set_option maxHeartbeats 4000000 in
set_option maxRecDepth 100000 in
theorem styleR_walk (x : S52) (A : Option Addr) (c : Nat) (w : World) (hr : Kd.C k48 w A x.f1.length x.f1) (hc : x.f1.length ≤ c) :
  Calls Tryz.prog 46 #[.agg #[.int .i64 x.f0, .slice A x.f1.length c]] w fun e w' => e = .returned (.bool (styleP x)) ∧ Below w.heap.size w w' := by
 obtain ⟨k, l⟩ := x
 have HE : Aside0 (styleP ⟨k, l⟩ = (withinP k 4 10 && (withinP (l.length : Int) 1 12 && l.all partP))) := ⟨rfl⟩
 generalize styleP ⟨k, l⟩ = r at *
 have hu1 := Tryz.underlying52
 have HR := Aside0.mk hr
 have HC := Aside0.mk hc
 obtain ⟨b1, hb1⟩ : ∃ b, withinP k 4 10 = b := ⟨_, rfl⟩
 obtain ⟨b2, hb2⟩ : ∃ b, withinP (l.length : Int) 1 12 = b := ⟨_, rfl⟩
 obtain ⟨b3, hb3⟩ : ∃ b, l.all partP = b := ⟨_, rfl⟩
 have HB : Aside0 (r = (b1 && (b2 && b3))) := ⟨by rw [HE.out, hb1, hb2, hb3]⟩
 have H1 : Aside0 (∀ W, Calls Tryz.prog 42 #[.int .i64 k, .int .i64 4, .int .i64 10] W fun e w' => e = .returned (.bool b1) ∧ Below W.heap.size W w') := ⟨by rw [← hb1]; exact within_w k 4 10⟩
 have H2 : Aside0 (∀ W, Calls Tryz.prog 42 #[.int .i64 (l.length : Int), .int .i64 1, .int .i64 12] W fun e w' => e = .returned (.bool b2) ∧ Below W.heap.size W w') := ⟨by rw [← hb2]; exact within_w _ 1 12⟩
 have H3 : Aside0 (∀ W, Below w.heap.size w W → Calls Tryz.prog 93 #[.slice A l.length c, .func (.func 94) #[] #[]] W fun e w' => e = .returned (.bool b3) ∧ Below W.heap.size W w') := ⟨by rw [← hb3]; exact fun W hB => eachP_walk A c l W (Kd.C_below HR.out hB) HC.out⟩
 clear hb1 hb2 hb3 HE hr hc
 have hcase : (b1 = false ∧ r = false) ∨ (b1 = true ∧ b2 = false ∧ r = false) ∨ (b1 = true ∧ b2 = true ∧ r = b3) := by
  have h := HB.out
  revert h
  cases b1 <;> cases b2 <;> simp
 clear HB
 have hA0 : (w.alloc (.cells #[.int .i64 k, .slice A l.length c] 52)).cell? ⟨w.heap.size, 1, none⟩ = some (.slice A l.length c) := blk_cell (blk_new w _) 1
 rcases hcase with ⟨rfl, hr⟩ | ⟨rfl, rfl, hr⟩ | ⟨rfl, rfl, hr⟩
 all_goals
  have HRR := Aside0.mk hr
  clear hr
  go_enter Tryz.func46, Tryz.ntmps46
  go_wp2_with (first | (go_at_call 42; with_reducible refine (H1.out _).mono ?_; rintro e w1 ⟨rfl, hB1⟩; have ha1 := pw_cell_below hB1 hA0; have HB1 : Aside0 (Below w.heap.size w w1) := ⟨below_step (below_alloc (Below.refl _ _) _) hB1⟩; clear hB1) | (go_at_call 42; with_reducible refine (H2.out _).mono ?_; rintro e w2 ⟨rfl, hB2⟩; have ha2 := pw_cell_below hB2 ha1; have HB2 : Aside0 (Below w.heap.size w w2) := ⟨below_step HB1.out hB2⟩; clear hB2) | (go_at_call 93; with_reducible refine (H3.out _ HB2.out).mono ?_; rintro e w3 ⟨rfl, hB3⟩; have HB3 : Aside0 (Below w.heap.size w w3) := ⟨below_step HB2.out hB3⟩; clear hB3))
  go_ret
  rw [HRR.out]
  first | exact ⟨rfl, HB3.out⟩ | exact ⟨rfl, HB2.out⟩ | exact ⟨rfl, HB1.out⟩
set_option maxHeartbeats 4000000 in
set_option maxRecDepth 100000 in
theorem eachS_walk (A : Option Addr) (c : Nat) (l : List S52) (w : World) (hr : Kd.C k52 w A l.length l) (hc : l.length ≤ c) :
  Calls Tryz.prog 45 #[.slice A l.length c, .func (.func 46) #[] #[]] w fun e w' => e = .returned (.bool (l.all styleP)) ∧ Below w.heap.size w w' := by
 have HR := Aside0.mk hr
 have hbn : l.length ≤ 9223372036854775807 := hr.2.1
 have HE : Aside0 (l.all styleP = (l.drop 0).all styleP) := ⟨rfl⟩
 generalize l.all styleP = r at *
 clear hr
 go_enter Tryz.func45, Tryz.ntmps45
 go_wp2
 go_loopg [9] l.length (fun gg s9 wr => ∃ i : Nat, i ≤ l.length ∧ l.length - i ≤ gg ∧ s9 = .int .i64 i ∧ Aside0 (r = (l.drop i).all styleP) ∧ Aside0 (Below w.heap.size w wr))
 case atStart => exact ⟨0, by omega, by omega, rfl, HE, ⟨Below.refl _ _⟩⟩
 case round =>
  clear HE
  obtain ⟨i, hi, hgg, rfl, HE, HW⟩ := hrel
  by_cases hil : i < l.length
  ·have hilz : (i : Int) < (l.length : Int) := by omega
   obtain ⟨ad, A1, c1, hA, h0, h1, l1, g1⟩ := at_T52 (Kd.C_below HR.out HW.out) (i : Int) (by omega) hilz
   subst hA
   have hy : rd_T52 l (i : Int) = l[i] := by
    show l.getD (i : Int).toNat _ = _
    rw [Int.toNat_natCast, List.getD_eq_getElem?_getD, List.getElem?_eq_getElem hil]
    rfl
   have HE1 : Aside0 (r = (styleP (rd_T52 l (i : Int)) && (l.drop (i + 1)).all styleP)) := ⟨by rw [HE.out, hy, List.drop_eq_getElem_cons hil, List.all_cons]⟩
   clear hy HE
   generalize rd_T52 l (i : Int) = y at *
   rw [Int.toNat_natCast] at h0 h1
   have HG1 := Aside0.mk g1
   have HL1 := Aside0.mk l1
   clear g1 l1
   go_wp2_with fail
   refine (styleR_walk y A1 c1 _ (Kd.C_alloc HG1.out _) HL1.out).mono ?_
   rintro e w2 ⟨rfl, hB2⟩
   have HW2 : Aside0 (Below w.heap.size w w2) := ⟨below_step HW.out (below_step (below_alloc (Below.refl _ _) _) hB2)⟩
   clear hB2 HW h0 h1
   cases hp : styleP y with
   | true =>
    have HG : Aside0 (r = (l.drop (i + 1)).all styleP) := ⟨by rw [HE1.out, hp, Bool.true_and]⟩
    clear hp HE1
    go_wp2
    go_roundg (l.length - (i + 1))
    case measure => omega
    case rel => exact ⟨i + 1, by omega, by omega, by go_num, HG, HW2⟩
   | false =>
    have HG : Aside0 (r = false) := ⟨by rw [HE1.out, hp, Bool.false_and]⟩
    clear hp HE1
    go_wp2
    go_ret
    rw [HG.out]
    exact ⟨rfl, HW2.out⟩
  ·have he : i = l.length := by omega
   have hilz : decide ((i : Int) < (l.length : Int)) = false := by simp; omega
   have HG : Aside0 (r = true) := ⟨by rw [HE.out, he, List.drop_length]; rfl⟩
   clear he
   go_wp2
   go_ret
   rw [HG.out]
   exact ⟨rfl, HW.out⟩
end Go.Proofs.YtiocgaekoeekgaaGreat.P
end
section
namespace Go.Proofs.YtiocgaekoeekgaaGreat.P
open Go.RowKit Go.Proofs.YtiocgaekoeekgaaGreatW.PrintWords Go.Proofs.YtiocgaekoeekgaaGreatW.PrintLast Go.Proofs.YtiocgaekoeekgaaGreatW.PrintMore
attribute [local go_sem] max2_int min2_int max_two min_two max_three min_three max_four min_four   
set_option linter.unusedVariables false
set_option linter.unusedSimpArgs false
theorem indexFunc_loc (fv : Value) (A0 : Option Addr) (c0 : Nat) (l0 : List S44) (p : S44 → Bool) (w : World) (hr0 : Kd.C k44 w A0 l0.length l0) (hc0 : l0.length ≤ c0)
  (hf : FnTells Tryz.prog w (AggRel k44) fv p) :
  Calls Tryz.prog 56 #[.slice A0 l0.length c0, fv] w fun e w' => e = .returned (.int .i64 (idxOf p l0)) ∧ Below w.heap.size w w' := by
 obtain ⟨g, pre, lb, rfl, eg, hq⟩ := hf
 have hl : l0.length ≤ 9223372036854775807 := hr0.2.1
 have HR := Aside0.mk hr0
 clear hr0
 have HQ := Aside0.mk hq
 clear hq
 go_enter Tryz.func56, Tryz.ntmps56
 go_wp2
 go_loopg [8] l0.length (fun gg s8 wr => ∃ kk : Nat, kk ≤ l0.length ∧ l0.length - kk ≤ gg ∧ s8 = .int .i64 kk ∧ Aside0 (Below w.heap.size w wr) ∧ Aside0 (∀ j, j < kk → ∀ h : j < l0.length, p l0[j] = false))
 case atStart => exact ⟨0, Nat.zero_le _, by omega, rfl, ⟨Below.refl _ w⟩, ⟨fun j hj => absurd hj (Nat.not_lt_zero _)⟩⟩
 case round =>
  obtain ⟨kk, hkk, hg, rfl, BW, A⟩ := hrel
  by_cases hlt : kk < l0.length
  ·have hltz : (kk : Int) < (l0.length : Int) := by omega
   obtain ⟨ad, A3, c3, A4, c4, A5, c5, hA, h0, h1, h2, h3, h4, h5, l3, g3, l4, g4, l5, g5⟩ := at_T44 (Kd.C_below HR.out BW.out) kk (by omega) hltz
   have hcall := HQ.out wr (rd_T44 l0 kk) _ BW.out ⟨_, rfl, k44_mk wr (rd_T44 l0 kk) l3 g3 l4 g4 l5 g5⟩
   have hx : rd_T44 l0 kk = l0[kk] := by simp [rd_T44, List.getD_eq_getElem?_getD, List.getElem?_eq_getElem hlt]
   have HX := Aside0.mk hx
   generalize rd_T44 l0 kk = y at *
   rw [Int.toNat_natCast] at h0 h1 h2 h3 h4 h5
   subst hA
   clear hx l3 g3 l4 g4 l5 g5
   cases hp : p y with
   | true =>
    rw [hp] at hcall
    go_wp2_with fail
    refine hcall.mono ?_
    rintro e w' ⟨rfl, hb'⟩
    go_wp2
    go_ret
    refine ⟨?_, below_then BW.out BW.out.size hb'⟩
    rw [idxOf_hit hlt A.out (by rw [← HX.out]; exact hp)]
    rfl
   | false =>
    rw [hp] at hcall
    go_wp2_with fail
    refine hcall.mono ?_
    rintro e w' ⟨rfl, hb'⟩
    go_wp2
    go_roundg (l0.length - (kk + 1))
    case measure => omega
    case rel =>
     refine ⟨kk + 1, by omega, by omega, by go_num, ⟨below_then BW.out BW.out.size hb'⟩, ⟨fun j hj hlt => ?_⟩⟩
     by_cases e : j = kk
     ·subst e
      rw [← HX.out]; exact hp
     ·exact A.out j (by omega) hlt
  ·have hltz : ¬ (kk : Int) < (l0.length : Int) := by omega
   have : kk = l0.length := by omega
   subst this
   go_wp2
   go_ret
   refine ⟨?_, BW.out⟩
   rw [idxOf_miss A.out]
   rfl
theorem containsFunc_loc (fv : Value) (A0 : Option Addr) (c0 : Nat) (l0 : List S44) (p : S44 → Bool) (w : World) (hr0 : Kd.C k44 w A0 l0.length l0) (hc0 : l0.length ≤ c0)
  (hf : FnTells Tryz.prog w (AggRel k44) fv p) :
  Calls Tryz.prog 39 #[.slice A0 l0.length c0, fv] w fun e w' => e = .returned (.bool (l0.any p)) ∧ Below w.heap.size w w' := by
 have hc := indexFunc_loc fv A0 c0 l0 p w hr0 hc0 hf
 rw [← idxOf_ge]
 clear hr0 hf
 generalize idxOf p l0 = q at hc
 go_enter Tryz.func39, Tryz.ntmps39
 go_wp2_with fail
 refine hc.mono ?_
 rintro e w' ⟨rfl, hb'⟩
 go_wp2
 go_ret
 exact ⟨rfl, hb'⟩
def IdBox (w : World) (g : Nat) (s : ByteArray) : Prop := w.cell? ⟨g, 0, none⟩ = some (.string s)
set_option maxHeartbeats 4000000 in
set_option maxRecDepth 100000 in
theorem right1_tells (g : Nat) (s : ByteArray) (w : World) (h : IdBox w g s) : FnTells Tryz.prog w (AggRel k44) (.func (.func 40) #[] #[.pointer (some ⟨g, 0, none⟩)]) (fun y => y.f0.toList == s.toList) := by
 refine ⟨_, _, _, rfl, enters_of Tryz.func40 (by kernel_rfl) rfl, ?_⟩
 rintro W x v hb ⟨cs, rfl, hK⟩
 obtain ⟨A3, c3, A4, c4, A5, c5, rfl, l3, g3, l4, g4, l5, g5⟩ := k44_open hK
 have h1 : (W.alloc (.cells #[.string x.f0, .int .i64 x.f1, .int .i64 x.f2, .slice A3 x.f3.length c3, .slice A4 x.f4.length c4, .slice A5 x.f5.length c5] 44)).cell? ⟨g, 0, none⟩ = some (.string s) := pw_cell_below (below_alloc (Below.refl _ _) _) (pw_cell_below hb h)
 clear hb hK l3 g3 l4 g4 l5 g5 h
 have hu1 := Tryz.underlying44
 generalize hr : (x.f0.toList == s.toList) = r
 have HR := Aside0.mk hr
 go_enter Tryz.func40, Tryz.ntmps40
 go_wp2
 go_ret
 exact ⟨ret_bool HR.out.symm, below_alloc (Below.refl _ _) _⟩
set_option maxHeartbeats 4000000 in
set_option maxRecDepth 100000 in
theorem resolve1_tells (g : Nat) (s : ByteArray) (w : World) (h : IdBox w g s) : FnTells Tryz.prog w (AggRel k44) (.func (.func 57) #[] #[.pointer (some ⟨g, 0, none⟩)]) (fun y => y.f0.toList == s.toList) := by
 refine ⟨_, _, _, rfl, enters_of Tryz.func57 (by kernel_rfl) rfl, ?_⟩
 rintro W x v hb ⟨cs, rfl, hK⟩
 obtain ⟨A3, c3, A4, c4, A5, c5, rfl, l3, g3, l4, g4, l5, g5⟩ := k44_open hK
 have h1 : (W.alloc (.cells #[.string x.f0, .int .i64 x.f1, .int .i64 x.f2, .slice A3 x.f3.length c3, .slice A4 x.f4.length c4, .slice A5 x.f5.length c5] 44)).cell? ⟨g, 0, none⟩ = some (.string s) := pw_cell_below (below_alloc (Below.refl _ _) _) (pw_cell_below hb h)
 clear hb hK l3 g3 l4 g4 l5 g5 h
 have hu1 := Tryz.underlying44
 generalize hr : (x.f0.toList == s.toList) = r
 have HR := Aside0.mk hr
 go_enter Tryz.func57, Tryz.ntmps57
 go_wp2
 go_ret
 exact ⟨ret_bool HR.out.symm, below_alloc (Below.refl _ _) _⟩
end Go.Proofs.YtiocgaekoeekgaaGreat.P
end
section
namespace Go.Proofs.YtiocgaekoeekgaaGreat.P
open Go.RowKit Go.Proofs.YtiocgaekoeekgaaGreatW.PrintWords Go.Proofs.YtiocgaekoeekgaaGreatW.PrintLast Go.Proofs.YtiocgaekoeekgaaGreatW.PrintMore
attribute [local go_sem] max2_int min2_int max_two min_two max_three min_three max_four min_four   
set_option linter.unusedVariables false
set_option linter.unusedSimpArgs false
attribute [local go_sem] Oper.semAt_some
structure Src (w0 : World) (A : Option Addr) (b : List Int) (c : Nat) : Prop where
 row : Kd.C (Kd.int .u8) w0 A b.length b
 cap : b.length ≤ c
 len : b.length ≤ 1000000000000
structure RdAt (w0 : World) (h : Nat) (A : Option Addr) (b : List Int) (c : Nat) (p : Nat) (W : World) : Prop where
 blk : W.heap[h]? = some (.cells #[.slice A b.length c, .int .i64 (p : Int)] 82 (0, 0))
 below : Below w0.heap.size w0 W
 ge : w0.heap.size ≤ h
 pos : p ≤ b.length
def KeptR (h : Nat) (W W' : World) : Prop := ∀ k o, W.heap[k]? = some o → k ≠ h → W'.heap[k]? = some o
theorem KeptR.refl (h : Nat) (W : World) : KeptR h W W := fun _ _ h _ => h
theorem KeptR.trans {h : Nat} {W W1 W2 : World} (h1 : KeptR h W W1) (h2 : KeptR h W1 W2) : KeptR h W W2 := fun k o hk hn => h2 k o (h1 k o hk hn) hn
theorem KeptR.below {h : Nat} {W W1 : World} (hb : Below W.heap.size W W1) : KeptR h W W1 := fun k o hk _ => blk_below hk hb
def Rd {α : Type} (w0 : World) (h : Nat) (A : Option Addr) (b : List Int) (c : Nat) (W : World) (V : α → Value → World → Prop) (e : Ending) (W' : World) : Option (α × Nat) → Prop
 | none => (∃ T v, e = .panicked [{ v := .iface T v, recovered := false }]) ∧ Below w0.heap.size w0 W'
 | some (x, q) => (∃ v, e = .returned v ∧ V x v W') ∧ RdAt w0 h A b c q W' ∧ KeptR h W W'
def pBytes (b : List Int) (p : Nat) (n : Int) : Option (List Int × Nat) := if n < 0 ∨ (b.length : Int) - p < n then none else some ((b.drop p).take n.toNat, p + n.toNat)
def VBytes (w0 : World) (x : List Int) (v : Value) (_ : World) : Prop := ∃ A' c', v = .slice A' x.length c' ∧ x.length ≤ c' ∧ Kd.C (Kd.int .u8) w0 A' x.length x
set_option maxHeartbeats 4000000 in
set_option maxRecDepth 100000 in
theorem bytes_walk (w0 : World) (h : Nat) (A : Option Addr) (b : List Int) (c p : Nat) (n : Int) (W : World) (hs : Src w0 A b c) (hr : RdAt w0 h A b c p W) (hn64 : n ≤ 9223372036854775807) :
  Calls Tryz.prog 126 #[.pointer (some ⟨h, 0, none⟩), .int .i64 n] W fun e W' => Rd w0 h A b c W (VBytes w0) e W' (pBytes b p n) := by
 have hlen := hs.len
 have hpos := hr.pos
 have c0 : W.cell? ⟨h, 0, none⟩ = some (.slice A b.length c) := blk_cell hr.blk 0
 have c1 : W.cell? ⟨h, 1, none⟩ = some (.int .i64 (p : Int)) := blk_cell hr.blk 1
 have f1 := blk_frozen hr.blk 1
 have HR := Aside0.mk hr
 have HS := Aside0.mk hs
 have hw1 : wrap64 ((b.length : Int) - (p : Int)) = (b.length : Int) - (p : Int) := by rw [wrap64]; omega
 clear hr hs
 by_cases hbad : n < 0 ∨ (b.length : Int) - (p : Int) < n
 ·have HP : Aside0 (pBytes b p n = none) := ⟨if_pos hbad⟩
  have hbd : (decide (n < 0) || decide ((b.length : Int) - (p : Int) < n)) = true := by simpa using hbad
  by_cases hn0 : n < 0
  ·have e1 : decide (n < 0) = true := decide_eq_true hn0
   clear hbad hbd hn0
   go_enter Tryz.func126, Tryz.ntmps126
   go_wp2
   go_quiet (fail)
   go_wp2
   refine ⟨rfl, ?_⟩
   rw [HP.out]
   exact ⟨⟨_, _, rfl⟩, below_step HR.out.below (pw_below_drewN (Below.refl _ _) _)⟩
  ·have e1 : decide (n < 0) = false := decide_eq_false hn0
   have e2 : decide ((b.length : Int) - (p : Int) < n) = true := decide_eq_true (by omega)
   clear hbad hbd hn0
   go_enter Tryz.func126, Tryz.ntmps126
   go_wp2
   go_quiet (fail)
   go_wp2
   refine ⟨rfl, ?_⟩
   rw [HP.out]
   exact ⟨⟨_, _, rfl⟩, below_step HR.out.below (pw_below_drewN (Below.refl _ _) _)⟩
 ·obtain ⟨m, rfl⟩ : ∃ m : Nat, n = (m : Int) := ⟨n.toNat, by omega⟩
  have HP : Aside0 (pBytes b p (m : Int) = some ((b.drop p).take m, p + m)) := ⟨if_neg hbad⟩
  have hn : p + m ≤ b.length := by omega
  have e1 : decide ((m : Int) < 0) = false := decide_eq_false (by omega)
  have e2 : decide ((b.length : Int) - (p : Int) < (m : Int)) = false := decide_eq_false (by omega)
  have hw2 : wrap64 ((p : Int) + (m : Int)) = (p : Int) + (m : Int) := by rw [wrap64]; omega
  have hw3 : wrap64 ((p : Int) + (m : Int) - (m : Int)) = (p : Int) := by rw [wrap64]; omega
  have HN := Aside0.mk hn
  have hn0 : (p : Int) + (m : Int) ≤ (b.length : Int) := by omega
  clear hbad
  go_enter Tryz.func126, Tryz.ntmps126
  go_wp2
  go_quiet (fail)
  go_wp2
  have HB1 : Aside0 (((W.drewN nq).setCell ⟨h, 1, none⟩ (.int .i64 ((p : Int) + (m : Int)))).heap[h]? = some (.cells #[.slice A b.length c, .int .i64 ((p : Int) + (m : Int))] 82 (0, 0))) := ⟨by simpa using blk_set (w := W.drewN nq) HR.out.blk 1 (.int .i64 ((p : Int) + (m : Int)))⟩
  have HW1 : Aside0 (Below w0.heap.size w0 ((W.drewN nq).setCell ⟨h, 1, none⟩ (.int .i64 ((p : Int) + (m : Int))))) := ⟨(pw_below_drewN HR.out.below nq).setCell (p := ⟨h, 1, none⟩) HR.out.ge _⟩
  have HK1 : Aside0 (KeptR h W ((W.drewN nq).setCell ⟨h, 1, none⟩ (.int .i64 ((p : Int) + (m : Int))))) := ⟨fun k o hk hne => (heap_setCell_other (W.drewN nq) ⟨h, 1, none⟩ k _ hne).trans hk⟩
  generalize (W.drewN nq).setCell ⟨h, 1, none⟩ (.int .i64 ((p : Int) + (m : Int))) = W1 at *
  have c0 := blk_cell HB1.out 0
  have c1 := blk_cell HB1.out 1
  obtain ⟨i0, hi, hz0, hz1, hz2⟩ := info_parts info5
  obtain ⟨A', hk, hrd, hcc⟩ := print_mid_int (P := Tryz.prog) (k := .u8) 28 5 Tryz.underlying28 hi hz1 A c b (p : Int) ((p : Int) + (m : Int)) (by omega) (by omega) hn0 HS.out.cap
  have hsub : ((b.take ((p : Int) + (m : Int)).toNat).drop (p : Int).toNat) = (b.drop p).take m := by
   rw [Int.toNat_natCast, show ((p : Int) + (m : Int)).toNat = p + m by omega, List.drop_take, Nat.add_sub_cancel_left]
  rw [hsub] at hk hrd hcc
  have HCC := Aside0.mk hcc
  have HRD := Aside0.mk hrd
  generalize (b.drop p).take m = out at *
  clear hsub hrd hcc hi hz0 hz1 hz2 f1
  go_quiet (fail)
  go_wp2
  go_ret
  rw [HP.out]
  exact ⟨⟨_, rfl, A', c - p, rfl, HCC.out, Kd.C_of_reads (h1 := fun _ => rfl) (HRD.out w0 (Kd.reads_of_C (enc := Value.int .u8) (d := (0 : Int)) (h1 := fun _ => rfl) HS.out.row))⟩, ⟨HB1.out, below_step HW1.out (pw_below_drewN (Below.refl _ _) _), HR.out.ge, HN.out⟩, HK1.out.trans (KeptR.below (pw_below_drewN (Below.refl _ _) _))⟩
end Go.Proofs.YtiocgaekoeekgaaGreat.P
end
section
namespace Go.Proofs.YtiocgaekoeekgaaGreat.P
open Go.RowKit Go.Proofs.YtiocgaekoeekgaaGreatW.PrintWords Go.Proofs.YtiocgaekoeekgaaGreatW.PrintLast Go.Proofs.YtiocgaekoeekgaaGreatW.PrintMore
attribute [local go_sem] max2_int min2_int max_two min_two max_three min_three max_four min_four   
set_option linter.unusedVariables false
set_option linter.unusedSimpArgs false
attribute [local go_sem] Oper.semAt_some
def VInt (x : Int) (v : Value) (_ : World) : Prop := v = .int .i64 x
def VStr (x : ByteArray) (v : Value) (_ : World) : Prop := v = .string x
def shor (n c : Int) : Int := bits BinOp.or .i64 (wrap64 (n * 256)) (wrap64 c)
def val8 (l : List Int) : Int := l.foldl shor 0
def pNum (b : List Int) (p : Nat) : Option (Int × Nat) := (pBytes b p 8).map fun z => (val8 z.1, z.2)
theorem pBytes_some {b : List Int} {p : Nat} {n : Int} {x : List Int} {q : Nat} (h : pBytes b p n = some (x, q)) : ∃ m : Nat, n = m ∧ x.length = m ∧ q = p + m ∧ p + m ≤ b.length ∨ n = m ∧ m = 0 ∧ x = [] ∧ q = p := by
 unfold pBytes at h
 split at h
 ·cases h
 ·rename_i hc
  obtain ⟨m, rfl⟩ : ∃ m : Nat, n = (m : Int) := ⟨n.toNat, by omega⟩
  simp only [Option.some.injEq, Prod.mk.injEq, Int.toNat_natCast] at h
  obtain ⟨rfl, rfl⟩ := h
  rcases Nat.eq_zero_or_pos m with rfl | hm
  ·exact ⟨0, .inr ⟨rfl, rfl, by simp, by omega⟩⟩
  ·exact ⟨m, .inl ⟨rfl, by rw [List.length_take, List.length_drop]; omega, rfl, by omega⟩⟩
theorem pBytes_le {b : List Int} {p : Nat} {n : Int} {x : List Int} {q : Nat} (h : pBytes b p n = some (x, q)) : x.length ≤ b.length := by
 rcases pBytes_some h with ⟨m, ⟨_, h1, _, h2⟩ | ⟨_, _, h1, _⟩⟩
 ·omega
 ·rw [h1]; exact Nat.zero_le _
set_option maxHeartbeats 4000000 in
set_option maxRecDepth 100000 in
theorem number_rd (w0 : World) (h : Nat) (A : Option Addr) (b : List Int) (c p : Nat) (W : World) (hs : Src w0 A b c) (hr : RdAt w0 h A b c p W) :
  Calls Tryz.prog 82 #[.pointer (some ⟨h, 0, none⟩)] W fun e W' => Rd w0 h A b c W VInt e W' (pNum b p) := by
 have HB := Aside0.mk (bytes_walk w0 h A b c p 8 W hs hr (by omega))
 have hlb := hs.len
 have HP : Aside0 (pNum b p = (pBytes b p 8).map fun z => (val8 z.1, z.2)) := ⟨rfl⟩
 clear hs hr
 go_enter Tryz.func82, Tryz.ntmps82
 go_wp2_with fail
 refine HB.out.mono ?_
 intro e w1 hq
 cases hp : pBytes b p 8 with
 | none =>
  rw [hp] at hq
  obtain ⟨⟨T, v, rfl⟩, hbl⟩ := hq
  exact ⟨rfl, by rw [HP.out, hp]; exact ⟨⟨T, v, rfl⟩, hbl⟩⟩
 | some z =>
  obtain ⟨out, q⟩ := z
  rw [hp] at hq
  obtain ⟨⟨v, rfl, A', c', rfl, hcc, hrow⟩, hr1, hk1⟩ := hq
  have HPP : Aside0 (pNum b p = some (val8 out, q)) := ⟨by rw [HP.out, hp]; rfl⟩
  have HR1 := Aside0.mk hr1
  have HK1 := Aside0.mk hk1
  have HRow := Aside0.mk hrow
  have hol : out.length ≤ 1000000000000 := Nat.le_trans (pBytes_le hp) hlb
  clear hp hr1 hk1 hrow HP HB
  go_wp2
  go_loopg [9, 3, 5] out.length (fun gg s9 s3 s5 wr => ∃ i : Nat, i ≤ out.length ∧ out.length - i ≤ gg ∧ s9 = .int .i64 i ∧ s3 = .int .i64 (val8 (out.take i)) ∧ Aside0 (RdAt w0 h A b c q wr) ∧ Aside0 (KeptR h W wr))
  case atStart => exact ⟨0, by omega, by omega, rfl, by simp [val8], HR1, HK1⟩
  case round =>
   clear HR1 HK1
   obtain ⟨i, hi, hgg, rfl, rfl, HW, HK⟩ := hrel
   by_cases hil : i < out.length
   ·have hilz : (i : Int) < (out.length : Int) := by omega
    obtain ⟨ad1, hA1, hcv⟩ := Kd.at_int (Kd.C_below HRow.out HW.out.below) (i : Int) (by omega) hilz
    subst hA1
    rw [Int.toNat_natCast] at hcv
    have hn : rd out (i : Int) = out[i] := by
     show out.getD (i : Int).toNat 0 = _
     rw [Int.toNat_natCast, List.getD_eq_getElem?_getD, List.getElem?_eq_getElem hil]
     rfl
    have HSV : Aside0 (val8 (out.take (i + 1)) = shor (val8 (out.take i)) (rd out (i : Int))) := ⟨by rw [hn, List.take_succ_eq_append_getElem hil]; unfold val8; rw [List.foldl_append]; rfl⟩
    clear hn
    generalize rd out (i : Int) = n at *
    go_wp2
    go_roundg (out.length - (i + 1))
    case measure => omega
    case rel => exact ⟨i + 1, by omega, by omega, by go_num, by rw [HSV.out]; rfl, HW, HK⟩
   ·have he : i = out.length := by omega
    have hilz : decide ((i : Int) < (out.length : Int)) = false := by simp; omega
    rw [he, List.take_length] at *
    clear he
    go_wp2
    go_ret
    rw [HPP.out]
    exact ⟨⟨_, rfl, rfl⟩, HW.out, HK.out⟩
theorem wrap_i64 (x : Int) : IntKind.i64.wrap x = wrap64 x := by simp only [wrap64, IntKind.wrap_i64]
theorem bits_i64 (x y : Int) : ∃ z, bits BinOp.or .i64 x y = wrap64 z := ⟨_, by rw [bits]; exact wrap_i64 _⟩
theorem val8_range (l : List Int) : -9223372036854775808 ≤ val8 l ∧ val8 l ≤ 9223372036854775807 := by
 rcases List.eq_nil_or_concat l with rfl | ⟨l', x, rfl⟩
 ·decide
 ·have he : val8 (l' ++ [x]) = shor (val8 l') x := by unfold val8; rw [List.foldl_append]; rfl
  obtain ⟨z, hz⟩ := bits_i64 (wrap64 (val8 l' * 256)) (wrap64 x)
  rw [List.concat_eq_append, he, shor, hz]
  unfold wrap64
  omega
theorem pNum_some {b : List Int} {p : Nat} {n : Int} {q : Nat} (h : pNum b p = some (n, q)) : (-9223372036854775808 ≤ n ∧ n ≤ 9223372036854775807) ∧ q = p + 8 ∧ p + 8 ≤ b.length := by
 unfold pNum at h
 cases hp : pBytes b p 8 with
 | none => rw [hp] at h; cases h
 | some z =>
  rw [hp] at h
  simp only [Option.map_some, Option.some.injEq, Prod.mk.injEq] at h
  obtain ⟨rfl, rfl⟩ := h
  refine ⟨val8_range _, ?_⟩
  rcases pBytes_some (x := z.1) (q := z.2) hp with ⟨m, ⟨h0, _, h1, h2⟩ | ⟨h0, h1, _⟩⟩ <;> omega
def pText (b : List Int) (p : Nat) : Option (ByteArray × Nat) := (pNum b p).bind fun z => (pBytes b z.2 z.1).map fun y => (strOfNums y.1, y.2)
set_option maxHeartbeats 4000000 in
set_option maxRecDepth 100000 in
theorem text_rd (w0 : World) (h : Nat) (A : Option Addr) (b : List Int) (c p : Nat) (W : World) (hs : Src w0 A b c) (hr : RdAt w0 h A b c p W) :
  Calls Tryz.prog 84 #[.pointer (some ⟨h, 0, none⟩)] W fun e W' => Rd w0 h A b c W VStr e W' (pText b p) := by
 have HB := Aside0.mk (number_rd w0 h A b c p W hs hr)
 have HS := Aside0.mk hs
 clear hs hr
 go_enter Tryz.func84, Tryz.ntmps84
 go_wp2_with fail
 refine HB.out.mono ?_
 intro e w1 hq
 cases hp : pNum b p with
 | none =>
  rw [hp] at hq
  obtain ⟨⟨T, v, rfl⟩, hbl⟩ := hq
  exact ⟨rfl, by show Rd _ _ _ _ _ _ _ _ _ (Option.bind _ _); rw [hp]; exact ⟨⟨T, v, rfl⟩, hbl⟩⟩
 | some z =>
  obtain ⟨n, q⟩ := z
  rw [hp] at hq
  obtain ⟨⟨v, rfl, rfl⟩, hr1, hk1⟩ := hq
  have HP : Aside0 (pText b p = (pBytes b q n).map fun y => (strOfNums y.1, y.2)) := ⟨by show Option.bind _ _ = _; rw [hp]; rfl⟩
  have HK1 := Aside0.mk hk1
  have HB1 := Aside0.mk (bytes_walk w0 h A b c q n w1 HS.out hr1 (pNum_some hp).1.2)
  clear hr1 hk1 hp HB
  go_wp2_with fail
  refine HB1.out.mono ?_
  intro e w2 hq
  cases hp : pBytes b q n with
  | none =>
   rw [hp] at hq
   obtain ⟨⟨T, v, rfl⟩, hbl⟩ := hq
   exact ⟨rfl, by rw [HP.out, hp]; exact ⟨⟨T, v, rfl⟩, hbl⟩⟩
  | some z =>
   obtain ⟨out, q2⟩ := z
   rw [hp] at hq
   obtain ⟨⟨v, rfl, A', c', rfl, hcc, hrow⟩, hr2, hk2⟩ := hq
   have HPP : Aside0 (pText b p = some (strOfNums out, q2)) := ⟨by rw [HP.out, hp]; rfl⟩
   have HR2 := Aside0.mk hr2
   have HK2 := Aside0.mk (HK1.out.trans hk2)
   have hconv : ∀ w : World, Kd.C (Kd.int .u8) w A' out.length out → (convert 28 9 (.slice A' out.length c')).run Tryz.prog w = .ok (.string (strOfNums out)) w := fun w => Kd.C_string Tryz.underlying28 Tryz.underlying5 Tryz.underlying9
   have hcv := hconv w2 (Kd.C_below hrow hr2.below)
   clear hp hr2 hk2 hrow HP HB1 hconv
   go_wp2
   go_ret
   rw [HPP.out]
   exact ⟨⟨_, rfl, rfl⟩, HR2.out, HK2.out⟩
end Go.Proofs.YtiocgaekoeekgaaGreat.P
end
section
namespace Go.Proofs.YtiocgaekoeekgaaGreat.P
open Go.RowKit Go.Proofs.YtiocgaekoeekgaaGreatW.PrintWords Go.Proofs.YtiocgaekoeekgaaGreatW.PrintLast Go.Proofs.YtiocgaekoeekgaaGreatW.PrintMore
attribute [local go_sem] max2_int min2_int max_two min_two max_three min_three max_four min_four   
set_option linter.unusedVariables false
set_option linter.unusedSimpArgs false
attribute [local go_sem] Oper.semAt_some
theorem KeptR.size {w0 : World} {h : Nat} {A : Option Addr} {b : List Int} {c p : Nat} {W W' : World} (hk : KeptR h W W') (hr : RdAt w0 h A b c p W') : W.heap.size ≤ W'.heap.size := by
 rcases Nat.lt_or_ge W'.heap.size W.heap.size with hlt | hge
 ·exfalso
  by_cases he : W'.heap.size = h
  ·have := blk_lt hr.blk
   omega
  ·have := blk_lt (hk _ _ (Array.getElem?_eq_getElem hlt) he)
   omega
 ·exact hge
theorem R_keptR {α : Type} {d : Kd α} {e : Nat} {W1 W2 : World} {base h : Nat} {ok : Nat → Prop} {v : Value} {xs : List α} (hr : d.R e W1 base ok v xs) (hk : KeptR h W1 W2) (hn : ∀ k, ok k → k ≠ h) : d.R e W2 base ok v xs :=
 Kd.R_step hr (fun k ho hlt => (hk k _ (Array.getElem?_eq_getElem hlt) (hn k ho)).trans (Array.getElem?_eq_getElem hlt).symm)
def VM {α : Type} (d : Kd α) (w0 W : World) (x : α) (v : Value) (W' : World) : Prop := ∃ cs, v = .agg cs.toArray ∧ d.M W' w0.heap.size (fun k => W.heap.size ≤ k) x cs
def VR {α : Type} (d : Kd α) (e : Nat) (w0 W : World) (xs : List α) (v : Value) (W' : World) : Prop := d.R e W' w0.heap.size (fun k => W.heap.size ≤ k) v xs
theorem KeptR.box {h g : Nat} {W W' : World} (hk : KeptR h W W') (hg : W.heap.size ≤ g) (i : Nat) (v : Value) : KeptR h W (W'.setCell ⟨g, i, none⟩ v) := fun k o hko hne =>
 (heap_setCell_other W' ⟨g, i, none⟩ k v (show k ≠ g by have := blk_lt hko; omega)).trans (hk k o hko hne)
theorem RdAt.box {w0 : World} {h : Nat} {A : Option Addr} {b : List Int} {c p : Nat} {W' : World} (hr : RdAt w0 h A b c p W') {g : Nat} (hg : h < g) (i : Nat) (v : Value) : RdAt w0 h A b c p (W'.setCell ⟨g, i, none⟩ v) :=
 ⟨(heap_setCell_other W' ⟨g, i, none⟩ h v (show h ≠ g by omega)).trans hr.blk, hr.below.setCell (p := ⟨g, i, none⟩) (Nat.le_trans hr.ge (Nat.le_of_lt hg)) _, hr.ge, hr.pos⟩
def pEnt (b : List Int) (p : Nat) : Option (S46 × Nat) := (pText b p).bind fun z0 => (pNum b z0.2).bind fun z1 => (pNum b z1.2).bind fun z2 => some (⟨z0.1, z1.1, z2.1⟩, z2.2)
set_option maxHeartbeats 4000000 in
set_option maxRecDepth 100000 in
theorem entry_rd (w0 : World) (h : Nat) (A : Option Addr) (b : List Int) (c p : Nat) (W : World) (hs : Src w0 A b c) (hr : RdAt w0 h A b c p W) :
  Calls Tryz.prog 86 #[.pointer (some ⟨h, 0, none⟩)] W fun e W' => Rd w0 h A b c W (VM k46 w0 W) e W' (pEnt b p) := by
 have HS := Aside0.mk hs
 have HG : Aside0 (h < W.heap.size) := ⟨blk_lt hr.blk⟩
 have HZ0 : Aside0 (W.heap.size < (W.alloc (.cells #[.string ⟨#[]⟩, .int .i64 0, .int .i64 0] 46)).heap.size) := ⟨by simp⟩
 have HR0 : Aside0 (RdAt w0 h A b c p (W.alloc (.cells #[.string ⟨#[]⟩, .int .i64 0, .int .i64 0] 46))) := ⟨⟨blk_below hr.blk (below_alloc (Below.refl _ _) _), below_step hr.below (below_alloc (Below.refl _ _) _), hr.ge, hr.pos⟩⟩
 have HB0 : Aside0 ((W.alloc (.cells #[.string ⟨#[]⟩, .int .i64 0, .int .i64 0] 46)).heap[W.heap.size]? = some (.cells #[.string ⟨#[]⟩, .int .i64 0, .int .i64 0] 46 (0, 0))) := ⟨blk_new W _⟩
 have HK0 : Aside0 (KeptR h W (W.alloc (.cells #[.string ⟨#[]⟩, .int .i64 0, .int .i64 0] 46))) := ⟨KeptR.below (below_alloc (Below.refl _ _) _)⟩
 have HP0 : Aside0 (pEnt b p = (pText b p).bind fun z0 => (pNum b z0.2).bind fun z1 => (pNum b z1.2).bind fun z2 => some (⟨z0.1, z1.1, z2.1⟩, z2.2)) := ⟨rfl⟩
 have HQ0 := Aside0.mk (text_rd w0 h A b c p _ HS.out HR0.out)
 clear hs hr
 go_enter Tryz.func86, Tryz.ntmps86
 go_wp2_with fail
 refine HQ0.out.mono ?_
 intro e w1 hq
 cases hp : pText b p with
 | none =>
  rw [hp] at hq
  obtain ⟨⟨T, v, rfl⟩, hbl⟩ := hq
  exact ⟨rfl, by rw [HP0.out, hp]; exact ⟨⟨T, v, rfl⟩, hbl⟩⟩
 | some z =>
  obtain ⟨x0, q0⟩ := z
  rw [hp] at hq
  obtain ⟨⟨v, rfl, rfl⟩, hr1, hk1⟩ := hq
  have HP1 : Aside0 (pEnt b p = (pNum b q0).bind fun z1 => (pNum b z1.2).bind fun z2 => some (⟨x0, z1.1, z2.1⟩, z2.2)) := ⟨by rw [HP0.out, hp]; rfl⟩
  have HR1 := Aside0.mk hr1
  have HK1 := Aside0.mk (HK0.out.trans hk1)
  have HZ1 := Aside0.mk (Nat.lt_of_lt_of_le HZ0.out (hk1.size hr1))
  have HB1 := Aside0.mk (hk1 _ _ HB0.out (Nat.ne_of_gt HG.out))
  have HQ1 := Aside0.mk (number_rd w0 h A b c q0 w1 HS.out HR1.out)
  clear hr1 hk1 hp HQ0 HR0 HB0 HK0 HP0 HZ0
  go_wp2_with fail
  refine HQ1.out.mono ?_
  intro e w2 hq
  cases hp : pNum b q0 with
  | none =>
   rw [hp] at hq
   obtain ⟨⟨T, v, rfl⟩, hbl⟩ := hq
   exact ⟨rfl, by rw [HP1.out, hp]; exact ⟨⟨T, v, rfl⟩, hbl⟩⟩
  | some z =>
   obtain ⟨x1, q1⟩ := z
   rw [hp] at hq
   obtain ⟨⟨v, rfl, rfl⟩, hr1, hk1⟩ := hq
   have HP2 : Aside0 (pEnt b p = (pNum b q1).bind fun z2 => some (⟨x0, x1, z2.1⟩, z2.2)) := ⟨by rw [HP1.out, hp]; rfl⟩
   have HR2 := Aside0.mk hr1
   have HK2 := Aside0.mk (HK1.out.trans hk1)
   have HZ2 := Aside0.mk (Nat.lt_of_lt_of_le HZ1.out (hk1.size hr1))
   have HB2 := Aside0.mk (hk1 _ _ HB1.out (Nat.ne_of_gt HG.out))
   have HQ2 := Aside0.mk (number_rd w0 h A b c q1 w2 HS.out HR2.out)
   clear hr1 hk1 hp HQ1 HR1 HB1 HK1 HP1 HZ1
   go_wp2_with fail
   refine HQ2.out.mono ?_
   intro e w3 hq
   cases hp : pNum b q1 with
   | none =>
    rw [hp] at hq
    obtain ⟨⟨T, v, rfl⟩, hbl⟩ := hq
    exact ⟨rfl, by rw [HP2.out, hp]; exact ⟨⟨T, v, rfl⟩, hbl⟩⟩
   | some z =>
    obtain ⟨x2, q2⟩ := z
    rw [hp] at hq
    obtain ⟨⟨v, rfl, rfl⟩, hr1, hk1⟩ := hq
    have HP3 : Aside0 (pEnt b p = some (⟨x0, x1, x2⟩, q2)) := ⟨by rw [HP2.out, hp]; rfl⟩
    have HR3 := Aside0.mk hr1
    have HK3 := Aside0.mk (HK2.out.trans hk1)
    have HZ3 := Aside0.mk (Nat.lt_of_lt_of_le HZ2.out (hk1.size hr1))
    have HB3 := Aside0.mk (hk1 _ _ HB2.out (Nat.ne_of_gt HG.out))
    clear hr1 hk1 hp HQ2 HR2 HB2 HK2 HP2 HZ2
    have hf_0 := blk_frozen HB3.out 0
    have hc_0 := blk_cell HB3.out 0
    have hf_1 := blk_frozen HB3.out 1
    have hc_1 := blk_cell HB3.out 1
    have hf_2 := blk_frozen HB3.out 2
    have hc_2 := blk_cell HB3.out 2
    have hu1 := Tryz.underlying46
    go_wp2
    have hb1 : (((w3.setCell ⟨W.heap.size, 0, none⟩ (.string x0)).setCell ⟨W.heap.size, 1, none⟩ (.int .i64 x1)).setCell ⟨W.heap.size, 2, none⟩ (.int .i64 x2)).heap[W.heap.size]? = some (.cells #[.string x0, .int .i64 x1, .int .i64 x2] 46 (0, 0)) := by simpa using (blk_set (blk_set (blk_set HB3.out 0 (.string x0)) 1 (.int .i64 x1)) 2 (.int .i64 x2))
    refine bodyPost_ret (results_cell_row rfl _ _ W.heap.size 46 #[.string x0, .int .i64 x1, .int .i64 x2] (0, 0) _ rfl hb1 Tryz.underlying46 rfl (by kernel_rfl)) rfl ?_
    rw [HP3.out]
    exact ⟨⟨_, rfl, _, rfl, k46_mkM _ _ _ (⟨x0, x1, x2⟩ : S46) ⟩, (RdAt.box (RdAt.box (RdAt.box HR3.out HG.out _ _) HG.out _ _) HG.out _ _), (KeptR.box (KeptR.box (KeptR.box HK3.out (Nat.le_refl _) _ _) (Nat.le_refl _) _ _) (Nat.le_refl _) _ _)⟩
def pPart (b : List Int) (p : Nat) : Option (S48 × Nat) := (pNum b p).bind fun z0 => (pText b z0.2).bind fun z1 => (pNum b z1.2).bind fun z2 => (pNum b z2.2).bind fun z3 => (pNum b z3.2).bind fun z4 => some (⟨z0.1, z1.1, z2.1, z3.1, z4.1⟩, z4.2)
set_option maxHeartbeats 4000000 in
set_option maxRecDepth 100000 in
theorem part_rd (w0 : World) (h : Nat) (A : Option Addr) (b : List Int) (c p : Nat) (W : World) (hs : Src w0 A b c) (hr : RdAt w0 h A b c p W) :
  Calls Tryz.prog 129 #[.pointer (some ⟨h, 0, none⟩)] W fun e W' => Rd w0 h A b c W (VM k48 w0 W) e W' (pPart b p) := by
 have HS := Aside0.mk hs
 have HG : Aside0 (h < W.heap.size) := ⟨blk_lt hr.blk⟩
 have HZ0 : Aside0 (W.heap.size < (W.alloc (.cells #[.int .i64 0, .string ⟨#[]⟩, .int .i64 0, .int .i64 0, .int .i64 0] 48)).heap.size) := ⟨by simp⟩
 have HR0 : Aside0 (RdAt w0 h A b c p (W.alloc (.cells #[.int .i64 0, .string ⟨#[]⟩, .int .i64 0, .int .i64 0, .int .i64 0] 48))) := ⟨⟨blk_below hr.blk (below_alloc (Below.refl _ _) _), below_step hr.below (below_alloc (Below.refl _ _) _), hr.ge, hr.pos⟩⟩
 have HB0 : Aside0 ((W.alloc (.cells #[.int .i64 0, .string ⟨#[]⟩, .int .i64 0, .int .i64 0, .int .i64 0] 48)).heap[W.heap.size]? = some (.cells #[.int .i64 0, .string ⟨#[]⟩, .int .i64 0, .int .i64 0, .int .i64 0] 48 (0, 0))) := ⟨blk_new W _⟩
 have HK0 : Aside0 (KeptR h W (W.alloc (.cells #[.int .i64 0, .string ⟨#[]⟩, .int .i64 0, .int .i64 0, .int .i64 0] 48))) := ⟨KeptR.below (below_alloc (Below.refl _ _) _)⟩
 have HP0 : Aside0 (pPart b p = (pNum b p).bind fun z0 => (pText b z0.2).bind fun z1 => (pNum b z1.2).bind fun z2 => (pNum b z2.2).bind fun z3 => (pNum b z3.2).bind fun z4 => some (⟨z0.1, z1.1, z2.1, z3.1, z4.1⟩, z4.2)) := ⟨rfl⟩
 have HQ0 := Aside0.mk (number_rd w0 h A b c p _ HS.out HR0.out)
 clear hs hr
 go_enter Tryz.func129, Tryz.ntmps129
 go_wp2_with fail
 refine HQ0.out.mono ?_
 intro e w1 hq
 cases hp : pNum b p with
 | none =>
  rw [hp] at hq
  obtain ⟨⟨T, v, rfl⟩, hbl⟩ := hq
  exact ⟨rfl, by rw [HP0.out, hp]; exact ⟨⟨T, v, rfl⟩, hbl⟩⟩
 | some z =>
  obtain ⟨x0, q0⟩ := z
  rw [hp] at hq
  obtain ⟨⟨v, rfl, rfl⟩, hr1, hk1⟩ := hq
  have HP1 : Aside0 (pPart b p = (pText b q0).bind fun z1 => (pNum b z1.2).bind fun z2 => (pNum b z2.2).bind fun z3 => (pNum b z3.2).bind fun z4 => some (⟨x0, z1.1, z2.1, z3.1, z4.1⟩, z4.2)) := ⟨by rw [HP0.out, hp]; rfl⟩
  have HR1 := Aside0.mk hr1
  have HK1 := Aside0.mk (HK0.out.trans hk1)
  have HZ1 := Aside0.mk (Nat.lt_of_lt_of_le HZ0.out (hk1.size hr1))
  have HB1 := Aside0.mk (hk1 _ _ HB0.out (Nat.ne_of_gt HG.out))
  have HQ1 := Aside0.mk (text_rd w0 h A b c q0 w1 HS.out HR1.out)
  clear hr1 hk1 hp HQ0 HR0 HB0 HK0 HP0 HZ0
  go_wp2_with fail
  refine HQ1.out.mono ?_
  intro e w2 hq
  cases hp : pText b q0 with
  | none =>
   rw [hp] at hq
   obtain ⟨⟨T, v, rfl⟩, hbl⟩ := hq
   exact ⟨rfl, by rw [HP1.out, hp]; exact ⟨⟨T, v, rfl⟩, hbl⟩⟩
  | some z =>
   obtain ⟨x1, q1⟩ := z
   rw [hp] at hq
   obtain ⟨⟨v, rfl, rfl⟩, hr1, hk1⟩ := hq
   have HP2 : Aside0 (pPart b p = (pNum b q1).bind fun z2 => (pNum b z2.2).bind fun z3 => (pNum b z3.2).bind fun z4 => some (⟨x0, x1, z2.1, z3.1, z4.1⟩, z4.2)) := ⟨by rw [HP1.out, hp]; rfl⟩
   have HR2 := Aside0.mk hr1
   have HK2 := Aside0.mk (HK1.out.trans hk1)
   have HZ2 := Aside0.mk (Nat.lt_of_lt_of_le HZ1.out (hk1.size hr1))
   have HB2 := Aside0.mk (hk1 _ _ HB1.out (Nat.ne_of_gt HG.out))
   have HQ2 := Aside0.mk (number_rd w0 h A b c q1 w2 HS.out HR2.out)
   clear hr1 hk1 hp HQ1 HR1 HB1 HK1 HP1 HZ1
   go_wp2_with fail
   refine HQ2.out.mono ?_
   intro e w3 hq
   cases hp : pNum b q1 with
   | none =>
    rw [hp] at hq
    obtain ⟨⟨T, v, rfl⟩, hbl⟩ := hq
    exact ⟨rfl, by rw [HP2.out, hp]; exact ⟨⟨T, v, rfl⟩, hbl⟩⟩
   | some z =>
    obtain ⟨x2, q2⟩ := z
    rw [hp] at hq
    obtain ⟨⟨v, rfl, rfl⟩, hr1, hk1⟩ := hq
    have HP3 : Aside0 (pPart b p = (pNum b q2).bind fun z3 => (pNum b z3.2).bind fun z4 => some (⟨x0, x1, x2, z3.1, z4.1⟩, z4.2)) := ⟨by rw [HP2.out, hp]; rfl⟩
    have HR3 := Aside0.mk hr1
    have HK3 := Aside0.mk (HK2.out.trans hk1)
    have HZ3 := Aside0.mk (Nat.lt_of_lt_of_le HZ2.out (hk1.size hr1))
    have HB3 := Aside0.mk (hk1 _ _ HB2.out (Nat.ne_of_gt HG.out))
    have HQ3 := Aside0.mk (number_rd w0 h A b c q2 w3 HS.out HR3.out)
    clear hr1 hk1 hp HQ2 HR2 HB2 HK2 HP2 HZ2
    go_wp2_with fail
    refine HQ3.out.mono ?_
    intro e w4 hq
    cases hp : pNum b q2 with
    | none =>
     rw [hp] at hq
     obtain ⟨⟨T, v, rfl⟩, hbl⟩ := hq
     exact ⟨rfl, by rw [HP3.out, hp]; exact ⟨⟨T, v, rfl⟩, hbl⟩⟩
    | some z =>
     obtain ⟨x3, q3⟩ := z
     rw [hp] at hq
     obtain ⟨⟨v, rfl, rfl⟩, hr1, hk1⟩ := hq
     have HP4 : Aside0 (pPart b p = (pNum b q3).bind fun z4 => some (⟨x0, x1, x2, x3, z4.1⟩, z4.2)) := ⟨by rw [HP3.out, hp]; rfl⟩
     have HR4 := Aside0.mk hr1
     have HK4 := Aside0.mk (HK3.out.trans hk1)
     have HZ4 := Aside0.mk (Nat.lt_of_lt_of_le HZ3.out (hk1.size hr1))
     have HB4 := Aside0.mk (hk1 _ _ HB3.out (Nat.ne_of_gt HG.out))
     have HQ4 := Aside0.mk (number_rd w0 h A b c q3 w4 HS.out HR4.out)
     clear hr1 hk1 hp HQ3 HR3 HB3 HK3 HP3 HZ3
     go_wp2_with fail
     refine HQ4.out.mono ?_
     intro e w5 hq
     cases hp : pNum b q3 with
     | none =>
      rw [hp] at hq
      obtain ⟨⟨T, v, rfl⟩, hbl⟩ := hq
      exact ⟨rfl, by rw [HP4.out, hp]; exact ⟨⟨T, v, rfl⟩, hbl⟩⟩
     | some z =>
      obtain ⟨x4, q4⟩ := z
      rw [hp] at hq
      obtain ⟨⟨v, rfl, rfl⟩, hr1, hk1⟩ := hq
      have HP5 : Aside0 (pPart b p = some (⟨x0, x1, x2, x3, x4⟩, q4)) := ⟨by rw [HP4.out, hp]; rfl⟩
      have HR5 := Aside0.mk hr1
      have HK5 := Aside0.mk (HK4.out.trans hk1)
      have HZ5 := Aside0.mk (Nat.lt_of_lt_of_le HZ4.out (hk1.size hr1))
      have HB5 := Aside0.mk (hk1 _ _ HB4.out (Nat.ne_of_gt HG.out))
      clear hr1 hk1 hp HQ4 HR4 HB4 HK4 HP4 HZ4
      have hf_0 := blk_frozen HB5.out 0
      have hc_0 := blk_cell HB5.out 0
      have hf_1 := blk_frozen HB5.out 1
      have hc_1 := blk_cell HB5.out 1
      have hf_2 := blk_frozen HB5.out 2
      have hc_2 := blk_cell HB5.out 2
      have hf_3 := blk_frozen HB5.out 3
      have hc_3 := blk_cell HB5.out 3
      have hf_4 := blk_frozen HB5.out 4
      have hc_4 := blk_cell HB5.out 4
      have hu1 := Tryz.underlying48
      go_wp2
      have hb1 : (((((w5.setCell ⟨W.heap.size, 0, none⟩ (.int .i64 x0)).setCell ⟨W.heap.size, 1, none⟩ (.string x1)).setCell ⟨W.heap.size, 2, none⟩ (.int .i64 x2)).setCell ⟨W.heap.size, 3, none⟩ (.int .i64 x3)).setCell ⟨W.heap.size, 4, none⟩ (.int .i64 x4)).heap[W.heap.size]? = some (.cells #[.int .i64 x0, .string x1, .int .i64 x2, .int .i64 x3, .int .i64 x4] 48 (0, 0)) := by simpa using (blk_set (blk_set (blk_set (blk_set (blk_set HB5.out 0 (.int .i64 x0)) 1 (.string x1)) 2 (.int .i64 x2)) 3 (.int .i64 x3)) 4 (.int .i64 x4))
      refine bodyPost_ret (results_cell_row rfl _ _ W.heap.size 48 #[.int .i64 x0, .string x1, .int .i64 x2, .int .i64 x3, .int .i64 x4] (0, 0) _ rfl hb1 Tryz.underlying48 rfl (by kernel_rfl)) rfl ?_
      rw [HP5.out]
      exact ⟨⟨_, rfl, _, rfl, k48_mkM _ _ _ (⟨x0, x1, x2, x3, x4⟩ : S48) ⟩, (RdAt.box (RdAt.box (RdAt.box (RdAt.box (RdAt.box HR5.out HG.out _ _) HG.out _ _) HG.out _ _) HG.out _ _) HG.out _ _), (KeptR.box (KeptR.box (KeptR.box (KeptR.box (KeptR.box HK5.out (Nat.le_refl _) _ _) (Nat.le_refl _) _ _) (Nat.le_refl _) _ _) (Nat.le_refl _) _ _) (Nat.le_refl _) _ _)⟩
end Go.Proofs.YtiocgaekoeekgaaGreat.P
end
section
namespace Go.Proofs.YtiocgaekoeekgaaGreat.P
open Go.RowKit Go.Proofs.YtiocgaekoeekgaaGreatW.PrintWords Go.Proofs.YtiocgaekoeekgaaGreatW.PrintLast Go.Proofs.YtiocgaekoeekgaaGreatW.PrintMore
attribute [local go_sem] max2_int min2_int max_two min_two max_three min_three max_four min_four   
set_option linter.unusedVariables false
set_option linter.unusedSimpArgs false
attribute [local go_sem] Oper.semAt_some
theorem Kd.R_of_own0 {α : Type} {d : Kd α} {e b s : Nat} (w : World) (hb : b ≤ w.heap.size) (hs : s ≤ w.heap.size) : d.R e (w.alloc (.cells #[] e)) b (fun k => s ≤ k) (.slice (some ⟨w.heap.size, 0, none⟩) 0 0) [] :=
 ⟨fun k hk => by simp [Value.ownBlock] at hk; omega, [], ⟨by simp, .inr ⟨w.heap.size, 0, #[], rfl, hb, blk_new w _, Nat.le_refl _, by simp [maxLen], by simp, by simp⟩⟩, Reps.none _ _⟩
set_option maxHeartbeats 4000000 in
set_option maxRecDepth 100000 in
theorem cloneI (A0 : Option Addr) (c0 : Nat) (l0 : List Int) (w : World) (s b : Nat) (hr0 : Kd.R (Kd.int .i64) 3 w b (fun k => s ≤ k) (.slice A0 l0.length c0) l0) (hs : s ≤ w.heap.size) (hb : b ≤ w.heap.size) (hl : l0.length * 8 ≤ 140737488355328) :
  Calls Tryz.prog 112 #[.slice A0 l0.length c0] w fun e w' => ∃ v0_ : Value, e = .returned (v0_) ∧ Kd.R (Kd.int .i64) 3 w' b (fun k => s ≤ k) v0_ l0 ∧ Below w.heap.size w w' := by
 have q22 : ∀ (w : World) (a : Option Addr) (n c n' c' : Nat), (binOp .eql 35 (.slice a n c) (.slice none n' c')).run Tryz.prog w = .ok (.bool a.isNone) w := fun w a n c n' c' => Lib.run_eql_slice_nil w _ _ a n c n' c' Tryz.underlying35
 have HR := Aside0.mk hr0
 have HL := Aside0.mk hl
 have HB := Aside0.mk hb
 have HS := Aside0.mk hs
 clear hr0 hl hb hs
 cases A0 with
 | none =>
  have h0 : l0 = [] := by
   cases l0 with
   | nil => rfl
   | cons x l =>
    obtain ⟨A1, c1, e1, _, hc1⟩ := Kd.R_reads HR.out
    injection e1 with e1
    subst e1
    obtain ⟨ad, e, _⟩ := hc1.2.2 (by simp)
    cases e
  subst h0
  go_enter Tryz.func112, Tryz.ntmps112
  go_wp2
  go_ret
  exact ⟨_, rfl, Kd.R_nil _ _ _ _ _, Below.refl _ _⟩
 | some ad =>
  have hrr : Aside0 (ReadsRow (Kd.M (Kd.int .i64) (w.alloc (.cells #[] 3)) b (fun k => s ≤ k ∧ k < w.heap.size)) (Kd.sz (Kd.int .i64)) (w.alloc (.cells #[] 3)) (some ad) l0.length l0) := ⟨by
   obtain ⟨A1, c1, e1, _, hc1⟩ := OwnRow.reads HR.out.2
   injection e1 with e1
   subst e1
   exact hc1.imp_ (below_alloc (Below.refl _ _) _) (fun x cs hm => Kd.M_below (Kd.M_mono _ (fun k hk => ⟨hk.1.1, hk.2.2.1⟩) (Kd.M_bound _ hm)) (below_alloc (Below.refl _ _) _))⟩
  go_enter Tryz.func112, Tryz.ntmps112
  go_wp2_with (at_builtin; go_loud (refine Kd.R_append_rows (Kd.int .i64) (w0 := w) b rfl (.tmp 5) (.tmp 6) 35 3 (.int .i64 0) 8 rfl Tryz.underlying35 (by kernel_rfl) rfl (by show 0 < 1; decide) (by decide) (.slice (some ⟨w.heap.size, 0, none⟩) 0 0) [] l0 (some ad) l0.length c0 (fun k => s ≤ k) (fun k => s ≤ k ∧ k < w.heap.size) rfl rfl ?hO hrr.out (fun _ _ h => h) ?hok ?hf ?hB ?hb ?hl ?_); (case hO => go_loud (exact Kd.R_of_own0 w HB.out HS.out)); (case hok => go_loud (exact (fun k hk => ⟨hk.1, by simp [Value.ownBlock]; omega⟩))); (case hf => go_loud (exact (fun k hk => by have := HS.out; simp at hk; omega))); (case hB => go_loud (exact (below_alloc (Below.refl _ _) _).mono HB.out)); (case hb => go_loud (have := HB.out; simp; omega)); (case hl => go_loud (have := HL.out; simp; omega)); intro v1 w1 ho hb hg hat)
  have ho' : Kd.R (Kd.int .i64) 3 w1 b (fun k => s ≤ k) v1 l0 := ho
  have HO := Aside0.mk ho'
  have HB1 : Aside0 (Below w.heap.size w w1) := ⟨Below.grown (below_alloc (Below.refl _ _) (.cells #[] 3)) hg (by simp) (fun k hk => by simp [Value.ownBlock] at hk; omega)⟩
  clear ho ho' hb hg hat
  go_wp2
  go_ret
  exact ⟨_, rfl, HO.out, HB1.out⟩
set_option maxHeartbeats 4000000 in
set_option maxRecDepth 100000 in
theorem cloneE (A0 : Option Addr) (c0 : Nat) (l0 : List S46) (w : World) (s b : Nat) (hr0 : Kd.R k46 46 w b (fun k => s ≤ k) (.slice A0 l0.length c0) l0) (hs : s ≤ w.heap.size) (hb : b ≤ w.heap.size) (hl : l0.length * 32 ≤ 140737488355328) :
  Calls Tryz.prog 65 #[.slice A0 l0.length c0] w fun e w' => ∃ v0_ : Value, e = .returned (v0_) ∧ Kd.R k46 46 w' b (fun k => s ≤ k) v0_ l0 ∧ Below w.heap.size w w' := by
 have q22 : ∀ (w : World) (a : Option Addr) (n c n' c' : Nat), (binOp .eql 40 (.slice a n c) (.slice none n' c')).run Tryz.prog w = .ok (.bool a.isNone) w := fun w a n c n' c' => Lib.run_eql_slice_nil w _ _ a n c n' c' Tryz.underlying40
 have HR := Aside0.mk hr0
 have HL := Aside0.mk hl
 have HB := Aside0.mk hb
 have HS := Aside0.mk hs
 clear hr0 hl hb hs
 cases A0 with
 | none =>
  have h0 : l0 = [] := by
   cases l0 with
   | nil => rfl
   | cons x l =>
    obtain ⟨A1, c1, e1, _, hc1⟩ := Kd.R_reads HR.out
    injection e1 with e1
    subst e1
    obtain ⟨ad, e, _⟩ := hc1.2.2 (by simp)
    cases e
  subst h0
  go_enter Tryz.func65, Tryz.ntmps65
  go_wp2
  go_ret
  exact ⟨_, rfl, Kd.R_nil _ _ _ _ _, Below.refl _ _⟩
 | some ad =>
  have hrr : Aside0 (ReadsRow (Kd.M k46 (w.alloc (.cells #[] 46)) b (fun k => s ≤ k ∧ k < w.heap.size)) (Kd.sz k46) (w.alloc (.cells #[] 46)) (some ad) l0.length l0) := ⟨by
   obtain ⟨A1, c1, e1, _, hc1⟩ := OwnRow.reads HR.out.2
   injection e1 with e1
   subst e1
   exact hc1.imp_ (below_alloc (Below.refl _ _) _) (fun x cs hm => Kd.M_below (Kd.M_mono _ (fun k hk => ⟨hk.1.1, hk.2.2.1⟩) (Kd.M_bound _ hm)) (below_alloc (Below.refl _ _) _))⟩
  go_enter Tryz.func65, Tryz.ntmps65
  go_wp2_with (at_builtin; go_loud (refine Kd.R_append_rows k46 (w0 := w) b rfl (.tmp 5) (.tmp 6) 40 46 (.agg #[.string ⟨#[]⟩, .int .i64 0, .int .i64 0]) 32 rfl Tryz.underlying40 (by kernel_rfl) rfl (by show 0 < 3; decide) (by decide) (.slice (some ⟨w.heap.size, 0, none⟩) 0 0) [] l0 (some ad) l0.length c0 (fun k => s ≤ k) (fun k => s ≤ k ∧ k < w.heap.size) rfl rfl ?hO hrr.out (fun _ _ h => h) ?hok ?hf ?hB ?hb ?hl ?_); (case hO => go_loud (exact Kd.R_of_own0 w HB.out HS.out)); (case hok => go_loud (exact (fun k hk => ⟨hk.1, by simp [Value.ownBlock]; omega⟩))); (case hf => go_loud (exact (fun k hk => by have := HS.out; simp at hk; omega))); (case hB => go_loud (exact (below_alloc (Below.refl _ _) _).mono HB.out)); (case hb => go_loud (have := HB.out; simp; omega)); (case hl => go_loud (have := HL.out; simp; omega)); intro v1 w1 ho hb hg hat)
  have ho' : Kd.R k46 46 w1 b (fun k => s ≤ k) v1 l0 := ho
  have HO := Aside0.mk ho'
  have HB1 : Aside0 (Below w.heap.size w w1) := ⟨Below.grown (below_alloc (Below.refl _ _) (.cells #[] 46)) hg (by simp) (fun k hk => by simp [Value.ownBlock] at hk; omega)⟩
  clear ho ho' hb hg hat
  go_wp2
  go_ret
  exact ⟨_, rfl, HO.out, HB1.out⟩
set_option maxHeartbeats 4000000 in
set_option maxRecDepth 100000 in
theorem cloneP (A0 : Option Addr) (c0 : Nat) (l0 : List S48) (w : World) (s b : Nat) (hr0 : Kd.R k48 48 w b (fun k => s ≤ k) (.slice A0 l0.length c0) l0) (hs : s ≤ w.heap.size) (hb : b ≤ w.heap.size) (hl : l0.length * 48 ≤ 140737488355328) :
  Calls Tryz.prog 115 #[.slice A0 l0.length c0] w fun e w' => ∃ v0_ : Value, e = .returned (v0_) ∧ Kd.R k48 48 w' b (fun k => s ≤ k) v0_ l0 ∧ Below w.heap.size w w' := by
 have q22 : ∀ (w : World) (a : Option Addr) (n c n' c' : Nat), (binOp .eql 50 (.slice a n c) (.slice none n' c')).run Tryz.prog w = .ok (.bool a.isNone) w := fun w a n c n' c' => Lib.run_eql_slice_nil w _ _ a n c n' c' Tryz.underlying50
 have HR := Aside0.mk hr0
 have HL := Aside0.mk hl
 have HB := Aside0.mk hb
 have HS := Aside0.mk hs
 clear hr0 hl hb hs
 cases A0 with
 | none =>
  have h0 : l0 = [] := by
   cases l0 with
   | nil => rfl
   | cons x l =>
    obtain ⟨A1, c1, e1, _, hc1⟩ := Kd.R_reads HR.out
    injection e1 with e1
    subst e1
    obtain ⟨ad, e, _⟩ := hc1.2.2 (by simp)
    cases e
  subst h0
  go_enter Tryz.func115, Tryz.ntmps115
  go_wp2
  go_ret
  exact ⟨_, rfl, Kd.R_nil _ _ _ _ _, Below.refl _ _⟩
 | some ad =>
  have hrr : Aside0 (ReadsRow (Kd.M k48 (w.alloc (.cells #[] 48)) b (fun k => s ≤ k ∧ k < w.heap.size)) (Kd.sz k48) (w.alloc (.cells #[] 48)) (some ad) l0.length l0) := ⟨by
   obtain ⟨A1, c1, e1, _, hc1⟩ := OwnRow.reads HR.out.2
   injection e1 with e1
   subst e1
   exact hc1.imp_ (below_alloc (Below.refl _ _) _) (fun x cs hm => Kd.M_below (Kd.M_mono _ (fun k hk => ⟨hk.1.1, hk.2.2.1⟩) (Kd.M_bound _ hm)) (below_alloc (Below.refl _ _) _))⟩
  go_enter Tryz.func115, Tryz.ntmps115
  go_wp2_with (at_builtin; go_loud (refine Kd.R_append_rows k48 (w0 := w) b rfl (.tmp 5) (.tmp 6) 50 48 (.agg #[.int .i64 0, .string ⟨#[]⟩, .int .i64 0, .int .i64 0, .int .i64 0]) 48 rfl Tryz.underlying50 (by kernel_rfl) rfl (by show 0 < 5; decide) (by decide) (.slice (some ⟨w.heap.size, 0, none⟩) 0 0) [] l0 (some ad) l0.length c0 (fun k => s ≤ k) (fun k => s ≤ k ∧ k < w.heap.size) rfl rfl ?hO hrr.out (fun _ _ h => h) ?hok ?hf ?hB ?hb ?hl ?_); (case hO => go_loud (exact Kd.R_of_own0 w HB.out HS.out)); (case hok => go_loud (exact (fun k hk => ⟨hk.1, by simp [Value.ownBlock]; omega⟩))); (case hf => go_loud (exact (fun k hk => by have := HS.out; simp at hk; omega))); (case hB => go_loud (exact (below_alloc (Below.refl _ _) _).mono HB.out)); (case hb => go_loud (have := HB.out; simp; omega)); (case hl => go_loud (have := HL.out; simp; omega)); intro v1 w1 ho hb hg hat)
  have ho' : Kd.R k48 48 w1 b (fun k => s ≤ k) v1 l0 := ho
  have HO := Aside0.mk ho'
  have HB1 : Aside0 (Below w.heap.size w w1) := ⟨Below.grown (below_alloc (Below.refl _ _) (.cells #[] 48)) hg (by simp) (fun k hk => by simp [Value.ownBlock] at hk; omega)⟩
  clear ho ho' hb hg hat
  go_wp2
  go_ret
  exact ⟨_, rfl, HO.out, HB1.out⟩
set_option maxHeartbeats 4000000 in
set_option maxRecDepth 100000 in
theorem cloneR (A0 : Option Addr) (c0 : Nat) (l0 : List S56) (w : World) (s b : Nat) (hr0 : Kd.R k56 56 w b (fun k => s ≤ k) (.slice A0 l0.length c0) l0) (hs : s ≤ w.heap.size) (hb : b ≤ w.heap.size) (hl : l0.length * 72 ≤ 140737488355328) :
  Calls Tryz.prog 102 #[.slice A0 l0.length c0] w fun e w' => ∃ v0_ : Value, e = .returned (v0_) ∧ Kd.R k56 56 w' b (fun k => s ≤ k) v0_ l0 ∧ Below w.heap.size w w' := by
 have q22 : ∀ (w : World) (a : Option Addr) (n c n' c' : Nat), (binOp .eql 41 (.slice a n c) (.slice none n' c')).run Tryz.prog w = .ok (.bool a.isNone) w := fun w a n c n' c' => Lib.run_eql_slice_nil w _ _ a n c n' c' Tryz.underlying41
 have HR := Aside0.mk hr0
 have HL := Aside0.mk hl
 have HB := Aside0.mk hb
 have HS := Aside0.mk hs
 clear hr0 hl hb hs
 cases A0 with
 | none =>
  have h0 : l0 = [] := by
   cases l0 with
   | nil => rfl
   | cons x l =>
    obtain ⟨A1, c1, e1, _, hc1⟩ := Kd.R_reads HR.out
    injection e1 with e1
    subst e1
    obtain ⟨ad, e, _⟩ := hc1.2.2 (by simp)
    cases e
  subst h0
  go_enter Tryz.func102, Tryz.ntmps102
  go_wp2
  go_ret
  exact ⟨_, rfl, Kd.R_nil _ _ _ _ _, Below.refl _ _⟩
 | some ad =>
  have hrr : Aside0 (ReadsRow (Kd.M k56 (w.alloc (.cells #[] 56)) b (fun k => s ≤ k ∧ k < w.heap.size)) (Kd.sz k56) (w.alloc (.cells #[] 56)) (some ad) l0.length l0) := ⟨by
   obtain ⟨A1, c1, e1, _, hc1⟩ := OwnRow.reads HR.out.2
   injection e1 with e1
   subst e1
   exact hc1.imp_ (below_alloc (Below.refl _ _) _) (fun x cs hm => Kd.M_below (Kd.M_mono _ (fun k hk => ⟨hk.1.1, hk.2.2.1⟩) (Kd.M_bound _ hm)) (below_alloc (Below.refl _ _) _))⟩
  go_enter Tryz.func102, Tryz.ntmps102
  go_wp2_with (at_builtin; go_loud (refine Kd.R_append_rows k56 (w0 := w) b rfl (.tmp 5) (.tmp 6) 41 56 (.agg #[.int .i64 0, .slice none 0 0, .int .i64 0, .slice none 0 0, .int .i64 0]) 72 rfl Tryz.underlying41 (by kernel_rfl) rfl (by show 0 < 5; decide) (by decide) (.slice (some ⟨w.heap.size, 0, none⟩) 0 0) [] l0 (some ad) l0.length c0 (fun k => s ≤ k) (fun k => s ≤ k ∧ k < w.heap.size) rfl rfl ?hO hrr.out (fun _ _ h => h) ?hok ?hf ?hB ?hb ?hl ?_); (case hO => go_loud (exact Kd.R_of_own0 w HB.out HS.out)); (case hok => go_loud (exact (fun k hk => ⟨hk.1, by simp [Value.ownBlock]; omega⟩))); (case hf => go_loud (exact (fun k hk => by have := HS.out; simp at hk; omega))); (case hB => go_loud (exact (below_alloc (Below.refl _ _) _).mono HB.out)); (case hb => go_loud (have := HB.out; simp; omega)); (case hl => go_loud (have := HL.out; simp; omega)); intro v1 w1 ho hb hg hat)
  have ho' : Kd.R k56 56 w1 b (fun k => s ≤ k) v1 l0 := ho
  have HO := Aside0.mk ho'
  have HB1 : Aside0 (Below w.heap.size w w1) := ⟨Below.grown (below_alloc (Below.refl _ _) (.cells #[] 56)) hg (by simp) (fun k hk => by simp [Value.ownBlock] at hk; omega)⟩
  clear ho ho' hb hg hat
  go_wp2
  go_ret
  exact ⟨_, rfl, HO.out, HB1.out⟩
set_option maxHeartbeats 4000000 in
set_option maxRecDepth 100000 in
theorem cloneS (A0 : Option Addr) (c0 : Nat) (l0 : List S52) (w : World) (s b : Nat) (hr0 : Kd.R k52 52 w b (fun k => s ≤ k) (.slice A0 l0.length c0) l0) (hs : s ≤ w.heap.size) (hb : b ≤ w.heap.size) (hl : l0.length * 32 ≤ 140737488355328) :
  Calls Tryz.prog 66 #[.slice A0 l0.length c0] w fun e w' => ∃ v0_ : Value, e = .returned (v0_) ∧ Kd.R k52 52 w' b (fun k => s ≤ k) v0_ l0 ∧ Below w.heap.size w w' := by
 have q22 : ∀ (w : World) (a : Option Addr) (n c n' c' : Nat), (binOp .eql 42 (.slice a n c) (.slice none n' c')).run Tryz.prog w = .ok (.bool a.isNone) w := fun w a n c n' c' => Lib.run_eql_slice_nil w _ _ a n c n' c' Tryz.underlying42
 have HR := Aside0.mk hr0
 have HL := Aside0.mk hl
 have HB := Aside0.mk hb
 have HS := Aside0.mk hs
 clear hr0 hl hb hs
 cases A0 with
 | none =>
  have h0 : l0 = [] := by
   cases l0 with
   | nil => rfl
   | cons x l =>
    obtain ⟨A1, c1, e1, _, hc1⟩ := Kd.R_reads HR.out
    injection e1 with e1
    subst e1
    obtain ⟨ad, e, _⟩ := hc1.2.2 (by simp)
    cases e
  subst h0
  go_enter Tryz.func66, Tryz.ntmps66
  go_wp2
  go_ret
  exact ⟨_, rfl, Kd.R_nil _ _ _ _ _, Below.refl _ _⟩
 | some ad =>
  have hrr : Aside0 (ReadsRow (Kd.M k52 (w.alloc (.cells #[] 52)) b (fun k => s ≤ k ∧ k < w.heap.size)) (Kd.sz k52) (w.alloc (.cells #[] 52)) (some ad) l0.length l0) := ⟨by
   obtain ⟨A1, c1, e1, _, hc1⟩ := OwnRow.reads HR.out.2
   injection e1 with e1
   subst e1
   exact hc1.imp_ (below_alloc (Below.refl _ _) _) (fun x cs hm => Kd.M_below (Kd.M_mono _ (fun k hk => ⟨hk.1.1, hk.2.2.1⟩) (Kd.M_bound _ hm)) (below_alloc (Below.refl _ _) _))⟩
  go_enter Tryz.func66, Tryz.ntmps66
  go_wp2_with (at_builtin; go_loud (refine Kd.R_append_rows k52 (w0 := w) b rfl (.tmp 5) (.tmp 6) 42 52 (.agg #[.int .i64 0, .slice none 0 0]) 32 rfl Tryz.underlying42 (by kernel_rfl) rfl (by show 0 < 2; decide) (by decide) (.slice (some ⟨w.heap.size, 0, none⟩) 0 0) [] l0 (some ad) l0.length c0 (fun k => s ≤ k) (fun k => s ≤ k ∧ k < w.heap.size) rfl rfl ?hO hrr.out (fun _ _ h => h) ?hok ?hf ?hB ?hb ?hl ?_); (case hO => go_loud (exact Kd.R_of_own0 w HB.out HS.out)); (case hok => go_loud (exact (fun k hk => ⟨hk.1, by simp [Value.ownBlock]; omega⟩))); (case hf => go_loud (exact (fun k hk => by have := HS.out; simp at hk; omega))); (case hB => go_loud (exact (below_alloc (Below.refl _ _) _).mono HB.out)); (case hb => go_loud (have := HB.out; simp; omega)); (case hl => go_loud (have := HL.out; simp; omega)); intro v1 w1 ho hb hg hat)
  have ho' : Kd.R k52 52 w1 b (fun k => s ≤ k) v1 l0 := ho
  have HO := Aside0.mk ho'
  have HB1 : Aside0 (Below w.heap.size w w1) := ⟨Below.grown (below_alloc (Below.refl _ _) (.cells #[] 52)) hg (by simp) (fun k hk => by simp [Value.ownBlock] at hk; omega)⟩
  clear ho ho' hb hg hat
  go_wp2
  go_ret
  exact ⟨_, rfl, HO.out, HB1.out⟩
set_option maxHeartbeats 4000000 in
set_option maxRecDepth 100000 in
theorem cloneL (A0 : Option Addr) (c0 : Nat) (l0 : List S44) (w : World) (s b : Nat) (hr0 : Kd.R k44 44 w b (fun k => s ≤ k) (.slice A0 l0.length c0) l0) (hs : s ≤ w.heap.size) (hb : b ≤ w.heap.size) (hl : l0.length * 104 ≤ 140737488355328) :
  Calls Tryz.prog 83 #[.slice A0 l0.length c0] w fun e w' => ∃ v0_ : Value, e = .returned (v0_) ∧ Kd.R k44 44 w' b (fun k => s ≤ k) v0_ l0 ∧ Below w.heap.size w w' := by
 have q22 : ∀ (w : World) (a : Option Addr) (n c n' c' : Nat), (binOp .eql 26 (.slice a n c) (.slice none n' c')).run Tryz.prog w = .ok (.bool a.isNone) w := fun w a n c n' c' => Lib.run_eql_slice_nil w _ _ a n c n' c' Tryz.underlying26
 have HR := Aside0.mk hr0
 have HL := Aside0.mk hl
 have HB := Aside0.mk hb
 have HS := Aside0.mk hs
 clear hr0 hl hb hs
 cases A0 with
 | none =>
  have h0 : l0 = [] := by
   cases l0 with
   | nil => rfl
   | cons x l =>
    obtain ⟨A1, c1, e1, _, hc1⟩ := Kd.R_reads HR.out
    injection e1 with e1
    subst e1
    obtain ⟨ad, e, _⟩ := hc1.2.2 (by simp)
    cases e
  subst h0
  go_enter Tryz.func83, Tryz.ntmps83
  go_wp2
  go_ret
  exact ⟨_, rfl, Kd.R_nil _ _ _ _ _, Below.refl _ _⟩
 | some ad =>
  have hrr : Aside0 (ReadsRow (Kd.M k44 (w.alloc (.cells #[] 44)) b (fun k => s ≤ k ∧ k < w.heap.size)) (Kd.sz k44) (w.alloc (.cells #[] 44)) (some ad) l0.length l0) := ⟨by
   obtain ⟨A1, c1, e1, _, hc1⟩ := OwnRow.reads HR.out.2
   injection e1 with e1
   subst e1
   exact hc1.imp_ (below_alloc (Below.refl _ _) _) (fun x cs hm => Kd.M_below (Kd.M_mono _ (fun k hk => ⟨hk.1.1, hk.2.2.1⟩) (Kd.M_bound _ hm)) (below_alloc (Below.refl _ _) _))⟩
  go_enter Tryz.func83, Tryz.ntmps83
  go_wp2_with (at_builtin; go_loud (refine Kd.R_append_rows k44 (w0 := w) b rfl (.tmp 5) (.tmp 6) 26 44 (.agg #[.string ⟨#[]⟩, .int .i64 0, .int .i64 0, .slice none 0 0, .slice none 0 0, .slice none 0 0]) 104 rfl Tryz.underlying26 (by kernel_rfl) rfl (by show 0 < 6; decide) (by decide) (.slice (some ⟨w.heap.size, 0, none⟩) 0 0) [] l0 (some ad) l0.length c0 (fun k => s ≤ k) (fun k => s ≤ k ∧ k < w.heap.size) rfl rfl ?hO hrr.out (fun _ _ h => h) ?hok ?hf ?hB ?hb ?hl ?_); (case hO => go_loud (exact Kd.R_of_own0 w HB.out HS.out)); (case hok => go_loud (exact (fun k hk => ⟨hk.1, by simp [Value.ownBlock]; omega⟩))); (case hf => go_loud (exact (fun k hk => by have := HS.out; simp at hk; omega))); (case hB => go_loud (exact (below_alloc (Below.refl _ _) _).mono HB.out)); (case hb => go_loud (have := HB.out; simp; omega)); (case hl => go_loud (have := HL.out; simp; omega)); intro v1 w1 ho hb hg hat)
  have ho' : Kd.R k44 44 w1 b (fun k => s ≤ k) v1 l0 := ho
  have HO := Aside0.mk ho'
  have HB1 : Aside0 (Below w.heap.size w w1) := ⟨Below.grown (below_alloc (Below.refl _ _) (.cells #[] 44)) hg (by simp) (fun k hk => by simp [Value.ownBlock] at hk; omega)⟩
  clear ho ho' hb hg hat
  go_wp2
  go_ret
  exact ⟨_, rfl, HO.out, HB1.out⟩
end Go.Proofs.YtiocgaekoeekgaaGreat.P
end
section
namespace Go.Proofs.YtiocgaekoeekgaaGreat.P
open Go.RowKit Go.Proofs.YtiocgaekoeekgaaGreatW.PrintWords Go.Proofs.YtiocgaekoeekgaaGreatW.PrintLast Go.Proofs.YtiocgaekoeekgaaGreatW.PrintMore
attribute [local go_sem] max2_int min2_int max_two min_two max_three min_three max_four min_four   
set_option linter.unusedVariables false
set_option linter.unusedSimpArgs false
attribute [local go_sem] Oper.semAt_some
set_option maxHeartbeats 4000000 in
set_option maxRecDepth 100000 in
theorem cloneC_rule (A0 : Option Addr) (c0 : Nat) (l0 : List S56) (w : World) (hr0 : Kd.C k56 w A0 l0.length l0) (hl : l0.length * 72 ≤ 140737488355328) :
  Calls Tryz.prog 102 #[.slice A0 l0.length c0] w fun e w' => ∃ v0_ : Value, e = .returned (v0_) ∧ Kd.N k56 56 w' w.heap.size (fun _ => True) v0_ l0 ∧ Below w.heap.size w w' := by
 have q22 : ∀ (w : World) (a : Option Addr) (n c n' c' : Nat), (binOp .eql 41 (.slice a n c) (.slice none n' c')).run Tryz.prog w = .ok (.bool a.isNone) w := fun w a n c n' c' => Lib.run_eql_slice_nil w _ _ a n c n' c' Tryz.underlying41
 have HR := Aside0.mk hr0
 have HL := Aside0.mk hl
 clear hr0 hl
 cases A0 with
 | none =>
  have h0 : l0 = [] := by
   cases l0 with
   | nil => rfl
   | cons x l => obtain ⟨ad, e, _⟩ := HR.out.2.2 (by simp); cases e
  subst h0
  go_enter Tryz.func102, Tryz.ntmps102
  go_wp2
  go_ret
  exact ⟨_, rfl, Kd.N_nil _ _ _ _ _, Below.refl _ _⟩
 | some ad =>
  have HF := Aside0.mk (Kd.C_F k56_heap HR.out)
  have HM : Aside0 (Kd.N k56 56 (w.alloc (.cells #[] 56)) w.heap.size (fun _ => True) (.slice (some ⟨w.heap.size, 0, none⟩) 0 0) []) := ⟨Kd.R_N (Kd.R_mono (Kd.R_of_own0 w (Nat.le_refl _) (Nat.le_refl _)) (fun _ _ => trivial))⟩
  go_enter Tryz.func102, Tryz.ntmps102
  go_wp2_with (at_builtin; go_loud (refine Kd.N_append_rows k56 (w0 := w) w.heap.size rfl (.tmp 5) (.tmp 6) 41 56 (.agg #[.int .i64 0, .slice none 0 0, .int .i64 0, .slice none 0 0, .int .i64 0]) 72 rfl Tryz.underlying41 (by kernel_rfl) rfl (by show 0 < 5; decide) (by decide) (.slice (some ⟨w.heap.size, 0, none⟩) 0 0) [] l0 (some ad) l0.length c0 (fun _ => True) (fun k => k < w.heap.size) rfl rfl HM.out (Kd.F_alloc HF.out _) (fun k hk => ⟨trivial, fun e => by simp [Value.ownBlock] at e; omega⟩) (fun _ _ => trivial) (below_alloc (Below.refl _ _) _) (by simp) (by have := HL.out; simp; omega) ?_); intro v1 w1 ho hb hg hat)
  have ho' : Kd.N k56 56 w1 w.heap.size (fun _ => True) v1 l0 := ho
  have HO := Aside0.mk ho'
  have HB := Aside0.mk hb
  clear ho ho' hb hg hat
  go_wp2
  go_ret
  exact ⟨_, rfl, HO.out, HB.out⟩
def parentP (l : List S44) (at5 : Int) : Int := if (rd_T44 l at5).f1 < at5 then (rd_T44 l at5).f1 else -1
theorem parentP_lt (l : List S44) (at5 : Int) (h : 0 ≤ at5) : parentP l at5 < at5 := by
 unfold parentP
 split
 ·assumption
 ·omega
theorem parent_w (A : Option Addr) (c : Nat) (l : List S44) (a : Int) (w : World) (hr : Kd.C k44 w A l.length l) (hc : l.length ≤ c) (h0 : 0 ≤ a) (h1 : a < (l.length : Int)) :
  Calls Tryz.prog 60 #[.slice A l.length c, .int .i64 a] w fun e w' => e = .returned (.int .i64 (parentP l a)) ∧ Below w.heap.size w w' :=
 Calls.mono (blob_parent.calls A c l a (parentP l a) w hr hc (by unfold blob_parent.f parentP; rw [if_pos h0, if_pos h1]; split <;> rfl)) (by rintro e w' ⟨rfl, hd⟩; exact ⟨rfl, hd.below⟩)
def rulesFrom (l : List S44) : Nat → Int → List S56 → List S56
 | 0, _, out => out
 | n + 1, at5, out => if withinP at5 0 ((l.length : Int) - 1) = true then rulesFrom l n (parentP l at5) ((rd_T44 l at5).f4 ++ out) else out
def rulesP (l : List S44) (i : Nat) : List S56 := rulesFrom l (i + 1) i []
set_option maxHeartbeats 4000000 in
set_option maxRecDepth 100000 in
theorem rules5_walk' (A : Option Addr) (c : Nat) (l : List S44) (i0 : Nat) (w : World) (hr : Kd.C k44 w A l.length l) (hc : l.length ≤ c) (hi : i0 < l.length) (hl : l.length ≤ 100000) (hL : ∀ x ∈ l, x.f4.length ≤ 1000000) :
  Calls Tryz.prog 48 #[.slice A l.length c, .int .i64 i0] w fun e w' => ∃ v : Value, e = .returned v ∧ Kd.N k56 56 w' w.heap.size (fun _ => True) v (rulesP l i0) ∧ Below w.heap.size w w' := by
 have HR := Aside0.mk hr
 have HC := Aside0.mk hc
 have HLL := Aside0.mk hL
 have hbn : l.length ≤ 9223372036854775807 := by omega
 have HE : Aside0 (rulesP l i0 = rulesFrom l (i0 + 1) i0 []) := ⟨rfl⟩
 generalize rulesP l i0 = out at *
 have hw1 : wrap64 ((l.length : Int) - 1) = (l.length : Int) - 1 := by rw [wrap64]; omega
 clear hr hc hL
 go_enter Tryz.func48, Tryz.ntmps48
 go_wp2
 go_loopg [1, 5] (i0 + 1) (fun gg s1 s5 wr => ∃ (a : Int) (n : Nat) (ys : List S56), s1 = .int .i64 a ∧ (a + 1).toNat ≤ gg ∧ a < n ∧ Aside0 ((ys.length : Int) + 1000000 * (a + 1) ≤ 1000000 * l.length) ∧ a < l.length ∧ Aside0 (out = rulesFrom l n a ys) ∧ Aside0 (Kd.N k56 56 wr w.heap.size (fun _ => True) s5 ys) ∧ Aside0 (Below w.heap.size w wr))
 case atStart => exact ⟨i0, i0 + 1, [], rfl, by omega, by omega, ⟨by simp; omega⟩, by omega, HE, ⟨Kd.N_nil _ _ _ _ _⟩, ⟨Below.refl _ _⟩⟩
 case round =>
  clear HE
  obtain ⟨a, n, ys, rfl, hgg, han, HYL, hal, HE, HN, HW⟩ := hrel
  have HWI := Aside0.mk (within_w a 0 ((l.length : Int) - 1))
  cases hin : withinP a 0 ((l.length : Int) - 1) with
  | false =>
   rw [hin] at HWI
   have HG : Aside0 (out = ys) := ⟨by
    rw [HE.out]
    cases n with
    | zero => rfl
    | succ n => rw [rulesFrom, if_neg (by rw [hin]; decide)]⟩
   clear hin HE
   go_wp2_with fail
   refine (HWI.out _).mono ?_
   rintro e w2 ⟨rfl, hB2⟩
   go_wp2
   go_ret
   rw [HG.out]
   exact ⟨_, rfl, Kd.N_below HN.out hB2, below_step HW.out hB2⟩
  | true =>
   rw [hin] at HWI
   have hr2 : 0 ≤ a ∧ a ≤ (l.length : Int) - 1 := by
    unfold withinP at hin
    simpa using hin
   obtain ⟨k, rfl⟩ : ∃ k : Nat, a = (k : Int) := ⟨a.toNat, by omega⟩
   have hk : k < l.length := by omega
   have hkz : (k : Int) < (l.length : Int) := by omega
   obtain ⟨n, rfl⟩ : ∃ m, n = m + 1 := ⟨n - 1, by omega⟩
   have HE1 : Aside0 (out = rulesFrom l n (parentP l k) ((rd_T44 l (k : Int)).f4 ++ ys)) := ⟨by rw [HE.out, rulesFrom, if_pos hin]⟩
   have HPL := Aside0.mk (parentP_lt l (k : Int) (by omega))
   clear hin HE hr2
   go_wp2_with fail
   refine (HWI.out _).mono ?_
   rintro e w2 ⟨rfl, hB2⟩
   have HN2 := Aside0.mk (Kd.N_below HN.out hB2)
   have HW2 : Aside0 (Below w.heap.size w w2) := ⟨below_step HW.out hB2⟩
   clear hB2 HN HW HWI
   obtain ⟨ad, A3, c3, A4, c4, A5, c5, hA, h0, h1, h2, h3, h4, h5, l3, g3, l4, g4, l5, g5⟩ := at_T44 (Kd.C_below HR.out HW2.out) (k : Int) (by omega) hkz
   have hrl : (rd_T44 l (k : Int)).f4.length ≤ 1000000 := by
    have hm : rd_T44 l (k : Int) ∈ l := by
     have : rd_T44 l (k : Int) = l[k] := by
      show l.getD (k : Int).toNat _ = _
      rw [Int.toNat_natCast, List.getD_eq_getElem?_getD, List.getElem?_eq_getElem hk]
      rfl
     rw [this]
     exact List.getElem_mem hk
    exact HLL.out _ hm
   generalize (rd_T44 l (k : Int)).f4 = rs at *
   rw [Int.toNat_natCast] at h4
   have HG4 := Aside0.mk g4
   have HPW := Aside0.mk (fun W (hB : Below w.heap.size w W) => parent_w A c l (k : Int) W (Kd.C_below HR.out hB) HC.out (by omega) hkz)
   have HCL := Aside0.mk (cloneC_rule A4 c4 rs w2 g4 (by omega))
   have HRL := Aside0.mk hrl
   obtain ⟨A6, c6, hs6⟩ := Kd.N_slice HN2.out
   subst hs6
   subst hA
   clear h0 h1 h2 h3 h5 l3 g3 l4 g4 l5 g5 hrl
   go_wp2_with fail
   refine HCL.out.mono ?_
   rintro e w3 ⟨v3, rfl, hN3, hB3⟩
   have HN3 := Aside0.mk hN3
   have HB3 := Aside0.mk hB3
   have HF2 := Aside0.mk (Kd.F_below (Kd.F_bound (Kd.N_F HN2.out)) hB3)
   obtain ⟨A7, c7, hs7⟩ := Kd.N_slice hN3
   subst hs7
   have HYL1 : Aside0 (ys.length ≤ 1000000 * 100000 ∧ rs.length ≤ 1000000) := ⟨by have := HYL.out; omega, HRL.out⟩
   clear hN3 hB3 HCL h4
   go_wp2_with (at_builtin; go_loud (refine Kd.N_append_rows k56 (w0 := w2) w2.heap.size rfl (.tmp 19) (.tmp 20) 41 56 (.agg #[.int .i64 0, .slice none 0 0, .int .i64 0, .slice none 0 0, .int .i64 0]) 72 rfl Tryz.underlying41 (by kernel_rfl) rfl (by show 0 < 5; decide) (by decide) (.slice A7 rs.length c7) rs ys A6 ys.length c6 (fun _ => True) (fun k => True ∧ k < w2.heap.size) rfl rfl HN3.out HF2.out (fun k hk => ⟨trivial, fun e => by have h2 := hk.2; have h3 := Kd.N_base HN3.out k e.symm; omega⟩) (fun _ _ => trivial) HB3.out HB3.out.size (by have := HYL1.out; omega) ?_); intro v4 w4 ho hb hg hat)
   have HN4 : Aside0 (Kd.N k56 56 w4 w.heap.size (fun _ => True) v4 (rs ++ ys)) := ⟨Kd.N_lower ho HW2.out.size⟩
   have HW4 : Aside0 (Below w.heap.size w w4) := ⟨below_step HW2.out hb⟩
   have HYL4 : Aside0 (((rs ++ ys).length : Int) + 1000000 * (parentP l k + 1) ≤ 1000000 * l.length) := ⟨by rw [List.length_append]; have h1 := HYL.out; have h2 := HRL.out; have h3 := HPL.out; omega⟩
   clear ho hb hg hat HN3 HB3 HF2 HYL1 HN2 HW2 HYL HRL
   generalize rs ++ ys = zs at *
   go_wp2_with fail
   refine (HPW.out _ HW4.out).mono ?_
   rintro e w5 ⟨rfl, hB5⟩
   have HN5 := Aside0.mk (Kd.N_below HN4.out hB5)
   have HW5 : Aside0 (Below w.heap.size w w5) := ⟨below_step HW4.out hB5⟩
   have hp := HPL.out
   clear hB5 HN4 HW4 HPW HPL
   generalize parentP l (k : Int) = q at *
   go_wp2
   go_roundg ((q + 1).toNat)
   case measure => omega
   case rel => exact ⟨q, n, zs, rfl, by omega, by omega, HYL4, by omega, HE1, HN5, HW5⟩
end Go.Proofs.YtiocgaekoeekgaaGreat.P
end
section
namespace Go.Proofs.YtiocgaekoeekgaaGreat.P
open Go.RowKit Go.Proofs.YtiocgaekoeekgaaGreatW.PrintWords Go.Proofs.YtiocgaekoeekgaaGreatW.PrintLast Go.Proofs.YtiocgaekoeekgaaGreatW.PrintMore
attribute [local go_sem] max2_int min2_int max_two min_two max_three min_three max_four min_four   
set_option linter.unusedVariables false
set_option linter.unusedSimpArgs false
def okc (c : Int) : Bool := (decide (97 ≤ c) && decide (c ≤ 122)) || ((decide (48 ≤ c) && decide (c ≤ 57)) || decide (c = 45))
def idFrom (s : ByteArray) : Nat → Nat → Bool
 | 0, _ => withinP s.size 1 12
 | n + 1, i => if okc (bt s i) = true then idFrom s n (i + 1) else false
def idP (s : ByteArray) : Bool := idFrom s s.size 0
theorem okc_true {c : Int} (h : okc c = true) : (97 ≤ c ∧ c ≤ 122) ∨ (48 ≤ c ∧ c ≤ 57) ∨ c = 45 := by
 unfold okc at h
 simpa using h
theorem okc_false {c : Int} (h : ¬ okc c = true) : ¬ ((97 ≤ c ∧ c ≤ 122) ∨ (48 ≤ c ∧ c ≤ 57) ∨ c = 45) := by
 unfold okc at h
 simpa using h
theorem id_some (s : ByteArray) (hs : s.size ≤ 1000000000000) : ∀ n i : Nat, i + n = s.size → blob_id.l0 (n + 1) s (i : Int) = some (idFrom s n i) := by
 intro n
 induction n with
 | zero =>
  intro i hi
  rw [blob_id.l0, if_neg (by omega)]
  show (blob_within.f _ _ _).bind _ = _
  rw [withinP_some]
  rfl
 | succ n ih =>
  intro i hi
  have h1 : (i : Int) < (s.size : Int) := by omega
  have h2 : (0 : Int) ≤ (i : Int) := by omega
  have hw : wrap64 ((i : Int) + 1) = ((i + 1 : Nat) : Int) := by rw [wrap64]; omega
  have hr := ih (i + 1) (by omega)
  rw [blob_id.l0, if_pos h1, if_pos h2, hw, hr, idFrom]
  generalize idFrom s n (i + 1) = X
  generalize bt s (i : Int) = c
  by_cases ho : okc c = true
  ·rw [if_pos ho]
   have := okc_true ho
   repeat' split
   all_goals first | rfl | (exfalso; omega)
  ·rw [if_neg ho]
   have := okc_false ho
   repeat' split
   all_goals first | rfl | (exfalso; omega)
theorem id_w (s : ByteArray) (w : World) (hs : s.size ≤ 1000000000000) : Calls Tryz.prog 41 #[.string s] w fun e w' => e = .returned (.bool (idP s)) ∧ Below w.heap.size w w' :=
 Calls.mono (blob_id.calls (s.size + 1) s _ w (id_some s hs s.size 0 (by omega))) (by rintro e w' ⟨rfl, hd⟩; exact ⟨rfl, hd.below⟩)
end Go.Proofs.YtiocgaekoeekgaaGreat.P
end
section
namespace Go.Proofs.YtiocgaekoeekgaaGreat.P
set_option linter.unusedVariables false
set_option linter.unusedSimpArgs false
open Go.RowKit Go.Shelf Go.Proofs.YtiocgaekoeekgaaGreatW.PrintWords Go.Proofs.YtiocgaekoeekgaaGreatW.PrintLast Go.Proofs.YtiocgaekoeekgaaGreatW.PrintMore
open Go.Maps (Keyed)
open Go.MapKept (Stamped)
section
variable {κ : Type} [DecidableEq κ]
def mget {ν : Type} : List (κ × ν) → κ → Option ν
 | [], _ => none
 | p :: m, k => if p.1 = k then some p.2 else mget m k
def mput {ν : Type} : List (κ × ν) → κ → ν → List (κ × ν)
 | [], k, v => [(k, v)]
 | p :: m, k, v => if p.1 = k then (k, v) :: m else p :: mput m k v
theorem mget_mput_same {ν : Type} (k : κ) (v : ν) : ∀ m : List (κ × ν), mget (mput m k v) k = some v
 | [] => by simp [mput, mget]
 | p :: m => by
  unfold mput
  by_cases h : p.1 = k
  ·rw [if_pos h]; simp [mget]
  ·rw [if_neg h, mget, if_neg h]; exact mget_mput_same k v m
theorem mget_mput_other {ν : Type} (k : κ) (v : ν) (j : κ) (hj : j ≠ k) : ∀ m : List (κ × ν), mget (mput m k v) j = mget m j
 | [] => by simp [mput, mget, Ne.symm hj]
 | p :: m => by
  unfold mput
  by_cases h : p.1 = k
  ·rw [if_pos h]; simp [mget, h, Ne.symm hj]
  ·rw [if_neg h, mget, mget, mget_mput_other k v j hj m]
theorem mput_keys {ν : Type} (k : κ) (v : ν) : ∀ m : List (κ × ν), (mput m k v).map (·.1) = if k ∈ m.map (·.1) then m.map (·.1) else m.map (·.1) ++ [k]
 | [] => by simp [mput]
 | p :: m => by
  unfold mput
  by_cases h : p.1 = k
  ·rw [if_pos h]; simp [h]
  ·rw [if_neg h]
   simp only [List.map_cons, List.mem_cons, mput_keys k v m]
   have h2 : ¬ k = p.1 := fun e => h e.symm
   by_cases h3 : k ∈ m.map (·.1)
   ·simp [h3]
   ·simp [h2, h3]
theorem mget_isSome {ν : Type} (k : κ) : ∀ m : List (κ × ν), (mget m k).isSome = true ↔ k ∈ m.map (·.1)
 | [] => by simp [mget]
 | p :: m => by
  unfold mget
  by_cases h : p.1 = k
  ·rw [if_pos h]; simp [h]
  ·rw [if_neg h, mget_isSome k m]
   have h2 : ¬ k = p.1 := fun e => h e.symm
   simp [h2]
theorem mput_mem {ν : Type} {k : κ} {v : ν} {m : List (κ × ν)} {p : κ × ν} (h : p ∈ mput m k v) : p = (k, v) ∨ p ∈ m := by
 induction m with
 | nil => simp [mput] at h; exact .inl h
 | cons q m ih =>
  unfold mput at h
  by_cases hq : q.1 = k
  ·rw [if_pos hq] at h
   rcases List.mem_cons.1 h with h | h
   ·exact .inl h
   ·exact .inr (List.mem_cons_of_mem _ h)
  ·rw [if_neg hq] at h
   rcases List.mem_cons.1 h with h | h
   ·exact .inr (h ▸ List.mem_cons_self)
   ·rcases ih h with h | h
    ·exact .inl h
    ·exact .inr (List.mem_cons_of_mem _ h)
omit [DecidableEq κ] in
theorem map_vals {ν μ : Type} (f : ν → μ) (m : List (κ × ν)) : (m.map fun p => (p.1, f p.2)).map (·.1) = m.map (·.1) := by
 rw [List.map_map]; rfl
theorem mget_map {ν μ : Type} (f : ν → μ) (k : κ) : ∀ m : List (κ × ν), mget (m.map fun p => (p.1, f p.2)) k = (mget m k).map f
 | [] => rfl
 | p :: m => by
  rw [List.map_cons, mget, mget]
  by_cases h : p.1 = k
  ·rw [if_pos h, if_pos h]; rfl
  ·rw [if_neg h, if_neg h, mget_map f k m]
theorem mput_map {ν μ : Type} (f : ν → μ) (k : κ) (v : ν) : ∀ m : List (κ × ν), mput (m.map fun p => (p.1, f p.2)) k (f v) = (mput m k v).map fun p => (p.1, f p.2)
 | [] => rfl
 | p :: m => by
  rw [List.map_cons, mput, mput]
  by_cases h : p.1 = k
  ·rw [if_pos h, if_pos h]; rfl
  ·rw [if_neg h, if_neg h, mput_map f k v m]; rfl
def MapOf (P : Program) (kt : TypeId) (enc : κ → Value) (w : World) (b : Nat) (m : List (κ × Value)) : Prop :=
 ∃ es clock, w.heap[b]? = some (.map es clock) ∧ es.toList.map (fun e => (e.key, e.val)) = m.map (fun p => (enc p.1, p.2)) ∧
  (∀ p ∈ m, ∃ l, keyOf P kt (enc p.1) = some l) ∧ Stamped es clock
variable {P : Program} {kt : TypeId} {enc : κ → Value} {w w1 : World} {b : Nat} {m : List (κ × Value)}
omit [DecidableEq κ] in
theorem MapOf.made (P : Program) (kt : TypeId) (enc : κ → Value) (w : World) : MapOf P kt enc (w.alloc (.map #[] 0)) w.heap.size [] :=
 ⟨#[], 0, (MapKept.heap_alloc w _).1, rfl, by simp, MapKept.stamped_empty 0⟩
omit [DecidableEq κ] in
theorem MapOf.lt (h : MapOf P kt enc w b m) : b < w.heap.size := by
 obtain ⟨es, clock, hb, _⟩ := h
 exact (Array.getElem?_eq_some_iff.1 hb).1
omit [DecidableEq κ] in
theorem MapOf.same (h : MapOf P kt enc w b m) (hw : w1.heap[b]? = w.heap[b]?) : MapOf P kt enc w1 b m := by
 obtain ⟨es, clock, hb, r⟩ := h
 exact ⟨es, clock, hw.trans hb, r⟩
omit [DecidableEq κ] in
theorem MapOf.below (h : MapOf P kt enc w b m) (hb : Below w.heap.size w w1) : MapOf P kt enc w1 b m := h.same (hb.block b h.lt)
omit [DecidableEq κ] in
theorem MapOf.alloc (h : MapOf P kt enc w b m) (o : Obj) : MapOf P kt enc (w.alloc o) b m := h.below (below_alloc (Below.refl _ _) o)
omit [DecidableEq κ] in
theorem MapOf.drewN (h : MapOf P kt enc w b m) (n : Nat) : MapOf P kt enc (w.drewN n) b m := h
omit [DecidableEq κ] in
theorem MapOf.drew (h : MapOf P kt enc w b m) : MapOf P kt enc w.drew b m := h
omit [DecidableEq κ] in
theorem MapOf.grown (h : MapOf P kt enc w b m) {row : Option Nat} (hg : w.grownBy w1 row) (hne : some b ≠ row) : MapOf P kt enc w1 b m := h.same (hg.block b h.lt hne)
omit [DecidableEq κ] in
theorem MapOf.setCell (h : MapOf P kt enc w b m) (p : Addr) (hp : b ≠ p.block) (u : Value) : MapOf P kt enc (w.setCell p u) b m := h.same (Below.heap_setCell w p u b hp)
omit [DecidableEq κ] in
theorem MapOf.not_cells (h : MapOf P kt enc w b m) {g : Nat} {cs : Array Value} {t : TypeId} {z : Nat × Nat} (hg : w.heap[g]? = some (.cells cs t z)) : b ≠ g := by
 obtain ⟨es, clock, h1, _⟩ := h
 intro e
 rw [e, hg] at h1
 cases h1
omit [DecidableEq κ] in
theorem MapOf.nodup (h : MapOf P kt enc w b m) : (m.map (·.1)).Nodup := by
 obtain ⟨es, clock, _, he, _, hs⟩ := h
 have hp := ((MapKept.stamped_iff es clock).1 hs).2.2
 have h1 : es.toList.map (fun e => e.key) = m.map (fun p => enc p.1) := by
  have := congrArg (List.map (·.1)) he
  simpa [List.map_map, Function.comp_def] using this
 have h2 : (es.toList.map (fun e => e.key)).Pairwise (· ≠ ·) := List.pairwise_map.2 hp
 rw [h1] at h2
 rw [List.Nodup, List.pairwise_map]
 have h3 := List.pairwise_map.1 h2
 exact h3.imp (fun hne e => hne (by rw [e]))
theorem MapOf.find_cases (K : Keyed P kt) (hinj : ∀ x y, enc x = enc y → x = y) {es : Array MapEntry} (he : es.toList.map (fun e => (e.key, e.val)) = m.map (fun p => (enc p.1, p.2)))
  (hks : ∀ p ∈ m, ∃ l, keyOf P kt (enc p.1) = some l) (w : World) (k : κ) (hk : ∃ l, keyOf P kt (enc k) = some l) (hnd : (m.map (·.1)).Nodup) :
  ((Instr.findKey kt (enc k) es.toList).run P w = .ok none w ∧ (∀ e ∈ es.toList, e.key ≠ enc k) ∧ mget m k = none ∧ ∀ v, mput m k v = m ++ [(k, v)]) ∨
  ∃ j e, (Instr.findKey kt (enc k) es.toList).run P w = .ok (some (j, e.val)) w ∧ es.toList[j]? = some e ∧ e.key = enc k ∧ mget m k = some e.val ∧
   ∀ v, ∃ _ : j < m.length, mput m k v = m.set j (k, v) := by
 obtain ⟨l, hl⟩ := hk
 have hkeys : ∀ e ∈ es.toList, ∃ l, keyOf P kt e.key = some l := by
  intro e hem
  have : (e.key, e.val) ∈ m.map (fun p => (enc p.1, p.2)) := by rw [← he]; exact List.mem_map.2 ⟨e, hem, rfl⟩
  obtain ⟨p, hp, hpe⟩ := List.mem_map.1 this
  obtain ⟨l', hl'⟩ := hks p hp
  exact ⟨l', by rw [← (Prod.mk.inj hpe).1]; exact hl'⟩
 rcases K.find w hl es.toList hkeys with ⟨h1, h2⟩ | ⟨j, e, h1, h2, h3⟩
 ·refine .inl ⟨h1, h2, ?_⟩
  have hno : ∀ p ∈ m, p.1 ≠ k := by
   intro p hp hpk
   have : (enc p.1, p.2) ∈ es.toList.map (fun e => (e.key, e.val)) := by rw [he]; exact List.mem_map.2 ⟨p, hp, rfl⟩
   obtain ⟨e, hem, hee⟩ := List.mem_map.1 this
   exact h2 e hem (by rw [(Prod.mk.inj hee).1, hpk])
  clear he hks hnd
  induction m with
  | nil => exact ⟨rfl, fun _ => rfl⟩
  | cons p m ih =>
   have hp := hno p List.mem_cons_self
   obtain ⟨i1, i2⟩ := ih (fun q hq => hno q (List.mem_cons_of_mem _ hq))
   exact ⟨by rw [mget, if_neg hp]; exact i1, fun v => by rw [mput, if_neg hp, i2]; rfl⟩
 ·refine .inr ⟨j, e, h1, h2, h3, ?_⟩
  have hm : m[j]? = some (k, e.val) := by
   have : (m.map (fun p => (enc p.1, p.2)))[j]? = some (e.key, e.val) := by rw [← he, List.getElem?_map, h2]; rfl
   rw [List.getElem?_map] at this
   obtain ⟨p, hp, hpe⟩ := Option.map_eq_some_iff.1 this
   obtain ⟨q1, q2⟩ := Prod.mk.inj hpe
   rw [hp, ← q2, ← hinj p.1 k (by rw [q1, h3])]
  clear he hks h1 h2 h3
  induction m generalizing j with
  | nil => simp at hm
  | cons p m ih =>
   rw [List.map_cons, List.nodup_cons] at hnd
   cases j with
   | zero =>
    rw [List.getElem?_cons_zero] at hm
    obtain rfl := Option.some.inj hm
    exact ⟨by simp [mget], fun v => ⟨by simp, by simp [mput]⟩⟩
   | succ j =>
    rw [List.getElem?_cons_succ] at hm
    have hp : p.1 ≠ k := fun e2 => hnd.1 (by rw [e2]; exact List.mem_map.2 ⟨_, List.mem_of_getElem? hm, rfl⟩)
    obtain ⟨i1, i2⟩ := ih hnd.2 j hm
    refine ⟨by rw [mget, if_neg hp]; exact i1, fun v => ?_⟩
    obtain ⟨hj, i3⟩ := i2 v
    exact ⟨by simp; omega, by rw [mput, if_neg hp, i3]; rfl⟩
theorem MapOf.lookup {t e : TypeId} (h : MapOf P kt enc w b m) (K : Keyed P kt) (hinj : ∀ x y, enc x = enc y → x = y) (ht : P.underlying t = some (.map kt e)) {z : Value} (hz : (zeroValue e).run P w = .ok z w)
  (k : κ) (hk : ∃ l, keyOf P kt (enc k) = some l) (c : Bool) :
  (Instr.lookup t (.map (some b)) (enc k) c).run P w = .ok (if c then .tuple #[(mget m k).getD z, .bool (mget m k).isSome] else (mget m k).getD z) w := by
 have hnd := h.nodup
 obtain ⟨es, clock, hb, he, hks, hs⟩ := h
 obtain ⟨l, hl⟩ := hk
 rcases MapOf.find_cases K hinj he hks w k ⟨l, hl⟩ hnd with ⟨h1, _, h3, _⟩ | ⟨j, e0, h1, _, _, h4, _⟩
 ·rw [h3]; simp [Instr.lookup, run_underlying ht, MapKept.run_getObj_map hb, K.check w _ hl, h1, hz, Result.andThen]
 ·rw [h4]; simp [Instr.lookup, run_underlying ht, MapKept.run_getObj_map hb, K.check w _ hl, h1, Result.andThen]
omit [DecidableEq κ] in
theorem grown_set (w : World) {b : Nat} {o o' : Obj} (hb : w.heap[b]? = some o) : w.grownBy { w with heap := w.heap.setIfInBounds b o' } (some b) :=
 ⟨rfl, rfl, rfl, by simp, fun k _ hne => (MapKept.heap_set hb).2 k (fun e => hne (by rw [e]))⟩
omit [DecidableEq κ] in
theorem map_set_entry {es : Array MapEntry} {j : Nat} {k : κ} {v : Value} (he : es.toList.map (fun e => (e.key, e.val)) = m.map (fun p => (enc p.1, p.2))) (f : MapEntry → MapEntry) (hf : ∀ e, es.toList[j]? = some e → (f e).key = enc k ∧ (f e).val = v) :
  (es.modify j f).toList.map (fun e => (e.key, e.val)) = (m.set j (k, v)).map (fun p => (enc p.1, p.2)) := by
 rw [List.map_set, ← he, Array.toList_modify]
 apply List.ext_getElem?
 intro i
 rw [List.getElem?_map, List.getElem?_modify, List.getElem?_set, List.getElem?_map, List.length_map]
 by_cases hij : j = i
 ·subst hij
  rw [if_pos rfl]
  cases hes : es.toList[j]? with
  | none =>
   have : ¬ j < es.toList.length := fun hl => by rw [List.getElem?_eq_getElem hl] at hes; cases hes
   rw [if_neg this]; rfl
  | some e =>
   have hl := (List.getElem?_eq_some_iff.1 hes).1
   rw [if_pos hl]
   simp [hf e hes]
 ·rw [if_neg hij]
  cases es.toList[i]? <;> simp [hij]
theorem MapOf.update {t e : TypeId} (h : MapOf P kt enc w b m) (K : Keyed P kt) (hinj : ∀ x y, enc x = enc y → x = y) (ht : P.underlying t = some (.map kt e)) (k : κ) (hk : ∃ l, keyOf P kt (enc k) = some l) (v : Value) :
  ∃ w', (Instr.mapUpdate t (.map (some b)) (enc k) v).run P w = .ok () w' ∧ MapOf P kt enc w' b (mput m k v) ∧ w.grownBy w' (some b) ∧ w'.heap.size = w.heap.size := by
 have hnd := h.nodup
 obtain ⟨es, clock, hb, he, hks, hs⟩ := h
 obtain ⟨l, hl⟩ := hk
 have hks' : ∀ p ∈ mput m k v, ∃ l, keyOf P kt (enc p.1) = some l := by
  intro p hp
  rcases mput_mem hp with rfl | hp
  ·exact ⟨l, hl⟩
  ·exact hks p hp
 rcases MapOf.find_cases K hinj he hks w k ⟨l, hl⟩ hnd with ⟨h1, h2, _, h4⟩ | ⟨j, e0, h1, h2, h3, _, h5⟩
 ·refine ⟨{ w with heap := w.heap.setIfInBounds b (.map (es.push ⟨enc k, v, clock⟩) (clock + 1)) }, ?_, ⟨es.push ⟨enc k, v, clock⟩, clock + 1, (MapKept.heap_set hb).1, ?_, hks', MapKept.stamped_push hs h2⟩, grown_set w hb, by simp⟩
  ·simp [Instr.mapUpdate, run_underlying ht, MapKept.run_getObj_map hb, K.check w false hl, h1, MapKept.run_setObj_map _ hb, Result.andThen]
  ·rw [h4, Array.toList_push, List.map_append, List.map_append, he]; rfl
 ·have hj2 : es[j]? = some e0 := by simpa using h2
  obtain ⟨hj, h6⟩ := h5 v
  refine ⟨{ w with heap := w.heap.setIfInBounds b (.map (es.modify j fun e => { e with key := enc k, val := v }) clock) }, ?_, ⟨es.modify j fun e => { e with key := enc k, val := v }, clock, (MapKept.heap_set hb).1, ?_, hks', ?_⟩, grown_set w hb, by simp⟩
  ·simp [Instr.mapUpdate, run_underlying ht, MapKept.run_getObj_map hb, K.check w false hl, h1, hj2, h3, K.stays w hl, MapKept.run_setObj_map _ hb, Result.andThen]
  ·rw [h6]; exact map_set_entry he _ (fun e _ => ⟨rfl, rfl⟩)
  ·exact MapKept.stamped_modify hs _ _ (fun _ _ => rfl) (fun e' _ he' => by rw [hj2] at he'; cases he'; exact h3.symm)
omit [DecidableEq κ] in
theorem findIdx?_list {α : Type} (xs : Array α) (p : α → Bool) : xs.findIdx? p = xs.toList.findIdx? p := by
 cases xs with | mk l => exact List.findIdx?_toArray p l
theorem MapOf.entry {t e : TypeId} (h : MapOf P kt enc w b m) (K : Keyed P kt) (hinj : ∀ x y, enc x = enc y → x = y) (ht : P.underlying t = some (.map kt e)) {z : Value} (hz : ∀ w, (zeroValue e).run P w = .ok z w) (k : κ) (hk : ∃ l, keyOf P kt (enc k) = some l) :
  ∃ w1 n, (Instr.mapEntry t (.map (some b)) (enc k)).run P w = .ok (.tuple #[(mget m k).getD z, .int .i64 n]) w1 ∧ w.grownBy w1 (some b) ∧ w1.heap.size = w.heap.size ∧ (∃ m1, MapOf P kt enc w1 b m1 ∧ mget m1 k = some ((mget m k).getD z)) ∧
   ∀ v, ∃ w2, (Instr.entryStore t (.map (some b)) (.int .i64 n) v).run P w1 = .ok () w2 ∧ MapOf P kt enc w2 b (mput m k v) ∧ w.grownBy w2 (some b) ∧ w2.heap.size = w.heap.size := by
 have hnd := h.nodup
 obtain ⟨es, clock, hb, he, hks, hs⟩ := h
 obtain ⟨l, hl⟩ := hk
 have hks' : ∀ v, ∀ p ∈ mput m k v, ∃ l, keyOf P kt (enc p.1) = some l := by
  intro v p hp
  rcases mput_mem hp with rfl | hp
  ·exact ⟨l, hl⟩
  ·exact hks p hp
 have hst := (MapKept.stamped_iff es clock).1 hs
 rcases MapOf.find_cases K hinj he hks w k ⟨l, hl⟩ hnd with ⟨h1, h2, h3, h4⟩ | ⟨j, e0, h1, h2, h3, h4, h5⟩
 ·have hb1 : ({ w with heap := w.heap.setIfInBounds b (.map (es.push ⟨enc k, z, clock⟩) (clock + 1)) } : World).heap[b]? = some (.map (es.push ⟨enc k, z, clock⟩) (clock + 1)) := (MapKept.heap_set hb).1
  have hf : (es.push ⟨enc k, z, clock⟩).findIdx? (fun e => (e.born : Int) == (clock : Int)) = some es.size := by
   rw [findIdx?_list, List.findIdx?_eq_some_iff_getElem]
   refine ⟨by simp, by simp, fun i hi => ?_⟩
   have hi' : i < es.toList.length := by simpa using hi
   have e1 : (es.push ⟨enc k, z, clock⟩).toList[i]'(by simp; omega) = es.toList[i] := by simp [Array.toList_push, List.getElem_append_left hi']
   rw [e1]
   have h9 := hst.1 _ (List.getElem_mem hi')
   intro hc
   have h10 : (es.toList[i].born : Int) = clock := beq_iff_eq.1 hc
   omega
  refine ⟨{ w with heap := w.heap.setIfInBounds b (.map (es.push ⟨enc k, z, clock⟩) (clock + 1)) }, (clock : Int), ?_, grown_set w hb, by simp, ⟨mput m k z, ⟨es.push ⟨enc k, z, clock⟩, clock + 1, hb1, by rw [h4, Array.toList_push, List.map_append, List.map_append, he]; rfl, hks' z, MapKept.stamped_push hs h2⟩, by rw [mget_mput_same, h3]; rfl⟩, fun v => ⟨{ w with heap := w.heap.setIfInBounds b (.map ((es.push ⟨enc k, z, clock⟩).modify es.size fun e => { e with val := v }) (clock + 1)) }, ?_, ⟨(es.push ⟨enc k, z, clock⟩).modify es.size fun e => { e with val := v }, clock + 1, (MapKept.heap_set hb).1, ?_, hks' v, ?_⟩, grown_set w hb, by simp⟩⟩
  ·rw [h3]; simp [Instr.mapEntry, run_underlying ht, MapKept.run_getObj_map hb, K.check w false hl, h1, MapKept.run_setObj_map _ hb, Result.andThen, hz, goInt]
  ·simp only [Instr.entryStore]
   simp [MapKept.run_getObj_map hb1, asInt, asIntOf, hf, MapKept.run_setObj_map _ hb1, Result.andThen]
  ·have hpush : (es.push ⟨enc k, z, clock⟩).toList.map (fun e => (e.key, e.val)) = (m ++ [(k, z)]).map (fun p => (enc p.1, p.2)) := by rw [Array.toList_push, List.map_append, List.map_append, he]; rfl
   have hlen : es.size = m.length := by have := congrArg List.length he; simpa using this
   rw [h4, map_set_entry (k := k) (v := v) hpush _ (fun e he2 => ?_)]
   ·rw [hlen]; simp
   ·have : e = ⟨enc k, z, clock⟩ := by
     rw [Array.toList_push, List.getElem?_append_right (by simp)] at he2
     simpa using he2.symm
    subst this
    exact ⟨rfl, rfl⟩
  ·exact MapKept.stamped_modify (MapKept.stamped_push hs h2) _ _ (fun _ _ => rfl) (fun _ _ _ => rfl)
 ·have hj2 : es[j]? = some e0 := by simpa using h2
  obtain ⟨hj, _⟩ := h5 z
  have hjs : j < es.size := (Array.getElem?_eq_some_iff.1 hj2).1
  have hb1 : ({ w with heap := w.heap.setIfInBounds b (.map (es.modify j fun e => { e with key := enc k }) clock) } : World).heap[b]? = some (.map (es.modify j fun e => { e with key := enc k }) clock) := (MapKept.heap_set hb).1
  have hs1 : Stamped (es.modify j fun e => { e with key := enc k }) clock := MapKept.stamped_modify hs _ _ (fun _ _ => rfl) (fun e' _ he' => by rw [hj2] at he'; cases he'; exact h3.symm)
  have hf : (es.modify j fun e => { e with key := enc k }).findIdx? (fun e => (e.born : Int) == (e0.born : Int)) = some j := by
   rw [findIdx?_list, List.findIdx?_eq_some_iff_getElem]
   have hn := hst.2.1
   have g : ∀ i (hi : i < es.toList.length), ((es.modify j fun e => { e with key := enc k }).toList[i]'(by simpa using hi)).born = es.toList[i].born := by
    intro i hi
    simp only [Array.toList_modify, List.getElem_modify]
    split <;> rfl
   refine ⟨by simpa using hjs, by rw [g j (by simpa using hjs)]; simp [(Array.getElem?_eq_some_iff.1 hj2).2], fun i hi => ?_⟩
   have hi' : i < es.toList.length := by simp; omega
   rw [g i hi']
   intro hc
   have h6 : es.toList[i].born = e0.born := by have := beq_iff_eq.1 hc; omega
   have h7 : es.toList[j]'(by simpa using hjs) = e0 := by simp [(Array.getElem?_eq_some_iff.1 hj2).2]
   have h8 : (es.toList.map (·.born))[i]'(by simpa using hi') = (es.toList.map (·.born))[j]'(by simpa using hjs) := by simp only [List.getElem_map, h6, h7]
   have := (List.getElem_inj hn).1 h8
   omega
  refine ⟨{ w with heap := w.heap.setIfInBounds b (.map (es.modify j fun e => { e with key := enc k }) clock) }, (e0.born : Int), ?_, grown_set w hb, by simp, ⟨mput m k e0.val, ⟨es.modify j fun e => { e with key := enc k }, clock, hb1, by obtain ⟨_, h6⟩ := h5 e0.val; rw [h6]; exact map_set_entry he _ (fun e he2 => by rw [h2] at he2; cases he2; exact ⟨rfl, rfl⟩), hks' _, hs1⟩, by rw [mget_mput_same, h4]; rfl⟩, fun v => ⟨{ w with heap := w.heap.setIfInBounds b (.map ((es.modify j fun e => { e with key := enc k }).modify j fun e => { e with val := v }) clock) }, ?_, ⟨(es.modify j fun e => { e with key := enc k }).modify j fun e => { e with val := v }, clock, (MapKept.heap_set hb).1, ?_, hks' v, ?_⟩, grown_set w hb, by simp⟩⟩
  ·rw [h4]; simp [Instr.mapEntry, run_underlying ht, MapKept.run_getObj_map hb, K.check w false hl, h1, hj2, h3, K.stays w hl, MapKept.run_setObj_map _ hb, Result.andThen, goInt]
  ·simp only [Instr.entryStore]
   simp [MapKept.run_getObj_map hb1, asInt, asIntOf, hf, MapKept.run_setObj_map _ hb1, Result.andThen]
  ·obtain ⟨_, h6⟩ := h5 v
   have h7 := map_set_entry (k := k) (v := e0.val) he (fun e => { e with key := enc k }) (j := j) (fun e he2 => by rw [h2] at he2; cases he2; exact ⟨rfl, rfl⟩)
   rw [h6, map_set_entry (k := k) (v := v) h7 _ (fun e he2 => ?_)]
   ·simp
   ·rw [Array.toList_modify, List.getElem?_modify, h2] at he2
    simp at he2
    subst he2
    exact ⟨rfl, rfl⟩
  ·exact MapKept.stamped_modify hs1 _ _ (fun _ _ => rfl) (fun _ _ _ => rfl)
variable {ops : Array Oper} {rest : List Oper} {o : Oper} {a : Act} {Q : Exit → Act → World → Prop}
theorem wpList_lookup_map (hg : o.guard = none) (mO x : Operand) (t e : TypeId) (hop : o.op = Op.lookup t mO x false) (K : Keyed P kt) (hinj : ∀ x y, enc x = enc y → x = y) (ht : P.underlying t = some (.map kt e)) {z : Value} (hz : ∀ w, (zeroValue e).run P w = .ok z w)
  (hm : a.eval mO = .map (some b)) (h : MapOf P kt enc w b m) (k : κ) (hx : a.eval x = enc k) (hk : ∃ l, keyOf P kt (enc k) = some l) (v : Value) (hv : (mget m k).getD z = v) (hK : wpList P ops Q rest (a.put o.dst v) w) :
  wpList P ops Q (o :: rest) a w := by
 refine wpList_plain hg fun K' hK' => ?_
 have hrun := h.lookup K hinj ht (hz w) k hk false
 unfold Oper.wp
 simp [execOp, hop, hm, hx, hrun, Result.andThen]
 exact hK' _ _ (by rw [hv]; exact hK)
theorem wpList_update_map (hg : o.guard = none) (mO x v : Operand) (t e : TypeId) (hop : o.op = Op.mapUpdate t mO x v) (K : Keyed P kt) (hinj : ∀ x y, enc x = enc y → x = y) (ht : P.underlying t = some (.map kt e))
  (hm : a.eval mO = .map (some b)) (h : MapOf P kt enc w b m) (k : κ) (hx : a.eval x = enc k) (hk : ∃ l, keyOf P kt (enc k) = some l) (val : Value) (hv : a.eval v = val)
  (hK : ∀ w', MapOf P kt enc w' b (mput m k val) → w.grownBy w' (some b) → w'.heap.size = w.heap.size → wpList P ops Q rest (a.put o.dst undef) w') :
  wpList P ops Q (o :: rest) a w := by
 refine wpList_plain hg fun K' hK' => ?_
 obtain ⟨w', hrun, r1, r2, r3⟩ := h.update K hinj ht k hk val
 unfold Oper.wp
 simp [execOp, hop, hm, hx, hv, hrun, Result.andThen]
 exact hK' _ _ (hK w' r1 r2 r3)
end
end Go.Proofs.YtiocgaekoeekgaaGreat.P
end
section
namespace Go.Proofs
open Go.Shelf
def Tryz.keysA_ren : Go.Shelf.Ren := ⟨fun | 7 => 141 | 10 => 157 | n => n, fun | 23 => 181 | 26 => 3 | 3 => 3 | 28 => 184 | 0 => 0 | 27 => 183 | 33 => 142 | 4 => 4 | n => n, fun | n => n⟩
theorem Tryz.keysA : Go.Proofs.SlLaysZI.n7 Tryz.prog Tryz.keysA_ren := {
 mixed := by kernel_rfl
 f7 := ⟨Tryz.f141.name, by decide, Tryz.func141.trans (congrArg some (by kernel_rfl))⟩
 f10 := ⟨Tryz.f157.name, by decide, Tryz.func157.trans (congrArg some (by kernel_rfl))⟩
 t0 := Tryz.underlying0
 a0 := Tryz.isAgg0
 z0 := Tryz.sizeOf0
 v0 := Tryz.zeroValue0
 t4 := Tryz.underlying4
 a4 := Tryz.isAgg4
 z4 := Tryz.sizeOf4
 v4 := Tryz.zeroValue4
 t23 := Tryz.underlying181
 a23 := Tryz.isAgg181
 z23 := Tryz.sizeOf181
 v23 := Tryz.zeroValue181
 t26 := Tryz.underlying3
 a26 := Tryz.isAgg3
 z26 := Tryz.sizeOf3
 v26 := Tryz.zeroValue3
 t27 := Tryz.underlying183
 a27 := Tryz.isAgg183
 z27 := Tryz.sizeOf183
 v27 := Tryz.zeroValue183
 t28 := Tryz.underlying184
 a28 := Tryz.isAgg184
 z28 := Tryz.sizeOf184
 v28 := Tryz.zeroValue184
 t33 := Tryz.underlying142
 a33 := Tryz.isAgg142
 z33 := Tryz.sizeOf142
 v33 := Tryz.zeroValue142 }
def Tryz.sortedA_ren : Go.Shelf.Ren := ⟨fun | 6 => 140 | 8 => 155 | 9 => 156 | 11 => 159 | 13 => 161 | 12 => 160 | 23 => 171 | 24 => 172 | 14 => 162 | 15 => 163 | 16 => 164 | 17 => 165 | 18 => 166 | 19 => 167 | 20 => 168 | 21 => 169 | 22 => 170 | 25 => 173 | 26 => 174 | 27 => 175 | 28 => 176 | 29 => 177 | 30 => 178 | 31 => 179 | n => n, fun | 26 => 3 | 28 => 184 | 24 => 35 | 0 => 0 | 3 => 3 | 37 => 150 | 48 => 188 | 50 => 209 | 4 => 4 | 40 => 202 | 39 => 201 | 45 => 195 | 5 => 5 | 9 => 9 | 51 => 210 | 55 => 214 | 57 => 216 | 58 => 160 | 33 => 142 | n => n, fun | n => n⟩
theorem Tryz.sortedA : Go.Proofs.SlLaysZI.n6 Tryz.prog Tryz.sortedA_ren := {
 mixed := by kernel_rfl
 f6 := ⟨Tryz.f140.name, by decide, Tryz.func140.trans (congrArg some (by kernel_rfl))⟩
 f8 := ⟨Tryz.f155.name, by decide, Tryz.func155.trans (congrArg some (by kernel_rfl))⟩
 f11 := ⟨Tryz.f159.name, by decide, Tryz.func159.trans (congrArg some (by kernel_rfl))⟩
 t0 := Tryz.underlying0
 a0 := Tryz.isAgg0
 z0 := Tryz.sizeOf0
 v0 := Tryz.zeroValue0
 t24 := Tryz.underlying35
 a24 := Tryz.isAgg35
 z24 := Tryz.sizeOf35
 v24 := Tryz.zeroValue35
 t26 := Tryz.underlying3
 a26 := Tryz.isAgg3
 z26 := Tryz.sizeOf3
 v26 := Tryz.zeroValue3
 t28 := Tryz.underlying184
 a28 := Tryz.isAgg184
 z28 := Tryz.sizeOf184
 v28 := Tryz.zeroValue184
 i26 := by kernel_rfl }
def Tryz.sortA_ren : Go.Shelf.Ren := ⟨fun | 5 => 156 | 8 => 161 | 7 => 160 | 19 => 171 | 20 => 172 | 10 => 162 | 11 => 163 | 12 => 164 | 13 => 165 | 14 => 166 | 15 => 167 | 16 => 168 | 17 => 169 | 18 => 170 | 30 => 173 | 31 => 174 | 32 => 175 | 33 => 176 | 34 => 177 | 35 => 178 | 40 => 179 | n => n, fun | 23 => 35 | 25 => 3 | 3 => 3 | 32 => 150 | 22 => 35 | 0 => 0 | 44 => 188 | 46 => 209 | 4 => 4 | 36 => 202 | 35 => 201 | 41 => 195 | 5 => 5 | 9 => 9 | 53 => 210 | 57 => 214 | 63 => 216 | 64 => 160 | n => n, fun | n => n⟩
theorem Tryz.sortA : Go.Proofs.SlLaysM.n5 Tryz.prog Tryz.sortA_ren := {
 mixed := by kernel_rfl
 f5 := ⟨Tryz.f156.name, by decide, Tryz.func156.trans (congrArg some (by kernel_rfl))⟩
 f7 := ⟨Tryz.f160.name, by decide, Tryz.func160.trans (congrArg some (by kernel_rfl))⟩
 f8 := Tryz.func161.trans (congrArg some (by kernel_rfl))
 f10 := ⟨Tryz.f162.name, by decide, Tryz.func162.trans (congrArg some (by kernel_rfl))⟩
 f11 := ⟨Tryz.f163.name, by decide, Tryz.func163.trans (congrArg some (by kernel_rfl))⟩
 f12 := ⟨Tryz.f164.name, by decide, Tryz.func164.trans (congrArg some (by kernel_rfl))⟩
 f13 := ⟨Tryz.f165.name, by decide, Tryz.func165.trans (congrArg some (by kernel_rfl))⟩
 f14 := ⟨Tryz.f166.name, by decide, Tryz.func166.trans (congrArg some (by kernel_rfl))⟩
 f15 := ⟨Tryz.f167.name, by decide, Tryz.func167.trans (congrArg some (by kernel_rfl))⟩
 f16 := ⟨Tryz.f168.name, by decide, Tryz.func168.trans (congrArg some (by kernel_rfl))⟩
 f17 := ⟨Tryz.f169.name, by decide, Tryz.func169.trans (congrArg some (by kernel_rfl))⟩
 f18 := ⟨Tryz.f170.name, by decide, Tryz.func170.trans (congrArg some (by kernel_rfl))⟩
 f19 := Tryz.func171.trans (congrArg some (by kernel_rfl))
 f20 := Tryz.func172.trans (congrArg some (by kernel_rfl))
 f30 := ⟨Tryz.f173.name, by decide, Tryz.func173.trans (congrArg some (by kernel_rfl))⟩
 f31 := Tryz.func174.trans (congrArg some (by kernel_rfl))
 f32 := Tryz.func175.trans (congrArg some (by kernel_rfl))
 f33 := ⟨Tryz.f176.name, by decide, Tryz.func176.trans (congrArg some (by kernel_rfl))⟩
 f34 := ⟨Tryz.f177.name, by decide, Tryz.func177.trans (congrArg some (by kernel_rfl))⟩
 f35 := ⟨Tryz.f178.name, by decide, Tryz.func178.trans (congrArg some (by kernel_rfl))⟩
 f40 := ⟨Tryz.f179.name, by decide, Tryz.func179.trans (congrArg some (by kernel_rfl))⟩
 t0 := Tryz.underlying0
 a0 := Tryz.isAgg0
 z0 := Tryz.sizeOf0
 v0 := Tryz.zeroValue0
 t3 := Tryz.underlying3
 a3 := Tryz.isAgg3
 z3 := Tryz.sizeOf3
 v3 := Tryz.zeroValue3
 t4 := Tryz.underlying4
 a4 := Tryz.isAgg4
 z4 := Tryz.sizeOf4
 v4 := Tryz.zeroValue4
 t5 := Tryz.underlying5
 a5 := Tryz.isAgg5
 z5 := Tryz.sizeOf5
 v5 := Tryz.zeroValue5
 t9 := Tryz.underlying9
 a9 := Tryz.isAgg9
 z9 := Tryz.sizeOf9
 v9 := Tryz.zeroValue9
 t22 := Tryz.underlying35
 a22 := Tryz.isAgg35
 z22 := Tryz.sizeOf35
 v22 := Tryz.zeroValue35
 t23 := Tryz.underlying35
 a23 := Tryz.isAgg35
 z23 := Tryz.sizeOf35
 v23 := Tryz.zeroValue35
 t25 := Tryz.underlying3
 a25 := Tryz.isAgg3
 z25 := Tryz.sizeOf3
 v25 := Tryz.zeroValue3
 t32 := Tryz.underlying150
 a32 := Tryz.isAgg150
 z32 := Tryz.sizeOf150
 v32 := Tryz.zeroValue150
 t35 := Tryz.underlying201
 a35 := Tryz.isAgg201
 z35 := Tryz.sizeOf201
 v35 := Tryz.zeroValue201
 t36 := Tryz.underlying202
 a36 := Tryz.isAgg202
 z36 := Tryz.sizeOf202
 v36 := Tryz.zeroValue202
 t41 := Tryz.underlying195
 a41 := Tryz.isAgg195
 z41 := Tryz.sizeOf195
 v41 := Tryz.zeroValue195
 t44 := Tryz.underlying188
 a44 := Tryz.isAgg188
 z44 := Tryz.sizeOf188
 v44 := Tryz.zeroValue188
 t46 := Tryz.underlying209
 a46 := Tryz.isAgg209
 z46 := Tryz.sizeOf209
 v46 := Tryz.zeroValue209
 t53 := Tryz.underlying210
 a53 := Tryz.isAgg210
 z53 := Tryz.sizeOf210
 v53 := Tryz.zeroValue210
 t57 := Tryz.underlying214
 a57 := Tryz.isAgg214
 z57 := Tryz.sizeOf214
 v57 := Tryz.zeroValue214
 t63 := Tryz.underlying216
 a63 := Tryz.isAgg216
 z63 := Tryz.sizeOf216
 v63 := Tryz.zeroValue216
 t64 := Tryz.underlying160
 a64 := Tryz.isAgg160
 z64 := Tryz.sizeOf160
 v64 := Tryz.zeroValue160 }
end Go.Proofs
end
