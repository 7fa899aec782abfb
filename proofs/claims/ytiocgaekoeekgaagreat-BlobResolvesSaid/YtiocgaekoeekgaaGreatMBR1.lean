/- Any name is resolved as the document says: what the parent has stands ahead: BlobResolves answers true for all that it is given, with no condition. Part 1: contracts of the functions that the law reaches, and words for them. -/
import Derived.Test.YtiocgaekoeekgaaGreatProg
import Derived.Below
import Derived.Deep.Draws
import Derived.Deep.AppendLies
import Derived.Maps.AppendAt
import Derived.OwnWalk
import Derived.Laws.BytesArg
import Derived.Laws.MakeOwn
import Derived.Laws.OwnMore
import Derived.Deep.OwnRows
import Derived.Tactics
import Derived.Lib.ConvBytes
import Derived.Laws.Slices
import Derived.WalkKit
import Derived.KernelRfl
import Derived.RowKit3
import Derived.Deep.LoopGhost
import Derived.Deep.QuietTactic
import Derived.BigQuiet
import Derived.WideLaws
import Derived.Deep.DeepCutAuto
import Derived.Deep.CutBlock
import Derived.Deep.RegionHeld3
import Derived.Laws.Rows
import Derived.Lib.AppendStr
import Derived.ArgAppend
import Derived.Laws.IdiomCopy
import Derived.OrdersHeld
import Derived.Laws.BitsLemmas
import Derived.RowKit
import Derived.Shelf.Abstract
import Derived.Shelf.Utf8.AppendRunePlain
import Derived.Ground.NamesProg
import Derived.Lib.OthersKept
import Derived.Laws.RangeAny
import Derived.Laws.RangeString
import Derived.WalkLawsBesides
import Derived.Lib.AppendZeros
import Derived.Laws.AppendOwn
import Derived.WalkSpells
import Derived.Test.YtiocgaekoeekgaaGreatMBR0
set_option maxHeartbeats 32000000
set_option maxRecDepth 100000
section
namespace Go.Proofs.YtiocgaekoeekgaaGreat.P
open Go.RowKit YtiocgaekoeekgaaGreatW.PrintWords YtiocgaekoeekgaaGreatW.PrintLast YtiocgaekoeekgaaGreatW.PrintMore
attribute [local go_sem] ub_ rb_ cc_ bc_ kb_ jb_ tb_ qb_   
set_option linter.unusedVariables false
set_option linter.unusedSimpArgs false
def errW : Option Int → Value
 | none => .nilIface
 | some c => .iface 0 (.int .i64 c)
theorem va_ : errW none = .nilIface := rfl
theorem ua_ (c : Int) : errW (some c) = .iface 0 (.int .i64 c) := rfl
theorem qg_ : (Tryz.prog.info? 3).map (fun i => (i.zero, i.size, i.bytes)) = some (some (.int .i64 0), 1, 8) := by kernel_rfl
theorem io_ : (Tryz.prog.info? 5).map (fun i => (i.zero, i.size, i.bytes)) = some (some (.int .u8 0), 1, 1) := by kernel_rfl
theorem info44 : (Tryz.prog.info? 44).map (fun i => (i.zero, i.size, i.bytes)) = some (some (.agg #[(.string ⟨#[]⟩), (.int .i64 0), (.int .i64 0), (.slice none 0 0), (.slice none 0 0), (.slice none 0 0)]), 6, 104) := by kernel_rfl
theorem info46 : (Tryz.prog.info? 46).map (fun i => (i.zero, i.size, i.bytes)) = some (some (.agg #[(.string ⟨#[]⟩), (.int .i64 0), (.int .i64 0)]), 3, 32) := by kernel_rfl
theorem info52 : (Tryz.prog.info? 52).map (fun i => (i.zero, i.size, i.bytes)) = some (some (.agg #[(.int .i64 0), (.slice none 0 0)]), 2, 32) := by kernel_rfl
theorem mm_ : (Tryz.prog.info? 56).map (fun i => (i.zero, i.size, i.bytes)) = some (some (.agg #[(.int .i64 0), (.slice none 0 0), (.int .i64 0), (.slice none 0 0), (.int .i64 0)]), 5, 72) := by kernel_rfl
structure S46 where
 f0 : ByteArray
 f1 : Int
 f2 : Int
def z46 : S46 := ⟨(⟨#[]⟩ : BA), (0 : Int), (0 : Int)⟩
def k46 : Kd S46 := Kd.iso (Kd.pair Kd.string (Kd.pair (Kd.int .i64) (Kd.int .i64))) (fun x : S46 => (x.f0, x.f1, x.f2))
theorem k46_heap : Kd.Heap k46 := Kd.heap_iso _ (Kd.heap_pair Kd.heap_string (Kd.heap_pair (Kd.heap_int .i64) (Kd.heap_int .i64)))
theorem k46_open {w : World} {x : S46} {cs : List Value} (h : k46.K w x cs) : cs = [.string x.f0, .int .i64 x.f1, .int .i64 x.f2] := by
 obtain ⟨_, _, rfl, rfl, ⟨_, _, rfl, rfl, rfl⟩⟩ := h
 exact rfl
theorem iv_ {w : World} {base : Nat} {ok : Nat → Prop} {x : S46} {cs : List Value} (h : k46.M w base ok x cs) : cs = [.string x.f0, .int .i64 x.f1, .int .i64 x.f2] := by
 obtain ⟨_, _, rfl, rfl, ⟨_, _, rfl, rfl, rfl⟩⟩ := h
 exact rfl
theorem k46_mk (w : World) (x : S46)  : k46.K w x [.string x.f0, .int .i64 x.f1, .int .i64 x.f2] := ⟨[.string x.f0], [.int .i64 x.f1, .int .i64 x.f2], rfl, rfl, ⟨[.int .i64 x.f1], [.int .i64 x.f2], rfl, rfl, rfl⟩⟩
theorem mc_ (w : World) (base : Nat) (ok : Nat → Prop) (x : S46)  : k46.M w base ok x [.string x.f0, .int .i64 x.f1, .int .i64 x.f2] := ⟨[.string x.f0], [.int .i64 x.f1, .int .i64 x.f2], rfl, rfl, ⟨[.int .i64 x.f1], [.int .i64 x.f2], rfl, rfl, rfl⟩⟩
def le_ (xs : List S46) (i : Int) : S46 := xs.getD i.toNat z46
theorem tp_ {w : World} {A : Option Addr} {n : Nat} {xs : List S46} (h : Kd.C k46 w A n xs) (i : Int) (h0 : 0 ≤ i) (h1 : i < n) : ∃ ad , A = some ad ∧ w.cell? (ad.add (i.toNat * 3)) = some (.string (le_ xs i).f0) ∧ w.cell? ⟨(ad.add (i.toNat * 3)).block, (ad.add (i.toNat * 3)).off + 1, none⟩ = some (.int .i64 (le_ xs i).f1) ∧ w.cell? ⟨(ad.add (i.toNat * 3)).block, (ad.add (i.toNat * 3)).off + 2, none⟩ = some (.int .i64 (le_ xs i).f2) := by
 obtain ⟨ad, c, e, _, hK, hc0⟩ := Kd.C_get h z46 i h0 h1
 have hc : ∀ j u, c[j]? = some u → w.cell? (ad.add (i.toNat * 3 + j)) = some u := hc0
 obtain rfl := k46_open hK
 exact ⟨ad, e, hc 0 _ rfl, Vk_, Vw_⟩
def ti_ (xs : List (List Int)) (i : Int) : (List Int) := xs.getD i.toNat ([] : List Int)
theorem at_L5 {w : World} {A : Option Addr} {n : Nat} {xs : List (List Int)} (h : Kd.C (Kd.slice 3 (Kd.int .i64)) w A n xs) (i : Int) (h0 : 0 ≤ i) (h1 : i < n) : ∃ ad A0 c0, A = some ad ∧ w.cell? (ad.add i.toNat) = some (.slice A0 (ti_ xs i).length c0) ∧ (ti_ xs i).length ≤ c0 ∧ (Kd.int .i64).C w A0 (ti_ xs i).length (ti_ xs i) := by
 obtain ⟨ad, c, e, _, hK, hc0⟩ := Kd.C_get h ([] : List Int) i h0 h1
 have hc : ∀ j u, c[j]? = some u → w.cell? (ad.add (i.toNat * 1 + j)) = some u := hc0
 obtain ⟨A0, c0, rfl, l0, g0⟩ := hK
 exact ⟨ad, A0, c0, e, by have hq := hc 0 _ rfl; rwa [Nat.mul_one, Nat.add_zero] at hq, l0, g0⟩
structure S54 where
 f0 : Int
 f1 : (List Int)
def z54 : S54 := ⟨(0 : Int), ([] : List Int)⟩
def k54 : Kd S54 := Kd.iso (Kd.pair (Kd.int .i64) (Kd.slice 3 (Kd.int .i64))) (fun x : S54 => (x.f0, x.f1))
theorem k54_heap : Kd.Heap k54 := Kd.heap_iso _ (Kd.heap_pair (Kd.heap_int .i64) (Kd.heap_slice 3 (Kd.heap_int .i64)))
theorem k54_open {w : World} {x : S54} {cs : List Value} (h : k54.K w x cs) : ∃ A1 c1, cs = [.int .i64 x.f0, .slice A1 x.f1.length c1] ∧ x.f1.length ≤ c1 ∧ (Kd.int .i64).C w A1 x.f1.length x.f1 := by
 obtain ⟨_, _, rfl, rfl, ⟨A1, c1, rfl, l1, g1⟩⟩ := h
 exact ⟨A1, c1, rfl, l1, g1⟩
theorem fv_ {w : World} {base : Nat} {ok : Nat → Prop} {x : S54} {cs : List Value} (h : k54.M w base ok x cs) : ∃ v1, cs = [.int .i64 x.f0, v1] ∧ (Kd.int .i64).R 3 w base ok v1 x.f1 := by
 obtain ⟨_, _, rfl, rfl, ⟨v1, rfl, g1⟩⟩ := h
 exact ⟨v1, rfl, g1⟩
theorem k54_mk (w : World) (x : S54) {A1 : Option Addr} {c1 : Nat} (l1 : x.f1.length ≤ c1) (g1 : (Kd.int .i64).C w A1 x.f1.length x.f1) : k54.K w x [.int .i64 x.f0, .slice A1 x.f1.length c1] := ⟨[.int .i64 x.f0], [.slice A1 x.f1.length c1], rfl, rfl, ⟨A1, c1, rfl, l1, g1⟩⟩
theorem k54_mkM (w : World) (base : Nat) (ok : Nat → Prop) (x : S54) {v1 : Value} (g1 : (Kd.int .i64).R 3 w base ok v1 x.f1) : k54.M w base ok x [.int .i64 x.f0, v1] := ⟨[.int .i64 x.f0], [v1], rfl, rfl, ⟨v1, rfl, g1⟩⟩
structure S56 where
 f0 : Int
 f1 : (List Int)
 f2 : S54
 f3 : Int
def z56 : S56 := ⟨(0 : Int), ([] : List Int), z54, (0 : Int)⟩
def k56 : Kd S56 := Kd.iso (Kd.pair (Kd.int .i64) (Kd.pair (Kd.slice 3 (Kd.int .i64)) (Kd.pair k54 (Kd.int .i64)))) (fun x : S56 => (x.f0, x.f1, x.f2, x.f3))
theorem br_ : Kd.Heap k56 := Kd.heap_iso _ (Kd.heap_pair (Kd.heap_int .i64) (Kd.heap_pair (Kd.heap_slice 3 (Kd.heap_int .i64)) (Kd.heap_pair k54_heap (Kd.heap_int .i64))))
theorem ar_ {w : World} {x : S56} {cs : List Value} (h : k56.K w x cs) : ∃ A1 c1 A3 c3, cs = [.int .i64 x.f0, .slice A1 x.f1.length c1, .int .i64 x.f2.f0, .slice A3 x.f2.f1.length c3, .int .i64 x.f3] ∧ x.f1.length ≤ c1 ∧ (Kd.int .i64).C w A1 x.f1.length x.f1 ∧ x.f2.f1.length ≤ c3 ∧ (Kd.int .i64).C w A3 x.f2.f1.length x.f2.f1 := by
 obtain ⟨_, _, rfl, rfl, ⟨_, _, rfl, ⟨A1, c1, rfl, l1, g1⟩, ⟨_, _, rfl, s2, rfl⟩⟩⟩ := h
 obtain ⟨A3, c3, rfl, l3, g3⟩ := k54_open s2
 exact ⟨A1, c1, A3, c3, rfl, l1, g1, l3, g3⟩
theorem ev_ {w : World} {base : Nat} {ok : Nat → Prop} {x : S56} {cs : List Value} (h : k56.M w base ok x cs) : ∃ v1 v3, cs = [.int .i64 x.f0, v1, .int .i64 x.f2.f0, v3, .int .i64 x.f3] ∧ (Kd.int .i64).R 3 w base ok v1 x.f1 ∧ (Kd.int .i64).R 3 w base ok v3 x.f2.f1 := by
 obtain ⟨_, _, rfl, rfl, ⟨_, _, rfl, ⟨v1, rfl, g1⟩, ⟨_, _, rfl, s2, rfl⟩⟩⟩ := h
 obtain ⟨v3, rfl, g3⟩ := fv_ s2
 exact ⟨v1, v3, rfl, g1, g3⟩
theorem k56_mk (w : World) (x : S56) {A1 : Option Addr} {c1 : Nat} (l1 : x.f1.length ≤ c1) (g1 : (Kd.int .i64).C w A1 x.f1.length x.f1) {A3 : Option Addr} {c3 : Nat} (l3 : x.f2.f1.length ≤ c3) (g3 : (Kd.int .i64).C w A3 x.f2.f1.length x.f2.f1) : k56.K w x [.int .i64 x.f0, .slice A1 x.f1.length c1, .int .i64 x.f2.f0, .slice A3 x.f2.f1.length c3, .int .i64 x.f3] := ⟨[.int .i64 x.f0], [.slice A1 x.f1.length c1, .int .i64 x.f2.f0, .slice A3 x.f2.f1.length c3, .int .i64 x.f3], rfl, rfl, ⟨[.slice A1 x.f1.length c1], [.int .i64 x.f2.f0, .slice A3 x.f2.f1.length c3, .int .i64 x.f3], rfl, ⟨A1, c1, rfl, l1, g1⟩, ⟨[.int .i64 x.f2.f0, .slice A3 x.f2.f1.length c3], [.int .i64 x.f3], rfl, (k54_mk w x.f2 l3 g3), rfl⟩⟩⟩
theorem ol_ (w : World) (base : Nat) (ok : Nat → Prop) (x : S56) {v1 : Value} (g1 : (Kd.int .i64).R 3 w base ok v1 x.f1) {v3 : Value} (g3 : (Kd.int .i64).R 3 w base ok v3 x.f2.f1) : k56.M w base ok x [.int .i64 x.f0, v1, .int .i64 x.f2.f0, v3, .int .i64 x.f3] := ⟨[.int .i64 x.f0], [v1, .int .i64 x.f2.f0, v3, .int .i64 x.f3], rfl, rfl, ⟨[v1], [.int .i64 x.f2.f0, v3, .int .i64 x.f3], rfl, ⟨v1, rfl, g1⟩, ⟨[.int .i64 x.f2.f0, v3], [.int .i64 x.f3], rfl, (k54_mkM w base ok x.f2 g3), rfl⟩⟩⟩
theorem au_ (W : World) (ok : Nat → Prop) (x : S56) {A1 : Option Addr} {c1 : Nat} (l1 : x.f1.length ≤ c1) (g1 : Kd.F (Kd.int .i64) W ok A1 x.f1.length x.f1) {A3 : Option Addr} {c3 : Nat} (l3 : x.f2.f1.length ≤ c3) (g3 : Kd.F (Kd.int .i64) W ok A3 x.f2.f1.length x.f2.f1) : Kd.FK k56 W ok x [.int .i64 x.f0, .slice A1 x.f1.length c1, .int .i64 x.f2.f0, .slice A3 x.f2.f1.length c3, .int .i64 x.f3] := fun W2 hW => k56_mk W2 x l1 (g1 W2 hW) l3 (g3 W2 hW)
def wb_ (xs : List S56) (i : Int) : S56 := xs.getD i.toNat z56
theorem gj_ {w : World} {A : Option Addr} {n : Nat} {xs : List S56} (h : Kd.C k56 w A n xs) (i : Int) (h0 : 0 ≤ i) (h1 : i < n) : ∃ ad A1 c1 A3 c3, A = some ad ∧ w.cell? (ad.add (i.toNat * 5)) = some (.int .i64 (wb_ xs i).f0) ∧ w.cell? ⟨(ad.add (i.toNat * 5)).block, (ad.add (i.toNat * 5)).off + 1, none⟩ = some (.slice A1 (wb_ xs i).f1.length c1) ∧ w.cell? ⟨(ad.add (i.toNat * 5)).block, (ad.add (i.toNat * 5)).off + 2, none⟩ = some (.int .i64 (wb_ xs i).f2.f0) ∧ w.cell? ⟨(ad.add (i.toNat * 5)).block, (ad.add (i.toNat * 5)).off + 3, none⟩ = some (.slice A3 (wb_ xs i).f2.f1.length c3) ∧ w.cell? ⟨(ad.add (i.toNat * 5)).block, (ad.add (i.toNat * 5)).off + 4, none⟩ = some (.int .i64 (wb_ xs i).f3) ∧ (wb_ xs i).f1.length ≤ c1 ∧ (Kd.int .i64).C w A1 (wb_ xs i).f1.length (wb_ xs i).f1 ∧ (wb_ xs i).f2.f1.length ≤ c3 ∧ (Kd.int .i64).C w A3 (wb_ xs i).f2.f1.length (wb_ xs i).f2.f1 := by
 obtain ⟨ad, c, e, _, hK, hc0⟩ := Kd.C_get h z56 i h0 h1
 have hc : ∀ j u, c[j]? = some u → w.cell? (ad.add (i.toNat * 5 + j)) = some u := hc0
 obtain ⟨A1, c1, A3, c3, rfl, l1, g1, l3, g3⟩ := ar_ hK
 exact ⟨ad, A1, c1, A3, c3, e, hc 0 _ rfl, Vk_, Vw_, Wf_, Wq_, l1, g1, l3, g3⟩
structure S48 where
 f0 : Int
 f1 : ByteArray
 f2 : Int
 f3 : Int
 f4 : Int
def z48 : S48 := ⟨(0 : Int), (⟨#[]⟩ : BA), (0 : Int), (0 : Int), (0 : Int)⟩
def k48 : Kd S48 := Kd.iso (Kd.pair (Kd.int .i64) (Kd.pair Kd.string (Kd.pair (Kd.int .i64) (Kd.pair (Kd.int .i64) (Kd.int .i64))))) (fun x : S48 => (x.f0, x.f1, x.f2, x.f3, x.f4))
theorem k48_heap : Kd.Heap k48 := Kd.heap_iso _ (Kd.heap_pair (Kd.heap_int .i64) (Kd.heap_pair Kd.heap_string (Kd.heap_pair (Kd.heap_int .i64) (Kd.heap_pair (Kd.heap_int .i64) (Kd.heap_int .i64)))))
theorem cr_ {w : World} {x : S48} {cs : List Value} (h : k48.K w x cs) : cs = [.int .i64 x.f0, .string x.f1, .int .i64 x.f2, .int .i64 x.f3, .int .i64 x.f4] := by
 obtain ⟨_, _, rfl, rfl, ⟨_, _, rfl, rfl, ⟨_, _, rfl, rfl, ⟨_, _, rfl, rfl, rfl⟩⟩⟩⟩ := h
 exact rfl
theorem hv_ {w : World} {base : Nat} {ok : Nat → Prop} {x : S48} {cs : List Value} (h : k48.M w base ok x cs) : cs = [.int .i64 x.f0, .string x.f1, .int .i64 x.f2, .int .i64 x.f3, .int .i64 x.f4] := by
 obtain ⟨_, _, rfl, rfl, ⟨_, _, rfl, rfl, ⟨_, _, rfl, rfl, ⟨_, _, rfl, rfl, rfl⟩⟩⟩⟩ := h
 exact rfl
theorem mp_ (w : World) (base : Nat) (ok : Nat → Prop) (x : S48)  : k48.M w base ok x [.int .i64 x.f0, .string x.f1, .int .i64 x.f2, .int .i64 x.f3, .int .i64 x.f4] := ⟨[.int .i64 x.f0], [.string x.f1, .int .i64 x.f2, .int .i64 x.f3, .int .i64 x.f4], rfl, rfl, ⟨[.string x.f1], [.int .i64 x.f2, .int .i64 x.f3, .int .i64 x.f4], rfl, rfl, ⟨[.int .i64 x.f2], [.int .i64 x.f3, .int .i64 x.f4], rfl, rfl, ⟨[.int .i64 x.f3], [.int .i64 x.f4], rfl, rfl, rfl⟩⟩⟩⟩
def pd_ (xs : List S48) (i : Int) : S48 := xs.getD i.toNat z48
theorem kt_ {w : World} {A : Option Addr} {n : Nat} {xs : List S48} (h : Kd.C k48 w A n xs) (i : Int) (h0 : 0 ≤ i) (h1 : i < n) : ∃ ad , A = some ad ∧ w.cell? (ad.add (i.toNat * 5)) = some (.int .i64 (pd_ xs i).f0) ∧ w.cell? ⟨(ad.add (i.toNat * 5)).block, (ad.add (i.toNat * 5)).off + 1, none⟩ = some (.string (pd_ xs i).f1) ∧ w.cell? ⟨(ad.add (i.toNat * 5)).block, (ad.add (i.toNat * 5)).off + 2, none⟩ = some (.int .i64 (pd_ xs i).f2) ∧ w.cell? ⟨(ad.add (i.toNat * 5)).block, (ad.add (i.toNat * 5)).off + 3, none⟩ = some (.int .i64 (pd_ xs i).f3) ∧ w.cell? ⟨(ad.add (i.toNat * 5)).block, (ad.add (i.toNat * 5)).off + 4, none⟩ = some (.int .i64 (pd_ xs i).f4) := by
 obtain ⟨ad, c, e, _, hK, hc0⟩ := Kd.C_get h z48 i h0 h1
 have hc : ∀ j u, c[j]? = some u → w.cell? (ad.add (i.toNat * 5 + j)) = some u := hc0
 obtain rfl := cr_ hK
 exact ⟨ad, e, hc 0 _ rfl, Vk_, Vw_, Wf_, Wq_⟩
structure S52 where
 f0 : Int
 f1 : (List S48)
def z52 : S52 := ⟨(0 : Int), ([] : List S48)⟩
def k52 : Kd S52 := Kd.iso (Kd.pair (Kd.int .i64) (Kd.slice 48 k48)) (fun x : S52 => (x.f0, x.f1))
theorem k52_heap : Kd.Heap k52 := Kd.heap_iso _ (Kd.heap_pair (Kd.heap_int .i64) (Kd.heap_slice 48 k48_heap))
theorem k52_open {w : World} {x : S52} {cs : List Value} (h : k52.K w x cs) : ∃ A1 c1, cs = [.int .i64 x.f0, .slice A1 x.f1.length c1] ∧ x.f1.length ≤ c1 ∧ k48.C w A1 x.f1.length x.f1 := by
 obtain ⟨_, _, rfl, rfl, ⟨A1, c1, rfl, l1, g1⟩⟩ := h
 exact ⟨A1, c1, rfl, l1, g1⟩
theorem gv_ {w : World} {base : Nat} {ok : Nat → Prop} {x : S52} {cs : List Value} (h : k52.M w base ok x cs) : ∃ v1, cs = [.int .i64 x.f0, v1] ∧ k48.R 48 w base ok v1 x.f1 := by
 obtain ⟨_, _, rfl, rfl, ⟨v1, rfl, g1⟩⟩ := h
 exact ⟨v1, rfl, g1⟩
theorem lp_ (w : World) (base : Nat) (ok : Nat → Prop) (x : S52) {v1 : Value} (g1 : k48.R 48 w base ok v1 x.f1) : k52.M w base ok x [.int .i64 x.f0, v1] := ⟨[.int .i64 x.f0], [v1], rfl, rfl, ⟨v1, rfl, g1⟩⟩
def he_ (xs : List S52) (i : Int) : S52 := xs.getD i.toNat z52
theorem sp_ {w : World} {A : Option Addr} {n : Nat} {xs : List S52} (h : Kd.C k52 w A n xs) (i : Int) (h0 : 0 ≤ i) (h1 : i < n) : ∃ ad A1 c1, A = some ad ∧ w.cell? (ad.add (i.toNat * 2)) = some (.int .i64 (he_ xs i).f0) ∧ w.cell? ⟨(ad.add (i.toNat * 2)).block, (ad.add (i.toNat * 2)).off + 1, none⟩ = some (.slice A1 (he_ xs i).f1.length c1) ∧ (he_ xs i).f1.length ≤ c1 ∧ k48.C w A1 (he_ xs i).f1.length (he_ xs i).f1 := by
 obtain ⟨ad, c, e, _, hK, hc0⟩ := Kd.C_get h z52 i h0 h1
 have hc : ∀ j u, c[j]? = some u → w.cell? (ad.add (i.toNat * 2 + j)) = some u := hc0
 obtain ⟨A1, c1, rfl, l1, g1⟩ := k52_open hK
 exact ⟨ad, A1, c1, e, hc 0 _ rfl, Vk_, l1, g1⟩
structure S44 where
 f0 : ByteArray
 f1 : Int
 f2 : Int
 f3 : (List S46)
 f4 : (List S56)
 f5 : (List S52)
def z44 : S44 := ⟨(⟨#[]⟩ : BA), (0 : Int), (0 : Int), ([] : List S46), ([] : List S56), ([] : List S52)⟩
def k44 : Kd S44 := Kd.iso (Kd.pair Kd.string (Kd.pair (Kd.int .i64) (Kd.pair (Kd.int .i64) (Kd.pair (Kd.slice 46 k46) (Kd.pair (Kd.slice 56 k56) (Kd.slice 52 k52)))))) (fun x : S44 => (x.f0, x.f1, x.f2, x.f3, x.f4, x.f5))
theorem km_ {w : World} {x : S44} {cs : List Value} (h : k44.K w x cs) : ∃ A3 c3 A4 c4 A5 c5, cs = [.string x.f0, .int .i64 x.f1, .int .i64 x.f2, .slice A3 x.f3.length c3, .slice A4 x.f4.length c4, .slice A5 x.f5.length c5] ∧ x.f3.length ≤ c3 ∧ k46.C w A3 x.f3.length x.f3 ∧ x.f4.length ≤ c4 ∧ k56.C w A4 x.f4.length x.f4 ∧ x.f5.length ≤ c5 ∧ k52.C w A5 x.f5.length x.f5 := by
 obtain ⟨_, _, rfl, rfl, ⟨_, _, rfl, rfl, ⟨_, _, rfl, rfl, ⟨_, _, rfl, ⟨A3, c3, rfl, l3, g3⟩, ⟨_, _, rfl, ⟨A4, c4, rfl, l4, g4⟩, ⟨A5, c5, rfl, l5, g5⟩⟩⟩⟩⟩⟩ := h
 exact ⟨A3, c3, A4, c4, A5, c5, rfl, l3, g3, l4, g4, l5, g5⟩
theorem jv_ {w : World} {base : Nat} {ok : Nat → Prop} {x : S44} {cs : List Value} (h : k44.M w base ok x cs) : ∃ v3 v4 v5, cs = [.string x.f0, .int .i64 x.f1, .int .i64 x.f2, v3, v4, v5] ∧ k46.R 46 w base ok v3 x.f3 ∧ k56.R 56 w base ok v4 x.f4 ∧ k52.R 52 w base ok v5 x.f5 := by
 obtain ⟨_, _, rfl, rfl, ⟨_, _, rfl, rfl, ⟨_, _, rfl, rfl, ⟨_, _, rfl, ⟨v3, rfl, g3⟩, ⟨_, _, rfl, ⟨v4, rfl, g4⟩, ⟨v5, rfl, g5⟩⟩⟩⟩⟩⟩ := h
 exact ⟨v3, v4, v5, rfl, g3, g4, g5⟩
theorem lm_ (w : World) (x : S44) {A3 : Option Addr} {c3 : Nat} (l3 : x.f3.length ≤ c3) (g3 : k46.C w A3 x.f3.length x.f3) {A4 : Option Addr} {c4 : Nat} (l4 : x.f4.length ≤ c4) (g4 : k56.C w A4 x.f4.length x.f4) {A5 : Option Addr} {c5 : Nat} (l5 : x.f5.length ≤ c5) (g5 : k52.C w A5 x.f5.length x.f5) : k44.K w x [.string x.f0, .int .i64 x.f1, .int .i64 x.f2, .slice A3 x.f3.length c3, .slice A4 x.f4.length c4, .slice A5 x.f5.length c5] := ⟨[.string x.f0], [.int .i64 x.f1, .int .i64 x.f2, .slice A3 x.f3.length c3, .slice A4 x.f4.length c4, .slice A5 x.f5.length c5], rfl, rfl, ⟨[.int .i64 x.f1], [.int .i64 x.f2, .slice A3 x.f3.length c3, .slice A4 x.f4.length c4, .slice A5 x.f5.length c5], rfl, rfl, ⟨[.int .i64 x.f2], [.slice A3 x.f3.length c3, .slice A4 x.f4.length c4, .slice A5 x.f5.length c5], rfl, rfl, ⟨[.slice A3 x.f3.length c3], [.slice A4 x.f4.length c4, .slice A5 x.f5.length c5], rfl, ⟨A3, c3, rfl, l3, g3⟩, ⟨[.slice A4 x.f4.length c4], [.slice A5 x.f5.length c5], rfl, ⟨A4, c4, rfl, l4, g4⟩, ⟨A5, c5, rfl, l5, g5⟩⟩⟩⟩⟩⟩
theorem k44_mkM (w : World) (base : Nat) (ok : Nat → Prop) (x : S44) {v3 : Value} (g3 : k46.R 46 w base ok v3 x.f3) {v4 : Value} (g4 : k56.R 56 w base ok v4 x.f4) {v5 : Value} (g5 : k52.R 52 w base ok v5 x.f5) : k44.M w base ok x [.string x.f0, .int .i64 x.f1, .int .i64 x.f2, v3, v4, v5] := ⟨[.string x.f0], [.int .i64 x.f1, .int .i64 x.f2, v3, v4, v5], rfl, rfl, ⟨[.int .i64 x.f1], [.int .i64 x.f2, v3, v4, v5], rfl, rfl, ⟨[.int .i64 x.f2], [v3, v4, v5], rfl, rfl, ⟨[v3], [v4, v5], rfl, ⟨v3, rfl, g3⟩, ⟨[v4], [v5], rfl, ⟨v4, rfl, g4⟩, ⟨v5, rfl, g5⟩⟩⟩⟩⟩⟩
theorem pl_ (W : World) (ok : Nat → Prop) (x : S44) {A3 : Option Addr} {c3 : Nat} (l3 : x.f3.length ≤ c3) (g3 : Kd.F k46 W ok A3 x.f3.length x.f3) {A4 : Option Addr} {c4 : Nat} (l4 : x.f4.length ≤ c4) (g4 : Kd.F k56 W ok A4 x.f4.length x.f4) {A5 : Option Addr} {c5 : Nat} (l5 : x.f5.length ≤ c5) (g5 : Kd.F k52 W ok A5 x.f5.length x.f5) : Kd.FK k44 W ok x [.string x.f0, .int .i64 x.f1, .int .i64 x.f2, .slice A3 x.f3.length c3, .slice A4 x.f4.length c4, .slice A5 x.f5.length c5] := fun W2 hW => lm_ W2 x l3 (g3 W2 hW) l4 (g4 W2 hW) l5 (g5 W2 hW)
def pa_ (xs : List S44) (i : Int) : S44 := xs.getD i.toNat z44
theorem tf_ {w : World} {A : Option Addr} {n : Nat} {xs : List S44} (h : Kd.C k44 w A n xs) (i : Int) (h0 : 0 ≤ i) (h1 : i < n) : ∃ ad A3 c3 A4 c4 A5 c5, A = some ad ∧ w.cell? (ad.add (i.toNat * 6)) = some (.string (pa_ xs i).f0) ∧ w.cell? ⟨(ad.add (i.toNat * 6)).block, (ad.add (i.toNat * 6)).off + 1, none⟩ = some (.int .i64 (pa_ xs i).f1) ∧ w.cell? ⟨(ad.add (i.toNat * 6)).block, (ad.add (i.toNat * 6)).off + 2, none⟩ = some (.int .i64 (pa_ xs i).f2) ∧ w.cell? ⟨(ad.add (i.toNat * 6)).block, (ad.add (i.toNat * 6)).off + 3, none⟩ = some (.slice A3 (pa_ xs i).f3.length c3) ∧ w.cell? ⟨(ad.add (i.toNat * 6)).block, (ad.add (i.toNat * 6)).off + 4, none⟩ = some (.slice A4 (pa_ xs i).f4.length c4) ∧ w.cell? ⟨(ad.add (i.toNat * 6)).block, (ad.add (i.toNat * 6)).off + 5, none⟩ = some (.slice A5 (pa_ xs i).f5.length c5) ∧ (pa_ xs i).f3.length ≤ c3 ∧ k46.C w A3 (pa_ xs i).f3.length (pa_ xs i).f3 ∧ (pa_ xs i).f4.length ≤ c4 ∧ k56.C w A4 (pa_ xs i).f4.length (pa_ xs i).f4 ∧ (pa_ xs i).f5.length ≤ c5 ∧ k52.C w A5 (pa_ xs i).f5.length (pa_ xs i).f5 := by
 obtain ⟨ad, c, e, _, hK, hc0⟩ := Kd.C_get h z44 i h0 h1
 have hc : ∀ j u, c[j]? = some u → w.cell? (ad.add (i.toNat * 6 + j)) = some u := hc0
 obtain ⟨A3, c3, A4, c4, A5, c5, rfl, l3, g3, l4, g4, l5, g5⟩ := km_ hK
 exact ⟨ad, A3, c3, A4, c4, A5, c5, e, hc 0 _ rfl, Vk_, Vw_, Wf_, Wq_, by rw [← yb_ _ _ 5 Td_]; exact hc 5 _ rfl, l3, g3, l4, g4, l5, g5⟩
structure S192 where
 f0 : Int
 f1 : Int
 f2 : Int
 f3 : Int
def z192 : S192 := ⟨(0 : Int), (0 : Int), (0 : Int), (0 : Int)⟩
def k192 : Kd S192 := Kd.iso (Kd.pair (Kd.int .i64) (Kd.pair (Kd.int .i64) (Kd.pair (Kd.int .i64) (Kd.int .i64)))) (fun x : S192 => (x.f0, x.f1, x.f2, x.f3))
theorem kv_ {w : World} {x : S192} {cs : List Value} (h : k192.K w x cs) : cs = [.int .i64 x.f0, .int .i64 x.f1, .int .i64 x.f2, .int .i64 x.f3] := by
 obtain ⟨_, _, rfl, rfl, ⟨_, _, rfl, rfl, ⟨_, _, rfl, rfl, rfl⟩⟩⟩ := h
 exact rfl
theorem tc_ (w : World) (base : Nat) (ok : Nat → Prop) (x : S192)  : k192.M w base ok x [.int .i64 x.f0, .int .i64 x.f1, .int .i64 x.f2, .int .i64 x.f3] := ⟨[.int .i64 x.f0], [.int .i64 x.f1, .int .i64 x.f2, .int .i64 x.f3], rfl, rfl, ⟨[.int .i64 x.f1], [.int .i64 x.f2, .int .i64 x.f3], rfl, rfl, ⟨[.int .i64 x.f2], [.int .i64 x.f3], rfl, rfl, rfl⟩⟩⟩
def pg_ (xs : List S192) (i : Int) : S192 := xs.getD i.toNat z192
theorem at_T192 {w : World} {A : Option Addr} {n : Nat} {xs : List S192} (h : Kd.C k192 w A n xs) (i : Int) (h0 : 0 ≤ i) (h1 : i < n) : ∃ ad , A = some ad ∧ w.cell? (ad.add (i.toNat * 4)) = some (.int .i64 (pg_ xs i).f0) ∧ w.cell? ⟨(ad.add (i.toNat * 4)).block, (ad.add (i.toNat * 4)).off + 1, none⟩ = some (.int .i64 (pg_ xs i).f1) ∧ w.cell? ⟨(ad.add (i.toNat * 4)).block, (ad.add (i.toNat * 4)).off + 2, none⟩ = some (.int .i64 (pg_ xs i).f2) ∧ w.cell? ⟨(ad.add (i.toNat * 4)).block, (ad.add (i.toNat * 4)).off + 3, none⟩ = some (.int .i64 (pg_ xs i).f3) := by
 obtain ⟨ad, c, e, _, hK, hc0⟩ := Kd.C_get h z192 i h0 h1
 have hc : ∀ j u, c[j]? = some u → w.cell? (ad.add (i.toNat * 4 + j)) = some u := hc0
 obtain rfl := kv_ hK
 exact ⟨ad, e, hc 0 _ rfl, Vk_, Vw_, Wf_⟩
structure S120 where
 f0 : Int
 f1 : Int
 f2 : Int
 f3 : (List Int)
 f4 : (List Int)
def z120 : S120 := ⟨(0 : Int), (0 : Int), (0 : Int), ([] : List Int), ([] : List Int)⟩
def k120 : Kd S120 := Kd.iso (Kd.pair (Kd.int .i64) (Kd.pair (Kd.int .i64) (Kd.pair (Kd.int .i64) (Kd.pair (Kd.slice 3 (Kd.int .i64)) (Kd.slice 3 (Kd.int .i64)))))) (fun x : S120 => (x.f0, x.f1, x.f2, x.f3, x.f4))
theorem lv_ {w : World} {x : S120} {cs : List Value} (h : k120.K w x cs) : ∃ A3 c3 A4 c4, cs = [.int .i64 x.f0, .int .i64 x.f1, .int .i64 x.f2, .slice A3 x.f3.length c3, .slice A4 x.f4.length c4] ∧ x.f3.length ≤ c3 ∧ (Kd.int .i64).C w A3 x.f3.length x.f3 ∧ x.f4.length ≤ c4 ∧ (Kd.int .i64).C w A4 x.f4.length x.f4 := by
 obtain ⟨_, _, rfl, rfl, ⟨_, _, rfl, rfl, ⟨_, _, rfl, rfl, ⟨_, _, rfl, ⟨A3, c3, rfl, l3, g3⟩, ⟨A4, c4, rfl, l4, g4⟩⟩⟩⟩⟩ := h
 exact ⟨A3, c3, A4, c4, rfl, l3, g3, l4, g4⟩
theorem k120_mk (w : World) (x : S120) {A3 : Option Addr} {c3 : Nat} (l3 : x.f3.length ≤ c3) (g3 : (Kd.int .i64).C w A3 x.f3.length x.f3) {A4 : Option Addr} {c4 : Nat} (l4 : x.f4.length ≤ c4) (g4 : (Kd.int .i64).C w A4 x.f4.length x.f4) : k120.K w x [.int .i64 x.f0, .int .i64 x.f1, .int .i64 x.f2, .slice A3 x.f3.length c3, .slice A4 x.f4.length c4] := ⟨[.int .i64 x.f0], [.int .i64 x.f1, .int .i64 x.f2, .slice A3 x.f3.length c3, .slice A4 x.f4.length c4], rfl, rfl, ⟨[.int .i64 x.f1], [.int .i64 x.f2, .slice A3 x.f3.length c3, .slice A4 x.f4.length c4], rfl, rfl, ⟨[.int .i64 x.f2], [.slice A3 x.f3.length c3, .slice A4 x.f4.length c4], rfl, rfl, ⟨[.slice A3 x.f3.length c3], [.slice A4 x.f4.length c4], rfl, ⟨A3, c3, rfl, l3, g3⟩, ⟨A4, c4, rfl, l4, g4⟩⟩⟩⟩⟩
def xa_ (xs : List S120) (i : Int) : S120 := xs.getD i.toNat z120
theorem ph_ {w : World} {A : Option Addr} {n : Nat} {xs : List S120} (h : Kd.C k120 w A n xs) (i : Int) (h0 : 0 ≤ i) (h1 : i < n) : ∃ ad A3 c3 A4 c4, A = some ad ∧ w.cell? (ad.add (i.toNat * 5)) = some (.int .i64 (xa_ xs i).f0) ∧ w.cell? ⟨(ad.add (i.toNat * 5)).block, (ad.add (i.toNat * 5)).off + 1, none⟩ = some (.int .i64 (xa_ xs i).f1) ∧ w.cell? ⟨(ad.add (i.toNat * 5)).block, (ad.add (i.toNat * 5)).off + 2, none⟩ = some (.int .i64 (xa_ xs i).f2) ∧ w.cell? ⟨(ad.add (i.toNat * 5)).block, (ad.add (i.toNat * 5)).off + 3, none⟩ = some (.slice A3 (xa_ xs i).f3.length c3) ∧ w.cell? ⟨(ad.add (i.toNat * 5)).block, (ad.add (i.toNat * 5)).off + 4, none⟩ = some (.slice A4 (xa_ xs i).f4.length c4) ∧ (xa_ xs i).f3.length ≤ c3 ∧ (Kd.int .i64).C w A3 (xa_ xs i).f3.length (xa_ xs i).f3 ∧ (xa_ xs i).f4.length ≤ c4 ∧ (Kd.int .i64).C w A4 (xa_ xs i).f4.length (xa_ xs i).f4 := by
 obtain ⟨ad, c, e, _, hK, hc0⟩ := Kd.C_get h z120 i h0 h1
 have hc : ∀ j u, c[j]? = some u → w.cell? (ad.add (i.toNat * 5 + j)) = some u := hc0
 obtain ⟨A3, c3, A4, c4, rfl, l3, g3, l4, g4⟩ := lv_ hK
 exact ⟨ad, A3, c3, A4, c4, e, hc 0 _ rfl, Vk_, Vw_, Wf_, Wq_, l3, g3, l4, g4⟩
noncomputable def blob_within.f (a0 : Int) (a1 : Int) (a2 : Int) : Option (Bool) := if a0 ≥ a1 then (some (decide (a0 ≤ a2))) else (some false)
theorem blob_within.calls (a0 : Int) (a1 : Int) (a2 : Int) (r : Bool) (w : World) (h : blob_within.f a0 a1 a2 = some r) :
  Calls Tryz.prog 42 #[.int .i64 a0, .int .i64 a1, .int .i64 a2] w fun e w' => e = .returned (.bool r) ∧ Drawn0 w w' := by
 have H : (if a0 ≥ a1 then (some (decide (a0 ≤ a2))) else (some false)) = some r := h
 clear h
 by_cases c4 : a0 ≥ a1
 ·rw [if_pos c4] at H
  have c4b0 := decide_eq_true c4; clear c4; obtain rfl := Option.some.inj H
  go_enter Tryz.func42, Tryz.ntmps42
  go_wp2
  go_ret
  exact ⟨Tc_, Tb_⟩
 rw [if_neg c4] at H
 have c4b0 := decide_eq_false c4
 clear c4
 obtain rfl := Option.some.inj H
 go_enter Tryz.func42, Tryz.ntmps42
 go_wp2
 go_ret
 exact ⟨Tc_, Tb_⟩
noncomputable def blob_id.l0 : Nat → ByteArray → Int → Option (Bool)
 | 0, _, _ => none
 | k + 1, x0, x3 => if x3 < (x0.size : Int) then (if 0 ≤ x3 then (if (bt x0 x3) < 97 then (if (bt x0 x3) < 48 then (if (bt x0 x3) = 45 then (blob_id.l0 k x0 (wrap64 (x3 + 1))) else (some false)) else (if (bt x0 x3) > 57 then (if (bt x0 x3) = 45 then (blob_id.l0 k x0 (wrap64 (x3 + 1))) else (some false)) else (blob_id.l0 k x0 (wrap64 (x3 + 1))))) else (if (bt x0 x3) > 122 then (if (bt x0 x3) < 48 then (if (bt x0 x3) = 45 then (blob_id.l0 k x0 (wrap64 (x3 + 1))) else (some false)) else (if (bt x0 x3) > 57 then (if (bt x0 x3) = 45 then (blob_id.l0 k x0 (wrap64 (x3 + 1))) else (some false)) else (blob_id.l0 k x0 (wrap64 (x3 + 1))))) else (blob_id.l0 k x0 (wrap64 (x3 + 1))))) else (none)) else ((blob_within.f (x0.size : Int) 1 12).bind fun t101 => (some t101))
noncomputable def blob_id.f (k : Nat) (a0 : BA) : Option (Bool) := blob_id.l0 k a0 0
theorem blob_id.calls (k : Nat) (a0 : BA) (r : Bool) (w : World) (h : blob_id.f k a0 = some r) :
  Calls Tryz.prog 41 #[.string a0] w fun e w' => e = .returned (.bool r) ∧ Drawn0 w w' := by
 have H : (blob_id.l0 k a0 0) = some r := h
 clear h
 have H' := aM_ H
 clear H
 go_enter Tryz.func41, Tryz.ntmps41
 go_wp2
 go_loopg [3] k (fun kq v3 w' => ∃ (x3_1 : Int), v3 = .int .i64 x3_1 ∧ Az (blob_id.l0 kq a0 x3_1 = some r) ∧ Az (kq ≤ k) ∧ Drawn0 w w')
 case atStart => exact ⟨(0), Tc_, H', ⟨Nat.le_refl _⟩, Tb_⟩
 clear H'
 obtain ⟨x3_1, rfl, HA, HK1, ⟨m1, rfl⟩⟩ := hrel
 cases gk with
 | zero => exact absurd HA.out (by simp [blob_id.l0])
 | succ k1 =>
  have H := HA.out; clear HA; simp only [blob_id.l0] at H
  by_cases c2 : x3_1 < (a0.size : Int)
  ·rw [if_pos c2] at H
   have c2b0 := decide_eq_true c2; clear c2
   by_cases c3 : 0 ≤ x3_1
   ·rw [if_pos c3] at H
    have c3b0 := decide_eq_true c3; clear c3
    by_cases c5 : (bt a0 x3_1) < 97
    ·rw [if_pos c5] at H
     have c5b0 := decide_eq_true c5; clear c5
     by_cases c6 : (bt a0 x3_1) < 48
     ·rw [if_pos c6] at H
      have c6b0 := decide_eq_true c6; clear c6
      by_cases c7 : (bt a0 x3_1) = 45
      ·rw [if_pos c7] at H
       have c7b0 : ((bt a0 x3_1) == 45) = true := beq_iff_eq.mpr c7; have c7b1 : ((bt a0 x3_1) != 45) = false := bne_eq_false_iff_eq.mpr c7; clear c7; have H' := aM_ H; clear H; have p4 : 0 ≤ (x3_1 : Int) := of_decide_eq_true Te_; have q4 : x3_1 < (a0.size : Int) := of_decide_eq_true Te_; have hx4 := oe_ a0 x3_1; replace p4 := eq_true p4; replace q4 := eq_true q4
       go_wp2
       go_roundg k1
       case measure => have := HK1.out; omega
       case rel => exact ⟨(wrap64 (x3_1 + 1)), Tc_, H', ⟨Vs_⟩, Tb_⟩
      rw [if_neg c7] at H; have c7b0 : ((bt a0 x3_1) == 45) = false := beq_eq_false_iff_ne.mpr c7; have c7b1 : ((bt a0 x3_1) != 45) = true := bne_iff_ne.mpr c7; obtain rfl := Option.some.inj H; have p4 : 0 ≤ (x3_1 : Int) := of_decide_eq_true Te_; have q4 : x3_1 < (a0.size : Int) := of_decide_eq_true Te_; have hx4 := oe_ a0 x3_1; replace p4 := eq_true p4; replace q4 := eq_true q4
      go_wp2
      go_ret
      exact ⟨Tc_, Tb_⟩
     rw [if_neg c6] at H; have c6b0 := decide_eq_false c6; clear c6
     by_cases c8 : (bt a0 x3_1) > 57
     ·rw [if_pos c8] at H
      have c8b0 := decide_eq_true c8; clear c8
      by_cases c9 : (bt a0 x3_1) = 45
      ·rw [if_pos c9] at H
       have c9b0 : ((bt a0 x3_1) == 45) = true := beq_iff_eq.mpr c9; have c9b1 : ((bt a0 x3_1) != 45) = false := bne_eq_false_iff_eq.mpr c9; clear c9; have H' := aM_ H; clear H; have p4 : 0 ≤ (x3_1 : Int) := of_decide_eq_true Te_; have q4 : x3_1 < (a0.size : Int) := of_decide_eq_true Te_; have hx4 := oe_ a0 x3_1; replace p4 := eq_true p4; replace q4 := eq_true q4
       go_wp2
       go_roundg k1
       case measure => have := HK1.out; omega
       case rel => exact ⟨(wrap64 (x3_1 + 1)), Tc_, H', ⟨Vs_⟩, Tb_⟩
      rw [if_neg c9] at H; have c9b0 : ((bt a0 x3_1) == 45) = false := beq_eq_false_iff_ne.mpr c9; have c9b1 : ((bt a0 x3_1) != 45) = true := bne_iff_ne.mpr c9; obtain rfl := Option.some.inj H; have p4 : 0 ≤ (x3_1 : Int) := of_decide_eq_true Te_; have q4 : x3_1 < (a0.size : Int) := of_decide_eq_true Te_; have hx4 := oe_ a0 x3_1; replace p4 := eq_true p4; replace q4 := eq_true q4
      go_wp2
      go_ret
      exact ⟨Tc_, Tb_⟩
     rw [if_neg c8] at H; have c8b0 := decide_eq_false c8; clear c8; have H' := aM_ H; clear H; have p4 : 0 ≤ (x3_1 : Int) := of_decide_eq_true Te_; have q4 : x3_1 < (a0.size : Int) := of_decide_eq_true Te_; have hx4 := oe_ a0 x3_1; replace p4 := eq_true p4; replace q4 := eq_true q4
     go_wp2
     go_roundg k1
     case measure => have := HK1.out; omega
     case rel => exact ⟨(wrap64 (x3_1 + 1)), Tc_, H', ⟨Vs_⟩, Tb_⟩
    rw [if_neg c5] at H; have c5b0 := decide_eq_false c5; clear c5
    by_cases c10 : (bt a0 x3_1) > 122
    ·rw [if_pos c10] at H
     have c10b0 := decide_eq_true c10; clear c10
     by_cases c11 : (bt a0 x3_1) < 48
     ·rw [if_pos c11] at H
      have c11b0 := decide_eq_true c11; clear c11
      by_cases c12 : (bt a0 x3_1) = 45
      ·rw [if_pos c12] at H
       have c12b0 : ((bt a0 x3_1) == 45) = true := beq_iff_eq.mpr c12; have c12b1 : ((bt a0 x3_1) != 45) = false := bne_eq_false_iff_eq.mpr c12; clear c12; have H' := aM_ H; clear H; have p4 : 0 ≤ (x3_1 : Int) := of_decide_eq_true Te_; have q4 : x3_1 < (a0.size : Int) := of_decide_eq_true Te_; have hx4 := oe_ a0 x3_1; replace p4 := eq_true p4; replace q4 := eq_true q4
       go_wp2
       go_roundg k1
       case measure => have := HK1.out; omega
       case rel => exact ⟨(wrap64 (x3_1 + 1)), Tc_, H', ⟨Vs_⟩, Tb_⟩
      rw [if_neg c12] at H; have c12b0 : ((bt a0 x3_1) == 45) = false := beq_eq_false_iff_ne.mpr c12; have c12b1 : ((bt a0 x3_1) != 45) = true := bne_iff_ne.mpr c12; obtain rfl := Option.some.inj H; have p4 : 0 ≤ (x3_1 : Int) := of_decide_eq_true Te_; have q4 : x3_1 < (a0.size : Int) := of_decide_eq_true Te_; have hx4 := oe_ a0 x3_1; replace p4 := eq_true p4; replace q4 := eq_true q4
      go_wp2
      go_ret
      exact ⟨Tc_, Tb_⟩
     rw [if_neg c11] at H; have c11b0 := decide_eq_false c11; clear c11
     by_cases c13 : (bt a0 x3_1) > 57
     ·rw [if_pos c13] at H
      have c13b0 := decide_eq_true c13; clear c13
      by_cases c14 : (bt a0 x3_1) = 45
      ·rw [if_pos c14] at H
       have c14b0 : ((bt a0 x3_1) == 45) = true := beq_iff_eq.mpr c14; have c14b1 : ((bt a0 x3_1) != 45) = false := bne_eq_false_iff_eq.mpr c14; clear c14; have H' := aM_ H; clear H; have p4 : 0 ≤ (x3_1 : Int) := of_decide_eq_true Te_; have q4 : x3_1 < (a0.size : Int) := of_decide_eq_true Te_; have hx4 := oe_ a0 x3_1; replace p4 := eq_true p4; replace q4 := eq_true q4
       go_wp2
       go_roundg k1
       case measure => have := HK1.out; omega
       case rel => exact ⟨(wrap64 (x3_1 + 1)), Tc_, H', ⟨Vs_⟩, Tb_⟩
      rw [if_neg c14] at H; have c14b0 : ((bt a0 x3_1) == 45) = false := beq_eq_false_iff_ne.mpr c14; have c14b1 : ((bt a0 x3_1) != 45) = true := bne_iff_ne.mpr c14; obtain rfl := Option.some.inj H; have p4 : 0 ≤ (x3_1 : Int) := of_decide_eq_true Te_; have q4 : x3_1 < (a0.size : Int) := of_decide_eq_true Te_; have hx4 := oe_ a0 x3_1; replace p4 := eq_true p4; replace q4 := eq_true q4
      go_wp2
      go_ret
      exact ⟨Tc_, Tb_⟩
     rw [if_neg c13] at H; have c13b0 := decide_eq_false c13; clear c13; have H' := aM_ H; clear H; have p4 : 0 ≤ (x3_1 : Int) := of_decide_eq_true Te_; have q4 : x3_1 < (a0.size : Int) := of_decide_eq_true Te_; have hx4 := oe_ a0 x3_1; replace p4 := eq_true p4; replace q4 := eq_true q4
     go_wp2
     go_roundg k1
     case measure => have := HK1.out; omega
     case rel => exact ⟨(wrap64 (x3_1 + 1)), Tc_, H', ⟨Vs_⟩, Tb_⟩
    rw [if_neg c10] at H; have c10b0 := decide_eq_false c10; clear c10; have H' := aM_ H; clear H; have p4 : 0 ≤ (x3_1 : Int) := of_decide_eq_true Te_; have q4 : x3_1 < (a0.size : Int) := of_decide_eq_true Te_; have hx4 := oe_ a0 x3_1; replace p4 := eq_true p4; replace q4 := eq_true q4
    go_wp2
    go_roundg k1
    case measure => have := HK1.out; omega
    case rel => exact ⟨(wrap64 (x3_1 + 1)), Tc_, H', ⟨Vs_⟩, Tb_⟩
   rw [if_neg c3] at H; exact absurd H Tt_
  rw [if_neg c2] at H; have c2b0 := decide_eq_false c2; clear c2; replace H := bd_ H; obtain ⟨t101, A15, H⟩ := H; obtain rfl := Option.some.inj H
  go_wp2_with (first | ((with_reducible refine gd_ 34 ?_); refine gQ_ Tryz.func42 (blob_within.calls _ _ _ _ _ A15.out) fun nd => ?_))
  go_ret
  exact ⟨Tc_, Tb_⟩
noncomputable def blob_parent.f (l0 : List (S44)) (a1 : Int) : Option (Int) := if 0 ≤ a1 then (if a1 < (l0.length : Int) then (if ((pa_ l0 a1).f1) < a1 then (some ((pa_ l0 a1).f1)) else (some (-1))) else (none)) else (none)
theorem blob_parent.calls (A0 : Option Addr) (c0 : Nat) (l0 : List (S44)) (a1 : Int) (r : Int) (w : World) (hr0 : Kd.C k44 w A0 l0.length l0) (hc0 : l0.length ≤ c0) (h : blob_parent.f l0 a1 = some r) :
  Calls Tryz.prog 60 #[.slice A0 l0.length c0, .int .i64 a1] w fun e w' => e = .returned (.int .i64 r) ∧ Drawn0 w w' := by
 have HR0 := aM_ hr0
 have HC0 := aM_ hc0
 clear hr0 hc0
 have H : (if 0 ≤ a1 then (if a1 < (l0.length : Int) then (if ((pa_ l0 a1).f1) < a1 then (some ((pa_ l0 a1).f1)) else (some (-1))) else (none)) else (none)) = some r := h
 clear h
 by_cases c3 : 0 ≤ a1
 ·rw [if_pos c3] at H
  have c3b0 := decide_eq_true c3; clear c3
  by_cases c4 : a1 < (l0.length : Int)
  ·rw [if_pos c4] at H
   have c4b0 := decide_eq_true c4; clear c4
   by_cases c5 : ((pa_ l0 a1).f1) < a1
   ·rw [if_pos c5] at H
    have c5b0 := decide_eq_true c5; clear c5; obtain rfl := Option.some.inj H; have p102 : 0 ≤ (a1 : Int) := of_decide_eq_true Te_; have q102 : a1 < (l0.length : Int) := of_decide_eq_true Te_; obtain ⟨ad102, A102_3, c102_3, A102_4, c102_4, A102_5, c102_5, e102, hx102_0, hx102_1, hx102_2, hx102_3, hx102_4, hx102_5, hl102_3, hi102_3, hl102_4, hi102_4, hl102_5, hi102_5⟩ := tf_ HR0.out a1 p102 q102
    cases e102
    have HR102_3 := aM_ hi102_3; have HC102_3 := aM_ hl102_3; clear hi102_3 hl102_3; have HR102_4 := aM_ hi102_4; have HC102_4 := aM_ hl102_4; clear hi102_4 hl102_4; have HR102_5 := aM_ hi102_5; have HC102_5 := aM_ hl102_5; clear hi102_5 hl102_5; replace p102 := eq_true p102; replace q102 := eq_true q102; have p103 : 0 ≤ (a1 : Int) := of_decide_eq_true Te_; have q103 : a1 < (l0.length : Int) := of_decide_eq_true Te_; obtain ⟨ad103, A103_3, c103_3, A103_4, c103_4, A103_5, c103_5, e103, hx103_0, hx103_1, hx103_2, hx103_3, hx103_4, hx103_5, hl103_3, hi103_3, hl103_4, hi103_4, hl103_5, hi103_5⟩ := tf_ HR0.out a1 p103 q103; obtain rfl : ad102 = ad103 := (by injection e103); have HR103_3 := aM_ hi103_3; have HC103_3 := aM_ hl103_3; clear hi103_3 hl103_3; have HR103_4 := aM_ hi103_4; have HC103_4 := aM_ hl103_4; clear hi103_4 hl103_4; have HR103_5 := aM_ hi103_5; have HC103_5 := aM_ hl103_5; clear hi103_5 hl103_5; replace p103 := eq_true p103; replace q103 := eq_true q103; have ea_ := Option.some.inj (hx102_3.symm.trans hx103_3); injection ea_ with ea_ en_ ec_; subst ea_; subst ec_; clear en_; have ea_ := Option.some.inj (hx102_4.symm.trans hx103_4); injection ea_ with ea_ en_ ec_; subst ea_; subst ec_; clear en_; have ea_ := Option.some.inj (hx102_5.symm.trans hx103_5); injection ea_ with ea_ en_ ec_; subst ea_; subst ec_; clear en_
    go_enter Tryz.func60, Tryz.ntmps60
    go_wp2
    go_ret
    exact ⟨Tc_, Tb_⟩
   rw [if_neg c5] at H; have c5b0 := decide_eq_false c5; clear c5; obtain rfl := Option.some.inj H; have p102 : 0 ≤ (a1 : Int) := of_decide_eq_true Te_; have q102 : a1 < (l0.length : Int) := of_decide_eq_true Te_; obtain ⟨ad102, A102_3, c102_3, A102_4, c102_4, A102_5, c102_5, e102, hx102_0, hx102_1, hx102_2, hx102_3, hx102_4, hx102_5, hl102_3, hi102_3, hl102_4, hi102_4, hl102_5, hi102_5⟩ := tf_ HR0.out a1 p102 q102
   cases e102
   have HR102_3 := aM_ hi102_3; have HC102_3 := aM_ hl102_3; clear hi102_3 hl102_3; have HR102_4 := aM_ hi102_4; have HC102_4 := aM_ hl102_4; clear hi102_4 hl102_4; have HR102_5 := aM_ hi102_5; have HC102_5 := aM_ hl102_5; clear hi102_5 hl102_5; replace p102 := eq_true p102; replace q102 := eq_true q102
   go_enter Tryz.func60, Tryz.ntmps60
   go_wp2
   go_ret
   exact ⟨Tc_, Tb_⟩
  rw [if_neg c4] at H; exact absurd H Tt_
 rw [if_neg c3] at H
 exact absurd H Tt_
noncomputable def blob_word.f (a0 : Int) : Option (Bool) := (blob_within.f a0 1 49).bind fun t104 => (some t104)
theorem blob_word.calls (a0 : Int) (r : Bool) (w : World) (h : blob_word.f a0 = some r) :
  Calls Tryz.prog 92 #[.int .i64 a0] w fun e w' => e = .returned (.bool r) ∧ Drawn0 w w' := by
 have H : ((blob_within.f a0 1 49).bind fun t104 => (some t104)) = some r := h
 clear h
 replace H := bd_ H
 obtain ⟨t104, A2, H⟩ := H
 obtain rfl := Option.some.inj H
 go_enter Tryz.func92, Tryz.ntmps92
 go_wp2_with (first | ((with_reducible refine gd_ 4 ?_); refine gQ_ Tryz.func42 (blob_within.calls _ _ _ _ _ A2.out) fun nd => ?_))
 go_ret
 exact ⟨Tc_, Tb_⟩
noncomputable def slices_Index_int_int.l0 : Nat → List Int → Int → Int → Int → Option (Int)
 | 0, _, _, _, _ => none
 | k + 1, x0, x1, x7, x8 => if x8 < x7 then (if 0 ≤ x8 then (if x8 < (x0.length : Int) then (if x1 = (rd x0 x8) then (some x8) else (slices_Index_int_int.l0 k x0 x1 x7 (wrap64 (x8 + 1)))) else (none)) else (none)) else (some (-1))
noncomputable def slices_Index_int_int.f (k : Nat) (l0 : List Int) (a1 : Int) : Option (Int) := slices_Index_int_int.l0 k l0 a1 (l0.length : Int) 0
theorem slices_Index_int_int.calls (k : Nat) (A0 : Option Addr) (c0 : Nat) (l0 : List Int) (a1 : Int) (r : Int) (w : World) (hr0 : Kd.C (Kd.int .i64) w A0 l0.length l0) (hc0 : l0.length ≤ c0) (h : slices_Index_int_int.f k l0 a1 = some r) :
  Calls Tryz.prog 139 #[.slice A0 l0.length c0, .int .i64 a1] w fun e w' => e = .returned (.int .i64 r) ∧ Drawn0 w w' := by
 have HR0 := aM_ hr0
 have HC0 := aM_ hc0
 clear hr0 hc0
 have H : (slices_Index_int_int.l0 k l0 a1 (l0.length : Int) 0) = some r := h
 clear h
 have H' := aM_ H
 clear H
 go_enter Tryz.func139, Tryz.ntmps139
 go_wp2
 go_loopg [8] k (fun kq v8 w' => ∃ (x8_1 : Int), v8 = .int .i64 x8_1 ∧ Az (slices_Index_int_int.l0 kq l0 a1 (l0.length : Int) x8_1 = some r) ∧ Az (kq ≤ k) ∧ Drawn0 w w')
 case atStart => exact ⟨(0), Tc_, H', ⟨Nat.le_refl _⟩, Tb_⟩
 clear H'
 obtain ⟨x8_1, rfl, HA, HK1, ⟨m1, rfl⟩⟩ := hrel
 cases gk with
 | zero => exact absurd HA.out (by simp [slices_Index_int_int.l0])
 | succ k1 =>
  have H := HA.out; clear HA; simp only [slices_Index_int_int.l0] at H
  by_cases c3 : x8_1 < (l0.length : Int)
  ·rw [if_pos c3] at H
   have c3b0 := decide_eq_true c3; clear c3
   by_cases c4 : 0 ≤ x8_1
   ·rw [if_pos c4] at H
    have c4b0 := decide_eq_true c4; clear c4
    by_cases c5 : x8_1 < (l0.length : Int)
    ·rw [if_pos c5] at H
     have c5b0 := decide_eq_true c5; clear c5
     by_cases c6 : a1 = (rd l0 x8_1)
     ·rw [if_pos c6] at H
      have c6b0 : (a1 == (rd l0 x8_1)) = true := beq_iff_eq.mpr c6; have c6b1 : (a1 != (rd l0 x8_1)) = false := bne_eq_false_iff_eq.mpr c6; clear c6; obtain rfl := Option.some.inj H; have p105 : 0 ≤ (x8_1 : Int) := of_decide_eq_true Te_; have q105 : x8_1 < (l0.length : Int) := of_decide_eq_true Te_; obtain ⟨ad105, e105, hx105_0⟩ := Kd.at_int HR0.out x8_1 p105 q105
      cases e105
      replace p105 := eq_true p105; replace q105 := eq_true q105
      go_wp2
      go_ret
      exact ⟨Tc_, Tb_⟩
     rw [if_neg c6] at H; have c6b0 : (a1 == (rd l0 x8_1)) = false := beq_eq_false_iff_ne.mpr c6; have c6b1 : (a1 != (rd l0 x8_1)) = true := bne_iff_ne.mpr c6; have H' := aM_ H; clear H; have p105 : 0 ≤ (x8_1 : Int) := of_decide_eq_true Te_; have q105 : x8_1 < (l0.length : Int) := of_decide_eq_true Te_; obtain ⟨ad105, e105, hx105_0⟩ := Kd.at_int HR0.out x8_1 p105 q105
     cases e105
     replace p105 := eq_true p105; replace q105 := eq_true q105
     go_wp2
     go_roundg k1
     case measure => have := HK1.out; omega
     case rel => exact ⟨(wrap64 (x8_1 + 1)), Tc_, H', ⟨Vs_⟩, Tb_⟩
    rw [if_neg c5] at H; exact absurd H Tt_
   rw [if_neg c4] at H; exact absurd H Tt_
  rw [if_neg c3] at H; have c3b0 := decide_eq_false c3; clear c3; obtain rfl := Option.some.inj H
  go_wp2
  go_ret
  exact ⟨Tc_, Tb_⟩
noncomputable def slices_Contains_int_int.f (k : Nat) (l0 : List Int) (a1 : Int) : Option (Bool) := (slices_Index_int_int.f k l0 a1).bind fun t106 => (some (decide (t106 ≥ 0)))
theorem slices_Contains_int_int.calls (k : Nat) (A0 : Option Addr) (c0 : Nat) (l0 : List Int) (a1 : Int) (r : Bool) (w : World) (hr0 : Kd.C (Kd.int .i64) w A0 l0.length l0) (hc0 : l0.length ≤ c0) (h : slices_Contains_int_int.f k l0 a1 = some r) :
  Calls Tryz.prog 99 #[.slice A0 l0.length c0, .int .i64 a1] w fun e w' => e = .returned (.bool r) ∧ Drawn0 w w' := by
 have HR0 := aM_ hr0
 have HC0 := aM_ hc0
 clear hr0 hc0
 have H : ((slices_Index_int_int.f k l0 a1).bind fun t106 => (some (decide (t106 ≥ 0)))) = some r := h
 clear h
 replace H := bd_ H
 obtain ⟨t106, A3, H⟩ := H
 obtain rfl := Option.some.inj H
 go_enter Tryz.func99, Tryz.ntmps99
 go_wp2_with (first | ((with_reducible refine gd_ 7 ?_); refine gL_ Tryz.func139 #[.slice A0 l0.length c0, .int .i64 a1] ?_; (with_reducible refine (slices_Index_int_int.calls _ _ _ _ _ _ _ (by repeat (first | exact HR0.out | (with_reducible refine Kd.C_alloc ?_ _) | (with_reducible refine Kd.C_drewN ?_ _) | (with_reducible refine Kd.C_drew ?_))) HC0.out A3.out).mono ?_); rintro e w' ⟨rfl, ⟨nd, rfl⟩⟩; refine ⟨_, rfl, ?_⟩))
 go_ret
 exact ⟨Tc_, Tb_⟩
mutual
noncomputable def gram_asked.j0 : Nat → Int → Bool → Option (Int × Int)
 | 0, _, _ => none
 | k + 1, x4, x5 => if x5 = true then (some (1, 1)) else (if x4 = 2 then (gram_asked.j1 k x4 (x4 == 2)) else (if x4 = 5 then (gram_asked.j1 k x4 (x4 == 5)) else (if x4 = 9 then (gram_asked.j1 k x4 (x4 == 9)) else (if x4 = 12 then (gram_asked.j1 k x4 (x4 == 12)) else (if x4 = 13 then (gram_asked.j1 k x4 (x4 == 13)) else (if x4 = 14 then (gram_asked.j1 k x4 (x4 == 14)) else (gram_asked.j1 k x4 (x4 == 15))))))))
noncomputable def gram_asked.j1 : Nat → Int → Bool → Option (Int × Int)
 | 0, _, _ => none
 | k + 1, x4, x10 => if x10 = true then (some (2, 2)) else (if x4 = 1 then (gram_asked.j2 k x4 (x4 == 1)) else (gram_asked.j2 k x4 (x4 == 6)))
noncomputable def gram_asked.j2 : Nat → Int → Bool → Option (Int × Int)
 | 0, _, _ => none
 | k + 1, x4, x18 => if x18 = true then (some (3, 3)) else (if x4 = 3 then (gram_asked.j3 k x4 (x4 == 3)) else (gram_asked.j3 k x4 (x4 == 4)))
noncomputable def gram_asked.j3 : Nat → Int → Bool → Option (Int × Int)
 | 0, _, _ => none
 | k + 1, x4, x21 => if x21 = true then (some (2, 3)) else (if x4 = 10 then (some (1, 6)) else (some (1, 0)))
end
noncomputable def gram_asked.f (k : Nat) (a0 : Int) : Option (Int × Int) := if a0 = 0 then (gram_asked.j0 k a0 (a0 == 0)) else (if a0 = 7 then (gram_asked.j0 k a0 (a0 == 7)) else (if a0 = 8 then (gram_asked.j0 k a0 (a0 == 8)) else (gram_asked.j0 k a0 (a0 == 11))))
theorem gram_asked.calls (k : Nat) (a0 : Int) (r1 : Int) (r2 : Int) (w : World) (h : gram_asked.f k a0 = some (r1, r2)) :
  Calls Tryz.prog 133 #[.int .i64 a0] w fun e w' => e = .returned (.tuple #[.int .i64 r1, .int .i64 r2]) ∧ Drawn0 w w' := by
 have H : (if a0 = 0 then (gram_asked.j0 k a0 (a0 == 0)) else (if a0 = 7 then (gram_asked.j0 k a0 (a0 == 7)) else (if a0 = 8 then (gram_asked.j0 k a0 (a0 == 8)) else (gram_asked.j0 k a0 (a0 == 11))))) = some (r1, r2) := h
 clear h
 have HC2 := aM_ H
 clear H
 go_enter Tryz.func133, Tryz.ntmps133
 go_upto_if 5 with (fail)
 go_cut [5] (fun v5 wc => ∃ (kq : Nat) (x5_1 : Bool), v5 = .bool x5_1 ∧ Az (gram_asked.j0 kq a0 x5_1 = some (r1, r2)) ∧ Az (kq ≤ k) ∧ Drawn0 w wc)
 case first =>
  have H := HC2.out; clear HC2
  by_cases c3 : a0 = 0
  ·rw [if_pos c3] at H
   have c3b0 : (a0 == 0) = true := beq_iff_eq.mpr c3; have c3b1 : (a0 != 0) = false := bne_eq_false_iff_eq.mpr c3; clear c3
   (first | rw [c3b0] | (simp only [ya_, za_]; rw [c3b0]) | skip)
   have H' := aM_ H; clear H
   go_wp2
   go_meet
   case rel => exact ⟨_, ((a0 == 0)), Tc_, H', ⟨Uh_⟩, Tb_⟩
  rw [if_neg c3] at H; have c3b0 : (a0 == 0) = false := beq_eq_false_iff_ne.mpr c3; have c3b1 : (a0 != 0) = true := bne_iff_ne.mpr c3
  (first | rw [c3b0] | (simp only [ya_, za_]; rw [c3b0]) | skip)
  by_cases c4 : a0 = 7
  ·rw [if_pos c4] at H
   have c4b0 : (a0 == 7) = true := beq_iff_eq.mpr c4; have c4b1 : (a0 != 7) = false := bne_eq_false_iff_eq.mpr c4; clear c4; have H' := aM_ H; clear H
   go_wp2
   go_meet
   case rel => exact ⟨_, ((a0 == 7)), Tc_, H', ⟨Uh_⟩, Tb_⟩
  rw [if_neg c4] at H; have c4b0 : (a0 == 7) = false := beq_eq_false_iff_ne.mpr c4; have c4b1 : (a0 != 7) = true := bne_iff_ne.mpr c4
  by_cases c5 : a0 = 8
  ·rw [if_pos c5] at H
   have c5b0 : (a0 == 8) = true := beq_iff_eq.mpr c5; have c5b1 : (a0 != 8) = false := bne_eq_false_iff_eq.mpr c5; clear c5; have H' := aM_ H; clear H
   go_wp2
   go_meet
   case rel => exact ⟨_, ((a0 == 8)), Tc_, H', ⟨Uh_⟩, Tb_⟩
  rw [if_neg c5] at H; have c5b0 : (a0 == 8) = false := beq_eq_false_iff_ne.mpr c5; have c5b1 : (a0 != 8) = true := bne_iff_ne.mpr c5; have H' := aM_ H; clear H
  go_wp2
  go_meet
  case rel => exact ⟨_, ((a0 == 11)), Tc_, H', ⟨Uh_⟩, Tb_⟩
 clear HC2
 obtain ⟨kq, x5_1, rfl, HA, HJ1, ⟨mc1, rfl⟩⟩ := hcut
 cases kq with
 | zero => exact absurd HA.out (by simp [gram_asked.j0])
 | succ kj1 =>
  have H := HA.out; clear HA; simp only [gram_asked.j0] at H
  by_cases c6 : x5_1 = true
  ·subst c6
   have H1 : (some (1, 1)) = some (r1, r2) := by rw [if_pos rfl] at H; exact H
   clear H; have H := H1; clear H1; simp only [Option.some.injEq, Prod.mk.injEq] at H; obtain ⟨rfl, rfl⟩ := H
   go_wp2
   go_ret2
   exact ⟨Tc_, Tb_⟩
  replace c6 := Bool.eq_false_iff.mpr c6; subst c6; have H1 : (if a0 = 2 then (gram_asked.j1 kj1 a0 (a0 == 2)) else (if a0 = 5 then (gram_asked.j1 kj1 a0 (a0 == 5)) else (if a0 = 9 then (gram_asked.j1 kj1 a0 (a0 == 9)) else (if a0 = 12 then (gram_asked.j1 kj1 a0 (a0 == 12)) else (if a0 = 13 then (gram_asked.j1 kj1 a0 (a0 == 13)) else (if a0 = 14 then (gram_asked.j1 kj1 a0 (a0 == 14)) else (gram_asked.j1 kj1 a0 (a0 == 15)))))))) = some (r1, r2) := by rw [if_neg (show ¬ (false = true) by decide)] at H; exact H
  clear H; have H := H1; clear H1; have HC7 := aM_ H; clear H
  go_upto_if 10 with (fail)
  go_cut [10] (fun v10 wc => ∃ (kq : Nat) (x10_6 : Bool), v10 = .bool x10_6 ∧ Az (gram_asked.j1 kq a0 x10_6 = some (r1, r2)) ∧ Az (kq ≤ kj1) ∧ Drawn0 w wc)
  case first =>
   have H := HC7.out; clear HC7
   by_cases c8 : a0 = 2
   ·rw [if_pos c8] at H
    have c8b0 : (a0 == 2) = true := beq_iff_eq.mpr c8; have c8b1 : (a0 != 2) = false := bne_eq_false_iff_eq.mpr c8; clear c8
    (first | rw [c8b0] | (simp only [ya_, za_]; rw [c8b0]) | skip)
    have H' := aM_ H; clear H
    go_wp2
    go_meet
    case rel => exact ⟨_, ((a0 == 2)), Tc_, H', ⟨Uf_⟩, Tb_⟩
   rw [if_neg c8] at H; have c8b0 : (a0 == 2) = false := beq_eq_false_iff_ne.mpr c8; have c8b1 : (a0 != 2) = true := bne_iff_ne.mpr c8
   (first | rw [c8b0] | (simp only [ya_, za_]; rw [c8b0]) | skip)
   by_cases c9 : a0 = 5
   ·rw [if_pos c9] at H
    have c9b0 : (a0 == 5) = true := beq_iff_eq.mpr c9; have c9b1 : (a0 != 5) = false := bne_eq_false_iff_eq.mpr c9; clear c9; have H' := aM_ H; clear H
    go_wp2
    go_meet
    case rel => exact ⟨_, ((a0 == 5)), Tc_, H', ⟨Uf_⟩, Tb_⟩
   rw [if_neg c9] at H; have c9b0 : (a0 == 5) = false := beq_eq_false_iff_ne.mpr c9; have c9b1 : (a0 != 5) = true := bne_iff_ne.mpr c9
   by_cases c10 : a0 = 9
   ·rw [if_pos c10] at H
    have c10b0 : (a0 == 9) = true := beq_iff_eq.mpr c10; have c10b1 : (a0 != 9) = false := bne_eq_false_iff_eq.mpr c10; clear c10; have H' := aM_ H; clear H
    go_wp2
    go_meet
    case rel => exact ⟨_, ((a0 == 9)), Tc_, H', ⟨Uf_⟩, Tb_⟩
   rw [if_neg c10] at H; have c10b0 : (a0 == 9) = false := beq_eq_false_iff_ne.mpr c10; have c10b1 : (a0 != 9) = true := bne_iff_ne.mpr c10
   by_cases c11 : a0 = 12
   ·rw [if_pos c11] at H
    have c11b0 : (a0 == 12) = true := beq_iff_eq.mpr c11; have c11b1 : (a0 != 12) = false := bne_eq_false_iff_eq.mpr c11; clear c11; have H' := aM_ H; clear H
    go_wp2
    go_meet
    case rel => exact ⟨_, ((a0 == 12)), Tc_, H', ⟨Uf_⟩, Tb_⟩
   rw [if_neg c11] at H; have c11b0 : (a0 == 12) = false := beq_eq_false_iff_ne.mpr c11; have c11b1 : (a0 != 12) = true := bne_iff_ne.mpr c11
   by_cases c12 : a0 = 13
   ·rw [if_pos c12] at H
    have c12b0 : (a0 == 13) = true := beq_iff_eq.mpr c12; have c12b1 : (a0 != 13) = false := bne_eq_false_iff_eq.mpr c12; clear c12; have H' := aM_ H; clear H
    go_wp2
    go_meet
    case rel => exact ⟨_, ((a0 == 13)), Tc_, H', ⟨Uf_⟩, Tb_⟩
   rw [if_neg c12] at H; have c12b0 : (a0 == 13) = false := beq_eq_false_iff_ne.mpr c12; have c12b1 : (a0 != 13) = true := bne_iff_ne.mpr c12
   by_cases c13 : a0 = 14
   ·rw [if_pos c13] at H
    have c13b0 : (a0 == 14) = true := beq_iff_eq.mpr c13; have c13b1 : (a0 != 14) = false := bne_eq_false_iff_eq.mpr c13; clear c13; have H' := aM_ H; clear H
    go_wp2
    go_meet
    case rel => exact ⟨_, ((a0 == 14)), Tc_, H', ⟨Uf_⟩, Tb_⟩
   rw [if_neg c13] at H; have c13b0 : (a0 == 14) = false := beq_eq_false_iff_ne.mpr c13; have c13b1 : (a0 != 14) = true := bne_iff_ne.mpr c13; have H' := aM_ H; clear H
   go_wp2
   go_meet
   case rel => exact ⟨_, ((a0 == 15)), Tc_, H', ⟨Uf_⟩, Tb_⟩
  clear HC7; obtain ⟨kq, x10_6, rfl, HA, HJ6, ⟨mc6, rfl⟩⟩ := hcut
  cases kq with
  | zero => exact absurd HA.out (by simp [gram_asked.j1])
  | succ kj6 =>
   have H := HA.out; clear HA; simp only [gram_asked.j1] at H
   by_cases c14 : x10_6 = true
   ·subst c14
    have H1 : (some (2, 2)) = some (r1, r2) := by rw [if_pos rfl] at H; exact H
    clear H; have H := H1; clear H1; simp only [Option.some.injEq, Prod.mk.injEq] at H; obtain ⟨rfl, rfl⟩ := H
    go_wp2
    go_ret2
    exact ⟨Tc_, Tb_⟩
   replace c14 := Bool.eq_false_iff.mpr c14; subst c14; have H1 : (if a0 = 1 then (gram_asked.j2 kj6 a0 (a0 == 1)) else (gram_asked.j2 kj6 a0 (a0 == 6))) = some (r1, r2) := by rw [if_neg (show ¬ (false = true) by decide)] at H; exact H
   clear H; have H := H1; clear H1; have HC15 := aM_ H; clear H
   go_upto_if 18 with (fail)
   go_cut [18] (fun v18 wc => ∃ (kq : Nat) (x18_14 : Bool), v18 = .bool x18_14 ∧ Az (gram_asked.j2 kq a0 x18_14 = some (r1, r2)) ∧ Az (kq ≤ kj6) ∧ Drawn0 w wc)
   case first =>
    have H := HC15.out; clear HC15
    by_cases c16 : a0 = 1
    ·rw [if_pos c16] at H
     have c16b0 : (a0 == 1) = true := beq_iff_eq.mpr c16; have c16b1 : (a0 != 1) = false := bne_eq_false_iff_eq.mpr c16; clear c16
     (first | rw [c16b0] | (simp only [ya_, za_]; rw [c16b0]) | skip)
     have H' := aM_ H; clear H
     go_wp2
     go_meet
     case rel => exact ⟨_, ((a0 == 1)), Tc_, H', ⟨Vv_⟩, Tb_⟩
    rw [if_neg c16] at H; have c16b0 : (a0 == 1) = false := beq_eq_false_iff_ne.mpr c16; have c16b1 : (a0 != 1) = true := bne_iff_ne.mpr c16
    (first | rw [c16b0] | (simp only [ya_, za_]; rw [c16b0]) | skip)
    have H' := aM_ H; clear H
    go_wp2
    go_meet
    case rel => exact ⟨_, ((a0 == 6)), Tc_, H', ⟨Vv_⟩, Tb_⟩
   clear HC15; obtain ⟨kq, x18_14, rfl, HA, HJ14, ⟨mc14, rfl⟩⟩ := hcut
   cases kq with
   | zero => exact absurd HA.out (by simp [gram_asked.j2])
   | succ kj14 =>
    have H := HA.out; clear HA; simp only [gram_asked.j2] at H
    by_cases c17 : x18_14 = true
    ·subst c17
     have H1 : (some (3, 3)) = some (r1, r2) := by rw [if_pos rfl] at H; exact H
     clear H; have H := H1; clear H1; simp only [Option.some.injEq, Prod.mk.injEq] at H; obtain ⟨rfl, rfl⟩ := H
     go_wp2
     go_ret2
     exact ⟨Tc_, Tb_⟩
    replace c17 := Bool.eq_false_iff.mpr c17; subst c17; have H1 : (if a0 = 3 then (gram_asked.j3 kj14 a0 (a0 == 3)) else (gram_asked.j3 kj14 a0 (a0 == 4))) = some (r1, r2) := by rw [if_neg (show ¬ (false = true) by decide)] at H; exact H
    clear H; have H := H1; clear H1; have HC18 := aM_ H; clear H
    go_upto_if 21 with (fail)
    go_cut [21] (fun v21 wc => ∃ (kq : Nat) (x21_17 : Bool), v21 = .bool x21_17 ∧ Az (gram_asked.j3 kq a0 x21_17 = some (r1, r2)) ∧ Az (kq ≤ kj14) ∧ Drawn0 w wc)
    case first =>
     have H := HC18.out; clear HC18
     by_cases c19 : a0 = 3
     ·rw [if_pos c19] at H
      have c19b0 : (a0 == 3) = true := beq_iff_eq.mpr c19; have c19b1 : (a0 != 3) = false := bne_eq_false_iff_eq.mpr c19; clear c19
      (first | rw [c19b0] | (simp only [ya_, za_]; rw [c19b0]) | skip)
      have H' := aM_ H; clear H
      go_wp2
      go_meet
      case rel => exact ⟨_, ((a0 == 3)), Tc_, H', ⟨Vi_⟩, Tb_⟩
     rw [if_neg c19] at H; have c19b0 : (a0 == 3) = false := beq_eq_false_iff_ne.mpr c19; have c19b1 : (a0 != 3) = true := bne_iff_ne.mpr c19
     (first | rw [c19b0] | (simp only [ya_, za_]; rw [c19b0]) | skip)
     have H' := aM_ H; clear H
     go_wp2
     go_meet
     case rel => exact ⟨_, ((a0 == 4)), Tc_, H', ⟨Vi_⟩, Tb_⟩
    clear HC18; obtain ⟨kq, x21_17, rfl, HA, HJ17, ⟨mc17, rfl⟩⟩ := hcut
    cases kq with
    | zero => exact absurd HA.out (by simp [gram_asked.j3])
    | succ kj17 =>
     have H := HA.out; clear HA; simp only [gram_asked.j3] at H
     by_cases c20 : x21_17 = true
     ·subst c20
      have H1 : (some (2, 3)) = some (r1, r2) := by rw [if_pos rfl] at H; exact H
      clear H; have H := H1; clear H1; simp only [Option.some.injEq, Prod.mk.injEq] at H; obtain ⟨rfl, rfl⟩ := H
      go_wp2
      go_ret2
      exact ⟨Tc_, Tb_⟩
     replace c20 := Bool.eq_false_iff.mpr c20; subst c20; have H1 : (if a0 = 10 then (some (1, 6)) else (some (1, 0))) = some (r1, r2) := by rw [if_neg (show ¬ (false = true) by decide)] at H; exact H
     clear H; have H := H1; clear H1
     by_cases c21 : a0 = 10
     ·rw [if_pos c21] at H
      have c21b0 : (a0 == 10) = true := beq_iff_eq.mpr c21; have c21b1 : (a0 != 10) = false := bne_eq_false_iff_eq.mpr c21; clear c21; simp only [Option.some.injEq, Prod.mk.injEq] at H; obtain ⟨rfl, rfl⟩ := H
      go_wp2
      go_ret2
      exact ⟨Tc_, Tb_⟩
     rw [if_neg c21] at H; have c21b0 : (a0 == 10) = false := beq_eq_false_iff_ne.mpr c21; have c21b1 : (a0 != 10) = true := bne_iff_ne.mpr c21; simp only [Option.some.injEq, Prod.mk.injEq] at H; obtain ⟨rfl, rfl⟩ := H
     go_wp2
     go_ret2
     exact ⟨Tc_, Tb_⟩
noncomputable def gram_symbol.f (a0 : Int) : Option (Bool) := if a0 ≥ 0 then (some (decide (a0 < 20))) else (some false)
theorem gram_symbol.calls (a0 : Int) (r : Bool) (w : World) (h : gram_symbol.f a0 = some r) :
  Calls Tryz.prog 134 #[.int .i64 a0] w fun e w' => e = .returned (.bool r) ∧ Drawn0 w w' := by
 have H : (if a0 ≥ 0 then (some (decide (a0 < 20))) else (some false)) = some r := h
 clear h
 by_cases c2 : a0 ≥ 0
 ·rw [if_pos c2] at H
  have c2b0 := decide_eq_true c2; clear c2; obtain rfl := Option.some.inj H
  go_enter Tryz.func134, Tryz.ntmps134
  go_wp2
  go_ret
  exact ⟨Tc_, Tb_⟩
 rw [if_neg c2] at H
 have c2b0 := decide_eq_false c2
 clear c2
 obtain rfl := Option.some.inj H
 go_enter Tryz.func134, Tryz.ntmps134
 go_wp2
 go_ret
 exact ⟨Tc_, Tb_⟩
noncomputable def gram_within.f (a0 : Int) (a1 : Int) (a2 : Int) : Option (Bool) := if a0 ≥ a1 then (some (decide (a0 ≤ a2))) else (some false)
theorem gram_within.calls (a0 : Int) (a1 : Int) (a2 : Int) (r : Bool) (w : World) (h : gram_within.f a0 a1 a2 = some r) :
  Calls Tryz.prog 135 #[.int .i64 a0, .int .i64 a1, .int .i64 a2] w fun e w' => e = .returned (.bool r) ∧ Drawn0 w w' := by
 have H : (if a0 ≥ a1 then (some (decide (a0 ≤ a2))) else (some false)) = some r := h
 clear h
 by_cases c4 : a0 ≥ a1
 ·rw [if_pos c4] at H
  have c4b0 := decide_eq_true c4; clear c4; obtain rfl := Option.some.inj H
  go_enter Tryz.func135, Tryz.ntmps135
  go_wp2
  go_ret
  exact ⟨Tc_, Tb_⟩
 rw [if_neg c4] at H
 have c4b0 := decide_eq_false c4
 clear c4
 obtain rfl := Option.some.inj H
 go_enter Tryz.func135, Tryz.ntmps135
 go_wp2
 go_ret
 exact ⟨Tc_, Tb_⟩
noncomputable def fold_rows.f  : Option ((List (S192))) := some (([(⟨9, 9, 32, 0⟩ : S192), (⟨160, 160, 32, 0⟩ : S192), (⟨8192, 8202, 32, 0⟩ : S192), (⟨8239, 8239, 32, 0⟩ : S192), (⟨8287, 8287, 32, 0⟩ : S192), (⟨12288, 12288, 32, 0⟩ : S192), (⟨8208, 8213, 45, 0⟩ : S192), (⟨8722, 8722, 45, 0⟩ : S192), (⟨8216, 8217, 39, 0⟩ : S192), (⟨700, 700, 39, 0⟩ : S192), (⟨1632, 1641, 48, 1⟩ : S192), (⟨1776, 1785, 48, 1⟩ : S192), (⟨2406, 2415, 48, 1⟩ : S192), (⟨65, 90, 97, 1⟩ : S192), (⟨192, 214, 224, 1⟩ : S192), (⟨216, 222, 248, 1⟩ : S192), (⟨913, 929, 945, 1⟩ : S192), (⟨931, 937, 963, 1⟩ : S192), (⟨1040, 1071, 1072, 1⟩ : S192), (⟨1024, 1039, 1104, 1⟩ : S192)] : List (S192)))
theorem fold_rows.calls  (r : List (S192)) (w : World) (h : fold_rows.f  = some r) :
  Calls Tryz.prog 152 #[] w fun e w' => ∃ v0_ : Value, e = .returned (v0_) ∧ Kd.R k192 192 w' w.heap.size (fun _ => True) v0_ r ∧ Below w.heap.size w w' := by
 have hu192 := Tryz.underlying192
 have HB := aM_ (Below.refl w.heap.size w)
 have H : (some (([(⟨9, 9, 32, 0⟩ : S192), (⟨160, 160, 32, 0⟩ : S192), (⟨8192, 8202, 32, 0⟩ : S192), (⟨8239, 8239, 32, 0⟩ : S192), (⟨8287, 8287, 32, 0⟩ : S192), (⟨12288, 12288, 32, 0⟩ : S192), (⟨8208, 8213, 45, 0⟩ : S192), (⟨8722, 8722, 45, 0⟩ : S192), (⟨8216, 8217, 39, 0⟩ : S192), (⟨700, 700, 39, 0⟩ : S192), (⟨1632, 1641, 48, 1⟩ : S192), (⟨1776, 1785, 48, 1⟩ : S192), (⟨2406, 2415, 48, 1⟩ : S192), (⟨65, 90, 97, 1⟩ : S192), (⟨192, 214, 224, 1⟩ : S192), (⟨216, 222, 248, 1⟩ : S192), (⟨913, 929, 945, 1⟩ : S192), (⟨931, 937, 963, 1⟩ : S192), (⟨1040, 1071, 1072, 1⟩ : S192), (⟨1024, 1039, 1104, 1⟩ : S192)] : List (S192)))) = some r := h
 clear h
 obtain ⟨y107, hy107⟩ : ∃ y_ : List (S192), y_ = (([(⟨9, 9, 32, 0⟩ : S192), (⟨160, 160, 32, 0⟩ : S192), (⟨8192, 8202, 32, 0⟩ : S192), (⟨8239, 8239, 32, 0⟩ : S192), (⟨8287, 8287, 32, 0⟩ : S192), (⟨12288, 12288, 32, 0⟩ : S192), (⟨8208, 8213, 45, 0⟩ : S192), (⟨8722, 8722, 45, 0⟩ : S192), (⟨8216, 8217, 39, 0⟩ : S192), (⟨700, 700, 39, 0⟩ : S192), (⟨1632, 1641, 48, 1⟩ : S192), (⟨1776, 1785, 48, 1⟩ : S192), (⟨2406, 2415, 48, 1⟩ : S192), (⟨65, 90, 97, 1⟩ : S192), (⟨192, 214, 224, 1⟩ : S192), (⟨216, 222, 248, 1⟩ : S192), (⟨913, 929, 945, 1⟩ : S192), (⟨931, 937, 963, 1⟩ : S192), (⟨1040, 1071, 1072, 1⟩ : S192), (⟨1024, 1039, 1104, 1⟩ : S192)] : List (S192))) := ⟨_, rfl⟩
 replace H : (some y107) = some r := by first | (rw [hy107]; with_reducible exact H) | (have H2_ := (Option.bind_some _ _).symm.trans H; rw [hy107]; with_reducible exact H2_) | (have H2_ := (Option.bind_some _ _).symm.trans H; with_reducible exact H2_) | with_reducible exact H | (rw [hy107]; exact H) | exact H
 have Ny107 := aM_ hy107
 clear hy107
 obtain rfl := Option.some.inj H
 go_enter Tryz.func152, Tryz.ntmps152
 go_wp2_with (first | ((with_reducible refine gd_ 21 ?_); refine Kd.R_lit k192 _ 192 rfl (N := 21) rfl (xs := ([(⟨9, 9, 32, 0⟩ : S192), (⟨160, 160, 32, 0⟩ : S192), (⟨8192, 8202, 32, 0⟩ : S192), (⟨8239, 8239, 32, 0⟩ : S192), (⟨8287, 8287, 32, 0⟩ : S192), (⟨12288, 12288, 32, 0⟩ : S192), (⟨8208, 8213, 45, 0⟩ : S192), (⟨8722, 8722, 45, 0⟩ : S192), (⟨8216, 8217, 39, 0⟩ : S192), (⟨700, 700, 39, 0⟩ : S192), (⟨1632, 1641, 48, 1⟩ : S192), (⟨1776, 1785, 48, 1⟩ : S192), (⟨2406, 2415, 48, 1⟩ : S192), (⟨65, 90, 97, 1⟩ : S192), (⟨192, 214, 224, 1⟩ : S192), (⟨216, 222, 248, 1⟩ : S192), (⟨913, 929, 945, 1⟩ : S192), (⟨931, 937, 963, 1⟩ : S192), (⟨1040, 1071, 1072, 1⟩ : S192), (⟨1024, 1039, 1104, 1⟩ : S192)] : List (S192))) (inner := [.int .i64 9, .int .i64 9, .int .i64 32, .int .i64 0, .int .i64 160, .int .i64 160, .int .i64 32, .int .i64 0, .int .i64 8192, .int .i64 8202, .int .i64 32, .int .i64 0, .int .i64 8239, .int .i64 8239, .int .i64 32, .int .i64 0, .int .i64 8287, .int .i64 8287, .int .i64 32, .int .i64 0, .int .i64 12288, .int .i64 12288, .int .i64 32, .int .i64 0, .int .i64 8208, .int .i64 8213, .int .i64 45, .int .i64 0, .int .i64 8722, .int .i64 8722, .int .i64 45, .int .i64 0, .int .i64 8216, .int .i64 8217, .int .i64 39, .int .i64 0, .int .i64 700, .int .i64 700, .int .i64 39, .int .i64 0, .int .i64 1632, .int .i64 1641, .int .i64 48, .int .i64 1, .int .i64 1776, .int .i64 1785, .int .i64 48, .int .i64 1, .int .i64 2406, .int .i64 2415, .int .i64 48, .int .i64 1, .int .i64 65, .int .i64 90, .int .i64 97, .int .i64 1, .int .i64 192, .int .i64 214, .int .i64 224, .int .i64 1, .int .i64 216, .int .i64 222, .int .i64 248, .int .i64 1, .int .i64 913, .int .i64 929, .int .i64 945, .int .i64 1, .int .i64 931, .int .i64 937, .int .i64 963, .int .i64 1, .int .i64 1040, .int .i64 1071, .int .i64 1072, .int .i64 1, .int .i64 1024, .int .i64 1039, .int .i64 1104, .int .i64 1]) (ok := fun _ => True) (okp := fun _ => True) Tx_ ?hp (fun _ hk => hk) trivial (Below.refl _ _) (Nat.le_refl _) Tt_ ?_; (case hp => exact (Reps.c4 (show Kd.M k192 _ _ _ (⟨9, 9, 32, 0⟩ : S192) [.int .i64 9, .int .i64 9, .int .i64 32, .int .i64 0] from (tc_ _ _ _ (⟨9, 9, 32, 0⟩ : S192) )) (Reps.c4 (show Kd.M k192 _ _ _ (⟨160, 160, 32, 0⟩ : S192) [.int .i64 160, .int .i64 160, .int .i64 32, .int .i64 0] from (tc_ _ _ _ (⟨160, 160, 32, 0⟩ : S192) )) (Reps.c4 (show Kd.M k192 _ _ _ (⟨8192, 8202, 32, 0⟩ : S192) [.int .i64 8192, .int .i64 8202, .int .i64 32, .int .i64 0] from (tc_ _ _ _ (⟨8192, 8202, 32, 0⟩ : S192) )) (Reps.c4 (show Kd.M k192 _ _ _ (⟨8239, 8239, 32, 0⟩ : S192) [.int .i64 8239, .int .i64 8239, .int .i64 32, .int .i64 0] from (tc_ _ _ _ (⟨8239, 8239, 32, 0⟩ : S192) )) (Reps.c4 (show Kd.M k192 _ _ _ (⟨8287, 8287, 32, 0⟩ : S192) [.int .i64 8287, .int .i64 8287, .int .i64 32, .int .i64 0] from (tc_ _ _ _ (⟨8287, 8287, 32, 0⟩ : S192) )) (Reps.c4 (show Kd.M k192 _ _ _ (⟨12288, 12288, 32, 0⟩ : S192) [.int .i64 12288, .int .i64 12288, .int .i64 32, .int .i64 0] from (tc_ _ _ _ (⟨12288, 12288, 32, 0⟩ : S192) )) (Reps.c4 (show Kd.M k192 _ _ _ (⟨8208, 8213, 45, 0⟩ : S192) [.int .i64 8208, .int .i64 8213, .int .i64 45, .int .i64 0] from (tc_ _ _ _ (⟨8208, 8213, 45, 0⟩ : S192) )) (Reps.c4 (show Kd.M k192 _ _ _ (⟨8722, 8722, 45, 0⟩ : S192) [.int .i64 8722, .int .i64 8722, .int .i64 45, .int .i64 0] from (tc_ _ _ _ (⟨8722, 8722, 45, 0⟩ : S192) )) (Reps.c4 (show Kd.M k192 _ _ _ (⟨8216, 8217, 39, 0⟩ : S192) [.int .i64 8216, .int .i64 8217, .int .i64 39, .int .i64 0] from (tc_ _ _ _ (⟨8216, 8217, 39, 0⟩ : S192) )) (Reps.c4 (show Kd.M k192 _ _ _ (⟨700, 700, 39, 0⟩ : S192) [.int .i64 700, .int .i64 700, .int .i64 39, .int .i64 0] from (tc_ _ _ _ (⟨700, 700, 39, 0⟩ : S192) )) (Reps.c4 (show Kd.M k192 _ _ _ (⟨1632, 1641, 48, 1⟩ : S192) [.int .i64 1632, .int .i64 1641, .int .i64 48, .int .i64 1] from (tc_ _ _ _ (⟨1632, 1641, 48, 1⟩ : S192) )) (Reps.c4 (show Kd.M k192 _ _ _ (⟨1776, 1785, 48, 1⟩ : S192) [.int .i64 1776, .int .i64 1785, .int .i64 48, .int .i64 1] from (tc_ _ _ _ (⟨1776, 1785, 48, 1⟩ : S192) )) (Reps.c4 (show Kd.M k192 _ _ _ (⟨2406, 2415, 48, 1⟩ : S192) [.int .i64 2406, .int .i64 2415, .int .i64 48, .int .i64 1] from (tc_ _ _ _ (⟨2406, 2415, 48, 1⟩ : S192) )) (Reps.c4 (show Kd.M k192 _ _ _ (⟨65, 90, 97, 1⟩ : S192) [.int .i64 65, .int .i64 90, .int .i64 97, .int .i64 1] from (tc_ _ _ _ (⟨65, 90, 97, 1⟩ : S192) )) (Reps.c4 (show Kd.M k192 _ _ _ (⟨192, 214, 224, 1⟩ : S192) [.int .i64 192, .int .i64 214, .int .i64 224, .int .i64 1] from (tc_ _ _ _ (⟨192, 214, 224, 1⟩ : S192) )) (Reps.c4 (show Kd.M k192 _ _ _ (⟨216, 222, 248, 1⟩ : S192) [.int .i64 216, .int .i64 222, .int .i64 248, .int .i64 1] from (tc_ _ _ _ (⟨216, 222, 248, 1⟩ : S192) )) (Reps.c4 (show Kd.M k192 _ _ _ (⟨913, 929, 945, 1⟩ : S192) [.int .i64 913, .int .i64 929, .int .i64 945, .int .i64 1] from (tc_ _ _ _ (⟨913, 929, 945, 1⟩ : S192) )) (Reps.c4 (show Kd.M k192 _ _ _ (⟨931, 937, 963, 1⟩ : S192) [.int .i64 931, .int .i64 937, .int .i64 963, .int .i64 1] from (tc_ _ _ _ (⟨931, 937, 963, 1⟩ : S192) )) (Reps.c4 (show Kd.M k192 _ _ _ (⟨1040, 1071, 1072, 1⟩ : S192) [.int .i64 1040, .int .i64 1071, .int .i64 1072, .int .i64 1] from (tc_ _ _ _ (⟨1040, 1071, 1072, 1⟩ : S192) )) (Reps.c4 (show Kd.M k192 _ _ _ (⟨1024, 1039, 1104, 1⟩ : S192) [.int .i64 1024, .int .i64 1039, .int .i64 1104, .int .i64 1] from (tc_ _ _ _ (⟨1024, 1039, 1104, 1⟩ : S192) )) (Reps.none _ _)))))))))))))))))))))); intro v108 w1 ho2 hb hg_ hnew_; clear hg_ hnew_; (first | rw [← Ny107.out] at ho2 | (simp only [Int.reduceToNat] at ho2; rw [← Ny107.out] at ho2)); have n0_ := aM_ (Kd.R_lower ho2 (na_ Ta_)); have n1_ := aM_ (da_ Ta_ hb); clear HB; have HO109 := n0_; have HB := n1_; clear n0_ n1_; clear hb ho2))
 go_ret
 exact ⟨_, Tl_, by (with_reducible repeat (first | apply Kd.R_alloc | apply Kd.R_drewN | apply Kd.R_drew)); exact HO109.out, Ta_⟩
end Go.Proofs.YtiocgaekoeekgaaGreat.P
end
section
namespace Go.Proofs.YtiocgaekoeekgaaGreat.P
open Go.RowKit Go.Shelf YtiocgaekoeekgaaGreatW.PrintWords YtiocgaekoeekgaaGreatW.PrintLast YtiocgaekoeekgaaGreatW.PrintMore
def ke_ {α : Type} (P : Program) (w : World) (rel : World → α → Value → Prop) (fv : Value) (p : α → Bool) : Prop :=
 ∃ (g : Nat) (pre lb : Array Value), fv = .func (.func g) pre lb ∧ (∀ args w, (callFunc g args).run P w = .ok (.enter g args) w) ∧
  ∀ W x v, Below w.heap.size w W → rel W x v → Calls P g (pre ++ #[v] ++ lb) W fun e w' => e = .returned (.bool (p x)) ∧ Below W.heap.size W w'
theorem rd_ {a b : Bool} (h : a = b) : Ending.returned (.bool a) = .returned (.bool b) := by rw [h]
theorem qo_ (w : World) (v : Value) (t : TypeId) : (w.alloc (.cells #[v] t)).cell? ⟨w.heap.size, 0, none⟩ = some v := World.cell?_alloc_at _ _ _ _ rfl
def ij_ (_ : World) (x : Int) (v : Value) : Prop := v = .int .i64 x
def jj_ {α : Type} (d : Kd α) (W : World) (x : α) (v : Value) : Prop := ∃ cs : List Value, v = .agg cs.toArray ∧ d.K W x cs
def xc_ {α : Type} (p : α → Bool) (l : List α) : Int := match l.findIdx? p with | some i => i | none => -1
theorem xf_ {α : Type} {p : α → Bool} {l : List α} {k : Nat} (hk : k < l.length) (h0 : ∀ j, j < k → ∀ h : j < l.length, p l[j] = false) (h1 : p l[k] = true) : xc_ p l = k := by
 have : l.findIdx? p = some k := by
  rw [List.findIdx?_eq_some_iff_getElem]; exact ⟨hk, h1, fun j hj => by simpa using h0 j hj Td_⟩
 simp [xc_, this]
theorem nh_ {α : Type} {p : α → Bool} {l : List α} (h0 : ∀ j, j < l.length → ∀ h : j < l.length, p l[j] = false) : xc_ p l = -1 := by
 have : l.findIdx? p = none := by
  rw [List.findIdx?_eq_none_iff]; intro x hx; obtain ⟨j, hj, rfl⟩ := List.mem_iff_getElem.1 hx; exact h0 j hj hj
 simp [xc_, this]
theorem om_ {α : Type} (p : α → Bool) (l : List α) : decide (0 ≤ xc_ p l) = l.any p := by
 unfold xc_
 cases h : l.findIdx? p with
 | none =>
  rw [List.findIdx?_eq_none_iff] at h; have : l.any p = false := by simpa using h
  simp [this]
 | some i =>
  have h2 := List.findIdx?_eq_some_iff_getElem.1 h; have : l.any p = true := List.any_eq_true.2 ⟨_, List.getElem_mem h2.1, h2.2.1⟩; simp [this]
theorem cf_ (xs : List Int) (j : Nat) (h : j < xs.length) : rd xs j = xs[j] := by
 simp [rd, List.getD_eq_getElem?_getD, List.getElem?_eq_getElem h]
end Go.Proofs.YtiocgaekoeekgaaGreat.P
end
section
namespace Go.Proofs.YtiocgaekoeekgaaGreat.P
open Go.RowKit YtiocgaekoeekgaaGreatW.PrintWords YtiocgaekoeekgaaGreatW.PrintLast YtiocgaekoeekgaaGreatW.PrintMore
attribute [local go_sem] ub_ rb_ cc_ bc_ kb_ jb_ tb_ qb_   
set_option linter.unusedVariables false
set_option linter.unusedSimpArgs false
section
variable {P : Program} {ops : Array Oper} {rest : List Oper} {o : Oper} {a : Act} {Q : Exit → Act → World → Prop}
theorem tk_ {W : World} (hN : o.dst = none) (hgd : o.guard = none) (t : TypeId) (p x : Operand) (ho : o.op = .store t p x) {g i : Nat} {e : TypeId} {cur : Array Value} (u : Value) (haddr : a.eval p = .pointer (some ⟨g, i, none⟩)) (hx : a.eval x = u)
  (hu : u.cells.toList = [u]) (h1 : u.oneCell' = true) (ht : (P.info? t).map (·.size) = some 1) (hblk : W.heap[g]? = some (.cells cur e (0, 0))) (hi : i < cur.size)
  (h : ∀ w1, w1 = W.setCell ⟨g, i, none⟩ u → wpList P ops Q rest a w1) : wpList P ops Q (o :: rest) a W := by
 have hrun := qi_ t u [u] hblk hu ht (Nat.succ_le_of_lt hi) (by intro q hq; rw [List.mem_singleton] at hq; rw [hq]; exact h1)
 refine wpList_plain hgd fun K hK => ?_
 unfold Oper.wp execOp
 simp only [ho, haddr, hx, Sem.run_bind, Sem.run_pure, Result.andThen_ok, hrun]
 show K (a.put o.dst undef) _
 rw [hN]
 exact hK a _ (h _ rfl)
end
theorem ai_ {α : Type} {d : Kd α} {w : World} {b : Nat} {e : TypeId} {cs : List Value} {xs : List α} (hblk : w.heap[b]? = some (.cells cs.toArray e (0, 0))) (hn : xs.length ≤ 9223372036854775807) (hr : Reps (d.K w) d.sz xs cs) : d.C w (some ⟨b, 0, none⟩) xs.length xs := by
 refine ⟨rfl, hn, fun _ => ⟨_, rfl, fun j p hp => ?_⟩⟩
 have hj : j < xs.length := (List.getElem?_eq_some_iff.1 hp).1
 have h1 : j * d.sz + d.sz ≤ cs.length := by rw [hr.1, ← Nat.succ_mul]; exact Nat.mul_le_mul_right _ hj
 refine ⟨(cs.drop (j * d.sz)).take d.sz, by rw [List.length_take, List.length_drop]; omega, hr.2 j p hp, fun i u hu => ?_⟩
 have hi : i < d.sz := by
  have := (List.getElem?_eq_some_iff.1 hu).1; rw [List.length_take] at this; omega
 rw [List.getElem?_take_of_lt hi, List.getElem?_drop] at hu
 have h2 := ba_ hblk (j * d.sz + i)
 rw [List.getElem?_toArray, hu] at h2
 have h3 : (Addr.mk b 0 none).add (j * d.sz + i) = ⟨b, j * d.sz + i, none⟩ := by
  unfold Addr.add
  by_cases h : j * d.sz + i = 0
  ·rw [if_pos h, h]
  rw [if_neg h, Nat.zero_add]
 rw [h3]
 exact h2
theorem ts_ {α : Type} {R : α → List Value → Prop} {sz : Nat} {x : α} {cs : List Value} (h : R x cs) (hl : cs.length = sz) : Reps R sz [x] cs := by
 have := (Reps.none R sz).snoc h hl
 simpa using this
theorem ta_ {w : World} {o o' : Obj} {b : Nat} (h : w.heap[b]? = some o) : (w.alloc o').heap[b]? = some o := la_ h (aa_ (Below.refl _ _) _)
theorem gb_ {w : World} {cs : Array Value} {t : TypeId} {n : Nat} (h : w.heap.size = n) : (w.alloc (.cells cs t)).heap[n]? = some (.cells cs t (0, 0)) := h ▸ oa_ w _
end Go.Proofs.YtiocgaekoeekgaaGreat.P
end
section
namespace Go.Proofs.YtiocgaekoeekgaaGreat.P
open Go.RowKit YtiocgaekoeekgaaGreatW.PrintWords YtiocgaekoeekgaaGreatW.PrintLast YtiocgaekoeekgaaGreatW.PrintMore
attribute [local go_sem] ub_ rb_ cc_ bc_ kb_ jb_ tb_ qb_   
set_option linter.unusedVariables false
set_option linter.unusedSimpArgs false
attribute [local go_sem] Oper.semAt_some
def bi_ (x : S192) (r : Int) : Bool := !decide (r < x.f0) && !decide (x.f1 < r)
def pq_ (x : S192) (r : Int) : Int := wrap64 (x.f2 + wrap64 (wrap64 (r - x.f0) * x.f3))
def ao_ (x : S192) (r : Int) : Int := if bi_ x r then pq_ x r else r
theorem of_walk (x : S192) (r : Int) (w : World) :
  Calls Tryz.prog 151 #[.agg #[.int .i64 x.f0, .int .i64 x.f1, .int .i64 x.f2, .int .i64 x.f3], .int .i64 r] w fun e w' => e = .returned (.tuple #[.int .i64 (ao_ x r), .bool (bi_ x r)]) ∧ Below w.heap.size w w' := by
 have hu1 := Tryz.underlying192
 by_cases h1 : r < x.f0
 ·have e1 : decide (r < x.f0) = true := decide_eq_true h1
  have HI : Az (bi_ x r = false) := ⟨by unfold bi_; rw [e1]; rfl⟩; clear h1
  go_enter Tryz.func151, Tryz.ntmps151
  go_wp2
  refine bodyPost_ret (results_tmp2 rfl _ _ _) rfl ?_; rw [show ao_ x r = _ from if_neg (by rw [HI.out]; decide), HI.out]; exact ⟨rfl, aa_ (Below.refl _ _) _⟩
 have e1 : decide (r < x.f0) = false := decide_eq_false h1
 by_cases h2 : x.f1 < r
 ·have e2 : decide (x.f1 < r) = true := decide_eq_true h2
  have HI : Az (bi_ x r = false) := ⟨by unfold bi_; rw [e1, e2]; rfl⟩; clear h1 h2
  go_enter Tryz.func151, Tryz.ntmps151
  go_wp2
  refine bodyPost_ret (results_tmp2 rfl _ _ _) rfl ?_; rw [show ao_ x r = _ from if_neg (by rw [HI.out]; decide), HI.out]; exact ⟨rfl, aa_ (Below.refl _ _) _⟩
 have e2 : decide (x.f1 < r) = false := decide_eq_false h2
 have HI : Az (bi_ x r = true) := ⟨by unfold bi_; rw [e1, e2]; rfl⟩
 clear h1 h2
 go_enter Tryz.func151, Tryz.ntmps151
 go_wp2
 refine bodyPost_ret (results_tmp2 rfl _ _ _) rfl ?_
 rw [show ao_ x r = _ from if_pos HI.out, HI.out]
 exact ⟨rfl, aa_ (Below.refl _ _) _⟩
noncomputable def rowsP : List S192 := (fold_rows.f).getD []
def gh_ : List S192 → Int → Int
 | [], r => r
 | x :: l, r => if bi_ x r then pq_ x r else gh_ l r
def so_ (r : Int) : Int := if 65281 ≤ r ∧ r ≤ 65374 then wrap64 (r - 65248) else r
noncomputable def ch_ (r : Int) : Int := gh_ rowsP (so_ r)
theorem mu_ : fold_rows.f = some rowsP := rfl
theorem aq_ (L : List S192) (i : Nat) (hi : i < L.length) (r : Int) : gh_ (L.drop i) r = if bi_ (pg_ L (i : Int)) r then pq_ (pg_ L (i : Int)) r else gh_ (L.drop (i + 1)) r := by
 have hn : pg_ L (i : Int) = L[i] := by
  show L.getD (i : Int).toNat _ = _; rw [Int.toNat_natCast, List.getD_eq_getElem?_getD, List.getElem?_eq_getElem hi]; rfl
 rw [hn, List.drop_eq_getElem_cons hi, gh_]
theorem lu_ (r0 : Int) (w : World) :
  Calls Tryz.prog 131 #[.int .i64 r0] w fun e w' => e = .returned (.int .i64 (ch_ r0)) ∧ Below w.heap.size w w' := by
 have hu1 := Tryz.underlying192
 have HRS : Az (∀ W : World, Calls Tryz.prog 152 #[] W fun e w' => ∃ v0_ : Value, e = .returned (v0_) ∧ Kd.R k192 192 w' W.heap.size (fun _ => True) v0_ rowsP ∧ Below W.heap.size W w') := ⟨fun W => fold_rows.calls rowsP W mu_⟩
 obtain ⟨L, hL⟩ : ∃ L, L = rowsP := ⟨_, rfl⟩
 have hll : rowsP.length ≤ 1000 := by decide
 rw [← hL] at HRS hll
 have HF : Az (ch_ r0 = gh_ L (so_ r0)) := ⟨by rw [hL]; rfl⟩
 clear hL
 obtain ⟨r, hr⟩ : ∃ r, r = so_ r0 := ⟨_, rfl⟩
 rw [← hr] at HF
 have hcond : (decide (65281 ≤ r0) = false ∧ r = r0) ∨ (decide (65281 ≤ r0) = true ∧ decide (r0 ≤ 65374) = false ∧ r = r0) ∨ (decide (65281 ≤ r0) = true ∧ decide (r0 ≤ 65374) = true ∧ r = wrap64 (r0 - 65248)) := by
  unfold so_ at hr
  split at hr
  ·next h => exact .inr (.inr ⟨decide_eq_true h.1, decide_eq_true h.2, hr⟩)
  next h =>
  by_cases h1 : 65281 ≤ r0
  ·exact .inr (.inl ⟨decide_eq_true h1, decide_eq_false Td_, hr⟩)
  exact .inl ⟨decide_eq_false h1, hr⟩
 clear hr
 generalize ch_ r0 = z at *
 rcases hcond with ⟨e1, rfl⟩ | ⟨e1, e2, rfl⟩ | ⟨e1, e2, hr⟩ <;>
 ((try replace hr := hr.symm)
  go_enter Tryz.func131, Tryz.ntmps131
  go_wp2_with fail
  refine (HRS.out _).mono ?_; rintro e w1 ⟨v, rfl, hR, hB1⟩; obtain ⟨A1, c1, hs1⟩ := Kd.R_slice hR; subst hs1; have HC := aM_ (Kd.R_reads' hR).2.2; have HB := aM_ hB1; have HF0 : Az (z = gh_ (L.drop 0) r) := ⟨HF.out⟩; clear hR hB1 HRS HF
  go_wp2
  go_loopg [18] L.length (fun gg s18 wr => ∃ i : Nat, i ≤ L.length ∧ L.length - i ≤ gg ∧ s18 = .int .i64 i ∧ Az (z = gh_ (L.drop i) r) ∧ Az (Below w1.heap.size w1 wr))
  case atStart => exact ⟨0, Td_, Td_, rfl, HF0, ⟨Below.refl _ _⟩⟩
  clear HF0; obtain ⟨i, hi, hgg, rfl, HF, HW⟩ := hrel
  by_cases hil : i < L.length
  ·have hilz : (i : Int) < (L.length : Int) := by omega
   have hdr := aq_ L i hil r; obtain ⟨ad, hA, h0, h1, h2, h3⟩ := at_T192 (Kd.C_below HC.out HW.out) (i : Int) Td_ hilz; subst hA; rw [Int.toNat_natCast] at h0 h1 h2 h3; generalize pg_ L (i : Int) = y at *; have HD := aM_ hdr; clear hdr; have hcl := of_walk y r
   go_wp2_with fail
   refine (hcl _).mono ?_; rintro e w2 ⟨rfl, hB2⟩; have HW2 : Az (Below w1.heap.size w1 w2) := ⟨da_ HW.out (da_ (aa_ (Below.refl _ _) _) hB2)⟩; clear hB2 h0 h1 h2 h3 HW hcl
   cases hin : bi_ y r with
   | true =>
    have HV : Az (ao_ y r = pq_ y r) := ⟨if_pos hin⟩; have HG : Az (z = pq_ y r) := ⟨by rw [HF.out, HD.out, hin]; rfl⟩; rw [HV.out]; clear hin
    go_wp2
    go_ret
    rw [HG.out]
    exact ⟨rfl, da_ HB.out HW2.out⟩
   | false =>
    have HV : Az (ao_ y r = r) := ⟨if_neg (by rw [hin]; decide)⟩; have HG : Az (z = gh_ (L.drop (i + 1)) r) := ⟨by rw [HF.out, HD.out, hin]; rfl⟩; rw [HV.out]; clear hin
    go_wp2
    go_roundg (L.length - (i + 1))
    case measure => omega
    case rel => exact ⟨i + 1, Td_, Td_, Va_, HG, HW2⟩
  have he : i = L.length := by omega
  have hilz : decide ((i : Int) < (L.length : Int)) = false := by simp; omega
  have HG : Az (z = r) := ⟨by rw [HF.out, he, List.drop_length]; rfl⟩; clear he
  go_wp2
  go_ret
  rw [HG.out]
  exact ⟨rfl, da_ HB.out HW.out⟩)
end Go.Proofs.YtiocgaekoeekgaaGreat.P
end
section
namespace Go.Proofs
open Go.Shelf
def Tryz.runeA_ren : Go.Shelf.Ren := ⟨fun | 242 => 130 | 278 => 150 | n => n, fun | 37 => 28 | 21 => 21 | 51 => 188 | 4 => 4 | 5 => 5 | 46 => 150 | n => n, fun | n => n⟩
theorem Tryz.runeA : Go.Proofs.Lays.n242 Tryz.prog Tryz.runeA_ren := {
 mixed := by kernel_rfl
 f242 := Tryz.func130.trans (congrArg some Ti_)
 f278 := Tryz.func150.trans (congrArg some Ti_)
 t4 := Tryz.underlying4
 a4 := Tryz.isAgg4
 z4 := Tryz.sizeOf4
 v4 := Tryz.zeroValue4
 t5 := Tryz.underlying5
 a5 := Tryz.isAgg5
 z5 := Tryz.sizeOf5
 v5 := Tryz.zeroValue5
 t21 := Tryz.underlying21
 a21 := Tryz.isAgg21
 z21 := Tryz.sizeOf21
 v21 := Tryz.zeroValue21
 t37 := Tryz.underlying28
 a37 := Tryz.isAgg28
 z37 := Tryz.sizeOf28
 v37 := Tryz.zeroValue28
 t46 := Tryz.underlying150
 a46 := Tryz.isAgg150
 z46 := Tryz.sizeOf150
 v46 := Tryz.zeroValue150
 t51 := Tryz.underlying188
 a51 := Tryz.isAgg188
 z51 := Tryz.sizeOf188
 v51 := Tryz.zeroValue188 }
end Go.Proofs
end
section
namespace Go.Proofs.YtiocgaekoeekgaaGreat.P
open Go.RowKit YtiocgaekoeekgaaGreatW.PrintWords YtiocgaekoeekgaaGreatW.PrintLast YtiocgaekoeekgaaGreatW.PrintMore
attribute [local go_sem] ub_ rb_ cc_ bc_ kb_ jb_ tb_ qb_   
set_option linter.unusedVariables false
set_option linter.unusedSimpArgs false
attribute [local go_sem] Oper.semAt_some
theorem oq_ {w : World} {B e size n : Nat} {v : Value} {xs : List Value} {k : Nat} {s : ByteArray} {pos : Nat} (h : w.ownsRow B e size v n xs) (hk : w.heap[k]? = some (.stringIter s pos)) (pos' : Nat) : (w.iterAt k s pos').ownsRow B e size v n xs := by
 refine ⟨h.1, ?_⟩
 rcases h.2 with h0 | ⟨g, cap, cur, hv, hb, hg, rest⟩
 ·exact .inl h0
 refine .inr ⟨g, cap, cur, hv, hb, ?_, rest⟩
 rw [Lib.iterAt_other _ _ _ _ _ (fun e => by subst e; rw [hk] at hg; cases hg)]
 exact hg
theorem width5 (s : BA) (pos : Nat) (h : pos < s.size) : 1 ≤ (Utf8.decode s pos).2 := by
 by_cases ha : (s[pos]'h).toNat < 128
 ·rw [decode_ascii s pos h ha]
  exact Nat.le_refl _
 exact (decode_high s pos h Td_).2
noncomputable def cj_ (s : BA) (p : Nat) : Int := wrap32 (ch_ ((Utf8.decode s p).1 : Int))
noncomputable def zc_ (s : BA) : Nat → Nat → List Int
 | 0, _ => []
 | n + 1, p => if p < s.size then Lib.encodeRuneZ (cj_ s p) ++ zc_ s n (p + (Utf8.decode s p).2) else []
noncomputable def bh_ (s : BA) : ByteArray := strOfNums (zc_ s s.size 0)
theorem rm_ (s : BA) : ∀ (n m p : Nat), s.size ≤ p + n → s.size ≤ p + m → zc_ s n p = zc_ s m p := by
 intro n
 induction n with
 | zero =>
  intro m p h1 h2
  cases m with
  | zero => rfl
  | succ m => rw [zc_, zc_, if_neg Td_]
 | succ n ih =>
  intro m p h1 h2
  cases m with
  | zero => rw [zc_, zc_, if_neg Td_]
  | succ m =>
   rw [zc_, zc_]
   split
   ·have hw := width5 s p (by assumption)
    rw [ih m _ Td_ Td_]
   rfl
theorem xo_ (s : BA) (p : Nat) : -2147483648 ≤ cj_ s p ∧ cj_ s p ≤ 2147483647 := by
 unfold cj_ wrap32
 omega
theorem zp_ (B : Nat) (v : Value) (xs : List Int) (r : Int) (W : World) (hr0 : -2147483648 ≤ r) (hr1 : r ≤ 2147483647) (hown : W.ownsRow B 5 1 v xs.length (xs.map (Value.int .u8))) (hlen : xs.length + 4 ≤ 140737488355328) (hB : B ≤ W.heap.size) :
  Calls Tryz.prog 130 #[v, .int .i32 r] W fun e w' => ∃ v', e = .returned v' ∧ w'.ownsRow B 5 1 v' (xs ++ Lib.encodeRuneZ r).length ((xs ++ Lib.encodeRuneZ r).map (Value.int .u8)) ∧ ∃ o, (W.alloc o).grownBy w' v.ownBlock := by
 refine Calls.mono (Any.utf8_AppendRune_plain Tryz.runeA Ti_ B v xs.length (xs.map (Value.int .u8)) r hr0 hr1 W hown hlen hB) ?_
 rintro e w' ⟨v', rfl, h1, o, h2⟩
 refine ⟨v', rfl, ?_, o, h2⟩
 rw [List.length_append, List.map_append]
 have hl : (Lib.runeCells r).length = (Lib.encodeRuneZ r).length := by unfold Lib.runeCells; rw [List.length_map]
 rw [hl] at h1
 exact h1
theorem iter_blk {w w1 : World} {k : Nat} {s : ByteArray} {pos : Nat} {v : Value} {B e size n : Nat} {xs : List Value} (hk : w.heap[k]? = some (.stringIter s pos)) (hown : w.ownsRow B e size v n xs) {o : Obj} (hg : (w.alloc o).grownBy w1 v.ownBlock) : w1.heap[k]? = some (.stringIter s pos) := by
 refine fb_ (la_ hk (aa_ (Below.refl _ _) o)) hg ?_
 rcases hown.2 with ⟨rfl, _⟩ | ⟨g, cap, cur, rfl, hb, hgg, rest⟩
 ·simp [Value.ownBlock]
 intro e
 simp only [Value.ownBlock, Option.some.injEq] at e
 subst e
 rw [hk] at hgg
 cases hgg
theorem qn_ (s : BA) (w : World) (hs : s.size ≤ 1000000) :
  Calls Tryz.prog 91 #[.string s] w fun e w' => e = .returned (.string (bh_ s)) ∧ Below w.heap.size w w' := by
 obtain ⟨T, hT⟩ : ∃ T, T = bh_ s := ⟨_, rfl⟩
 have HT0 : Az (T = strOfNums ([] ++ zc_ s s.size 0)) := ⟨hT⟩
 rw [← hT]
 have HSZ := aM_ hs
 clear hT hs
 have hor : Az ((w.iter s 0).ownsRow w.heap.size 5 1 (.slice none 0 0) ([] : List Int).length (([] : List Int).map (Value.int .u8))) := ⟨by simp [World.ownsRow, maxLen]⟩
 have hit : Az ((w.iter s 0).heap[w.heap.size]? = some (.stringIter s 0)) := ⟨oa_ w _⟩
 have hbl : Az (Below w.heap.size w (w.iter s 0)) := ⟨aa_ (Below.refl _ _) _⟩
 go_enter Tryz.func91, Tryz.ntmps91
 go_wp2
 generalize w.iter s 0 = w1 at *
 go_loopg [3] s.size (fun gg s3 wr => ∃ (p n : Nat) (xs : List Int), s.size - p ≤ gg ∧ Az (xs.length ≤ 4 * p) ∧ Az (s.size ≤ p + n) ∧ Az (T = strOfNums (xs ++ zc_ s n p)) ∧ Az (wr.ownsRow w.heap.size 5 1 s3 xs.length (xs.map (Value.int .u8))) ∧ Az (wr.heap[w.heap.size]? = some (.stringIter s p)) ∧ Az (Below w.heap.size w wr))
 case atStart => exact ⟨0, s.size, [], Td_, ⟨Tt_⟩, ⟨Td_⟩, HT0, hor, hit, hbl⟩
 clear HT0 hor hit hbl
 obtain ⟨p, n, xs, hgg, HL, HN, HT, HO, HI, HB⟩ := hrel
 by_cases hps : p < s.size
 ·have hnx : ∀ ty, (Instr.next (.pointer (some ⟨w.heap.size, 0, none⟩)) true ty).run Tryz.prog wr = _ := fun ty => Lib.run_next_any_at wr w.heap.size s p ty HI.out hps
  have hdl := decode_le s p; have hwd := width5 s p hps; have HSG : Az (cj_ s p = wrap32 (ch_ ((Utf8.decode s p).1 : Int))) := ⟨rfl⟩; have HR := aM_ (xo_ s p); have HO1 := aM_ (oq_ HO.out HI.out (p + (Utf8.decode s p).2)); have HI1 : Az ((wr.iterAt w.heap.size s (p + (Utf8.decode s p).2)).heap[w.heap.size]? = some (.stringIter s (p + (Utf8.decode s p).2))) := ⟨Lib.iterAt_heap wr _ s p _ HI.out⟩; have HB1 : Az (Below w.heap.size w (wr.iterAt w.heap.size s (p + (Utf8.decode s p).2))) := ⟨Lib.below_iterAt HB.out (Nat.le_refl _) s _⟩; have hcv : wrap64 ((Utf8.decode s p).1 : Int) = ((Utf8.decode s p).1 : Int) := by rw [wrap64]; omega
  have HRW := aM_ (lu_ ((Utf8.decode s p).1 : Int)); generalize wr.iterAt w.heap.size s (p + (Utf8.decode s p).2) = w2 at *
  have HT1 : Az (T = strOfNums ((xs ++ Lib.encodeRuneZ (cj_ s p)) ++ zc_ s n (p + (Utf8.decode s p).2))) := ⟨by
   cases n with
   | zero => exfalso; have := HN.out; omega
   | succ n =>
    rw [HT.out, zc_, if_pos hps, List.append_assoc]
    congr 2
    congr 1
    exact rm_ s n (n + 1) _ Xh_ Xh_⟩
  have HN1 : Az (s.size ≤ p + (Utf8.decode s p).2 + n) := ⟨Xh_⟩; clear HT HI HO HB; generalize cj_ s p = q at *; generalize (Utf8.decode s p).2 = wd at *; generalize (Utf8.decode s p).1 = d at *; have hq : wrap32 (ch_ (d : Int)) = q := HSG.out.symm; have HPS := aM_ hps; clear hdl HSG
  go_wp2_with fail
  refine (HRW.out _).mono ?_; rintro e w3 ⟨rfl, hB3⟩; have HO3 : Az (w3.ownsRow w.heap.size 5 1 u3 xs.length (xs.map (Value.int .u8))) := ⟨cp_ HO1.out hB3⟩; have HI3 := aM_ (la_ HI1.out hB3); have HB3 : Az (Below w.heap.size w w3) := ⟨da_ HB1.out hB3⟩; have HAP := aM_ (zp_ w.heap.size u3 xs q w3 HR.out.1 HR.out.2 HO3.out (by have := HL.out; have := HSZ.out; omega) HB3.out.size); clear hB3 HO1 HI1 HB1 HRW
  go_wp2_with fail
  refine HAP.out.mono ?_; rintro e w4 ⟨v', rfl, hown, o, hg⟩; have HI4 := aM_ (iter_blk HI3.out HO3.out hg); have HO4 := aM_ hown; have HB4 : Az (Below w.heap.size w w4) := ⟨Below.grown (da_ HB3.out (aa_ (Below.refl _ _) o)) hg (by have := HB3.out.size; simp; omega) (fun k hk => gf_ HO3.out k hk)⟩; have HL4 : Az ((xs ++ Lib.encodeRuneZ q).length ≤ 4 * (p + wd)) := ⟨by rw [List.length_append]; have := HL.out; have := (Lib.encodeRuneZ_length q).2; omega⟩; clear hown hg HAP HI3 HO3 HB3 HL; generalize xs ++ Lib.encodeRuneZ q = ys at *
  go_wp2
  go_roundg (s.size - (p + wd))
  case measure => have := HPS.out; omega
  case rel => exact ⟨p + wd, n, ys, Td_, HL4, HN1, HT1, HO4, HI4, HB4⟩
 have hnx : ∀ ty, (Instr.next (.pointer (some ⟨w.heap.size, 0, none⟩)) true ty).run Tryz.prog wr = _ := fun ty => Lib.run_next_end_at wr w.heap.size s p ty HI.out hps
 have HTT : Az (T = strOfNums xs) := ⟨by
  rw [HT.out]
  cases n with
  | zero => rw [zc_, List.append_nil]
  | succ n => rw [zc_, if_neg hps, List.append_nil]⟩
 have hR : Kd.R (Kd.int .u8) 5 wr w.heap.size (fun _ => True) u3 xs := Kd.R_of_own HO.out (fun _ _ => trivial)
 obtain ⟨A, c, hsl⟩ := Kd.R_slice hR
 subst hsl
 have hcv : (convert 28 9 (.slice A xs.length c)).run Tryz.prog wr = .ok (.string (strOfNums xs)) wr := Kd.C_string Tryz.underlying28 Tryz.underlying5 Tryz.underlying9 (Kd.R_reads' hR).2.2
 rw [← HTT.out] at hcv
 clear hR HTT HT HO
 go_wp2
 go_ret
 exact ⟨rfl, HB.out⟩
def ib_ (x a b : Int) : Bool := decide (a ≤ x) && decide (x ≤ b)
theorem eh_ (x a b : Int) : blob_within.f x a b = some (ib_ x a b) := by
 unfold blob_within.f ib_
 by_cases h : x ≥ a
 ·rw [if_pos h, decide_eq_true (show a ≤ x from h), Bool.true_and]
 rw [if_neg h, decide_eq_false (show ¬ a ≤ x from h), Bool.false_and]
theorem ve_ (x a b : Int) (w : World) : Calls Tryz.prog 42 #[.int .i64 x, .int .i64 a, .int .i64 b] w fun e w' => e = .returned (.bool (ib_ x a b)) ∧ Below w.heap.size w w' :=
 Calls.mono (blob_within.calls x a b _ w (eh_ x a b)) Wi_
theorem word_w (x : Int) (w : World) : Calls Tryz.prog 92 #[.int .i64 x] w fun e w' => e = .returned (.bool (ib_ x 1 49)) ∧ Below w.heap.size w w' :=
 Calls.mono (blob_word.calls x _ w (by unfold blob_word.f; rw [eh_]; rfl)) Wi_
theorem nogo_ {P : Program} {ops : Array Oper} {Q : Exit → Act → World → Prop} {oi : Oper} {N : Option Tmp} {a : Act} {w : World} {K : Act → World → Prop} (hw : Region.wanted oi (yielded ops a.tmps) = false) (h : K (a.put N undef) w) : if Region.wanted oi (yielded ops a.tmps) = true then Oper.wp P oi a w K Q else K (a.put N undef) w := by
 rw [hw]
 exact h
noncomputable def ie_ (x : S46) : Bool :=
 ib_ x.f0.size 1 20 && ((bh_ x.f0).toList == x.f0.toList && (bt x.f0 0 != 32 && (bt x.f0 ((x.f0.size : Int) - 1) != 32 && (ib_ x.f1 1 49 && ib_ x.f2 (-1000000000) 1000000000))))
theorem fr_ (x : S46) (w : World) :
  Calls Tryz.prog 44 #[.agg #[.string x.f0, .int .i64 x.f1, .int .i64 x.f2]] w fun e w' => e = .returned (.bool (ie_ x)) ∧ Below w.heap.size w w' := by
 obtain ⟨s, c, v⟩ := x
 have HE : Az (ie_ ⟨s, c, v⟩ = (ib_ s.size 1 20 && ((bh_ s).toList == s.toList && (bt s 0 != 32 && (bt s ((s.size : Int) - 1) != 32 && (ib_ c 1 49 && ib_ v (-1000000000) 1000000000)))))) := ⟨rfl⟩
 generalize ie_ ⟨s, c, v⟩ = r at *
 have hu1 := Tryz.underlying46
 have HT : Az (∀ W, s.size ≤ 20 → Calls Tryz.prog 91 #[.string s] W fun e w' => e = .returned (.string (bh_ s)) ∧ Below W.heap.size W w') := ⟨fun W h => qn_ s W Td_⟩
 generalize bh_ s = T at *
 obtain ⟨b1, hb1⟩ : ∃ b, ib_ s.size 1 20 = b := ⟨_, rfl⟩
 obtain ⟨b2, hb2⟩ : ∃ b, (T.toList == s.toList) = b := ⟨_, rfl⟩
 obtain ⟨b3, hb3⟩ : ∃ b, (bt s 0 != 32) = b := ⟨_, rfl⟩
 obtain ⟨b4, hb4⟩ : ∃ b, (bt s ((s.size : Int) - 1) != 32) = b := ⟨_, rfl⟩
 obtain ⟨b5, hb5⟩ : ∃ b, ib_ c 1 49 = b := ⟨_, rfl⟩
 obtain ⟨b6, hb6⟩ : ∃ b, ib_ v (-1000000000) 1000000000 = b := ⟨_, rfl⟩
 have HR : Az (r = (b1 && (b2 && (b3 && (b4 && (b5 && b6)))))) := ⟨by rw [HE.out, hb1, hb2, hb3, hb4, hb5, hb6]⟩
 have H1 : Az (∀ W, Calls Tryz.prog 42 #[.int .i64 (s.size : Int), .int .i64 1, .int .i64 20] W fun e w' => e = .returned (.bool b1) ∧ Below W.heap.size W w') := ⟨by rw [← hb1]; exact ve_ s.size 1 20⟩
 have H5 : Az (∀ W, Calls Tryz.prog 92 #[.int .i64 c] W fun e w' => e = .returned (.bool b5) ∧ Below W.heap.size W w') := ⟨by rw [← hb5]; exact word_w c⟩
 have H6 : Az (∀ W, Calls Tryz.prog 42 #[.int .i64 v, .int .i64 (-1000000000), .int .i64 1000000000] W fun e w' => e = .returned (.bool b6) ∧ Below W.heap.size W w') := ⟨by rw [← hb6]; exact ve_ v _ _⟩
 have HB1 : Az (b1 = true → 0 < s.size ∧ s.size ≤ 20) := ⟨fun h => by
  rw [h] at hb1; unfold ib_ at hb1; simp only [Bool.and_eq_true, decide_eq_true_eq] at hb1
  omega⟩
 clear hb1 hb5 hb6 HE
 have hcase : (b1 = false ∧ r = false) ∨ (b1 = true ∧ b2 = false ∧ r = false) ∨ (b1 = true ∧ b2 = true ∧ b3 = false ∧ r = false) ∨ (b1 = true ∧ b2 = true ∧ b3 = true ∧ b4 = false ∧ r = false) ∨ (b1 = true ∧ b2 = true ∧ b3 = true ∧ b4 = true ∧ b5 = false ∧ r = false) ∨ (b1 = true ∧ b2 = true ∧ b3 = true ∧ b4 = true ∧ b5 = true ∧ r = b6) := by
  have h := HR.out; clear hb2 hb3 hb4
  revert h
  cases b1 <;> cases b2 <;> cases b3 <;> cases b4 <;> cases b5 <;> simp
 clear HR
 obtain ⟨j, hj⟩ : ∃ j : Int, j = (s.size : Int) - 1 := ⟨_, rfl⟩
 rw [← hj] at hb4
 have hx0 : ∀ h : 0 < s.size, ((s[0]'h).toNat : Int) = bt s 0 := oe_ s 0
 have hx1 := oe_ s j
 rcases hcase with ⟨rfl, hr⟩ | ⟨rfl, rfl, hr⟩ | ⟨rfl, rfl, rfl, hr⟩ | ⟨rfl, rfl, rfl, rfl, hr⟩ | ⟨rfl, rfl, rfl, rfl, rfl, hr⟩ | ⟨rfl, rfl, rfl, rfl, rfl, hr⟩
 all_goals
  have HRR := aM_ hr; clear hr
  try
   have hsz := HB1.out rfl; have HT1 := aM_ (fun W => HT.out W hsz.2); have q5 : (0 < s.size) = True := eq_true hsz.1; have qi5 : (0 < (s.size : Int)) = True := eq_true Td_; have p12 : (0 ≤ j) = True := eq_true Td_; have q12 : (j < (s.size : Int)) = True := eq_true Td_; have hjw : wrap64 ((s.size : Int) - 1) = j := by rw [wrap64]; omega
  clear HB1 HT hj
  go_enter Tryz.func44, Tryz.ntmps44
  go_wp2_with fail
  have h0 : (w.alloc (.cells #[.string s, .int .i64 c, .int .i64 v] 46)).cell? ⟨w.heap.size, 0, none⟩ = some (.string s) := ba_ (oa_ w _) 0; have h1 : (w.alloc (.cells #[.string s, .int .i64 c, .int .i64 v] 46)).cell? ⟨w.heap.size, 1, none⟩ = some (.int .i64 c) := ba_ (oa_ w _) 1; have h2 : (w.alloc (.cells #[.string s, .int .i64 c, .int .i64 v] 46)).cell? ⟨w.heap.size, 2, none⟩ = some (.int .i64 v) := ba_ (oa_ w _) 2; have HB0 : Az (Below w.heap.size w (w.alloc (.cells #[.string s, .int .i64 c, .int .i64 v] 46))) := ⟨aa_ (Below.refl _ _) _⟩; generalize w.alloc (.cells #[.string s, .int .i64 c, .int .i64 v] 46) = W1 at *
 all_goals refine fd_ (n := 39) (S := fun w' => w'.cell? ⟨w.heap.size, 0, none⟩ = some (.string s) ∧ w'.cell? ⟨w.heap.size, 1, none⟩ = some (.int .i64 c) ∧ w'.cell? ⟨w.heap.size, 2, none⟩ = some (.int .i64 v) ∧ Az (Below w.heap.size w w')) (ds := []) (f_ 39 0) Ti_ rfl rfl ⟨h0, h1, h2, ⟨ca_ HB0.out 1⟩⟩ (fun hHeld => ?_)
 all_goals (refine pU_ 0 3 ?_ (f_ 39 1) rfl rfl Ti_ (fun _ _ _ h => h) ?_ ?_ ?_ ?_ ?_; rotate_left; (focus rfl); (focus (intro w'; go_simp; try with_reducible rfl)); rotate_left; (focus (simp only [Act.put, s1_, s2_, s3_, ya_, za_]; rfl)))
 all_goals (refine tA_ 1 4 ?_ (f_ 39 2) rfl rfl Ti_ (fun _ _ _ h => h) ?_ ?_ hHeld ?_ ?_ ?_; rotate_left; (focus rfl); (focus (rintro w' ⟨s0, s1, s2, s3⟩; go_simp; try with_reducible rfl)); rotate_left; (focus (simp only [Act.put, s1_, s2_, s3_, ya_, za_]; rfl)))
 all_goals (refine pU_ 2 5 ?_ (f_ 39 3) rfl rfl Ti_ (fun _ _ _ h => h) ?_ ?_ ?_ ?_ ?_; rotate_left; (focus rfl); (focus (intro w'; go_simp; try with_reducible rfl)); rotate_left; (focus (simp only [Act.put, s1_, s2_, s3_, ya_, za_]; rfl)))
 all_goals refine oN_ 3 fun K hK => ?_
 all_goals first
  | (refine ko_ Tryz.func42 Ti_ rfl #[.int .i64 (s.size : Int), .int .i64 1, .int .i64 20] ?_ rfl rfl Vx_ ?_; (focus rfl); refine (H1.out _).mono ?_; rintro e w' ⟨rfl, hB⟩; refine ⟨_, rfl, ?_⟩; refine hK.out _ _ ⟨fa_ hB hHeld.1, fa_ hB hHeld.2.1, fa_ hB hHeld.2.2.1, ⟨da_ hHeld.2.2.2.out hB⟩⟩ (fun hHeld => ?_))
 all_goals clear hK K
 all_goals (refine bm_ (a' := ?_) ?_ ?_; rotate_left; (focus (show Act.put _ (some 6) _ = _; simp only [Act.put, s1_, s2_, s3_, ya_, za_]; rfl)))
 all_goals (refine pU_ 4 7 ?_ (f_ 39 5) rfl rfl Ti_ (fun _ _ _ h => h) ?_ ?_ ?_ ?_ ?_; rotate_left; (focus rfl); (focus (intro w'; go_simp; try with_reducible rfl)); rotate_left; (focus (simp only [Act.put, s1_, s2_, s3_, ya_, za_]; rfl)))
 all_goals first
  | (refine pU_ 5 8 ?_ (f_ 39 6) rfl rfl Ti_ (fun _ _ _ h => h) ?_ ?_ ?_ ?_ ?_; rotate_left; (focus rfl); (focus (intro w'; go_simp; try with_reducible rfl)); rotate_left; (focus (simp only [Act.put, s1_, s2_, s3_, ya_, za_]; rfl)))
  | (refine qc_ (i := 5) (N := some 8) (v := undef) (a' := ?_) (f_ 39 6) rfl rfl Ti_ (fun _ _ _ h => h) (Or.inr ⟨?_, rfl⟩) ?_ ?_; (focus rfl); rotate_left; (focus (simp only [Act.put, s1_, s2_, s3_, ya_, za_]; rfl)))
 all_goals first
  | (refine tA_ 6 9 ?_ (f_ 39 7) rfl rfl Ti_ (fun _ _ _ h => h) ?_ ?_ hHeld ?_ ?_ ?_; rotate_left; (focus rfl); (focus (rintro w' ⟨s0, s1, s2, s3⟩; go_simp; try with_reducible rfl)); rotate_left; (focus (simp only [Act.put, s1_, s2_, s3_, ya_, za_]; rfl)))
  | (refine take_ (i := 6) (N := some 9) (v := undef) (a' := ?_) (f_ 39 7) rfl rfl Ti_ (fun _ _ _ h => h) (Or.inr ⟨?_, rfl⟩) hHeld ?_ ?_; (focus rfl); rotate_left; (focus (simp only [Act.put, s1_, s2_, s3_, ya_, za_]; rfl)))
 all_goals first
  | (refine pU_ 8 11 ?_ (g_ 39 383) rfl rfl Ti_ (fun _ _ _ h => h) ?_ ?_ ?_ ?_ ?_; rotate_left; (focus rfl); (focus (intro w'; go_simp; try with_reducible rfl)); rotate_left; (focus (simp only [Act.put, s1_, s2_, s3_, ya_, za_]; rfl)))
  | (refine qc_ (i := 8) (N := some 11) (v := undef) (a' := ?_) (g_ 39 383) rfl rfl Ti_ (fun _ _ _ h => h) (Or.inr ⟨?_, rfl⟩) ?_ ?_; (focus rfl); rotate_left; (focus (simp only [Act.put, s1_, s2_, s3_, ya_, za_]; rfl)))
 all_goals first
  | (refine tA_ 9 12 ?_ (g_ 39 895) rfl rfl Ti_ (fun _ _ _ h => h) ?_ ?_ hHeld ?_ ?_ ?_; rotate_left; (focus rfl); (focus (rintro w' ⟨s0, s1, s2, s3⟩; go_simp; try with_reducible rfl)); rotate_left; (focus (simp only [Act.put, s1_, s2_, s3_, ya_, za_]; rfl)))
  | (refine take_ (i := 9) (N := some 12) (v := undef) (a' := ?_) (g_ 39 895) rfl rfl Ti_ (fun _ _ _ h => h) (Or.inr ⟨?_, rfl⟩) hHeld ?_ ?_; (focus rfl); rotate_left; (focus (simp only [Act.put, s1_, s2_, s3_, ya_, za_]; rfl)))
 all_goals refine oN_ 7 fun K hK => ?_
 all_goals first
  | (refine ko_ Tryz.func91 Ti_ rfl #[.string s] ?_ rfl rfl Vx_ ?_; (focus rfl); refine (HT1.out _).mono ?_; rintro e w' ⟨rfl, hB⟩; refine ⟨_, rfl, ?_⟩; refine hK.out _ _ ⟨fa_ hB hHeld.1, fa_ hB hHeld.2.1, fa_ hB hHeld.2.2.1, ⟨da_ hHeld.2.2.2.out hB⟩⟩ (fun hHeld => ?_))
  | (refine nogo_ ?_ ?_; (focus rfl); refine hK.out _ _ hHeld (fun hHeld => ?_))
 all_goals clear hK K
 all_goals (refine bm_ (a' := ?_) ?_ ?_; rotate_left; (focus (show Act.put _ (some 10) _ = _; simp only [Act.put, s1_, s2_, s3_, ya_, za_]; rfl)))
 all_goals first
  | (refine pU_ 10 13 ?_ (f_ 39 11) rfl rfl Ti_ (fun _ _ _ h => h) ?_ ?_ ?_ ?_ ?_; rotate_left; (focus rfl); (focus (intro w'; go_simp; try with_reducible rfl)); rotate_left; (focus (simp only [Act.put, s1_, s2_, s3_, ya_, za_]; rfl)))
  | (refine qc_ (i := 10) (N := some 13) (v := undef) (a' := ?_) (f_ 39 11) rfl rfl Ti_ (fun _ _ _ h => h) (Or.inr ⟨?_, rfl⟩) ?_ ?_; (focus rfl); rotate_left; (focus (simp only [Act.put, s1_, s2_, s3_, ya_, za_]; rfl)))
 all_goals (refine pU_ 11 14 ?_ (f_ 39 12) rfl rfl Ti_ (fun _ _ _ h => h) ?_ ?_ ?_ ?_ ?_; rotate_left; (focus rfl); (focus (intro w'; go_simp; try with_reducible rfl)); rotate_left; (focus (simp only [Act.put, s1_, s2_, s3_, ya_, za_]; rfl)))
 all_goals (refine pU_ 12 15 ?_ (f_ 39 13) rfl rfl Ti_ (fun _ _ _ h => h) ?_ ?_ ?_ ?_ ?_; rotate_left; (focus rfl); (focus (intro w'; go_simp; try with_reducible rfl)); rotate_left; (focus (simp only [Act.put, s1_, s2_, s3_, ya_, za_]; rfl)))
 all_goals first
  | (refine pU_ 13 16 ?_ (f_ 39 14) rfl rfl Ti_ (fun _ _ _ h => h) ?_ ?_ ?_ ?_ ?_; rotate_left; (focus rfl); (focus (intro w'; go_simp; try with_reducible rfl)); rotate_left; (focus (simp only [Act.put, s1_, s2_, s3_, ya_, za_]; rfl)))
  | (refine qc_ (i := 13) (N := some 16) (v := undef) (a' := ?_) (f_ 39 14) rfl rfl Ti_ (fun _ _ _ h => h) (Or.inr ⟨?_, rfl⟩) ?_ ?_; (focus rfl); rotate_left; (focus (simp only [Act.put, s1_, s2_, s3_, ya_, za_]; rfl)))
 all_goals first
  | (refine tA_ 14 17 ?_ (f_ 39 15) rfl rfl Ti_ (fun _ _ _ h => h) ?_ ?_ hHeld ?_ ?_ ?_; rotate_left; (focus rfl); (focus (rintro w' ⟨s0, s1, s2, s3⟩; go_simp; try with_reducible rfl)); rotate_left; (focus (simp only [Act.put, s1_, s2_, s3_, ya_, za_]; rfl)))
  | (refine take_ (i := 14) (N := some 17) (v := undef) (a' := ?_) (f_ 39 15) rfl rfl Ti_ (fun _ _ _ h => h) (Or.inr ⟨?_, rfl⟩) hHeld ?_ ?_; (focus rfl); rotate_left; (focus (simp only [Act.put, s1_, s2_, s3_, ya_, za_]; rfl)))
 all_goals first
  | (refine pU_ 15 18 ?_ (f_ 39 16) rfl rfl Ti_ (fun _ _ _ h => h) ?_ ?_ ?_ ?_ ?_; rotate_left; (focus rfl); (focus (intro w'; go_simp; try with_reducible rfl)); rotate_left; (focus (simp only [Act.put, s1_, s2_, s3_, ya_, za_]; rfl)))
  | (refine qc_ (i := 15) (N := some 18) (v := undef) (a' := ?_) (f_ 39 16) rfl rfl Ti_ (fun _ _ _ h => h) (Or.inr ⟨?_, rfl⟩) ?_ ?_; (focus rfl); rotate_left; (focus (simp only [Act.put, s1_, s2_, s3_, ya_, za_]; rfl)))
 all_goals first
  | (refine pU_ 16 19 ?_ (f_ 39 17) rfl rfl Ti_ (fun _ _ _ h => h) ?_ ?_ ?_ ?_ ?_; rotate_left; (focus rfl); (focus (intro w'; go_simp; try with_reducible rfl)); rotate_left; (focus (simp only [Act.put, s1_, s2_, s3_, ya_, za_]; rfl)))
  | (refine qc_ (i := 16) (N := some 19) (v := undef) (a' := ?_) (f_ 39 17) rfl rfl Ti_ (fun _ _ _ h => h) (Or.inr ⟨?_, rfl⟩) ?_ ?_; (focus rfl); rotate_left; (focus (simp only [Act.put, s1_, s2_, s3_, ya_, za_]; rfl)))
 all_goals (refine pU_ 17 20 ?_ (f_ 39 18) rfl rfl Ti_ (fun _ _ _ h => h) ?_ ?_ ?_ ?_ ?_; rotate_left; (focus rfl); (focus (intro w'; go_simp; try with_reducible rfl)); rotate_left; (focus (simp only [Act.put, s1_, s2_, s3_, ya_, za_]; rfl)))
 all_goals (refine pU_ 18 21 ?_ (f_ 39 19) rfl rfl Ti_ (fun _ _ _ h => h) ?_ ?_ ?_ ?_ ?_; rotate_left; (focus rfl); (focus (intro w'; go_simp; try with_reducible rfl)); rotate_left; (focus (simp only [Act.put, s1_, s2_, s3_, ya_, za_]; rfl)))
 all_goals first
  | (refine pU_ 19 22 ?_ (f_ 39 20) rfl rfl Ti_ (fun _ _ _ h => h) ?_ ?_ ?_ ?_ ?_; rotate_left; (focus rfl); (focus (intro w'; go_simp; try with_reducible rfl)); rotate_left; (focus (simp only [Act.put, s1_, s2_, s3_, ya_, za_]; rfl)))
  | (refine qc_ (i := 19) (N := some 22) (v := undef) (a' := ?_) (f_ 39 20) rfl rfl Ti_ (fun _ _ _ h => h) (Or.inr ⟨?_, rfl⟩) ?_ ?_; (focus rfl); rotate_left; (focus (simp only [Act.put, s1_, s2_, s3_, ya_, za_]; rfl)))
 all_goals first
  | (refine tA_ 20 23 ?_ (f_ 39 21) rfl rfl Ti_ (fun _ _ _ h => h) ?_ ?_ hHeld ?_ ?_ ?_; rotate_left; (focus rfl); (focus (rintro w' ⟨s0, s1, s2, s3⟩; go_simp; try with_reducible rfl)); rotate_left; (focus (simp only [Act.put, s1_, s2_, s3_, ya_, za_]; rfl)))
  | (refine take_ (i := 20) (N := some 23) (v := undef) (a' := ?_) (f_ 39 21) rfl rfl Ti_ (fun _ _ _ h => h) (Or.inr ⟨?_, rfl⟩) hHeld ?_ ?_; (focus rfl); rotate_left; (focus (simp only [Act.put, s1_, s2_, s3_, ya_, za_]; rfl)))
 all_goals first
  | (refine pU_ 21 24 ?_ (f_ 39 22) rfl rfl Ti_ (fun _ _ _ h => h) ?_ ?_ ?_ ?_ ?_; rotate_left; (focus rfl); (focus (intro w'; go_simp; try with_reducible rfl)); rotate_left; (focus (simp only [Act.put, s1_, s2_, s3_, ya_, za_]; rfl)))
  | (refine qc_ (i := 21) (N := some 24) (v := undef) (a' := ?_) (f_ 39 22) rfl rfl Ti_ (fun _ _ _ h => h) (Or.inr ⟨?_, rfl⟩) ?_ ?_; (focus rfl); rotate_left; (focus (simp only [Act.put, s1_, s2_, s3_, ya_, za_]; rfl)))
 all_goals first
  | (refine tA_ 22 25 ?_ (f_ 39 23) rfl rfl Ti_ (fun _ _ _ h => h) ?_ ?_ hHeld ?_ ?_ ?_; rotate_left; (focus rfl); (focus (rintro w' ⟨s0, s1, s2, s3⟩; go_simp; try with_reducible rfl)); rotate_left; (focus (simp only [Act.put, s1_, s2_, s3_, ya_, za_]; rfl)))
  | (refine take_ (i := 22) (N := some 25) (v := undef) (a' := ?_) (f_ 39 23) rfl rfl Ti_ (fun _ _ _ h => h) (Or.inr ⟨?_, rfl⟩) hHeld ?_ ?_; (focus rfl); rotate_left; (focus (simp only [Act.put, s1_, s2_, s3_, ya_, za_]; rfl)))
 all_goals first
  | (refine pU_ 23 26 ?_ (f_ 39 24) rfl rfl Ti_ (fun _ _ _ h => h) ?_ ?_ ?_ ?_ ?_; rotate_left; (focus rfl); (focus (intro w'; go_simp; try with_reducible rfl)); rotate_left; (focus (simp only [Act.put, s1_, s2_, s3_, ya_, za_]; rfl)))
  | (refine qc_ (i := 23) (N := some 26) (v := undef) (a' := ?_) (f_ 39 24) rfl rfl Ti_ (fun _ _ _ h => h) (Or.inr ⟨?_, rfl⟩) ?_ ?_; (focus rfl); rotate_left; (focus (simp only [Act.put, s1_, s2_, s3_, ya_, za_]; rfl)))
 all_goals first
  | (refine pU_ 24 27 ?_ (f_ 39 25) rfl rfl Ti_ (fun _ _ _ h => h) ?_ ?_ ?_ ?_ ?_; rotate_left; (focus rfl); (focus (intro w'; go_simp; try with_reducible rfl)); rotate_left; (focus (simp only [Act.put, s1_, s2_, s3_, ya_, za_]; rfl)))
  | (refine qc_ (i := 24) (N := some 27) (v := undef) (a' := ?_) (f_ 39 25) rfl rfl Ti_ (fun _ _ _ h => h) (Or.inr ⟨?_, rfl⟩) ?_ ?_; (focus rfl); rotate_left; (focus (simp only [Act.put, s1_, s2_, s3_, ya_, za_]; rfl)))
 all_goals first
  | (refine pU_ 25 28 ?_ (f_ 39 26) rfl rfl Ti_ (fun _ _ _ h => h) ?_ ?_ ?_ ?_ ?_; rotate_left; (focus rfl); (focus (intro w'; go_simp; try with_reducible rfl)); rotate_left; (focus (simp only [Act.put, s1_, s2_, s3_, ya_, za_]; rfl)))
  | (refine qc_ (i := 25) (N := some 28) (v := undef) (a' := ?_) (f_ 39 26) rfl rfl Ti_ (fun _ _ _ h => h) (Or.inr ⟨?_, rfl⟩) ?_ ?_; (focus rfl); rotate_left; (focus (simp only [Act.put, s1_, s2_, s3_, ya_, za_]; rfl)))
 all_goals first
  | (refine pU_ 26 29 ?_ (f_ 39 27) rfl rfl Ti_ (fun _ _ _ h => h) ?_ ?_ ?_ ?_ ?_; rotate_left; (focus rfl); (focus (intro w'; go_simp; try with_reducible rfl)); rotate_left; (focus (simp only [Act.put, s1_, s2_, s3_, ya_, za_]; rfl)))
  | (refine qc_ (i := 26) (N := some 29) (v := undef) (a' := ?_) (f_ 39 27) rfl rfl Ti_ (fun _ _ _ h => h) (Or.inr ⟨?_, rfl⟩) ?_ ?_; (focus rfl); rotate_left; (focus (simp only [Act.put, s1_, s2_, s3_, ya_, za_]; rfl)))
 all_goals (refine pU_ 27 30 ?_ (f_ 39 28) rfl rfl Ti_ (fun _ _ _ h => h) ?_ ?_ ?_ ?_ ?_; rotate_left; (focus rfl); (focus (intro w'; go_simp; try with_reducible rfl)); rotate_left; (focus (simp only [Act.put, s1_, s2_, s3_, ya_, za_]; rfl)))
 all_goals (refine pU_ 28 31 ?_ (f_ 39 29) rfl rfl Ti_ (fun _ _ _ h => h) ?_ ?_ ?_ ?_ ?_; rotate_left; (focus rfl); (focus (intro w'; go_simp; try with_reducible rfl)); rotate_left; (focus (simp only [Act.put, s1_, s2_, s3_, ya_, za_]; rfl)))
 all_goals first
  | (refine pU_ 29 32 ?_ (f_ 39 30) rfl rfl Ti_ (fun _ _ _ h => h) ?_ ?_ ?_ ?_ ?_; rotate_left; (focus rfl); (focus (intro w'; go_simp; try with_reducible rfl)); rotate_left; (focus (simp only [Act.put, s1_, s2_, s3_, ya_, za_]; rfl)))
  | (refine qc_ (i := 29) (N := some 32) (v := undef) (a' := ?_) (f_ 39 30) rfl rfl Ti_ (fun _ _ _ h => h) (Or.inr ⟨?_, rfl⟩) ?_ ?_; (focus rfl); rotate_left; (focus (simp only [Act.put, s1_, s2_, s3_, ya_, za_]; rfl)))
 all_goals first
  | (refine tA_ 30 33 ?_ (f_ 39 31) rfl rfl Ti_ (fun _ _ _ h => h) ?_ ?_ hHeld ?_ ?_ ?_; rotate_left; (focus rfl); (focus (rintro w' ⟨s0, s1, s2, s3⟩; go_simp; try with_reducible rfl)); rotate_left; (focus (simp only [Act.put, s1_, s2_, s3_, ya_, za_]; rfl)))
  | (refine take_ (i := 30) (N := some 33) (v := undef) (a' := ?_) (f_ 39 31) rfl rfl Ti_ (fun _ _ _ h => h) (Or.inr ⟨?_, rfl⟩) hHeld ?_ ?_; (focus rfl); rotate_left; (focus (simp only [Act.put, s1_, s2_, s3_, ya_, za_]; rfl)))
 all_goals refine oN_ 31 fun K hK => ?_
 all_goals first
  | (refine ko_ Tryz.func92 Ti_ rfl #[.int .i64 c] ?_ rfl rfl Vx_ ?_; (focus rfl); refine (H5.out _).mono ?_; rintro e w' ⟨rfl, hB⟩; refine ⟨_, rfl, ?_⟩; refine hK.out _ _ ⟨fa_ hB hHeld.1, fa_ hB hHeld.2.1, fa_ hB hHeld.2.2.1, ⟨da_ hHeld.2.2.2.out hB⟩⟩ (fun hHeld => ?_))
  | (refine nogo_ ?_ ?_; (focus rfl); refine hK.out _ _ hHeld (fun hHeld => ?_))
 all_goals clear hK K
 all_goals (refine bm_ (a' := ?_) ?_ ?_; rotate_left; (focus (show Act.put _ (some 34) _ = _; simp only [Act.put, s1_, s2_, s3_, ya_, za_]; rfl)))
 all_goals (refine pU_ 32 35 ?_ (f_ 39 33) rfl rfl Ti_ (fun _ _ _ h => h) ?_ ?_ ?_ ?_ ?_; rotate_left; (focus rfl); (focus (intro w'; go_simp; try with_reducible rfl)); rotate_left; (focus (simp only [Act.put, s1_, s2_, s3_, ya_, za_]; rfl)))
 all_goals (refine pU_ 33 36 ?_ (f_ 39 34) rfl rfl Ti_ (fun _ _ _ h => h) ?_ ?_ ?_ ?_ ?_; rotate_left; (focus rfl); (focus (intro w'; go_simp; try with_reducible rfl)); rotate_left; (focus (simp only [Act.put, s1_, s2_, s3_, ya_, za_]; rfl)))
 all_goals first
  | (refine pU_ 34 37 ?_ (f_ 39 35) rfl rfl Ti_ (fun _ _ _ h => h) ?_ ?_ ?_ ?_ ?_; rotate_left; (focus rfl); (focus (intro w'; go_simp; try with_reducible rfl)); rotate_left; (focus (simp only [Act.put, s1_, s2_, s3_, ya_, za_]; rfl)))
  | (refine qc_ (i := 34) (N := some 37) (v := undef) (a' := ?_) (f_ 39 35) rfl rfl Ti_ (fun _ _ _ h => h) (Or.inr ⟨?_, rfl⟩) ?_ ?_; (focus rfl); rotate_left; (focus (simp only [Act.put, s1_, s2_, s3_, ya_, za_]; rfl)))
 all_goals first
  | (refine tA_ 35 38 ?_ (f_ 39 36) rfl rfl Ti_ (fun _ _ _ h => h) ?_ ?_ hHeld ?_ ?_ ?_; rotate_left; (focus rfl); (focus (rintro w' ⟨s0, s1, s2, s3⟩; go_simp; try with_reducible rfl)); rotate_left; (focus (simp only [Act.put, s1_, s2_, s3_, ya_, za_]; rfl)))
  | (refine take_ (i := 35) (N := some 38) (v := undef) (a' := ?_) (f_ 39 36) rfl rfl Ti_ (fun _ _ _ h => h) (Or.inr ⟨?_, rfl⟩) hHeld ?_ ?_; (focus rfl); rotate_left; (focus (simp only [Act.put, s1_, s2_, s3_, ya_, za_]; rfl)))
 all_goals refine oN_ 36 fun K hK => ?_
 all_goals first
  | (refine ko_ Tryz.func42 Ti_ rfl #[.int .i64 v, .int .i64 (-1000000000), .int .i64 1000000000] ?_ rfl rfl Vx_ ?_; (focus rfl); refine (H6.out _).mono ?_; rintro e w' ⟨rfl, hB⟩; refine ⟨_, rfl, ?_⟩; refine hK.out _ _ ⟨fa_ hB hHeld.1, fa_ hB hHeld.2.1, fa_ hB hHeld.2.2.1, ⟨da_ hHeld.2.2.2.out hB⟩⟩ (fun hHeld => ?_))
  | (refine nogo_ ?_ ?_; (focus rfl); refine hK.out _ _ hHeld (fun hHeld => ?_))
 all_goals clear hK K
 all_goals (refine bm_ (a' := ?_) ?_ ?_; rotate_left; (focus (show Act.put _ (some 39) _ = _; simp only [Act.put, s1_, s2_, s3_, ya_, za_]; rfl)))
 all_goals (refine pU_ 37 40 ?_ (f_ 39 38) rfl rfl Ti_ (fun _ _ _ h => h) ?_ ?_ ?_ ?_ ?_; rotate_left; (focus rfl); (focus (intro w'; go_simp; try with_reducible rfl)); rotate_left; (focus (simp only [Act.put, s1_, s2_, s3_, ya_, za_]; rfl)))
 all_goals (refine pU_ 38 2 ?_ (f_ 39 39) rfl rfl Ti_ (fun _ _ _ h => h) ?_ ?_ ?_ ?_ ?_; rotate_left; (focus rfl); (focus (intro w'; go_simp; try with_reducible rfl)); rotate_left; (focus (simp only [Act.put, s1_, s2_, s3_, ya_, za_]; rfl)))
 all_goals refine wd_ Ti_ ?_
 all_goals
  go_wp2
  go_ret
  rw [HRR.out]; exact ⟨rfl, hHeld.2.2.2.out⟩
end Go.Proofs.YtiocgaekoeekgaaGreat.P
end
section
namespace Go.Proofs.YtiocgaekoeekgaaGreat.P
open Go.RowKit YtiocgaekoeekgaaGreatW.PrintWords YtiocgaekoeekgaaGreatW.PrintLast YtiocgaekoeekgaaGreatW.PrintMore
attribute [local go_sem] ub_ rb_ cc_ bc_ kb_ jb_ tb_ qb_   
set_option linter.unusedVariables false
set_option linter.unusedSimpArgs false
attribute [local go_sem] Oper.semAt_some
theorem eqA48 (d : Nat) (w : World) (x0 y0 : Int) (x1 y1 : BA) (x2 y2 : Int) (x3 y3 : Int) (x4 y4 : Int) :
  (Op.equalIn (d + 2) 48 (.agg #[.int .i64 x0, .string x1, .int .i64 x2, .int .i64 x3, .int .i64 x4]) (.agg #[.int .i64 y0, .string y1, .int .i64 y2, .int .i64 y3, .int .i64 y4])).run Tryz.prog w = .ok (x0 == y0 && (x1.toList == y1.toList && (x2 == y2 && (x3 == y3 && (x4 == y4))))) w := by
 refine eqA_of Tryz.underlying48 Ti_ ?_
 refine wj_ Vh_ Xd_ Xd_ (by go_simp) ?_
 refine wj_ Vh_ Xd_ Xd_ (by go_simp) ?_
 refine wj_ Vh_ Xd_ Xd_ (by go_simp) ?_
 refine wj_ Vh_ Xd_ Xd_ (by go_simp) ?_
 exact eqf_last Vh_ Xd_ Xd_ (by go_simp)
attribute [local go_sem high] eqA48
def rk_ (e : Bool) (s : BA) (f v : Int) : Bool := e && (decide ((s.size : Int) ≤ 20) && (ib_ f 0 5 && ib_ v 0 9))
def bg_ (x : S48) : Bool :=
 if x.f0 = 0 then rk_ (x.f2 == 0 && (x.f3 == 0 && x.f4 == 0)) x.f1 x.f2 x.f3
 else if x.f0 = 1 then rk_ (x.f1.toList == ([] : List UInt8) && x.f4 == 0) x.f1 x.f2 x.f3
 else if x.f0 = 2 then ib_ x.f4 1 49 && rk_ (x.f1.toList == ([] : List UInt8) && x.f3 == 0) x.f1 x.f2 x.f3
 else false
theorem as_ (x : S48) (w : World) :
  Calls Tryz.prog 94 #[.agg #[.int .i64 x.f0, .string x.f1, .int .i64 x.f2, .int .i64 x.f3, .int .i64 x.f4]] w fun e w' => e = .returned (.bool (bg_ x)) ∧ Below w.heap.size w w' := by
 obtain ⟨k, s, f, v, c⟩ := x
 have HE : Az (bg_ ⟨k, s, f, v, c⟩ = if k = 0 then rk_ (f == 0 && (v == 0 && c == 0)) s f v else if k = 1 then rk_ (s.toList == ([] : List UInt8) && c == 0) s f v else if k = 2 then ib_ c 1 49 && rk_ (s.toList == ([] : List UInt8) && v == 0) s f v else false) := ⟨rfl⟩
 generalize bg_ ⟨k, s, f, v, c⟩ = r at *
 have hu1 := Tryz.underlying48
 obtain ⟨b2, hb2⟩ : ∃ b, decide ((s.size : Int) ≤ 20) = b := ⟨_, rfl⟩
 have hb2' : decide (s.size ≤ 20) = b2 := by rw [← hb2]; congr 1; simp; omega
 obtain ⟨b3, hb3⟩ : ∃ b, ib_ f 0 5 = b := ⟨_, rfl⟩
 obtain ⟨b4, hb4⟩ : ∃ b, ib_ v 0 9 = b := ⟨_, rfl⟩
 obtain ⟨b5, hb5⟩ : ∃ b, ib_ c 1 49 = b := ⟨_, rfl⟩
 have HT : Az (∀ e, rk_ e s f v = (e && (b2 && (b3 && b4)))) := ⟨fun e => by unfold rk_; rw [hb2, hb3, hb4]⟩
 have H3 : Az (∀ W, Calls Tryz.prog 42 #[.int .i64 f, .int .i64 0, .int .i64 5] W fun e w' => e = .returned (.bool b3) ∧ Below W.heap.size W w') := ⟨by rw [← hb3]; exact ve_ f 0 5⟩
 have H4 : Az (∀ W, Calls Tryz.prog 42 #[.int .i64 v, .int .i64 0, .int .i64 9] W fun e w' => e = .returned (.bool b4) ∧ Below W.heap.size W w') := ⟨by rw [← hb4]; exact ve_ v 0 9⟩
 have H5 : Az (∀ W, Calls Tryz.prog 92 #[.int .i64 c] W fun e w' => e = .returned (.bool b5) ∧ Below W.heap.size W w') := ⟨by rw [← hb5]; exact word_w c⟩
 have HB5 := aM_ hb5
 clear hb3 hb4 hb5
 by_cases k0 : k = 0
 ·subst k0
  obtain ⟨e, he⟩ : ∃ e, (f == 0 && (v == 0 && c == 0)) = e := ⟨_, rfl⟩; have HR : Az (r = (e && (b2 && (b3 && b4)))) := ⟨by rw [HE.out, if_pos rfl, HT.out, he]⟩; clear HE HT HB5 H5
  have hcase : (e = false ∧ r = false) ∨ (e = true ∧ b2 = false ∧ r = false) ∨ (e = true ∧ b2 = true ∧ b3 = false ∧ r = false) ∨ (e = true ∧ b2 = true ∧ b3 = true ∧ r = b4) := by
   have h := HR.out; clear he hb2 hb2'
   revert h
   cases e <;> cases b2 <;> cases b3 <;> simp
  clear HR
  rcases hcase with ⟨rfl, hr⟩ | ⟨rfl, rfl, hr⟩ | ⟨rfl, rfl, rfl, hr⟩ | ⟨rfl, rfl, rfl, hr⟩
  all_goals
   have HRR := aM_ hr; clear hr
   go_enter Tryz.func94, Tryz.ntmps94
   go_wp2_with (first | (go_at_call 42; with_reducible refine (H3.out _).mono ?_; rintro e w' ⟨rfl, hB3⟩; have h3' : w'.cell? ⟨w.heap.size, 3, none⟩ = some (.int .i64 v) := fa_ hB3 (by go_simp); have HW3 : Az (Below w.heap.size w w') := ⟨da_ Tv_ hB3⟩; clear hB3) | (go_at_call 42; with_reducible refine (H4.out _).mono ?_; rintro e w'' ⟨rfl, hB4⟩))
   go_ret
   rw [HRR.out]
   first | exact ⟨rfl, da_ HW3.out hB4⟩ | exact ⟨rfl, HW3.out⟩ | exact ⟨rfl, Tv_⟩
 by_cases k1 : k = 1
 ·subst k1
  obtain ⟨e, he⟩ : ∃ e, (s.toList == ([] : List UInt8) && c == 0) = e := ⟨_, rfl⟩; have hei : (s.toList.isEmpty && c == 0) = e := by rw [← he]; cases s.toList <;> rfl
  have HR : Az (r = (e && (b2 && (b3 && b4)))) := ⟨by rw [HE.out, if_neg k0, if_pos rfl, HT.out, he]⟩; clear HE HT HB5 H5
  have hcase : (e = false ∧ r = false) ∨ (e = true ∧ b2 = false ∧ r = false) ∨ (e = true ∧ b2 = true ∧ b3 = false ∧ r = false) ∨ (e = true ∧ b2 = true ∧ b3 = true ∧ r = b4) := by
   have h := HR.out; clear he hei hb2 hb2'
   revert h
   cases e <;> cases b2 <;> cases b3 <;> simp
  clear HR
  rcases hcase with ⟨rfl, hr⟩ | ⟨rfl, rfl, hr⟩ | ⟨rfl, rfl, rfl, hr⟩ | ⟨rfl, rfl, rfl, hr⟩
  all_goals
   have HRR := aM_ hr; clear hr
   go_enter Tryz.func94, Tryz.ntmps94
   go_wp2_with fail
   go_region
   go_wp2_with (first | (go_at_call 42; with_reducible refine (H3.out _).mono ?_; rintro e w' ⟨rfl, hB3⟩; have h3' : w'.cell? ⟨w.heap.size, 3, none⟩ = some (.int .i64 v) := fa_ hB3 (by go_simp); have HW3 : Az (Below w.heap.size w w') := ⟨da_ Tv_ hB3⟩; clear hB3) | (go_at_call 42; with_reducible refine (H4.out _).mono ?_; rintro e w'' ⟨rfl, hB4⟩))
   go_ret
   rw [HRR.out]
   first | exact ⟨rfl, da_ HW3.out hB4⟩ | exact ⟨rfl, HW3.out⟩ | exact ⟨rfl, Tv_⟩
 by_cases k2 : k = 2
 ·subst k2
  obtain ⟨e, he⟩ : ∃ e, (s.toList == ([] : List UInt8) && v == 0) = e := ⟨_, rfl⟩; have hei : (s.toList.isEmpty && v == 0) = e := by rw [← he]; cases s.toList <;> rfl
  have HR : Az (r = (b5 && (e && (b2 && (b3 && b4))))) := ⟨by rw [HE.out, if_neg k0, if_neg k1, if_pos rfl, HT.out, he, HB5.out]⟩; clear HE HT HB5
  have hcase : (b5 = false ∧ r = false) ∨ (b5 = true ∧ e = false ∧ r = false) ∨ (b5 = true ∧ e = true ∧ b2 = false ∧ r = false) ∨ (b5 = true ∧ e = true ∧ b2 = true ∧ b3 = false ∧ r = false) ∨ (b5 = true ∧ e = true ∧ b2 = true ∧ b3 = true ∧ r = b4) := by
   have h := HR.out; clear he hei hb2 hb2'
   revert h
   cases b5 <;> cases e <;> cases b2 <;> cases b3 <;> simp
  clear HR
  rcases hcase with ⟨rfl, hr⟩ | ⟨rfl, rfl, hr⟩ | ⟨rfl, rfl, rfl, hr⟩ | ⟨rfl, rfl, rfl, rfl, hr⟩ | ⟨rfl, rfl, rfl, rfl, hr⟩
  all_goals
   have HRR := aM_ hr; clear hr
   go_enter Tryz.func94, Tryz.ntmps94
   go_wp2_with fail
   go_region
   go_wp2_with (first | (go_at_call 42; with_reducible refine (H3.out _).mono ?_; rintro e w' ⟨rfl, hB3⟩; have h3' : w'.cell? ⟨w.heap.size, 3, none⟩ = some (.int .i64 v) := fa_ hB3 ha3; have HW3 : Az (Below w.heap.size w w') := ⟨da_ (by first | exact HW5.out | repeat (first | with_reducible exact Below.refl _ _ | with_reducible apply aa_ | with_reducible apply ga_ | (with_reducible refine Below.setCell (p := ⟨_, _, none⟩) ?_ ?_ _; rotate_left; (focus (simp; done))))) hB3⟩; clear hB3) | (go_at_call 42; with_reducible refine (H4.out _).mono ?_; rintro e w'' ⟨rfl, hB4⟩) | (go_at_call 92; go_loud (with_reducible refine (H5.out _).mono ?_; rintro e w5 ⟨rfl, hB5⟩; have ha0 : w5.cell? ⟨w.heap.size, 0, none⟩ = some (.int .i64 2) := fa_ hB5 (by go_simp); have ha1 : w5.cell? ⟨w.heap.size, 1, none⟩ = some (.string s) := fa_ hB5 (by go_simp); have ha2 : w5.cell? ⟨w.heap.size, 2, none⟩ = some (.int .i64 f) := fa_ hB5 (by go_simp); have ha3 : w5.cell? ⟨w.heap.size, 3, none⟩ = some (.int .i64 v) := fa_ hB5 (by go_simp); have ha4 : w5.cell? ⟨w.heap.size, 4, none⟩ = some (.int .i64 c) := fa_ hB5 (by go_simp); have hb0 : w5.cell? ⟨w.heap.size + 1, 0, none⟩ = some (.int .i64 2) := fa_ hB5 (by go_simp); have hb1 : w5.cell? ⟨w.heap.size + 1, 1, none⟩ = some (.string ⟨#[]⟩) := fa_ hB5 (by go_simp); have hb2 : w5.cell? ⟨w.heap.size + 1, 2, none⟩ = some (.int .i64 f) := fa_ hB5 (by go_simp); have hb3 : w5.cell? ⟨w.heap.size + 1, 3, none⟩ = some (.int .i64 0) := fa_ hB5 (by go_simp); have hb4 : w5.cell? ⟨w.heap.size + 1, 4, none⟩ = some (.int .i64 c) := fa_ hB5 (by go_simp); have HW5 : Az (Below w.heap.size w w5) := ⟨da_ (by repeat (first | with_reducible exact Below.refl _ _ | with_reducible apply aa_ | with_reducible apply ga_)) hB5⟩; clear hB5)))
   go_ret
   rw [HRR.out]
   first | exact ⟨rfl, da_ HW3.out hB4⟩ | exact ⟨rfl, HW3.out⟩ | exact ⟨rfl, HW5.out⟩ | exact ⟨rfl, Tv_⟩
 have hkk0 : (k == 0) = false := by simpa using k0
 have hkk1 : (k == 1) = false := by simpa using k1
 have hkk2 : (k == 2) = false := by simpa using k2
 have HR : Az (r = false) := ⟨by rw [HE.out, if_neg k0, if_neg k1, if_neg k2]⟩
 clear HE HT HB5 k0 k1 k2
 go_enter Tryz.func94, Tryz.ntmps94
 go_wp2_with fail
 go_ret
 rw [HR.out]
 exact ⟨rfl, (by repeat (first | with_reducible exact Below.refl _ _ | with_reducible apply aa_))⟩
end Go.Proofs.YtiocgaekoeekgaaGreat.P
end
section
namespace Go.Proofs.YtiocgaekoeekgaaGreat.P
open Go.RowKit YtiocgaekoeekgaaGreatW.PrintWords YtiocgaekoeekgaaGreatW.PrintLast YtiocgaekoeekgaaGreatW.PrintMore
attribute [local go_sem] ub_ rb_ cc_ bc_ kb_ jb_ tb_ qb_   
set_option linter.unusedVariables false
set_option linter.unusedSimpArgs false
attribute [local go_sem] Oper.semAt_some
theorem et_ (A : Option Addr) (c : Nat) (l : List S46) (w : World) (hr : Kd.C k46 w A l.length l) (hc : l.length ≤ c) :
  Calls Tryz.prog 43 #[.slice A l.length c, .func (.func 44) #[] #[]] w fun e w' => e = .returned (.bool (l.all ie_)) ∧ Below w.heap.size w w' := by
 have HR := aM_ hr
 have hbn : l.length ≤ 9223372036854775807 := hr.2.1
 have HE : Az (l.all ie_ = (l.drop 0).all ie_) := ⟨rfl⟩
 generalize l.all ie_ = r at *
 clear hr
 go_enter Tryz.func43, Tryz.ntmps43
 go_wp2
 go_loopg [9] l.length (fun gg s9 wr => ∃ i : Nat, i ≤ l.length ∧ l.length - i ≤ gg ∧ s9 = .int .i64 i ∧ Az (r = (l.drop i).all ie_) ∧ Az (Below w.heap.size w wr))
 case atStart => exact ⟨0, Td_, Td_, rfl, HE, ⟨Below.refl _ _⟩⟩
 clear HE
 obtain ⟨i, hi, hgg, rfl, HE, HW⟩ := hrel
 by_cases hil : i < l.length
 ·have hilz : (i : Int) < (l.length : Int) := by omega
  obtain ⟨ad, hA, h0, h1, h2⟩ := tp_ (Kd.C_below HR.out HW.out) (i : Int) Td_ hilz; subst hA
  have hy : le_ l (i : Int) = l[i] := by
   show l.getD (i : Int).toNat _ = _; rw [Int.toNat_natCast, List.getD_eq_getElem?_getD, List.getElem?_eq_getElem hil]; rfl
  have HE1 : Az (r = (ie_ (le_ l (i : Int)) && (l.drop (i + 1)).all ie_)) := ⟨Wp_⟩; clear hy HE; generalize le_ l (i : Int) = y at *; rw [Int.toNat_natCast] at h0 h1 h2
  go_wp2_with fail
  refine (fr_ y _).mono ?_; rintro e w2 ⟨rfl, hB2⟩; have HW2 : Az (Below w.heap.size w w2) := ⟨da_ HW.out (da_ (aa_ (Below.refl _ _) _) hB2)⟩; clear hB2 HW h0 h1 h2
  cases hp : ie_ y with
  | true =>
   have HG : Az (r = (l.drop (i + 1)).all ie_) := ⟨by rw [HE1.out, hp, Bool.true_and]⟩; clear hp HE1
   go_wp2
   go_roundg (l.length - (i + 1))
   case measure => omega
   case rel => exact ⟨i + 1, Td_, Td_, Va_, HG, HW2⟩
  | false =>
   have HG : Az (r = false) := ⟨by rw [HE1.out, hp, Bool.false_and]⟩; clear hp HE1
   go_wp2
   go_ret
   rw [HG.out]; exact ⟨rfl, HW2.out⟩
 have he : i = l.length := by omega
 have hilz : decide ((i : Int) < (l.length : Int)) = false := by simp; omega
 have HG : Az (r = true) := ⟨by rw [HE.out, he, List.drop_length]; rfl⟩
 clear he
 go_wp2
 go_ret
 rw [HG.out]
 exact ⟨rfl, HW.out⟩
theorem dt_ (A : Option Addr) (c : Nat) (l : List S48) (w : World) (hr : Kd.C k48 w A l.length l) (hc : l.length ≤ c) :
  Calls Tryz.prog 93 #[.slice A l.length c, .func (.func 94) #[] #[]] w fun e w' => e = .returned (.bool (l.all bg_)) ∧ Below w.heap.size w w' := by
 have HR := aM_ hr
 have hbn : l.length ≤ 9223372036854775807 := hr.2.1
 have HE : Az (l.all bg_ = (l.drop 0).all bg_) := ⟨rfl⟩
 generalize l.all bg_ = r at *
 clear hr
 go_enter Tryz.func93, Tryz.ntmps93
 go_wp2
 go_loopg [9] l.length (fun gg s9 wr => ∃ i : Nat, i ≤ l.length ∧ l.length - i ≤ gg ∧ s9 = .int .i64 i ∧ Az (r = (l.drop i).all bg_) ∧ Az (Below w.heap.size w wr))
 case atStart => exact ⟨0, Td_, Td_, rfl, HE, ⟨Below.refl _ _⟩⟩
 clear HE
 obtain ⟨i, hi, hgg, rfl, HE, HW⟩ := hrel
 by_cases hil : i < l.length
 ·have hilz : (i : Int) < (l.length : Int) := by omega
  obtain ⟨ad, hA, h0, h1, h2, h3, h4⟩ := kt_ (Kd.C_below HR.out HW.out) (i : Int) Td_ hilz; subst hA
  have hy : pd_ l (i : Int) = l[i] := by
   show l.getD (i : Int).toNat _ = _; rw [Int.toNat_natCast, List.getD_eq_getElem?_getD, List.getElem?_eq_getElem hil]; rfl
  have HE1 : Az (r = (bg_ (pd_ l (i : Int)) && (l.drop (i + 1)).all bg_)) := ⟨Wp_⟩; clear hy HE; generalize pd_ l (i : Int) = y at *; rw [Int.toNat_natCast] at h0 h1 h2 h3 h4
  go_wp2_with fail
  refine (as_ y _).mono ?_; rintro e w2 ⟨rfl, hB2⟩; have HW2 : Az (Below w.heap.size w w2) := ⟨da_ HW.out (da_ (aa_ (Below.refl _ _) _) hB2)⟩; clear hB2 HW h0 h1 h2 h3 h4
  cases hp : bg_ y with
  | true =>
   have HG : Az (r = (l.drop (i + 1)).all bg_) := ⟨by rw [HE1.out, hp, Bool.true_and]⟩; clear hp HE1
   go_wp2
   go_roundg (l.length - (i + 1))
   case measure => omega
   case rel => exact ⟨i + 1, Td_, Td_, Va_, HG, HW2⟩
  | false =>
   have HG : Az (r = false) := ⟨by rw [HE1.out, hp, Bool.false_and]⟩; clear hp HE1
   go_wp2
   go_ret
   rw [HG.out]; exact ⟨rfl, HW2.out⟩
 have he : i = l.length := by omega
 have hilz : decide ((i : Int) < (l.length : Int)) = false := by simp; omega
 have HG : Az (r = true) := ⟨by rw [HE.out, he, List.drop_length]; rfl⟩
 clear he
 go_wp2
 go_ret
 rw [HG.out]
 exact ⟨rfl, HW.out⟩
def bf_ (x : S52) : Bool := ib_ x.f0 4 10 && (ib_ (x.f1.length : Int) 1 12 && x.f1.all bg_)
theorem wp_ (x : S52) (A : Option Addr) (c : Nat) (w : World) (hr : Kd.C k48 w A x.f1.length x.f1) (hc : x.f1.length ≤ c) :
  Calls Tryz.prog 46 #[.agg #[.int .i64 x.f0, .slice A x.f1.length c]] w fun e w' => e = .returned (.bool (bf_ x)) ∧ Below w.heap.size w w' := by
 obtain ⟨k, l⟩ := x
 have HE : Az (bf_ ⟨k, l⟩ = (ib_ k 4 10 && (ib_ (l.length : Int) 1 12 && l.all bg_))) := ⟨rfl⟩
 generalize bf_ ⟨k, l⟩ = r at *
 have hu1 := Tryz.underlying52
 have HR := aM_ hr
 have HC := aM_ hc
 obtain ⟨b1, hb1⟩ : ∃ b, ib_ k 4 10 = b := ⟨_, rfl⟩
 obtain ⟨b2, hb2⟩ : ∃ b, ib_ (l.length : Int) 1 12 = b := ⟨_, rfl⟩
 obtain ⟨b3, hb3⟩ : ∃ b, l.all bg_ = b := ⟨_, rfl⟩
 have HB : Az (r = (b1 && (b2 && b3))) := ⟨by rw [HE.out, hb1, hb2, hb3]⟩
 have H1 : Az (∀ W, Calls Tryz.prog 42 #[.int .i64 k, .int .i64 4, .int .i64 10] W fun e w' => e = .returned (.bool b1) ∧ Below W.heap.size W w') := ⟨by rw [← hb1]; exact ve_ k 4 10⟩
 have H2 : Az (∀ W, Calls Tryz.prog 42 #[.int .i64 (l.length : Int), .int .i64 1, .int .i64 12] W fun e w' => e = .returned (.bool b2) ∧ Below W.heap.size W w') := ⟨by rw [← hb2]; exact ve_ _ 1 12⟩
 have H3 : Az (∀ W, Below w.heap.size w W → Calls Tryz.prog 93 #[.slice A l.length c, .func (.func 94) #[] #[]] W fun e w' => e = .returned (.bool b3) ∧ Below W.heap.size W w') := ⟨by rw [← hb3]; exact fun W hB => dt_ A c l W (Kd.C_below HR.out hB) HC.out⟩
 clear hb1 hb2 hb3 HE hr hc
 have hcase : (b1 = false ∧ r = false) ∨ (b1 = true ∧ b2 = false ∧ r = false) ∨ (b1 = true ∧ b2 = true ∧ r = b3) := by
  have h := HB.out
  revert h
  cases b1 <;> cases b2 <;> simp
 clear HB
 have hA0 : (w.alloc (.cells #[.int .i64 k, .slice A l.length c] 52)).cell? ⟨w.heap.size, 1, none⟩ = some (.slice A l.length c) := ba_ (oa_ w _) 1
 rcases hcase with ⟨rfl, hr⟩ | ⟨rfl, rfl, hr⟩ | ⟨rfl, rfl, hr⟩
 all_goals
  have HRR := aM_ hr; clear hr
  go_enter Tryz.func46, Tryz.ntmps46
  go_wp2_with (first | (go_at_call 42; with_reducible refine (H1.out _).mono ?_; rintro e w1 ⟨rfl, hB1⟩; have ha1 := fa_ hB1 hA0; have HB1 : Az (Below w.heap.size w w1) := ⟨da_ (aa_ (Below.refl _ _) _) hB1⟩; clear hB1) | (go_at_call 42; with_reducible refine (H2.out _).mono ?_; rintro e w2 ⟨rfl, hB2⟩; have ha2 := fa_ hB2 ha1; have HB2 : Az (Below w.heap.size w w2) := ⟨da_ HB1.out hB2⟩; clear hB2) | (go_at_call 93; with_reducible refine (H3.out _ HB2.out).mono ?_; rintro e w3 ⟨rfl, hB3⟩; have HB3 : Az (Below w.heap.size w w3) := ⟨da_ HB2.out hB3⟩; clear hB3))
  go_ret
  rw [HRR.out]
  first | exact ⟨rfl, HB3.out⟩ | exact ⟨rfl, HB2.out⟩ | exact ⟨rfl, HB1.out⟩
theorem ct_ (A : Option Addr) (c : Nat) (l : List S52) (w : World) (hr : Kd.C k52 w A l.length l) (hc : l.length ≤ c) :
  Calls Tryz.prog 45 #[.slice A l.length c, .func (.func 46) #[] #[]] w fun e w' => e = .returned (.bool (l.all bf_)) ∧ Below w.heap.size w w' := by
 have HR := aM_ hr
 have hbn : l.length ≤ 9223372036854775807 := hr.2.1
 have HE : Az (l.all bf_ = (l.drop 0).all bf_) := ⟨rfl⟩
 generalize l.all bf_ = r at *
 clear hr
 go_enter Tryz.func45, Tryz.ntmps45
 go_wp2
 go_loopg [9] l.length (fun gg s9 wr => ∃ i : Nat, i ≤ l.length ∧ l.length - i ≤ gg ∧ s9 = .int .i64 i ∧ Az (r = (l.drop i).all bf_) ∧ Az (Below w.heap.size w wr))
 case atStart => exact ⟨0, Td_, Td_, rfl, HE, ⟨Below.refl _ _⟩⟩
 clear HE
 obtain ⟨i, hi, hgg, rfl, HE, HW⟩ := hrel
 by_cases hil : i < l.length
 ·have hilz : (i : Int) < (l.length : Int) := by omega
  obtain ⟨ad, A1, c1, hA, h0, h1, l1, g1⟩ := sp_ (Kd.C_below HR.out HW.out) (i : Int) Td_ hilz; subst hA
  have hy : he_ l (i : Int) = l[i] := by
   show l.getD (i : Int).toNat _ = _; rw [Int.toNat_natCast, List.getD_eq_getElem?_getD, List.getElem?_eq_getElem hil]; rfl
  have HE1 : Az (r = (bf_ (he_ l (i : Int)) && (l.drop (i + 1)).all bf_)) := ⟨Wp_⟩; clear hy HE; generalize he_ l (i : Int) = y at *; rw [Int.toNat_natCast] at h0 h1; have HG1 := aM_ g1; have HL1 := aM_ l1; clear g1 l1
  go_wp2_with fail
  refine (wp_ y A1 c1 _ (Kd.C_alloc HG1.out _) HL1.out).mono ?_; rintro e w2 ⟨rfl, hB2⟩; have HW2 : Az (Below w.heap.size w w2) := ⟨da_ HW.out (da_ (aa_ (Below.refl _ _) _) hB2)⟩; clear hB2 HW h0 h1
  cases hp : bf_ y with
  | true =>
   have HG : Az (r = (l.drop (i + 1)).all bf_) := ⟨by rw [HE1.out, hp, Bool.true_and]⟩; clear hp HE1
   go_wp2
   go_roundg (l.length - (i + 1))
   case measure => omega
   case rel => exact ⟨i + 1, Td_, Td_, Va_, HG, HW2⟩
  | false =>
   have HG : Az (r = false) := ⟨by rw [HE1.out, hp, Bool.false_and]⟩; clear hp HE1
   go_wp2
   go_ret
   rw [HG.out]; exact ⟨rfl, HW2.out⟩
 have he : i = l.length := by omega
 have hilz : decide ((i : Int) < (l.length : Int)) = false := by simp; omega
 have HG : Az (r = true) := ⟨by rw [HE.out, he, List.drop_length]; rfl⟩
 clear he
 go_wp2
 go_ret
 rw [HG.out]
 exact ⟨rfl, HW.out⟩
end Go.Proofs.YtiocgaekoeekgaaGreat.P
end
section
namespace Go.Proofs.YtiocgaekoeekgaaGreat.P
open Go.RowKit YtiocgaekoeekgaaGreatW.PrintWords YtiocgaekoeekgaaGreatW.PrintLast YtiocgaekoeekgaaGreatW.PrintMore
attribute [local go_sem] ub_ rb_ cc_ bc_ kb_ jb_ tb_ qb_   
set_option linter.unusedVariables false
set_option linter.unusedSimpArgs false
theorem ug_ (fv : Value) (A0 : Option Addr) (c0 : Nat) (l0 : List S44) (p : S44 → Bool) (w : World) (hr0 : Kd.C k44 w A0 l0.length l0) (hc0 : l0.length ≤ c0)
  (hf : ke_ Tryz.prog w (jj_ k44) fv p) :
  Calls Tryz.prog 56 #[.slice A0 l0.length c0, fv] w fun e w' => e = .returned (.int .i64 (xc_ p l0)) ∧ Below w.heap.size w w' := by
 obtain ⟨g, pre, lb, rfl, eg, hq⟩ := hf
 have hl : l0.length ≤ 9223372036854775807 := hr0.2.1
 have HR := aM_ hr0
 clear hr0
 have HQ := aM_ hq
 clear hq
 go_enter Tryz.func56, Tryz.ntmps56
 go_wp2
 go_loopg [8] l0.length (fun gg s8 wr => ∃ kk : Nat, kk ≤ l0.length ∧ l0.length - kk ≤ gg ∧ s8 = .int .i64 kk ∧ Az (Below w.heap.size w wr) ∧ Az (∀ j, j < kk → ∀ h : j < l0.length, p l0[j] = false))
 case atStart => exact ⟨0, Nat.zero_le _, Td_, rfl, ⟨Below.refl _ w⟩, ⟨fun j hj => absurd hj (Nat.not_lt_zero _)⟩⟩
 obtain ⟨kk, hkk, hg, rfl, BW, A⟩ := hrel
 by_cases hlt : kk < l0.length
 ·have hltz : (kk : Int) < (l0.length : Int) := by omega
  obtain ⟨ad, A3, c3, A4, c4, A5, c5, hA, h0, h1, h2, h3, h4, h5, l3, g3, l4, g4, l5, g5⟩ := tf_ (Kd.C_below HR.out BW.out) kk Td_ hltz; have hcall := HQ.out wr (pa_ l0 kk) _ BW.out ⟨_, rfl, lm_ wr (pa_ l0 kk) l3 g3 l4 g4 l5 g5⟩; have hx : pa_ l0 kk = l0[kk] := by simp [pa_, List.getD_eq_getElem?_getD, List.getElem?_eq_getElem hlt]
  have HX := aM_ hx; generalize pa_ l0 kk = y at *; rw [Int.toNat_natCast] at h0 h1 h2 h3 h4 h5; subst hA; clear hx l3 g3 l4 g4 l5 g5
  cases hp : p y with
  | true =>
   rw [hp] at hcall
   go_wp2_with fail
   refine hcall.mono ?_; rintro e w' ⟨rfl, hb'⟩
   go_wp2
   go_ret
   refine ⟨?_, df_ BW.out BW.out.size hb'⟩; rw [xf_ hlt A.out (by rw [← HX.out]; exact hp)]
   rfl
  | false =>
   rw [hp] at hcall
   go_wp2_with fail
   refine hcall.mono ?_; rintro e w' ⟨rfl, hb'⟩
   go_wp2
   go_roundg (l0.length - (kk + 1))
   case measure => omega
   case rel =>
    refine ⟨kk + 1, Td_, Td_, Va_, ⟨df_ BW.out BW.out.size hb'⟩, ⟨fun j hj hlt => ?_⟩⟩
    by_cases e : j = kk
    ·subst e
     rw [← HX.out]; exact hp
    exact A.out j Td_ hlt
 have hltz : ¬ (kk : Int) < (l0.length : Int) := by omega
 have : kk = l0.length := by omega
 subst this
 go_wp2
 go_ret
 refine ⟨?_, BW.out⟩
 rw [nh_ A.out]
 rfl
theorem nk_ (fv : Value) (A0 : Option Addr) (c0 : Nat) (l0 : List S44) (p : S44 → Bool) (w : World) (hr0 : Kd.C k44 w A0 l0.length l0) (hc0 : l0.length ≤ c0)
  (hf : ke_ Tryz.prog w (jj_ k44) fv p) :
  Calls Tryz.prog 39 #[.slice A0 l0.length c0, fv] w fun e w' => e = .returned (.bool (l0.any p)) ∧ Below w.heap.size w w' := by
 have hc := ug_ fv A0 c0 l0 p w hr0 hc0 hf
 rw [← om_]
 clear hr0 hf
 generalize xc_ p l0 = q at hc
 go_enter Tryz.func39, Tryz.ntmps39
 go_wp2_with fail
 refine hc.mono ?_
 rintro e w' ⟨rfl, hb'⟩
 go_wp2
 go_ret
 exact ⟨rfl, hb'⟩
def IdBox (w : World) (g : Nat) (s : BA) : Prop := w.cell? ⟨g, 0, none⟩ = some (.string s)
theorem zo_ (g : Nat) (s : BA) (w : World) (h : IdBox w g s) : ke_ Tryz.prog w (jj_ k44) (.func (.func 40) #[] #[.pointer (some ⟨g, 0, none⟩)]) (fun y => y.f0.toList == s.toList) := by
 refine ⟨_, _, _, rfl, enters_of Tryz.func40 Ti_ rfl, ?_⟩
 rintro W x v hb ⟨cs, rfl, hK⟩
 obtain ⟨A3, c3, A4, c4, A5, c5, rfl, l3, g3, l4, g4, l5, g5⟩ := km_ hK
 have h1 : (W.alloc (.cells #[.string x.f0, .int .i64 x.f1, .int .i64 x.f2, .slice A3 x.f3.length c3, .slice A4 x.f4.length c4, .slice A5 x.f5.length c5] 44)).cell? ⟨g, 0, none⟩ = some (.string s) := fa_ (aa_ (Below.refl _ _) _) (fa_ hb h)
 clear hb hK l3 g3 l4 g4 l5 g5 h
 have hu1 := Tryz.underlying44
 generalize hr : (x.f0.toList == s.toList) = r
 have HR := aM_ hr
 go_enter Tryz.func40, Tryz.ntmps40
 go_wp2
 go_ret
 exact ⟨rd_ HR.out.symm, aa_ (Below.refl _ _) _⟩
theorem wh_ (g : Nat) (s : BA) (w : World) (h : IdBox w g s) : ke_ Tryz.prog w (jj_ k44) (.func (.func 57) #[] #[.pointer (some ⟨g, 0, none⟩)]) (fun y => y.f0.toList == s.toList) := by
 refine ⟨_, _, _, rfl, enters_of Tryz.func57 Ti_ rfl, ?_⟩
 rintro W x v hb ⟨cs, rfl, hK⟩
 obtain ⟨A3, c3, A4, c4, A5, c5, rfl, l3, g3, l4, g4, l5, g5⟩ := km_ hK
 have h1 : (W.alloc (.cells #[.string x.f0, .int .i64 x.f1, .int .i64 x.f2, .slice A3 x.f3.length c3, .slice A4 x.f4.length c4, .slice A5 x.f5.length c5] 44)).cell? ⟨g, 0, none⟩ = some (.string s) := fa_ (aa_ (Below.refl _ _) _) (fa_ hb h)
 clear hb hK l3 g3 l4 g4 l5 g5 h
 have hu1 := Tryz.underlying44
 generalize hr : (x.f0.toList == s.toList) = r
 have HR := aM_ hr
 go_enter Tryz.func57, Tryz.ntmps57
 go_wp2
 go_ret
 exact ⟨rd_ HR.out.symm, aa_ (Below.refl _ _) _⟩
end Go.Proofs.YtiocgaekoeekgaaGreat.P
end
section
namespace Go.Proofs.YtiocgaekoeekgaaGreat.P
open Go.RowKit YtiocgaekoeekgaaGreatW.PrintWords YtiocgaekoeekgaaGreatW.PrintLast YtiocgaekoeekgaaGreatW.PrintMore
attribute [local go_sem] ub_ rb_ cc_ bc_ kb_ jb_ tb_ qb_   
set_option linter.unusedVariables false
set_option linter.unusedSimpArgs false
attribute [local go_sem] Oper.semAt_some
structure Src (w0 : World) (A : Option Addr) (b : List Int) (c : Nat) : Prop where
 row : Kd.C (Kd.int .u8) w0 A b.length b
 cap : b.length ≤ c
 len : b.length ≤ 1000000000000
structure RdAt (w0 : World) (h : Nat) (A : Option Addr) (b : List Int) (c : Nat) (p : Nat) (W : World) : Prop where
 blk : W.heap[h]? = some (.cells #[.slice A b.length c, .int .i64 (p : Int)] 82 (0, 0))
 below : Below w0.heap.size w0 W
 ge : w0.heap.size ≤ h
 pos : p ≤ b.length
def KeptR (h : Nat) (W W' : World) : Prop := ∀ k o, W.heap[k]? = some o → k ≠ h → W'.heap[k]? = some o
theorem KeptR.trans {h : Nat} {W W1 W2 : World} (h1 : KeptR h W W1) (h2 : KeptR h W1 W2) : KeptR h W W2 := fun k o hk hn => h2 k o (h1 k o hk hn) hn
theorem KeptR.below {h : Nat} {W W1 : World} (hb : Below W.heap.size W W1) : KeptR h W W1 := fun k o hk _ => la_ hk hb
def Rd {α : Type} (w0 : World) (h : Nat) (A : Option Addr) (b : List Int) (c : Nat) (W : World) (V : α → Value → World → Prop) (e : Ending) (W' : World) : Option (α × Nat) → Prop
 | none => (∃ T v, e = .panicked [{ v := .iface T v, recovered := false }]) ∧ Below w0.heap.size w0 W'
 | some (x, q) => (∃ v, e = .returned v ∧ V x v W') ∧ RdAt w0 h A b c q W' ∧ KeptR h W W'
def kf_ (b : List Int) (p : Nat) (n : Int) : Option (List Int × Nat) := if n < 0 ∨ (b.length : Int) - p < n then none else some ((b.drop p).take n.toNat, p + n.toNat)
def VBytes (w0 : World) (x : List Int) (v : Value) (_ : World) : Prop := ∃ A' c', v = .slice A' x.length c' ∧ x.length ≤ c' ∧ Kd.C (Kd.int .u8) w0 A' x.length x
theorem vm_ (w0 : World) (h : Nat) (A : Option Addr) (b : List Int) (c p : Nat) (n : Int) (W : World) (hs : Src w0 A b c) (hr : RdAt w0 h A b c p W) (hn64 : n ≤ 9223372036854775807) :
  Calls Tryz.prog 126 #[.pointer (some ⟨h, 0, none⟩), .int .i64 n] W fun e W' => Rd w0 h A b c W (VBytes w0) e W' (kf_ b p n) := by
 have hlen := hs.len
 have hpos := hr.pos
 have c0 : W.cell? ⟨h, 0, none⟩ = some (.slice A b.length c) := ba_ hr.blk 0
 have c1 : W.cell? ⟨h, 1, none⟩ = some (.int .i64 (p : Int)) := ba_ hr.blk 1
 have f1 := ha_ hr.blk 1
 have HR := aM_ hr
 have HS := aM_ hs
 have hw1 : wrap64 ((b.length : Int) - (p : Int)) = (b.length : Int) - (p : Int) := by rw [wrap64]; omega
 clear hr hs
 by_cases hbad : n < 0 ∨ (b.length : Int) - (p : Int) < n
 ·have HP : Az (kf_ b p n = none) := ⟨if_pos hbad⟩
  have hbd : (decide (n < 0) || decide ((b.length : Int) - (p : Int) < n)) = true := by simpa using hbad
  by_cases hn0 : n < 0
  ·have e1 : decide (n < 0) = true := decide_eq_true hn0
   clear hbad hbd hn0
   go_enter Tryz.func126, Tryz.ntmps126
   go_wp2
   go_quiet (fail)
   go_wp2
   refine ⟨rfl, ?_⟩; rw [HP.out]; exact ⟨⟨_, _, rfl⟩, da_ HR.out.below (ca_ (Below.refl _ _) _)⟩
  have e1 : decide (n < 0) = false := decide_eq_false hn0; have e2 : decide ((b.length : Int) - (p : Int) < n) = true := decide_eq_true Td_; clear hbad hbd hn0
  go_enter Tryz.func126, Tryz.ntmps126
  go_wp2
  go_quiet (fail)
  go_wp2
  refine ⟨rfl, ?_⟩; rw [HP.out]; exact ⟨⟨_, _, rfl⟩, da_ HR.out.below (ca_ (Below.refl _ _) _)⟩
 obtain ⟨m, rfl⟩ : ∃ m : Nat, n = (m : Int) := ⟨n.toNat, Td_⟩
 have HP : Az (kf_ b p (m : Int) = some ((b.drop p).take m, p + m)) := ⟨if_neg hbad⟩
 have hn : p + m ≤ b.length := by omega
 have e1 : decide ((m : Int) < 0) = false := decide_eq_false Td_
 have e2 : decide ((b.length : Int) - (p : Int) < (m : Int)) = false := decide_eq_false Td_
 have hw2 : wrap64 ((p : Int) + (m : Int)) = (p : Int) + (m : Int) := by rw [wrap64]; omega
 have hw3 : wrap64 ((p : Int) + (m : Int) - (m : Int)) = (p : Int) := by rw [wrap64]; omega
 have HN := aM_ hn
 have hn0 : (p : Int) + (m : Int) ≤ (b.length : Int) := by omega
 clear hbad
 go_enter Tryz.func126, Tryz.ntmps126
 go_wp2
 go_quiet (fail)
 go_wp2
 have HB1 : Az (((W.drewN nq).setCell ⟨h, 1, none⟩ (.int .i64 ((p : Int) + (m : Int)))).heap[h]? = some (.cells #[.slice A b.length c, .int .i64 ((p : Int) + (m : Int))] 82 (0, 0))) := ⟨by simpa using qa_ (w := W.drewN nq) HR.out.blk 1 (.int .i64 ((p : Int) + (m : Int)))⟩
 have HW1 : Az (Below w0.heap.size w0 ((W.drewN nq).setCell ⟨h, 1, none⟩ (.int .i64 ((p : Int) + (m : Int))))) := ⟨(ca_ HR.out.below nq).setCell (p := ⟨h, 1, none⟩) HR.out.ge _⟩
 have HK1 : Az (KeptR h W ((W.drewN nq).setCell ⟨h, 1, none⟩ (.int .i64 ((p : Int) + (m : Int))))) := ⟨fun k o hk hne => (heap_setCell_other (W.drewN nq) ⟨h, 1, none⟩ k _ hne).trans hk⟩
 generalize (W.drewN nq).setCell ⟨h, 1, none⟩ (.int .i64 ((p : Int) + (m : Int))) = W1 at *
 have c0 := ba_ HB1.out 0
 have c1 := ba_ HB1.out 1
 obtain ⟨i0, hi, hz0, hz1, hz2⟩ := info_parts io_
 obtain ⟨A', hk, hrd, hcc⟩ := ln_ (P := Tryz.prog) (k := .u8) 28 5 Tryz.underlying28 hi hz1 A c b (p : Int) ((p : Int) + (m : Int)) Td_ Td_ hn0 HS.out.cap
 have hsub : ((b.take ((p : Int) + (m : Int)).toNat).drop (p : Int).toNat) = (b.drop p).take m := by
  rw [Int.toNat_natCast, show ((p : Int) + (m : Int)).toNat = p + m by omega, List.drop_take, Nat.add_sub_cancel_left]
 rw [hsub] at hk hrd hcc
 have HCC := aM_ hcc
 have HRD := aM_ hrd
 generalize (b.drop p).take m = out at *
 clear hsub hrd hcc hi hz0 hz1 hz2 f1
 go_quiet (fail)
 go_wp2
 go_ret
 rw [HP.out]
 exact ⟨⟨_, rfl, A', c - p, rfl, HCC.out, Kd.C_of_reads (h1 := fun _ => rfl) (HRD.out w0 (Kd.reads_of_C (enc := Value.int .u8) (d := (0 : Int)) (h1 := fun _ => rfl) HS.out.row))⟩, ⟨HB1.out, da_ HW1.out (ca_ (Below.refl _ _) _), HR.out.ge, HN.out⟩, HK1.out.trans (KeptR.below (ca_ (Below.refl _ _) _))⟩
def VInt (x : Int) (v : Value) (_ : World) : Prop := v = .int .i64 x
def VStr (x : BA) (v : Value) (_ : World) : Prop := v = .string x
def shor (n c : Int) : Int := bits BinOp.or .i64 (wrap64 (n * 256)) (wrap64 c)
def val8 (l : List Int) : Int := l.foldl shor 0
def pNum (b : List Int) (p : Nat) : Option (Int × Nat) := (kf_ b p 8).map fun z => (val8 z.1, z.2)
theorem al_ {b : List Int} {p : Nat} {n : Int} {x : List Int} {q : Nat} (h : kf_ b p n = some (x, q)) : ∃ m : Nat, n = m ∧ x.length = m ∧ q = p + m ∧ p + m ≤ b.length ∨ n = m ∧ m = 0 ∧ x = [] ∧ q = p := by
 unfold kf_ at h
 split at h
 ·cases h
 rename_i hc
 obtain ⟨m, rfl⟩ : ∃ m : Nat, n = (m : Int) := ⟨n.toNat, Td_⟩
 simp only [Option.some.injEq, Prod.mk.injEq, Int.toNat_natCast] at h
 obtain ⟨rfl, rfl⟩ := h
 rcases Nat.eq_zero_or_pos m with rfl | hm
 ·exact ⟨0, .inr ⟨rfl, rfl, Tt_, Td_⟩⟩
 exact ⟨m, .inl ⟨rfl, by rw [List.length_take, List.length_drop]; omega, rfl, Td_⟩⟩
theorem ru_ {b : List Int} {p : Nat} {n : Int} {x : List Int} {q : Nat} (h : kf_ b p n = some (x, q)) : x.length ≤ b.length := by
 rcases al_ h with ⟨m, ⟨_, h1, _, h2⟩ | ⟨_, _, h1, _⟩⟩
 ·omega
 rw [h1]; exact Nat.zero_le _
theorem ic_ (w0 : World) (h : Nat) (A : Option Addr) (b : List Int) (c p : Nat) (W : World) (hs : Src w0 A b c) (hr : RdAt w0 h A b c p W) :
  Calls Tryz.prog 82 #[.pointer (some ⟨h, 0, none⟩)] W fun e W' => Rd w0 h A b c W VInt e W' (pNum b p) := by
 have HB := aM_ (vm_ w0 h A b c p 8 W hs hr Td_)
 have hlb := hs.len
 have HP : Az (pNum b p = (kf_ b p 8).map fun z => (val8 z.1, z.2)) := ⟨rfl⟩
 clear hs hr
 go_enter Tryz.func82, Tryz.ntmps82
 go_wp2_with fail
 refine HB.out.mono ?_
 intro e w1 hq
 cases hp : kf_ b p 8 with
 | none =>
  rw [hp] at hq; obtain ⟨⟨T, v, rfl⟩, hbl⟩ := hq
  exact ⟨rfl, by rw [HP.out, hp]; exact ⟨⟨T, v, rfl⟩, hbl⟩⟩
 | some z =>
  obtain ⟨out, q⟩ := z; rw [hp] at hq; obtain ⟨⟨v, rfl, A', c', rfl, hcc, hrow⟩, hr1, hk1⟩ := hq; have HPP : Az (pNum b p = some (val8 out, q)) := ⟨by rw [HP.out, hp]; rfl⟩; have HR1 := aM_ hr1; have HK1 := aM_ hk1; have HRow := aM_ hrow; have hol : out.length ≤ 1000000000000 := Nat.le_trans (ru_ hp) hlb; clear hp hr1 hk1 hrow HP HB
  go_wp2
  go_loopg [9, 3, 5] out.length (fun gg s9 s3 s5 wr => ∃ i : Nat, i ≤ out.length ∧ out.length - i ≤ gg ∧ s9 = .int .i64 i ∧ s3 = .int .i64 (val8 (out.take i)) ∧ Az (RdAt w0 h A b c q wr) ∧ Az (KeptR h W wr))
  case atStart => exact ⟨0, Td_, Td_, rfl, by simp [val8], HR1, HK1⟩
  clear HR1 HK1; obtain ⟨i, hi, hgg, rfl, rfl, HW, HK⟩ := hrel
  by_cases hil : i < out.length
  ·have hilz : (i : Int) < (out.length : Int) := by omega
   obtain ⟨ad1, hA1, hcv⟩ := Kd.at_int (Kd.C_below HRow.out HW.out.below) (i : Int) Td_ hilz; subst hA1; rw [Int.toNat_natCast] at hcv
   have hn : rd out (i : Int) = out[i] := by
    show out.getD (i : Int).toNat 0 = _; rw [Int.toNat_natCast, List.getD_eq_getElem?_getD, List.getElem?_eq_getElem hil]; rfl
   have HSV : Az (val8 (out.take (i + 1)) = shor (val8 (out.take i)) (rd out (i : Int))) := ⟨by rw [hn, List.take_succ_eq_append_getElem hil]; unfold val8; rw [List.foldl_append]; rfl⟩; clear hn; generalize rd out (i : Int) = n at *
   go_wp2
   go_roundg (out.length - (i + 1))
   case measure => omega
   case rel => exact ⟨i + 1, Td_, Td_, Va_, by rw [HSV.out]; rfl, HW, HK⟩
  have he : i = out.length := by omega
  have hilz : decide ((i : Int) < (out.length : Int)) = false := by simp; omega
  rw [he, List.take_length] at *; clear he
  go_wp2
  go_ret
  rw [HPP.out]; exact ⟨⟨_, rfl, rfl⟩, HW.out, HK.out⟩
theorem wrap_i64 (x : Int) : IntKind.i64.wrap x = wrap64 x := by simp only [wrap64, IntKind.wrap_i64]
theorem bits_i64 (x y : Int) : ∃ z, bits BinOp.or .i64 x y = wrap64 z := ⟨_, by rw [bits]; exact wrap_i64 _⟩
theorem sr_ (l : List Int) : -9223372036854775808 ≤ val8 l ∧ val8 l ≤ 9223372036854775807 := by
 rcases List.eq_nil_or_concat l with rfl | ⟨l', x, rfl⟩
 ·decide
 have he : val8 (l' ++ [x]) = shor (val8 l') x := by unfold val8; rw [List.foldl_append]; rfl
 obtain ⟨z, hz⟩ := bits_i64 (wrap64 (val8 l' * 256)) (wrap64 x)
 rw [List.concat_eq_append, he, shor, hz]
 unfold wrap64
 omega
theorem qu_ {b : List Int} {p : Nat} {n : Int} {q : Nat} (h : pNum b p = some (n, q)) : (-9223372036854775808 ≤ n ∧ n ≤ 9223372036854775807) ∧ q = p + 8 ∧ p + 8 ≤ b.length := by
 unfold pNum at h
 cases hp : kf_ b p 8 with
 | none => rw [hp] at h; cases h
 | some z =>
  rw [hp] at h; simp only [Option.map_some, Option.some.injEq, Prod.mk.injEq] at h; obtain ⟨rfl, rfl⟩ := h; refine ⟨sr_ _, ?_⟩
  rcases al_ (x := z.1) (q := z.2) hp with ⟨m, ⟨h0, _, h1, h2⟩ | ⟨h0, h1, _⟩⟩ <;> omega
def yg_ (b : List Int) (p : Nat) : Option (ByteArray × Nat) := (pNum b p).bind fun z => (kf_ b z.2 z.1).map fun y => (strOfNums y.1, y.2)
theorem to_ (w0 : World) (h : Nat) (A : Option Addr) (b : List Int) (c p : Nat) (W : World) (hs : Src w0 A b c) (hr : RdAt w0 h A b c p W) :
  Calls Tryz.prog 84 #[.pointer (some ⟨h, 0, none⟩)] W fun e W' => Rd w0 h A b c W VStr e W' (yg_ b p) := by
 have HB := aM_ (ic_ w0 h A b c p W hs hr)
 have HS := aM_ hs
 clear hs hr
 go_enter Tryz.func84, Tryz.ntmps84
 go_wp2_with fail
 refine HB.out.mono ?_
 intro e w1 hq
 cases hp : pNum b p with
 | none =>
  rw [hp] at hq; obtain ⟨⟨T, v, rfl⟩, hbl⟩ := hq
  exact ⟨rfl, by show Rd _ _ _ _ _ _ _ _ _ (Option.bind _ _); rw [hp]; exact ⟨⟨T, v, rfl⟩, hbl⟩⟩
 | some z =>
  obtain ⟨n, q⟩ := z; rw [hp] at hq; obtain ⟨⟨v, rfl, rfl⟩, hr1, hk1⟩ := hq; have HP : Az (yg_ b p = (kf_ b q n).map fun y => (strOfNums y.1, y.2)) := ⟨by show Option.bind _ _ = _; rw [hp]; rfl⟩; have HK1 := aM_ hk1; have HB1 := aM_ (vm_ w0 h A b c q n w1 HS.out hr1 (qu_ hp).1.2); clear hr1 hk1 hp HB
  go_wp2_with fail
  refine HB1.out.mono ?_; intro e w2 hq
  cases hp : kf_ b q n with
  | none =>
   rw [hp] at hq; obtain ⟨⟨T, v, rfl⟩, hbl⟩ := hq
   exact ⟨rfl, by rw [HP.out, hp]; exact ⟨⟨T, v, rfl⟩, hbl⟩⟩
  | some z =>
   obtain ⟨out, q2⟩ := z; rw [hp] at hq; obtain ⟨⟨v, rfl, A', c', rfl, hcc, hrow⟩, hr2, hk2⟩ := hq; have HPP : Az (yg_ b p = some (strOfNums out, q2)) := ⟨by rw [HP.out, hp]; rfl⟩; have HR2 := aM_ hr2; have HK2 := aM_ (HK1.out.trans hk2); have hconv : ∀ w : World, Kd.C (Kd.int .u8) w A' out.length out → (convert 28 9 (.slice A' out.length c')).run Tryz.prog w = .ok (.string (strOfNums out)) w := fun w => Kd.C_string Tryz.underlying28 Tryz.underlying5 Tryz.underlying9
   have hcv := hconv w2 (Kd.C_below hrow hr2.below); clear hp hr2 hk2 hrow HP HB1 hconv
   go_wp2
   go_ret
   rw [HPP.out]; exact ⟨⟨_, rfl, rfl⟩, HR2.out, HK2.out⟩
theorem KeptR.size {w0 : World} {h : Nat} {A : Option Addr} {b : List Int} {c p : Nat} {W W' : World} (hk : KeptR h W W') (hr : RdAt w0 h A b c p W') : W.heap.size ≤ W'.heap.size := by
 rcases Nat.lt_or_ge W'.heap.size W.heap.size with hlt | hge
 ·exfalso
  by_cases he : W'.heap.size = h
  ·have := bb_ hr.blk
   omega
  have := bb_ (hk _ _ (Array.getElem?_eq_getElem hlt) he); omega
 exact hge
theorem ue_ {α : Type} {d : Kd α} {e : Nat} {W1 W2 : World} {base h : Nat} {ok : Nat → Prop} {v : Value} {xs : List α} (hr : d.R e W1 base ok v xs) (hk : KeptR h W1 W2) (hn : ∀ k, ok k → k ≠ h) : d.R e W2 base ok v xs :=
 Kd.R_step hr (fun k ho hlt => (hk k _ (Array.getElem?_eq_getElem hlt) (hn k ho)).trans (Array.getElem?_eq_getElem hlt).symm)
def VM {α : Type} (d : Kd α) (w0 W : World) (x : α) (v : Value) (W' : World) : Prop := ∃ cs, v = .agg cs.toArray ∧ d.M W' w0.heap.size (fun k => W.heap.size ≤ k) x cs
def VR {α : Type} (d : Kd α) (e : Nat) (w0 W : World) (xs : List α) (v : Value) (W' : World) : Prop := d.R e W' w0.heap.size (fun k => W.heap.size ≤ k) v xs
theorem KeptR.box {h g : Nat} {W W' : World} (hk : KeptR h W W') (hg : W.heap.size ≤ g) (i : Nat) (v : Value) : KeptR h W (W'.setCell ⟨g, i, none⟩ v) := fun k o hko hne =>
 (heap_setCell_other W' ⟨g, i, none⟩ k v (show k ≠ g by have := bb_ hko; omega)).trans (hk k o hko hne)
theorem RdAt.box {w0 : World} {h : Nat} {A : Option Addr} {b : List Int} {c p : Nat} {W' : World} (hr : RdAt w0 h A b c p W') {g : Nat} (hg : h < g) (i : Nat) (v : Value) : RdAt w0 h A b c p (W'.setCell ⟨g, i, none⟩ v) :=
 ⟨(heap_setCell_other W' ⟨g, i, none⟩ h v (show h ≠ g by omega)).trans hr.blk, hr.below.setCell (p := ⟨g, i, none⟩) (Nat.le_trans hr.ge (Nat.le_of_lt hg)) _, hr.ge, hr.pos⟩
def pEnt (b : List Int) (p : Nat) : Option (S46 × Nat) := (yg_ b p).bind fun z0 => (pNum b z0.2).bind fun z1 => (pNum b z1.2).bind fun z2 => some (⟨z0.1, z1.1, z2.1⟩, z2.2)
theorem entry_rd (w0 : World) (h : Nat) (A : Option Addr) (b : List Int) (c p : Nat) (W : World) (hs : Src w0 A b c) (hr : RdAt w0 h A b c p W) :
  Calls Tryz.prog 86 #[.pointer (some ⟨h, 0, none⟩)] W fun e W' => Rd w0 h A b c W (VM k46 w0 W) e W' (pEnt b p) := by
 have HS := aM_ hs
 have HG : Az (h < W.heap.size) := ⟨bb_ hr.blk⟩
 have HZ0 : Az (W.heap.size < (W.alloc (.cells #[.string ⟨#[]⟩, .int .i64 0, .int .i64 0] 46)).heap.size) := ⟨Tt_⟩
 have HR0 : Az (RdAt w0 h A b c p (W.alloc (.cells #[.string ⟨#[]⟩, .int .i64 0, .int .i64 0] 46))) := ⟨⟨la_ hr.blk (aa_ (Below.refl _ _) _), da_ hr.below (aa_ (Below.refl _ _) _), hr.ge, hr.pos⟩⟩
 have HB0 : Az ((W.alloc (.cells #[.string ⟨#[]⟩, .int .i64 0, .int .i64 0] 46)).heap[W.heap.size]? = some (.cells #[.string ⟨#[]⟩, .int .i64 0, .int .i64 0] 46 (0, 0))) := ⟨oa_ W _⟩
 have HK0 : Az (KeptR h W (W.alloc (.cells #[.string ⟨#[]⟩, .int .i64 0, .int .i64 0] 46))) := ⟨KeptR.below (aa_ (Below.refl _ _) _)⟩
 have HP0 : Az (pEnt b p = (yg_ b p).bind fun z0 => (pNum b z0.2).bind fun z1 => (pNum b z1.2).bind fun z2 => some (⟨z0.1, z1.1, z2.1⟩, z2.2)) := ⟨rfl⟩
 have HQ0 := aM_ (to_ w0 h A b c p _ HS.out HR0.out)
 clear hs hr
 go_enter Tryz.func86, Tryz.ntmps86
 go_wp2_with fail
 refine HQ0.out.mono ?_
 intro e w1 hq
 cases hp : yg_ b p with
 | none =>
  rw [hp] at hq; obtain ⟨⟨T, v, rfl⟩, hbl⟩ := hq
  exact ⟨rfl, Ux_⟩
 | some z =>
  obtain ⟨x0, q0⟩ := z; rw [hp] at hq; obtain ⟨⟨v, rfl, rfl⟩, hr1, hk1⟩ := hq; have HP1 : Az (pEnt b p = (pNum b q0).bind fun z1 => (pNum b z1.2).bind fun z2 => some (⟨x0, z1.1, z2.1⟩, z2.2)) := ⟨We_⟩; have HR1 := aM_ hr1; have HK1 := aM_ (HK0.out.trans hk1); have HZ1 := aM_ (Nat.lt_of_lt_of_le HZ0.out (hk1.size hr1)); have HB1 := aM_ (hk1 _ _ HB0.out (Nat.ne_of_gt HG.out)); have HQ1 := aM_ (ic_ w0 h A b c q0 w1 HS.out HR1.out); clear hr1 hk1 hp HQ0 HR0 HB0 HK0 HP0 HZ0
  go_wp2_with fail
  refine HQ1.out.mono ?_; intro e w2 hq
  cases hp : pNum b q0 with
  | none =>
   rw [hp] at hq; obtain ⟨⟨T, v, rfl⟩, hbl⟩ := hq
   exact ⟨rfl, Wk_⟩
  | some z =>
   obtain ⟨x1, q1⟩ := z; rw [hp] at hq; obtain ⟨⟨v, rfl, rfl⟩, hr1, hk1⟩ := hq; have HP2 : Az (pEnt b p = (pNum b q1).bind fun z2 => some (⟨x0, x1, z2.1⟩, z2.2)) := ⟨Xi_⟩; have HR2 := aM_ hr1; have HK2 := aM_ (HK1.out.trans hk1); have HZ2 := aM_ (Nat.lt_of_lt_of_le HZ1.out (hk1.size hr1)); have HB2 := aM_ (hk1 _ _ HB1.out (Nat.ne_of_gt HG.out)); have HQ2 := aM_ (ic_ w0 h A b c q1 w2 HS.out HR2.out); clear hr1 hk1 hp HQ1 HR1 HB1 HK1 HP1 HZ1
   go_wp2_with fail
   refine HQ2.out.mono ?_; intro e w3 hq
   cases hp : pNum b q1 with
   | none =>
    rw [hp] at hq; obtain ⟨⟨T, v, rfl⟩, hbl⟩ := hq
    exact ⟨rfl, Wt_⟩
   | some z =>
    obtain ⟨x2, q2⟩ := z; rw [hp] at hq; obtain ⟨⟨v, rfl, rfl⟩, hr1, hk1⟩ := hq; have HP3 : Az (pEnt b p = some (⟨x0, x1, x2⟩, q2)) := ⟨by rw [HP2.out, hp]; rfl⟩; have HR3 := aM_ hr1; have HK3 := aM_ (HK2.out.trans hk1); have HZ3 := aM_ (Nat.lt_of_lt_of_le HZ2.out (hk1.size hr1)); have HB3 := aM_ (hk1 _ _ HB2.out (Nat.ne_of_gt HG.out)); clear hr1 hk1 hp HQ2 HR2 HB2 HK2 HP2 HZ2; have hf_0 := ha_ HB3.out 0; have hc_0 := ba_ HB3.out 0; have hf_1 := ha_ HB3.out 1; have hc_1 := ba_ HB3.out 1; have hf_2 := ha_ HB3.out 2; have hc_2 := ba_ HB3.out 2; have hu1 := Tryz.underlying46
    go_wp2
    have hb1 : (((w3.setCell ⟨W.heap.size, 0, none⟩ (.string x0)).setCell ⟨W.heap.size, 1, none⟩ (.int .i64 x1)).setCell ⟨W.heap.size, 2, none⟩ (.int .i64 x2)).heap[W.heap.size]? = some (.cells #[.string x0, .int .i64 x1, .int .i64 x2] 46 (0, 0)) := by simpa using (qa_ (qa_ (qa_ HB3.out 0 (.string x0)) 1 (.int .i64 x1)) 2 (.int .i64 x2))
    refine bodyPost_ret (results_cell_row rfl _ _ W.heap.size 46 #[.string x0, .int .i64 x1, .int .i64 x2] (0, 0) _ rfl hb1 Tryz.underlying46 rfl Ti_) rfl ?_; rw [HP3.out]; exact ⟨⟨_, rfl, _, rfl, mc_ _ _ _ (⟨x0, x1, x2⟩ : S46) ⟩, (RdAt.box (RdAt.box (RdAt.box HR3.out HG.out _ _) HG.out _ _) HG.out _ _), (KeptR.box (KeptR.box (KeptR.box HK3.out (Nat.le_refl _) _ _) (Nat.le_refl _) _ _) (Nat.le_refl _) _ _)⟩
def zd_ (b : List Int) (p : Nat) : Option (S48 × Nat) := (pNum b p).bind fun z0 => (yg_ b z0.2).bind fun z1 => (pNum b z1.2).bind fun z2 => (pNum b z2.2).bind fun z3 => (pNum b z3.2).bind fun z4 => some (⟨z0.1, z1.1, z2.1, z3.1, z4.1⟩, z4.2)
theorem part_rd (w0 : World) (h : Nat) (A : Option Addr) (b : List Int) (c p : Nat) (W : World) (hs : Src w0 A b c) (hr : RdAt w0 h A b c p W) :
  Calls Tryz.prog 129 #[.pointer (some ⟨h, 0, none⟩)] W fun e W' => Rd w0 h A b c W (VM k48 w0 W) e W' (zd_ b p) := by
 have HS := aM_ hs
 have HG : Az (h < W.heap.size) := ⟨bb_ hr.blk⟩
 have HZ0 : Az (W.heap.size < (W.alloc (.cells #[.int .i64 0, .string ⟨#[]⟩, .int .i64 0, .int .i64 0, .int .i64 0] 48)).heap.size) := ⟨Tt_⟩
 have HR0 : Az (RdAt w0 h A b c p (W.alloc (.cells #[.int .i64 0, .string ⟨#[]⟩, .int .i64 0, .int .i64 0, .int .i64 0] 48))) := ⟨⟨la_ hr.blk (aa_ (Below.refl _ _) _), da_ hr.below (aa_ (Below.refl _ _) _), hr.ge, hr.pos⟩⟩
 have HB0 : Az ((W.alloc (.cells #[.int .i64 0, .string ⟨#[]⟩, .int .i64 0, .int .i64 0, .int .i64 0] 48)).heap[W.heap.size]? = some (.cells #[.int .i64 0, .string ⟨#[]⟩, .int .i64 0, .int .i64 0, .int .i64 0] 48 (0, 0))) := ⟨oa_ W _⟩
 have HK0 : Az (KeptR h W (W.alloc (.cells #[.int .i64 0, .string ⟨#[]⟩, .int .i64 0, .int .i64 0, .int .i64 0] 48))) := ⟨KeptR.below (aa_ (Below.refl _ _) _)⟩
 have HP0 : Az (zd_ b p = (pNum b p).bind fun z0 => (yg_ b z0.2).bind fun z1 => (pNum b z1.2).bind fun z2 => (pNum b z2.2).bind fun z3 => (pNum b z3.2).bind fun z4 => some (⟨z0.1, z1.1, z2.1, z3.1, z4.1⟩, z4.2)) := ⟨rfl⟩
 have HQ0 := aM_ (ic_ w0 h A b c p _ HS.out HR0.out)
 clear hs hr
 go_enter Tryz.func129, Tryz.ntmps129
 go_wp2_with fail
 refine HQ0.out.mono ?_
 intro e w1 hq
 cases hp : pNum b p with
 | none =>
  rw [hp] at hq; obtain ⟨⟨T, v, rfl⟩, hbl⟩ := hq
  exact ⟨rfl, Ux_⟩
 | some z =>
  obtain ⟨x0, q0⟩ := z; rw [hp] at hq; obtain ⟨⟨v, rfl, rfl⟩, hr1, hk1⟩ := hq; have HP1 : Az (zd_ b p = (yg_ b q0).bind fun z1 => (pNum b z1.2).bind fun z2 => (pNum b z2.2).bind fun z3 => (pNum b z3.2).bind fun z4 => some (⟨x0, z1.1, z2.1, z3.1, z4.1⟩, z4.2)) := ⟨We_⟩; have HR1 := aM_ hr1; have HK1 := aM_ (HK0.out.trans hk1); have HZ1 := aM_ (Nat.lt_of_lt_of_le HZ0.out (hk1.size hr1)); have HB1 := aM_ (hk1 _ _ HB0.out (Nat.ne_of_gt HG.out)); have HQ1 := aM_ (to_ w0 h A b c q0 w1 HS.out HR1.out); clear hr1 hk1 hp HQ0 HR0 HB0 HK0 HP0 HZ0
  go_wp2_with fail
  refine HQ1.out.mono ?_; intro e w2 hq
  cases hp : yg_ b q0 with
  | none =>
   rw [hp] at hq; obtain ⟨⟨T, v, rfl⟩, hbl⟩ := hq
   exact ⟨rfl, Wk_⟩
  | some z =>
   obtain ⟨x1, q1⟩ := z; rw [hp] at hq; obtain ⟨⟨v, rfl, rfl⟩, hr1, hk1⟩ := hq; have HP2 : Az (zd_ b p = (pNum b q1).bind fun z2 => (pNum b z2.2).bind fun z3 => (pNum b z3.2).bind fun z4 => some (⟨x0, x1, z2.1, z3.1, z4.1⟩, z4.2)) := ⟨Xi_⟩; have HR2 := aM_ hr1; have HK2 := aM_ (HK1.out.trans hk1); have HZ2 := aM_ (Nat.lt_of_lt_of_le HZ1.out (hk1.size hr1)); have HB2 := aM_ (hk1 _ _ HB1.out (Nat.ne_of_gt HG.out)); have HQ2 := aM_ (ic_ w0 h A b c q1 w2 HS.out HR2.out); clear hr1 hk1 hp HQ1 HR1 HB1 HK1 HP1 HZ1
   go_wp2_with fail
   refine HQ2.out.mono ?_; intro e w3 hq
   cases hp : pNum b q1 with
   | none =>
    rw [hp] at hq; obtain ⟨⟨T, v, rfl⟩, hbl⟩ := hq
    exact ⟨rfl, Wt_⟩
   | some z =>
    obtain ⟨x2, q2⟩ := z; rw [hp] at hq; obtain ⟨⟨v, rfl, rfl⟩, hr1, hk1⟩ := hq; have HP3 : Az (zd_ b p = (pNum b q2).bind fun z3 => (pNum b z3.2).bind fun z4 => some (⟨x0, x1, x2, z3.1, z4.1⟩, z4.2)) := ⟨by rw [HP2.out, hp]; rfl⟩; have HR3 := aM_ hr1; have HK3 := aM_ (HK2.out.trans hk1); have HZ3 := aM_ (Nat.lt_of_lt_of_le HZ2.out (hk1.size hr1)); have HB3 := aM_ (hk1 _ _ HB2.out (Nat.ne_of_gt HG.out)); have HQ3 := aM_ (ic_ w0 h A b c q2 w3 HS.out HR3.out); clear hr1 hk1 hp HQ2 HR2 HB2 HK2 HP2 HZ2
    go_wp2_with fail
    refine HQ3.out.mono ?_; intro e w4 hq
    cases hp : pNum b q2 with
    | none =>
     rw [hp] at hq; obtain ⟨⟨T, v, rfl⟩, hbl⟩ := hq
     exact ⟨rfl, by rw [HP3.out, hp]; exact ⟨⟨T, v, rfl⟩, hbl⟩⟩
    | some z =>
     obtain ⟨x3, q3⟩ := z; rw [hp] at hq; obtain ⟨⟨v, rfl, rfl⟩, hr1, hk1⟩ := hq; have HP4 : Az (zd_ b p = (pNum b q3).bind fun z4 => some (⟨x0, x1, x2, x3, z4.1⟩, z4.2)) := ⟨by rw [HP3.out, hp]; rfl⟩; have HR4 := aM_ hr1; have HK4 := aM_ (HK3.out.trans hk1); have HZ4 := aM_ (Nat.lt_of_lt_of_le HZ3.out (hk1.size hr1)); have HB4 := aM_ (hk1 _ _ HB3.out (Nat.ne_of_gt HG.out)); have HQ4 := aM_ (ic_ w0 h A b c q3 w4 HS.out HR4.out); clear hr1 hk1 hp HQ3 HR3 HB3 HK3 HP3 HZ3
     go_wp2_with fail
     refine HQ4.out.mono ?_; intro e w5 hq
     cases hp : pNum b q3 with
     | none =>
      rw [hp] at hq; obtain ⟨⟨T, v, rfl⟩, hbl⟩ := hq
      exact ⟨rfl, by rw [HP4.out, hp]; exact ⟨⟨T, v, rfl⟩, hbl⟩⟩
     | some z =>
      obtain ⟨x4, q4⟩ := z; rw [hp] at hq; obtain ⟨⟨v, rfl, rfl⟩, hr1, hk1⟩ := hq; have HP5 : Az (zd_ b p = some (⟨x0, x1, x2, x3, x4⟩, q4)) := ⟨by rw [HP4.out, hp]; rfl⟩; have HR5 := aM_ hr1; have HK5 := aM_ (HK4.out.trans hk1); have HZ5 := aM_ (Nat.lt_of_lt_of_le HZ4.out (hk1.size hr1)); have HB5 := aM_ (hk1 _ _ HB4.out (Nat.ne_of_gt HG.out)); clear hr1 hk1 hp HQ4 HR4 HB4 HK4 HP4 HZ4; have hf_0 := ha_ HB5.out 0; have hc_0 := ba_ HB5.out 0; have hf_1 := ha_ HB5.out 1; have hc_1 := ba_ HB5.out 1; have hf_2 := ha_ HB5.out 2; have hc_2 := ba_ HB5.out 2; have hf_3 := ha_ HB5.out 3; have hc_3 := ba_ HB5.out 3; have hf_4 := ha_ HB5.out 4; have hc_4 := ba_ HB5.out 4; have hu1 := Tryz.underlying48
      go_wp2
      have hb1 : (((((w5.setCell ⟨W.heap.size, 0, none⟩ (.int .i64 x0)).setCell ⟨W.heap.size, 1, none⟩ (.string x1)).setCell ⟨W.heap.size, 2, none⟩ (.int .i64 x2)).setCell ⟨W.heap.size, 3, none⟩ (.int .i64 x3)).setCell ⟨W.heap.size, 4, none⟩ (.int .i64 x4)).heap[W.heap.size]? = some (.cells #[.int .i64 x0, .string x1, .int .i64 x2, .int .i64 x3, .int .i64 x4] 48 (0, 0)) := by simpa using (qa_ (qa_ (qa_ (qa_ (qa_ HB5.out 0 (.int .i64 x0)) 1 (.string x1)) 2 (.int .i64 x2)) 3 (.int .i64 x3)) 4 (.int .i64 x4))
      refine bodyPost_ret (results_cell_row rfl _ _ W.heap.size 48 #[.int .i64 x0, .string x1, .int .i64 x2, .int .i64 x3, .int .i64 x4] (0, 0) _ rfl hb1 Tryz.underlying48 rfl Ti_) rfl ?_; rw [HP5.out]; exact ⟨⟨_, rfl, _, rfl, mp_ _ _ _ (⟨x0, x1, x2, x3, x4⟩ : S48) ⟩, (RdAt.box (RdAt.box (RdAt.box (RdAt.box (RdAt.box HR5.out HG.out _ _) HG.out _ _) HG.out _ _) HG.out _ _) HG.out _ _), (KeptR.box (KeptR.box (KeptR.box (KeptR.box (KeptR.box HK5.out (Nat.le_refl _) _ _) (Nat.le_refl _) _ _) (Nat.le_refl _) _ _) (Nat.le_refl _) _ _) (Nat.le_refl _) _ _)⟩
theorem Kd.R_of_own0 {α : Type} {d : Kd α} {e b s : Nat} (w : World) (hb : b ≤ w.heap.size) (hs : s ≤ w.heap.size) : d.R e (w.alloc (.cells #[] e)) b (fun k => s ≤ k) (.slice (some ⟨w.heap.size, 0, none⟩) 0 0) [] :=
 ⟨fun k hk => by simp [Value.ownBlock] at hk; omega, [], ⟨Tt_, .inr ⟨w.heap.size, 0, #[], rfl, hb, oa_ w _, Nat.le_refl _, by simp [maxLen], Tt_, Tt_⟩⟩, Reps.none _ _⟩
theorem cloneI (A0 : Option Addr) (c0 : Nat) (l0 : List Int) (w : World) (s b : Nat) (hr0 : Kd.R (Kd.int .i64) 3 w b (fun k => s ≤ k) (.slice A0 l0.length c0) l0) (hs : s ≤ w.heap.size) (hb : b ≤ w.heap.size) (hl : l0.length * 8 ≤ 140737488355328) :
  Calls Tryz.prog 112 #[.slice A0 l0.length c0] w fun e w' => ∃ v0_ : Value, e = .returned (v0_) ∧ Kd.R (Kd.int .i64) 3 w' b (fun k => s ≤ k) v0_ l0 ∧ Below w.heap.size w w' := by
 have q22 : ∀ (w : World) (a : Option Addr) (n c n' c' : Nat), (binOp .eql 35 (.slice a n c) (.slice none n' c')).run Tryz.prog w = .ok (.bool a.isNone) w := fun w a n c n' c' => Lib.run_eql_slice_nil w _ _ a n c n' c' Tryz.underlying35
 have HR := aM_ hr0
 have HL := aM_ hl
 have HB := aM_ hb
 have HS := aM_ hs
 clear hr0 hl hb hs
 cases A0 with
 | none =>
  have h0 : l0 = [] := by
   cases l0 with
   | nil => rfl
   | cons x l =>
    obtain ⟨A1, c1, e1, _, hc1⟩ := Kd.R_reads HR.out; injection e1 with e1; subst e1; obtain ⟨ad, e, _⟩ := hc1.2.2 Tt_
    cases e
  subst h0
  go_enter Tryz.func112, Tryz.ntmps112
  go_wp2
  go_ret
  exact ⟨_, rfl, Kd.R_nil _ _ _ _ _, Below.refl _ _⟩
 | some ad =>
  have hrr : Az (ReadsRow (Kd.M (Kd.int .i64) (w.alloc (.cells #[] 3)) b (fun k => s ≤ k ∧ k < w.heap.size)) (Kd.sz (Kd.int .i64)) (w.alloc (.cells #[] 3)) (some ad) l0.length l0) := ⟨by
   obtain ⟨A1, c1, e1, _, hc1⟩ := OwnRow.reads HR.out.2; injection e1 with e1; subst e1
   exact hc1.imp_ (aa_ (Below.refl _ _) _) (fun x cs hm => Kd.M_below (Kd.M_mono _ (fun k hk => ⟨hk.1.1, hk.2.2.1⟩) (Kd.M_bound _ hm)) (aa_ (Below.refl _ _) _))⟩
  go_enter Tryz.func112, Tryz.ntmps112
  go_wp2_with (at_builtin; go_loud (refine Kd.R_append_rows (Kd.int .i64) (w0 := w) b rfl (.tmp 5) (.tmp 6) 35 3 (.int .i64 0) 8 rfl Tryz.underlying35 Ti_ rfl (by show 0 < 1; decide) Tm_ (.slice (some ⟨w.heap.size, 0, none⟩) 0 0) [] l0 (some ad) l0.length c0 (fun k => s ≤ k) (fun k => s ≤ k ∧ k < w.heap.size) rfl rfl Vz_ hrr.out (fun _ _ h => h) Vb_ Ve_ Vl_ Wg_ Vq_ ?_); intro v1 w1 ho hb hg hat)
  have ho' : Kd.R (Kd.int .i64) 3 w1 b (fun k => s ≤ k) v1 l0 := ho; have HO := aM_ ho'; have HB1 : Az (Below w.heap.size w w1) := ⟨Below.grown (aa_ (Below.refl _ _) (.cells #[] 3)) hg Tt_ (fun k hk => by simp [Value.ownBlock] at hk; omega)⟩; clear ho ho' hb hg hat
  go_wp2
  go_ret
  exact ⟨_, rfl, HO.out, HB1.out⟩
theorem cloneE (A0 : Option Addr) (c0 : Nat) (l0 : List S46) (w : World) (s b : Nat) (hr0 : Kd.R k46 46 w b (fun k => s ≤ k) (.slice A0 l0.length c0) l0) (hs : s ≤ w.heap.size) (hb : b ≤ w.heap.size) (hl : l0.length * 32 ≤ 140737488355328) :
  Calls Tryz.prog 65 #[.slice A0 l0.length c0] w fun e w' => ∃ v0_ : Value, e = .returned (v0_) ∧ Kd.R k46 46 w' b (fun k => s ≤ k) v0_ l0 ∧ Below w.heap.size w w' := by
 have q22 : ∀ (w : World) (a : Option Addr) (n c n' c' : Nat), (binOp .eql 40 (.slice a n c) (.slice none n' c')).run Tryz.prog w = .ok (.bool a.isNone) w := fun w a n c n' c' => Lib.run_eql_slice_nil w _ _ a n c n' c' Tryz.underlying40
 have HR := aM_ hr0
 have HL := aM_ hl
 have HB := aM_ hb
 have HS := aM_ hs
 clear hr0 hl hb hs
 cases A0 with
 | none =>
  have h0 : l0 = [] := by
   cases l0 with
   | nil => rfl
   | cons x l =>
    obtain ⟨A1, c1, e1, _, hc1⟩ := Kd.R_reads HR.out; injection e1 with e1; subst e1; obtain ⟨ad, e, _⟩ := hc1.2.2 Tt_
    cases e
  subst h0
  go_enter Tryz.func65, Tryz.ntmps65
  go_wp2
  go_ret
  exact ⟨_, rfl, Kd.R_nil _ _ _ _ _, Below.refl _ _⟩
 | some ad =>
  have hrr : Az (ReadsRow (Kd.M k46 (w.alloc (.cells #[] 46)) b (fun k => s ≤ k ∧ k < w.heap.size)) (Kd.sz k46) (w.alloc (.cells #[] 46)) (some ad) l0.length l0) := ⟨by
   obtain ⟨A1, c1, e1, _, hc1⟩ := OwnRow.reads HR.out.2; injection e1 with e1; subst e1
   exact hc1.imp_ (aa_ (Below.refl _ _) _) (fun x cs hm => Kd.M_below (Kd.M_mono _ (fun k hk => ⟨hk.1.1, hk.2.2.1⟩) (Kd.M_bound _ hm)) (aa_ (Below.refl _ _) _))⟩
  go_enter Tryz.func65, Tryz.ntmps65
  go_wp2_with (at_builtin; go_loud (refine Kd.R_append_rows k46 (w0 := w) b rfl (.tmp 5) (.tmp 6) 40 46 (.agg #[.string ⟨#[]⟩, .int .i64 0, .int .i64 0]) 32 rfl Tryz.underlying40 Ti_ rfl Xf_ Tm_ (.slice (some ⟨w.heap.size, 0, none⟩) 0 0) [] l0 (some ad) l0.length c0 (fun k => s ≤ k) (fun k => s ≤ k ∧ k < w.heap.size) rfl rfl Vz_ hrr.out (fun _ _ h => h) Vb_ Ve_ Vl_ Wg_ Vq_ ?_); intro v1 w1 ho hb hg hat)
  have ho' : Kd.R k46 46 w1 b (fun k => s ≤ k) v1 l0 := ho; have HO := aM_ ho'; have HB1 : Az (Below w.heap.size w w1) := ⟨Below.grown (aa_ (Below.refl _ _) (.cells #[] 46)) hg Tt_ (fun k hk => by simp [Value.ownBlock] at hk; omega)⟩; clear ho ho' hb hg hat
  go_wp2
  go_ret
  exact ⟨_, rfl, HO.out, HB1.out⟩
theorem cloneP (A0 : Option Addr) (c0 : Nat) (l0 : List S48) (w : World) (s b : Nat) (hr0 : Kd.R k48 48 w b (fun k => s ≤ k) (.slice A0 l0.length c0) l0) (hs : s ≤ w.heap.size) (hb : b ≤ w.heap.size) (hl : l0.length * 48 ≤ 140737488355328) :
  Calls Tryz.prog 115 #[.slice A0 l0.length c0] w fun e w' => ∃ v0_ : Value, e = .returned (v0_) ∧ Kd.R k48 48 w' b (fun k => s ≤ k) v0_ l0 ∧ Below w.heap.size w w' := by
 have q22 : ∀ (w : World) (a : Option Addr) (n c n' c' : Nat), (binOp .eql 50 (.slice a n c) (.slice none n' c')).run Tryz.prog w = .ok (.bool a.isNone) w := fun w a n c n' c' => Lib.run_eql_slice_nil w _ _ a n c n' c' Tryz.underlying50
 have HR := aM_ hr0
 have HL := aM_ hl
 have HB := aM_ hb
 have HS := aM_ hs
 clear hr0 hl hb hs
 cases A0 with
 | none =>
  have h0 : l0 = [] := by
   cases l0 with
   | nil => rfl
   | cons x l =>
    obtain ⟨A1, c1, e1, _, hc1⟩ := Kd.R_reads HR.out; injection e1 with e1; subst e1; obtain ⟨ad, e, _⟩ := hc1.2.2 Tt_
    cases e
  subst h0
  go_enter Tryz.func115, Tryz.ntmps115
  go_wp2
  go_ret
  exact ⟨_, rfl, Kd.R_nil _ _ _ _ _, Below.refl _ _⟩
 | some ad =>
  have hrr : Az (ReadsRow (Kd.M k48 (w.alloc (.cells #[] 48)) b (fun k => s ≤ k ∧ k < w.heap.size)) (Kd.sz k48) (w.alloc (.cells #[] 48)) (some ad) l0.length l0) := ⟨by
   obtain ⟨A1, c1, e1, _, hc1⟩ := OwnRow.reads HR.out.2; injection e1 with e1; subst e1
   exact hc1.imp_ (aa_ (Below.refl _ _) _) (fun x cs hm => Kd.M_below (Kd.M_mono _ (fun k hk => ⟨hk.1.1, hk.2.2.1⟩) (Kd.M_bound _ hm)) (aa_ (Below.refl _ _) _))⟩
  go_enter Tryz.func115, Tryz.ntmps115
  go_wp2_with (at_builtin; go_loud (refine Kd.R_append_rows k48 (w0 := w) b rfl (.tmp 5) (.tmp 6) 50 48 (.agg #[.int .i64 0, .string ⟨#[]⟩, .int .i64 0, .int .i64 0, .int .i64 0]) 48 rfl Tryz.underlying50 Ti_ rfl Wh_ Tm_ (.slice (some ⟨w.heap.size, 0, none⟩) 0 0) [] l0 (some ad) l0.length c0 (fun k => s ≤ k) (fun k => s ≤ k ∧ k < w.heap.size) rfl rfl Vz_ hrr.out (fun _ _ h => h) Vb_ Ve_ Vl_ Wg_ Vq_ ?_); intro v1 w1 ho hb hg hat)
  have ho' : Kd.R k48 48 w1 b (fun k => s ≤ k) v1 l0 := ho; have HO := aM_ ho'; have HB1 : Az (Below w.heap.size w w1) := ⟨Below.grown (aa_ (Below.refl _ _) (.cells #[] 48)) hg Tt_ (fun k hk => by simp [Value.ownBlock] at hk; omega)⟩; clear ho ho' hb hg hat
  go_wp2
  go_ret
  exact ⟨_, rfl, HO.out, HB1.out⟩
theorem cloneR (A0 : Option Addr) (c0 : Nat) (l0 : List S56) (w : World) (s b : Nat) (hr0 : Kd.R k56 56 w b (fun k => s ≤ k) (.slice A0 l0.length c0) l0) (hs : s ≤ w.heap.size) (hb : b ≤ w.heap.size) (hl : l0.length * 72 ≤ 140737488355328) :
  Calls Tryz.prog 102 #[.slice A0 l0.length c0] w fun e w' => ∃ v0_ : Value, e = .returned (v0_) ∧ Kd.R k56 56 w' b (fun k => s ≤ k) v0_ l0 ∧ Below w.heap.size w w' := by
 have q22 : ∀ (w : World) (a : Option Addr) (n c n' c' : Nat), (binOp .eql 41 (.slice a n c) (.slice none n' c')).run Tryz.prog w = .ok (.bool a.isNone) w := fun w a n c n' c' => Lib.run_eql_slice_nil w _ _ a n c n' c' Tryz.underlying41
 have HR := aM_ hr0
 have HL := aM_ hl
 have HB := aM_ hb
 have HS := aM_ hs
 clear hr0 hl hb hs
 cases A0 with
 | none =>
  have h0 : l0 = [] := by
   cases l0 with
   | nil => rfl
   | cons x l =>
    obtain ⟨A1, c1, e1, _, hc1⟩ := Kd.R_reads HR.out; injection e1 with e1; subst e1; obtain ⟨ad, e, _⟩ := hc1.2.2 Tt_
    cases e
  subst h0
  go_enter Tryz.func102, Tryz.ntmps102
  go_wp2
  go_ret
  exact ⟨_, rfl, Kd.R_nil _ _ _ _ _, Below.refl _ _⟩
 | some ad =>
  have hrr : Az (ReadsRow (Kd.M k56 (w.alloc (.cells #[] 56)) b (fun k => s ≤ k ∧ k < w.heap.size)) (Kd.sz k56) (w.alloc (.cells #[] 56)) (some ad) l0.length l0) := ⟨by
   obtain ⟨A1, c1, e1, _, hc1⟩ := OwnRow.reads HR.out.2; injection e1 with e1; subst e1
   exact hc1.imp_ (aa_ (Below.refl _ _) _) (fun x cs hm => Kd.M_below (Kd.M_mono _ (fun k hk => ⟨hk.1.1, hk.2.2.1⟩) (Kd.M_bound _ hm)) (aa_ (Below.refl _ _) _))⟩
  go_enter Tryz.func102, Tryz.ntmps102
  go_wp2_with (at_builtin; go_loud (refine Kd.R_append_rows k56 (w0 := w) b rfl (.tmp 5) (.tmp 6) 41 56 (.agg #[.int .i64 0, .slice none 0 0, .int .i64 0, .slice none 0 0, .int .i64 0]) 72 rfl Tryz.underlying41 Ti_ rfl Wh_ Tm_ (.slice (some ⟨w.heap.size, 0, none⟩) 0 0) [] l0 (some ad) l0.length c0 (fun k => s ≤ k) (fun k => s ≤ k ∧ k < w.heap.size) rfl rfl Vz_ hrr.out (fun _ _ h => h) Vb_ Ve_ Vl_ Wg_ Vq_ ?_); intro v1 w1 ho hb hg hat)
  have ho' : Kd.R k56 56 w1 b (fun k => s ≤ k) v1 l0 := ho; have HO := aM_ ho'; have HB1 : Az (Below w.heap.size w w1) := ⟨Below.grown (aa_ (Below.refl _ _) (.cells #[] 56)) hg Tt_ (fun k hk => by simp [Value.ownBlock] at hk; omega)⟩; clear ho ho' hb hg hat
  go_wp2
  go_ret
  exact ⟨_, rfl, HO.out, HB1.out⟩
theorem ft_ (A0 : Option Addr) (c0 : Nat) (l0 : List S52) (w : World) (s b : Nat) (hr0 : Kd.R k52 52 w b (fun k => s ≤ k) (.slice A0 l0.length c0) l0) (hs : s ≤ w.heap.size) (hb : b ≤ w.heap.size) (hl : l0.length * 32 ≤ 140737488355328) :
  Calls Tryz.prog 66 #[.slice A0 l0.length c0] w fun e w' => ∃ v0_ : Value, e = .returned (v0_) ∧ Kd.R k52 52 w' b (fun k => s ≤ k) v0_ l0 ∧ Below w.heap.size w w' := by
 have q22 : ∀ (w : World) (a : Option Addr) (n c n' c' : Nat), (binOp .eql 42 (.slice a n c) (.slice none n' c')).run Tryz.prog w = .ok (.bool a.isNone) w := fun w a n c n' c' => Lib.run_eql_slice_nil w _ _ a n c n' c' Tryz.underlying42
 have HR := aM_ hr0
 have HL := aM_ hl
 have HB := aM_ hb
 have HS := aM_ hs
 clear hr0 hl hb hs
 cases A0 with
 | none =>
  have h0 : l0 = [] := by
   cases l0 with
   | nil => rfl
   | cons x l =>
    obtain ⟨A1, c1, e1, _, hc1⟩ := Kd.R_reads HR.out; injection e1 with e1; subst e1; obtain ⟨ad, e, _⟩ := hc1.2.2 Tt_
    cases e
  subst h0
  go_enter Tryz.func66, Tryz.ntmps66
  go_wp2
  go_ret
  exact ⟨_, rfl, Kd.R_nil _ _ _ _ _, Below.refl _ _⟩
 | some ad =>
  have hrr : Az (ReadsRow (Kd.M k52 (w.alloc (.cells #[] 52)) b (fun k => s ≤ k ∧ k < w.heap.size)) (Kd.sz k52) (w.alloc (.cells #[] 52)) (some ad) l0.length l0) := ⟨by
   obtain ⟨A1, c1, e1, _, hc1⟩ := OwnRow.reads HR.out.2; injection e1 with e1; subst e1
   exact hc1.imp_ (aa_ (Below.refl _ _) _) (fun x cs hm => Kd.M_below (Kd.M_mono _ (fun k hk => ⟨hk.1.1, hk.2.2.1⟩) (Kd.M_bound _ hm)) (aa_ (Below.refl _ _) _))⟩
  go_enter Tryz.func66, Tryz.ntmps66
  go_wp2_with (at_builtin; go_loud (refine Kd.R_append_rows k52 (w0 := w) b rfl (.tmp 5) (.tmp 6) 42 52 (.agg #[.int .i64 0, .slice none 0 0]) 32 rfl Tryz.underlying42 Ti_ rfl Xb_ Tm_ (.slice (some ⟨w.heap.size, 0, none⟩) 0 0) [] l0 (some ad) l0.length c0 (fun k => s ≤ k) (fun k => s ≤ k ∧ k < w.heap.size) rfl rfl Vz_ hrr.out (fun _ _ h => h) Vb_ Ve_ Vl_ Wg_ Vq_ ?_); intro v1 w1 ho hb hg hat)
  have ho' : Kd.R k52 52 w1 b (fun k => s ≤ k) v1 l0 := ho; have HO := aM_ ho'; have HB1 : Az (Below w.heap.size w w1) := ⟨Below.grown (aa_ (Below.refl _ _) (.cells #[] 52)) hg Tt_ (fun k hk => by simp [Value.ownBlock] at hk; omega)⟩; clear ho ho' hb hg hat
  go_wp2
  go_ret
  exact ⟨_, rfl, HO.out, HB1.out⟩
theorem cloneL (A0 : Option Addr) (c0 : Nat) (l0 : List S44) (w : World) (s b : Nat) (hr0 : Kd.R k44 44 w b (fun k => s ≤ k) (.slice A0 l0.length c0) l0) (hs : s ≤ w.heap.size) (hb : b ≤ w.heap.size) (hl : l0.length * 104 ≤ 140737488355328) :
  Calls Tryz.prog 83 #[.slice A0 l0.length c0] w fun e w' => ∃ v0_ : Value, e = .returned (v0_) ∧ Kd.R k44 44 w' b (fun k => s ≤ k) v0_ l0 ∧ Below w.heap.size w w' := by
 have q22 : ∀ (w : World) (a : Option Addr) (n c n' c' : Nat), (binOp .eql 26 (.slice a n c) (.slice none n' c')).run Tryz.prog w = .ok (.bool a.isNone) w := fun w a n c n' c' => Lib.run_eql_slice_nil w _ _ a n c n' c' Tryz.underlying26
 have HR := aM_ hr0
 have HL := aM_ hl
 have HB := aM_ hb
 have HS := aM_ hs
 clear hr0 hl hb hs
 cases A0 with
 | none =>
  have h0 : l0 = [] := by
   cases l0 with
   | nil => rfl
   | cons x l =>
    obtain ⟨A1, c1, e1, _, hc1⟩ := Kd.R_reads HR.out; injection e1 with e1; subst e1; obtain ⟨ad, e, _⟩ := hc1.2.2 Tt_
    cases e
  subst h0
  go_enter Tryz.func83, Tryz.ntmps83
  go_wp2
  go_ret
  exact ⟨_, rfl, Kd.R_nil _ _ _ _ _, Below.refl _ _⟩
 | some ad =>
  have hrr : Az (ReadsRow (Kd.M k44 (w.alloc (.cells #[] 44)) b (fun k => s ≤ k ∧ k < w.heap.size)) (Kd.sz k44) (w.alloc (.cells #[] 44)) (some ad) l0.length l0) := ⟨by
   obtain ⟨A1, c1, e1, _, hc1⟩ := OwnRow.reads HR.out.2; injection e1 with e1; subst e1
   exact hc1.imp_ (aa_ (Below.refl _ _) _) (fun x cs hm => Kd.M_below (Kd.M_mono _ (fun k hk => ⟨hk.1.1, hk.2.2.1⟩) (Kd.M_bound _ hm)) (aa_ (Below.refl _ _) _))⟩
  go_enter Tryz.func83, Tryz.ntmps83
  go_wp2_with (at_builtin; go_loud (refine Kd.R_append_rows k44 (w0 := w) b rfl (.tmp 5) (.tmp 6) 26 44 (.agg #[.string ⟨#[]⟩, .int .i64 0, .int .i64 0, .slice none 0 0, .slice none 0 0, .slice none 0 0]) 104 rfl Tryz.underlying26 Ti_ rfl (by show 0 < 6; decide) Tm_ (.slice (some ⟨w.heap.size, 0, none⟩) 0 0) [] l0 (some ad) l0.length c0 (fun k => s ≤ k) (fun k => s ≤ k ∧ k < w.heap.size) rfl rfl Vz_ hrr.out (fun _ _ h => h) Vb_ Ve_ Vl_ Wg_ Vq_ ?_); intro v1 w1 ho hb hg hat)
  have ho' : Kd.R k44 44 w1 b (fun k => s ≤ k) v1 l0 := ho; have HO := aM_ ho'; have HB1 : Az (Below w.heap.size w w1) := ⟨Below.grown (aa_ (Below.refl _ _) (.cells #[] 44)) hg Tt_ (fun k hk => by simp [Value.ownBlock] at hk; omega)⟩; clear ho ho' hb hg hat
  go_wp2
  go_ret
  exact ⟨_, rfl, HO.out, HB1.out⟩
theorem jr_ (A0 : Option Addr) (c0 : Nat) (l0 : List S56) (w : World) (hr0 : Kd.C k56 w A0 l0.length l0) (hl : l0.length * 72 ≤ 140737488355328) :
  Calls Tryz.prog 102 #[.slice A0 l0.length c0] w fun e w' => ∃ v0_ : Value, e = .returned (v0_) ∧ Kd.N k56 56 w' w.heap.size (fun _ => True) v0_ l0 ∧ Below w.heap.size w w' := by
 have q22 : ∀ (w : World) (a : Option Addr) (n c n' c' : Nat), (binOp .eql 41 (.slice a n c) (.slice none n' c')).run Tryz.prog w = .ok (.bool a.isNone) w := fun w a n c n' c' => Lib.run_eql_slice_nil w _ _ a n c n' c' Tryz.underlying41
 have HR := aM_ hr0
 have HL := aM_ hl
 clear hr0 hl
 cases A0 with
 | none =>
  have h0 : l0 = [] := by
   cases l0 with
   | nil => rfl
   | cons x l => obtain ⟨ad, e, _⟩ := HR.out.2.2 Tt_; cases e
  subst h0
  go_enter Tryz.func102, Tryz.ntmps102
  go_wp2
  go_ret
  exact ⟨_, rfl, Kd.N_nil _ _ _ _ _, Below.refl _ _⟩
 | some ad =>
  have HF := aM_ (Kd.C_F br_ HR.out); have HM : Az (Kd.N k56 56 (w.alloc (.cells #[] 56)) w.heap.size (fun _ => True) (.slice (some ⟨w.heap.size, 0, none⟩) 0 0) []) := ⟨Kd.R_N (Kd.R_mono (Kd.R_of_own0 w (Nat.le_refl _) (Nat.le_refl _)) (fun _ _ => trivial))⟩
  go_enter Tryz.func102, Tryz.ntmps102
  go_wp2_with (at_builtin; go_loud (refine Kd.N_append_rows k56 (w0 := w) w.heap.size rfl (.tmp 5) (.tmp 6) 41 56 (.agg #[.int .i64 0, .slice none 0 0, .int .i64 0, .slice none 0 0, .int .i64 0]) 72 rfl Tryz.underlying41 Ti_ rfl Wh_ Tm_ (.slice (some ⟨w.heap.size, 0, none⟩) 0 0) [] l0 (some ad) l0.length c0 (fun _ => True) (fun k => k < w.heap.size) rfl rfl HM.out (Kd.F_alloc HF.out _) (fun k hk => ⟨trivial, fun e => by simp [Value.ownBlock] at e; omega⟩) (fun _ _ => trivial) (aa_ (Below.refl _ _) _) Tt_ (by have := HL.out; simp; omega) ?_); intro v1 w1 ho hb hg hat)
  have ho' : Kd.N k56 56 w1 w.heap.size (fun _ => True) v1 l0 := ho; have HO := aM_ ho'; have HB := aM_ hb; clear ho ho' hb hg hat
  go_wp2
  go_ret
  exact ⟨_, rfl, HO.out, HB.out⟩
def sd_ (l : List S44) (at5 : Int) : Int := if (pa_ l at5).f1 < at5 then (pa_ l at5).f1 else -1
theorem zl_ (l : List S44) (at5 : Int) (h : 0 ≤ at5) : sd_ l at5 < at5 := by
 unfold sd_
 split
 ·assumption
 omega
theorem nq_ (A : Option Addr) (c : Nat) (l : List S44) (a : Int) (w : World) (hr : Kd.C k44 w A l.length l) (hc : l.length ≤ c) (h0 : 0 ≤ a) (h1 : a < (l.length : Int)) :
  Calls Tryz.prog 60 #[.slice A l.length c, .int .i64 a] w fun e w' => e = .returned (.int .i64 (sd_ l a)) ∧ Below w.heap.size w w' :=
 Calls.mono (blob_parent.calls A c l a (sd_ l a) w hr hc (by unfold blob_parent.f sd_; rw [if_pos h0, if_pos h1]; split <;> rfl)) Wi_
def id_ (l : List S44) : Nat → Int → List S56 → List S56
 | 0, _, out => out
 | n + 1, at5, out => if ib_ at5 0 ((l.length : Int) - 1) = true then id_ l n (sd_ l at5) ((pa_ l at5).f4 ++ out) else out
def jd_ (l : List S44) (i : Nat) : List S56 := id_ l (i + 1) i []
theorem mj_ (A : Option Addr) (c : Nat) (l : List S44) (i0 : Nat) (w : World) (hr : Kd.C k44 w A l.length l) (hc : l.length ≤ c) (hi : i0 < l.length) (hl : l.length ≤ 100000) (hL : ∀ x ∈ l, x.f4.length ≤ 1000000) :
  Calls Tryz.prog 48 #[.slice A l.length c, .int .i64 i0] w fun e w' => ∃ v : Value, e = .returned v ∧ Kd.N k56 56 w' w.heap.size (fun _ => True) v (jd_ l i0) ∧ Below w.heap.size w w' := by
 have HR := aM_ hr
 have HC := aM_ hc
 have HLL := aM_ hL
 have hbn : l.length ≤ 9223372036854775807 := by omega
 have HE : Az (jd_ l i0 = id_ l (i0 + 1) i0 []) := ⟨rfl⟩
 generalize jd_ l i0 = out at *
 have hw1 : wrap64 ((l.length : Int) - 1) = (l.length : Int) - 1 := by rw [wrap64]; omega
 clear hr hc hL
 go_enter Tryz.func48, Tryz.ntmps48
 go_wp2
 go_loopg [1, 5] (i0 + 1) (fun gg s1 s5 wr => ∃ (a : Int) (n : Nat) (ys : List S56), s1 = .int .i64 a ∧ (a + 1).toNat ≤ gg ∧ a < n ∧ Az ((ys.length : Int) + 1000000 * (a + 1) ≤ 1000000 * l.length) ∧ a < l.length ∧ Az (out = id_ l n a ys) ∧ Az (Kd.N k56 56 wr w.heap.size (fun _ => True) s5 ys) ∧ Az (Below w.heap.size w wr))
 case atStart => exact ⟨i0, i0 + 1, [], rfl, Td_, Td_, ⟨Wo_⟩, Td_, HE, ⟨Kd.N_nil _ _ _ _ _⟩, ⟨Below.refl _ _⟩⟩
 clear HE
 obtain ⟨a, n, ys, rfl, hgg, han, HYL, hal, HE, HN, HW⟩ := hrel
 have HWI := aM_ (ve_ a 0 ((l.length : Int) - 1))
 cases hin : ib_ a 0 ((l.length : Int) - 1) with
 | false =>
  rw [hin] at HWI
  have HG : Az (out = ys) := ⟨by
   rw [HE.out]
   cases n with
   | zero => rfl
   | succ n => rw [id_, if_neg (by rw [hin]; decide)]⟩
  clear hin HE
  go_wp2_with fail
  refine (HWI.out _).mono ?_; rintro e w2 ⟨rfl, hB2⟩
  go_wp2
  go_ret
  rw [HG.out]
  exact ⟨_, rfl, Kd.N_below HN.out hB2, da_ HW.out hB2⟩
 | true =>
  rw [hin] at HWI
  have hr2 : 0 ≤ a ∧ a ≤ (l.length : Int) - 1 := by
   unfold ib_ at hin
   simpa using hin
  obtain ⟨k, rfl⟩ : ∃ k : Nat, a = (k : Int) := ⟨a.toNat, Td_⟩; have hk : k < l.length := by omega
  have hkz : (k : Int) < (l.length : Int) := by omega
  obtain ⟨n, rfl⟩ : ∃ m, n = m + 1 := ⟨n - 1, Td_⟩; have HE1 : Az (out = id_ l n (sd_ l k) ((pa_ l (k : Int)).f4 ++ ys)) := ⟨by rw [HE.out, id_, if_pos hin]⟩; have HPL := aM_ (zl_ l (k : Int) Td_); clear hin HE hr2
  go_wp2_with fail
  refine (HWI.out _).mono ?_; rintro e w2 ⟨rfl, hB2⟩; have HN2 := aM_ (Kd.N_below HN.out hB2); have HW2 : Az (Below w.heap.size w w2) := ⟨da_ HW.out hB2⟩; clear hB2 HN HW HWI; obtain ⟨ad, A3, c3, A4, c4, A5, c5, hA, h0, h1, h2, h3, h4, h5, l3, g3, l4, g4, l5, g5⟩ := tf_ (Kd.C_below HR.out HW2.out) (k : Int) Td_ hkz
  have hrl : (pa_ l (k : Int)).f4.length ≤ 1000000 := by
   have hm : pa_ l (k : Int) ∈ l := by
    have : pa_ l (k : Int) = l[k] := by
     show l.getD (k : Int).toNat _ = _; rw [Int.toNat_natCast, List.getD_eq_getElem?_getD, List.getElem?_eq_getElem hk]; rfl
    rw [this]; exact List.getElem_mem hk
   exact HLL.out _ hm
  generalize (pa_ l (k : Int)).f4 = rs at *; rw [Int.toNat_natCast] at h4; have HG4 := aM_ g4; have HPW := aM_ (fun W (hB : Below w.heap.size w W) => nq_ A c l (k : Int) W (Kd.C_below HR.out hB) HC.out Td_ hkz); have HCL := aM_ (jr_ A4 c4 rs w2 g4 Td_); have HRL := aM_ hrl; obtain ⟨A6, c6, hs6⟩ := Kd.N_slice HN2.out; subst hs6; subst hA; clear h0 h1 h2 h3 h5 l3 g3 l4 g4 l5 g5 hrl
  go_wp2_with fail
  refine HCL.out.mono ?_; rintro e w3 ⟨v3, rfl, hN3, hB3⟩; have HN3 := aM_ hN3; have HB3 := aM_ hB3; have HF2 := aM_ (Kd.F_below (Kd.F_bound (Kd.N_F HN2.out)) hB3); obtain ⟨A7, c7, hs7⟩ := Kd.N_slice hN3; subst hs7; have HYL1 : Az (ys.length ≤ 1000000 * 100000 ∧ rs.length ≤ 1000000) := ⟨by have := HYL.out; omega, HRL.out⟩; clear hN3 hB3 HCL h4
  go_wp2_with (at_builtin; go_loud (refine Kd.N_append_rows k56 (w0 := w2) w2.heap.size rfl (.tmp 19) (.tmp 20) 41 56 (.agg #[.int .i64 0, .slice none 0 0, .int .i64 0, .slice none 0 0, .int .i64 0]) 72 rfl Tryz.underlying41 Ti_ rfl Wh_ Tm_ (.slice A7 rs.length c7) rs ys A6 ys.length c6 (fun _ => True) (fun k => True ∧ k < w2.heap.size) rfl rfl HN3.out HF2.out (fun k hk => ⟨trivial, fun e => by have h2 := hk.2; have h3 := Kd.N_base HN3.out k e.symm; omega⟩) (fun _ _ => trivial) HB3.out HB3.out.size (by have := HYL1.out; omega) ?_); intro v4 w4 ho hb hg hat)
  have HN4 : Az (Kd.N k56 56 w4 w.heap.size (fun _ => True) v4 (rs ++ ys)) := ⟨Kd.N_lower ho HW2.out.size⟩; have HW4 : Az (Below w.heap.size w w4) := ⟨da_ HW2.out hb⟩; have HYL4 : Az (((rs ++ ys).length : Int) + 1000000 * (sd_ l k + 1) ≤ 1000000 * l.length) := ⟨by rw [List.length_append]; have h1 := HYL.out; have h2 := HRL.out; have h3 := HPL.out; omega⟩; clear ho hb hg hat HN3 HB3 HF2 HYL1 HN2 HW2 HYL HRL; generalize rs ++ ys = zs at *
  go_wp2_with fail
  refine (HPW.out _ HW4.out).mono ?_; rintro e w5 ⟨rfl, hB5⟩; have HN5 := aM_ (Kd.N_below HN4.out hB5); have HW5 : Az (Below w.heap.size w w5) := ⟨da_ HW4.out hB5⟩; have hp := HPL.out; clear hB5 HN4 HW4 HPW HPL; generalize sd_ l (k : Int) = q at *
  go_wp2
  go_roundg ((q + 1).toNat)
  case measure => omega
  case rel => exact ⟨q, n, zs, rfl, Td_, Td_, HYL4, Td_, HE1, HN5, HW5⟩
theorem Kd.R_of_room {α : Type} {d : Kd α} {e b : Nat} {ok : Nat → Prop} (w w0 : World) (hw : w0.heap.size = w.heap.size) (hb : b ≤ w.heap.size) (hok : ok w.heap.size) (cs : Array Value) (cap : Nat) (hcs : cs.size = cap * d.sz) (hcap : cap ≤ maxLen) : d.R e (w0.alloc (.cells cs e)) b ok (.slice (some ⟨w.heap.size, 0, none⟩) 0 cap) [] := by
 rw [← hw] at *
 exact ⟨fun k hk => by
  have : k = w0.heap.size := by simpa [Value.ownBlock] using hk.symm
  rw [this]; exact hok, [], ⟨Tt_, .inr ⟨w0.heap.size, cap, cs, rfl, hb, oa_ w0 _, Nat.zero_le _, hcap, hcs, Tt_⟩⟩, Reps.none _ _⟩
theorem Kd.S_of_none {α : Type} {d : Kd α} {e b : Nat} {ok : Nat → Prop} {w : World} {v : Value} (h : d.R e w b ok v []) : Kd.S d e w b ok v [] := by
 obtain ⟨h0, inner, ho, hr⟩ := h
 exact ⟨fun _ => 0, h0, inner, ho, hr.1, fun j p hj => by simp at hj⟩
theorem ys_ (n : Nat) (w : World) (hn : n ≤ 1000000) :
  Calls Tryz.prog 113 #[.slice none 0 0, .int .i64 n] w fun e w' => ∃ v, e = .returned v ∧ Kd.R k46 46 w' w.heap.size (fun k => w.heap.size ≤ k) v [] ∧ Below w.heap.size w w' := by
 have hHn := aM_ hn
 have hneg : decide ((n : Int) < 0) = false := decide_eq_false Td_
 have hw0 : wrap64 ((0 : Int) - 0) = 0 := by unfold wrap64; omega
 have hw1 : wrap64 ((n : Int) - 0) = (n : Int) := by rw [wrap64]; omega
 have hw2 : wrap64 (n : Int) = (n : Int) := by rw [wrap64]; omega
 by_cases h0 : n = 0
 ·subst h0
  clear hn
  go_enter Tryz.func113, Tryz.ntmps113
  go_wp2
  go_ret
  exact ⟨_, rfl, Kd.R_nil _ _ _ _ _, Below.refl _ _⟩
 have hpos : 0 < n := by omega
 have hpz : decide ((0 : Int) < (n : Int)) = true := decide_eq_true Td_
 have hpz' : decide (0 < n) = true := decide_eq_true hpos
 obtain ⟨i0, hi, hz0, hz1, hz2⟩ := info_parts info46
 have hrun := Lib.run_append_nil_zeros (P := Tryz.prog) w 40 3 40 46 i0 (.agg #[.string ⟨#[]⟩, .int .i64 0, .int .i64 0]) .i64 .i64 Tryz.underlying40 Tryz.underlying3 hi hz0 n hpos (by rw [hz1]; decide) Td_ (by rw [hz2]; omega)
 have hge := grownCap_ge w n 0 46
 have hml := grownCap_le_maxLen w n 0 46 (by unfold maxLen; omega)
 have HSZ : Az ((Builtin.zeroCells (.agg #[.string ⟨#[]⟩, .int .i64 0, .int .i64 0] : Value).cells n ++ Builtin.zeroCells (.agg #[.string ⟨#[]⟩, .int .i64 0, .int .i64 0] : Value).cells (grownCap w n 0 46 - n)).size = grownCap w n 0 46 * (Kd.sz k46)) := ⟨by
  show _ = grownCap w n 0 46 * 3; simp only [Array.size_append, size_zeroCells]; show n * 3 + (grownCap w n 0 46 - n) * 3 = _; rw [← Nat.add_mul]
  congr 1
  omega⟩
 generalize Builtin.zeroCells (.agg #[.string ⟨#[]⟩, .int .i64 0, .int .i64 0] : Value).cells n ++ Builtin.zeroCells (.agg #[.string ⟨#[]⟩, .int .i64 0, .int .i64 0] : Value).cells (grownCap w n 0 46 - n) = cs at *
 generalize grownCap w n 0 46 = cap at *
 have HRUN := aM_ hrun
 have HML := aM_ hml
 have hcap : (0 : Int) ≤ (cap : Int) := by omega
 clear hrun hml hi hz0 hz1 hz2 hge hn h0
 go_enter Tryz.func113, Tryz.ntmps113
 go_wp2_with (at_builtin; go_loud (refine Lib.wpList_append_run _ rfl (.tmp 20) (.tmp 21) 40 3 rfl (.slice none 0 0) (.int .i64 (n : Int)) rfl (congrArg (Value.int .i64) hw2) _ _ HRUN.out ?_))
 go_ret
 exact ⟨_, rfl, Kd.R_of_room w w.drew rfl (Nat.le_refl _) (Nat.le_refl _) cs cap HSZ.out HML.out, aa_ (ga_ (Below.refl _ _)) _⟩
theorem xs_ (n : Nat) (w : World) (hn : n ≤ 1000000) :
  Calls Tryz.prog 114 #[.slice none 0 0, .int .i64 n] w fun e w' => ∃ v, e = .returned v ∧ Kd.R k52 52 w' w.heap.size (fun k => w.heap.size ≤ k) v [] ∧ Below w.heap.size w w' := by
 have hHn := aM_ hn
 have hneg : decide ((n : Int) < 0) = false := decide_eq_false Td_
 have hw0 : wrap64 ((0 : Int) - 0) = 0 := by unfold wrap64; omega
 have hw1 : wrap64 ((n : Int) - 0) = (n : Int) := by rw [wrap64]; omega
 have hw2 : wrap64 (n : Int) = (n : Int) := by rw [wrap64]; omega
 by_cases h0 : n = 0
 ·subst h0
  clear hn
  go_enter Tryz.func114, Tryz.ntmps114
  go_wp2
  go_ret
  exact ⟨_, rfl, Kd.R_nil _ _ _ _ _, Below.refl _ _⟩
 have hpos : 0 < n := by omega
 have hpz : decide ((0 : Int) < (n : Int)) = true := decide_eq_true Td_
 have hpz' : decide (0 < n) = true := decide_eq_true hpos
 obtain ⟨i0, hi, hz0, hz1, hz2⟩ := info_parts info52
 have hrun := Lib.run_append_nil_zeros (P := Tryz.prog) w 42 3 42 52 i0 (.agg #[.int .i64 0, .slice none 0 0]) .i64 .i64 Tryz.underlying42 Tryz.underlying3 hi hz0 n hpos (by rw [hz1]; decide) Td_ (by rw [hz2]; omega)
 have hge := grownCap_ge w n 0 52
 have hml := grownCap_le_maxLen w n 0 52 (by unfold maxLen; omega)
 have HSZ : Az ((Builtin.zeroCells (.agg #[.int .i64 0, .slice none 0 0] : Value).cells n ++ Builtin.zeroCells (.agg #[.int .i64 0, .slice none 0 0] : Value).cells (grownCap w n 0 52 - n)).size = grownCap w n 0 52 * (Kd.sz k52)) := ⟨by
  show _ = grownCap w n 0 52 * 2; simp only [Array.size_append, size_zeroCells]; show n * 2 + (grownCap w n 0 52 - n) * 2 = _; rw [← Nat.add_mul]
  congr 1
  omega⟩
 generalize Builtin.zeroCells (.agg #[.int .i64 0, .slice none 0 0] : Value).cells n ++ Builtin.zeroCells (.agg #[.int .i64 0, .slice none 0 0] : Value).cells (grownCap w n 0 52 - n) = cs at *
 generalize grownCap w n 0 52 = cap at *
 have HRUN := aM_ hrun
 have HML := aM_ hml
 have hcap : (0 : Int) ≤ (cap : Int) := by omega
 clear hrun hml hi hz0 hz1 hz2 hge hn h0
 go_enter Tryz.func114, Tryz.ntmps114
 go_wp2_with (at_builtin; go_loud (refine Lib.wpList_append_run _ rfl (.tmp 20) (.tmp 21) 42 3 rfl (.slice none 0 0) (.int .i64 (n : Int)) rfl (congrArg (Value.int .i64) hw2) _ _ HRUN.out ?_))
 go_ret
 exact ⟨_, rfl, Kd.R_of_room w w.drew rfl (Nat.le_refl _) (Nat.le_refl _) cs cap HSZ.out HML.out, aa_ (ga_ (Below.refl _ _)) _⟩
theorem op_ (g : Nat) (A1 A2 : Option Addr) (c1 c2 : Nat) (l1 l2 : List S46) (w : World) (hg0 : w.cell? ⟨g, 0, none⟩ = some (.slice A1 l1.length c1)) (hg1 : w.cell? ⟨g, 1, none⟩ = some (.slice A2 l2.length c2)) (h1 : Kd.C k46 w A1 l1.length l1) (h2 : Kd.C k46 w A2 l2.length l2) (hn : l1.length + l2.length ≤ 1000000) :
  Calls Tryz.prog 61 #[.slice (some ⟨g, 0, none⟩) 2 2] w fun e w' => ∃ v, e = .returned v ∧ Kd.R k46 46 w' w.heap.size (fun k => w.heap.size ≤ k) v (l1 ++ l2) ∧ Below w.heap.size w w' := by
 have HN := aM_ hn
 have HC1 := aM_ h1
 have HC2 := aM_ h2
 have HG0 := aM_ hg0
 have HG1 := aM_ hg1
 have hw1 : wrap64 ((0 : Int) + (l1.length : Int)) = (l1.length : Int) := by rw [wrap64]; omega
 have hw1' : wrap64 (l1.length : Int) = (l1.length : Int) := by rw [wrap64]; omega
 have hw2 : wrap64 ((l1.length : Int) + (l2.length : Int)) = ((l1.length + l2.length : Nat) : Int) := by rw [wrap64]; omega
 have hn1 : decide ((l1.length : Int) < 0) = false := decide_eq_false Td_
 have hn2 : decide (((l1.length + l2.length : Nat) : Int) < 0) = false := decide_eq_false Td_
 clear hn h1 h2 hg0 hg1
 go_enter Tryz.func61, Tryz.ntmps61
 go_wp2
 go_loopg [11, 3] 2 (fun gg s11 s3 wr => ∃ i m : Nat, 2 - i ≤ gg ∧ s11 = .int .i64 i ∧ s3 = .int .i64 m ∧ ((i = 0 ∧ m = 0) ∨ (i = 1 ∧ m = l1.length) ∨ (i = 2 ∧ m = l1.length + l2.length)) ∧ Az (Below w.heap.size w wr))
 case atStart => exact ⟨0, 0, Td_, rfl, rfl, .inl ⟨rfl, rfl⟩, ⟨Below.refl _ _⟩⟩
 obtain ⟨i, m, hgg, rfl, rfl, hcs, HW⟩ := hrel
 rcases hcs with ⟨rfl, rfl⟩ | ⟨rfl, rfl⟩ | ⟨rfl, rfl⟩
 ·have r0 := fa_ HW.out HG0.out
  go_wp2
  go_roundg 1
  case measure => omega
  case rel => exact ⟨1, l1.length, Td_, Va_, by first | rfl | (simp [hw1]; done) | go_num, .inr (.inl ⟨rfl, rfl⟩), HW⟩
 ·have r1 := fa_ HW.out HG1.out
  go_wp2
  go_roundg 0
  case measure => omega
  case rel => exact ⟨2, l1.length + l2.length, Td_, Va_, by first | rfl | (simp [hw2]; done) | go_num, .inr (.inr ⟨rfl, rfl⟩), HW⟩
 have HGR := aM_ (ys_ (l1.length + l2.length) wr HN.out)
 clear hn1 hn2 hw1 hw1' hw2
 go_wp2_with fail
 refine HGR.out.mono ?_
 rintro e w2 ⟨v, rfl, hR, hB⟩
 have HR0 := aM_ (Kd.R_mono (ok' := fun k => w.heap.size ≤ k) (Kd.R_lower hR HW.out.size) (fun k hk => Nat.le_trans HW.out.size hk))
 have HW2 : Az (Below w.heap.size w w2) := ⟨da_ HW.out hB⟩
 clear hR hB HGR
 go_wp2
 go_loopg [27, 6] 2 (fun gg s27 s6 wr => ∃ (i : Nat) (xs : List S46), 2 - i ≤ gg ∧ s27 = .int .i64 i ∧ ((i = 0 ∧ xs = []) ∨ (i = 1 ∧ xs = l1) ∨ (i = 2 ∧ xs = l1 ++ l2)) ∧ Az (Kd.R k46 46 wr w.heap.size (fun k => w.heap.size ≤ k) s6 xs) ∧ Az (Below w.heap.size w wr))
 case atStart => exact ⟨0, [], Td_, rfl, .inl ⟨rfl, rfl⟩, HR0, HW2⟩
 clear HR0 HW2
 obtain ⟨i, xs, hgg, rfl, hcs, HR, HW⟩ := hrel
 obtain ⟨A6, c6, hs6⟩ := Kd.R_slice HR.out
 subst hs6
 rcases hcs with ⟨rfl, rfl⟩ | ⟨rfl, rfl⟩ | ⟨rfl, rfl⟩
 ·have r0 := fa_ HW.out HG0.out
  have HCC := aM_ (Kd.C_below HC1.out HW.out)
  go_wp2_with (at_builtin; go_loud (refine Kd.R_append_rows k46 (w0 := w) w.heap.size rfl (.tmp 31) (.tmp 32) 40 46 (.agg #[.string ⟨#[]⟩, .int .i64 0, .int .i64 0]) 32 rfl Tryz.underlying40 Ti_ rfl Xf_ Tm_ (.slice A6 0 c6) [] l1 A1 l1.length c1 (fun k => w.heap.size ≤ k) (fun _ => False) rfl rfl HR.out HCC.out (fun _ _ h => h) (fun _ h => h.elim) (fun k hk => Nat.le_trans HW.out.size hk) HW.out HW.out.size (by have := HN.out; simp; omega) ?_); intro v1 w1 ho hb hg hat)
  have ho' : Kd.R k46 46 w1 w.heap.size (fun k => w.heap.size ≤ k) v1 l1 := ho; have HR1 := aM_ ho'; have HW1 := aM_ hb; clear ho ho' hb hg hat HR HCC
  go_wp2
  go_roundg 1
  case measure => omega
  case rel => exact ⟨1, l1, Td_, Va_, .inr (.inl ⟨rfl, rfl⟩), HR1, HW1⟩
 ·have r1 := fa_ HW.out HG1.out
  have HCC := aM_ (Kd.C_below HC2.out HW.out)
  go_wp2_with (at_builtin; go_loud (refine Kd.R_append_rows k46 (w0 := w) w.heap.size rfl (.tmp 31) (.tmp 32) 40 46 (.agg #[.string ⟨#[]⟩, .int .i64 0, .int .i64 0]) 32 rfl Tryz.underlying40 Ti_ rfl Xf_ Tm_ (.slice A6 xs.length c6) xs l2 A2 l2.length c2 (fun k => w.heap.size ≤ k) (fun _ => False) rfl rfl HR.out HCC.out (fun _ _ h => h) (fun _ h => h.elim) (fun k hk => Nat.le_trans HW.out.size hk) HW.out HW.out.size Xh_ ?_); intro v1 w1 ho hb hg hat)
  have HR1 := aM_ ho; have HW1 := aM_ hb; clear ho hb hg hat HR HCC
  go_wp2
  go_roundg 0
  case measure => omega
  case rel => exact ⟨2, xs ++ l2, Td_, Va_, .inr (.inr ⟨rfl, rfl⟩), HR1, HW1⟩
 go_wp2
 go_ret
 exact ⟨_, rfl, HR.out, HW.out⟩
def ej_ (l : List S44) : Prop := ∀ x ∈ l, x.f4 = [] ∧ x.f5 = []
def mh_ (l : List S44) : Nat → Int → List S46 → List S46
 | 0, _, out => out
 | n + 1, a, out => if ib_ a 0 ((l.length : Int) - 1) = true then mh_ l n (sd_ l a) ((pa_ l a).f3 ++ out) else out
def lexP (l : List S44) (i : Nat) : List S46 := mh_ l (i + 1) i []
theorem qf_ {l : List S44} (h : ej_ l) : ∀ (n : Nat) (a : Int), id_ l n a [] = []
 | 0, _ => rfl
 | n + 1, a => by
  rw [id_]
  split
  ·rename_i hw
   have hr2 : 0 ≤ a ∧ a ≤ (l.length : Int) - 1 := by
    unfold ib_ at hw
    simpa using hw
   obtain ⟨k, rfl⟩ : ∃ k : Nat, a = (k : Int) := ⟨a.toNat, Td_⟩; have hk : k < l.length := by omega
   have hy : pa_ l (k : Int) = l[k] := by
    show l.getD (k : Int).toNat _ = _; rw [Int.toNat_natCast, List.getD_eq_getElem?_getD, List.getElem?_eq_getElem hk]; rfl
   rw [hy, (h _ (List.getElem_mem hk)).1, List.nil_append]; exact qf_ h n _
  rfl
def hitL (id : BA) (y : S44) : Bool := y.f0.toList == id.toList
end Go.Proofs.YtiocgaekoeekgaaGreat.P
end
section
namespace Go.Proofs.YtiocgaekoeekgaaGreat.P
open Go.RowKit YtiocgaekoeekgaaGreatW.PrintWords YtiocgaekoeekgaaGreatW.PrintLast YtiocgaekoeekgaaGreatW.PrintMore
attribute [local go_sem] ub_ rb_ cc_ bc_ kb_ jb_ tb_ qb_   
set_option linter.unusedVariables false
set_option linter.unusedSimpArgs false
def slices_Clone_int_int.f (l0 : List Int) : Option (List Int) := if l0.length < 17592186044416 then some l0 else none
theorem slices_Clone_int_int.calls (A0 : Option Addr) (c0 : Nat) (l0 : List Int) (r : List Int) (w : World) (hr0 : Kd.C (Kd.int .i64) w A0 l0.length l0) (hc0 : l0.length ≤ c0) (h : slices_Clone_int_int.f l0 = some r) :
  Calls Tryz.prog 112 #[.slice A0 l0.length c0] w fun e w' => ∃ v0_ : Value, e = .returned (v0_) ∧ Kd.R (Kd.int .i64) 3 w' w.heap.size (fun _ => True) v0_ r ∧ Below w.heap.size w w' := by
 unfold slices_Clone_int_int.f at h
 split at h
 case isFalse => cases h
 case isTrue hl =>
 obtain rfl := Option.some.inj h
 clear h
 have q22 : ∀ (w : World) (a : Option Addr) (n c n' c' : Nat), (binOp .eql 35 (.slice a n c) (.slice none n' c')).run Tryz.prog w = .ok (.bool a.isNone) w := fun w a n c n' c' => Lib.run_eql_slice_nil w _ _ a n c n' c' Tryz.underlying35
 have HR := aM_ hr0
 have HL := aM_ hl
 clear hr0 hl
 cases A0 with
 | none =>
  have h0 : l0 = [] := by
   cases l0 with
   | nil => rfl
   | cons x l => obtain ⟨ad, e, _⟩ := HR.out.2.2 Tt_; cases e
  subst h0
  go_enter Tryz.func112, Tryz.ntmps112
  go_wp2
  go_ret
  exact ⟨_, rfl, Kd.R_nil _ _ _ _ _, Below.refl _ _⟩
 | some ad =>
  go_enter Tryz.func112, Tryz.ntmps112
  go_wp2_with (at_builtin; go_loud (refine Kd.R_append_row (Value.int .i64) 0 (h1 := fun _ => rfl) (w0 := w) w.heap.size rfl (.tmp 5) (.tmp 6) 35 3 (.int .i64 0) 8 rfl Tryz.underlying35 qg_ rfl Tm_ (.slice (some ⟨w.heap.size, 0, none⟩) 0 0) [] l0 (some ad) l0.length c0 (fun _ => True) rfl rfl (fun _ _ => trivial) (by go_loud (exact Kd.R_of_own (World.ownsRow_made w #[] 0 (Nat.le_refl _) (Nat.zero_le _) rfl) (fun _ _ => trivial))) (by go_loud (exact Kd.C_alloc HR.out _)) (by exact aa_ (Below.refl _ _) _) (by go_loud (simp)) Vq_ ?_); intro v1 w1 ho hb hg hat)
  have ho' : Kd.R (Kd.int .i64) 3 w1 w.heap.size (fun _ => True) v1 l0 := ho; have HO := aM_ ho'; have HB := aM_ hb; clear ho ho' hb hg hat
  go_wp2
  go_ret
  exact ⟨_, rfl, HO.out, HB.out⟩
end Go.Proofs.YtiocgaekoeekgaaGreat.P
end
section
namespace Go.Proofs.YtiocgaekoeekgaaGreat.P
open Go.RowKit YtiocgaekoeekgaaGreatW.PrintWords YtiocgaekoeekgaaGreatW.PrintLast YtiocgaekoeekgaaGreatW.PrintMore
attribute [local go_sem] ub_ rb_ cc_ bc_ kb_ jb_ tb_ qb_   
set_option linter.unusedVariables false
set_option linter.unusedSimpArgs false
attribute [local go_sem] Oper.semAt_some
theorem kr_ (A0 : Option Addr) (c0 : Nat) (l0 : List S48) (w : World) (hr0 : Kd.C k48 w A0 l0.length l0) (hl : l0.length * 48 ≤ 140737488355328) :
  Calls Tryz.prog 115 #[.slice A0 l0.length c0] w fun e w' => ∃ v0_ : Value, e = .returned (v0_) ∧ Kd.R k48 48 w' w.heap.size (fun _ => True) v0_ l0 ∧ Below w.heap.size w w' := by
 have q22 : ∀ (w : World) (a : Option Addr) (n c n' c' : Nat), (binOp .eql 50 (.slice a n c) (.slice none n' c')).run Tryz.prog w = .ok (.bool a.isNone) w := fun w a n c n' c' => Lib.run_eql_slice_nil w _ _ a n c n' c' Tryz.underlying50
 have HR := aM_ hr0
 have HL := aM_ hl
 clear hr0 hl
 cases A0 with
 | none =>
  have h0 : l0 = [] := by
   cases l0 with
   | nil => rfl
   | cons x l => obtain ⟨ad, e, _⟩ := HR.out.2.2 Tt_; cases e
  subst h0
  go_enter Tryz.func115, Tryz.ntmps115
  go_wp2
  go_ret
  exact ⟨_, rfl, Kd.R_nil _ _ _ _ _, Below.refl _ _⟩
 | some ad =>
  have HM : Az (Kd.R k48 48 (w.alloc (.cells #[] 48)) w.heap.size (fun _ => True) (.slice (some ⟨w.heap.size, 0, none⟩) 0 0) []) := ⟨Kd.R_mono (Kd.R_of_own0 w (Nat.le_refl _) (Nat.le_refl _)) (fun _ _ => trivial)⟩; have HCA : Az (Kd.C k48 (w.alloc (.cells #[] 48)) (some ad) l0.length l0) := ⟨Kd.C_below HR.out (aa_ (Below.refl _ _) _)⟩
  go_enter Tryz.func115, Tryz.ntmps115
  go_wp2_with (at_builtin; go_loud (refine Kd.R_append_rows k48 (w0 := w) w.heap.size rfl (.tmp 5) (.tmp 6) 50 48 (.agg #[.int .i64 0, .string ⟨#[]⟩, .int .i64 0, .int .i64 0, .int .i64 0]) 48 rfl Tryz.underlying50 Ti_ rfl Wh_ Tm_ (.slice (some ⟨w.heap.size, 0, none⟩) 0 0) [] l0 (some ad) l0.length c0 (fun _ => True) (fun _ => False) rfl rfl HM.out HCA.out (fun _ _ h => h) (fun _ h => h.elim) (fun _ _ => trivial) (aa_ (Below.refl _ _) _) Tt_ (by have := HL.out; simp; omega) ?_); intro v1 w1 ho hb hg hat)
  have ho' : Kd.R k48 48 w1 w.heap.size (fun _ => True) v1 l0 := ho; have HO := aM_ ho'; have HB := aM_ hb; clear ho ho' hb hg hat
  go_wp2
  go_ret
  exact ⟨_, rfl, HO.out, HB.out⟩
theorem Kd.R_up {α : Type} {d : Kd α} {e b : Nat} {w : World} {v : Value} {xs : List α} (h : d.R e w b (fun _ => True) v xs) {s : Nat} (hs : s ≤ b) : d.R e w s (fun k => s ≤ k) v xs := Kd.R_lower (Kd.R_mono (Kd.R_bound h) (fun k hk => Nat.le_trans hs hk.2.1)) hs
theorem su_ (x : S56) (A1 A3 : Option Addr) (c1 c3 : Nat) (w : World) (hr1 : Kd.C (Kd.int .i64) w A1 x.f1.length x.f1) (hc1 : x.f1.length ≤ c1) (hr3 : Kd.C (Kd.int .i64) w A3 x.f2.f1.length x.f2.f1) (hc3 : x.f2.f1.length ≤ c3) (hb1 : x.f1.length ≤ 1000000) (hb3 : x.f2.f1.length ≤ 1000000) :
  Calls Tryz.prog 59 #[.agg #[.int .i64 x.f0, .slice A1 x.f1.length c1, .int .i64 x.f2.f0, .slice A3 x.f2.f1.length c3, .int .i64 x.f3]] w fun e w' => ∃ B1 d1 B3 d3, e = .returned (.agg #[.int .i64 x.f0, .slice B1 x.f1.length d1, .int .i64 x.f2.f0, .slice B3 x.f2.f1.length d3, .int .i64 x.f3]) ∧ Kd.R (Kd.int .i64) 3 w' w.heap.size (fun k => w.heap.size ≤ k) (.slice B1 x.f1.length d1) x.f1 ∧ Kd.R (Kd.int .i64) 3 w' w.heap.size (fun k => w.heap.size ≤ k) (.slice B3 x.f2.f1.length d3) x.f2.f1 ∧ Below w.heap.size w w' := by
 obtain ⟨f0, y1, ⟨f2, y3⟩, f3⟩ := x
 simp only at hr1 hc1 hr3 hc3 hb1 hb3
 have hu1 := Tryz.underlying56
 have hu2 := Tryz.underlying54
 have HG : Az (((w.alloc (.cells #[.int .i64 f0, .slice A1 y1.length c1, .int .i64 f2, .slice A3 y3.length c3, .int .i64 f3] 56)).alloc (.cells #[.int .i64 0, .slice none 0 0, .int .i64 0, .slice none 0 0, .int .i64 0] 56)).heap[w.heap.size]? = some (.cells #[.int .i64 f0, .slice A1 y1.length c1, .int .i64 f2, .slice A3 y3.length c3, .int .i64 f3] 56 (0, 0))) := ⟨la_ (oa_ w _) (aa_ (Below.refl _ _) _)⟩
 have HZ : Az (((w.alloc (.cells #[.int .i64 f0, .slice A1 y1.length c1, .int .i64 f2, .slice A3 y3.length c3, .int .i64 f3] 56)).alloc (.cells #[.int .i64 0, .slice none 0 0, .int .i64 0, .slice none 0 0, .int .i64 0] 56)).heap[w.heap.size + 1]? = some (.cells #[.int .i64 0, .slice none 0 0, .int .i64 0, .slice none 0 0, .int .i64 0] 56 (0, 0))) := ⟨by have := oa_ (w.alloc (.cells #[.int .i64 f0, .slice A1 y1.length c1, .int .i64 f2, .slice A3 y3.length c3, .int .i64 f3] 56)) (.cells #[.int .i64 0, .slice none 0 0, .int .i64 0, .slice none 0 0, .int .i64 0] 56); simpa using this⟩
 have HB2 : Az (Below w.heap.size w ((w.alloc (.cells #[.int .i64 f0, .slice A1 y1.length c1, .int .i64 f2, .slice A3 y3.length c3, .int .i64 f3] 56)).alloc (.cells #[.int .i64 0, .slice none 0 0, .int .i64 0, .slice none 0 0, .int .i64 0] 56))) := ⟨aa_ (aa_ (Below.refl _ _) _) _⟩
 have HC1 : Az (∀ W, Below ((w.alloc (.cells #[.int .i64 f0, .slice A1 y1.length c1, .int .i64 f2, .slice A3 y3.length c3, .int .i64 f3] 56)).alloc (.cells #[.int .i64 0, .slice none 0 0, .int .i64 0, .slice none 0 0, .int .i64 0] 56)).heap.size ((w.alloc (.cells #[.int .i64 f0, .slice A1 y1.length c1, .int .i64 f2, .slice A3 y3.length c3, .int .i64 f3] 56)).alloc (.cells #[.int .i64 0, .slice none 0 0, .int .i64 0, .slice none 0 0, .int .i64 0] 56)) W → Calls Tryz.prog 112 #[.slice A1 y1.length c1] W fun e w' => ∃ v, e = .returned v ∧ Kd.R (Kd.int .i64) 3 w' (w.heap.size + 2) (fun k => w.heap.size + 2 ≤ k) v y1 ∧ Below W.heap.size W w') := ⟨fun W hW => by
  have hBw := da_ HB2.out hW; refine (slices_Clone_int_int.calls A1 c1 y1 y1 W (Kd.C_below hr1 hBw) hc1 (by unfold slices_Clone_int_int.f; rw [if_pos Td_])).mono ?_; rintro e w' ⟨v, rfl, hR, hb⟩
  exact ⟨v, rfl, Kd.R_up hR (by have := hW.size; simpa using this), hb⟩⟩
 have HC3 : Az (∀ W, Below ((w.alloc (.cells #[.int .i64 f0, .slice A1 y1.length c1, .int .i64 f2, .slice A3 y3.length c3, .int .i64 f3] 56)).alloc (.cells #[.int .i64 0, .slice none 0 0, .int .i64 0, .slice none 0 0, .int .i64 0] 56)).heap.size ((w.alloc (.cells #[.int .i64 f0, .slice A1 y1.length c1, .int .i64 f2, .slice A3 y3.length c3, .int .i64 f3] 56)).alloc (.cells #[.int .i64 0, .slice none 0 0, .int .i64 0, .slice none 0 0, .int .i64 0] 56)) W → Calls Tryz.prog 112 #[.slice A3 y3.length c3] W fun e w' => ∃ v, e = .returned v ∧ Kd.R (Kd.int .i64) 3 w' (w.heap.size + 2) (fun k => w.heap.size + 2 ≤ k) v y3 ∧ Below W.heap.size W w') := ⟨fun W hW => by
  have hBw := da_ HB2.out hW; refine (slices_Clone_int_int.calls A3 c3 y3 y3 W (Kd.C_below hr3 hBw) hc3 (by unfold slices_Clone_int_int.f; rw [if_pos Td_])).mono ?_; rintro e w' ⟨v, rfl, hR, hb⟩
  exact ⟨v, rfl, Kd.R_up hR (by have := hW.size; simpa using this), hb⟩⟩
 clear hr1 hc1 hr3 hc3 hb1 hb3
 go_enter Tryz.func59, Tryz.ntmps59
 go_wp2_with fail
 generalize (w.alloc (.cells #[.int .i64 f0, .slice A1 y1.length c1, .int .i64 f2, .slice A3 y3.length c3, .int .i64 f3] 56)).alloc (.cells #[.int .i64 0, .slice none 0 0, .int .i64 0, .slice none 0 0, .int .i64 0] 56) = W2 at *
 generalize hgg : w.heap.size = g at *
 have hg1 : W2.cell? ⟨g, 1, none⟩ = some (.slice A1 y1.length c1) := ba_ HG.out 1
 have hg3 : W2.cell? ⟨g, 3, none⟩ = some (.slice A3 y3.length c3) := ba_ HG.out 3
 refine fd_ (n := 12) (S := fun w' => w'.cell? ⟨g, 1, none⟩ = some (.slice A1 y1.length c1) ∧ w'.cell? ⟨g, 3, none⟩ = some (.slice A3 y3.length c3) ∧ Az (Below W2.heap.size W2 w')) (ds := [8, 11]) (f_ 12 0) Ti_ rfl rfl ⟨hg1, hg3, ⟨ca_ (Below.refl _ _) 1⟩⟩ (fun hHeld => ?_)
 generalize W2.drew = w3 at *
 refine pV_ 0 ?_
 refine tV3_ 1 ?_
 refine pV_ 3 ?_
 refine pV_ 4 ?_
 refine tV3_ 5 ?_
 refine oN_ 2 fun K hK => ?_
 refine gO_ Tryz.func112 #[.slice A1 y1.length c1] ?_
 refine (HC1.out _ hHeld.2.2.out).mono ?_
 rintro e w4 ⟨v1, rfl, hR, hB⟩
 obtain ⟨B1, d1, hs1⟩ := Kd.R_slice hR
 subst hs1
 have HR1 := aM_ hR
 refine ⟨_, rfl, ?_⟩
 refine hK.out _ _ ⟨fa_ hB hHeld.1, fa_ hB hHeld.2.1, ⟨da_ hHeld.2.2.out hB⟩⟩ (fun hHeld => ?_)
 clear hK K
 refine nO_ ?_
 refine pV_ 7 ?_
 refine oN_ 6 fun K hK => ?_
 refine gO_ Tryz.func112 #[.slice A3 y3.length c3] ?_
 refine (HC3.out _ hHeld.2.2.out).mono ?_
 rintro e w5 ⟨v3, rfl, hR, hB⟩
 obtain ⟨B3, d3, hs3⟩ := Kd.R_slice hR
 subst hs3
 have HR3 := aM_ hR
 have HR1B := aM_ (Kd.R_below HR1.out hB)
 have HG5 := aM_ (la_ HG.out (da_ hHeld.2.2.out hB))
 have HZ5 := aM_ (la_ HZ.out (da_ hHeld.2.2.out hB))
 refine ⟨_, rfl, ?_⟩
 refine hK.out _ _ ⟨fa_ hB hHeld.1, fa_ hB hHeld.2.1, ⟨da_ hHeld.2.2.out hB⟩⟩ (fun hHeld => ?_)
 clear hK K
 refine nO_ ?_
 refine lN_ 8 fun K hK => ?_
 have hz3 := hHeld.1
 have hz5 := hHeld.2.1
 have hy3 := ha_ HG5.out 1
 have hy5 := ha_ HG5.out 3
 refine uf_ (w1 := ?_) Vh_ rfl ?_ ?_
 rotate_left
 ·go_simp
  rfl
 refine hK.out _ _ ?_
 clear hK K
 refine pV_ 9 ?_
 refine pV_ 10 ?_
 refine lN_ 11 fun K hK => ?_
 refine uf_ (w1 := ?_) Vh_ rfl ?_ ?_
 rotate_left
 ·go_simp
  rfl
 refine hK.out _ _ ?_
 clear hK K
 refine wd_ Ti_ ?_
 have HB5 := hHeld.2.2
 have hle : w.heap.size ≤ g := by omega
 have HLG := aM_ hle
 have HGG := aM_ hgg
 have HW5 : Az (Below w.heap.size w w5) := ⟨da_ (by rw [hgg]; exact HB2.out) HB5.out⟩
 have HG7 : Az (((w5.setCell ⟨g, 1, none⟩ (.slice B1 y1.length d1)).setCell ⟨g, 3, none⟩ (.slice B3 y3.length d3)).heap[g]? = some (.cells #[.int .i64 f0, .slice B1 y1.length d1, .int .i64 f2, .slice B3 y3.length d3, .int .i64 f3] 56 (0, 0))) := ⟨by simpa using qa_ (qa_ HG5.out 1 (.slice B1 y1.length d1)) 3 (.slice B3 y3.length d3)⟩
 have HZ7 : Az (((w5.setCell ⟨g, 1, none⟩ (.slice B1 y1.length d1)).setCell ⟨g, 3, none⟩ (.slice B3 y3.length d3)).heap[g + 1]? = some (.cells #[.int .i64 0, .slice none 0 0, .int .i64 0, .slice none 0 0, .int .i64 0] 56 (0, 0))) := ⟨(heap_setCell_other _ ⟨g, 3, none⟩ _ _ (Nat.succ_ne_self g)).trans ((heap_setCell_other w5 ⟨g, 1, none⟩ _ _ (Nat.succ_ne_self g)).trans HZ5.out)⟩
 have HW7 : Az (Below w.heap.size w ((w5.setCell ⟨g, 1, none⟩ (.slice B1 y1.length d1)).setCell ⟨g, 3, none⟩ (.slice B3 y3.length d3))) := ⟨Below.setCell (p := ⟨g, 3, none⟩) (Below.setCell (p := ⟨g, 1, none⟩) HW5.out hle _) hle _⟩
 have HR7 := aM_ (Kd.R_far (Kd.R_far HR1B.out (p := ⟨g, 1, none⟩) (fun q hq => by show q ≠ g; omega) (.slice B1 y1.length d1)) (p := ⟨g, 3, none⟩) (fun q hq => by show q ≠ g; omega) (.slice B3 y3.length d3))
 have HR8 := aM_ (Kd.R_far (Kd.R_far HR3.out (p := ⟨g, 1, none⟩) (fun q hq => by show q ≠ g; omega) (.slice B1 y1.length d1)) (p := ⟨g, 3, none⟩) (fun q hq => by show q ≠ g; omega) (.slice B3 y3.length d3))
 generalize ((w5.setCell ⟨g, 1, none⟩ (.slice B1 y1.length d1)).setCell ⟨g, 3, none⟩ (.slice B3 y3.length d3)) = w7 at *
 clear hHeld HB5 HW5 HG5 HZ5 HR1 HR1B HR3 HG HZ HB2 HC1 HC3 hg1 hg3 hz3 hz5 hy3 hy5 hle hgg
 have ha0 := ba_ HG7.out 0
 have hb0 := ba_ HZ7.out 0
 have hf0 := ha_ HZ7.out 0
 have ha1 := ba_ HG7.out 1
 have hb1 := ba_ HZ7.out 1
 have hf1 := ha_ HZ7.out 1
 have ha2 := ba_ HG7.out 2
 have hb2 := ba_ HZ7.out 2
 have hf2 := ha_ HZ7.out 2
 have ha3 := ba_ HG7.out 3
 have hb3 := ba_ HZ7.out 3
 have hf3 := ha_ HZ7.out 3
 have ha4 := ba_ HG7.out 4
 have hb4 := ba_ HZ7.out 4
 have hf4 := ha_ HZ7.out 4
 go_wp2
 have hb7 : (((((w7.setCell ⟨g + 1, 0, none⟩ (.int .i64 f0)).setCell ⟨g + 1, 1, none⟩ (.slice B1 y1.length d1)).setCell ⟨g + 1, 2, none⟩ (.int .i64 f2)).setCell ⟨g + 1, 3, none⟩ (.slice B3 y3.length d3)).setCell ⟨g + 1, 4, none⟩ (.int .i64 f3)).heap[g + 1]? = some (.cells #[.int .i64 f0, .slice B1 y1.length d1, .int .i64 f2, .slice B3 y3.length d3, .int .i64 f3] 56 (0, 0)) := by simpa using (qa_ (qa_ (qa_ (qa_ (qa_ HZ7.out 0 (.int .i64 f0)) 1 (.slice B1 y1.length d1)) 2 (.int .i64 f2)) 3 (.slice B3 y3.length d3)) 4 (.int .i64 f3))
 have hR := HGG.out
 refine bodyPost_ret (results_cell_row rfl _ _ (g + 1) 56 #[.int .i64 f0, .slice B1 y1.length d1, .int .i64 f2, .slice B3 y3.length d3, .int .i64 f3] (0, 0) _ rfl hb7 Tryz.underlying56 rfl Ti_) rfl ?_
 refine ⟨_, _, _, _, rfl, Kd.R_mono (Kd.R_lower (Kd.R_far (Kd.R_far (Kd.R_far (Kd.R_far (Kd.R_far HR7.out (p := ⟨g + 1, 0, none⟩) (fun q hq => by show q ≠ g + 1; omega) (.int .i64 f0)) (p := ⟨g + 1, 1, none⟩) (fun q hq => by show q ≠ g + 1; omega) (.slice B1 y1.length d1)) (p := ⟨g + 1, 2, none⟩) (fun q hq => by show q ≠ g + 1; omega) (.int .i64 f2)) (p := ⟨g + 1, 3, none⟩) (fun q hq => by show q ≠ g + 1; omega) (.slice B3 y3.length d3)) (p := ⟨g + 1, 4, none⟩) (fun q hq => by show q ≠ g + 1; omega) (.int .i64 f3)) Td_) (fun q hq => by have hq2 : g + 2 ≤ q := hq; show w.heap.size ≤ q; omega), Kd.R_mono (Kd.R_lower (Kd.R_far (Kd.R_far (Kd.R_far (Kd.R_far (Kd.R_far HR8.out (p := ⟨g + 1, 0, none⟩) (fun q hq => by show q ≠ g + 1; omega) (.int .i64 f0)) (p := ⟨g + 1, 1, none⟩) (fun q hq => by show q ≠ g + 1; omega) (.slice B1 y1.length d1)) (p := ⟨g + 1, 2, none⟩) (fun q hq => by show q ≠ g + 1; omega) (.int .i64 f2)) (p := ⟨g + 1, 3, none⟩) (fun q hq => by show q ≠ g + 1; omega) (.slice B3 y3.length d3)) (p := ⟨g + 1, 4, none⟩) (fun q hq => by show q ≠ g + 1; omega) (.int .i64 f3)) Td_) (fun q hq => by have hq2 : g + 2 ≤ q := hq; show w.heap.size ≤ q; omega), (Below.setCell (p := ⟨g + 1, 4, none⟩) (Below.setCell (p := ⟨g + 1, 3, none⟩) (Below.setCell (p := ⟨g + 1, 2, none⟩) (Below.setCell (p := ⟨g + 1, 1, none⟩) (Below.setCell (p := ⟨g + 1, 0, none⟩) HW7.out (Nat.le_succ_of_le HLG.out) (.int .i64 f0)) (Nat.le_succ_of_le HLG.out) (.slice B1 y1.length d1)) (Nat.le_succ_of_le HLG.out) (.int .i64 f2)) (Nat.le_succ_of_le HLG.out) (.slice B3 y3.length d3)) (Nat.le_succ_of_le HLG.out) (.int .i64 f3))⟩
theorem fs_ (x : S52) (A1 : Option Addr) (c1 : Nat) (w : World) (hr1 : Kd.C k48 w A1 x.f1.length x.f1) (hb1 : x.f1.length ≤ 1000000) :
  Calls Tryz.prog 64 #[.agg #[.int .i64 x.f0, .slice A1 x.f1.length c1]] w fun e w' => ∃ B1 d1, e = .returned (.agg #[.int .i64 x.f0, .slice B1 x.f1.length d1]) ∧ Kd.R k48 48 w' w.heap.size (fun k => w.heap.size ≤ k) (.slice B1 x.f1.length d1) x.f1 ∧ Below w.heap.size w w' := by
 obtain ⟨f0, y1⟩ := x
 simp only at hr1 hb1
 have hu1 := Tryz.underlying52
 have HG : Az (((w.alloc (.cells #[.int .i64 f0, .slice A1 y1.length c1] 52)).alloc (.cells #[.int .i64 0, .slice none 0 0] 52)).heap[w.heap.size]? = some (.cells #[.int .i64 f0, .slice A1 y1.length c1] 52 (0, 0))) := ⟨la_ (oa_ w _) (aa_ (Below.refl _ _) _)⟩
 have HZ : Az (((w.alloc (.cells #[.int .i64 f0, .slice A1 y1.length c1] 52)).alloc (.cells #[.int .i64 0, .slice none 0 0] 52)).heap[w.heap.size + 1]? = some (.cells #[.int .i64 0, .slice none 0 0] 52 (0, 0))) := ⟨by have := oa_ (w.alloc (.cells #[.int .i64 f0, .slice A1 y1.length c1] 52)) (.cells #[.int .i64 0, .slice none 0 0] 52); simpa using this⟩
 have HB2 : Az (Below w.heap.size w ((w.alloc (.cells #[.int .i64 f0, .slice A1 y1.length c1] 52)).alloc (.cells #[.int .i64 0, .slice none 0 0] 52))) := ⟨aa_ (aa_ (Below.refl _ _) _) _⟩
 have HC1 : Az (∀ W, Below ((w.alloc (.cells #[.int .i64 f0, .slice A1 y1.length c1] 52)).alloc (.cells #[.int .i64 0, .slice none 0 0] 52)).heap.size ((w.alloc (.cells #[.int .i64 f0, .slice A1 y1.length c1] 52)).alloc (.cells #[.int .i64 0, .slice none 0 0] 52)) W → Calls Tryz.prog 115 #[.slice A1 y1.length c1] W fun e w' => ∃ v, e = .returned v ∧ Kd.R k48 48 w' (w.heap.size + 2) (fun k => w.heap.size + 2 ≤ k) v y1 ∧ Below W.heap.size W w') := ⟨fun W hW => by
  have hBw := da_ HB2.out hW; refine (kr_ A1 c1 y1 W (Kd.C_below hr1 hBw) Td_).mono ?_; rintro e w' ⟨v, rfl, hR, hb⟩
  exact ⟨v, rfl, Kd.R_up hR (by have := hW.size; simpa using this), hb⟩⟩
 clear hr1 hb1
 go_enter Tryz.func64, Tryz.ntmps64
 go_wp2_with fail
 generalize (w.alloc (.cells #[.int .i64 f0, .slice A1 y1.length c1] 52)).alloc (.cells #[.int .i64 0, .slice none 0 0] 52) = W2 at *
 generalize hgg : w.heap.size = g at *
 have hg1 : W2.cell? ⟨g, 1, none⟩ = some (.slice A1 y1.length c1) := ba_ HG.out 1
 go_wp2_with fail
 refine (HC1.out W2 (Below.refl _ _)).mono ?_
 rintro e w5 ⟨v1, rfl, hR, hB⟩
 obtain ⟨B1, d1, hs1⟩ := Kd.R_slice hR
 subst hs1
 have HR1 := aM_ hR
 have HG5 := aM_ (la_ HG.out hB)
 have HZ5 := aM_ (la_ HZ.out hB)
 have HB5 := aM_ hB
 clear hR hB
 have hle : w.heap.size ≤ g := by omega
 have HLG := aM_ hle
 have HGG := aM_ hgg
 have HW5 : Az (Below w.heap.size w w5) := ⟨da_ (by rw [hgg]; exact HB2.out) HB5.out⟩
 have HG7 : Az ((w5.setCell ⟨g, 1, none⟩ (.slice B1 y1.length d1)).heap[g]? = some (.cells #[.int .i64 f0, .slice B1 y1.length d1] 52 (0, 0))) := ⟨by simpa using qa_ HG5.out 1 (.slice B1 y1.length d1)⟩
 have HZ7 : Az ((w5.setCell ⟨g, 1, none⟩ (.slice B1 y1.length d1)).heap[g + 1]? = some (.cells #[.int .i64 0, .slice none 0 0] 52 (0, 0))) := ⟨(heap_setCell_other w5 ⟨g, 1, none⟩ _ _ (Nat.succ_ne_self g)).trans HZ5.out⟩
 have HW7 : Az (Below w.heap.size w (w5.setCell ⟨g, 1, none⟩ (.slice B1 y1.length d1))) := ⟨Below.setCell (p := ⟨g, 1, none⟩) HW5.out hle _⟩
 have HR7 := aM_ (Kd.R_far HR1.out (p := ⟨g, 1, none⟩) (fun q hq => by show q ≠ g; omega) (.slice B1 y1.length d1))
 have hz3 := ba_ HG5.out 1
 have hy3 := ha_ HG5.out 1
 clear HB5 HW5 HG5 HZ5 HR1 HG HZ HB2 HC1 hg1 hle hgg
 have ha0 := ba_ HG7.out 0
 have hb0 := ba_ HZ7.out 0
 have hf0 := ha_ HZ7.out 0
 have ha1 := ba_ HG7.out 1
 have hb1 := ba_ HZ7.out 1
 have hf1 := ha_ HZ7.out 1
 go_wp2
 have hb7 : (((w5.setCell ⟨g, 1, none⟩ (.slice B1 y1.length d1)).setCell ⟨g + 1, 0, none⟩ (.int .i64 f0)).setCell ⟨g + 1, 1, none⟩ (.slice B1 y1.length d1)).heap[g + 1]? = some (.cells #[.int .i64 f0, .slice B1 y1.length d1] 52 (0, 0)) := by simpa using (qa_ (qa_ HZ7.out 0 (.int .i64 f0)) 1 (.slice B1 y1.length d1))
 have hR := HGG.out
 refine bodyPost_ret (results_cell_row rfl _ _ (g + 1) 52 #[.int .i64 f0, .slice B1 y1.length d1] (0, 0) _ rfl hb7 Tryz.underlying52 rfl Ti_) rfl ?_
 refine ⟨_, _, rfl, Kd.R_mono (Kd.R_lower (Kd.R_far (Kd.R_far HR7.out (p := ⟨g + 1, 0, none⟩) (fun q hq => by show q ≠ g + 1; omega) (.int .i64 f0)) (p := ⟨g + 1, 1, none⟩) (fun q hq => by show q ≠ g + 1; omega) (.slice B1 y1.length d1)) Td_) (fun q hq => by have hq2 : g + 2 ≤ q := hq; show w.heap.size ≤ q; omega), (Below.setCell (p := ⟨g + 1, 1, none⟩) (Below.setCell (p := ⟨g + 1, 0, none⟩) HW7.out (Nat.le_succ_of_le HLG.out) (.int .i64 f0)) (Nat.le_succ_of_le HLG.out) (.slice B1 y1.length d1))⟩
end Go.Proofs.YtiocgaekoeekgaaGreat.P
end
