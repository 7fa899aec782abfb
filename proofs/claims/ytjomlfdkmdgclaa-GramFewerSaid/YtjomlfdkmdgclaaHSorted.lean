/- slices.Sorted(maps.Keys(m)) at a map of ints: the keys, sorted, in a row of the call's own. -/
import Derived.Test.YtjomlfdkmdgclaaHMap
import Derived.Test.YtjomlfdkmdgclaaHShelf
import Derived.CallsIn
namespace Go.Proofs.Ytjomlfdkmdgclaa.P
open Go.RowKit Go.Proofs.YtjomlfdkmdgclaaW.PrintWords Go.Proofs.YtjomlfdkmdgclaaW.PrintLast Go.Proofs.YtjomlfdkmdgclaaW.PrintMore
attribute [local go_sem] max2_int min2_int max_two min_two max_three min_three max_four min_four   -- for this text's walks alone
set_option linter.unusedVariables false
set_option linter.unusedSimpArgs false

open Go.Maps (Keyed)
open Go.WideElems (Fit rd rg rg_of)
/-- Go's '<=' on ints. -/
def sortI (l : List Int) : List Int := l.mergeSort leI

theorem keys_calls (b : Nat) (W : World) : Calls Try.prog 47 #[.map (some b)] W fun e w' => e = .returned (.func (.func 51) #[] #[.pointer (some ⟨W.heap.size, 0, none⟩)]) ∧ w' = W.alloc (.cells #[.map (some b)] 66) :=
  (callsIn_wide (n := 5)).1 (AnyZI.keys_in Try.keysA Fence.wide 5 trivial rfl (some b) W)

theorem sortsA (m : Nat) : AnyZI.SortsIn Try.prog Try.sortedA_ren Fence.wide m :=
  ⟨fun blk off cap ss W hH hblk hsz => callsIn_wide.2 (AnyM.slices_Sort_int Try.sortA blk off cap ss W hH hblk hsz),
   fun p cap W => callsIn_wide.2 (AnyM.slices_Sort_int_none Try.sortA p cap W)⟩

/-- A map of ints, as the kit's laws want it: of its values nothing is told. -/
theorem ownsMap_of {P : Program} {kt : TypeId} {w : World} {b : Nat} {m : List (Int × Value)} (hkt : P.underlying kt = some (.int .i64)) (h : MapOf P kt (Value.int .i64) w b m) (hlen : m.length ≤ maxLen) :
    ∃ D0 : DataW Unit, w.ownsMap P kt (fun _ => some (DataW.nil, [])) b m.length D0 ∧ (Go.intKeys D0).Perm (m.map (·.1)) ∧ Maps.size D0 = m.length := by
  obtain ⟨es, clock, hb, he, hk, hs⟩ := h
  have hl : es.size = m.length := by have := congrArg List.length he; simpa using this
  have hkey : ∀ x ∈ es.toList, ∃ a, x.key = .int .i64 a ∧ keyOf P kt x.key = some (.int .i64 a) := by
    intro x hx
    have : (x.key, x.val) ∈ m.map (fun p => (Value.int .i64 p.1, p.2)) := by rw [← he]; exact List.mem_map.2 ⟨x, hx, rfl⟩
    obtain ⟨p, hp, hpe⟩ := List.mem_map.1 this
    obtain ⟨l, hl⟩ := hk p hp
    obtain ⟨a, ha, rfl, _⟩ := Maps.keyOf_i64 hkt hl
    have h1 := (Prod.mk.inj hpe).1
    exact ⟨p.1, h1.symm, by rw [← h1, hl, Go.encZ_inj ha]⟩
  have hrd : ∀ x ∈ es.toList, ∃ y, rd P kt (fun _ => some ((DataW.nil : DataW Unit), [])) x = some y := by
    intro x hx
    obtain ⟨a, _, h2⟩ := hkey x hx
    exact ⟨_, Go.WideElems.rd_mk h2 rfl⟩
  refine ⟨.map ((es.toList.map (rg P kt (fun _ => some (DataW.nil, [])))).foldr DataW.insert []), ⟨es, clock, hb, ⟨by omega, hs, hrd⟩, by omega, rfl⟩, ?_, ?_⟩
  · have hp := Go.WideShapes.sorted_perm (es.toList.map (rg P kt (fun _ => some ((DataW.nil : DataW Unit), []))))
    refine ((hp.map fun p => Go.intOf p.1)).trans (.of_eq ?_)
    rw [List.map_map]
    have h2 : m.map (·.1) = es.toList.map (fun x => match x.key with | .int _ a => a | _ => 0) := by
      have := congrArg (List.map (fun q : Value × Value => match q.1 with | .int _ a => a | _ => 0)) he
      rw [List.map_map, List.map_map] at this
      exact (this.trans (by rfl)).symm
    rw [h2]
    refine List.map_congr_left fun x hx => ?_
    obtain ⟨a, h3, h4⟩ := hkey x hx
    show Go.intOf (rg P kt _ x).1 = _
    rw [rg_of (Go.WideElems.rd_mk h4 rfl), h3]
    rfl
  · show ((es.toList.map (rg P kt (fun _ => some ((DataW.nil : DataW Unit), [])))).foldr DataW.insert []).length = m.length
    rw [length_sorted]
    simpa using hl

theorem sorted_calls (b : Nat) (m : List (Int × Value)) (w : World) (h : MapOf Try.prog 3 (Value.int .i64) w b m) (hlen : m.length * 8 ≤ 140737488355328) :
    Calls Try.prog 46 #[.func (.func 51) #[] #[.pointer (some ⟨w.heap.size, 0, none⟩)]] (w.alloc (.cells #[.map (some b)] 66)) fun e w' =>
      ∃ v : Value, e = .returned v ∧ Kd.R (Kd.int .i64) 3 w' w.heap.size (fun _ => True) v (sortI (m.map (·.1))) ∧ Below w.heap.size w w' := by
  obtain ⟨D0, hown, hperm, hsize⟩ := ownsMap_of Try.underlying3 h (by unfold maxLen; omega)
  have hbl := hown.lt
  have hseq : SeqGives Fence.wide 2 Try.prog 51 #[.pointer (some ⟨w.heap.size, 0, none⟩)] encZ (fun ss => ss.Perm (intKeys D0)) (Maps.size D0) (w.alloc (.cells #[.map (some b)] 66)) :=
    AnyZI.keys_gives (ρ := Try.keysA_ren) { Try.keysA with } Fence.wide _ trivial rfl (by omega) w.heap.size b m.length D0 _ (by simp) (by simp) (by
      obtain ⟨es, clock, hb, Ft, hs, hD⟩ := hown
      exact ⟨es, clock, (Below.heap_alloc _ _ b hbl).trans hb, Ft, hs, hD⟩)
  have cS := AnyZI.sorted_in Try.sortedA Fence.wide 5 trivial trivial trivial trivial rfl (by omega) (sortsA _) (enters_of Try.func50 (by kernel_rfl) rfl) 51 #[.pointer (some ⟨w.heap.size, 0, none⟩)] trivial (enters_of Try.func51 (by kernel_rfl) rfl) _ _ (by rw [hsize]; unfold maxLen; omega) (by rw [hsize]; exact hlen) _ hseq
  change CallsIn _ _ Try.prog 46 _ _ _ at cS
  refine ((callsIn_wide (n := 5)).1 cS).mono ?_
  rintro e w' ⟨v, ss, rfl, hS, hrow, hnil, hb⟩
  have e1 : ss.mergeSort leI = sortI (m.map (·.1)) := mergeSort_of_perm_i (hS.trans hperm)
  refine ⟨v, rfl, ?_, (below_alloc (Below.refl _ w) _).trans (hb.mono (by simp))⟩
  have h3 : (sortI (m.map (·.1))).length = ss.length := by rw [← e1]; exact List.length_mergeSort ss
  have hr2 : w'.ownsRow (w.alloc (.cells #[.map (some b)] 66)).heap.size 3 1 v (sortI (m.map (·.1))).length ((sortI (m.map (·.1))).map (Value.int .i64)) := by
    rw [h3, ← e1]
    exact hrow
  have h4 : Kd.R (Kd.int .i64) 3 w' (w.alloc (.cells #[.map (some b)] 66)).heap.size (fun _ => True) v (sortI (m.map (·.1))) := Kd.R_of_own hr2 (fun _ _ => trivial)
  exact Kd.R_lower h4 (by simp)
end Go.Proofs.Ytjomlfdkmdgclaa.P
