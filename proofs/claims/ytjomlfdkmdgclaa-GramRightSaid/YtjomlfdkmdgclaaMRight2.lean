/- GramRight: whether any rule may be is the document's; so is one of which one thing was turned. Part 2: contracts of the functions that the law reaches, and words for them. -/
import Derived.Shelf.Abstract
import Derived.Maps.OwnOps
import Derived.MapKept
import Derived.Shelf.SlIterI.Nil
import Derived.Shelf.SortM.Plain
import Derived.Shelf.SortM.SortNone
import Derived.Ground.GgzProg
import Derived.Ground.SlgmProg
import Derived.Test.YtjomlfdkmdgclaaProg
import Derived.CallsIn
import Derived.WalkSpells
import Derived.BigRegion
import Derived.DeepKeys4
import Derived.Test.YtjomlfdkmdgclaaMRight1
section
namespace Go.Proofs.Ytjomlfdkmdgclaa.P
open Go.RowKit Go.Proofs.YtjomlfdkmdgclaaW.PrintWords Go.Proofs.YtjomlfdkmdgclaaW.PrintLast Go.Proofs.YtjomlfdkmdgclaaW.PrintMore
attribute [local go_sem] max2_int min2_int max_two min_two max_three min_three max_four min_four   
set_option linter.unusedVariables false
set_option linter.unusedSimpArgs false
mutual
noncomputable def interlocutorref4_Right.j0 : Nat → Bool → Int → List Int → Int → List Int → Int → Option (Bool)
  | 0, _, _, _, _, _, _ => none
  | k + 1, x36, x139000, x139001, x139002, x139003, x139004 => if x36 = true then (some false) else (interlocutorref4_Right.l0 k 0 x139000 x139001 x139002 x139003 x139004)
noncomputable def interlocutorref4_Right.l0 : Nat → Int → Int → List Int → Int → List Int → Int → Option (Bool)
  | 0, _, _, _, _, _, _ => none
  | k + 1, x3, x139000, x139001, x139002, x139003, x139004 => if x3 < (x139001.length : Int) then (if 0 ≤ x3 then (if (rd x139001 x3) ≥ 20 then (some false) else (if (rd x139001 x3) < (-61) then (some false) else (interlocutorref4_Right.l0 k (wrap64 (x3 + 1)) x139000 x139001 x139002 x139003 x139004))) else (none)) else ((interlocutorref4_wants.f k x139002).bind fun bt141 => (if (x139003.length : Int) < bt141.1 then (interlocutorref4_Right.j2 k true x139000 x139001 x139002 x139003 x139004) else (interlocutorref4_Right.j2 k (decide ((x139003.length : Int) > bt141.2)) x139000 x139001 x139002 x139003 x139004)))
noncomputable def interlocutorref4_Right.j2 : Nat → Bool → Int → List Int → Int → List Int → Int → Option (Bool)
  | 0, _, _, _, _, _, _ => none
  | k + 1, x78, x139000, x139001, x139002, x139003, x139004 => if x78 = true then (some false) else (interlocutorref4_Right.l1 k 0 x139000 x139001 x139002 x139003 x139004)
noncomputable def interlocutorref4_Right.l1 : Nat → Int → Int → List Int → Int → List Int → Int → Option (Bool)
  | 0, _, _, _, _, _, _ => none
  | k + 1, x6, x139000, x139001, x139002, x139003, x139004 => if x6 < (x139003.length : Int) then (if 0 ≤ x6 then (if (rd x139003 x6) < 0 then (some false) else (if (rd x139003 x6) ≥ (x139001.length : Int) then (some false) else (interlocutorref4_Right.l1 k (wrap64 (x6 + 1)) x139000 x139001 x139002 x139003 x139004))) else (none)) else (some true)
end
noncomputable def interlocutorref4_Right.f (k : Nat) (a0_0 : Int) (l0_1 : List Int) (a0_2 : Int) (l0_3 : List Int) (a0_4 : Int) : Option (Bool) := if a0_0 < 0 then (interlocutorref4_Right.j0 k true a0_0 l0_1 a0_2 l0_3 a0_4) else (if a0_0 ≥ 20 then (interlocutorref4_Right.j0 k true a0_0 l0_1 a0_2 l0_3 a0_4) else (if (l0_1.length : Int) < 1 then (interlocutorref4_Right.j0 k true a0_0 l0_1 a0_2 l0_3 a0_4) else (if (l0_1.length : Int) > 6 then (interlocutorref4_Right.j0 k true a0_0 l0_1 a0_2 l0_3 a0_4) else (if a0_4 < 0 then (interlocutorref4_Right.j0 k true a0_0 l0_1 a0_2 l0_3 a0_4) else (interlocutorref4_Right.j0 k (decide (a0_4 > 100)) a0_0 l0_1 a0_2 l0_3 a0_4)))))
theorem interlocutorref4_Right.mono_l : ∀ k, (∀ y0 y1 y2 y3 y4 y5, LeO (interlocutorref4_Right.j0 k y0 y1 y2 y3 y4 y5) (interlocutorref4_Right.j0 (k + 1) y0 y1 y2 y3 y4 y5)) ∧ (∀ y0 y1 y2 y3 y4 y5, LeO (interlocutorref4_Right.l0 k y0 y1 y2 y3 y4 y5) (interlocutorref4_Right.l0 (k + 1) y0 y1 y2 y3 y4 y5)) ∧ (∀ y0 y1 y2 y3 y4 y5, LeO (interlocutorref4_Right.j2 k y0 y1 y2 y3 y4 y5) (interlocutorref4_Right.j2 (k + 1) y0 y1 y2 y3 y4 y5)) ∧ (∀ y0 y1 y2 y3 y4 y5, LeO (interlocutorref4_Right.l1 k y0 y1 y2 y3 y4 y5) (interlocutorref4_Right.l1 (k + 1) y0 y1 y2 y3 y4 y5))
  | 0 => ⟨fun _ _ _ _ _ _ r h => by simp [interlocutorref4_Right.j0] at h, fun _ _ _ _ _ _ r h => by simp [interlocutorref4_Right.l0] at h, fun _ _ _ _ _ _ r h => by simp [interlocutorref4_Right.j2] at h, fun _ _ _ _ _ _ r h => by simp [interlocutorref4_Right.l1] at h⟩
  | k + 1 => by
    obtain ⟨ih0, ih1, ih2, ih3⟩ := interlocutorref4_Right.mono_l k
    refine ⟨?_, ?_, ?_, ?_⟩
    · intro y0 y1 y2 y3 y4 y5
      unfold interlocutorref4_Right.j0
      repeat' first
      | (with_reducible exact ih0 _ _ _ _ _ _)
      | (with_reducible exact ih1 _ _ _ _ _ _)
      | (with_reducible exact ih2 _ _ _ _ _ _)
      | (with_reducible exact ih3 _ _ _ _ _ _)
      | (with_reducible exact interlocutorref4_wants.mono _ _)
      | (with_reducible exact LeO.refl _)
      | (with_reducible exact LeO.none _)
      | (with_reducible refine LeO.ite ?_ ?_)
      | (with_reducible refine LeO.bind ?_ (fun _ => ?_))
      | exact ih0 _ _ _ _ _ _
      | exact ih1 _ _ _ _ _ _
      | exact ih2 _ _ _ _ _ _
      | exact ih3 _ _ _ _ _ _
      | exact interlocutorref4_wants.mono _ _
      | exact LeO.none _
      | refine LeO.ite ?_ ?_
      | refine LeO.bind ?_ (fun _ => ?_)
    · intro y0 y1 y2 y3 y4 y5
      unfold interlocutorref4_Right.l0
      repeat' first
      | (with_reducible exact ih0 _ _ _ _ _ _)
      | (with_reducible exact ih1 _ _ _ _ _ _)
      | (with_reducible exact ih2 _ _ _ _ _ _)
      | (with_reducible exact ih3 _ _ _ _ _ _)
      | (with_reducible exact interlocutorref4_wants.mono _ _)
      | (with_reducible exact LeO.refl _)
      | (with_reducible exact LeO.none _)
      | (with_reducible refine LeO.ite ?_ ?_)
      | (with_reducible refine LeO.bind ?_ (fun _ => ?_))
      | exact ih0 _ _ _ _ _ _
      | exact ih1 _ _ _ _ _ _
      | exact ih2 _ _ _ _ _ _
      | exact ih3 _ _ _ _ _ _
      | exact interlocutorref4_wants.mono _ _
      | exact LeO.none _
      | refine LeO.ite ?_ ?_
      | refine LeO.bind ?_ (fun _ => ?_)
    · intro y0 y1 y2 y3 y4 y5
      unfold interlocutorref4_Right.j2
      repeat' first
      | (with_reducible exact ih0 _ _ _ _ _ _)
      | (with_reducible exact ih1 _ _ _ _ _ _)
      | (with_reducible exact ih2 _ _ _ _ _ _)
      | (with_reducible exact ih3 _ _ _ _ _ _)
      | (with_reducible exact interlocutorref4_wants.mono _ _)
      | (with_reducible exact LeO.refl _)
      | (with_reducible exact LeO.none _)
      | (with_reducible refine LeO.ite ?_ ?_)
      | (with_reducible refine LeO.bind ?_ (fun _ => ?_))
      | exact ih0 _ _ _ _ _ _
      | exact ih1 _ _ _ _ _ _
      | exact ih2 _ _ _ _ _ _
      | exact ih3 _ _ _ _ _ _
      | exact interlocutorref4_wants.mono _ _
      | exact LeO.none _
      | refine LeO.ite ?_ ?_
      | refine LeO.bind ?_ (fun _ => ?_)
    · intro y0 y1 y2 y3 y4 y5
      unfold interlocutorref4_Right.l1
      repeat' first
      | (with_reducible exact ih0 _ _ _ _ _ _)
      | (with_reducible exact ih1 _ _ _ _ _ _)
      | (with_reducible exact ih2 _ _ _ _ _ _)
      | (with_reducible exact ih3 _ _ _ _ _ _)
      | (with_reducible exact interlocutorref4_wants.mono _ _)
      | (with_reducible exact LeO.refl _)
      | (with_reducible exact LeO.none _)
      | (with_reducible refine LeO.ite ?_ ?_)
      | (with_reducible refine LeO.bind ?_ (fun _ => ?_))
      | exact ih0 _ _ _ _ _ _
      | exact ih1 _ _ _ _ _ _
      | exact ih2 _ _ _ _ _ _
      | exact ih3 _ _ _ _ _ _
      | exact interlocutorref4_wants.mono _ _
      | exact LeO.none _
      | refine LeO.ite ?_ ?_
      | refine LeO.bind ?_ (fun _ => ?_)
theorem interlocutorref4_Right.mono : ∀ a0 a1 a2 a3 a4 k, LeO (interlocutorref4_Right.f k a0 a1 a2 a3 a4) (interlocutorref4_Right.f (k + 1) a0 a1 a2 a3 a4) := by
  intro a0 a1 a2 a3 a4 k
  obtain ⟨ih0, ih1, ih2, ih3⟩ := interlocutorref4_Right.mono_l k
  unfold interlocutorref4_Right.f
  repeat' first
      | (with_reducible exact ih0 _ _ _ _ _ _)
      | (with_reducible exact ih1 _ _ _ _ _ _)
      | (with_reducible exact ih2 _ _ _ _ _ _)
      | (with_reducible exact ih3 _ _ _ _ _ _)
      | (with_reducible exact interlocutorref4_wants.mono _ _)
      | (with_reducible exact LeO.refl _)
      | (with_reducible exact LeO.none _)
      | (with_reducible refine LeO.ite ?_ ?_)
      | (with_reducible refine LeO.bind ?_ (fun _ => ?_))
      | exact ih0 _ _ _ _ _ _
      | exact ih1 _ _ _ _ _ _
      | exact ih2 _ _ _ _ _ _
      | exact ih3 _ _ _ _ _ _
      | exact interlocutorref4_wants.mono _ _
      | exact LeO.none _
      | refine LeO.ite ?_ ?_
      | refine LeO.bind ?_ (fun _ => ?_)
set_option maxHeartbeats 8000000 in
set_option maxRecDepth 100000 in
theorem interlocutorref4_Right.calls (k : Nat) (a0_0 : Int) (A0_1 : Option Addr) (c0_1 : Nat) (l0_1 : List Int) (a0_2 : Int) (A0_3 : Option Addr) (c0_3 : Nat) (l0_3 : List Int) (a0_4 : Int) (r : Bool) (w : World) (hr0_1 : Kd.C (Kd.int .i64) w A0_1 l0_1.length l0_1) (hc0_1 : l0_1.length ≤ c0_1) (hr0_3 : Kd.C (Kd.int .i64) w A0_3 l0_3.length l0_3) (hc0_3 : l0_3.length ≤ c0_3) (h : interlocutorref4_Right.f k a0_0 l0_1 a0_2 l0_3 a0_4 = some r) :
    Calls Try.prog 18 #[.agg #[.int .i64 a0_0, .slice A0_1 l0_1.length c0_1, .int .i64 a0_2, .slice A0_3 l0_3.length c0_3, .int .i64 a0_4]] w fun e w' => e = .returned (.bool r) ∧ Below w.heap.size w w' := by
  have hu26 := Try.underlying26
  have HR0_1 := Aside0.mk hr0_1
  have HC0_1 := Aside0.mk hc0_1
  clear hr0_1 hc0_1
  have HR0_3 := Aside0.mk hr0_3
  have HC0_3 := Aside0.mk hc0_3
  clear hr0_3 hc0_3
  have HB := Aside0.mk (Below.refl w.heap.size w)
  have H : (if a0_0 < 0 then (interlocutorref4_Right.j0 k true a0_0 l0_1 a0_2 l0_3 a0_4) else (if a0_0 ≥ 20 then (interlocutorref4_Right.j0 k true a0_0 l0_1 a0_2 l0_3 a0_4) else (if (l0_1.length : Int) < 1 then (interlocutorref4_Right.j0 k true a0_0 l0_1 a0_2 l0_3 a0_4) else (if (l0_1.length : Int) > 6 then (interlocutorref4_Right.j0 k true a0_0 l0_1 a0_2 l0_3 a0_4) else (if a0_4 < 0 then (interlocutorref4_Right.j0 k true a0_0 l0_1 a0_2 l0_3 a0_4) else (interlocutorref4_Right.j0 k (decide (a0_4 > 100)) a0_0 l0_1 a0_2 l0_3 a0_4)))))) = some r := h
  clear h
  have HC2 := Aside0.mk H
  clear H
  go_enter Try.func18, Try.ntmps18
  go_upto_region 1 with (first | ((with_reducible refine gate_dst (N := 1) rfl ?_); (try (refine gate_guard (by rfl) ?_; dsimp only)); refine box_event ?hg (N := 1) ?hd (cs := #[.int .i64 a0_0, .slice A0_1 l0_1.length c0_1, .int .i64 a0_2, .slice A0_3 l0_3.length c0_3, .int .i64 a0_4]) (t := 26) ?hr ?_; (case hd => rfl); (case hg => rfl); (case hr => first | (go_simp; done) | (go_simp; rfl)); intro gb138 hg w3 hbox hb; have n0_ := Aside0.mk (below_step (by repeat (first | (with_reducible first | exact HB.out | apply below_alloc | apply pw_below_drewN | apply below_drew1) | exact HB.out)) hb); have n1_ := Aside0.mk (hbox); have n2_ := Aside0.mk ((by rw [hg]; exact (below_size (by repeat (first | (with_reducible first | exact HB.out | apply below_alloc | apply pw_below_drewN | apply below_drew1) | exact HB.out))) : w.heap.size ≤ gb138)); have n3_ := Aside0.mk ((by rw [hg]; exact (below_size (by repeat (first | (with_reducible first | exact HB.out | apply below_alloc | apply pw_below_drewN | apply below_drew1) | exact HB.out))) : w.heap.size ≤ gb138)); clear HB; have HB := n0_; have BK138 := n1_; have GW138 := n2_; have GE138 := n3_; clear n0_ n1_ n2_ n3_; clear hb hbox hg))
  repeat (go_quiet (first | ((with_reducible refine gate_dst (N := 1) rfl ?_); (try (refine gate_guard (by rfl) ?_; dsimp only)); refine box_event ?hg (N := 1) ?hd (cs := #[.int .i64 a0_0, .slice A0_1 l0_1.length c0_1, .int .i64 a0_2, .slice A0_3 l0_3.length c0_3, .int .i64 a0_4]) (t := 26) ?hr ?_; (case hd => rfl); (case hg => rfl); (case hr => first | (go_simp; done) | (go_simp; rfl)); intro gb138 hg w3 hbox hb; have n0_ := Aside0.mk (below_step (by repeat (first | (with_reducible first | exact HB.out | apply below_alloc | apply pw_below_drewN | apply below_drew1) | exact HB.out)) hb); have n1_ := Aside0.mk (hbox); have n2_ := Aside0.mk ((by rw [hg]; exact (below_size (by repeat (first | (with_reducible first | exact HB.out | apply below_alloc | apply pw_below_drewN | apply below_drew1) | exact HB.out))) : w.heap.size ≤ gb138)); have n3_ := Aside0.mk ((by rw [hg]; exact (below_size (by repeat (first | (with_reducible first | exact HB.out | apply below_alloc | apply pw_below_drewN | apply below_drew1) | exact HB.out))) : w.heap.size ≤ gb138)); clear HB; have HB := n0_; have BK138 := n1_; have GW138 := n2_; have GE138 := n3_; clear n0_ n1_ n2_ n3_; clear hb hbox hg)); go_upto_region 1 with (first | ((with_reducible refine gate_dst (N := 1) rfl ?_); (try (refine gate_guard (by rfl) ?_; dsimp only)); refine box_event ?hg (N := 1) ?hd (cs := #[.int .i64 a0_0, .slice A0_1 l0_1.length c0_1, .int .i64 a0_2, .slice A0_3 l0_3.length c0_3, .int .i64 a0_4]) (t := 26) ?hr ?_; (case hd => rfl); (case hg => rfl); (case hr => first | (go_simp; done) | (go_simp; rfl)); intro gb138 hg w3 hbox hb; have n0_ := Aside0.mk (below_step (by repeat (first | (with_reducible first | exact HB.out | apply below_alloc | apply pw_below_drewN | apply below_drew1) | exact HB.out)) hb); have n1_ := Aside0.mk (hbox); have n2_ := Aside0.mk ((by rw [hg]; exact (below_size (by repeat (first | (with_reducible first | exact HB.out | apply below_alloc | apply pw_below_drewN | apply below_drew1) | exact HB.out))) : w.heap.size ≤ gb138)); have n3_ := Aside0.mk ((by rw [hg]; exact (below_size (by repeat (first | (with_reducible first | exact HB.out | apply below_alloc | apply pw_below_drewN | apply below_drew1) | exact HB.out))) : w.heap.size ≤ gb138)); clear HB; have HB := n0_; have BK138 := n1_; have GW138 := n2_; have GE138 := n3_; clear n0_ n1_ n2_ n3_; clear hb hbox hg)))
  (try simp only [Act.put, List.setIfInBounds_toArray, List.set_cons_zero, List.set_cons_succ])
  go_cut [36] (fun v36 wc => ∃ (kq : Nat) (x36_1 : Bool), v36 = .bool x36_1 ∧ Aside0 (interlocutorref4_Right.j0 kq x36_1 a0_0 l0_1 a0_2 l0_3 a0_4 = some r) ∧ Aside0 (kq ≤ k) ∧ Aside0 (wc.heap[gb138]? = some (.cells #[.int .i64 a0_0, (.slice A0_1 l0_1.length c0_1), .int .i64 a0_2, (.slice A0_3 l0_3.length c0_3), .int .i64 a0_4] 26 (0, 0))) ∧ Aside0 (Below w.heap.size w wc))
  case first =>
    have H := HC2.out
    clear HC2
    by_cases c4 : a0_0 < 0
    · rw [if_pos c4] at H
      have c4b0 : decide (a0_0 < 0) = true := decide_eq_true c4
      clear c4
      (first | rw [c4b0] | (simp only [i64_w, i32_w]; rw [c4b0]) | skip)
      have H' := Aside0.mk H
      clear H
      have hcz5_0 : w3.cell? ⟨gb138, 0, none⟩ = some (.int .i64 a0_0) := (blk_cell BK138.out 0).trans rfl
      have hcz5_1 : w3.cell? ⟨gb138, 1, none⟩ = some (.slice A0_1 l0_1.length c0_1) := (blk_cell BK138.out 1).trans rfl
      have hcz5_2 : w3.cell? ⟨gb138, 2, none⟩ = some (.int .i64 a0_2) := (blk_cell BK138.out 2).trans rfl
      have hcz5_3 : w3.cell? ⟨gb138, 3, none⟩ = some (.slice A0_3 l0_3.length c0_3) := (blk_cell BK138.out 3).trans rfl
      have hcz5_4 : w3.cell? ⟨gb138, 4, none⟩ = some (.int .i64 a0_4) := (blk_cell BK138.out 4).trans rfl
      have hfz5_0 := blk_frozen BK138.out 0
      have hfz5_1 := blk_frozen BK138.out 1
      have hfz5_2 := blk_frozen BK138.out 2
      have hfz5_3 := blk_frozen BK138.out 3
      have hfz5_4 := blk_frozen BK138.out 4
      go_wp2
      repeat (go_quiet (fail); try go_wp2)
      go_meet
      case rel => exact ⟨_, (true), (by first | rfl | (simp; done) | (simp [*]; done)), H', ⟨by first | omega | exact Nat.le_refl _⟩, ⟨by (with_reducible repeat (first | refine blk_drewN ?_ _ | refine blk_drew ?_ | refine blk_alloc ?_ _)); exact BK138.out⟩, ⟨by repeat (first | (with_reducible first | exact HB.out | apply below_alloc | apply pw_below_drewN | apply below_drew1 | refine below_set ?_ GE138.out) | exact HB.out)⟩⟩
    · rw [if_neg c4] at H
      have c4b0 : decide (a0_0 < 0) = false := decide_eq_false c4
      clear c4
      (first | rw [c4b0] | (simp only [i64_w, i32_w]; rw [c4b0]) | skip)
      by_cases c6 : a0_0 ≥ 20
      · rw [if_pos c6] at H
        have c6b0 : decide (20 ≤ a0_0) = true := decide_eq_true c6
        clear c6
        have H' := Aside0.mk H
        clear H
        have hcz7_0 : w3.cell? ⟨gb138, 0, none⟩ = some (.int .i64 a0_0) := (blk_cell BK138.out 0).trans rfl
        have hcz7_1 : w3.cell? ⟨gb138, 1, none⟩ = some (.slice A0_1 l0_1.length c0_1) := (blk_cell BK138.out 1).trans rfl
        have hcz7_2 : w3.cell? ⟨gb138, 2, none⟩ = some (.int .i64 a0_2) := (blk_cell BK138.out 2).trans rfl
        have hcz7_3 : w3.cell? ⟨gb138, 3, none⟩ = some (.slice A0_3 l0_3.length c0_3) := (blk_cell BK138.out 3).trans rfl
        have hcz7_4 : w3.cell? ⟨gb138, 4, none⟩ = some (.int .i64 a0_4) := (blk_cell BK138.out 4).trans rfl
        have hfz7_0 := blk_frozen BK138.out 0
        have hfz7_1 := blk_frozen BK138.out 1
        have hfz7_2 := blk_frozen BK138.out 2
        have hfz7_3 := blk_frozen BK138.out 3
        have hfz7_4 := blk_frozen BK138.out 4
        go_wp2
        repeat (go_quiet (fail); try go_wp2)
        go_meet
        case rel => exact ⟨_, (true), (by first | rfl | (simp; done) | (simp [*]; done)), H', ⟨by first | omega | exact Nat.le_refl _⟩, ⟨by (with_reducible repeat (first | refine blk_drewN ?_ _ | refine blk_drew ?_ | refine blk_alloc ?_ _)); exact BK138.out⟩, ⟨by repeat (first | (with_reducible first | exact HB.out | apply below_alloc | apply pw_below_drewN | apply below_drew1 | refine below_set ?_ GE138.out) | exact HB.out)⟩⟩
      · rw [if_neg c6] at H
        have c6b0 : decide (20 ≤ a0_0) = false := decide_eq_false c6
        clear c6
        by_cases c8 : (l0_1.length : Int) < 1
        · rw [if_pos c8] at H
          have c8b0 : decide ((l0_1.length : Int) < 1) = true := decide_eq_true c8
          have c8b1 : decide (l0_1.length < 1) = true := decide_eq_true (by omega)
          clear c8
          have H' := Aside0.mk H
          clear H
          have hcz9_0 : w3.cell? ⟨gb138, 0, none⟩ = some (.int .i64 a0_0) := (blk_cell BK138.out 0).trans rfl
          have hcz9_1 : w3.cell? ⟨gb138, 1, none⟩ = some (.slice A0_1 l0_1.length c0_1) := (blk_cell BK138.out 1).trans rfl
          have hcz9_2 : w3.cell? ⟨gb138, 2, none⟩ = some (.int .i64 a0_2) := (blk_cell BK138.out 2).trans rfl
          have hcz9_3 : w3.cell? ⟨gb138, 3, none⟩ = some (.slice A0_3 l0_3.length c0_3) := (blk_cell BK138.out 3).trans rfl
          have hcz9_4 : w3.cell? ⟨gb138, 4, none⟩ = some (.int .i64 a0_4) := (blk_cell BK138.out 4).trans rfl
          have hfz9_0 := blk_frozen BK138.out 0
          have hfz9_1 := blk_frozen BK138.out 1
          have hfz9_2 := blk_frozen BK138.out 2
          have hfz9_3 := blk_frozen BK138.out 3
          have hfz9_4 := blk_frozen BK138.out 4
          go_wp2
          repeat (go_quiet (fail); try go_wp2)
          go_meet
          case rel => exact ⟨_, (true), (by first | rfl | (simp; done) | (simp [*]; done)), H', ⟨by first | omega | exact Nat.le_refl _⟩, ⟨by (with_reducible repeat (first | refine blk_drewN ?_ _ | refine blk_drew ?_ | refine blk_alloc ?_ _)); exact BK138.out⟩, ⟨by repeat (first | (with_reducible first | exact HB.out | apply below_alloc | apply pw_below_drewN | apply below_drew1 | refine below_set ?_ GE138.out) | exact HB.out)⟩⟩
        · rw [if_neg c8] at H
          have c8b0 : decide ((l0_1.length : Int) < 1) = false := decide_eq_false c8
          have c8b1 : decide (l0_1.length < 1) = false := decide_eq_false (by omega)
          clear c8
          by_cases c10 : (l0_1.length : Int) > 6
          · rw [if_pos c10] at H
            have c10b0 : decide (6 < (l0_1.length : Int)) = true := decide_eq_true c10
            have c10b1 : decide (6 < l0_1.length) = true := decide_eq_true (by omega)
            clear c10
            have H' := Aside0.mk H
            clear H
            have hcz11_0 : w3.cell? ⟨gb138, 0, none⟩ = some (.int .i64 a0_0) := (blk_cell BK138.out 0).trans rfl
            have hcz11_1 : w3.cell? ⟨gb138, 1, none⟩ = some (.slice A0_1 l0_1.length c0_1) := (blk_cell BK138.out 1).trans rfl
            have hcz11_2 : w3.cell? ⟨gb138, 2, none⟩ = some (.int .i64 a0_2) := (blk_cell BK138.out 2).trans rfl
            have hcz11_3 : w3.cell? ⟨gb138, 3, none⟩ = some (.slice A0_3 l0_3.length c0_3) := (blk_cell BK138.out 3).trans rfl
            have hcz11_4 : w3.cell? ⟨gb138, 4, none⟩ = some (.int .i64 a0_4) := (blk_cell BK138.out 4).trans rfl
            have hfz11_0 := blk_frozen BK138.out 0
            have hfz11_1 := blk_frozen BK138.out 1
            have hfz11_2 := blk_frozen BK138.out 2
            have hfz11_3 := blk_frozen BK138.out 3
            have hfz11_4 := blk_frozen BK138.out 4
            go_wp2
            repeat (go_quiet (fail); try go_wp2)
            go_meet
            case rel => exact ⟨_, (true), (by first | rfl | (simp; done) | (simp [*]; done)), H', ⟨by first | omega | exact Nat.le_refl _⟩, ⟨by (with_reducible repeat (first | refine blk_drewN ?_ _ | refine blk_drew ?_ | refine blk_alloc ?_ _)); exact BK138.out⟩, ⟨by repeat (first | (with_reducible first | exact HB.out | apply below_alloc | apply pw_below_drewN | apply below_drew1 | refine below_set ?_ GE138.out) | exact HB.out)⟩⟩
          · rw [if_neg c10] at H
            have c10b0 : decide (6 < (l0_1.length : Int)) = false := decide_eq_false c10
            have c10b1 : decide (6 < l0_1.length) = false := decide_eq_false (by omega)
            clear c10
            by_cases c12 : a0_4 < 0
            · rw [if_pos c12] at H
              have c12b0 : decide (a0_4 < 0) = true := decide_eq_true c12
              clear c12
              have H' := Aside0.mk H
              clear H
              have hcz13_0 : w3.cell? ⟨gb138, 0, none⟩ = some (.int .i64 a0_0) := (blk_cell BK138.out 0).trans rfl
              have hcz13_1 : w3.cell? ⟨gb138, 1, none⟩ = some (.slice A0_1 l0_1.length c0_1) := (blk_cell BK138.out 1).trans rfl
              have hcz13_2 : w3.cell? ⟨gb138, 2, none⟩ = some (.int .i64 a0_2) := (blk_cell BK138.out 2).trans rfl
              have hcz13_3 : w3.cell? ⟨gb138, 3, none⟩ = some (.slice A0_3 l0_3.length c0_3) := (blk_cell BK138.out 3).trans rfl
              have hcz13_4 : w3.cell? ⟨gb138, 4, none⟩ = some (.int .i64 a0_4) := (blk_cell BK138.out 4).trans rfl
              have hfz13_0 := blk_frozen BK138.out 0
              have hfz13_1 := blk_frozen BK138.out 1
              have hfz13_2 := blk_frozen BK138.out 2
              have hfz13_3 := blk_frozen BK138.out 3
              have hfz13_4 := blk_frozen BK138.out 4
              go_wp2
              repeat (go_quiet (fail); try go_wp2)
              go_meet
              case rel => exact ⟨_, (true), (by first | rfl | (simp; done) | (simp [*]; done)), H', ⟨by first | omega | exact Nat.le_refl _⟩, ⟨by (with_reducible repeat (first | refine blk_drewN ?_ _ | refine blk_drew ?_ | refine blk_alloc ?_ _)); exact BK138.out⟩, ⟨by repeat (first | (with_reducible first | exact HB.out | apply below_alloc | apply pw_below_drewN | apply below_drew1 | refine below_set ?_ GE138.out) | exact HB.out)⟩⟩
            · rw [if_neg c12] at H
              have c12b0 : decide (a0_4 < 0) = false := decide_eq_false c12
              clear c12
              have H' := Aside0.mk H
              clear H
              have hcz14_0 : w3.cell? ⟨gb138, 0, none⟩ = some (.int .i64 a0_0) := (blk_cell BK138.out 0).trans rfl
              have hcz14_1 : w3.cell? ⟨gb138, 1, none⟩ = some (.slice A0_1 l0_1.length c0_1) := (blk_cell BK138.out 1).trans rfl
              have hcz14_2 : w3.cell? ⟨gb138, 2, none⟩ = some (.int .i64 a0_2) := (blk_cell BK138.out 2).trans rfl
              have hcz14_3 : w3.cell? ⟨gb138, 3, none⟩ = some (.slice A0_3 l0_3.length c0_3) := (blk_cell BK138.out 3).trans rfl
              have hcz14_4 : w3.cell? ⟨gb138, 4, none⟩ = some (.int .i64 a0_4) := (blk_cell BK138.out 4).trans rfl
              have hfz14_0 := blk_frozen BK138.out 0
              have hfz14_1 := blk_frozen BK138.out 1
              have hfz14_2 := blk_frozen BK138.out 2
              have hfz14_3 := blk_frozen BK138.out 3
              have hfz14_4 := blk_frozen BK138.out 4
              go_wp2
              repeat (go_quiet (fail); try go_wp2)
              go_meet
              case rel => exact ⟨_, (decide (a0_4 > 100)), (by first | rfl | (simp; done) | (simp [*]; done)), H', ⟨by first | omega | exact Nat.le_refl _⟩, ⟨by (with_reducible repeat (first | refine blk_drewN ?_ _ | refine blk_drew ?_ | refine blk_alloc ?_ _)); exact BK138.out⟩, ⟨by repeat (first | (with_reducible first | exact HB.out | apply below_alloc | apply pw_below_drewN | apply below_drew1 | refine below_set ?_ GE138.out) | exact HB.out)⟩⟩
  case rest =>
    clear HC2
    try clear c1
    try clear p2
    try clear c4
    try clear c4b0
    try clear c6
    try clear c6b0
    try clear c8
    try clear c8b0
    try clear c8b1
    try clear c10
    try clear c10b0
    try clear c10b1
    try clear c12
    try clear c12b0
    try clear hcz11_0
    try clear hcz11_1
    try clear hcz11_2
    try clear hcz11_3
    try clear hcz11_4
    try clear hcz13_0
    try clear hcz13_1
    try clear hcz13_2
    try clear hcz13_3
    try clear hcz13_4
    try clear hcz14_0
    try clear hcz14_1
    try clear hcz14_2
    try clear hcz14_3
    try clear hcz14_4
    try clear hcz5_0
    try clear hcz5_1
    try clear hcz5_2
    try clear hcz5_3
    try clear hcz5_4
    try clear hcz7_0
    try clear hcz7_1
    try clear hcz7_2
    try clear hcz7_3
    try clear hcz7_4
    try clear hcz9_0
    try clear hcz9_1
    try clear hcz9_2
    try clear hcz9_3
    try clear hcz9_4
    try clear hfz11_0
    try clear hfz11_1
    try clear hfz11_2
    try clear hfz11_3
    try clear hfz11_4
    try clear hfz13_0
    try clear hfz13_1
    try clear hfz13_2
    try clear hfz13_3
    try clear hfz13_4
    try clear hfz14_0
    try clear hfz14_1
    try clear hfz14_2
    try clear hfz14_3
    try clear hfz14_4
    try clear hfz5_0
    try clear hfz5_1
    try clear hfz5_2
    try clear hfz5_3
    try clear hfz5_4
    try clear hfz7_0
    try clear hfz7_1
    try clear hfz7_2
    try clear hfz7_3
    try clear hfz7_4
    try clear hfz9_0
    try clear hfz9_1
    try clear hfz9_2
    try clear hfz9_3
    try clear hfz9_4
    obtain ⟨kq, x36_1, rfl, HA, HJ1, BK138, HB⟩ := hcut
    cases kq with
    | zero => exact absurd HA.out (by simp [interlocutorref4_Right.j0])
    | succ kj1 =>
      have H := HA.out
      clear HA
      simp only [interlocutorref4_Right.j0] at H
      by_cases c15 : x36_1 = true
      · subst c15
        have H1 : (some false) = some r := by rw [if_pos rfl] at H; exact H
        clear H
        have H := H1
        clear H1
        obtain rfl := Option.some.inj H
        go_wp2
        repeat (go_quiet (fail); try go_wp2)
        go_ret
        exact ⟨by first | rfl | (simp [errW_none, errW_some] <;> rfl) | (simp [*, errW_none, errW_some] <;> rfl), by repeat (first | (with_reducible first | exact HB.out | apply below_alloc | apply pw_below_drewN | apply below_drew1 | refine below_set ?_ GE138.out) | exact HB.out)⟩
      · replace c15 := Bool.eq_false_iff.mpr c15
        subst c15
        have H1 : (interlocutorref4_Right.l0 kj1 0 a0_0 l0_1 a0_2 l0_3 a0_4) = some r := by rw [if_neg (show ¬ (false = true) by decide)] at H; exact H
        clear H
        have H := H1
        clear H1
        have H' := Aside0.mk H
        clear H
        go_wp2
        repeat (go_quiet (fail); try go_wp2)
        go_loopg [3] kj1 (fun kq v3 w' => ∃ (x3_2 : Int), v3 = .int .i64 x3_2 ∧ Aside0 (interlocutorref4_Right.l0 kq x3_2 a0_0 l0_1 a0_2 l0_3 a0_4 = some r) ∧ Aside0 (kq ≤ kj1) ∧ Aside0 (w'.heap[gb138]? = some (.cells #[.int .i64 a0_0, (.slice A0_1 l0_1.length c0_1), .int .i64 a0_2, (.slice A0_3 l0_3.length c0_3), .int .i64 a0_4] 26 (0, 0))) ∧ Aside0 (Below w.heap.size w w'))
        case atStart => exact ⟨(0), (by first | rfl | (simp; done) | (simp [*]; done)), H', ⟨Nat.le_refl _⟩, ⟨by (with_reducible repeat (first | refine blk_drewN ?_ _ | refine blk_drew ?_ | refine blk_alloc ?_ _)); exact BK138.out⟩, ⟨by repeat (first | (with_reducible first | exact HB.out | apply below_alloc | apply pw_below_drewN | apply below_drew1 | refine below_set ?_ GE138.out) | exact HB.out)⟩⟩
        case round =>
          clear H'
          try clear c1
          try clear p2
          try clear c4
          try clear c4b0
          try clear c6
          try clear c6b0
          try clear c8
          try clear c8b0
          try clear c8b1
          try clear c10
          try clear c10b0
          try clear c10b1
          try clear c12
          try clear c12b0
          try clear c15
          try clear hcz11_0
          try clear hcz11_1
          try clear hcz11_2
          try clear hcz11_3
          try clear hcz11_4
          try clear hcz13_0
          try clear hcz13_1
          try clear hcz13_2
          try clear hcz13_3
          try clear hcz13_4
          try clear hcz14_0
          try clear hcz14_1
          try clear hcz14_2
          try clear hcz14_3
          try clear hcz14_4
          try clear hcz5_0
          try clear hcz5_1
          try clear hcz5_2
          try clear hcz5_3
          try clear hcz5_4
          try clear hcz7_0
          try clear hcz7_1
          try clear hcz7_2
          try clear hcz7_3
          try clear hcz7_4
          try clear hcz9_0
          try clear hcz9_1
          try clear hcz9_2
          try clear hcz9_3
          try clear hcz9_4
          try clear hfz11_0
          try clear hfz11_1
          try clear hfz11_2
          try clear hfz11_3
          try clear hfz11_4
          try clear hfz13_0
          try clear hfz13_1
          try clear hfz13_2
          try clear hfz13_3
          try clear hfz13_4
          try clear hfz14_0
          try clear hfz14_1
          try clear hfz14_2
          try clear hfz14_3
          try clear hfz14_4
          try clear hfz5_0
          try clear hfz5_1
          try clear hfz5_2
          try clear hfz5_3
          try clear hfz5_4
          try clear hfz7_0
          try clear hfz7_1
          try clear hfz7_2
          try clear hfz7_3
          try clear hfz7_4
          try clear hfz9_0
          try clear hfz9_1
          try clear hfz9_2
          try clear hfz9_3
          try clear hfz9_4
          try clear p2
          obtain ⟨x3_2, rfl, HA, HK2, BK138, HB⟩ := hrel
          cases gk with
          | zero => exact absurd HA.out (by simp [interlocutorref4_Right.l0])
          | succ k2 =>
            have H := HA.out
            clear HA
            simp only [interlocutorref4_Right.l0] at H
            by_cases c16 : x3_2 < (l0_1.length : Int)
            · rw [if_pos c16] at H
              have c16b0 : decide (x3_2 < (l0_1.length : Int)) = true := decide_eq_true c16
              clear c16
              by_cases c17 : 0 ≤ x3_2
              · rw [if_pos c17] at H
                have c17b0 : decide (0 ≤ x3_2) = true := decide_eq_true c17
                clear c17
                by_cases c18 : (rd l0_1 x3_2) ≥ 20
                · rw [if_pos c18] at H
                  have c18b0 : decide (20 ≤ (rd l0_1 x3_2)) = true := decide_eq_true c18
                  clear c18
                  obtain rfl := Option.some.inj H
                  have hcz19_0 : wr.cell? ⟨gb138, 0, none⟩ = some (.int .i64 a0_0) := (blk_cell BK138.out 0).trans rfl
                  have hcz19_1 : wr.cell? ⟨gb138, 1, none⟩ = some (.slice A0_1 l0_1.length c0_1) := (blk_cell BK138.out 1).trans rfl
                  have hcz19_2 : wr.cell? ⟨gb138, 2, none⟩ = some (.int .i64 a0_2) := (blk_cell BK138.out 2).trans rfl
                  have hcz19_3 : wr.cell? ⟨gb138, 3, none⟩ = some (.slice A0_3 l0_3.length c0_3) := (blk_cell BK138.out 3).trans rfl
                  have hcz19_4 : wr.cell? ⟨gb138, 4, none⟩ = some (.int .i64 a0_4) := (blk_cell BK138.out 4).trans rfl
                  have hfz19_0 := blk_frozen BK138.out 0
                  have hfz19_1 := blk_frozen BK138.out 1
                  have hfz19_2 := blk_frozen BK138.out 2
                  have hfz19_3 := blk_frozen BK138.out 3
                  have hfz19_4 := blk_frozen BK138.out 4
                  have p139 : 0 ≤ (x3_2 : Int) := of_decide_eq_true (by first | (with_reducible assumption) | assumption)
                  have q139 : x3_2 < (l0_1.length : Int) := of_decide_eq_true (by first | (with_reducible assumption) | assumption)
                  obtain ⟨ad139, e139, hx139_0⟩ := Kd.at_int HR0_1.out x3_2 p139 q139
                  cases e139
                  replace hx139_0 := (HB.out.cell (World.block_lt_of_cell? w _ hx139_0)).trans hx139_0
                  replace p139 := eq_true p139
                  replace q139 := eq_true q139
                  go_wp2
                  repeat (go_quiet (fail); try go_wp2)
                  go_ret
                  exact ⟨by first | rfl | (simp [errW_none, errW_some] <;> rfl) | (simp [*, errW_none, errW_some] <;> rfl), by repeat (first | (with_reducible first | exact HB.out | apply below_alloc | apply pw_below_drewN | apply below_drew1 | refine below_set ?_ GE138.out) | exact HB.out)⟩
                · rw [if_neg c18] at H
                  have c18b0 : decide (20 ≤ (rd l0_1 x3_2)) = false := decide_eq_false c18
                  clear c18
                  by_cases c20 : (rd l0_1 x3_2) < (-61)
                  · rw [if_pos c20] at H
                    have c20b0 : decide ((rd l0_1 x3_2) < (-61)) = true := decide_eq_true c20
                    clear c20
                    obtain rfl := Option.some.inj H
                    have hcz21_0 : wr.cell? ⟨gb138, 0, none⟩ = some (.int .i64 a0_0) := (blk_cell BK138.out 0).trans rfl
                    have hcz21_1 : wr.cell? ⟨gb138, 1, none⟩ = some (.slice A0_1 l0_1.length c0_1) := (blk_cell BK138.out 1).trans rfl
                    have hcz21_2 : wr.cell? ⟨gb138, 2, none⟩ = some (.int .i64 a0_2) := (blk_cell BK138.out 2).trans rfl
                    have hcz21_3 : wr.cell? ⟨gb138, 3, none⟩ = some (.slice A0_3 l0_3.length c0_3) := (blk_cell BK138.out 3).trans rfl
                    have hcz21_4 : wr.cell? ⟨gb138, 4, none⟩ = some (.int .i64 a0_4) := (blk_cell BK138.out 4).trans rfl
                    have hfz21_0 := blk_frozen BK138.out 0
                    have hfz21_1 := blk_frozen BK138.out 1
                    have hfz21_2 := blk_frozen BK138.out 2
                    have hfz21_3 := blk_frozen BK138.out 3
                    have hfz21_4 := blk_frozen BK138.out 4
                    have p139 : 0 ≤ (x3_2 : Int) := of_decide_eq_true (by first | (with_reducible assumption) | assumption)
                    have q139 : x3_2 < (l0_1.length : Int) := of_decide_eq_true (by first | (with_reducible assumption) | assumption)
                    obtain ⟨ad139, e139, hx139_0⟩ := Kd.at_int HR0_1.out x3_2 p139 q139
                    cases e139
                    replace hx139_0 := (HB.out.cell (World.block_lt_of_cell? w _ hx139_0)).trans hx139_0
                    replace p139 := eq_true p139
                    replace q139 := eq_true q139
                    have p140 : 0 ≤ (x3_2 : Int) := of_decide_eq_true (by first | (with_reducible assumption) | assumption)
                    have q140 : x3_2 < (l0_1.length : Int) := of_decide_eq_true (by first | (with_reducible assumption) | assumption)
                    obtain ⟨ad140, e140, hx140_0⟩ := Kd.at_int HR0_1.out x3_2 p140 q140
                    obtain rfl : ad139 = ad140 := (by injection e140)
                    replace hx140_0 := (HB.out.cell (World.block_lt_of_cell? w _ hx140_0)).trans hx140_0
                    replace p140 := eq_true p140
                    replace q140 := eq_true q140
                    go_wp2
                    repeat (go_quiet (fail); try go_wp2)
                    go_ret
                    exact ⟨by first | rfl | (simp [errW_none, errW_some] <;> rfl) | (simp [*, errW_none, errW_some] <;> rfl), by repeat (first | (with_reducible first | exact HB.out | apply below_alloc | apply pw_below_drewN | apply below_drew1 | refine below_set ?_ GE138.out) | exact HB.out)⟩
                  · rw [if_neg c20] at H
                    have c20b0 : decide ((rd l0_1 x3_2) < (-61)) = false := decide_eq_false c20
                    clear c20
                    have H' := Aside0.mk H
                    clear H
                    have hcz22_0 : wr.cell? ⟨gb138, 0, none⟩ = some (.int .i64 a0_0) := (blk_cell BK138.out 0).trans rfl
                    have hcz22_1 : wr.cell? ⟨gb138, 1, none⟩ = some (.slice A0_1 l0_1.length c0_1) := (blk_cell BK138.out 1).trans rfl
                    have hcz22_2 : wr.cell? ⟨gb138, 2, none⟩ = some (.int .i64 a0_2) := (blk_cell BK138.out 2).trans rfl
                    have hcz22_3 : wr.cell? ⟨gb138, 3, none⟩ = some (.slice A0_3 l0_3.length c0_3) := (blk_cell BK138.out 3).trans rfl
                    have hcz22_4 : wr.cell? ⟨gb138, 4, none⟩ = some (.int .i64 a0_4) := (blk_cell BK138.out 4).trans rfl
                    have hfz22_0 := blk_frozen BK138.out 0
                    have hfz22_1 := blk_frozen BK138.out 1
                    have hfz22_2 := blk_frozen BK138.out 2
                    have hfz22_3 := blk_frozen BK138.out 3
                    have hfz22_4 := blk_frozen BK138.out 4
                    have p139 : 0 ≤ (x3_2 : Int) := of_decide_eq_true (by first | (with_reducible assumption) | assumption)
                    have q139 : x3_2 < (l0_1.length : Int) := of_decide_eq_true (by first | (with_reducible assumption) | assumption)
                    obtain ⟨ad139, e139, hx139_0⟩ := Kd.at_int HR0_1.out x3_2 p139 q139
                    cases e139
                    replace hx139_0 := (HB.out.cell (World.block_lt_of_cell? w _ hx139_0)).trans hx139_0
                    replace p139 := eq_true p139
                    replace q139 := eq_true q139
                    have p140 : 0 ≤ (x3_2 : Int) := of_decide_eq_true (by first | (with_reducible assumption) | assumption)
                    have q140 : x3_2 < (l0_1.length : Int) := of_decide_eq_true (by first | (with_reducible assumption) | assumption)
                    obtain ⟨ad140, e140, hx140_0⟩ := Kd.at_int HR0_1.out x3_2 p140 q140
                    obtain rfl : ad139 = ad140 := (by injection e140)
                    replace hx140_0 := (HB.out.cell (World.block_lt_of_cell? w _ hx140_0)).trans hx140_0
                    replace p140 := eq_true p140
                    replace q140 := eq_true q140
                    go_wp2
                    repeat (go_quiet (fail); try go_wp2)
                    go_roundg k2
                    case measure => have := HJ1.out; have := HK2.out; omega
                    case rel => exact ⟨(wrap64 (x3_2 + 1)), (by first | rfl | (simp; done) | (simp [*]; done)), H', ⟨by have := HJ1.out; have := HK2.out; omega⟩, ⟨by (with_reducible repeat (first | refine blk_drewN ?_ _ | refine blk_drew ?_ | refine blk_alloc ?_ _)); exact BK138.out⟩, ⟨by repeat (first | (with_reducible first | exact HB.out | apply below_alloc | apply pw_below_drewN | apply below_drew1 | refine below_set ?_ GE138.out) | exact HB.out)⟩⟩
              · rw [if_neg c17] at H
                exact absurd H (by simp)
            · rw [if_neg c16] at H
              have c16b0 : decide (x3_2 < (l0_1.length : Int)) = false := decide_eq_false c16
              clear c16
              replace H := Option.bind_eq_some_iff.mp H
              obtain ⟨⟨t141, t142⟩, A230, H⟩ := H
              replace H : (if (l0_3.length : Int) < t141 then (interlocutorref4_Right.j2 k2 true a0_0 l0_1 a0_2 l0_3 a0_4) else (interlocutorref4_Right.j2 k2 (decide ((l0_3.length : Int) > t142)) a0_0 l0_1 a0_2 l0_3 a0_4)) = some r := H
              have A23 := Aside0.mk A230
              clear A230
              have HC24 := Aside0.mk H
              clear H
              have hcz25_0 : wr.cell? ⟨gb138, 0, none⟩ = some (.int .i64 a0_0) := (blk_cell BK138.out 0).trans rfl
              have hcz25_1 : wr.cell? ⟨gb138, 1, none⟩ = some (.slice A0_1 l0_1.length c0_1) := (blk_cell BK138.out 1).trans rfl
              have hcz25_2 : wr.cell? ⟨gb138, 2, none⟩ = some (.int .i64 a0_2) := (blk_cell BK138.out 2).trans rfl
              have hcz25_3 : wr.cell? ⟨gb138, 3, none⟩ = some (.slice A0_3 l0_3.length c0_3) := (blk_cell BK138.out 3).trans rfl
              have hcz25_4 : wr.cell? ⟨gb138, 4, none⟩ = some (.int .i64 a0_4) := (blk_cell BK138.out 4).trans rfl
              have hfz25_0 := blk_frozen BK138.out 0
              have hfz25_1 := blk_frozen BK138.out 1
              have hfz25_2 := blk_frozen BK138.out 2
              have hfz25_3 := blk_frozen BK138.out 3
              have hfz25_4 := blk_frozen BK138.out 4
              go_upto_region 9 with (first | (go_at_call 33; (with_reducible refine (interlocutorref4_wants.calls k2 a0_2 t141 t142 _ A23.out).mono ?_); rintro e w' ⟨rfl, ⟨nd, rfl⟩⟩; (try first | exact ⟨rfl, _, World.drewN_drewN _ _ _⟩ | exact ⟨rfl, _, Eq.trans (World.drewN_drewN _ _ _) (congrArg (World.drewN _) (Nat.add_assoc _ _ _))⟩)))
              repeat (go_quiet (first | (go_at_call 33; (with_reducible refine (interlocutorref4_wants.calls k2 a0_2 t141 t142 _ A23.out).mono ?_); rintro e w' ⟨rfl, ⟨nd, rfl⟩⟩; (try first | exact ⟨rfl, _, World.drewN_drewN _ _ _⟩ | exact ⟨rfl, _, Eq.trans (World.drewN_drewN _ _ _) (congrArg (World.drewN _) (Nat.add_assoc _ _ _))⟩))); go_upto_region 9 with (first | (go_at_call 33; (with_reducible refine (interlocutorref4_wants.calls k2 a0_2 t141 t142 _ A23.out).mono ?_); rintro e w' ⟨rfl, ⟨nd, rfl⟩⟩; (try first | exact ⟨rfl, _, World.drewN_drewN _ _ _⟩ | exact ⟨rfl, _, Eq.trans (World.drewN_drewN _ _ _) (congrArg (World.drewN _) (Nat.add_assoc _ _ _))⟩))))
              (try simp only [Act.put, List.setIfInBounds_toArray, List.set_cons_zero, List.set_cons_succ])
              go_cut [78] (fun v78 wc => ∃ (kq : Nat) (x78_23 : Bool), v78 = .bool x78_23 ∧ Aside0 (interlocutorref4_Right.j2 kq x78_23 a0_0 l0_1 a0_2 l0_3 a0_4 = some r) ∧ Aside0 (kq ≤ k2) ∧ Aside0 (wc.heap[gb138]? = some (.cells #[.int .i64 a0_0, (.slice A0_1 l0_1.length c0_1), .int .i64 a0_2, (.slice A0_3 l0_3.length c0_3), .int .i64 a0_4] 26 (0, 0))) ∧ Aside0 (Below w.heap.size w wc))
              case first =>
                have H := HC24.out
                clear HC24
                by_cases c26 : (l0_3.length : Int) < t141
                · rw [if_pos c26] at H
                  have c26b0 : decide ((l0_3.length : Int) < t141) = true := decide_eq_true c26
                  clear c26
                  (first | rw [c26b0] | (simp only [i64_w, i32_w]; rw [c26b0]) | skip)
                  have H' := Aside0.mk H
                  clear H
                  have hcz27_0 : wr.cell? ⟨gb138, 0, none⟩ = some (.int .i64 a0_0) := (blk_cell BK138.out 0).trans rfl
                  have hcz27_1 : wr.cell? ⟨gb138, 1, none⟩ = some (.slice A0_1 l0_1.length c0_1) := (blk_cell BK138.out 1).trans rfl
                  have hcz27_2 : wr.cell? ⟨gb138, 2, none⟩ = some (.int .i64 a0_2) := (blk_cell BK138.out 2).trans rfl
                  have hcz27_3 : wr.cell? ⟨gb138, 3, none⟩ = some (.slice A0_3 l0_3.length c0_3) := (blk_cell BK138.out 3).trans rfl
                  have hcz27_4 : wr.cell? ⟨gb138, 4, none⟩ = some (.int .i64 a0_4) := (blk_cell BK138.out 4).trans rfl
                  have hfz27_0 := blk_frozen BK138.out 0
                  have hfz27_1 := blk_frozen BK138.out 1
                  have hfz27_2 := blk_frozen BK138.out 2
                  have hfz27_3 := blk_frozen BK138.out 3
                  have hfz27_4 := blk_frozen BK138.out 4
                  go_wp2
                  repeat (go_quiet (fail); try go_wp2)
                  go_meet
                  case rel => exact ⟨_, (true), (by first | rfl | (simp; done) | (simp [*]; done)), H', ⟨by have := HJ1.out; have := HK2.out; first | omega | exact Nat.le_refl _⟩, ⟨by (with_reducible repeat (first | refine blk_drewN ?_ _ | refine blk_drew ?_ | refine blk_alloc ?_ _)); exact BK138.out⟩, ⟨by repeat (first | (with_reducible first | exact HB.out | apply below_alloc | apply pw_below_drewN | apply below_drew1 | refine below_set ?_ GE138.out) | exact HB.out)⟩⟩
                · rw [if_neg c26] at H
                  have c26b0 : decide ((l0_3.length : Int) < t141) = false := decide_eq_false c26
                  clear c26
                  (first | rw [c26b0] | (simp only [i64_w, i32_w]; rw [c26b0]) | skip)
                  have H' := Aside0.mk H
                  clear H
                  have hcz28_0 : wr.cell? ⟨gb138, 0, none⟩ = some (.int .i64 a0_0) := (blk_cell BK138.out 0).trans rfl
                  have hcz28_1 : wr.cell? ⟨gb138, 1, none⟩ = some (.slice A0_1 l0_1.length c0_1) := (blk_cell BK138.out 1).trans rfl
                  have hcz28_2 : wr.cell? ⟨gb138, 2, none⟩ = some (.int .i64 a0_2) := (blk_cell BK138.out 2).trans rfl
                  have hcz28_3 : wr.cell? ⟨gb138, 3, none⟩ = some (.slice A0_3 l0_3.length c0_3) := (blk_cell BK138.out 3).trans rfl
                  have hcz28_4 : wr.cell? ⟨gb138, 4, none⟩ = some (.int .i64 a0_4) := (blk_cell BK138.out 4).trans rfl
                  have hfz28_0 := blk_frozen BK138.out 0
                  have hfz28_1 := blk_frozen BK138.out 1
                  have hfz28_2 := blk_frozen BK138.out 2
                  have hfz28_3 := blk_frozen BK138.out 3
                  have hfz28_4 := blk_frozen BK138.out 4
                  go_wp2
                  repeat (go_quiet (fail); try go_wp2)
                  go_meet
                  case rel => exact ⟨_, (decide ((l0_3.length : Int) > t142)), (by first | rfl | (simp; done) | (simp [*]; done)), H', ⟨by have := HJ1.out; have := HK2.out; first | omega | exact Nat.le_refl _⟩, ⟨by (with_reducible repeat (first | refine blk_drewN ?_ _ | refine blk_drew ?_ | refine blk_alloc ?_ _)); exact BK138.out⟩, ⟨by repeat (first | (with_reducible first | exact HB.out | apply below_alloc | apply pw_below_drewN | apply below_drew1 | refine below_set ?_ GE138.out) | exact HB.out)⟩⟩
              case rest =>
                clear HC24
                try clear c1
                try clear p1
                try clear q1
                try clear hx1
                try clear c2
                try clear p2
                try clear c4
                try clear c4b0
                try clear c6
                try clear c6b0
                try clear p6
                try clear c8
                try clear c8b0
                try clear c8b1
                try clear c10
                try clear c10b0
                try clear c10b1
                try clear c12
                try clear c12b0
                try clear p13
                try clear q13
                try clear hx13
                try clear p14
                try clear q14
                try clear hx14
                try clear c15
                try clear c16
                try clear c16b0
                try clear c17
                try clear c17b0
                try clear c18
                try clear c18b0
                try clear c20
                try clear c20b0
                try clear c26
                try clear c26b0
                try clear hcz11_0
                try clear hcz11_1
                try clear hcz11_2
                try clear hcz11_3
                try clear hcz11_4
                try clear hcz13_0
                try clear hcz13_1
                try clear hcz13_2
                try clear hcz13_3
                try clear hcz13_4
                try clear hcz14_0
                try clear hcz14_1
                try clear hcz14_2
                try clear hcz14_3
                try clear hcz14_4
                try clear hcz19_0
                try clear hcz19_1
                try clear hcz19_2
                try clear hcz19_3
                try clear hcz19_4
                try clear hcz21_0
                try clear hcz21_1
                try clear hcz21_2
                try clear hcz21_3
                try clear hcz21_4
                try clear hcz22_0
                try clear hcz22_1
                try clear hcz22_2
                try clear hcz22_3
                try clear hcz22_4
                try clear hcz25_0
                try clear hcz25_1
                try clear hcz25_2
                try clear hcz25_3
                try clear hcz25_4
                try clear hcz27_0
                try clear hcz27_1
                try clear hcz27_2
                try clear hcz27_3
                try clear hcz27_4
                try clear hcz28_0
                try clear hcz28_1
                try clear hcz28_2
                try clear hcz28_3
                try clear hcz28_4
                try clear hcz5_0
                try clear hcz5_1
                try clear hcz5_2
                try clear hcz5_3
                try clear hcz5_4
                try clear hcz7_0
                try clear hcz7_1
                try clear hcz7_2
                try clear hcz7_3
                try clear hcz7_4
                try clear hcz9_0
                try clear hcz9_1
                try clear hcz9_2
                try clear hcz9_3
                try clear hcz9_4
                try clear hfz11_0
                try clear hfz11_1
                try clear hfz11_2
                try clear hfz11_3
                try clear hfz11_4
                try clear hfz13_0
                try clear hfz13_1
                try clear hfz13_2
                try clear hfz13_3
                try clear hfz13_4
                try clear hfz14_0
                try clear hfz14_1
                try clear hfz14_2
                try clear hfz14_3
                try clear hfz14_4
                try clear hfz19_0
                try clear hfz19_1
                try clear hfz19_2
                try clear hfz19_3
                try clear hfz19_4
                try clear hfz21_0
                try clear hfz21_1
                try clear hfz21_2
                try clear hfz21_3
                try clear hfz21_4
                try clear hfz22_0
                try clear hfz22_1
                try clear hfz22_2
                try clear hfz22_3
                try clear hfz22_4
                try clear hfz25_0
                try clear hfz25_1
                try clear hfz25_2
                try clear hfz25_3
                try clear hfz25_4
                try clear hfz27_0
                try clear hfz27_1
                try clear hfz27_2
                try clear hfz27_3
                try clear hfz27_4
                try clear hfz28_0
                try clear hfz28_1
                try clear hfz28_2
                try clear hfz28_3
                try clear hfz28_4
                try clear hfz5_0
                try clear hfz5_1
                try clear hfz5_2
                try clear hfz5_3
                try clear hfz5_4
                try clear hfz7_0
                try clear hfz7_1
                try clear hfz7_2
                try clear hfz7_3
                try clear hfz7_4
                try clear hfz9_0
                try clear hfz9_1
                try clear hfz9_2
                try clear hfz9_3
                try clear hfz9_4
                try clear hx139_0
                try clear hx140_0
                try clear p139
                try clear p140
                try clear p2
                try clear q139
                try clear q140
                obtain ⟨kq, x78_23, rfl, HA, HJ23, BK138, HB⟩ := hcut
                cases kq with
                | zero => exact absurd HA.out (by simp [interlocutorref4_Right.j2])
                | succ kj23 =>
                  have H := HA.out
                  clear HA
                  simp only [interlocutorref4_Right.j2] at H
                  by_cases c29 : x78_23 = true
                  · subst c29
                    have H1 : (some false) = some r := by rw [if_pos rfl] at H; exact H
                    clear H
                    have H := H1
                    clear H1
                    obtain rfl := Option.some.inj H
                    go_wp2
                    repeat (go_quiet (fail); try go_wp2)
                    go_ret
                    exact ⟨by first | rfl | (simp [errW_none, errW_some] <;> rfl) | (simp [*, errW_none, errW_some] <;> rfl), by repeat (first | (with_reducible first | exact HB.out | apply below_alloc | apply pw_below_drewN | apply below_drew1 | refine below_set ?_ GE138.out) | exact HB.out)⟩
                  · replace c29 := Bool.eq_false_iff.mpr c29
                    subst c29
                    have H1 : (interlocutorref4_Right.l1 kj23 0 a0_0 l0_1 a0_2 l0_3 a0_4) = some r := by rw [if_neg (show ¬ (false = true) by decide)] at H; exact H
                    clear H
                    have H := H1
                    clear H1
                    have H' := Aside0.mk H
                    clear H
                    go_wp2
                    repeat (go_quiet (fail); try go_wp2)
                    go_loopg [6] kj23 (fun kq v6 w' => ∃ (x6_4 : Int), v6 = .int .i64 x6_4 ∧ Aside0 (interlocutorref4_Right.l1 kq x6_4 a0_0 l0_1 a0_2 l0_3 a0_4 = some r) ∧ Aside0 (kq ≤ kj23) ∧ Aside0 (w'.heap[gb138]? = some (.cells #[.int .i64 a0_0, (.slice A0_1 l0_1.length c0_1), .int .i64 a0_2, (.slice A0_3 l0_3.length c0_3), .int .i64 a0_4] 26 (0, 0))) ∧ Aside0 (Below w.heap.size w w'))
                    case atStart => exact ⟨(0), (by first | rfl | (simp; done) | (simp [*]; done)), H', ⟨Nat.le_refl _⟩, ⟨by (with_reducible repeat (first | refine blk_drewN ?_ _ | refine blk_drew ?_ | refine blk_alloc ?_ _)); exact BK138.out⟩, ⟨by repeat (first | (with_reducible first | exact HB.out | apply below_alloc | apply pw_below_drewN | apply below_drew1 | refine below_set ?_ GE138.out) | exact HB.out)⟩⟩
                    case round =>
                      clear H'
                      try clear c1
                      try clear p1
                      try clear q1
                      try clear hx1
                      try clear c2
                      try clear p2
                      try clear c4
                      try clear c4b0
                      try clear c6
                      try clear c6b0
                      try clear p6
                      try clear c8
                      try clear c8b0
                      try clear c8b1
                      try clear c10
                      try clear c10b0
                      try clear c10b1
                      try clear c12
                      try clear c12b0
                      try clear p13
                      try clear q13
                      try clear hx13
                      try clear p14
                      try clear q14
                      try clear hx14
                      try clear c15
                      try clear c16
                      try clear c16b0
                      try clear c17
                      try clear c17b0
                      try clear c18
                      try clear c18b0
                      try clear c20
                      try clear c20b0
                      try clear c26
                      try clear c26b0
                      try clear c29
                      try clear hcz11_0
                      try clear hcz11_1
                      try clear hcz11_2
                      try clear hcz11_3
                      try clear hcz11_4
                      try clear hcz13_0
                      try clear hcz13_1
                      try clear hcz13_2
                      try clear hcz13_3
                      try clear hcz13_4
                      try clear hcz14_0
                      try clear hcz14_1
                      try clear hcz14_2
                      try clear hcz14_3
                      try clear hcz14_4
                      try clear hcz19_0
                      try clear hcz19_1
                      try clear hcz19_2
                      try clear hcz19_3
                      try clear hcz19_4
                      try clear hcz21_0
                      try clear hcz21_1
                      try clear hcz21_2
                      try clear hcz21_3
                      try clear hcz21_4
                      try clear hcz22_0
                      try clear hcz22_1
                      try clear hcz22_2
                      try clear hcz22_3
                      try clear hcz22_4
                      try clear hcz25_0
                      try clear hcz25_1
                      try clear hcz25_2
                      try clear hcz25_3
                      try clear hcz25_4
                      try clear hcz27_0
                      try clear hcz27_1
                      try clear hcz27_2
                      try clear hcz27_3
                      try clear hcz27_4
                      try clear hcz28_0
                      try clear hcz28_1
                      try clear hcz28_2
                      try clear hcz28_3
                      try clear hcz28_4
                      try clear hcz5_0
                      try clear hcz5_1
                      try clear hcz5_2
                      try clear hcz5_3
                      try clear hcz5_4
                      try clear hcz7_0
                      try clear hcz7_1
                      try clear hcz7_2
                      try clear hcz7_3
                      try clear hcz7_4
                      try clear hcz9_0
                      try clear hcz9_1
                      try clear hcz9_2
                      try clear hcz9_3
                      try clear hcz9_4
                      try clear hfz11_0
                      try clear hfz11_1
                      try clear hfz11_2
                      try clear hfz11_3
                      try clear hfz11_4
                      try clear hfz13_0
                      try clear hfz13_1
                      try clear hfz13_2
                      try clear hfz13_3
                      try clear hfz13_4
                      try clear hfz14_0
                      try clear hfz14_1
                      try clear hfz14_2
                      try clear hfz14_3
                      try clear hfz14_4
                      try clear hfz19_0
                      try clear hfz19_1
                      try clear hfz19_2
                      try clear hfz19_3
                      try clear hfz19_4
                      try clear hfz21_0
                      try clear hfz21_1
                      try clear hfz21_2
                      try clear hfz21_3
                      try clear hfz21_4
                      try clear hfz22_0
                      try clear hfz22_1
                      try clear hfz22_2
                      try clear hfz22_3
                      try clear hfz22_4
                      try clear hfz25_0
                      try clear hfz25_1
                      try clear hfz25_2
                      try clear hfz25_3
                      try clear hfz25_4
                      try clear hfz27_0
                      try clear hfz27_1
                      try clear hfz27_2
                      try clear hfz27_3
                      try clear hfz27_4
                      try clear hfz28_0
                      try clear hfz28_1
                      try clear hfz28_2
                      try clear hfz28_3
                      try clear hfz28_4
                      try clear hfz5_0
                      try clear hfz5_1
                      try clear hfz5_2
                      try clear hfz5_3
                      try clear hfz5_4
                      try clear hfz7_0
                      try clear hfz7_1
                      try clear hfz7_2
                      try clear hfz7_3
                      try clear hfz7_4
                      try clear hfz9_0
                      try clear hfz9_1
                      try clear hfz9_2
                      try clear hfz9_3
                      try clear hfz9_4
                      try clear hx139_0
                      try clear hx140_0
                      try clear p1
                      try clear p13
                      try clear p139
                      try clear p14
                      try clear p140
                      try clear p2
                      try clear p6
                      try clear q1
                      try clear q13
                      try clear q139
                      try clear q14
                      try clear q140
                      obtain ⟨x6_4, rfl, HA, HK4, BK138, HB⟩ := hrel
                      cases gk with
                      | zero => exact absurd HA.out (by simp [interlocutorref4_Right.l1])
                      | succ k4 =>
                        have H := HA.out
                        clear HA
                        simp only [interlocutorref4_Right.l1] at H
                        by_cases c30 : x6_4 < (l0_3.length : Int)
                        · rw [if_pos c30] at H
                          have c30b0 : decide (x6_4 < (l0_3.length : Int)) = true := decide_eq_true c30
                          clear c30
                          by_cases c31 : 0 ≤ x6_4
                          · rw [if_pos c31] at H
                            have c31b0 : decide (0 ≤ x6_4) = true := decide_eq_true c31
                            clear c31
                            by_cases c32 : (rd l0_3 x6_4) < 0
                            · rw [if_pos c32] at H
                              have c32b0 : decide ((rd l0_3 x6_4) < 0) = true := decide_eq_true c32
                              clear c32
                              obtain rfl := Option.some.inj H
                              have hcz33_0 : wr.cell? ⟨gb138, 0, none⟩ = some (.int .i64 a0_0) := (blk_cell BK138.out 0).trans rfl
                              have hcz33_1 : wr.cell? ⟨gb138, 1, none⟩ = some (.slice A0_1 l0_1.length c0_1) := (blk_cell BK138.out 1).trans rfl
                              have hcz33_2 : wr.cell? ⟨gb138, 2, none⟩ = some (.int .i64 a0_2) := (blk_cell BK138.out 2).trans rfl
                              have hcz33_3 : wr.cell? ⟨gb138, 3, none⟩ = some (.slice A0_3 l0_3.length c0_3) := (blk_cell BK138.out 3).trans rfl
                              have hcz33_4 : wr.cell? ⟨gb138, 4, none⟩ = some (.int .i64 a0_4) := (blk_cell BK138.out 4).trans rfl
                              have hfz33_0 := blk_frozen BK138.out 0
                              have hfz33_1 := blk_frozen BK138.out 1
                              have hfz33_2 := blk_frozen BK138.out 2
                              have hfz33_3 := blk_frozen BK138.out 3
                              have hfz33_4 := blk_frozen BK138.out 4
                              have p143 : 0 ≤ (x6_4 : Int) := of_decide_eq_true (by first | (with_reducible assumption) | assumption)
                              have q143 : x6_4 < (l0_3.length : Int) := of_decide_eq_true (by first | (with_reducible assumption) | assumption)
                              obtain ⟨ad143, e143, hx143_0⟩ := Kd.at_int HR0_3.out x6_4 p143 q143
                              cases e143
                              replace hx143_0 := (HB.out.cell (World.block_lt_of_cell? w _ hx143_0)).trans hx143_0
                              replace p143 := eq_true p143
                              replace q143 := eq_true q143
                              go_wp2
                              repeat (go_quiet (fail); try go_wp2)
                              go_ret
                              exact ⟨by first | rfl | (simp [errW_none, errW_some] <;> rfl) | (simp [*, errW_none, errW_some] <;> rfl), by repeat (first | (with_reducible first | exact HB.out | apply below_alloc | apply pw_below_drewN | apply below_drew1 | refine below_set ?_ GE138.out) | exact HB.out)⟩
                            · rw [if_neg c32] at H
                              have c32b0 : decide ((rd l0_3 x6_4) < 0) = false := decide_eq_false c32
                              clear c32
                              by_cases c34 : (rd l0_3 x6_4) ≥ (l0_1.length : Int)
                              · rw [if_pos c34] at H
                                have c34b0 : decide ((l0_1.length : Int) ≤ (rd l0_3 x6_4)) = true := decide_eq_true c34
                                clear c34
                                obtain rfl := Option.some.inj H
                                have hcz35_0 : wr.cell? ⟨gb138, 0, none⟩ = some (.int .i64 a0_0) := (blk_cell BK138.out 0).trans rfl
                                have hcz35_1 : wr.cell? ⟨gb138, 1, none⟩ = some (.slice A0_1 l0_1.length c0_1) := (blk_cell BK138.out 1).trans rfl
                                have hcz35_2 : wr.cell? ⟨gb138, 2, none⟩ = some (.int .i64 a0_2) := (blk_cell BK138.out 2).trans rfl
                                have hcz35_3 : wr.cell? ⟨gb138, 3, none⟩ = some (.slice A0_3 l0_3.length c0_3) := (blk_cell BK138.out 3).trans rfl
                                have hcz35_4 : wr.cell? ⟨gb138, 4, none⟩ = some (.int .i64 a0_4) := (blk_cell BK138.out 4).trans rfl
                                have hfz35_0 := blk_frozen BK138.out 0
                                have hfz35_1 := blk_frozen BK138.out 1
                                have hfz35_2 := blk_frozen BK138.out 2
                                have hfz35_3 := blk_frozen BK138.out 3
                                have hfz35_4 := blk_frozen BK138.out 4
                                have p143 : 0 ≤ (x6_4 : Int) := of_decide_eq_true (by first | (with_reducible assumption) | assumption)
                                have q143 : x6_4 < (l0_3.length : Int) := of_decide_eq_true (by first | (with_reducible assumption) | assumption)
                                obtain ⟨ad143, e143, hx143_0⟩ := Kd.at_int HR0_3.out x6_4 p143 q143
                                cases e143
                                replace hx143_0 := (HB.out.cell (World.block_lt_of_cell? w _ hx143_0)).trans hx143_0
                                replace p143 := eq_true p143
                                replace q143 := eq_true q143
                                have p144 : 0 ≤ (x6_4 : Int) := of_decide_eq_true (by first | (with_reducible assumption) | assumption)
                                have q144 : x6_4 < (l0_3.length : Int) := of_decide_eq_true (by first | (with_reducible assumption) | assumption)
                                obtain ⟨ad144, e144, hx144_0⟩ := Kd.at_int HR0_3.out x6_4 p144 q144
                                obtain rfl : ad143 = ad144 := (by injection e144)
                                replace hx144_0 := (HB.out.cell (World.block_lt_of_cell? w _ hx144_0)).trans hx144_0
                                replace p144 := eq_true p144
                                replace q144 := eq_true q144
                                go_wp2
                                repeat (go_quiet (fail); try go_wp2)
                                go_ret
                                exact ⟨by first | rfl | (simp [errW_none, errW_some] <;> rfl) | (simp [*, errW_none, errW_some] <;> rfl), by repeat (first | (with_reducible first | exact HB.out | apply below_alloc | apply pw_below_drewN | apply below_drew1 | refine below_set ?_ GE138.out) | exact HB.out)⟩
                              · rw [if_neg c34] at H
                                have c34b0 : decide ((l0_1.length : Int) ≤ (rd l0_3 x6_4)) = false := decide_eq_false c34
                                clear c34
                                have H' := Aside0.mk H
                                clear H
                                have hcz36_0 : wr.cell? ⟨gb138, 0, none⟩ = some (.int .i64 a0_0) := (blk_cell BK138.out 0).trans rfl
                                have hcz36_1 : wr.cell? ⟨gb138, 1, none⟩ = some (.slice A0_1 l0_1.length c0_1) := (blk_cell BK138.out 1).trans rfl
                                have hcz36_2 : wr.cell? ⟨gb138, 2, none⟩ = some (.int .i64 a0_2) := (blk_cell BK138.out 2).trans rfl
                                have hcz36_3 : wr.cell? ⟨gb138, 3, none⟩ = some (.slice A0_3 l0_3.length c0_3) := (blk_cell BK138.out 3).trans rfl
                                have hcz36_4 : wr.cell? ⟨gb138, 4, none⟩ = some (.int .i64 a0_4) := (blk_cell BK138.out 4).trans rfl
                                have hfz36_0 := blk_frozen BK138.out 0
                                have hfz36_1 := blk_frozen BK138.out 1
                                have hfz36_2 := blk_frozen BK138.out 2
                                have hfz36_3 := blk_frozen BK138.out 3
                                have hfz36_4 := blk_frozen BK138.out 4
                                have p143 : 0 ≤ (x6_4 : Int) := of_decide_eq_true (by first | (with_reducible assumption) | assumption)
                                have q143 : x6_4 < (l0_3.length : Int) := of_decide_eq_true (by first | (with_reducible assumption) | assumption)
                                obtain ⟨ad143, e143, hx143_0⟩ := Kd.at_int HR0_3.out x6_4 p143 q143
                                cases e143
                                replace hx143_0 := (HB.out.cell (World.block_lt_of_cell? w _ hx143_0)).trans hx143_0
                                replace p143 := eq_true p143
                                replace q143 := eq_true q143
                                have p144 : 0 ≤ (x6_4 : Int) := of_decide_eq_true (by first | (with_reducible assumption) | assumption)
                                have q144 : x6_4 < (l0_3.length : Int) := of_decide_eq_true (by first | (with_reducible assumption) | assumption)
                                obtain ⟨ad144, e144, hx144_0⟩ := Kd.at_int HR0_3.out x6_4 p144 q144
                                obtain rfl : ad143 = ad144 := (by injection e144)
                                replace hx144_0 := (HB.out.cell (World.block_lt_of_cell? w _ hx144_0)).trans hx144_0
                                replace p144 := eq_true p144
                                replace q144 := eq_true q144
                                go_wp2
                                repeat (go_quiet (fail); try go_wp2)
                                go_roundg k4
                                case measure => have := HJ1.out; have := HK2.out; have := HJ23.out; have := HK4.out; omega
                                case rel => exact ⟨(wrap64 (x6_4 + 1)), (by first | rfl | (simp; done) | (simp [*]; done)), H', ⟨by have := HJ1.out; have := HK2.out; have := HJ23.out; have := HK4.out; omega⟩, ⟨by (with_reducible repeat (first | refine blk_drewN ?_ _ | refine blk_drew ?_ | refine blk_alloc ?_ _)); exact BK138.out⟩, ⟨by repeat (first | (with_reducible first | exact HB.out | apply below_alloc | apply pw_below_drewN | apply below_drew1 | refine below_set ?_ GE138.out) | exact HB.out)⟩⟩
                          · rw [if_neg c31] at H
                            exact absurd H (by simp)
                        · rw [if_neg c30] at H
                          have c30b0 : decide (x6_4 < (l0_3.length : Int)) = false := decide_eq_false c30
                          clear c30
                          obtain rfl := Option.some.inj H
                          have hcz37_0 : wr.cell? ⟨gb138, 0, none⟩ = some (.int .i64 a0_0) := (blk_cell BK138.out 0).trans rfl
                          have hcz37_1 : wr.cell? ⟨gb138, 1, none⟩ = some (.slice A0_1 l0_1.length c0_1) := (blk_cell BK138.out 1).trans rfl
                          have hcz37_2 : wr.cell? ⟨gb138, 2, none⟩ = some (.int .i64 a0_2) := (blk_cell BK138.out 2).trans rfl
                          have hcz37_3 : wr.cell? ⟨gb138, 3, none⟩ = some (.slice A0_3 l0_3.length c0_3) := (blk_cell BK138.out 3).trans rfl
                          have hcz37_4 : wr.cell? ⟨gb138, 4, none⟩ = some (.int .i64 a0_4) := (blk_cell BK138.out 4).trans rfl
                          have hfz37_0 := blk_frozen BK138.out 0
                          have hfz37_1 := blk_frozen BK138.out 1
                          have hfz37_2 := blk_frozen BK138.out 2
                          have hfz37_3 := blk_frozen BK138.out 3
                          have hfz37_4 := blk_frozen BK138.out 4
                          go_wp2
                          repeat (go_quiet (fail); try go_wp2)
                          go_ret
                          exact ⟨by first | rfl | (simp [errW_none, errW_some] <;> rfl) | (simp [*, errW_none, errW_some] <;> rfl), by repeat (first | (with_reducible first | exact HB.out | apply below_alloc | apply pw_below_drewN | apply below_drew1 | refine below_set ?_ GE138.out) | exact HB.out)⟩
end Go.Proofs.Ytjomlfdkmdgclaa.P
end
section
namespace Go.Proofs.Ytjomlfdkmdgclaa.P
open Go.RowKit Go.Shelf Go.Proofs.YtjomlfdkmdgclaaW.PrintWords Go.Proofs.YtjomlfdkmdgclaaW.PrintLast Go.Proofs.YtjomlfdkmdgclaaW.PrintMore
def FnTells {α : Type} (P : Program) (w : World) (rel : World → α → Value → Prop) (fv : Value) (p : α → Bool) : Prop :=
  ∃ (g : Nat) (pre lb : Array Value), fv = .func (.func g) pre lb ∧ (∀ args w, (callFunc g args).run P w = .ok (.enter g args) w) ∧
    ∀ W x v, Below w.heap.size w W → rel W x v → Calls P g (pre ++ #[v] ++ lb) W fun e w' => e = .returned (.bool (p x)) ∧ Below W.heap.size W w'
theorem ret_bool {a b : Bool} (h : a = b) : Ending.returned (.bool a) = .returned (.bool b) := by rw [h]
theorem cell_new0 (w : World) (v : Value) (t : TypeId) : (w.alloc (.cells #[v] t)).cell? ⟨w.heap.size, 0, none⟩ = some v := World.cell?_alloc_at _ _ _ _ rfl
def IntRel (_ : World) (x : Int) (v : Value) : Prop := v = .int .i64 x
def AggRel {α : Type} (d : Kd α) (W : World) (x : α) (v : Value) : Prop := ∃ cs : List Value, v = .agg cs.toArray ∧ d.K W x cs
def idxOf {α : Type} (p : α → Bool) (l : List α) : Int := match l.findIdx? p with | some i => i | none => -1
theorem idxOf_hit {α : Type} {p : α → Bool} {l : List α} {k : Nat} (hk : k < l.length) (h0 : ∀ j, j < k → ∀ h : j < l.length, p l[j] = false) (h1 : p l[k] = true) : idxOf p l = k := by
  have : l.findIdx? p = some k := by
    rw [List.findIdx?_eq_some_iff_getElem]
    exact ⟨hk, h1, fun j hj => by simpa using h0 j hj (by omega)⟩
  simp [idxOf, this]
theorem idxOf_miss {α : Type} {p : α → Bool} {l : List α} (h0 : ∀ j, j < l.length → ∀ h : j < l.length, p l[j] = false) : idxOf p l = -1 := by
  have : l.findIdx? p = none := by
    rw [List.findIdx?_eq_none_iff]
    intro x hx
    obtain ⟨j, hj, rfl⟩ := List.mem_iff_getElem.1 hx
    exact h0 j hj hj
  simp [idxOf, this]
theorem idxOf_ge {α : Type} (p : α → Bool) (l : List α) : decide (0 ≤ idxOf p l) = l.any p := by
  unfold idxOf
  cases h : l.findIdx? p with
  | none =>
    rw [List.findIdx?_eq_none_iff] at h
    have : l.any p = false := by simpa using h
    simp [this]
  | some i =>
    have h2 := List.findIdx?_eq_some_iff_getElem.1 h
    have : l.any p = true := List.any_eq_true.2 ⟨_, List.getElem_mem h2.1, h2.2.1⟩
    simp [this]
theorem rd_getElem (xs : List Int) (j : Nat) (h : j < xs.length) : rd xs j = xs[j] := by
  simp [rd, List.getD_eq_getElem?_getD, List.getElem?_eq_getElem h]
end Go.Proofs.Ytjomlfdkmdgclaa.P
end
section
namespace Go.Proofs.Ytjomlfdkmdgclaa.P
open Go.RowKit Go.Proofs.YtjomlfdkmdgclaaW.PrintWords Go.Proofs.YtjomlfdkmdgclaaW.PrintLast Go.Proofs.YtjomlfdkmdgclaaW.PrintMore
attribute [local go_sem] max2_int min2_int max_two min_two max_three min_three max_four min_four   
set_option linter.unusedVariables false
set_option linter.unusedSimpArgs false
theorem indexFunc_int (fv : Value) (A0 : Option Addr) (c0 : Nat) (l0 : List Int) (p : Int → Bool) (w : World) (hr0 : Kd.C (Kd.int .i64) w A0 l0.length l0) (hc0 : l0.length ≤ c0)
   (hf : FnTells Try.prog w IntRel fv p) :
   Calls Try.prog 48 #[.slice A0 l0.length c0, fv] w fun e w' => e = .returned (.int .i64 (idxOf p l0)) ∧ Below w.heap.size w w' := by
  obtain ⟨g, pre, lb, rfl, eg, hq⟩ := hf
  have hl : l0.length ≤ 9223372036854775807 := hr0.2.1
  have HR := Aside0.mk hr0
  clear hr0
  have HQ := Aside0.mk hq
  clear hq
  go_enter Try.func48, Try.ntmps48
  go_wp2
  go_loopg [8] l0.length (fun gg s8 wr => ∃ kk : Nat, kk ≤ l0.length ∧ l0.length - kk ≤ gg ∧ s8 = .int .i64 kk ∧ Aside0 (Below w.heap.size w wr) ∧ Aside0 (∀ j, j < kk → ∀ h : j < l0.length, p l0[j] = false))
  case atStart => exact ⟨0, Nat.zero_le _, by omega, rfl, ⟨Below.refl _ w⟩, ⟨fun j hj => absurd hj (Nat.not_lt_zero _)⟩⟩
  case round =>
    obtain ⟨kk, hkk, hg, rfl, BW, A⟩ := hrel
    by_cases hlt : kk < l0.length
    · have hltz : (kk : Int) < (l0.length : Int) := by omega
      obtain ⟨ad, hA, hcell⟩ := Kd.at_int HR.out kk (by omega) hltz
      have hcell' : wr.cell? (ad.add kk) = some (.int .i64 (rd l0 kk)) := pw_cell_below BW.out (by simpa using hcell)
      have hcall := HQ.out wr (rd l0 kk) _ BW.out rfl
      subst hA
      clear hcell
      cases hp : p (rd l0 kk) with
      | true =>
        rw [hp] at hcall
        go_wp2_with fail
        refine hcall.mono ?_
        rintro e w' ⟨rfl, hb'⟩
        go_wp2
        go_ret
        refine ⟨?_, below_then BW.out BW.out.size hb'⟩
        rw [idxOf_hit hlt A.out (by rw [← rd_getElem l0 kk hlt]; exact hp)]
        rfl
      | false =>
        rw [hp] at hcall
        go_wp2_with fail
        refine hcall.mono ?_
        rintro e w' ⟨rfl, hb'⟩
        go_wp2
        go_roundg (l0.length - (kk + 1))
        case measure => omega
        case rel =>
          refine ⟨kk + 1, by omega, by omega, by go_num, ⟨below_then BW.out BW.out.size hb'⟩, ⟨fun j hj hlt => ?_⟩⟩
          by_cases e : j = kk
          · subst e
            rw [← rd_getElem l0 j hlt]; exact hp
          · exact A.out j (by omega) hlt
    · have hltz : ¬ (kk : Int) < (l0.length : Int) := by omega
      have : kk = l0.length := by omega
      subst this
      go_wp2
      go_ret
      refine ⟨?_, BW.out⟩
      rw [idxOf_miss A.out]
      rfl
theorem containsFunc_int (fv : Value) (A0 : Option Addr) (c0 : Nat) (l0 : List Int) (p : Int → Bool) (w : World) (hr0 : Kd.C (Kd.int .i64) w A0 l0.length l0) (hc0 : l0.length ≤ c0)
   (hf : FnTells Try.prog w IntRel fv p) :
   Calls Try.prog 42 #[.slice A0 l0.length c0, fv] w fun e w' => e = .returned (.bool (l0.any p)) ∧ Below w.heap.size w w' := by
  have hc := indexFunc_int fv A0 c0 l0 p w hr0 hc0 hf
  rw [← idxOf_ge]
  clear hr0 hf
  generalize idxOf p l0 = q at hc
  go_enter Try.func42, Try.ntmps42
  go_wp2_with fail
  refine hc.mono ?_
  rintro e w' ⟨rfl, hb'⟩
  go_wp2
  go_ret
  exact ⟨rfl, hb'⟩
end Go.Proofs.Ytjomlfdkmdgclaa.P
end
section
namespace Go.Proofs.Ytjomlfdkmdgclaa.P
open Go.RowKit Go.Proofs.YtjomlfdkmdgclaaW.PrintWords Go.Proofs.YtjomlfdkmdgclaaW.PrintLast Go.Proofs.YtjomlfdkmdgclaaW.PrintMore
attribute [local go_sem] max2_int min2_int max_two min_two max_three min_three max_four min_four   
set_option linter.unusedVariables false
set_option linter.unusedSimpArgs false
mutual
noncomputable def gram_asked.j0 : Nat → Int → Bool → Option (Int × Int)
  | 0, _, _ => none
  | k + 1, x4, x5 => if x5 = true then (some (1, 1)) else (if x4 = 2 then (gram_asked.j1 k x4 (x4 == 2)) else (if x4 = 5 then (gram_asked.j1 k x4 (x4 == 5)) else (if x4 = 9 then (gram_asked.j1 k x4 (x4 == 9)) else (if x4 = 12 then (gram_asked.j1 k x4 (x4 == 12)) else (if x4 = 13 then (gram_asked.j1 k x4 (x4 == 13)) else (if x4 = 14 then (gram_asked.j1 k x4 (x4 == 14)) else (gram_asked.j1 k x4 (x4 == 15))))))))
noncomputable def gram_asked.j1 : Nat → Int → Bool → Option (Int × Int)
  | 0, _, _ => none
  | k + 1, x4, x10 => if x10 = true then (some (2, 2)) else (if x4 = 1 then (gram_asked.j2 k x4 (x4 == 1)) else (gram_asked.j2 k x4 (x4 == 6)))
noncomputable def gram_asked.j2 : Nat → Int → Bool → Option (Int × Int)
  | 0, _, _ => none
  | k + 1, x4, x18 => if x18 = true then (some (3, 3)) else (if x4 = 3 then (gram_asked.j3 k x4 (x4 == 3)) else (gram_asked.j3 k x4 (x4 == 4)))
noncomputable def gram_asked.j3 : Nat → Int → Bool → Option (Int × Int)
  | 0, _, _ => none
  | k + 1, x4, x21 => if x21 = true then (some (2, 3)) else (if x4 = 10 then (some (1, 6)) else (some (1, 0)))
end
noncomputable def gram_asked.f (k : Nat) (a0 : Int) : Option (Int × Int) := if a0 = 0 then (gram_asked.j0 k a0 (a0 == 0)) else (if a0 = 7 then (gram_asked.j0 k a0 (a0 == 7)) else (if a0 = 8 then (gram_asked.j0 k a0 (a0 == 8)) else (gram_asked.j0 k a0 (a0 == 11))))
theorem gram_asked.mono_l : ∀ k, (∀ y0 y1, LeO (gram_asked.j0 k y0 y1) (gram_asked.j0 (k + 1) y0 y1)) ∧ (∀ y0 y1, LeO (gram_asked.j1 k y0 y1) (gram_asked.j1 (k + 1) y0 y1)) ∧ (∀ y0 y1, LeO (gram_asked.j2 k y0 y1) (gram_asked.j2 (k + 1) y0 y1)) ∧ (∀ y0 y1, LeO (gram_asked.j3 k y0 y1) (gram_asked.j3 (k + 1) y0 y1))
  | 0 => ⟨fun _ _ r h => by simp [gram_asked.j0] at h, fun _ _ r h => by simp [gram_asked.j1] at h, fun _ _ r h => by simp [gram_asked.j2] at h, fun _ _ r h => by simp [gram_asked.j3] at h⟩
  | k + 1 => by
    obtain ⟨ih0, ih1, ih2, ih3⟩ := gram_asked.mono_l k
    refine ⟨?_, ?_, ?_, ?_⟩
    · intro y0 y1
      unfold gram_asked.j0
      repeat' first
      | (with_reducible exact ih0 _ _)
      | (with_reducible exact ih1 _ _)
      | (with_reducible exact ih2 _ _)
      | (with_reducible exact ih3 _ _)
      | (with_reducible exact LeO.refl _)
      | (with_reducible exact LeO.none _)
      | (with_reducible refine LeO.ite ?_ ?_)
      | (with_reducible refine LeO.bind ?_ (fun _ => ?_))
      | exact ih0 _ _
      | exact ih1 _ _
      | exact ih2 _ _
      | exact ih3 _ _
      | exact LeO.none _
      | refine LeO.ite ?_ ?_
      | refine LeO.bind ?_ (fun _ => ?_)
    · intro y0 y1
      unfold gram_asked.j1
      repeat' first
      | (with_reducible exact ih0 _ _)
      | (with_reducible exact ih1 _ _)
      | (with_reducible exact ih2 _ _)
      | (with_reducible exact ih3 _ _)
      | (with_reducible exact LeO.refl _)
      | (with_reducible exact LeO.none _)
      | (with_reducible refine LeO.ite ?_ ?_)
      | (with_reducible refine LeO.bind ?_ (fun _ => ?_))
      | exact ih0 _ _
      | exact ih1 _ _
      | exact ih2 _ _
      | exact ih3 _ _
      | exact LeO.none _
      | refine LeO.ite ?_ ?_
      | refine LeO.bind ?_ (fun _ => ?_)
    · intro y0 y1
      unfold gram_asked.j2
      repeat' first
      | (with_reducible exact ih0 _ _)
      | (with_reducible exact ih1 _ _)
      | (with_reducible exact ih2 _ _)
      | (with_reducible exact ih3 _ _)
      | (with_reducible exact LeO.refl _)
      | (with_reducible exact LeO.none _)
      | (with_reducible refine LeO.ite ?_ ?_)
      | (with_reducible refine LeO.bind ?_ (fun _ => ?_))
      | exact ih0 _ _
      | exact ih1 _ _
      | exact ih2 _ _
      | exact ih3 _ _
      | exact LeO.none _
      | refine LeO.ite ?_ ?_
      | refine LeO.bind ?_ (fun _ => ?_)
    · intro y0 y1
      unfold gram_asked.j3
      repeat' first
      | (with_reducible exact ih0 _ _)
      | (with_reducible exact ih1 _ _)
      | (with_reducible exact ih2 _ _)
      | (with_reducible exact ih3 _ _)
      | (with_reducible exact LeO.refl _)
      | (with_reducible exact LeO.none _)
      | (with_reducible refine LeO.ite ?_ ?_)
      | (with_reducible refine LeO.bind ?_ (fun _ => ?_))
      | exact ih0 _ _
      | exact ih1 _ _
      | exact ih2 _ _
      | exact ih3 _ _
      | exact LeO.none _
      | refine LeO.ite ?_ ?_
      | refine LeO.bind ?_ (fun _ => ?_)
theorem gram_asked.mono : ∀ a0 k, LeO (gram_asked.f k a0) (gram_asked.f (k + 1) a0) := by
  intro a0 k
  obtain ⟨ih0, ih1, ih2, ih3⟩ := gram_asked.mono_l k
  unfold gram_asked.f
  repeat' first
      | (with_reducible exact ih0 _ _)
      | (with_reducible exact ih1 _ _)
      | (with_reducible exact ih2 _ _)
      | (with_reducible exact ih3 _ _)
      | (with_reducible exact LeO.refl _)
      | (with_reducible exact LeO.none _)
      | (with_reducible refine LeO.ite ?_ ?_)
      | (with_reducible refine LeO.bind ?_ (fun _ => ?_))
      | exact ih0 _ _
      | exact ih1 _ _
      | exact ih2 _ _
      | exact ih3 _ _
      | exact LeO.none _
      | refine LeO.ite ?_ ?_
      | refine LeO.bind ?_ (fun _ => ?_)
set_option maxHeartbeats 8000000 in
set_option maxRecDepth 100000 in
theorem gram_asked.calls (k : Nat) (a0 : Int) (r1 : Int) (r2 : Int) (w : World) (h : gram_asked.f k a0 = some (r1, r2)) :
    Calls Try.prog 27 #[.int .i64 a0] w fun e w' => e = .returned (.tuple #[.int .i64 r1, .int .i64 r2]) ∧ Drawn0 w w' := by
  have H : (if a0 = 0 then (gram_asked.j0 k a0 (a0 == 0)) else (if a0 = 7 then (gram_asked.j0 k a0 (a0 == 7)) else (if a0 = 8 then (gram_asked.j0 k a0 (a0 == 8)) else (gram_asked.j0 k a0 (a0 == 11))))) = some (r1, r2) := h
  clear h
  have HC2 := Aside0.mk H
  clear H
  go_enter Try.func27, Try.ntmps27
  go_upto_if 5 with (fail)
  go_cut [5] (fun v5 wc => ∃ (kq : Nat) (x5_1 : Bool), v5 = .bool x5_1 ∧ Aside0 (gram_asked.j0 kq a0 x5_1 = some (r1, r2)) ∧ Aside0 (kq ≤ k) ∧ Drawn0 w wc)
  case first =>
    have H := HC2.out
    clear HC2
    by_cases c3 : a0 = 0
    · rw [if_pos c3] at H
      have c3b0 : (a0 == 0) = true := beq_iff_eq.mpr c3
      have c3b1 : (a0 != 0) = false := bne_eq_false_iff_eq.mpr c3
      clear c3
      (first | rw [c3b0] | (simp only [i64_w, i32_w]; rw [c3b0]) | skip)
      have H' := Aside0.mk H
      clear H
      go_wp2
      go_meet
      case rel => exact ⟨_, ((a0 == 0)), (by first | rfl | (simp; done) | (simp [*]; done)), H', ⟨by first | omega | exact Nat.le_refl _⟩, by repeat (first | exact Drawn0.refl _ | apply Drawn0.step)⟩
    · rw [if_neg c3] at H
      have c3b0 : (a0 == 0) = false := beq_eq_false_iff_ne.mpr c3
      have c3b1 : (a0 != 0) = true := bne_iff_ne.mpr c3
      (first | rw [c3b0] | (simp only [i64_w, i32_w]; rw [c3b0]) | skip)
      by_cases c4 : a0 = 7
      · rw [if_pos c4] at H
        have c4b0 : (a0 == 7) = true := beq_iff_eq.mpr c4
        have c4b1 : (a0 != 7) = false := bne_eq_false_iff_eq.mpr c4
        clear c4
        have H' := Aside0.mk H
        clear H
        go_wp2
        go_meet
        case rel => exact ⟨_, ((a0 == 7)), (by first | rfl | (simp; done) | (simp [*]; done)), H', ⟨by first | omega | exact Nat.le_refl _⟩, by repeat (first | exact Drawn0.refl _ | apply Drawn0.step)⟩
      · rw [if_neg c4] at H
        have c4b0 : (a0 == 7) = false := beq_eq_false_iff_ne.mpr c4
        have c4b1 : (a0 != 7) = true := bne_iff_ne.mpr c4
        by_cases c5 : a0 = 8
        · rw [if_pos c5] at H
          have c5b0 : (a0 == 8) = true := beq_iff_eq.mpr c5
          have c5b1 : (a0 != 8) = false := bne_eq_false_iff_eq.mpr c5
          clear c5
          have H' := Aside0.mk H
          clear H
          go_wp2
          go_meet
          case rel => exact ⟨_, ((a0 == 8)), (by first | rfl | (simp; done) | (simp [*]; done)), H', ⟨by first | omega | exact Nat.le_refl _⟩, by repeat (first | exact Drawn0.refl _ | apply Drawn0.step)⟩
        · rw [if_neg c5] at H
          have c5b0 : (a0 == 8) = false := beq_eq_false_iff_ne.mpr c5
          have c5b1 : (a0 != 8) = true := bne_iff_ne.mpr c5
          have H' := Aside0.mk H
          clear H
          go_wp2
          go_meet
          case rel => exact ⟨_, ((a0 == 11)), (by first | rfl | (simp; done) | (simp [*]; done)), H', ⟨by first | omega | exact Nat.le_refl _⟩, by repeat (first | exact Drawn0.refl _ | apply Drawn0.step)⟩
  case rest =>
    clear HC2
    try clear c2
    try clear p2
    try clear c3
    try clear c3b0
    try clear c3b1
    try clear c4
    try clear c4b0
    try clear c4b1
    try clear c5
    try clear c5b0
    try clear c5b1
    obtain ⟨kq, x5_1, rfl, HA, HJ1, ⟨mc1, rfl⟩⟩ := hcut
    cases kq with
    | zero => exact absurd HA.out (by simp [gram_asked.j0])
    | succ kj1 =>
      have H := HA.out
      clear HA
      simp only [gram_asked.j0] at H
      by_cases c6 : x5_1 = true
      · subst c6
        have H1 : (some (1, 1)) = some (r1, r2) := by rw [if_pos rfl] at H; exact H
        clear H
        have H := H1
        clear H1
        simp only [Option.some.injEq, Prod.mk.injEq] at H
        obtain ⟨rfl, rfl⟩ := H
        go_wp2
        go_ret2
        exact ⟨by first | rfl | (simp; done) | (simp [*]; done), by repeat (first | exact Drawn0.refl _ | apply Drawn0.step)⟩
      · replace c6 := Bool.eq_false_iff.mpr c6
        subst c6
        have H1 : (if a0 = 2 then (gram_asked.j1 kj1 a0 (a0 == 2)) else (if a0 = 5 then (gram_asked.j1 kj1 a0 (a0 == 5)) else (if a0 = 9 then (gram_asked.j1 kj1 a0 (a0 == 9)) else (if a0 = 12 then (gram_asked.j1 kj1 a0 (a0 == 12)) else (if a0 = 13 then (gram_asked.j1 kj1 a0 (a0 == 13)) else (if a0 = 14 then (gram_asked.j1 kj1 a0 (a0 == 14)) else (gram_asked.j1 kj1 a0 (a0 == 15)))))))) = some (r1, r2) := by rw [if_neg (show ¬ (false = true) by decide)] at H; exact H
        clear H
        have H := H1
        clear H1
        have HC7 := Aside0.mk H
        clear H
        go_upto_if 10 with (fail)
        go_cut [10] (fun v10 wc => ∃ (kq : Nat) (x10_6 : Bool), v10 = .bool x10_6 ∧ Aside0 (gram_asked.j1 kq a0 x10_6 = some (r1, r2)) ∧ Aside0 (kq ≤ kj1) ∧ Drawn0 w wc)
        case first =>
          have H := HC7.out
          clear HC7
          by_cases c8 : a0 = 2
          · rw [if_pos c8] at H
            have c8b0 : (a0 == 2) = true := beq_iff_eq.mpr c8
            have c8b1 : (a0 != 2) = false := bne_eq_false_iff_eq.mpr c8
            clear c8
            (first | rw [c8b0] | (simp only [i64_w, i32_w]; rw [c8b0]) | skip)
            have H' := Aside0.mk H
            clear H
            go_wp2
            go_meet
            case rel => exact ⟨_, ((a0 == 2)), (by first | rfl | (simp; done) | (simp [*]; done)), H', ⟨by have := HJ1.out; first | omega | exact Nat.le_refl _⟩, by repeat (first | exact Drawn0.refl _ | apply Drawn0.step)⟩
          · rw [if_neg c8] at H
            have c8b0 : (a0 == 2) = false := beq_eq_false_iff_ne.mpr c8
            have c8b1 : (a0 != 2) = true := bne_iff_ne.mpr c8
            (first | rw [c8b0] | (simp only [i64_w, i32_w]; rw [c8b0]) | skip)
            by_cases c9 : a0 = 5
            · rw [if_pos c9] at H
              have c9b0 : (a0 == 5) = true := beq_iff_eq.mpr c9
              have c9b1 : (a0 != 5) = false := bne_eq_false_iff_eq.mpr c9
              clear c9
              have H' := Aside0.mk H
              clear H
              go_wp2
              go_meet
              case rel => exact ⟨_, ((a0 == 5)), (by first | rfl | (simp; done) | (simp [*]; done)), H', ⟨by have := HJ1.out; first | omega | exact Nat.le_refl _⟩, by repeat (first | exact Drawn0.refl _ | apply Drawn0.step)⟩
            · rw [if_neg c9] at H
              have c9b0 : (a0 == 5) = false := beq_eq_false_iff_ne.mpr c9
              have c9b1 : (a0 != 5) = true := bne_iff_ne.mpr c9
              by_cases c10 : a0 = 9
              · rw [if_pos c10] at H
                have c10b0 : (a0 == 9) = true := beq_iff_eq.mpr c10
                have c10b1 : (a0 != 9) = false := bne_eq_false_iff_eq.mpr c10
                clear c10
                have H' := Aside0.mk H
                clear H
                go_wp2
                go_meet
                case rel => exact ⟨_, ((a0 == 9)), (by first | rfl | (simp; done) | (simp [*]; done)), H', ⟨by have := HJ1.out; first | omega | exact Nat.le_refl _⟩, by repeat (first | exact Drawn0.refl _ | apply Drawn0.step)⟩
              · rw [if_neg c10] at H
                have c10b0 : (a0 == 9) = false := beq_eq_false_iff_ne.mpr c10
                have c10b1 : (a0 != 9) = true := bne_iff_ne.mpr c10
                by_cases c11 : a0 = 12
                · rw [if_pos c11] at H
                  have c11b0 : (a0 == 12) = true := beq_iff_eq.mpr c11
                  have c11b1 : (a0 != 12) = false := bne_eq_false_iff_eq.mpr c11
                  clear c11
                  have H' := Aside0.mk H
                  clear H
                  go_wp2
                  go_meet
                  case rel => exact ⟨_, ((a0 == 12)), (by first | rfl | (simp; done) | (simp [*]; done)), H', ⟨by have := HJ1.out; first | omega | exact Nat.le_refl _⟩, by repeat (first | exact Drawn0.refl _ | apply Drawn0.step)⟩
                · rw [if_neg c11] at H
                  have c11b0 : (a0 == 12) = false := beq_eq_false_iff_ne.mpr c11
                  have c11b1 : (a0 != 12) = true := bne_iff_ne.mpr c11
                  by_cases c12 : a0 = 13
                  · rw [if_pos c12] at H
                    have c12b0 : (a0 == 13) = true := beq_iff_eq.mpr c12
                    have c12b1 : (a0 != 13) = false := bne_eq_false_iff_eq.mpr c12
                    clear c12
                    have H' := Aside0.mk H
                    clear H
                    go_wp2
                    go_meet
                    case rel => exact ⟨_, ((a0 == 13)), (by first | rfl | (simp; done) | (simp [*]; done)), H', ⟨by have := HJ1.out; first | omega | exact Nat.le_refl _⟩, by repeat (first | exact Drawn0.refl _ | apply Drawn0.step)⟩
                  · rw [if_neg c12] at H
                    have c12b0 : (a0 == 13) = false := beq_eq_false_iff_ne.mpr c12
                    have c12b1 : (a0 != 13) = true := bne_iff_ne.mpr c12
                    by_cases c13 : a0 = 14
                    · rw [if_pos c13] at H
                      have c13b0 : (a0 == 14) = true := beq_iff_eq.mpr c13
                      have c13b1 : (a0 != 14) = false := bne_eq_false_iff_eq.mpr c13
                      clear c13
                      have H' := Aside0.mk H
                      clear H
                      go_wp2
                      go_meet
                      case rel => exact ⟨_, ((a0 == 14)), (by first | rfl | (simp; done) | (simp [*]; done)), H', ⟨by have := HJ1.out; first | omega | exact Nat.le_refl _⟩, by repeat (first | exact Drawn0.refl _ | apply Drawn0.step)⟩
                    · rw [if_neg c13] at H
                      have c13b0 : (a0 == 14) = false := beq_eq_false_iff_ne.mpr c13
                      have c13b1 : (a0 != 14) = true := bne_iff_ne.mpr c13
                      have H' := Aside0.mk H
                      clear H
                      go_wp2
                      go_meet
                      case rel => exact ⟨_, ((a0 == 15)), (by first | rfl | (simp; done) | (simp [*]; done)), H', ⟨by have := HJ1.out; first | omega | exact Nat.le_refl _⟩, by repeat (first | exact Drawn0.refl _ | apply Drawn0.step)⟩
        case rest =>
          clear HC7
          try clear c1
          try clear c2
          try clear p2
          try clear c3
          try clear c3b0
          try clear c3b1
          try clear c4
          try clear c4b0
          try clear c4b1
          try clear c5
          try clear c5b0
          try clear c5b1
          try clear c6
          try clear c8
          try clear c8b0
          try clear c8b1
          try clear c9
          try clear c9b0
          try clear c9b1
          try clear c10
          try clear c10b0
          try clear c10b1
          try clear c11
          try clear c11b0
          try clear c11b1
          try clear c12
          try clear c12b0
          try clear c12b1
          try clear c13
          try clear c13b0
          try clear c13b1
          try clear p2
          obtain ⟨kq, x10_6, rfl, HA, HJ6, ⟨mc6, rfl⟩⟩ := hcut
          cases kq with
          | zero => exact absurd HA.out (by simp [gram_asked.j1])
          | succ kj6 =>
            have H := HA.out
            clear HA
            simp only [gram_asked.j1] at H
            by_cases c14 : x10_6 = true
            · subst c14
              have H1 : (some (2, 2)) = some (r1, r2) := by rw [if_pos rfl] at H; exact H
              clear H
              have H := H1
              clear H1
              simp only [Option.some.injEq, Prod.mk.injEq] at H
              obtain ⟨rfl, rfl⟩ := H
              go_wp2
              go_ret2
              exact ⟨by first | rfl | (simp; done) | (simp [*]; done), by repeat (first | exact Drawn0.refl _ | apply Drawn0.step)⟩
            · replace c14 := Bool.eq_false_iff.mpr c14
              subst c14
              have H1 : (if a0 = 1 then (gram_asked.j2 kj6 a0 (a0 == 1)) else (gram_asked.j2 kj6 a0 (a0 == 6))) = some (r1, r2) := by rw [if_neg (show ¬ (false = true) by decide)] at H; exact H
              clear H
              have H := H1
              clear H1
              have HC15 := Aside0.mk H
              clear H
              go_upto_if 18 with (fail)
              go_cut [18] (fun v18 wc => ∃ (kq : Nat) (x18_14 : Bool), v18 = .bool x18_14 ∧ Aside0 (gram_asked.j2 kq a0 x18_14 = some (r1, r2)) ∧ Aside0 (kq ≤ kj6) ∧ Drawn0 w wc)
              case first =>
                have H := HC15.out
                clear HC15
                by_cases c16 : a0 = 1
                · rw [if_pos c16] at H
                  have c16b0 : (a0 == 1) = true := beq_iff_eq.mpr c16
                  have c16b1 : (a0 != 1) = false := bne_eq_false_iff_eq.mpr c16
                  clear c16
                  (first | rw [c16b0] | (simp only [i64_w, i32_w]; rw [c16b0]) | skip)
                  have H' := Aside0.mk H
                  clear H
                  go_wp2
                  go_meet
                  case rel => exact ⟨_, ((a0 == 1)), (by first | rfl | (simp; done) | (simp [*]; done)), H', ⟨by have := HJ1.out; have := HJ6.out; first | omega | exact Nat.le_refl _⟩, by repeat (first | exact Drawn0.refl _ | apply Drawn0.step)⟩
                · rw [if_neg c16] at H
                  have c16b0 : (a0 == 1) = false := beq_eq_false_iff_ne.mpr c16
                  have c16b1 : (a0 != 1) = true := bne_iff_ne.mpr c16
                  (first | rw [c16b0] | (simp only [i64_w, i32_w]; rw [c16b0]) | skip)
                  have H' := Aside0.mk H
                  clear H
                  go_wp2
                  go_meet
                  case rel => exact ⟨_, ((a0 == 6)), (by first | rfl | (simp; done) | (simp [*]; done)), H', ⟨by have := HJ1.out; have := HJ6.out; first | omega | exact Nat.le_refl _⟩, by repeat (first | exact Drawn0.refl _ | apply Drawn0.step)⟩
              case rest =>
                clear HC15
                try clear c1
                try clear c2
                try clear p2
                try clear c3
                try clear c3b0
                try clear c3b1
                try clear c4
                try clear c4b0
                try clear c4b1
                try clear c5
                try clear c5b0
                try clear c5b1
                try clear c6
                try clear c8
                try clear c8b0
                try clear c8b1
                try clear c9
                try clear c9b0
                try clear c9b1
                try clear c10
                try clear c10b0
                try clear c10b1
                try clear c11
                try clear c11b0
                try clear c11b1
                try clear c12
                try clear c12b0
                try clear c12b1
                try clear c13
                try clear c13b0
                try clear c13b1
                try clear c14
                try clear c16
                try clear c16b0
                try clear c16b1
                try clear p2
                obtain ⟨kq, x18_14, rfl, HA, HJ14, ⟨mc14, rfl⟩⟩ := hcut
                cases kq with
                | zero => exact absurd HA.out (by simp [gram_asked.j2])
                | succ kj14 =>
                  have H := HA.out
                  clear HA
                  simp only [gram_asked.j2] at H
                  by_cases c17 : x18_14 = true
                  · subst c17
                    have H1 : (some (3, 3)) = some (r1, r2) := by rw [if_pos rfl] at H; exact H
                    clear H
                    have H := H1
                    clear H1
                    simp only [Option.some.injEq, Prod.mk.injEq] at H
                    obtain ⟨rfl, rfl⟩ := H
                    go_wp2
                    go_ret2
                    exact ⟨by first | rfl | (simp; done) | (simp [*]; done), by repeat (first | exact Drawn0.refl _ | apply Drawn0.step)⟩
                  · replace c17 := Bool.eq_false_iff.mpr c17
                    subst c17
                    have H1 : (if a0 = 3 then (gram_asked.j3 kj14 a0 (a0 == 3)) else (gram_asked.j3 kj14 a0 (a0 == 4))) = some (r1, r2) := by rw [if_neg (show ¬ (false = true) by decide)] at H; exact H
                    clear H
                    have H := H1
                    clear H1
                    have HC18 := Aside0.mk H
                    clear H
                    go_upto_if 21 with (fail)
                    go_cut [21] (fun v21 wc => ∃ (kq : Nat) (x21_17 : Bool), v21 = .bool x21_17 ∧ Aside0 (gram_asked.j3 kq a0 x21_17 = some (r1, r2)) ∧ Aside0 (kq ≤ kj14) ∧ Drawn0 w wc)
                    case first =>
                      have H := HC18.out
                      clear HC18
                      by_cases c19 : a0 = 3
                      · rw [if_pos c19] at H
                        have c19b0 : (a0 == 3) = true := beq_iff_eq.mpr c19
                        have c19b1 : (a0 != 3) = false := bne_eq_false_iff_eq.mpr c19
                        clear c19
                        (first | rw [c19b0] | (simp only [i64_w, i32_w]; rw [c19b0]) | skip)
                        have H' := Aside0.mk H
                        clear H
                        go_wp2
                        go_meet
                        case rel => exact ⟨_, ((a0 == 3)), (by first | rfl | (simp; done) | (simp [*]; done)), H', ⟨by have := HJ1.out; have := HJ6.out; have := HJ14.out; first | omega | exact Nat.le_refl _⟩, by repeat (first | exact Drawn0.refl _ | apply Drawn0.step)⟩
                      · rw [if_neg c19] at H
                        have c19b0 : (a0 == 3) = false := beq_eq_false_iff_ne.mpr c19
                        have c19b1 : (a0 != 3) = true := bne_iff_ne.mpr c19
                        (first | rw [c19b0] | (simp only [i64_w, i32_w]; rw [c19b0]) | skip)
                        have H' := Aside0.mk H
                        clear H
                        go_wp2
                        go_meet
                        case rel => exact ⟨_, ((a0 == 4)), (by first | rfl | (simp; done) | (simp [*]; done)), H', ⟨by have := HJ1.out; have := HJ6.out; have := HJ14.out; first | omega | exact Nat.le_refl _⟩, by repeat (first | exact Drawn0.refl _ | apply Drawn0.step)⟩
                    case rest =>
                      clear HC18
                      try clear c1
                      try clear c2
                      try clear p2
                      try clear c3
                      try clear c3b0
                      try clear c3b1
                      try clear c4
                      try clear c4b0
                      try clear c4b1
                      try clear c5
                      try clear c5b0
                      try clear c5b1
                      try clear c6
                      try clear c8
                      try clear c8b0
                      try clear c8b1
                      try clear c9
                      try clear c9b0
                      try clear c9b1
                      try clear c10
                      try clear c10b0
                      try clear c10b1
                      try clear c11
                      try clear c11b0
                      try clear c11b1
                      try clear c12
                      try clear c12b0
                      try clear c12b1
                      try clear c13
                      try clear c13b0
                      try clear c13b1
                      try clear c14
                      try clear c16
                      try clear c16b0
                      try clear c16b1
                      try clear c17
                      try clear c19
                      try clear c19b0
                      try clear c19b1
                      try clear p2
                      obtain ⟨kq, x21_17, rfl, HA, HJ17, ⟨mc17, rfl⟩⟩ := hcut
                      cases kq with
                      | zero => exact absurd HA.out (by simp [gram_asked.j3])
                      | succ kj17 =>
                        have H := HA.out
                        clear HA
                        simp only [gram_asked.j3] at H
                        by_cases c20 : x21_17 = true
                        · subst c20
                          have H1 : (some (2, 3)) = some (r1, r2) := by rw [if_pos rfl] at H; exact H
                          clear H
                          have H := H1
                          clear H1
                          simp only [Option.some.injEq, Prod.mk.injEq] at H
                          obtain ⟨rfl, rfl⟩ := H
                          go_wp2
                          go_ret2
                          exact ⟨by first | rfl | (simp; done) | (simp [*]; done), by repeat (first | exact Drawn0.refl _ | apply Drawn0.step)⟩
                        · replace c20 := Bool.eq_false_iff.mpr c20
                          subst c20
                          have H1 : (if a0 = 10 then (some (1, 6)) else (some (1, 0))) = some (r1, r2) := by rw [if_neg (show ¬ (false = true) by decide)] at H; exact H
                          clear H
                          have H := H1
                          clear H1
                          by_cases c21 : a0 = 10
                          · rw [if_pos c21] at H
                            have c21b0 : (a0 == 10) = true := beq_iff_eq.mpr c21
                            have c21b1 : (a0 != 10) = false := bne_eq_false_iff_eq.mpr c21
                            clear c21
                            simp only [Option.some.injEq, Prod.mk.injEq] at H
                            obtain ⟨rfl, rfl⟩ := H
                            go_wp2
                            go_ret2
                            exact ⟨by first | rfl | (simp; done) | (simp [*]; done), by repeat (first | exact Drawn0.refl _ | apply Drawn0.step)⟩
                          · rw [if_neg c21] at H
                            have c21b0 : (a0 == 10) = false := beq_eq_false_iff_ne.mpr c21
                            have c21b1 : (a0 != 10) = true := bne_iff_ne.mpr c21
                            simp only [Option.some.injEq, Prod.mk.injEq] at H
                            obtain ⟨rfl, rfl⟩ := H
                            go_wp2
                            go_ret2
                            exact ⟨by first | rfl | (simp; done) | (simp [*]; done), by repeat (first | exact Drawn0.refl _ | apply Drawn0.step)⟩
noncomputable def gram_symbol.f (a0 : Int) : Option (Bool) := if a0 ≥ 0 then (some (decide (a0 < 20))) else (some false)
set_option maxHeartbeats 8000000 in
set_option maxRecDepth 100000 in
theorem gram_symbol.calls (a0 : Int) (r : Bool) (w : World) (h : gram_symbol.f a0 = some r) :
    Calls Try.prog 28 #[.int .i64 a0] w fun e w' => e = .returned (.bool r) ∧ Drawn0 w w' := by
  have H : (if a0 ≥ 0 then (some (decide (a0 < 20))) else (some false)) = some r := h
  clear h
  by_cases c2 : a0 ≥ 0
  · rw [if_pos c2] at H
    have c2b0 : decide (0 ≤ a0) = true := decide_eq_true c2
    clear c2
    obtain rfl := Option.some.inj H
    go_enter Try.func28, Try.ntmps28
    go_wp2
    go_ret
    exact ⟨by first | rfl | (simp; done) | (simp [*]; done), by repeat (first | exact Drawn0.refl _ | apply Drawn0.step)⟩
  · rw [if_neg c2] at H
    have c2b0 : decide (0 ≤ a0) = false := decide_eq_false c2
    clear c2
    obtain rfl := Option.some.inj H
    go_enter Try.func28, Try.ntmps28
    go_wp2
    go_ret
    exact ⟨by first | rfl | (simp; done) | (simp [*]; done), by repeat (first | exact Drawn0.refl _ | apply Drawn0.step)⟩
noncomputable def gram_within.f (a0 : Int) (a1 : Int) (a2 : Int) : Option (Bool) := if a0 ≥ a1 then (some (decide (a0 ≤ a2))) else (some false)
set_option maxHeartbeats 8000000 in
set_option maxRecDepth 100000 in
theorem gram_within.calls (a0 : Int) (a1 : Int) (a2 : Int) (r : Bool) (w : World) (h : gram_within.f a0 a1 a2 = some r) :
    Calls Try.prog 29 #[.int .i64 a0, .int .i64 a1, .int .i64 a2] w fun e w' => e = .returned (.bool r) ∧ Drawn0 w w' := by
  have H : (if a0 ≥ a1 then (some (decide (a0 ≤ a2))) else (some false)) = some r := h
  clear h
  by_cases c4 : a0 ≥ a1
  · rw [if_pos c4] at H
    have c4b0 : decide (a1 ≤ a0) = true := decide_eq_true c4
    clear c4
    obtain rfl := Option.some.inj H
    go_enter Try.func29, Try.ntmps29
    go_wp2
    go_ret
    exact ⟨by first | rfl | (simp; done) | (simp [*]; done), by repeat (first | exact Drawn0.refl _ | apply Drawn0.step)⟩
  · rw [if_neg c4] at H
    have c4b0 : decide (a1 ≤ a0) = false := decide_eq_false c4
    clear c4
    obtain rfl := Option.some.inj H
    go_enter Try.func29, Try.ntmps29
    go_wp2
    go_ret
    exact ⟨by first | rfl | (simp; done) | (simp [*]; done), by repeat (first | exact Drawn0.refl _ | apply Drawn0.step)⟩
end Go.Proofs.Ytjomlfdkmdgclaa.P
end
section
namespace Go.Proofs.Ytjomlfdkmdgclaa.P
open Go.RowKit Go.Proofs.YtjomlfdkmdgclaaW.PrintWords Go.Proofs.YtjomlfdkmdgclaaW.PrintLast Go.Proofs.YtjomlfdkmdgclaaW.PrintMore
attribute [local go_sem] max2_int min2_int max_two min_two max_three min_three max_four min_four   
set_option linter.unusedVariables false
set_option linter.unusedSimpArgs false
theorem all_closure (fv : Value) (p : Int → Bool) (w : World) (hf : FnTells Try.prog w IntRel fv p) :
    FnTells Try.prog (w.alloc (.cells #[fv] 44)) IntRel (.func (.func 43) #[] #[.pointer (some ⟨w.heap.size, 0, none⟩)]) (fun x => !p x) := by
  refine ⟨_, _, _, rfl, enters_of Try.func43 (by kernel_rfl) rfl, ?_⟩
  rintro W x v hb rfl
  obtain ⟨g, pre, lb, rfl, eg, hq⟩ := hf
  have hbw : Below w.heap.size w W := (below_alloc (Below.refl _ w) _).trans (hb.mono (by simp))
  have hcall := hq W x _ hbw rfl
  have hcell : W.cell? ⟨w.heap.size, 0, none⟩ = some (.func (.func g) pre lb) := pw_cell_below hb (cell_new0 _ _ _)
  clear hb hq hbw
  cases hp : p x with
  | true =>
    rw [hp] at hcall
    go_enter Try.func43, Try.ntmps43
    go_wp2_with fail
    refine hcall.mono ?_
    rintro e w' ⟨rfl, hb'⟩
    go_wp2
    go_ret
    exact ⟨ret_bool (by rw [hp]; rfl), hb'⟩
  | false =>
    rw [hp] at hcall
    go_enter Try.func43, Try.ntmps43
    go_wp2_with fail
    refine hcall.mono ?_
    rintro e w' ⟨rfl, hb'⟩
    go_wp2
    go_ret
    exact ⟨ret_bool (by rw [hp]; rfl), hb'⟩
theorem any_not_all {α : Type} (p : α → Bool) : ∀ l : List α, l.any (fun x => !p x) = !l.all p
  | [] => rfl
  | x :: l => by simp only [List.any_cons, List.all_cons, any_not_all p l, Bool.not_and]
theorem gram_all_calls (fv : Value) (A0 : Option Addr) (c0 : Nat) (l0 : List Int) (p : Int → Bool) (w : World) (hr0 : Kd.C (Kd.int .i64) w A0 l0.length l0) (hc0 : l0.length ≤ c0)
   (hf : FnTells Try.prog w IntRel fv p) :
   Calls Try.prog 30 #[.slice A0 l0.length c0, fv] w fun e w' => e = .returned (.bool (l0.all p)) ∧ Below w.heap.size w w' := by
  have h1 := all_closure fv p w hf
  have hc := containsFunc_int _ A0 c0 l0 (fun x => !p x) (w.alloc (.cells #[fv] 44)) (Kd.C_below hr0 (below_alloc (Below.refl _ w) _)) hc0 h1
  have ha : l0.any (fun x => !p x) = !l0.all p := any_not_all p l0
  rw [ha] at hc
  obtain ⟨g, pre, lb, rfl, eg, hq⟩ := hf
  clear hr0 hq h1 ha
  cases h : l0.all p with
  | true =>
    rw [h] at hc
    clear h
    go_enter Try.func30, Try.ntmps30
    go_wp2_with fail
    refine hc.mono ?_
    rintro e w' ⟨rfl, hb'⟩
    go_wp2
    go_ret
    exact ⟨rfl, (below_alloc (Below.refl _ w) _).trans (hb'.mono (by simp))⟩
  | false =>
    rw [h] at hc
    clear h
    go_enter Try.func30, Try.ntmps30
    go_wp2_with fail
    refine hc.mono ?_
    rintro e w' ⟨rfl, hb'⟩
    go_wp2
    go_ret
    exact ⟨rfl, (below_alloc (Below.refl _ w) _).trans (hb'.mono (by simp))⟩
def itemB (x : Int) : Bool := decide (x < 20) && decide (-61 ≤ x)
def placeB (n : Nat) (x : Int) : Bool := decide (0 ≤ x) && decide (x < (n : Int))
theorem item_tells (a0 : Int) (A1 : Option Addr) (c1 : Nat) (l1 : List Int) (a2 : Int) (A3 : Option Addr) (c3 : Nat) (l3 : List Int) (a4 : Int) (w : World) :
    FnTells Try.prog w IntRel (.func (.func 31) #[.agg #[.int .i64 a0, .slice A1 l1.length c1, .int .i64 a2, .slice A3 l3.length c3, .int .i64 a4]] #[]) itemB := by
  refine ⟨_, _, _, rfl, enters_of Try.func31 (by kernel_rfl) rfl, ?_⟩
  rintro W x v hb rfl
  clear hb
  by_cases h1 : x < 20
  · have d1 : decide (x < 20) = true := decide_eq_true h1
    by_cases h2 : -61 ≤ x
    · have d2 : decide (-61 ≤ x) = true := decide_eq_true h2
      have hz : itemB x = true := by simp [itemB, h1, h2]
      rw [hz]
      clear hz
      go_enter Try.func31, Try.ntmps31
      go_wp2
      go_ret
      exact ⟨rfl, below_alloc (Below.refl _ _) _⟩
    · have d2 : decide (-61 ≤ x) = false := decide_eq_false h2
      have hz : itemB x = false := by simp [itemB, h1]; omega
      rw [hz]
      clear hz
      go_enter Try.func31, Try.ntmps31
      go_wp2
      go_ret
      exact ⟨rfl, below_alloc (Below.refl _ _) _⟩
  · have d1 : decide (x < 20) = false := decide_eq_false h1
    have hz : itemB x = false := by simp [itemB, h1]
    rw [hz]
    clear hz
    go_enter Try.func31, Try.ntmps31
    go_wp2
    go_ret
    exact ⟨rfl, below_alloc (Below.refl _ _) _⟩
theorem place_tells (a0 : Int) (A1 : Option Addr) (c1 : Nat) (l1 : List Int) (a2 : Int) (A3 : Option Addr) (c3 : Nat) (l3 : List Int) (a4 : Int) (w : World) (hl : l1.length ≤ 9223372036854775807) :
    FnTells Try.prog w IntRel (.func (.func 32) #[.agg #[.int .i64 a0, .slice A1 l1.length c1, .int .i64 a2, .slice A3 l3.length c3, .int .i64 a4]] #[]) (placeB l1.length) := by
  refine ⟨_, _, _, rfl, enters_of Try.func32 (by kernel_rfl) rfl, ?_⟩
  rintro W x v hb rfl
  clear hb
  by_cases h1 : 0 ≤ x
  · have d1 : decide (0 ≤ x) = true := decide_eq_true h1
    by_cases h2 : x < (l1.length : Int)
    · have d2 : decide (x < (l1.length : Int)) = true := decide_eq_true h2
      have hz : placeB l1.length x = true := by simp [placeB, h1, h2]
      rw [hz]
      clear hz
      go_enter Try.func32, Try.ntmps32
      go_wp2
      go_ret
      exact ⟨rfl, below_alloc (Below.refl _ _) _⟩
    · have d2 : decide (x < (l1.length : Int)) = false := decide_eq_false h2
      have hz : placeB l1.length x = false := by simp [placeB, h1]; omega
      rw [hz]
      clear hz
      go_enter Try.func32, Try.ntmps32
      go_wp2
      go_ret
      exact ⟨rfl, below_alloc (Below.refl _ _) _⟩
  · have d1 : decide (0 ≤ x) = false := decide_eq_false h1
    have hz : placeB l1.length x = false := by simp [placeB, h1]
    rw [hz]
    clear hz
    go_enter Try.func32, Try.ntmps32
    go_wp2
    go_ret
    exact ⟨rfl, below_alloc (Below.refl _ _) _⟩
def askedP (op : Int) : Int × Int :=
  if op = 0 ∨ op = 7 ∨ op = 8 ∨ op = 11 then (1, 1) else if op = 2 ∨ op = 5 ∨ op = 9 ∨ op = 12 ∨ op = 13 ∨ op = 14 ∨ op = 15 then (2, 2)
  else if op = 1 ∨ op = 6 then (3, 3) else if op = 3 ∨ op = 4 then (2, 3) else if op = 10 then (1, 6) else (1, 0)
def symbolB (x : Int) : Bool := decide (0 ≤ x) && decide (x < 20)
def withinB (x a b : Int) : Bool := decide (a ≤ x) && decide (x ≤ b)
theorem asked_some (k : Nat) (op : Int) : gram_asked.f (k + 4) op = some (askedP op) := by
  by_cases h : 0 ≤ op ∧ op ≤ 15
  · have : op = 0 ∨ op = 1 ∨ op = 2 ∨ op = 3 ∨ op = 4 ∨ op = 5 ∨ op = 6 ∨ op = 7 ∨ op = 8 ∨ op = 9 ∨ op = 10 ∨ op = 11 ∨ op = 12 ∨ op = 13 ∨ op = 14 ∨ op = 15 := by omega
    rcases this with rfl | rfl | rfl | rfl | rfl | rfl | rfl | rfl | rfl | rfl | rfl | rfl | rfl | rfl | rfl | rfl <;> rfl
  · have n : ∀ k : Int, 0 ≤ k → k ≤ 15 → ¬ op = k := fun k h0 h1 e => h (by omega)
    have b : ∀ k : Int, 0 ≤ k → k ≤ 15 → ¬ (op == k) = true := fun k h0 h1 e => n k h0 h1 (by simpa using e)
    have e : askedP op = (1, 0) := by
      unfold askedP
      rw [if_neg (by omega), if_neg (by omega), if_neg (by omega), if_neg (by omega), if_neg (by omega)]
    rw [e]
    unfold gram_asked.f
    rw [if_neg (n 0 (by omega) (by omega)), if_neg (n 7 (by omega) (by omega)), if_neg (n 8 (by omega) (by omega)), gram_asked.j0]
    rw [if_neg (b 11 (by omega) (by omega)), if_neg (n 2 (by omega) (by omega)), if_neg (n 5 (by omega) (by omega)), if_neg (n 9 (by omega) (by omega)), if_neg (n 12 (by omega) (by omega)), if_neg (n 13 (by omega) (by omega)), if_neg (n 14 (by omega) (by omega)), gram_asked.j1]
    rw [if_neg (b 15 (by omega) (by omega)), if_neg (n 1 (by omega) (by omega)), gram_asked.j2]
    rw [if_neg (b 6 (by omega) (by omega)), if_neg (n 3 (by omega) (by omega)), gram_asked.j3]
    rw [if_neg (b 4 (by omega) (by omega)), if_neg (n 10 (by omega) (by omega))]
theorem symbol_some (x : Int) : gram_symbol.f x = some (symbolB x) := by
  unfold gram_symbol.f symbolB
  by_cases h0 : 0 ≤ x
  · rw [if_pos h0, decide_eq_true h0]; rfl
  · rw [if_neg h0, decide_eq_false h0]; rfl
theorem within_some (x a b : Int) : gram_within.f x a b = some (withinB x a b) := by
  unfold gram_within.f withinB
  by_cases h0 : a ≤ x
  · rw [if_pos h0, decide_eq_true h0]; rfl
  · rw [if_neg h0, decide_eq_false h0]; rfl
def rightP (a0 : Int) (l1 : List Int) (a2 : Int) (l3 : List Int) (a4 : Int) : Bool :=
  symbolB a0 && (withinB l1.length 1 6 && (l1.all itemB && (withinB a4 0 100 && (withinB l3.length (askedP a2).1 (askedP a2).2 && l3.all (placeB l1.length)))))
def gram_Right.f (a0_0 : Int) (l0_1 : List Int) (a0_2 : Int) (l0_3 : List Int) (a0_4 : Int) : Option Bool := some (rightP a0_0 l0_1 a0_2 l0_3 a0_4)
theorem right_walk (a0_0 : Int) (A0_1 : Option Addr) (c0_1 : Nat) (l0_1 : List Int) (a0_2 : Int) (A0_3 : Option Addr) (c0_3 : Nat) (l0_3 : List Int) (a0_4 : Int) (w : World) (hr0_1 : Kd.C (Kd.int .i64) w A0_1 l0_1.length l0_1) (hc0_1 : l0_1.length ≤ c0_1) (hr0_3 : Kd.C (Kd.int .i64) w A0_3 l0_3.length l0_3) (hc0_3 : l0_3.length ≤ c0_3) :
    Calls Try.prog 16 #[.agg #[.int .i64 a0_0, .slice A0_1 l0_1.length c0_1, .int .i64 a0_2, .slice A0_3 l0_3.length c0_3, .int .i64 a0_4]] w fun e w' => e = .returned (.bool (rightP a0_0 l0_1 a0_2 l0_3 a0_4)) ∧ Below w.heap.size w w' := by
  have hl1 : l0_1.length ≤ 9223372036854775807 := hr0_1.2.1
  have hl3 : l0_3.length ≤ 9223372036854775807 := hr0_3.2.1
  have K1 := fun w => item_tells a0_0 A0_1 c0_1 l0_1 a0_2 A0_3 c0_3 l0_3 a0_4 w
  have K2 := fun w => place_tells a0_0 A0_1 c0_1 l0_1 a0_2 A0_3 c0_3 l0_3 a0_4 w hl1
  have HR1 := Aside0.mk hr0_1
  have HR3 := Aside0.mk hr0_3
  have HA := Aside0.mk (asked_some 5 a0_2)
  generalize hq : askedP a0_2 = q at HA
  obtain ⟨q1, q2⟩ := q
  have HP : Aside0 (rightP a0_0 l0_1 a0_2 l0_3 a0_4 = (symbolB a0_0 && (withinB l0_1.length 1 6 && (l0_1.all itemB && (withinB a0_4 0 100 && (withinB l0_3.length q1 q2 && l0_3.all (placeB l0_1.length))))))) := ⟨by unfold rightP; rw [hq]⟩
  clear hq hr0_1 hr0_3
  have HB := Aside0.mk (Below.refl w.heap.size w)
  rw [HP.out]
  clear HP
  have HS := Aside0.mk (symbol_some a0_0)
  have HW1 := Aside0.mk (within_some l0_1.length 1 6)
  have HW2 := Aside0.mk (within_some a0_4 0 100)
  have HW3 := Aside0.mk (within_some l0_3.length q1 q2)
  cases h0 : symbolB a0_0 with
  | false =>
    rw [h0] at HS
    clear h0
    go_enter Try.func16, Try.ntmps16
    go_wp2_with fail
    refine (gram_asked.calls 9 _ q1 q2 _ HA.out).mono ?_
    rintro e w' ⟨rfl, ⟨nd, rfl⟩⟩
    go_wp2_with fail
    refine (gram_symbol.calls _ _ _ HS.out).mono ?_
    rintro e w' ⟨rfl, ⟨nd, rfl⟩⟩
    go_wp2
    go_ret
    exact ⟨rfl, by repeat (first | (with_reducible first | exact HB.out | apply below_alloc | apply pw_below_drewN | apply below_drew1) | exact HB.out)⟩
  | true =>
    rw [h0] at HS
    clear h0
    cases h1 : withinB l0_1.length 1 6 with
    | false =>
      rw [h1] at HW1
      clear h1
      go_enter Try.func16, Try.ntmps16
      go_wp2_with fail
      refine (gram_asked.calls 9 _ q1 q2 _ HA.out).mono ?_
      rintro e w' ⟨rfl, ⟨nd, rfl⟩⟩
      go_wp2_with fail
      refine (gram_symbol.calls _ _ _ HS.out).mono ?_
      rintro e w' ⟨rfl, ⟨nd, rfl⟩⟩
      go_wp2_with fail
      refine (gram_within.calls _ _ _ _ _ HW1.out).mono ?_
      rintro e w' ⟨rfl, ⟨nd, rfl⟩⟩
      go_wp2
      go_ret
      exact ⟨rfl, by repeat (first | (with_reducible first | exact HB.out | apply below_alloc | apply pw_below_drewN | apply below_drew1) | exact HB.out)⟩
    | true =>
      rw [h1] at HW1
      clear h1
      cases h2 : l0_1.all itemB with
      | false =>
        have H2 := Aside0.mk h2
        clear h2
        go_enter Try.func16, Try.ntmps16
        go_wp2_with fail
        refine (gram_asked.calls 9 _ q1 q2 _ HA.out).mono ?_
        rintro e w' ⟨rfl, ⟨nd, rfl⟩⟩
        go_wp2_with fail
        refine (gram_symbol.calls _ _ _ HS.out).mono ?_
        rintro e w' ⟨rfl, ⟨nd, rfl⟩⟩
        go_wp2_with fail
        refine (gram_within.calls _ _ _ _ _ HW1.out).mono ?_
        rintro e w' ⟨rfl, ⟨nd, rfl⟩⟩
        go_wp2_with fail
        refine (gram_all_calls _ _ _ _ _ _ (Kd.C_below HR1.out ?b2) hc0_1 (K1 _)).mono ?_
        case b2 => repeat (first | (with_reducible first | exact HB.out | apply below_alloc | apply pw_below_drewN | apply below_drew1) | exact HB.out)
        rw [H2.out]
        rintro e w2 ⟨rfl, hb⟩
        have n0_ := Aside0.mk (below_step (by repeat (first | (with_reducible first | exact HB.out | apply below_alloc | apply pw_below_drewN | apply below_drew1) | exact HB.out)) hb)
        have n1_ := Aside0.mk (blk_below (g := w.heap.size) (o := .cells #[.int .i64 a0_0, .slice A0_1 l0_1.length c0_1, .int .i64 a0_2, .slice A0_3 l0_3.length c0_3, .int .i64 a0_4] 26 (0, 0)) (by (with_reducible repeat (first | refine blk_drewN ?_ _ | refine blk_drew ?_)); exact blk_alloc (blk_new _ _) _) hb)
        have n2_ := Aside0.mk (blk_below (g := w.heap.size + 1) (o := .cells #[.int .i64 a0_0, .slice A0_1 l0_1.length c0_1, .int .i64 a0_2, .slice A0_3 l0_3.length c0_3, .int .i64 a0_4] 51 (0, 0)) (by (with_reducible repeat (first | refine blk_drewN ?_ _ | refine blk_drew ?_)); have h_ := blk_new (w.alloc (.cells #[.int .i64 a0_0, .slice A0_1 l0_1.length c0_1, .int .i64 a0_2, .slice A0_3 l0_3.length c0_3, .int .i64 a0_4] 26 (0, 0))) (.cells #[.int .i64 a0_0, .slice A0_1 l0_1.length c0_1, .int .i64 a0_2, .slice A0_3 l0_3.length c0_3, .int .i64 a0_4] 51 (0, 0)); rw [World.size_alloc] at h_; exact h_) hb)
        have c10 := blk_cell n1_.out 0
        have c20 := blk_cell n2_.out 0
        simp only [List.getElem?_toArray, List.getElem?_cons_succ, List.getElem?_cons_zero] at c10 c20
        have c11 := blk_cell n1_.out 1
        have c21 := blk_cell n2_.out 1
        simp only [List.getElem?_toArray, List.getElem?_cons_succ, List.getElem?_cons_zero] at c11 c21
        have c12 := blk_cell n1_.out 2
        have c22 := blk_cell n2_.out 2
        simp only [List.getElem?_toArray, List.getElem?_cons_succ, List.getElem?_cons_zero] at c12 c22
        have c13 := blk_cell n1_.out 3
        have c23 := blk_cell n2_.out 3
        simp only [List.getElem?_toArray, List.getElem?_cons_succ, List.getElem?_cons_zero] at c13 c23
        have c14 := blk_cell n1_.out 4
        have c24 := blk_cell n2_.out 4
        simp only [List.getElem?_toArray, List.getElem?_cons_succ, List.getElem?_cons_zero] at c14 c24
        clear n1_ n2_
        clear HB hb
        have HB := n0_
        clear n0_
        go_wp2
        go_ret
        exact ⟨rfl, by repeat (first | (with_reducible first | exact HB.out | apply below_alloc | apply pw_below_drewN | apply below_drew1) | exact HB.out)⟩
      | true =>
        have H2 := Aside0.mk h2
        clear h2
        cases h3 : withinB a0_4 0 100 with
        | false =>
          rw [h3] at HW2
          clear h3
          go_enter Try.func16, Try.ntmps16
          go_wp2_with fail
          refine (gram_asked.calls 9 _ q1 q2 _ HA.out).mono ?_
          rintro e w' ⟨rfl, ⟨nd, rfl⟩⟩
          go_wp2_with fail
          refine (gram_symbol.calls _ _ _ HS.out).mono ?_
          rintro e w' ⟨rfl, ⟨nd, rfl⟩⟩
          go_wp2_with fail
          refine (gram_within.calls _ _ _ _ _ HW1.out).mono ?_
          rintro e w' ⟨rfl, ⟨nd, rfl⟩⟩
          go_wp2_with fail
          refine (gram_all_calls _ _ _ _ _ _ (Kd.C_below HR1.out ?b2) hc0_1 (K1 _)).mono ?_
          case b2 => repeat (first | (with_reducible first | exact HB.out | apply below_alloc | apply pw_below_drewN | apply below_drew1) | exact HB.out)
          rw [H2.out]
          rintro e w2 ⟨rfl, hb⟩
          have n0_ := Aside0.mk (below_step (by repeat (first | (with_reducible first | exact HB.out | apply below_alloc | apply pw_below_drewN | apply below_drew1) | exact HB.out)) hb)
          have n1_ := Aside0.mk (blk_below (g := w.heap.size) (o := .cells #[.int .i64 a0_0, .slice A0_1 l0_1.length c0_1, .int .i64 a0_2, .slice A0_3 l0_3.length c0_3, .int .i64 a0_4] 26 (0, 0)) (by (with_reducible repeat (first | refine blk_drewN ?_ _ | refine blk_drew ?_)); exact blk_alloc (blk_new _ _) _) hb)
          have n2_ := Aside0.mk (blk_below (g := w.heap.size + 1) (o := .cells #[.int .i64 a0_0, .slice A0_1 l0_1.length c0_1, .int .i64 a0_2, .slice A0_3 l0_3.length c0_3, .int .i64 a0_4] 51 (0, 0)) (by (with_reducible repeat (first | refine blk_drewN ?_ _ | refine blk_drew ?_)); have h_ := blk_new (w.alloc (.cells #[.int .i64 a0_0, .slice A0_1 l0_1.length c0_1, .int .i64 a0_2, .slice A0_3 l0_3.length c0_3, .int .i64 a0_4] 26 (0, 0))) (.cells #[.int .i64 a0_0, .slice A0_1 l0_1.length c0_1, .int .i64 a0_2, .slice A0_3 l0_3.length c0_3, .int .i64 a0_4] 51 (0, 0)); rw [World.size_alloc] at h_; exact h_) hb)
          have c10 := blk_cell n1_.out 0
          have c20 := blk_cell n2_.out 0
          simp only [List.getElem?_toArray, List.getElem?_cons_succ, List.getElem?_cons_zero] at c10 c20
          have c11 := blk_cell n1_.out 1
          have c21 := blk_cell n2_.out 1
          simp only [List.getElem?_toArray, List.getElem?_cons_succ, List.getElem?_cons_zero] at c11 c21
          have c12 := blk_cell n1_.out 2
          have c22 := blk_cell n2_.out 2
          simp only [List.getElem?_toArray, List.getElem?_cons_succ, List.getElem?_cons_zero] at c12 c22
          have c13 := blk_cell n1_.out 3
          have c23 := blk_cell n2_.out 3
          simp only [List.getElem?_toArray, List.getElem?_cons_succ, List.getElem?_cons_zero] at c13 c23
          have c14 := blk_cell n1_.out 4
          have c24 := blk_cell n2_.out 4
          simp only [List.getElem?_toArray, List.getElem?_cons_succ, List.getElem?_cons_zero] at c14 c24
          clear n1_ n2_
          clear HB hb
          have HB := n0_
          clear n0_
          go_wp2_with fail
          refine (gram_within.calls _ _ _ _ _ HW2.out).mono ?_
          rintro e w' ⟨rfl, ⟨nd, rfl⟩⟩
          go_wp2
          go_ret
          exact ⟨rfl, by repeat (first | (with_reducible first | exact HB.out | apply below_alloc | apply pw_below_drewN | apply below_drew1) | exact HB.out)⟩
        | true =>
          rw [h3] at HW2
          clear h3
          cases h4 : withinB l0_3.length q1 q2 with
          | false =>
            rw [h4] at HW3
            clear h4
            go_enter Try.func16, Try.ntmps16
            go_wp2_with fail
            refine (gram_asked.calls 9 _ q1 q2 _ HA.out).mono ?_
            rintro e w' ⟨rfl, ⟨nd, rfl⟩⟩
            go_wp2_with fail
            refine (gram_symbol.calls _ _ _ HS.out).mono ?_
            rintro e w' ⟨rfl, ⟨nd, rfl⟩⟩
            go_wp2_with fail
            refine (gram_within.calls _ _ _ _ _ HW1.out).mono ?_
            rintro e w' ⟨rfl, ⟨nd, rfl⟩⟩
            go_wp2_with fail
            refine (gram_all_calls _ _ _ _ _ _ (Kd.C_below HR1.out ?b2) hc0_1 (K1 _)).mono ?_
            case b2 => repeat (first | (with_reducible first | exact HB.out | apply below_alloc | apply pw_below_drewN | apply below_drew1) | exact HB.out)
            rw [H2.out]
            rintro e w2 ⟨rfl, hb⟩
            have n0_ := Aside0.mk (below_step (by repeat (first | (with_reducible first | exact HB.out | apply below_alloc | apply pw_below_drewN | apply below_drew1) | exact HB.out)) hb)
            have n1_ := Aside0.mk (blk_below (g := w.heap.size) (o := .cells #[.int .i64 a0_0, .slice A0_1 l0_1.length c0_1, .int .i64 a0_2, .slice A0_3 l0_3.length c0_3, .int .i64 a0_4] 26 (0, 0)) (by (with_reducible repeat (first | refine blk_drewN ?_ _ | refine blk_drew ?_)); exact blk_alloc (blk_new _ _) _) hb)
            have n2_ := Aside0.mk (blk_below (g := w.heap.size + 1) (o := .cells #[.int .i64 a0_0, .slice A0_1 l0_1.length c0_1, .int .i64 a0_2, .slice A0_3 l0_3.length c0_3, .int .i64 a0_4] 51 (0, 0)) (by (with_reducible repeat (first | refine blk_drewN ?_ _ | refine blk_drew ?_)); have h_ := blk_new (w.alloc (.cells #[.int .i64 a0_0, .slice A0_1 l0_1.length c0_1, .int .i64 a0_2, .slice A0_3 l0_3.length c0_3, .int .i64 a0_4] 26 (0, 0))) (.cells #[.int .i64 a0_0, .slice A0_1 l0_1.length c0_1, .int .i64 a0_2, .slice A0_3 l0_3.length c0_3, .int .i64 a0_4] 51 (0, 0)); rw [World.size_alloc] at h_; exact h_) hb)
            have c10 := blk_cell n1_.out 0
            have c20 := blk_cell n2_.out 0
            simp only [List.getElem?_toArray, List.getElem?_cons_succ, List.getElem?_cons_zero] at c10 c20
            have c11 := blk_cell n1_.out 1
            have c21 := blk_cell n2_.out 1
            simp only [List.getElem?_toArray, List.getElem?_cons_succ, List.getElem?_cons_zero] at c11 c21
            have c12 := blk_cell n1_.out 2
            have c22 := blk_cell n2_.out 2
            simp only [List.getElem?_toArray, List.getElem?_cons_succ, List.getElem?_cons_zero] at c12 c22
            have c13 := blk_cell n1_.out 3
            have c23 := blk_cell n2_.out 3
            simp only [List.getElem?_toArray, List.getElem?_cons_succ, List.getElem?_cons_zero] at c13 c23
            have c14 := blk_cell n1_.out 4
            have c24 := blk_cell n2_.out 4
            simp only [List.getElem?_toArray, List.getElem?_cons_succ, List.getElem?_cons_zero] at c14 c24
            clear n1_ n2_
            clear HB hb
            have HB := n0_
            clear n0_
            go_wp2_with fail
            refine (gram_within.calls _ _ _ _ _ HW2.out).mono ?_
            rintro e w' ⟨rfl, ⟨nd, rfl⟩⟩
            go_wp2_with fail
            refine (gram_within.calls _ _ _ _ _ HW3.out).mono ?_
            rintro e w' ⟨rfl, ⟨nd, rfl⟩⟩
            go_wp2
            go_ret
            exact ⟨rfl, by repeat (first | (with_reducible first | exact HB.out | apply below_alloc | apply pw_below_drewN | apply below_drew1) | exact HB.out)⟩
          | true =>
            rw [h4] at HW3
            clear h4
            cases h5 : l0_3.all (placeB l0_1.length) with
            | false =>
              have H5 := Aside0.mk h5
              clear h5
              go_enter Try.func16, Try.ntmps16
              go_wp2_with fail
              refine (gram_asked.calls 9 _ q1 q2 _ HA.out).mono ?_
              rintro e w' ⟨rfl, ⟨nd, rfl⟩⟩
              go_wp2_with fail
              refine (gram_symbol.calls _ _ _ HS.out).mono ?_
              rintro e w' ⟨rfl, ⟨nd, rfl⟩⟩
              go_wp2_with fail
              refine (gram_within.calls _ _ _ _ _ HW1.out).mono ?_
              rintro e w' ⟨rfl, ⟨nd, rfl⟩⟩
              go_wp2_with fail
              refine (gram_all_calls _ _ _ _ _ _ (Kd.C_below HR1.out ?b2) hc0_1 (K1 _)).mono ?_
              case b2 => repeat (first | (with_reducible first | exact HB.out | apply below_alloc | apply pw_below_drewN | apply below_drew1) | exact HB.out)
              rw [H2.out]
              rintro e w2 ⟨rfl, hb⟩
              have n0_ := Aside0.mk (below_step (by repeat (first | (with_reducible first | exact HB.out | apply below_alloc | apply pw_below_drewN | apply below_drew1) | exact HB.out)) hb)
              have n1_ := Aside0.mk (blk_below (g := w.heap.size) (o := .cells #[.int .i64 a0_0, .slice A0_1 l0_1.length c0_1, .int .i64 a0_2, .slice A0_3 l0_3.length c0_3, .int .i64 a0_4] 26 (0, 0)) (by (with_reducible repeat (first | refine blk_drewN ?_ _ | refine blk_drew ?_)); exact blk_alloc (blk_new _ _) _) hb)
              have n2_ := Aside0.mk (blk_below (g := w.heap.size + 1) (o := .cells #[.int .i64 a0_0, .slice A0_1 l0_1.length c0_1, .int .i64 a0_2, .slice A0_3 l0_3.length c0_3, .int .i64 a0_4] 51 (0, 0)) (by (with_reducible repeat (first | refine blk_drewN ?_ _ | refine blk_drew ?_)); have h_ := blk_new (w.alloc (.cells #[.int .i64 a0_0, .slice A0_1 l0_1.length c0_1, .int .i64 a0_2, .slice A0_3 l0_3.length c0_3, .int .i64 a0_4] 26 (0, 0))) (.cells #[.int .i64 a0_0, .slice A0_1 l0_1.length c0_1, .int .i64 a0_2, .slice A0_3 l0_3.length c0_3, .int .i64 a0_4] 51 (0, 0)); rw [World.size_alloc] at h_; exact h_) hb)
              have c10 := blk_cell n1_.out 0
              have c20 := blk_cell n2_.out 0
              simp only [List.getElem?_toArray, List.getElem?_cons_succ, List.getElem?_cons_zero] at c10 c20
              have c11 := blk_cell n1_.out 1
              have c21 := blk_cell n2_.out 1
              simp only [List.getElem?_toArray, List.getElem?_cons_succ, List.getElem?_cons_zero] at c11 c21
              have c12 := blk_cell n1_.out 2
              have c22 := blk_cell n2_.out 2
              simp only [List.getElem?_toArray, List.getElem?_cons_succ, List.getElem?_cons_zero] at c12 c22
              have c13 := blk_cell n1_.out 3
              have c23 := blk_cell n2_.out 3
              simp only [List.getElem?_toArray, List.getElem?_cons_succ, List.getElem?_cons_zero] at c13 c23
              have c14 := blk_cell n1_.out 4
              have c24 := blk_cell n2_.out 4
              simp only [List.getElem?_toArray, List.getElem?_cons_succ, List.getElem?_cons_zero] at c14 c24
              clear n1_ n2_
              clear HB hb
              have HB := n0_
              clear n0_
              go_wp2_with fail
              refine (gram_within.calls _ _ _ _ _ HW2.out).mono ?_
              rintro e w' ⟨rfl, ⟨nd, rfl⟩⟩
              go_wp2_with fail
              refine (gram_within.calls _ _ _ _ _ HW3.out).mono ?_
              rintro e w' ⟨rfl, ⟨nd, rfl⟩⟩
              go_wp2_with fail
              refine (gram_all_calls _ _ _ _ _ _ (Kd.C_below HR3.out ?b5) hc0_3 (K2 _)).mono ?_
              case b5 => repeat (first | (with_reducible first | exact HB.out | apply below_alloc | apply pw_below_drewN | apply below_drew1) | exact HB.out)
              rw [H5.out]
              rintro e w5 ⟨rfl, hb⟩
              have n0_ := Aside0.mk (below_step (by repeat (first | (with_reducible first | exact HB.out | apply below_alloc | apply pw_below_drewN | apply below_drew1) | exact HB.out)) hb)
              clear HB hb
              have HB := n0_
              clear n0_
              go_wp2
              go_ret
              exact ⟨rfl, by repeat (first | (with_reducible first | exact HB.out | apply below_alloc | apply pw_below_drewN | apply below_drew1) | exact HB.out)⟩
            | true =>
              have H5 := Aside0.mk h5
              clear h5
              go_enter Try.func16, Try.ntmps16
              go_wp2_with fail
              refine (gram_asked.calls 9 _ q1 q2 _ HA.out).mono ?_
              rintro e w' ⟨rfl, ⟨nd, rfl⟩⟩
              go_wp2_with fail
              refine (gram_symbol.calls _ _ _ HS.out).mono ?_
              rintro e w' ⟨rfl, ⟨nd, rfl⟩⟩
              go_wp2_with fail
              refine (gram_within.calls _ _ _ _ _ HW1.out).mono ?_
              rintro e w' ⟨rfl, ⟨nd, rfl⟩⟩
              go_wp2_with fail
              refine (gram_all_calls _ _ _ _ _ _ (Kd.C_below HR1.out ?b2) hc0_1 (K1 _)).mono ?_
              case b2 => repeat (first | (with_reducible first | exact HB.out | apply below_alloc | apply pw_below_drewN | apply below_drew1) | exact HB.out)
              rw [H2.out]
              rintro e w2 ⟨rfl, hb⟩
              have n0_ := Aside0.mk (below_step (by repeat (first | (with_reducible first | exact HB.out | apply below_alloc | apply pw_below_drewN | apply below_drew1) | exact HB.out)) hb)
              have n1_ := Aside0.mk (blk_below (g := w.heap.size) (o := .cells #[.int .i64 a0_0, .slice A0_1 l0_1.length c0_1, .int .i64 a0_2, .slice A0_3 l0_3.length c0_3, .int .i64 a0_4] 26 (0, 0)) (by (with_reducible repeat (first | refine blk_drewN ?_ _ | refine blk_drew ?_)); exact blk_alloc (blk_new _ _) _) hb)
              have n2_ := Aside0.mk (blk_below (g := w.heap.size + 1) (o := .cells #[.int .i64 a0_0, .slice A0_1 l0_1.length c0_1, .int .i64 a0_2, .slice A0_3 l0_3.length c0_3, .int .i64 a0_4] 51 (0, 0)) (by (with_reducible repeat (first | refine blk_drewN ?_ _ | refine blk_drew ?_)); have h_ := blk_new (w.alloc (.cells #[.int .i64 a0_0, .slice A0_1 l0_1.length c0_1, .int .i64 a0_2, .slice A0_3 l0_3.length c0_3, .int .i64 a0_4] 26 (0, 0))) (.cells #[.int .i64 a0_0, .slice A0_1 l0_1.length c0_1, .int .i64 a0_2, .slice A0_3 l0_3.length c0_3, .int .i64 a0_4] 51 (0, 0)); rw [World.size_alloc] at h_; exact h_) hb)
              have c10 := blk_cell n1_.out 0
              have c20 := blk_cell n2_.out 0
              simp only [List.getElem?_toArray, List.getElem?_cons_succ, List.getElem?_cons_zero] at c10 c20
              have c11 := blk_cell n1_.out 1
              have c21 := blk_cell n2_.out 1
              simp only [List.getElem?_toArray, List.getElem?_cons_succ, List.getElem?_cons_zero] at c11 c21
              have c12 := blk_cell n1_.out 2
              have c22 := blk_cell n2_.out 2
              simp only [List.getElem?_toArray, List.getElem?_cons_succ, List.getElem?_cons_zero] at c12 c22
              have c13 := blk_cell n1_.out 3
              have c23 := blk_cell n2_.out 3
              simp only [List.getElem?_toArray, List.getElem?_cons_succ, List.getElem?_cons_zero] at c13 c23
              have c14 := blk_cell n1_.out 4
              have c24 := blk_cell n2_.out 4
              simp only [List.getElem?_toArray, List.getElem?_cons_succ, List.getElem?_cons_zero] at c14 c24
              clear n1_ n2_
              clear HB hb
              have HB := n0_
              clear n0_
              go_wp2_with fail
              refine (gram_within.calls _ _ _ _ _ HW2.out).mono ?_
              rintro e w' ⟨rfl, ⟨nd, rfl⟩⟩
              go_wp2_with fail
              refine (gram_within.calls _ _ _ _ _ HW3.out).mono ?_
              rintro e w' ⟨rfl, ⟨nd, rfl⟩⟩
              go_wp2_with fail
              refine (gram_all_calls _ _ _ _ _ _ (Kd.C_below HR3.out ?b5) hc0_3 (K2 _)).mono ?_
              case b5 => repeat (first | (with_reducible first | exact HB.out | apply below_alloc | apply pw_below_drewN | apply below_drew1) | exact HB.out)
              rw [H5.out]
              rintro e w5 ⟨rfl, hb⟩
              have n0_ := Aside0.mk (below_step (by repeat (first | (with_reducible first | exact HB.out | apply below_alloc | apply pw_below_drewN | apply below_drew1) | exact HB.out)) hb)
              clear HB hb
              have HB := n0_
              clear n0_
              go_wp2
              go_ret
              exact ⟨rfl, by repeat (first | (with_reducible first | exact HB.out | apply below_alloc | apply pw_below_drewN | apply below_drew1) | exact HB.out)⟩
theorem gram_Right.calls (a0_0 : Int) (A0_1 : Option Addr) (c0_1 : Nat) (l0_1 : List Int) (a0_2 : Int) (A0_3 : Option Addr) (c0_3 : Nat) (l0_3 : List Int) (a0_4 : Int) (r : Bool) (w : World) (hr0_1 : Kd.C (Kd.int .i64) w A0_1 l0_1.length l0_1) (hc0_1 : l0_1.length ≤ c0_1) (hr0_3 : Kd.C (Kd.int .i64) w A0_3 l0_3.length l0_3) (hc0_3 : l0_3.length ≤ c0_3) (h : gram_Right.f a0_0 l0_1 a0_2 l0_3 a0_4 = some r) :
    Calls Try.prog 16 #[.agg #[.int .i64 a0_0, .slice A0_1 l0_1.length c0_1, .int .i64 a0_2, .slice A0_3 l0_3.length c0_3, .int .i64 a0_4]] w fun e w' => e = .returned (.bool r) ∧ Below w.heap.size w w' := by
  obtain rfl := Option.some.inj h
  exact right_walk a0_0 A0_1 c0_1 l0_1 a0_2 A0_3 c0_3 l0_3 a0_4 w hr0_1 hc0_1 hr0_3 hc0_3
end Go.Proofs.Ytjomlfdkmdgclaa.P
end
section
namespace Go.Proofs.Ytjomlfdkmdgclaa.P
set_option linter.unusedVariables false
set_option linter.unusedSimpArgs false
open Go.RowKit Go.Shelf Go.Proofs.YtjomlfdkmdgclaaW.PrintWords Go.Proofs.YtjomlfdkmdgclaaW.PrintLast Go.Proofs.YtjomlfdkmdgclaaW.PrintMore
open Go.Maps (Keyed)
open Go.MapKept (Stamped)
section
variable {κ : Type} [DecidableEq κ]
def mget {ν : Type} : List (κ × ν) → κ → Option ν
  | [], _ => none
  | p :: m, k => if p.1 = k then some p.2 else mget m k
def mput {ν : Type} : List (κ × ν) → κ → ν → List (κ × ν)
  | [], k, v => [(k, v)]
  | p :: m, k, v => if p.1 = k then (k, v) :: m else p :: mput m k v
theorem mget_mput_same {ν : Type} (k : κ) (v : ν) : ∀ m : List (κ × ν), mget (mput m k v) k = some v
  | [] => by simp [mput, mget]
  | p :: m => by
    unfold mput
    by_cases h : p.1 = k
    · rw [if_pos h]; simp [mget]
    · rw [if_neg h, mget, if_neg h]; exact mget_mput_same k v m
theorem mget_mput_other {ν : Type} (k : κ) (v : ν) (j : κ) (hj : j ≠ k) : ∀ m : List (κ × ν), mget (mput m k v) j = mget m j
  | [] => by simp [mput, mget, Ne.symm hj]
  | p :: m => by
    unfold mput
    by_cases h : p.1 = k
    · rw [if_pos h]; simp [mget, h, Ne.symm hj]
    · rw [if_neg h, mget, mget, mget_mput_other k v j hj m]
theorem mput_keys {ν : Type} (k : κ) (v : ν) : ∀ m : List (κ × ν), (mput m k v).map (·.1) = if k ∈ m.map (·.1) then m.map (·.1) else m.map (·.1) ++ [k]
  | [] => by simp [mput]
  | p :: m => by
    unfold mput
    by_cases h : p.1 = k
    · rw [if_pos h]; simp [h]
    · rw [if_neg h]
      simp only [List.map_cons, List.mem_cons, mput_keys k v m]
      have h2 : ¬ k = p.1 := fun e => h e.symm
      by_cases h3 : k ∈ m.map (·.1)
      · simp [h3]
      · simp [h2, h3]
theorem mget_isSome {ν : Type} (k : κ) : ∀ m : List (κ × ν), (mget m k).isSome = true ↔ k ∈ m.map (·.1)
  | [] => by simp [mget]
  | p :: m => by
    unfold mget
    by_cases h : p.1 = k
    · rw [if_pos h]; simp [h]
    · rw [if_neg h, mget_isSome k m]
      have h2 : ¬ k = p.1 := fun e => h e.symm
      simp [h2]
theorem mput_mem {ν : Type} {k : κ} {v : ν} {m : List (κ × ν)} {p : κ × ν} (h : p ∈ mput m k v) : p = (k, v) ∨ p ∈ m := by
  induction m with
  | nil => simp [mput] at h; exact .inl h
  | cons q m ih =>
    unfold mput at h
    by_cases hq : q.1 = k
    · rw [if_pos hq] at h
      rcases List.mem_cons.1 h with h | h
      · exact .inl h
      · exact .inr (List.mem_cons_of_mem _ h)
    · rw [if_neg hq] at h
      rcases List.mem_cons.1 h with h | h
      · exact .inr (h ▸ List.mem_cons_self)
      · rcases ih h with h | h
        · exact .inl h
        · exact .inr (List.mem_cons_of_mem _ h)
omit [DecidableEq κ] in
theorem map_vals {ν μ : Type} (f : ν → μ) (m : List (κ × ν)) : (m.map fun p => (p.1, f p.2)).map (·.1) = m.map (·.1) := by
  rw [List.map_map]; rfl
theorem mget_map {ν μ : Type} (f : ν → μ) (k : κ) : ∀ m : List (κ × ν), mget (m.map fun p => (p.1, f p.2)) k = (mget m k).map f
  | [] => rfl
  | p :: m => by
    rw [List.map_cons, mget, mget]
    by_cases h : p.1 = k
    · rw [if_pos h, if_pos h]; rfl
    · rw [if_neg h, if_neg h, mget_map f k m]
theorem mput_map {ν μ : Type} (f : ν → μ) (k : κ) (v : ν) : ∀ m : List (κ × ν), mput (m.map fun p => (p.1, f p.2)) k (f v) = (mput m k v).map fun p => (p.1, f p.2)
  | [] => rfl
  | p :: m => by
    rw [List.map_cons, mput, mput]
    by_cases h : p.1 = k
    · rw [if_pos h, if_pos h]; rfl
    · rw [if_neg h, if_neg h, mput_map f k v m]; rfl
def MapOf (P : Program) (kt : TypeId) (enc : κ → Value) (w : World) (b : Nat) (m : List (κ × Value)) : Prop :=
  ∃ es clock, w.heap[b]? = some (.map es clock) ∧ es.toList.map (fun e => (e.key, e.val)) = m.map (fun p => (enc p.1, p.2)) ∧
    (∀ p ∈ m, ∃ l, keyOf P kt (enc p.1) = some l) ∧ Stamped es clock
variable {P : Program} {kt : TypeId} {enc : κ → Value} {w w1 : World} {b : Nat} {m : List (κ × Value)}
omit [DecidableEq κ] in
theorem MapOf.made (P : Program) (kt : TypeId) (enc : κ → Value) (w : World) : MapOf P kt enc (w.alloc (.map #[] 0)) w.heap.size [] :=
  ⟨#[], 0, (MapKept.heap_alloc w _).1, rfl, by simp, MapKept.stamped_empty 0⟩
omit [DecidableEq κ] in
theorem MapOf.lt (h : MapOf P kt enc w b m) : b < w.heap.size := by
  obtain ⟨es, clock, hb, _⟩ := h
  exact (Array.getElem?_eq_some_iff.1 hb).1
omit [DecidableEq κ] in
theorem MapOf.same (h : MapOf P kt enc w b m) (hw : w1.heap[b]? = w.heap[b]?) : MapOf P kt enc w1 b m := by
  obtain ⟨es, clock, hb, r⟩ := h
  exact ⟨es, clock, hw.trans hb, r⟩
omit [DecidableEq κ] in
theorem MapOf.below (h : MapOf P kt enc w b m) (hb : Below w.heap.size w w1) : MapOf P kt enc w1 b m := h.same (hb.block b h.lt)
omit [DecidableEq κ] in
theorem MapOf.alloc (h : MapOf P kt enc w b m) (o : Obj) : MapOf P kt enc (w.alloc o) b m := h.below (below_alloc (Below.refl _ _) o)
omit [DecidableEq κ] in
theorem MapOf.drewN (h : MapOf P kt enc w b m) (n : Nat) : MapOf P kt enc (w.drewN n) b m := h
omit [DecidableEq κ] in
theorem MapOf.drew (h : MapOf P kt enc w b m) : MapOf P kt enc w.drew b m := h
omit [DecidableEq κ] in
theorem MapOf.grown (h : MapOf P kt enc w b m) {row : Option Nat} (hg : w.grownBy w1 row) (hne : some b ≠ row) : MapOf P kt enc w1 b m := h.same (hg.block b h.lt hne)
omit [DecidableEq κ] in
theorem MapOf.setCell (h : MapOf P kt enc w b m) (p : Addr) (hp : b ≠ p.block) (u : Value) : MapOf P kt enc (w.setCell p u) b m := h.same (Below.heap_setCell w p u b hp)
omit [DecidableEq κ] in
theorem MapOf.not_cells (h : MapOf P kt enc w b m) {g : Nat} {cs : Array Value} {t : TypeId} {z : Nat × Nat} (hg : w.heap[g]? = some (.cells cs t z)) : b ≠ g := by
  obtain ⟨es, clock, h1, _⟩ := h
  intro e
  rw [e, hg] at h1
  cases h1
omit [DecidableEq κ] in
theorem MapOf.nodup (h : MapOf P kt enc w b m) : (m.map (·.1)).Nodup := by
  obtain ⟨es, clock, _, he, _, hs⟩ := h
  have hp := ((MapKept.stamped_iff es clock).1 hs).2.2
  have h1 : es.toList.map (fun e => e.key) = m.map (fun p => enc p.1) := by
    have := congrArg (List.map (·.1)) he
    simpa [List.map_map, Function.comp_def] using this
  have h2 : (es.toList.map (fun e => e.key)).Pairwise (· ≠ ·) := List.pairwise_map.2 hp
  rw [h1] at h2
  rw [List.Nodup, List.pairwise_map]
  have h3 := List.pairwise_map.1 h2
  exact h3.imp (fun hne e => hne (by rw [e]))
theorem MapOf.find_cases (K : Keyed P kt) (hinj : ∀ x y, enc x = enc y → x = y) {es : Array MapEntry} (he : es.toList.map (fun e => (e.key, e.val)) = m.map (fun p => (enc p.1, p.2)))
    (hks : ∀ p ∈ m, ∃ l, keyOf P kt (enc p.1) = some l) (w : World) (k : κ) (hk : ∃ l, keyOf P kt (enc k) = some l) (hnd : (m.map (·.1)).Nodup) :
    ((Instr.findKey kt (enc k) es.toList).run P w = .ok none w ∧ (∀ e ∈ es.toList, e.key ≠ enc k) ∧ mget m k = none ∧ ∀ v, mput m k v = m ++ [(k, v)]) ∨
    ∃ j e, (Instr.findKey kt (enc k) es.toList).run P w = .ok (some (j, e.val)) w ∧ es.toList[j]? = some e ∧ e.key = enc k ∧ mget m k = some e.val ∧
      ∀ v, ∃ _ : j < m.length, mput m k v = m.set j (k, v) := by
  obtain ⟨l, hl⟩ := hk
  have hkeys : ∀ e ∈ es.toList, ∃ l, keyOf P kt e.key = some l := by
    intro e hem
    have : (e.key, e.val) ∈ m.map (fun p => (enc p.1, p.2)) := by rw [← he]; exact List.mem_map.2 ⟨e, hem, rfl⟩
    obtain ⟨p, hp, hpe⟩ := List.mem_map.1 this
    obtain ⟨l', hl'⟩ := hks p hp
    exact ⟨l', by rw [← (Prod.mk.inj hpe).1]; exact hl'⟩
  rcases K.find w hl es.toList hkeys with ⟨h1, h2⟩ | ⟨j, e, h1, h2, h3⟩
  · refine .inl ⟨h1, h2, ?_⟩
    have hno : ∀ p ∈ m, p.1 ≠ k := by
      intro p hp hpk
      have : (enc p.1, p.2) ∈ es.toList.map (fun e => (e.key, e.val)) := by rw [he]; exact List.mem_map.2 ⟨p, hp, rfl⟩
      obtain ⟨e, hem, hee⟩ := List.mem_map.1 this
      exact h2 e hem (by rw [(Prod.mk.inj hee).1, hpk])
    clear he hks hnd
    induction m with
    | nil => exact ⟨rfl, fun _ => rfl⟩
    | cons p m ih =>
      have hp := hno p List.mem_cons_self
      obtain ⟨i1, i2⟩ := ih (fun q hq => hno q (List.mem_cons_of_mem _ hq))
      exact ⟨by rw [mget, if_neg hp]; exact i1, fun v => by rw [mput, if_neg hp, i2]; rfl⟩
  · refine .inr ⟨j, e, h1, h2, h3, ?_⟩
    have hm : m[j]? = some (k, e.val) := by
      have : (m.map (fun p => (enc p.1, p.2)))[j]? = some (e.key, e.val) := by rw [← he, List.getElem?_map, h2]; rfl
      rw [List.getElem?_map] at this
      obtain ⟨p, hp, hpe⟩ := Option.map_eq_some_iff.1 this
      obtain ⟨q1, q2⟩ := Prod.mk.inj hpe
      rw [hp, ← q2, ← hinj p.1 k (by rw [q1, h3])]
    clear he hks h1 h2 h3
    induction m generalizing j with
    | nil => simp at hm
    | cons p m ih =>
      rw [List.map_cons, List.nodup_cons] at hnd
      cases j with
      | zero =>
        rw [List.getElem?_cons_zero] at hm
        obtain rfl := Option.some.inj hm
        exact ⟨by simp [mget], fun v => ⟨by simp, by simp [mput]⟩⟩
      | succ j =>
        rw [List.getElem?_cons_succ] at hm
        have hp : p.1 ≠ k := fun e2 => hnd.1 (by rw [e2]; exact List.mem_map.2 ⟨_, List.mem_of_getElem? hm, rfl⟩)
        obtain ⟨i1, i2⟩ := ih hnd.2 j hm
        refine ⟨by rw [mget, if_neg hp]; exact i1, fun v => ?_⟩
        obtain ⟨hj, i3⟩ := i2 v
        exact ⟨by simp; omega, by rw [mput, if_neg hp, i3]; rfl⟩
theorem MapOf.lookup {t e : TypeId} (h : MapOf P kt enc w b m) (K : Keyed P kt) (hinj : ∀ x y, enc x = enc y → x = y) (ht : P.underlying t = some (.map kt e)) {z : Value} (hz : (zeroValue e).run P w = .ok z w)
    (k : κ) (hk : ∃ l, keyOf P kt (enc k) = some l) (c : Bool) :
    (Instr.lookup t (.map (some b)) (enc k) c).run P w = .ok (if c then .tuple #[(mget m k).getD z, .bool (mget m k).isSome] else (mget m k).getD z) w := by
  have hnd := h.nodup
  obtain ⟨es, clock, hb, he, hks, hs⟩ := h
  obtain ⟨l, hl⟩ := hk
  rcases MapOf.find_cases K hinj he hks w k ⟨l, hl⟩ hnd with ⟨h1, _, h3, _⟩ | ⟨j, e0, h1, _, _, h4, _⟩
  · rw [h3]; simp [Instr.lookup, run_underlying ht, MapKept.run_getObj_map hb, K.check w _ hl, h1, hz, Result.andThen]
  · rw [h4]; simp [Instr.lookup, run_underlying ht, MapKept.run_getObj_map hb, K.check w _ hl, h1, Result.andThen]
omit [DecidableEq κ] in
theorem grown_set (w : World) {b : Nat} {o o' : Obj} (hb : w.heap[b]? = some o) : w.grownBy { w with heap := w.heap.setIfInBounds b o' } (some b) :=
  ⟨rfl, rfl, rfl, by simp, fun k _ hne => (MapKept.heap_set hb).2 k (fun e => hne (by rw [e]))⟩
omit [DecidableEq κ] in
theorem map_set_entry {es : Array MapEntry} {j : Nat} {k : κ} {v : Value} (he : es.toList.map (fun e => (e.key, e.val)) = m.map (fun p => (enc p.1, p.2))) (f : MapEntry → MapEntry) (hf : ∀ e, es.toList[j]? = some e → (f e).key = enc k ∧ (f e).val = v) :
    (es.modify j f).toList.map (fun e => (e.key, e.val)) = (m.set j (k, v)).map (fun p => (enc p.1, p.2)) := by
  rw [List.map_set, ← he, Array.toList_modify]
  apply List.ext_getElem?
  intro i
  rw [List.getElem?_map, List.getElem?_modify, List.getElem?_set, List.getElem?_map, List.length_map]
  by_cases hij : j = i
  · subst hij
    rw [if_pos rfl]
    cases hes : es.toList[j]? with
    | none =>
      have : ¬ j < es.toList.length := fun hl => by rw [List.getElem?_eq_getElem hl] at hes; cases hes
      rw [if_neg this]; rfl
    | some e =>
      have hl := (List.getElem?_eq_some_iff.1 hes).1
      rw [if_pos hl]
      simp [hf e hes]
  · rw [if_neg hij]
    cases es.toList[i]? <;> simp [hij]
theorem MapOf.update {t e : TypeId} (h : MapOf P kt enc w b m) (K : Keyed P kt) (hinj : ∀ x y, enc x = enc y → x = y) (ht : P.underlying t = some (.map kt e)) (k : κ) (hk : ∃ l, keyOf P kt (enc k) = some l) (v : Value) :
    ∃ w', (Instr.mapUpdate t (.map (some b)) (enc k) v).run P w = .ok () w' ∧ MapOf P kt enc w' b (mput m k v) ∧ w.grownBy w' (some b) ∧ w'.heap.size = w.heap.size := by
  have hnd := h.nodup
  obtain ⟨es, clock, hb, he, hks, hs⟩ := h
  obtain ⟨l, hl⟩ := hk
  have hks' : ∀ p ∈ mput m k v, ∃ l, keyOf P kt (enc p.1) = some l := by
    intro p hp
    rcases mput_mem hp with rfl | hp
    · exact ⟨l, hl⟩
    · exact hks p hp
  rcases MapOf.find_cases K hinj he hks w k ⟨l, hl⟩ hnd with ⟨h1, h2, _, h4⟩ | ⟨j, e0, h1, h2, h3, _, h5⟩
  · refine ⟨{ w with heap := w.heap.setIfInBounds b (.map (es.push ⟨enc k, v, clock⟩) (clock + 1)) }, ?_, ⟨es.push ⟨enc k, v, clock⟩, clock + 1, (MapKept.heap_set hb).1, ?_, hks', MapKept.stamped_push hs h2⟩, grown_set w hb, by simp⟩
    · simp [Instr.mapUpdate, run_underlying ht, MapKept.run_getObj_map hb, K.check w false hl, h1, MapKept.run_setObj_map _ hb, Result.andThen]
    · rw [h4, Array.toList_push, List.map_append, List.map_append, he]; rfl
  · have hj2 : es[j]? = some e0 := by simpa using h2
    obtain ⟨hj, h6⟩ := h5 v
    refine ⟨{ w with heap := w.heap.setIfInBounds b (.map (es.modify j fun e => { e with key := enc k, val := v }) clock) }, ?_, ⟨es.modify j fun e => { e with key := enc k, val := v }, clock, (MapKept.heap_set hb).1, ?_, hks', ?_⟩, grown_set w hb, by simp⟩
    · simp [Instr.mapUpdate, run_underlying ht, MapKept.run_getObj_map hb, K.check w false hl, h1, hj2, h3, K.stays w hl, MapKept.run_setObj_map _ hb, Result.andThen]
    · rw [h6]; exact map_set_entry he _ (fun e _ => ⟨rfl, rfl⟩)
    · exact MapKept.stamped_modify hs _ _ (fun _ _ => rfl) (fun e' _ he' => by rw [hj2] at he'; cases he'; exact h3.symm)
omit [DecidableEq κ] in
theorem findIdx?_list {α : Type} (xs : Array α) (p : α → Bool) : xs.findIdx? p = xs.toList.findIdx? p := by
  cases xs with | mk l => exact List.findIdx?_toArray p l
theorem MapOf.entry {t e : TypeId} (h : MapOf P kt enc w b m) (K : Keyed P kt) (hinj : ∀ x y, enc x = enc y → x = y) (ht : P.underlying t = some (.map kt e)) {z : Value} (hz : ∀ w, (zeroValue e).run P w = .ok z w) (k : κ) (hk : ∃ l, keyOf P kt (enc k) = some l) :
    ∃ w1 n, (Instr.mapEntry t (.map (some b)) (enc k)).run P w = .ok (.tuple #[(mget m k).getD z, .int .i64 n]) w1 ∧ w.grownBy w1 (some b) ∧ w1.heap.size = w.heap.size ∧ (∃ m1, MapOf P kt enc w1 b m1 ∧ mget m1 k = some ((mget m k).getD z)) ∧
      ∀ v, ∃ w2, (Instr.entryStore t (.map (some b)) (.int .i64 n) v).run P w1 = .ok () w2 ∧ MapOf P kt enc w2 b (mput m k v) ∧ w.grownBy w2 (some b) ∧ w2.heap.size = w.heap.size := by
  have hnd := h.nodup
  obtain ⟨es, clock, hb, he, hks, hs⟩ := h
  obtain ⟨l, hl⟩ := hk
  have hks' : ∀ v, ∀ p ∈ mput m k v, ∃ l, keyOf P kt (enc p.1) = some l := by
    intro v p hp
    rcases mput_mem hp with rfl | hp
    · exact ⟨l, hl⟩
    · exact hks p hp
  have hst := (MapKept.stamped_iff es clock).1 hs
  rcases MapOf.find_cases K hinj he hks w k ⟨l, hl⟩ hnd with ⟨h1, h2, h3, h4⟩ | ⟨j, e0, h1, h2, h3, h4, h5⟩
  · have hb1 : ({ w with heap := w.heap.setIfInBounds b (.map (es.push ⟨enc k, z, clock⟩) (clock + 1)) } : World).heap[b]? = some (.map (es.push ⟨enc k, z, clock⟩) (clock + 1)) := (MapKept.heap_set hb).1
    have hf : (es.push ⟨enc k, z, clock⟩).findIdx? (fun e => (e.born : Int) == (clock : Int)) = some es.size := by
      rw [findIdx?_list, List.findIdx?_eq_some_iff_getElem]
      refine ⟨by simp, by simp, fun i hi => ?_⟩
      have hi' : i < es.toList.length := by simpa using hi
      have e1 : (es.push ⟨enc k, z, clock⟩).toList[i]'(by simp; omega) = es.toList[i] := by simp [Array.toList_push, List.getElem_append_left hi']
      rw [e1]
      have h9 := hst.1 _ (List.getElem_mem hi')
      intro hc
      have h10 : (es.toList[i].born : Int) = clock := beq_iff_eq.1 hc
      omega
    refine ⟨{ w with heap := w.heap.setIfInBounds b (.map (es.push ⟨enc k, z, clock⟩) (clock + 1)) }, (clock : Int), ?_, grown_set w hb, by simp, ⟨mput m k z, ⟨es.push ⟨enc k, z, clock⟩, clock + 1, hb1, by rw [h4, Array.toList_push, List.map_append, List.map_append, he]; rfl, hks' z, MapKept.stamped_push hs h2⟩, by rw [mget_mput_same, h3]; rfl⟩, fun v => ⟨{ w with heap := w.heap.setIfInBounds b (.map ((es.push ⟨enc k, z, clock⟩).modify es.size fun e => { e with val := v }) (clock + 1)) }, ?_, ⟨(es.push ⟨enc k, z, clock⟩).modify es.size fun e => { e with val := v }, clock + 1, (MapKept.heap_set hb).1, ?_, hks' v, ?_⟩, grown_set w hb, by simp⟩⟩
    · rw [h3]; simp [Instr.mapEntry, run_underlying ht, MapKept.run_getObj_map hb, K.check w false hl, h1, MapKept.run_setObj_map _ hb, Result.andThen, hz, goInt]
    · simp only [Instr.entryStore]
      simp [MapKept.run_getObj_map hb1, asInt, asIntOf, hf, MapKept.run_setObj_map _ hb1, Result.andThen]
    · have hpush : (es.push ⟨enc k, z, clock⟩).toList.map (fun e => (e.key, e.val)) = (m ++ [(k, z)]).map (fun p => (enc p.1, p.2)) := by rw [Array.toList_push, List.map_append, List.map_append, he]; rfl
      have hlen : es.size = m.length := by have := congrArg List.length he; simpa using this
      rw [h4, map_set_entry (k := k) (v := v) hpush _ (fun e he2 => ?_)]
      · rw [hlen]; simp
      · have : e = ⟨enc k, z, clock⟩ := by
          rw [Array.toList_push, List.getElem?_append_right (by simp)] at he2
          simpa using he2.symm
        subst this
        exact ⟨rfl, rfl⟩
    · exact MapKept.stamped_modify (MapKept.stamped_push hs h2) _ _ (fun _ _ => rfl) (fun _ _ _ => rfl)
  · have hj2 : es[j]? = some e0 := by simpa using h2
    obtain ⟨hj, _⟩ := h5 z
    have hjs : j < es.size := (Array.getElem?_eq_some_iff.1 hj2).1
    have hb1 : ({ w with heap := w.heap.setIfInBounds b (.map (es.modify j fun e => { e with key := enc k }) clock) } : World).heap[b]? = some (.map (es.modify j fun e => { e with key := enc k }) clock) := (MapKept.heap_set hb).1
    have hs1 : Stamped (es.modify j fun e => { e with key := enc k }) clock := MapKept.stamped_modify hs _ _ (fun _ _ => rfl) (fun e' _ he' => by rw [hj2] at he'; cases he'; exact h3.symm)
    have hf : (es.modify j fun e => { e with key := enc k }).findIdx? (fun e => (e.born : Int) == (e0.born : Int)) = some j := by
      rw [findIdx?_list, List.findIdx?_eq_some_iff_getElem]
      have hn := hst.2.1
      have g : ∀ i (hi : i < es.toList.length), ((es.modify j fun e => { e with key := enc k }).toList[i]'(by simpa using hi)).born = es.toList[i].born := by
        intro i hi
        simp only [Array.toList_modify, List.getElem_modify]
        split <;> rfl
      refine ⟨by simpa using hjs, by rw [g j (by simpa using hjs)]; simp [(Array.getElem?_eq_some_iff.1 hj2).2], fun i hi => ?_⟩
      have hi' : i < es.toList.length := by simp; omega
      rw [g i hi']
      intro hc
      have h6 : es.toList[i].born = e0.born := by have := beq_iff_eq.1 hc; omega
      have h7 : es.toList[j]'(by simpa using hjs) = e0 := by simp [(Array.getElem?_eq_some_iff.1 hj2).2]
      have h8 : (es.toList.map (·.born))[i]'(by simpa using hi') = (es.toList.map (·.born))[j]'(by simpa using hjs) := by simp only [List.getElem_map, h6, h7]
      have := (List.getElem_inj hn).1 h8
      omega
    refine ⟨{ w with heap := w.heap.setIfInBounds b (.map (es.modify j fun e => { e with key := enc k }) clock) }, (e0.born : Int), ?_, grown_set w hb, by simp, ⟨mput m k e0.val, ⟨es.modify j fun e => { e with key := enc k }, clock, hb1, by obtain ⟨_, h6⟩ := h5 e0.val; rw [h6]; exact map_set_entry he _ (fun e he2 => by rw [h2] at he2; cases he2; exact ⟨rfl, rfl⟩), hks' _, hs1⟩, by rw [mget_mput_same, h4]; rfl⟩, fun v => ⟨{ w with heap := w.heap.setIfInBounds b (.map ((es.modify j fun e => { e with key := enc k }).modify j fun e => { e with val := v }) clock) }, ?_, ⟨(es.modify j fun e => { e with key := enc k }).modify j fun e => { e with val := v }, clock, (MapKept.heap_set hb).1, ?_, hks' v, ?_⟩, grown_set w hb, by simp⟩⟩
    · rw [h4]; simp [Instr.mapEntry, run_underlying ht, MapKept.run_getObj_map hb, K.check w false hl, h1, hj2, h3, K.stays w hl, MapKept.run_setObj_map _ hb, Result.andThen, goInt]
    · simp only [Instr.entryStore]
      simp [MapKept.run_getObj_map hb1, asInt, asIntOf, hf, MapKept.run_setObj_map _ hb1, Result.andThen]
    · obtain ⟨_, h6⟩ := h5 v
      have h7 := map_set_entry (k := k) (v := e0.val) he (fun e => { e with key := enc k }) (j := j) (fun e he2 => by rw [h2] at he2; cases he2; exact ⟨rfl, rfl⟩)
      rw [h6, map_set_entry (k := k) (v := v) h7 _ (fun e he2 => ?_)]
      · simp
      · rw [Array.toList_modify, List.getElem?_modify, h2] at he2
        simp at he2
        subst he2
        exact ⟨rfl, rfl⟩
    · exact MapKept.stamped_modify hs1 _ _ (fun _ _ => rfl) (fun _ _ _ => rfl)
variable {ops : Array Oper} {rest : List Oper} {o : Oper} {a : Act} {Q : Exit → Act → World → Prop}
theorem wpList_lookup_map (hg : o.guard = none) (mO x : Operand) (t e : TypeId) (hop : o.op = Op.lookup t mO x false) (K : Keyed P kt) (hinj : ∀ x y, enc x = enc y → x = y) (ht : P.underlying t = some (.map kt e)) {z : Value} (hz : ∀ w, (zeroValue e).run P w = .ok z w)
    (hm : a.eval mO = .map (some b)) (h : MapOf P kt enc w b m) (k : κ) (hx : a.eval x = enc k) (hk : ∃ l, keyOf P kt (enc k) = some l) (v : Value) (hv : (mget m k).getD z = v) (hK : wpList P ops Q rest (a.put o.dst v) w) :
    wpList P ops Q (o :: rest) a w := by
  refine wpList_plain hg fun K' hK' => ?_
  have hrun := h.lookup K hinj ht (hz w) k hk false
  unfold Oper.wp
  simp [execOp, hop, hm, hx, hrun, Result.andThen]
  exact hK' _ _ (by rw [hv]; exact hK)
theorem wpList_update_map (hg : o.guard = none) (mO x v : Operand) (t e : TypeId) (hop : o.op = Op.mapUpdate t mO x v) (K : Keyed P kt) (hinj : ∀ x y, enc x = enc y → x = y) (ht : P.underlying t = some (.map kt e))
    (hm : a.eval mO = .map (some b)) (h : MapOf P kt enc w b m) (k : κ) (hx : a.eval x = enc k) (hk : ∃ l, keyOf P kt (enc k) = some l) (val : Value) (hv : a.eval v = val)
    (hK : ∀ w', MapOf P kt enc w' b (mput m k val) → w.grownBy w' (some b) → w'.heap.size = w.heap.size → wpList P ops Q rest (a.put o.dst undef) w') :
    wpList P ops Q (o :: rest) a w := by
  refine wpList_plain hg fun K' hK' => ?_
  obtain ⟨w', hrun, r1, r2, r3⟩ := h.update K hinj ht k hk val
  unfold Oper.wp
  simp [execOp, hop, hm, hx, hv, hrun, Result.andThen]
  exact hK' _ _ (hK w' r1 r2 r3)
end
end Go.Proofs.Ytjomlfdkmdgclaa.P
end
section
namespace Go.Proofs
open Go.Shelf
def Try.keysA_ren : Go.Shelf.Ren := ⟨fun | 7 => 47 | 10 => 51 | n => n, fun | 23 => 66 | 26 => 3 | 3 => 3 | 28 => 69 | 0 => 0 | 27 => 68 | 33 => 44 | 4 => 4 | n => n, fun | n => n⟩
theorem Try.keysA : Go.Proofs.SlLaysZI.n7 Try.prog Try.keysA_ren := {
  mixed := by kernel_rfl
  f7 := ⟨Try.f47.name, by decide, Try.func47.trans (congrArg some (by kernel_rfl))⟩
  f10 := ⟨Try.f51.name, by decide, Try.func51.trans (congrArg some (by kernel_rfl))⟩
  t0 := Try.underlying0
  a0 := Try.isAgg0
  z0 := Try.sizeOf0
  v0 := Try.zeroValue0
  t4 := Try.underlying4
  a4 := Try.isAgg4
  z4 := Try.sizeOf4
  v4 := Try.zeroValue4
  t23 := Try.underlying66
  a23 := Try.isAgg66
  z23 := Try.sizeOf66
  v23 := Try.zeroValue66
  t26 := Try.underlying3
  a26 := Try.isAgg3
  z26 := Try.sizeOf3
  v26 := Try.zeroValue3
  t27 := Try.underlying68
  a27 := Try.isAgg68
  z27 := Try.sizeOf68
  v27 := Try.zeroValue68
  t28 := Try.underlying69
  a28 := Try.isAgg69
  z28 := Try.sizeOf69
  v28 := Try.zeroValue69
  t33 := Try.underlying44
  a33 := Try.isAgg44
  z33 := Try.sizeOf44
  v33 := Try.zeroValue44 }
def Try.sortedA_ren : Go.Shelf.Ren := ⟨fun | 6 => 46 | 8 => 49 | 9 => 50 | 11 => 52 | 13 => 54 | 12 => 53 | 23 => 64 | 24 => 65 | 14 => 55 | 15 => 56 | 16 => 57 | 17 => 58 | 18 => 59 | 19 => 60 | 20 => 61 | 21 => 62 | 22 => 63 | 25 => 66 | 26 => 67 | 27 => 68 | 28 => 69 | 29 => 70 | 30 => 71 | 31 => 72 | n => n, fun | 26 => 3 | 28 => 69 | 24 => 22 | 0 => 0 | 3 => 3 | 37 => 76 | 48 => 87 | 50 => 89 | 4 => 4 | 40 => 79 | 39 => 78 | 45 => 84 | 5 => 5 | 9 => 9 | 51 => 90 | 55 => 94 | 57 => 96 | 58 => 52 | 33 => 44 | n => n, fun | n => n⟩
theorem Try.sortedA : Go.Proofs.SlLaysZI.n6 Try.prog Try.sortedA_ren := {
  mixed := by kernel_rfl
  f6 := ⟨Try.f46.name, by decide, Try.func46.trans (congrArg some (by kernel_rfl))⟩
  f8 := ⟨Try.f49.name, by decide, Try.func49.trans (congrArg some (by kernel_rfl))⟩
  f11 := ⟨Try.f52.name, by decide, Try.func52.trans (congrArg some (by kernel_rfl))⟩
  t0 := Try.underlying0
  a0 := Try.isAgg0
  z0 := Try.sizeOf0
  v0 := Try.zeroValue0
  t24 := Try.underlying22
  a24 := Try.isAgg22
  z24 := Try.sizeOf22
  v24 := Try.zeroValue22
  t26 := Try.underlying3
  a26 := Try.isAgg3
  z26 := Try.sizeOf3
  v26 := Try.zeroValue3
  t28 := Try.underlying69
  a28 := Try.isAgg69
  z28 := Try.sizeOf69
  v28 := Try.zeroValue69
  i26 := by kernel_rfl }
def Try.sortA_ren : Go.Shelf.Ren := ⟨fun | 5 => 50 | 8 => 54 | 7 => 53 | 19 => 64 | 20 => 65 | 10 => 55 | 11 => 56 | 12 => 57 | 13 => 58 | 14 => 59 | 15 => 60 | 16 => 61 | 17 => 62 | 18 => 63 | 30 => 66 | 31 => 67 | 32 => 68 | 33 => 69 | 34 => 70 | 35 => 71 | 40 => 72 | n => n, fun | 23 => 22 | 25 => 3 | 3 => 3 | 32 => 76 | 22 => 22 | 0 => 0 | 44 => 87 | 46 => 89 | 4 => 4 | 36 => 79 | 35 => 78 | 41 => 84 | 5 => 5 | 9 => 9 | 53 => 90 | 57 => 94 | 63 => 96 | 64 => 52 | n => n, fun | n => n⟩
theorem Try.sortA : Go.Proofs.SlLaysM.n5 Try.prog Try.sortA_ren := {
  mixed := by kernel_rfl
  f5 := ⟨Try.f50.name, by decide, Try.func50.trans (congrArg some (by kernel_rfl))⟩
  f7 := ⟨Try.f53.name, by decide, Try.func53.trans (congrArg some (by kernel_rfl))⟩
  f8 := Try.func54.trans (congrArg some (by kernel_rfl))
  f10 := ⟨Try.f55.name, by decide, Try.func55.trans (congrArg some (by kernel_rfl))⟩
  f11 := ⟨Try.f56.name, by decide, Try.func56.trans (congrArg some (by kernel_rfl))⟩
  f12 := ⟨Try.f57.name, by decide, Try.func57.trans (congrArg some (by kernel_rfl))⟩
  f13 := ⟨Try.f58.name, by decide, Try.func58.trans (congrArg some (by kernel_rfl))⟩
  f14 := ⟨Try.f59.name, by decide, Try.func59.trans (congrArg some (by kernel_rfl))⟩
  f15 := ⟨Try.f60.name, by decide, Try.func60.trans (congrArg some (by kernel_rfl))⟩
  f16 := ⟨Try.f61.name, by decide, Try.func61.trans (congrArg some (by kernel_rfl))⟩
  f17 := ⟨Try.f62.name, by decide, Try.func62.trans (congrArg some (by kernel_rfl))⟩
  f18 := ⟨Try.f63.name, by decide, Try.func63.trans (congrArg some (by kernel_rfl))⟩
  f19 := Try.func64.trans (congrArg some (by kernel_rfl))
  f20 := Try.func65.trans (congrArg some (by kernel_rfl))
  f30 := ⟨Try.f66.name, by decide, Try.func66.trans (congrArg some (by kernel_rfl))⟩
  f31 := Try.func67.trans (congrArg some (by kernel_rfl))
  f32 := Try.func68.trans (congrArg some (by kernel_rfl))
  f33 := ⟨Try.f69.name, by decide, Try.func69.trans (congrArg some (by kernel_rfl))⟩
  f34 := ⟨Try.f70.name, by decide, Try.func70.trans (congrArg some (by kernel_rfl))⟩
  f35 := ⟨Try.f71.name, by decide, Try.func71.trans (congrArg some (by kernel_rfl))⟩
  f40 := ⟨Try.f72.name, by decide, Try.func72.trans (congrArg some (by kernel_rfl))⟩
  t0 := Try.underlying0
  a0 := Try.isAgg0
  z0 := Try.sizeOf0
  v0 := Try.zeroValue0
  t3 := Try.underlying3
  a3 := Try.isAgg3
  z3 := Try.sizeOf3
  v3 := Try.zeroValue3
  t4 := Try.underlying4
  a4 := Try.isAgg4
  z4 := Try.sizeOf4
  v4 := Try.zeroValue4
  t5 := Try.underlying5
  a5 := Try.isAgg5
  z5 := Try.sizeOf5
  v5 := Try.zeroValue5
  t9 := Try.underlying9
  a9 := Try.isAgg9
  z9 := Try.sizeOf9
  v9 := Try.zeroValue9
  t22 := Try.underlying22
  a22 := Try.isAgg22
  z22 := Try.sizeOf22
  v22 := Try.zeroValue22
  t23 := Try.underlying22
  a23 := Try.isAgg22
  z23 := Try.sizeOf22
  v23 := Try.zeroValue22
  t25 := Try.underlying3
  a25 := Try.isAgg3
  z25 := Try.sizeOf3
  v25 := Try.zeroValue3
  t32 := Try.underlying76
  a32 := Try.isAgg76
  z32 := Try.sizeOf76
  v32 := Try.zeroValue76
  t35 := Try.underlying78
  a35 := Try.isAgg78
  z35 := Try.sizeOf78
  v35 := Try.zeroValue78
  t36 := Try.underlying79
  a36 := Try.isAgg79
  z36 := Try.sizeOf79
  v36 := Try.zeroValue79
  t41 := Try.underlying84
  a41 := Try.isAgg84
  z41 := Try.sizeOf84
  v41 := Try.zeroValue84
  t44 := Try.underlying87
  a44 := Try.isAgg87
  z44 := Try.sizeOf87
  v44 := Try.zeroValue87
  t46 := Try.underlying89
  a46 := Try.isAgg89
  z46 := Try.sizeOf89
  v46 := Try.zeroValue89
  t53 := Try.underlying90
  a53 := Try.isAgg90
  z53 := Try.sizeOf90
  v53 := Try.zeroValue90
  t57 := Try.underlying94
  a57 := Try.isAgg94
  z57 := Try.sizeOf94
  v57 := Try.zeroValue94
  t63 := Try.underlying96
  a63 := Try.isAgg96
  z63 := Try.sizeOf96
  v63 := Try.zeroValue96
  t64 := Try.underlying52
  a64 := Try.isAgg52
  z64 := Try.sizeOf52
  v64 := Try.zeroValue52 }
end Go.Proofs
end
section
namespace Go.Proofs.Ytjomlfdkmdgclaa.P
open Go.RowKit Go.Proofs.YtjomlfdkmdgclaaW.PrintWords Go.Proofs.YtjomlfdkmdgclaaW.PrintLast Go.Proofs.YtjomlfdkmdgclaaW.PrintMore
attribute [local go_sem] max2_int min2_int max_two min_two max_three min_three max_four min_four   
set_option linter.unusedVariables false
set_option linter.unusedSimpArgs false
open Go.Maps (Keyed)
open Go.WideElems (Fit rd rg rg_of)
def sortI (l : List Int) : List Int := l.mergeSort leI
theorem keys_calls (b : Nat) (W : World) : Calls Try.prog 47 #[.map (some b)] W fun e w' => e = .returned (.func (.func 51) #[] #[.pointer (some ⟨W.heap.size, 0, none⟩)]) ∧ w' = W.alloc (.cells #[.map (some b)] 66) :=
  (callsIn_wide (n := 5)).1 (AnyZI.keys_in Try.keysA Fence.wide 5 trivial rfl (some b) W)
theorem sortsA (m : Nat) : AnyZI.SortsIn Try.prog Try.sortedA_ren Fence.wide m :=
  ⟨fun blk off cap ss W hH hblk hsz => callsIn_wide.2 (AnyM.slices_Sort_int Try.sortA blk off cap ss W hH hblk hsz),
   fun p cap W => callsIn_wide.2 (AnyM.slices_Sort_int_none Try.sortA p cap W)⟩
theorem ownsMap_of {P : Program} {kt : TypeId} {w : World} {b : Nat} {m : List (Int × Value)} (hkt : P.underlying kt = some (.int .i64)) (h : MapOf P kt (Value.int .i64) w b m) (hlen : m.length ≤ maxLen) :
    ∃ D0 : DataW Unit, w.ownsMap P kt (fun _ => some (DataW.nil, [])) b m.length D0 ∧ (Go.intKeys D0).Perm (m.map (·.1)) ∧ Maps.size D0 = m.length := by
  obtain ⟨es, clock, hb, he, hk, hs⟩ := h
  have hl : es.size = m.length := by have := congrArg List.length he; simpa using this
  have hkey : ∀ x ∈ es.toList, ∃ a, x.key = .int .i64 a ∧ keyOf P kt x.key = some (.int .i64 a) := by
    intro x hx
    have : (x.key, x.val) ∈ m.map (fun p => (Value.int .i64 p.1, p.2)) := by rw [← he]; exact List.mem_map.2 ⟨x, hx, rfl⟩
    obtain ⟨p, hp, hpe⟩ := List.mem_map.1 this
    obtain ⟨l, hl⟩ := hk p hp
    obtain ⟨a, ha, rfl, _⟩ := Maps.keyOf_i64 hkt hl
    have h1 := (Prod.mk.inj hpe).1
    exact ⟨p.1, h1.symm, by rw [← h1, hl, Go.encZ_inj ha]⟩
  have hrd : ∀ x ∈ es.toList, ∃ y, rd P kt (fun _ => some ((DataW.nil : DataW Unit), [])) x = some y := by
    intro x hx
    obtain ⟨a, _, h2⟩ := hkey x hx
    exact ⟨_, Go.WideElems.rd_mk h2 rfl⟩
  refine ⟨.map ((es.toList.map (rg P kt (fun _ => some (DataW.nil, [])))).foldr DataW.insert []), ⟨es, clock, hb, ⟨by omega, hs, hrd⟩, by omega, rfl⟩, ?_, ?_⟩
  · have hp := Go.WideShapes.sorted_perm (es.toList.map (rg P kt (fun _ => some ((DataW.nil : DataW Unit), []))))
    refine ((hp.map fun p => Go.intOf p.1)).trans (.of_eq ?_)
    rw [List.map_map]
    have h2 : m.map (·.1) = es.toList.map (fun x => match x.key with | .int _ a => a | _ => 0) := by
      have := congrArg (List.map (fun q : Value × Value => match q.1 with | .int _ a => a | _ => 0)) he
      rw [List.map_map, List.map_map] at this
      exact (this.trans (by rfl)).symm
    rw [h2]
    refine List.map_congr_left fun x hx => ?_
    obtain ⟨a, h3, h4⟩ := hkey x hx
    show Go.intOf (rg P kt _ x).1 = _
    rw [rg_of (Go.WideElems.rd_mk h4 rfl), h3]
    rfl
  · show ((es.toList.map (rg P kt (fun _ => some ((DataW.nil : DataW Unit), [])))).foldr DataW.insert []).length = m.length
    rw [length_sorted]
    simpa using hl
theorem sorted_calls (b : Nat) (m : List (Int × Value)) (w : World) (h : MapOf Try.prog 3 (Value.int .i64) w b m) (hlen : m.length * 8 ≤ 140737488355328) :
    Calls Try.prog 46 #[.func (.func 51) #[] #[.pointer (some ⟨w.heap.size, 0, none⟩)]] (w.alloc (.cells #[.map (some b)] 66)) fun e w' =>
      ∃ v : Value, e = .returned v ∧ Kd.R (Kd.int .i64) 3 w' w.heap.size (fun _ => True) v (sortI (m.map (·.1))) ∧ Below w.heap.size w w' := by
  obtain ⟨D0, hown, hperm, hsize⟩ := ownsMap_of Try.underlying3 h (by unfold maxLen; omega)
  have hbl := hown.lt
  have hseq : SeqGives Fence.wide 2 Try.prog 51 #[.pointer (some ⟨w.heap.size, 0, none⟩)] encZ (fun ss => ss.Perm (intKeys D0)) (Maps.size D0) (w.alloc (.cells #[.map (some b)] 66)) :=
    AnyZI.keys_gives (ρ := Try.keysA_ren) { Try.keysA with } Fence.wide _ trivial rfl (by omega) w.heap.size b m.length D0 _ (by simp) (by simp) (by
      obtain ⟨es, clock, hb, Ft, hs, hD⟩ := hown
      exact ⟨es, clock, (Below.heap_alloc _ _ b hbl).trans hb, Ft, hs, hD⟩)
  have cS := AnyZI.sorted_in Try.sortedA Fence.wide 5 trivial trivial trivial trivial rfl (by omega) (sortsA _) (enters_of Try.func50 (by kernel_rfl) rfl) 51 #[.pointer (some ⟨w.heap.size, 0, none⟩)] trivial (enters_of Try.func51 (by kernel_rfl) rfl) _ _ (by rw [hsize]; unfold maxLen; omega) (by rw [hsize]; exact hlen) _ hseq
  change CallsIn _ _ Try.prog 46 _ _ _ at cS
  refine ((callsIn_wide (n := 5)).1 cS).mono ?_
  rintro e w' ⟨v, ss, rfl, hS, hrow, hnil, hb⟩
  have e1 : ss.mergeSort leI = sortI (m.map (·.1)) := mergeSort_of_perm_i (hS.trans hperm)
  refine ⟨v, rfl, ?_, (below_alloc (Below.refl _ w) _).trans (hb.mono (by simp))⟩
  have h3 : (sortI (m.map (·.1))).length = ss.length := by rw [← e1]; exact List.length_mergeSort ss
  have hr2 : w'.ownsRow (w.alloc (.cells #[.map (some b)] 66)).heap.size 3 1 v (sortI (m.map (·.1))).length ((sortI (m.map (·.1))).map (Value.int .i64)) := by
    rw [h3, ← e1]
    exact hrow
  have h4 : Kd.R (Kd.int .i64) 3 w' (w.alloc (.cells #[.map (some b)] 66)).heap.size (fun _ => True) v (sortI (m.map (·.1))) := Kd.R_of_own hr2 (fun _ _ => trivial)
  exact Kd.R_lower h4 (by simp)
end Go.Proofs.Ytjomlfdkmdgclaa.P
end
section
namespace Go.Proofs.Ytjomlfdkmdgclaa.P
open Go.RowKit Go.Proofs.YtjomlfdkmdgclaaW.PrintWords Go.Proofs.YtjomlfdkmdgclaaW.PrintLast Go.Proofs.YtjomlfdkmdgclaaW.PrintMore
attribute [local go_sem] max2_int min2_int max_two min_two max_three min_three max_four min_four   
set_option linter.unusedVariables false
set_option linter.unusedSimpArgs false
def slices_Clone_int_int.f (l0 : List Int) : Option (List Int) := if l0.length < 17592186044416 then some l0 else none
theorem slices_Clone_int_int.calls (A0 : Option Addr) (c0 : Nat) (l0 : List Int) (r : List Int) (w : World) (hr0 : Kd.C (Kd.int .i64) w A0 l0.length l0) (hc0 : l0.length ≤ c0) (h : slices_Clone_int_int.f l0 = some r) :
    Calls Try.prog 34 #[.slice A0 l0.length c0] w fun e w' => ∃ v0_ : Value, e = .returned (v0_) ∧ Kd.R (Kd.int .i64) 3 w' w.heap.size (fun _ => True) v0_ r ∧ Below w.heap.size w w' := by
  unfold slices_Clone_int_int.f at h
  split at h
  case isFalse => cases h
  case isTrue hl =>
  obtain rfl := Option.some.inj h
  clear h
  have q22 : ∀ (w : World) (a : Option Addr) (n c n' c' : Nat), (binOp .eql 22 (.slice a n c) (.slice none n' c')).run Try.prog w = .ok (.bool a.isNone) w := fun w a n c n' c' => Lib.run_eql_slice_nil w _ _ a n c n' c' Try.underlying22
  have HR := Aside0.mk hr0
  have HL := Aside0.mk hl
  clear hr0 hl
  cases A0 with
  | none =>
    have h0 : l0 = [] := by
      cases l0 with
      | nil => rfl
      | cons x l => obtain ⟨ad, e, _⟩ := HR.out.2.2 (by simp); cases e
    subst h0
    go_enter Try.func34, Try.ntmps34
    go_wp2
    go_ret
    exact ⟨_, rfl, Kd.R_nil _ _ _ _ _, Below.refl _ _⟩
  | some ad =>
    go_enter Try.func34, Try.ntmps34
    go_wp2_with (at_builtin; go_loud (refine Kd.R_append_row (Value.int .i64) 0 (h1 := fun _ => rfl) (w0 := w) w.heap.size rfl (.tmp 5) (.tmp 6) 22 3 (.int .i64 0) 8 rfl Try.underlying22 info3 rfl (by decide) (.slice (some ⟨w.heap.size, 0, none⟩) 0 0) [] l0 (some ad) l0.length c0 (fun _ => True) rfl rfl (fun _ _ => trivial) ?hO ?hR ?hB ?hb ?hl ?_); (case hO => go_loud (exact Kd.R_of_own (World.ownsRow_made w #[] 0 (Nat.le_refl _) (Nat.zero_le _) rfl) (fun _ _ => trivial))); (case hR => go_loud (exact Kd.C_alloc HR.out _)); (case hB => exact below_alloc (Below.refl _ _) _); (case hb => go_loud (simp)); (case hl => go_loud (have := HL.out; simp; omega)); intro v1 w1 ho hb hg hat)
    have ho' : Kd.R (Kd.int .i64) 3 w1 w.heap.size (fun _ => True) v1 l0 := ho
    have HO := Aside0.mk ho'
    have HB := Aside0.mk hb
    clear ho ho' hb hg hat
    go_wp2
    go_ret
    exact ⟨_, rfl, HO.out, HB.out⟩
end Go.Proofs.Ytjomlfdkmdgclaa.P
end
section
namespace Go.Proofs.Ytjomlfdkmdgclaa.P
open Go.RowKit Go.Proofs.YtjomlfdkmdgclaaW.PrintWords Go.Proofs.YtjomlfdkmdgclaaW.PrintLast Go.Proofs.YtjomlfdkmdgclaaW.PrintMore
attribute [local go_sem] max2_int min2_int max_two min_two max_three min_three max_four min_four   
set_option linter.unusedVariables false
set_option linter.unusedSimpArgs false
open Go.Maps (Keyed)
def FnLists (P : Program) (w : World) (dom : Int → Prop) (fv : Value) (next : Int → List Int) : Prop :=
  ∃ (g : Nat) (pre lb : Array Value), fv = .func (.func g) pre lb ∧ (∀ args w, (callFunc g args).run P w = .ok (.enter g args) w) ∧
    ∀ W x, Below w.heap.size w W → dom x → Calls P g (pre ++ #[.int .i64 x] ++ lb) W fun e w' => ∃ (A : Option Addr) (c : Nat), e = .returned (.slice A (next x).length c) ∧ (next x).length ≤ c ∧ Kd.C (Kd.int .i64) w' A (next x).length (next x) ∧ Below W.heap.size W w'
def fromF (next : Int → List Int) : Nat → List (Int × Int) → List Int → Option (List (Int × Int))
  | 0, _, _ => none
  | k + 1, m, q => match q with
    | [] => if m.length * 8 ≤ 140737488355328 then some m else none
    | x :: q => if (x :: q).length ≤ 1000000000 ∧ (next x).length ≤ 1000000000 ∧ 0 ≤ (mget m x).getD 0 ∧ (mget m x).getD 0 ≤ 1000000000000 then
        (if (mget m x).getD 0 = 0 then fromF next k (mput m x ((mget m x).getD 0 + 1)) (q ++ next x) else fromF next k (mput m x ((mget m x).getD 0 + 1)) q) else none
abbrev encI (m : List (Int × Int)) : List (Int × Value) := m.map fun p => (p.1, Value.int .i64 p.2)
theorem intKeyed : Keyed Try.prog 3 := Go.Maps.int_keyed Try.underlying3
theorem int_inj : ∀ x y : Int, Value.int .i64 x = Value.int .i64 y → x = y := fun x y h => by simpa using h
theorem zero_int (w : World) : (zeroValue 3).run Try.prog w = .ok (.int .i64 0) w := by kernel_rfl
theorem getD_encI (m : List (Int × Int)) (x : Int) : (mget (encI m) x).getD (.int .i64 0) = .int .i64 ((mget m x).getD 0) := by
  rw [mget_map]; cases mget m x <;> rfl
theorem fit_i64 {x : Int} (h : -9223372036854775808 ≤ x ∧ x ≤ 9223372036854775807) : ∃ l, keyOf Try.prog 3 (.int .i64 x) = some l := ⟨_, Go.Maps.keyOf_int_mk Try.underlying3 (WalkArith.wf_i64 (by omega))⟩
theorem from_walk (fv : Value) (next : Int → List Int) (dom : Int → Prop) (hdom : ∀ x, dom x → (-9223372036854775808 ≤ x ∧ x ≤ 9223372036854775807) ∧ ∀ y ∈ next x, dom y) (k : Nat) (A0 : Option Addr) (c0 : Nat) (l0 : List Int) (r : List (Int × Int)) (w : World)
    (hf : FnLists Try.prog w dom fv next) (hl0 : ∀ x ∈ l0, dom x) (hr0 : Kd.C (Kd.int .i64) w A0 l0.length l0) (hc0 : l0.length ≤ c0) (h : fromF next k [] l0 = some r) :
    Calls Try.prog 39 #[.slice A0 l0.length c0, fv] w fun e w' => ∃ v0_ : Value, e = .returned (v0_) ∧ Kd.R (Kd.int .i64) 3 w' w.heap.size (fun _ => True) v0_ (sortI (r.map (·.1))) ∧ Below w.heap.size w w' := by
  obtain ⟨g, pre, lb, rfl, eg, hq⟩ := hf
  have HQ := Aside0.mk hq
  have HR := Aside0.mk hr0
  have HC := Aside0.mk hc0
  have HD := Aside0.mk hdom
  have HL := Aside0.mk hl0
  have H := Aside0.mk h
  have hmm := @run_makeMap Try.prog
  clear hq hr0 hc0 hdom hl0 h
  go_enter Try.func39, Try.ntmps39
  go_wp2
  go_loopg [0] k (fun kq v0 wr => ∃ (q : List Int) (m : List (Int × Int)) (A : Option Addr) (c : Nat), v0 = .slice A q.length c ∧ Aside0 (fromF next kq m q = some r) ∧ Aside0 (kq ≤ k) ∧ Aside0 (q.length ≤ c) ∧ Aside0 (Kd.C (Kd.int .i64) wr A q.length q) ∧ Aside0 (∀ x ∈ q, dom x) ∧
    Aside0 (MapOf Try.prog 3 (Value.int .i64) wr w.heap.size (encI m)) ∧ Aside0 (Below w.heap.size w wr) ∧ Aside0 (w.heap.size < wr.heap.size))
  case atStart => exact ⟨l0, [], A0, c0, rfl, H, ⟨Nat.le_refl _⟩, HC, ⟨Kd.C_below HR.out (below_alloc (Below.refl _ _) _)⟩, HL, ⟨MapOf.made _ _ _ _⟩, ⟨below_alloc (Below.refl _ _) _⟩, ⟨by simp⟩⟩
  case round =>
    clear H HR HC HL
    obtain ⟨q, m, A, c, rfl, HF, HK, HC, HR, HL, HM, HB, HS⟩ := hrel
    cases gk with
    | zero => exact absurd HF.out (by simp [fromF])
    | succ k1 =>
      cases q with
      | nil =>
        have h2 := HF.out
        simp only [fromF] at h2
        split at h2
        case isFalse => cases h2
        case isTrue hlen =>
        obtain rfl := Option.some.inj h2
        clear h2
        have HN := Aside0.mk hlen
        clear hlen
        have hlt : ¬ (0 : Int) < (([] : List Int).length : Int) := by simp
        go_wp2_with fail
        refine (keys_calls _ _).mono ?_
        rintro e w' ⟨rfl, rfl⟩
        go_wp2_with fail
        refine (sorted_calls w.heap.size (encI m) _ HM.out (by rw [List.length_map]; exact HN.out)).mono ?_
        rintro e w' ⟨v, rfl, hR, hb⟩
        have hR2 := Aside0.mk hR
        have hb2 := Aside0.mk hb
        clear hR hb
        go_wp2
        go_ret
        have h3 := hR2.out
        rw [map_vals] at h3
        exact ⟨v, rfl, Kd.R_lower h3 HB.out.size, below_step HB.out hb2.out⟩
      | cons x q =>
        have h2 := HF.out
        simp only [fromF] at h2
        split at h2
        case isFalse => cases h2
        case isTrue hb =>
        obtain ⟨b1, b2, b3, b4⟩ := hb
        have hdx := HL.out x List.mem_cons_self
        obtain ⟨hx, hnx⟩ := HD.out x hdx
        have hkey := fit_i64 hx
        have HX := Aside0.mk hx
        have HNX := Aside0.mk hnx
        have HDX := Aside0.mk hdx
        have B1 := Aside0.mk b1
        have B2 := Aside0.mk b2
        have H3 := Aside0.mk h2
        obtain ⟨ad, hA, hcell⟩ := Kd.at_int HR.out 0 (by omega) (by simp)
        have hcell' : wr.cell? ad = some (.int .i64 x) := hcell
        subst hA
        obtain ⟨i0, hi, hz0, hz1, hz2⟩ := info_parts info3
        obtain ⟨A', hrun, hread, hcap⟩ := print_drop_of (P := Try.prog) (Value.int .i64) (0 : Int) 22 3 .i64 Try.underlying22 hi hz1 (some ad) c (x :: q) 1 (by omega) (by simp; omega) HC.out
        have hread2 : Kd.C (Kd.int .i64) wr A' q.length q := Kd.C_of_reads (hread wr (Kd.reads_of_C (d := (0 : Int)) HR.out))
        have hrun2 : ∀ W : World, (Instr.slice 22 (.slice (some ad) (x :: q).length c) (some (.int .i64 1)) none none).run Try.prog W = .ok (.slice A' q.length (c - 1)) W := hrun
        have hlt : (0 : Int) < ((x :: q).length : Int) := by simp
        have HR2 := Aside0.mk hread2
        have HC2 : Aside0 (q.length ≤ c - 1) := ⟨hcap⟩
        clear hcell hrun hread hcap hread2 hx hnx hdx b1 b2 h2 hi hz0 hz1 hz2
        have HB1 : (x :: q).length ≤ 1000000000 := B1.out
        generalize hn : (x :: q).length = n at hrun2 hlt HB1
        try rw [hn]
        have HN := Aside0.mk hn
        clear hn
        go_wp2_with fail
        refine (slices_Clone_int_int.calls _ _ q q _ HR2.out HC2.out (if_pos (by have := B1.out; simp at this; omega))).mono ?_
        rintro e w1 ⟨v1, rfl, hR1, hb1⟩
        have HM1 := Aside0.mk (HM.out.below hb1)
        have HR1 := Aside0.mk (Kd.R_lower (Kd.R_mono (Kd.R_bound hR1) (ok' := fun k => wr.heap.size ≤ k) (fun k hk => hk.2.1)) HB.out.size)
        have HB1' := Aside0.mk (below_step HB.out hb1)
        have HS1 := Aside0.mk (Nat.lt_of_lt_of_le HS.out hb1.size)
        obtain ⟨A1, c1, rfl⟩ := Kd.R_slice hR1
        clear hR1 hb1 hcell' hrun2
        have h3 := H3.out
        have hget := getD_encI m x
        have hmp := mput_map (Value.int .i64) x ((mget m x).getD 0 + 1) m
        have hgs : (mget (encI (mput m x ((mget m x).getD 0 + 1))) x).getD (.int .i64 0) = .int .i64 ((mget m x).getD 0 + 1) := by rw [getD_encI, mget_mput_same]; rfl
        generalize hv : (mget m x).getD 0 = v at h3 hget hmp hgs b3 b4
        have HG := Aside0.mk hget
        have HMP := Aside0.mk hmp
        have HGS := Aside0.mk hgs
        have H3' := Aside0.mk h3
        clear hget hmp hgs hv h3 H3
        by_cases hv0 : v = 0
        · have H4 := Aside0.mk ((if_pos hv0).symm.trans H3'.out)
          subst hv0
          clear H3'
          go_wp2_with (first
            | (at_lookup; refine wpList_lookup_map rfl (.tmp 17) (.tmp 18) 66 3 rfl intKeyed int_inj Try.underlying66 zero_int rfl HM1.out x rfl hkey (.int .i64 0) HG.out ?_)
            | (at_mapUpdate; refine wpList_update_map rfl (.tmp 17) (.tmp 18) (.tmp 20) 66 3 rfl intKeyed int_inj Try.underlying66 rfl HM1.out x rfl hkey (.int .i64 (0 + 1)) rfl ?_; intro w2 hm2 hg2 hz2; rw [HMP.out] at hm2; have HM2 := Aside0.mk hm2; have HR2' := Aside0.mk (Kd.R_grown HR1.out hg2 (fun k hk e => by have := HS.out; have e2 := Option.some.inj e; omega)); have HB2 := Aside0.mk (HB1'.out.grown hg2 HB1'.out.size (fun j e => by have e2 := Option.some.inj e; omega)); have HS2 : Aside0 (w.heap.size < w2.heap.size) := ⟨by rw [hz2]; exact HS1.out⟩; clear hm2 hg2 hz2 HR1 HM1 HB1' HS1)
            | (at_lookup; refine wpList_lookup_map rfl (.tmp 21) (.tmp 22) 66 3 rfl intKeyed int_inj Try.underlying66 zero_int rfl HM2.out x rfl hkey (.int .i64 (0 + 1)) HGS.out ?_)
            | fail)
          refine (HQ.out _ x HB2.out HDX.out).mono ?_
          rintro e w3 ⟨A3, c3, rfl, hc3, hr3, hb3⟩
          have HR3 := Aside0.mk hr3
          have HC3 := Aside0.mk hc3
          have HM3 := Aside0.mk (HM2.out.below hb3)
          have HR2'' := Aside0.mk (Kd.R_mono (Kd.R_below HR2'.out hb3) (ok' := fun k => w.heap.size < k) (fun k hk => Nat.lt_of_lt_of_le HS.out hk))
          have HB3 := Aside0.mk (below_step HB2.out hb3)
          have HS3 := Aside0.mk (Nat.lt_of_lt_of_le HS2.out hb3.size)
          clear hr3 hc3 hb3 HM2 HR2' HB2 HS2
          go_wp2_with (at_builtin; refine Kd.R_append_row (Value.int .i64) 0 (h1 := fun _ => rfl) (w0 := w) w.heap.size rfl (.tmp 25) (.tmp 28) 22 3 (.int .i64 0) 8 rfl Try.underlying22 info3 rfl (by decide) (.slice A1 q.length c1) q (next x) A3 (next x).length c3 (fun k => w.heap.size < k) rfl rfl (fun k hk => Nat.lt_of_lt_of_le HS3.out hk) HR2''.out HR3.out HB3.out HB3.out.size (by have h1_ := B1.out; have h2_ := B2.out; simp only [List.length_cons] at h1_; omega) ?_; intro v4 w4 ho4 hb4 hg4 hat4; have HM4 := Aside0.mk (HM3.out.grown hg4 (fun e => by have h_ := HR2''.out.1 w.heap.size e.symm; exact absurd h_ (Nat.lt_irrefl _))); have ho5 : Kd.R (Kd.int .i64) 3 w4 w.heap.size (fun k => w.heap.size < k) v4 (q ++ next x) := ho4; have HR4 := Aside0.mk ho5; have HB4 := Aside0.mk hb4; have HS4 : Aside0 (w.heap.size < w4.heap.size) := ⟨Nat.lt_of_lt_of_le HS3.out hg4.size⟩; obtain ⟨A4, c4, rfl⟩ := Kd.R_slice ho5; clear ho4 ho5 hb4 hg4 hat4 HM3 HR2'' HB3 HS3 HR3 HC3)
          obtain ⟨A5, c5, e5, hle5, hC5⟩ := Kd.R_reads HR4.out
          injection e5 with e6 e7 e8
          subst e6 e8
          have HL5 := Aside0.mk hle5
          have HC5 := Aside0.mk hC5
          clear hle5 hC5 e7
          go_roundg k1
          case measure => have := HK.out; omega
          case rel =>
            exact ⟨q ++ next x, mput m x (0 + 1), A4, c4, by rw [List.length_append], H4, ⟨by have := HK.out; omega⟩, HL5, HC5, ⟨fun y hy => (List.mem_append.1 hy).elim (fun hy => HL.out y (List.mem_cons_of_mem _ hy)) (fun hy => HNX.out y hy)⟩, HM4, HB4, HS4⟩
        · have H4 := Aside0.mk ((if_neg hv0).symm.trans H3'.out)
          have ht : ¬ (v + 1 = 1) := by omega
          clear H3'
          go_wp2_with (first
            | (at_lookup; refine wpList_lookup_map rfl (.tmp 17) (.tmp 18) 66 3 rfl intKeyed int_inj Try.underlying66 zero_int rfl HM1.out x rfl hkey (.int .i64 v) HG.out ?_)
            | (at_mapUpdate; refine wpList_update_map rfl (.tmp 17) (.tmp 18) (.tmp 20) 66 3 rfl intKeyed int_inj Try.underlying66 rfl HM1.out x rfl hkey (.int .i64 (v + 1)) rfl ?_; intro w2 hm2 hg2 hz2; rw [HMP.out] at hm2; have HM2 := Aside0.mk hm2; have HR2' := Aside0.mk (Kd.R_grown HR1.out hg2 (fun k hk e => by have := HS.out; have e2 := Option.some.inj e; omega)); have HB2 := Aside0.mk (HB1'.out.grown hg2 HB1'.out.size (fun j e => by have e2 := Option.some.inj e; omega)); have HS2 : Aside0 (w.heap.size < w2.heap.size) := ⟨by rw [hz2]; exact HS1.out⟩; clear hm2 hg2 hz2 HR1 HM1 HB1' HS1)
            | (at_lookup; refine wpList_lookup_map rfl (.tmp 21) (.tmp 22) 66 3 rfl intKeyed int_inj Try.underlying66 zero_int rfl HM2.out x rfl hkey (.int .i64 (v + 1)) HGS.out ?_))
          obtain ⟨A5, c5, e5, hle5, hC5⟩ := Kd.R_reads HR2'.out
          injection e5 with e6 e7 e8
          subst e6 e8
          have HL5 := Aside0.mk hle5
          have HC5 := Aside0.mk hC5
          clear hle5 hC5 e7
          go_roundg k1
          case measure => have := HK.out; omega
          case rel =>
            exact ⟨q, mput m x (v + 1), A1, c1, rfl, H4, ⟨by have := HK.out; omega⟩, HL5, HC5, ⟨fun y hy => HL.out y (List.mem_cons_of_mem _ hy)⟩, HM2, HB2, HS2⟩
end Go.Proofs.Ytjomlfdkmdgclaa.P
end
section
namespace Go.Proofs.Ytjomlfdkmdgclaa.P
open Go.RowKit Go.Proofs.YtjomlfdkmdgclaaW.PrintWords Go.Proofs.YtjomlfdkmdgclaaW.PrintLast Go.Proofs.YtjomlfdkmdgclaaW.PrintMore
attribute [local go_sem] max2_int min2_int max_two min_two max_three min_three max_four min_four   
set_option linter.unusedVariables false
set_option linter.unusedSimpArgs false
section
variable {P : Program} {ops : Array Oper} {rest : List Oper} {o : Oper} {a : Act} {Q : Exit → Act → World → Prop}
theorem store_block {W : World} (hN : o.dst = none) (hgd : o.guard = none) (t : TypeId) (p x : Operand) (ho : o.op = .store t p x) {g i : Nat} {e : TypeId} {cur : Array Value} (u : Value) (haddr : a.eval p = .pointer (some ⟨g, i, none⟩)) (hx : a.eval x = u)
    (hu : u.cells.toList = [u]) (h1 : u.oneCell' = true) (ht : (P.info? t).map (·.size) = some 1) (hblk : W.heap[g]? = some (.cells cur e (0, 0))) (hi : i < cur.size)
    (h : ∀ w1, w1 = W.setCell ⟨g, i, none⟩ u → wpList P ops Q rest a w1) : wpList P ops Q (o :: rest) a W := by
  have hrun := run_store_run t u [u] hblk hu ht (Nat.succ_le_of_lt hi) (by intro q hq; rw [List.mem_singleton] at hq; rw [hq]; exact h1)
  refine wpList_plain hgd fun K hK => ?_
  unfold Oper.wp execOp
  simp only [ho, haddr, hx, Sem.run_bind, Sem.run_pure, Result.andThen_ok, hrun]
  show K (a.put o.dst undef) _
  rw [hN]
  exact hK a _ (h _ rfl)
end
theorem kn_C_of_blk {α : Type} {d : Kd α} {w : World} {b : Nat} {e : TypeId} {cs : List Value} {xs : List α} (hblk : w.heap[b]? = some (.cells cs.toArray e (0, 0))) (hn : xs.length ≤ 9223372036854775807) (hr : Reps (d.K w) d.sz xs cs) : d.C w (some ⟨b, 0, none⟩) xs.length xs := by
  refine ⟨rfl, hn, fun _ => ⟨_, rfl, fun j p hp => ?_⟩⟩
  have hj : j < xs.length := (List.getElem?_eq_some_iff.1 hp).1
  have h1 : j * d.sz + d.sz ≤ cs.length := by rw [hr.1, ← Nat.succ_mul]; exact Nat.mul_le_mul_right _ hj
  refine ⟨(cs.drop (j * d.sz)).take d.sz, by rw [List.length_take, List.length_drop]; omega, hr.2 j p hp, fun i u hu => ?_⟩
  have hi : i < d.sz := by
    have := (List.getElem?_eq_some_iff.1 hu).1
    rw [List.length_take] at this
    omega
  rw [List.getElem?_take_of_lt hi, List.getElem?_drop] at hu
  have h2 := blk_cell hblk (j * d.sz + i)
  rw [List.getElem?_toArray, hu] at h2
  have h3 : (Addr.mk b 0 none).add (j * d.sz + i) = ⟨b, j * d.sz + i, none⟩ := by
    unfold Addr.add
    by_cases h : j * d.sz + i = 0
    · rw [if_pos h, h]
    · rw [if_neg h, Nat.zero_add]
  rw [h3]
  exact h2
theorem kn_one {α : Type} {R : α → List Value → Prop} {sz : Nat} {x : α} {cs : List Value} (h : R x cs) (hl : cs.length = sz) : Reps R sz [x] cs := by
  have := (Reps.none R sz).snoc h hl
  simpa using this
theorem kn_two {α : Type} {R : α → List Value → Prop} {sz : Nat} {x y : α} {cs ds : List Value} (h : R x cs) (hl : cs.length = sz) (h2 : R y ds) (hl2 : ds.length = sz) : Reps R sz [x, y] (cs ++ ds) := by
  have := (kn_one h hl).snoc h2 hl2
  simpa using this
theorem kn_blk_alloc {w : World} {o o' : Obj} {b : Nat} (h : w.heap[b]? = some o) : (w.alloc o').heap[b]? = some o := blk_below h (below_alloc (Below.refl _ _) _)
theorem kn_blk_at {w : World} {cs : Array Value} {t : TypeId} {n : Nat} (h : w.heap.size = n) : (w.alloc (.cells cs t)).heap[n]? = some (.cells cs t (0, 0)) := h ▸ blk_new w _
end Go.Proofs.Ytjomlfdkmdgclaa.P
end
section
namespace Go.Proofs.Ytjomlfdkmdgclaa.P
open Go.RowKit Go.Proofs.YtjomlfdkmdgclaaW.PrintWords Go.Proofs.YtjomlfdkmdgclaaW.PrintLast Go.Proofs.YtjomlfdkmdgclaaW.PrintMore
attribute [local go_sem] max2_int min2_int max_two min_two max_three min_three max_four min_four   
set_option linter.unusedVariables false
set_option linter.unusedSimpArgs false
open Go.Maps (Keyed)
abbrev Rule' := S26
def encP (p : Int × Int) : Value := .agg #[.int .i64 p.1, .int .i64 p.2]
theorem encP_inj : ∀ x y, encP x = encP y → x = y := fun x y h => by
  simp [encP] at h
  exact Prod.ext h.1 h.2
theorem laidOut : laidOutB Try.prog = true := by kernel_rfl
theorem pairKeyed : Keyed Try.prog 56 := Keyed.of_law (deep_law_laid laidOut (m := 2) (by omega) (of_decide_eq_true (by kernel_rfl)) (by kernel_rfl) (by rw [Try.underlying56]))
theorem sizeTypes : ∃ n, Try.prog.types.size = n + 1 := ⟨Try.prog.types.size - 1, by have h : 0 < Try.prog.types.size := of_decide_eq_true (by kernel_rfl); omega⟩
theorem keyType2 : Try.prog.keyType 56 = true := by kernel_rfl
theorem cellsOf2 : Try.prog.cellsOf 56 = 2 := by kernel_rfl
theorem cellsOf1 : Try.prog.cellsOf 3 = 1 := by kernel_rfl
theorem keyOfP {a b : Int} (ha : 0 ≤ a ∧ a < 20) (hb : 0 ≤ b ∧ b < 20) : ∃ l, keyOf Try.prog 56 (encP (a, b)) = some l := by
  obtain ⟨n, hn⟩ := sizeTypes
  have wa : (Lit.int .i64 a).wf = true := WalkArith.wf_i64 (by omega)
  have wb : (Lit.int .i64 b).wf = true := WalkArith.wf_i64 (by omega)
  refine ⟨.string (keyBytes [.int .i64 a, .int .i64 b]), ?_⟩
  unfold keyOf encP
  rw [Try.underlying56]
  simp only [keyType2, Value.formed, Try.underlying56, cellsOf2, Value.cells, hn]
  simp [Program.keyLits, Try.underlying56, Try.underlying3, cellsOf2, cellsOf1, wa, wb, List.range_succ]
def foundStep (m : List ((Int × Int) × Int)) (r : Rule') : List ((Int × Int) × Int) :=
  if r.f1.length = 1 ∧ 0 ≤ rd r.f1 0 ∧ rd r.f1 0 < 20 then mput m (r.f0, rd r.f1 0) ((mget m (r.f0, rd r.f1 0)).getD 0 + 1) else m
def foundL (l : List Rule') : List ((Int × Int) × Int) := l.foldl foundStep []
abbrev encM (m : List ((Int × Int) × Int)) : List ((Int × Int) × Value) := m.map fun p => (p.1, Value.int .i64 p.2)
theorem getD_encM (m : List ((Int × Int) × Int)) (x : Int × Int) : (mget (encM m) x).getD (.int .i64 0) = .int .i64 ((mget m x).getD 0) := by
  rw [mget_map]; cases mget m x <;> rfl
theorem found_bound (l : List Rule') (x : Int × Int) : 0 ≤ (mget (foundL l) x).getD 0 ∧ (mget (foundL l) x).getD 0 ≤ l.length := by
  suffices h : ∀ (l : List Rule') (m : List ((Int × Int) × Int)) (n : Nat), (∀ x, 0 ≤ (mget m x).getD 0 ∧ (mget m x).getD 0 ≤ n) → ∀ x, 0 ≤ (mget (l.foldl foundStep m) x).getD 0 ∧ (mget (l.foldl foundStep m) x).getD 0 ≤ (n + l.length : Nat) by
    have := h l [] 0 (fun x => by simp [mget]) x
    rw [Nat.zero_add] at this
    exact this
  intro l
  induction l with
  | nil => intro m n h x; exact h x
  | cons r l ih =>
    intro m n h x
    have h2 : ∀ y, 0 ≤ (mget (foundStep m r) y).getD 0 ∧ (mget (foundStep m r) y).getD 0 ≤ ((n + 1 : Nat) : Int) := by
      intro y
      unfold foundStep
      split
      · by_cases e : y = (r.f0, rd r.f1 0)
        · subst e
          rw [mget_mput_same]
          have := h (r.f0, rd r.f1 0)
          simp only [Option.getD_some]
          omega
        · rw [mget_mput_other _ _ _ e]
          have := h y
          omega
      · have := h y
        omega
    have := ih (foundStep m r) (n + 1) h2 x
    rw [List.foldl_cons, List.length_cons, show n + (l.length + 1) = n + 1 + l.length by omega]
    exact this
theorem found_snoc (l : List Rule') (k : Nat) (h : k < l.length) : foundL (l.take (k + 1)) = foundStep (foundL (l.take k)) l[k] := by
  unfold foundL
  rw [List.take_succ_eq_append_getElem h, List.foldl_append]
  rfl
theorem map_incr {P : Program} {κ : Type} [DecidableEq κ] {kt t e : TypeId} {enc : κ → Value} {w : World} {b : Nat} {m : List (κ × Value)} {z : Value} (h : MapOf P kt enc w b m) (K : Keyed P kt) (hinj : ∀ x y, enc x = enc y → x = y) (ht : P.underlying t = some (.map kt e)) (hz : ∀ w, (zeroValue e).run P w = .ok z w)
    (k : κ) (hk : ∃ l, keyOf P kt (enc k) = some l) (v v2 : Value) (hv : (mget m k).getD z = v) :
    ∃ w1 n w2, (Instr.mapEntry t (.map (some b)) (enc k)).run P w = .ok (.tuple #[v, .int .i64 n]) w1 ∧ (Instr.lookup t (.map (some b)) (enc k) false).run P w1 = .ok v w1 ∧ (Instr.entryStore t (.map (some b)) (.int .i64 n) v2).run P w1 = .ok () w2 ∧ MapOf P kt enc w2 b (mput m k v2) ∧ w.grownBy w2 (some b) ∧ w2.heap.size = w.heap.size := by
  obtain ⟨w1, n, h1, _, _, ⟨m1, hm1, hg1⟩, h4⟩ := h.entry K hinj ht hz k hk
  obtain ⟨w2, h5, h6, h7, h8⟩ := h4 v2
  have h9 := hm1.lookup K hinj ht (hz w1) k hk false
  rw [hg1, hv] at h9
  exact ⟨w1, n, w2, by rw [h1, hv], h9, h5, h6, h7, h8⟩
def unitsB (l0 : List Rule') : Bool := l0.all (fun r => decide (0 ≤ r.f0 ∧ r.f0 < 20)) && decide (l0.length ≤ 1000000000000)
def unitsP (l0 : List Rule') : List (List Int) := (List.range 20).map fun (s : Nat) => ((List.range 20).map fun (x : Nat) => (x : Int)).filter fun x => decide (0 < (mget (foundL l0) ((s : Int), x)).getD 0)
def gram_Units.f (l0 : List Rule') : Option (List (List Int)) := if unitsB l0 = true then some (unitsP l0) else none
def rowUpto (m : List ((Int × Int) × Int)) (s n : Nat) : List Int := ((List.range n).map fun (x : Nat) => (x : Int)).filter fun x => decide (0 < (mget m ((s : Int), x)).getD 0)
theorem rowUpto_succ (m : List ((Int × Int) × Int)) (s n : Nat) : rowUpto m s (n + 1) = rowUpto m s n ++ if 0 < (mget m ((s : Int), (n : Int))).getD 0 then [(n : Int)] else [] := by
  unfold rowUpto
  rw [List.range_succ, List.map_append, List.filter_append]
  congr 1
  by_cases h : 0 < (mget m ((s : Int), (n : Int))).getD 0 <;> simp [h]
theorem rowUpto_len (m : List ((Int × Int) × Int)) (s n : Nat) : (rowUpto m s n).length ≤ n := by
  unfold rowUpto
  have := List.length_filter_le (fun x => decide (0 < (mget m ((s : Int), x)).getD 0)) ((List.range n).map fun (x : Nat) => (x : Int))
  simpa using this
structure URows (base g : Nat) (row : Nat → List Int) (i : Nat) (W : World) (vals : List Value) (f : Nat → Nat) : Prop where
  len : vals.length = 20
  blk : W.heap[g]? = some (.cells vals.toArray 22 (0, 0))
  ge : base ≤ g
  done : ∀ j, j < i → ∃ v, vals[j]? = some v ∧ Kd.R (Kd.int .i64) 3 W base (fun k => k ≠ g ∧ f k = j) v (row j)
  rest : ∀ j, i ≤ j → j < 20 → vals[j]? = some (.slice none 0 0)
structure UCur (base g N : Nat) (row : Nat → List Int) (i : Nat) (W : World) (vals : List Value) (f : Nat → Nat) (u : Value) (cur : List Int) : Prop where
  len : vals.length = 20
  blk : W.heap[g]? = some (.cells vals.toArray 22 (0, 0))
  ge : base ≤ g
  done : ∀ j, j < i → ∃ v, vals[j]? = some v ∧ Kd.R (Kd.int .i64) 3 W base (fun k => (k ≠ g ∧ f k = j) ∧ k < N) v (row j)
  rest : ∀ j, i < j → j < 20 → vals[j]? = some (.slice none 0 0)
  at_ : vals[i]? = some u
  cur : Kd.R (Kd.int .i64) 3 W base (fun k => k ≠ g ∧ N ≤ k) u cur
  gN : g < N
  size : N ≤ W.heap.size
theorem URows.start {base g : Nat} {row : Nat → List Int} {i : Nat} {W : World} {vals : List Value} {f : Nat → Nat} (h : URows base g row i W vals f) (hi : i < 20) : UCur base g W.heap.size row i W vals f (.slice none 0 0) [] :=
  ⟨h.len, h.blk, h.ge, fun j hj => by obtain ⟨v, h1, h2⟩ := h.done j hj; exact ⟨v, h1, Kd.R_mono (Kd.R_bound h2) (fun k hk => ⟨hk.1, hk.2.2.1⟩)⟩, fun j hj hj2 => h.rest j (by omega) hj2, h.rest i (Nat.le_refl _) hi, Kd.R_nil _ _ _ _ _, blk_lt h.blk, Nat.le_refl _⟩
theorem UCur.below {base g N : Nat} {row : Nat → List Int} {i : Nat} {W W1 : World} {vals : List Value} {f : Nat → Nat} {u : Value} {cur : List Int} (h : UCur base g N row i W vals f u cur) (hb : Below W.heap.size W W1) : UCur base g N row i W1 vals f u cur :=
  ⟨h.len, blk_below h.blk hb, h.ge, fun j hj => by obtain ⟨v, h1, h2⟩ := h.done j hj; exact ⟨v, h1, Kd.R_below h2 hb⟩, h.rest, h.at_, Kd.R_below h.cur hb, h.gN, Nat.le_trans h.size hb.size⟩
theorem UCur.put {base g N : Nat} {row : Nat → List Int} {i : Nat} {W W1 : World} {vals : List Value} {f : Nat → Nat} {u u1 : Value} {cur cur1 : List Int} (h : UCur base g N row i W vals f u cur) (hg : W.grownBy W1 u.ownBlock)
    (hr : Kd.R (Kd.int .i64) 3 W1 base (fun k => k ≠ g ∧ N ≤ k) u1 cur1) : UCur base g N row i (W1.setCell ⟨g, i, none⟩ u1) (vals.set i u1) f u1 cur1 := by
  have hi : i < vals.length := (List.getElem?_eq_some_iff.1 h.at_).1
  have hne : ∀ k, (k ≠ g ∧ N ≤ k) → k ≠ (⟨g, i, none⟩ : Addr).block := fun k hk => hk.1
  have hub : ∀ k, k < N → some k ≠ u.ownBlock := fun k hk e => by have := (h.cur.1 k e.symm).2; omega
  have hb1 : W1.heap[g]? = some (.cells vals.toArray 22 (0, 0)) := blk_grown h.blk hg (hub g h.gN)
  refine ⟨by rw [List.length_set]; exact h.len, ?_, h.ge, fun j hj => ?_, fun j hj hj2 => ?_, by rw [List.getElem?_set_self hi], Kd.R_far hr hne u1, h.gN, Nat.le_trans h.size (by simp [World.setCell]; exact hg.size)⟩
  · refine blk_put hb1 i u1 ?_
    simp
  · obtain ⟨v, h1, h2⟩ := h.done j hj
    refine ⟨v, by rw [List.getElem?_set_ne (by omega)]; exact h1, Kd.R_far (Kd.R_grown h2 hg (fun k hk => hub k hk.2)) (fun k hk => hk.1.1) u1⟩
  · rw [List.getElem?_set_ne (by omega)]
    exact h.rest j hj hj2
theorem UCur.finish {base g N : Nat} {row : Nat → List Int} {i : Nat} {W : World} {vals : List Value} {f : Nat → Nat} {u : Value} (h : UCur base g N row i W vals f u (row i)) : URows base g row (i + 1) W vals (fun k => if k < N then f k else i) := by
  refine ⟨h.len, h.blk, h.ge, fun j hj => ?_, fun j hj hj2 => h.rest j (by omega) hj2⟩
  by_cases e : j = i
  · subst e
    exact ⟨u, h.at_, Kd.R_mono h.cur (fun k hk => ⟨hk.1, by rw [if_neg (by omega)]⟩)⟩
  · obtain ⟨v, h1, h2⟩ := h.done j (by omega)
    exact ⟨v, h1, Kd.R_mono h2 (fun k hk => ⟨hk.1.1, by rw [if_pos hk.2]; exact hk.1.2⟩)⟩
theorem URows.toS {base g : Nat} {row : Nat → List Int} {W : World} {vals : List Value} {f : Nat → Nat} (h : URows base g row 20 W vals f) :
    Kd.S (Kd.slice 3 (Kd.int .i64)) 22 W base (fun _ => True) (.slice (some ⟨g, 0, none⟩) 20 20) ((List.range 20).map row) := by
  refine ⟨f, fun _ _ => trivial, vals, ⟨?_, .inr ⟨g, 20, vals.toArray, rfl, h.ge, h.blk, by simp, by unfold maxLen; omega, by simp [h.len, Kd.tag, Kd.slice], ?_⟩⟩, ?_, fun j p hj => ?_⟩
  · simp [h.len, Kd.tag, Kd.slice]
  · have : vals.take 20 = vals := by rw [← h.len]; exact List.take_length
    simpa [Kd.tag, Kd.slice] using this
  · simp [h.len, Kd.tag, Kd.slice]
  · obtain ⟨x, n⟩ := p
    rw [List.getElem?_zipIdx] at hj
    obtain ⟨y, hy, hp⟩ := Option.map_eq_some_iff.1 hj
    simp only [Nat.zero_add, Prod.mk.injEq] at hp
    obtain ⟨rfl, rfl⟩ := hp
    have hj20 : j < 20 := by have := (List.getElem?_eq_some_iff.1 hy).1; simpa using this
    rw [List.getElem?_map, List.getElem?_range hj20] at hy
    have hy2 : row j = y := by simpa using hy
    obtain ⟨v, h1, h2⟩ := h.done j hj20
    have h3 : (vals.drop (j * 1)).take 1 = [v] := by
      obtain ⟨hl, hv⟩ := List.getElem?_eq_some_iff.1 h1
      rw [Nat.mul_one, List.drop_eq_getElem_cons hl, hv]; rfl
    show ((Kd.tag f (Kd.slice 3 (Kd.int .i64))).M W base _ (y, j) ((vals.drop (j * 1)).take 1))
    rw [h3]
    refine ⟨v, rfl, ?_⟩
    rw [← hy2]
    refine Kd.R_mono h2 (fun k hk => ⟨⟨trivial, ?_⟩, hk.2⟩)
    simp [Value.ownBlock]
    exact hk.1
set_option maxHeartbeats 4000000 in
set_option maxRecDepth 100000 in
theorem units_walk (A0 : Option Addr) (c0 : Nat) (l0 : List Rule') (w : World) (hr0 : Kd.C k26 w A0 l0.length l0) (hc0 : l0.length ≤ c0) (hu : unitsB l0 = true) :
    Calls Try.prog 19 #[.slice A0 l0.length c0] w fun e w' => ∃ v0_ : Value, e = .returned (v0_) ∧ Kd.S (Kd.slice 3 (Kd.int .i64)) 22 w' w.heap.size (fun _ => True) v0_ (unitsP l0) ∧ Below w.heap.size w w' := by
  have hmm := @run_makeMap Try.prog
  have hu2 := hu
  simp only [unitsB, Bool.and_eq_true, List.all_eq_true, decide_eq_true_eq] at hu2
  obtain ⟨hu3, hlen⟩ := hu2
  have HU := Aside0.mk hu3
  have HR := Aside0.mk hr0
  have HC := Aside0.mk hc0
  clear hr0 hc0 hu hu3
  go_enter Try.func19, Try.ntmps19
  go_wp2
  go_loopg [12] l0.length (fun gg s12 wr => ∃ kk : Nat, kk ≤ l0.length ∧ l0.length - kk ≤ gg ∧ s12 = .int .i64 kk ∧ Aside0 (MapOf Try.prog 56 encP wr w.heap.size (encM (foundL (l0.take kk)))) ∧ Aside0 (Below w.heap.size w wr) ∧ Aside0 (w.heap.size < wr.heap.size))
  case atStart => exact ⟨0, Nat.zero_le _, by omega, rfl, ⟨MapOf.made _ _ _ _⟩, ⟨below_alloc (Below.refl _ _) _⟩, ⟨by simp⟩⟩
  case round =>
    obtain ⟨kk, hkk, hg, rfl, HM, HB, HS⟩ := hrel
    by_cases hlt : kk < l0.length
    · have hltz : (kk : Int) < (l0.length : Int) := by omega
      obtain ⟨ad, A1, c1, A3, c3, hA, h0, h1, h2, h3, h4, l1, g1, l3, g3⟩ := at_T26 (Kd.C_below HR.out HB.out) kk (by omega) hltz
      have hx : rd_T26 l0 kk = l0[kk] := by simp [rd_T26, List.getD_eq_getElem?_getD, List.getElem?_eq_getElem hlt]
      have hlhs := HU.out l0[kk] (List.getElem_mem hlt)
      rw [← hx] at hlhs
      have hsn := found_snoc l0 kk hlt
      rw [← hx] at hsn
      generalize rd_T26 l0 kk = y at *
      rw [Int.toNat_natCast] at h0 h1 h2 h3 h4
      subst hA
      clear hx l3 g3
      have HSN := Aside0.mk hsn
      clear hsn
      by_cases hone : y.f1.length = 1
      · obtain ⟨ad1, hA1, hcell⟩ := Kd.at_int g1 0 (by omega) (by omega)
        have hcell' : wr.cell? ad1 = some (.int .i64 (rd y.f1 0)) := hcell
        subst hA1
        have hlx : wr.heap.size > ad1.block := World.block_lt_of_cell? wr _ hcell'
        have hcell2 : (wr.alloc (.cells #[.int .i64 y.f0, .slice (some ad1) 1 c1, .int .i64 y.f2.f0, .slice A3 y.f2.f1.length c3, .int .i64 y.f3] 26)).cell? ad1 = some (.int .i64 (rd y.f1 0)) := (World.cell?_alloc_lt _ _ _ hlx).trans hcell'
        rw [hone] at h1
        generalize hrd : rd y.f1 0 = x at *
        have HRD := Aside0.mk hrd
        clear hrd
        have hsym := Aside0.mk (symbol_some x)
        clear hcell g1 hcell' hlx
        have HM1 := Aside0.mk (HM.out.alloc (.cells #[.int .i64 y.f0, .slice (some ad1) 1 c1, .int .i64 y.f2.f0, .slice A3 y.f2.f1.length c3, .int .i64 y.f3] 26))
        have HB1 := Aside0.mk (below_alloc HB.out (.cells #[.int .i64 y.f0, .slice (some ad1) 1 c1, .int .i64 y.f2.f0, .slice A3 y.f2.f1.length c3, .int .i64 y.f3] 26))
        have HBK := Aside0.mk (blk_new wr (.cells #[.int .i64 y.f0, .slice (some ad1) 1 c1, .int .i64 y.f2.f0, .slice A3 y.f2.f1.length c3, .int .i64 y.f3] 26))
        have HS1 : Aside0 (w.heap.size < (wr.alloc (.cells #[.int .i64 y.f0, .slice (some ad1) 1 c1, .int .i64 y.f2.f0, .slice A3 y.f2.f1.length c3, .int .i64 y.f3] 26)).heap.size) := ⟨Nat.lt_of_lt_of_le HS.out (by simp)⟩
        cases hsx : symbolB x with
        | true =>
          rw [hsx] at hsym
          go_wp2_with fail
          refine (gram_symbol.calls _ _ _ hsym.out).mono ?_
          rintro e w' ⟨rfl, ⟨nd, rfl⟩⟩
          clear HM HB HS h0 h1 h2 h3 h4
          generalize hW : (wr.alloc (.cells #[.int .i64 y.f0, .slice (some ad1) 1 c1, .int .i64 y.f2.f0, .slice A3 y.f2.f1.length c3, .int .i64 y.f3] 26)).drewN nd = W1
          have HM2 : Aside0 (MapOf Try.prog 56 encP W1 w.heap.size (encM (foundL (l0.take kk)))) := ⟨by rw [← hW]; exact HM1.out⟩
          have HB2 : Aside0 (Below w.heap.size w W1) := ⟨by rw [← hW]; exact pw_below_drewN HB1.out _⟩
          have HBK2 : Aside0 (W1.heap[wr.heap.size]? = some (.cells #[.int .i64 y.f0, .slice (some ad1) 1 c1, .int .i64 y.f2.f0, .slice A3 y.f2.f1.length c3, .int .i64 y.f3] 26 (0, 0))) := ⟨by rw [← hW]; exact blk_drewN HBK.out _⟩
          have HS2 : Aside0 (w.heap.size < W1.heap.size) := ⟨by rw [← hW]; exact HS1.out⟩
          have k2 : W1.cell? ad1 = some (.int .i64 x) := by rw [← hW]; exact hcell2
          clear hcell2 HM1 HB1 HBK HS1 hW
          have d0 := blk_cell HBK2.out 0
          have d1 := blk_cell HBK2.out 1
          simp only [List.getElem?_toArray, List.getElem?_cons_succ, List.getElem?_cons_zero] at d0 d1
          have hsb : 0 ≤ x ∧ x < 20 := by simpa [symbolB] using hsx
          obtain ⟨hx0, hx1⟩ := hsb
          obtain ⟨hy0, hy1⟩ := hlhs
          have hkey := keyOfP (a := y.f0) (b := x) ⟨hy0, hy1⟩ ⟨hx0, hx1⟩
          have hb := found_bound (l0.take kk) (y.f0, x)
          obtain ⟨hb0, hb1⟩ := hb
          have hb2 : (l0.take kk).length ≤ kk := List.length_take_le _ _
          have hgv := getD_encM (foundL (l0.take kk)) (y.f0, x)
          have hmp := mput_map (Value.int .i64) (y.f0, x) ((mget (foundL (l0.take kk)) (y.f0, x)).getD 0 + 1) (foundL (l0.take kk))
          have hstep : foundStep (foundL (l0.take kk)) y = mput (foundL (l0.take kk)) (y.f0, x) ((mget (foundL (l0.take kk)) (y.f0, x)).getD 0 + 1) := by
            unfold foundStep
            rw [if_pos ⟨hone, by rw [HRD.out]; exact ⟨hx0, hx1⟩⟩, HRD.out]
          generalize (mget (foundL (l0.take kk)) (y.f0, x)).getD 0 = v at *
          have hv1 : v ≤ 1000000000000 := by omega
          have hlk := (HM2.out.drew).lookup pairKeyed encP_inj Try.underlying55 (zero_int W1.drew) (y.f0, x) hkey false
          rw [hgv] at hlk
          have hlk2 : (Instr.lookup 55 (.map (some w.heap.size)) (.agg #[.int .i64 y.f0, .int .i64 x]) false).run Try.prog W1.drew = .ok (.int .i64 v) W1.drew := hlk
          obtain ⟨w3, n3, w4, hE1, hL3, hE2, hm4, hg4, hz4⟩ := map_incr (HM2.out.drew) pairKeyed encP_inj Try.underlying55 zero_int (y.f0, x) hkey (.int .i64 v) (.int .i64 (v + 1)) hgv
          have hE3 : (Instr.mapEntry 55 (.map (some w.heap.size)) (.agg #[.int .i64 y.f0, .int .i64 x])).run Try.prog W1.drew = .ok (.tuple #[.int .i64 v, .int .i64 n3]) w3 := hE1
          rw [hmp, ← hstep] at hm4
          have hL4 : (Instr.lookup 55 (.map (some w.heap.size)) (.agg #[.int .i64 y.f0, .int .i64 x]) false).run Try.prog w3 = .ok (.int .i64 v) w3 := hL3
          have hwr : IntKind.i64.wrap (v + 1) = v + 1 := IntWalk.i64_in _ (by omega)
          have HM4 := Aside0.mk hm4
          have HG4 := Aside0.mk hg4
          have HZ4 := Aside0.mk hz4
          clear hlk hE1 hL3 hm4 hg4 hz4 hmp hstep hgv hb2
          go_wp2_with fail
          go_region
          all_goals
            go_wp2
            go_roundg (l0.length - (kk + 1))
            case measure => omega
            case rel =>
              exact ⟨kk + 1, by omega, by omega, by go_num, ⟨by rw [HSN.out]; exact HM4.out⟩, ⟨(HB2.out.drew).grown HG4.out HB2.out.size (fun j e => by cases e; exact Nat.le_refl _)⟩, ⟨by rw [HZ4.out]; exact HS2.out⟩⟩
        | false =>
          rw [hsx] at hsym
          go_wp2_with fail
          refine (gram_symbol.calls _ _ _ hsym.out).mono ?_
          rintro e w' ⟨rfl, ⟨nd, rfl⟩⟩
          go_wp2
          go_roundg (l0.length - (kk + 1))
          case measure => omega
          case rel =>
            refine ⟨kk + 1, by omega, by omega, by go_num, ⟨?_⟩, ⟨pw_below_drewN HB1.out _⟩, ⟨HS1.out⟩⟩
            have hst : foundStep (foundL (l0.take kk)) y = foundL (l0.take kk) := by
              unfold foundStep
              rw [if_neg (fun h => by rw [HRD.out] at h; simp [symbolB, h.2.1] at hsx; omega)]
            rw [HSN.out, hst]
            exact HM1.out.drewN _
      · have ht : ((y.f1.length : Int) == 1) = false := beq_eq_false_iff_ne.2 (by omega)
        have hst : foundStep (foundL (l0.take kk)) y = foundL (l0.take kk) := by
          unfold foundStep
          rw [if_neg (fun h => hone h.1)]
        have HST := Aside0.mk hst
        clear hst
        go_wp2
        go_roundg (l0.length - (kk + 1))
        case measure => omega
        case rel => exact ⟨kk + 1, by omega, by omega, by go_num, ⟨by rw [HSN.out, HST.out]; exact HM.out.alloc _⟩, ⟨below_alloc HB.out _⟩, ⟨Nat.lt_of_lt_of_le HS.out (by simp)⟩⟩
    · have hltz : ¬ (kk : Int) < (l0.length : Int) := by omega
      have hkl : kk = l0.length := by omega
      subst hkl
      have HM0 : Aside0 (MapOf Try.prog 56 encP wr w.heap.size (encM (foundL l0))) := ⟨by have := HM.out; rwa [List.take_length] at this⟩
      clear HM
      have HFB := Aside0.mk (found_bound l0)
      have HUP := Aside0.mk (show (List.range 20).map (fun j => rowUpto (foundL l0) j 20) = unitsP l0 from rfl)
      generalize foundL l0 = m at *
      have hmk : ∀ w, (Instr.makeSlice 37 (.int .i64 20) (.int .i64 20)).run Try.prog w = .ok (.slice (some ⟨w.heap.size, 0, none⟩) 20 20) (w.alloc (.cells (List.replicate 20 (Value.slice none 0 0)).toArray 22)) := fun _ => by kernel_rfl
      have HU0 : Aside0 (∃ vals f, URows w.heap.size wr.heap.size (fun j => rowUpto m j 20) 0 (wr.alloc (.cells (List.replicate 20 (Value.slice none 0 0)).toArray 22)) vals f) :=
        ⟨List.replicate 20 (.slice none 0 0), fun _ => 0, ⟨by simp, blk_new _ _, Nat.le_of_lt HS.out, fun j hj => absurd hj (Nat.not_lt_zero _), fun j _ hj => by rw [List.getElem?_replicate, if_pos hj]⟩⟩
      have HM1 := Aside0.mk (HM0.out.alloc (.cells (List.replicate 20 (Value.slice none 0 0)).toArray 22))
      have HB1 := Aside0.mk (below_alloc HB.out (.cells (List.replicate 20 (Value.slice none 0 0)).toArray 22))
      clear HM0 HB HS
      go_wp2
      generalize wr.heap.size = g at *
      go_loopg [43] 20 (fun gg s43 W => ∃ i : Nat, i ≤ 20 ∧ 20 - i ≤ gg ∧ s43 = .int .i64 i ∧ Aside0 (∃ vals f, URows w.heap.size g (fun j => rowUpto m j 20) i W vals f) ∧ Aside0 (MapOf Try.prog 56 encP W w.heap.size (encM m)) ∧ Aside0 (Below w.heap.size w W))
      case atStart => exact ⟨0, by omega, by omega, rfl, HU0, HM1, HB1⟩
      case round =>
        clear HU0 HM1 HB1
        obtain ⟨i, hi, hgi, rfl, HU1, HM1, HB1⟩ := hrel
        by_cases hi20 : i < 20
        · have hi20z : (i : Int) < 20 := by omega
          obtain ⟨vals, f, hU1⟩ := HU1.out
          have HC1 := Aside0.mk (hU1.start hi20)
          clear HU1 hU1
          generalize wr.heap.size = N at HC1
          go_wp2
          go_loopg [46] 20 (fun gg2 s46 W2 => ∃ x : Nat, x ≤ 20 ∧ 20 - x ≤ gg2 ∧ s46 = .int .i64 x ∧ Aside0 (∃ vals f u, UCur w.heap.size g N (fun j => rowUpto m j 20) i W2 vals f u (rowUpto m i x)) ∧ Aside0 (MapOf Try.prog 56 encP W2 w.heap.size (encM m)) ∧ Aside0 (Below w.heap.size w W2))
          case atStart => exact ⟨0, by omega, by omega, rfl, ⟨_, _, _, HC1.out⟩, HM1, HB1⟩
          case round =>
            clear HC1 HM1 HB1
            obtain ⟨x, hx, hgx, rfl, HC2, HM2, HB2⟩ := hrel
            obtain ⟨vals, f, u, hC2⟩ := HC2.out
            have HC3 := Aside0.mk hC2
            clear HC2 hC2
            have hc : wr.cell? ⟨g, i, none⟩ = some u := (blk_cell HC3.out.blk i).trans (by rw [List.getElem?_toArray]; exact HC3.out.at_)
            have hfz := blk_frozen HC3.out.blk i
            have hsu := rowUpto_succ m i x
            have hrl := rowUpto_len m i x
            obtain ⟨A4, c4, rfl⟩ := Kd.R_slice HC3.out.cur
            by_cases hx20 : x < 20
            · have hx20z : (x : Int) < 20 := by omega
              have hkey := keyOfP (a := (i : Int)) (b := (x : Int)) ⟨by omega, by omega⟩ ⟨by omega, by omega⟩
              have hgv := getD_encM m ((i : Int), (x : Int))
              generalize (mget m ((i : Int), (x : Int))).getD 0 = v at hgv hsu
              have HGV := Aside0.mk hgv
              have HSU := Aside0.mk hsu
              clear hgv hsu
              by_cases hv : 0 < v
              · have hub : ∀ k, k < N → some k ≠ (Value.slice A4 (rowUpto m i x).length c4).ownBlock := fun k hk e => by have := (HC3.out.cur.1 k e.symm).2; omega
                have hgn := HC3.out.gN
                have hil : i < vals.toArray.size := by have := HC3.out.len; simp; omega
                go_wp2_with (first
                  | (at_lookup; refine wpList_lookup_map rfl (.tmp 49) (.tmp 52) 55 3 rfl pairKeyed encP_inj Try.underlying55 zero_int rfl HM2.out ((i : Int), (x : Int)) rfl hkey (.int .i64 v) HGV.out ?_)
                  | (at_builtin; refine Kd.R_append (Kd.int .i64) (w0 := w) w.heap.size rfl (.tmp 60) (.tmp 62) 22 3 (.int .i64 0) 8 rfl Try.underlying22 info3 rfl (by decide) (by omega) (.slice A4 (rowUpto m i x).length c4) (rowUpto m i x) (x : Int) [.int .i64 x] (fun k => k ≠ g ∧ N ≤ k) (fun _ => False) rfl rfl rfl (fun _ hk => hk.elim) (fun k hk => ⟨fun e => by have := HC3.out.gN; have := HC3.out.size; omega, Nat.le_trans HC3.out.size hk⟩) HC3.out.cur HB2.out HB2.out.size (by omega) ?_; intro v1 w1 ho hb hgr hat; have ho' : Kd.R (Kd.int .i64) 3 w1 w.heap.size (fun k => k ≠ g ∧ N ≤ k) v1 (rowUpto m i x ++ [(x : Int)]) := ho; have HR1 := Aside0.mk ho'; have HB3 := Aside0.mk hb; have HG1 := Aside0.mk hgr; obtain ⟨A5, c5, rfl⟩ := Kd.R_slice ho'; clear ho ho' hb hgr hat)
                  | (refine gate_ (.store 22 (.tmp 64) (.tmp 63)) rfl ?_; have hblk1 := Aside0.mk (blk_grown HC3.out.blk HG1.out (hub g hgn)); go_loud (refine store_block rfl rfl 22 (.tmp 64) (.tmp 63) rfl (.slice A5 ((rowUpto m i x).length + 1) c5) rfl rfl rfl rfl rfl hblk1.out hil ?_); intro w2 hw2)
                  | fail)
                go_roundg (20 - (x + 1))
                case measure => omega
                case rel =>
                  have e5 : (Value.slice A5 ((rowUpto m i x).length + 1) c5) = .slice A5 (rowUpto m i x ++ [(x : Int)]).length c5 := by rw [List.length_append]; rfl
                  rw [e5] at hw2
                  subst hw2
                  refine ⟨x + 1, by omega, by omega, by go_num, ⟨vals.set i (.slice A5 (rowUpto m i x ++ [(x : Int)]).length c5), f, .slice A5 (rowUpto m i x ++ [(x : Int)]).length c5, ?_⟩, ⟨?_⟩, ⟨?_⟩⟩
                  · rw [HSU.out, if_pos hv]
                    have h9 := HC3.out.put HG1.out HR1.out
                    rw [← e5] at h9 ⊢
                    exact h9
                  · have hbN : w.heap.size < N := Nat.lt_of_le_of_lt HC3.out.ge HC3.out.gN
                    refine (HM2.out.grown HG1.out (hub _ hbN)).setCell _ (fun e => ?_) _
                    exact HM2.out.not_cells HC3.out.blk e
                  · exact HB3.out.setCell HC3.out.ge _
              · have hgt : ¬ (v > 0) := by omega
                go_wp2_with (first
                  | (at_lookup; refine wpList_lookup_map rfl (.tmp 49) (.tmp 52) 55 3 rfl pairKeyed encP_inj Try.underlying55 zero_int rfl HM2.out ((i : Int), (x : Int)) rfl hkey (.int .i64 v) HGV.out ?_)
                  | fail)
                go_roundg (20 - (x + 1))
                case measure => omega
                case rel =>
                  refine ⟨x + 1, by omega, by omega, by go_num, ⟨vals, f, .slice A4 (rowUpto m i x).length c4, ?_⟩, HM2, HB2⟩
                  rw [HSU.out, if_neg (by omega), List.append_nil]
                  exact HC3.out
            · have hx20z : ¬ (x : Int) < 20 := by omega
              have hxe : x = 20 := by omega
              subst hxe
              obtain ⟨A6, c6, e6, hle6, hC6⟩ := Kd.R_reads HC3.out.cur
              injection e6 with e7 e8 e9
              subst e7 e9
              have HC6 := Aside0.mk hC6
              have HL6 := Aside0.mk hle6
              clear hC6 hle6 e8
              have hil : i < vals.toArray.size := by have := HC3.out.len; simp; omega
              go_wp2_with fail
              refine (slices_Clone_int_int.calls _ _ (rowUpto m i 20) (rowUpto m i 20) _ HC6.out HL6.out (if_pos (by omega))).mono ?_
              rintro e w1 ⟨v1, rfl, hR1, hb1⟩
              have HR1 := Aside0.mk (Kd.R_lower (Kd.R_mono (Kd.R_bound hR1) (ok' := fun k => k ≠ g ∧ N ≤ k) (fun k hk => ⟨fun e => by have := HC3.out.gN; have := HC3.out.size; omega, Nat.le_trans HC3.out.size hk.2.1⟩)) HB2.out.size)
              have HM1 := Aside0.mk (HM2.out.below hb1)
              have HB1 := Aside0.mk (below_step HB2.out hb1)
              have HC1 := Aside0.mk (HC3.out.below hb1)
              have hblk1 := Aside0.mk HC1.out.blk
              obtain ⟨A7, c7, rfl⟩ := Kd.R_slice hR1
              clear hR1 hb1 hc hfz HC3 HM2 HB2 HC6 HL6
              generalize hrn : (rowUpto m i 20).length = n7 at *
              go_wp2_with (first
                  | (refine gate_ (.store 22 (.tmp 73) (.tmp 72)) rfl ?_; refine store_block rfl rfl 22 (.tmp 73) (.tmp 72) rfl (.slice A7 n7 c7) rfl rfl rfl rfl rfl hblk1.out hil ?_; intro w2 hw2)
                  | fail)
              go_roundg (20 - (i + 1))
              case measure => omega
              case rel =>
                subst hw2
                refine ⟨i + 1, by omega, by omega, by go_num, ⟨vals.set i (.slice A7 n7 c7), _, (HC1.out.put (World.grownBy.refl _ _) HR1.out).finish⟩, ⟨HM1.out.setCell _ (HM1.out.not_cells hblk1.out) _⟩, ⟨HB1.out.setCell HC1.out.ge _⟩⟩
        · have hi20z : ¬ (i : Int) < 20 := by omega
          have hie : i = 20 := by omega
          subst hie
          obtain ⟨vals, f, hU1⟩ := HU1.out
          have HV := Aside0.mk hU1.toS
          clear hU1 HU1
          go_wp2
          go_ret
          have h9 := HV.out
          rw [HUP.out] at h9
          exact ⟨_, rfl, h9, HB1.out⟩
theorem gram_Units.calls (A0 : Option Addr) (c0 : Nat) (l0 : List Rule') (r : List (List Int)) (w : World) (hr0 : Kd.C k26 w A0 l0.length l0) (hc0 : l0.length ≤ c0) (h : gram_Units.f l0 = some r) :
    Calls Try.prog 19 #[.slice A0 l0.length c0] w fun e w' => ∃ v0_ : Value, e = .returned (v0_) ∧ Kd.S (Kd.slice 3 (Kd.int .i64)) 22 w' w.heap.size (fun _ => True) v0_ r ∧ Below w.heap.size w w' := by
  unfold gram_Units.f at h
  split at h
  case isFalse => cases h
  case isTrue hu =>
  obtain rfl := Option.some.inj h
  exact units_walk A0 c0 l0 w hr0 hc0 hu
end Go.Proofs.Ytjomlfdkmdgclaa.P
end
section
namespace Go.Proofs.Ytjomlfdkmdgclaa.P
open Go.RowKit Go.Proofs.YtjomlfdkmdgclaaW.PrintWords Go.Proofs.YtjomlfdkmdgclaaW.PrintLast Go.Proofs.YtjomlfdkmdgclaaW.PrintMore
attribute [local go_sem] max2_int min2_int max_two min_two max_three min_three max_four min_four   
set_option linter.unusedVariables false
set_option linter.unusedSimpArgs false
inductive Reach (next : Int → List Int) (l0 : List Int) : Int → Prop
  | base {x : Int} : x ∈ l0 → Reach next l0 x
  | step {x y : Int} : Reach next l0 x → y ∈ next x → Reach next l0 y
def inSym (x : Int) : Prop := 0 ≤ x ∧ x < 20
theorem Reach.sym {next : Int → List Int} {l0 : List Int} (hd : ∀ x, inSym x → ∀ y ∈ next x, inSym y) (hl : ∀ x ∈ l0, inSym x) {x : Int} (h : Reach next l0 x) : inSym x := by
  induction h with
  | base h => exact hl _ h
  | step _ h ih => exact hd _ ih _ h
def symbols : List Int := (List.range 20).map fun (x : Nat) => (x : Int)
theorem mem_symbols (x : Int) : x ∈ symbols ↔ inSym x := by
  unfold symbols inSym
  rw [List.mem_map]
  constructor
  · rintro ⟨n, hn, rfl⟩
    rw [List.mem_range] at hn
    omega
  · rintro ⟨h0, h1⟩
    exact ⟨x.toNat, by rw [List.mem_range]; omega, by omega⟩
theorem symbols_sorted : symbols.Pairwise (· < ·) := by decide
theorem symbols_nodup : symbols.Nodup := by decide
open Classical in
noncomputable def reachL (next : Int → List Int) (l0 : List Int) : List Int := symbols.filter fun y => decide (Reach next l0 y)
theorem mem_reachL {next : Int → List Int} {l0 : List Int} (hd : ∀ x, inSym x → ∀ y ∈ next x, inSym y) (hl : ∀ x ∈ l0, inSym x) (y : Int) : y ∈ reachL next l0 ↔ Reach next l0 y := by
  unfold reachL
  rw [List.mem_filter, mem_symbols]
  simp only [decide_eq_true_eq]
  exact ⟨fun h => h.2, fun h => ⟨h.sym hd hl, h⟩⟩
theorem length_of_sub {l : List Int} (hn : l.Nodup) (hs : ∀ x ∈ l, inSym x) : l.length ≤ 20 := by
  have hp : l.Perm (symbols.filter fun x => decide (x ∈ l)) := (List.perm_ext_iff_of_nodup hn (symbols_nodup.filter _)).2 fun x => by
    rw [List.mem_filter, mem_symbols]
    simp only [decide_eq_true_eq]
    exact ⟨fun h => ⟨hs x h, h⟩, fun h => h.2⟩
  rw [hp.length_eq]
  exact List.length_filter_le _ symbols
theorem from_some_aux (next : Int → List Int) (B : Nat) (hB : B ≤ 1000000) (hlen : ∀ x, inSym x → (next x).length ≤ B) (hd : ∀ x, inSym x → ∀ y ∈ next x, inSym y) (l0 : List Int) (hl : ∀ x ∈ l0, inSym x) :
    ∀ (M : Nat) (m : List (Int × Int)) (q : List Int) (V : Nat), (∀ x ∈ q, Reach next l0 x) → (∀ x ∈ m.map (·.1), Reach next l0 x) → (m.map (·.1)).Nodup →
      (∀ x, 0 ≤ (mget m x).getD 0 ∧ (mget m x).getD 0 ≤ V) → (∀ x ∈ m.map (·.1), 1 ≤ (mget m x).getD 0) → (∀ x ∈ m.map (·.1), ∀ y ∈ next x, y ∈ q ∨ y ∈ m.map (·.1)) → (∀ x ∈ l0, x ∈ q ∨ x ∈ m.map (·.1)) →
      q.length + B * (20 - m.length) ≤ M → M + V ≤ 100000000 →
      ∃ k r, fromF next k m q = some r ∧ (∀ y, y ∈ r.map (·.1) ↔ Reach next l0 y) ∧ (r.map (·.1)).Nodup := by
  intro M
  induction M with
  | zero =>
    intro m q V hq hm hn hv hp hc h0 hM hV
    have hqe : q = [] := List.length_eq_zero_iff.1 (by omega)
    subst hqe
    have hml : m.length ≤ 20 := by have := length_of_sub hn (fun x hx => (hm x hx).sym hd hl); simpa using this
    refine ⟨1, m, by simp only [fromF]; rw [if_pos (by omega)], fun y => ⟨hm y, fun h => ?_⟩, hn⟩
    induction h with
    | base h => exact (h0 _ h).elim (fun h => by cases h) id
    | step _ h ih => exact (hc _ ih _ h).elim (fun h => by cases h) id
  | succ M ihM =>
    intro m q V hq hm hn hv hp hc h0 hM hV
    have hml : m.length ≤ 20 := by have := length_of_sub hn (fun x hx => (hm x hx).sym hd hl); simpa using this
    cases q with
    | nil =>
      refine ⟨1, m, by simp only [fromF]; rw [if_pos (by omega)], fun y => ⟨hm y, fun h => ?_⟩, hn⟩
      induction h with
      | base h => exact (h0 _ h).elim (fun h => by cases h) id
      | step _ h ih => exact (hc _ ih _ h).elim (fun h => by cases h) id
    | cons x q =>
      have hrx := hq x List.mem_cons_self
      have hsx := hrx.sym hd hl
      have hlx := hlen x hsx
      have hvx := hv x
      have hguard : (x :: q).length ≤ 1000000000 ∧ (next x).length ≤ 1000000000 ∧ 0 ≤ (mget m x).getD 0 ∧ (mget m x).getD 0 ≤ 1000000000000 := ⟨by omega, by omega, hvx.1, by omega⟩
      have hv2 : ∀ y, 0 ≤ (mget (mput m x ((mget m x).getD 0 + 1)) y).getD 0 ∧ (mget (mput m x ((mget m x).getD 0 + 1)) y).getD 0 ≤ ((V + 1 : Nat) : Int) := by
        intro y
        by_cases e : y = x
        · subst e
          rw [mget_mput_same]
          simp only [Option.getD_some]
          omega
        · rw [mget_mput_other _ _ _ e]
          have := hv y
          omega
      have hkeys := mput_keys x ((mget m x).getD 0 + 1) m
      have hp2 : ∀ y ∈ (mput m x ((mget m x).getD 0 + 1)).map (·.1), 1 ≤ (mget (mput m x ((mget m x).getD 0 + 1)) y).getD 0 := by
        intro y hy
        by_cases e : y = x
        · subst e
          rw [mget_mput_same]
          simp only [Option.getD_some]
          omega
        · rw [mget_mput_other _ _ _ e]
          refine hp y ?_
          rw [hkeys] at hy
          split at hy
          · exact hy
          · exact (List.mem_append.1 hy).elim id (fun h => absurd (List.mem_singleton.1 h) e)
      by_cases h0v : (mget m x).getD 0 = 0
      · have hxm : x ∉ m.map (·.1) := fun h => by have := hp x h; omega
        rw [if_neg hxm] at hkeys
        have hmlen : (mput m x ((mget m x).getD 0 + 1)).length = m.length + 1 := by
          have := congrArg List.length hkeys
          simpa using this
        have hn2 : ((mput m x ((mget m x).getD 0 + 1)).map (·.1)).Nodup := by
          rw [hkeys, List.nodup_append]
          refine ⟨hn, by simp, fun a ha b hb => ?_⟩
          rw [List.mem_singleton] at hb
          subst hb
          intro e
          subst e
          exact hxm ha
        have hm2 : ∀ y ∈ (mput m x ((mget m x).getD 0 + 1)).map (·.1), Reach next l0 y := by
          intro y hy
          rw [hkeys] at hy
          exact (List.mem_append.1 hy).elim (hm y) (fun h => by rw [List.mem_singleton.1 h]; exact hrx)
        have hml2 : m.length + 1 ≤ 20 := by
          have := length_of_sub hn2 (fun x hx => (hm2 x hx).sym hd hl)
          rw [List.length_map, hmlen] at this
          exact this
        obtain ⟨k, r, hk, hr⟩ := ihM (mput m x ((mget m x).getD 0 + 1)) (q ++ next x) (V + 1)
          (fun y hy => (List.mem_append.1 hy).elim (fun h => hq y (List.mem_cons_of_mem _ h)) (fun h => .step hrx h)) hm2 hn2 hv2 hp2
          (fun z hz y hy => by
            rw [hkeys] at hz ⊢
            rcases List.mem_append.1 hz with h | h
            · rcases hc z h y hy with h | h
              · rcases List.mem_cons.1 h with h | h
                · subst h; exact .inr (by simp)
                · exact .inl (List.mem_append_left _ h)
              · exact .inr (List.mem_append_left _ h)
            · rw [List.mem_singleton.1 h] at hy
              exact .inl (List.mem_append_right _ hy))
          (fun z hz => by
            rw [hkeys]
            rcases h0 z hz with h | h
            · rcases List.mem_cons.1 h with h | h
              · subst h; exact .inr (by simp)
              · exact .inl (List.mem_append_left _ h)
            · exact .inr (List.mem_append_left _ h))
          (by
            rw [hmlen, List.length_append]
            have e1 : 20 - m.length = (20 - (m.length + 1)) + 1 := by omega
            rw [e1, Nat.mul_add, Nat.mul_one, List.length_cons] at hM
            omega) (by omega)
        exact ⟨k + 1, r, by simp only [fromF]; rw [if_pos hguard, if_pos h0v]; exact hk, hr⟩
      · have hxm : x ∈ m.map (·.1) := by
          rw [← mget_isSome]
          cases h : mget m x with
          | none => rw [h] at h0v; simp at h0v
          | some v => rfl
        rw [if_pos hxm] at hkeys
        have hmlen : (mput m x ((mget m x).getD 0 + 1)).length = m.length := by
          have := congrArg List.length hkeys
          simpa using this
        obtain ⟨k, r, hk, hr⟩ := ihM (mput m x ((mget m x).getD 0 + 1)) q (V + 1) (fun y hy => hq y (List.mem_cons_of_mem _ hy)) (by rw [hkeys]; exact hm) (by rw [hkeys]; exact hn) hv2 hp2
          (fun z hz y hy => by
            rw [hkeys] at hz ⊢
            rcases hc z hz y hy with h | h
            · rcases List.mem_cons.1 h with h | h
              · subst h; exact .inr hxm
              · exact .inl h
            · exact .inr h)
          (fun z hz => by
            rw [hkeys]
            rcases h0 z hz with h | h
            · rcases List.mem_cons.1 h with h | h
              · subst h; exact .inr hxm
              · exact .inl h
            · exact .inr h)
          (by rw [hmlen]; rw [List.length_cons] at hM; omega) (by omega)
        exact ⟨k + 1, r, by simp only [fromF]; rw [if_pos hguard, if_neg h0v]; exact hk, hr⟩
theorem from_reach (next : Int → List Int) (hlen : ∀ x, inSym x → (next x).length ≤ 1000000) (hd : ∀ x, inSym x → ∀ y ∈ next x, inSym y) (l0 : List Int) (hl : ∀ x ∈ l0, inSym x) (hl0 : l0.length ≤ 1000000) :
    ∃ k r, fromF next k [] l0 = some r ∧ sortI (r.map (·.1)) = reachL next l0 := by
  obtain ⟨k, r, hk, hm, hn⟩ := from_some_aux next 1000000 (Nat.le_refl _) hlen hd l0 hl (l0.length + 1000000 * 20) [] l0 0 (fun x hx => .base hx) (by simp) (by simp) (fun x => by simp [mget]) (by simp) (by simp) (fun x hx => .inl hx) (by simp) (by omega)
  refine ⟨k, r, hk, ?_⟩
  have hp : (r.map (·.1)).Perm (reachL next l0) := (List.perm_ext_iff_of_nodup hn (symbols_nodup.filter _)).2 fun y => (hm y).trans (mem_reachL hd hl y).symm
  have h2 : sortI (reachL next l0) = reachL next l0 := by
    unfold sortI
    refine List.mergeSort_of_pairwise ?_
    refine (symbols_sorted.filter _).imp ?_
    intro a b h
    simp [leI]
    omega
  rw [← h2]
  exact mergeSort_of_perm_i hp
end Go.Proofs.Ytjomlfdkmdgclaa.P
end
section
namespace Go.Proofs.Ytjomlfdkmdgclaa.P
open Go.RowKit Go.Proofs.YtjomlfdkmdgclaaW.PrintWords Go.Proofs.YtjomlfdkmdgclaaW.PrintLast Go.Proofs.YtjomlfdkmdgclaaW.PrintMore
attribute [local go_sem] max2_int min2_int max_two min_two max_three min_three max_four min_four   
set_option linter.unusedVariables false
set_option linter.unusedSimpArgs false
theorem indexFunc_rule (fv : Value) (A0 : Option Addr) (c0 : Nat) (l0 : List S26) (p : S26 → Bool) (w : World) (hr0 : Kd.C k26 w A0 l0.length l0) (hc0 : l0.length ≤ c0)
   (hf : FnTells Try.prog w (AggRel k26) fv p) :
   Calls Try.prog 44 #[.slice A0 l0.length c0, fv] w fun e w' => e = .returned (.int .i64 (idxOf p l0)) ∧ Below w.heap.size w w' := by
  obtain ⟨g, pre, lb, rfl, eg, hq⟩ := hf
  have hl : l0.length ≤ 9223372036854775807 := hr0.2.1
  have HR := Aside0.mk hr0
  clear hr0
  have HQ := Aside0.mk hq
  clear hq
  go_enter Try.func44, Try.ntmps44
  go_wp2
  go_loopg [8] l0.length (fun gg s8 wr => ∃ kk : Nat, kk ≤ l0.length ∧ l0.length - kk ≤ gg ∧ s8 = .int .i64 kk ∧ Aside0 (Below w.heap.size w wr) ∧ Aside0 (∀ j, j < kk → ∀ h : j < l0.length, p l0[j] = false))
  case atStart => exact ⟨0, Nat.zero_le _, by omega, rfl, ⟨Below.refl _ w⟩, ⟨fun j hj => absurd hj (Nat.not_lt_zero _)⟩⟩
  case round =>
    obtain ⟨kk, hkk, hg, rfl, BW, A⟩ := hrel
    by_cases hlt : kk < l0.length
    · have hltz : (kk : Int) < (l0.length : Int) := by omega
      obtain ⟨ad, A1, c1, A3, c3, hA, h0, h1, h2, h3, h4, l1, g1, l3, g3⟩ := at_T26 (Kd.C_below HR.out BW.out) kk (by omega) hltz
      have hcall := HQ.out wr (rd_T26 l0 kk) _ BW.out ⟨_, rfl, k26_mk wr (rd_T26 l0 kk) l1 g1 l3 g3⟩
      have hx : rd_T26 l0 kk = l0[kk] := by simp [rd_T26, List.getD_eq_getElem?_getD, List.getElem?_eq_getElem hlt]
      have HX := Aside0.mk hx
      generalize rd_T26 l0 kk = y at *
      rw [Int.toNat_natCast] at h0 h1 h2 h3 h4
      subst hA
      clear hx l1 g1 l3 g3
      cases hp : p y with
      | true =>
        rw [hp] at hcall
        go_wp2_with fail
        refine hcall.mono ?_
        rintro e w' ⟨rfl, hb'⟩
        go_wp2
        go_ret
        refine ⟨?_, below_then BW.out BW.out.size hb'⟩
        rw [idxOf_hit hlt A.out (by rw [← HX.out]; exact hp)]
        rfl
      | false =>
        rw [hp] at hcall
        go_wp2_with fail
        refine hcall.mono ?_
        rintro e w' ⟨rfl, hb'⟩
        go_wp2
        go_roundg (l0.length - (kk + 1))
        case measure => omega
        case rel =>
          refine ⟨kk + 1, by omega, by omega, by go_num, ⟨below_then BW.out BW.out.size hb'⟩, ⟨fun j hj hlt => ?_⟩⟩
          by_cases e : j = kk
          · subst e
            rw [← HX.out]; exact hp
          · exact A.out j (by omega) hlt
    · have hltz : ¬ (kk : Int) < (l0.length : Int) := by omega
      have : kk = l0.length := by omega
      subst this
      go_wp2
      go_ret
      refine ⟨?_, BW.out⟩
      rw [idxOf_miss A.out]
      rfl
theorem containsFunc_rule (fv : Value) (A0 : Option Addr) (c0 : Nat) (l0 : List S26) (p : S26 → Bool) (w : World) (hr0 : Kd.C k26 w A0 l0.length l0) (hc0 : l0.length ≤ c0)
   (hf : FnTells Try.prog w (AggRel k26) fv p) :
   Calls Try.prog 36 #[.slice A0 l0.length c0, fv] w fun e w' => e = .returned (.bool (l0.any p)) ∧ Below w.heap.size w w' := by
  have hc := indexFunc_rule fv A0 c0 l0 p w hr0 hc0 hf
  rw [← idxOf_ge]
  clear hr0 hf
  generalize idxOf p l0 = q at hc
  go_enter Try.func36, Try.ntmps36
  go_wp2_with fail
  refine hc.mono ?_
  rintro e w' ⟨rfl, hb'⟩
  go_wp2
  go_ret
  exact ⟨rfl, hb'⟩
end Go.Proofs.Ytjomlfdkmdgclaa.P
end
section
namespace Go.Proofs.Ytjomlfdkmdgclaa.P
open Go.RowKit Go.Proofs.YtjomlfdkmdgclaaW.PrintWords Go.Proofs.YtjomlfdkmdgclaaW.PrintLast Go.Proofs.YtjomlfdkmdgclaaW.PrintMore
attribute [local go_sem] max2_int min2_int max_two min_two max_three min_three max_four min_four   
set_option linter.unusedVariables false
set_option linter.unusedSimpArgs false
noncomputable def slices_Index_int_int.l0 : Nat → List Int → Int → Int → Int → Option (Int)
  | 0, _, _, _, _ => none
  | k + 1, x0, x1, x7, x8 => if x8 < x7 then (if 0 ≤ x8 then (if x8 < (x0.length : Int) then (if x1 = (rd x0 x8) then (some x8) else (slices_Index_int_int.l0 k x0 x1 x7 (wrap64 (x8 + 1)))) else (none)) else (none)) else (some (-1))
noncomputable def slices_Index_int_int.f (k : Nat) (l0 : List Int) (a1 : Int) : Option (Int) := slices_Index_int_int.l0 k l0 a1 (l0.length : Int) 0
theorem slices_Index_int_int.mono_l : ∀ k, (∀ y0 y1 y2 y3, LeO (slices_Index_int_int.l0 k y0 y1 y2 y3) (slices_Index_int_int.l0 (k + 1) y0 y1 y2 y3))
  | 0 => fun _ _ _ _ r h => by simp [slices_Index_int_int.l0] at h
  | k + 1 => by
    have ih0 := slices_Index_int_int.mono_l k
    · intro y0 y1 y2 y3
      unfold slices_Index_int_int.l0
      repeat' first
      | (with_reducible exact ih0 _ _ _ _)
      | (with_reducible exact LeO.refl _)
      | (with_reducible exact LeO.none _)
      | (with_reducible refine LeO.ite ?_ ?_)
      | (with_reducible refine LeO.bind ?_ (fun _ => ?_))
      | exact ih0 _ _ _ _
      | exact LeO.none _
      | refine LeO.ite ?_ ?_
      | refine LeO.bind ?_ (fun _ => ?_)
theorem slices_Index_int_int.mono : ∀ a0 a1 k, LeO (slices_Index_int_int.f k a0 a1) (slices_Index_int_int.f (k + 1) a0 a1) := by
  intro a0 a1 k
  have ih0 := slices_Index_int_int.mono_l k
  unfold slices_Index_int_int.f
  repeat' first
      | (with_reducible exact ih0 _ _ _ _)
      | (with_reducible exact LeO.refl _)
      | (with_reducible exact LeO.none _)
      | (with_reducible refine LeO.ite ?_ ?_)
      | (with_reducible refine LeO.bind ?_ (fun _ => ?_))
      | exact ih0 _ _ _ _
      | exact LeO.none _
      | refine LeO.ite ?_ ?_
      | refine LeO.bind ?_ (fun _ => ?_)
set_option maxHeartbeats 8000000 in
set_option maxRecDepth 100000 in
theorem slices_Index_int_int.calls (k : Nat) (A0 : Option Addr) (c0 : Nat) (l0 : List Int) (a1 : Int) (r : Int) (w : World) (hr0 : Kd.C (Kd.int .i64) w A0 l0.length l0) (hc0 : l0.length ≤ c0) (h : slices_Index_int_int.f k l0 a1 = some r) :
    Calls Try.prog 45 #[.slice A0 l0.length c0, .int .i64 a1] w fun e w' => e = .returned (.int .i64 r) ∧ Drawn0 w w' := by
  have HR0 := Aside0.mk hr0
  have HC0 := Aside0.mk hc0
  clear hr0 hc0
  have H : (slices_Index_int_int.l0 k l0 a1 (l0.length : Int) 0) = some r := h
  clear h
  have H' := Aside0.mk H
  clear H
  go_enter Try.func45, Try.ntmps45
  go_wp2
  go_loopg [8] k (fun kq v8 w' => ∃ (x8_1 : Int), v8 = .int .i64 x8_1 ∧ Aside0 (slices_Index_int_int.l0 kq l0 a1 (l0.length : Int) x8_1 = some r) ∧ Aside0 (kq ≤ k) ∧ Drawn0 w w')
  case atStart => exact ⟨(0), (by first | rfl | (simp; done) | (simp [*]; done)), H', ⟨Nat.le_refl _⟩, by repeat (first | exact Drawn0.refl _ | apply Drawn0.step)⟩
  case round =>
    clear H'
    try clear p2
    obtain ⟨x8_1, rfl, HA, HK1, ⟨m1, rfl⟩⟩ := hrel
    cases gk with
    | zero => exact absurd HA.out (by simp [slices_Index_int_int.l0])
    | succ k1 =>
      have H := HA.out
      clear HA
      simp only [slices_Index_int_int.l0] at H
      by_cases c3 : x8_1 < (l0.length : Int)
      · rw [if_pos c3] at H
        have c3b0 : decide (x8_1 < (l0.length : Int)) = true := decide_eq_true c3
        clear c3
        by_cases c4 : 0 ≤ x8_1
        · rw [if_pos c4] at H
          have c4b0 : decide (0 ≤ x8_1) = true := decide_eq_true c4
          clear c4
          by_cases c5 : x8_1 < (l0.length : Int)
          · rw [if_pos c5] at H
            have c5b0 : decide (x8_1 < (l0.length : Int)) = true := decide_eq_true c5
            clear c5
            by_cases c6 : a1 = (rd l0 x8_1)
            · rw [if_pos c6] at H
              have c6b0 : (a1 == (rd l0 x8_1)) = true := beq_iff_eq.mpr c6
              have c6b1 : (a1 != (rd l0 x8_1)) = false := bne_eq_false_iff_eq.mpr c6
              clear c6
              obtain rfl := Option.some.inj H
              have p213 : 0 ≤ (x8_1 : Int) := of_decide_eq_true (by first | (with_reducible assumption) | assumption)
              have q213 : x8_1 < (l0.length : Int) := of_decide_eq_true (by first | (with_reducible assumption) | assumption)
              obtain ⟨ad213, e213, hx213_0⟩ := Kd.at_int HR0.out x8_1 p213 q213
              cases e213
              replace p213 := eq_true p213
              replace q213 := eq_true q213
              go_wp2
              go_ret
              exact ⟨by first | rfl | (simp; done) | (simp [*]; done), by repeat (first | exact Drawn0.refl _ | apply Drawn0.step)⟩
            · rw [if_neg c6] at H
              have c6b0 : (a1 == (rd l0 x8_1)) = false := beq_eq_false_iff_ne.mpr c6
              have c6b1 : (a1 != (rd l0 x8_1)) = true := bne_iff_ne.mpr c6
              have H' := Aside0.mk H
              clear H
              have p213 : 0 ≤ (x8_1 : Int) := of_decide_eq_true (by first | (with_reducible assumption) | assumption)
              have q213 : x8_1 < (l0.length : Int) := of_decide_eq_true (by first | (with_reducible assumption) | assumption)
              obtain ⟨ad213, e213, hx213_0⟩ := Kd.at_int HR0.out x8_1 p213 q213
              cases e213
              replace p213 := eq_true p213
              replace q213 := eq_true q213
              go_wp2
              go_roundg k1
              case measure => have := HK1.out; omega
              case rel => exact ⟨(wrap64 (x8_1 + 1)), (by first | rfl | (simp; done) | (simp [*]; done)), H', ⟨by have := HK1.out; omega⟩, by repeat (first | exact Drawn0.refl _ | apply Drawn0.step)⟩
          · rw [if_neg c5] at H
            exact absurd H (by simp)
        · rw [if_neg c4] at H
          exact absurd H (by simp)
      · rw [if_neg c3] at H
        have c3b0 : decide (x8_1 < (l0.length : Int)) = false := decide_eq_false c3
        clear c3
        obtain rfl := Option.some.inj H
        go_wp2
        go_ret
        exact ⟨by first | rfl | (simp; done) | (simp [*]; done), by repeat (first | exact Drawn0.refl _ | apply Drawn0.step)⟩
noncomputable def slices_Contains_int_int.f (k : Nat) (l0 : List Int) (a1 : Int) : Option (Bool) := (slices_Index_int_int.f k l0 a1).bind fun t214 => (some (decide (t214 ≥ 0)))
theorem slices_Contains_int_int.mono : ∀ a0 a1 k, LeO (slices_Contains_int_int.f k a0 a1) (slices_Contains_int_int.f (k + 1) a0 a1) := by
  intro a0 a1 k
  unfold slices_Contains_int_int.f
  repeat' first
      | (with_reducible exact slices_Index_int_int.mono _ _ _)
      | (with_reducible exact LeO.refl _)
      | (with_reducible exact LeO.none _)
      | (with_reducible refine LeO.ite ?_ ?_)
      | (with_reducible refine LeO.bind ?_ (fun _ => ?_))
      | exact slices_Index_int_int.mono _ _ _
      | exact LeO.none _
      | refine LeO.ite ?_ ?_
      | refine LeO.bind ?_ (fun _ => ?_)
set_option maxHeartbeats 8000000 in
set_option maxRecDepth 100000 in
theorem slices_Contains_int_int.calls (k : Nat) (A0 : Option Addr) (c0 : Nat) (l0 : List Int) (a1 : Int) (r : Bool) (w : World) (hr0 : Kd.C (Kd.int .i64) w A0 l0.length l0) (hc0 : l0.length ≤ c0) (h : slices_Contains_int_int.f k l0 a1 = some r) :
    Calls Try.prog 38 #[.slice A0 l0.length c0, .int .i64 a1] w fun e w' => e = .returned (.bool r) ∧ Drawn0 w w' := by
  have HR0 := Aside0.mk hr0
  have HC0 := Aside0.mk hc0
  clear hr0 hc0
  have H : ((slices_Index_int_int.f k l0 a1).bind fun t214 => (some (decide (t214 ≥ 0)))) = some r := h
  clear h
  replace H := Option.bind_eq_some_iff.mp H
  obtain ⟨t214, A30, H⟩ := H
  replace H : (some (decide (t214 ≥ 0))) = some r := H
  have A3 := Aside0.mk A30
  clear A30
  obtain rfl := Option.some.inj H
  go_enter Try.func38, Try.ntmps38
  go_wp2_with (first | ((with_reducible refine gate_callee (f := 45) rfl ?_); refine goesL_ (some 7) rfl rfl Try.func45 (by kernel_rfl) rfl #[.slice A0 l0.length c0, .int .i64 a1] rfl (by (try simp only [List.map_toArray, List.map_cons, List.map_nil]); first | done | rfl | (simp only [List.length_drop, List.length_take]; rfl)) ?_; (with_reducible refine (slices_Index_int_int.calls k _ _ l0 a1 t214 _ ?side1 ?side2 A3.out).mono ?_); (case side1 => repeat (first | exact HR0.out | (with_reducible refine Kd.C_alloc ?_ _) | (with_reducible refine Kd.C_drewN ?_ _) | (with_reducible refine Kd.C_drew ?_))); (case side2 => exact HC0.out); rintro e w' ⟨rfl, ⟨nd, rfl⟩⟩; refine ⟨_, rfl, ?_⟩))
  go_ret
  exact ⟨by first | rfl | (simp; done) | (simp [*]; done), by repeat (first | exact Drawn0.refl _ | apply Drawn0.step)⟩
end Go.Proofs.Ytjomlfdkmdgclaa.P
end
section
namespace Go.Proofs.Ytjomlfdkmdgclaa.P
open Go.RowKit Go.Proofs.YtjomlfdkmdgclaaW.PrintWords Go.Proofs.YtjomlfdkmdgclaaW.PrintLast Go.Proofs.YtjomlfdkmdgclaaW.PrintMore
attribute [local go_sem] max2_int min2_int max_two min_two max_three min_three max_four min_four   
set_option linter.unusedVariables false
set_option linter.unusedSimpArgs false
theorem wrap_in {n : Int} (h : -9223372036854775808 ≤ n ∧ n ≤ 9223372036854775807) : wrap64 n = n := by unfold wrap64; omega
theorem index_some (l : List Int) (a : Int) (hl : l.length ≤ 9223372036854775807) : ∀ (n k : Nat) (x : Nat), x ≤ l.length → l.length - x = n → n < k → ∃ i : Int, slices_Index_int_int.l0 k l a (l.length : Int) x = some i ∧ (decide (i ≥ 0) = decide (a ∈ l.drop x)) := by
  intro n
  induction n with
  | zero =>
    intro k x hx hn hk
    obtain ⟨k, rfl⟩ : ∃ j, k = j + 1 := ⟨k - 1, by omega⟩
    have he : x = l.length := by omega
    subst he
    refine ⟨-1, ?_, by simp⟩
    simp only [slices_Index_int_int.l0]
    rw [if_neg (by omega)]
  | succ n ih =>
    intro k x hx hn hk
    obtain ⟨k, rfl⟩ : ∃ j, k = j + 1 := ⟨k - 1, by omega⟩
    have hlt : x < l.length := by omega
    simp only [slices_Index_int_int.l0]
    rw [if_pos (by omega), if_pos (by omega), if_pos (by omega), rd_getElem l x hlt, List.drop_eq_getElem_cons hlt]
    by_cases he : a = l[x]
    · rw [if_pos he]
      exact ⟨x, rfl, by rw [← he, decide_eq_true (Int.natCast_nonneg x : (x : Int) ≥ 0), decide_eq_true List.mem_cons_self]⟩
    · rw [if_neg he, wrap_in (by omega)]
      obtain ⟨i, h1, h2⟩ := ih k (x + 1) (by omega) (by omega) (by omega)
      refine ⟨i, h1, ?_⟩
      rw [h2]
      exact decide_eq_decide.2 ⟨fun h => List.mem_cons_of_mem _ h, fun h => (List.mem_cons.1 h).elim (fun h => absurd h he) id⟩
theorem contains_some (l : List Int) (a : Int) (k : Nat) (hl : l.length ≤ 9223372036854775807) (hk : l.length < k) : slices_Contains_int_int.f k l a = some (decide (a ∈ l)) := by
  obtain ⟨i, h1, h2⟩ := index_some l a hl l.length k 0 (Nat.zero_le _) rfl hk
  unfold slices_Contains_int_int.f slices_Index_int_int.f
  rw [show ((0 : Nat) : Int) = 0 from rfl] at h1
  rw [h1]
  simp only [Option.bind_some, h2, List.drop_zero]
def rightR (r : Rule') : Bool := rightP r.f0 r.f1 r.f2.f0 r.f2.f1 r.f3
theorem check1_tells (w : World) : FnTells Try.prog w (AggRel k26) (.func (.func 37) #[] #[]) (fun r => !rightR r) := by
  refine ⟨_, _, _, rfl, enters_of Try.func37 (by kernel_rfl) rfl, ?_⟩
  rintro W x v hb ⟨cs, rfl, hK⟩
  obtain ⟨A1, c1, A3, c3, rfl, l1, g1, l3, g3⟩ := k26_open hK
  clear hb hK
  have hcall := gram_Right.calls x.f0 A1 c1 x.f1 x.f2.f0 A3 c3 x.f2.f1 x.f3 (rightR x) (W.alloc (.cells #[.int .i64 x.f0, .slice A1 x.f1.length c1, .int .i64 x.f2.f0, .slice A3 x.f2.f1.length c3, .int .i64 x.f3] 26)) (Kd.C_alloc g1 _) l1 (Kd.C_alloc g3 _) l3 rfl
  clear g1 g3
  cases hp : rightR x with
  | true =>
    rw [hp] at hcall
    go_enter Try.func37, Try.ntmps37
    go_wp2_with fail
    refine hcall.mono ?_
    rintro e w' ⟨rfl, hb'⟩
    have HB := Aside0.mk (below_step (below_alloc (Below.refl _ W) _) hb')
    go_wp2
    go_ret
    exact ⟨ret_bool (by rw [hp]; rfl), HB.out⟩
  | false =>
    rw [hp] at hcall
    go_enter Try.func37, Try.ntmps37
    go_wp2_with fail
    refine hcall.mono ?_
    rintro e w' ⟨rfl, hb'⟩
    have HB := Aside0.mk (below_step (below_alloc (Below.refl _ W) _) hb')
    go_wp2
    go_ret
    exact ⟨ret_bool (by rw [hp]; rfl), HB.out⟩
theorem check2_tells (w : World) (g : Nat) (A : Option Addr) (c : Nat) (rows : List (List Int)) (hg : w.cell? ⟨g, 0, none⟩ = some (.slice A rows.length c)) (hlen : rows.length = 20) (hC : Kd.C (Kd.slice 3 (Kd.int .i64)) w A rows.length rows) :
    FnLists Try.prog w inSym (.func (.func 40) #[] #[.pointer (some ⟨g, 0, none⟩)]) (fun y => rd_L2 rows y) := by
  refine ⟨_, _, _, rfl, enters_of Try.func40 (by kernel_rfl) rfl, ?_⟩
  rintro W x hb ⟨hx0, hx1⟩
  have hxl : x < (rows.length : Int) := by omega
  have hcell := pw_cell_below hb hg
  obtain ⟨ad, A0, c0, rfl, h0, h1, h2⟩ := at_L2 (Kd.C_below hC hb) x hx0 hxl
  have hx0' : ¬ x < 0 := by omega
  clear hb hg hC
  have H2 := Aside0.mk h2
  clear h2
  go_enter Try.func40, Try.ntmps40
  go_wp2
  go_ret
  exact ⟨A0, c0, rfl, h1, H2.out, Below.refl _ _⟩
def rowsNext (l0 : List Rule') : Int → List Int := fun y => rd_L2 (unitsP l0) y
theorem unitsP_length (l0 : List Rule') : (unitsP l0).length = 20 := by simp [unitsP]
theorem rowsNext_at (l0 : List Rule') (x : Nat) (h : x < 20) : rowsNext l0 x = rowUpto (foundL l0) x 20 := by
  unfold rowsNext rd_L2 unitsP
  rw [Int.toNat_natCast, List.getD_eq_getElem?_getD, List.getElem?_map, List.getElem?_range h]
  rfl
theorem rowsNext_len (l0 : List Rule') (x : Int) (h : inSym x) : (rowsNext l0 x).length ≤ 20 := by
  obtain ⟨n, rfl⟩ : ∃ n : Nat, x = n := ⟨x.toNat, by have := h.1; omega⟩
  rw [rowsNext_at l0 n (by have := h.2; omega)]
  exact rowUpto_len _ _ _
theorem rowsNext_sym (l0 : List Rule') (x : Int) (h : inSym x) : ∀ y ∈ rowsNext l0 x, inSym y := by
  obtain ⟨n, rfl⟩ : ∃ n : Nat, x = n := ⟨x.toNat, by have := h.1; omega⟩
  rw [rowsNext_at l0 n (by have := h.2; omega)]
  intro y hy
  exact (mem_symbols y).1 (List.mem_filter.1 hy).1
noncomputable def leadsBack (l0 : List Rule') (x : Int) : Bool := decide (x ∈ reachL (rowsNext l0) (rowsNext l0 x))
noncomputable def checkP (l0 : List Rule') : Bool := decide (l0.length ≤ 60) && (l0.all rightR && symbols.all fun x => !leadsBack l0 x)
noncomputable def gram_Check.f (l0 : List Rule') : Option Bool := some (checkP l0)
theorem unitsB_of (l0 : List Rule') (h1 : l0.length ≤ 60) (h2 : l0.all rightR = true) : unitsB l0 = true := by
  unfold unitsB
  rw [Bool.and_eq_true]
  refine ⟨List.all_eq_true.2 fun r hr => ?_, decide_eq_true (by omega)⟩
  have h3 := List.all_eq_true.1 h2 r hr
  unfold rightR rightP symbolB at h3
  simp only [Bool.and_eq_true, decide_eq_true_eq] at h3
  exact decide_eq_true h3.1
theorem leadsBack_calls (l0 : List Rule') (fv : Value) (A : Option Addr) (c : Nat) (x : Int) (hx : inSym x) (w : World) (hf : FnLists Try.prog w inSym fv (rowsNext l0)) (hC : Kd.C (Kd.int .i64) w A (rowsNext l0 x).length (rowsNext l0 x)) (hc : (rowsNext l0 x).length ≤ c) :
    Calls Try.prog 39 #[.slice A (rowsNext l0 x).length c, fv] w fun e w' => ∃ v0_ : Value, e = .returned (v0_) ∧ Kd.R (Kd.int .i64) 3 w' w.heap.size (fun _ => True) v0_ (reachL (rowsNext l0) (rowsNext l0 x)) ∧ Below w.heap.size w w' := by
  obtain ⟨k, r, h1, h2⟩ := from_reach (rowsNext l0) (fun y hy => Nat.le_trans (rowsNext_len l0 y hy) (by omega)) (rowsNext_sym l0) (rowsNext l0 x) (rowsNext_sym l0 x hx) (Nat.le_trans (rowsNext_len l0 x hx) (by omega))
  rw [← h2]
  exact from_walk fv (rowsNext l0) inSym (fun y hy => ⟨⟨by have := hy.1; omega, by have := hy.2; omega⟩, rowsNext_sym l0 y hy⟩) k A c (rowsNext l0 x) r w hf (rowsNext_sym l0 x hx) hC hc h1
theorem reachL_length (next : Int → List Int) (l : List Int) : (reachL next l).length ≤ 20 := Nat.le_trans (List.length_filter_le _ _) (by decide)
set_option maxHeartbeats 4000000 in
set_option maxRecDepth 100000 in
theorem check_walk (A0 : Option Addr) (c0 : Nat) (l0 : List Rule') (w : World) (hr0 : Kd.C k26 w A0 l0.length l0) (hc0 : l0.length ≤ c0) :
    Calls Try.prog 21 #[.slice A0 l0.length c0] w fun e w' => e = .returned (.bool (checkP l0)) ∧ Below w.heap.size w w' := by
  by_cases h60 : l0.length ≤ 60
  · have h60z : ¬ ((l0.length : Int) > 60) := by omega
    have hcall := containsFunc_rule _ A0 c0 l0 _ w hr0 hc0 (check1_tells w)
    rw [any_not_all] at hcall
    have HR := Aside0.mk hr0
    have HC := Aside0.mk hc0
    clear hr0 hc0
    cases hall : l0.all rightR with
    | false =>
      rw [hall] at hcall
      have hz : checkP l0 = false := by simp [checkP, hall]
      go_enter Try.func21, Try.ntmps21
      go_wp2_with fail
      refine hcall.mono ?_
      rintro e w' ⟨rfl, hb'⟩
      have HB := Aside0.mk hb'
      clear hb'
      go_wp2
      go_ret
      exact ⟨ret_bool hz.symm, HB.out⟩
    | true =>
      rw [hall] at hcall
      have hu := unitsB_of l0 h60 hall
      go_enter Try.func21, Try.ntmps21
      go_wp2_with fail
      refine hcall.mono ?_
      rintro e w1 ⟨rfl, hb'⟩
      have HB1 := Aside0.mk hb'
      have HR1 := Aside0.mk (Kd.C_below HR.out hb')
      clear hb' hcall
      go_wp2_with fail
      refine (units_walk A0 c0 l0 w1 HR1.out HC.out hu).mono ?_
      rintro e w2 ⟨v2, rfl, hS, hb2⟩
      obtain ⟨A2, c2, rfl, hc2, hC2⟩ := Kd.S_reads hS
      have hlen := unitsP_length l0
      have HB2 := Aside0.mk (below_step HB1.out hb2)
      have HF0 := Aside0.mk hC2
      clear hS hb2 hc2 hC2
      rw [hlen]
      have HLN := Aside0.mk hlen
      clear hlen
      have HG := Aside0.mk (cell_new0 w2 (.slice A2 20 c2) 37)
      have HB3 := Aside0.mk (below_alloc HB2.out (.cells #[.slice A2 20 c2] 37))
      have HC3 := Aside0.mk (Kd.C_alloc HF0.out (.cells #[.slice A2 20 c2] 37))
      clear HF0 HB2
      have HFN : Aside0 (FnLists Try.prog (w2.alloc (.cells #[.slice A2 20 c2] 37)) inSym (.func (.func 40) #[] #[.pointer (some ⟨w2.heap.size, 0, none⟩)]) (rowsNext l0)) :=
        ⟨check2_tells _ w2.heap.size A2 c2 (unitsP l0) (by rw [HLN.out]; exact HG.out) HLN.out HC3.out⟩
      go_wp2
      generalize w2.heap.size = g at *
      generalize (w2.alloc (.cells #[.slice A2 20 c2] 37)) = w3 at *
      go_loopg [17] 20 (fun gg s17 wr => ∃ kk : Nat, kk ≤ 20 ∧ 20 - kk ≤ gg ∧ s17 = .int .i64 kk ∧ Aside0 (Below w3.heap.size w3 wr) ∧ Aside0 (∀ j : Nat, j < kk → leadsBack l0 j = false))
      case atStart => exact ⟨0, by omega, by omega, rfl, ⟨Below.refl _ _⟩, ⟨fun j hj => absurd hj (Nat.not_lt_zero _)⟩⟩
      case round =>
        obtain ⟨kk, hkk, hg, rfl, BW, AB⟩ := hrel
        by_cases hlt : kk < 20
        · have hltz : (kk : Int) < 20 := by omega
          have hsym : inSym (kk : Int) := ⟨by omega, by omega⟩
          have HFN2 : Aside0 (FnLists Try.prog wr inSym (.func (.func 40) #[] #[.pointer (some ⟨g, 0, none⟩)]) (rowsNext l0)) := by
            obtain ⟨g', pre, lb, e1, e2, e3⟩ := HFN.out
            exact ⟨g', pre, lb, e1, e2, fun W x hb hd => e3 W x (BW.out.trans (hb.mono BW.out.size)) hd⟩
          obtain ⟨ad, A4, c4, hA, h0, h1, h2⟩ := at_L2 (Kd.C_below HC3.out BW.out) kk (by omega) (by rw [HLN.out]; exact hltz)
          rw [Int.toNat_natCast] at h0
          subst hA
          have hrow : rd_L2 (unitsP l0) (kk : Int) = rowsNext l0 kk := rfl
          rw [hrow] at h0 h1 h2
          have H1 := Aside0.mk h1
          have H2 := Aside0.mk h2
          clear hrow h1 h2
          go_wp2_with fail
          refine (leadsBack_calls l0 _ A4 c4 kk hsym wr HFN2.out H2.out H1.out).mono ?_
          rintro e w4 ⟨v4, rfl, hR4, hb4⟩
          obtain ⟨A5, c5, rfl, hc5, hC5⟩ := Kd.R_reads hR4
          have HB4 := Aside0.mk (below_step BW.out hb4)
          have HC5 := Aside0.mk hC5
          have HL5 := Aside0.mk hc5
          have hcs := contains_some (reachL (rowsNext l0) (rowsNext l0 kk)) kk 100 (Nat.le_trans (reachL_length _ _) (by omega)) (Nat.lt_of_le_of_lt (reachL_length _ _) (by omega))
          have HCS := Aside0.mk hcs
          clear hR4 hb4 hC5 hc5 hcs h0
          have hlb : decide ((kk : Int) ∈ reachL (rowsNext l0) (rowsNext l0 kk)) = leadsBack l0 kk := rfl
          have HLB := Aside0.mk hlb
          clear hlb
          cases hb : leadsBack l0 kk with
          | true =>
            have HCS2 : Aside0 (slices_Contains_int_int.f 100 (reachL (rowsNext l0) (rowsNext l0 kk)) kk = some true) := ⟨by rw [HCS.out, HLB.out, hb]⟩
            have hz : checkP l0 = false := by
              unfold checkP
              have : (symbols.all fun x => !leadsBack l0 x) = false := List.all_eq_false.2 ⟨kk, (mem_symbols _).2 hsym, by simp [hb]⟩
              rw [this, Bool.and_false, Bool.and_false]
            go_wp2_with fail
            refine (slices_Contains_int_int.calls 100 A5 c5 _ kk true w4 HC5.out HL5.out HCS2.out).mono ?_
            rintro e w' ⟨rfl, ⟨nd, rfl⟩⟩
            go_wp2
            go_ret
            exact ⟨ret_bool hz.symm, pw_below_drewN (HB3.out.trans (HB4.out.mono HB3.out.size)) _⟩
          | false =>
            have HCS2 : Aside0 (slices_Contains_int_int.f 100 (reachL (rowsNext l0) (rowsNext l0 kk)) kk = some false) := ⟨by rw [HCS.out, HLB.out, hb]⟩
            go_wp2_with fail
            refine (slices_Contains_int_int.calls 100 A5 c5 _ kk false w4 HC5.out HL5.out HCS2.out).mono ?_
            rintro e w' ⟨rfl, ⟨nd, rfl⟩⟩
            go_wp2
            go_roundg (20 - (kk + 1))
            case measure => omega
            case rel =>
              refine ⟨kk + 1, by omega, by omega, by go_num, ⟨pw_below_drewN HB4.out _⟩, ⟨fun j hj => ?_⟩⟩
              by_cases e : j = kk
              · subst e; exact hb
              · exact AB.out j (by omega)
        · have hltz : ¬ (kk : Int) < 20 := by omega
          have hkk : kk = 20 := by omega
          subst hkk
          have hz : checkP l0 = true := by
            unfold checkP
            have : (symbols.all fun x => !leadsBack l0 x) = true := by
              rw [List.all_eq_true]
              intro x hx
              have hs := (mem_symbols _).1 hx
              have h9 := AB.out x.toNat (by have := hs.1; have := hs.2; omega)
              rw [Int.toNat_of_nonneg hs.1] at h9
              rw [h9]; rfl
            rw [this, hall, decide_eq_true h60]; rfl
          go_wp2
          go_ret
          exact ⟨by first | rfl | exact ret_bool hz.symm, HB3.out.trans (BW.out.mono HB3.out.size)⟩
  · have h60z : (l0.length : Int) > 60 := by omega
    have hz : checkP l0 = false := by simp [checkP, h60]
    go_enter Try.func21, Try.ntmps21
    go_wp2
    go_ret
    exact ⟨ret_bool hz.symm, Below.refl _ _⟩
theorem gram_Check.calls (A0 : Option Addr) (c0 : Nat) (l0 : List Rule') (r : Bool) (w : World) (hr0 : Kd.C k26 w A0 l0.length l0) (hc0 : l0.length ≤ c0) (h : gram_Check.f l0 = some r) :
    Calls Try.prog 21 #[.slice A0 l0.length c0] w fun e w' => e = .returned (.bool r) ∧ Below w.heap.size w w' := by
  obtain rfl := Option.some.inj h
  exact check_walk A0 c0 l0 w hr0 hc0
end Go.Proofs.Ytjomlfdkmdgclaa.P
end
section
namespace Go.Proofs.Ytjomlfdkmdgclaa.P
open Go.RowKit Go.Proofs.YtjomlfdkmdgclaaW.PrintWords Go.Proofs.YtjomlfdkmdgclaaW.PrintLast Go.Proofs.YtjomlfdkmdgclaaW.PrintMore
attribute [local go_sem] max2_int min2_int max_two min_two max_three min_three max_four min_four   
set_option linter.unusedVariables false
set_option linter.unusedSimpArgs false
abbrev RuleR := S26
def nextP (l0 : List RuleR) (x : Int) : List Int := l0.flatMap fun r => if r.f0 = x then r.f1.filter symbolB else []
def sumLen (l0 : List RuleR) : Nat := (l0.map fun r => r.f1.length).sum
theorem nextP_len (l0 : List RuleR) (x : Int) : (nextP l0 x).length ≤ sumLen l0 := by
  unfold nextP sumLen
  rw [List.length_flatMap]
  induction l0 with
  | nil => simp
  | cons r l ih =>
    simp only [List.map_cons, List.sum_cons]
    have : (if r.f0 = x then r.f1.filter symbolB else []).length ≤ r.f1.length := by
      split
      · exact List.length_filter_le _ _
      · simp
    omega
theorem sumLen_take (l0 : List RuleR) (k : Nat) (h : k < l0.length) : sumLen (l0.take k) + l0[k].f1.length ≤ sumLen l0 := by
  have h1 : sumLen (l0.take (k + 1)) = sumLen (l0.take k) + l0[k].f1.length := by
    unfold sumLen
    rw [List.take_succ_eq_append_getElem h, List.map_append, List.sum_append]
    simp
  have h2 : sumLen l0 = sumLen (l0.take (k + 1)) + sumLen (l0.drop (k + 1)) := by
    unfold sumLen
    rw [← List.sum_append, ← List.map_append, List.take_append_drop]
  omega
theorem nextP_snoc (l0 : List RuleR) (k : Nat) (h : k < l0.length) (x : Int) : nextP (l0.take (k + 1)) x = nextP (l0.take k) x ++ (if l0[k].f0 = x then l0[k].f1.filter symbolB else []) := by
  unfold nextP
  rw [List.take_succ_eq_append_getElem h, List.flatMap_append]
  simp
theorem nextP_sym (l0 : List RuleR) (x : Int) : ∀ y ∈ nextP l0 x, inSym y := by
  intro y hy
  obtain ⟨r, _, h⟩ := List.mem_flatMap.1 hy
  split at h
  · have := (List.mem_filter.1 h).2
    simpa [symbolB, inSym] using this
  · cases h
def curP (l0 : List RuleR) (k : Nat) (r : RuleR) (j : Nat) (x : Int) : List Int := nextP (l0.take k) x ++ (if r.f0 = x then (r.f1.take j).filter symbolB else [])
theorem curP_snoc (l0 : List RuleR) (k : Nat) (r : RuleR) (j : Nat) (x : Int) (h : j < r.f1.length) : curP l0 k r (j + 1) x = curP l0 k r j x ++ (if r.f0 = x ∧ symbolB (rd r.f1 j) = true then [rd r.f1 j] else []) := by
  unfold curP
  rw [List.append_assoc, rd_getElem r.f1 j h]
  congr 1
  by_cases e : r.f0 = x
  · rw [if_pos e, if_pos e, List.take_succ_eq_append_getElem h, List.filter_append]
    congr 1
    by_cases s : symbolB r.f1[j] = true
    · rw [if_pos ⟨e, s⟩]; simp [s]
    · rw [if_neg (fun h => s h.2)]; simp [s]
  · rw [if_neg e, if_neg e, if_neg (fun h => e h.1)]; rfl
theorem curP_len (l0 : List RuleR) (k : Nat) (h : k < l0.length) (j : Nat) (x : Int) (hj : j ≤ l0[k].f1.length) : (curP l0 k l0[k] j x).length ≤ sumLen l0 := by
  have h1 := nextP_len (l0.take k) x
  have h2 := sumLen_take l0 k h
  have h3 : (if l0[k].f0 = x then (l0[k].f1.take j).filter symbolB else []).length ≤ l0[k].f1.length := by
    split
    · exact Nat.le_trans (List.length_filter_le _ _) (by rw [List.length_take]; omega)
    · simp
  unfold curP
  rw [List.length_append]
  omega
set_option maxHeartbeats 4000000 in
set_option maxRecDepth 100000 in
theorem next_walk (w : World) (g : Nat) (A : Option Addr) (c : Nat) (l0 : List RuleR) (hg : w.cell? ⟨g, 0, none⟩ = some (.slice A l0.length c)) (hc : l0.length ≤ c) (hC : Kd.C k26 w A l0.length l0) (hb : sumLen l0 ≤ 1000000) :
    FnLists Try.prog w inSym (.func (.func 41) #[] #[.pointer (some ⟨g, 0, none⟩)]) (nextP l0) := by
  refine ⟨_, _, _, rfl, enters_of Try.func41 (by kernel_rfl) rfl, ?_⟩
  rintro W x hbw _
  have hcell := pw_cell_below hbw hg
  have hl : l0.length ≤ 9223372036854775807 := hC.2.1
  have HC := Aside0.mk (Kd.C_below hC hbw)
  clear hg hC hbw
  go_enter Try.func41, Try.ntmps41
  have HSB := Aside0.mk hb
  clear hb
  go_wp2
  go_loopg [4, 11] l0.length (fun gg s4 s11 wr => ∃ kk : Nat, kk ≤ l0.length ∧ l0.length - kk ≤ gg ∧ s11 = .int .i64 kk ∧ Aside0 (Kd.R (Kd.int .i64) 3 wr W.heap.size (fun k => W.heap.size ≤ k) s4 (nextP (l0.take kk) x)) ∧ Aside0 (Below W.heap.size W wr))
  case atStart => exact ⟨0, Nat.zero_le _, by omega, rfl, ⟨Kd.R_nil _ _ _ _ _⟩, ⟨Below.refl _ _⟩⟩
  case round =>
    obtain ⟨kk, hkk, hgg, rfl, HR, HB⟩ := hrel
    obtain ⟨Au, cu, rfl⟩ := Kd.R_slice HR.out
    by_cases hlt : kk < l0.length
    · have hltz : (kk : Int) < (l0.length : Int) := by omega
      obtain ⟨ad, A1, c1, A3, c3, hA, h0, h1, h2, h3, h4, l1, g1, l3, g3⟩ := at_T26 HC.out kk (by omega) hltz
      have h0 := pw_cell_below HB.out h0
      have h1 := pw_cell_below HB.out h1
      have h2 := pw_cell_below HB.out h2
      have h3 := pw_cell_below HB.out h3
      have h4 := pw_cell_below HB.out h4
      have hx : rd_T26 l0 kk = l0[kk] := by simp [rd_T26, List.getD_eq_getElem?_getD, List.getElem?_eq_getElem hlt]
      have hsn := nextP_snoc l0 kk hlt x
      have hcl := fun j => curP_len l0 kk hlt j x
      rw [← hx] at hsn hcl
      generalize rd_T26 l0 kk = y at *
      rw [Int.toNat_natCast] at h0 h1 h2 h3 h4
      subst hA
      have HSN := Aside0.mk hsn
      have HCL := Aside0.mk hcl
      clear hx l3 g3 hsn hcl
      have hly : y.f1.length ≤ 9223372036854775807 := g1.2.1
      have HG1 := Aside0.mk g1
      have HBK := Aside0.mk (blk_new wr (.cells #[.int .i64 y.f0, .slice A1 y.f1.length c1, .int .i64 y.f2.f0, .slice A3 y.f2.f1.length c3, .int .i64 y.f3] 26))
      have HB1 := Aside0.mk (below_alloc HB.out (.cells #[.int .i64 y.f0, .slice A1 y.f1.length c1, .int .i64 y.f2.f0, .slice A3 y.f2.f1.length c3, .int .i64 y.f3] 26))
      have HR1 : Aside0 (Kd.R (Kd.int .i64) 3 (wr.alloc (.cells #[.int .i64 y.f0, .slice A1 y.f1.length c1, .int .i64 y.f2.f0, .slice A3 y.f2.f1.length c3, .int .i64 y.f3] 26)) W.heap.size (fun k => W.heap.size ≤ k ∧ k ≠ wr.heap.size) (.slice Au (nextP (l0.take kk) x).length cu) (curP l0 kk y 0 x)) := by
        refine ⟨Kd.R_alloc (Kd.R_mono (Kd.R_bound (xs := curP l0 kk y 0 x) (by unfold curP; simpa using HR.out)) (fun k hk => ⟨hk.2.1, by have := hk.2.2.1; omega⟩)) _⟩
      have hd0 := blk_cell HBK.out 0
      have hd1 := blk_cell HBK.out 1
      simp only [List.getElem?_toArray, List.getElem?_cons_succ, List.getElem?_cons_zero] at hd0 hd1
      clear HR g1
      go_wp2
      clear hd0 hd1
      generalize hW : (wr.alloc (.cells #[.int .i64 y.f0, .slice A1 y.f1.length c1, .int .i64 y.f2.f0, .slice A3 y.f2.f1.length c3, .int .i64 y.f3] 26)) = W1 at *
      have HSZ := Aside0.mk (show W.heap.size ≤ wr.heap.size from HB.out.size)
      clear hW HB h0 h1 h2 h3 h4
      generalize wr.heap.size = b at *
      go_loopg [4, 18] y.f1.length (fun gg s4 s18 wr => ∃ j : Nat, j ≤ y.f1.length ∧ y.f1.length - j ≤ gg ∧ s18 = .int .i64 j ∧ Aside0 (Kd.R (Kd.int .i64) 3 wr W.heap.size (fun k => W.heap.size ≤ k ∧ k ≠ b) s4 (curP l0 kk y j x)) ∧ Aside0 (Below W.heap.size W wr) ∧ Aside0 (wr.heap[b]? = some (.cells #[.int .i64 y.f0, .slice A1 y.f1.length c1, .int .i64 y.f2.f0, .slice A3 y.f2.f1.length c3, .int .i64 y.f3] 26 (0, 0))))
      case atStart => exact ⟨0, Nat.zero_le _, by omega, rfl, HR1, HB1, HBK⟩
      case round =>
        clear HR1 HB1 HBK
        obtain ⟨j, hj, hgj, rfl, HR, HB, HBK⟩ := hrel
        obtain ⟨Au, cu, rfl⟩ := Kd.R_slice HR.out
        have HLN := Aside0.mk (HCL.out j hj)
        generalize hnl : (curP l0 kk y j x).length = nl at *
        have HNL := Aside0.mk hnl
        clear hnl
        by_cases hlj : j < y.f1.length
        · have hljz : (j : Int) < (y.f1.length : Int) := by omega
          obtain ⟨ad1, hA1, hc1⟩ := Kd.at_int (Kd.C_below HG1.out HB.out) j (by omega) hljz
          rw [Int.toNat_natCast] at hc1
          have HSN2 := Aside0.mk (curP_snoc l0 kk y j x hlj)
          subst hA1
          generalize rd y.f1 j = z at *
          have hd0 := blk_cell HBK.out 0
          simp only [List.getElem?_toArray, List.getElem?_cons_zero] at hd0
          by_cases he : y.f0 = x
          · have hsym := Aside0.mk (symbol_some z)
            have hez : (y.f0 == x) = true := beq_iff_eq.2 he
            have HE := Aside0.mk he
            clear he
            cases hsz : symbolB z with
            | true =>
              rw [hsz] at hsym
              go_wp2_with fail
              refine (gram_symbol.calls _ _ _ hsym.out).mono ?_
              rintro e w' ⟨rfl, ⟨nd, rfl⟩⟩
              have HR1 := Aside0.mk (Kd.R_drewN HR.out nd)
              have HB1 := Aside0.mk (pw_below_drewN HB.out nd)
              have HBK1 := Aside0.mk (blk_drewN HBK.out nd)
              generalize wr.drewN nd = w2 at *
              clear HR HB HBK hd0 hc1
              go_wp2_with (at_builtin; refine Kd.R_append (Kd.int .i64) (w0 := W) W.heap.size rfl (.tmp 30) (.tmp 32) 22 3 (.int .i64 0) 8 rfl Try.underlying22 info3 rfl (by decide) (by omega) (.slice Au nl cu) (curP l0 kk y j x) z [.int .i64 z] (fun k => W.heap.size ≤ k ∧ k ≠ b) (fun _ => False) rfl rfl rfl (fun _ hk => hk.elim) (fun k hk => ⟨Nat.le_trans HB1.out.size hk, by have := blk_lt HBK1.out; omega⟩) HR1.out HB1.out HB1.out.size (by have := HLN.out; have := HSB.out; have := HNL.out; omega) ?_; intro v3 w3 ho hb3 hg3 hat; have ho' : Kd.R (Kd.int .i64) 3 w3 W.heap.size (fun k => W.heap.size ≤ k ∧ k ≠ b) v3 (curP l0 kk y j x ++ [z]) := ho; have HR3 := Aside0.mk ho'; have HB3 := Aside0.mk hb3; have HBK3 := Aside0.mk (blk_grown HBK1.out hg3 (fun e => (HR1.out.1 b e.symm).2 rfl)); obtain ⟨A5, c5, rfl⟩ := Kd.R_slice ho'; clear ho ho' hb3 hg3 hat)
              go_roundg (y.f1.length - (j + 1))
              case measure => omega
              case rel =>
                refine ⟨j + 1, by omega, by omega, by go_num, ⟨?_⟩, HB3, HBK3⟩
                rw [HSN2.out, if_pos ⟨HE.out, hsz⟩]
                have h9 := HR3.out
                rw [List.length_append] at h9
                exact h9
            | false =>
              rw [hsz] at hsym
              go_wp2_with fail
              refine (gram_symbol.calls _ _ _ hsym.out).mono ?_
              rintro e w' ⟨rfl, ⟨nd, rfl⟩⟩
              have HR1 := Aside0.mk (Kd.R_drewN HR.out nd)
              have HB1 := Aside0.mk (pw_below_drewN HB.out nd)
              have HBK1 := Aside0.mk (blk_drewN HBK.out nd)
              clear HR HB HBK hd0 hc1
              go_wp2
              go_roundg (y.f1.length - (j + 1))
              case measure => omega
              case rel =>
                refine ⟨j + 1, by omega, by omega, by go_num, ⟨?_⟩, HB1, HBK1⟩
                rw [HSN2.out, if_neg (fun h => by rw [h.2] at hsz; cases hsz), List.append_nil]
                exact HR1.out
          · have hez : (y.f0 == x) = false := beq_eq_false_iff_ne.2 he
            go_wp2
            go_roundg (y.f1.length - (j + 1))
            case measure => omega
            case rel =>
              refine ⟨j + 1, by omega, by omega, by go_num, ⟨?_⟩, HB, HBK⟩
              rw [HSN2.out, if_neg (fun h => he h.1), List.append_nil]
              exact HR.out
        · have hljz : ¬ (j : Int) < (y.f1.length : Int) := by omega
          have hjl : j = y.f1.length := by omega
          subst hjl
          go_wp2
          go_roundg (l0.length - (kk + 1))
          case measure => omega
          case rel =>
            refine ⟨kk + 1, by omega, by omega, by go_num, ⟨?_⟩, HB⟩
            rw [HSN.out]
            have h8 : curP l0 kk y y.f1.length x = nextP (l0.take kk) x ++ (if y.f0 = x then y.f1.filter symbolB else []) := by unfold curP; rw [List.take_length]
            rw [← h8]
            exact Kd.R_mono HR.out (fun k hk => hk.1)
    · have hltz : ¬ (kk : Int) < (l0.length : Int) := by omega
      have hkl : kk = l0.length := by omega
      subst hkl
      obtain ⟨A5, c5, e5, hle5, hC5⟩ := Kd.R_reads HR.out
      injection e5 with e6 e7 e8
      subst e6 e8
      rw [List.take_length] at hle5 hC5 
      have HC5 := Aside0.mk hC5
      clear hC5 e7
      go_wp2
      go_ret
      exact ⟨_, _, rfl, hle5, HC5.out, HB.out⟩
theorem reachL_len (next : Int → List Int) (l : List Int) : (reachL next l).length ≤ 20 := Nat.le_trans (List.length_filter_le _ _) (by decide)
noncomputable def gram_Reached.f (l0 : List RuleR) : Option (List Int) := if sumLen l0 ≤ 1000000 then some (reachL (nextP l0) [0]) else none
theorem reached_from (l0 : List RuleR) (hb : sumLen l0 ≤ 1000000) (fv : Value) (A : Option Addr) (c : Nat) (w : World) (hf : FnLists Try.prog w inSym fv (nextP l0)) (hC : Kd.C (Kd.int .i64) w A ([0] : List Int).length [0]) (hc : ([0] : List Int).length ≤ c) :
    Calls Try.prog 39 #[.slice A 1 c, fv] w fun e w' => ∃ v0_ : Value, e = .returned (v0_) ∧ Kd.R (Kd.int .i64) 3 w' w.heap.size (fun _ => True) v0_ (reachL (nextP l0) [0]) ∧ Below w.heap.size w w' := by
  have h0 : ∀ x ∈ ([0] : List Int), inSym x := by intro x hx; rw [List.mem_singleton.1 hx]; exact ⟨by omega, by omega⟩
  obtain ⟨k, r, h1, h2⟩ := from_reach (nextP l0) (fun y _ => Nat.le_trans (nextP_len l0 y) hb) (fun x _ => nextP_sym l0 x) [0] h0 (by simp)
  rw [← h2]
  exact from_walk fv (nextP l0) inSym (fun y hy => ⟨⟨by have := hy.1; omega, by have := hy.2; omega⟩, nextP_sym l0 y⟩) k A c [0] r w hf h0 hC hc h1
theorem gram_Reached.calls (A0 : Option Addr) (c0 : Nat) (l0 : List RuleR) (r : List Int) (w : World) (hr0 : Kd.C k26 w A0 l0.length l0) (hc0 : l0.length ≤ c0) (h : gram_Reached.f l0 = some r) :
    Calls Try.prog 24 #[.slice A0 l0.length c0] w fun e w' => ∃ v0_ : Value, e = .returned (v0_) ∧ Kd.R (Kd.int .i64) 3 w' w.heap.size (fun _ => True) v0_ r ∧ Below w.heap.size w w' := by
  unfold gram_Reached.f at h
  split at h
  case isFalse => cases h
  case isTrue hb =>
  obtain rfl := Option.some.inj h
  have HB := Aside0.mk hb
  have HG := Aside0.mk (cell_new0 w (.slice A0 l0.length c0) 36)
  have HB1 := Aside0.mk (below_alloc (Below.refl w.heap.size w) (.cells #[.slice A0 l0.length c0] 36))
  have HC1 := Aside0.mk (Kd.C_alloc hr0 (.cells #[.slice A0 l0.length c0] 36))
  have HFN := Aside0.mk (next_walk _ w.heap.size A0 c0 l0 HG.out hc0 HC1.out hb)
  clear hr0 h hb
  go_enter Try.func24, Try.ntmps24
  go_wp2_with fail
  refine (reached_from l0 HB.out _ _ _ _ ?hf ?hC ?hc).mono ?_
  case hf =>
    obtain ⟨g', pre, lb, e1, e2, e3⟩ := HFN.out
    exact ⟨g', pre, lb, e1, e2, fun W x hb hd => e3 W x ((below_alloc (Below.refl _ _) _).trans (hb.mono (by simp))) hd⟩
  case hC =>
    have h9 := World.ownsRow_lit (base := 0) (e := 3) (size := 1) (w.alloc (.cells #[.slice A0 l0.length c0] 36)) #[.int .i64 0] 1 (Nat.zero_le _) (by simp [maxLen]) rfl
    have h8 : Kd.R (Kd.int .i64) 3 _ 0 (fun _ => True) _ [0] := Kd.R_of_own (enc := Value.int .i64) (h1 := fun _ => rfl) (xs := [0]) h9 (fun _ _ => trivial)
    have h7 := (Kd.R_reads' h8).2.2
    rw [show (w.alloc (.cells #[.slice A0 l0.length c0] 36)).heap.size = w.heap.size + 1 by simp] at h7
    exact h7
  case hc => simp
  rintro e w2 ⟨v2, rfl, hR2, hb2⟩
  obtain ⟨A5, c5, rfl, hc5, hC5⟩ := Kd.R_reads hR2
  have HB2 := Aside0.mk (below_step (below_alloc HB1.out _) hb2)
  have HC5 := Aside0.mk hC5
  have HL5 := Aside0.mk hc5
  have hrl := reachL_len (nextP l0) [0]
  clear hR2 hb2 hC5 hc5
  go_wp2_with fail
  refine (slices_Clone_int_int.calls A5 c5 (reachL (nextP l0) [0]) (reachL (nextP l0) [0]) w2 HC5.out HL5.out (if_pos (by omega))).mono ?_
  rintro e w3 ⟨v3, rfl, hR3, hb3⟩
  have HR3 := Aside0.mk hR3
  have HB3 := Aside0.mk (below_step HB2.out hb3)
  clear hR3 hb3
  go_wp2
  go_ret
  exact ⟨_, rfl, Kd.R_lower HR3.out HB2.out.size, HB3.out⟩
end Go.Proofs.Ytjomlfdkmdgclaa.P
end
section
namespace Go.Proofs.Ytjomlfdkmdgclaa.P
open Go.RowKit Go.Proofs.YtjomlfdkmdgclaaW.PrintWords Go.Proofs.YtjomlfdkmdgclaaW.PrintLast Go.Proofs.YtjomlfdkmdgclaaW.PrintMore
attribute [local go_sem] max2_int min2_int max_two min_two max_three min_three max_four min_four   
set_option linter.unusedVariables false
set_option linter.unusedSimpArgs false
theorem Reach.inv {next : Int → List Int} {l0 : List Int} {P : Int → Prop} (h0 : ∀ x ∈ l0, P x) (hs : ∀ x, P x → ∀ y ∈ next x, P y) {y : Int} (h : Reach next l0 y) : P y := by
  induction h with
  | base h => exact h0 _ h
  | step _ h ih => exact hs _ ih _ h
theorem Reach.mono {next next' : Int → List Int} {l0 l0' : List Int} (hd : ∀ x, inSym x → ∀ y ∈ next x, inSym y) (hl : ∀ x ∈ l0, inSym x) (h0 : ∀ x ∈ l0, x ∈ l0') (hs : ∀ x, inSym x → ∀ y ∈ next x, y ∈ next' x) {y : Int} (h : Reach next l0 y) : Reach next' l0' y := by
  have : Reach next' l0' y ∧ inSym y := by
    induction h with
    | base h => exact ⟨.base (h0 _ h), hl _ h⟩
    | step _ h ih => exact ⟨.step ih.1 (hs _ ih.2 _ h), hd _ ih.2 _ h⟩
  exact this.1
def hits (r : Rule') (p : Int × Int) : Prop := r.f1 = [p.2] ∧ inSym p.2 ∧ r.f0 = p.1
theorem hits_iff (r : Rule') (p : Int × Int) : hits r p ↔ (r.f1.length = 1 ∧ 0 ≤ rd r.f1 0 ∧ rd r.f1 0 < 20) ∧ p = (r.f0, rd r.f1 0) := by
  unfold hits inSym
  constructor
  · rintro ⟨h1, h2, h3⟩
    have h4 : rd r.f1 0 = p.2 := by rw [h1]; rfl
    rw [h4, h3, h1]
    exact ⟨⟨rfl, h2⟩, rfl⟩
  · rintro ⟨⟨h1, h2, h3⟩, rfl⟩
    refine ⟨?_, ⟨h2, h3⟩, rfl⟩
    match hr : r.f1, h1 with
    | [x], _ => simp [rd]
theorem found_pos (p : Int × Int) : ∀ (l : List Rule') (m : List ((Int × Int) × Int)), (∀ q, 0 ≤ (mget m q).getD 0) → (0 < (mget (l.foldl foundStep m) p).getD 0 ↔ 0 < (mget m p).getD 0 ∨ ∃ r ∈ l, hits r p)
  | [], m, h => by simp
  | r :: l, m, h => by
    have h2 : ∀ q, 0 ≤ (mget (foundStep m r) q).getD 0 := by
      intro q
      unfold foundStep
      split
      · by_cases e : q = (r.f0, rd r.f1 0)
        · subst e
          rw [mget_mput_same]
          have := h (r.f0, rd r.f1 0)
          simp only [Option.getD_some]
          omega
        · rw [mget_mput_other _ _ _ e]; exact h q
      · exact h q
    rw [List.foldl_cons, found_pos p l _ h2]
    have h3 : 0 < (mget (foundStep m r) p).getD 0 ↔ 0 < (mget m p).getD 0 ∨ hits r p := by
      rw [hits_iff]
      unfold foundStep
      split
      case isTrue hc =>
        by_cases e : p = (r.f0, rd r.f1 0)
        · have := h p
          rw [e, mget_mput_same]
          simp only [Option.getD_some]
          rw [e] at this
          constructor
          · intro _; exact .inr ⟨hc, trivial⟩
          · intro _; omega
        · rw [mget_mput_other _ _ _ e]
          exact ⟨.inl, fun h => h.elim id (fun h => absurd h.2 e)⟩
      case isFalse hc => exact ⟨.inl, fun h => h.elim id (fun h => absurd h.1 hc)⟩
    rw [h3, or_assoc]
    simp
theorem mem_rowsNext (l0 : List Rule') (x : Int) (hx : inSym x) (y : Int) : y ∈ rowsNext l0 x ↔ inSym y ∧ ∃ r ∈ l0, r.f0 = x ∧ r.f1 = [y] := by
  obtain ⟨n, rfl⟩ : ∃ n : Nat, x = n := ⟨x.toNat, by have := hx.1; omega⟩
  rw [rowsNext_at l0 n (by have := hx.2; omega)]
  unfold rowUpto foundL
  rw [List.mem_filter]
  have hm : y ∈ (List.range 20).map (fun (x : Nat) => (x : Int)) ↔ inSym y := mem_symbols y
  rw [hm, decide_eq_true_eq, found_pos _ l0 [] (fun q => by simp [mget])]
  simp only [mget, Option.getD_none, Int.lt_irrefl, false_or, hits]
  constructor
  · rintro ⟨h1, r, hr, h2, _, h3⟩
    exact ⟨h1, r, hr, h3, h2⟩
  · rintro ⟨h1, r, hr, h2, h3⟩
    exact ⟨h1, r, hr, h3, h1, h2⟩
theorem leadsBack_iff (l0 : List Rule') (x : Int) (hx : inSym x) : leadsBack l0 x = true ↔ Reach (rowsNext l0) (rowsNext l0 x) x := by
  unfold leadsBack
  rw [decide_eq_true_eq, mem_reachL (rowsNext_sym l0) (rowsNext_sym l0 x hx)]
theorem checkP_iff (l0 : List Rule') : checkP l0 = true ↔ l0.length ≤ 60 ∧ l0.all rightR = true ∧ ∀ x, inSym x → ¬ Reach (rowsNext l0) (rowsNext l0 x) x := by
  unfold checkP
  rw [Bool.and_eq_true, Bool.and_eq_true, decide_eq_true_eq, List.all_eq_true (l := symbols)]
  refine and_congr Iff.rfl (and_congr Iff.rfl ⟨fun h x hx => ?_, fun h x hx => ?_⟩)
  · have h1 := h x ((mem_symbols x).2 hx)
    rw [← leadsBack_iff l0 x hx]
    intro h2
    rw [h2] at h1
    cases h1
  · have hx' := (mem_symbols x).1 hx
    have h1 := h x hx'
    rw [← leadsBack_iff l0 x hx'] at h1
    simp [h1]
theorem no_round (l0 : List Rule') (f : Int → Int) (h : ∀ r ∈ l0, ∀ y, r.f1 = [y] → inSym r.f0 → inSym y → f r.f0 < f y) (x : Int) (hx : inSym x) : ¬ Reach (rowsNext l0) (rowsNext l0 x) x := by
  have hstep : ∀ x, inSym x → ∀ y ∈ rowsNext l0 x, f x < f y := by
    intro x hx y hy
    obtain ⟨h1, r, hr, h2, h3⟩ := (mem_rowsNext l0 x hx y).1 hy
    subst h2
    exact h r hr y h3 hx h1
  intro hr
  have := Reach.inv (P := fun y => inSym y ∧ f x < f y) (fun y hy => ⟨rowsNext_sym l0 x hx y hy, hstep x hx y hy⟩) (fun z hz y hy => ⟨rowsNext_sym l0 z hz.1 y hy, Int.lt_trans hz.2 (hstep z hz.1 y hy)⟩) hr
  exact Int.lt_irrefl _ this.2
theorem mem_nextP (l0 : List Rule') (x y : Int) : y ∈ nextP l0 x ↔ inSym y ∧ ∃ r ∈ l0, r.f0 = x ∧ y ∈ r.f1 := by
  unfold nextP
  rw [List.mem_flatMap]
  constructor
  · rintro ⟨r, hr, h⟩
    split at h
    case isTrue he =>
      have := List.mem_filter.1 h
      exact ⟨by have := this.2; simpa [symbolB, inSym] using this, r, hr, he, this.1⟩
    case isFalse => cases h
  · rintro ⟨h1, r, hr, h2, h3⟩
    refine ⟨r, hr, ?_⟩
    rw [if_pos h2, List.mem_filter]
    exact ⟨h3, by simpa [symbolB, inSym] using h1⟩
theorem inSym_zero : inSym 0 := ⟨by omega, by omega⟩
end Go.Proofs.Ytjomlfdkmdgclaa.P
end
