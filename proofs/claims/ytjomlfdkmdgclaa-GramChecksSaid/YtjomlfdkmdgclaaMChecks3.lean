/- GramChecks: of any rules whether they may be, their units, what is reached, are the document's. Part 3: contracts of the functions that the law reaches, and words for them. -/
import Derived.BigRegion
import Derived.Deep.Slices
import Derived.ChangeArms
import Derived.ChangeSame
import Derived.Test.YtjomlfdkmdgclaaMChecks2
section
namespace Go.Proofs.Ytjomlfdkmdgclaa.P
open Go.RowKit Go.Proofs.YtjomlfdkmdgclaaW.PrintWords Go.Proofs.YtjomlfdkmdgclaaW.PrintLast Go.Proofs.YtjomlfdkmdgclaaW.PrintMore
attribute [local go_sem] max2_int min2_int max_two min_two max_three min_three max_four min_four   
set_option linter.unusedVariables false
set_option linter.unusedSimpArgs false
mutual
noncomputable def interlocutorref4_Right.j0 : Nat → Bool → Int → List Int → Int → List Int → Int → Option (Bool)
  | 0, _, _, _, _, _, _ => none
  | k + 1, x36, x139000, x139001, x139002, x139003, x139004 => if x36 = true then (some false) else (interlocutorref4_Right.l0 k 0 x139000 x139001 x139002 x139003 x139004)
noncomputable def interlocutorref4_Right.l0 : Nat → Int → Int → List Int → Int → List Int → Int → Option (Bool)
  | 0, _, _, _, _, _, _ => none
  | k + 1, x3, x139000, x139001, x139002, x139003, x139004 => if x3 < (x139001.length : Int) then (if 0 ≤ x3 then (if (rd x139001 x3) ≥ 20 then (some false) else (if (rd x139001 x3) < (-61) then (some false) else (interlocutorref4_Right.l0 k (wrap64 (x3 + 1)) x139000 x139001 x139002 x139003 x139004))) else (none)) else ((interlocutorref4_wants.f k x139002).bind fun bt141 => (if (x139003.length : Int) < bt141.1 then (interlocutorref4_Right.j2 k true x139000 x139001 x139002 x139003 x139004) else (interlocutorref4_Right.j2 k (decide ((x139003.length : Int) > bt141.2)) x139000 x139001 x139002 x139003 x139004)))
noncomputable def interlocutorref4_Right.j2 : Nat → Bool → Int → List Int → Int → List Int → Int → Option (Bool)
  | 0, _, _, _, _, _, _ => none
  | k + 1, x78, x139000, x139001, x139002, x139003, x139004 => if x78 = true then (some false) else (interlocutorref4_Right.l1 k 0 x139000 x139001 x139002 x139003 x139004)
noncomputable def interlocutorref4_Right.l1 : Nat → Int → Int → List Int → Int → List Int → Int → Option (Bool)
  | 0, _, _, _, _, _, _ => none
  | k + 1, x6, x139000, x139001, x139002, x139003, x139004 => if x6 < (x139003.length : Int) then (if 0 ≤ x6 then (if (rd x139003 x6) < 0 then (some false) else (if (rd x139003 x6) ≥ (x139001.length : Int) then (some false) else (interlocutorref4_Right.l1 k (wrap64 (x6 + 1)) x139000 x139001 x139002 x139003 x139004))) else (none)) else (some true)
end
noncomputable def interlocutorref4_Right.f (k : Nat) (a0_0 : Int) (l0_1 : List Int) (a0_2 : Int) (l0_3 : List Int) (a0_4 : Int) : Option (Bool) := if a0_0 < 0 then (interlocutorref4_Right.j0 k true a0_0 l0_1 a0_2 l0_3 a0_4) else (if a0_0 ≥ 20 then (interlocutorref4_Right.j0 k true a0_0 l0_1 a0_2 l0_3 a0_4) else (if (l0_1.length : Int) < 1 then (interlocutorref4_Right.j0 k true a0_0 l0_1 a0_2 l0_3 a0_4) else (if (l0_1.length : Int) > 6 then (interlocutorref4_Right.j0 k true a0_0 l0_1 a0_2 l0_3 a0_4) else (if a0_4 < 0 then (interlocutorref4_Right.j0 k true a0_0 l0_1 a0_2 l0_3 a0_4) else (interlocutorref4_Right.j0 k (decide (a0_4 > 100)) a0_0 l0_1 a0_2 l0_3 a0_4)))))
theorem interlocutorref4_Right.mono_l : ∀ k, (∀ y0 y1 y2 y3 y4 y5, LeO (interlocutorref4_Right.j0 k y0 y1 y2 y3 y4 y5) (interlocutorref4_Right.j0 (k + 1) y0 y1 y2 y3 y4 y5)) ∧ (∀ y0 y1 y2 y3 y4 y5, LeO (interlocutorref4_Right.l0 k y0 y1 y2 y3 y4 y5) (interlocutorref4_Right.l0 (k + 1) y0 y1 y2 y3 y4 y5)) ∧ (∀ y0 y1 y2 y3 y4 y5, LeO (interlocutorref4_Right.j2 k y0 y1 y2 y3 y4 y5) (interlocutorref4_Right.j2 (k + 1) y0 y1 y2 y3 y4 y5)) ∧ (∀ y0 y1 y2 y3 y4 y5, LeO (interlocutorref4_Right.l1 k y0 y1 y2 y3 y4 y5) (interlocutorref4_Right.l1 (k + 1) y0 y1 y2 y3 y4 y5))
  | 0 => ⟨fun _ _ _ _ _ _ r h => by simp [interlocutorref4_Right.j0] at h, fun _ _ _ _ _ _ r h => by simp [interlocutorref4_Right.l0] at h, fun _ _ _ _ _ _ r h => by simp [interlocutorref4_Right.j2] at h, fun _ _ _ _ _ _ r h => by simp [interlocutorref4_Right.l1] at h⟩
  | k + 1 => by
    obtain ⟨ih0, ih1, ih2, ih3⟩ := interlocutorref4_Right.mono_l k
    refine ⟨?_, ?_, ?_, ?_⟩
    · intro y0 y1 y2 y3 y4 y5
      unfold interlocutorref4_Right.j0
      repeat' first
      | (with_reducible exact ih0 _ _ _ _ _ _)
      | (with_reducible exact ih1 _ _ _ _ _ _)
      | (with_reducible exact ih2 _ _ _ _ _ _)
      | (with_reducible exact ih3 _ _ _ _ _ _)
      | (with_reducible exact interlocutorref4_wants.mono _ _)
      | (with_reducible exact LeO.refl _)
      | (with_reducible exact LeO.none _)
      | (with_reducible refine LeO.ite ?_ ?_)
      | (with_reducible refine LeO.bind ?_ (fun _ => ?_))
      | exact ih0 _ _ _ _ _ _
      | exact ih1 _ _ _ _ _ _
      | exact ih2 _ _ _ _ _ _
      | exact ih3 _ _ _ _ _ _
      | exact interlocutorref4_wants.mono _ _
      | exact LeO.none _
      | refine LeO.ite ?_ ?_
      | refine LeO.bind ?_ (fun _ => ?_)
    · intro y0 y1 y2 y3 y4 y5
      unfold interlocutorref4_Right.l0
      repeat' first
      | (with_reducible exact ih0 _ _ _ _ _ _)
      | (with_reducible exact ih1 _ _ _ _ _ _)
      | (with_reducible exact ih2 _ _ _ _ _ _)
      | (with_reducible exact ih3 _ _ _ _ _ _)
      | (with_reducible exact interlocutorref4_wants.mono _ _)
      | (with_reducible exact LeO.refl _)
      | (with_reducible exact LeO.none _)
      | (with_reducible refine LeO.ite ?_ ?_)
      | (with_reducible refine LeO.bind ?_ (fun _ => ?_))
      | exact ih0 _ _ _ _ _ _
      | exact ih1 _ _ _ _ _ _
      | exact ih2 _ _ _ _ _ _
      | exact ih3 _ _ _ _ _ _
      | exact interlocutorref4_wants.mono _ _
      | exact LeO.none _
      | refine LeO.ite ?_ ?_
      | refine LeO.bind ?_ (fun _ => ?_)
    · intro y0 y1 y2 y3 y4 y5
      unfold interlocutorref4_Right.j2
      repeat' first
      | (with_reducible exact ih0 _ _ _ _ _ _)
      | (with_reducible exact ih1 _ _ _ _ _ _)
      | (with_reducible exact ih2 _ _ _ _ _ _)
      | (with_reducible exact ih3 _ _ _ _ _ _)
      | (with_reducible exact interlocutorref4_wants.mono _ _)
      | (with_reducible exact LeO.refl _)
      | (with_reducible exact LeO.none _)
      | (with_reducible refine LeO.ite ?_ ?_)
      | (with_reducible refine LeO.bind ?_ (fun _ => ?_))
      | exact ih0 _ _ _ _ _ _
      | exact ih1 _ _ _ _ _ _
      | exact ih2 _ _ _ _ _ _
      | exact ih3 _ _ _ _ _ _
      | exact interlocutorref4_wants.mono _ _
      | exact LeO.none _
      | refine LeO.ite ?_ ?_
      | refine LeO.bind ?_ (fun _ => ?_)
    · intro y0 y1 y2 y3 y4 y5
      unfold interlocutorref4_Right.l1
      repeat' first
      | (with_reducible exact ih0 _ _ _ _ _ _)
      | (with_reducible exact ih1 _ _ _ _ _ _)
      | (with_reducible exact ih2 _ _ _ _ _ _)
      | (with_reducible exact ih3 _ _ _ _ _ _)
      | (with_reducible exact interlocutorref4_wants.mono _ _)
      | (with_reducible exact LeO.refl _)
      | (with_reducible exact LeO.none _)
      | (with_reducible refine LeO.ite ?_ ?_)
      | (with_reducible refine LeO.bind ?_ (fun _ => ?_))
      | exact ih0 _ _ _ _ _ _
      | exact ih1 _ _ _ _ _ _
      | exact ih2 _ _ _ _ _ _
      | exact ih3 _ _ _ _ _ _
      | exact interlocutorref4_wants.mono _ _
      | exact LeO.none _
      | refine LeO.ite ?_ ?_
      | refine LeO.bind ?_ (fun _ => ?_)
theorem interlocutorref4_Right.mono : ∀ a0 a1 a2 a3 a4 k, LeO (interlocutorref4_Right.f k a0 a1 a2 a3 a4) (interlocutorref4_Right.f (k + 1) a0 a1 a2 a3 a4) := by
  intro a0 a1 a2 a3 a4 k
  obtain ⟨ih0, ih1, ih2, ih3⟩ := interlocutorref4_Right.mono_l k
  unfold interlocutorref4_Right.f
  repeat' first
      | (with_reducible exact ih0 _ _ _ _ _ _)
      | (with_reducible exact ih1 _ _ _ _ _ _)
      | (with_reducible exact ih2 _ _ _ _ _ _)
      | (with_reducible exact ih3 _ _ _ _ _ _)
      | (with_reducible exact interlocutorref4_wants.mono _ _)
      | (with_reducible exact LeO.refl _)
      | (with_reducible exact LeO.none _)
      | (with_reducible refine LeO.ite ?_ ?_)
      | (with_reducible refine LeO.bind ?_ (fun _ => ?_))
      | exact ih0 _ _ _ _ _ _
      | exact ih1 _ _ _ _ _ _
      | exact ih2 _ _ _ _ _ _
      | exact ih3 _ _ _ _ _ _
      | exact interlocutorref4_wants.mono _ _
      | exact LeO.none _
      | refine LeO.ite ?_ ?_
      | refine LeO.bind ?_ (fun _ => ?_)
set_option maxHeartbeats 8000000 in
set_option maxRecDepth 100000 in
theorem interlocutorref4_Right.calls (k : Nat) (a0_0 : Int) (A0_1 : Option Addr) (c0_1 : Nat) (l0_1 : List Int) (a0_2 : Int) (A0_3 : Option Addr) (c0_3 : Nat) (l0_3 : List Int) (a0_4 : Int) (r : Bool) (w : World) (hr0_1 : Kd.C (Kd.int .i64) w A0_1 l0_1.length l0_1) (hc0_1 : l0_1.length ≤ c0_1) (hr0_3 : Kd.C (Kd.int .i64) w A0_3 l0_3.length l0_3) (hc0_3 : l0_3.length ≤ c0_3) (h : interlocutorref4_Right.f k a0_0 l0_1 a0_2 l0_3 a0_4 = some r) :
    Calls Try.prog 18 #[.agg #[.int .i64 a0_0, .slice A0_1 l0_1.length c0_1, .int .i64 a0_2, .slice A0_3 l0_3.length c0_3, .int .i64 a0_4]] w fun e w' => e = .returned (.bool r) ∧ Below w.heap.size w w' := by
  have hu26 := Try.underlying26
  have HR0_1 := Aside0.mk hr0_1
  have HC0_1 := Aside0.mk hc0_1
  clear hr0_1 hc0_1
  have HR0_3 := Aside0.mk hr0_3
  have HC0_3 := Aside0.mk hc0_3
  clear hr0_3 hc0_3
  have HB := Aside0.mk (Below.refl w.heap.size w)
  have H : (if a0_0 < 0 then (interlocutorref4_Right.j0 k true a0_0 l0_1 a0_2 l0_3 a0_4) else (if a0_0 ≥ 20 then (interlocutorref4_Right.j0 k true a0_0 l0_1 a0_2 l0_3 a0_4) else (if (l0_1.length : Int) < 1 then (interlocutorref4_Right.j0 k true a0_0 l0_1 a0_2 l0_3 a0_4) else (if (l0_1.length : Int) > 6 then (interlocutorref4_Right.j0 k true a0_0 l0_1 a0_2 l0_3 a0_4) else (if a0_4 < 0 then (interlocutorref4_Right.j0 k true a0_0 l0_1 a0_2 l0_3 a0_4) else (interlocutorref4_Right.j0 k (decide (a0_4 > 100)) a0_0 l0_1 a0_2 l0_3 a0_4)))))) = some r := h
  clear h
  have HC2 := Aside0.mk H
  clear H
  go_enter Try.func18, Try.ntmps18
  go_upto_region 1 with (first | ((with_reducible refine gate_dst (N := 1) rfl ?_); (try (refine gate_guard (by rfl) ?_; dsimp only)); refine box_event ?hg (N := 1) ?hd (cs := #[.int .i64 a0_0, .slice A0_1 l0_1.length c0_1, .int .i64 a0_2, .slice A0_3 l0_3.length c0_3, .int .i64 a0_4]) (t := 26) ?hr ?_; (case hd => rfl); (case hg => rfl); (case hr => first | (go_simp; done) | (go_simp; rfl)); intro gb138 hg w3 hbox hb; have n0_ := Aside0.mk (below_step (by repeat (first | (with_reducible first | exact HB.out | apply below_alloc | apply pw_below_drewN | apply below_drew1) | exact HB.out)) hb); have n1_ := Aside0.mk (hbox); have n2_ := Aside0.mk ((by rw [hg]; exact (below_size (by repeat (first | (with_reducible first | exact HB.out | apply below_alloc | apply pw_below_drewN | apply below_drew1) | exact HB.out))) : w.heap.size ≤ gb138)); have n3_ := Aside0.mk ((by rw [hg]; exact (below_size (by repeat (first | (with_reducible first | exact HB.out | apply below_alloc | apply pw_below_drewN | apply below_drew1) | exact HB.out))) : w.heap.size ≤ gb138)); clear HB; have HB := n0_; have BK138 := n1_; have GW138 := n2_; have GE138 := n3_; clear n0_ n1_ n2_ n3_; clear hb hbox hg))
  repeat (go_quiet (first | ((with_reducible refine gate_dst (N := 1) rfl ?_); (try (refine gate_guard (by rfl) ?_; dsimp only)); refine box_event ?hg (N := 1) ?hd (cs := #[.int .i64 a0_0, .slice A0_1 l0_1.length c0_1, .int .i64 a0_2, .slice A0_3 l0_3.length c0_3, .int .i64 a0_4]) (t := 26) ?hr ?_; (case hd => rfl); (case hg => rfl); (case hr => first | (go_simp; done) | (go_simp; rfl)); intro gb138 hg w3 hbox hb; have n0_ := Aside0.mk (below_step (by repeat (first | (with_reducible first | exact HB.out | apply below_alloc | apply pw_below_drewN | apply below_drew1) | exact HB.out)) hb); have n1_ := Aside0.mk (hbox); have n2_ := Aside0.mk ((by rw [hg]; exact (below_size (by repeat (first | (with_reducible first | exact HB.out | apply below_alloc | apply pw_below_drewN | apply below_drew1) | exact HB.out))) : w.heap.size ≤ gb138)); have n3_ := Aside0.mk ((by rw [hg]; exact (below_size (by repeat (first | (with_reducible first | exact HB.out | apply below_alloc | apply pw_below_drewN | apply below_drew1) | exact HB.out))) : w.heap.size ≤ gb138)); clear HB; have HB := n0_; have BK138 := n1_; have GW138 := n2_; have GE138 := n3_; clear n0_ n1_ n2_ n3_; clear hb hbox hg)); go_upto_region 1 with (first | ((with_reducible refine gate_dst (N := 1) rfl ?_); (try (refine gate_guard (by rfl) ?_; dsimp only)); refine box_event ?hg (N := 1) ?hd (cs := #[.int .i64 a0_0, .slice A0_1 l0_1.length c0_1, .int .i64 a0_2, .slice A0_3 l0_3.length c0_3, .int .i64 a0_4]) (t := 26) ?hr ?_; (case hd => rfl); (case hg => rfl); (case hr => first | (go_simp; done) | (go_simp; rfl)); intro gb138 hg w3 hbox hb; have n0_ := Aside0.mk (below_step (by repeat (first | (with_reducible first | exact HB.out | apply below_alloc | apply pw_below_drewN | apply below_drew1) | exact HB.out)) hb); have n1_ := Aside0.mk (hbox); have n2_ := Aside0.mk ((by rw [hg]; exact (below_size (by repeat (first | (with_reducible first | exact HB.out | apply below_alloc | apply pw_below_drewN | apply below_drew1) | exact HB.out))) : w.heap.size ≤ gb138)); have n3_ := Aside0.mk ((by rw [hg]; exact (below_size (by repeat (first | (with_reducible first | exact HB.out | apply below_alloc | apply pw_below_drewN | apply below_drew1) | exact HB.out))) : w.heap.size ≤ gb138)); clear HB; have HB := n0_; have BK138 := n1_; have GW138 := n2_; have GE138 := n3_; clear n0_ n1_ n2_ n3_; clear hb hbox hg)))
  (try simp only [Act.put, List.setIfInBounds_toArray, List.set_cons_zero, List.set_cons_succ])
  go_cut [36] (fun v36 wc => ∃ (kq : Nat) (x36_1 : Bool), v36 = .bool x36_1 ∧ Aside0 (interlocutorref4_Right.j0 kq x36_1 a0_0 l0_1 a0_2 l0_3 a0_4 = some r) ∧ Aside0 (kq ≤ k) ∧ Aside0 (wc.heap[gb138]? = some (.cells #[.int .i64 a0_0, (.slice A0_1 l0_1.length c0_1), .int .i64 a0_2, (.slice A0_3 l0_3.length c0_3), .int .i64 a0_4] 26 (0, 0))) ∧ Aside0 (Below w.heap.size w wc))
  case first =>
    have H := HC2.out
    clear HC2
    by_cases c4 : a0_0 < 0
    · rw [if_pos c4] at H
      have c4b0 : decide (a0_0 < 0) = true := decide_eq_true c4
      clear c4
      (first | rw [c4b0] | (simp only [i64_w, i32_w]; rw [c4b0]) | skip)
      have H' := Aside0.mk H
      clear H
      have hcz5_0 : w3.cell? ⟨gb138, 0, none⟩ = some (.int .i64 a0_0) := (blk_cell BK138.out 0).trans rfl
      have hcz5_1 : w3.cell? ⟨gb138, 1, none⟩ = some (.slice A0_1 l0_1.length c0_1) := (blk_cell BK138.out 1).trans rfl
      have hcz5_2 : w3.cell? ⟨gb138, 2, none⟩ = some (.int .i64 a0_2) := (blk_cell BK138.out 2).trans rfl
      have hcz5_3 : w3.cell? ⟨gb138, 3, none⟩ = some (.slice A0_3 l0_3.length c0_3) := (blk_cell BK138.out 3).trans rfl
      have hcz5_4 : w3.cell? ⟨gb138, 4, none⟩ = some (.int .i64 a0_4) := (blk_cell BK138.out 4).trans rfl
      have hfz5_0 := blk_frozen BK138.out 0
      have hfz5_1 := blk_frozen BK138.out 1
      have hfz5_2 := blk_frozen BK138.out 2
      have hfz5_3 := blk_frozen BK138.out 3
      have hfz5_4 := blk_frozen BK138.out 4
      go_wp2
      repeat (go_quiet (fail); try go_wp2)
      go_meet
      case rel => exact ⟨_, (true), (by first | rfl | (simp; done) | (simp [*]; done)), H', ⟨by first | omega | exact Nat.le_refl _⟩, ⟨by (with_reducible repeat (first | refine blk_drewN ?_ _ | refine blk_drew ?_ | refine blk_alloc ?_ _)); exact BK138.out⟩, ⟨by repeat (first | (with_reducible first | exact HB.out | apply below_alloc | apply pw_below_drewN | apply below_drew1 | refine below_set ?_ GE138.out) | exact HB.out)⟩⟩
    · rw [if_neg c4] at H
      have c4b0 : decide (a0_0 < 0) = false := decide_eq_false c4
      clear c4
      (first | rw [c4b0] | (simp only [i64_w, i32_w]; rw [c4b0]) | skip)
      by_cases c6 : a0_0 ≥ 20
      · rw [if_pos c6] at H
        have c6b0 : decide (20 ≤ a0_0) = true := decide_eq_true c6
        clear c6
        have H' := Aside0.mk H
        clear H
        have hcz7_0 : w3.cell? ⟨gb138, 0, none⟩ = some (.int .i64 a0_0) := (blk_cell BK138.out 0).trans rfl
        have hcz7_1 : w3.cell? ⟨gb138, 1, none⟩ = some (.slice A0_1 l0_1.length c0_1) := (blk_cell BK138.out 1).trans rfl
        have hcz7_2 : w3.cell? ⟨gb138, 2, none⟩ = some (.int .i64 a0_2) := (blk_cell BK138.out 2).trans rfl
        have hcz7_3 : w3.cell? ⟨gb138, 3, none⟩ = some (.slice A0_3 l0_3.length c0_3) := (blk_cell BK138.out 3).trans rfl
        have hcz7_4 : w3.cell? ⟨gb138, 4, none⟩ = some (.int .i64 a0_4) := (blk_cell BK138.out 4).trans rfl
        have hfz7_0 := blk_frozen BK138.out 0
        have hfz7_1 := blk_frozen BK138.out 1
        have hfz7_2 := blk_frozen BK138.out 2
        have hfz7_3 := blk_frozen BK138.out 3
        have hfz7_4 := blk_frozen BK138.out 4
        go_wp2
        repeat (go_quiet (fail); try go_wp2)
        go_meet
        case rel => exact ⟨_, (true), (by first | rfl | (simp; done) | (simp [*]; done)), H', ⟨by first | omega | exact Nat.le_refl _⟩, ⟨by (with_reducible repeat (first | refine blk_drewN ?_ _ | refine blk_drew ?_ | refine blk_alloc ?_ _)); exact BK138.out⟩, ⟨by repeat (first | (with_reducible first | exact HB.out | apply below_alloc | apply pw_below_drewN | apply below_drew1 | refine below_set ?_ GE138.out) | exact HB.out)⟩⟩
      · rw [if_neg c6] at H
        have c6b0 : decide (20 ≤ a0_0) = false := decide_eq_false c6
        clear c6
        by_cases c8 : (l0_1.length : Int) < 1
        · rw [if_pos c8] at H
          have c8b0 : decide ((l0_1.length : Int) < 1) = true := decide_eq_true c8
          have c8b1 : decide (l0_1.length < 1) = true := decide_eq_true (by omega)
          clear c8
          have H' := Aside0.mk H
          clear H
          have hcz9_0 : w3.cell? ⟨gb138, 0, none⟩ = some (.int .i64 a0_0) := (blk_cell BK138.out 0).trans rfl
          have hcz9_1 : w3.cell? ⟨gb138, 1, none⟩ = some (.slice A0_1 l0_1.length c0_1) := (blk_cell BK138.out 1).trans rfl
          have hcz9_2 : w3.cell? ⟨gb138, 2, none⟩ = some (.int .i64 a0_2) := (blk_cell BK138.out 2).trans rfl
          have hcz9_3 : w3.cell? ⟨gb138, 3, none⟩ = some (.slice A0_3 l0_3.length c0_3) := (blk_cell BK138.out 3).trans rfl
          have hcz9_4 : w3.cell? ⟨gb138, 4, none⟩ = some (.int .i64 a0_4) := (blk_cell BK138.out 4).trans rfl
          have hfz9_0 := blk_frozen BK138.out 0
          have hfz9_1 := blk_frozen BK138.out 1
          have hfz9_2 := blk_frozen BK138.out 2
          have hfz9_3 := blk_frozen BK138.out 3
          have hfz9_4 := blk_frozen BK138.out 4
          go_wp2
          repeat (go_quiet (fail); try go_wp2)
          go_meet
          case rel => exact ⟨_, (true), (by first | rfl | (simp; done) | (simp [*]; done)), H', ⟨by first | omega | exact Nat.le_refl _⟩, ⟨by (with_reducible repeat (first | refine blk_drewN ?_ _ | refine blk_drew ?_ | refine blk_alloc ?_ _)); exact BK138.out⟩, ⟨by repeat (first | (with_reducible first | exact HB.out | apply below_alloc | apply pw_below_drewN | apply below_drew1 | refine below_set ?_ GE138.out) | exact HB.out)⟩⟩
        · rw [if_neg c8] at H
          have c8b0 : decide ((l0_1.length : Int) < 1) = false := decide_eq_false c8
          have c8b1 : decide (l0_1.length < 1) = false := decide_eq_false (by omega)
          clear c8
          by_cases c10 : (l0_1.length : Int) > 6
          · rw [if_pos c10] at H
            have c10b0 : decide (6 < (l0_1.length : Int)) = true := decide_eq_true c10
            have c10b1 : decide (6 < l0_1.length) = true := decide_eq_true (by omega)
            clear c10
            have H' := Aside0.mk H
            clear H
            have hcz11_0 : w3.cell? ⟨gb138, 0, none⟩ = some (.int .i64 a0_0) := (blk_cell BK138.out 0).trans rfl
            have hcz11_1 : w3.cell? ⟨gb138, 1, none⟩ = some (.slice A0_1 l0_1.length c0_1) := (blk_cell BK138.out 1).trans rfl
            have hcz11_2 : w3.cell? ⟨gb138, 2, none⟩ = some (.int .i64 a0_2) := (blk_cell BK138.out 2).trans rfl
            have hcz11_3 : w3.cell? ⟨gb138, 3, none⟩ = some (.slice A0_3 l0_3.length c0_3) := (blk_cell BK138.out 3).trans rfl
            have hcz11_4 : w3.cell? ⟨gb138, 4, none⟩ = some (.int .i64 a0_4) := (blk_cell BK138.out 4).trans rfl
            have hfz11_0 := blk_frozen BK138.out 0
            have hfz11_1 := blk_frozen BK138.out 1
            have hfz11_2 := blk_frozen BK138.out 2
            have hfz11_3 := blk_frozen BK138.out 3
            have hfz11_4 := blk_frozen BK138.out 4
            go_wp2
            repeat (go_quiet (fail); try go_wp2)
            go_meet
            case rel => exact ⟨_, (true), (by first | rfl | (simp; done) | (simp [*]; done)), H', ⟨by first | omega | exact Nat.le_refl _⟩, ⟨by (with_reducible repeat (first | refine blk_drewN ?_ _ | refine blk_drew ?_ | refine blk_alloc ?_ _)); exact BK138.out⟩, ⟨by repeat (first | (with_reducible first | exact HB.out | apply below_alloc | apply pw_below_drewN | apply below_drew1 | refine below_set ?_ GE138.out) | exact HB.out)⟩⟩
          · rw [if_neg c10] at H
            have c10b0 : decide (6 < (l0_1.length : Int)) = false := decide_eq_false c10
            have c10b1 : decide (6 < l0_1.length) = false := decide_eq_false (by omega)
            clear c10
            by_cases c12 : a0_4 < 0
            · rw [if_pos c12] at H
              have c12b0 : decide (a0_4 < 0) = true := decide_eq_true c12
              clear c12
              have H' := Aside0.mk H
              clear H
              have hcz13_0 : w3.cell? ⟨gb138, 0, none⟩ = some (.int .i64 a0_0) := (blk_cell BK138.out 0).trans rfl
              have hcz13_1 : w3.cell? ⟨gb138, 1, none⟩ = some (.slice A0_1 l0_1.length c0_1) := (blk_cell BK138.out 1).trans rfl
              have hcz13_2 : w3.cell? ⟨gb138, 2, none⟩ = some (.int .i64 a0_2) := (blk_cell BK138.out 2).trans rfl
              have hcz13_3 : w3.cell? ⟨gb138, 3, none⟩ = some (.slice A0_3 l0_3.length c0_3) := (blk_cell BK138.out 3).trans rfl
              have hcz13_4 : w3.cell? ⟨gb138, 4, none⟩ = some (.int .i64 a0_4) := (blk_cell BK138.out 4).trans rfl
              have hfz13_0 := blk_frozen BK138.out 0
              have hfz13_1 := blk_frozen BK138.out 1
              have hfz13_2 := blk_frozen BK138.out 2
              have hfz13_3 := blk_frozen BK138.out 3
              have hfz13_4 := blk_frozen BK138.out 4
              go_wp2
              repeat (go_quiet (fail); try go_wp2)
              go_meet
              case rel => exact ⟨_, (true), (by first | rfl | (simp; done) | (simp [*]; done)), H', ⟨by first | omega | exact Nat.le_refl _⟩, ⟨by (with_reducible repeat (first | refine blk_drewN ?_ _ | refine blk_drew ?_ | refine blk_alloc ?_ _)); exact BK138.out⟩, ⟨by repeat (first | (with_reducible first | exact HB.out | apply below_alloc | apply pw_below_drewN | apply below_drew1 | refine below_set ?_ GE138.out) | exact HB.out)⟩⟩
            · rw [if_neg c12] at H
              have c12b0 : decide (a0_4 < 0) = false := decide_eq_false c12
              clear c12
              have H' := Aside0.mk H
              clear H
              have hcz14_0 : w3.cell? ⟨gb138, 0, none⟩ = some (.int .i64 a0_0) := (blk_cell BK138.out 0).trans rfl
              have hcz14_1 : w3.cell? ⟨gb138, 1, none⟩ = some (.slice A0_1 l0_1.length c0_1) := (blk_cell BK138.out 1).trans rfl
              have hcz14_2 : w3.cell? ⟨gb138, 2, none⟩ = some (.int .i64 a0_2) := (blk_cell BK138.out 2).trans rfl
              have hcz14_3 : w3.cell? ⟨gb138, 3, none⟩ = some (.slice A0_3 l0_3.length c0_3) := (blk_cell BK138.out 3).trans rfl
              have hcz14_4 : w3.cell? ⟨gb138, 4, none⟩ = some (.int .i64 a0_4) := (blk_cell BK138.out 4).trans rfl
              have hfz14_0 := blk_frozen BK138.out 0
              have hfz14_1 := blk_frozen BK138.out 1
              have hfz14_2 := blk_frozen BK138.out 2
              have hfz14_3 := blk_frozen BK138.out 3
              have hfz14_4 := blk_frozen BK138.out 4
              go_wp2
              repeat (go_quiet (fail); try go_wp2)
              go_meet
              case rel => exact ⟨_, (decide (a0_4 > 100)), (by first | rfl | (simp; done) | (simp [*]; done)), H', ⟨by first | omega | exact Nat.le_refl _⟩, ⟨by (with_reducible repeat (first | refine blk_drewN ?_ _ | refine blk_drew ?_ | refine blk_alloc ?_ _)); exact BK138.out⟩, ⟨by repeat (first | (with_reducible first | exact HB.out | apply below_alloc | apply pw_below_drewN | apply below_drew1 | refine below_set ?_ GE138.out) | exact HB.out)⟩⟩
  case rest =>
    clear HC2
    try clear c1
    try clear p2
    try clear c4
    try clear c4b0
    try clear c6
    try clear c6b0
    try clear c8
    try clear c8b0
    try clear c8b1
    try clear c10
    try clear c10b0
    try clear c10b1
    try clear c12
    try clear c12b0
    try clear hcz11_0
    try clear hcz11_1
    try clear hcz11_2
    try clear hcz11_3
    try clear hcz11_4
    try clear hcz13_0
    try clear hcz13_1
    try clear hcz13_2
    try clear hcz13_3
    try clear hcz13_4
    try clear hcz14_0
    try clear hcz14_1
    try clear hcz14_2
    try clear hcz14_3
    try clear hcz14_4
    try clear hcz5_0
    try clear hcz5_1
    try clear hcz5_2
    try clear hcz5_3
    try clear hcz5_4
    try clear hcz7_0
    try clear hcz7_1
    try clear hcz7_2
    try clear hcz7_3
    try clear hcz7_4
    try clear hcz9_0
    try clear hcz9_1
    try clear hcz9_2
    try clear hcz9_3
    try clear hcz9_4
    try clear hfz11_0
    try clear hfz11_1
    try clear hfz11_2
    try clear hfz11_3
    try clear hfz11_4
    try clear hfz13_0
    try clear hfz13_1
    try clear hfz13_2
    try clear hfz13_3
    try clear hfz13_4
    try clear hfz14_0
    try clear hfz14_1
    try clear hfz14_2
    try clear hfz14_3
    try clear hfz14_4
    try clear hfz5_0
    try clear hfz5_1
    try clear hfz5_2
    try clear hfz5_3
    try clear hfz5_4
    try clear hfz7_0
    try clear hfz7_1
    try clear hfz7_2
    try clear hfz7_3
    try clear hfz7_4
    try clear hfz9_0
    try clear hfz9_1
    try clear hfz9_2
    try clear hfz9_3
    try clear hfz9_4
    obtain ⟨kq, x36_1, rfl, HA, HJ1, BK138, HB⟩ := hcut
    cases kq with
    | zero => exact absurd HA.out (by simp [interlocutorref4_Right.j0])
    | succ kj1 =>
      have H := HA.out
      clear HA
      simp only [interlocutorref4_Right.j0] at H
      by_cases c15 : x36_1 = true
      · subst c15
        have H1 : (some false) = some r := by rw [if_pos rfl] at H; exact H
        clear H
        have H := H1
        clear H1
        obtain rfl := Option.some.inj H
        go_wp2
        repeat (go_quiet (fail); try go_wp2)
        go_ret
        exact ⟨by first | rfl | (simp [errW_none, errW_some] <;> rfl) | (simp [*, errW_none, errW_some] <;> rfl), by repeat (first | (with_reducible first | exact HB.out | apply below_alloc | apply pw_below_drewN | apply below_drew1 | refine below_set ?_ GE138.out) | exact HB.out)⟩
      · replace c15 := Bool.eq_false_iff.mpr c15
        subst c15
        have H1 : (interlocutorref4_Right.l0 kj1 0 a0_0 l0_1 a0_2 l0_3 a0_4) = some r := by rw [if_neg (show ¬ (false = true) by decide)] at H; exact H
        clear H
        have H := H1
        clear H1
        have H' := Aside0.mk H
        clear H
        go_wp2
        repeat (go_quiet (fail); try go_wp2)
        go_loopg [3] kj1 (fun kq v3 w' => ∃ (x3_2 : Int), v3 = .int .i64 x3_2 ∧ Aside0 (interlocutorref4_Right.l0 kq x3_2 a0_0 l0_1 a0_2 l0_3 a0_4 = some r) ∧ Aside0 (kq ≤ kj1) ∧ Aside0 (w'.heap[gb138]? = some (.cells #[.int .i64 a0_0, (.slice A0_1 l0_1.length c0_1), .int .i64 a0_2, (.slice A0_3 l0_3.length c0_3), .int .i64 a0_4] 26 (0, 0))) ∧ Aside0 (Below w.heap.size w w'))
        case atStart => exact ⟨(0), (by first | rfl | (simp; done) | (simp [*]; done)), H', ⟨Nat.le_refl _⟩, ⟨by (with_reducible repeat (first | refine blk_drewN ?_ _ | refine blk_drew ?_ | refine blk_alloc ?_ _)); exact BK138.out⟩, ⟨by repeat (first | (with_reducible first | exact HB.out | apply below_alloc | apply pw_below_drewN | apply below_drew1 | refine below_set ?_ GE138.out) | exact HB.out)⟩⟩
        case round =>
          clear H'
          try clear c1
          try clear p2
          try clear c4
          try clear c4b0
          try clear c6
          try clear c6b0
          try clear c8
          try clear c8b0
          try clear c8b1
          try clear c10
          try clear c10b0
          try clear c10b1
          try clear c12
          try clear c12b0
          try clear c15
          try clear hcz11_0
          try clear hcz11_1
          try clear hcz11_2
          try clear hcz11_3
          try clear hcz11_4
          try clear hcz13_0
          try clear hcz13_1
          try clear hcz13_2
          try clear hcz13_3
          try clear hcz13_4
          try clear hcz14_0
          try clear hcz14_1
          try clear hcz14_2
          try clear hcz14_3
          try clear hcz14_4
          try clear hcz5_0
          try clear hcz5_1
          try clear hcz5_2
          try clear hcz5_3
          try clear hcz5_4
          try clear hcz7_0
          try clear hcz7_1
          try clear hcz7_2
          try clear hcz7_3
          try clear hcz7_4
          try clear hcz9_0
          try clear hcz9_1
          try clear hcz9_2
          try clear hcz9_3
          try clear hcz9_4
          try clear hfz11_0
          try clear hfz11_1
          try clear hfz11_2
          try clear hfz11_3
          try clear hfz11_4
          try clear hfz13_0
          try clear hfz13_1
          try clear hfz13_2
          try clear hfz13_3
          try clear hfz13_4
          try clear hfz14_0
          try clear hfz14_1
          try clear hfz14_2
          try clear hfz14_3
          try clear hfz14_4
          try clear hfz5_0
          try clear hfz5_1
          try clear hfz5_2
          try clear hfz5_3
          try clear hfz5_4
          try clear hfz7_0
          try clear hfz7_1
          try clear hfz7_2
          try clear hfz7_3
          try clear hfz7_4
          try clear hfz9_0
          try clear hfz9_1
          try clear hfz9_2
          try clear hfz9_3
          try clear hfz9_4
          try clear p2
          obtain ⟨x3_2, rfl, HA, HK2, BK138, HB⟩ := hrel
          cases gk with
          | zero => exact absurd HA.out (by simp [interlocutorref4_Right.l0])
          | succ k2 =>
            have H := HA.out
            clear HA
            simp only [interlocutorref4_Right.l0] at H
            by_cases c16 : x3_2 < (l0_1.length : Int)
            · rw [if_pos c16] at H
              have c16b0 : decide (x3_2 < (l0_1.length : Int)) = true := decide_eq_true c16
              clear c16
              by_cases c17 : 0 ≤ x3_2
              · rw [if_pos c17] at H
                have c17b0 : decide (0 ≤ x3_2) = true := decide_eq_true c17
                clear c17
                by_cases c18 : (rd l0_1 x3_2) ≥ 20
                · rw [if_pos c18] at H
                  have c18b0 : decide (20 ≤ (rd l0_1 x3_2)) = true := decide_eq_true c18
                  clear c18
                  obtain rfl := Option.some.inj H
                  have hcz19_0 : wr.cell? ⟨gb138, 0, none⟩ = some (.int .i64 a0_0) := (blk_cell BK138.out 0).trans rfl
                  have hcz19_1 : wr.cell? ⟨gb138, 1, none⟩ = some (.slice A0_1 l0_1.length c0_1) := (blk_cell BK138.out 1).trans rfl
                  have hcz19_2 : wr.cell? ⟨gb138, 2, none⟩ = some (.int .i64 a0_2) := (blk_cell BK138.out 2).trans rfl
                  have hcz19_3 : wr.cell? ⟨gb138, 3, none⟩ = some (.slice A0_3 l0_3.length c0_3) := (blk_cell BK138.out 3).trans rfl
                  have hcz19_4 : wr.cell? ⟨gb138, 4, none⟩ = some (.int .i64 a0_4) := (blk_cell BK138.out 4).trans rfl
                  have hfz19_0 := blk_frozen BK138.out 0
                  have hfz19_1 := blk_frozen BK138.out 1
                  have hfz19_2 := blk_frozen BK138.out 2
                  have hfz19_3 := blk_frozen BK138.out 3
                  have hfz19_4 := blk_frozen BK138.out 4
                  have p139 : 0 ≤ (x3_2 : Int) := of_decide_eq_true (by first | (with_reducible assumption) | assumption)
                  have q139 : x3_2 < (l0_1.length : Int) := of_decide_eq_true (by first | (with_reducible assumption) | assumption)
                  obtain ⟨ad139, e139, hx139_0⟩ := Kd.at_int HR0_1.out x3_2 p139 q139
                  cases e139
                  replace hx139_0 := (HB.out.cell (World.block_lt_of_cell? w _ hx139_0)).trans hx139_0
                  replace p139 := eq_true p139
                  replace q139 := eq_true q139
                  go_wp2
                  repeat (go_quiet (fail); try go_wp2)
                  go_ret
                  exact ⟨by first | rfl | (simp [errW_none, errW_some] <;> rfl) | (simp [*, errW_none, errW_some] <;> rfl), by repeat (first | (with_reducible first | exact HB.out | apply below_alloc | apply pw_below_drewN | apply below_drew1 | refine below_set ?_ GE138.out) | exact HB.out)⟩
                · rw [if_neg c18] at H
                  have c18b0 : decide (20 ≤ (rd l0_1 x3_2)) = false := decide_eq_false c18
                  clear c18
                  by_cases c20 : (rd l0_1 x3_2) < (-61)
                  · rw [if_pos c20] at H
                    have c20b0 : decide ((rd l0_1 x3_2) < (-61)) = true := decide_eq_true c20
                    clear c20
                    obtain rfl := Option.some.inj H
                    have hcz21_0 : wr.cell? ⟨gb138, 0, none⟩ = some (.int .i64 a0_0) := (blk_cell BK138.out 0).trans rfl
                    have hcz21_1 : wr.cell? ⟨gb138, 1, none⟩ = some (.slice A0_1 l0_1.length c0_1) := (blk_cell BK138.out 1).trans rfl
                    have hcz21_2 : wr.cell? ⟨gb138, 2, none⟩ = some (.int .i64 a0_2) := (blk_cell BK138.out 2).trans rfl
                    have hcz21_3 : wr.cell? ⟨gb138, 3, none⟩ = some (.slice A0_3 l0_3.length c0_3) := (blk_cell BK138.out 3).trans rfl
                    have hcz21_4 : wr.cell? ⟨gb138, 4, none⟩ = some (.int .i64 a0_4) := (blk_cell BK138.out 4).trans rfl
                    have hfz21_0 := blk_frozen BK138.out 0
                    have hfz21_1 := blk_frozen BK138.out 1
                    have hfz21_2 := blk_frozen BK138.out 2
                    have hfz21_3 := blk_frozen BK138.out 3
                    have hfz21_4 := blk_frozen BK138.out 4
                    have p139 : 0 ≤ (x3_2 : Int) := of_decide_eq_true (by first | (with_reducible assumption) | assumption)
                    have q139 : x3_2 < (l0_1.length : Int) := of_decide_eq_true (by first | (with_reducible assumption) | assumption)
                    obtain ⟨ad139, e139, hx139_0⟩ := Kd.at_int HR0_1.out x3_2 p139 q139
                    cases e139
                    replace hx139_0 := (HB.out.cell (World.block_lt_of_cell? w _ hx139_0)).trans hx139_0
                    replace p139 := eq_true p139
                    replace q139 := eq_true q139
                    have p140 : 0 ≤ (x3_2 : Int) := of_decide_eq_true (by first | (with_reducible assumption) | assumption)
                    have q140 : x3_2 < (l0_1.length : Int) := of_decide_eq_true (by first | (with_reducible assumption) | assumption)
                    obtain ⟨ad140, e140, hx140_0⟩ := Kd.at_int HR0_1.out x3_2 p140 q140
                    obtain rfl : ad139 = ad140 := (by injection e140)
                    replace hx140_0 := (HB.out.cell (World.block_lt_of_cell? w _ hx140_0)).trans hx140_0
                    replace p140 := eq_true p140
                    replace q140 := eq_true q140
                    go_wp2
                    repeat (go_quiet (fail); try go_wp2)
                    go_ret
                    exact ⟨by first | rfl | (simp [errW_none, errW_some] <;> rfl) | (simp [*, errW_none, errW_some] <;> rfl), by repeat (first | (with_reducible first | exact HB.out | apply below_alloc | apply pw_below_drewN | apply below_drew1 | refine below_set ?_ GE138.out) | exact HB.out)⟩
                  · rw [if_neg c20] at H
                    have c20b0 : decide ((rd l0_1 x3_2) < (-61)) = false := decide_eq_false c20
                    clear c20
                    have H' := Aside0.mk H
                    clear H
                    have hcz22_0 : wr.cell? ⟨gb138, 0, none⟩ = some (.int .i64 a0_0) := (blk_cell BK138.out 0).trans rfl
                    have hcz22_1 : wr.cell? ⟨gb138, 1, none⟩ = some (.slice A0_1 l0_1.length c0_1) := (blk_cell BK138.out 1).trans rfl
                    have hcz22_2 : wr.cell? ⟨gb138, 2, none⟩ = some (.int .i64 a0_2) := (blk_cell BK138.out 2).trans rfl
                    have hcz22_3 : wr.cell? ⟨gb138, 3, none⟩ = some (.slice A0_3 l0_3.length c0_3) := (blk_cell BK138.out 3).trans rfl
                    have hcz22_4 : wr.cell? ⟨gb138, 4, none⟩ = some (.int .i64 a0_4) := (blk_cell BK138.out 4).trans rfl
                    have hfz22_0 := blk_frozen BK138.out 0
                    have hfz22_1 := blk_frozen BK138.out 1
                    have hfz22_2 := blk_frozen BK138.out 2
                    have hfz22_3 := blk_frozen BK138.out 3
                    have hfz22_4 := blk_frozen BK138.out 4
                    have p139 : 0 ≤ (x3_2 : Int) := of_decide_eq_true (by first | (with_reducible assumption) | assumption)
                    have q139 : x3_2 < (l0_1.length : Int) := of_decide_eq_true (by first | (with_reducible assumption) | assumption)
                    obtain ⟨ad139, e139, hx139_0⟩ := Kd.at_int HR0_1.out x3_2 p139 q139
                    cases e139
                    replace hx139_0 := (HB.out.cell (World.block_lt_of_cell? w _ hx139_0)).trans hx139_0
                    replace p139 := eq_true p139
                    replace q139 := eq_true q139
                    have p140 : 0 ≤ (x3_2 : Int) := of_decide_eq_true (by first | (with_reducible assumption) | assumption)
                    have q140 : x3_2 < (l0_1.length : Int) := of_decide_eq_true (by first | (with_reducible assumption) | assumption)
                    obtain ⟨ad140, e140, hx140_0⟩ := Kd.at_int HR0_1.out x3_2 p140 q140
                    obtain rfl : ad139 = ad140 := (by injection e140)
                    replace hx140_0 := (HB.out.cell (World.block_lt_of_cell? w _ hx140_0)).trans hx140_0
                    replace p140 := eq_true p140
                    replace q140 := eq_true q140
                    go_wp2
                    repeat (go_quiet (fail); try go_wp2)
                    go_roundg k2
                    case measure => have := HJ1.out; have := HK2.out; omega
                    case rel => exact ⟨(wrap64 (x3_2 + 1)), (by first | rfl | (simp; done) | (simp [*]; done)), H', ⟨by have := HJ1.out; have := HK2.out; omega⟩, ⟨by (with_reducible repeat (first | refine blk_drewN ?_ _ | refine blk_drew ?_ | refine blk_alloc ?_ _)); exact BK138.out⟩, ⟨by repeat (first | (with_reducible first | exact HB.out | apply below_alloc | apply pw_below_drewN | apply below_drew1 | refine below_set ?_ GE138.out) | exact HB.out)⟩⟩
              · rw [if_neg c17] at H
                exact absurd H (by simp)
            · rw [if_neg c16] at H
              have c16b0 : decide (x3_2 < (l0_1.length : Int)) = false := decide_eq_false c16
              clear c16
              replace H := Option.bind_eq_some_iff.mp H
              obtain ⟨⟨t141, t142⟩, A230, H⟩ := H
              replace H : (if (l0_3.length : Int) < t141 then (interlocutorref4_Right.j2 k2 true a0_0 l0_1 a0_2 l0_3 a0_4) else (interlocutorref4_Right.j2 k2 (decide ((l0_3.length : Int) > t142)) a0_0 l0_1 a0_2 l0_3 a0_4)) = some r := H
              have A23 := Aside0.mk A230
              clear A230
              have HC24 := Aside0.mk H
              clear H
              have hcz25_0 : wr.cell? ⟨gb138, 0, none⟩ = some (.int .i64 a0_0) := (blk_cell BK138.out 0).trans rfl
              have hcz25_1 : wr.cell? ⟨gb138, 1, none⟩ = some (.slice A0_1 l0_1.length c0_1) := (blk_cell BK138.out 1).trans rfl
              have hcz25_2 : wr.cell? ⟨gb138, 2, none⟩ = some (.int .i64 a0_2) := (blk_cell BK138.out 2).trans rfl
              have hcz25_3 : wr.cell? ⟨gb138, 3, none⟩ = some (.slice A0_3 l0_3.length c0_3) := (blk_cell BK138.out 3).trans rfl
              have hcz25_4 : wr.cell? ⟨gb138, 4, none⟩ = some (.int .i64 a0_4) := (blk_cell BK138.out 4).trans rfl
              have hfz25_0 := blk_frozen BK138.out 0
              have hfz25_1 := blk_frozen BK138.out 1
              have hfz25_2 := blk_frozen BK138.out 2
              have hfz25_3 := blk_frozen BK138.out 3
              have hfz25_4 := blk_frozen BK138.out 4
              go_upto_region 9 with (first | (go_at_call 33; (with_reducible refine (interlocutorref4_wants.calls k2 a0_2 t141 t142 _ A23.out).mono ?_); rintro e w' ⟨rfl, ⟨nd, rfl⟩⟩; (try first | exact ⟨rfl, _, World.drewN_drewN _ _ _⟩ | exact ⟨rfl, _, Eq.trans (World.drewN_drewN _ _ _) (congrArg (World.drewN _) (Nat.add_assoc _ _ _))⟩)))
              repeat (go_quiet (first | (go_at_call 33; (with_reducible refine (interlocutorref4_wants.calls k2 a0_2 t141 t142 _ A23.out).mono ?_); rintro e w' ⟨rfl, ⟨nd, rfl⟩⟩; (try first | exact ⟨rfl, _, World.drewN_drewN _ _ _⟩ | exact ⟨rfl, _, Eq.trans (World.drewN_drewN _ _ _) (congrArg (World.drewN _) (Nat.add_assoc _ _ _))⟩))); go_upto_region 9 with (first | (go_at_call 33; (with_reducible refine (interlocutorref4_wants.calls k2 a0_2 t141 t142 _ A23.out).mono ?_); rintro e w' ⟨rfl, ⟨nd, rfl⟩⟩; (try first | exact ⟨rfl, _, World.drewN_drewN _ _ _⟩ | exact ⟨rfl, _, Eq.trans (World.drewN_drewN _ _ _) (congrArg (World.drewN _) (Nat.add_assoc _ _ _))⟩))))
              (try simp only [Act.put, List.setIfInBounds_toArray, List.set_cons_zero, List.set_cons_succ])
              go_cut [78] (fun v78 wc => ∃ (kq : Nat) (x78_23 : Bool), v78 = .bool x78_23 ∧ Aside0 (interlocutorref4_Right.j2 kq x78_23 a0_0 l0_1 a0_2 l0_3 a0_4 = some r) ∧ Aside0 (kq ≤ k2) ∧ Aside0 (wc.heap[gb138]? = some (.cells #[.int .i64 a0_0, (.slice A0_1 l0_1.length c0_1), .int .i64 a0_2, (.slice A0_3 l0_3.length c0_3), .int .i64 a0_4] 26 (0, 0))) ∧ Aside0 (Below w.heap.size w wc))
              case first =>
                have H := HC24.out
                clear HC24
                by_cases c26 : (l0_3.length : Int) < t141
                · rw [if_pos c26] at H
                  have c26b0 : decide ((l0_3.length : Int) < t141) = true := decide_eq_true c26
                  clear c26
                  (first | rw [c26b0] | (simp only [i64_w, i32_w]; rw [c26b0]) | skip)
                  have H' := Aside0.mk H
                  clear H
                  have hcz27_0 : wr.cell? ⟨gb138, 0, none⟩ = some (.int .i64 a0_0) := (blk_cell BK138.out 0).trans rfl
                  have hcz27_1 : wr.cell? ⟨gb138, 1, none⟩ = some (.slice A0_1 l0_1.length c0_1) := (blk_cell BK138.out 1).trans rfl
                  have hcz27_2 : wr.cell? ⟨gb138, 2, none⟩ = some (.int .i64 a0_2) := (blk_cell BK138.out 2).trans rfl
                  have hcz27_3 : wr.cell? ⟨gb138, 3, none⟩ = some (.slice A0_3 l0_3.length c0_3) := (blk_cell BK138.out 3).trans rfl
                  have hcz27_4 : wr.cell? ⟨gb138, 4, none⟩ = some (.int .i64 a0_4) := (blk_cell BK138.out 4).trans rfl
                  have hfz27_0 := blk_frozen BK138.out 0
                  have hfz27_1 := blk_frozen BK138.out 1
                  have hfz27_2 := blk_frozen BK138.out 2
                  have hfz27_3 := blk_frozen BK138.out 3
                  have hfz27_4 := blk_frozen BK138.out 4
                  go_wp2
                  repeat (go_quiet (fail); try go_wp2)
                  go_meet
                  case rel => exact ⟨_, (true), (by first | rfl | (simp; done) | (simp [*]; done)), H', ⟨by have := HJ1.out; have := HK2.out; first | omega | exact Nat.le_refl _⟩, ⟨by (with_reducible repeat (first | refine blk_drewN ?_ _ | refine blk_drew ?_ | refine blk_alloc ?_ _)); exact BK138.out⟩, ⟨by repeat (first | (with_reducible first | exact HB.out | apply below_alloc | apply pw_below_drewN | apply below_drew1 | refine below_set ?_ GE138.out) | exact HB.out)⟩⟩
                · rw [if_neg c26] at H
                  have c26b0 : decide ((l0_3.length : Int) < t141) = false := decide_eq_false c26
                  clear c26
                  (first | rw [c26b0] | (simp only [i64_w, i32_w]; rw [c26b0]) | skip)
                  have H' := Aside0.mk H
                  clear H
                  have hcz28_0 : wr.cell? ⟨gb138, 0, none⟩ = some (.int .i64 a0_0) := (blk_cell BK138.out 0).trans rfl
                  have hcz28_1 : wr.cell? ⟨gb138, 1, none⟩ = some (.slice A0_1 l0_1.length c0_1) := (blk_cell BK138.out 1).trans rfl
                  have hcz28_2 : wr.cell? ⟨gb138, 2, none⟩ = some (.int .i64 a0_2) := (blk_cell BK138.out 2).trans rfl
                  have hcz28_3 : wr.cell? ⟨gb138, 3, none⟩ = some (.slice A0_3 l0_3.length c0_3) := (blk_cell BK138.out 3).trans rfl
                  have hcz28_4 : wr.cell? ⟨gb138, 4, none⟩ = some (.int .i64 a0_4) := (blk_cell BK138.out 4).trans rfl
                  have hfz28_0 := blk_frozen BK138.out 0
                  have hfz28_1 := blk_frozen BK138.out 1
                  have hfz28_2 := blk_frozen BK138.out 2
                  have hfz28_3 := blk_frozen BK138.out 3
                  have hfz28_4 := blk_frozen BK138.out 4
                  go_wp2
                  repeat (go_quiet (fail); try go_wp2)
                  go_meet
                  case rel => exact ⟨_, (decide ((l0_3.length : Int) > t142)), (by first | rfl | (simp; done) | (simp [*]; done)), H', ⟨by have := HJ1.out; have := HK2.out; first | omega | exact Nat.le_refl _⟩, ⟨by (with_reducible repeat (first | refine blk_drewN ?_ _ | refine blk_drew ?_ | refine blk_alloc ?_ _)); exact BK138.out⟩, ⟨by repeat (first | (with_reducible first | exact HB.out | apply below_alloc | apply pw_below_drewN | apply below_drew1 | refine below_set ?_ GE138.out) | exact HB.out)⟩⟩
              case rest =>
                clear HC24
                try clear c1
                try clear p1
                try clear q1
                try clear hx1
                try clear c2
                try clear p2
                try clear c4
                try clear c4b0
                try clear c6
                try clear c6b0
                try clear p6
                try clear c8
                try clear c8b0
                try clear c8b1
                try clear c10
                try clear c10b0
                try clear c10b1
                try clear c12
                try clear c12b0
                try clear p13
                try clear q13
                try clear hx13
                try clear p14
                try clear q14
                try clear hx14
                try clear c15
                try clear c16
                try clear c16b0
                try clear c17
                try clear c17b0
                try clear c18
                try clear c18b0
                try clear c20
                try clear c20b0
                try clear c26
                try clear c26b0
                try clear hcz11_0
                try clear hcz11_1
                try clear hcz11_2
                try clear hcz11_3
                try clear hcz11_4
                try clear hcz13_0
                try clear hcz13_1
                try clear hcz13_2
                try clear hcz13_3
                try clear hcz13_4
                try clear hcz14_0
                try clear hcz14_1
                try clear hcz14_2
                try clear hcz14_3
                try clear hcz14_4
                try clear hcz19_0
                try clear hcz19_1
                try clear hcz19_2
                try clear hcz19_3
                try clear hcz19_4
                try clear hcz21_0
                try clear hcz21_1
                try clear hcz21_2
                try clear hcz21_3
                try clear hcz21_4
                try clear hcz22_0
                try clear hcz22_1
                try clear hcz22_2
                try clear hcz22_3
                try clear hcz22_4
                try clear hcz25_0
                try clear hcz25_1
                try clear hcz25_2
                try clear hcz25_3
                try clear hcz25_4
                try clear hcz27_0
                try clear hcz27_1
                try clear hcz27_2
                try clear hcz27_3
                try clear hcz27_4
                try clear hcz28_0
                try clear hcz28_1
                try clear hcz28_2
                try clear hcz28_3
                try clear hcz28_4
                try clear hcz5_0
                try clear hcz5_1
                try clear hcz5_2
                try clear hcz5_3
                try clear hcz5_4
                try clear hcz7_0
                try clear hcz7_1
                try clear hcz7_2
                try clear hcz7_3
                try clear hcz7_4
                try clear hcz9_0
                try clear hcz9_1
                try clear hcz9_2
                try clear hcz9_3
                try clear hcz9_4
                try clear hfz11_0
                try clear hfz11_1
                try clear hfz11_2
                try clear hfz11_3
                try clear hfz11_4
                try clear hfz13_0
                try clear hfz13_1
                try clear hfz13_2
                try clear hfz13_3
                try clear hfz13_4
                try clear hfz14_0
                try clear hfz14_1
                try clear hfz14_2
                try clear hfz14_3
                try clear hfz14_4
                try clear hfz19_0
                try clear hfz19_1
                try clear hfz19_2
                try clear hfz19_3
                try clear hfz19_4
                try clear hfz21_0
                try clear hfz21_1
                try clear hfz21_2
                try clear hfz21_3
                try clear hfz21_4
                try clear hfz22_0
                try clear hfz22_1
                try clear hfz22_2
                try clear hfz22_3
                try clear hfz22_4
                try clear hfz25_0
                try clear hfz25_1
                try clear hfz25_2
                try clear hfz25_3
                try clear hfz25_4
                try clear hfz27_0
                try clear hfz27_1
                try clear hfz27_2
                try clear hfz27_3
                try clear hfz27_4
                try clear hfz28_0
                try clear hfz28_1
                try clear hfz28_2
                try clear hfz28_3
                try clear hfz28_4
                try clear hfz5_0
                try clear hfz5_1
                try clear hfz5_2
                try clear hfz5_3
                try clear hfz5_4
                try clear hfz7_0
                try clear hfz7_1
                try clear hfz7_2
                try clear hfz7_3
                try clear hfz7_4
                try clear hfz9_0
                try clear hfz9_1
                try clear hfz9_2
                try clear hfz9_3
                try clear hfz9_4
                try clear hx139_0
                try clear hx140_0
                try clear p139
                try clear p140
                try clear p2
                try clear q139
                try clear q140
                obtain ⟨kq, x78_23, rfl, HA, HJ23, BK138, HB⟩ := hcut
                cases kq with
                | zero => exact absurd HA.out (by simp [interlocutorref4_Right.j2])
                | succ kj23 =>
                  have H := HA.out
                  clear HA
                  simp only [interlocutorref4_Right.j2] at H
                  by_cases c29 : x78_23 = true
                  · subst c29
                    have H1 : (some false) = some r := by rw [if_pos rfl] at H; exact H
                    clear H
                    have H := H1
                    clear H1
                    obtain rfl := Option.some.inj H
                    go_wp2
                    repeat (go_quiet (fail); try go_wp2)
                    go_ret
                    exact ⟨by first | rfl | (simp [errW_none, errW_some] <;> rfl) | (simp [*, errW_none, errW_some] <;> rfl), by repeat (first | (with_reducible first | exact HB.out | apply below_alloc | apply pw_below_drewN | apply below_drew1 | refine below_set ?_ GE138.out) | exact HB.out)⟩
                  · replace c29 := Bool.eq_false_iff.mpr c29
                    subst c29
                    have H1 : (interlocutorref4_Right.l1 kj23 0 a0_0 l0_1 a0_2 l0_3 a0_4) = some r := by rw [if_neg (show ¬ (false = true) by decide)] at H; exact H
                    clear H
                    have H := H1
                    clear H1
                    have H' := Aside0.mk H
                    clear H
                    go_wp2
                    repeat (go_quiet (fail); try go_wp2)
                    go_loopg [6] kj23 (fun kq v6 w' => ∃ (x6_4 : Int), v6 = .int .i64 x6_4 ∧ Aside0 (interlocutorref4_Right.l1 kq x6_4 a0_0 l0_1 a0_2 l0_3 a0_4 = some r) ∧ Aside0 (kq ≤ kj23) ∧ Aside0 (w'.heap[gb138]? = some (.cells #[.int .i64 a0_0, (.slice A0_1 l0_1.length c0_1), .int .i64 a0_2, (.slice A0_3 l0_3.length c0_3), .int .i64 a0_4] 26 (0, 0))) ∧ Aside0 (Below w.heap.size w w'))
                    case atStart => exact ⟨(0), (by first | rfl | (simp; done) | (simp [*]; done)), H', ⟨Nat.le_refl _⟩, ⟨by (with_reducible repeat (first | refine blk_drewN ?_ _ | refine blk_drew ?_ | refine blk_alloc ?_ _)); exact BK138.out⟩, ⟨by repeat (first | (with_reducible first | exact HB.out | apply below_alloc | apply pw_below_drewN | apply below_drew1 | refine below_set ?_ GE138.out) | exact HB.out)⟩⟩
                    case round =>
                      clear H'
                      try clear c1
                      try clear p1
                      try clear q1
                      try clear hx1
                      try clear c2
                      try clear p2
                      try clear c4
                      try clear c4b0
                      try clear c6
                      try clear c6b0
                      try clear p6
                      try clear c8
                      try clear c8b0
                      try clear c8b1
                      try clear c10
                      try clear c10b0
                      try clear c10b1
                      try clear c12
                      try clear c12b0
                      try clear p13
                      try clear q13
                      try clear hx13
                      try clear p14
                      try clear q14
                      try clear hx14
                      try clear c15
                      try clear c16
                      try clear c16b0
                      try clear c17
                      try clear c17b0
                      try clear c18
                      try clear c18b0
                      try clear c20
                      try clear c20b0
                      try clear c26
                      try clear c26b0
                      try clear c29
                      try clear hcz11_0
                      try clear hcz11_1
                      try clear hcz11_2
                      try clear hcz11_3
                      try clear hcz11_4
                      try clear hcz13_0
                      try clear hcz13_1
                      try clear hcz13_2
                      try clear hcz13_3
                      try clear hcz13_4
                      try clear hcz14_0
                      try clear hcz14_1
                      try clear hcz14_2
                      try clear hcz14_3
                      try clear hcz14_4
                      try clear hcz19_0
                      try clear hcz19_1
                      try clear hcz19_2
                      try clear hcz19_3
                      try clear hcz19_4
                      try clear hcz21_0
                      try clear hcz21_1
                      try clear hcz21_2
                      try clear hcz21_3
                      try clear hcz21_4
                      try clear hcz22_0
                      try clear hcz22_1
                      try clear hcz22_2
                      try clear hcz22_3
                      try clear hcz22_4
                      try clear hcz25_0
                      try clear hcz25_1
                      try clear hcz25_2
                      try clear hcz25_3
                      try clear hcz25_4
                      try clear hcz27_0
                      try clear hcz27_1
                      try clear hcz27_2
                      try clear hcz27_3
                      try clear hcz27_4
                      try clear hcz28_0
                      try clear hcz28_1
                      try clear hcz28_2
                      try clear hcz28_3
                      try clear hcz28_4
                      try clear hcz5_0
                      try clear hcz5_1
                      try clear hcz5_2
                      try clear hcz5_3
                      try clear hcz5_4
                      try clear hcz7_0
                      try clear hcz7_1
                      try clear hcz7_2
                      try clear hcz7_3
                      try clear hcz7_4
                      try clear hcz9_0
                      try clear hcz9_1
                      try clear hcz9_2
                      try clear hcz9_3
                      try clear hcz9_4
                      try clear hfz11_0
                      try clear hfz11_1
                      try clear hfz11_2
                      try clear hfz11_3
                      try clear hfz11_4
                      try clear hfz13_0
                      try clear hfz13_1
                      try clear hfz13_2
                      try clear hfz13_3
                      try clear hfz13_4
                      try clear hfz14_0
                      try clear hfz14_1
                      try clear hfz14_2
                      try clear hfz14_3
                      try clear hfz14_4
                      try clear hfz19_0
                      try clear hfz19_1
                      try clear hfz19_2
                      try clear hfz19_3
                      try clear hfz19_4
                      try clear hfz21_0
                      try clear hfz21_1
                      try clear hfz21_2
                      try clear hfz21_3
                      try clear hfz21_4
                      try clear hfz22_0
                      try clear hfz22_1
                      try clear hfz22_2
                      try clear hfz22_3
                      try clear hfz22_4
                      try clear hfz25_0
                      try clear hfz25_1
                      try clear hfz25_2
                      try clear hfz25_3
                      try clear hfz25_4
                      try clear hfz27_0
                      try clear hfz27_1
                      try clear hfz27_2
                      try clear hfz27_3
                      try clear hfz27_4
                      try clear hfz28_0
                      try clear hfz28_1
                      try clear hfz28_2
                      try clear hfz28_3
                      try clear hfz28_4
                      try clear hfz5_0
                      try clear hfz5_1
                      try clear hfz5_2
                      try clear hfz5_3
                      try clear hfz5_4
                      try clear hfz7_0
                      try clear hfz7_1
                      try clear hfz7_2
                      try clear hfz7_3
                      try clear hfz7_4
                      try clear hfz9_0
                      try clear hfz9_1
                      try clear hfz9_2
                      try clear hfz9_3
                      try clear hfz9_4
                      try clear hx139_0
                      try clear hx140_0
                      try clear p1
                      try clear p13
                      try clear p139
                      try clear p14
                      try clear p140
                      try clear p2
                      try clear p6
                      try clear q1
                      try clear q13
                      try clear q139
                      try clear q14
                      try clear q140
                      obtain ⟨x6_4, rfl, HA, HK4, BK138, HB⟩ := hrel
                      cases gk with
                      | zero => exact absurd HA.out (by simp [interlocutorref4_Right.l1])
                      | succ k4 =>
                        have H := HA.out
                        clear HA
                        simp only [interlocutorref4_Right.l1] at H
                        by_cases c30 : x6_4 < (l0_3.length : Int)
                        · rw [if_pos c30] at H
                          have c30b0 : decide (x6_4 < (l0_3.length : Int)) = true := decide_eq_true c30
                          clear c30
                          by_cases c31 : 0 ≤ x6_4
                          · rw [if_pos c31] at H
                            have c31b0 : decide (0 ≤ x6_4) = true := decide_eq_true c31
                            clear c31
                            by_cases c32 : (rd l0_3 x6_4) < 0
                            · rw [if_pos c32] at H
                              have c32b0 : decide ((rd l0_3 x6_4) < 0) = true := decide_eq_true c32
                              clear c32
                              obtain rfl := Option.some.inj H
                              have hcz33_0 : wr.cell? ⟨gb138, 0, none⟩ = some (.int .i64 a0_0) := (blk_cell BK138.out 0).trans rfl
                              have hcz33_1 : wr.cell? ⟨gb138, 1, none⟩ = some (.slice A0_1 l0_1.length c0_1) := (blk_cell BK138.out 1).trans rfl
                              have hcz33_2 : wr.cell? ⟨gb138, 2, none⟩ = some (.int .i64 a0_2) := (blk_cell BK138.out 2).trans rfl
                              have hcz33_3 : wr.cell? ⟨gb138, 3, none⟩ = some (.slice A0_3 l0_3.length c0_3) := (blk_cell BK138.out 3).trans rfl
                              have hcz33_4 : wr.cell? ⟨gb138, 4, none⟩ = some (.int .i64 a0_4) := (blk_cell BK138.out 4).trans rfl
                              have hfz33_0 := blk_frozen BK138.out 0
                              have hfz33_1 := blk_frozen BK138.out 1
                              have hfz33_2 := blk_frozen BK138.out 2
                              have hfz33_3 := blk_frozen BK138.out 3
                              have hfz33_4 := blk_frozen BK138.out 4
                              have p143 : 0 ≤ (x6_4 : Int) := of_decide_eq_true (by first | (with_reducible assumption) | assumption)
                              have q143 : x6_4 < (l0_3.length : Int) := of_decide_eq_true (by first | (with_reducible assumption) | assumption)
                              obtain ⟨ad143, e143, hx143_0⟩ := Kd.at_int HR0_3.out x6_4 p143 q143
                              cases e143
                              replace hx143_0 := (HB.out.cell (World.block_lt_of_cell? w _ hx143_0)).trans hx143_0
                              replace p143 := eq_true p143
                              replace q143 := eq_true q143
                              go_wp2
                              repeat (go_quiet (fail); try go_wp2)
                              go_ret
                              exact ⟨by first | rfl | (simp [errW_none, errW_some] <;> rfl) | (simp [*, errW_none, errW_some] <;> rfl), by repeat (first | (with_reducible first | exact HB.out | apply below_alloc | apply pw_below_drewN | apply below_drew1 | refine below_set ?_ GE138.out) | exact HB.out)⟩
                            · rw [if_neg c32] at H
                              have c32b0 : decide ((rd l0_3 x6_4) < 0) = false := decide_eq_false c32
                              clear c32
                              by_cases c34 : (rd l0_3 x6_4) ≥ (l0_1.length : Int)
                              · rw [if_pos c34] at H
                                have c34b0 : decide ((l0_1.length : Int) ≤ (rd l0_3 x6_4)) = true := decide_eq_true c34
                                clear c34
                                obtain rfl := Option.some.inj H
                                have hcz35_0 : wr.cell? ⟨gb138, 0, none⟩ = some (.int .i64 a0_0) := (blk_cell BK138.out 0).trans rfl
                                have hcz35_1 : wr.cell? ⟨gb138, 1, none⟩ = some (.slice A0_1 l0_1.length c0_1) := (blk_cell BK138.out 1).trans rfl
                                have hcz35_2 : wr.cell? ⟨gb138, 2, none⟩ = some (.int .i64 a0_2) := (blk_cell BK138.out 2).trans rfl
                                have hcz35_3 : wr.cell? ⟨gb138, 3, none⟩ = some (.slice A0_3 l0_3.length c0_3) := (blk_cell BK138.out 3).trans rfl
                                have hcz35_4 : wr.cell? ⟨gb138, 4, none⟩ = some (.int .i64 a0_4) := (blk_cell BK138.out 4).trans rfl
                                have hfz35_0 := blk_frozen BK138.out 0
                                have hfz35_1 := blk_frozen BK138.out 1
                                have hfz35_2 := blk_frozen BK138.out 2
                                have hfz35_3 := blk_frozen BK138.out 3
                                have hfz35_4 := blk_frozen BK138.out 4
                                have p143 : 0 ≤ (x6_4 : Int) := of_decide_eq_true (by first | (with_reducible assumption) | assumption)
                                have q143 : x6_4 < (l0_3.length : Int) := of_decide_eq_true (by first | (with_reducible assumption) | assumption)
                                obtain ⟨ad143, e143, hx143_0⟩ := Kd.at_int HR0_3.out x6_4 p143 q143
                                cases e143
                                replace hx143_0 := (HB.out.cell (World.block_lt_of_cell? w _ hx143_0)).trans hx143_0
                                replace p143 := eq_true p143
                                replace q143 := eq_true q143
                                have p144 : 0 ≤ (x6_4 : Int) := of_decide_eq_true (by first | (with_reducible assumption) | assumption)
                                have q144 : x6_4 < (l0_3.length : Int) := of_decide_eq_true (by first | (with_reducible assumption) | assumption)
                                obtain ⟨ad144, e144, hx144_0⟩ := Kd.at_int HR0_3.out x6_4 p144 q144
                                obtain rfl : ad143 = ad144 := (by injection e144)
                                replace hx144_0 := (HB.out.cell (World.block_lt_of_cell? w _ hx144_0)).trans hx144_0
                                replace p144 := eq_true p144
                                replace q144 := eq_true q144
                                go_wp2
                                repeat (go_quiet (fail); try go_wp2)
                                go_ret
                                exact ⟨by first | rfl | (simp [errW_none, errW_some] <;> rfl) | (simp [*, errW_none, errW_some] <;> rfl), by repeat (first | (with_reducible first | exact HB.out | apply below_alloc | apply pw_below_drewN | apply below_drew1 | refine below_set ?_ GE138.out) | exact HB.out)⟩
                              · rw [if_neg c34] at H
                                have c34b0 : decide ((l0_1.length : Int) ≤ (rd l0_3 x6_4)) = false := decide_eq_false c34
                                clear c34
                                have H' := Aside0.mk H
                                clear H
                                have hcz36_0 : wr.cell? ⟨gb138, 0, none⟩ = some (.int .i64 a0_0) := (blk_cell BK138.out 0).trans rfl
                                have hcz36_1 : wr.cell? ⟨gb138, 1, none⟩ = some (.slice A0_1 l0_1.length c0_1) := (blk_cell BK138.out 1).trans rfl
                                have hcz36_2 : wr.cell? ⟨gb138, 2, none⟩ = some (.int .i64 a0_2) := (blk_cell BK138.out 2).trans rfl
                                have hcz36_3 : wr.cell? ⟨gb138, 3, none⟩ = some (.slice A0_3 l0_3.length c0_3) := (blk_cell BK138.out 3).trans rfl
                                have hcz36_4 : wr.cell? ⟨gb138, 4, none⟩ = some (.int .i64 a0_4) := (blk_cell BK138.out 4).trans rfl
                                have hfz36_0 := blk_frozen BK138.out 0
                                have hfz36_1 := blk_frozen BK138.out 1
                                have hfz36_2 := blk_frozen BK138.out 2
                                have hfz36_3 := blk_frozen BK138.out 3
                                have hfz36_4 := blk_frozen BK138.out 4
                                have p143 : 0 ≤ (x6_4 : Int) := of_decide_eq_true (by first | (with_reducible assumption) | assumption)
                                have q143 : x6_4 < (l0_3.length : Int) := of_decide_eq_true (by first | (with_reducible assumption) | assumption)
                                obtain ⟨ad143, e143, hx143_0⟩ := Kd.at_int HR0_3.out x6_4 p143 q143
                                cases e143
                                replace hx143_0 := (HB.out.cell (World.block_lt_of_cell? w _ hx143_0)).trans hx143_0
                                replace p143 := eq_true p143
                                replace q143 := eq_true q143
                                have p144 : 0 ≤ (x6_4 : Int) := of_decide_eq_true (by first | (with_reducible assumption) | assumption)
                                have q144 : x6_4 < (l0_3.length : Int) := of_decide_eq_true (by first | (with_reducible assumption) | assumption)
                                obtain ⟨ad144, e144, hx144_0⟩ := Kd.at_int HR0_3.out x6_4 p144 q144
                                obtain rfl : ad143 = ad144 := (by injection e144)
                                replace hx144_0 := (HB.out.cell (World.block_lt_of_cell? w _ hx144_0)).trans hx144_0
                                replace p144 := eq_true p144
                                replace q144 := eq_true q144
                                go_wp2
                                repeat (go_quiet (fail); try go_wp2)
                                go_roundg k4
                                case measure => have := HJ1.out; have := HK2.out; have := HJ23.out; have := HK4.out; omega
                                case rel => exact ⟨(wrap64 (x6_4 + 1)), (by first | rfl | (simp; done) | (simp [*]; done)), H', ⟨by have := HJ1.out; have := HK2.out; have := HJ23.out; have := HK4.out; omega⟩, ⟨by (with_reducible repeat (first | refine blk_drewN ?_ _ | refine blk_drew ?_ | refine blk_alloc ?_ _)); exact BK138.out⟩, ⟨by repeat (first | (with_reducible first | exact HB.out | apply below_alloc | apply pw_below_drewN | apply below_drew1 | refine below_set ?_ GE138.out) | exact HB.out)⟩⟩
                          · rw [if_neg c31] at H
                            exact absurd H (by simp)
                        · rw [if_neg c30] at H
                          have c30b0 : decide (x6_4 < (l0_3.length : Int)) = false := decide_eq_false c30
                          clear c30
                          obtain rfl := Option.some.inj H
                          have hcz37_0 : wr.cell? ⟨gb138, 0, none⟩ = some (.int .i64 a0_0) := (blk_cell BK138.out 0).trans rfl
                          have hcz37_1 : wr.cell? ⟨gb138, 1, none⟩ = some (.slice A0_1 l0_1.length c0_1) := (blk_cell BK138.out 1).trans rfl
                          have hcz37_2 : wr.cell? ⟨gb138, 2, none⟩ = some (.int .i64 a0_2) := (blk_cell BK138.out 2).trans rfl
                          have hcz37_3 : wr.cell? ⟨gb138, 3, none⟩ = some (.slice A0_3 l0_3.length c0_3) := (blk_cell BK138.out 3).trans rfl
                          have hcz37_4 : wr.cell? ⟨gb138, 4, none⟩ = some (.int .i64 a0_4) := (blk_cell BK138.out 4).trans rfl
                          have hfz37_0 := blk_frozen BK138.out 0
                          have hfz37_1 := blk_frozen BK138.out 1
                          have hfz37_2 := blk_frozen BK138.out 2
                          have hfz37_3 := blk_frozen BK138.out 3
                          have hfz37_4 := blk_frozen BK138.out 4
                          go_wp2
                          repeat (go_quiet (fail); try go_wp2)
                          go_ret
                          exact ⟨by first | rfl | (simp [errW_none, errW_some] <;> rfl) | (simp [*, errW_none, errW_some] <;> rfl), by repeat (first | (with_reducible first | exact HB.out | apply below_alloc | apply pw_below_drewN | apply below_drew1 | refine below_set ?_ GE138.out) | exact HB.out)⟩
end Go.Proofs.Ytjomlfdkmdgclaa.P
end
section
namespace Go.Proofs.Ytjomlfdkmdgclaa.P
open Go.RowKit Go.Proofs.YtjomlfdkmdgclaaW.PrintWords Go.Proofs.YtjomlfdkmdgclaaW.PrintLast Go.Proofs.YtjomlfdkmdgclaaW.PrintMore
attribute [local go_sem] max2_int min2_int max_two min_two max_three min_three max_four min_four   
set_option linter.unusedVariables false
set_option linter.unusedSimpArgs false
theorem wants_some (k : Nat) (op : Int) : interlocutorref4_wants.f (k + 4) op = some (askedP op) := by
  by_cases h : 0 ≤ op ∧ op ≤ 15
  · have : op = 0 ∨ op = 1 ∨ op = 2 ∨ op = 3 ∨ op = 4 ∨ op = 5 ∨ op = 6 ∨ op = 7 ∨ op = 8 ∨ op = 9 ∨ op = 10 ∨ op = 11 ∨ op = 12 ∨ op = 13 ∨ op = 14 ∨ op = 15 := by omega
    rcases this with rfl | rfl | rfl | rfl | rfl | rfl | rfl | rfl | rfl | rfl | rfl | rfl | rfl | rfl | rfl | rfl <;> rfl
  · have n : ∀ k : Int, 0 ≤ k → k ≤ 15 → ¬ op = k := fun k h0 h1 e => h (by omega)
    have b : ∀ k : Int, 0 ≤ k → k ≤ 15 → ¬ (op == k) = true := fun k h0 h1 e => n k h0 h1 (by simpa using e)
    have e : askedP op = (1, 0) := by
      unfold askedP
      rw [if_neg (by omega), if_neg (by omega), if_neg (by omega), if_neg (by omega), if_neg (by omega)]
    rw [e]
    unfold interlocutorref4_wants.f
    rw [if_neg (n 0 (by omega) (by omega)), if_neg (n 7 (by omega) (by omega)), if_neg (n 8 (by omega) (by omega)), interlocutorref4_wants.j0]
    rw [if_neg (b 11 (by omega) (by omega)), if_neg (n 2 (by omega) (by omega)), if_neg (n 5 (by omega) (by omega)), if_neg (n 9 (by omega) (by omega)), if_neg (n 12 (by omega) (by omega)), if_neg (n 13 (by omega) (by omega)), if_neg (n 14 (by omega) (by omega)), interlocutorref4_wants.j1]
    rw [if_neg (b 15 (by omega) (by omega)), if_neg (n 1 (by omega) (by omega)), interlocutorref4_wants.j2]
    rw [if_neg (b 6 (by omega) (by omega)), if_neg (n 3 (by omega) (by omega)), interlocutorref4_wants.j3]
    rw [if_neg (b 4 (by omega) (by omega)), if_neg (n 10 (by omega) (by omega))]
section
variable (a0 : Int) (l1 : List Int) (a2 : Int) (l3 : List Int) (a4 : Int)
theorem refPlaces (hl : l3.length ≤ 9223372036854775807) : ∀ (n k x : Nat), x ≤ l3.length → l3.length - x = n → n < k → interlocutorref4_Right.l1 k x a0 l1 a2 l3 a4 = some ((l3.drop x).all (placeB l1.length)) := by
  intro n
  induction n with
  | zero =>
    intro k x hx hn hk
    obtain ⟨k, rfl⟩ : ∃ j, k = j + 1 := ⟨k - 1, by omega⟩
    have he : x = l3.length := by omega
    subst he
    simp only [interlocutorref4_Right.l1]
    rw [if_neg (by omega), List.drop_length]
    rfl
  | succ n ih =>
    intro k x hx hn hk
    obtain ⟨k, rfl⟩ : ∃ j, k = j + 1 := ⟨k - 1, by omega⟩
    have hlt : x < l3.length := by omega
    simp only [interlocutorref4_Right.l1]
    rw [if_pos (by omega), if_pos (by omega), rd_getElem l3 x hlt, List.drop_eq_getElem_cons hlt, List.all_cons]
    unfold placeB
    by_cases h0 : l3[x] < 0
    · rw [if_pos h0, decide_eq_false (by omega)]; rfl
    · rw [if_neg h0, decide_eq_true (by omega : 0 ≤ l3[x])]
      by_cases h1 : l3[x] ≥ (l1.length : Int)
      · rw [if_pos h1, decide_eq_false (by omega)]; rfl
      · rw [if_neg h1, decide_eq_true (by omega : l3[x] < (l1.length : Int)), wrap_in (by omega)]
        exact ih k (x + 1) (by omega) (by omega) (by omega)
theorem refItems (hl : l1.length ≤ 9223372036854775807) (hl3 : l3.length ≤ 9223372036854775807) : ∀ (n k x : Nat), x ≤ l1.length → l1.length - x = n → n + l3.length + 8 < k → interlocutorref4_Right.l0 k x a0 l1 a2 l3 a4 = some ((l1.drop x).all itemB && (withinB l3.length (askedP a2).1 (askedP a2).2 && l3.all (placeB l1.length))) := by
  intro n
  induction n with
  | zero =>
    intro k x hx hn hk
    obtain ⟨k, rfl⟩ : ∃ j, k = j + 5 := ⟨k - 5, by omega⟩
    have he : x = l1.length := by omega
    subst he
    rw [show k + 5 = (k + 4) + 1 by omega]
    simp only [interlocutorref4_Right.l0]
    rw [if_neg (by omega), List.drop_length, wants_some]
    simp only [Option.bind_some, List.all_nil, Bool.true_and]
    have h2 := refPlaces a0 l1 a2 l3 a4 hl3 l3.length (k + 3) 0 (Nat.zero_le _) rfl (by omega)
    rw [List.drop_zero] at h2
    have h2' : interlocutorref4_Right.l1 (k + 3) 0 a0 l1 a2 l3 a4 = some (l3.all (placeB l1.length)) := h2
    unfold withinB
    by_cases h0 : (l3.length : Int) < (askedP a2).1
    · rw [if_pos h0, show k + 4 = (k + 3) + 1 by omega]
      simp only [interlocutorref4_Right.j2]
      rw [decide_eq_false (by omega)]
      simp
    · rw [if_neg h0, show k + 4 = (k + 3) + 1 by omega]
      simp only [interlocutorref4_Right.j2]
      rw [decide_eq_true (by omega : (askedP a2).1 ≤ (l3.length : Int)), h2']
      by_cases h1 : (l3.length : Int) > (askedP a2).2
      · rw [decide_eq_true h1, decide_eq_false (by omega : ¬ (l3.length : Int) ≤ (askedP a2).2)]
        simp
      · rw [decide_eq_false h1, decide_eq_true (by omega : (l3.length : Int) ≤ (askedP a2).2)]
        simp
  | succ n ih =>
    intro k x hx hn hk
    obtain ⟨k, rfl⟩ : ∃ j, k = j + 1 := ⟨k - 1, by omega⟩
    have hlt : x < l1.length := by omega
    simp only [interlocutorref4_Right.l0]
    rw [if_pos (by omega), if_pos (by omega), rd_getElem l1 x hlt, List.drop_eq_getElem_cons hlt, List.all_cons]
    by_cases h0 : l1[x] ≥ 20
    · rw [if_pos h0, show itemB l1[x] = false by unfold itemB; simp; omega]; rfl
    · rw [if_neg h0]
      by_cases h1 : l1[x] < -61
      · rw [if_pos h1, show itemB l1[x] = false by unfold itemB; simp; omega]; rfl
      · rw [if_neg h1, show itemB l1[x] = true by unfold itemB; simp; omega, Bool.true_and, wrap_in (by omega)]
        exact ih k (x + 1) (by omega) (by omega) (by omega)
theorem refRight_some (k : Nat) (hl : l1.length ≤ 9223372036854775807) (hl3 : l3.length ≤ 9223372036854775807) (hk : l1.length + l3.length + 10 < k) : interlocutorref4_Right.f k a0 l1 a2 l3 a4 = some (rightP a0 l1 a2 l3 a4) := by
  obtain ⟨k, rfl⟩ : ∃ j, k = j + 1 := ⟨k - 1, by omega⟩
  have h2 := refItems a0 l1 a2 l3 a4 hl hl3 l1.length k 0 (Nat.zero_le _) rfl (by omega)
  rw [List.drop_zero] at h2
  have h2' : interlocutorref4_Right.l0 k 0 a0 l1 a2 l3 a4 = some (l1.all itemB && (withinB l3.length (askedP a2).1 (askedP a2).2 && l3.all (placeB l1.length))) := h2
  unfold interlocutorref4_Right.f
  simp only [interlocutorref4_Right.j0, if_true]
  unfold rightP symbolB
  by_cases c1 : a0 < 0
  · rw [if_pos c1, decide_eq_false (by omega)]; rfl
  rw [if_neg c1, decide_eq_true (by omega : 0 ≤ a0)]
  by_cases c2 : a0 ≥ 20
  · rw [if_pos c2, decide_eq_false (by omega)]; rfl
  rw [if_neg c2, decide_eq_true (by omega : a0 < 20), h2']
  by_cases c3 : (l1.length : Int) < 1
  · rw [if_pos c3, show withinB l1.length 1 6 = false by unfold withinB; simp; omega]; rfl
  rw [if_neg c3]
  by_cases c4 : (l1.length : Int) > 6
  · rw [if_pos c4, show withinB l1.length 1 6 = false by unfold withinB; simp; omega]; rfl
  rw [if_neg c4, show withinB l1.length 1 6 = true by unfold withinB; simp; omega]
  by_cases c5 : a4 < 0
  · rw [if_pos c5, show withinB a4 0 100 = false by unfold withinB; simp; omega]
    simp
  rw [if_neg c5]
  by_cases c6 : a4 > 100
  · rw [decide_eq_true c6, show withinB a4 0 100 = false by unfold withinB; simp; omega]
    simp
  · rw [decide_eq_false c6, show withinB a4 0 100 = true by unfold withinB; simp; omega]
    simp
end
end Go.Proofs.Ytjomlfdkmdgclaa.P
end
section
namespace Go.Proofs.Ytjomlfdkmdgclaa.P
open Go.RowKit Go.Proofs.YtjomlfdkmdgclaaW.PrintWords Go.Proofs.YtjomlfdkmdgclaaW.PrintLast Go.Proofs.YtjomlfdkmdgclaaW.PrintMore
attribute [local go_sem] max2_int min2_int max_two min_two max_three min_three max_four min_four   
set_option linter.unusedVariables false
set_option linter.unusedSimpArgs false
def matD (e : Nat → Nat → Bool) : Nat → Nat → Nat → Bool
  | 0 => e
  | k + 1 => fun i j => matD e k i j || (matD e k i k && matD e k k j)
theorem matD_mono {e : Nat → Nat → Bool} {k i j : Nat} (h : matD e k i j = true) : matD e (k + 1) i j = true := by
  simp [matD, h]
theorem matD_base {e : Nat → Nat → Bool} {i j : Nat} (h : e i j = true) : ∀ k, matD e k i j = true
  | 0 => h
  | k + 1 => matD_mono (matD_base h k)
theorem matD_row (e : Nat → Nat → Bool) (k j : Nat) : matD e (k + 1) k j = matD e k k j := by
  simp only [matD]
  cases matD e k k j <;> simp
theorem matD_col (e : Nat → Nat → Bool) (k i : Nat) : matD e (k + 1) i k = matD e k i k := by
  simp only [matD]
  cases matD e k i k <;> simp
theorem matD_trans {e : Nat → Nat → Bool} : ∀ (k i m j : Nat), m < k → matD e k i m = true → matD e k m j = true → matD e k i j = true
  | 0, _, _, _, h, _, _ => by omega
  | k + 1, i, m, j, hm, h1, h2 => by
    have T := matD_trans (e := e) k
    by_cases e1 : m = k
    · subst e1
      rw [matD_col] at h1
      rw [matD_row] at h2
      simp [matD, h1, h2]
    · have hm' : m < k := by omega
      simp only [matD, Bool.or_eq_true, Bool.and_eq_true] at h1 h2 ⊢
      rcases h1 with h1 | ⟨h1, h1'⟩
      · rcases h2 with h2 | ⟨h2, h2'⟩
        · exact .inl (T i m j hm' h1 h2)
        · exact .inr ⟨T i m k hm' h1 h2, h2'⟩
      · rcases h2 with h2 | ⟨h2, h2'⟩
        · exact .inr ⟨h1, T k m j hm' h1' h2⟩
        · exact .inr ⟨h1, h2'⟩
theorem matD_sound {e : Nat → Nat → Bool} {R : Nat → Nat → Prop} (hb : ∀ i j, e i j = true → R i j) (ht : ∀ i m j, R i m → R m j → R i j) : ∀ (k i j : Nat), matD e k i j = true → R i j
  | 0, i, j, h => hb i j h
  | k + 1, i, j, h => by
    simp only [matD, Bool.or_eq_true, Bool.and_eq_true] at h
    rcases h with h | ⟨h1, h2⟩
    · exact matD_sound hb ht k i j h
    · exact ht i k j (matD_sound hb ht k i k h1) (matD_sound hb ht k k j h2)
def stage (e : Nat → Nat → Bool) (k i j : Nat) : Nat → Nat → Bool := fun a b => if a < i ∨ (a = i ∧ b < j) then matD e (k + 1) a b else matD e k a b
def upd (mt : Nat → Nat → Bool) (i j : Nat) (v : Bool) : Nat → Nat → Bool := fun a b => if a = i ∧ b = j then v else mt a b
theorem stage_col (e : Nat → Nat → Bool) (k i j a : Nat) : stage e k i j a k = matD e k a k := by
  unfold stage; split
  · exact matD_col e k a
  · rfl
theorem stage_row (e : Nat → Nat → Bool) (k i j b : Nat) : stage e k i j k b = matD e k k b := by
  unfold stage; split
  · exact matD_row e k b
  · rfl
theorem stage_at (e : Nat → Nat → Bool) (k i j : Nat) : stage e k i j i j = matD e k i j := by
  unfold stage; rw [if_neg (by omega)]
theorem stage_upd (e : Nat → Nat → Bool) (k i j : Nat) : upd (stage e k i j) i j (stage e k i j i j || (stage e k i j i k && stage e k i j k j)) = stage e k i (j + 1) := by
  rw [stage_at, stage_col, stage_row]
  funext a b
  unfold upd stage
  by_cases h : a = i ∧ b = j
  · obtain ⟨rfl, rfl⟩ := h
    rw [if_pos ⟨rfl, rfl⟩, if_pos (by omega)]
    rfl
  · rw [if_neg h]
    by_cases h2 : a < i ∨ (a = i ∧ b < j)
    · rw [if_pos h2, if_pos (by omega)]
    · rw [if_neg h2, if_neg (by omega)]
def matCells (mt : Nat → Nat → Bool) : List Value := (List.range 400).map fun n => Value.bool (mt (n / 20) (n % 20))
theorem matCells_length (mt : Nat → Nat → Bool) : (matCells mt).length = 400 := by simp [matCells]
theorem matCells_at (mt : Nat → Nat → Bool) (i j : Nat) (hi : i < 20) (hj : j < 20) : (matCells mt)[i * 20 + j]? = some (.bool (mt i j)) := by
  unfold matCells
  rw [List.getElem?_map, List.getElem?_range (by omega)]
  simp only [Option.map_some]
  rw [show (i * 20 + j) / 20 = i by omega, show (i * 20 + j) % 20 = j by omega]
theorem matCells_congr {mt mt' : Nat → Nat → Bool} (h : ∀ i j, i < 20 → j < 20 → mt i j = mt' i j) : matCells mt = matCells mt' := by
  unfold matCells
  refine List.map_congr_left fun n hn => ?_
  rw [List.mem_range] at hn
  rw [h _ _ (by omega) (by omega)]
theorem matCells_set (mt : Nat → Nat → Bool) (i j : Nat) (v : Bool) (hi : i < 20) (hj : j < 20) : (matCells mt).set (i * 20 + j) (.bool v) = matCells (upd mt i j v) := by
  apply List.ext_getElem?
  intro n
  by_cases hn : n < 400
  · obtain ⟨a, b, rfl, ha, hb⟩ : ∃ a b, n = a * 20 + b ∧ a < 20 ∧ b < 20 := ⟨n / 20, n % 20, by omega, by omega, by omega⟩
    rw [matCells_at _ a b ha hb]
    by_cases h : a = i ∧ b = j
    · obtain ⟨rfl, rfl⟩ := h
      rw [List.getElem?_set_self (by rw [matCells_length]; omega)]
      simp [upd]
    · rw [List.getElem?_set_ne (by omega), matCells_at _ a b ha hb]
      simp [upd, h]
  · rw [List.getElem?_eq_none (by rw [List.length_set, matCells_length]; omega), List.getElem?_eq_none (by rw [matCells_length]; omega)]
def Mat (W : World) (t : TypeId) (g : Nat) (mt : Nat → Nat → Bool) : Prop := W.heap[g]? = some (.cells (matCells mt).toArray t (0, 0))
theorem Mat.cell {W : World} {t : TypeId} {g : Nat} {mt : Nat → Nat → Bool} (h : Mat W t g mt) (i j : Nat) (hi : i < 20) (hj : j < 20) : W.cell? ⟨g, i * 20 + j, none⟩ = some (.bool (mt i j)) :=
  (blk_cell h _).trans (by rw [List.getElem?_toArray]; exact matCells_at mt i j hi hj)
theorem Mat.frozen {W : World} {t : TypeId} {g : Nat} {mt : Nat → Nat → Bool} (h : Mat W t g mt) (n : Nat) : W.frozen? ⟨g, n, none⟩ = false := blk_frozen h n
theorem Mat.set {W : World} {t : TypeId} {g : Nat} {mt : Nat → Nat → Bool} (h : Mat W t g mt) (i j : Nat) (v : Bool) (hi : i < 20) (hj : j < 20) : Mat (W.setCell ⟨g, i * 20 + j, none⟩ (.bool v)) t g (upd mt i j v) := by
  unfold Mat
  refine blk_put h (i * 20 + j) (.bool v) ?_
  rw [← matCells_set mt i j v hi hj]
  simp
theorem Mat.congr {W : World} {t : TypeId} {g : Nat} {mt mt' : Nat → Nat → Bool} (h : Mat W t g mt) (he : ∀ i j, i < 20 → j < 20 → mt i j = mt' i j) : Mat W t g mt' := by
  unfold Mat
  rw [← matCells_congr he]
  exact h
theorem Mat.below {W W1 : World} {t : TypeId} {g : Nat} {mt : Nat → Nat → Bool} (h : Mat W t g mt) (hb : Below W.heap.size W W1) : Mat W1 t g mt := blk_below h hb
theorem mat_zero : (matCells fun _ _ => false).toArray = Array.replicate 400 (Value.bool false) := by
  apply Array.ext_getElem?
  intro n
  rw [List.getElem?_toArray, Array.getElem?_replicate]
  unfold matCells
  by_cases h : n < 400
  · rw [if_pos h, List.getElem?_map, List.getElem?_range h]; rfl
  · rw [if_neg h, List.getElem?_eq_none (by simp; omega)]
end Go.Proofs.Ytjomlfdkmdgclaa.P
end
section
namespace Go.Proofs.Ytjomlfdkmdgclaa.P
open Go.RowKit Go.Proofs.YtjomlfdkmdgclaaW.PrintWords Go.Proofs.YtjomlfdkmdgclaaW.PrintLast Go.Proofs.YtjomlfdkmdgclaaW.PrintMore
attribute [local go_sem] max2_int min2_int max_two min_two max_three min_three max_four min_four   
set_option linter.unusedVariables false
set_option linter.unusedSimpArgs false
theorem mem_refRows (s : Nat) (y : Int) : ∀ (l : List Rule') (rows : Nat → List Int), y ∈ l.foldl rowStep rows s ↔ y ∈ rows s ∨ ∃ r ∈ l, r.f0 = s ∧ r.f1 = [y] ∧ 0 ≤ y
  | [], rows => by simp
  | r :: l, rows => by
    rw [List.foldl_cons, mem_refRows s y l (rowStep rows r)]
    have h : y ∈ rowStep rows r s ↔ y ∈ rows s ∨ (r.f0 = s ∧ r.f1 = [y] ∧ 0 ≤ y) := by
      unfold rowStep oneOf
      split
      case isTrue hc =>
        obtain ⟨h1, h2⟩ := hc
        obtain ⟨h3, h4⟩ := of_decide_eq_true h1
        rw [mem_putP]
        have h5 : r.f1 = [rd r.f1 0] := by
          match hr : r.f1, h3 with
          | [x], _ => simp [rd]
        constructor
        · rintro (rfl | h)
          · exact .inr ⟨h2, h5, h4⟩
          · exact .inl h
        · rintro (h | ⟨_, h, _⟩)
          · exact .inr h
          · left
            rw [h]; rfl
      case isFalse hc =>
        constructor
        · exact .inl
        · rintro (h | ⟨h1, h2, h3⟩)
          · exact h
          · exact absurd ⟨decide_eq_true ⟨by rw [h2]; rfl, by rw [h2]; exact h3⟩, h1⟩ hc
    rw [h, or_assoc]
    simp
theorem refRows_iff (l0 : List Rule') (hr : l0.all rightR = true) (s : Nat) (hs : s < 20) (y : Int) : y ∈ refRows l0 s ↔ y ∈ rowsNext l0 s := by
  unfold refRows
  rw [mem_refRows, mem_rowsNext l0 s ⟨by omega, by omega⟩]
  constructor
  · rintro (h | ⟨r, h1, h2, h3, h4⟩)
    · cases h
    · refine ⟨⟨h4, ?_⟩, r, h1, h2, h3⟩
      have h5 := List.all_eq_true.1 hr r h1
      unfold rightR rightP at h5
      simp only [Bool.and_eq_true] at h5
      have h6 := List.all_eq_true.1 h5.2.2.1 y (by rw [h3]; exact List.mem_singleton.2 rfl)
      unfold itemB at h6
      rw [Bool.and_eq_true] at h6
      exact of_decide_eq_true h6.1
  · rintro ⟨h1, r, h2, h3, h4⟩
    exact .inr ⟨r, h2, h3, h4, h1.1⟩
def arrow (l0 : List Rule') (i j : Nat) : Bool := decide ((j : Int) ∈ refRows l0 i)
theorem arrows_reach (l0 : List Rule') (hr : l0.all rightR = true) (i : Nat) (hi : i < 20) (y : Int) : Reach (rowsNext l0) (rowsNext l0 i) y ↔ inSym y ∧ matD (arrow l0) 20 i y.toNat = true := by
  have his : inSym (i : Int) := ⟨by omega, by omega⟩
  constructor
  · intro h
    refine Reach.inv (P := fun y => inSym y ∧ matD (arrow l0) 20 i y.toNat = true) (fun x hx => ?_) (fun x hx y hy => ?_) h
    · have h1 := rowsNext_sym l0 i his x hx
      refine ⟨h1, matD_base ?_ 20⟩
      unfold arrow
      rw [Int.toNat_of_nonneg h1.1]
      exact decide_eq_true ((refRows_iff l0 hr i hi x).2 hx)
    · have h1 := rowsNext_sym l0 x hx.1 y hy
      refine ⟨h1, matD_trans 20 i x.toNat y.toNat (by have := hx.1.1; have := hx.1.2; omega) hx.2 (matD_base ?_ 20)⟩
      unfold arrow
      rw [Int.toNat_of_nonneg h1.1]
      refine decide_eq_true ((refRows_iff l0 hr x.toNat (by have := hx.1.1; have := hx.1.2; omega) y).2 ?_)
      rw [Int.toNat_of_nonneg hx.1.1]
      exact hy
  · rintro ⟨hy, h⟩
    have h2 := matD_sound (e := arrow l0) (R := fun a b => a < 20 → b < 20 ∧ Reach (rowsNext l0) (rowsNext l0 (a : Int)) (b : Int))
      (fun a b hab ha => by
        have h3 := (refRows_iff l0 hr a ha (b : Int)).1 (of_decide_eq_true hab)
        have h4 := rowsNext_sym l0 a ⟨by omega, by omega⟩ b h3
        exact ⟨by have := h4.2; omega, .base h3⟩)
      (fun a m b h1 h2 ha => by
        obtain ⟨hm, h3⟩ := h1 ha
        obtain ⟨hb, h4⟩ := h2 hm
        refine ⟨hb, ?_⟩
        refine Reach.inv (P := fun y => Reach (rowsNext l0) (rowsNext l0 (a : Int)) y) (fun x hx => .step h3 hx) (fun x hx y hy => .step hx hy) h4) 20 i y.toNat h hi
    rw [Int.toNat_of_nonneg hy.1] at h2
    exact h2.2
theorem checkP_matD (l0 : List Rule') (h60 : l0.length ≤ 60) (hr : l0.all rightR = true) : checkP l0 = true ↔ ∀ i, i < 20 → matD (arrow l0) 20 i i = false := by
  rw [checkP_iff]
  constructor
  · rintro ⟨_, _, h⟩ i hi
    have h1 := h i ⟨by omega, by omega⟩
    rw [arrows_reach l0 hr i hi] at h1
    cases hm : matD (arrow l0) 20 i i with
    | false => rfl
    | true => exact absurd ⟨⟨by omega, by omega⟩, by simpa using hm⟩ h1
  · intro h
    refine ⟨h60, hr, fun x hx hR => ?_⟩
    obtain ⟨n, rfl⟩ : ∃ n : Nat, x = n := ⟨x.toNat, by have := hx.1; omega⟩
    have hn : n < 20 := by have := hx.2; omega
    have h1 := ((arrows_reach l0 hr n hn n).1 hR).2
    have h2 := h n hn
    simp [h2] at h1
def arrowUpto (l0 : List Rule') (i k : Nat) (a b : Nat) : Bool := decide (a < i) && arrow l0 a b || (decide (a = i) && decide ((b : Int) ∈ (refRows l0 i).take k))
theorem arrowUpto_snoc (l0 : List Rule') (i k : Nat) (h : k < (refRows l0 i).length) (z : Nat) (hz : (refRows l0 i)[k] = (z : Int)) : upd (arrowUpto l0 i k) i z true = arrowUpto l0 i (k + 1) := by
  funext a b
  unfold upd arrowUpto
  rw [List.take_succ_eq_append_getElem h, hz]
  by_cases ha : a = i
  · subst ha
    by_cases hb : b = z
    · subst hb; simp
    · have : ¬ (b : Int) = (z : Int) := by omega
      simp [hb, this]
  · simp [ha]
theorem arrowUpto_next (l0 : List Rule') (i : Nat) : arrowUpto l0 i (refRows l0 i).length = arrowUpto l0 (i + 1) 0 := by
  funext a b
  unfold arrowUpto
  rw [List.take_length, List.take_zero]
  by_cases ha : a = i
  · subst ha
    simp [arrow]
  · by_cases hl : a < i
    · simp [hl, ha, show a < i + 1 by omega]
    · simp [hl, ha, show ¬ a < i + 1 by omega]
noncomputable def interlocutorref4_Check.f (l0 : List Rule') : Option Bool := some (checkP l0)
theorem mat0 : Try.zeroCells63 = (matCells fun _ _ => false).toArray := by rw [mat_zero]; kernel_rfl
set_option maxHeartbeats 4000000 in
set_option maxRecDepth 100000 in
theorem refCheck_walk (A0 : Option Addr) (c0 : Nat) (l0 : List Rule') (w : World) (hr0 : Kd.C k26 w A0 l0.length l0) (hc0 : l0.length ≤ c0) :
    Calls Try.prog 22 #[.slice A0 l0.length c0] w fun e w' => e = .returned (.bool (checkP l0)) ∧ Below w.heap.size w w' := by
  have HR := Aside0.mk hr0
  have HC := Aside0.mk hc0
  clear hr0 hc0
  by_cases h60 : l0.length ≤ 60
  · have h60z : ¬ ((l0.length : Int) > 60) := by omega
    go_enter Try.func22, Try.ntmps22
    go_wp2
    go_loopg [3] l0.length (fun gg s3 wr => ∃ kk : Nat, kk ≤ l0.length ∧ l0.length - kk ≤ gg ∧ s3 = .int .i64 kk ∧ Aside0 (∀ j, j < kk → ∀ h : j < l0.length, rightR l0[j] = true) ∧ Aside0 (Below w.heap.size w wr))
    case atStart => exact ⟨0, Nat.zero_le _, by omega, rfl, ⟨fun j hj => absurd hj (Nat.not_lt_zero _)⟩, ⟨Below.refl _ _⟩⟩
    case round =>
      obtain ⟨kk, hkk, hgg, rfl, HA, HB⟩ := hrel
      by_cases hlt : kk < l0.length
      · have hltz : (kk : Int) < (l0.length : Int) := by omega
        obtain ⟨ad, A1, c1, A3, c3, hA, h0, h1, h2, h3, h4, l1, g1, l3, g3⟩ := at_T26 (Kd.C_below HR.out HB.out) kk (by omega) hltz
        have hx : rd_T26 l0 kk = l0[kk] := by simp [rd_T26, List.getD_eq_getElem?_getD, List.getElem?_eq_getElem hlt]
        generalize rd_T26 l0 kk = y at *
        rw [Int.toNat_natCast] at h0 h1 h2 h3 h4
        subst hA
        have HX := Aside0.mk hx
        clear hx
        have HRS := Aside0.mk (refRight_some y.f0 y.f1 y.f2.f0 y.f2.f1 y.f3 (y.f1.length + y.f2.f1.length + 11) g1.2.1 g3.2.1 (by omega))
        have hcall := Aside0.mk (interlocutorref4_Right.calls (y.f1.length + y.f2.f1.length + 11) y.f0 A1 c1 y.f1 y.f2.f0 A3 c3 y.f2.f1 y.f3 (rightR y) wr g1 l1 g3 l3 HRS.out)
        clear g1 g3
        cases hr : rightR y with
        | true =>
          rw [hr] at hcall
          go_wp2_with fail
          refine hcall.out.mono ?_
          rintro e w' ⟨rfl, hb⟩
          have HB2 := Aside0.mk (below_step HB.out hb)
          clear hb
          go_wp2
          go_roundg (l0.length - (kk + 1))
          case measure => omega
          case rel =>
            refine ⟨kk + 1, by omega, by omega, by go_num, ⟨fun j hj hl => ?_⟩, HB2⟩
            by_cases e : j = kk
            · subst e; rw [← HX.out]; exact hr
            · exact HA.out j (by omega) hl
        | false =>
          rw [hr] at hcall
          have hz : checkP l0 = false := by
            unfold checkP
            have : l0.all rightR = false := List.all_eq_false.2 ⟨l0[kk], List.getElem_mem hlt, by rw [← HX.out, hr]; decide⟩
            rw [this, Bool.false_and, Bool.and_false]
          go_wp2_with fail
          refine hcall.out.mono ?_
          rintro e w' ⟨rfl, hb⟩
          have HB2 := Aside0.mk (below_step HB.out hb)
          clear hb
          go_wp2
          go_ret
          exact ⟨ret_bool hz.symm, HB2.out⟩
      · have hltz : ¬ (kk : Int) < (l0.length : Int) := by omega
        have hkl : kk = l0.length := by omega
        subst hkl
        have hall : l0.all rightR = true := by
          rw [List.all_eq_true]
          intro r hr
          obtain ⟨j, hj, rfl⟩ := List.mem_iff_getElem.1 hr
          exact HA.out j hj hj
        have HCM := Aside0.mk (checkP_matD l0 h60 hall)
        have hu := Aside0.mk (unitsB_of l0 h60 hall)
        have HALL := Aside0.mk hall
        have HR1 := Aside0.mk (Kd.C_below HR.out HB.out)
        clear HA hall HR
        go_wp2_with fail
        refine (refUnits_walk A0 c0 l0 wr HR1.out HC.out hu.out).mono ?_
        rintro e w1 ⟨v1, rfl, hS, hb⟩
        obtain ⟨A2, c2, rfl, hc2, hC2⟩ := Kd.S_reads hS
        have hlen : (refUnitsP l0).length = 20 := by simp [refUnitsP]
        have HB1 := Aside0.mk (below_step HB.out hb)
        have HU1 := Aside0.mk hC2
        have HM := Aside0.mk (show Mat (w1.alloc (.cells Try.zeroCells63 63)) 63 w1.heap.size (fun _ _ => false) from by unfold Mat; rw [← mat0]; exact blk_new _ _)
        have HB2 := Aside0.mk (below_alloc (Below.refl w1.heap.size w1) (.cells Try.zeroCells63 63))
        rw [hlen]
        have HLN := Aside0.mk hlen
        clear hS hb hc2 hC2 hlen HB HR1
        go_wp2
        generalize (w1.alloc (.cells Try.zeroCells63 63)) = W2 at *
        generalize hg : w1.heap.size = g at *
        have HG := Aside0.mk hg
        clear hg
        go_loopg [6] 20 (fun gg s6 wr => ∃ i : Nat, i ≤ 20 ∧ 20 - i ≤ gg ∧ s6 = .int .i64 i ∧ Aside0 (Mat wr 63 g (arrowUpto l0 i 0)) ∧ Aside0 (Below g w1 wr))
        case atStart => exact ⟨0, by omega, by omega, rfl, ⟨HM.out.congr (fun i j _ _ => by simp [arrowUpto])⟩, HB2⟩
        case round =>
          clear HM HB2
          obtain ⟨i, hi, hgi, rfl, HM, HB2⟩ := hrel
          by_cases hlt : i < 20
          · have hltz : (i : Int) < 20 := by omega
            have hrow : rd_L2 (refUnitsP l0) (i : Int) = refRows l0 i := by
              unfold rd_L2 refUnitsP
              rw [Int.toNat_natCast, List.getD_eq_getElem?_getD, List.getElem?_map, List.getElem?_range hlt]
              rfl
            have HROW := Aside0.mk hrow
            clear hrow
            go_wp2
            go_loopg [7] (refRows l0 i).length (fun gg s7 wr => ∃ k : Nat, k ≤ (refRows l0 i).length ∧ (refRows l0 i).length - k ≤ gg ∧ s7 = .int .i64 k ∧ Aside0 (Mat wr 63 g (arrowUpto l0 i k)) ∧ Aside0 (Below g w1 wr))
            case atStart => exact ⟨0, Nat.zero_le _, by omega, rfl, HM, HB2⟩
            case round =>
              clear HM HB2
              obtain ⟨k, hk, hgk, rfl, HM, HB2⟩ := hrel
              obtain ⟨ad, A4, c4, hA, h0, h1, h2⟩ := at_L2 (show Kd.C (Kd.slice 3 (Kd.int .i64)) wr A2 (refUnitsP l0).length (refUnitsP l0) from Kd.C_below HU1.out (by rw [HG.out]; exact HB2.out)) i (by omega) (by rw [HLN.out]; exact hltz)
              rw [HROW.out] at h0 h1 h2
              rw [Int.toNat_natCast] at h0
              subst hA
              have hlm : (refRows l0 i).length ≤ 9223372036854775807 := h2.2.1
              by_cases hlk : k < (refRows l0 i).length
              · have hz0 := (refRows_iff l0 HALL.out i hlt _).1 (List.getElem_mem hlk)
                have hz1 := rowsNext_sym l0 i ⟨by omega, by omega⟩ _ hz0
                obtain ⟨z, hz⟩ : ∃ z : Nat, (refRows l0 i)[k] = (z : Int) := ⟨(refRows l0 i)[k].toNat, by have := hz1.1; omega⟩
                have hz20 : z < 20 := by have := hz1.2; omega
                have HUP := Aside0.mk (arrowUpto_snoc l0 i k hlk z hz)
                have hlkz : (k : Int) < ((refRows l0 i).length : Int) := by omega
                obtain ⟨ad1, hA1, hc1⟩ := Kd.at_int h2 k (by omega) hlkz
                rw [Int.toNat_natCast, rd_getElem _ k hlk, hz] at hc1
                subst hA1
                have hz20z : (z : Int) < 20 := by omega
                have hcm := HM.out.cell i z hlt hz20
                have hcf := HM.out.frozen (i * 20 + z)
                have HMS := Aside0.mk (HM.out.set i z true hlt hz20)
                rw [HUP.out] at HMS
                clear hz hz0 hz1 h2 h1
                generalize (refRows l0 i).length = m at *
                go_wp2
                go_region
                all_goals
                  go_wp2
                  go_roundg (m - (k + 1))
                  case measure => omega
                  case rel => exact ⟨k + 1, by omega, by omega, by go_num, ⟨HMS.out⟩, ⟨(below_drew HB2.out).setCell (Nat.le_refl _) _⟩⟩
              · have hlkz : ¬ (k : Int) < ((refRows l0 i).length : Int) := by omega
                have hke : k = (refRows l0 i).length := by omega
                have HM2 : Aside0 (Mat wr 63 g (arrowUpto l0 (i + 1) 0)) := ⟨by rw [← arrowUpto_next, ← hke]; exact HM.out⟩
                clear hke h2
                generalize (refRows l0 i).length = m at *
                go_wp2
                go_roundg (20 - (i + 1))
                case measure => omega
                case rel => exact ⟨i + 1, by omega, by omega, by go_num, HM2, HB2⟩
          · have hltz : ¬ (i : Int) < 20 := by omega
            have hie : i = 20 := by omega
            subst hie
            have HM0 : Aside0 (Mat wr 63 g (matD (arrow l0) 0)) := ⟨HM.out.congr (fun a b ha _ => by simp [arrowUpto, matD, ha])⟩
            clear HM HU1
            go_wp2
            go_loopg [8] 20 (fun gg s8 wr => ∃ k : Nat, k ≤ 20 ∧ 20 - k ≤ gg ∧ s8 = .int .i64 k ∧ Aside0 (Mat wr 63 g (matD (arrow l0) k)) ∧ Aside0 (Below g w1 wr))
            case atStart => exact ⟨0, by omega, by omega, rfl, HM0, HB2⟩
            case round =>
              clear HM0 HB2
              obtain ⟨k, hk, hgk, rfl, HM, HB2⟩ := hrel
              by_cases hk20 : k < 20
              · have hk20z : (k : Int) < 20 := by omega
                have HM1 : Aside0 (Mat wr 63 g (stage (arrow l0) k 0 0)) := ⟨HM.out.congr (fun a b _ _ => by simp [stage])⟩
                clear HM
                go_wp2
                go_loopg [9] 20 (fun gg s9 wr => ∃ i : Nat, i ≤ 20 ∧ 20 - i ≤ gg ∧ s9 = .int .i64 i ∧ Aside0 (Mat wr 63 g (stage (arrow l0) k i 0)) ∧ Aside0 (Below g w1 wr))
                case atStart => exact ⟨0, by omega, by omega, rfl, HM1, HB2⟩
                case round =>
                  clear HM1 HB2
                  obtain ⟨i, hi, hgi, rfl, HM, HB2⟩ := hrel
                  by_cases hi20 : i < 20
                  · have hi20z : (i : Int) < 20 := by omega
                    go_wp2
                    go_loopg [10] 20 (fun gg s10 wr => ∃ j : Nat, j ≤ 20 ∧ 20 - j ≤ gg ∧ s10 = .int .i64 j ∧ Aside0 (Mat wr 63 g (stage (arrow l0) k i j)) ∧ Aside0 (Below g w1 wr))
                    case atStart => exact ⟨0, by omega, by omega, rfl, HM, HB2⟩
                    case round =>
                      clear HM HB2
                      obtain ⟨j, hj, hgj, rfl, HM, HB2⟩ := hrel
                      by_cases hj20 : j < 20
                      · have hj20z : (j : Int) < 20 := by omega
                        have m1 := HM.out.cell i j hi20 hj20
                        have m2 := HM.out.cell i k hi20 hk20
                        have m3 := HM.out.cell k j hk20 hj20
                        have mf := HM.out.frozen (i * 20 + j)
                        have HMS : ∀ v : Bool, v = (stage (arrow l0) k i j i j || (stage (arrow l0) k i j i k && stage (arrow l0) k i j k j)) → Mat (wr.setCell ⟨g, i * 20 + j, none⟩ (.bool v)) 63 g (stage (arrow l0) k i (j + 1)) := by
                          intro v hv
                          rw [← stage_upd, ← hv]
                          exact HM.out.set i j v hi20 hj20
                        generalize stage (arrow l0) k i j i j = x1 at *
                        generalize stage (arrow l0) k i j i k = x2 at *
                        generalize stage (arrow l0) k i j k j = x3 at *
                        have HMT := Aside0.mk HMS
                        clear HMS HM
                        cases x1 with
                        | true =>
                          go_wp2
                          go_region
                          all_goals
                            go_wp2
                            go_roundg (20 - (j + 1))
                            case measure => omega
                            case rel => exact ⟨j + 1, by omega, by omega, by go_num, ⟨HMT.out true (by simp)⟩, ⟨(below_drew HB2.out).setCell (Nat.le_refl _) _⟩⟩
                        | false =>
                          cases x2 with
                          | false =>
                            go_wp2
                            go_region
                            all_goals
                              go_wp2
                              go_roundg (20 - (j + 1))
                              case measure => omega
                              case rel => exact ⟨j + 1, by omega, by omega, by go_num, ⟨HMT.out false (by simp)⟩, ⟨(below_drew HB2.out).setCell (Nat.le_refl _) _⟩⟩
                          | true =>
                            cases x3 with
                            | false =>
                              go_wp2
                              go_region
                              all_goals
                                go_wp2
                                go_roundg (20 - (j + 1))
                                case measure => omega
                                case rel => exact ⟨j + 1, by omega, by omega, by go_num, ⟨HMT.out false (by simp)⟩, ⟨(below_drew HB2.out).setCell (Nat.le_refl _) _⟩⟩
                            | true =>
                              go_wp2
                              go_region
                              all_goals
                                go_wp2
                                go_roundg (20 - (j + 1))
                                case measure => omega
                                case rel => exact ⟨j + 1, by omega, by omega, by go_num, ⟨HMT.out true (by simp)⟩, ⟨(below_drew HB2.out).setCell (Nat.le_refl _) _⟩⟩
                      · have hj20z : ¬ (j : Int) < 20 := by omega
                        have hje : j = 20 := by omega
                        have HM2 : Aside0 (Mat wr 63 g (stage (arrow l0) k (i + 1) 0)) := ⟨HM.out.congr (fun a b _ hb => by
                          unfold stage
                          by_cases h : a < i ∨ (a = i ∧ b < j)
                          · rw [if_pos h, if_pos (by omega)]
                          · rw [if_neg h, if_neg (by omega)])⟩
                        go_wp2
                        go_roundg (20 - (i + 1))
                        case measure => omega
                        case rel => exact ⟨i + 1, by omega, by omega, by go_num, HM2, HB2⟩
                  · have hi20z : ¬ (i : Int) < 20 := by omega
                    have HM2 : Aside0 (Mat wr 63 g (matD (arrow l0) (k + 1))) := ⟨HM.out.congr (fun a b ha _ => by
                      unfold stage
                      rw [if_pos (by omega)])⟩
                    go_wp2
                    go_roundg (20 - (k + 1))
                    case measure => omega
                    case rel => exact ⟨k + 1, by omega, by omega, by go_num, HM2, HB2⟩
              · have hk20z : ¬ (k : Int) < 20 := by omega
                have hke : k = 20 := by omega
                subst hke
                go_wp2
                go_loopg [11] 20 (fun gg s11 wr => ∃ i : Nat, i ≤ 20 ∧ 20 - i ≤ gg ∧ s11 = .int .i64 i ∧ Aside0 (Mat wr 63 g (matD (arrow l0) 20)) ∧ Aside0 (Below g w1 wr) ∧ Aside0 (∀ j, j < i → matD (arrow l0) 20 j j = false))
                case atStart => exact ⟨0, by omega, by omega, rfl, HM, HB2, ⟨fun j hj => absurd hj (Nat.not_lt_zero _)⟩⟩
                case round =>
                  clear HM HB2
                  obtain ⟨i, hi, hgi, rfl, HM, HB2, HA⟩ := hrel
                  by_cases hi20 : i < 20
                  · have hi20z : (i : Int) < 20 := by omega
                    have m1 := HM.out.cell i i hi20 hi20
                    cases hd : matD (arrow l0) 20 i i with
                    | true =>
                      rw [hd] at m1
                      have hz : checkP l0 = false := by
                        cases hc : checkP l0 with
                        | false => rfl
                        | true =>
                          have := HCM.out.1 hc i hi20
                          rw [hd] at this
                          cases this
                      go_wp2
                      go_ret
                      exact ⟨ret_bool hz.symm, HB1.out.trans (HB2.out.mono (by rw [← HG.out]; exact HB1.out.size))⟩
                    | false =>
                      rw [hd] at m1
                      go_wp2
                      go_roundg (20 - (i + 1))
                      case measure => omega
                      case rel =>
                        refine ⟨i + 1, by omega, by omega, by go_num, HM, HB2, ⟨fun j hj => ?_⟩⟩
                        by_cases e : j = i
                        · subst e; exact hd
                        · exact HA.out j (by omega)
                  · have hi20z : ¬ (i : Int) < 20 := by omega
                    have hz : checkP l0 = true := HCM.out.2 (fun j hj => HA.out j (by omega))
                    go_wp2
                    go_ret
                    exact ⟨by first | rfl | exact ret_bool hz.symm, HB1.out.trans (HB2.out.mono (by rw [← HG.out]; exact HB1.out.size))⟩
  · have h60z : (l0.length : Int) > 60 := by omega
    have hz : checkP l0 = false := by simp [checkP, h60]
    go_enter Try.func22, Try.ntmps22
    go_wp2
    go_ret
    exact ⟨ret_bool hz.symm, Below.refl _ _⟩
theorem interlocutorref4_Check.calls (A0 : Option Addr) (c0 : Nat) (l0 : List Rule') (r : Bool) (w : World) (hr0 : Kd.C k26 w A0 l0.length l0) (hc0 : l0.length ≤ c0) (h : interlocutorref4_Check.f l0 = some r) :
    Calls Try.prog 22 #[.slice A0 l0.length c0] w fun e w' => e = .returned (.bool r) ∧ Below w.heap.size w w' := by
  obtain rfl := Option.some.inj h
  exact refCheck_walk A0 c0 l0 w hr0 hc0
end Go.Proofs.Ytjomlfdkmdgclaa.P
end
section
namespace Go.Proofs.Ytjomlfdkmdgclaa.P
open Go.RowKit Go.Proofs.YtjomlfdkmdgclaaW.PrintWords Go.Proofs.YtjomlfdkmdgclaaW.PrintLast Go.Proofs.YtjomlfdkmdgclaaW.PrintMore
attribute [local go_sem] max2_int min2_int max_two min_two max_three min_three max_four min_four   
set_option linter.unusedVariables false
set_option linter.unusedSimpArgs false
theorem sorted_ext {l l' : List Int} (h : l.Pairwise (· < ·)) (h' : l'.Pairwise (· < ·)) (hm : ∀ y, y ∈ l ↔ y ∈ l') : l = l' := by
  have n1 : l.Nodup := h.imp (fun h => Int.ne_of_lt h)
  have n2 : l'.Nodup := h'.imp (fun h => Int.ne_of_lt h)
  have hp : l.Perm l' := (List.perm_ext_iff_of_nodup n1 n2).2 hm
  have s : ∀ l : List Int, l.Pairwise (· < ·) → sortI l = l := by
    intro l h
    unfold sortI
    refine List.mergeSort_of_pairwise (h.imp ?_)
    intro a b h
    simp [leI]
    omega
  rw [← s l h, ← s l' h']
  exact mergeSort_of_perm_i hp
def symRules (l0 : List Rule') : Bool := l0.all fun r => decide (0 ≤ r.f0 ∧ r.f0 < 20) && r.f1.all fun y => decide (y < 20)
noncomputable def interlocutorref4_Reached.f (l0 : List Rule') : Option (List Int) := if symRules l0 = true then some (reachL (nextP l0) [0]) else none
structure Sofar (l0 : List Rule') (l : List Int) : Prop where
  zero : 0 ∈ l
  sorted : l.Pairwise (· < ·)
  reach : ∀ y ∈ l, Reach (nextP l0) [0] y
def doneRule (l : List Int) (r : Rule') : Prop := r.f0 ∈ l → ∀ y ∈ r.f1, 0 ≤ y → y ∈ l
theorem Sofar.len {l0 : List Rule'} {l : List Int} (h : Sofar l0 l) : l.length ≤ 20 :=
  length_of_sub (h.sorted.imp (fun h => Int.ne_of_lt h)) (fun x hx => (h.reach x hx).sym (fun x _ => nextP_sym l0 x) zero_sym)
theorem Sofar.eq {l0 : List Rule'} {l : List Int} (h : Sofar l0 l) (hd : ∀ r ∈ l0, doneRule l r) : l = reachL (nextP l0) [0] := by
  refine sorted_ext h.sorted (reachL_sorted _ _) fun y => ?_
  rw [mem_reached]
  refine ⟨h.reach y, fun hr => ?_⟩
  refine Reach.inv (P := fun y => y ∈ l) (fun x hx => by rw [List.mem_singleton.1 hx]; exact h.zero) (fun x hx y hy => ?_) hr
  obtain ⟨hs, r, hr, h1, h2⟩ := (mem_nextP l0 x y).1 hy
  exact hd r hr (by rw [h1]; exact hx) y h2 hs.1
theorem Sofar.start (l0 : List Rule') : Sofar l0 [0] := ⟨by simp, by simp, fun y hy => .base hy⟩
theorem Sofar.put {l0 : List Rule'} {l : List Int} (h : Sofar l0 l) (r : Rule') (hr : r ∈ l0) (h0 : r.f0 ∈ l) (y : Int) (hy : y ∈ r.f1) (hs : inSym y) : Sofar l0 (putP l y) := by
  refine ⟨(mem_putP _ _ _).2 (.inr h.zero), putP_sorted _ _ h.sorted, fun z hz => ?_⟩
  rcases (mem_putP _ _ _).1 hz with rfl | hz
  · exact .step (h.reach _ h0) ((mem_nextP l0 _ _).2 ⟨hs, r, hr, rfl, hy⟩)
  · exact h.reach z hz
def Pass (again : Bool) (l : List Int) (n : Nat) (done : List Int → Prop) : Prop := n ≤ l.length ∧ (again = true → n < l.length) ∧ (again = false → l.length = n ∧ done l)
set_option maxHeartbeats 4000000 in
set_option maxRecDepth 100000 in
theorem refReached_walk (A0 : Option Addr) (c0 : Nat) (l0 : List Rule') (w : World) (hr0 : Kd.C k26 w A0 l0.length l0) (hc0 : l0.length ≤ c0) (hu : symRules l0 = true) :
    Calls Try.prog 25 #[.slice A0 l0.length c0] w fun e w' => ∃ v0_ : Value, e = .returned (v0_) ∧ Kd.R (Kd.int .i64) 3 w' w.heap.size (fun _ => True) v0_ (reachL (nextP l0) [0]) ∧ Below w.heap.size w w' := by
  have hl : l0.length ≤ 9223372036854775807 := hr0.2.1
  have HU := Aside0.mk hu
  have HR := Aside0.mk hr0
  have HC := Aside0.mk hc0
  clear hr0 hc0 hu
  have hR1 : Aside0 (Kd.R (Kd.int .i64) 3 (w.alloc (.cells #[.int .i64 0] 3)) w.heap.size (fun _ => True) (.slice (some ⟨w.heap.size, 0, none⟩) ([0] : List Int).length 1) [0]) :=
    ⟨Kd.R_of_own (enc := Value.int .i64) (h1 := fun _ => rfl) (xs := [0]) (World.ownsRow_lit (base := w.heap.size) (e := 3) (size := 1) w #[.int .i64 0] 1 (Nat.le_refl _) (by simp [maxLen]) rfl) (fun _ _ => trivial)⟩
  have HB1 := Aside0.mk (below_alloc (Below.refl w.heap.size w) (.cells #[.int .i64 0] 3))
  go_enter Try.func25, Try.ntmps25
  go_wp2
  go_loopg [3, 4] 30 (fun gg s3 s4 wr => ∃ (l : List Int) (again : Bool) (A : Option Addr) (c : Nat), s3 = .slice A l.length c ∧ s4 = .bool again ∧ Aside0 (again.toNat + 30 ≤ gg + l.length) ∧ Aside0 (Sofar l0 l) ∧ Aside0 (again = false → ∀ r ∈ l0, doneRule l r) ∧ Aside0 (Kd.R (Kd.int .i64) 3 wr w.heap.size (fun _ => True) (.slice A l.length c) l) ∧ Aside0 (Below w.heap.size w wr))
  case atStart => exact ⟨[0], true, _, _, rfl, rfl, ⟨by simp⟩, ⟨Sofar.start l0⟩, ⟨fun h => by cases h⟩, hR1, HB1⟩
  case round =>
    clear hR1 HB1
    obtain ⟨l, again, A, c, rfl, rfl, HG, HS, HD, HRL, HB⟩ := hrel
    cases again with
    | false =>
      have h9 := HRL.out
      have he := HS.out.eq (HD.out rfl)
      have HE := Aside0.mk he
      have HR9 := Aside0.mk h9
      clear he h9 HRL
      go_wp2
      go_ret
      have h8 := HR9.out
      refine ⟨_, rfl, ?_, HB.out⟩
      rw [← HE.out]
      exact h8
    | true =>
      have hl20 := HS.out.len
      have hg1 := HG.out
      generalize hn0 : l.length = n0 at *
      have HN0 := Aside0.mk hn0
      obtain ⟨G, hG⟩ : ∃ G, G = gk := ⟨_, rfl⟩
      have hgg : 31 ≤ gk + n0 := by simpa [Nat.add_comm] using hg1
      clear hn0 hg1 HG HD
      go_wp2
      go_loopg [3, 4, 5] l0.length (fun gg s3 s4 s5 wr => ∃ (l : List Int) (again : Bool) (A : Option Addr) (c : Nat) (i : Nat), s3 = .slice A l.length c ∧ s4 = .bool again ∧ s5 = .int .i64 i ∧ i ≤ l0.length ∧ l0.length - i ≤ gg ∧ Aside0 (Sofar l0 l) ∧ Aside0 (Pass again l n0 (fun l => ∀ j, j < i → ∀ h : j < l0.length, doneRule l l0[j])) ∧ Aside0 (Kd.R (Kd.int .i64) 3 wr w.heap.size (fun _ => True) (.slice A l.length c) l) ∧ Aside0 (Below w.heap.size w wr))
      case atStart =>
        refine ⟨l, false, A, c, 0, by rw [HN0.out], rfl, rfl, Nat.zero_le _, by omega, HS, ⟨⟨by rw [HN0.out]; exact Nat.le_refl _, (fun h => by cases h), fun _ => ⟨HN0.out, fun j hj => absurd hj (Nat.not_lt_zero _)⟩⟩⟩, ⟨by rw [HN0.out]; exact HRL.out⟩, HB⟩
      case round =>
        clear HS HRL HB HN0
        obtain ⟨l, again, A, c, i, rfl, rfl, rfl, hi, hgi, HS, HP, HRL, HB⟩ := hrel
        by_cases hlt : i < l0.length
        · have hltz : (i : Int) < (l0.length : Int) := by omega
          obtain ⟨ad, A1, c1, A3, c3, hA, h0, h1, h2, h3, h4, l1, g1, l3, g3⟩ := at_T26 HR.out i (by omega) hltz
          have hx : rd_T26 l0 i = l0[i] := by simp [rd_T26, List.getD_eq_getElem?_getD, List.getElem?_eq_getElem hlt]
          generalize rd_T26 l0 i = y at *
          have HX := Aside0.mk hx
          have HM : Aside0 (y ∈ l0) := ⟨by rw [hx]; exact List.getElem_mem hlt⟩
          rw [Int.toNat_natCast] at h0 h1 h2 h3 h4
          subst hA
          have h0' := pw_cell_below HB.out h0
          have h1' := pw_cell_below HB.out h1
          have H0 := Aside0.mk h0
          have H1 := Aside0.mk h1
          have HG1 := Aside0.mk g1
          have hly : y.f1.length ≤ 9223372036854775807 := g1.2.1
          clear hx l3 g3 g1 h0 h1 h2 h3 h4
          have hll := HS.out.len
          have hml := putP_mem_len l y.f0 HS.out.sorted
          generalize hm0 : l.length = m0 at *
          have HM0 := Aside0.mk hm0
          clear hm0
          go_wp2_with fail
          refine (put_rowN A c m0 l y.f0 wr w.heap.size HB.out.size HM0.out HRL.out (by omega)).mono ?_
          rintro e w2 ⟨A2, c2, rfl, hb2, hR2⟩
          have HB2 := Aside0.mk (below_step HB.out hb2)
          have HRL2 := Aside0.mk (Kd.R_below HRL.out hb2)
          clear hR2 hb2 HB HRL h0' h1'
          have h1' := pw_cell_below HB2.out H1.out
          by_cases hin : y.f0 ∈ l
          · rw [hml.1.2 hin]
            have HIN := Aside0.mk hin
            clear hin hml
            go_wp2
            go_loopg [3, 4, 6] y.f1.length (fun gg s3 s4 s6 wr => ∃ (l : List Int) (again : Bool) (A : Option Addr) (c : Nat) (k : Nat), s3 = .slice A l.length c ∧ s4 = .bool again ∧ s6 = .int .i64 k ∧ k ≤ y.f1.length ∧ y.f1.length - k ≤ gg ∧ Aside0 (y.f0 ∈ l) ∧ Aside0 (Sofar l0 l) ∧ Aside0 (Pass again l n0 (fun l => (∀ j, j < i → ∀ h : j < l0.length, doneRule l l0[j]) ∧ ∀ j, j < k → ∀ h : j < y.f1.length, 0 ≤ y.f1[j] → y.f1[j] ∈ l)) ∧ Aside0 (Kd.R (Kd.int .i64) 3 wr w.heap.size (fun _ => True) (.slice A l.length c) l) ∧ Aside0 (Below w.heap.size w wr))
            case atStart =>
              refine ⟨l, again, A, c, 0, by rw [HM0.out], rfl, rfl, Nat.zero_le _, by omega, HIN, HS, ⟨?_⟩, ⟨by rw [HM0.out]; exact HRL2.out⟩, HB2⟩
              obtain ⟨p1, p2, p3⟩ := HP.out
              exact ⟨p1, p2, fun h => ⟨(p3 h).1, (p3 h).2, fun j hj => absurd hj (Nat.not_lt_zero _)⟩⟩
            case round =>
              clear HIN HS HP HRL2 HB2 HM0 h1' hll
              obtain ⟨l, again, A, c, k, rfl, rfl, rfl, hk, hgk, HIN, HS, HP, HRL, HB⟩ := hrel
              have h1' := pw_cell_below HB.out H1.out
              have hll := HS.out.len
              generalize hm0 : l.length = m1 at *
              have HM0 := Aside0.mk hm0
              clear hm0
              by_cases hlk : k < y.f1.length
              · have hlkz : (k : Int) < (y.f1.length : Int) := by omega
                obtain ⟨ad1, hA1, hc1⟩ := Kd.at_int (Kd.C_below HG1.out HB.out) k (by omega) hlkz
                rw [Int.toNat_natCast, rd_getElem y.f1 k hlk] at hc1
                subst hA1
                have HZ : Aside0 (y.f1[k] ∈ y.f1 ∧ y.f1[k] < 20) := ⟨List.getElem_mem hlk, by
                  have h5 := List.all_eq_true.1 HU.out y HM.out
                  rw [Bool.and_eq_true] at h5
                  exact of_decide_eq_true (List.all_eq_true.1 h5.2 _ (List.getElem_mem hlk))⟩
                generalize hz : y.f1[k] = z at *
                have HZ2 := Aside0.mk hz
                clear hz
                by_cases hz0 : z < 0
                · have hzb : decide (z < 0) = true := decide_eq_true hz0
                  go_wp2
                  go_roundg (y.f1.length - (k + 1))
                  case measure => omega
                  case rel =>
                    refine ⟨l, again, A, c, k + 1, by rw [HM0.out], rfl, by go_num, by omega, by omega, HIN, HS, ⟨?_⟩, ⟨by rw [HM0.out]; exact HRL.out⟩, HB⟩
                    obtain ⟨p1, p2, p3⟩ := HP.out
                    refine ⟨p1, p2, fun h => ⟨(p3 h).1, (p3 h).2.1, fun j hj hlj h0 => ?_⟩⟩
                    by_cases e : j = k
                    · subst e; rw [HZ2.out] at h0; omega
                    · exact (p3 h).2.2 j (by omega) hlj h0
                · have hzb : decide (z < 0) = false := decide_eq_false hz0
                  have HS2 := Aside0.mk (HS.out.put y HM.out HIN.out z HZ.out.1 ⟨by omega, HZ.out.2⟩)
                  have hml := putP_mem_len l z HS.out.sorted
                  rw [HM0.out] at hml
                  have hml2 := HS2.out.len
                  clear hz0
                  go_wp2_with fail
                  refine (put_rowN A c m1 l z wr w.heap.size HB.out.size HM0.out HRL.out (by omega)).mono ?_
                  rintro e w2 ⟨A2, c2, rfl, hb2, hR2⟩
                  have HB2 := Aside0.mk (below_step HB.out hb2)
                  have HR2 := Aside0.mk hR2
                  have HIN2 := Aside0.mk ((mem_putP l z y.f0).2 (.inr HIN.out))
                  have HML := Aside0.mk hml
                  clear hR2 hb2 HB HRL h1' hc1 hml
                  generalize hq : (putP l z).length = q at *
                  have HQ := Aside0.mk hq
                  clear hq
                  have hqle : m1 ≤ q := HML.out.2.1
                  cases again with
                  | true =>
                    go_wp2
                    go_roundg (y.f1.length - (k + 1))
                    case measure => omega
                    case rel =>
                      refine ⟨putP l z, true, A2, c2, k + 1, by rw [HQ.out], rfl, by go_num, by omega, by omega, HIN2, HS2, ⟨?_⟩, ⟨by rw [HQ.out]; exact HR2.out⟩, HB2⟩
                      obtain ⟨p1, p2, p3⟩ := HP.out
                      have := p2 rfl
                      have := HM0.out
                      have := HQ.out
                      exact ⟨by omega, fun _ => by omega, fun h => by cases h⟩
                  | false =>
                    by_cases hgr : m1 < q
                    · have hgz : decide ((m1 : Int) < (q : Int)) = true := decide_eq_true (by omega)
                      go_wp2
                      go_roundg (y.f1.length - (k + 1))
                      case measure => omega
                      case rel =>
                        refine ⟨putP l z, true, A2, c2, k + 1, by rw [HQ.out], rfl, by go_num, by omega, by omega, HIN2, HS2, ⟨?_⟩, ⟨by rw [HQ.out]; exact HR2.out⟩, HB2⟩
                        obtain ⟨p1, p2, p3⟩ := HP.out
                        have := HM0.out
                        have := HQ.out
                        exact ⟨by omega, fun _ => by omega, fun h => by cases h⟩
                    · have hgz : decide ((m1 : Int) < (q : Int)) = false := decide_eq_false (by omega)
                      have hqe : q = m1 := by omega
                      have HE : Aside0 (z ∈ l ∧ putP l z = l) := ⟨HML.out.1.1 hqe, HML.out.2.2 (HML.out.1.1 hqe)⟩
                      go_wp2
                      go_roundg (y.f1.length - (k + 1))
                      case measure => omega
                      case rel =>
                        refine ⟨putP l z, false, A2, c2, k + 1, by first | (rw [HQ.out]; done) | rw [HQ.out, hqe], rfl, by go_num, by omega, by omega, HIN2, HS2, ⟨?_⟩, ⟨by rw [HQ.out]; exact HR2.out⟩, HB2⟩
                        obtain ⟨p1, p2, p3⟩ := HP.out
                        rw [HE.out.2]
                        refine ⟨p1, (fun h => by cases h), fun h => ⟨(p3 h).1, (p3 h).2.1, fun j hj hlj h0 => ?_⟩⟩
                        by_cases e : j = k
                        · subst e; rw [HZ2.out]; exact HE.out.1
                        · exact (p3 h).2.2 j (by omega) hlj h0
              · have hlkz : ¬ (k : Int) < (y.f1.length : Int) := by omega
                have hke : k = y.f1.length := by omega
                have HKE := Aside0.mk hke
                clear hke
                go_wp2
                go_roundg (l0.length - (i + 1))
                case measure => omega
                case rel =>
                  refine ⟨l, again, A, c, i + 1, by rw [HM0.out], rfl, by go_num, by omega, by omega, HS, ⟨?_⟩, ⟨by rw [HM0.out]; exact HRL.out⟩, HB⟩
                  obtain ⟨p1, p2, p3⟩ := HP.out
                  refine ⟨p1, p2, fun h => ⟨(p3 h).1, fun j hj hlj => ?_⟩⟩
                  by_cases e : j = i
                  · subst e
                    rw [← HX.out]
                    intro _ v hv h0
                    obtain ⟨t, ht, rfl⟩ := List.mem_iff_getElem.1 hv
                    exact (p3 h).2.2 t (by rw [HKE.out]; exact ht) ht h0
                  · exact (p3 h).2.1 j (by omega) hlj
          · have hne : (putP l y.f0).length ≠ m0 := fun h => hin (hml.1.1 h)
            generalize (putP l y.f0).length = q at *
            have hqz : ((q : Int) == (m0 : Int)) = false := beq_eq_false_iff_ne.2 (by omega)
            have HIN := Aside0.mk hin
            clear hin hml hne
            go_wp2
            go_roundg (l0.length - (i + 1))
            case measure => omega
            case rel =>
              refine ⟨l, again, A, c, i + 1, by rw [HM0.out], rfl, by go_num, by omega, by omega, HS, ⟨?_⟩, ⟨by rw [HM0.out]; exact HRL2.out⟩, HB2⟩
              obtain ⟨p1, p2, p3⟩ := HP.out
              refine ⟨p1, p2, fun h => ⟨(p3 h).1, fun j hj hlj => ?_⟩⟩
              by_cases e : j = i
              · subst e
                rw [← HX.out]
                exact fun h => absurd h HIN.out
              · exact (p3 h).2 j (by omega) hlj
        · have hltz : ¬ (i : Int) < (l0.length : Int) := by omega
          have hie : i = l0.length := by omega
          have HIE := Aside0.mk hie
          have hll := HS.out.len
          obtain ⟨p1, p2, p3⟩ := HP.out
          clear hie HP
          have HP3 := Aside0.mk p3
          have HP2 := Aside0.mk p2
          have HP1 := Aside0.mk p1
          clear p1 p2 p3
          generalize hm0 : l.length = m0 at *
          have HM0 := Aside0.mk hm0
          clear hm0
          go_wp2
          go_roundg (G - 1)
          case measure => omega
          case rel =>
            refine ⟨l, again, A, c, by rw [HM0.out], rfl, ⟨?_⟩, HS, ⟨fun h r hr => ?_⟩, ⟨by rw [HM0.out]; exact HRL.out⟩, HB⟩
            · cases again with
              | false => have := (HP3.out rfl).1; have := HM0.out; simp; omega
              | true => have := HP2.out rfl; have := HM0.out; simp; omega
            · obtain ⟨j, hj, rfl⟩ := List.mem_iff_getElem.1 hr
              exact (HP3.out h).2 j (by rw [HIE.out]; exact hj) hj
theorem interlocutorref4_Reached.calls (A0 : Option Addr) (c0 : Nat) (l0 : List Rule') (r : List Int) (w : World) (hr0 : Kd.C k26 w A0 l0.length l0) (hc0 : l0.length ≤ c0) (h : interlocutorref4_Reached.f l0 = some r) :
    Calls Try.prog 25 #[.slice A0 l0.length c0] w fun e w' => ∃ v0_ : Value, e = .returned (v0_) ∧ Kd.R (Kd.int .i64) 3 w' w.heap.size (fun _ => True) v0_ r ∧ Below w.heap.size w w' := by
  unfold interlocutorref4_Reached.f at h
  split at h
  case isFalse => cases h
  case isTrue hu =>
  obtain rfl := Option.some.inj h
  exact refReached_walk A0 c0 l0 w hr0 hc0 hu
end Go.Proofs.Ytjomlfdkmdgclaa.P
end
section
namespace Go.Proofs.Ytjomlfdkmdgclaa.P
open Go.RowKit Go.Proofs.YtjomlfdkmdgclaaW.PrintWords Go.Proofs.YtjomlfdkmdgclaaW.PrintLast Go.Proofs.YtjomlfdkmdgclaaW.PrintMore
attribute [local go_sem] max2_int min2_int max_two min_two max_three min_three max_four min_four   
set_option linter.unusedVariables false
set_option linter.unusedSimpArgs false
mutual
noncomputable def interlocutorlaw4_GramChecks.l0 : Nat → List (S31) → Int → List (S26) → Int → Int → Option (Bool)
  | 0, _, _, _, _, _ => none
  | k + 1, x0, x2, x7, x8, x9 => if x9 < (x0.length : Int) then (if 0 ≤ x9 then ((interlocutorlaw4_Raw_Make.f k ((rd_T31 x0 x9).f0) ((rd_T31 x0 x9).f1) ((rd_T31 x0 x9).f2) ((rd_T31 x0 x9).f3) ((rd_T31 x0 x9).f4) x8).bind fun bt221 => (if x7.length < 1954687338268 then (interlocutorlaw4_GramChecks.l0 k x0 x2 (x7 ++ [(⟨bt221.1, bt221.2.1, (⟨bt221.2.2.1, bt221.2.2.2.1⟩ : S24), bt221.2.2.2.2⟩ : S26)]) x8 (wrap64 (x9 + 1))) else (none))) else (none)) else (interlocutorlaw4_GramChecks.l1 k x2 x7 0)
noncomputable def interlocutorlaw4_GramChecks.j2 : Nat → List (S26) → Option (Bool)
  | 0, _ => none
  | k + 1, x7 => (gram_Units.f x7).bind fun t238 => ((interlocutorref4_Units.f x7).bind fun t241 => (if (t238.length : Int) = (t241.length : Int) then ((gram_Check.f x7).bind fun t244 => ((interlocutorref4_Check.f x7).bind fun t245 => (if (t244 != t245) = true then (interlocutorlaw4_GramChecks.j3 k t238 t241 true) else ((gram_Reached.f x7).bind fun t246 => ((interlocutorref4_Reached.f x7).bind fun t249 => ((interlocutorref3_Ints.f k t246 t249).bind fun t252 => (interlocutorlaw4_GramChecks.j3 k t238 t241 (!t252)))))))) else (interlocutorlaw4_GramChecks.j3 k t238 t241 true)))
noncomputable def interlocutorlaw4_GramChecks.j3 : Nat → List (List Int) → List (List Int) → Bool → Option (Bool)
  | 0, _, _, _ => none
  | k + 1, x11, x12, x81 => if x81 = true then (some false) else (interlocutorlaw4_GramChecks.l2 k x11 x12 0)
noncomputable def interlocutorlaw4_GramChecks.l2 : Nat → List (List Int) → List (List Int) → Int → Option (Bool)
  | 0, _, _, _ => none
  | k + 1, x11, x12, x13 => if x13 < (x11.length : Int) then (if 0 ≤ x13 then (if x13 < (x12.length : Int) then ((interlocutorref3_Ints.f k (rd_L2 x11 x13) (rd_L2 x12 x13)).bind fun t255 => (if t255 = true then (interlocutorlaw4_GramChecks.l2 k x11 x12 (wrap64 (x13 + 1))) else (some false))) else (none)) else (none)) else (some true)
noncomputable def interlocutorlaw4_GramChecks.l1 : Nat → Int → List (S26) → Int → Option (Bool)
  | 0, _, _, _ => none
  | k + 1, x2, x7, x10 => (interlocutorlaw4_within.f x2 12).bind fun t233 => (if x10 < t233 then (if (x7.length : Int) > 0 then (if (x7.length : Int) = 0 then (none) else (if 0 ≤ (Int.tmod x10 (x7.length : Int)) then (if (Int.tmod x10 (x7.length : Int)) < (x7.length : Int) then (if x7.length < 1954687338268 then (interlocutorlaw4_GramChecks.l1 k x2 (x7 ++ [(⟨(rd_T26 x7 (Int.tmod x10 (x7.length : Int))).f0, (rd_T26 x7 (Int.tmod x10 (x7.length : Int))).f1, (⟨(rd_T26 x7 (Int.tmod x10 (x7.length : Int))).f2.f0, (rd_T26 x7 (Int.tmod x10 (x7.length : Int))).f2.f1⟩ : S24), (rd_T26 x7 (Int.tmod x10 (x7.length : Int))).f3⟩ : S26)]) (wrap64 (x10 + 1))) else (none)) else (none)) else (none))) else (interlocutorlaw4_GramChecks.j2 k x7)) else (interlocutorlaw4_GramChecks.j2 k x7))
end
noncomputable def interlocutorlaw4_GramChecks.f (k : Nat) (l0 : List (S31)) (a1 : Int) (a2 : Int) : Option (Bool) := (interlocutorlaw4_known.f).bind fun t217 => (if t217 = true then ((interlocutorlaw4_Few.f k l0).bind fun t218 => (if t218 = true then ((interlocutorlaw4_within.f a1 20).bind fun t219 => (interlocutorlaw4_GramChecks.l0 k l0 a2 ([] : List (S26)) (wrap64 (1 + t219)) 0)) else (some true))) else (some false))
theorem interlocutorlaw4_GramChecks.mono_l : ∀ k, (∀ y0 y1 y2 y3 y4, LeO (interlocutorlaw4_GramChecks.l0 k y0 y1 y2 y3 y4) (interlocutorlaw4_GramChecks.l0 (k + 1) y0 y1 y2 y3 y4)) ∧ (∀ y0, LeO (interlocutorlaw4_GramChecks.j2 k y0) (interlocutorlaw4_GramChecks.j2 (k + 1) y0)) ∧ (∀ y0 y1 y2, LeO (interlocutorlaw4_GramChecks.j3 k y0 y1 y2) (interlocutorlaw4_GramChecks.j3 (k + 1) y0 y1 y2)) ∧ (∀ y0 y1 y2, LeO (interlocutorlaw4_GramChecks.l2 k y0 y1 y2) (interlocutorlaw4_GramChecks.l2 (k + 1) y0 y1 y2)) ∧ (∀ y0 y1 y2, LeO (interlocutorlaw4_GramChecks.l1 k y0 y1 y2) (interlocutorlaw4_GramChecks.l1 (k + 1) y0 y1 y2))
  | 0 => ⟨fun _ _ _ _ _ r h => by simp [interlocutorlaw4_GramChecks.l0] at h, fun _ r h => by simp [interlocutorlaw4_GramChecks.j2] at h, fun _ _ _ r h => by simp [interlocutorlaw4_GramChecks.j3] at h, fun _ _ _ r h => by simp [interlocutorlaw4_GramChecks.l2] at h, fun _ _ _ r h => by simp [interlocutorlaw4_GramChecks.l1] at h⟩
  | k + 1 => by
    obtain ⟨ih0, ih1, ih2, ih3, ih4⟩ := interlocutorlaw4_GramChecks.mono_l k
    refine ⟨?_, ?_, ?_, ?_, ?_⟩
    · intro y0 y1 y2 y3 y4
      unfold interlocutorlaw4_GramChecks.l0
      repeat' first
      | (with_reducible exact ih0 _ _ _ _ _)
      | (with_reducible exact ih1 _)
      | (with_reducible exact ih2 _ _ _)
      | (with_reducible exact ih3 _ _ _)
      | (with_reducible exact ih4 _ _ _)
      | (with_reducible exact interlocutorlaw4_Few.mono _ _)
      | (with_reducible exact interlocutorlaw4_Raw_Make.mono _ _ _ _ _ _ _)
      | (with_reducible exact interlocutorref3_Ints.mono _ _ _)
      | (with_reducible exact LeO.refl _)
      | (with_reducible exact LeO.none _)
      | (with_reducible refine LeO.ite ?_ ?_)
      | (with_reducible refine LeO.bind ?_ (fun _ => ?_))
      | exact ih0 _ _ _ _ _
      | exact ih1 _
      | exact ih2 _ _ _
      | exact ih3 _ _ _
      | exact ih4 _ _ _
      | exact interlocutorlaw4_Few.mono _ _
      | exact interlocutorlaw4_Raw_Make.mono _ _ _ _ _ _ _
      | exact interlocutorref3_Ints.mono _ _ _
      | exact LeO.none _
      | refine LeO.ite ?_ ?_
      | refine LeO.bind ?_ (fun _ => ?_)
    · intro y0
      unfold interlocutorlaw4_GramChecks.j2
      repeat' first
      | (with_reducible exact ih0 _ _ _ _ _)
      | (with_reducible exact ih1 _)
      | (with_reducible exact ih2 _ _ _)
      | (with_reducible exact ih3 _ _ _)
      | (with_reducible exact ih4 _ _ _)
      | (with_reducible exact interlocutorlaw4_Few.mono _ _)
      | (with_reducible exact interlocutorlaw4_Raw_Make.mono _ _ _ _ _ _ _)
      | (with_reducible exact interlocutorref3_Ints.mono _ _ _)
      | (with_reducible exact LeO.refl _)
      | (with_reducible exact LeO.none _)
      | (with_reducible refine LeO.ite ?_ ?_)
      | (with_reducible refine LeO.bind ?_ (fun _ => ?_))
      | exact ih0 _ _ _ _ _
      | exact ih1 _
      | exact ih2 _ _ _
      | exact ih3 _ _ _
      | exact ih4 _ _ _
      | exact interlocutorlaw4_Few.mono _ _
      | exact interlocutorlaw4_Raw_Make.mono _ _ _ _ _ _ _
      | exact interlocutorref3_Ints.mono _ _ _
      | exact LeO.none _
      | refine LeO.ite ?_ ?_
      | refine LeO.bind ?_ (fun _ => ?_)
    · intro y0 y1 y2
      unfold interlocutorlaw4_GramChecks.j3
      repeat' first
      | (with_reducible exact ih0 _ _ _ _ _)
      | (with_reducible exact ih1 _)
      | (with_reducible exact ih2 _ _ _)
      | (with_reducible exact ih3 _ _ _)
      | (with_reducible exact ih4 _ _ _)
      | (with_reducible exact interlocutorlaw4_Few.mono _ _)
      | (with_reducible exact interlocutorlaw4_Raw_Make.mono _ _ _ _ _ _ _)
      | (with_reducible exact interlocutorref3_Ints.mono _ _ _)
      | (with_reducible exact LeO.refl _)
      | (with_reducible exact LeO.none _)
      | (with_reducible refine LeO.ite ?_ ?_)
      | (with_reducible refine LeO.bind ?_ (fun _ => ?_))
      | exact ih0 _ _ _ _ _
      | exact ih1 _
      | exact ih2 _ _ _
      | exact ih3 _ _ _
      | exact ih4 _ _ _
      | exact interlocutorlaw4_Few.mono _ _
      | exact interlocutorlaw4_Raw_Make.mono _ _ _ _ _ _ _
      | exact interlocutorref3_Ints.mono _ _ _
      | exact LeO.none _
      | refine LeO.ite ?_ ?_
      | refine LeO.bind ?_ (fun _ => ?_)
    · intro y0 y1 y2
      unfold interlocutorlaw4_GramChecks.l2
      repeat' first
      | (with_reducible exact ih0 _ _ _ _ _)
      | (with_reducible exact ih1 _)
      | (with_reducible exact ih2 _ _ _)
      | (with_reducible exact ih3 _ _ _)
      | (with_reducible exact ih4 _ _ _)
      | (with_reducible exact interlocutorlaw4_Few.mono _ _)
      | (with_reducible exact interlocutorlaw4_Raw_Make.mono _ _ _ _ _ _ _)
      | (with_reducible exact interlocutorref3_Ints.mono _ _ _)
      | (with_reducible exact LeO.refl _)
      | (with_reducible exact LeO.none _)
      | (with_reducible refine LeO.ite ?_ ?_)
      | (with_reducible refine LeO.bind ?_ (fun _ => ?_))
      | exact ih0 _ _ _ _ _
      | exact ih1 _
      | exact ih2 _ _ _
      | exact ih3 _ _ _
      | exact ih4 _ _ _
      | exact interlocutorlaw4_Few.mono _ _
      | exact interlocutorlaw4_Raw_Make.mono _ _ _ _ _ _ _
      | exact interlocutorref3_Ints.mono _ _ _
      | exact LeO.none _
      | refine LeO.ite ?_ ?_
      | refine LeO.bind ?_ (fun _ => ?_)
    · intro y0 y1 y2
      unfold interlocutorlaw4_GramChecks.l1
      repeat' first
      | (with_reducible exact ih0 _ _ _ _ _)
      | (with_reducible exact ih1 _)
      | (with_reducible exact ih2 _ _ _)
      | (with_reducible exact ih3 _ _ _)
      | (with_reducible exact ih4 _ _ _)
      | (with_reducible exact interlocutorlaw4_Few.mono _ _)
      | (with_reducible exact interlocutorlaw4_Raw_Make.mono _ _ _ _ _ _ _)
      | (with_reducible exact interlocutorref3_Ints.mono _ _ _)
      | (with_reducible exact LeO.refl _)
      | (with_reducible exact LeO.none _)
      | (with_reducible refine LeO.ite ?_ ?_)
      | (with_reducible refine LeO.bind ?_ (fun _ => ?_))
      | exact ih0 _ _ _ _ _
      | exact ih1 _
      | exact ih2 _ _ _
      | exact ih3 _ _ _
      | exact ih4 _ _ _
      | exact interlocutorlaw4_Few.mono _ _
      | exact interlocutorlaw4_Raw_Make.mono _ _ _ _ _ _ _
      | exact interlocutorref3_Ints.mono _ _ _
      | exact LeO.none _
      | refine LeO.ite ?_ ?_
      | refine LeO.bind ?_ (fun _ => ?_)
theorem interlocutorlaw4_GramChecks.mono : ∀ a0 a1 a2 k, LeO (interlocutorlaw4_GramChecks.f k a0 a1 a2) (interlocutorlaw4_GramChecks.f (k + 1) a0 a1 a2) := by
  intro a0 a1 a2 k
  obtain ⟨ih0, ih1, ih2, ih3, ih4⟩ := interlocutorlaw4_GramChecks.mono_l k
  unfold interlocutorlaw4_GramChecks.f
  repeat' first
      | (with_reducible exact ih0 _ _ _ _ _)
      | (with_reducible exact ih1 _)
      | (with_reducible exact ih2 _ _ _)
      | (with_reducible exact ih3 _ _ _)
      | (with_reducible exact ih4 _ _ _)
      | (with_reducible exact interlocutorlaw4_Few.mono _ _)
      | (with_reducible exact interlocutorlaw4_Raw_Make.mono _ _ _ _ _ _ _)
      | (with_reducible exact interlocutorref3_Ints.mono _ _ _)
      | (with_reducible exact LeO.refl _)
      | (with_reducible exact LeO.none _)
      | (with_reducible refine LeO.ite ?_ ?_)
      | (with_reducible refine LeO.bind ?_ (fun _ => ?_))
      | exact ih0 _ _ _ _ _
      | exact ih1 _
      | exact ih2 _ _ _
      | exact ih3 _ _ _
      | exact ih4 _ _ _
      | exact interlocutorlaw4_Few.mono _ _
      | exact interlocutorlaw4_Raw_Make.mono _ _ _ _ _ _ _
      | exact interlocutorref3_Ints.mono _ _ _
      | exact LeO.none _
      | refine LeO.ite ?_ ?_
      | refine LeO.bind ?_ (fun _ => ?_)
set_option maxHeartbeats 8000000 in
set_option maxRecDepth 100000 in
theorem interlocutorlaw4_GramChecks.calls (k : Nat) (A0 : Option Addr) (c0 : Nat) (l0 : List (S31)) (a1 : Int) (a2 : Int) (r : Bool) (w : World) (hr0 : Kd.C k31 w A0 l0.length l0) (hc0 : l0.length ≤ c0) (h : interlocutorlaw4_GramChecks.f k l0 a1 a2 = some r) :
    Calls Try.prog 4 #[.slice A0 l0.length c0, .int .i64 a1, .int .i64 a2] w fun e w' => e = .returned (.bool r) ∧ Below w.heap.size w w' := by
  have hu31 := Try.underlying31
  have hu26 := Try.underlying26
  have HR0 := Aside0.mk hr0
  have HC0 := Aside0.mk hc0
  clear hr0 hc0
  have HB := Aside0.mk (Below.refl w.heap.size w)
  have H : ((interlocutorlaw4_known.f).bind fun t217 => (if t217 = true then ((interlocutorlaw4_Few.f k l0).bind fun t218 => (if t218 = true then ((interlocutorlaw4_within.f a1 20).bind fun t219 => (interlocutorlaw4_GramChecks.l0 k l0 a2 ([] : List (S26)) (wrap64 (1 + t219)) 0)) else (some true))) else (some false))) = some r := h
  clear h
  replace H := Option.bind_eq_some_iff.mp H
  obtain ⟨t217, A40, H⟩ := H
  replace H : (if t217 = true then ((interlocutorlaw4_Few.f k l0).bind fun t218 => (if t218 = true then ((interlocutorlaw4_within.f a1 20).bind fun t219 => (interlocutorlaw4_GramChecks.l0 k l0 a2 ([] : List (S26)) (wrap64 (1 + t219)) 0)) else (some true))) else (some false)) = some r := H
  have A4 := Aside0.mk A40
  clear A40
  by_cases c5 : t217 = true
  · subst c5
    have H1 : ((interlocutorlaw4_Few.f k l0).bind fun t218 => (if t218 = true then ((interlocutorlaw4_within.f a1 20).bind fun t219 => (interlocutorlaw4_GramChecks.l0 k l0 a2 ([] : List (S26)) (wrap64 (1 + t219)) 0)) else (some true))) = some r := by rw [if_pos rfl] at H; exact H
    clear H
    have H := H1
    clear H1
    replace H := Option.bind_eq_some_iff.mp H
    obtain ⟨t218, A60, H⟩ := H
    replace H : (if t218 = true then ((interlocutorlaw4_within.f a1 20).bind fun t219 => (interlocutorlaw4_GramChecks.l0 k l0 a2 ([] : List (S26)) (wrap64 (1 + t219)) 0)) else (some true)) = some r := H
    have A6 := Aside0.mk A60
    clear A60
    by_cases c7 : t218 = true
    · subst c7
      have H1 : ((interlocutorlaw4_within.f a1 20).bind fun t219 => (interlocutorlaw4_GramChecks.l0 k l0 a2 ([] : List (S26)) (wrap64 (1 + t219)) 0)) = some r := by rw [if_pos rfl] at H; exact H
      clear H
      have H := H1
      clear H1
      replace H := Option.bind_eq_some_iff.mp H
      obtain ⟨t219, A80, H⟩ := H
      replace H : (interlocutorlaw4_GramChecks.l0 k l0 a2 ([] : List (S26)) (wrap64 (1 + t219)) 0) = some r := H
      have A8 := Aside0.mk A80
      clear A80
      have H' := Aside0.mk H
      clear H
      go_enter Try.func4, Try.ntmps4
      go_wp2_with (first | (go_at_call 13; (with_reducible refine (interlocutorlaw4_known.calls  true _ A4.out).mono ?_); rintro e w9 ⟨rfl, hb⟩; have n0_ := Aside0.mk (below_step (by repeat (first | (with_reducible first | exact HB.out | apply below_alloc | apply pw_below_drewN | apply below_drew1) | exact HB.out)) hb); clear HB; have HB := n0_; clear n0_; (try clear hb); (try clear hb2); (try clear hk); (try clear hi)) | (go_at_call 14; (with_reducible refine (interlocutorlaw4_Few.calls k _ _ l0 true _ ?side1 ?side2 A6.out).mono ?_); (case side1 => repeat (first | exact (Kd.C_below HR0.out HB.out) | (with_reducible refine Kd.C_alloc ?_ _) | (with_reducible refine Kd.C_drewN ?_ _) | (with_reducible refine Kd.C_drew ?_))); (case side2 => exact HC0.out); rintro e w' ⟨rfl, ⟨nd, rfl⟩⟩; (try first | exact ⟨rfl, _, World.drewN_drewN _ _ _⟩ | exact ⟨rfl, _, Eq.trans (World.drewN_drewN _ _ _) (congrArg (World.drewN _) (Nat.add_assoc _ _ _))⟩)) | (go_at_call 17; (with_reducible refine (interlocutorlaw4_within.calls a1 20 t219 _ A8.out).mono ?_); rintro e w' ⟨rfl, ⟨nd, rfl⟩⟩; (try first | exact ⟨rfl, _, World.drewN_drewN _ _ _⟩ | exact ⟨rfl, _, Eq.trans (World.drewN_drewN _ _ _) (congrArg (World.drewN _) (Nat.add_assoc _ _ _))⟩)))
      repeat (go_quiet (first | (go_at_call 13; (with_reducible refine (interlocutorlaw4_known.calls  true _ A4.out).mono ?_); rintro e w9 ⟨rfl, hb⟩; have n0_ := Aside0.mk (below_step (by repeat (first | (with_reducible first | exact HB.out | apply below_alloc | apply pw_below_drewN | apply below_drew1) | exact HB.out)) hb); clear HB; have HB := n0_; clear n0_; (try clear hb); (try clear hb2); (try clear hk); (try clear hi)) | (go_at_call 14; (with_reducible refine (interlocutorlaw4_Few.calls k _ _ l0 true _ ?side1 ?side2 A6.out).mono ?_); (case side1 => repeat (first | exact (Kd.C_below HR0.out HB.out) | (with_reducible refine Kd.C_alloc ?_ _) | (with_reducible refine Kd.C_drewN ?_ _) | (with_reducible refine Kd.C_drew ?_))); (case side2 => exact HC0.out); rintro e w' ⟨rfl, ⟨nd, rfl⟩⟩; (try first | exact ⟨rfl, _, World.drewN_drewN _ _ _⟩ | exact ⟨rfl, _, Eq.trans (World.drewN_drewN _ _ _) (congrArg (World.drewN _) (Nat.add_assoc _ _ _))⟩)) | (go_at_call 17; (with_reducible refine (interlocutorlaw4_within.calls a1 20 t219 _ A8.out).mono ?_); rintro e w' ⟨rfl, ⟨nd, rfl⟩⟩; (try first | exact ⟨rfl, _, World.drewN_drewN _ _ _⟩ | exact ⟨rfl, _, Eq.trans (World.drewN_drewN _ _ _) (congrArg (World.drewN _) (Nat.add_assoc _ _ _))⟩))); try go_wp2_with (first | (go_at_call 13; (with_reducible refine (interlocutorlaw4_known.calls  true _ A4.out).mono ?_); rintro e w9 ⟨rfl, hb⟩; have n0_ := Aside0.mk (below_step (by repeat (first | (with_reducible first | exact HB.out | apply below_alloc | apply pw_below_drewN | apply below_drew1) | exact HB.out)) hb); clear HB; have HB := n0_; clear n0_; (try clear hb); (try clear hb2); (try clear hk); (try clear hi)) | (go_at_call 14; (with_reducible refine (interlocutorlaw4_Few.calls k _ _ l0 true _ ?side1 ?side2 A6.out).mono ?_); (case side1 => repeat (first | exact (Kd.C_below HR0.out HB.out) | (with_reducible refine Kd.C_alloc ?_ _) | (with_reducible refine Kd.C_drewN ?_ _) | (with_reducible refine Kd.C_drew ?_))); (case side2 => exact HC0.out); rintro e w' ⟨rfl, ⟨nd, rfl⟩⟩; (try first | exact ⟨rfl, _, World.drewN_drewN _ _ _⟩ | exact ⟨rfl, _, Eq.trans (World.drewN_drewN _ _ _) (congrArg (World.drewN _) (Nat.add_assoc _ _ _))⟩)) | (go_at_call 17; (with_reducible refine (interlocutorlaw4_within.calls a1 20 t219 _ A8.out).mono ?_); rintro e w' ⟨rfl, ⟨nd, rfl⟩⟩; (try first | exact ⟨rfl, _, World.drewN_drewN _ _ _⟩ | exact ⟨rfl, _, Eq.trans (World.drewN_drewN _ _ _) (congrArg (World.drewN _) (Nat.add_assoc _ _ _))⟩))))
      go_loopg [7, 9] k (fun kq v7 v9 w' => ∃ (x7_1 : List (S26)) (x9_1 : Int), v9 = .int .i64 x9_1 ∧ Aside0 (interlocutorlaw4_GramChecks.l0 kq l0 a2 x7_1 (wrap64 (1 + t219)) x9_1 = some r) ∧ Aside0 (kq ≤ k) ∧ Aside0 (Kd.N k26 26 w' w.heap.size (fun _ => True) v7 x7_1) ∧ Aside0 (Below w.heap.size w w'))
      case atStart => exact ⟨(([] : List (S26))), (0), (by first | rfl | (simp; done) | (simp [*]; done)), H', ⟨Nat.le_refl _⟩, ⟨by first | exact Kd.S_nil _ _ _ _ _ | exact Kd.N_nil _ _ _ _ _ | exact Kd.V_nil _ _ _ _ _ | exact Kd.Q_nil _ _ _ _ _ | exact Kd.R_nil _ _ _ _ _⟩, ⟨by repeat (first | (with_reducible first | exact HB.out | apply below_alloc | apply pw_below_drewN | apply below_drew1) | exact HB.out)⟩⟩
      case round =>
        clear H'
        try clear p2
        try clear c4
        try clear c5
        try clear p6
        try clear c7
        obtain ⟨x7_1, x9_1, rfl, HA, HK1, HO_7, HB⟩ := hrel
        cases gk with
        | zero => exact absurd HA.out (by simp [interlocutorlaw4_GramChecks.l0])
        | succ k1 =>
          have H := HA.out
          clear HA
          simp only [interlocutorlaw4_GramChecks.l0] at H
          by_cases c10 : x9_1 < (l0.length : Int)
          · rw [if_pos c10] at H
            have c10b0 : decide (x9_1 < (l0.length : Int)) = true := decide_eq_true c10
            clear c10
            by_cases c11 : 0 ≤ x9_1
            · rw [if_pos c11] at H
              have c11b0 : decide (0 ≤ x9_1) = true := decide_eq_true c11
              clear c11
              replace H := Option.bind_eq_some_iff.mp H
              obtain ⟨⟨t221, t222, t225, t226, t229⟩, A120, H⟩ := H
              replace H : (if x7_1.length < 1954687338268 then (interlocutorlaw4_GramChecks.l0 k1 l0 a2 (x7_1 ++ [(⟨t221, t222, (⟨t225, t226⟩ : S24), t229⟩ : S26)]) (wrap64 (1 + t219)) (wrap64 (x9_1 + 1))) else (none)) = some r := H
              have A12 := Aside0.mk A120
              clear A120
              by_cases c13 : x7_1.length < 1954687338268
              · rw [if_pos c13] at H
                have LMc13 := Aside0.mk c13
                clear c13
                obtain ⟨y230, hy230⟩ : ∃ y_ : List (S26), y_ = (x7_1 ++ [(⟨t221, t222, (⟨t225, t226⟩ : S24), t229⟩ : S26)]) := ⟨_, rfl⟩
                replace H : (interlocutorlaw4_GramChecks.l0 k1 l0 a2 y230 (wrap64 (1 + t219)) (wrap64 (x9_1 + 1))) = some r := by first | (rw [hy230]; with_reducible exact H) | (have H2_ := (Option.bind_some _ _).symm.trans H; rw [hy230]; with_reducible exact H2_) | (have H2_ := (Option.bind_some _ _).symm.trans H; with_reducible exact H2_) | with_reducible exact H | (rw [hy230]; exact H) | exact H
                have Ny230 := Aside0.mk hy230
                clear hy230
                have H' := Aside0.mk H
                clear H
                have p220 : 0 ≤ (x9_1 : Int) := of_decide_eq_true (by first | (with_reducible assumption) | assumption)
                have q220 : x9_1 < (l0.length : Int) := of_decide_eq_true (by first | (with_reducible assumption) | assumption)
                obtain ⟨ad220, A220_3, c220_3, A220_4, c220_4, e220, hx220_0, hx220_1, hx220_2, hx220_3, hx220_4, hl220_3, hi220_3, hl220_4, hi220_4⟩ := at_T31 HR0.out x9_1 p220 q220
                cases e220
                replace hx220_0 := (HB.out.cell (World.block_lt_of_cell? w _ hx220_0)).trans hx220_0
                replace hx220_1 := (HB.out.cell (World.block_lt_of_cell? w _ hx220_1)).trans hx220_1
                replace hx220_2 := (HB.out.cell (World.block_lt_of_cell? w _ hx220_2)).trans hx220_2
                replace hx220_3 := (HB.out.cell (World.block_lt_of_cell? w _ hx220_3)).trans hx220_3
                replace hx220_4 := (HB.out.cell (World.block_lt_of_cell? w _ hx220_4)).trans hx220_4
                have HR220_3 := Aside0.mk hi220_3
                have HC220_3 := Aside0.mk hl220_3
                clear hi220_3 hl220_3
                have HR220_4 := Aside0.mk hi220_4
                have HC220_4 := Aside0.mk hl220_4
                clear hi220_4 hl220_4
                replace p220 := eq_true p220
                replace q220 := eq_true q220
                go_wp2_with (first | (go_at_call 15; (with_reducible refine (interlocutorlaw4_Raw_Make.calls k1 ((rd_T31 l0 x9_1).f0) ((rd_T31 l0 x9_1).f1) ((rd_T31 l0 x9_1).f2) _ _ ((rd_T31 l0 x9_1).f3) _ _ ((rd_T31 l0 x9_1).f4) (wrap64 (1 + t219)) t221 t222 t225 t226 t229 _ ?side1 ?side2 ?side3 ?side4 A12.out).mono ?_); (case side1 => repeat (first | exact (Kd.C_below HR220_3.out HB.out) | (with_reducible refine Kd.C_alloc ?_ _) | (with_reducible refine Kd.C_drewN ?_ _) | (with_reducible refine Kd.C_drew ?_))); (case side2 => exact HC220_3.out); (case side3 => repeat (first | exact (Kd.C_below HR220_4.out HB.out) | (with_reducible refine Kd.C_alloc ?_ _) | (with_reducible refine Kd.C_drewN ?_ _) | (with_reducible refine Kd.C_drew ?_))); (case side4 => exact HC220_4.out); rintro e w14 ⟨v223, v227, rfl, ho0, ho1, hb⟩; have n0_ := Aside0.mk (Kd.N_mono (Kd.N_told (Kd.N_told (Kd.N_old (by (with_reducible repeat (first | apply Kd.N_alloc | apply Kd.N_drewN | apply Kd.N_drew)); exact HO_7.out) hb) (Kd.R_base ho0)) (Kd.R_base ho1)) (fun _ h_ => h_.1)); have n1_ := Aside0.mk (Kd.R_lower ho0 (below_size (by repeat (first | (with_reducible first | exact HB.out | apply below_alloc | apply pw_below_drewN | apply below_drew1) | exact HB.out)))); have n2_ := Aside0.mk (Kd.R_lower ho1 (below_size (by repeat (first | (with_reducible first | exact HB.out | apply below_alloc | apply pw_below_drewN | apply below_drew1) | exact HB.out)))); have n3_ := Aside0.mk (below_step (by repeat (first | (with_reducible first | exact HB.out | apply below_alloc | apply pw_below_drewN | apply below_drew1) | exact HB.out)) hb); clear HO_7; clear HB; have HO_7 := n0_; have HO224 := n1_; have HO228 := n2_; have HB := n3_; clear n0_ n1_ n2_ n3_; (try clear hb); (try clear hb2); (try clear hk); (try clear hi); (try clear ho0); (try clear ho1); obtain ⟨Ao16, co16, eo16⟩ := Kd.R_slice HO224.out; subst eo16; obtain ⟨Ao17, co17, eo17⟩ := Kd.R_slice HO228.out; subst eo17) | ((with_reducible refine gate_builtin (b := .append) (xs := #[.tmp 28, .tmp 35]) rfl ?_); (try (refine gate_guard (by rfl) ?_; dsimp only)); at_builtin; refine Kd.N_append k26 (w0 := w) w.heap.size rfl (.tmp 28) (.tmp 35) 36 26 (.agg #[(.int .i64 0), (.slice none 0 0), (.int .i64 0), (.slice none 0 0), (.int .i64 0)]) 72 rfl Try.underlying36 info26 rfl (by decide) (by omega) u7 x7_1 (⟨t221, t222, (⟨t225, t226⟩ : S24), t229⟩ : S26) [.int .i64 t221, .slice Ao16 t222.length co16, .int .i64 t225, .slice Ao17 t226.length co17, .int .i64 t229] (fun _ => True) (fun k_ => ((fun _ => True)) k_ ∧ some k_ ≠ (u7 : Value).ownBlock) rfl rfl ?aP (fun _ hk => hk) ?aF ?aO ?aB ?aS ?aL ?_; (case aP => exact (k26_mkF _ _ (⟨t221, t222, (⟨t225, t226⟩ : S24), t229⟩ : S26) (Kd.R_reads' (Kd.R_mono (ok' := (fun k_ => ((fun _ => True)) k_ ∧ some k_ ≠ (u7 : Value).ownBlock)) (Kd.R_apart' (HO224.out) (Kd.N_typed HO_7.out) (by decide)) (fun k_ hk => ⟨trivial, hk.2⟩))).2.1 (Kd.R_F (Kd.R_mono (ok' := (fun k_ => ((fun _ => True)) k_ ∧ some k_ ≠ (u7 : Value).ownBlock)) (Kd.R_apart' (HO224.out) (Kd.N_typed HO_7.out) (by decide)) (fun k_ hk => ⟨trivial, hk.2⟩))) (Kd.R_reads' (Kd.R_mono (ok' := (fun k_ => ((fun _ => True)) k_ ∧ some k_ ≠ (u7 : Value).ownBlock)) (Kd.R_apart' (HO228.out) (Kd.N_typed HO_7.out) (by decide)) (fun k_ hk => ⟨trivial, hk.2⟩))).2.1 (Kd.R_F (Kd.R_mono (ok' := (fun k_ => ((fun _ => True)) k_ ∧ some k_ ≠ (u7 : Value).ownBlock)) (Kd.R_apart' (HO228.out) (Kd.N_typed HO_7.out) (by decide)) (fun k_ hk => ⟨trivial, hk.2⟩))))); (case aB => exact (by repeat (first | (with_reducible first | exact HB.out | apply below_alloc | apply pw_below_drewN | apply below_drew1) | exact HB.out))); (case aF => exact (fun _ _ => trivial)); (case aO => exact (by (with_reducible repeat (first | apply Kd.N_alloc | apply Kd.N_drewN | apply Kd.N_drew)); exact Kd.N_mono HO_7.out (fun _ hk => trivial))); (case aS => exact (below_size (by repeat (first | (with_reducible first | exact HB.out | apply below_alloc | apply pw_below_drewN | apply below_drew1) | exact HB.out)))); (case aL => have := LMc13.out; omega); intro v231 w15 ho hb hg hat; rw [← Ny230.out] at ho; have n0_ := Aside0.mk (hb); have n1_ := Aside0.mk (ho); clear HB; clear HO_7; clear HO224; clear HO228; have HB := n0_; have HO232 := n1_; clear n0_ n1_; clear ho hb hg hat))
                repeat (go_quiet (first | (go_at_call 15; (with_reducible refine (interlocutorlaw4_Raw_Make.calls k1 ((rd_T31 l0 x9_1).f0) ((rd_T31 l0 x9_1).f1) ((rd_T31 l0 x9_1).f2) _ _ ((rd_T31 l0 x9_1).f3) _ _ ((rd_T31 l0 x9_1).f4) (wrap64 (1 + t219)) t221 t222 t225 t226 t229 _ ?side1 ?side2 ?side3 ?side4 A12.out).mono ?_); (case side1 => repeat (first | exact (Kd.C_below HR220_3.out HB.out) | (with_reducible refine Kd.C_alloc ?_ _) | (with_reducible refine Kd.C_drewN ?_ _) | (with_reducible refine Kd.C_drew ?_))); (case side2 => exact HC220_3.out); (case side3 => repeat (first | exact (Kd.C_below HR220_4.out HB.out) | (with_reducible refine Kd.C_alloc ?_ _) | (with_reducible refine Kd.C_drewN ?_ _) | (with_reducible refine Kd.C_drew ?_))); (case side4 => exact HC220_4.out); rintro e w14 ⟨v223, v227, rfl, ho0, ho1, hb⟩; have n0_ := Aside0.mk (Kd.N_mono (Kd.N_told (Kd.N_told (Kd.N_old (by (with_reducible repeat (first | apply Kd.N_alloc | apply Kd.N_drewN | apply Kd.N_drew)); exact HO_7.out) hb) (Kd.R_base ho0)) (Kd.R_base ho1)) (fun _ h_ => h_.1)); have n1_ := Aside0.mk (Kd.R_lower ho0 (below_size (by repeat (first | (with_reducible first | exact HB.out | apply below_alloc | apply pw_below_drewN | apply below_drew1) | exact HB.out)))); have n2_ := Aside0.mk (Kd.R_lower ho1 (below_size (by repeat (first | (with_reducible first | exact HB.out | apply below_alloc | apply pw_below_drewN | apply below_drew1) | exact HB.out)))); have n3_ := Aside0.mk (below_step (by repeat (first | (with_reducible first | exact HB.out | apply below_alloc | apply pw_below_drewN | apply below_drew1) | exact HB.out)) hb); clear HO_7; clear HB; have HO_7 := n0_; have HO224 := n1_; have HO228 := n2_; have HB := n3_; clear n0_ n1_ n2_ n3_; (try clear hb); (try clear hb2); (try clear hk); (try clear hi); (try clear ho0); (try clear ho1); obtain ⟨Ao16, co16, eo16⟩ := Kd.R_slice HO224.out; subst eo16; obtain ⟨Ao17, co17, eo17⟩ := Kd.R_slice HO228.out; subst eo17) | ((with_reducible refine gate_builtin (b := .append) (xs := #[.tmp 28, .tmp 35]) rfl ?_); (try (refine gate_guard (by rfl) ?_; dsimp only)); at_builtin; refine Kd.N_append k26 (w0 := w) w.heap.size rfl (.tmp 28) (.tmp 35) 36 26 (.agg #[(.int .i64 0), (.slice none 0 0), (.int .i64 0), (.slice none 0 0), (.int .i64 0)]) 72 rfl Try.underlying36 info26 rfl (by decide) (by omega) u7 x7_1 (⟨t221, t222, (⟨t225, t226⟩ : S24), t229⟩ : S26) [.int .i64 t221, .slice Ao16 t222.length co16, .int .i64 t225, .slice Ao17 t226.length co17, .int .i64 t229] (fun _ => True) (fun k_ => ((fun _ => True)) k_ ∧ some k_ ≠ (u7 : Value).ownBlock) rfl rfl ?aP (fun _ hk => hk) ?aF ?aO ?aB ?aS ?aL ?_; (case aP => exact (k26_mkF _ _ (⟨t221, t222, (⟨t225, t226⟩ : S24), t229⟩ : S26) (Kd.R_reads' (Kd.R_mono (ok' := (fun k_ => ((fun _ => True)) k_ ∧ some k_ ≠ (u7 : Value).ownBlock)) (Kd.R_apart' (HO224.out) (Kd.N_typed HO_7.out) (by decide)) (fun k_ hk => ⟨trivial, hk.2⟩))).2.1 (Kd.R_F (Kd.R_mono (ok' := (fun k_ => ((fun _ => True)) k_ ∧ some k_ ≠ (u7 : Value).ownBlock)) (Kd.R_apart' (HO224.out) (Kd.N_typed HO_7.out) (by decide)) (fun k_ hk => ⟨trivial, hk.2⟩))) (Kd.R_reads' (Kd.R_mono (ok' := (fun k_ => ((fun _ => True)) k_ ∧ some k_ ≠ (u7 : Value).ownBlock)) (Kd.R_apart' (HO228.out) (Kd.N_typed HO_7.out) (by decide)) (fun k_ hk => ⟨trivial, hk.2⟩))).2.1 (Kd.R_F (Kd.R_mono (ok' := (fun k_ => ((fun _ => True)) k_ ∧ some k_ ≠ (u7 : Value).ownBlock)) (Kd.R_apart' (HO228.out) (Kd.N_typed HO_7.out) (by decide)) (fun k_ hk => ⟨trivial, hk.2⟩))))); (case aB => exact (by repeat (first | (with_reducible first | exact HB.out | apply below_alloc | apply pw_below_drewN | apply below_drew1) | exact HB.out))); (case aF => exact (fun _ _ => trivial)); (case aO => exact (by (with_reducible repeat (first | apply Kd.N_alloc | apply Kd.N_drewN | apply Kd.N_drew)); exact Kd.N_mono HO_7.out (fun _ hk => trivial))); (case aS => exact (below_size (by repeat (first | (with_reducible first | exact HB.out | apply below_alloc | apply pw_below_drewN | apply below_drew1) | exact HB.out)))); (case aL => have := LMc13.out; omega); intro v231 w15 ho hb hg hat; rw [← Ny230.out] at ho; have n0_ := Aside0.mk (hb); have n1_ := Aside0.mk (ho); clear HB; clear HO_7; clear HO224; clear HO228; have HB := n0_; have HO232 := n1_; clear n0_ n1_; clear ho hb hg hat)); try go_wp2_with (first | (go_at_call 15; (with_reducible refine (interlocutorlaw4_Raw_Make.calls k1 ((rd_T31 l0 x9_1).f0) ((rd_T31 l0 x9_1).f1) ((rd_T31 l0 x9_1).f2) _ _ ((rd_T31 l0 x9_1).f3) _ _ ((rd_T31 l0 x9_1).f4) (wrap64 (1 + t219)) t221 t222 t225 t226 t229 _ ?side1 ?side2 ?side3 ?side4 A12.out).mono ?_); (case side1 => repeat (first | exact (Kd.C_below HR220_3.out HB.out) | (with_reducible refine Kd.C_alloc ?_ _) | (with_reducible refine Kd.C_drewN ?_ _) | (with_reducible refine Kd.C_drew ?_))); (case side2 => exact HC220_3.out); (case side3 => repeat (first | exact (Kd.C_below HR220_4.out HB.out) | (with_reducible refine Kd.C_alloc ?_ _) | (with_reducible refine Kd.C_drewN ?_ _) | (with_reducible refine Kd.C_drew ?_))); (case side4 => exact HC220_4.out); rintro e w14 ⟨v223, v227, rfl, ho0, ho1, hb⟩; have n0_ := Aside0.mk (Kd.N_mono (Kd.N_told (Kd.N_told (Kd.N_old (by (with_reducible repeat (first | apply Kd.N_alloc | apply Kd.N_drewN | apply Kd.N_drew)); exact HO_7.out) hb) (Kd.R_base ho0)) (Kd.R_base ho1)) (fun _ h_ => h_.1)); have n1_ := Aside0.mk (Kd.R_lower ho0 (below_size (by repeat (first | (with_reducible first | exact HB.out | apply below_alloc | apply pw_below_drewN | apply below_drew1) | exact HB.out)))); have n2_ := Aside0.mk (Kd.R_lower ho1 (below_size (by repeat (first | (with_reducible first | exact HB.out | apply below_alloc | apply pw_below_drewN | apply below_drew1) | exact HB.out)))); have n3_ := Aside0.mk (below_step (by repeat (first | (with_reducible first | exact HB.out | apply below_alloc | apply pw_below_drewN | apply below_drew1) | exact HB.out)) hb); clear HO_7; clear HB; have HO_7 := n0_; have HO224 := n1_; have HO228 := n2_; have HB := n3_; clear n0_ n1_ n2_ n3_; (try clear hb); (try clear hb2); (try clear hk); (try clear hi); (try clear ho0); (try clear ho1); obtain ⟨Ao16, co16, eo16⟩ := Kd.R_slice HO224.out; subst eo16; obtain ⟨Ao17, co17, eo17⟩ := Kd.R_slice HO228.out; subst eo17) | ((with_reducible refine gate_builtin (b := .append) (xs := #[.tmp 28, .tmp 35]) rfl ?_); (try (refine gate_guard (by rfl) ?_; dsimp only)); at_builtin; refine Kd.N_append k26 (w0 := w) w.heap.size rfl (.tmp 28) (.tmp 35) 36 26 (.agg #[(.int .i64 0), (.slice none 0 0), (.int .i64 0), (.slice none 0 0), (.int .i64 0)]) 72 rfl Try.underlying36 info26 rfl (by decide) (by omega) u7 x7_1 (⟨t221, t222, (⟨t225, t226⟩ : S24), t229⟩ : S26) [.int .i64 t221, .slice Ao16 t222.length co16, .int .i64 t225, .slice Ao17 t226.length co17, .int .i64 t229] (fun _ => True) (fun k_ => ((fun _ => True)) k_ ∧ some k_ ≠ (u7 : Value).ownBlock) rfl rfl ?aP (fun _ hk => hk) ?aF ?aO ?aB ?aS ?aL ?_; (case aP => exact (k26_mkF _ _ (⟨t221, t222, (⟨t225, t226⟩ : S24), t229⟩ : S26) (Kd.R_reads' (Kd.R_mono (ok' := (fun k_ => ((fun _ => True)) k_ ∧ some k_ ≠ (u7 : Value).ownBlock)) (Kd.R_apart' (HO224.out) (Kd.N_typed HO_7.out) (by decide)) (fun k_ hk => ⟨trivial, hk.2⟩))).2.1 (Kd.R_F (Kd.R_mono (ok' := (fun k_ => ((fun _ => True)) k_ ∧ some k_ ≠ (u7 : Value).ownBlock)) (Kd.R_apart' (HO224.out) (Kd.N_typed HO_7.out) (by decide)) (fun k_ hk => ⟨trivial, hk.2⟩))) (Kd.R_reads' (Kd.R_mono (ok' := (fun k_ => ((fun _ => True)) k_ ∧ some k_ ≠ (u7 : Value).ownBlock)) (Kd.R_apart' (HO228.out) (Kd.N_typed HO_7.out) (by decide)) (fun k_ hk => ⟨trivial, hk.2⟩))).2.1 (Kd.R_F (Kd.R_mono (ok' := (fun k_ => ((fun _ => True)) k_ ∧ some k_ ≠ (u7 : Value).ownBlock)) (Kd.R_apart' (HO228.out) (Kd.N_typed HO_7.out) (by decide)) (fun k_ hk => ⟨trivial, hk.2⟩))))); (case aB => exact (by repeat (first | (with_reducible first | exact HB.out | apply below_alloc | apply pw_below_drewN | apply below_drew1) | exact HB.out))); (case aF => exact (fun _ _ => trivial)); (case aO => exact (by (with_reducible repeat (first | apply Kd.N_alloc | apply Kd.N_drewN | apply Kd.N_drew)); exact Kd.N_mono HO_7.out (fun _ hk => trivial))); (case aS => exact (below_size (by repeat (first | (with_reducible first | exact HB.out | apply below_alloc | apply pw_below_drewN | apply below_drew1) | exact HB.out)))); (case aL => have := LMc13.out; omega); intro v231 w15 ho hb hg hat; rw [← Ny230.out] at ho; have n0_ := Aside0.mk (hb); have n1_ := Aside0.mk (ho); clear HB; clear HO_7; clear HO224; clear HO228; have HB := n0_; have HO232 := n1_; clear n0_ n1_; clear ho hb hg hat)))
                go_roundg k1
                case measure => have := HK1.out; omega
                case rel => exact ⟨(y230), (wrap64 (x9_1 + 1)), (by first | rfl | (simp; done) | (simp [*]; done)), H', ⟨by have := HK1.out; omega⟩, ⟨by (with_reducible repeat (first | apply Kd.N_alloc | apply Kd.N_drewN | apply Kd.N_drew)); exact HO232.out⟩, ⟨by repeat (first | (with_reducible first | exact HB.out | apply below_alloc | apply pw_below_drewN | apply below_drew1) | exact HB.out)⟩⟩
              · rw [if_neg c13] at H
                exact absurd H (by simp)
            · rw [if_neg c11] at H
              exact absurd H (by simp)
          · rw [if_neg c10] at H
            have c10b0 : decide (x9_1 < (l0.length : Int)) = false := decide_eq_false c10
            clear c10
            have HC18 := Aside0.mk H
            clear H
            go_upto_block 2 with (fail)
            repeat (go_quiet (fail); go_upto_block 2 with (fail))
            go_cut [7] (fun v7 wc => ∃ (kq : Nat) (x7_17 : List (S26)), Aside0 (interlocutorlaw4_GramChecks.j2 kq x7_17 = some r) ∧ Aside0 (kq ≤ k1) ∧ Aside0 (Kd.N k26 26 wc w.heap.size (fun _ => True) v7 x7_17) ∧ Aside0 (Below w.heap.size w wc))
            case first =>
              have H := HC18.out
              clear HC18
              have H' := Aside0.mk H
              clear H
              go_wp2
              repeat (go_quiet (fail); try go_wp2)
              go_loopg [7, 10] k1 (fun kq v7 v10 w' => ∃ (x7_2 : List (S26)) (x10_2 : Int), v10 = .int .i64 x10_2 ∧ Aside0 (interlocutorlaw4_GramChecks.l1 kq a2 x7_2 x10_2 = some r) ∧ Aside0 (kq ≤ k1) ∧ Aside0 (Kd.N k26 26 w' w.heap.size (fun _ => True) v7 x7_2) ∧ Aside0 (Below w.heap.size w w'))
              case atStart => exact ⟨(x7_1), (0), (by first | rfl | (simp; done) | (simp [*]; done)), H', ⟨Nat.le_refl _⟩, ⟨by (with_reducible repeat (first | apply Kd.N_alloc | apply Kd.N_drewN | apply Kd.N_drew)); exact HO_7.out⟩, ⟨by repeat (first | (with_reducible first | exact HB.out | apply below_alloc | apply pw_below_drewN | apply below_drew1) | exact HB.out)⟩⟩
              case round =>
                clear H'
                try clear c1
                try clear c2
                try clear p2
                try clear q2
                try clear hx2
                try clear c4
                try clear c5
                try clear p6
                try clear c7
                try clear c10
                try clear c10b0
                try clear c11
                try clear c11b0
                try clear c13
                try clear hx220_0
                try clear hx220_1
                try clear hx220_2
                try clear hx220_3
                try clear hx220_4
                try clear p2
                try clear p220
                try clear p6
                try clear q220
                obtain ⟨x7_2, x10_2, rfl, HA, HK2, HO_7, HB⟩ := hrel
                cases gk with
                | zero => exact absurd HA.out (by simp [interlocutorlaw4_GramChecks.l1])
                | succ k2 =>
                  have H := HA.out
                  clear HA
                  simp only [interlocutorlaw4_GramChecks.l1] at H
                  replace H := Option.bind_eq_some_iff.mp H
                  obtain ⟨t233, A190, H⟩ := H
                  replace H : (if x10_2 < t233 then (if (x7_2.length : Int) > 0 then (if (x7_2.length : Int) = 0 then (none) else (if 0 ≤ (Int.tmod x10_2 (x7_2.length : Int)) then (if (Int.tmod x10_2 (x7_2.length : Int)) < (x7_2.length : Int) then (if x7_2.length < 1954687338268 then (interlocutorlaw4_GramChecks.l1 k2 a2 (x7_2 ++ [(⟨(rd_T26 x7_2 (Int.tmod x10_2 (x7_2.length : Int))).f0, (rd_T26 x7_2 (Int.tmod x10_2 (x7_2.length : Int))).f1, (⟨(rd_T26 x7_2 (Int.tmod x10_2 (x7_2.length : Int))).f2.f0, (rd_T26 x7_2 (Int.tmod x10_2 (x7_2.length : Int))).f2.f1⟩ : S24), (rd_T26 x7_2 (Int.tmod x10_2 (x7_2.length : Int))).f3⟩ : S26)]) (wrap64 (x10_2 + 1))) else (none)) else (none)) else (none))) else (interlocutorlaw4_GramChecks.j2 k2 x7_2)) else (interlocutorlaw4_GramChecks.j2 k2 x7_2)) = some r := H
                  have A19 := Aside0.mk A190
                  clear A190
                  by_cases c20 : x10_2 < t233
                  · rw [if_pos c20] at H
                    have c20b0 : decide (x10_2 < t233) = true := decide_eq_true c20
                    clear c20
                    (first | rw [c20b0] | (simp only [i64_w, i32_w]; rw [c20b0]) | skip)
                    by_cases c21 : (x7_2.length : Int) > 0
                    · rw [if_pos c21] at H
                      have c21b0 : decide (0 < (x7_2.length : Int)) = true := decide_eq_true c21
                      have c21b1 : decide (0 < x7_2.length) = true := decide_eq_true (by omega)
                      clear c21
                      by_cases c22 : (x7_2.length : Int) = 0
                      · rw [if_pos c22] at H
                        exact absurd H (by simp)
                      · rw [if_neg c22] at H
                        have c22b0 : ((x7_2.length : Int) == 0) = false := beq_eq_false_iff_ne.mpr c22
                        have c22b1 : ((x7_2.length : Int) != 0) = true := bne_iff_ne.mpr c22
                        have c22b2 : ¬ (x7_2 = []) := fun h_ => c22 (by rw [h_]; rfl)
                        obtain ⟨ji23, hji23⟩ : ∃ j_ : Int, (Int.tmod x10_2 (x7_2.length : Int)) = j_ := ⟨_, rfl⟩
                        replace H : (if 0 ≤ (ji23) then (if (ji23) < (x7_2.length : Int) then (if x7_2.length < 1954687338268 then (interlocutorlaw4_GramChecks.l1 k2 a2 (x7_2 ++ [(⟨(rd_T26 x7_2 (ji23)).f0, (rd_T26 x7_2 (ji23)).f1, (⟨(rd_T26 x7_2 (ji23)).f2.f0, (rd_T26 x7_2 (ji23)).f2.f1⟩ : S24), (rd_T26 x7_2 (ji23)).f3⟩ : S26)]) (wrap64 (x10_2 + 1))) else (none)) else (none)) else (none)) = some r := by first | (rw [hji23] at H; exact H) | (simp only [hji23] at H ⊢; exact H)
                        (try rw [hji23] at A19)
                        by_cases c24 : 0 ≤ (ji23)
                        · rw [if_pos c24] at H
                          have c24b0 : decide (0 ≤ (ji23)) = true := decide_eq_true c24
                          clear c24
                          by_cases c25 : (ji23) < (x7_2.length : Int)
                          · rw [if_pos c25] at H
                            have c25b0 : decide ((ji23) < (x7_2.length : Int)) = true := decide_eq_true c25
                            clear c25
                            by_cases c26 : x7_2.length < 1954687338268
                            · rw [if_pos c26] at H
                              have LMc26 := Aside0.mk c26
                              clear c26
                              obtain ⟨y235, hy235⟩ : ∃ y_ : List (S26), y_ = (x7_2 ++ [(⟨(rd_T26 x7_2 (ji23)).f0, (rd_T26 x7_2 (ji23)).f1, (⟨(rd_T26 x7_2 (ji23)).f2.f0, (rd_T26 x7_2 (ji23)).f2.f1⟩ : S24), (rd_T26 x7_2 (ji23)).f3⟩ : S26)]) := ⟨_, rfl⟩
                              replace H : (interlocutorlaw4_GramChecks.l1 k2 a2 y235 (wrap64 (x10_2 + 1))) = some r := by first | (rw [hy235]; with_reducible exact H) | (have H2_ := (Option.bind_some _ _).symm.trans H; rw [hy235]; with_reducible exact H2_) | (have H2_ := (Option.bind_some _ _).symm.trans H; with_reducible exact H2_) | with_reducible exact H | (rw [hy235]; exact H) | exact H
                              have Ny235 := Aside0.mk hy235
                              clear hy235
                              have H' := Aside0.mk H
                              clear H
                              go_wp2_with (first | (go_at_call 17; (with_reducible refine (interlocutorlaw4_within.calls a2 12 t233 _ A19.out).mono ?_); rintro e w' ⟨rfl, ⟨nd, rfl⟩⟩; (try first | exact ⟨rfl, _, World.drewN_drewN _ _ _⟩ | exact ⟨rfl, _, Eq.trans (World.drewN_drewN _ _ _) (congrArg (World.drewN _) (Nat.add_assoc _ _ _))⟩); obtain ⟨Ao27, co27, eo27⟩ := Kd.N_slice HO_7.out; subst eo27; have p234 : 0 ≤ ((ji23) : Int) := of_decide_eq_true (by first | (with_reducible assumption) | assumption); have q234 : (ji23) < (x7_2.length : Int) := of_decide_eq_true (by first | (with_reducible assumption) | assumption); obtain ⟨ad234, A234_1, c234_1, A234_3, c234_3, e234, hx234_0, hx234_1, hx234_2, hx234_3, hx234_4, hl234_1, hi234_1, hl234_3, hi234_3⟩ := at_T26 (Kd.N_reads' HO_7.out).2.2 (ji23) p234 q234; cases e234; obtain ⟨ce234, hce234, hMe234, hcc234⟩ := Kd.N_get HO_7.out z26 (ji23) p234 (by first | exact q234 | exact of_decide_eq_true (by first | (with_reducible assumption) | assumption) | (have e_ := (Kd.N_reads' HO_7.out).1; omega)); obtain ⟨ua234_1, uc234_1, ua234_3, uc234_3, rfl, ul234_1, ge234_1, ul234_3, ge234_3⟩ := k26_openF hMe234; have hv234_1 := hcc234 1 _ rfl; rw [add_field _ _ 1 (by omega)] at hv234_1; replace hv234_1 := Option.some.inj (hv234_1.symm.trans hx234_1); injection hv234_1 with hva_ hvn_ hvc_; rw [hva_] at ge234_1; rw [hvc_] at ul234_1; have HL234_1 := Aside0.mk (show Kd.V (Kd.int .i64) 3 _ w.heap.size _ _ ((rd_T26 x7_2 (ji23)).f1) from Kd.V_mk ul234_1 ge234_1); clear hva_ hvn_ hvc_ ge234_1 ul234_1; have hv234_3 := hcc234 3 _ rfl; rw [add_field _ _ 3 (by omega)] at hv234_3; replace hv234_3 := Option.some.inj (hv234_3.symm.trans hx234_3); injection hv234_3 with hva_ hvn_ hvc_; rw [hva_] at ge234_3; rw [hvc_] at ul234_3; have HL234_3 := Aside0.mk (show Kd.V (Kd.int .i64) 3 _ w.heap.size _ _ ((rd_T26 x7_2 (ji23)).f2.f1) from Kd.V_mk ul234_3 ge234_3); clear hva_ hvn_ hvc_ ge234_3 ul234_3; clear hcc234 hce234; have HR234_1 := Aside0.mk hi234_1; have HC234_1 := Aside0.mk hl234_1; clear hi234_1 hl234_1; have HR234_3 := Aside0.mk hi234_3; have HC234_3 := Aside0.mk hl234_3; clear hi234_3 hl234_3; replace p234 := eq_true p234; replace q234 := eq_true q234) | ((with_reducible refine gate_builtin (b := .append) (xs := #[.tmp 48, .tmp 56]) rfl ?_); (try (refine gate_guard (by rfl) ?_; dsimp only)); at_builtin; refine Kd.N_append k26 (w0 := w) w.heap.size rfl (.tmp 48) (.tmp 56) 36 26 (.agg #[(.int .i64 0), (.slice none 0 0), (.int .i64 0), (.slice none 0 0), (.int .i64 0)]) 72 rfl Try.underlying36 info26 rfl (by decide) (by omega) (.slice (some ad234) x7_2.length co27) x7_2 (⟨(rd_T26 x7_2 (ji23)).f0, (rd_T26 x7_2 (ji23)).f1, (⟨(rd_T26 x7_2 (ji23)).f2.f0, (rd_T26 x7_2 (ji23)).f2.f1⟩ : S24), (rd_T26 x7_2 (ji23)).f3⟩ : S26) [.int .i64 ((rd_T26 x7_2 (ji23)).f0), .slice A234_1 ((rd_T26 x7_2 (ji23)).f1).length c234_1, .int .i64 ((rd_T26 x7_2 (ji23)).f2.f0), .slice A234_3 ((rd_T26 x7_2 (ji23)).f2.f1).length c234_3, .int .i64 ((rd_T26 x7_2 (ji23)).f3)] (fun _ => True) (fun k_ => ((fun _ => True)) k_ ∧ some k_ ≠ (.slice (some ad234) x7_2.length co27 : Value).ownBlock) rfl rfl ?aP (fun _ hk => hk) ?aF ?aO ?aB ?aS ?aL ?_; (case aP => exact (k26_mkF _ _ (⟨(rd_T26 x7_2 (ji23)).f0, (rd_T26 x7_2 (ji23)).f1, (⟨(rd_T26 x7_2 (ji23)).f2.f0, (rd_T26 x7_2 (ji23)).f2.f1⟩ : S24), (rd_T26 x7_2 (ji23)).f3⟩ : S26) (Kd.V_reads' (Kd.V_mono (ok' := (fun k_ => ((fun _ => True)) k_ ∧ some k_ ≠ (.slice (some ad234) x7_2.length co27 : Value).ownBlock)) (HL234_1.out) (fun k_ hk => ⟨trivial, hk.2⟩))).2.1 (Kd.V_F (Kd.V_mono (ok' := (fun k_ => ((fun _ => True)) k_ ∧ some k_ ≠ (.slice (some ad234) x7_2.length co27 : Value).ownBlock)) (HL234_1.out) (fun k_ hk => ⟨trivial, hk.2⟩))) (Kd.V_reads' (Kd.V_mono (ok' := (fun k_ => ((fun _ => True)) k_ ∧ some k_ ≠ (.slice (some ad234) x7_2.length co27 : Value).ownBlock)) (HL234_3.out) (fun k_ hk => ⟨trivial, hk.2⟩))).2.1 (Kd.V_F (Kd.V_mono (ok' := (fun k_ => ((fun _ => True)) k_ ∧ some k_ ≠ (.slice (some ad234) x7_2.length co27 : Value).ownBlock)) (HL234_3.out) (fun k_ hk => ⟨trivial, hk.2⟩))))); (case aB => exact (by repeat (first | (with_reducible first | exact HB.out | apply below_alloc | apply pw_below_drewN | apply below_drew1) | exact HB.out))); (case aF => exact (fun _ _ => trivial)); (case aO => exact (by (with_reducible repeat (first | apply Kd.N_alloc | apply Kd.N_drewN | apply Kd.N_drew)); exact HO_7.out)); (case aS => exact (below_size (by repeat (first | (with_reducible first | exact HB.out | apply below_alloc | apply pw_below_drewN | apply below_drew1) | exact HB.out)))); (case aL => have := LMc26.out; omega); intro v236 w28 ho hb hg hat; rw [← Ny235.out] at ho; have n0_ := Aside0.mk (Kd.V_afterv (ok := (fun _ => True)) (by (with_reducible repeat (first | apply Kd.V_alloc | apply Kd.V_drewN | apply Kd.V_drew)); exact HL234_1.out) hg hat); have n1_ := Aside0.mk (Kd.V_afterv (ok := (fun _ => True)) (by (with_reducible repeat (first | apply Kd.V_alloc | apply Kd.V_drewN | apply Kd.V_drew)); exact HL234_3.out) hg hat); have n2_ := Aside0.mk (hb); have n3_ := Aside0.mk (ho); clear HL234_1; clear HL234_3; clear HB; clear HO_7; have HL234_1 := n0_; have HL234_3 := n1_; have HB := n2_; have HO237 := n3_; clear n0_ n1_ n2_ n3_; clear ho hb hg hat))
                              repeat (go_quiet (first | (go_at_call 17; (with_reducible refine (interlocutorlaw4_within.calls a2 12 t233 _ A19.out).mono ?_); rintro e w' ⟨rfl, ⟨nd, rfl⟩⟩; (try first | exact ⟨rfl, _, World.drewN_drewN _ _ _⟩ | exact ⟨rfl, _, Eq.trans (World.drewN_drewN _ _ _) (congrArg (World.drewN _) (Nat.add_assoc _ _ _))⟩); obtain ⟨Ao27, co27, eo27⟩ := Kd.N_slice HO_7.out; subst eo27; have p234 : 0 ≤ ((ji23) : Int) := of_decide_eq_true (by first | (with_reducible assumption) | assumption); have q234 : (ji23) < (x7_2.length : Int) := of_decide_eq_true (by first | (with_reducible assumption) | assumption); obtain ⟨ad234, A234_1, c234_1, A234_3, c234_3, e234, hx234_0, hx234_1, hx234_2, hx234_3, hx234_4, hl234_1, hi234_1, hl234_3, hi234_3⟩ := at_T26 (Kd.N_reads' HO_7.out).2.2 (ji23) p234 q234; cases e234; obtain ⟨ce234, hce234, hMe234, hcc234⟩ := Kd.N_get HO_7.out z26 (ji23) p234 (by first | exact q234 | exact of_decide_eq_true (by first | (with_reducible assumption) | assumption) | (have e_ := (Kd.N_reads' HO_7.out).1; omega)); obtain ⟨ua234_1, uc234_1, ua234_3, uc234_3, rfl, ul234_1, ge234_1, ul234_3, ge234_3⟩ := k26_openF hMe234; have hv234_1 := hcc234 1 _ rfl; rw [add_field _ _ 1 (by omega)] at hv234_1; replace hv234_1 := Option.some.inj (hv234_1.symm.trans hx234_1); injection hv234_1 with hva_ hvn_ hvc_; rw [hva_] at ge234_1; rw [hvc_] at ul234_1; have HL234_1 := Aside0.mk (show Kd.V (Kd.int .i64) 3 _ w.heap.size _ _ ((rd_T26 x7_2 (ji23)).f1) from Kd.V_mk ul234_1 ge234_1); clear hva_ hvn_ hvc_ ge234_1 ul234_1; have hv234_3 := hcc234 3 _ rfl; rw [add_field _ _ 3 (by omega)] at hv234_3; replace hv234_3 := Option.some.inj (hv234_3.symm.trans hx234_3); injection hv234_3 with hva_ hvn_ hvc_; rw [hva_] at ge234_3; rw [hvc_] at ul234_3; have HL234_3 := Aside0.mk (show Kd.V (Kd.int .i64) 3 _ w.heap.size _ _ ((rd_T26 x7_2 (ji23)).f2.f1) from Kd.V_mk ul234_3 ge234_3); clear hva_ hvn_ hvc_ ge234_3 ul234_3; clear hcc234 hce234; have HR234_1 := Aside0.mk hi234_1; have HC234_1 := Aside0.mk hl234_1; clear hi234_1 hl234_1; have HR234_3 := Aside0.mk hi234_3; have HC234_3 := Aside0.mk hl234_3; clear hi234_3 hl234_3; replace p234 := eq_true p234; replace q234 := eq_true q234) | ((with_reducible refine gate_builtin (b := .append) (xs := #[.tmp 48, .tmp 56]) rfl ?_); (try (refine gate_guard (by rfl) ?_; dsimp only)); at_builtin; refine Kd.N_append k26 (w0 := w) w.heap.size rfl (.tmp 48) (.tmp 56) 36 26 (.agg #[(.int .i64 0), (.slice none 0 0), (.int .i64 0), (.slice none 0 0), (.int .i64 0)]) 72 rfl Try.underlying36 info26 rfl (by decide) (by omega) (.slice (some ad234) x7_2.length co27) x7_2 (⟨(rd_T26 x7_2 (ji23)).f0, (rd_T26 x7_2 (ji23)).f1, (⟨(rd_T26 x7_2 (ji23)).f2.f0, (rd_T26 x7_2 (ji23)).f2.f1⟩ : S24), (rd_T26 x7_2 (ji23)).f3⟩ : S26) [.int .i64 ((rd_T26 x7_2 (ji23)).f0), .slice A234_1 ((rd_T26 x7_2 (ji23)).f1).length c234_1, .int .i64 ((rd_T26 x7_2 (ji23)).f2.f0), .slice A234_3 ((rd_T26 x7_2 (ji23)).f2.f1).length c234_3, .int .i64 ((rd_T26 x7_2 (ji23)).f3)] (fun _ => True) (fun k_ => ((fun _ => True)) k_ ∧ some k_ ≠ (.slice (some ad234) x7_2.length co27 : Value).ownBlock) rfl rfl ?aP (fun _ hk => hk) ?aF ?aO ?aB ?aS ?aL ?_; (case aP => exact (k26_mkF _ _ (⟨(rd_T26 x7_2 (ji23)).f0, (rd_T26 x7_2 (ji23)).f1, (⟨(rd_T26 x7_2 (ji23)).f2.f0, (rd_T26 x7_2 (ji23)).f2.f1⟩ : S24), (rd_T26 x7_2 (ji23)).f3⟩ : S26) (Kd.V_reads' (Kd.V_mono (ok' := (fun k_ => ((fun _ => True)) k_ ∧ some k_ ≠ (.slice (some ad234) x7_2.length co27 : Value).ownBlock)) (HL234_1.out) (fun k_ hk => ⟨trivial, hk.2⟩))).2.1 (Kd.V_F (Kd.V_mono (ok' := (fun k_ => ((fun _ => True)) k_ ∧ some k_ ≠ (.slice (some ad234) x7_2.length co27 : Value).ownBlock)) (HL234_1.out) (fun k_ hk => ⟨trivial, hk.2⟩))) (Kd.V_reads' (Kd.V_mono (ok' := (fun k_ => ((fun _ => True)) k_ ∧ some k_ ≠ (.slice (some ad234) x7_2.length co27 : Value).ownBlock)) (HL234_3.out) (fun k_ hk => ⟨trivial, hk.2⟩))).2.1 (Kd.V_F (Kd.V_mono (ok' := (fun k_ => ((fun _ => True)) k_ ∧ some k_ ≠ (.slice (some ad234) x7_2.length co27 : Value).ownBlock)) (HL234_3.out) (fun k_ hk => ⟨trivial, hk.2⟩))))); (case aB => exact (by repeat (first | (with_reducible first | exact HB.out | apply below_alloc | apply pw_below_drewN | apply below_drew1) | exact HB.out))); (case aF => exact (fun _ _ => trivial)); (case aO => exact (by (with_reducible repeat (first | apply Kd.N_alloc | apply Kd.N_drewN | apply Kd.N_drew)); exact HO_7.out)); (case aS => exact (below_size (by repeat (first | (with_reducible first | exact HB.out | apply below_alloc | apply pw_below_drewN | apply below_drew1) | exact HB.out)))); (case aL => have := LMc26.out; omega); intro v236 w28 ho hb hg hat; rw [← Ny235.out] at ho; have n0_ := Aside0.mk (Kd.V_afterv (ok := (fun _ => True)) (by (with_reducible repeat (first | apply Kd.V_alloc | apply Kd.V_drewN | apply Kd.V_drew)); exact HL234_1.out) hg hat); have n1_ := Aside0.mk (Kd.V_afterv (ok := (fun _ => True)) (by (with_reducible repeat (first | apply Kd.V_alloc | apply Kd.V_drewN | apply Kd.V_drew)); exact HL234_3.out) hg hat); have n2_ := Aside0.mk (hb); have n3_ := Aside0.mk (ho); clear HL234_1; clear HL234_3; clear HB; clear HO_7; have HL234_1 := n0_; have HL234_3 := n1_; have HB := n2_; have HO237 := n3_; clear n0_ n1_ n2_ n3_; clear ho hb hg hat)); try go_wp2_with (first | (go_at_call 17; (with_reducible refine (interlocutorlaw4_within.calls a2 12 t233 _ A19.out).mono ?_); rintro e w' ⟨rfl, ⟨nd, rfl⟩⟩; (try first | exact ⟨rfl, _, World.drewN_drewN _ _ _⟩ | exact ⟨rfl, _, Eq.trans (World.drewN_drewN _ _ _) (congrArg (World.drewN _) (Nat.add_assoc _ _ _))⟩); obtain ⟨Ao27, co27, eo27⟩ := Kd.N_slice HO_7.out; subst eo27; have p234 : 0 ≤ ((ji23) : Int) := of_decide_eq_true (by first | (with_reducible assumption) | assumption); have q234 : (ji23) < (x7_2.length : Int) := of_decide_eq_true (by first | (with_reducible assumption) | assumption); obtain ⟨ad234, A234_1, c234_1, A234_3, c234_3, e234, hx234_0, hx234_1, hx234_2, hx234_3, hx234_4, hl234_1, hi234_1, hl234_3, hi234_3⟩ := at_T26 (Kd.N_reads' HO_7.out).2.2 (ji23) p234 q234; cases e234; obtain ⟨ce234, hce234, hMe234, hcc234⟩ := Kd.N_get HO_7.out z26 (ji23) p234 (by first | exact q234 | exact of_decide_eq_true (by first | (with_reducible assumption) | assumption) | (have e_ := (Kd.N_reads' HO_7.out).1; omega)); obtain ⟨ua234_1, uc234_1, ua234_3, uc234_3, rfl, ul234_1, ge234_1, ul234_3, ge234_3⟩ := k26_openF hMe234; have hv234_1 := hcc234 1 _ rfl; rw [add_field _ _ 1 (by omega)] at hv234_1; replace hv234_1 := Option.some.inj (hv234_1.symm.trans hx234_1); injection hv234_1 with hva_ hvn_ hvc_; rw [hva_] at ge234_1; rw [hvc_] at ul234_1; have HL234_1 := Aside0.mk (show Kd.V (Kd.int .i64) 3 _ w.heap.size _ _ ((rd_T26 x7_2 (ji23)).f1) from Kd.V_mk ul234_1 ge234_1); clear hva_ hvn_ hvc_ ge234_1 ul234_1; have hv234_3 := hcc234 3 _ rfl; rw [add_field _ _ 3 (by omega)] at hv234_3; replace hv234_3 := Option.some.inj (hv234_3.symm.trans hx234_3); injection hv234_3 with hva_ hvn_ hvc_; rw [hva_] at ge234_3; rw [hvc_] at ul234_3; have HL234_3 := Aside0.mk (show Kd.V (Kd.int .i64) 3 _ w.heap.size _ _ ((rd_T26 x7_2 (ji23)).f2.f1) from Kd.V_mk ul234_3 ge234_3); clear hva_ hvn_ hvc_ ge234_3 ul234_3; clear hcc234 hce234; have HR234_1 := Aside0.mk hi234_1; have HC234_1 := Aside0.mk hl234_1; clear hi234_1 hl234_1; have HR234_3 := Aside0.mk hi234_3; have HC234_3 := Aside0.mk hl234_3; clear hi234_3 hl234_3; replace p234 := eq_true p234; replace q234 := eq_true q234) | ((with_reducible refine gate_builtin (b := .append) (xs := #[.tmp 48, .tmp 56]) rfl ?_); (try (refine gate_guard (by rfl) ?_; dsimp only)); at_builtin; refine Kd.N_append k26 (w0 := w) w.heap.size rfl (.tmp 48) (.tmp 56) 36 26 (.agg #[(.int .i64 0), (.slice none 0 0), (.int .i64 0), (.slice none 0 0), (.int .i64 0)]) 72 rfl Try.underlying36 info26 rfl (by decide) (by omega) (.slice (some ad234) x7_2.length co27) x7_2 (⟨(rd_T26 x7_2 (ji23)).f0, (rd_T26 x7_2 (ji23)).f1, (⟨(rd_T26 x7_2 (ji23)).f2.f0, (rd_T26 x7_2 (ji23)).f2.f1⟩ : S24), (rd_T26 x7_2 (ji23)).f3⟩ : S26) [.int .i64 ((rd_T26 x7_2 (ji23)).f0), .slice A234_1 ((rd_T26 x7_2 (ji23)).f1).length c234_1, .int .i64 ((rd_T26 x7_2 (ji23)).f2.f0), .slice A234_3 ((rd_T26 x7_2 (ji23)).f2.f1).length c234_3, .int .i64 ((rd_T26 x7_2 (ji23)).f3)] (fun _ => True) (fun k_ => ((fun _ => True)) k_ ∧ some k_ ≠ (.slice (some ad234) x7_2.length co27 : Value).ownBlock) rfl rfl ?aP (fun _ hk => hk) ?aF ?aO ?aB ?aS ?aL ?_; (case aP => exact (k26_mkF _ _ (⟨(rd_T26 x7_2 (ji23)).f0, (rd_T26 x7_2 (ji23)).f1, (⟨(rd_T26 x7_2 (ji23)).f2.f0, (rd_T26 x7_2 (ji23)).f2.f1⟩ : S24), (rd_T26 x7_2 (ji23)).f3⟩ : S26) (Kd.V_reads' (Kd.V_mono (ok' := (fun k_ => ((fun _ => True)) k_ ∧ some k_ ≠ (.slice (some ad234) x7_2.length co27 : Value).ownBlock)) (HL234_1.out) (fun k_ hk => ⟨trivial, hk.2⟩))).2.1 (Kd.V_F (Kd.V_mono (ok' := (fun k_ => ((fun _ => True)) k_ ∧ some k_ ≠ (.slice (some ad234) x7_2.length co27 : Value).ownBlock)) (HL234_1.out) (fun k_ hk => ⟨trivial, hk.2⟩))) (Kd.V_reads' (Kd.V_mono (ok' := (fun k_ => ((fun _ => True)) k_ ∧ some k_ ≠ (.slice (some ad234) x7_2.length co27 : Value).ownBlock)) (HL234_3.out) (fun k_ hk => ⟨trivial, hk.2⟩))).2.1 (Kd.V_F (Kd.V_mono (ok' := (fun k_ => ((fun _ => True)) k_ ∧ some k_ ≠ (.slice (some ad234) x7_2.length co27 : Value).ownBlock)) (HL234_3.out) (fun k_ hk => ⟨trivial, hk.2⟩))))); (case aB => exact (by repeat (first | (with_reducible first | exact HB.out | apply below_alloc | apply pw_below_drewN | apply below_drew1) | exact HB.out))); (case aF => exact (fun _ _ => trivial)); (case aO => exact (by (with_reducible repeat (first | apply Kd.N_alloc | apply Kd.N_drewN | apply Kd.N_drew)); exact HO_7.out)); (case aS => exact (below_size (by repeat (first | (with_reducible first | exact HB.out | apply below_alloc | apply pw_below_drewN | apply below_drew1) | exact HB.out)))); (case aL => have := LMc26.out; omega); intro v236 w28 ho hb hg hat; rw [← Ny235.out] at ho; have n0_ := Aside0.mk (Kd.V_afterv (ok := (fun _ => True)) (by (with_reducible repeat (first | apply Kd.V_alloc | apply Kd.V_drewN | apply Kd.V_drew)); exact HL234_1.out) hg hat); have n1_ := Aside0.mk (Kd.V_afterv (ok := (fun _ => True)) (by (with_reducible repeat (first | apply Kd.V_alloc | apply Kd.V_drewN | apply Kd.V_drew)); exact HL234_3.out) hg hat); have n2_ := Aside0.mk (hb); have n3_ := Aside0.mk (ho); clear HL234_1; clear HL234_3; clear HB; clear HO_7; have HL234_1 := n0_; have HL234_3 := n1_; have HB := n2_; have HO237 := n3_; clear n0_ n1_ n2_ n3_; clear ho hb hg hat)))
                              go_roundg k2
                              case measure => have := HK1.out; have := HK2.out; omega
                              case rel => exact ⟨(y235), (wrap64 (x10_2 + 1)), (by first | rfl | (simp; done) | (simp [*]; done)), H', ⟨by have := HK1.out; have := HK2.out; omega⟩, ⟨by (with_reducible repeat (first | apply Kd.N_alloc | apply Kd.N_drewN | apply Kd.N_drew)); exact HO237.out⟩, ⟨by repeat (first | (with_reducible first | exact HB.out | apply below_alloc | apply pw_below_drewN | apply below_drew1) | exact HB.out)⟩⟩
                            · rw [if_neg c26] at H
                              exact absurd H (by simp)
                          · rw [if_neg c25] at H
                            exact absurd H (by simp)
                        · rw [if_neg c24] at H
                          exact absurd H (by simp)
                    · rw [if_neg c21] at H
                      have c21b0 : decide (0 < (x7_2.length : Int)) = false := decide_eq_false c21
                      have c21b1 : decide (0 < x7_2.length) = false := decide_eq_false (by omega)
                      clear c21
                      have H' := Aside0.mk H
                      clear H
                      go_wp2_with (first | (go_at_call 17; (with_reducible refine (interlocutorlaw4_within.calls a2 12 t233 _ A19.out).mono ?_); rintro e w' ⟨rfl, ⟨nd, rfl⟩⟩; (try first | exact ⟨rfl, _, World.drewN_drewN _ _ _⟩ | exact ⟨rfl, _, Eq.trans (World.drewN_drewN _ _ _) (congrArg (World.drewN _) (Nat.add_assoc _ _ _))⟩); obtain ⟨Ao29, co29, eo29⟩ := Kd.N_slice HO_7.out; subst eo29))
                      repeat (go_quiet (first | (go_at_call 17; (with_reducible refine (interlocutorlaw4_within.calls a2 12 t233 _ A19.out).mono ?_); rintro e w' ⟨rfl, ⟨nd, rfl⟩⟩; (try first | exact ⟨rfl, _, World.drewN_drewN _ _ _⟩ | exact ⟨rfl, _, Eq.trans (World.drewN_drewN _ _ _) (congrArg (World.drewN _) (Nat.add_assoc _ _ _))⟩); obtain ⟨Ao29, co29, eo29⟩ := Kd.N_slice HO_7.out; subst eo29)); try go_wp2_with (first | (go_at_call 17; (with_reducible refine (interlocutorlaw4_within.calls a2 12 t233 _ A19.out).mono ?_); rintro e w' ⟨rfl, ⟨nd, rfl⟩⟩; (try first | exact ⟨rfl, _, World.drewN_drewN _ _ _⟩ | exact ⟨rfl, _, Eq.trans (World.drewN_drewN _ _ _) (congrArg (World.drewN _) (Nat.add_assoc _ _ _))⟩); obtain ⟨Ao29, co29, eo29⟩ := Kd.N_slice HO_7.out; subst eo29)))
                      go_meet
                      case rel => exact ⟨_, (x7_2), H', ⟨by have := HK1.out; have := HK2.out; first | omega | exact Nat.le_refl _⟩, ⟨by (with_reducible repeat (first | apply Kd.N_alloc | apply Kd.N_drewN | apply Kd.N_drew)); exact HO_7.out⟩, ⟨by repeat (first | (with_reducible first | exact HB.out | apply below_alloc | apply pw_below_drewN | apply below_drew1) | exact HB.out)⟩⟩
                  · rw [if_neg c20] at H
                    have c20b0 : decide (x10_2 < t233) = false := decide_eq_false c20
                    clear c20
                    (first | rw [c20b0] | (simp only [i64_w, i32_w]; rw [c20b0]) | skip)
                    have H' := Aside0.mk H
                    clear H
                    go_wp2_with (first | (go_at_call 17; (with_reducible refine (interlocutorlaw4_within.calls a2 12 t233 _ A19.out).mono ?_); rintro e w' ⟨rfl, ⟨nd, rfl⟩⟩; (try first | exact ⟨rfl, _, World.drewN_drewN _ _ _⟩ | exact ⟨rfl, _, Eq.trans (World.drewN_drewN _ _ _) (congrArg (World.drewN _) (Nat.add_assoc _ _ _))⟩)))
                    repeat (go_quiet (first | (go_at_call 17; (with_reducible refine (interlocutorlaw4_within.calls a2 12 t233 _ A19.out).mono ?_); rintro e w' ⟨rfl, ⟨nd, rfl⟩⟩; (try first | exact ⟨rfl, _, World.drewN_drewN _ _ _⟩ | exact ⟨rfl, _, Eq.trans (World.drewN_drewN _ _ _) (congrArg (World.drewN _) (Nat.add_assoc _ _ _))⟩))); try go_wp2_with (first | (go_at_call 17; (with_reducible refine (interlocutorlaw4_within.calls a2 12 t233 _ A19.out).mono ?_); rintro e w' ⟨rfl, ⟨nd, rfl⟩⟩; (try first | exact ⟨rfl, _, World.drewN_drewN _ _ _⟩ | exact ⟨rfl, _, Eq.trans (World.drewN_drewN _ _ _) (congrArg (World.drewN _) (Nat.add_assoc _ _ _))⟩))))
                    go_meet
                    case rel => exact ⟨_, (x7_2), H', ⟨by have := HK1.out; have := HK2.out; first | omega | exact Nat.le_refl _⟩, ⟨by (with_reducible repeat (first | apply Kd.N_alloc | apply Kd.N_drewN | apply Kd.N_drew)); exact HO_7.out⟩, ⟨by repeat (first | (with_reducible first | exact HB.out | apply below_alloc | apply pw_below_drewN | apply below_drew1) | exact HB.out)⟩⟩
            case rest =>
              clear HC18
              try clear c1
              try clear c2
              try clear p2
              try clear q2
              try clear hx2
              try clear c4
              try clear c5
              try clear p6
              try clear c7
              try clear c10
              try clear c10b0
              try clear c11
              try clear c11b0
              try clear c13
              try clear c20
              try clear c20b0
              try clear c21
              try clear c21b0
              try clear c21b1
              try clear c22
              try clear c22b0
              try clear c22b1
              try clear c22b2
              try clear p22
              try clear q22
              try clear hx22
              try clear c23
              try clear p23
              try clear q23
              try clear hx23
              try clear c24
              try clear c24b0
              try clear c25
              try clear c25b0
              try clear c26
              try clear hx220_0
              try clear hx220_1
              try clear hx220_2
              try clear hx220_3
              try clear hx220_4
              try clear hx234_0
              try clear hx234_1
              try clear hx234_2
              try clear hx234_3
              try clear hx234_4
              try clear p2
              try clear p220
              try clear p234
              try clear p6
              try clear q2
              try clear q220
              try clear q234
              obtain ⟨kq, x7_17, HA, HJ17, HO_7, HB⟩ := hcut
              cases kq with
              | zero => exact absurd HA.out (by simp [interlocutorlaw4_GramChecks.j2])
              | succ kj17 =>
                have H := HA.out
                clear HA
                simp only [interlocutorlaw4_GramChecks.j2] at H
                replace H := Option.bind_eq_some_iff.mp H
                obtain ⟨t238, A300, H⟩ := H
                replace H : ((interlocutorref4_Units.f x7_17).bind fun t241 => (if (t238.length : Int) = (t241.length : Int) then ((gram_Check.f x7_17).bind fun t244 => ((interlocutorref4_Check.f x7_17).bind fun t245 => (if (t244 != t245) = true then (interlocutorlaw4_GramChecks.j3 kj17 t238 t241 true) else ((gram_Reached.f x7_17).bind fun t246 => ((interlocutorref4_Reached.f x7_17).bind fun t249 => ((interlocutorref3_Ints.f kj17 t246 t249).bind fun t252 => (interlocutorlaw4_GramChecks.j3 kj17 t238 t241 (!t252)))))))) else (interlocutorlaw4_GramChecks.j3 kj17 t238 t241 true))) = some r := H
                have A30 := Aside0.mk A300
                clear A300
                replace H := Option.bind_eq_some_iff.mp H
                obtain ⟨t241, A310, H⟩ := H
                replace H : (if (t238.length : Int) = (t241.length : Int) then ((gram_Check.f x7_17).bind fun t244 => ((interlocutorref4_Check.f x7_17).bind fun t245 => (if (t244 != t245) = true then (interlocutorlaw4_GramChecks.j3 kj17 t238 t241 true) else ((gram_Reached.f x7_17).bind fun t246 => ((interlocutorref4_Reached.f x7_17).bind fun t249 => ((interlocutorref3_Ints.f kj17 t246 t249).bind fun t252 => (interlocutorlaw4_GramChecks.j3 kj17 t238 t241 (!t252)))))))) else (interlocutorlaw4_GramChecks.j3 kj17 t238 t241 true)) = some r := H
                have A31 := Aside0.mk A310
                clear A310
                have HC32 := Aside0.mk H
                clear H
                obtain ⟨Ao33, co33, eo33⟩ := Kd.N_slice HO_7.out
                subst eo33
                go_upto_region 16 with (first | (go_at_call 19; (with_reducible refine (gram_Units.calls _ _ x7_17 t238 _ ?side1 ?side2 A30.out).mono ?_); (case side1 => repeat (first | exact (Kd.N_reads' HO_7.out).2.2 | (with_reducible refine Kd.C_alloc ?_ _) | (with_reducible refine Kd.C_drewN ?_ _) | (with_reducible refine Kd.C_drew ?_))); (case side2 => exact (Kd.N_reads' HO_7.out).2.1); rintro e w34 ⟨v239, rfl, ho0, hb⟩; have n0_ := Aside0.mk (Kd.N_elder' (by (with_reducible repeat (first | apply Kd.N_alloc | apply Kd.N_drewN | apply Kd.N_drew)); exact HO_7.out) (Kd.S_base ho0) hb); have n1_ := Aside0.mk (Kd.N_lower (Kd.N_mono (ok' := fun k_ => some k_ ≠ (.slice Ao33 x7_17.length co33 : Value).ownBlock) (Kd.S_N (Kd.S_bound ho0)) (fun k_ hk_ => (Kd.fresh' (Kd.N_lt (by (with_reducible repeat (first | apply Kd.N_alloc | apply Kd.N_drewN | apply Kd.N_drew)); exact HO_7.out)) k_ hk_.2.1))) (below_size (by repeat (first | (with_reducible first | exact HB.out | apply below_alloc | apply pw_below_drewN | apply below_drew1) | exact HB.out)))); have n2_ := Aside0.mk (below_step (by repeat (first | (with_reducible first | exact HB.out | apply below_alloc | apply pw_below_drewN | apply below_drew1) | exact HB.out)) hb); clear HO_7; clear HB; have HO_7 := n0_; have HO240 := n1_; have HB := n2_; clear n0_ n1_ n2_; (try clear hb); (try clear hb2); (try clear hk); (try clear hi); (try clear ho0)) | (go_at_call 20; (with_reducible refine (interlocutorref4_Units.calls _ _ x7_17 t241 _ ?side1 ?side2 A31.out).mono ?_); (case side1 => repeat (first | exact (Kd.N_reads' HO_7.out).2.2 | (with_reducible refine Kd.C_alloc ?_ _) | (with_reducible refine Kd.C_drewN ?_ _) | (with_reducible refine Kd.C_drew ?_))); (case side2 => exact (Kd.N_reads' HO_7.out).2.1); rintro e w35 ⟨v242, rfl, ho0, hb⟩; have n0_ := Aside0.mk (Kd.N_elder' (by (with_reducible repeat (first | apply Kd.N_alloc | apply Kd.N_drewN | apply Kd.N_drew)); exact HO_7.out) (Kd.S_base ho0) hb); have n1_ := Aside0.mk (Kd.N_elder' (by (with_reducible repeat (first | apply Kd.N_alloc | apply Kd.N_drewN | apply Kd.N_drew)); exact HO240.out) (Kd.S_base ho0) hb); have n2_ := Aside0.mk (Kd.N_lower (Kd.N_mono (ok' := fun k_ => some k_ ≠ (.slice Ao33 x7_17.length co33 : Value).ownBlock ∧ some k_ ≠ (v239 : Value).ownBlock) (Kd.S_N (Kd.S_bound ho0)) (fun k_ hk_ => ⟨(Kd.fresh' (Kd.N_lt (by (with_reducible repeat (first | apply Kd.N_alloc | apply Kd.N_drewN | apply Kd.N_drew)); exact HO_7.out)) k_ hk_.2.1), (Kd.fresh' (Kd.N_lt (by (with_reducible repeat (first | apply Kd.N_alloc | apply Kd.N_drewN | apply Kd.N_drew)); exact HO240.out)) k_ hk_.2.1)⟩)) (below_size (by repeat (first | (with_reducible first | exact HB.out | apply below_alloc | apply pw_below_drewN | apply below_drew1) | exact HB.out)))); have n3_ := Aside0.mk (below_step (by repeat (first | (with_reducible first | exact HB.out | apply below_alloc | apply pw_below_drewN | apply below_drew1) | exact HB.out)) hb); clear HO_7; clear HO240; clear HB; have HO_7 := n0_; have HO240 := n1_; have HO243 := n2_; have HB := n3_; clear n0_ n1_ n2_ n3_; (try clear hb); (try clear hb2); (try clear hk); (try clear hi); (try clear ho0)))
                repeat (go_quiet (first | (go_at_call 19; (with_reducible refine (gram_Units.calls _ _ x7_17 t238 _ ?side1 ?side2 A30.out).mono ?_); (case side1 => repeat (first | exact (Kd.N_reads' HO_7.out).2.2 | (with_reducible refine Kd.C_alloc ?_ _) | (with_reducible refine Kd.C_drewN ?_ _) | (with_reducible refine Kd.C_drew ?_))); (case side2 => exact (Kd.N_reads' HO_7.out).2.1); rintro e w34 ⟨v239, rfl, ho0, hb⟩; have n0_ := Aside0.mk (Kd.N_elder' (by (with_reducible repeat (first | apply Kd.N_alloc | apply Kd.N_drewN | apply Kd.N_drew)); exact HO_7.out) (Kd.S_base ho0) hb); have n1_ := Aside0.mk (Kd.N_lower (Kd.N_mono (ok' := fun k_ => some k_ ≠ (.slice Ao33 x7_17.length co33 : Value).ownBlock) (Kd.S_N (Kd.S_bound ho0)) (fun k_ hk_ => (Kd.fresh' (Kd.N_lt (by (with_reducible repeat (first | apply Kd.N_alloc | apply Kd.N_drewN | apply Kd.N_drew)); exact HO_7.out)) k_ hk_.2.1))) (below_size (by repeat (first | (with_reducible first | exact HB.out | apply below_alloc | apply pw_below_drewN | apply below_drew1) | exact HB.out)))); have n2_ := Aside0.mk (below_step (by repeat (first | (with_reducible first | exact HB.out | apply below_alloc | apply pw_below_drewN | apply below_drew1) | exact HB.out)) hb); clear HO_7; clear HB; have HO_7 := n0_; have HO240 := n1_; have HB := n2_; clear n0_ n1_ n2_; (try clear hb); (try clear hb2); (try clear hk); (try clear hi); (try clear ho0)) | (go_at_call 20; (with_reducible refine (interlocutorref4_Units.calls _ _ x7_17 t241 _ ?side1 ?side2 A31.out).mono ?_); (case side1 => repeat (first | exact (Kd.N_reads' HO_7.out).2.2 | (with_reducible refine Kd.C_alloc ?_ _) | (with_reducible refine Kd.C_drewN ?_ _) | (with_reducible refine Kd.C_drew ?_))); (case side2 => exact (Kd.N_reads' HO_7.out).2.1); rintro e w35 ⟨v242, rfl, ho0, hb⟩; have n0_ := Aside0.mk (Kd.N_elder' (by (with_reducible repeat (first | apply Kd.N_alloc | apply Kd.N_drewN | apply Kd.N_drew)); exact HO_7.out) (Kd.S_base ho0) hb); have n1_ := Aside0.mk (Kd.N_elder' (by (with_reducible repeat (first | apply Kd.N_alloc | apply Kd.N_drewN | apply Kd.N_drew)); exact HO240.out) (Kd.S_base ho0) hb); have n2_ := Aside0.mk (Kd.N_lower (Kd.N_mono (ok' := fun k_ => some k_ ≠ (.slice Ao33 x7_17.length co33 : Value).ownBlock ∧ some k_ ≠ (v239 : Value).ownBlock) (Kd.S_N (Kd.S_bound ho0)) (fun k_ hk_ => ⟨(Kd.fresh' (Kd.N_lt (by (with_reducible repeat (first | apply Kd.N_alloc | apply Kd.N_drewN | apply Kd.N_drew)); exact HO_7.out)) k_ hk_.2.1), (Kd.fresh' (Kd.N_lt (by (with_reducible repeat (first | apply Kd.N_alloc | apply Kd.N_drewN | apply Kd.N_drew)); exact HO240.out)) k_ hk_.2.1)⟩)) (below_size (by repeat (first | (with_reducible first | exact HB.out | apply below_alloc | apply pw_below_drewN | apply below_drew1) | exact HB.out)))); have n3_ := Aside0.mk (below_step (by repeat (first | (with_reducible first | exact HB.out | apply below_alloc | apply pw_below_drewN | apply below_drew1) | exact HB.out)) hb); clear HO_7; clear HO240; clear HB; have HO_7 := n0_; have HO240 := n1_; have HO243 := n2_; have HB := n3_; clear n0_ n1_ n2_ n3_; (try clear hb); (try clear hb2); (try clear hk); (try clear hi); (try clear ho0))); go_upto_region 16 with (first | (go_at_call 19; (with_reducible refine (gram_Units.calls _ _ x7_17 t238 _ ?side1 ?side2 A30.out).mono ?_); (case side1 => repeat (first | exact (Kd.N_reads' HO_7.out).2.2 | (with_reducible refine Kd.C_alloc ?_ _) | (with_reducible refine Kd.C_drewN ?_ _) | (with_reducible refine Kd.C_drew ?_))); (case side2 => exact (Kd.N_reads' HO_7.out).2.1); rintro e w34 ⟨v239, rfl, ho0, hb⟩; have n0_ := Aside0.mk (Kd.N_elder' (by (with_reducible repeat (first | apply Kd.N_alloc | apply Kd.N_drewN | apply Kd.N_drew)); exact HO_7.out) (Kd.S_base ho0) hb); have n1_ := Aside0.mk (Kd.N_lower (Kd.N_mono (ok' := fun k_ => some k_ ≠ (.slice Ao33 x7_17.length co33 : Value).ownBlock) (Kd.S_N (Kd.S_bound ho0)) (fun k_ hk_ => (Kd.fresh' (Kd.N_lt (by (with_reducible repeat (first | apply Kd.N_alloc | apply Kd.N_drewN | apply Kd.N_drew)); exact HO_7.out)) k_ hk_.2.1))) (below_size (by repeat (first | (with_reducible first | exact HB.out | apply below_alloc | apply pw_below_drewN | apply below_drew1) | exact HB.out)))); have n2_ := Aside0.mk (below_step (by repeat (first | (with_reducible first | exact HB.out | apply below_alloc | apply pw_below_drewN | apply below_drew1) | exact HB.out)) hb); clear HO_7; clear HB; have HO_7 := n0_; have HO240 := n1_; have HB := n2_; clear n0_ n1_ n2_; (try clear hb); (try clear hb2); (try clear hk); (try clear hi); (try clear ho0)) | (go_at_call 20; (with_reducible refine (interlocutorref4_Units.calls _ _ x7_17 t241 _ ?side1 ?side2 A31.out).mono ?_); (case side1 => repeat (first | exact (Kd.N_reads' HO_7.out).2.2 | (with_reducible refine Kd.C_alloc ?_ _) | (with_reducible refine Kd.C_drewN ?_ _) | (with_reducible refine Kd.C_drew ?_))); (case side2 => exact (Kd.N_reads' HO_7.out).2.1); rintro e w35 ⟨v242, rfl, ho0, hb⟩; have n0_ := Aside0.mk (Kd.N_elder' (by (with_reducible repeat (first | apply Kd.N_alloc | apply Kd.N_drewN | apply Kd.N_drew)); exact HO_7.out) (Kd.S_base ho0) hb); have n1_ := Aside0.mk (Kd.N_elder' (by (with_reducible repeat (first | apply Kd.N_alloc | apply Kd.N_drewN | apply Kd.N_drew)); exact HO240.out) (Kd.S_base ho0) hb); have n2_ := Aside0.mk (Kd.N_lower (Kd.N_mono (ok' := fun k_ => some k_ ≠ (.slice Ao33 x7_17.length co33 : Value).ownBlock ∧ some k_ ≠ (v239 : Value).ownBlock) (Kd.S_N (Kd.S_bound ho0)) (fun k_ hk_ => ⟨(Kd.fresh' (Kd.N_lt (by (with_reducible repeat (first | apply Kd.N_alloc | apply Kd.N_drewN | apply Kd.N_drew)); exact HO_7.out)) k_ hk_.2.1), (Kd.fresh' (Kd.N_lt (by (with_reducible repeat (first | apply Kd.N_alloc | apply Kd.N_drewN | apply Kd.N_drew)); exact HO240.out)) k_ hk_.2.1)⟩)) (below_size (by repeat (first | (with_reducible first | exact HB.out | apply below_alloc | apply pw_below_drewN | apply below_drew1) | exact HB.out)))); have n3_ := Aside0.mk (below_step (by repeat (first | (with_reducible first | exact HB.out | apply below_alloc | apply pw_below_drewN | apply below_drew1) | exact HB.out)) hb); clear HO_7; clear HO240; clear HB; have HO_7 := n0_; have HO240 := n1_; have HO243 := n2_; have HB := n3_; clear n0_ n1_ n2_ n3_; (try clear hb); (try clear hb2); (try clear hk); (try clear hi); (try clear ho0))))
                (try simp only [Act.put, List.setIfInBounds_toArray, List.set_cons_zero, List.set_cons_succ])
                go_cut [81] (fun v81 wc => ∃ (kq : Nat) (x81_31 : Bool), v81 = .bool x81_31 ∧ Aside0 (interlocutorlaw4_GramChecks.j3 kq t238 t241 x81_31 = some r) ∧ Aside0 (kq ≤ kj17) ∧ Aside0 (Kd.N (Kd.slice 3 (Kd.int .i64)) 22 wc w.heap.size (fun k_ => some k_ ≠ (v242 : Value).ownBlock) v239 t238) ∧ Aside0 (Kd.N (Kd.slice 3 (Kd.int .i64)) 22 wc w.heap.size (fun k_ => some k_ ≠ (v239 : Value).ownBlock) v242 t241) ∧ Aside0 (Below w.heap.size w wc))
                case first =>
                  have H := HC32.out
                  clear HC32
                  by_cases c36 : (t238.length : Int) = (t241.length : Int)
                  · rw [if_pos c36] at H
                    have c36b0 : ((t238.length : Int) == (t241.length : Int)) = true := beq_iff_eq.mpr c36
                    have c36b1 : ((t238.length : Int) != (t241.length : Int)) = false := bne_eq_false_iff_eq.mpr c36
                    have c36b2 : (t238.length == t241.length) = true := by first | simpa using c36 | (simp at c36 ⊢; omega)
                    clear c36
                    (first | rw [c36b0] | (simp only [i64_w, i32_w]; rw [c36b0]) | skip)
                    replace H := Option.bind_eq_some_iff.mp H
                    obtain ⟨t244, A370, H⟩ := H
                    replace H : ((interlocutorref4_Check.f x7_17).bind fun t245 => (if (t244 != t245) = true then (interlocutorlaw4_GramChecks.j3 kj17 t238 t241 true) else ((gram_Reached.f x7_17).bind fun t246 => ((interlocutorref4_Reached.f x7_17).bind fun t249 => ((interlocutorref3_Ints.f kj17 t246 t249).bind fun t252 => (interlocutorlaw4_GramChecks.j3 kj17 t238 t241 (!t252))))))) = some r := H
                    have A37 := Aside0.mk A370
                    clear A370
                    replace H := Option.bind_eq_some_iff.mp H
                    obtain ⟨t245, A380, H⟩ := H
                    replace H : (if (t244 != t245) = true then (interlocutorlaw4_GramChecks.j3 kj17 t238 t241 true) else ((gram_Reached.f x7_17).bind fun t246 => ((interlocutorref4_Reached.f x7_17).bind fun t249 => ((interlocutorref3_Ints.f kj17 t246 t249).bind fun t252 => (interlocutorlaw4_GramChecks.j3 kj17 t238 t241 (!t252)))))) = some r := H
                    have A38 := Aside0.mk A380
                    clear A380
                    by_cases c39 : (t244 != t245) = true
                    · rw [if_pos c39] at H
                      have c39b0 : (t244 != t245) = true := c39
                      (try (have c39b1 : decide (t244 = t245) = false := by simpa using c39))
                      (try (have c39b2 : (t244 == t245) = false := by simpa using c39))
                      (try (have c39b3 : ¬ (t244 = t245) := by simpa using c39))
                      clear c39
                      have H' := Aside0.mk H
                      clear H
                      obtain ⟨Ao40, co40, eo40⟩ := Kd.N_slice HO240.out
                      subst eo40
                      obtain ⟨Ao41, co41, eo41⟩ := Kd.N_slice HO243.out
                      subst eo41
                      go_wp2_with (first | (go_at_call 21; (with_reducible refine (gram_Check.calls _ _ x7_17 t244 _ ?side1 ?side2 A37.out).mono ?_); (case side1 => repeat (first | exact (Kd.N_reads' HO_7.out).2.2 | (with_reducible refine Kd.C_alloc ?_ _) | (with_reducible refine Kd.C_drewN ?_ _) | (with_reducible refine Kd.C_drew ?_))); (case side2 => exact (Kd.N_reads' HO_7.out).2.1); rintro e w42 ⟨rfl, hb⟩; have n0_ := Aside0.mk (Kd.N_below (by (with_reducible repeat (first | apply Kd.N_alloc | apply Kd.N_drewN | apply Kd.N_drew)); exact HO_7.out) hb); have n1_ := Aside0.mk (Kd.N_below (by (with_reducible repeat (first | apply Kd.N_alloc | apply Kd.N_drewN | apply Kd.N_drew)); exact HO240.out) hb); have n2_ := Aside0.mk (Kd.N_below (by (with_reducible repeat (first | apply Kd.N_alloc | apply Kd.N_drewN | apply Kd.N_drew)); exact HO243.out) hb); have n3_ := Aside0.mk (below_step (by repeat (first | (with_reducible first | exact HB.out | apply below_alloc | apply pw_below_drewN | apply below_drew1) | exact HB.out)) hb); clear HO_7; clear HO240; clear HO243; clear HB; have HO_7 := n0_; have HO240 := n1_; have HO243 := n2_; have HB := n3_; clear n0_ n1_ n2_ n3_; (try clear hb); (try clear hb2); (try clear hk); (try clear hi)) | (go_at_call 22; (with_reducible refine (interlocutorref4_Check.calls _ _ x7_17 t245 _ ?side1 ?side2 A38.out).mono ?_); (case side1 => repeat (first | exact (Kd.N_reads' HO_7.out).2.2 | (with_reducible refine Kd.C_alloc ?_ _) | (with_reducible refine Kd.C_drewN ?_ _) | (with_reducible refine Kd.C_drew ?_))); (case side2 => exact (Kd.N_reads' HO_7.out).2.1); rintro e w43 ⟨rfl, hb⟩; have n0_ := Aside0.mk (Kd.N_below (by (with_reducible repeat (first | apply Kd.N_alloc | apply Kd.N_drewN | apply Kd.N_drew)); exact HO_7.out) hb); have n1_ := Aside0.mk (Kd.N_below (by (with_reducible repeat (first | apply Kd.N_alloc | apply Kd.N_drewN | apply Kd.N_drew)); exact HO240.out) hb); have n2_ := Aside0.mk (Kd.N_below (by (with_reducible repeat (first | apply Kd.N_alloc | apply Kd.N_drewN | apply Kd.N_drew)); exact HO243.out) hb); have n3_ := Aside0.mk (below_step (by repeat (first | (with_reducible first | exact HB.out | apply below_alloc | apply pw_below_drewN | apply below_drew1) | exact HB.out)) hb); clear HO_7; clear HO240; clear HO243; clear HB; have HO_7 := n0_; have HO240 := n1_; have HO243 := n2_; have HB := n3_; clear n0_ n1_ n2_ n3_; (try clear hb); (try clear hb2); (try clear hk); (try clear hi)))
                      repeat (go_quiet (first | (go_at_call 21; (with_reducible refine (gram_Check.calls _ _ x7_17 t244 _ ?side1 ?side2 A37.out).mono ?_); (case side1 => repeat (first | exact (Kd.N_reads' HO_7.out).2.2 | (with_reducible refine Kd.C_alloc ?_ _) | (with_reducible refine Kd.C_drewN ?_ _) | (with_reducible refine Kd.C_drew ?_))); (case side2 => exact (Kd.N_reads' HO_7.out).2.1); rintro e w42 ⟨rfl, hb⟩; have n0_ := Aside0.mk (Kd.N_below (by (with_reducible repeat (first | apply Kd.N_alloc | apply Kd.N_drewN | apply Kd.N_drew)); exact HO_7.out) hb); have n1_ := Aside0.mk (Kd.N_below (by (with_reducible repeat (first | apply Kd.N_alloc | apply Kd.N_drewN | apply Kd.N_drew)); exact HO240.out) hb); have n2_ := Aside0.mk (Kd.N_below (by (with_reducible repeat (first | apply Kd.N_alloc | apply Kd.N_drewN | apply Kd.N_drew)); exact HO243.out) hb); have n3_ := Aside0.mk (below_step (by repeat (first | (with_reducible first | exact HB.out | apply below_alloc | apply pw_below_drewN | apply below_drew1) | exact HB.out)) hb); clear HO_7; clear HO240; clear HO243; clear HB; have HO_7 := n0_; have HO240 := n1_; have HO243 := n2_; have HB := n3_; clear n0_ n1_ n2_ n3_; (try clear hb); (try clear hb2); (try clear hk); (try clear hi)) | (go_at_call 22; (with_reducible refine (interlocutorref4_Check.calls _ _ x7_17 t245 _ ?side1 ?side2 A38.out).mono ?_); (case side1 => repeat (first | exact (Kd.N_reads' HO_7.out).2.2 | (with_reducible refine Kd.C_alloc ?_ _) | (with_reducible refine Kd.C_drewN ?_ _) | (with_reducible refine Kd.C_drew ?_))); (case side2 => exact (Kd.N_reads' HO_7.out).2.1); rintro e w43 ⟨rfl, hb⟩; have n0_ := Aside0.mk (Kd.N_below (by (with_reducible repeat (first | apply Kd.N_alloc | apply Kd.N_drewN | apply Kd.N_drew)); exact HO_7.out) hb); have n1_ := Aside0.mk (Kd.N_below (by (with_reducible repeat (first | apply Kd.N_alloc | apply Kd.N_drewN | apply Kd.N_drew)); exact HO240.out) hb); have n2_ := Aside0.mk (Kd.N_below (by (with_reducible repeat (first | apply Kd.N_alloc | apply Kd.N_drewN | apply Kd.N_drew)); exact HO243.out) hb); have n3_ := Aside0.mk (below_step (by repeat (first | (with_reducible first | exact HB.out | apply below_alloc | apply pw_below_drewN | apply below_drew1) | exact HB.out)) hb); clear HO_7; clear HO240; clear HO243; clear HB; have HO_7 := n0_; have HO240 := n1_; have HO243 := n2_; have HB := n3_; clear n0_ n1_ n2_ n3_; (try clear hb); (try clear hb2); (try clear hk); (try clear hi))); try go_wp2_with (first | (go_at_call 21; (with_reducible refine (gram_Check.calls _ _ x7_17 t244 _ ?side1 ?side2 A37.out).mono ?_); (case side1 => repeat (first | exact (Kd.N_reads' HO_7.out).2.2 | (with_reducible refine Kd.C_alloc ?_ _) | (with_reducible refine Kd.C_drewN ?_ _) | (with_reducible refine Kd.C_drew ?_))); (case side2 => exact (Kd.N_reads' HO_7.out).2.1); rintro e w42 ⟨rfl, hb⟩; have n0_ := Aside0.mk (Kd.N_below (by (with_reducible repeat (first | apply Kd.N_alloc | apply Kd.N_drewN | apply Kd.N_drew)); exact HO_7.out) hb); have n1_ := Aside0.mk (Kd.N_below (by (with_reducible repeat (first | apply Kd.N_alloc | apply Kd.N_drewN | apply Kd.N_drew)); exact HO240.out) hb); have n2_ := Aside0.mk (Kd.N_below (by (with_reducible repeat (first | apply Kd.N_alloc | apply Kd.N_drewN | apply Kd.N_drew)); exact HO243.out) hb); have n3_ := Aside0.mk (below_step (by repeat (first | (with_reducible first | exact HB.out | apply below_alloc | apply pw_below_drewN | apply below_drew1) | exact HB.out)) hb); clear HO_7; clear HO240; clear HO243; clear HB; have HO_7 := n0_; have HO240 := n1_; have HO243 := n2_; have HB := n3_; clear n0_ n1_ n2_ n3_; (try clear hb); (try clear hb2); (try clear hk); (try clear hi)) | (go_at_call 22; (with_reducible refine (interlocutorref4_Check.calls _ _ x7_17 t245 _ ?side1 ?side2 A38.out).mono ?_); (case side1 => repeat (first | exact (Kd.N_reads' HO_7.out).2.2 | (with_reducible refine Kd.C_alloc ?_ _) | (with_reducible refine Kd.C_drewN ?_ _) | (with_reducible refine Kd.C_drew ?_))); (case side2 => exact (Kd.N_reads' HO_7.out).2.1); rintro e w43 ⟨rfl, hb⟩; have n0_ := Aside0.mk (Kd.N_below (by (with_reducible repeat (first | apply Kd.N_alloc | apply Kd.N_drewN | apply Kd.N_drew)); exact HO_7.out) hb); have n1_ := Aside0.mk (Kd.N_below (by (with_reducible repeat (first | apply Kd.N_alloc | apply Kd.N_drewN | apply Kd.N_drew)); exact HO240.out) hb); have n2_ := Aside0.mk (Kd.N_below (by (with_reducible repeat (first | apply Kd.N_alloc | apply Kd.N_drewN | apply Kd.N_drew)); exact HO243.out) hb); have n3_ := Aside0.mk (below_step (by repeat (first | (with_reducible first | exact HB.out | apply below_alloc | apply pw_below_drewN | apply below_drew1) | exact HB.out)) hb); clear HO_7; clear HO240; clear HO243; clear HB; have HO_7 := n0_; have HO240 := n1_; have HO243 := n2_; have HB := n3_; clear n0_ n1_ n2_ n3_; (try clear hb); (try clear hb2); (try clear hk); (try clear hi))))
                      go_meet
                      case rel => exact ⟨_, (true), (by first | rfl | (simp; done) | (simp [*]; done)), H', ⟨by have := HK1.out; have := HJ17.out; first | omega | exact Nat.le_refl _⟩, ⟨by (with_reducible repeat (first | apply Kd.N_alloc | apply Kd.N_drewN | apply Kd.N_drew)); exact Kd.N_mono HO240.out (fun _ hk => hk.2)⟩, ⟨by (with_reducible repeat (first | apply Kd.N_alloc | apply Kd.N_drewN | apply Kd.N_drew)); exact Kd.N_mono HO243.out (fun _ hk => hk.2)⟩, ⟨by repeat (first | (with_reducible first | exact HB.out | apply below_alloc | apply pw_below_drewN | apply below_drew1) | exact HB.out)⟩⟩
                    · rw [if_neg c39] at H
                      have c39b0 : (t244 != t245) = false := by simpa using c39
                      (try (have c39b1 : decide (t244 = t245) = true := by simpa using c39))
                      (try (have c39b2 : (t244 == t245) = true := by simpa using c39))
                      clear c39
                      replace H := Option.bind_eq_some_iff.mp H
                      obtain ⟨t246, A440, H⟩ := H
                      replace H : ((interlocutorref4_Reached.f x7_17).bind fun t249 => ((interlocutorref3_Ints.f kj17 t246 t249).bind fun t252 => (interlocutorlaw4_GramChecks.j3 kj17 t238 t241 (!t252)))) = some r := H
                      have A44 := Aside0.mk A440
                      clear A440
                      replace H := Option.bind_eq_some_iff.mp H
                      obtain ⟨t249, A450, H⟩ := H
                      replace H : ((interlocutorref3_Ints.f kj17 t246 t249).bind fun t252 => (interlocutorlaw4_GramChecks.j3 kj17 t238 t241 (!t252))) = some r := H
                      have A45 := Aside0.mk A450
                      clear A450
                      replace H := Option.bind_eq_some_iff.mp H
                      obtain ⟨t252, A460, H⟩ := H
                      replace H : (interlocutorlaw4_GramChecks.j3 kj17 t238 t241 (!t252)) = some r := H
                      have A46 := Aside0.mk A460
                      clear A460
                      have H' := Aside0.mk H
                      clear H
                      obtain ⟨Ao47, co47, eo47⟩ := Kd.N_slice HO240.out
                      subst eo47
                      obtain ⟨Ao48, co48, eo48⟩ := Kd.N_slice HO243.out
                      subst eo48
                      go_wp2_with (first | (go_at_call 21; (with_reducible refine (gram_Check.calls _ _ x7_17 t244 _ ?side1 ?side2 A37.out).mono ?_); (case side1 => repeat (first | exact (Kd.N_reads' HO_7.out).2.2 | (with_reducible refine Kd.C_alloc ?_ _) | (with_reducible refine Kd.C_drewN ?_ _) | (with_reducible refine Kd.C_drew ?_))); (case side2 => exact (Kd.N_reads' HO_7.out).2.1); rintro e w49 ⟨rfl, hb⟩; have n0_ := Aside0.mk (Kd.N_below (by (with_reducible repeat (first | apply Kd.N_alloc | apply Kd.N_drewN | apply Kd.N_drew)); exact HO_7.out) hb); have n1_ := Aside0.mk (Kd.N_below (by (with_reducible repeat (first | apply Kd.N_alloc | apply Kd.N_drewN | apply Kd.N_drew)); exact HO240.out) hb); have n2_ := Aside0.mk (Kd.N_below (by (with_reducible repeat (first | apply Kd.N_alloc | apply Kd.N_drewN | apply Kd.N_drew)); exact HO243.out) hb); have n3_ := Aside0.mk (below_step (by repeat (first | (with_reducible first | exact HB.out | apply below_alloc | apply pw_below_drewN | apply below_drew1) | exact HB.out)) hb); clear HO_7; clear HO240; clear HO243; clear HB; have HO_7 := n0_; have HO240 := n1_; have HO243 := n2_; have HB := n3_; clear n0_ n1_ n2_ n3_; (try clear hb); (try clear hb2); (try clear hk); (try clear hi)) | (go_at_call 22; (with_reducible refine (interlocutorref4_Check.calls _ _ x7_17 t245 _ ?side1 ?side2 A38.out).mono ?_); (case side1 => repeat (first | exact (Kd.N_reads' HO_7.out).2.2 | (with_reducible refine Kd.C_alloc ?_ _) | (with_reducible refine Kd.C_drewN ?_ _) | (with_reducible refine Kd.C_drew ?_))); (case side2 => exact (Kd.N_reads' HO_7.out).2.1); rintro e w50 ⟨rfl, hb⟩; have n0_ := Aside0.mk (Kd.N_below (by (with_reducible repeat (first | apply Kd.N_alloc | apply Kd.N_drewN | apply Kd.N_drew)); exact HO_7.out) hb); have n1_ := Aside0.mk (Kd.N_below (by (with_reducible repeat (first | apply Kd.N_alloc | apply Kd.N_drewN | apply Kd.N_drew)); exact HO240.out) hb); have n2_ := Aside0.mk (Kd.N_below (by (with_reducible repeat (first | apply Kd.N_alloc | apply Kd.N_drewN | apply Kd.N_drew)); exact HO243.out) hb); have n3_ := Aside0.mk (below_step (by repeat (first | (with_reducible first | exact HB.out | apply below_alloc | apply pw_below_drewN | apply below_drew1) | exact HB.out)) hb); clear HO_7; clear HO240; clear HO243; clear HB; have HO_7 := n0_; have HO240 := n1_; have HO243 := n2_; have HB := n3_; clear n0_ n1_ n2_ n3_; (try clear hb); (try clear hb2); (try clear hk); (try clear hi)) | (go_at_call 24; (with_reducible refine (gram_Reached.calls _ _ x7_17 t246 _ ?side1 ?side2 A44.out).mono ?_); (case side1 => repeat (first | exact (Kd.N_reads' HO_7.out).2.2 | (with_reducible refine Kd.C_alloc ?_ _) | (with_reducible refine Kd.C_drewN ?_ _) | (with_reducible refine Kd.C_drew ?_))); (case side2 => exact (Kd.N_reads' HO_7.out).2.1); rintro e w51 ⟨v247, rfl, ho0, hb⟩; have n0_ := Aside0.mk (Kd.N_elder' (by (with_reducible repeat (first | apply Kd.N_alloc | apply Kd.N_drewN | apply Kd.N_drew)); exact HO_7.out) (Kd.R_base ho0) hb); have n1_ := Aside0.mk (Kd.N_elder' (by (with_reducible repeat (first | apply Kd.N_alloc | apply Kd.N_drewN | apply Kd.N_drew)); exact HO240.out) (Kd.R_base ho0) hb); have n2_ := Aside0.mk (Kd.N_elder' (by (with_reducible repeat (first | apply Kd.N_alloc | apply Kd.N_drewN | apply Kd.N_drew)); exact HO243.out) (Kd.R_base ho0) hb); have n3_ := Aside0.mk (Kd.R_lower ho0 (below_size (by repeat (first | (with_reducible first | exact HB.out | apply below_alloc | apply pw_below_drewN | apply below_drew1) | exact HB.out)))); have n4_ := Aside0.mk (below_step (by repeat (first | (with_reducible first | exact HB.out | apply below_alloc | apply pw_below_drewN | apply below_drew1) | exact HB.out)) hb); clear HO_7; clear HO240; clear HO243; clear HB; have HO_7 := n0_; have HO240 := n1_; have HO243 := n2_; have HO248 := n3_; have HB := n4_; clear n0_ n1_ n2_ n3_ n4_; (try clear hb); (try clear hb2); (try clear hk); (try clear hi); (try clear ho0)) | (go_at_call 25; (with_reducible refine (interlocutorref4_Reached.calls _ _ x7_17 t249 _ ?side1 ?side2 A45.out).mono ?_); (case side1 => repeat (first | exact (Kd.N_reads' HO_7.out).2.2 | (with_reducible refine Kd.C_alloc ?_ _) | (with_reducible refine Kd.C_drewN ?_ _) | (with_reducible refine Kd.C_drew ?_))); (case side2 => exact (Kd.N_reads' HO_7.out).2.1); rintro e w52 ⟨v250, rfl, ho0, hb⟩; have n0_ := Aside0.mk (Kd.N_elder' (by (with_reducible repeat (first | apply Kd.N_alloc | apply Kd.N_drewN | apply Kd.N_drew)); exact HO_7.out) (Kd.R_base ho0) hb); have n1_ := Aside0.mk (Kd.N_elder' (by (with_reducible repeat (first | apply Kd.N_alloc | apply Kd.N_drewN | apply Kd.N_drew)); exact HO240.out) (Kd.R_base ho0) hb); have n2_ := Aside0.mk (Kd.N_elder' (by (with_reducible repeat (first | apply Kd.N_alloc | apply Kd.N_drewN | apply Kd.N_drew)); exact HO243.out) (Kd.R_base ho0) hb); have n3_ := Aside0.mk (Kd.R_elder' (by (with_reducible repeat (first | apply Kd.R_alloc | apply Kd.R_drewN | apply Kd.R_drew)); exact HO248.out) (Kd.R_base ho0) hb); have n4_ := Aside0.mk (Kd.R_lower (Kd.R_new' ho0 (Kd.R_lt (by (with_reducible repeat (first | apply Kd.R_alloc | apply Kd.R_drewN | apply Kd.R_drew)); exact HO248.out))) (below_size (by repeat (first | (with_reducible first | exact HB.out | apply below_alloc | apply pw_below_drewN | apply below_drew1) | exact HB.out)))); have n5_ := Aside0.mk (below_step (by repeat (first | (with_reducible first | exact HB.out | apply below_alloc | apply pw_below_drewN | apply below_drew1) | exact HB.out)) hb); clear HO_7; clear HO240; clear HO243; clear HO248; clear HB; have HO_7 := n0_; have HO240 := n1_; have HO243 := n2_; have HO248 := n3_; have HO251 := n4_; have HB := n5_; clear n0_ n1_ n2_ n3_ n4_ n5_; (try clear hb); (try clear hb2); (try clear hk); (try clear hi); (try clear ho0); obtain ⟨Ao53, co53, eo53⟩ := Kd.R_slice HO248.out; subst eo53; obtain ⟨Ao54, co54, eo54⟩ := Kd.R_slice HO251.out; subst eo54) | (go_at_call 23; (with_reducible refine (interlocutorref3_Ints.calls kj17 _ _ t246 _ _ t249 t252 _ ?side1 ?side2 ?side3 ?side4 A46.out).mono ?_); (case side1 => repeat (first | exact (Kd.R_reads' HO248.out).2.2 | (with_reducible refine Kd.C_alloc ?_ _) | (with_reducible refine Kd.C_drewN ?_ _) | (with_reducible refine Kd.C_drew ?_))); (case side2 => exact (Kd.R_reads' HO248.out).2.1); (case side3 => repeat (first | exact (Kd.R_reads' HO251.out).2.2 | (with_reducible refine Kd.C_alloc ?_ _) | (with_reducible refine Kd.C_drewN ?_ _) | (with_reducible refine Kd.C_drew ?_))); (case side4 => exact (Kd.R_reads' HO251.out).2.1); rintro e w' ⟨rfl, ⟨nd, rfl⟩⟩; (try first | exact ⟨rfl, _, World.drewN_drewN _ _ _⟩ | exact ⟨rfl, _, Eq.trans (World.drewN_drewN _ _ _) (congrArg (World.drewN _) (Nat.add_assoc _ _ _))⟩)))
                      repeat (go_quiet (first | (go_at_call 21; (with_reducible refine (gram_Check.calls _ _ x7_17 t244 _ ?side1 ?side2 A37.out).mono ?_); (case side1 => repeat (first | exact (Kd.N_reads' HO_7.out).2.2 | (with_reducible refine Kd.C_alloc ?_ _) | (with_reducible refine Kd.C_drewN ?_ _) | (with_reducible refine Kd.C_drew ?_))); (case side2 => exact (Kd.N_reads' HO_7.out).2.1); rintro e w49 ⟨rfl, hb⟩; have n0_ := Aside0.mk (Kd.N_below (by (with_reducible repeat (first | apply Kd.N_alloc | apply Kd.N_drewN | apply Kd.N_drew)); exact HO_7.out) hb); have n1_ := Aside0.mk (Kd.N_below (by (with_reducible repeat (first | apply Kd.N_alloc | apply Kd.N_drewN | apply Kd.N_drew)); exact HO240.out) hb); have n2_ := Aside0.mk (Kd.N_below (by (with_reducible repeat (first | apply Kd.N_alloc | apply Kd.N_drewN | apply Kd.N_drew)); exact HO243.out) hb); have n3_ := Aside0.mk (below_step (by repeat (first | (with_reducible first | exact HB.out | apply below_alloc | apply pw_below_drewN | apply below_drew1) | exact HB.out)) hb); clear HO_7; clear HO240; clear HO243; clear HB; have HO_7 := n0_; have HO240 := n1_; have HO243 := n2_; have HB := n3_; clear n0_ n1_ n2_ n3_; (try clear hb); (try clear hb2); (try clear hk); (try clear hi)) | (go_at_call 22; (with_reducible refine (interlocutorref4_Check.calls _ _ x7_17 t245 _ ?side1 ?side2 A38.out).mono ?_); (case side1 => repeat (first | exact (Kd.N_reads' HO_7.out).2.2 | (with_reducible refine Kd.C_alloc ?_ _) | (with_reducible refine Kd.C_drewN ?_ _) | (with_reducible refine Kd.C_drew ?_))); (case side2 => exact (Kd.N_reads' HO_7.out).2.1); rintro e w50 ⟨rfl, hb⟩; have n0_ := Aside0.mk (Kd.N_below (by (with_reducible repeat (first | apply Kd.N_alloc | apply Kd.N_drewN | apply Kd.N_drew)); exact HO_7.out) hb); have n1_ := Aside0.mk (Kd.N_below (by (with_reducible repeat (first | apply Kd.N_alloc | apply Kd.N_drewN | apply Kd.N_drew)); exact HO240.out) hb); have n2_ := Aside0.mk (Kd.N_below (by (with_reducible repeat (first | apply Kd.N_alloc | apply Kd.N_drewN | apply Kd.N_drew)); exact HO243.out) hb); have n3_ := Aside0.mk (below_step (by repeat (first | (with_reducible first | exact HB.out | apply below_alloc | apply pw_below_drewN | apply below_drew1) | exact HB.out)) hb); clear HO_7; clear HO240; clear HO243; clear HB; have HO_7 := n0_; have HO240 := n1_; have HO243 := n2_; have HB := n3_; clear n0_ n1_ n2_ n3_; (try clear hb); (try clear hb2); (try clear hk); (try clear hi)) | (go_at_call 24; (with_reducible refine (gram_Reached.calls _ _ x7_17 t246 _ ?side1 ?side2 A44.out).mono ?_); (case side1 => repeat (first | exact (Kd.N_reads' HO_7.out).2.2 | (with_reducible refine Kd.C_alloc ?_ _) | (with_reducible refine Kd.C_drewN ?_ _) | (with_reducible refine Kd.C_drew ?_))); (case side2 => exact (Kd.N_reads' HO_7.out).2.1); rintro e w51 ⟨v247, rfl, ho0, hb⟩; have n0_ := Aside0.mk (Kd.N_elder' (by (with_reducible repeat (first | apply Kd.N_alloc | apply Kd.N_drewN | apply Kd.N_drew)); exact HO_7.out) (Kd.R_base ho0) hb); have n1_ := Aside0.mk (Kd.N_elder' (by (with_reducible repeat (first | apply Kd.N_alloc | apply Kd.N_drewN | apply Kd.N_drew)); exact HO240.out) (Kd.R_base ho0) hb); have n2_ := Aside0.mk (Kd.N_elder' (by (with_reducible repeat (first | apply Kd.N_alloc | apply Kd.N_drewN | apply Kd.N_drew)); exact HO243.out) (Kd.R_base ho0) hb); have n3_ := Aside0.mk (Kd.R_lower ho0 (below_size (by repeat (first | (with_reducible first | exact HB.out | apply below_alloc | apply pw_below_drewN | apply below_drew1) | exact HB.out)))); have n4_ := Aside0.mk (below_step (by repeat (first | (with_reducible first | exact HB.out | apply below_alloc | apply pw_below_drewN | apply below_drew1) | exact HB.out)) hb); clear HO_7; clear HO240; clear HO243; clear HB; have HO_7 := n0_; have HO240 := n1_; have HO243 := n2_; have HO248 := n3_; have HB := n4_; clear n0_ n1_ n2_ n3_ n4_; (try clear hb); (try clear hb2); (try clear hk); (try clear hi); (try clear ho0)) | (go_at_call 25; (with_reducible refine (interlocutorref4_Reached.calls _ _ x7_17 t249 _ ?side1 ?side2 A45.out).mono ?_); (case side1 => repeat (first | exact (Kd.N_reads' HO_7.out).2.2 | (with_reducible refine Kd.C_alloc ?_ _) | (with_reducible refine Kd.C_drewN ?_ _) | (with_reducible refine Kd.C_drew ?_))); (case side2 => exact (Kd.N_reads' HO_7.out).2.1); rintro e w52 ⟨v250, rfl, ho0, hb⟩; have n0_ := Aside0.mk (Kd.N_elder' (by (with_reducible repeat (first | apply Kd.N_alloc | apply Kd.N_drewN | apply Kd.N_drew)); exact HO_7.out) (Kd.R_base ho0) hb); have n1_ := Aside0.mk (Kd.N_elder' (by (with_reducible repeat (first | apply Kd.N_alloc | apply Kd.N_drewN | apply Kd.N_drew)); exact HO240.out) (Kd.R_base ho0) hb); have n2_ := Aside0.mk (Kd.N_elder' (by (with_reducible repeat (first | apply Kd.N_alloc | apply Kd.N_drewN | apply Kd.N_drew)); exact HO243.out) (Kd.R_base ho0) hb); have n3_ := Aside0.mk (Kd.R_elder' (by (with_reducible repeat (first | apply Kd.R_alloc | apply Kd.R_drewN | apply Kd.R_drew)); exact HO248.out) (Kd.R_base ho0) hb); have n4_ := Aside0.mk (Kd.R_lower (Kd.R_new' ho0 (Kd.R_lt (by (with_reducible repeat (first | apply Kd.R_alloc | apply Kd.R_drewN | apply Kd.R_drew)); exact HO248.out))) (below_size (by repeat (first | (with_reducible first | exact HB.out | apply below_alloc | apply pw_below_drewN | apply below_drew1) | exact HB.out)))); have n5_ := Aside0.mk (below_step (by repeat (first | (with_reducible first | exact HB.out | apply below_alloc | apply pw_below_drewN | apply below_drew1) | exact HB.out)) hb); clear HO_7; clear HO240; clear HO243; clear HO248; clear HB; have HO_7 := n0_; have HO240 := n1_; have HO243 := n2_; have HO248 := n3_; have HO251 := n4_; have HB := n5_; clear n0_ n1_ n2_ n3_ n4_ n5_; (try clear hb); (try clear hb2); (try clear hk); (try clear hi); (try clear ho0); obtain ⟨Ao53, co53, eo53⟩ := Kd.R_slice HO248.out; subst eo53; obtain ⟨Ao54, co54, eo54⟩ := Kd.R_slice HO251.out; subst eo54) | (go_at_call 23; (with_reducible refine (interlocutorref3_Ints.calls kj17 _ _ t246 _ _ t249 t252 _ ?side1 ?side2 ?side3 ?side4 A46.out).mono ?_); (case side1 => repeat (first | exact (Kd.R_reads' HO248.out).2.2 | (with_reducible refine Kd.C_alloc ?_ _) | (with_reducible refine Kd.C_drewN ?_ _) | (with_reducible refine Kd.C_drew ?_))); (case side2 => exact (Kd.R_reads' HO248.out).2.1); (case side3 => repeat (first | exact (Kd.R_reads' HO251.out).2.2 | (with_reducible refine Kd.C_alloc ?_ _) | (with_reducible refine Kd.C_drewN ?_ _) | (with_reducible refine Kd.C_drew ?_))); (case side4 => exact (Kd.R_reads' HO251.out).2.1); rintro e w' ⟨rfl, ⟨nd, rfl⟩⟩; (try first | exact ⟨rfl, _, World.drewN_drewN _ _ _⟩ | exact ⟨rfl, _, Eq.trans (World.drewN_drewN _ _ _) (congrArg (World.drewN _) (Nat.add_assoc _ _ _))⟩))); try go_wp2_with (first | (go_at_call 21; (with_reducible refine (gram_Check.calls _ _ x7_17 t244 _ ?side1 ?side2 A37.out).mono ?_); (case side1 => repeat (first | exact (Kd.N_reads' HO_7.out).2.2 | (with_reducible refine Kd.C_alloc ?_ _) | (with_reducible refine Kd.C_drewN ?_ _) | (with_reducible refine Kd.C_drew ?_))); (case side2 => exact (Kd.N_reads' HO_7.out).2.1); rintro e w49 ⟨rfl, hb⟩; have n0_ := Aside0.mk (Kd.N_below (by (with_reducible repeat (first | apply Kd.N_alloc | apply Kd.N_drewN | apply Kd.N_drew)); exact HO_7.out) hb); have n1_ := Aside0.mk (Kd.N_below (by (with_reducible repeat (first | apply Kd.N_alloc | apply Kd.N_drewN | apply Kd.N_drew)); exact HO240.out) hb); have n2_ := Aside0.mk (Kd.N_below (by (with_reducible repeat (first | apply Kd.N_alloc | apply Kd.N_drewN | apply Kd.N_drew)); exact HO243.out) hb); have n3_ := Aside0.mk (below_step (by repeat (first | (with_reducible first | exact HB.out | apply below_alloc | apply pw_below_drewN | apply below_drew1) | exact HB.out)) hb); clear HO_7; clear HO240; clear HO243; clear HB; have HO_7 := n0_; have HO240 := n1_; have HO243 := n2_; have HB := n3_; clear n0_ n1_ n2_ n3_; (try clear hb); (try clear hb2); (try clear hk); (try clear hi)) | (go_at_call 22; (with_reducible refine (interlocutorref4_Check.calls _ _ x7_17 t245 _ ?side1 ?side2 A38.out).mono ?_); (case side1 => repeat (first | exact (Kd.N_reads' HO_7.out).2.2 | (with_reducible refine Kd.C_alloc ?_ _) | (with_reducible refine Kd.C_drewN ?_ _) | (with_reducible refine Kd.C_drew ?_))); (case side2 => exact (Kd.N_reads' HO_7.out).2.1); rintro e w50 ⟨rfl, hb⟩; have n0_ := Aside0.mk (Kd.N_below (by (with_reducible repeat (first | apply Kd.N_alloc | apply Kd.N_drewN | apply Kd.N_drew)); exact HO_7.out) hb); have n1_ := Aside0.mk (Kd.N_below (by (with_reducible repeat (first | apply Kd.N_alloc | apply Kd.N_drewN | apply Kd.N_drew)); exact HO240.out) hb); have n2_ := Aside0.mk (Kd.N_below (by (with_reducible repeat (first | apply Kd.N_alloc | apply Kd.N_drewN | apply Kd.N_drew)); exact HO243.out) hb); have n3_ := Aside0.mk (below_step (by repeat (first | (with_reducible first | exact HB.out | apply below_alloc | apply pw_below_drewN | apply below_drew1) | exact HB.out)) hb); clear HO_7; clear HO240; clear HO243; clear HB; have HO_7 := n0_; have HO240 := n1_; have HO243 := n2_; have HB := n3_; clear n0_ n1_ n2_ n3_; (try clear hb); (try clear hb2); (try clear hk); (try clear hi)) | (go_at_call 24; (with_reducible refine (gram_Reached.calls _ _ x7_17 t246 _ ?side1 ?side2 A44.out).mono ?_); (case side1 => repeat (first | exact (Kd.N_reads' HO_7.out).2.2 | (with_reducible refine Kd.C_alloc ?_ _) | (with_reducible refine Kd.C_drewN ?_ _) | (with_reducible refine Kd.C_drew ?_))); (case side2 => exact (Kd.N_reads' HO_7.out).2.1); rintro e w51 ⟨v247, rfl, ho0, hb⟩; have n0_ := Aside0.mk (Kd.N_elder' (by (with_reducible repeat (first | apply Kd.N_alloc | apply Kd.N_drewN | apply Kd.N_drew)); exact HO_7.out) (Kd.R_base ho0) hb); have n1_ := Aside0.mk (Kd.N_elder' (by (with_reducible repeat (first | apply Kd.N_alloc | apply Kd.N_drewN | apply Kd.N_drew)); exact HO240.out) (Kd.R_base ho0) hb); have n2_ := Aside0.mk (Kd.N_elder' (by (with_reducible repeat (first | apply Kd.N_alloc | apply Kd.N_drewN | apply Kd.N_drew)); exact HO243.out) (Kd.R_base ho0) hb); have n3_ := Aside0.mk (Kd.R_lower ho0 (below_size (by repeat (first | (with_reducible first | exact HB.out | apply below_alloc | apply pw_below_drewN | apply below_drew1) | exact HB.out)))); have n4_ := Aside0.mk (below_step (by repeat (first | (with_reducible first | exact HB.out | apply below_alloc | apply pw_below_drewN | apply below_drew1) | exact HB.out)) hb); clear HO_7; clear HO240; clear HO243; clear HB; have HO_7 := n0_; have HO240 := n1_; have HO243 := n2_; have HO248 := n3_; have HB := n4_; clear n0_ n1_ n2_ n3_ n4_; (try clear hb); (try clear hb2); (try clear hk); (try clear hi); (try clear ho0)) | (go_at_call 25; (with_reducible refine (interlocutorref4_Reached.calls _ _ x7_17 t249 _ ?side1 ?side2 A45.out).mono ?_); (case side1 => repeat (first | exact (Kd.N_reads' HO_7.out).2.2 | (with_reducible refine Kd.C_alloc ?_ _) | (with_reducible refine Kd.C_drewN ?_ _) | (with_reducible refine Kd.C_drew ?_))); (case side2 => exact (Kd.N_reads' HO_7.out).2.1); rintro e w52 ⟨v250, rfl, ho0, hb⟩; have n0_ := Aside0.mk (Kd.N_elder' (by (with_reducible repeat (first | apply Kd.N_alloc | apply Kd.N_drewN | apply Kd.N_drew)); exact HO_7.out) (Kd.R_base ho0) hb); have n1_ := Aside0.mk (Kd.N_elder' (by (with_reducible repeat (first | apply Kd.N_alloc | apply Kd.N_drewN | apply Kd.N_drew)); exact HO240.out) (Kd.R_base ho0) hb); have n2_ := Aside0.mk (Kd.N_elder' (by (with_reducible repeat (first | apply Kd.N_alloc | apply Kd.N_drewN | apply Kd.N_drew)); exact HO243.out) (Kd.R_base ho0) hb); have n3_ := Aside0.mk (Kd.R_elder' (by (with_reducible repeat (first | apply Kd.R_alloc | apply Kd.R_drewN | apply Kd.R_drew)); exact HO248.out) (Kd.R_base ho0) hb); have n4_ := Aside0.mk (Kd.R_lower (Kd.R_new' ho0 (Kd.R_lt (by (with_reducible repeat (first | apply Kd.R_alloc | apply Kd.R_drewN | apply Kd.R_drew)); exact HO248.out))) (below_size (by repeat (first | (with_reducible first | exact HB.out | apply below_alloc | apply pw_below_drewN | apply below_drew1) | exact HB.out)))); have n5_ := Aside0.mk (below_step (by repeat (first | (with_reducible first | exact HB.out | apply below_alloc | apply pw_below_drewN | apply below_drew1) | exact HB.out)) hb); clear HO_7; clear HO240; clear HO243; clear HO248; clear HB; have HO_7 := n0_; have HO240 := n1_; have HO243 := n2_; have HO248 := n3_; have HO251 := n4_; have HB := n5_; clear n0_ n1_ n2_ n3_ n4_ n5_; (try clear hb); (try clear hb2); (try clear hk); (try clear hi); (try clear ho0); obtain ⟨Ao53, co53, eo53⟩ := Kd.R_slice HO248.out; subst eo53; obtain ⟨Ao54, co54, eo54⟩ := Kd.R_slice HO251.out; subst eo54) | (go_at_call 23; (with_reducible refine (interlocutorref3_Ints.calls kj17 _ _ t246 _ _ t249 t252 _ ?side1 ?side2 ?side3 ?side4 A46.out).mono ?_); (case side1 => repeat (first | exact (Kd.R_reads' HO248.out).2.2 | (with_reducible refine Kd.C_alloc ?_ _) | (with_reducible refine Kd.C_drewN ?_ _) | (with_reducible refine Kd.C_drew ?_))); (case side2 => exact (Kd.R_reads' HO248.out).2.1); (case side3 => repeat (first | exact (Kd.R_reads' HO251.out).2.2 | (with_reducible refine Kd.C_alloc ?_ _) | (with_reducible refine Kd.C_drewN ?_ _) | (with_reducible refine Kd.C_drew ?_))); (case side4 => exact (Kd.R_reads' HO251.out).2.1); rintro e w' ⟨rfl, ⟨nd, rfl⟩⟩; (try first | exact ⟨rfl, _, World.drewN_drewN _ _ _⟩ | exact ⟨rfl, _, Eq.trans (World.drewN_drewN _ _ _) (congrArg (World.drewN _) (Nat.add_assoc _ _ _))⟩))))
                      go_meet
                      case rel => exact ⟨_, (!t252), (by first | rfl | (simp; done) | (simp [*]; done)), H', ⟨by have := HK1.out; have := HJ17.out; first | omega | exact Nat.le_refl _⟩, ⟨by (with_reducible repeat (first | apply Kd.N_alloc | apply Kd.N_drewN | apply Kd.N_drew)); exact Kd.N_mono HO240.out (fun _ hk => hk.1.1.2)⟩, ⟨by (with_reducible repeat (first | apply Kd.N_alloc | apply Kd.N_drewN | apply Kd.N_drew)); exact Kd.N_mono HO243.out (fun _ hk => hk.1.1.2)⟩, ⟨by repeat (first | (with_reducible first | exact HB.out | apply below_alloc | apply pw_below_drewN | apply below_drew1) | exact HB.out)⟩⟩
                  · rw [if_neg c36] at H
                    have c36b0 : ((t238.length : Int) == (t241.length : Int)) = false := beq_eq_false_iff_ne.mpr c36
                    have c36b1 : ((t238.length : Int) != (t241.length : Int)) = true := bne_iff_ne.mpr c36
                    have c36b2 : (t238.length == t241.length) = false := by first | simpa using c36 | (simp at c36 ⊢; omega)
                    (first | rw [c36b0] | (simp only [i64_w, i32_w]; rw [c36b0]) | skip)
                    have H' := Aside0.mk H
                    clear H
                    obtain ⟨Ao55, co55, eo55⟩ := Kd.N_slice HO240.out
                    subst eo55
                    obtain ⟨Ao56, co56, eo56⟩ := Kd.N_slice HO243.out
                    subst eo56
                    go_wp2
                    repeat (go_quiet (fail); try go_wp2)
                    go_meet
                    case rel => exact ⟨_, (true), (by first | rfl | (simp; done) | (simp [*]; done)), H', ⟨by have := HK1.out; have := HJ17.out; first | omega | exact Nat.le_refl _⟩, ⟨by (with_reducible repeat (first | apply Kd.N_alloc | apply Kd.N_drewN | apply Kd.N_drew)); exact Kd.N_mono HO240.out (fun _ hk => hk.2)⟩, ⟨by (with_reducible repeat (first | apply Kd.N_alloc | apply Kd.N_drewN | apply Kd.N_drew)); exact Kd.N_mono HO243.out (fun _ hk => hk.2)⟩, ⟨by repeat (first | (with_reducible first | exact HB.out | apply below_alloc | apply pw_below_drewN | apply below_drew1) | exact HB.out)⟩⟩
                case rest =>
                  clear HC32
                  try clear c1
                  try clear c2
                  try clear p2
                  try clear q2
                  try clear hx2
                  try clear c3
                  try clear c4
                  try clear c5
                  try clear p6
                  try clear c7
                  try clear c10
                  try clear c10b0
                  try clear c11
                  try clear c11b0
                  try clear c13
                  try clear c20
                  try clear c20b0
                  try clear c21
                  try clear c21b0
                  try clear c21b1
                  try clear c22
                  try clear c22b0
                  try clear c22b1
                  try clear c22b2
                  try clear p22
                  try clear q22
                  try clear hx22
                  try clear c23
                  try clear p23
                  try clear q23
                  try clear hx23
                  try clear c24
                  try clear c24b0
                  try clear c25
                  try clear c25b0
                  try clear c26
                  try clear c36
                  try clear c36b0
                  try clear c36b1
                  try clear c36b2
                  try clear c39
                  try clear c39b0
                  try clear c39b1
                  try clear c39b2
                  try clear hx220_0
                  try clear hx220_1
                  try clear hx220_2
                  try clear hx220_3
                  try clear hx220_4
                  try clear hx234_0
                  try clear hx234_1
                  try clear hx234_2
                  try clear hx234_3
                  try clear hx234_4
                  try clear p2
                  try clear p22
                  try clear p220
                  try clear p23
                  try clear p234
                  try clear p6
                  try clear q2
                  try clear q22
                  try clear q220
                  try clear q23
                  try clear q234
                  obtain ⟨kq, x81_31, rfl, HA, HJ31, HO_11, HO_12, HB⟩ := hcut
                  cases kq with
                  | zero => exact absurd HA.out (by simp [interlocutorlaw4_GramChecks.j3])
                  | succ kj31 =>
                    have H := HA.out
                    clear HA
                    simp only [interlocutorlaw4_GramChecks.j3] at H
                    by_cases c57 : x81_31 = true
                    · subst c57
                      have H1 : (some false) = some r := by rw [if_pos rfl] at H; exact H
                      clear H
                      have H := H1
                      clear H1
                      obtain rfl := Option.some.inj H
                      go_wp2
                      repeat (go_quiet (fail); try go_wp2)
                      go_ret
                      exact ⟨by first | rfl | (simp [errW_none, errW_some] <;> rfl) | (simp [*, errW_none, errW_some] <;> rfl), by repeat (first | (with_reducible first | exact HB.out | apply below_alloc | apply pw_below_drewN | apply below_drew1) | exact HB.out)⟩
                    · replace c57 := Bool.eq_false_iff.mpr c57
                      subst c57
                      have H1 : (interlocutorlaw4_GramChecks.l2 kj31 t238 t241 0) = some r := by rw [if_neg (show ¬ (false = true) by decide)] at H; exact H
                      clear H
                      have H := H1
                      clear H1
                      have H' := Aside0.mk H
                      clear H
                      go_wp2
                      repeat (go_quiet (fail); try go_wp2)
                      go_loopg [13] kj31 (fun kq v13 w' => ∃ (x13_4 : Int), v13 = .int .i64 x13_4 ∧ Aside0 (interlocutorlaw4_GramChecks.l2 kq t238 t241 x13_4 = some r) ∧ Aside0 (kq ≤ kj31) ∧ Aside0 (Kd.N (Kd.slice 3 (Kd.int .i64)) 22 w' w.heap.size (fun k_ => some k_ ≠ (v242 : Value).ownBlock) v239 t238) ∧ Aside0 (Kd.N (Kd.slice 3 (Kd.int .i64)) 22 w' w.heap.size (fun k_ => some k_ ≠ (v239 : Value).ownBlock) v242 t241) ∧ Aside0 (Below w.heap.size w w'))
                      case atStart => exact ⟨(0), (by first | rfl | (simp; done) | (simp [*]; done)), H', ⟨Nat.le_refl _⟩, ⟨by (with_reducible repeat (first | apply Kd.N_alloc | apply Kd.N_drewN | apply Kd.N_drew)); exact HO_11.out⟩, ⟨by (with_reducible repeat (first | apply Kd.N_alloc | apply Kd.N_drewN | apply Kd.N_drew)); exact HO_12.out⟩, ⟨by repeat (first | (with_reducible first | exact HB.out | apply below_alloc | apply pw_below_drewN | apply below_drew1) | exact HB.out)⟩⟩
                      case round =>
                        clear H'
                        try clear c1
                        try clear c2
                        try clear p2
                        try clear q2
                        try clear hx2
                        try clear c3
                        try clear c4
                        try clear c5
                        try clear p6
                        try clear c7
                        try clear c10
                        try clear c10b0
                        try clear c11
                        try clear c11b0
                        try clear c13
                        try clear c20
                        try clear c20b0
                        try clear c21
                        try clear c21b0
                        try clear c21b1
                        try clear c22
                        try clear c22b0
                        try clear c22b1
                        try clear c22b2
                        try clear p22
                        try clear q22
                        try clear hx22
                        try clear c23
                        try clear p23
                        try clear q23
                        try clear hx23
                        try clear c24
                        try clear c24b0
                        try clear c25
                        try clear c25b0
                        try clear c26
                        try clear c36
                        try clear c36b0
                        try clear c36b1
                        try clear c36b2
                        try clear c39
                        try clear c39b0
                        try clear c39b1
                        try clear c39b2
                        try clear c57
                        try clear hx220_0
                        try clear hx220_1
                        try clear hx220_2
                        try clear hx220_3
                        try clear hx220_4
                        try clear hx234_0
                        try clear hx234_1
                        try clear hx234_2
                        try clear hx234_3
                        try clear hx234_4
                        try clear p2
                        try clear p22
                        try clear p220
                        try clear p23
                        try clear p234
                        try clear p6
                        try clear q2
                        try clear q22
                        try clear q220
                        try clear q23
                        try clear q234
                        obtain ⟨x13_4, rfl, HA, HK4, HO_11, HO_12, HB⟩ := hrel
                        cases gk with
                        | zero => exact absurd HA.out (by simp [interlocutorlaw4_GramChecks.l2])
                        | succ k4 =>
                          have H := HA.out
                          clear HA
                          simp only [interlocutorlaw4_GramChecks.l2] at H
                          by_cases c58 : x13_4 < (t238.length : Int)
                          · rw [if_pos c58] at H
                            have c58b0 : decide (x13_4 < (t238.length : Int)) = true := decide_eq_true c58
                            clear c58
                            by_cases c59 : 0 ≤ x13_4
                            · rw [if_pos c59] at H
                              have c59b0 : decide (0 ≤ x13_4) = true := decide_eq_true c59
                              clear c59
                              by_cases c60 : x13_4 < (t241.length : Int)
                              · rw [if_pos c60] at H
                                have c60b0 : decide (x13_4 < (t241.length : Int)) = true := decide_eq_true c60
                                clear c60
                                replace H := Option.bind_eq_some_iff.mp H
                                obtain ⟨t255, A610, H⟩ := H
                                replace H : (if t255 = true then (interlocutorlaw4_GramChecks.l2 k4 t238 t241 (wrap64 (x13_4 + 1))) else (some false)) = some r := H
                                have A61 := Aside0.mk A610
                                clear A610
                                by_cases c62 : t255 = true
                                · subst c62
                                  have H1 : (interlocutorlaw4_GramChecks.l2 k4 t238 t241 (wrap64 (x13_4 + 1))) = some r := by rw [if_pos rfl] at H; exact H
                                  clear H
                                  have H := H1
                                  clear H1
                                  have H' := Aside0.mk H
                                  clear H
                                  obtain ⟨Ao63, co63, eo63⟩ := Kd.N_slice HO_11.out
                                  subst eo63
                                  have p253 : 0 ≤ (x13_4 : Int) := of_decide_eq_true (by first | (with_reducible assumption) | assumption)
                                  have q253 : x13_4 < (t238.length : Int) := of_decide_eq_true (by first | (with_reducible assumption) | assumption)
                                  obtain ⟨ad253, A253_0, c253_0, e253, hx253_0, hl253_0, hi253_0⟩ := at_L2 (Kd.N_reads' HO_11.out).2.2 x13_4 p253 q253
                                  cases e253
                                  obtain ⟨ce253, hce253, hMe253, hcc253⟩ := Kd.N_get HO_11.out [] x13_4 p253 (by first | exact q253 | exact of_decide_eq_true (by first | (with_reducible assumption) | assumption) | (have e_ := (Kd.N_reads' HO_11.out).1; omega))
                                  obtain ⟨ua253_0, uc253_0, rfl, ul253_0, ge253_0⟩ := Kd.FK_slice_open hMe253
                                  have hv253_0 := hcc253 0 _ rfl
                                  rw [Nat.add_zero, show ((Kd.slice 3 (Kd.int .i64))).sz = 1 from rfl, Nat.mul_one] at hv253_0
                                  replace hv253_0 := Option.some.inj (hv253_0.symm.trans hx253_0)
                                  injection hv253_0 with hva_ hvn_ hvc_
                                  rw [hva_] at ge253_0
                                  rw [hvc_] at ul253_0
                                  have HL253_0 := Aside0.mk (show Kd.V (Kd.int .i64) 3 _ w.heap.size _ _ (rd_L2 t238 x13_4) from Kd.V_mk ul253_0 ge253_0)
                                  clear hva_ hvn_ hvc_ ge253_0 ul253_0
                                  clear hcc253 hce253
                                  have HR253_0 := Aside0.mk hi253_0
                                  have HC253_0 := Aside0.mk hl253_0
                                  clear hi253_0 hl253_0
                                  replace p253 := eq_true p253
                                  replace q253 := eq_true q253
                                  obtain ⟨Ao64, co64, eo64⟩ := Kd.N_slice HO_12.out
                                  subst eo64
                                  have p254 : 0 ≤ (x13_4 : Int) := of_decide_eq_true (by first | (with_reducible assumption) | assumption)
                                  have q254 : x13_4 < (t241.length : Int) := of_decide_eq_true (by first | (with_reducible assumption) | assumption)
                                  obtain ⟨ad254, A254_0, c254_0, e254, hx254_0, hl254_0, hi254_0⟩ := at_L2 (Kd.N_reads' HO_12.out).2.2 x13_4 p254 q254
                                  cases e254
                                  obtain ⟨ce254, hce254, hMe254, hcc254⟩ := Kd.N_get HO_12.out [] x13_4 p254 (by first | exact q254 | exact of_decide_eq_true (by first | (with_reducible assumption) | assumption) | (have e_ := (Kd.N_reads' HO_12.out).1; omega))
                                  obtain ⟨ua254_0, uc254_0, rfl, ul254_0, ge254_0⟩ := Kd.FK_slice_open hMe254
                                  have hv254_0 := hcc254 0 _ rfl
                                  rw [Nat.add_zero, show ((Kd.slice 3 (Kd.int .i64))).sz = 1 from rfl, Nat.mul_one] at hv254_0
                                  replace hv254_0 := Option.some.inj (hv254_0.symm.trans hx254_0)
                                  injection hv254_0 with hva_ hvn_ hvc_
                                  rw [hva_] at ge254_0
                                  rw [hvc_] at ul254_0
                                  have HL254_0 := Aside0.mk (show Kd.V (Kd.int .i64) 3 _ w.heap.size _ _ (rd_L2 t241 x13_4) from Kd.V_mk ul254_0 ge254_0)
                                  clear hva_ hvn_ hvc_ ge254_0 ul254_0
                                  clear hcc254 hce254
                                  have HR254_0 := Aside0.mk hi254_0
                                  have HC254_0 := Aside0.mk hl254_0
                                  clear hi254_0 hl254_0
                                  replace p254 := eq_true p254
                                  replace q254 := eq_true q254
                                  go_wp2_with (first | (go_at_call 23; (with_reducible refine (interlocutorref3_Ints.calls k4 _ _ (rd_L2 t238 x13_4) _ _ (rd_L2 t241 x13_4) true _ ?side1 ?side2 ?side3 ?side4 A61.out).mono ?_); (case side1 => repeat (first | exact (by repeat (first | (with_reducible exact HR253_0.out) | (with_reducible refine Kd.C_alloc ?_ _) | (with_reducible refine Kd.C_drewN ?_ _) | (with_reducible refine Kd.C_drew ?_) | exact HR253_0.out)) | (with_reducible refine Kd.C_alloc ?_ _) | (with_reducible refine Kd.C_drewN ?_ _) | (with_reducible refine Kd.C_drew ?_))); (case side2 => exact HC253_0.out); (case side3 => repeat (first | exact (by repeat (first | (with_reducible exact HR254_0.out) | (with_reducible refine Kd.C_alloc ?_ _) | (with_reducible refine Kd.C_drewN ?_ _) | (with_reducible refine Kd.C_drew ?_) | exact HR254_0.out)) | (with_reducible refine Kd.C_alloc ?_ _) | (with_reducible refine Kd.C_drewN ?_ _) | (with_reducible refine Kd.C_drew ?_))); (case side4 => exact HC254_0.out); rintro e w' ⟨rfl, ⟨nd, rfl⟩⟩; (try first | exact ⟨rfl, _, World.drewN_drewN _ _ _⟩ | exact ⟨rfl, _, Eq.trans (World.drewN_drewN _ _ _) (congrArg (World.drewN _) (Nat.add_assoc _ _ _))⟩)))
                                  repeat (go_quiet (first | (go_at_call 23; (with_reducible refine (interlocutorref3_Ints.calls k4 _ _ (rd_L2 t238 x13_4) _ _ (rd_L2 t241 x13_4) true _ ?side1 ?side2 ?side3 ?side4 A61.out).mono ?_); (case side1 => repeat (first | exact (by repeat (first | (with_reducible exact HR253_0.out) | (with_reducible refine Kd.C_alloc ?_ _) | (with_reducible refine Kd.C_drewN ?_ _) | (with_reducible refine Kd.C_drew ?_) | exact HR253_0.out)) | (with_reducible refine Kd.C_alloc ?_ _) | (with_reducible refine Kd.C_drewN ?_ _) | (with_reducible refine Kd.C_drew ?_))); (case side2 => exact HC253_0.out); (case side3 => repeat (first | exact (by repeat (first | (with_reducible exact HR254_0.out) | (with_reducible refine Kd.C_alloc ?_ _) | (with_reducible refine Kd.C_drewN ?_ _) | (with_reducible refine Kd.C_drew ?_) | exact HR254_0.out)) | (with_reducible refine Kd.C_alloc ?_ _) | (with_reducible refine Kd.C_drewN ?_ _) | (with_reducible refine Kd.C_drew ?_))); (case side4 => exact HC254_0.out); rintro e w' ⟨rfl, ⟨nd, rfl⟩⟩; (try first | exact ⟨rfl, _, World.drewN_drewN _ _ _⟩ | exact ⟨rfl, _, Eq.trans (World.drewN_drewN _ _ _) (congrArg (World.drewN _) (Nat.add_assoc _ _ _))⟩))); try go_wp2_with (first | (go_at_call 23; (with_reducible refine (interlocutorref3_Ints.calls k4 _ _ (rd_L2 t238 x13_4) _ _ (rd_L2 t241 x13_4) true _ ?side1 ?side2 ?side3 ?side4 A61.out).mono ?_); (case side1 => repeat (first | exact (by repeat (first | (with_reducible exact HR253_0.out) | (with_reducible refine Kd.C_alloc ?_ _) | (with_reducible refine Kd.C_drewN ?_ _) | (with_reducible refine Kd.C_drew ?_) | exact HR253_0.out)) | (with_reducible refine Kd.C_alloc ?_ _) | (with_reducible refine Kd.C_drewN ?_ _) | (with_reducible refine Kd.C_drew ?_))); (case side2 => exact HC253_0.out); (case side3 => repeat (first | exact (by repeat (first | (with_reducible exact HR254_0.out) | (with_reducible refine Kd.C_alloc ?_ _) | (with_reducible refine Kd.C_drewN ?_ _) | (with_reducible refine Kd.C_drew ?_) | exact HR254_0.out)) | (with_reducible refine Kd.C_alloc ?_ _) | (with_reducible refine Kd.C_drewN ?_ _) | (with_reducible refine Kd.C_drew ?_))); (case side4 => exact HC254_0.out); rintro e w' ⟨rfl, ⟨nd, rfl⟩⟩; (try first | exact ⟨rfl, _, World.drewN_drewN _ _ _⟩ | exact ⟨rfl, _, Eq.trans (World.drewN_drewN _ _ _) (congrArg (World.drewN _) (Nat.add_assoc _ _ _))⟩))))
                                  go_roundg k4
                                  case measure => have := HK1.out; have := HJ17.out; have := HJ31.out; have := HK4.out; omega
                                  case rel => exact ⟨(wrap64 (x13_4 + 1)), (by first | rfl | (simp; done) | (simp [*]; done)), H', ⟨by have := HK1.out; have := HJ17.out; have := HJ31.out; have := HK4.out; omega⟩, ⟨by (with_reducible repeat (first | apply Kd.N_alloc | apply Kd.N_drewN | apply Kd.N_drew)); exact HO_11.out⟩, ⟨by (with_reducible repeat (first | apply Kd.N_alloc | apply Kd.N_drewN | apply Kd.N_drew)); exact HO_12.out⟩, ⟨by repeat (first | (with_reducible first | exact HB.out | apply below_alloc | apply pw_below_drewN | apply below_drew1) | exact HB.out)⟩⟩
                                · replace c62 := Bool.eq_false_iff.mpr c62
                                  subst c62
                                  have H1 : (some false) = some r := by rw [if_neg (show ¬ (false = true) by decide)] at H; exact H
                                  clear H
                                  have H := H1
                                  clear H1
                                  obtain rfl := Option.some.inj H
                                  obtain ⟨Ao65, co65, eo65⟩ := Kd.N_slice HO_11.out
                                  subst eo65
                                  have p253 : 0 ≤ (x13_4 : Int) := of_decide_eq_true (by first | (with_reducible assumption) | assumption)
                                  have q253 : x13_4 < (t238.length : Int) := of_decide_eq_true (by first | (with_reducible assumption) | assumption)
                                  obtain ⟨ad253, A253_0, c253_0, e253, hx253_0, hl253_0, hi253_0⟩ := at_L2 (Kd.N_reads' HO_11.out).2.2 x13_4 p253 q253
                                  cases e253
                                  obtain ⟨ce253, hce253, hMe253, hcc253⟩ := Kd.N_get HO_11.out [] x13_4 p253 (by first | exact q253 | exact of_decide_eq_true (by first | (with_reducible assumption) | assumption) | (have e_ := (Kd.N_reads' HO_11.out).1; omega))
                                  obtain ⟨ua253_0, uc253_0, rfl, ul253_0, ge253_0⟩ := Kd.FK_slice_open hMe253
                                  have hv253_0 := hcc253 0 _ rfl
                                  rw [Nat.add_zero, show ((Kd.slice 3 (Kd.int .i64))).sz = 1 from rfl, Nat.mul_one] at hv253_0
                                  replace hv253_0 := Option.some.inj (hv253_0.symm.trans hx253_0)
                                  injection hv253_0 with hva_ hvn_ hvc_
                                  rw [hva_] at ge253_0
                                  rw [hvc_] at ul253_0
                                  have HL253_0 := Aside0.mk (show Kd.V (Kd.int .i64) 3 _ w.heap.size _ _ (rd_L2 t238 x13_4) from Kd.V_mk ul253_0 ge253_0)
                                  clear hva_ hvn_ hvc_ ge253_0 ul253_0
                                  clear hcc253 hce253
                                  have HR253_0 := Aside0.mk hi253_0
                                  have HC253_0 := Aside0.mk hl253_0
                                  clear hi253_0 hl253_0
                                  replace p253 := eq_true p253
                                  replace q253 := eq_true q253
                                  obtain ⟨Ao66, co66, eo66⟩ := Kd.N_slice HO_12.out
                                  subst eo66
                                  have p254 : 0 ≤ (x13_4 : Int) := of_decide_eq_true (by first | (with_reducible assumption) | assumption)
                                  have q254 : x13_4 < (t241.length : Int) := of_decide_eq_true (by first | (with_reducible assumption) | assumption)
                                  obtain ⟨ad254, A254_0, c254_0, e254, hx254_0, hl254_0, hi254_0⟩ := at_L2 (Kd.N_reads' HO_12.out).2.2 x13_4 p254 q254
                                  cases e254
                                  obtain ⟨ce254, hce254, hMe254, hcc254⟩ := Kd.N_get HO_12.out [] x13_4 p254 (by first | exact q254 | exact of_decide_eq_true (by first | (with_reducible assumption) | assumption) | (have e_ := (Kd.N_reads' HO_12.out).1; omega))
                                  obtain ⟨ua254_0, uc254_0, rfl, ul254_0, ge254_0⟩ := Kd.FK_slice_open hMe254
                                  have hv254_0 := hcc254 0 _ rfl
                                  rw [Nat.add_zero, show ((Kd.slice 3 (Kd.int .i64))).sz = 1 from rfl, Nat.mul_one] at hv254_0
                                  replace hv254_0 := Option.some.inj (hv254_0.symm.trans hx254_0)
                                  injection hv254_0 with hva_ hvn_ hvc_
                                  rw [hva_] at ge254_0
                                  rw [hvc_] at ul254_0
                                  have HL254_0 := Aside0.mk (show Kd.V (Kd.int .i64) 3 _ w.heap.size _ _ (rd_L2 t241 x13_4) from Kd.V_mk ul254_0 ge254_0)
                                  clear hva_ hvn_ hvc_ ge254_0 ul254_0
                                  clear hcc254 hce254
                                  have HR254_0 := Aside0.mk hi254_0
                                  have HC254_0 := Aside0.mk hl254_0
                                  clear hi254_0 hl254_0
                                  replace p254 := eq_true p254
                                  replace q254 := eq_true q254
                                  go_wp2_with (first | (go_at_call 23; (with_reducible refine (interlocutorref3_Ints.calls k4 _ _ (rd_L2 t238 x13_4) _ _ (rd_L2 t241 x13_4) false _ ?side1 ?side2 ?side3 ?side4 A61.out).mono ?_); (case side1 => repeat (first | exact (by repeat (first | (with_reducible exact HR253_0.out) | (with_reducible refine Kd.C_alloc ?_ _) | (with_reducible refine Kd.C_drewN ?_ _) | (with_reducible refine Kd.C_drew ?_) | exact HR253_0.out)) | (with_reducible refine Kd.C_alloc ?_ _) | (with_reducible refine Kd.C_drewN ?_ _) | (with_reducible refine Kd.C_drew ?_))); (case side2 => exact HC253_0.out); (case side3 => repeat (first | exact (by repeat (first | (with_reducible exact HR254_0.out) | (with_reducible refine Kd.C_alloc ?_ _) | (with_reducible refine Kd.C_drewN ?_ _) | (with_reducible refine Kd.C_drew ?_) | exact HR254_0.out)) | (with_reducible refine Kd.C_alloc ?_ _) | (with_reducible refine Kd.C_drewN ?_ _) | (with_reducible refine Kd.C_drew ?_))); (case side4 => exact HC254_0.out); rintro e w' ⟨rfl, ⟨nd, rfl⟩⟩; (try first | exact ⟨rfl, _, World.drewN_drewN _ _ _⟩ | exact ⟨rfl, _, Eq.trans (World.drewN_drewN _ _ _) (congrArg (World.drewN _) (Nat.add_assoc _ _ _))⟩)))
                                  repeat (go_quiet (first | (go_at_call 23; (with_reducible refine (interlocutorref3_Ints.calls k4 _ _ (rd_L2 t238 x13_4) _ _ (rd_L2 t241 x13_4) false _ ?side1 ?side2 ?side3 ?side4 A61.out).mono ?_); (case side1 => repeat (first | exact (by repeat (first | (with_reducible exact HR253_0.out) | (with_reducible refine Kd.C_alloc ?_ _) | (with_reducible refine Kd.C_drewN ?_ _) | (with_reducible refine Kd.C_drew ?_) | exact HR253_0.out)) | (with_reducible refine Kd.C_alloc ?_ _) | (with_reducible refine Kd.C_drewN ?_ _) | (with_reducible refine Kd.C_drew ?_))); (case side2 => exact HC253_0.out); (case side3 => repeat (first | exact (by repeat (first | (with_reducible exact HR254_0.out) | (with_reducible refine Kd.C_alloc ?_ _) | (with_reducible refine Kd.C_drewN ?_ _) | (with_reducible refine Kd.C_drew ?_) | exact HR254_0.out)) | (with_reducible refine Kd.C_alloc ?_ _) | (with_reducible refine Kd.C_drewN ?_ _) | (with_reducible refine Kd.C_drew ?_))); (case side4 => exact HC254_0.out); rintro e w' ⟨rfl, ⟨nd, rfl⟩⟩; (try first | exact ⟨rfl, _, World.drewN_drewN _ _ _⟩ | exact ⟨rfl, _, Eq.trans (World.drewN_drewN _ _ _) (congrArg (World.drewN _) (Nat.add_assoc _ _ _))⟩))); try go_wp2_with (first | (go_at_call 23; (with_reducible refine (interlocutorref3_Ints.calls k4 _ _ (rd_L2 t238 x13_4) _ _ (rd_L2 t241 x13_4) false _ ?side1 ?side2 ?side3 ?side4 A61.out).mono ?_); (case side1 => repeat (first | exact (by repeat (first | (with_reducible exact HR253_0.out) | (with_reducible refine Kd.C_alloc ?_ _) | (with_reducible refine Kd.C_drewN ?_ _) | (with_reducible refine Kd.C_drew ?_) | exact HR253_0.out)) | (with_reducible refine Kd.C_alloc ?_ _) | (with_reducible refine Kd.C_drewN ?_ _) | (with_reducible refine Kd.C_drew ?_))); (case side2 => exact HC253_0.out); (case side3 => repeat (first | exact (by repeat (first | (with_reducible exact HR254_0.out) | (with_reducible refine Kd.C_alloc ?_ _) | (with_reducible refine Kd.C_drewN ?_ _) | (with_reducible refine Kd.C_drew ?_) | exact HR254_0.out)) | (with_reducible refine Kd.C_alloc ?_ _) | (with_reducible refine Kd.C_drewN ?_ _) | (with_reducible refine Kd.C_drew ?_))); (case side4 => exact HC254_0.out); rintro e w' ⟨rfl, ⟨nd, rfl⟩⟩; (try first | exact ⟨rfl, _, World.drewN_drewN _ _ _⟩ | exact ⟨rfl, _, Eq.trans (World.drewN_drewN _ _ _) (congrArg (World.drewN _) (Nat.add_assoc _ _ _))⟩))))
                                  go_ret
                                  exact ⟨by first | rfl | (simp [errW_none, errW_some] <;> rfl) | (simp [*, errW_none, errW_some] <;> rfl), by repeat (first | (with_reducible first | exact HB.out | apply below_alloc | apply pw_below_drewN | apply below_drew1) | exact HB.out)⟩
                              · rw [if_neg c60] at H
                                exact absurd H (by simp)
                            · rw [if_neg c59] at H
                              exact absurd H (by simp)
                          · rw [if_neg c58] at H
                            have c58b0 : decide (x13_4 < (t238.length : Int)) = false := decide_eq_false c58
                            clear c58
                            obtain rfl := Option.some.inj H
                            obtain ⟨Ao67, co67, eo67⟩ := Kd.N_slice HO_11.out
                            subst eo67
                            go_wp2
                            repeat (go_quiet (fail); try go_wp2)
                            go_ret
                            exact ⟨by first | rfl | (simp [errW_none, errW_some] <;> rfl) | (simp [*, errW_none, errW_some] <;> rfl), by repeat (first | (with_reducible first | exact HB.out | apply below_alloc | apply pw_below_drewN | apply below_drew1) | exact HB.out)⟩
    · replace c7 := Bool.eq_false_iff.mpr c7
      subst c7
      have H1 : (some true) = some r := by rw [if_neg (show ¬ (false = true) by decide)] at H; exact H
      clear H
      have H := H1
      clear H1
      obtain rfl := Option.some.inj H
      go_enter Try.func4, Try.ntmps4
      go_wp2_with (first | (go_at_call 13; (with_reducible refine (interlocutorlaw4_known.calls  true _ A4.out).mono ?_); rintro e w68 ⟨rfl, hb⟩; have n0_ := Aside0.mk (below_step (by repeat (first | (with_reducible first | exact HB.out | apply below_alloc | apply pw_below_drewN | apply below_drew1) | exact HB.out)) hb); clear HB; have HB := n0_; clear n0_; (try clear hb); (try clear hb2); (try clear hk); (try clear hi)) | (go_at_call 14; (with_reducible refine (interlocutorlaw4_Few.calls k _ _ l0 false _ ?side1 ?side2 A6.out).mono ?_); (case side1 => repeat (first | exact (Kd.C_below HR0.out HB.out) | (with_reducible refine Kd.C_alloc ?_ _) | (with_reducible refine Kd.C_drewN ?_ _) | (with_reducible refine Kd.C_drew ?_))); (case side2 => exact HC0.out); rintro e w' ⟨rfl, ⟨nd, rfl⟩⟩; (try first | exact ⟨rfl, _, World.drewN_drewN _ _ _⟩ | exact ⟨rfl, _, Eq.trans (World.drewN_drewN _ _ _) (congrArg (World.drewN _) (Nat.add_assoc _ _ _))⟩)))
      repeat (go_quiet (first | (go_at_call 13; (with_reducible refine (interlocutorlaw4_known.calls  true _ A4.out).mono ?_); rintro e w68 ⟨rfl, hb⟩; have n0_ := Aside0.mk (below_step (by repeat (first | (with_reducible first | exact HB.out | apply below_alloc | apply pw_below_drewN | apply below_drew1) | exact HB.out)) hb); clear HB; have HB := n0_; clear n0_; (try clear hb); (try clear hb2); (try clear hk); (try clear hi)) | (go_at_call 14; (with_reducible refine (interlocutorlaw4_Few.calls k _ _ l0 false _ ?side1 ?side2 A6.out).mono ?_); (case side1 => repeat (first | exact (Kd.C_below HR0.out HB.out) | (with_reducible refine Kd.C_alloc ?_ _) | (with_reducible refine Kd.C_drewN ?_ _) | (with_reducible refine Kd.C_drew ?_))); (case side2 => exact HC0.out); rintro e w' ⟨rfl, ⟨nd, rfl⟩⟩; (try first | exact ⟨rfl, _, World.drewN_drewN _ _ _⟩ | exact ⟨rfl, _, Eq.trans (World.drewN_drewN _ _ _) (congrArg (World.drewN _) (Nat.add_assoc _ _ _))⟩))); try go_wp2_with (first | (go_at_call 13; (with_reducible refine (interlocutorlaw4_known.calls  true _ A4.out).mono ?_); rintro e w68 ⟨rfl, hb⟩; have n0_ := Aside0.mk (below_step (by repeat (first | (with_reducible first | exact HB.out | apply below_alloc | apply pw_below_drewN | apply below_drew1) | exact HB.out)) hb); clear HB; have HB := n0_; clear n0_; (try clear hb); (try clear hb2); (try clear hk); (try clear hi)) | (go_at_call 14; (with_reducible refine (interlocutorlaw4_Few.calls k _ _ l0 false _ ?side1 ?side2 A6.out).mono ?_); (case side1 => repeat (first | exact (Kd.C_below HR0.out HB.out) | (with_reducible refine Kd.C_alloc ?_ _) | (with_reducible refine Kd.C_drewN ?_ _) | (with_reducible refine Kd.C_drew ?_))); (case side2 => exact HC0.out); rintro e w' ⟨rfl, ⟨nd, rfl⟩⟩; (try first | exact ⟨rfl, _, World.drewN_drewN _ _ _⟩ | exact ⟨rfl, _, Eq.trans (World.drewN_drewN _ _ _) (congrArg (World.drewN _) (Nat.add_assoc _ _ _))⟩))))
      go_ret
      exact ⟨by first | rfl | (simp [errW_none, errW_some] <;> rfl) | (simp [*, errW_none, errW_some] <;> rfl), by repeat (first | (with_reducible first | exact HB.out | apply below_alloc | apply pw_below_drewN | apply below_drew1) | exact HB.out)⟩
  · replace c5 := Bool.eq_false_iff.mpr c5
    subst c5
    have H1 : (some false) = some r := by rw [if_neg (show ¬ (false = true) by decide)] at H; exact H
    clear H
    have H := H1
    clear H1
    obtain rfl := Option.some.inj H
    go_enter Try.func4, Try.ntmps4
    go_wp2_with (first | (go_at_call 13; (with_reducible refine (interlocutorlaw4_known.calls  false _ A4.out).mono ?_); rintro e w69 ⟨rfl, hb⟩; have n0_ := Aside0.mk (below_step (by repeat (first | (with_reducible first | exact HB.out | apply below_alloc | apply pw_below_drewN | apply below_drew1) | exact HB.out)) hb); clear HB; have HB := n0_; clear n0_; (try clear hb); (try clear hb2); (try clear hk); (try clear hi)))
    repeat (go_quiet (first | (go_at_call 13; (with_reducible refine (interlocutorlaw4_known.calls  false _ A4.out).mono ?_); rintro e w69 ⟨rfl, hb⟩; have n0_ := Aside0.mk (below_step (by repeat (first | (with_reducible first | exact HB.out | apply below_alloc | apply pw_below_drewN | apply below_drew1) | exact HB.out)) hb); clear HB; have HB := n0_; clear n0_; (try clear hb); (try clear hb2); (try clear hk); (try clear hi))); try go_wp2_with (first | (go_at_call 13; (with_reducible refine (interlocutorlaw4_known.calls  false _ A4.out).mono ?_); rintro e w69 ⟨rfl, hb⟩; have n0_ := Aside0.mk (below_step (by repeat (first | (with_reducible first | exact HB.out | apply below_alloc | apply pw_below_drewN | apply below_drew1) | exact HB.out)) hb); clear HB; have HB := n0_; clear n0_; (try clear hb); (try clear hb2); (try clear hk); (try clear hi))))
    go_ret
    exact ⟨by first | rfl | (simp [errW_none, errW_some] <;> rfl) | (simp [*, errW_none, errW_some] <;> rfl), by repeat (first | (with_reducible first | exact HB.out | apply below_alloc | apply pw_below_drewN | apply below_drew1) | exact HB.out)⟩
end Go.Proofs.Ytjomlfdkmdgclaa.P
end
section
namespace Go.Proofs.Ytjomlfdkmdgclaa.P
open Go.RowKit Go.Proofs.YtjomlfdkmdgclaaW.PrintWords Go.Proofs.YtjomlfdkmdgclaaW.PrintLast Go.Proofs.YtjomlfdkmdgclaaW.PrintMore
attribute [local go_sem] max2_int min2_int max_two min_two max_three min_three max_four min_four   
set_option linter.unusedVariables false
set_option linter.unusedSimpArgs false
theorem within_rem (a n : Int) (hn : 0 < n) (hn2 : n ≤ 4611686018427387904) : interlocutorlaw4_within.f a n = some (a % n) := by
  unfold interlocutorlaw4_within.f
  have h1 := Int.emod_nonneg a (by omega : n ≠ 0)
  have h2 := Int.emod_lt_of_pos a hn
  have h4 : (n.natAbs : Int) = n := by omega
  rw [if_neg (by omega)]
  have h3 := @Int.tmod_eq_emod a n
  by_cases hd : 0 ≤ a ∨ n ∣ a
  · rw [if_pos hd] at h3
    rw [if_neg (by omega), h3]
    congr 1
    omega
  · rw [if_neg hd, h4] at h3
    rw [if_pos (by omega), h3]
    congr 1
    unfold wrap64
    omega
theorem rem_ge (a n : Int) (hn : 0 < n) : 0 ≤ a % n := Int.emod_nonneg a (by omega)
theorem rem_lt (a n : Int) (hn : 0 < n) : a % n < n := Int.emod_lt_of_pos a hn
theorem as_fin {x n : Int} (m : Nat) (hm : n = m) (h0 : 0 ≤ x) (h1 : x < n) : ∃ i : Fin m, x = ((i.val : Nat) : Int) := ⟨⟨x.toNat, by omega⟩, by simp; omega⟩
end Go.Proofs.Ytjomlfdkmdgclaa.P
end
section
namespace Go.Proofs.Ytjomlfdkmdgclaa.P
open Go.RowKit Go.Proofs.YtjomlfdkmdgclaaW.PrintWords Go.Proofs.YtjomlfdkmdgclaaW.PrintLast Go.Proofs.YtjomlfdkmdgclaaW.PrintMore
attribute [local go_sem] max2_int min2_int max_two min_two max_three min_three max_four min_four   
set_option linter.unusedVariables false
set_option linter.unusedSimpArgs false
def Opens (P : Program) (t : TypeId) {α : Type} (d : Kd α) (ok : α → Prop) : Prop :=
  P.cellsOf t = d.sz ∧ ∀ (H : Type) (enc : TypeId × Value → H) (W : World) (base : Nat) (spare : Nat → Bool) (held : Bool) (fuel : Nat) (cs : List Value) (x : DataW H × List MemPlace), DataW.trod enc P W base spare held fuel t cs = some x → ∃ v : α, d.K W v cs ∧ ok v
theorem opens_int {P : Program} {t : TypeId} {k : IntKind} (ht : P.underlying t = some (.int k)) (hc : P.cellsOf t = 1) : Opens P t (Kd.int k) (fun n => (Lit.int k n).wf = true) := by
  refine ⟨hc, fun H enc W base spare held fuel cs x h => ?_⟩
  obtain ⟨n, rfl, _, hw⟩ := DataW.trod_int ht h
  exact ⟨n, rfl, hw⟩
theorem list_of {α : Type} {p : Nat → α → Prop} : ∀ n : Nat, (∀ i, i < n → ∃ v, p i v) → ∃ xs : List α, xs.length = n ∧ ∀ i v, xs[i]? = some v → p i v
  | 0, _ => ⟨[], rfl, fun i v h => by simp at h⟩
  | n + 1, h => by
    obtain ⟨xs, hl, hx⟩ := list_of n (fun i hi => h i (by omega))
    obtain ⟨v, hv⟩ := h n (by omega)
    refine ⟨xs ++ [v], by rw [List.length_append, hl]; rfl, fun i u hu => ?_⟩
    by_cases hi : i < xs.length
    · rw [List.getElem?_append_left hi] at hu
      exact hx i u hu
    · rw [List.getElem?_append_right (by omega)] at hu
      have h0 : i - xs.length = 0 := by
        have := (List.getElem?_eq_some_iff.1 hu).1
        simp at this
        omega
      rw [h0] at hu
      obtain rfl := Option.some.inj hu
      have : i = n := by omega
      rw [this]
      exact hv
theorem opens_slice {P : Program} {t e : TypeId} {α : Type} {d : Kd α} {ok : α → Prop} (ht : P.underlying t = some (.slice e)) (hc : P.cellsOf t = 1) (h : Opens P e d ok) : Opens P t (Kd.slice e d) (fun xs => ∀ x ∈ xs, ok x) := by
  refine ⟨hc, fun H enc W base spare held fuel cs x hx => ?_⟩
  rcases Go.Deep.open_slice ht hx with ⟨rfl, _⟩ | ⟨a, len, cap, m, n, D, Pl, rfl, _, hl, hm, hmm, _, hel⟩
  · exact ⟨[], ⟨none, 0, rfl, Nat.le_refl _, rfl, by simp, fun h => absurd h (Nat.lt_irrefl _)⟩, by simp⟩
  · have hle : len ≤ m := by rw [hmm]; split <;> omega
    obtain ⟨xs, hxl, hxs⟩ := list_of (p := fun i v => ∃ cs', W.cells? base (a.add (i * d.sz)) d.sz = some cs' ∧ d.K W v cs' ∧ ok v) len (fun i hi => by
      obtain ⟨cs', h1, h2⟩ := hel i (by omega)
      obtain ⟨v, h3, h4⟩ := h.2 H enc W base spare held n cs' _ h2
      rw [h.1] at h1
      exact ⟨v, cs', h1, h3, h4⟩)
    have hmax : maxLen ≤ 9223372036854775807 := by decide
    refine ⟨xs, ⟨some a, cap, by rw [hxl], by omega, rfl, by omega, fun _ => ⟨a, rfl, fun j p hj => ?_⟩⟩, fun y hy => ?_⟩
    · obtain ⟨cs', h1, h2, _⟩ := hxs j p hj
      obtain ⟨_, h3, h4⟩ := World.cells?_some h1
      refine ⟨cs', h3, h2, fun i u hu => ?_⟩
      have h5 := h4 i (by rw [← h3]; exact (List.getElem?_eq_some_iff.1 hu).1)
      rw [hu, add_add] at h5
      exact h5
    · obtain ⟨j, hj, rfl⟩ := List.mem_iff_getElem.1 hy
      obtain ⟨_, _, _, h4⟩ := hxs j _ (List.getElem?_eq_getElem hj)
      exact h4
abbrev wfI (n : Int) : Prop := (Lit.int .i64 n).wf = true
theorem opInt : Opens Try.prog 3 (Kd.int .i64) wfI := opens_int Try.underlying3 (by kernel_rfl)
theorem opInts : Opens Try.prog 22 (Kd.slice 3 (Kd.int .i64)) (fun l => ∀ n ∈ l, wfI n) := opens_slice Try.underlying22 (by kernel_rfl) opInt
theorem opens_fields {P : Program} {t : TypeId} {fs : Array Field} (ht : P.underlying t = some (.struct fs)) {H : Type} {enc : TypeId × Value → H} {W : World} {base : Nat} {spare : Nat → Bool} {held : Bool} {fuel : Nat} {cs : List Value} {x : DataW H × List MemPlace} (h : DataW.trod enc P W base spare held fuel t cs = some x) :
    cs.length = P.cellsOf t ∧ ∀ (i : Nat) (f : Field), fs[i]? = some f → ∀ {α : Type} {d : Kd α} {ok : α → Prop}, Opens P f.type d ok → ∃ v, d.K W v ((cs.drop f.offset).take d.sz) ∧ ok v := by
  obtain ⟨xs, n, _, _, hl, hlen, hf⟩ := DataW.trod_struct ht h
  refine ⟨hl, fun i f hi α d ok ho => ?_⟩
  have h1 := hf i f hi
  have hil : i < xs.length := by
    have := (Array.getElem?_eq_some_iff.1 hi).1
    omega
  rw [List.getElem?_eq_getElem hil, ho.1] at h1
  exact ho.2 H enc W base spare held n _ _ h1
def okRaw (x : S31) : Prop := wfI x.f0 ∧ wfI x.f1 ∧ wfI x.f2 ∧ (∀ n ∈ x.f3, wfI n) ∧ ∀ n ∈ x.f4, wfI n
theorem opRaw : Opens Try.prog 31 k31 okRaw := by
  refine ⟨by kernel_rfl, fun H enc W base spare held fuel cs x h => ?_⟩
  obtain ⟨hl, hf⟩ := opens_fields Try.underlying31 h
  have hl2 : cs.length = 5 := hl.trans (by kernel_rfl)
  obtain ⟨v0, k0, w0⟩ := hf 0 _ rfl opInt
  obtain ⟨v1, k1, w1⟩ := hf 1 _ rfl opInt
  obtain ⟨v2, k2, w2⟩ := hf 2 _ rfl opInt
  obtain ⟨v3, ⟨A3, c3, k3, l3, g3⟩, w3⟩ := hf 3 _ rfl opInts
  obtain ⟨v4, ⟨A4, c4, k4, l4, g4⟩, w4⟩ := hf 4 _ rfl opInts
  match cs, hl2 with
  | [b0, b1, b2, b3, b4], _ =>
    have e0 : [b0] = [.int .i64 v0] := k0
    have e1 : [b1] = [.int .i64 v1] := k1
    have e2 : [b2] = [.int .i64 v2] := k2
    have e3 : [b3] = [.slice A3 v3.length c3] := k3
    have e4 : [b4] = [.slice A4 v4.length c4] := k4
    rw [(List.cons.inj e0).1, (List.cons.inj e1).1, (List.cons.inj e2).1, (List.cons.inj e3).1, (List.cons.inj e4).1]
    exact ⟨⟨v0, v1, v2, v3, v4⟩, k31_mk W ⟨v0, v1, v2, v3, v4⟩ l3 g3 l4 g4, w0, w1, w2, w3, w4⟩
theorem opRaws : Opens Try.prog 27 (Kd.slice 31 k31) (fun l => ∀ x ∈ l, okRaw x) := opens_slice Try.underlying27 (by kernel_rfl) opRaw
end Go.Proofs.Ytjomlfdkmdgclaa.P
end
section
namespace Go.Proofs.Ytjomlfdkmdgclaa.P
open Go.RowKit Go.Proofs.YtjomlfdkmdgclaaW.PrintWords Go.Proofs.YtjomlfdkmdgclaaW.PrintLast Go.Proofs.YtjomlfdkmdgclaaW.PrintMore
attribute [local go_sem] max2_int min2_int max_two min_two max_three min_three max_four min_four   
set_option linter.unusedVariables false
set_option linter.unusedSimpArgs false
end Go.Proofs.Ytjomlfdkmdgclaa.P
end
