/- ChartTwice: a rule that is there twice counts twice; costs, actions do not count. Part 5: contracts of the functions that the law reaches, and words for them. -/
import Derived.BigRegion
import Derived.Test.YtjfbfhoipgldgaaMCT4
section
namespace Go.Proofs.Ytjfbfhoipgldgaa.P
open Go.RowKit Go.Proofs.YtjfbfhoipgldgaaW.PrintWords Go.Proofs.YtjfbfhoipgldgaaW.PrintLast Go.Proofs.YtjfbfhoipgldgaaW.PrintMore
attribute [local go_sem] max2_int min2_int max_two min_two max_three min_three max_four min_four   
set_option linter.unusedVariables false
set_option linter.unusedSimpArgs false
mutual
noncomputable def r4_Right.j0 : Nat → Bool → Int → List Int → Int → List Int → Int → Option (Bool)
 | 0, _, _, _, _, _, _ => none
 | k + 1, x36, x181000, x181001, x181002, x181003, x181004 => if x36 = true then (some false) else (r4_Right.l0 k 0 x181000 x181001 x181002 x181003 x181004)
noncomputable def r4_Right.l0 : Nat → Int → Int → List Int → Int → List Int → Int → Option (Bool)
 | 0, _, _, _, _, _, _ => none
 | k + 1, x3, x181000, x181001, x181002, x181003, x181004 => if x3 < (x181001.length : Int) then (if 0 ≤ x3 then (if (rd x181001 x3) ≥ 20 then (some false) else (if (rd x181001 x3) < (-61) then (some false) else (r4_Right.l0 k (wrap64 (x3 + 1)) x181000 x181001 x181002 x181003 x181004))) else (none)) else ((r4_wants.f k x181002).bind fun bt183 => (if (x181003.length : Int) < bt183.1 then (r4_Right.j2 k true x181000 x181001 x181002 x181003 x181004) else (r4_Right.j2 k (decide ((x181003.length : Int) > bt183.2)) x181000 x181001 x181002 x181003 x181004)))
noncomputable def r4_Right.j2 : Nat → Bool → Int → List Int → Int → List Int → Int → Option (Bool)
 | 0, _, _, _, _, _, _ => none
 | k + 1, x78, x181000, x181001, x181002, x181003, x181004 => if x78 = true then (some false) else (r4_Right.l1 k 0 x181000 x181001 x181002 x181003 x181004)
noncomputable def r4_Right.l1 : Nat → Int → Int → List Int → Int → List Int → Int → Option (Bool)
 | 0, _, _, _, _, _, _ => none
 | k + 1, x6, x181000, x181001, x181002, x181003, x181004 => if x6 < (x181003.length : Int) then (if 0 ≤ x6 then (if (rd x181003 x6) < 0 then (some false) else (if (rd x181003 x6) ≥ (x181001.length : Int) then (some false) else (r4_Right.l1 k (wrap64 (x6 + 1)) x181000 x181001 x181002 x181003 x181004))) else (none)) else (some true)
end
noncomputable def r4_Right.f (k : Nat) (a0_0 : Int) (l0_1 : List Int) (a0_2 : Int) (l0_3 : List Int) (a0_4 : Int) : Option (Bool) := if a0_0 < 0 then (r4_Right.j0 k true a0_0 l0_1 a0_2 l0_3 a0_4) else (if a0_0 ≥ 20 then (r4_Right.j0 k true a0_0 l0_1 a0_2 l0_3 a0_4) else (if (l0_1.length : Int) < 1 then (r4_Right.j0 k true a0_0 l0_1 a0_2 l0_3 a0_4) else (if (l0_1.length : Int) > 6 then (r4_Right.j0 k true a0_0 l0_1 a0_2 l0_3 a0_4) else (if a0_4 < 0 then (r4_Right.j0 k true a0_0 l0_1 a0_2 l0_3 a0_4) else (r4_Right.j0 k (decide (a0_4 > 100)) a0_0 l0_1 a0_2 l0_3 a0_4)))))
theorem r4_Right.mono_l : ∀ k, (∀ y0 y1 y2 y3 y4 y5, LeO (r4_Right.j0 k y0 y1 y2 y3 y4 y5) (r4_Right.j0 (k + 1) y0 y1 y2 y3 y4 y5)) ∧ (∀ y0 y1 y2 y3 y4 y5, LeO (r4_Right.l0 k y0 y1 y2 y3 y4 y5) (r4_Right.l0 (k + 1) y0 y1 y2 y3 y4 y5)) ∧ (∀ y0 y1 y2 y3 y4 y5, LeO (r4_Right.j2 k y0 y1 y2 y3 y4 y5) (r4_Right.j2 (k + 1) y0 y1 y2 y3 y4 y5)) ∧ (∀ y0 y1 y2 y3 y4 y5, LeO (r4_Right.l1 k y0 y1 y2 y3 y4 y5) (r4_Right.l1 (k + 1) y0 y1 y2 y3 y4 y5))
 | 0 => ⟨fun _ _ _ _ _ _ r h => by simp [r4_Right.j0] at h, fun _ _ _ _ _ _ r h => by simp [r4_Right.l0] at h, fun _ _ _ _ _ _ r h => by simp [r4_Right.j2] at h, fun _ _ _ _ _ _ r h => by simp [r4_Right.l1] at h⟩
 | k + 1 => by
  obtain ⟨ih0, ih1, ih2, ih3⟩ := r4_Right.mono_l k
  refine ⟨?_, ?_, ?_, ?_⟩
  ·intro y0 y1 y2 y3 y4 y5
   unfold r4_Right.j0
   repeat' first
   | (with_reducible exact ih0 _ _ _ _ _ _)
   | (with_reducible exact ih1 _ _ _ _ _ _)
   | (with_reducible exact ih2 _ _ _ _ _ _)
   | (with_reducible exact ih3 _ _ _ _ _ _)
   | (with_reducible exact r4_wants.mono _ _)
   | (with_reducible exact LeO.refl _)
   | (with_reducible exact LeO.none _)
   | (with_reducible refine LeO.ite ?_ ?_)
   | (with_reducible refine LeO.bind ?_ (fun _ => ?_))
   | exact ih0 _ _ _ _ _ _
   | exact ih1 _ _ _ _ _ _
   | exact ih2 _ _ _ _ _ _
   | exact ih3 _ _ _ _ _ _
   | exact r4_wants.mono _ _
   | exact LeO.none _
   | refine LeO.ite ?_ ?_
   | refine LeO.bind ?_ (fun _ => ?_)
  ·intro y0 y1 y2 y3 y4 y5
   unfold r4_Right.l0
   repeat' first
   | (with_reducible exact ih0 _ _ _ _ _ _)
   | (with_reducible exact ih1 _ _ _ _ _ _)
   | (with_reducible exact ih2 _ _ _ _ _ _)
   | (with_reducible exact ih3 _ _ _ _ _ _)
   | (with_reducible exact r4_wants.mono _ _)
   | (with_reducible exact LeO.refl _)
   | (with_reducible exact LeO.none _)
   | (with_reducible refine LeO.ite ?_ ?_)
   | (with_reducible refine LeO.bind ?_ (fun _ => ?_))
   | exact ih0 _ _ _ _ _ _
   | exact ih1 _ _ _ _ _ _
   | exact ih2 _ _ _ _ _ _
   | exact ih3 _ _ _ _ _ _
   | exact r4_wants.mono _ _
   | exact LeO.none _
   | refine LeO.ite ?_ ?_
   | refine LeO.bind ?_ (fun _ => ?_)
  ·intro y0 y1 y2 y3 y4 y5
   unfold r4_Right.j2
   repeat' first
   | (with_reducible exact ih0 _ _ _ _ _ _)
   | (with_reducible exact ih1 _ _ _ _ _ _)
   | (with_reducible exact ih2 _ _ _ _ _ _)
   | (with_reducible exact ih3 _ _ _ _ _ _)
   | (with_reducible exact r4_wants.mono _ _)
   | (with_reducible exact LeO.refl _)
   | (with_reducible exact LeO.none _)
   | (with_reducible refine LeO.ite ?_ ?_)
   | (with_reducible refine LeO.bind ?_ (fun _ => ?_))
   | exact ih0 _ _ _ _ _ _
   | exact ih1 _ _ _ _ _ _
   | exact ih2 _ _ _ _ _ _
   | exact ih3 _ _ _ _ _ _
   | exact r4_wants.mono _ _
   | exact LeO.none _
   | refine LeO.ite ?_ ?_
   | refine LeO.bind ?_ (fun _ => ?_)
  ·intro y0 y1 y2 y3 y4 y5
   unfold r4_Right.l1
   repeat' first
   | (with_reducible exact ih0 _ _ _ _ _ _)
   | (with_reducible exact ih1 _ _ _ _ _ _)
   | (with_reducible exact ih2 _ _ _ _ _ _)
   | (with_reducible exact ih3 _ _ _ _ _ _)
   | (with_reducible exact r4_wants.mono _ _)
   | (with_reducible exact LeO.refl _)
   | (with_reducible exact LeO.none _)
   | (with_reducible refine LeO.ite ?_ ?_)
   | (with_reducible refine LeO.bind ?_ (fun _ => ?_))
   | exact ih0 _ _ _ _ _ _
   | exact ih1 _ _ _ _ _ _
   | exact ih2 _ _ _ _ _ _
   | exact ih3 _ _ _ _ _ _
   | exact r4_wants.mono _ _
   | exact LeO.none _
   | refine LeO.ite ?_ ?_
   | refine LeO.bind ?_ (fun _ => ?_)
theorem r4_Right.mono : ∀ a0 a1 a2 a3 a4 k, LeO (r4_Right.f k a0 a1 a2 a3 a4) (r4_Right.f (k + 1) a0 a1 a2 a3 a4) := by
 intro a0 a1 a2 a3 a4 k
 obtain ⟨ih0, ih1, ih2, ih3⟩ := r4_Right.mono_l k
 unfold r4_Right.f
 repeat' first
   | (with_reducible exact ih0 _ _ _ _ _ _)
   | (with_reducible exact ih1 _ _ _ _ _ _)
   | (with_reducible exact ih2 _ _ _ _ _ _)
   | (with_reducible exact ih3 _ _ _ _ _ _)
   | (with_reducible exact r4_wants.mono _ _)
   | (with_reducible exact LeO.refl _)
   | (with_reducible exact LeO.none _)
   | (with_reducible refine LeO.ite ?_ ?_)
   | (with_reducible refine LeO.bind ?_ (fun _ => ?_))
   | exact ih0 _ _ _ _ _ _
   | exact ih1 _ _ _ _ _ _
   | exact ih2 _ _ _ _ _ _
   | exact ih3 _ _ _ _ _ _
   | exact r4_wants.mono _ _
   | exact LeO.none _
   | refine LeO.ite ?_ ?_
   | refine LeO.bind ?_ (fun _ => ?_)
set_option maxHeartbeats 8000000 in
set_option maxRecDepth 100000 in
theorem r4_Right.calls (k : Nat) (a0_0 : Int) (A0_1 : Option Addr) (c0_1 : Nat) (l0_1 : List Int) (a0_2 : Int) (A0_3 : Option Addr) (c0_3 : Nat) (l0_3 : List Int) (a0_4 : Int) (r : Bool) (w : World) (hr0_1 : Kd.C (Kd.int .i64) w A0_1 l0_1.length l0_1) (hc0_1 : l0_1.length ≤ c0_1) (hr0_3 : Kd.C (Kd.int .i64) w A0_3 l0_3.length l0_3) (hc0_3 : l0_3.length ≤ c0_3) (h : r4_Right.f k a0_0 l0_1 a0_2 l0_3 a0_4 = some r) :
  Calls Try.prog 23 #[.agg #[.int .i64 a0_0, .slice A0_1 l0_1.length c0_1, .int .i64 a0_2, .slice A0_3 l0_3.length c0_3, .int .i64 a0_4]] w fun e w' => e = .returned (.bool r) ∧ Below w.heap.size w w' := by
 have hu41 := Try.underlying41
 have HR0_1 := Aside0.mk hr0_1
 have HC0_1 := Aside0.mk hc0_1
 clear hr0_1 hc0_1
 have HR0_3 := Aside0.mk hr0_3
 have HC0_3 := Aside0.mk hc0_3
 clear hr0_3 hc0_3
 have HB := Aside0.mk (Below.refl w.heap.size w)
 have H : (if a0_0 < 0 then (r4_Right.j0 k true a0_0 l0_1 a0_2 l0_3 a0_4) else (if a0_0 ≥ 20 then (r4_Right.j0 k true a0_0 l0_1 a0_2 l0_3 a0_4) else (if (l0_1.length : Int) < 1 then (r4_Right.j0 k true a0_0 l0_1 a0_2 l0_3 a0_4) else (if (l0_1.length : Int) > 6 then (r4_Right.j0 k true a0_0 l0_1 a0_2 l0_3 a0_4) else (if a0_4 < 0 then (r4_Right.j0 k true a0_0 l0_1 a0_2 l0_3 a0_4) else (r4_Right.j0 k (decide (a0_4 > 100)) a0_0 l0_1 a0_2 l0_3 a0_4)))))) = some r := h
 clear h
 have HC2 := Aside0.mk H
 clear H
 go_enter Try.func23, Try.ntmps23
 go_upto_region 1 with (first | ((with_reducible refine gate_dst (N := 1) rfl ?_); (try (refine gate_guard (by rfl) ?_; dsimp only)); refine box_event ?hg (N := 1) ?hd (cs := #[.int .i64 a0_0, .slice A0_1 l0_1.length c0_1, .int .i64 a0_2, .slice A0_3 l0_3.length c0_3, .int .i64 a0_4]) (t := 41) ?hr ?_; (case hd => rfl); (case hg => rfl); (case hr => first | (go_simp; done) | (go_simp; rfl)); intro gb180 hg w3 hbox hb; have n0_ := Aside0.mk (below_step (by repeat (first | (with_reducible first | exact HB.out | apply below_alloc | apply pw_below_drewN | apply below_drew1) | exact HB.out)) hb); have n1_ := Aside0.mk (hbox); have n2_ := Aside0.mk ((by rw [hg]; exact (below_size (by repeat (first | (with_reducible first | exact HB.out | apply below_alloc | apply pw_below_drewN | apply below_drew1) | exact HB.out))) : w.heap.size ≤ gb180)); have n3_ := Aside0.mk ((by rw [hg]; exact (below_size (by repeat (first | (with_reducible first | exact HB.out | apply below_alloc | apply pw_below_drewN | apply below_drew1) | exact HB.out))) : w.heap.size ≤ gb180)); clear HB; have HB := n0_; have BK180 := n1_; have GW180 := n2_; have GE180 := n3_; clear n0_ n1_ n2_ n3_; clear hb hbox hg))
 repeat (go_quiet (first | ((with_reducible refine gate_dst (N := 1) rfl ?_); (try (refine gate_guard (by rfl) ?_; dsimp only)); refine box_event ?hg (N := 1) ?hd (cs := #[.int .i64 a0_0, .slice A0_1 l0_1.length c0_1, .int .i64 a0_2, .slice A0_3 l0_3.length c0_3, .int .i64 a0_4]) (t := 41) ?hr ?_; (case hd => rfl); (case hg => rfl); (case hr => first | (go_simp; done) | (go_simp; rfl)); intro gb180 hg w3 hbox hb; have n0_ := Aside0.mk (below_step (by repeat (first | (with_reducible first | exact HB.out | apply below_alloc | apply pw_below_drewN | apply below_drew1) | exact HB.out)) hb); have n1_ := Aside0.mk (hbox); have n2_ := Aside0.mk ((by rw [hg]; exact (below_size (by repeat (first | (with_reducible first | exact HB.out | apply below_alloc | apply pw_below_drewN | apply below_drew1) | exact HB.out))) : w.heap.size ≤ gb180)); have n3_ := Aside0.mk ((by rw [hg]; exact (below_size (by repeat (first | (with_reducible first | exact HB.out | apply below_alloc | apply pw_below_drewN | apply below_drew1) | exact HB.out))) : w.heap.size ≤ gb180)); clear HB; have HB := n0_; have BK180 := n1_; have GW180 := n2_; have GE180 := n3_; clear n0_ n1_ n2_ n3_; clear hb hbox hg)); go_upto_region 1 with (first | ((with_reducible refine gate_dst (N := 1) rfl ?_); (try (refine gate_guard (by rfl) ?_; dsimp only)); refine box_event ?hg (N := 1) ?hd (cs := #[.int .i64 a0_0, .slice A0_1 l0_1.length c0_1, .int .i64 a0_2, .slice A0_3 l0_3.length c0_3, .int .i64 a0_4]) (t := 41) ?hr ?_; (case hd => rfl); (case hg => rfl); (case hr => first | (go_simp; done) | (go_simp; rfl)); intro gb180 hg w3 hbox hb; have n0_ := Aside0.mk (below_step (by repeat (first | (with_reducible first | exact HB.out | apply below_alloc | apply pw_below_drewN | apply below_drew1) | exact HB.out)) hb); have n1_ := Aside0.mk (hbox); have n2_ := Aside0.mk ((by rw [hg]; exact (below_size (by repeat (first | (with_reducible first | exact HB.out | apply below_alloc | apply pw_below_drewN | apply below_drew1) | exact HB.out))) : w.heap.size ≤ gb180)); have n3_ := Aside0.mk ((by rw [hg]; exact (below_size (by repeat (first | (with_reducible first | exact HB.out | apply below_alloc | apply pw_below_drewN | apply below_drew1) | exact HB.out))) : w.heap.size ≤ gb180)); clear HB; have HB := n0_; have BK180 := n1_; have GW180 := n2_; have GE180 := n3_; clear n0_ n1_ n2_ n3_; clear hb hbox hg)))
 (try simp only [Act.put, List.setIfInBounds_toArray, List.set_cons_zero, List.set_cons_succ])
 go_cut [36] (fun v36 wc => ∃ (kq : Nat) (x36_1 : Bool), v36 = .bool x36_1 ∧ Aside0 (r4_Right.j0 kq x36_1 a0_0 l0_1 a0_2 l0_3 a0_4 = some r) ∧ Aside0 (kq ≤ k) ∧ Aside0 (wc.heap[gb180]? = some (.cells #[.int .i64 a0_0, (.slice A0_1 l0_1.length c0_1), .int .i64 a0_2, (.slice A0_3 l0_3.length c0_3), .int .i64 a0_4] 41 (0, 0))) ∧ Aside0 (Below w.heap.size w wc))
 case first =>
  have H := HC2.out
  clear HC2
  by_cases c4 : a0_0 < 0
  ·rw [if_pos c4] at H
   have c4b0 : decide (a0_0 < 0) = true := decide_eq_true c4
   clear c4
   (first | rw [c4b0] | (simp only [i64_w, i32_w]; rw [c4b0]) | skip)
   have H' := Aside0.mk H
   clear H
   have hcz5_0 : w3.cell? ⟨gb180, 0, none⟩ = some (.int .i64 a0_0) := (blk_cell BK180.out 0).trans rfl
   have hcz5_1 : w3.cell? ⟨gb180, 1, none⟩ = some (.slice A0_1 l0_1.length c0_1) := (blk_cell BK180.out 1).trans rfl
   have hcz5_2 : w3.cell? ⟨gb180, 2, none⟩ = some (.int .i64 a0_2) := (blk_cell BK180.out 2).trans rfl
   have hcz5_3 : w3.cell? ⟨gb180, 3, none⟩ = some (.slice A0_3 l0_3.length c0_3) := (blk_cell BK180.out 3).trans rfl
   have hcz5_4 : w3.cell? ⟨gb180, 4, none⟩ = some (.int .i64 a0_4) := (blk_cell BK180.out 4).trans rfl
   have hfz5_0 := blk_frozen BK180.out 0
   have hfz5_1 := blk_frozen BK180.out 1
   have hfz5_2 := blk_frozen BK180.out 2
   have hfz5_3 := blk_frozen BK180.out 3
   have hfz5_4 := blk_frozen BK180.out 4
   go_wp2
   repeat (go_quiet (fail); try go_wp2)
   go_meet
   case rel => exact ⟨_, (true), (by first | rfl | (simp; done) | (simp [*]; done)), H', ⟨by first | omega | exact Nat.le_refl _⟩, ⟨by (with_reducible repeat (first | refine blk_drewN ?_ _ | refine blk_drew ?_ | refine blk_alloc ?_ _)); exact BK180.out⟩, ⟨by repeat (first | (with_reducible first | exact HB.out | apply below_alloc | apply pw_below_drewN | apply below_drew1 | refine below_set ?_ GE180.out) | exact HB.out)⟩⟩
  ·rw [if_neg c4] at H
   have c4b0 : decide (a0_0 < 0) = false := decide_eq_false c4
   clear c4
   (first | rw [c4b0] | (simp only [i64_w, i32_w]; rw [c4b0]) | skip)
   by_cases c6 : a0_0 ≥ 20
   ·rw [if_pos c6] at H
    have c6b0 : decide (20 ≤ a0_0) = true := decide_eq_true c6
    clear c6
    have H' := Aside0.mk H
    clear H
    have hcz7_0 : w3.cell? ⟨gb180, 0, none⟩ = some (.int .i64 a0_0) := (blk_cell BK180.out 0).trans rfl
    have hcz7_1 : w3.cell? ⟨gb180, 1, none⟩ = some (.slice A0_1 l0_1.length c0_1) := (blk_cell BK180.out 1).trans rfl
    have hcz7_2 : w3.cell? ⟨gb180, 2, none⟩ = some (.int .i64 a0_2) := (blk_cell BK180.out 2).trans rfl
    have hcz7_3 : w3.cell? ⟨gb180, 3, none⟩ = some (.slice A0_3 l0_3.length c0_3) := (blk_cell BK180.out 3).trans rfl
    have hcz7_4 : w3.cell? ⟨gb180, 4, none⟩ = some (.int .i64 a0_4) := (blk_cell BK180.out 4).trans rfl
    have hfz7_0 := blk_frozen BK180.out 0
    have hfz7_1 := blk_frozen BK180.out 1
    have hfz7_2 := blk_frozen BK180.out 2
    have hfz7_3 := blk_frozen BK180.out 3
    have hfz7_4 := blk_frozen BK180.out 4
    go_wp2
    repeat (go_quiet (fail); try go_wp2)
    go_meet
    case rel => exact ⟨_, (true), (by first | rfl | (simp; done) | (simp [*]; done)), H', ⟨by first | omega | exact Nat.le_refl _⟩, ⟨by (with_reducible repeat (first | refine blk_drewN ?_ _ | refine blk_drew ?_ | refine blk_alloc ?_ _)); exact BK180.out⟩, ⟨by repeat (first | (with_reducible first | exact HB.out | apply below_alloc | apply pw_below_drewN | apply below_drew1 | refine below_set ?_ GE180.out) | exact HB.out)⟩⟩
   ·rw [if_neg c6] at H
    have c6b0 : decide (20 ≤ a0_0) = false := decide_eq_false c6
    clear c6
    by_cases c8 : (l0_1.length : Int) < 1
    ·rw [if_pos c8] at H
     have c8b0 : decide ((l0_1.length : Int) < 1) = true := decide_eq_true c8
     have c8b1 : decide (l0_1.length < 1) = true := decide_eq_true (by omega)
     clear c8
     have H' := Aside0.mk H
     clear H
     have hcz9_0 : w3.cell? ⟨gb180, 0, none⟩ = some (.int .i64 a0_0) := (blk_cell BK180.out 0).trans rfl
     have hcz9_1 : w3.cell? ⟨gb180, 1, none⟩ = some (.slice A0_1 l0_1.length c0_1) := (blk_cell BK180.out 1).trans rfl
     have hcz9_2 : w3.cell? ⟨gb180, 2, none⟩ = some (.int .i64 a0_2) := (blk_cell BK180.out 2).trans rfl
     have hcz9_3 : w3.cell? ⟨gb180, 3, none⟩ = some (.slice A0_3 l0_3.length c0_3) := (blk_cell BK180.out 3).trans rfl
     have hcz9_4 : w3.cell? ⟨gb180, 4, none⟩ = some (.int .i64 a0_4) := (blk_cell BK180.out 4).trans rfl
     have hfz9_0 := blk_frozen BK180.out 0
     have hfz9_1 := blk_frozen BK180.out 1
     have hfz9_2 := blk_frozen BK180.out 2
     have hfz9_3 := blk_frozen BK180.out 3
     have hfz9_4 := blk_frozen BK180.out 4
     go_wp2
     repeat (go_quiet (fail); try go_wp2)
     go_meet
     case rel => exact ⟨_, (true), (by first | rfl | (simp; done) | (simp [*]; done)), H', ⟨by first | omega | exact Nat.le_refl _⟩, ⟨by (with_reducible repeat (first | refine blk_drewN ?_ _ | refine blk_drew ?_ | refine blk_alloc ?_ _)); exact BK180.out⟩, ⟨by repeat (first | (with_reducible first | exact HB.out | apply below_alloc | apply pw_below_drewN | apply below_drew1 | refine below_set ?_ GE180.out) | exact HB.out)⟩⟩
    ·rw [if_neg c8] at H
     have c8b0 : decide ((l0_1.length : Int) < 1) = false := decide_eq_false c8
     have c8b1 : decide (l0_1.length < 1) = false := decide_eq_false (by omega)
     clear c8
     by_cases c10 : (l0_1.length : Int) > 6
     ·rw [if_pos c10] at H
      have c10b0 : decide (6 < (l0_1.length : Int)) = true := decide_eq_true c10
      have c10b1 : decide (6 < l0_1.length) = true := decide_eq_true (by omega)
      clear c10
      have H' := Aside0.mk H
      clear H
      have hcz11_0 : w3.cell? ⟨gb180, 0, none⟩ = some (.int .i64 a0_0) := (blk_cell BK180.out 0).trans rfl
      have hcz11_1 : w3.cell? ⟨gb180, 1, none⟩ = some (.slice A0_1 l0_1.length c0_1) := (blk_cell BK180.out 1).trans rfl
      have hcz11_2 : w3.cell? ⟨gb180, 2, none⟩ = some (.int .i64 a0_2) := (blk_cell BK180.out 2).trans rfl
      have hcz11_3 : w3.cell? ⟨gb180, 3, none⟩ = some (.slice A0_3 l0_3.length c0_3) := (blk_cell BK180.out 3).trans rfl
      have hcz11_4 : w3.cell? ⟨gb180, 4, none⟩ = some (.int .i64 a0_4) := (blk_cell BK180.out 4).trans rfl
      have hfz11_0 := blk_frozen BK180.out 0
      have hfz11_1 := blk_frozen BK180.out 1
      have hfz11_2 := blk_frozen BK180.out 2
      have hfz11_3 := blk_frozen BK180.out 3
      have hfz11_4 := blk_frozen BK180.out 4
      go_wp2
      repeat (go_quiet (fail); try go_wp2)
      go_meet
      case rel => exact ⟨_, (true), (by first | rfl | (simp; done) | (simp [*]; done)), H', ⟨by first | omega | exact Nat.le_refl _⟩, ⟨by (with_reducible repeat (first | refine blk_drewN ?_ _ | refine blk_drew ?_ | refine blk_alloc ?_ _)); exact BK180.out⟩, ⟨by repeat (first | (with_reducible first | exact HB.out | apply below_alloc | apply pw_below_drewN | apply below_drew1 | refine below_set ?_ GE180.out) | exact HB.out)⟩⟩
     ·rw [if_neg c10] at H
      have c10b0 : decide (6 < (l0_1.length : Int)) = false := decide_eq_false c10
      have c10b1 : decide (6 < l0_1.length) = false := decide_eq_false (by omega)
      clear c10
      by_cases c12 : a0_4 < 0
      ·rw [if_pos c12] at H
       have c12b0 : decide (a0_4 < 0) = true := decide_eq_true c12
       clear c12
       have H' := Aside0.mk H
       clear H
       have hcz13_0 : w3.cell? ⟨gb180, 0, none⟩ = some (.int .i64 a0_0) := (blk_cell BK180.out 0).trans rfl
       have hcz13_1 : w3.cell? ⟨gb180, 1, none⟩ = some (.slice A0_1 l0_1.length c0_1) := (blk_cell BK180.out 1).trans rfl
       have hcz13_2 : w3.cell? ⟨gb180, 2, none⟩ = some (.int .i64 a0_2) := (blk_cell BK180.out 2).trans rfl
       have hcz13_3 : w3.cell? ⟨gb180, 3, none⟩ = some (.slice A0_3 l0_3.length c0_3) := (blk_cell BK180.out 3).trans rfl
       have hcz13_4 : w3.cell? ⟨gb180, 4, none⟩ = some (.int .i64 a0_4) := (blk_cell BK180.out 4).trans rfl
       have hfz13_0 := blk_frozen BK180.out 0
       have hfz13_1 := blk_frozen BK180.out 1
       have hfz13_2 := blk_frozen BK180.out 2
       have hfz13_3 := blk_frozen BK180.out 3
       have hfz13_4 := blk_frozen BK180.out 4
       go_wp2
       repeat (go_quiet (fail); try go_wp2)
       go_meet
       case rel => exact ⟨_, (true), (by first | rfl | (simp; done) | (simp [*]; done)), H', ⟨by first | omega | exact Nat.le_refl _⟩, ⟨by (with_reducible repeat (first | refine blk_drewN ?_ _ | refine blk_drew ?_ | refine blk_alloc ?_ _)); exact BK180.out⟩, ⟨by repeat (first | (with_reducible first | exact HB.out | apply below_alloc | apply pw_below_drewN | apply below_drew1 | refine below_set ?_ GE180.out) | exact HB.out)⟩⟩
      ·rw [if_neg c12] at H
       have c12b0 : decide (a0_4 < 0) = false := decide_eq_false c12
       clear c12
       have H' := Aside0.mk H
       clear H
       have hcz14_0 : w3.cell? ⟨gb180, 0, none⟩ = some (.int .i64 a0_0) := (blk_cell BK180.out 0).trans rfl
       have hcz14_1 : w3.cell? ⟨gb180, 1, none⟩ = some (.slice A0_1 l0_1.length c0_1) := (blk_cell BK180.out 1).trans rfl
       have hcz14_2 : w3.cell? ⟨gb180, 2, none⟩ = some (.int .i64 a0_2) := (blk_cell BK180.out 2).trans rfl
       have hcz14_3 : w3.cell? ⟨gb180, 3, none⟩ = some (.slice A0_3 l0_3.length c0_3) := (blk_cell BK180.out 3).trans rfl
       have hcz14_4 : w3.cell? ⟨gb180, 4, none⟩ = some (.int .i64 a0_4) := (blk_cell BK180.out 4).trans rfl
       have hfz14_0 := blk_frozen BK180.out 0
       have hfz14_1 := blk_frozen BK180.out 1
       have hfz14_2 := blk_frozen BK180.out 2
       have hfz14_3 := blk_frozen BK180.out 3
       have hfz14_4 := blk_frozen BK180.out 4
       go_wp2
       repeat (go_quiet (fail); try go_wp2)
       go_meet
       case rel => exact ⟨_, (decide (a0_4 > 100)), (by first | rfl | (simp; done) | (simp [*]; done)), H', ⟨by first | omega | exact Nat.le_refl _⟩, ⟨by (with_reducible repeat (first | refine blk_drewN ?_ _ | refine blk_drew ?_ | refine blk_alloc ?_ _)); exact BK180.out⟩, ⟨by repeat (first | (with_reducible first | exact HB.out | apply below_alloc | apply pw_below_drewN | apply below_drew1 | refine below_set ?_ GE180.out) | exact HB.out)⟩⟩
 case rest =>
  clear HC2
  try clear c1
  try clear c2
  try clear p2
  try clear c4
  try clear c4b0
  try clear c6
  try clear c6b0
  try clear c8
  try clear c8b0
  try clear c8b1
  try clear c10
  try clear c10b0
  try clear c10b1
  try clear c12
  try clear c12b0
  try clear hcz11_0
  try clear hcz11_1
  try clear hcz11_2
  try clear hcz11_3
  try clear hcz11_4
  try clear hcz13_0
  try clear hcz13_1
  try clear hcz13_2
  try clear hcz13_3
  try clear hcz13_4
  try clear hcz14_0
  try clear hcz14_1
  try clear hcz14_2
  try clear hcz14_3
  try clear hcz14_4
  try clear hcz5_0
  try clear hcz5_1
  try clear hcz5_2
  try clear hcz5_3
  try clear hcz5_4
  try clear hcz7_0
  try clear hcz7_1
  try clear hcz7_2
  try clear hcz7_3
  try clear hcz7_4
  try clear hcz9_0
  try clear hcz9_1
  try clear hcz9_2
  try clear hcz9_3
  try clear hcz9_4
  try clear hfz11_0
  try clear hfz11_1
  try clear hfz11_2
  try clear hfz11_3
  try clear hfz11_4
  try clear hfz13_0
  try clear hfz13_1
  try clear hfz13_2
  try clear hfz13_3
  try clear hfz13_4
  try clear hfz14_0
  try clear hfz14_1
  try clear hfz14_2
  try clear hfz14_3
  try clear hfz14_4
  try clear hfz5_0
  try clear hfz5_1
  try clear hfz5_2
  try clear hfz5_3
  try clear hfz5_4
  try clear hfz7_0
  try clear hfz7_1
  try clear hfz7_2
  try clear hfz7_3
  try clear hfz7_4
  try clear hfz9_0
  try clear hfz9_1
  try clear hfz9_2
  try clear hfz9_3
  try clear hfz9_4
  obtain ⟨kq, x36_1, rfl, HA, HJ1, BK180, HB⟩ := hcut
  cases kq with
  | zero => exact absurd HA.out (by simp [r4_Right.j0])
  | succ kj1 =>
   have H := HA.out
   clear HA
   simp only [r4_Right.j0] at H
   by_cases c15 : x36_1 = true
   ·subst c15
    have H1 : (some false) = some r := by rw [if_pos rfl] at H; exact H
    clear H
    have H := H1
    clear H1
    obtain rfl := Option.some.inj H
    go_wp2
    repeat (go_quiet (fail); try go_wp2)
    go_ret
    exact ⟨by first | rfl | (simp [errW_none, errW_some] <;> rfl) | (simp [*, errW_none, errW_some] <;> rfl), by repeat (first | (with_reducible first | exact HB.out | apply below_alloc | apply pw_below_drewN | apply below_drew1 | refine below_set ?_ GE180.out) | exact HB.out)⟩
   ·replace c15 := Bool.eq_false_iff.mpr c15
    subst c15
    have H1 : (r4_Right.l0 kj1 0 a0_0 l0_1 a0_2 l0_3 a0_4) = some r := by rw [if_neg (show ¬ (false = true) by decide)] at H; exact H
    clear H
    have H := H1
    clear H1
    have H' := Aside0.mk H
    clear H
    go_wp2
    repeat (go_quiet (fail); try go_wp2)
    go_loopg [3] kj1 (fun kq v3 w' => ∃ (x3_2 : Int), v3 = .int .i64 x3_2 ∧ Aside0 (r4_Right.l0 kq x3_2 a0_0 l0_1 a0_2 l0_3 a0_4 = some r) ∧ Aside0 (kq ≤ kj1) ∧ Aside0 (w'.heap[gb180]? = some (.cells #[.int .i64 a0_0, (.slice A0_1 l0_1.length c0_1), .int .i64 a0_2, (.slice A0_3 l0_3.length c0_3), .int .i64 a0_4] 41 (0, 0))) ∧ Aside0 (Below w.heap.size w w'))
    case atStart => exact ⟨(0), (by first | rfl | (simp; done) | (simp [*]; done)), H', ⟨Nat.le_refl _⟩, ⟨by (with_reducible repeat (first | refine blk_drewN ?_ _ | refine blk_drew ?_ | refine blk_alloc ?_ _)); exact BK180.out⟩, ⟨by repeat (first | (with_reducible first | exact HB.out | apply below_alloc | apply pw_below_drewN | apply below_drew1 | refine below_set ?_ GE180.out) | exact HB.out)⟩⟩
    case round =>
     clear H'
     try clear c1
     try clear c2
     try clear p2
     try clear c4
     try clear c4b0
     try clear c6
     try clear c6b0
     try clear c8
     try clear c8b0
     try clear c8b1
     try clear c10
     try clear c10b0
     try clear c10b1
     try clear c12
     try clear c12b0
     try clear c15
     try clear hcz11_0
     try clear hcz11_1
     try clear hcz11_2
     try clear hcz11_3
     try clear hcz11_4
     try clear hcz13_0
     try clear hcz13_1
     try clear hcz13_2
     try clear hcz13_3
     try clear hcz13_4
     try clear hcz14_0
     try clear hcz14_1
     try clear hcz14_2
     try clear hcz14_3
     try clear hcz14_4
     try clear hcz5_0
     try clear hcz5_1
     try clear hcz5_2
     try clear hcz5_3
     try clear hcz5_4
     try clear hcz7_0
     try clear hcz7_1
     try clear hcz7_2
     try clear hcz7_3
     try clear hcz7_4
     try clear hcz9_0
     try clear hcz9_1
     try clear hcz9_2
     try clear hcz9_3
     try clear hcz9_4
     try clear hfz11_0
     try clear hfz11_1
     try clear hfz11_2
     try clear hfz11_3
     try clear hfz11_4
     try clear hfz13_0
     try clear hfz13_1
     try clear hfz13_2
     try clear hfz13_3
     try clear hfz13_4
     try clear hfz14_0
     try clear hfz14_1
     try clear hfz14_2
     try clear hfz14_3
     try clear hfz14_4
     try clear hfz5_0
     try clear hfz5_1
     try clear hfz5_2
     try clear hfz5_3
     try clear hfz5_4
     try clear hfz7_0
     try clear hfz7_1
     try clear hfz7_2
     try clear hfz7_3
     try clear hfz7_4
     try clear hfz9_0
     try clear hfz9_1
     try clear hfz9_2
     try clear hfz9_3
     try clear hfz9_4
     try clear p2
     obtain ⟨x3_2, rfl, HA, HK2, BK180, HB⟩ := hrel
     cases gk with
     | zero => exact absurd HA.out (by simp [r4_Right.l0])
     | succ k2 =>
      have H := HA.out
      clear HA
      simp only [r4_Right.l0] at H
      by_cases c16 : x3_2 < (l0_1.length : Int)
      ·rw [if_pos c16] at H
       have c16b0 : decide (x3_2 < (l0_1.length : Int)) = true := decide_eq_true c16
       clear c16
       by_cases c17 : 0 ≤ x3_2
       ·rw [if_pos c17] at H
        have c17b0 : decide (0 ≤ x3_2) = true := decide_eq_true c17
        clear c17
        by_cases c18 : (rd l0_1 x3_2) ≥ 20
        ·rw [if_pos c18] at H
         have c18b0 : decide (20 ≤ (rd l0_1 x3_2)) = true := decide_eq_true c18
         clear c18
         obtain rfl := Option.some.inj H
         have hcz19_0 : wr.cell? ⟨gb180, 0, none⟩ = some (.int .i64 a0_0) := (blk_cell BK180.out 0).trans rfl
         have hcz19_1 : wr.cell? ⟨gb180, 1, none⟩ = some (.slice A0_1 l0_1.length c0_1) := (blk_cell BK180.out 1).trans rfl
         have hcz19_2 : wr.cell? ⟨gb180, 2, none⟩ = some (.int .i64 a0_2) := (blk_cell BK180.out 2).trans rfl
         have hcz19_3 : wr.cell? ⟨gb180, 3, none⟩ = some (.slice A0_3 l0_3.length c0_3) := (blk_cell BK180.out 3).trans rfl
         have hcz19_4 : wr.cell? ⟨gb180, 4, none⟩ = some (.int .i64 a0_4) := (blk_cell BK180.out 4).trans rfl
         have hfz19_0 := blk_frozen BK180.out 0
         have hfz19_1 := blk_frozen BK180.out 1
         have hfz19_2 := blk_frozen BK180.out 2
         have hfz19_3 := blk_frozen BK180.out 3
         have hfz19_4 := blk_frozen BK180.out 4
         have p181 : 0 ≤ (x3_2 : Int) := of_decide_eq_true (by first | (with_reducible assumption) | assumption)
         have q181 : x3_2 < (l0_1.length : Int) := of_decide_eq_true (by first | (with_reducible assumption) | assumption)
         obtain ⟨ad181, e181, hx181_0⟩ := Kd.at_int HR0_1.out x3_2 p181 q181
         cases e181
         replace hx181_0 := (HB.out.cell (World.block_lt_of_cell? w _ hx181_0)).trans hx181_0
         replace p181 := eq_true p181
         replace q181 := eq_true q181
         go_wp2
         repeat (go_quiet (fail); try go_wp2)
         go_ret
         exact ⟨by first | rfl | (simp [errW_none, errW_some] <;> rfl) | (simp [*, errW_none, errW_some] <;> rfl), by repeat (first | (with_reducible first | exact HB.out | apply below_alloc | apply pw_below_drewN | apply below_drew1 | refine below_set ?_ GE180.out) | exact HB.out)⟩
        ·rw [if_neg c18] at H
         have c18b0 : decide (20 ≤ (rd l0_1 x3_2)) = false := decide_eq_false c18
         clear c18
         by_cases c20 : (rd l0_1 x3_2) < (-61)
         ·rw [if_pos c20] at H
          have c20b0 : decide ((rd l0_1 x3_2) < (-61)) = true := decide_eq_true c20
          clear c20
          obtain rfl := Option.some.inj H
          have hcz21_0 : wr.cell? ⟨gb180, 0, none⟩ = some (.int .i64 a0_0) := (blk_cell BK180.out 0).trans rfl
          have hcz21_1 : wr.cell? ⟨gb180, 1, none⟩ = some (.slice A0_1 l0_1.length c0_1) := (blk_cell BK180.out 1).trans rfl
          have hcz21_2 : wr.cell? ⟨gb180, 2, none⟩ = some (.int .i64 a0_2) := (blk_cell BK180.out 2).trans rfl
          have hcz21_3 : wr.cell? ⟨gb180, 3, none⟩ = some (.slice A0_3 l0_3.length c0_3) := (blk_cell BK180.out 3).trans rfl
          have hcz21_4 : wr.cell? ⟨gb180, 4, none⟩ = some (.int .i64 a0_4) := (blk_cell BK180.out 4).trans rfl
          have hfz21_0 := blk_frozen BK180.out 0
          have hfz21_1 := blk_frozen BK180.out 1
          have hfz21_2 := blk_frozen BK180.out 2
          have hfz21_3 := blk_frozen BK180.out 3
          have hfz21_4 := blk_frozen BK180.out 4
          have p181 : 0 ≤ (x3_2 : Int) := of_decide_eq_true (by first | (with_reducible assumption) | assumption)
          have q181 : x3_2 < (l0_1.length : Int) := of_decide_eq_true (by first | (with_reducible assumption) | assumption)
          obtain ⟨ad181, e181, hx181_0⟩ := Kd.at_int HR0_1.out x3_2 p181 q181
          cases e181
          replace hx181_0 := (HB.out.cell (World.block_lt_of_cell? w _ hx181_0)).trans hx181_0
          replace p181 := eq_true p181
          replace q181 := eq_true q181
          have p182 : 0 ≤ (x3_2 : Int) := of_decide_eq_true (by first | (with_reducible assumption) | assumption)
          have q182 : x3_2 < (l0_1.length : Int) := of_decide_eq_true (by first | (with_reducible assumption) | assumption)
          obtain ⟨ad182, e182, hx182_0⟩ := Kd.at_int HR0_1.out x3_2 p182 q182
          obtain rfl : ad181 = ad182 := (by injection e182)
          replace hx182_0 := (HB.out.cell (World.block_lt_of_cell? w _ hx182_0)).trans hx182_0
          replace p182 := eq_true p182
          replace q182 := eq_true q182
          go_wp2
          repeat (go_quiet (fail); try go_wp2)
          go_ret
          exact ⟨by first | rfl | (simp [errW_none, errW_some] <;> rfl) | (simp [*, errW_none, errW_some] <;> rfl), by repeat (first | (with_reducible first | exact HB.out | apply below_alloc | apply pw_below_drewN | apply below_drew1 | refine below_set ?_ GE180.out) | exact HB.out)⟩
         ·rw [if_neg c20] at H
          have c20b0 : decide ((rd l0_1 x3_2) < (-61)) = false := decide_eq_false c20
          clear c20
          have H' := Aside0.mk H
          clear H
          have hcz22_0 : wr.cell? ⟨gb180, 0, none⟩ = some (.int .i64 a0_0) := (blk_cell BK180.out 0).trans rfl
          have hcz22_1 : wr.cell? ⟨gb180, 1, none⟩ = some (.slice A0_1 l0_1.length c0_1) := (blk_cell BK180.out 1).trans rfl
          have hcz22_2 : wr.cell? ⟨gb180, 2, none⟩ = some (.int .i64 a0_2) := (blk_cell BK180.out 2).trans rfl
          have hcz22_3 : wr.cell? ⟨gb180, 3, none⟩ = some (.slice A0_3 l0_3.length c0_3) := (blk_cell BK180.out 3).trans rfl
          have hcz22_4 : wr.cell? ⟨gb180, 4, none⟩ = some (.int .i64 a0_4) := (blk_cell BK180.out 4).trans rfl
          have hfz22_0 := blk_frozen BK180.out 0
          have hfz22_1 := blk_frozen BK180.out 1
          have hfz22_2 := blk_frozen BK180.out 2
          have hfz22_3 := blk_frozen BK180.out 3
          have hfz22_4 := blk_frozen BK180.out 4
          have p181 : 0 ≤ (x3_2 : Int) := of_decide_eq_true (by first | (with_reducible assumption) | assumption)
          have q181 : x3_2 < (l0_1.length : Int) := of_decide_eq_true (by first | (with_reducible assumption) | assumption)
          obtain ⟨ad181, e181, hx181_0⟩ := Kd.at_int HR0_1.out x3_2 p181 q181
          cases e181
          replace hx181_0 := (HB.out.cell (World.block_lt_of_cell? w _ hx181_0)).trans hx181_0
          replace p181 := eq_true p181
          replace q181 := eq_true q181
          have p182 : 0 ≤ (x3_2 : Int) := of_decide_eq_true (by first | (with_reducible assumption) | assumption)
          have q182 : x3_2 < (l0_1.length : Int) := of_decide_eq_true (by first | (with_reducible assumption) | assumption)
          obtain ⟨ad182, e182, hx182_0⟩ := Kd.at_int HR0_1.out x3_2 p182 q182
          obtain rfl : ad181 = ad182 := (by injection e182)
          replace hx182_0 := (HB.out.cell (World.block_lt_of_cell? w _ hx182_0)).trans hx182_0
          replace p182 := eq_true p182
          replace q182 := eq_true q182
          go_wp2
          repeat (go_quiet (fail); try go_wp2)
          go_roundg k2
          case measure => have := HJ1.out; have := HK2.out; omega
          case rel => exact ⟨(wrap64 (x3_2 + 1)), (by first | rfl | (simp; done) | (simp [*]; done)), H', ⟨by have := HJ1.out; have := HK2.out; omega⟩, ⟨by (with_reducible repeat (first | refine blk_drewN ?_ _ | refine blk_drew ?_ | refine blk_alloc ?_ _)); exact BK180.out⟩, ⟨by repeat (first | (with_reducible first | exact HB.out | apply below_alloc | apply pw_below_drewN | apply below_drew1 | refine below_set ?_ GE180.out) | exact HB.out)⟩⟩
       ·rw [if_neg c17] at H
        exact absurd H (by simp)
      ·rw [if_neg c16] at H
       have c16b0 : decide (x3_2 < (l0_1.length : Int)) = false := decide_eq_false c16
       clear c16
       replace H := Option.bind_eq_some_iff.mp H
       obtain ⟨⟨t183, t184⟩, A230, H⟩ := H
       replace H : (if (l0_3.length : Int) < t183 then (r4_Right.j2 k2 true a0_0 l0_1 a0_2 l0_3 a0_4) else (r4_Right.j2 k2 (decide ((l0_3.length : Int) > t184)) a0_0 l0_1 a0_2 l0_3 a0_4)) = some r := H
       have A23 := Aside0.mk A230
       clear A230
       have HC24 := Aside0.mk H
       clear H
       have hcz25_0 : wr.cell? ⟨gb180, 0, none⟩ = some (.int .i64 a0_0) := (blk_cell BK180.out 0).trans rfl
       have hcz25_1 : wr.cell? ⟨gb180, 1, none⟩ = some (.slice A0_1 l0_1.length c0_1) := (blk_cell BK180.out 1).trans rfl
       have hcz25_2 : wr.cell? ⟨gb180, 2, none⟩ = some (.int .i64 a0_2) := (blk_cell BK180.out 2).trans rfl
       have hcz25_3 : wr.cell? ⟨gb180, 3, none⟩ = some (.slice A0_3 l0_3.length c0_3) := (blk_cell BK180.out 3).trans rfl
       have hcz25_4 : wr.cell? ⟨gb180, 4, none⟩ = some (.int .i64 a0_4) := (blk_cell BK180.out 4).trans rfl
       have hfz25_0 := blk_frozen BK180.out 0
       have hfz25_1 := blk_frozen BK180.out 1
       have hfz25_2 := blk_frozen BK180.out 2
       have hfz25_3 := blk_frozen BK180.out 3
       have hfz25_4 := blk_frozen BK180.out 4
       go_upto_region 9 with (first | (go_at_call 35; (with_reducible refine (r4_wants.calls k2 a0_2 t183 t184 _ A23.out).mono ?_); rintro e w' ⟨rfl, ⟨nd, rfl⟩⟩; (try first | exact ⟨rfl, _, World.drewN_drewN _ _ _⟩ | exact ⟨rfl, _, Eq.trans (World.drewN_drewN _ _ _) (congrArg (World.drewN _) (Nat.add_assoc _ _ _))⟩)))
       repeat (go_quiet (first | (go_at_call 35; (with_reducible refine (r4_wants.calls k2 a0_2 t183 t184 _ A23.out).mono ?_); rintro e w' ⟨rfl, ⟨nd, rfl⟩⟩; (try first | exact ⟨rfl, _, World.drewN_drewN _ _ _⟩ | exact ⟨rfl, _, Eq.trans (World.drewN_drewN _ _ _) (congrArg (World.drewN _) (Nat.add_assoc _ _ _))⟩))); go_upto_region 9 with (first | (go_at_call 35; (with_reducible refine (r4_wants.calls k2 a0_2 t183 t184 _ A23.out).mono ?_); rintro e w' ⟨rfl, ⟨nd, rfl⟩⟩; (try first | exact ⟨rfl, _, World.drewN_drewN _ _ _⟩ | exact ⟨rfl, _, Eq.trans (World.drewN_drewN _ _ _) (congrArg (World.drewN _) (Nat.add_assoc _ _ _))⟩))))
       (try simp only [Act.put, List.setIfInBounds_toArray, List.set_cons_zero, List.set_cons_succ])
       go_cut [78] (fun v78 wc => ∃ (kq : Nat) (x78_23 : Bool), v78 = .bool x78_23 ∧ Aside0 (r4_Right.j2 kq x78_23 a0_0 l0_1 a0_2 l0_3 a0_4 = some r) ∧ Aside0 (kq ≤ k2) ∧ Aside0 (wc.heap[gb180]? = some (.cells #[.int .i64 a0_0, (.slice A0_1 l0_1.length c0_1), .int .i64 a0_2, (.slice A0_3 l0_3.length c0_3), .int .i64 a0_4] 41 (0, 0))) ∧ Aside0 (Below w.heap.size w wc))
       case first =>
        have H := HC24.out
        clear HC24
        by_cases c26 : (l0_3.length : Int) < t183
        ·rw [if_pos c26] at H
         have c26b0 : decide ((l0_3.length : Int) < t183) = true := decide_eq_true c26
         clear c26
         (first | rw [c26b0] | (simp only [i64_w, i32_w]; rw [c26b0]) | skip)
         have H' := Aside0.mk H
         clear H
         have hcz27_0 : wr.cell? ⟨gb180, 0, none⟩ = some (.int .i64 a0_0) := (blk_cell BK180.out 0).trans rfl
         have hcz27_1 : wr.cell? ⟨gb180, 1, none⟩ = some (.slice A0_1 l0_1.length c0_1) := (blk_cell BK180.out 1).trans rfl
         have hcz27_2 : wr.cell? ⟨gb180, 2, none⟩ = some (.int .i64 a0_2) := (blk_cell BK180.out 2).trans rfl
         have hcz27_3 : wr.cell? ⟨gb180, 3, none⟩ = some (.slice A0_3 l0_3.length c0_3) := (blk_cell BK180.out 3).trans rfl
         have hcz27_4 : wr.cell? ⟨gb180, 4, none⟩ = some (.int .i64 a0_4) := (blk_cell BK180.out 4).trans rfl
         have hfz27_0 := blk_frozen BK180.out 0
         have hfz27_1 := blk_frozen BK180.out 1
         have hfz27_2 := blk_frozen BK180.out 2
         have hfz27_3 := blk_frozen BK180.out 3
         have hfz27_4 := blk_frozen BK180.out 4
         go_wp2
         repeat (go_quiet (fail); try go_wp2)
         go_meet
         case rel => exact ⟨_, (true), (by first | rfl | (simp; done) | (simp [*]; done)), H', ⟨by have := HJ1.out; have := HK2.out; first | omega | exact Nat.le_refl _⟩, ⟨by (with_reducible repeat (first | refine blk_drewN ?_ _ | refine blk_drew ?_ | refine blk_alloc ?_ _)); exact BK180.out⟩, ⟨by repeat (first | (with_reducible first | exact HB.out | apply below_alloc | apply pw_below_drewN | apply below_drew1 | refine below_set ?_ GE180.out) | exact HB.out)⟩⟩
        ·rw [if_neg c26] at H
         have c26b0 : decide ((l0_3.length : Int) < t183) = false := decide_eq_false c26
         clear c26
         (first | rw [c26b0] | (simp only [i64_w, i32_w]; rw [c26b0]) | skip)
         have H' := Aside0.mk H
         clear H
         have hcz28_0 : wr.cell? ⟨gb180, 0, none⟩ = some (.int .i64 a0_0) := (blk_cell BK180.out 0).trans rfl
         have hcz28_1 : wr.cell? ⟨gb180, 1, none⟩ = some (.slice A0_1 l0_1.length c0_1) := (blk_cell BK180.out 1).trans rfl
         have hcz28_2 : wr.cell? ⟨gb180, 2, none⟩ = some (.int .i64 a0_2) := (blk_cell BK180.out 2).trans rfl
         have hcz28_3 : wr.cell? ⟨gb180, 3, none⟩ = some (.slice A0_3 l0_3.length c0_3) := (blk_cell BK180.out 3).trans rfl
         have hcz28_4 : wr.cell? ⟨gb180, 4, none⟩ = some (.int .i64 a0_4) := (blk_cell BK180.out 4).trans rfl
         have hfz28_0 := blk_frozen BK180.out 0
         have hfz28_1 := blk_frozen BK180.out 1
         have hfz28_2 := blk_frozen BK180.out 2
         have hfz28_3 := blk_frozen BK180.out 3
         have hfz28_4 := blk_frozen BK180.out 4
         go_wp2
         repeat (go_quiet (fail); try go_wp2)
         go_meet
         case rel => exact ⟨_, (decide ((l0_3.length : Int) > t184)), (by first | rfl | (simp; done) | (simp [*]; done)), H', ⟨by have := HJ1.out; have := HK2.out; first | omega | exact Nat.le_refl _⟩, ⟨by (with_reducible repeat (first | refine blk_drewN ?_ _ | refine blk_drew ?_ | refine blk_alloc ?_ _)); exact BK180.out⟩, ⟨by repeat (first | (with_reducible first | exact HB.out | apply below_alloc | apply pw_below_drewN | apply below_drew1 | refine below_set ?_ GE180.out) | exact HB.out)⟩⟩
       case rest =>
        clear HC24
        try clear c1
        try clear p1
        try clear q1
        try clear hx1
        try clear c2
        try clear p2
        try clear c4
        try clear c4b0
        try clear c6
        try clear c6b0
        try clear p6
        try clear c8
        try clear c8b0
        try clear c8b1
        try clear c10
        try clear c10b0
        try clear c10b1
        try clear c12
        try clear c12b0
        try clear c15
        try clear c16
        try clear c16b0
        try clear c17
        try clear c17b0
        try clear c18
        try clear c18b0
        try clear p18
        try clear q18
        try clear hx18
        try clear c20
        try clear c20b0
        try clear c23
        try clear c26
        try clear c26b0
        try clear hcz11_0
        try clear hcz11_1
        try clear hcz11_2
        try clear hcz11_3
        try clear hcz11_4
        try clear hcz13_0
        try clear hcz13_1
        try clear hcz13_2
        try clear hcz13_3
        try clear hcz13_4
        try clear hcz14_0
        try clear hcz14_1
        try clear hcz14_2
        try clear hcz14_3
        try clear hcz14_4
        try clear hcz19_0
        try clear hcz19_1
        try clear hcz19_2
        try clear hcz19_3
        try clear hcz19_4
        try clear hcz21_0
        try clear hcz21_1
        try clear hcz21_2
        try clear hcz21_3
        try clear hcz21_4
        try clear hcz22_0
        try clear hcz22_1
        try clear hcz22_2
        try clear hcz22_3
        try clear hcz22_4
        try clear hcz25_0
        try clear hcz25_1
        try clear hcz25_2
        try clear hcz25_3
        try clear hcz25_4
        try clear hcz27_0
        try clear hcz27_1
        try clear hcz27_2
        try clear hcz27_3
        try clear hcz27_4
        try clear hcz28_0
        try clear hcz28_1
        try clear hcz28_2
        try clear hcz28_3
        try clear hcz28_4
        try clear hcz5_0
        try clear hcz5_1
        try clear hcz5_2
        try clear hcz5_3
        try clear hcz5_4
        try clear hcz7_0
        try clear hcz7_1
        try clear hcz7_2
        try clear hcz7_3
        try clear hcz7_4
        try clear hcz9_0
        try clear hcz9_1
        try clear hcz9_2
        try clear hcz9_3
        try clear hcz9_4
        try clear hfz11_0
        try clear hfz11_1
        try clear hfz11_2
        try clear hfz11_3
        try clear hfz11_4
        try clear hfz13_0
        try clear hfz13_1
        try clear hfz13_2
        try clear hfz13_3
        try clear hfz13_4
        try clear hfz14_0
        try clear hfz14_1
        try clear hfz14_2
        try clear hfz14_3
        try clear hfz14_4
        try clear hfz19_0
        try clear hfz19_1
        try clear hfz19_2
        try clear hfz19_3
        try clear hfz19_4
        try clear hfz21_0
        try clear hfz21_1
        try clear hfz21_2
        try clear hfz21_3
        try clear hfz21_4
        try clear hfz22_0
        try clear hfz22_1
        try clear hfz22_2
        try clear hfz22_3
        try clear hfz22_4
        try clear hfz25_0
        try clear hfz25_1
        try clear hfz25_2
        try clear hfz25_3
        try clear hfz25_4
        try clear hfz27_0
        try clear hfz27_1
        try clear hfz27_2
        try clear hfz27_3
        try clear hfz27_4
        try clear hfz28_0
        try clear hfz28_1
        try clear hfz28_2
        try clear hfz28_3
        try clear hfz28_4
        try clear hfz5_0
        try clear hfz5_1
        try clear hfz5_2
        try clear hfz5_3
        try clear hfz5_4
        try clear hfz7_0
        try clear hfz7_1
        try clear hfz7_2
        try clear hfz7_3
        try clear hfz7_4
        try clear hfz9_0
        try clear hfz9_1
        try clear hfz9_2
        try clear hfz9_3
        try clear hfz9_4
        try clear hx181_0
        try clear hx182_0
        try clear p181
        try clear p182
        try clear p2
        try clear q181
        try clear q182
        obtain ⟨kq, x78_23, rfl, HA, HJ23, BK180, HB⟩ := hcut
        cases kq with
        | zero => exact absurd HA.out (by simp [r4_Right.j2])
        | succ kj23 =>
         have H := HA.out
         clear HA
         simp only [r4_Right.j2] at H
         by_cases c29 : x78_23 = true
         ·subst c29
          have H1 : (some false) = some r := by rw [if_pos rfl] at H; exact H
          clear H
          have H := H1
          clear H1
          obtain rfl := Option.some.inj H
          go_wp2
          repeat (go_quiet (fail); try go_wp2)
          go_ret
          exact ⟨by first | rfl | (simp [errW_none, errW_some] <;> rfl) | (simp [*, errW_none, errW_some] <;> rfl), by repeat (first | (with_reducible first | exact HB.out | apply below_alloc | apply pw_below_drewN | apply below_drew1 | refine below_set ?_ GE180.out) | exact HB.out)⟩
         ·replace c29 := Bool.eq_false_iff.mpr c29
          subst c29
          have H1 : (r4_Right.l1 kj23 0 a0_0 l0_1 a0_2 l0_3 a0_4) = some r := by rw [if_neg (show ¬ (false = true) by decide)] at H; exact H
          clear H
          have H := H1
          clear H1
          have H' := Aside0.mk H
          clear H
          go_wp2
          repeat (go_quiet (fail); try go_wp2)
          go_loopg [6] kj23 (fun kq v6 w' => ∃ (x6_4 : Int), v6 = .int .i64 x6_4 ∧ Aside0 (r4_Right.l1 kq x6_4 a0_0 l0_1 a0_2 l0_3 a0_4 = some r) ∧ Aside0 (kq ≤ kj23) ∧ Aside0 (w'.heap[gb180]? = some (.cells #[.int .i64 a0_0, (.slice A0_1 l0_1.length c0_1), .int .i64 a0_2, (.slice A0_3 l0_3.length c0_3), .int .i64 a0_4] 41 (0, 0))) ∧ Aside0 (Below w.heap.size w w'))
          case atStart => exact ⟨(0), (by first | rfl | (simp; done) | (simp [*]; done)), H', ⟨Nat.le_refl _⟩, ⟨by (with_reducible repeat (first | refine blk_drewN ?_ _ | refine blk_drew ?_ | refine blk_alloc ?_ _)); exact BK180.out⟩, ⟨by repeat (first | (with_reducible first | exact HB.out | apply below_alloc | apply pw_below_drewN | apply below_drew1 | refine below_set ?_ GE180.out) | exact HB.out)⟩⟩
          case round =>
           clear H'
           try clear c1
           try clear p1
           try clear q1
           try clear hx1
           try clear c2
           try clear p2
           try clear c4
           try clear c4b0
           try clear c6
           try clear c6b0
           try clear p6
           try clear c8
           try clear c8b0
           try clear c8b1
           try clear c10
           try clear c10b0
           try clear c10b1
           try clear c12
           try clear c12b0
           try clear c15
           try clear c16
           try clear c16b0
           try clear c17
           try clear c17b0
           try clear c18
           try clear c18b0
           try clear p18
           try clear q18
           try clear hx18
           try clear c20
           try clear c20b0
           try clear c23
           try clear c26
           try clear c26b0
           try clear c29
           try clear hcz11_0
           try clear hcz11_1
           try clear hcz11_2
           try clear hcz11_3
           try clear hcz11_4
           try clear hcz13_0
           try clear hcz13_1
           try clear hcz13_2
           try clear hcz13_3
           try clear hcz13_4
           try clear hcz14_0
           try clear hcz14_1
           try clear hcz14_2
           try clear hcz14_3
           try clear hcz14_4
           try clear hcz19_0
           try clear hcz19_1
           try clear hcz19_2
           try clear hcz19_3
           try clear hcz19_4
           try clear hcz21_0
           try clear hcz21_1
           try clear hcz21_2
           try clear hcz21_3
           try clear hcz21_4
           try clear hcz22_0
           try clear hcz22_1
           try clear hcz22_2
           try clear hcz22_3
           try clear hcz22_4
           try clear hcz25_0
           try clear hcz25_1
           try clear hcz25_2
           try clear hcz25_3
           try clear hcz25_4
           try clear hcz27_0
           try clear hcz27_1
           try clear hcz27_2
           try clear hcz27_3
           try clear hcz27_4
           try clear hcz28_0
           try clear hcz28_1
           try clear hcz28_2
           try clear hcz28_3
           try clear hcz28_4
           try clear hcz5_0
           try clear hcz5_1
           try clear hcz5_2
           try clear hcz5_3
           try clear hcz5_4
           try clear hcz7_0
           try clear hcz7_1
           try clear hcz7_2
           try clear hcz7_3
           try clear hcz7_4
           try clear hcz9_0
           try clear hcz9_1
           try clear hcz9_2
           try clear hcz9_3
           try clear hcz9_4
           try clear hfz11_0
           try clear hfz11_1
           try clear hfz11_2
           try clear hfz11_3
           try clear hfz11_4
           try clear hfz13_0
           try clear hfz13_1
           try clear hfz13_2
           try clear hfz13_3
           try clear hfz13_4
           try clear hfz14_0
           try clear hfz14_1
           try clear hfz14_2
           try clear hfz14_3
           try clear hfz14_4
           try clear hfz19_0
           try clear hfz19_1
           try clear hfz19_2
           try clear hfz19_3
           try clear hfz19_4
           try clear hfz21_0
           try clear hfz21_1
           try clear hfz21_2
           try clear hfz21_3
           try clear hfz21_4
           try clear hfz22_0
           try clear hfz22_1
           try clear hfz22_2
           try clear hfz22_3
           try clear hfz22_4
           try clear hfz25_0
           try clear hfz25_1
           try clear hfz25_2
           try clear hfz25_3
           try clear hfz25_4
           try clear hfz27_0
           try clear hfz27_1
           try clear hfz27_2
           try clear hfz27_3
           try clear hfz27_4
           try clear hfz28_0
           try clear hfz28_1
           try clear hfz28_2
           try clear hfz28_3
           try clear hfz28_4
           try clear hfz5_0
           try clear hfz5_1
           try clear hfz5_2
           try clear hfz5_3
           try clear hfz5_4
           try clear hfz7_0
           try clear hfz7_1
           try clear hfz7_2
           try clear hfz7_3
           try clear hfz7_4
           try clear hfz9_0
           try clear hfz9_1
           try clear hfz9_2
           try clear hfz9_3
           try clear hfz9_4
           try clear hx181_0
           try clear hx182_0
           try clear p1
           try clear p18
           try clear p181
           try clear p182
           try clear p2
           try clear p6
           try clear q1
           try clear q18
           try clear q181
           try clear q182
           obtain ⟨x6_4, rfl, HA, HK4, BK180, HB⟩ := hrel
           cases gk with
           | zero => exact absurd HA.out (by simp [r4_Right.l1])
           | succ k4 =>
            have H := HA.out
            clear HA
            simp only [r4_Right.l1] at H
            by_cases c30 : x6_4 < (l0_3.length : Int)
            ·rw [if_pos c30] at H
             have c30b0 : decide (x6_4 < (l0_3.length : Int)) = true := decide_eq_true c30
             clear c30
             by_cases c31 : 0 ≤ x6_4
             ·rw [if_pos c31] at H
              have c31b0 : decide (0 ≤ x6_4) = true := decide_eq_true c31
              clear c31
              by_cases c32 : (rd l0_3 x6_4) < 0
              ·rw [if_pos c32] at H
               have c32b0 : decide ((rd l0_3 x6_4) < 0) = true := decide_eq_true c32
               clear c32
               obtain rfl := Option.some.inj H
               have hcz33_0 : wr.cell? ⟨gb180, 0, none⟩ = some (.int .i64 a0_0) := (blk_cell BK180.out 0).trans rfl
               have hcz33_1 : wr.cell? ⟨gb180, 1, none⟩ = some (.slice A0_1 l0_1.length c0_1) := (blk_cell BK180.out 1).trans rfl
               have hcz33_2 : wr.cell? ⟨gb180, 2, none⟩ = some (.int .i64 a0_2) := (blk_cell BK180.out 2).trans rfl
               have hcz33_3 : wr.cell? ⟨gb180, 3, none⟩ = some (.slice A0_3 l0_3.length c0_3) := (blk_cell BK180.out 3).trans rfl
               have hcz33_4 : wr.cell? ⟨gb180, 4, none⟩ = some (.int .i64 a0_4) := (blk_cell BK180.out 4).trans rfl
               have hfz33_0 := blk_frozen BK180.out 0
               have hfz33_1 := blk_frozen BK180.out 1
               have hfz33_2 := blk_frozen BK180.out 2
               have hfz33_3 := blk_frozen BK180.out 3
               have hfz33_4 := blk_frozen BK180.out 4
               have p185 : 0 ≤ (x6_4 : Int) := of_decide_eq_true (by first | (with_reducible assumption) | assumption)
               have q185 : x6_4 < (l0_3.length : Int) := of_decide_eq_true (by first | (with_reducible assumption) | assumption)
               obtain ⟨ad185, e185, hx185_0⟩ := Kd.at_int HR0_3.out x6_4 p185 q185
               cases e185
               replace hx185_0 := (HB.out.cell (World.block_lt_of_cell? w _ hx185_0)).trans hx185_0
               replace p185 := eq_true p185
               replace q185 := eq_true q185
               go_wp2
               repeat (go_quiet (fail); try go_wp2)
               go_ret
               exact ⟨by first | rfl | (simp [errW_none, errW_some] <;> rfl) | (simp [*, errW_none, errW_some] <;> rfl), by repeat (first | (with_reducible first | exact HB.out | apply below_alloc | apply pw_below_drewN | apply below_drew1 | refine below_set ?_ GE180.out) | exact HB.out)⟩
              ·rw [if_neg c32] at H
               have c32b0 : decide ((rd l0_3 x6_4) < 0) = false := decide_eq_false c32
               clear c32
               by_cases c34 : (rd l0_3 x6_4) ≥ (l0_1.length : Int)
               ·rw [if_pos c34] at H
                have c34b0 : decide ((l0_1.length : Int) ≤ (rd l0_3 x6_4)) = true := decide_eq_true c34
                clear c34
                obtain rfl := Option.some.inj H
                have hcz35_0 : wr.cell? ⟨gb180, 0, none⟩ = some (.int .i64 a0_0) := (blk_cell BK180.out 0).trans rfl
                have hcz35_1 : wr.cell? ⟨gb180, 1, none⟩ = some (.slice A0_1 l0_1.length c0_1) := (blk_cell BK180.out 1).trans rfl
                have hcz35_2 : wr.cell? ⟨gb180, 2, none⟩ = some (.int .i64 a0_2) := (blk_cell BK180.out 2).trans rfl
                have hcz35_3 : wr.cell? ⟨gb180, 3, none⟩ = some (.slice A0_3 l0_3.length c0_3) := (blk_cell BK180.out 3).trans rfl
                have hcz35_4 : wr.cell? ⟨gb180, 4, none⟩ = some (.int .i64 a0_4) := (blk_cell BK180.out 4).trans rfl
                have hfz35_0 := blk_frozen BK180.out 0
                have hfz35_1 := blk_frozen BK180.out 1
                have hfz35_2 := blk_frozen BK180.out 2
                have hfz35_3 := blk_frozen BK180.out 3
                have hfz35_4 := blk_frozen BK180.out 4
                have p185 : 0 ≤ (x6_4 : Int) := of_decide_eq_true (by first | (with_reducible assumption) | assumption)
                have q185 : x6_4 < (l0_3.length : Int) := of_decide_eq_true (by first | (with_reducible assumption) | assumption)
                obtain ⟨ad185, e185, hx185_0⟩ := Kd.at_int HR0_3.out x6_4 p185 q185
                cases e185
                replace hx185_0 := (HB.out.cell (World.block_lt_of_cell? w _ hx185_0)).trans hx185_0
                replace p185 := eq_true p185
                replace q185 := eq_true q185
                have p186 : 0 ≤ (x6_4 : Int) := of_decide_eq_true (by first | (with_reducible assumption) | assumption)
                have q186 : x6_4 < (l0_3.length : Int) := of_decide_eq_true (by first | (with_reducible assumption) | assumption)
                obtain ⟨ad186, e186, hx186_0⟩ := Kd.at_int HR0_3.out x6_4 p186 q186
                obtain rfl : ad185 = ad186 := (by injection e186)
                replace hx186_0 := (HB.out.cell (World.block_lt_of_cell? w _ hx186_0)).trans hx186_0
                replace p186 := eq_true p186
                replace q186 := eq_true q186
                go_wp2
                repeat (go_quiet (fail); try go_wp2)
                go_ret
                exact ⟨by first | rfl | (simp [errW_none, errW_some] <;> rfl) | (simp [*, errW_none, errW_some] <;> rfl), by repeat (first | (with_reducible first | exact HB.out | apply below_alloc | apply pw_below_drewN | apply below_drew1 | refine below_set ?_ GE180.out) | exact HB.out)⟩
               ·rw [if_neg c34] at H
                have c34b0 : decide ((l0_1.length : Int) ≤ (rd l0_3 x6_4)) = false := decide_eq_false c34
                clear c34
                have H' := Aside0.mk H
                clear H
                have hcz36_0 : wr.cell? ⟨gb180, 0, none⟩ = some (.int .i64 a0_0) := (blk_cell BK180.out 0).trans rfl
                have hcz36_1 : wr.cell? ⟨gb180, 1, none⟩ = some (.slice A0_1 l0_1.length c0_1) := (blk_cell BK180.out 1).trans rfl
                have hcz36_2 : wr.cell? ⟨gb180, 2, none⟩ = some (.int .i64 a0_2) := (blk_cell BK180.out 2).trans rfl
                have hcz36_3 : wr.cell? ⟨gb180, 3, none⟩ = some (.slice A0_3 l0_3.length c0_3) := (blk_cell BK180.out 3).trans rfl
                have hcz36_4 : wr.cell? ⟨gb180, 4, none⟩ = some (.int .i64 a0_4) := (blk_cell BK180.out 4).trans rfl
                have hfz36_0 := blk_frozen BK180.out 0
                have hfz36_1 := blk_frozen BK180.out 1
                have hfz36_2 := blk_frozen BK180.out 2
                have hfz36_3 := blk_frozen BK180.out 3
                have hfz36_4 := blk_frozen BK180.out 4
                have p185 : 0 ≤ (x6_4 : Int) := of_decide_eq_true (by first | (with_reducible assumption) | assumption)
                have q185 : x6_4 < (l0_3.length : Int) := of_decide_eq_true (by first | (with_reducible assumption) | assumption)
                obtain ⟨ad185, e185, hx185_0⟩ := Kd.at_int HR0_3.out x6_4 p185 q185
                cases e185
                replace hx185_0 := (HB.out.cell (World.block_lt_of_cell? w _ hx185_0)).trans hx185_0
                replace p185 := eq_true p185
                replace q185 := eq_true q185
                have p186 : 0 ≤ (x6_4 : Int) := of_decide_eq_true (by first | (with_reducible assumption) | assumption)
                have q186 : x6_4 < (l0_3.length : Int) := of_decide_eq_true (by first | (with_reducible assumption) | assumption)
                obtain ⟨ad186, e186, hx186_0⟩ := Kd.at_int HR0_3.out x6_4 p186 q186
                obtain rfl : ad185 = ad186 := (by injection e186)
                replace hx186_0 := (HB.out.cell (World.block_lt_of_cell? w _ hx186_0)).trans hx186_0
                replace p186 := eq_true p186
                replace q186 := eq_true q186
                go_wp2
                repeat (go_quiet (fail); try go_wp2)
                go_roundg k4
                case measure => have := HJ1.out; have := HK2.out; have := HJ23.out; have := HK4.out; omega
                case rel => exact ⟨(wrap64 (x6_4 + 1)), (by first | rfl | (simp; done) | (simp [*]; done)), H', ⟨by have := HJ1.out; have := HK2.out; have := HJ23.out; have := HK4.out; omega⟩, ⟨by (with_reducible repeat (first | refine blk_drewN ?_ _ | refine blk_drew ?_ | refine blk_alloc ?_ _)); exact BK180.out⟩, ⟨by repeat (first | (with_reducible first | exact HB.out | apply below_alloc | apply pw_below_drewN | apply below_drew1 | refine below_set ?_ GE180.out) | exact HB.out)⟩⟩
             ·rw [if_neg c31] at H
              exact absurd H (by simp)
            ·rw [if_neg c30] at H
             have c30b0 : decide (x6_4 < (l0_3.length : Int)) = false := decide_eq_false c30
             clear c30
             obtain rfl := Option.some.inj H
             have hcz37_0 : wr.cell? ⟨gb180, 0, none⟩ = some (.int .i64 a0_0) := (blk_cell BK180.out 0).trans rfl
             have hcz37_1 : wr.cell? ⟨gb180, 1, none⟩ = some (.slice A0_1 l0_1.length c0_1) := (blk_cell BK180.out 1).trans rfl
             have hcz37_2 : wr.cell? ⟨gb180, 2, none⟩ = some (.int .i64 a0_2) := (blk_cell BK180.out 2).trans rfl
             have hcz37_3 : wr.cell? ⟨gb180, 3, none⟩ = some (.slice A0_3 l0_3.length c0_3) := (blk_cell BK180.out 3).trans rfl
             have hcz37_4 : wr.cell? ⟨gb180, 4, none⟩ = some (.int .i64 a0_4) := (blk_cell BK180.out 4).trans rfl
             have hfz37_0 := blk_frozen BK180.out 0
             have hfz37_1 := blk_frozen BK180.out 1
             have hfz37_2 := blk_frozen BK180.out 2
             have hfz37_3 := blk_frozen BK180.out 3
             have hfz37_4 := blk_frozen BK180.out 4
             go_wp2
             repeat (go_quiet (fail); try go_wp2)
             go_ret
             exact ⟨by first | rfl | (simp [errW_none, errW_some] <;> rfl) | (simp [*, errW_none, errW_some] <;> rfl), by repeat (first | (with_reducible first | exact HB.out | apply below_alloc | apply pw_below_drewN | apply below_drew1 | refine below_set ?_ GE180.out) | exact HB.out)⟩
end Go.Proofs.Ytjfbfhoipgldgaa.P
end
section
namespace Go.Proofs.Ytjfbfhoipgldgaa.P
open Go.RowKit Go.Proofs.YtjfbfhoipgldgaaW.PrintWords Go.Proofs.YtjfbfhoipgldgaaW.PrintLast Go.Proofs.YtjfbfhoipgldgaaW.PrintMore
attribute [local go_sem] max2_int min2_int max_two min_two max_three min_three max_four min_four   
set_option linter.unusedVariables false
set_option linter.unusedSimpArgs false
theorem wants_some (k : Nat) (op : Int) : r4_wants.f (k + 4) op = some (askedP op) := by
 by_cases h : 0 ≤ op ∧ op ≤ 15
 ·have : op = 0 ∨ op = 1 ∨ op = 2 ∨ op = 3 ∨ op = 4 ∨ op = 5 ∨ op = 6 ∨ op = 7 ∨ op = 8 ∨ op = 9 ∨ op = 10 ∨ op = 11 ∨ op = 12 ∨ op = 13 ∨ op = 14 ∨ op = 15 := by omega
  rcases this with rfl | rfl | rfl | rfl | rfl | rfl | rfl | rfl | rfl | rfl | rfl | rfl | rfl | rfl | rfl | rfl <;> rfl
 ·have n : ∀ k : Int, 0 ≤ k → k ≤ 15 → ¬ op = k := fun k h0 h1 e => h (by omega)
  have b : ∀ k : Int, 0 ≤ k → k ≤ 15 → ¬ (op == k) = true := fun k h0 h1 e => n k h0 h1 (by simpa using e)
  have e : askedP op = (1, 0) := by
   unfold askedP
   rw [if_neg (by omega), if_neg (by omega), if_neg (by omega), if_neg (by omega), if_neg (by omega)]
  rw [e]
  unfold r4_wants.f
  rw [if_neg (n 0 (by omega) (by omega)), if_neg (n 7 (by omega) (by omega)), if_neg (n 8 (by omega) (by omega)), r4_wants.j0]
  rw [if_neg (b 11 (by omega) (by omega)), if_neg (n 2 (by omega) (by omega)), if_neg (n 5 (by omega) (by omega)), if_neg (n 9 (by omega) (by omega)), if_neg (n 12 (by omega) (by omega)), if_neg (n 13 (by omega) (by omega)), if_neg (n 14 (by omega) (by omega)), r4_wants.j1]
  rw [if_neg (b 15 (by omega) (by omega)), if_neg (n 1 (by omega) (by omega)), r4_wants.j2]
  rw [if_neg (b 6 (by omega) (by omega)), if_neg (n 3 (by omega) (by omega)), r4_wants.j3]
  rw [if_neg (b 4 (by omega) (by omega)), if_neg (n 10 (by omega) (by omega))]
section
variable (a0 : Int) (l1 : List Int) (a2 : Int) (l3 : List Int) (a4 : Int)
theorem refPlaces (hl : l3.length ≤ 9223372036854775807) : ∀ (n k x : Nat), x ≤ l3.length → l3.length - x = n → n < k → r4_Right.l1 k x a0 l1 a2 l3 a4 = some ((l3.drop x).all (placeB l1.length)) := by
 intro n
 induction n with
 | zero =>
  intro k x hx hn hk
  obtain ⟨k, rfl⟩ : ∃ j, k = j + 1 := ⟨k - 1, by omega⟩
  have he : x = l3.length := by omega
  subst he
  simp only [r4_Right.l1]
  rw [if_neg (by omega), List.drop_length]
  rfl
 | succ n ih =>
  intro k x hx hn hk
  obtain ⟨k, rfl⟩ : ∃ j, k = j + 1 := ⟨k - 1, by omega⟩
  have hlt : x < l3.length := by omega
  simp only [r4_Right.l1]
  rw [if_pos (by omega), if_pos (by omega), rd_getElem l3 x hlt, List.drop_eq_getElem_cons hlt, List.all_cons]
  unfold placeB
  by_cases h0 : l3[x] < 0
  ·rw [if_pos h0, decide_eq_false (by omega)]; rfl
  ·rw [if_neg h0, decide_eq_true (by omega : 0 ≤ l3[x])]
   by_cases h1 : l3[x] ≥ (l1.length : Int)
   ·rw [if_pos h1, decide_eq_false (by omega)]; rfl
   ·rw [if_neg h1, decide_eq_true (by omega : l3[x] < (l1.length : Int)), wrap_in (by omega)]
    exact ih k (x + 1) (by omega) (by omega) (by omega)
theorem refItems (hl : l1.length ≤ 9223372036854775807) (hl3 : l3.length ≤ 9223372036854775807) : ∀ (n k x : Nat), x ≤ l1.length → l1.length - x = n → n + l3.length + 8 < k → r4_Right.l0 k x a0 l1 a2 l3 a4 = some ((l1.drop x).all itemB && (withinB l3.length (askedP a2).1 (askedP a2).2 && l3.all (placeB l1.length))) := by
 intro n
 induction n with
 | zero =>
  intro k x hx hn hk
  obtain ⟨k, rfl⟩ : ∃ j, k = j + 5 := ⟨k - 5, by omega⟩
  have he : x = l1.length := by omega
  subst he
  rw [show k + 5 = (k + 4) + 1 by omega]
  simp only [r4_Right.l0]
  rw [if_neg (by omega), List.drop_length, wants_some]
  simp only [Option.bind_some, List.all_nil, Bool.true_and]
  have h2 := refPlaces a0 l1 a2 l3 a4 hl3 l3.length (k + 3) 0 (Nat.zero_le _) rfl (by omega)
  rw [List.drop_zero] at h2
  have h2' : r4_Right.l1 (k + 3) 0 a0 l1 a2 l3 a4 = some (l3.all (placeB l1.length)) := h2
  unfold withinB
  by_cases h0 : (l3.length : Int) < (askedP a2).1
  ·rw [if_pos h0, show k + 4 = (k + 3) + 1 by omega]
   simp only [r4_Right.j2]
   rw [decide_eq_false (by omega)]
   simp
  ·rw [if_neg h0, show k + 4 = (k + 3) + 1 by omega]
   simp only [r4_Right.j2]
   rw [decide_eq_true (by omega : (askedP a2).1 ≤ (l3.length : Int)), h2']
   by_cases h1 : (l3.length : Int) > (askedP a2).2
   ·rw [decide_eq_true h1, decide_eq_false (by omega : ¬ (l3.length : Int) ≤ (askedP a2).2)]
    simp
   ·rw [decide_eq_false h1, decide_eq_true (by omega : (l3.length : Int) ≤ (askedP a2).2)]
    simp
 | succ n ih =>
  intro k x hx hn hk
  obtain ⟨k, rfl⟩ : ∃ j, k = j + 1 := ⟨k - 1, by omega⟩
  have hlt : x < l1.length := by omega
  simp only [r4_Right.l0]
  rw [if_pos (by omega), if_pos (by omega), rd_getElem l1 x hlt, List.drop_eq_getElem_cons hlt, List.all_cons]
  by_cases h0 : l1[x] ≥ 20
  ·rw [if_pos h0, show itemB l1[x] = false by unfold itemB; simp; omega]; rfl
  ·rw [if_neg h0]
   by_cases h1 : l1[x] < -61
   ·rw [if_pos h1, show itemB l1[x] = false by unfold itemB; simp; omega]; rfl
   ·rw [if_neg h1, show itemB l1[x] = true by unfold itemB; simp; omega, Bool.true_and, wrap_in (by omega)]
    exact ih k (x + 1) (by omega) (by omega) (by omega)
theorem refRight_some (k : Nat) (hl : l1.length ≤ 9223372036854775807) (hl3 : l3.length ≤ 9223372036854775807) (hk : l1.length + l3.length + 10 < k) : r4_Right.f k a0 l1 a2 l3 a4 = some (rightP a0 l1 a2 l3 a4) := by
 obtain ⟨k, rfl⟩ : ∃ j, k = j + 1 := ⟨k - 1, by omega⟩
 have h2 := refItems a0 l1 a2 l3 a4 hl hl3 l1.length k 0 (Nat.zero_le _) rfl (by omega)
 rw [List.drop_zero] at h2
 have h2' : r4_Right.l0 k 0 a0 l1 a2 l3 a4 = some (l1.all itemB && (withinB l3.length (askedP a2).1 (askedP a2).2 && l3.all (placeB l1.length))) := h2
 unfold r4_Right.f
 simp only [r4_Right.j0, if_true]
 unfold rightP symbolB
 by_cases c1 : a0 < 0
 ·rw [if_pos c1, decide_eq_false (by omega)]; rfl
 rw [if_neg c1, decide_eq_true (by omega : 0 ≤ a0)]
 by_cases c2 : a0 ≥ 20
 ·rw [if_pos c2, decide_eq_false (by omega)]; rfl
 rw [if_neg c2, decide_eq_true (by omega : a0 < 20), h2']
 by_cases c3 : (l1.length : Int) < 1
 ·rw [if_pos c3, show withinB l1.length 1 6 = false by unfold withinB; simp; omega]; rfl
 rw [if_neg c3]
 by_cases c4 : (l1.length : Int) > 6
 ·rw [if_pos c4, show withinB l1.length 1 6 = false by unfold withinB; simp; omega]; rfl
 rw [if_neg c4, show withinB l1.length 1 6 = true by unfold withinB; simp; omega]
 by_cases c5 : a4 < 0
 ·rw [if_pos c5, show withinB a4 0 100 = false by unfold withinB; simp; omega]
  simp
 rw [if_neg c5]
 by_cases c6 : a4 > 100
 ·rw [decide_eq_true c6, show withinB a4 0 100 = false by unfold withinB; simp; omega]
  simp
 ·rw [decide_eq_false c6, show withinB a4 0 100 = true by unfold withinB; simp; omega]
  simp
end
end Go.Proofs.Ytjfbfhoipgldgaa.P
end
section
namespace Go.Proofs.Ytjfbfhoipgldgaa.P
open Go.RowKit Go.Proofs.YtjfbfhoipgldgaaW.PrintWords Go.Proofs.YtjfbfhoipgldgaaW.PrintLast Go.Proofs.YtjfbfhoipgldgaaW.PrintMore
attribute [local go_sem] max2_int min2_int max_two min_two max_three min_three max_four min_four   
set_option linter.unusedVariables false
set_option linter.unusedSimpArgs false
def matD (e : Nat → Nat → Bool) : Nat → Nat → Nat → Bool
 | 0 => e
 | k + 1 => fun i j => matD e k i j || (matD e k i k && matD e k k j)
theorem matD_mono {e : Nat → Nat → Bool} {k i j : Nat} (h : matD e k i j = true) : matD e (k + 1) i j = true := by
 simp [matD, h]
theorem matD_base {e : Nat → Nat → Bool} {i j : Nat} (h : e i j = true) : ∀ k, matD e k i j = true
 | 0 => h
 | k + 1 => matD_mono (matD_base h k)
theorem matD_row (e : Nat → Nat → Bool) (k j : Nat) : matD e (k + 1) k j = matD e k k j := by
 simp only [matD]
 cases matD e k k j <;> simp
theorem matD_col (e : Nat → Nat → Bool) (k i : Nat) : matD e (k + 1) i k = matD e k i k := by
 simp only [matD]
 cases matD e k i k <;> simp
theorem matD_trans {e : Nat → Nat → Bool} : ∀ (k i m j : Nat), m < k → matD e k i m = true → matD e k m j = true → matD e k i j = true
 | 0, _, _, _, h, _, _ => by omega
 | k + 1, i, m, j, hm, h1, h2 => by
  have T := matD_trans (e := e) k
  by_cases e1 : m = k
  ·subst e1
   rw [matD_col] at h1
   rw [matD_row] at h2
   simp [matD, h1, h2]
  ·have hm' : m < k := by omega
   simp only [matD, Bool.or_eq_true, Bool.and_eq_true] at h1 h2 ⊢
   rcases h1 with h1 | ⟨h1, h1'⟩
   ·rcases h2 with h2 | ⟨h2, h2'⟩
    ·exact .inl (T i m j hm' h1 h2)
    ·exact .inr ⟨T i m k hm' h1 h2, h2'⟩
   ·rcases h2 with h2 | ⟨h2, h2'⟩
    ·exact .inr ⟨h1, T k m j hm' h1' h2⟩
    ·exact .inr ⟨h1, h2'⟩
theorem matD_sound {e : Nat → Nat → Bool} {R : Nat → Nat → Prop} (hb : ∀ i j, e i j = true → R i j) (ht : ∀ i m j, R i m → R m j → R i j) : ∀ (k i j : Nat), matD e k i j = true → R i j
 | 0, i, j, h => hb i j h
 | k + 1, i, j, h => by
  simp only [matD, Bool.or_eq_true, Bool.and_eq_true] at h
  rcases h with h | ⟨h1, h2⟩
  ·exact matD_sound hb ht k i j h
  ·exact ht i k j (matD_sound hb ht k i k h1) (matD_sound hb ht k k j h2)
def stage (e : Nat → Nat → Bool) (k i j : Nat) : Nat → Nat → Bool := fun a b => if a < i ∨ (a = i ∧ b < j) then matD e (k + 1) a b else matD e k a b
def upd (mt : Nat → Nat → Bool) (i j : Nat) (v : Bool) : Nat → Nat → Bool := fun a b => if a = i ∧ b = j then v else mt a b
theorem stage_col (e : Nat → Nat → Bool) (k i j a : Nat) : stage e k i j a k = matD e k a k := by
 unfold stage; split
 ·exact matD_col e k a
 ·rfl
theorem stage_row (e : Nat → Nat → Bool) (k i j b : Nat) : stage e k i j k b = matD e k k b := by
 unfold stage; split
 ·exact matD_row e k b
 ·rfl
theorem stage_at (e : Nat → Nat → Bool) (k i j : Nat) : stage e k i j i j = matD e k i j := by
 unfold stage; rw [if_neg (by omega)]
theorem stage_upd (e : Nat → Nat → Bool) (k i j : Nat) : upd (stage e k i j) i j (stage e k i j i j || (stage e k i j i k && stage e k i j k j)) = stage e k i (j + 1) := by
 rw [stage_at, stage_col, stage_row]
 funext a b
 unfold upd stage
 by_cases h : a = i ∧ b = j
 ·obtain ⟨rfl, rfl⟩ := h
  rw [if_pos ⟨rfl, rfl⟩, if_pos (by omega)]
  rfl
 ·rw [if_neg h]
  by_cases h2 : a < i ∨ (a = i ∧ b < j)
  ·rw [if_pos h2, if_pos (by omega)]
  ·rw [if_neg h2, if_neg (by omega)]
def matCells (mt : Nat → Nat → Bool) : List Value := (List.range 400).map fun n => Value.bool (mt (n / 20) (n % 20))
theorem matCells_length (mt : Nat → Nat → Bool) : (matCells mt).length = 400 := by simp [matCells]
theorem matCells_at (mt : Nat → Nat → Bool) (i j : Nat) (hi : i < 20) (hj : j < 20) : (matCells mt)[i * 20 + j]? = some (.bool (mt i j)) := by
 unfold matCells
 rw [List.getElem?_map, List.getElem?_range (by omega)]
 simp only [Option.map_some]
 rw [show (i * 20 + j) / 20 = i by omega, show (i * 20 + j) % 20 = j by omega]
theorem matCells_congr {mt mt' : Nat → Nat → Bool} (h : ∀ i j, i < 20 → j < 20 → mt i j = mt' i j) : matCells mt = matCells mt' := by
 unfold matCells
 refine List.map_congr_left fun n hn => ?_
 rw [List.mem_range] at hn
 rw [h _ _ (by omega) (by omega)]
theorem matCells_set (mt : Nat → Nat → Bool) (i j : Nat) (v : Bool) (hi : i < 20) (hj : j < 20) : (matCells mt).set (i * 20 + j) (.bool v) = matCells (upd mt i j v) := by
 apply List.ext_getElem?
 intro n
 by_cases hn : n < 400
 ·obtain ⟨a, b, rfl, ha, hb⟩ : ∃ a b, n = a * 20 + b ∧ a < 20 ∧ b < 20 := ⟨n / 20, n % 20, by omega, by omega, by omega⟩
  rw [matCells_at _ a b ha hb]
  by_cases h : a = i ∧ b = j
  ·obtain ⟨rfl, rfl⟩ := h
   rw [List.getElem?_set_self (by rw [matCells_length]; omega)]
   simp [upd]
  ·rw [List.getElem?_set_ne (by omega), matCells_at _ a b ha hb]
   simp [upd, h]
 ·rw [List.getElem?_eq_none (by rw [List.length_set, matCells_length]; omega), List.getElem?_eq_none (by rw [matCells_length]; omega)]
def Mat (W : World) (t : TypeId) (g : Nat) (mt : Nat → Nat → Bool) : Prop := W.heap[g]? = some (.cells (matCells mt).toArray t (0, 0))
theorem Mat.cell {W : World} {t : TypeId} {g : Nat} {mt : Nat → Nat → Bool} (h : Mat W t g mt) (i j : Nat) (hi : i < 20) (hj : j < 20) : W.cell? ⟨g, i * 20 + j, none⟩ = some (.bool (mt i j)) :=
 (blk_cell h _).trans (by rw [List.getElem?_toArray]; exact matCells_at mt i j hi hj)
theorem Mat.frozen {W : World} {t : TypeId} {g : Nat} {mt : Nat → Nat → Bool} (h : Mat W t g mt) (n : Nat) : W.frozen? ⟨g, n, none⟩ = false := blk_frozen h n
theorem Mat.set {W : World} {t : TypeId} {g : Nat} {mt : Nat → Nat → Bool} (h : Mat W t g mt) (i j : Nat) (v : Bool) (hi : i < 20) (hj : j < 20) : Mat (W.setCell ⟨g, i * 20 + j, none⟩ (.bool v)) t g (upd mt i j v) := by
 unfold Mat
 refine blk_put h (i * 20 + j) (.bool v) ?_
 rw [← matCells_set mt i j v hi hj]
 simp
theorem Mat.congr {W : World} {t : TypeId} {g : Nat} {mt mt' : Nat → Nat → Bool} (h : Mat W t g mt) (he : ∀ i j, i < 20 → j < 20 → mt i j = mt' i j) : Mat W t g mt' := by
 unfold Mat
 rw [← matCells_congr he]
 exact h
theorem Mat.below {W W1 : World} {t : TypeId} {g : Nat} {mt : Nat → Nat → Bool} (h : Mat W t g mt) (hb : Below W.heap.size W W1) : Mat W1 t g mt := blk_below h hb
theorem mat_zero : (matCells fun _ _ => false).toArray = Array.replicate 400 (Value.bool false) := by
 apply Array.ext_getElem?
 intro n
 rw [List.getElem?_toArray, Array.getElem?_replicate]
 unfold matCells
 by_cases h : n < 400
 ·rw [if_pos h, List.getElem?_map, List.getElem?_range h]; rfl
 ·rw [if_neg h, List.getElem?_eq_none (by simp; omega)]
end Go.Proofs.Ytjfbfhoipgldgaa.P
end
section
namespace Go.Proofs.Ytjfbfhoipgldgaa.P
open Go.RowKit Go.Proofs.YtjfbfhoipgldgaaW.PrintWords Go.Proofs.YtjfbfhoipgldgaaW.PrintLast Go.Proofs.YtjfbfhoipgldgaaW.PrintMore
attribute [local go_sem] max2_int min2_int max_two min_two max_three min_three max_four min_four   
set_option linter.unusedVariables false
set_option linter.unusedSimpArgs false
theorem mem_refRows (s : Nat) (y : Int) : ∀ (l : List Rule') (rows : Nat → List Int), y ∈ l.foldl rowStep rows s ↔ y ∈ rows s ∨ ∃ r ∈ l, r.f0 = s ∧ r.f1 = [y] ∧ 0 ≤ y
 | [], rows => by simp
 | r :: l, rows => by
  rw [List.foldl_cons, mem_refRows s y l (rowStep rows r)]
  have h : y ∈ rowStep rows r s ↔ y ∈ rows s ∨ (r.f0 = s ∧ r.f1 = [y] ∧ 0 ≤ y) := by
   unfold rowStep oneOf
   split
   case isTrue hc =>
    obtain ⟨h1, h2⟩ := hc
    obtain ⟨h3, h4⟩ := of_decide_eq_true h1
    rw [mem_putP]
    have h5 : r.f1 = [rd r.f1 0] := by
     match hr : r.f1, h3 with
     | [x], _ => simp [rd]
    constructor
    ·rintro (rfl | h)
     ·exact .inr ⟨h2, h5, h4⟩
     ·exact .inl h
    ·rintro (h | ⟨_, h, _⟩)
     ·exact .inr h
     ·left
      rw [h]; rfl
   case isFalse hc =>
    constructor
    ·exact .inl
    ·rintro (h | ⟨h1, h2, h3⟩)
     ·exact h
     ·exact absurd ⟨decide_eq_true ⟨by rw [h2]; rfl, by rw [h2]; exact h3⟩, h1⟩ hc
  rw [h, or_assoc]
  simp
theorem refRows_iff (l0 : List Rule') (hr : l0.all rightR = true) (s : Nat) (hs : s < 20) (y : Int) : y ∈ refRows l0 s ↔ y ∈ rowsNext l0 s := by
 unfold refRows
 rw [mem_refRows, mem_rowsNext l0 s ⟨by omega, by omega⟩]
 constructor
 ·rintro (h | ⟨r, h1, h2, h3, h4⟩)
  ·cases h
  ·refine ⟨⟨h4, ?_⟩, r, h1, h2, h3⟩
   have h5 := List.all_eq_true.1 hr r h1
   unfold rightR rightP at h5
   simp only [Bool.and_eq_true] at h5
   have h6 := List.all_eq_true.1 h5.2.2.1 y (by rw [h3]; exact List.mem_singleton.2 rfl)
   unfold itemB at h6
   rw [Bool.and_eq_true] at h6
   exact of_decide_eq_true h6.1
 ·rintro ⟨h1, r, h2, h3, h4⟩
  exact .inr ⟨r, h2, h3, h4, h1.1⟩
def arrow (l0 : List Rule') (i j : Nat) : Bool := decide ((j : Int) ∈ refRows l0 i)
theorem arrows_reach (l0 : List Rule') (hr : l0.all rightR = true) (i : Nat) (hi : i < 20) (y : Int) : Reach (rowsNext l0) (rowsNext l0 i) y ↔ inSym y ∧ matD (arrow l0) 20 i y.toNat = true := by
 have his : inSym (i : Int) := ⟨by omega, by omega⟩
 constructor
 ·intro h
  refine Reach.inv (P := fun y => inSym y ∧ matD (arrow l0) 20 i y.toNat = true) (fun x hx => ?_) (fun x hx y hy => ?_) h
  ·have h1 := rowsNext_sym l0 i his x hx
   refine ⟨h1, matD_base ?_ 20⟩
   unfold arrow
   rw [Int.toNat_of_nonneg h1.1]
   exact decide_eq_true ((refRows_iff l0 hr i hi x).2 hx)
  ·have h1 := rowsNext_sym l0 x hx.1 y hy
   refine ⟨h1, matD_trans 20 i x.toNat y.toNat (by have := hx.1.1; have := hx.1.2; omega) hx.2 (matD_base ?_ 20)⟩
   unfold arrow
   rw [Int.toNat_of_nonneg h1.1]
   refine decide_eq_true ((refRows_iff l0 hr x.toNat (by have := hx.1.1; have := hx.1.2; omega) y).2 ?_)
   rw [Int.toNat_of_nonneg hx.1.1]
   exact hy
 ·rintro ⟨hy, h⟩
  have h2 := matD_sound (e := arrow l0) (R := fun a b => a < 20 → b < 20 ∧ Reach (rowsNext l0) (rowsNext l0 (a : Int)) (b : Int))
   (fun a b hab ha => by
    have h3 := (refRows_iff l0 hr a ha (b : Int)).1 (of_decide_eq_true hab)
    have h4 := rowsNext_sym l0 a ⟨by omega, by omega⟩ b h3
    exact ⟨by have := h4.2; omega, .base h3⟩)
   (fun a m b h1 h2 ha => by
    obtain ⟨hm, h3⟩ := h1 ha
    obtain ⟨hb, h4⟩ := h2 hm
    refine ⟨hb, ?_⟩
    refine Reach.inv (P := fun y => Reach (rowsNext l0) (rowsNext l0 (a : Int)) y) (fun x hx => .step h3 hx) (fun x hx y hy => .step hx hy) h4) 20 i y.toNat h hi
  rw [Int.toNat_of_nonneg hy.1] at h2
  exact h2.2
theorem checkP_matD (l0 : List Rule') (h60 : l0.length ≤ 60) (hr : l0.all rightR = true) : checkP l0 = true ↔ ∀ i, i < 20 → matD (arrow l0) 20 i i = false := by
 rw [checkP_iff]
 constructor
 ·rintro ⟨_, _, h⟩ i hi
  have h1 := h i ⟨by omega, by omega⟩
  rw [arrows_reach l0 hr i hi] at h1
  cases hm : matD (arrow l0) 20 i i with
  | false => rfl
  | true => exact absurd ⟨⟨by omega, by omega⟩, by simpa using hm⟩ h1
 ·intro h
  refine ⟨h60, hr, fun x hx hR => ?_⟩
  obtain ⟨n, rfl⟩ : ∃ n : Nat, x = n := ⟨x.toNat, by have := hx.1; omega⟩
  have hn : n < 20 := by have := hx.2; omega
  have h1 := ((arrows_reach l0 hr n hn n).1 hR).2
  have h2 := h n hn
  simp [h2] at h1
def arrowUpto (l0 : List Rule') (i k : Nat) (a b : Nat) : Bool := decide (a < i) && arrow l0 a b || (decide (a = i) && decide ((b : Int) ∈ (refRows l0 i).take k))
theorem arrowUpto_snoc (l0 : List Rule') (i k : Nat) (h : k < (refRows l0 i).length) (z : Nat) (hz : (refRows l0 i)[k] = (z : Int)) : upd (arrowUpto l0 i k) i z true = arrowUpto l0 i (k + 1) := by
 funext a b
 unfold upd arrowUpto
 rw [List.take_succ_eq_append_getElem h, hz]
 by_cases ha : a = i
 ·subst ha
  by_cases hb : b = z
  ·subst hb; simp
  ·have : ¬ (b : Int) = (z : Int) := by omega
   simp [hb, this]
 ·simp [ha]
theorem arrowUpto_next (l0 : List Rule') (i : Nat) : arrowUpto l0 i (refRows l0 i).length = arrowUpto l0 (i + 1) 0 := by
 funext a b
 unfold arrowUpto
 rw [List.take_length, List.take_zero]
 by_cases ha : a = i
 ·subst ha
  simp [arrow]
 ·by_cases hl : a < i
  ·simp [hl, ha, show a < i + 1 by omega]
  ·simp [hl, ha, show ¬ a < i + 1 by omega]
noncomputable def r4_Check.f (l0 : List Rule') : Option Bool := some (checkP l0)
theorem mat0 : Try.zeroCells67 = (matCells fun _ _ => false).toArray := by rw [mat_zero]; kernel_rfl
set_option maxHeartbeats 4000000 in
set_option maxRecDepth 100000 in
theorem refCheck_walk (A0 : Option Addr) (c0 : Nat) (l0 : List Rule') (w : World) (hr0 : Kd.C k41 w A0 l0.length l0) (hc0 : l0.length ≤ c0) :
  Calls Try.prog 17 #[.slice A0 l0.length c0] w fun e w' => e = .returned (.bool (checkP l0)) ∧ Below w.heap.size w w' := by
 have HR := Aside0.mk hr0
 have HC := Aside0.mk hc0
 clear hr0 hc0
 by_cases h60 : l0.length ≤ 60
 ·have h60z : ¬ ((l0.length : Int) > 60) := by omega
  go_enter Try.func17, Try.ntmps17
  go_wp2
  go_loopg [3] l0.length (fun gg s3 wr => ∃ kk : Nat, kk ≤ l0.length ∧ l0.length - kk ≤ gg ∧ s3 = .int .i64 kk ∧ Aside0 (∀ j, j < kk → ∀ h : j < l0.length, rightR l0[j] = true) ∧ Aside0 (Below w.heap.size w wr))
  case atStart => exact ⟨0, Nat.zero_le _, by omega, rfl, ⟨fun j hj => absurd hj (Nat.not_lt_zero _)⟩, ⟨Below.refl _ _⟩⟩
  case round =>
   obtain ⟨kk, hkk, hgg, rfl, HA, HB⟩ := hrel
   by_cases hlt : kk < l0.length
   ·have hltz : (kk : Int) < (l0.length : Int) := by omega
    obtain ⟨ad, A1, c1, A3, c3, hA, h0, h1, h2, h3, h4, l1, g1, l3, g3⟩ := at_T41 (Kd.C_below HR.out HB.out) kk (by omega) hltz
    have hx : rd_T41 l0 kk = l0[kk] := by simp [rd_T41, List.getD_eq_getElem?_getD, List.getElem?_eq_getElem hlt]
    generalize rd_T41 l0 kk = y at *
    rw [Int.toNat_natCast] at h0 h1 h2 h3 h4
    subst hA
    have HX := Aside0.mk hx
    clear hx
    have HRS := Aside0.mk (refRight_some y.f0 y.f1 y.f2.f0 y.f2.f1 y.f3 (y.f1.length + y.f2.f1.length + 11) g1.2.1 g3.2.1 (by omega))
    have hcall := Aside0.mk (r4_Right.calls (y.f1.length + y.f2.f1.length + 11) y.f0 A1 c1 y.f1 y.f2.f0 A3 c3 y.f2.f1 y.f3 (rightR y) wr g1 l1 g3 l3 HRS.out)
    clear g1 g3
    cases hr : rightR y with
    | true =>
     rw [hr] at hcall
     go_wp2_with fail
     refine hcall.out.mono ?_
     rintro e w' ⟨rfl, hb⟩
     have HB2 := Aside0.mk (below_step HB.out hb)
     clear hb
     go_wp2
     go_roundg (l0.length - (kk + 1))
     case measure => omega
     case rel =>
      refine ⟨kk + 1, by omega, by omega, by go_num, ⟨fun j hj hl => ?_⟩, HB2⟩
      by_cases e : j = kk
      ·subst e; rw [← HX.out]; exact hr
      ·exact HA.out j (by omega) hl
    | false =>
     rw [hr] at hcall
     have hz : checkP l0 = false := by
      unfold checkP
      have : l0.all rightR = false := List.all_eq_false.2 ⟨l0[kk], List.getElem_mem hlt, by rw [← HX.out, hr]; decide⟩
      rw [this, Bool.false_and, Bool.and_false]
     go_wp2_with fail
     refine hcall.out.mono ?_
     rintro e w' ⟨rfl, hb⟩
     have HB2 := Aside0.mk (below_step HB.out hb)
     clear hb
     go_wp2
     go_ret
     exact ⟨ret_bool hz.symm, HB2.out⟩
   ·have hltz : ¬ (kk : Int) < (l0.length : Int) := by omega
    have hkl : kk = l0.length := by omega
    subst hkl
    have hall : l0.all rightR = true := by
     rw [List.all_eq_true]
     intro r hr
     obtain ⟨j, hj, rfl⟩ := List.mem_iff_getElem.1 hr
     exact HA.out j hj hj
    have HCM := Aside0.mk (checkP_matD l0 h60 hall)
    have hu := Aside0.mk (unitsB_of l0 h60 hall)
    have HALL := Aside0.mk hall
    have HR1 := Aside0.mk (Kd.C_below HR.out HB.out)
    clear HA hall HR
    go_wp2_with fail
    refine (refUnits_walk A0 c0 l0 wr HR1.out HC.out hu.out).mono ?_
    rintro e w1 ⟨v1, rfl, hS, hb⟩
    obtain ⟨A2, c2, rfl, hc2, hC2⟩ := Kd.S_reads hS
    have hlen : (refUnitsP l0).length = 20 := by simp [refUnitsP]
    have HB1 := Aside0.mk (below_step HB.out hb)
    have HU1 := Aside0.mk hC2
    have HM := Aside0.mk (show Mat (w1.alloc (.cells Try.zeroCells67 67)) 67 w1.heap.size (fun _ _ => false) from by unfold Mat; rw [← mat0]; exact blk_new _ _)
    have HB2 := Aside0.mk (below_alloc (Below.refl w1.heap.size w1) (.cells Try.zeroCells67 67))
    rw [hlen]
    have HLN := Aside0.mk hlen
    clear hS hb hc2 hC2 hlen HB HR1
    go_wp2
    generalize (w1.alloc (.cells Try.zeroCells67 67)) = W2 at *
    generalize hg : w1.heap.size = g at *
    have HG := Aside0.mk hg
    clear hg
    go_loopg [6] 20 (fun gg s6 wr => ∃ i : Nat, i ≤ 20 ∧ 20 - i ≤ gg ∧ s6 = .int .i64 i ∧ Aside0 (Mat wr 67 g (arrowUpto l0 i 0)) ∧ Aside0 (Below g w1 wr))
    case atStart => exact ⟨0, by omega, by omega, rfl, ⟨HM.out.congr (fun i j _ _ => by simp [arrowUpto])⟩, HB2⟩
    case round =>
     clear HM HB2
     obtain ⟨i, hi, hgi, rfl, HM, HB2⟩ := hrel
     by_cases hlt : i < 20
     ·have hltz : (i : Int) < 20 := by omega
      have hrow : rd_L1 (refUnitsP l0) (i : Int) = refRows l0 i := by
       unfold rd_L1 refUnitsP
       rw [Int.toNat_natCast, List.getD_eq_getElem?_getD, List.getElem?_map, List.getElem?_range hlt]
       rfl
      have HROW := Aside0.mk hrow
      clear hrow
      go_wp2
      go_loopg [7] (refRows l0 i).length (fun gg s7 wr => ∃ k : Nat, k ≤ (refRows l0 i).length ∧ (refRows l0 i).length - k ≤ gg ∧ s7 = .int .i64 k ∧ Aside0 (Mat wr 67 g (arrowUpto l0 i k)) ∧ Aside0 (Below g w1 wr))
      case atStart => exact ⟨0, Nat.zero_le _, by omega, rfl, HM, HB2⟩
      case round =>
       clear HM HB2
       obtain ⟨k, hk, hgk, rfl, HM, HB2⟩ := hrel
       obtain ⟨ad, A4, c4, hA, h0, h1, h2⟩ := at_L1 (show Kd.C (Kd.slice 3 (Kd.int .i64)) wr A2 (refUnitsP l0).length (refUnitsP l0) from Kd.C_below HU1.out (by rw [HG.out]; exact HB2.out)) i (by omega) (by rw [HLN.out]; exact hltz)
       rw [HROW.out] at h0 h1 h2
       rw [Int.toNat_natCast] at h0
       subst hA
       have hlm : (refRows l0 i).length ≤ 9223372036854775807 := h2.2.1
       by_cases hlk : k < (refRows l0 i).length
       ·have hz0 := (refRows_iff l0 HALL.out i hlt _).1 (List.getElem_mem hlk)
        have hz1 := rowsNext_sym l0 i ⟨by omega, by omega⟩ _ hz0
        obtain ⟨z, hz⟩ : ∃ z : Nat, (refRows l0 i)[k] = (z : Int) := ⟨(refRows l0 i)[k].toNat, by have := hz1.1; omega⟩
        have hz20 : z < 20 := by have := hz1.2; omega
        have HUP := Aside0.mk (arrowUpto_snoc l0 i k hlk z hz)
        have hlkz : (k : Int) < ((refRows l0 i).length : Int) := by omega
        obtain ⟨ad1, hA1, hc1⟩ := Kd.at_int h2 k (by omega) hlkz
        rw [Int.toNat_natCast, rd_getElem _ k hlk, hz] at hc1
        subst hA1
        have hz20z : (z : Int) < 20 := by omega
        have hcm := HM.out.cell i z hlt hz20
        have hcf := HM.out.frozen (i * 20 + z)
        have HMS := Aside0.mk (HM.out.set i z true hlt hz20)
        rw [HUP.out] at HMS
        clear hz hz0 hz1 h2 h1
        generalize (refRows l0 i).length = m at *
        go_wp2
        go_region
        all_goals
         go_wp2
         go_roundg (m - (k + 1))
         case measure => omega
         case rel => exact ⟨k + 1, by omega, by omega, by go_num, ⟨HMS.out⟩, ⟨(below_drew HB2.out).setCell (Nat.le_refl _) _⟩⟩
       ·have hlkz : ¬ (k : Int) < ((refRows l0 i).length : Int) := by omega
        have hke : k = (refRows l0 i).length := by omega
        have HM2 : Aside0 (Mat wr 67 g (arrowUpto l0 (i + 1) 0)) := ⟨by rw [← arrowUpto_next, ← hke]; exact HM.out⟩
        clear hke h2
        generalize (refRows l0 i).length = m at *
        go_wp2
        go_roundg (20 - (i + 1))
        case measure => omega
        case rel => exact ⟨i + 1, by omega, by omega, by go_num, HM2, HB2⟩
     ·have hltz : ¬ (i : Int) < 20 := by omega
      have hie : i = 20 := by omega
      subst hie
      have HM0 : Aside0 (Mat wr 67 g (matD (arrow l0) 0)) := ⟨HM.out.congr (fun a b ha _ => by simp [arrowUpto, matD, ha])⟩
      clear HM HU1
      go_wp2
      go_loopg [8] 20 (fun gg s8 wr => ∃ k : Nat, k ≤ 20 ∧ 20 - k ≤ gg ∧ s8 = .int .i64 k ∧ Aside0 (Mat wr 67 g (matD (arrow l0) k)) ∧ Aside0 (Below g w1 wr))
      case atStart => exact ⟨0, by omega, by omega, rfl, HM0, HB2⟩
      case round =>
       clear HM0 HB2
       obtain ⟨k, hk, hgk, rfl, HM, HB2⟩ := hrel
       by_cases hk20 : k < 20
       ·have hk20z : (k : Int) < 20 := by omega
        have HM1 : Aside0 (Mat wr 67 g (stage (arrow l0) k 0 0)) := ⟨HM.out.congr (fun a b _ _ => by simp [stage])⟩
        clear HM
        go_wp2
        go_loopg [9] 20 (fun gg s9 wr => ∃ i : Nat, i ≤ 20 ∧ 20 - i ≤ gg ∧ s9 = .int .i64 i ∧ Aside0 (Mat wr 67 g (stage (arrow l0) k i 0)) ∧ Aside0 (Below g w1 wr))
        case atStart => exact ⟨0, by omega, by omega, rfl, HM1, HB2⟩
        case round =>
         clear HM1 HB2
         obtain ⟨i, hi, hgi, rfl, HM, HB2⟩ := hrel
         by_cases hi20 : i < 20
         ·have hi20z : (i : Int) < 20 := by omega
          go_wp2
          go_loopg [10] 20 (fun gg s10 wr => ∃ j : Nat, j ≤ 20 ∧ 20 - j ≤ gg ∧ s10 = .int .i64 j ∧ Aside0 (Mat wr 67 g (stage (arrow l0) k i j)) ∧ Aside0 (Below g w1 wr))
          case atStart => exact ⟨0, by omega, by omega, rfl, HM, HB2⟩
          case round =>
           clear HM HB2
           obtain ⟨j, hj, hgj, rfl, HM, HB2⟩ := hrel
           by_cases hj20 : j < 20
           ·have hj20z : (j : Int) < 20 := by omega
            have m1 := HM.out.cell i j hi20 hj20
            have m2 := HM.out.cell i k hi20 hk20
            have m3 := HM.out.cell k j hk20 hj20
            have mf := HM.out.frozen (i * 20 + j)
            have HMS : ∀ v : Bool, v = (stage (arrow l0) k i j i j || (stage (arrow l0) k i j i k && stage (arrow l0) k i j k j)) → Mat (wr.setCell ⟨g, i * 20 + j, none⟩ (.bool v)) 67 g (stage (arrow l0) k i (j + 1)) := by
             intro v hv
             rw [← stage_upd, ← hv]
             exact HM.out.set i j v hi20 hj20
            generalize stage (arrow l0) k i j i j = x1 at *
            generalize stage (arrow l0) k i j i k = x2 at *
            generalize stage (arrow l0) k i j k j = x3 at *
            have HMT := Aside0.mk HMS
            clear HMS HM
            cases x1 with
            | true =>
             go_wp2
             go_region
             all_goals
              go_wp2
              go_roundg (20 - (j + 1))
              case measure => omega
              case rel => exact ⟨j + 1, by omega, by omega, by go_num, ⟨HMT.out true (by simp)⟩, ⟨(below_drew HB2.out).setCell (Nat.le_refl _) _⟩⟩
            | false =>
             cases x2 with
             | false =>
              go_wp2
              go_region
              all_goals
               go_wp2
               go_roundg (20 - (j + 1))
               case measure => omega
               case rel => exact ⟨j + 1, by omega, by omega, by go_num, ⟨HMT.out false (by simp)⟩, ⟨(below_drew HB2.out).setCell (Nat.le_refl _) _⟩⟩
             | true =>
              cases x3 with
              | false =>
               go_wp2
               go_region
               all_goals
                go_wp2
                go_roundg (20 - (j + 1))
                case measure => omega
                case rel => exact ⟨j + 1, by omega, by omega, by go_num, ⟨HMT.out false (by simp)⟩, ⟨(below_drew HB2.out).setCell (Nat.le_refl _) _⟩⟩
              | true =>
               go_wp2
               go_region
               all_goals
                go_wp2
                go_roundg (20 - (j + 1))
                case measure => omega
                case rel => exact ⟨j + 1, by omega, by omega, by go_num, ⟨HMT.out true (by simp)⟩, ⟨(below_drew HB2.out).setCell (Nat.le_refl _) _⟩⟩
           ·have hj20z : ¬ (j : Int) < 20 := by omega
            have hje : j = 20 := by omega
            have HM2 : Aside0 (Mat wr 67 g (stage (arrow l0) k (i + 1) 0)) := ⟨HM.out.congr (fun a b _ hb => by
             unfold stage
             by_cases h : a < i ∨ (a = i ∧ b < j)
             ·rw [if_pos h, if_pos (by omega)]
             ·rw [if_neg h, if_neg (by omega)])⟩
            go_wp2
            go_roundg (20 - (i + 1))
            case measure => omega
            case rel => exact ⟨i + 1, by omega, by omega, by go_num, HM2, HB2⟩
         ·have hi20z : ¬ (i : Int) < 20 := by omega
          have HM2 : Aside0 (Mat wr 67 g (matD (arrow l0) (k + 1))) := ⟨HM.out.congr (fun a b ha _ => by
           unfold stage
           rw [if_pos (by omega)])⟩
          go_wp2
          go_roundg (20 - (k + 1))
          case measure => omega
          case rel => exact ⟨k + 1, by omega, by omega, by go_num, HM2, HB2⟩
       ·have hk20z : ¬ (k : Int) < 20 := by omega
        have hke : k = 20 := by omega
        subst hke
        go_wp2
        go_loopg [11] 20 (fun gg s11 wr => ∃ i : Nat, i ≤ 20 ∧ 20 - i ≤ gg ∧ s11 = .int .i64 i ∧ Aside0 (Mat wr 67 g (matD (arrow l0) 20)) ∧ Aside0 (Below g w1 wr) ∧ Aside0 (∀ j, j < i → matD (arrow l0) 20 j j = false))
        case atStart => exact ⟨0, by omega, by omega, rfl, HM, HB2, ⟨fun j hj => absurd hj (Nat.not_lt_zero _)⟩⟩
        case round =>
         clear HM HB2
         obtain ⟨i, hi, hgi, rfl, HM, HB2, HA⟩ := hrel
         by_cases hi20 : i < 20
         ·have hi20z : (i : Int) < 20 := by omega
          have m1 := HM.out.cell i i hi20 hi20
          cases hd : matD (arrow l0) 20 i i with
          | true =>
           rw [hd] at m1
           have hz : checkP l0 = false := by
            cases hc : checkP l0 with
            | false => rfl
            | true =>
             have := HCM.out.1 hc i hi20
             rw [hd] at this
             cases this
           go_wp2
           go_ret
           exact ⟨ret_bool hz.symm, HB1.out.trans (HB2.out.mono (by rw [← HG.out]; exact HB1.out.size))⟩
          | false =>
           rw [hd] at m1
           go_wp2
           go_roundg (20 - (i + 1))
           case measure => omega
           case rel =>
            refine ⟨i + 1, by omega, by omega, by go_num, HM, HB2, ⟨fun j hj => ?_⟩⟩
            by_cases e : j = i
            ·subst e; exact hd
            ·exact HA.out j (by omega)
         ·have hi20z : ¬ (i : Int) < 20 := by omega
          have hz : checkP l0 = true := HCM.out.2 (fun j hj => HA.out j (by omega))
          go_wp2
          go_ret
          exact ⟨by first | rfl | exact ret_bool hz.symm, HB1.out.trans (HB2.out.mono (by rw [← HG.out]; exact HB1.out.size))⟩
 ·have h60z : (l0.length : Int) > 60 := by omega
  have hz : checkP l0 = false := by simp [checkP, h60]
  go_enter Try.func17, Try.ntmps17
  go_wp2
  go_ret
  exact ⟨ret_bool hz.symm, Below.refl _ _⟩
theorem r4_Check.calls (A0 : Option Addr) (c0 : Nat) (l0 : List Rule') (r : Bool) (w : World) (hr0 : Kd.C k41 w A0 l0.length l0) (hc0 : l0.length ≤ c0) (h : r4_Check.f l0 = some r) :
  Calls Try.prog 17 #[.slice A0 l0.length c0] w fun e w' => e = .returned (.bool r) ∧ Below w.heap.size w w' := by
 obtain rfl := Option.some.inj h
 exact refCheck_walk A0 c0 l0 w hr0 hc0
end Go.Proofs.Ytjfbfhoipgldgaa.P
end
section
namespace Go.Proofs.Ytjfbfhoipgldgaa.P
open Go.RowKit Go.Proofs.YtjfbfhoipgldgaaW.PrintWords Go.Proofs.YtjfbfhoipgldgaaW.PrintLast Go.Proofs.YtjfbfhoipgldgaaW.PrintMore
attribute [local go_sem] max2_int min2_int max_two min_two max_three min_three max_four min_four   
set_option linter.unusedVariables false
set_option linter.unusedSimpArgs false
attribute [local go_sem high] eqA35
mutual
noncomputable def l4_Rules.l0 : Nat → List (S49) → Int → List (S41) → Int → Option ((List (S41)))
 | 0, _, _, _, _ => none
 | k + 1, x0, x1, x5, x6 => if x6 < (x0.length : Int) then (l4_Rules.j1 k x0 x1 x5 x6 (decide (x6 < 20))) else (l4_Rules.j1 k x0 x1 x5 x6 false)
noncomputable def l4_Rules.j1 : Nat → List (S49) → Int → List (S41) → Int → Bool → Option ((List (S41)))
 | 0, _, _, _, _, _ => none
 | k + 1, x0, x1, x5, x6, x15 => if x15 = true then ((some (([] : List (S41)) : List (S41))).bind fun y187 => (if y187.length + x5.length < 1954687338268 then ((some (y187 ++ x5 : List (S41))).bind fun y190 => (if 0 ≤ x6 then (if x6 < (x0.length : Int) then ((l4_Raw_Make.f k ((rd_T49 x0 x6).f0) ((rd_T49 x0 x6).f1) ((rd_T49 x0 x6).f2) ((rd_T49 x0 x6).f3) ((rd_T49 x0 x6).f4) x1).bind fun bt194 => (if y190.length < 1954687338268 then ((some (y190 ++ [(⟨bt194.1, bt194.2.1, (⟨bt194.2.2.1, bt194.2.2.2.1⟩ : S39), bt194.2.2.2.2⟩ : S41)] : List (S41))).bind fun y203 => ((r4_Check.f y203).bind fun t206 => (if t206 = true then (l4_Rules.l0 k x0 x1 y203 (wrap64 (x6 + 1))) else (l4_Rules.l0 k x0 x1 x5 (wrap64 (x6 + 1)))))) else (none))) else (none)) else (none))) else (none))) else (some x5)
end
noncomputable def l4_Rules.f (k : Nat) (l0 : List (S49)) (a1 : Int) : Option ((List (S41))) := l4_Rules.l0 k l0 a1 ([] : List (S41)) 0
theorem l4_Rules.mono_l : ∀ k, (∀ y0 y1 y2 y3, LeO (l4_Rules.l0 k y0 y1 y2 y3) (l4_Rules.l0 (k + 1) y0 y1 y2 y3)) ∧ (∀ y0 y1 y2 y3 y4, LeO (l4_Rules.j1 k y0 y1 y2 y3 y4) (l4_Rules.j1 (k + 1) y0 y1 y2 y3 y4))
 | 0 => ⟨fun _ _ _ _ r h => by simp [l4_Rules.l0] at h, fun _ _ _ _ _ r h => by simp [l4_Rules.j1] at h⟩
 | k + 1 => by
  obtain ⟨ih0, ih1⟩ := l4_Rules.mono_l k
  refine ⟨?_, ?_⟩
  ·intro y0 y1 y2 y3
   unfold l4_Rules.l0
   repeat' first
   | (with_reducible exact ih0 _ _ _ _)
   | (with_reducible exact ih1 _ _ _ _ _)
   | (with_reducible exact l4_Raw_Make.mono _ _ _ _ _ _ _)
   | (with_reducible exact LeO.refl _)
   | (with_reducible exact LeO.none _)
   | (with_reducible refine LeO.ite ?_ ?_)
   | (with_reducible refine LeO.bind ?_ (fun _ => ?_))
   | exact ih0 _ _ _ _
   | exact ih1 _ _ _ _ _
   | exact l4_Raw_Make.mono _ _ _ _ _ _ _
   | exact LeO.none _
   | refine LeO.ite ?_ ?_
   | refine LeO.bind ?_ (fun _ => ?_)
  ·intro y0 y1 y2 y3 y4
   unfold l4_Rules.j1
   repeat' first
   | (with_reducible exact ih0 _ _ _ _)
   | (with_reducible exact ih1 _ _ _ _ _)
   | (with_reducible exact l4_Raw_Make.mono _ _ _ _ _ _ _)
   | (with_reducible exact LeO.refl _)
   | (with_reducible exact LeO.none _)
   | (with_reducible refine LeO.ite ?_ ?_)
   | (with_reducible refine LeO.bind ?_ (fun _ => ?_))
   | exact ih0 _ _ _ _
   | exact ih1 _ _ _ _ _
   | exact l4_Raw_Make.mono _ _ _ _ _ _ _
   | exact LeO.none _
   | refine LeO.ite ?_ ?_
   | refine LeO.bind ?_ (fun _ => ?_)
theorem l4_Rules.mono : ∀ a0 a1 k, LeO (l4_Rules.f k a0 a1) (l4_Rules.f (k + 1) a0 a1) := by
 intro a0 a1 k
 obtain ⟨ih0, ih1⟩ := l4_Rules.mono_l k
 unfold l4_Rules.f
 repeat' first
   | (with_reducible exact ih0 _ _ _ _)
   | (with_reducible exact ih1 _ _ _ _ _)
   | (with_reducible exact l4_Raw_Make.mono _ _ _ _ _ _ _)
   | (with_reducible exact LeO.refl _)
   | (with_reducible exact LeO.none _)
   | (with_reducible refine LeO.ite ?_ ?_)
   | (with_reducible refine LeO.bind ?_ (fun _ => ?_))
   | exact ih0 _ _ _ _
   | exact ih1 _ _ _ _ _
   | exact l4_Raw_Make.mono _ _ _ _ _ _ _
   | exact LeO.none _
   | refine LeO.ite ?_ ?_
   | refine LeO.bind ?_ (fun _ => ?_)
def l4_Rules.T5 : Bool × List (List Nat × List Nat) := (true, [([], []), ([], []), ([0, 1], [0, 1]), ([], []), ([], []), ([3, 4], [3, 4]), ([5], [5]), ([], []), ([6, 7, 2], [6, 7]), ([8], [8]), ([2, 9, 8], [2, 9]), ([10, 10, 0, 1, 2, 3, 4, 5, 6, 7, 8, 9, 10], [10])])
def l4_Rules.B5 : List Nat := [0, 0, 3, 0, 0, 24, 56, 0, 255, 511, 1023, 2047]
theorem l4_Rules.tab5 : rtab .any (opsOf Try.f11 5) = l4_Rules.T5 := by kernel_rfl
theorem l4_Rules.bits5 : waitsOk l4_Rules.T5.2 l4_Rules.B5 = true := by kernel_rfl
set_option maxHeartbeats 8000000 in
set_option maxRecDepth 100000 in
theorem l4_Rules.calls (k : Nat) (A0 : Option Addr) (c0 : Nat) (l0 : List (S49)) (a1 : Int) (r : List (S41)) (w : World) (hr0 : Kd.C k49 w A0 l0.length l0) (hc0 : l0.length ≤ c0) (h : l4_Rules.f k l0 a1 = some r) :
  Calls Try.prog 11 #[.slice A0 l0.length c0, .int .i64 a1] w fun e w' => ∃ v0_ : Value, e = .returned (v0_) ∧ Kd.N k41 41 w' w.heap.size (fun k_ => (w.heap.size ≤ k_)) v0_ r ∧ Below w.heap.size w w' := by
 have hu49 := Try.underlying49
 have HR0 := Aside0.mk hr0
 have HC0 := Aside0.mk hc0
 clear hr0 hc0
 have HB := Aside0.mk (Below.refl w.heap.size w)
 have H : (l4_Rules.l0 k l0 a1 ([] : List (S41)) 0) = some r := h
 clear h
 have H' := Aside0.mk H
 clear H
 go_enter Try.func11, Try.ntmps11
 go_wp2
 go_loopg [5, 6] k (fun kq v5 v6 w' => ∃ (x5_1 : List (S41)) (x6_1 : Int), v6 = .int .i64 x6_1 ∧ Aside0 (l4_Rules.l0 kq l0 a1 x5_1 x6_1 = some r) ∧ Aside0 (kq ≤ k) ∧ Aside0 (Kd.N k41 41 w' w.heap.size (fun k_ => (w.heap.size ≤ k_)) v5 x5_1) ∧ Aside0 (Below w.heap.size w w'))
 case atStart => exact ⟨(([] : List (S41))), (0), (by first | rfl | (simp; done) | (simp [*]; done)), H', ⟨Nat.le_refl _⟩, ⟨by first | exact Kd.S_nil _ _ _ _ _ | exact Kd.N_nil _ _ _ _ _ | exact Kd.V_nil _ _ _ _ _ | exact Kd.Q_nil _ _ _ _ _ | exact Kd.R_nil _ _ _ _ _⟩, ⟨by repeat (first | (with_reducible first | exact HB.out | apply below_alloc | apply pw_below_drewN | apply below_drew1) | exact HB.out)⟩⟩
 case round =>
  clear H'
  try clear c1
  try clear p2
  obtain ⟨x5_1, x6_1, rfl, HA, HK1, HO_5, HB⟩ := hrel
  cases gk with
  | zero => exact absurd HA.out (by simp [l4_Rules.l0])
  | succ k1 =>
   have H := HA.out
   clear HA
   simp only [l4_Rules.l0] at H
   have HC3 := Aside0.mk H
   clear H
   go_upto_region 3 with (fail)
   go_cut [15] (fun v15 wc => ∃ (kq : Nat) (x15_2 : Bool), v15 = .bool x15_2 ∧ Aside0 (l4_Rules.j1 kq l0 a1 x5_1 x6_1 x15_2 = some r) ∧ Aside0 (kq ≤ k1) ∧ Aside0 (Kd.N k41 41 wc w.heap.size (fun k_ => (w.heap.size ≤ k_)) u5 x5_1) ∧ Aside0 (Below w.heap.size w wc))
   case first =>
    have H := HC3.out
    clear HC3
    by_cases c4 : x6_1 < (l0.length : Int)
    ·rw [if_pos c4] at H
     have c4b0 : decide (x6_1 < (l0.length : Int)) = true := decide_eq_true c4
     clear c4
     (first | rw [c4b0] | (simp only [i64_w, i32_w]; rw [c4b0]) | skip)
     have H' := Aside0.mk H
     clear H
     go_wp2
     go_meet
     case rel => exact ⟨_, (decide (x6_1 < 20)), (by first | rfl | (simp; done) | (simp [*]; done)), H', ⟨by have := HK1.out; first | omega | exact Nat.le_refl _⟩, ⟨by (with_reducible repeat (first | apply Kd.N_alloc | apply Kd.N_drewN | apply Kd.N_drew)); exact HO_5.out⟩, ⟨by repeat (first | (with_reducible first | exact HB.out | apply below_alloc | apply pw_below_drewN | apply below_drew1) | exact HB.out)⟩⟩
    ·rw [if_neg c4] at H
     have c4b0 : decide (x6_1 < (l0.length : Int)) = false := decide_eq_false c4
     clear c4
     (first | rw [c4b0] | (simp only [i64_w, i32_w]; rw [c4b0]) | skip)
     have H' := Aside0.mk H
     clear H
     go_wp2
     go_meet
     case rel => exact ⟨_, (false), (by first | rfl | (simp; done) | (simp [*]; done)), H', ⟨by have := HK1.out; first | omega | exact Nat.le_refl _⟩, ⟨by (with_reducible repeat (first | apply Kd.N_alloc | apply Kd.N_drewN | apply Kd.N_drew)); exact HO_5.out⟩, ⟨by repeat (first | (with_reducible first | exact HB.out | apply below_alloc | apply pw_below_drewN | apply below_drew1) | exact HB.out)⟩⟩
   case rest =>
    clear HC3
    try clear c1
    try clear p2
    try clear c4
    try clear c4b0
    try clear p2
    obtain ⟨kq, x15_2, rfl, HA, HJ2, HO_5, HB⟩ := hcut
    cases kq with
    | zero => exact absurd HA.out (by simp [l4_Rules.j1])
    | succ kj2 =>
     have H := HA.out
     clear HA
     simp only [l4_Rules.j1] at H
     by_cases c5 : x15_2 = true
     ·subst c5
      have H1 : ((some (([] : List (S41)) : List (S41))).bind fun y187 => (if y187.length + x5_1.length < 1954687338268 then ((some (y187 ++ x5_1 : List (S41))).bind fun y190 => (if 0 ≤ x6_1 then (if x6_1 < (l0.length : Int) then ((l4_Raw_Make.f kj2 ((rd_T49 l0 x6_1).f0) ((rd_T49 l0 x6_1).f1) ((rd_T49 l0 x6_1).f2) ((rd_T49 l0 x6_1).f3) ((rd_T49 l0 x6_1).f4) a1).bind fun bt194 => (if y190.length < 1954687338268 then ((some (y190 ++ [(⟨bt194.1, bt194.2.1, (⟨bt194.2.2.1, bt194.2.2.2.1⟩ : S39), bt194.2.2.2.2⟩ : S41)] : List (S41))).bind fun y203 => ((r4_Check.f y203).bind fun t206 => (if t206 = true then (l4_Rules.l0 kj2 l0 a1 y203 (wrap64 (x6_1 + 1))) else (l4_Rules.l0 kj2 l0 a1 x5_1 (wrap64 (x6_1 + 1)))))) else (none))) else (none)) else (none))) else (none))) = some r := by rw [if_pos rfl] at H; exact H
      clear H
      have H := H1
      clear H1
      obtain ⟨y187, hy187⟩ : ∃ y_ : List (S41), y_ = (([] : List (S41))) := ⟨_, rfl⟩
      replace H : (if y187.length + x5_1.length < 1954687338268 then ((some (y187 ++ x5_1 : List (S41))).bind fun y190 => (if 0 ≤ x6_1 then (if x6_1 < (l0.length : Int) then ((l4_Raw_Make.f kj2 ((rd_T49 l0 x6_1).f0) ((rd_T49 l0 x6_1).f1) ((rd_T49 l0 x6_1).f2) ((rd_T49 l0 x6_1).f3) ((rd_T49 l0 x6_1).f4) a1).bind fun bt194 => (if y190.length < 1954687338268 then ((some (y190 ++ [(⟨bt194.1, bt194.2.1, (⟨bt194.2.2.1, bt194.2.2.2.1⟩ : S39), bt194.2.2.2.2⟩ : S41)] : List (S41))).bind fun y203 => ((r4_Check.f y203).bind fun t206 => (if t206 = true then (l4_Rules.l0 kj2 l0 a1 y203 (wrap64 (x6_1 + 1))) else (l4_Rules.l0 kj2 l0 a1 x5_1 (wrap64 (x6_1 + 1)))))) else (none))) else (none)) else (none))) else (none)) = some r := by first | (rw [hy187]; with_reducible exact H) | (have H2_ := (Option.bind_some _ _).symm.trans H; rw [hy187]; with_reducible exact H2_) | (have H2_ := (Option.bind_some _ _).symm.trans H; with_reducible exact H2_) | with_reducible exact H | (rw [hy187]; exact H) | exact H
      have Ny187 := Aside0.mk hy187
      clear hy187
      by_cases c6 : y187.length + x5_1.length < 1954687338268
      ·rw [if_pos c6] at H
       have LMc6 := Aside0.mk c6
       clear c6
       obtain ⟨y190, hy190⟩ : ∃ y_ : List (S41), y_ = (y187 ++ x5_1) := ⟨_, rfl⟩
       replace H : (if 0 ≤ x6_1 then (if x6_1 < (l0.length : Int) then ((l4_Raw_Make.f kj2 ((rd_T49 l0 x6_1).f0) ((rd_T49 l0 x6_1).f1) ((rd_T49 l0 x6_1).f2) ((rd_T49 l0 x6_1).f3) ((rd_T49 l0 x6_1).f4) a1).bind fun bt194 => (if y190.length < 1954687338268 then ((some (y190 ++ [(⟨bt194.1, bt194.2.1, (⟨bt194.2.2.1, bt194.2.2.2.1⟩ : S39), bt194.2.2.2.2⟩ : S41)] : List (S41))).bind fun y203 => ((r4_Check.f y203).bind fun t206 => (if t206 = true then (l4_Rules.l0 kj2 l0 a1 y203 (wrap64 (x6_1 + 1))) else (l4_Rules.l0 kj2 l0 a1 x5_1 (wrap64 (x6_1 + 1)))))) else (none))) else (none)) else (none)) = some r := by first | (rw [hy190]; with_reducible exact H) | (have H2_ := (Option.bind_some _ _).symm.trans H; rw [hy190]; with_reducible exact H2_) | (have H2_ := (Option.bind_some _ _).symm.trans H; with_reducible exact H2_) | with_reducible exact H | (rw [hy190]; exact H) | exact H
       have Ny190 := Aside0.mk hy190
       clear hy190
       by_cases c7 : 0 ≤ x6_1
       ·rw [if_pos c7] at H
        have c7b0 : decide (0 ≤ x6_1) = true := decide_eq_true c7
        clear c7
        by_cases c8 : x6_1 < (l0.length : Int)
        ·rw [if_pos c8] at H
         have c8b0 : decide (x6_1 < (l0.length : Int)) = true := decide_eq_true c8
         clear c8
         replace H := Option.bind_eq_some_iff.mp H
         obtain ⟨⟨t194, t195, t198, t199, t202⟩, A90, H⟩ := H
         replace H : (if y190.length < 1954687338268 then ((some (y190 ++ [(⟨t194, t195, (⟨t198, t199⟩ : S39), t202⟩ : S41)] : List (S41))).bind fun y203 => ((r4_Check.f y203).bind fun t206 => (if t206 = true then (l4_Rules.l0 kj2 l0 a1 y203 (wrap64 (x6_1 + 1))) else (l4_Rules.l0 kj2 l0 a1 x5_1 (wrap64 (x6_1 + 1)))))) else (none)) = some r := H
         have A9 := Aside0.mk A90
         clear A90
         by_cases c10 : y190.length < 1954687338268
         ·rw [if_pos c10] at H
          have LMc10 := Aside0.mk c10
          clear c10
          obtain ⟨y203, hy203⟩ : ∃ y_ : List (S41), y_ = (y190 ++ [(⟨t194, t195, (⟨t198, t199⟩ : S39), t202⟩ : S41)]) := ⟨_, rfl⟩
          replace H : ((r4_Check.f y203).bind fun t206 => (if t206 = true then (l4_Rules.l0 kj2 l0 a1 y203 (wrap64 (x6_1 + 1))) else (l4_Rules.l0 kj2 l0 a1 x5_1 (wrap64 (x6_1 + 1))))) = some r := by first | (rw [hy203]; with_reducible exact H) | (have H2_ := (Option.bind_some _ _).symm.trans H; rw [hy203]; with_reducible exact H2_) | (have H2_ := (Option.bind_some _ _).symm.trans H; with_reducible exact H2_) | with_reducible exact H | (rw [hy203]; exact H) | exact H
          have Ny203 := Aside0.mk hy203
          clear hy203
          replace H := Option.bind_eq_some_iff.mp H
          obtain ⟨t206, A110, H⟩ := H
          replace H : (if t206 = true then (l4_Rules.l0 kj2 l0 a1 y203 (wrap64 (x6_1 + 1))) else (l4_Rules.l0 kj2 l0 a1 x5_1 (wrap64 (x6_1 + 1)))) = some r := H
          have A11 := Aside0.mk A110
          clear A110
          by_cases c12 : t206 = true
          ·subst c12
           have H1 : (l4_Rules.l0 kj2 l0 a1 y203 (wrap64 (x6_1 + 1))) = some r := by rw [if_pos rfl] at H; exact H
           clear H
           have H := H1
           clear H1
           have H' := Aside0.mk H
           clear H
           try go_wp2
           have n0_ := Aside0.mk (Kd.N_drew HO_5.out)
           have n1_ := Aside0.mk (below_drew1 HB.out)
           clear HO_5
           clear HB
           have HO_5 := n0_
           have HB := n1_
           clear n0_ n1_
           have p193 : 0 ≤ (x6_1 : Int) := of_decide_eq_true (by first | (with_reducible assumption) | assumption)
           have q193 : x6_1 < (l0.length : Int) := of_decide_eq_true (by first | (with_reducible assumption) | assumption)
           obtain ⟨ad193, A193_3, c193_3, A193_4, c193_4, e193, hx193_0, hx193_1, hx193_2, hx193_3, hx193_4, hl193_3, hi193_3, hl193_4, hi193_4⟩ := at_T49 HR0.out x6_1 p193 q193
           have hw193_4 := hx193_4
           have hw193_3 := hx193_3
           have hw193_2 := hx193_2
           have hw193_1 := hx193_1
           have hw193_0 := hx193_0
           cases e193
           replace hx193_0 := (HB.out.cell (World.block_lt_of_cell? w _ hx193_0)).trans hx193_0
           replace hx193_1 := (HB.out.cell (World.block_lt_of_cell? w _ hx193_1)).trans hx193_1
           replace hx193_2 := (HB.out.cell (World.block_lt_of_cell? w _ hx193_2)).trans hx193_2
           replace hx193_3 := (HB.out.cell (World.block_lt_of_cell? w _ hx193_3)).trans hx193_3
           replace hx193_4 := (HB.out.cell (World.block_lt_of_cell? w _ hx193_4)).trans hx193_4
           have HR193_3 := Aside0.mk hi193_3
           have HC193_3 := Aside0.mk hl193_3
           clear hi193_3 hl193_3
           have HR193_4 := Aside0.mk hi193_4
           have HC193_4 := Aside0.mk hl193_4
           clear hi193_4 hl193_4
           replace p193 := eq_true p193
           replace q193 := eq_true q193
           refine start_ (n := 12) (S := fun w' => w'.cell? (ad193.add ((x6_1).toNat * 5)) = some (.int .i64 ((rd_T49 l0 x6_1).f0)) ∧ w'.cell? ⟨(ad193.add ((x6_1).toNat * 5)).block, (ad193.add ((x6_1).toNat * 5)).off + 1, none⟩ = some (.int .i64 ((rd_T49 l0 x6_1).f1)) ∧ w'.cell? ⟨(ad193.add ((x6_1).toNat * 5)).block, (ad193.add ((x6_1).toNat * 5)).off + 2, none⟩ = some (.int .i64 ((rd_T49 l0 x6_1).f2)) ∧ w'.cell? ⟨(ad193.add ((x6_1).toNat * 5)).block, (ad193.add ((x6_1).toNat * 5)).off + 3, none⟩ = some (.slice A193_3 ((rd_T49 l0 x6_1).f3).length c193_3) ∧ w'.cell? ⟨(ad193.add ((x6_1).toNat * 5)).block, (ad193.add ((x6_1).toNat * 5)).off + 4, none⟩ = some (.slice A193_4 ((rd_T49 l0 x6_1).f4).length c193_4)) (ds := []) #[false, false, false, false, false, false, false, false, false, false, false, false] (by kernel_rfl) rfl rfl ⟨((HB.out.cell (World.block_lt_of_cell? w _ hw193_0)).trans hw193_0), ((HB.out.cell (World.block_lt_of_cell? w _ hw193_1)).trans hw193_1), ((HB.out.cell (World.block_lt_of_cell? w _ hw193_2)).trans hw193_2), ((HB.out.cell (World.block_lt_of_cell? w _ hw193_3)).trans hw193_3), ((HB.out.cell (World.block_lt_of_cell? w _ hw193_4)).trans hw193_4)⟩ (fun hHeld => ?_); refine with_tabW l4_Rules.tab5 l4_Rules.bits5 (fun HT_ HW_ => ?_)
           generalize wc.drew = w13 at HO_5 HB HR193_3 HR193_4 hx193_0 hx193_1 hx193_2 hx193_3 hx193_4 hHeld ⊢
           refine pure_ (i := 1) (N := some 19) (v := ?_) (a' := ?_) #[false, true, false, false, false, false, false, false, false, false, false, false] rfl rfl (any_of HT_.out (by kernel_rfl)) (fun _ _ _ h => h) (Or.inl ⟨by rfl, ?_⟩) ?_ ?_
           rotate_left
           ·intro w'
            go_simp
            with_reducible rfl
           rotate_left
           ·simp only [Act.put, List.setIfInBounds_toArray, List.set_cons_zero, List.set_cons_succ, i64_w, i32_w]
            rfl
           refine pure_ (i := 3) (N := some 21) (v := ?_) (a' := ?_) #[false, true, false, true, false, false, false, false, false, false, false, false] rfl rfl (any_of HT_.out (by kernel_rfl)) (fun _ _ _ h => h) (Or.inl ⟨by rfl, ?_⟩) ?_ ?_
           rotate_left
           ·intro w'
            go_simp
            with_reducible rfl
           rotate_left
           ·simp only [Act.put, List.setIfInBounds_toArray, List.set_cons_zero, List.set_cons_succ, i64_w, i32_w]
            rfl
           refine pure_ (i := 4) (N := some 22) (v := ?_) (a' := ?_) #[false, true, false, true, true, false, false, false, false, false, false, false] rfl rfl (any_of HT_.out (by kernel_rfl)) (fun _ _ _ h => h) (Or.inl ⟨by rfl, ?_⟩) ?_ ?_
           rotate_left
           ·intro w'
            go_simp
            with_reducible rfl
           rotate_left
           ·simp only [Act.put, List.setIfInBounds_toArray, List.set_cons_zero, List.set_cons_succ, i64_w, i32_w]
            rfl
           refine pure_ (i := 5) (N := some 23) (v := ?_) (a' := ?_) #[false, true, false, true, true, true, false, false, false, false, false, false] rfl rfl (any_of HT_.out (by kernel_rfl)) (fun _ _ _ h => h) (Or.inl ⟨by rfl, ?_⟩) ?_ ?_
           rotate_left
           ·intro w'
            go_simp
            with_reducible rfl
           rotate_left
           ·simp only [Act.put, List.setIfInBounds_toArray, List.set_cons_zero, List.set_cons_succ, i64_w, i32_w]
            rfl
           refine pure_ (i := 7) (N := some 25) (v := ?_) (a' := ?_) #[false, true, false, true, true, true, false, true, false, false, false, false] rfl rfl (any_of HT_.out (by kernel_rfl)) (fun _ _ _ h => h) (Or.inl ⟨by rfl, ?_⟩) ?_ ?_
           rotate_left
           ·intro w'
            go_simp
            with_reducible rfl
           rotate_left
           ·simp only [Act.put, List.setIfInBounds_toArray, List.set_cons_zero, List.set_cons_succ, i64_w, i32_w]
            rfl
           refine take_ (i := 6) (N := some 24) (v := ?_) (a' := ?_) #[false, true, false, true, true, true, true, true, false, false, false, false] rfl rfl (take_ofW HT_.out HW_.out (by kernel_rfl)) (fun _ _ _ h => h) (Or.inl ⟨by rfl, ?_⟩) hHeld ?_ ?_
           rotate_left
           ·rintro w' ⟨s0, s1, s2, s3, s4⟩
            go_simp
            with_reducible rfl
           rotate_left
           ·simp only [Act.put, List.setIfInBounds_toArray, List.set_cons_zero, List.set_cons_succ, i64_w, i32_w]
            rfl
           refine one_ (i := 0) (N := some 18) #[true, true, false, true, true, true, true, true, false, false, false, false] rfl rfl (one_of HT_.out (by kernel_rfl)) (by decide) (fun K hK => ?_)
           refine Kd.N_lit_step k41 _ 41 ?hg (N' := 18) ?hd (xs := ([] : List (S41))) (inner := []) (ok := (fun k_ => (w.heap.size ≤ k_) ∧ some k_ ≠ (u5 : Value).ownBlock)) (okp := (fun k_ => (w.heap.size ≤ k_) ∧ some k_ ≠ (u5 : Value).ownBlock)) ?hr ?hp (fun _ hk => hk) ((show ∀ k_, w13.heap.size ≤ k_ → (fun k_ => (w.heap.size ≤ k_) ∧ some k_ ≠ (u5 : Value).ownBlock) k_ from fun k_ hk => ⟨(Nat.le_trans (below_size (by repeat (first | (with_reducible first | exact HB.out | apply below_alloc | apply pw_below_drewN | apply below_drew1) | exact HB.out))) hk), Kd.fresh' (Kd.N_lt (by (with_reducible repeat (first | apply Kd.N_alloc | apply Kd.N_drewN | apply Kd.N_drew)); exact HO_5.out)) k_ hk⟩) _ (Nat.le_refl _)) (Below.refl _ _) (Nat.le_refl _) (by simp) ?_; (case hd => rfl); (case hg => rfl); (case hr => first | (go_simp; done) | (go_simp; rfl)); (case hp => exact (Reps.none _ _))
           intro v188 w14 ho15 hb hg_ hnew_
           clear hg_ hnew_
           (first | rw [← Ny187.out] at ho15 | (simp only [Int.reduceToNat] at ho15; rw [← Ny187.out] at ho15))
           have n0_ := Aside0.mk (Kd.N_elder' (by (with_reducible repeat (first | apply Kd.N_alloc | apply Kd.N_drewN | apply Kd.N_drew)); exact HO_5.out) (Kd.N_base ho15) hb)
           have n1_ := Aside0.mk (Kd.N_lower ho15 (below_size (by repeat (first | (with_reducible first | exact HB.out | apply below_alloc | apply pw_below_drewN | apply below_drew1) | exact HB.out))))
           have n2_ := Aside0.mk (below_step (by repeat (first | (with_reducible first | exact HB.out | apply below_alloc | apply pw_below_drewN | apply below_drew1) | exact HB.out)) hb)
           clear HO_5
           clear HB
           have HO_5 := n0_
           have HO189 := n1_
           have HB := n2_
           clear n0_ n1_ n2_
           clear hb ho15
           obtain ⟨Ao17, co17, eo17⟩ := Kd.N_slice HO_5.out
           (first | subst eo17 | (injection eo17 with f1_ f2_ f3_; have f4_ := f1_.symm; have f5_ := f3_.symm; clear f1_ f2_ f3_; subst f4_; subst f5_))
           refine hK.out _ _ ⟨((HB.out.cell (World.block_lt_of_cell? w _ hw193_0)).trans hw193_0), ((HB.out.cell (World.block_lt_of_cell? w _ hw193_1)).trans hw193_1), ((HB.out.cell (World.block_lt_of_cell? w _ hw193_2)).trans hw193_2), ((HB.out.cell (World.block_lt_of_cell? w _ hw193_3)).trans hw193_3), ((HB.out.cell (World.block_lt_of_cell? w _ hw193_4)).trans hw193_4)⟩ (fun hHeld => ?_)
           clear hK K
           refine norm_ (a' := ?_) ?_ ?_
           rotate_left
           ·show Act.put _ (some 18) _ = _
            simp only [Act.put, List.setIfInBounds_toArray, List.set_cons_zero, List.set_cons_succ, i64_w, i32_w]
            rfl
           refine one_ (i := 2) (N := some 20) #[true, true, true, true, true, true, true, true, false, false, false, false] rfl rfl (one_of HT_.out (by kernel_rfl)) (by decide) (fun K hK => ?_)
           refine Kd.N_append_rows_step k41 (w0 := w) w.heap.size (by rfl) (.tmp 18) (.tmp 19) 26 41 (.agg #[(.int .i64 0), (.slice none 0 0), (.int .i64 0), (.slice none 0 0), (.int .i64 0)]) 72 rfl Try.underlying26 info41 rfl (by decide) (by omega) v188 y187 x5_1 _ _ _ (fun k_ => (w.heap.size ≤ k_)) (fun k_ => ((fun k_ => (w.heap.size ≤ k_))) k_ ∧ some k_ ≠ (v188 : Value).ownBlock) rfl rfl ?aO ?aR (fun _ hk => hk) ?aF ?aB ?aS ?aL ?_
           (case aR => exact (by skip; exact Kd.N_F (Kd.N_mono (ok' := (fun k_ => ((fun k_ => (w.heap.size ≤ k_))) k_ ∧ some k_ ≠ (v188 : Value).ownBlock)) (HO_5.out) (fun k_ hk => ⟨hk.1, hk.2⟩))))
           (case aB => exact (by repeat (first | (with_reducible first | exact HB.out | apply below_alloc | apply pw_below_drewN | apply below_drew1) | exact HB.out)))
           (case aF => exact (fun k_ hk => (Nat.le_trans (below_size (by repeat (first | (with_reducible first | exact HB.out | apply below_alloc | apply pw_below_drewN | apply below_drew1) | exact HB.out))) hk)))
           (case aO => exact (by (with_reducible repeat (first | apply Kd.N_alloc | apply Kd.N_drewN | apply Kd.N_drew)); exact Kd.N_mono HO189.out (fun _ hk => hk.1)))
           (case aS => exact (below_size (by repeat (first | (with_reducible first | exact HB.out | apply below_alloc | apply pw_below_drewN | apply below_drew1) | exact HB.out))))
           (case aL => have := LMc6.out; omega)
           intro v191 w16 ho hb hg hat
           rw [← Ny190.out] at ho
           have n0_ := Aside0.mk (Kd.N_afterv (ok := (fun k_ => (w.heap.size ≤ k_))) (by (with_reducible repeat (first | apply Kd.N_alloc | apply Kd.N_drewN | apply Kd.N_drew)); exact HO_5.out) hg hat)
           have n1_ := Aside0.mk (hb)
           have n2_ := Aside0.mk (ho)
           clear HO_5
           clear HB
           clear HO189
           have HO_5 := n0_
           have HB := n1_
           have HO192 := n2_
           clear n0_ n1_ n2_
           clear ho hb hg hat
           refine hK.out _ _ ⟨((HB.out.cell (World.block_lt_of_cell? w _ hw193_0)).trans hw193_0), ((HB.out.cell (World.block_lt_of_cell? w _ hw193_1)).trans hw193_1), ((HB.out.cell (World.block_lt_of_cell? w _ hw193_2)).trans hw193_2), ((HB.out.cell (World.block_lt_of_cell? w _ hw193_3)).trans hw193_3), ((HB.out.cell (World.block_lt_of_cell? w _ hw193_4)).trans hw193_4)⟩ (fun hHeld => ?_)
           clear hK K
           refine norm_ (a' := ?_) ?_ ?_
           rotate_left
           ·show Act.put _ (some 20) _ = _
            simp only [Act.put, List.setIfInBounds_toArray, List.set_cons_zero, List.set_cons_succ, i64_w, i32_w]
            rfl
           refine one_ (i := 8) (N := some 26) #[true, true, true, true, true, true, true, true, true, false, false, false] rfl rfl (one_of HT_.out (by kernel_rfl)) (by decide) (fun K hK => ?_)
           refine goes_ Try.func16 (by kernel_rfl) rfl #[.agg #[.int .i64 ((rd_T49 l0 x6_1).f0), .int .i64 ((rd_T49 l0 x6_1).f1), .int .i64 ((rd_T49 l0 x6_1).f2), .slice A193_3 ((rd_T49 l0 x6_1).f3).length c193_3, .slice A193_4 ((rd_T49 l0 x6_1).f4).length c193_4], .int .i64 a1] (by rfl) rfl rfl (by (try simp only [List.map_toArray, List.map_cons, List.map_nil]); first | done | rfl | (simp only [List.length_drop, List.length_take]; rfl)) ?_
           with_reducible refine (l4_Raw_Make.calls kj2 ((rd_T49 l0 x6_1).f0) ((rd_T49 l0 x6_1).f1) ((rd_T49 l0 x6_1).f2) _ _ ((rd_T49 l0 x6_1).f3) _ _ ((rd_T49 l0 x6_1).f4) a1 t194 t195 t198 t199 t202 _ ?side1 ?side2 ?side3 ?side4 A9.out).mono ?_
           (case side1 => repeat (first | exact (Kd.C_below HR193_3.out HB.out) | (with_reducible refine Kd.C_alloc ?_ _) | (with_reducible refine Kd.C_drewN ?_ _) | (with_reducible refine Kd.C_drew ?_)))
           (case side2 => exact HC193_3.out)
           (case side3 => repeat (first | exact (Kd.C_below HR193_4.out HB.out) | (with_reducible refine Kd.C_alloc ?_ _) | (with_reducible refine Kd.C_drewN ?_ _) | (with_reducible refine Kd.C_drew ?_)))
           (case side4 => exact HC193_4.out)
           rintro e w18 ⟨v196, v200, rfl, ho0, ho1, hb⟩
           refine ⟨_, rfl, ?_⟩
           have n0_ := Aside0.mk (Kd.N_mono (Kd.N_told (Kd.N_told (Kd.N_old (by (with_reducible repeat (first | apply Kd.N_alloc | apply Kd.N_drewN | apply Kd.N_drew)); exact HO_5.out) hb) (Kd.R_base ho0)) (Kd.R_base ho1)) (fun _ h_ => h_.1))
           have n1_ := Aside0.mk (Kd.N_mono (Kd.N_told (Kd.N_told (Kd.N_old (by (with_reducible repeat (first | apply Kd.N_alloc | apply Kd.N_drewN | apply Kd.N_drew)); exact HO192.out) hb) (Kd.R_base ho0)) (Kd.R_base ho1)) (fun _ h_ => h_.1))
           have n2_ := Aside0.mk (Kd.R_lower (Kd.R_newM (M := fun k_ => (w.heap.size ≤ k_)) ho0 (below_size (by repeat (first | (with_reducible first | exact HB.out | apply below_alloc | apply pw_below_drewN | apply below_drew1) | exact HB.out))) (fun k_ h_ => h_)) (below_size (by repeat (first | (with_reducible first | exact HB.out | apply below_alloc | apply pw_below_drewN | apply below_drew1) | exact HB.out))))
           have n3_ := Aside0.mk (Kd.R_lower (Kd.R_newM (M := fun k_ => (w.heap.size ≤ k_)) ho1 (below_size (by repeat (first | (with_reducible first | exact HB.out | apply below_alloc | apply pw_below_drewN | apply below_drew1) | exact HB.out))) (fun k_ h_ => h_)) (below_size (by repeat (first | (with_reducible first | exact HB.out | apply below_alloc | apply pw_below_drewN | apply below_drew1) | exact HB.out))))
           have n4_ := Aside0.mk (below_step (by repeat (first | (with_reducible first | exact HB.out | apply below_alloc | apply pw_below_drewN | apply below_drew1) | exact HB.out)) hb)
           clear HO_5
           clear HO192
           clear HB
           have HO_5 := n0_
           have HO192 := n1_
           have HO197 := n2_
           have HO201 := n3_
           have HB := n4_
           clear n0_ n1_ n2_ n3_ n4_
           (try clear hb)
           (try clear hb2)
           (try clear hk)
           (try clear hi)
           (try clear ho0)
           (try clear ho1)
           obtain ⟨Ao20, co20, eo20⟩ := Kd.R_slice HO197.out
           (first | subst eo20 | (injection eo20 with f1_ f2_ f3_; have f4_ := f1_.symm; have f5_ := f3_.symm; clear f1_ f2_ f3_; subst f4_; subst f5_))
           obtain ⟨Ao21, co21, eo21⟩ := Kd.R_slice HO201.out
           (first | subst eo21 | (injection eo21 with f1_ f2_ f3_; have f4_ := f1_.symm; have f5_ := f3_.symm; clear f1_ f2_ f3_; subst f4_; subst f5_))
           refine hK.out _ _ ⟨((HB.out.cell (World.block_lt_of_cell? w _ hw193_0)).trans hw193_0), ((HB.out.cell (World.block_lt_of_cell? w _ hw193_1)).trans hw193_1), ((HB.out.cell (World.block_lt_of_cell? w _ hw193_2)).trans hw193_2), ((HB.out.cell (World.block_lt_of_cell? w _ hw193_3)).trans hw193_3), ((HB.out.cell (World.block_lt_of_cell? w _ hw193_4)).trans hw193_4)⟩ (fun hHeld => ?_)
           clear hK K
           refine norm_ (a' := ?_) ?_ ?_
           rotate_left
           ·show Act.put _ (some 26) _ = _
            simp only [Act.put, List.setIfInBounds_toArray, List.set_cons_zero, List.set_cons_succ, i64_w, i32_w]
            rfl
           refine one_ (i := 9) (N := some 27) #[true, true, true, true, true, true, true, true, true, true, false, false] rfl rfl (one_of HT_.out (by kernel_rfl)) (by decide) (fun K hK => ?_)
           refine value_ (w1 := ?_) (v := ?_) (by rfl) rfl ?_ ?_
           rotate_left 2
           ·go_simp
            constructor
            ·rfl
            ·rfl
           refine hK.out _ _ ⟨(World.cell?_alloc_lt _ _ _ (World.block_lt_of_cell? _ _ (((HB.out.cell (World.block_lt_of_cell? w _ hw193_0)).trans hw193_0)))).trans (((HB.out.cell (World.block_lt_of_cell? w _ hw193_0)).trans hw193_0)), (World.cell?_alloc_lt _ _ _ (World.block_lt_of_cell? _ _ (((HB.out.cell (World.block_lt_of_cell? w _ hw193_1)).trans hw193_1)))).trans (((HB.out.cell (World.block_lt_of_cell? w _ hw193_1)).trans hw193_1)), (World.cell?_alloc_lt _ _ _ (World.block_lt_of_cell? _ _ (((HB.out.cell (World.block_lt_of_cell? w _ hw193_2)).trans hw193_2)))).trans (((HB.out.cell (World.block_lt_of_cell? w _ hw193_2)).trans hw193_2)), (World.cell?_alloc_lt _ _ _ (World.block_lt_of_cell? _ _ (((HB.out.cell (World.block_lt_of_cell? w _ hw193_3)).trans hw193_3)))).trans (((HB.out.cell (World.block_lt_of_cell? w _ hw193_3)).trans hw193_3)), (World.cell?_alloc_lt _ _ _ (World.block_lt_of_cell? _ _ (((HB.out.cell (World.block_lt_of_cell? w _ hw193_4)).trans hw193_4)))).trans (((HB.out.cell (World.block_lt_of_cell? w _ hw193_4)).trans hw193_4))⟩ (fun hHeld => ?_)
           clear hK K
           refine norm_ (a' := ?_) ?_ ?_
           rotate_left
           ·show Act.put _ (some 27) _ = _
            simp only [Act.put, List.setIfInBounds_toArray, List.set_cons_zero, List.set_cons_succ, i64_w, i32_w]
            rfl
           refine one_ (i := 10) (N := some 28) #[true, true, true, true, true, true, true, true, true, true, true, false] rfl rfl (one_of HT_.out (by kernel_rfl)) (by decide) (fun K hK => ?_)
           refine Kd.N_append_step k41 (w0 := w) w.heap.size (by rfl) (.tmp 20) (.tmp 27) 26 41 (.agg #[(.int .i64 0), (.slice none 0 0), (.int .i64 0), (.slice none 0 0), (.int .i64 0)]) 72 rfl Try.underlying26 info41 rfl (by decide) (by omega) v191 y190 (⟨t194, t195, (⟨t198, t199⟩ : S39), t202⟩ : S41) [.int .i64 t194, .slice Ao20 t195.length co20, .int .i64 t198, .slice Ao21 t199.length co21, .int .i64 t202] (fun k_ => (w.heap.size ≤ k_)) (fun k_ => ((fun k_ => (w.heap.size ≤ k_))) k_ ∧ some k_ ≠ (v191 : Value).ownBlock) rfl rfl ?aP (fun _ hk => hk) ?aF ?aO ?aB ?aS ?aL ?_
           (case aP => exact (k41_mkF _ _ (⟨t194, t195, (⟨t198, t199⟩ : S39), t202⟩ : S41) (Kd.R_reads' (Kd.R_mono (ok' := (fun k_ => ((fun k_ => (w.heap.size ≤ k_))) k_ ∧ some k_ ≠ (v191 : Value).ownBlock)) (Kd.R_apart' (HO197.out) (Kd.N_typed HO192.out) (by decide)) (fun k_ hk => ⟨hk.1.1, hk.2⟩))).2.1 (Kd.R_F (Kd.R_mono (ok' := (fun k_ => ((fun k_ => (w.heap.size ≤ k_))) k_ ∧ some k_ ≠ (v191 : Value).ownBlock)) (Kd.R_apart' (HO197.out) (Kd.N_typed HO192.out) (by decide)) (fun k_ hk => ⟨hk.1.1, hk.2⟩))) (Kd.R_reads' (Kd.R_mono (ok' := (fun k_ => ((fun k_ => (w.heap.size ≤ k_))) k_ ∧ some k_ ≠ (v191 : Value).ownBlock)) (Kd.R_apart' (HO201.out) (Kd.N_typed HO192.out) (by decide)) (fun k_ hk => ⟨hk.1.1, hk.2⟩))).2.1 (Kd.R_F (Kd.R_mono (ok' := (fun k_ => ((fun k_ => (w.heap.size ≤ k_))) k_ ∧ some k_ ≠ (v191 : Value).ownBlock)) (Kd.R_apart' (HO201.out) (Kd.N_typed HO192.out) (by decide)) (fun k_ hk => ⟨hk.1.1, hk.2⟩)))))
           (case aB => exact (by repeat (first | (with_reducible first | exact HB.out | apply below_alloc | apply pw_below_drewN | apply below_drew1) | exact HB.out)))
           (case aF => exact (fun k_ hk => (Nat.le_trans (below_size (by repeat (first | (with_reducible first | exact HB.out | apply below_alloc | apply pw_below_drewN | apply below_drew1) | exact HB.out))) hk)))
           (case aO => exact (by (with_reducible repeat (first | apply Kd.N_alloc | apply Kd.N_drewN | apply Kd.N_drew)); exact Kd.N_mono HO192.out (fun _ hk => hk.1.1)))
           (case aS => exact (below_size (by repeat (first | (with_reducible first | exact HB.out | apply below_alloc | apply pw_below_drewN | apply below_drew1) | exact HB.out))))
           (case aL => have := LMc10.out; omega)
           intro v204 w19 ho hb hg hat
           rw [← Ny203.out] at ho
           have n0_ := Aside0.mk (Kd.N_afterv (ok := (fun k_ => (w.heap.size ≤ k_) ∧ some k_ ≠ (.slice Ao20 t195.length co20 : Value).ownBlock ∧ some k_ ≠ (.slice Ao21 t199.length co21 : Value).ownBlock)) (by (with_reducible repeat (first | apply Kd.N_alloc | apply Kd.N_drewN | apply Kd.N_drew)); exact Kd.N_mono HO_5.out (fun _ hk => ⟨⟨hk.1.1.1, ⟨hk.1.2, hk.2⟩⟩, hk.1.1.2⟩)) hg hat)
           have n1_ := Aside0.mk (hb)
           have n2_ := Aside0.mk (ho)
           clear HO_5
           clear HB
           clear HO192
           clear HO197
           clear HO201
           have HO_5 := n0_
           have HB := n1_
           have HO205 := n2_
           clear n0_ n1_ n2_
           clear ho hb hg hat
           refine hK.out _ _ ⟨((HB.out.cell (World.block_lt_of_cell? w _ hw193_0)).trans hw193_0), ((HB.out.cell (World.block_lt_of_cell? w _ hw193_1)).trans hw193_1), ((HB.out.cell (World.block_lt_of_cell? w _ hw193_2)).trans hw193_2), ((HB.out.cell (World.block_lt_of_cell? w _ hw193_3)).trans hw193_3), ((HB.out.cell (World.block_lt_of_cell? w _ hw193_4)).trans hw193_4)⟩ (fun hHeld => ?_)
           clear hK K
           refine norm_ (a' := ?_) ?_ ?_
           rotate_left
           ·show Act.put _ (some 28) _ = _
            simp only [Act.put, List.setIfInBounds_toArray, List.set_cons_zero, List.set_cons_succ, i64_w, i32_w]
            rfl
           refine pure_ (i := 11) (N := some 7) (v := ?_) (a' := ?_) #[true, true, true, true, true, true, true, true, true, true, true, true] rfl rfl (any_of HT_.out (by kernel_rfl)) (fun _ _ _ h => h) (Or.inl ⟨by rfl, ?_⟩) ?_ ?_
           rotate_left
           ·intro w'
            go_simp
            with_reducible rfl
           rotate_left
           ·simp only [Act.put, List.setIfInBounds_toArray, List.set_cons_zero, List.set_cons_succ, i64_w, i32_w]
            rfl
           refine done_ (done_of HT_.out (by kernel_rfl)) ?_
           obtain ⟨Ao22, co22, eo22⟩ := Kd.N_slice HO205.out
           subst eo22
           try go_wp2_with (first | ((with_reducible refine gate_callee (f := 17) rfl ?_); refine goesL_ (some 30) rfl rfl Try.func17 (by kernel_rfl) rfl #[.slice Ao22 y203.length co22] rfl (by (try simp only [List.map_toArray, List.map_cons, List.map_nil]); first | done | rfl | (simp only [List.length_drop, List.length_take]; rfl)) ?_; (with_reducible refine (r4_Check.calls _ _ y203 true _ ?side1 ?side2 A11.out).mono ?_); (case side1 => repeat (first | exact (Kd.N_reads' HO205.out).2.2 | (with_reducible refine Kd.C_alloc ?_ _) | (with_reducible refine Kd.C_drewN ?_ _) | (with_reducible refine Kd.C_drew ?_))); (case side2 => exact (Kd.N_reads' HO205.out).2.1); rintro e w23 ⟨rfl, hb⟩; refine ⟨_, rfl, ?_⟩; have n0_ := Aside0.mk (Kd.N_below (by (with_reducible repeat (first | apply Kd.N_alloc | apply Kd.N_drewN | apply Kd.N_drew)); exact HO_5.out) hb); have n1_ := Aside0.mk (Kd.N_below (by (with_reducible repeat (first | apply Kd.N_alloc | apply Kd.N_drewN | apply Kd.N_drew)); exact HO205.out) hb); have n2_ := Aside0.mk (below_step (by repeat (first | (with_reducible first | exact HB.out | apply below_alloc | apply pw_below_drewN | apply below_drew1) | exact HB.out)) hb); clear HO_5; clear HO205; clear HB; have HO_5 := n0_; have HO205 := n1_; have HB := n2_; clear n0_ n1_ n2_; (try clear hb); (try clear hb2); (try clear hk); (try clear hi)))
           go_roundg kj2
           case measure => have := HK1.out; have := HJ2.out; omega
           case rel => exact ⟨(y203), (wrap64 (x6_1 + 1)), (by first | rfl | (simp; done) | (simp [*]; done)), H', ⟨by have := HK1.out; have := HJ2.out; omega⟩, ⟨by (with_reducible repeat (first | apply Kd.N_alloc | apply Kd.N_drewN | apply Kd.N_drew)); exact HO205.out⟩, ⟨by repeat (first | (with_reducible first | exact HB.out | apply below_alloc | apply pw_below_drewN | apply below_drew1) | exact HB.out)⟩⟩
          ·replace c12 := Bool.eq_false_iff.mpr c12
           subst c12
           have H1 : (l4_Rules.l0 kj2 l0 a1 x5_1 (wrap64 (x6_1 + 1))) = some r := by rw [if_neg (show ¬ (false = true) by decide)] at H; exact H
           clear H
           have H := H1
           clear H1
           have H' := Aside0.mk H
           clear H
           try go_wp2
           have n0_ := Aside0.mk (Kd.N_drew HO_5.out)
           have n1_ := Aside0.mk (below_drew1 HB.out)
           clear HO_5
           clear HB
           have HO_5 := n0_
           have HB := n1_
           clear n0_ n1_
           have p193 : 0 ≤ (x6_1 : Int) := of_decide_eq_true (by first | (with_reducible assumption) | assumption)
           have q193 : x6_1 < (l0.length : Int) := of_decide_eq_true (by first | (with_reducible assumption) | assumption)
           obtain ⟨ad193, A193_3, c193_3, A193_4, c193_4, e193, hx193_0, hx193_1, hx193_2, hx193_3, hx193_4, hl193_3, hi193_3, hl193_4, hi193_4⟩ := at_T49 HR0.out x6_1 p193 q193
           have hw193_4 := hx193_4
           have hw193_3 := hx193_3
           have hw193_2 := hx193_2
           have hw193_1 := hx193_1
           have hw193_0 := hx193_0
           cases e193
           replace hx193_0 := (HB.out.cell (World.block_lt_of_cell? w _ hx193_0)).trans hx193_0
           replace hx193_1 := (HB.out.cell (World.block_lt_of_cell? w _ hx193_1)).trans hx193_1
           replace hx193_2 := (HB.out.cell (World.block_lt_of_cell? w _ hx193_2)).trans hx193_2
           replace hx193_3 := (HB.out.cell (World.block_lt_of_cell? w _ hx193_3)).trans hx193_3
           replace hx193_4 := (HB.out.cell (World.block_lt_of_cell? w _ hx193_4)).trans hx193_4
           have HR193_3 := Aside0.mk hi193_3
           have HC193_3 := Aside0.mk hl193_3
           clear hi193_3 hl193_3
           have HR193_4 := Aside0.mk hi193_4
           have HC193_4 := Aside0.mk hl193_4
           clear hi193_4 hl193_4
           replace p193 := eq_true p193
           replace q193 := eq_true q193
           refine start_ (n := 12) (S := fun w' => w'.cell? (ad193.add ((x6_1).toNat * 5)) = some (.int .i64 ((rd_T49 l0 x6_1).f0)) ∧ w'.cell? ⟨(ad193.add ((x6_1).toNat * 5)).block, (ad193.add ((x6_1).toNat * 5)).off + 1, none⟩ = some (.int .i64 ((rd_T49 l0 x6_1).f1)) ∧ w'.cell? ⟨(ad193.add ((x6_1).toNat * 5)).block, (ad193.add ((x6_1).toNat * 5)).off + 2, none⟩ = some (.int .i64 ((rd_T49 l0 x6_1).f2)) ∧ w'.cell? ⟨(ad193.add ((x6_1).toNat * 5)).block, (ad193.add ((x6_1).toNat * 5)).off + 3, none⟩ = some (.slice A193_3 ((rd_T49 l0 x6_1).f3).length c193_3) ∧ w'.cell? ⟨(ad193.add ((x6_1).toNat * 5)).block, (ad193.add ((x6_1).toNat * 5)).off + 4, none⟩ = some (.slice A193_4 ((rd_T49 l0 x6_1).f4).length c193_4)) (ds := []) #[false, false, false, false, false, false, false, false, false, false, false, false] (by kernel_rfl) rfl rfl ⟨((HB.out.cell (World.block_lt_of_cell? w _ hw193_0)).trans hw193_0), ((HB.out.cell (World.block_lt_of_cell? w _ hw193_1)).trans hw193_1), ((HB.out.cell (World.block_lt_of_cell? w _ hw193_2)).trans hw193_2), ((HB.out.cell (World.block_lt_of_cell? w _ hw193_3)).trans hw193_3), ((HB.out.cell (World.block_lt_of_cell? w _ hw193_4)).trans hw193_4)⟩ (fun hHeld => ?_); refine with_tabW l4_Rules.tab5 l4_Rules.bits5 (fun HT_ HW_ => ?_)
           generalize wc.drew = w24 at HO_5 HB HR193_3 HR193_4 hx193_0 hx193_1 hx193_2 hx193_3 hx193_4 hHeld ⊢
           refine pure_ (i := 1) (N := some 19) (v := ?_) (a' := ?_) #[false, true, false, false, false, false, false, false, false, false, false, false] rfl rfl (any_of HT_.out (by kernel_rfl)) (fun _ _ _ h => h) (Or.inl ⟨by rfl, ?_⟩) ?_ ?_
           rotate_left
           ·intro w'
            go_simp
            with_reducible rfl
           rotate_left
           ·simp only [Act.put, List.setIfInBounds_toArray, List.set_cons_zero, List.set_cons_succ, i64_w, i32_w]
            rfl
           refine pure_ (i := 3) (N := some 21) (v := ?_) (a' := ?_) #[false, true, false, true, false, false, false, false, false, false, false, false] rfl rfl (any_of HT_.out (by kernel_rfl)) (fun _ _ _ h => h) (Or.inl ⟨by rfl, ?_⟩) ?_ ?_
           rotate_left
           ·intro w'
            go_simp
            with_reducible rfl
           rotate_left
           ·simp only [Act.put, List.setIfInBounds_toArray, List.set_cons_zero, List.set_cons_succ, i64_w, i32_w]
            rfl
           refine pure_ (i := 4) (N := some 22) (v := ?_) (a' := ?_) #[false, true, false, true, true, false, false, false, false, false, false, false] rfl rfl (any_of HT_.out (by kernel_rfl)) (fun _ _ _ h => h) (Or.inl ⟨by rfl, ?_⟩) ?_ ?_
           rotate_left
           ·intro w'
            go_simp
            with_reducible rfl
           rotate_left
           ·simp only [Act.put, List.setIfInBounds_toArray, List.set_cons_zero, List.set_cons_succ, i64_w, i32_w]
            rfl
           refine pure_ (i := 5) (N := some 23) (v := ?_) (a' := ?_) #[false, true, false, true, true, true, false, false, false, false, false, false] rfl rfl (any_of HT_.out (by kernel_rfl)) (fun _ _ _ h => h) (Or.inl ⟨by rfl, ?_⟩) ?_ ?_
           rotate_left
           ·intro w'
            go_simp
            with_reducible rfl
           rotate_left
           ·simp only [Act.put, List.setIfInBounds_toArray, List.set_cons_zero, List.set_cons_succ, i64_w, i32_w]
            rfl
           refine pure_ (i := 7) (N := some 25) (v := ?_) (a' := ?_) #[false, true, false, true, true, true, false, true, false, false, false, false] rfl rfl (any_of HT_.out (by kernel_rfl)) (fun _ _ _ h => h) (Or.inl ⟨by rfl, ?_⟩) ?_ ?_
           rotate_left
           ·intro w'
            go_simp
            with_reducible rfl
           rotate_left
           ·simp only [Act.put, List.setIfInBounds_toArray, List.set_cons_zero, List.set_cons_succ, i64_w, i32_w]
            rfl
           refine take_ (i := 6) (N := some 24) (v := ?_) (a' := ?_) #[false, true, false, true, true, true, true, true, false, false, false, false] rfl rfl (take_ofW HT_.out HW_.out (by kernel_rfl)) (fun _ _ _ h => h) (Or.inl ⟨by rfl, ?_⟩) hHeld ?_ ?_
           rotate_left
           ·rintro w' ⟨s0, s1, s2, s3, s4⟩
            go_simp
            with_reducible rfl
           rotate_left
           ·simp only [Act.put, List.setIfInBounds_toArray, List.set_cons_zero, List.set_cons_succ, i64_w, i32_w]
            rfl
           refine one_ (i := 0) (N := some 18) #[true, true, false, true, true, true, true, true, false, false, false, false] rfl rfl (one_of HT_.out (by kernel_rfl)) (by decide) (fun K hK => ?_)
           refine Kd.N_lit_step k41 _ 41 ?hg (N' := 18) ?hd (xs := ([] : List (S41))) (inner := []) (ok := (fun k_ => (w.heap.size ≤ k_) ∧ some k_ ≠ (u5 : Value).ownBlock)) (okp := (fun k_ => (w.heap.size ≤ k_) ∧ some k_ ≠ (u5 : Value).ownBlock)) ?hr ?hp (fun _ hk => hk) ((show ∀ k_, w24.heap.size ≤ k_ → (fun k_ => (w.heap.size ≤ k_) ∧ some k_ ≠ (u5 : Value).ownBlock) k_ from fun k_ hk => ⟨(Nat.le_trans (below_size (by repeat (first | (with_reducible first | exact HB.out | apply below_alloc | apply pw_below_drewN | apply below_drew1) | exact HB.out))) hk), Kd.fresh' (Kd.N_lt (by (with_reducible repeat (first | apply Kd.N_alloc | apply Kd.N_drewN | apply Kd.N_drew)); exact HO_5.out)) k_ hk⟩) _ (Nat.le_refl _)) (Below.refl _ _) (Nat.le_refl _) (by simp) ?_; (case hd => rfl); (case hg => rfl); (case hr => first | (go_simp; done) | (go_simp; rfl)); (case hp => exact (Reps.none _ _))
           intro v188 w25 ho26 hb hg_ hnew_
           clear hg_ hnew_
           (first | rw [← Ny187.out] at ho26 | (simp only [Int.reduceToNat] at ho26; rw [← Ny187.out] at ho26))
           have n0_ := Aside0.mk (Kd.N_elder' (by (with_reducible repeat (first | apply Kd.N_alloc | apply Kd.N_drewN | apply Kd.N_drew)); exact HO_5.out) (Kd.N_base ho26) hb)
           have n1_ := Aside0.mk (Kd.N_lower ho26 (below_size (by repeat (first | (with_reducible first | exact HB.out | apply below_alloc | apply pw_below_drewN | apply below_drew1) | exact HB.out))))
           have n2_ := Aside0.mk (below_step (by repeat (first | (with_reducible first | exact HB.out | apply below_alloc | apply pw_below_drewN | apply below_drew1) | exact HB.out)) hb)
           clear HO_5
           clear HB
           have HO_5 := n0_
           have HO189 := n1_
           have HB := n2_
           clear n0_ n1_ n2_
           clear hb ho26
           obtain ⟨Ao28, co28, eo28⟩ := Kd.N_slice HO_5.out
           (first | subst eo28 | (injection eo28 with f1_ f2_ f3_; have f4_ := f1_.symm; have f5_ := f3_.symm; clear f1_ f2_ f3_; subst f4_; subst f5_))
           refine hK.out _ _ ⟨((HB.out.cell (World.block_lt_of_cell? w _ hw193_0)).trans hw193_0), ((HB.out.cell (World.block_lt_of_cell? w _ hw193_1)).trans hw193_1), ((HB.out.cell (World.block_lt_of_cell? w _ hw193_2)).trans hw193_2), ((HB.out.cell (World.block_lt_of_cell? w _ hw193_3)).trans hw193_3), ((HB.out.cell (World.block_lt_of_cell? w _ hw193_4)).trans hw193_4)⟩ (fun hHeld => ?_)
           clear hK K
           refine norm_ (a' := ?_) ?_ ?_
           rotate_left
           ·show Act.put _ (some 18) _ = _
            simp only [Act.put, List.setIfInBounds_toArray, List.set_cons_zero, List.set_cons_succ, i64_w, i32_w]
            rfl
           refine one_ (i := 2) (N := some 20) #[true, true, true, true, true, true, true, true, false, false, false, false] rfl rfl (one_of HT_.out (by kernel_rfl)) (by decide) (fun K hK => ?_)
           refine Kd.N_append_rows_step k41 (w0 := w) w.heap.size (by rfl) (.tmp 18) (.tmp 19) 26 41 (.agg #[(.int .i64 0), (.slice none 0 0), (.int .i64 0), (.slice none 0 0), (.int .i64 0)]) 72 rfl Try.underlying26 info41 rfl (by decide) (by omega) v188 y187 x5_1 _ _ _ (fun k_ => (w.heap.size ≤ k_)) (fun k_ => ((fun k_ => (w.heap.size ≤ k_))) k_ ∧ some k_ ≠ (v188 : Value).ownBlock) rfl rfl ?aO ?aR (fun _ hk => hk) ?aF ?aB ?aS ?aL ?_
           (case aR => exact (by skip; exact Kd.N_F (Kd.N_mono (ok' := (fun k_ => ((fun k_ => (w.heap.size ≤ k_))) k_ ∧ some k_ ≠ (v188 : Value).ownBlock)) (HO_5.out) (fun k_ hk => ⟨hk.1, hk.2⟩))))
           (case aB => exact (by repeat (first | (with_reducible first | exact HB.out | apply below_alloc | apply pw_below_drewN | apply below_drew1) | exact HB.out)))
           (case aF => exact (fun k_ hk => (Nat.le_trans (below_size (by repeat (first | (with_reducible first | exact HB.out | apply below_alloc | apply pw_below_drewN | apply below_drew1) | exact HB.out))) hk)))
           (case aO => exact (by (with_reducible repeat (first | apply Kd.N_alloc | apply Kd.N_drewN | apply Kd.N_drew)); exact Kd.N_mono HO189.out (fun _ hk => hk.1)))
           (case aS => exact (below_size (by repeat (first | (with_reducible first | exact HB.out | apply below_alloc | apply pw_below_drewN | apply below_drew1) | exact HB.out))))
           (case aL => have := LMc6.out; omega)
           intro v191 w27 ho hb hg hat
           rw [← Ny190.out] at ho
           have n0_ := Aside0.mk (Kd.N_afterv (ok := (fun k_ => (w.heap.size ≤ k_))) (by (with_reducible repeat (first | apply Kd.N_alloc | apply Kd.N_drewN | apply Kd.N_drew)); exact HO_5.out) hg hat)
           have n1_ := Aside0.mk (hb)
           have n2_ := Aside0.mk (ho)
           clear HO_5
           clear HB
           clear HO189
           have HO_5 := n0_
           have HB := n1_
           have HO192 := n2_
           clear n0_ n1_ n2_
           clear ho hb hg hat
           refine hK.out _ _ ⟨((HB.out.cell (World.block_lt_of_cell? w _ hw193_0)).trans hw193_0), ((HB.out.cell (World.block_lt_of_cell? w _ hw193_1)).trans hw193_1), ((HB.out.cell (World.block_lt_of_cell? w _ hw193_2)).trans hw193_2), ((HB.out.cell (World.block_lt_of_cell? w _ hw193_3)).trans hw193_3), ((HB.out.cell (World.block_lt_of_cell? w _ hw193_4)).trans hw193_4)⟩ (fun hHeld => ?_)
           clear hK K
           refine norm_ (a' := ?_) ?_ ?_
           rotate_left
           ·show Act.put _ (some 20) _ = _
            simp only [Act.put, List.setIfInBounds_toArray, List.set_cons_zero, List.set_cons_succ, i64_w, i32_w]
            rfl
           refine one_ (i := 8) (N := some 26) #[true, true, true, true, true, true, true, true, true, false, false, false] rfl rfl (one_of HT_.out (by kernel_rfl)) (by decide) (fun K hK => ?_)
           refine goes_ Try.func16 (by kernel_rfl) rfl #[.agg #[.int .i64 ((rd_T49 l0 x6_1).f0), .int .i64 ((rd_T49 l0 x6_1).f1), .int .i64 ((rd_T49 l0 x6_1).f2), .slice A193_3 ((rd_T49 l0 x6_1).f3).length c193_3, .slice A193_4 ((rd_T49 l0 x6_1).f4).length c193_4], .int .i64 a1] (by rfl) rfl rfl (by (try simp only [List.map_toArray, List.map_cons, List.map_nil]); first | done | rfl | (simp only [List.length_drop, List.length_take]; rfl)) ?_
           with_reducible refine (l4_Raw_Make.calls kj2 ((rd_T49 l0 x6_1).f0) ((rd_T49 l0 x6_1).f1) ((rd_T49 l0 x6_1).f2) _ _ ((rd_T49 l0 x6_1).f3) _ _ ((rd_T49 l0 x6_1).f4) a1 t194 t195 t198 t199 t202 _ ?side1 ?side2 ?side3 ?side4 A9.out).mono ?_
           (case side1 => repeat (first | exact (Kd.C_below HR193_3.out HB.out) | (with_reducible refine Kd.C_alloc ?_ _) | (with_reducible refine Kd.C_drewN ?_ _) | (with_reducible refine Kd.C_drew ?_)))
           (case side2 => exact HC193_3.out)
           (case side3 => repeat (first | exact (Kd.C_below HR193_4.out HB.out) | (with_reducible refine Kd.C_alloc ?_ _) | (with_reducible refine Kd.C_drewN ?_ _) | (with_reducible refine Kd.C_drew ?_)))
           (case side4 => exact HC193_4.out)
           rintro e w29 ⟨v196, v200, rfl, ho0, ho1, hb⟩
           refine ⟨_, rfl, ?_⟩
           have n0_ := Aside0.mk (Kd.N_mono (Kd.N_told (Kd.N_told (Kd.N_old (by (with_reducible repeat (first | apply Kd.N_alloc | apply Kd.N_drewN | apply Kd.N_drew)); exact HO_5.out) hb) (Kd.R_base ho0)) (Kd.R_base ho1)) (fun _ h_ => h_.1))
           have n1_ := Aside0.mk (Kd.N_mono (Kd.N_told (Kd.N_told (Kd.N_old (by (with_reducible repeat (first | apply Kd.N_alloc | apply Kd.N_drewN | apply Kd.N_drew)); exact HO192.out) hb) (Kd.R_base ho0)) (Kd.R_base ho1)) (fun _ h_ => h_.1))
           have n2_ := Aside0.mk (Kd.R_lower (Kd.R_newM (M := fun k_ => (w.heap.size ≤ k_)) ho0 (below_size (by repeat (first | (with_reducible first | exact HB.out | apply below_alloc | apply pw_below_drewN | apply below_drew1) | exact HB.out))) (fun k_ h_ => h_)) (below_size (by repeat (first | (with_reducible first | exact HB.out | apply below_alloc | apply pw_below_drewN | apply below_drew1) | exact HB.out))))
           have n3_ := Aside0.mk (Kd.R_lower (Kd.R_newM (M := fun k_ => (w.heap.size ≤ k_)) ho1 (below_size (by repeat (first | (with_reducible first | exact HB.out | apply below_alloc | apply pw_below_drewN | apply below_drew1) | exact HB.out))) (fun k_ h_ => h_)) (below_size (by repeat (first | (with_reducible first | exact HB.out | apply below_alloc | apply pw_below_drewN | apply below_drew1) | exact HB.out))))
           have n4_ := Aside0.mk (below_step (by repeat (first | (with_reducible first | exact HB.out | apply below_alloc | apply pw_below_drewN | apply below_drew1) | exact HB.out)) hb)
           clear HO_5
           clear HO192
           clear HB
           have HO_5 := n0_
           have HO192 := n1_
           have HO197 := n2_
           have HO201 := n3_
           have HB := n4_
           clear n0_ n1_ n2_ n3_ n4_
           (try clear hb)
           (try clear hb2)
           (try clear hk)
           (try clear hi)
           (try clear ho0)
           (try clear ho1)
           obtain ⟨Ao31, co31, eo31⟩ := Kd.R_slice HO197.out
           (first | subst eo31 | (injection eo31 with f1_ f2_ f3_; have f4_ := f1_.symm; have f5_ := f3_.symm; clear f1_ f2_ f3_; subst f4_; subst f5_))
           obtain ⟨Ao32, co32, eo32⟩ := Kd.R_slice HO201.out
           (first | subst eo32 | (injection eo32 with f1_ f2_ f3_; have f4_ := f1_.symm; have f5_ := f3_.symm; clear f1_ f2_ f3_; subst f4_; subst f5_))
           refine hK.out _ _ ⟨((HB.out.cell (World.block_lt_of_cell? w _ hw193_0)).trans hw193_0), ((HB.out.cell (World.block_lt_of_cell? w _ hw193_1)).trans hw193_1), ((HB.out.cell (World.block_lt_of_cell? w _ hw193_2)).trans hw193_2), ((HB.out.cell (World.block_lt_of_cell? w _ hw193_3)).trans hw193_3), ((HB.out.cell (World.block_lt_of_cell? w _ hw193_4)).trans hw193_4)⟩ (fun hHeld => ?_)
           clear hK K
           refine norm_ (a' := ?_) ?_ ?_
           rotate_left
           ·show Act.put _ (some 26) _ = _
            simp only [Act.put, List.setIfInBounds_toArray, List.set_cons_zero, List.set_cons_succ, i64_w, i32_w]
            rfl
           refine one_ (i := 9) (N := some 27) #[true, true, true, true, true, true, true, true, true, true, false, false] rfl rfl (one_of HT_.out (by kernel_rfl)) (by decide) (fun K hK => ?_)
           refine value_ (w1 := ?_) (v := ?_) (by rfl) rfl ?_ ?_
           rotate_left 2
           ·go_simp
            constructor
            ·rfl
            ·rfl
           refine hK.out _ _ ⟨(World.cell?_alloc_lt _ _ _ (World.block_lt_of_cell? _ _ (((HB.out.cell (World.block_lt_of_cell? w _ hw193_0)).trans hw193_0)))).trans (((HB.out.cell (World.block_lt_of_cell? w _ hw193_0)).trans hw193_0)), (World.cell?_alloc_lt _ _ _ (World.block_lt_of_cell? _ _ (((HB.out.cell (World.block_lt_of_cell? w _ hw193_1)).trans hw193_1)))).trans (((HB.out.cell (World.block_lt_of_cell? w _ hw193_1)).trans hw193_1)), (World.cell?_alloc_lt _ _ _ (World.block_lt_of_cell? _ _ (((HB.out.cell (World.block_lt_of_cell? w _ hw193_2)).trans hw193_2)))).trans (((HB.out.cell (World.block_lt_of_cell? w _ hw193_2)).trans hw193_2)), (World.cell?_alloc_lt _ _ _ (World.block_lt_of_cell? _ _ (((HB.out.cell (World.block_lt_of_cell? w _ hw193_3)).trans hw193_3)))).trans (((HB.out.cell (World.block_lt_of_cell? w _ hw193_3)).trans hw193_3)), (World.cell?_alloc_lt _ _ _ (World.block_lt_of_cell? _ _ (((HB.out.cell (World.block_lt_of_cell? w _ hw193_4)).trans hw193_4)))).trans (((HB.out.cell (World.block_lt_of_cell? w _ hw193_4)).trans hw193_4))⟩ (fun hHeld => ?_)
           clear hK K
           refine norm_ (a' := ?_) ?_ ?_
           rotate_left
           ·show Act.put _ (some 27) _ = _
            simp only [Act.put, List.setIfInBounds_toArray, List.set_cons_zero, List.set_cons_succ, i64_w, i32_w]
            rfl
           refine one_ (i := 10) (N := some 28) #[true, true, true, true, true, true, true, true, true, true, true, false] rfl rfl (one_of HT_.out (by kernel_rfl)) (by decide) (fun K hK => ?_)
           refine Kd.N_append_step k41 (w0 := w) w.heap.size (by rfl) (.tmp 20) (.tmp 27) 26 41 (.agg #[(.int .i64 0), (.slice none 0 0), (.int .i64 0), (.slice none 0 0), (.int .i64 0)]) 72 rfl Try.underlying26 info41 rfl (by decide) (by omega) v191 y190 (⟨t194, t195, (⟨t198, t199⟩ : S39), t202⟩ : S41) [.int .i64 t194, .slice Ao31 t195.length co31, .int .i64 t198, .slice Ao32 t199.length co32, .int .i64 t202] (fun k_ => (w.heap.size ≤ k_)) (fun k_ => ((fun k_ => (w.heap.size ≤ k_))) k_ ∧ some k_ ≠ (v191 : Value).ownBlock) rfl rfl ?aP (fun _ hk => hk) ?aF ?aO ?aB ?aS ?aL ?_
           (case aP => exact (k41_mkF _ _ (⟨t194, t195, (⟨t198, t199⟩ : S39), t202⟩ : S41) (Kd.R_reads' (Kd.R_mono (ok' := (fun k_ => ((fun k_ => (w.heap.size ≤ k_))) k_ ∧ some k_ ≠ (v191 : Value).ownBlock)) (Kd.R_apart' (HO197.out) (Kd.N_typed HO192.out) (by decide)) (fun k_ hk => ⟨hk.1.1, hk.2⟩))).2.1 (Kd.R_F (Kd.R_mono (ok' := (fun k_ => ((fun k_ => (w.heap.size ≤ k_))) k_ ∧ some k_ ≠ (v191 : Value).ownBlock)) (Kd.R_apart' (HO197.out) (Kd.N_typed HO192.out) (by decide)) (fun k_ hk => ⟨hk.1.1, hk.2⟩))) (Kd.R_reads' (Kd.R_mono (ok' := (fun k_ => ((fun k_ => (w.heap.size ≤ k_))) k_ ∧ some k_ ≠ (v191 : Value).ownBlock)) (Kd.R_apart' (HO201.out) (Kd.N_typed HO192.out) (by decide)) (fun k_ hk => ⟨hk.1.1, hk.2⟩))).2.1 (Kd.R_F (Kd.R_mono (ok' := (fun k_ => ((fun k_ => (w.heap.size ≤ k_))) k_ ∧ some k_ ≠ (v191 : Value).ownBlock)) (Kd.R_apart' (HO201.out) (Kd.N_typed HO192.out) (by decide)) (fun k_ hk => ⟨hk.1.1, hk.2⟩)))))
           (case aB => exact (by repeat (first | (with_reducible first | exact HB.out | apply below_alloc | apply pw_below_drewN | apply below_drew1) | exact HB.out)))
           (case aF => exact (fun k_ hk => (Nat.le_trans (below_size (by repeat (first | (with_reducible first | exact HB.out | apply below_alloc | apply pw_below_drewN | apply below_drew1) | exact HB.out))) hk)))
           (case aO => exact (by (with_reducible repeat (first | apply Kd.N_alloc | apply Kd.N_drewN | apply Kd.N_drew)); exact Kd.N_mono HO192.out (fun _ hk => hk.1.1)))
           (case aS => exact (below_size (by repeat (first | (with_reducible first | exact HB.out | apply below_alloc | apply pw_below_drewN | apply below_drew1) | exact HB.out))))
           (case aL => have := LMc10.out; omega)
           intro v204 w30 ho hb hg hat
           rw [← Ny203.out] at ho
           have n0_ := Aside0.mk (Kd.N_afterv (ok := (fun k_ => (w.heap.size ≤ k_) ∧ some k_ ≠ (.slice Ao31 t195.length co31 : Value).ownBlock ∧ some k_ ≠ (.slice Ao32 t199.length co32 : Value).ownBlock)) (by (with_reducible repeat (first | apply Kd.N_alloc | apply Kd.N_drewN | apply Kd.N_drew)); exact Kd.N_mono HO_5.out (fun _ hk => ⟨⟨hk.1.1.1, ⟨hk.1.2, hk.2⟩⟩, hk.1.1.2⟩)) hg hat)
           have n1_ := Aside0.mk (hb)
           have n2_ := Aside0.mk (ho)
           clear HO_5
           clear HB
           clear HO192
           clear HO197
           clear HO201
           have HO_5 := n0_
           have HB := n1_
           have HO205 := n2_
           clear n0_ n1_ n2_
           clear ho hb hg hat
           refine hK.out _ _ ⟨((HB.out.cell (World.block_lt_of_cell? w _ hw193_0)).trans hw193_0), ((HB.out.cell (World.block_lt_of_cell? w _ hw193_1)).trans hw193_1), ((HB.out.cell (World.block_lt_of_cell? w _ hw193_2)).trans hw193_2), ((HB.out.cell (World.block_lt_of_cell? w _ hw193_3)).trans hw193_3), ((HB.out.cell (World.block_lt_of_cell? w _ hw193_4)).trans hw193_4)⟩ (fun hHeld => ?_)
           clear hK K
           refine norm_ (a' := ?_) ?_ ?_
           rotate_left
           ·show Act.put _ (some 28) _ = _
            simp only [Act.put, List.setIfInBounds_toArray, List.set_cons_zero, List.set_cons_succ, i64_w, i32_w]
            rfl
           refine pure_ (i := 11) (N := some 7) (v := ?_) (a' := ?_) #[true, true, true, true, true, true, true, true, true, true, true, true] rfl rfl (any_of HT_.out (by kernel_rfl)) (fun _ _ _ h => h) (Or.inl ⟨by rfl, ?_⟩) ?_ ?_
           rotate_left
           ·intro w'
            go_simp
            with_reducible rfl
           rotate_left
           ·simp only [Act.put, List.setIfInBounds_toArray, List.set_cons_zero, List.set_cons_succ, i64_w, i32_w]
            rfl
           refine done_ (done_of HT_.out (by kernel_rfl)) ?_
           obtain ⟨Ao33, co33, eo33⟩ := Kd.N_slice HO205.out
           subst eo33
           try go_wp2_with (first | ((with_reducible refine gate_callee (f := 17) rfl ?_); refine goesL_ (some 30) rfl rfl Try.func17 (by kernel_rfl) rfl #[.slice Ao33 y203.length co33] rfl (by (try simp only [List.map_toArray, List.map_cons, List.map_nil]); first | done | rfl | (simp only [List.length_drop, List.length_take]; rfl)) ?_; (with_reducible refine (r4_Check.calls _ _ y203 false _ ?side1 ?side2 A11.out).mono ?_); (case side1 => repeat (first | exact (Kd.N_reads' HO205.out).2.2 | (with_reducible refine Kd.C_alloc ?_ _) | (with_reducible refine Kd.C_drewN ?_ _) | (with_reducible refine Kd.C_drew ?_))); (case side2 => exact (Kd.N_reads' HO205.out).2.1); rintro e w34 ⟨rfl, hb⟩; refine ⟨_, rfl, ?_⟩; have n0_ := Aside0.mk (Kd.N_below (by (with_reducible repeat (first | apply Kd.N_alloc | apply Kd.N_drewN | apply Kd.N_drew)); exact HO_5.out) hb); have n1_ := Aside0.mk (Kd.N_below (by (with_reducible repeat (first | apply Kd.N_alloc | apply Kd.N_drewN | apply Kd.N_drew)); exact HO205.out) hb); have n2_ := Aside0.mk (below_step (by repeat (first | (with_reducible first | exact HB.out | apply below_alloc | apply pw_below_drewN | apply below_drew1) | exact HB.out)) hb); clear HO_5; clear HO205; clear HB; have HO_5 := n0_; have HO205 := n1_; have HB := n2_; clear n0_ n1_ n2_; (try clear hb); (try clear hb2); (try clear hk); (try clear hi)))
           go_roundg kj2
           case measure => have := HK1.out; have := HJ2.out; omega
           case rel => exact ⟨(x5_1), (wrap64 (x6_1 + 1)), (by first | rfl | (simp; done) | (simp [*]; done)), H', ⟨by have := HK1.out; have := HJ2.out; omega⟩, ⟨by (with_reducible repeat (first | apply Kd.N_alloc | apply Kd.N_drewN | apply Kd.N_drew)); exact Kd.N_mono HO_5.out (fun _ hk => hk.1.1)⟩, ⟨by repeat (first | (with_reducible first | exact HB.out | apply below_alloc | apply pw_below_drewN | apply below_drew1) | exact HB.out)⟩⟩
         ·rw [if_neg c10] at H
          exact absurd H (by simp)
        ·rw [if_neg c8] at H
         exact absurd H (by simp)
       ·rw [if_neg c7] at H
        exact absurd H (by simp)
      ·rw [if_neg c6] at H
       exact absurd H (by simp)
     ·replace c5 := Bool.eq_false_iff.mpr c5
      subst c5
      have H1 : (some x5_1) = some r := by rw [if_neg (show ¬ (false = true) by decide)] at H; exact H
      clear H
      have H := H1
      clear H1
      obtain rfl := Option.some.inj H
      go_wp2
      go_ret
      exact ⟨_, by first | rfl | (simp [errW_none, errW_some] <;> rfl) | (simp [*, errW_none, errW_some] <;> rfl), by (with_reducible repeat (first | apply Kd.N_alloc | apply Kd.N_drewN | apply Kd.N_drew)); exact HO_5.out, by repeat (first | (with_reducible first | exact HB.out | apply below_alloc | apply pw_below_drewN | apply below_drew1) | exact HB.out)⟩
noncomputable def l7_within.f (a0 : Int) (a1 : Int) : Option (Int) := if a1 = 0 then (none) else (if (Int.tmod a0 a1) < 0 then (some (wrap64 ((Int.tmod a0 a1) + a1))) else (some (Int.tmod a0 a1)))
set_option maxHeartbeats 8000000 in
set_option maxRecDepth 100000 in
theorem l7_within.calls (a0 : Int) (a1 : Int) (r : Int) (w : World) (h : l7_within.f a0 a1 = some r) :
  Calls Try.prog 12 #[.int .i64 a0, .int .i64 a1] w fun e w' => e = .returned (.int .i64 r) ∧ Drawn0 w w' := by
 have H : (if a1 = 0 then (none) else (if (Int.tmod a0 a1) < 0 then (some (wrap64 ((Int.tmod a0 a1) + a1))) else (some (Int.tmod a0 a1)))) = some r := h
 clear h
 by_cases c3 : a1 = 0
 ·rw [if_pos c3] at H
  exact absurd H (by simp)
 ·rw [if_neg c3] at H
  have c3b0 : (a1 == 0) = false := beq_eq_false_iff_ne.mpr c3
  have c3b1 : (a1 != 0) = true := bne_iff_ne.mpr c3
  by_cases c4 : (Int.tmod a0 a1) < 0
  ·rw [if_pos c4] at H
   have c4b0 : decide ((Int.tmod a0 a1) < 0) = true := decide_eq_true c4
   clear c4
   obtain rfl := Option.some.inj H
   go_enter Try.func12, Try.ntmps12
   go_wp2
   go_ret
   exact ⟨by first | rfl | (simp; done) | (simp [*]; done), by repeat (first | exact Drawn0.refl _ | apply Drawn0.step)⟩
  ·rw [if_neg c4] at H
   have c4b0 : decide ((Int.tmod a0 a1) < 0) = false := decide_eq_false c4
   clear c4
   obtain rfl := Option.some.inj H
   go_enter Try.func12, Try.ntmps12
   go_wp2
   go_ret
   exact ⟨by first | rfl | (simp; done) | (simp [*]; done), by repeat (first | exact Drawn0.refl _ | apply Drawn0.step)⟩
end Go.Proofs.Ytjfbfhoipgldgaa.P
end
