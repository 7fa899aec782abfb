/- GramOwn: rules are not changed; units, what is reached, may be: asked again they are told alike. Part 3: contracts of the functions that the law reaches, and words for them. -/
import Derived.BigRegion
import Derived.Test.YtjomlfdkmdgclaaMOwn2
section
namespace Go.Proofs.Ytjomlfdkmdgclaa.P
open Go.RowKit Go.Proofs.YtjomlfdkmdgclaaW.PrintWords Go.Proofs.YtjomlfdkmdgclaaW.PrintLast Go.Proofs.YtjomlfdkmdgclaaW.PrintMore
attribute [local go_sem] max2_int min2_int max_two min_two max_three min_three max_four min_four   
set_option linter.unusedVariables false
set_option linter.unusedSimpArgs false
mutual
noncomputable def interlocutorref4_Right.j0 : Nat → Bool → Int → List Int → Int → List Int → Int → Option (Bool)
  | 0, _, _, _, _, _, _ => none
  | k + 1, x36, x139000, x139001, x139002, x139003, x139004 => if x36 = true then (some false) else (interlocutorref4_Right.l0 k 0 x139000 x139001 x139002 x139003 x139004)
noncomputable def interlocutorref4_Right.l0 : Nat → Int → Int → List Int → Int → List Int → Int → Option (Bool)
  | 0, _, _, _, _, _, _ => none
  | k + 1, x3, x139000, x139001, x139002, x139003, x139004 => if x3 < (x139001.length : Int) then (if 0 ≤ x3 then (if (rd x139001 x3) ≥ 20 then (some false) else (if (rd x139001 x3) < (-61) then (some false) else (interlocutorref4_Right.l0 k (wrap64 (x3 + 1)) x139000 x139001 x139002 x139003 x139004))) else (none)) else ((interlocutorref4_wants.f k x139002).bind fun bt141 => (if (x139003.length : Int) < bt141.1 then (interlocutorref4_Right.j2 k true x139000 x139001 x139002 x139003 x139004) else (interlocutorref4_Right.j2 k (decide ((x139003.length : Int) > bt141.2)) x139000 x139001 x139002 x139003 x139004)))
noncomputable def interlocutorref4_Right.j2 : Nat → Bool → Int → List Int → Int → List Int → Int → Option (Bool)
  | 0, _, _, _, _, _, _ => none
  | k + 1, x78, x139000, x139001, x139002, x139003, x139004 => if x78 = true then (some false) else (interlocutorref4_Right.l1 k 0 x139000 x139001 x139002 x139003 x139004)
noncomputable def interlocutorref4_Right.l1 : Nat → Int → Int → List Int → Int → List Int → Int → Option (Bool)
  | 0, _, _, _, _, _, _ => none
  | k + 1, x6, x139000, x139001, x139002, x139003, x139004 => if x6 < (x139003.length : Int) then (if 0 ≤ x6 then (if (rd x139003 x6) < 0 then (some false) else (if (rd x139003 x6) ≥ (x139001.length : Int) then (some false) else (interlocutorref4_Right.l1 k (wrap64 (x6 + 1)) x139000 x139001 x139002 x139003 x139004))) else (none)) else (some true)
end
noncomputable def interlocutorref4_Right.f (k : Nat) (a0_0 : Int) (l0_1 : List Int) (a0_2 : Int) (l0_3 : List Int) (a0_4 : Int) : Option (Bool) := if a0_0 < 0 then (interlocutorref4_Right.j0 k true a0_0 l0_1 a0_2 l0_3 a0_4) else (if a0_0 ≥ 20 then (interlocutorref4_Right.j0 k true a0_0 l0_1 a0_2 l0_3 a0_4) else (if (l0_1.length : Int) < 1 then (interlocutorref4_Right.j0 k true a0_0 l0_1 a0_2 l0_3 a0_4) else (if (l0_1.length : Int) > 6 then (interlocutorref4_Right.j0 k true a0_0 l0_1 a0_2 l0_3 a0_4) else (if a0_4 < 0 then (interlocutorref4_Right.j0 k true a0_0 l0_1 a0_2 l0_3 a0_4) else (interlocutorref4_Right.j0 k (decide (a0_4 > 100)) a0_0 l0_1 a0_2 l0_3 a0_4)))))
theorem interlocutorref4_Right.mono_l : ∀ k, (∀ y0 y1 y2 y3 y4 y5, LeO (interlocutorref4_Right.j0 k y0 y1 y2 y3 y4 y5) (interlocutorref4_Right.j0 (k + 1) y0 y1 y2 y3 y4 y5)) ∧ (∀ y0 y1 y2 y3 y4 y5, LeO (interlocutorref4_Right.l0 k y0 y1 y2 y3 y4 y5) (interlocutorref4_Right.l0 (k + 1) y0 y1 y2 y3 y4 y5)) ∧ (∀ y0 y1 y2 y3 y4 y5, LeO (interlocutorref4_Right.j2 k y0 y1 y2 y3 y4 y5) (interlocutorref4_Right.j2 (k + 1) y0 y1 y2 y3 y4 y5)) ∧ (∀ y0 y1 y2 y3 y4 y5, LeO (interlocutorref4_Right.l1 k y0 y1 y2 y3 y4 y5) (interlocutorref4_Right.l1 (k + 1) y0 y1 y2 y3 y4 y5))
  | 0 => ⟨fun _ _ _ _ _ _ r h => by simp [interlocutorref4_Right.j0] at h, fun _ _ _ _ _ _ r h => by simp [interlocutorref4_Right.l0] at h, fun _ _ _ _ _ _ r h => by simp [interlocutorref4_Right.j2] at h, fun _ _ _ _ _ _ r h => by simp [interlocutorref4_Right.l1] at h⟩
  | k + 1 => by
    obtain ⟨ih0, ih1, ih2, ih3⟩ := interlocutorref4_Right.mono_l k
    refine ⟨?_, ?_, ?_, ?_⟩
    · intro y0 y1 y2 y3 y4 y5
      unfold interlocutorref4_Right.j0
      repeat' first
      | (with_reducible exact ih0 _ _ _ _ _ _)
      | (with_reducible exact ih1 _ _ _ _ _ _)
      | (with_reducible exact ih2 _ _ _ _ _ _)
      | (with_reducible exact ih3 _ _ _ _ _ _)
      | (with_reducible exact interlocutorref4_wants.mono _ _)
      | (with_reducible exact LeO.refl _)
      | (with_reducible exact LeO.none _)
      | (with_reducible refine LeO.ite ?_ ?_)
      | (with_reducible refine LeO.bind ?_ (fun _ => ?_))
      | exact ih0 _ _ _ _ _ _
      | exact ih1 _ _ _ _ _ _
      | exact ih2 _ _ _ _ _ _
      | exact ih3 _ _ _ _ _ _
      | exact interlocutorref4_wants.mono _ _
      | exact LeO.none _
      | refine LeO.ite ?_ ?_
      | refine LeO.bind ?_ (fun _ => ?_)
    · intro y0 y1 y2 y3 y4 y5
      unfold interlocutorref4_Right.l0
      repeat' first
      | (with_reducible exact ih0 _ _ _ _ _ _)
      | (with_reducible exact ih1 _ _ _ _ _ _)
      | (with_reducible exact ih2 _ _ _ _ _ _)
      | (with_reducible exact ih3 _ _ _ _ _ _)
      | (with_reducible exact interlocutorref4_wants.mono _ _)
      | (with_reducible exact LeO.refl _)
      | (with_reducible exact LeO.none _)
      | (with_reducible refine LeO.ite ?_ ?_)
      | (with_reducible refine LeO.bind ?_ (fun _ => ?_))
      | exact ih0 _ _ _ _ _ _
      | exact ih1 _ _ _ _ _ _
      | exact ih2 _ _ _ _ _ _
      | exact ih3 _ _ _ _ _ _
      | exact interlocutorref4_wants.mono _ _
      | exact LeO.none _
      | refine LeO.ite ?_ ?_
      | refine LeO.bind ?_ (fun _ => ?_)
    · intro y0 y1 y2 y3 y4 y5
      unfold interlocutorref4_Right.j2
      repeat' first
      | (with_reducible exact ih0 _ _ _ _ _ _)
      | (with_reducible exact ih1 _ _ _ _ _ _)
      | (with_reducible exact ih2 _ _ _ _ _ _)
      | (with_reducible exact ih3 _ _ _ _ _ _)
      | (with_reducible exact interlocutorref4_wants.mono _ _)
      | (with_reducible exact LeO.refl _)
      | (with_reducible exact LeO.none _)
      | (with_reducible refine LeO.ite ?_ ?_)
      | (with_reducible refine LeO.bind ?_ (fun _ => ?_))
      | exact ih0 _ _ _ _ _ _
      | exact ih1 _ _ _ _ _ _
      | exact ih2 _ _ _ _ _ _
      | exact ih3 _ _ _ _ _ _
      | exact interlocutorref4_wants.mono _ _
      | exact LeO.none _
      | refine LeO.ite ?_ ?_
      | refine LeO.bind ?_ (fun _ => ?_)
    · intro y0 y1 y2 y3 y4 y5
      unfold interlocutorref4_Right.l1
      repeat' first
      | (with_reducible exact ih0 _ _ _ _ _ _)
      | (with_reducible exact ih1 _ _ _ _ _ _)
      | (with_reducible exact ih2 _ _ _ _ _ _)
      | (with_reducible exact ih3 _ _ _ _ _ _)
      | (with_reducible exact interlocutorref4_wants.mono _ _)
      | (with_reducible exact LeO.refl _)
      | (with_reducible exact LeO.none _)
      | (with_reducible refine LeO.ite ?_ ?_)
      | (with_reducible refine LeO.bind ?_ (fun _ => ?_))
      | exact ih0 _ _ _ _ _ _
      | exact ih1 _ _ _ _ _ _
      | exact ih2 _ _ _ _ _ _
      | exact ih3 _ _ _ _ _ _
      | exact interlocutorref4_wants.mono _ _
      | exact LeO.none _
      | refine LeO.ite ?_ ?_
      | refine LeO.bind ?_ (fun _ => ?_)
theorem interlocutorref4_Right.mono : ∀ a0 a1 a2 a3 a4 k, LeO (interlocutorref4_Right.f k a0 a1 a2 a3 a4) (interlocutorref4_Right.f (k + 1) a0 a1 a2 a3 a4) := by
  intro a0 a1 a2 a3 a4 k
  obtain ⟨ih0, ih1, ih2, ih3⟩ := interlocutorref4_Right.mono_l k
  unfold interlocutorref4_Right.f
  repeat' first
      | (with_reducible exact ih0 _ _ _ _ _ _)
      | (with_reducible exact ih1 _ _ _ _ _ _)
      | (with_reducible exact ih2 _ _ _ _ _ _)
      | (with_reducible exact ih3 _ _ _ _ _ _)
      | (with_reducible exact interlocutorref4_wants.mono _ _)
      | (with_reducible exact LeO.refl _)
      | (with_reducible exact LeO.none _)
      | (with_reducible refine LeO.ite ?_ ?_)
      | (with_reducible refine LeO.bind ?_ (fun _ => ?_))
      | exact ih0 _ _ _ _ _ _
      | exact ih1 _ _ _ _ _ _
      | exact ih2 _ _ _ _ _ _
      | exact ih3 _ _ _ _ _ _
      | exact interlocutorref4_wants.mono _ _
      | exact LeO.none _
      | refine LeO.ite ?_ ?_
      | refine LeO.bind ?_ (fun _ => ?_)
set_option maxHeartbeats 8000000 in
set_option maxRecDepth 100000 in
theorem interlocutorref4_Right.calls (k : Nat) (a0_0 : Int) (A0_1 : Option Addr) (c0_1 : Nat) (l0_1 : List Int) (a0_2 : Int) (A0_3 : Option Addr) (c0_3 : Nat) (l0_3 : List Int) (a0_4 : Int) (r : Bool) (w : World) (hr0_1 : Kd.C (Kd.int .i64) w A0_1 l0_1.length l0_1) (hc0_1 : l0_1.length ≤ c0_1) (hr0_3 : Kd.C (Kd.int .i64) w A0_3 l0_3.length l0_3) (hc0_3 : l0_3.length ≤ c0_3) (h : interlocutorref4_Right.f k a0_0 l0_1 a0_2 l0_3 a0_4 = some r) :
    Calls Try.prog 18 #[.agg #[.int .i64 a0_0, .slice A0_1 l0_1.length c0_1, .int .i64 a0_2, .slice A0_3 l0_3.length c0_3, .int .i64 a0_4]] w fun e w' => e = .returned (.bool r) ∧ Below w.heap.size w w' := by
  have hu26 := Try.underlying26
  have HR0_1 := Aside0.mk hr0_1
  have HC0_1 := Aside0.mk hc0_1
  clear hr0_1 hc0_1
  have HR0_3 := Aside0.mk hr0_3
  have HC0_3 := Aside0.mk hc0_3
  clear hr0_3 hc0_3
  have HB := Aside0.mk (Below.refl w.heap.size w)
  have H : (if a0_0 < 0 then (interlocutorref4_Right.j0 k true a0_0 l0_1 a0_2 l0_3 a0_4) else (if a0_0 ≥ 20 then (interlocutorref4_Right.j0 k true a0_0 l0_1 a0_2 l0_3 a0_4) else (if (l0_1.length : Int) < 1 then (interlocutorref4_Right.j0 k true a0_0 l0_1 a0_2 l0_3 a0_4) else (if (l0_1.length : Int) > 6 then (interlocutorref4_Right.j0 k true a0_0 l0_1 a0_2 l0_3 a0_4) else (if a0_4 < 0 then (interlocutorref4_Right.j0 k true a0_0 l0_1 a0_2 l0_3 a0_4) else (interlocutorref4_Right.j0 k (decide (a0_4 > 100)) a0_0 l0_1 a0_2 l0_3 a0_4)))))) = some r := h
  clear h
  have HC2 := Aside0.mk H
  clear H
  go_enter Try.func18, Try.ntmps18
  go_upto_region 1 with (first | ((with_reducible refine gate_dst (N := 1) rfl ?_); (try (refine gate_guard (by rfl) ?_; dsimp only)); refine box_event ?hg (N := 1) ?hd (cs := #[.int .i64 a0_0, .slice A0_1 l0_1.length c0_1, .int .i64 a0_2, .slice A0_3 l0_3.length c0_3, .int .i64 a0_4]) (t := 26) ?hr ?_; (case hd => rfl); (case hg => rfl); (case hr => first | (go_simp; done) | (go_simp; rfl)); intro gb138 hg w3 hbox hb; have n0_ := Aside0.mk (below_step (by repeat (first | (with_reducible first | exact HB.out | apply below_alloc | apply pw_below_drewN | apply below_drew1) | exact HB.out)) hb); have n1_ := Aside0.mk (hbox); have n2_ := Aside0.mk ((by rw [hg]; exact (below_size (by repeat (first | (with_reducible first | exact HB.out | apply below_alloc | apply pw_below_drewN | apply below_drew1) | exact HB.out))) : w.heap.size ≤ gb138)); have n3_ := Aside0.mk ((by rw [hg]; exact (below_size (by repeat (first | (with_reducible first | exact HB.out | apply below_alloc | apply pw_below_drewN | apply below_drew1) | exact HB.out))) : w.heap.size ≤ gb138)); clear HB; have HB := n0_; have BK138 := n1_; have GW138 := n2_; have GE138 := n3_; clear n0_ n1_ n2_ n3_; clear hb hbox hg))
  repeat (go_quiet (first | ((with_reducible refine gate_dst (N := 1) rfl ?_); (try (refine gate_guard (by rfl) ?_; dsimp only)); refine box_event ?hg (N := 1) ?hd (cs := #[.int .i64 a0_0, .slice A0_1 l0_1.length c0_1, .int .i64 a0_2, .slice A0_3 l0_3.length c0_3, .int .i64 a0_4]) (t := 26) ?hr ?_; (case hd => rfl); (case hg => rfl); (case hr => first | (go_simp; done) | (go_simp; rfl)); intro gb138 hg w3 hbox hb; have n0_ := Aside0.mk (below_step (by repeat (first | (with_reducible first | exact HB.out | apply below_alloc | apply pw_below_drewN | apply below_drew1) | exact HB.out)) hb); have n1_ := Aside0.mk (hbox); have n2_ := Aside0.mk ((by rw [hg]; exact (below_size (by repeat (first | (with_reducible first | exact HB.out | apply below_alloc | apply pw_below_drewN | apply below_drew1) | exact HB.out))) : w.heap.size ≤ gb138)); have n3_ := Aside0.mk ((by rw [hg]; exact (below_size (by repeat (first | (with_reducible first | exact HB.out | apply below_alloc | apply pw_below_drewN | apply below_drew1) | exact HB.out))) : w.heap.size ≤ gb138)); clear HB; have HB := n0_; have BK138 := n1_; have GW138 := n2_; have GE138 := n3_; clear n0_ n1_ n2_ n3_; clear hb hbox hg)); go_upto_region 1 with (first | ((with_reducible refine gate_dst (N := 1) rfl ?_); (try (refine gate_guard (by rfl) ?_; dsimp only)); refine box_event ?hg (N := 1) ?hd (cs := #[.int .i64 a0_0, .slice A0_1 l0_1.length c0_1, .int .i64 a0_2, .slice A0_3 l0_3.length c0_3, .int .i64 a0_4]) (t := 26) ?hr ?_; (case hd => rfl); (case hg => rfl); (case hr => first | (go_simp; done) | (go_simp; rfl)); intro gb138 hg w3 hbox hb; have n0_ := Aside0.mk (below_step (by repeat (first | (with_reducible first | exact HB.out | apply below_alloc | apply pw_below_drewN | apply below_drew1) | exact HB.out)) hb); have n1_ := Aside0.mk (hbox); have n2_ := Aside0.mk ((by rw [hg]; exact (below_size (by repeat (first | (with_reducible first | exact HB.out | apply below_alloc | apply pw_below_drewN | apply below_drew1) | exact HB.out))) : w.heap.size ≤ gb138)); have n3_ := Aside0.mk ((by rw [hg]; exact (below_size (by repeat (first | (with_reducible first | exact HB.out | apply below_alloc | apply pw_below_drewN | apply below_drew1) | exact HB.out))) : w.heap.size ≤ gb138)); clear HB; have HB := n0_; have BK138 := n1_; have GW138 := n2_; have GE138 := n3_; clear n0_ n1_ n2_ n3_; clear hb hbox hg)))
  (try simp only [Act.put, List.setIfInBounds_toArray, List.set_cons_zero, List.set_cons_succ])
  go_cut [36] (fun v36 wc => ∃ (kq : Nat) (x36_1 : Bool), v36 = .bool x36_1 ∧ Aside0 (interlocutorref4_Right.j0 kq x36_1 a0_0 l0_1 a0_2 l0_3 a0_4 = some r) ∧ Aside0 (kq ≤ k) ∧ Aside0 (wc.heap[gb138]? = some (.cells #[.int .i64 a0_0, (.slice A0_1 l0_1.length c0_1), .int .i64 a0_2, (.slice A0_3 l0_3.length c0_3), .int .i64 a0_4] 26 (0, 0))) ∧ Aside0 (Below w.heap.size w wc))
  case first =>
    have H := HC2.out
    clear HC2
    by_cases c4 : a0_0 < 0
    · rw [if_pos c4] at H
      have c4b0 : decide (a0_0 < 0) = true := decide_eq_true c4
      clear c4
      (first | rw [c4b0] | (simp only [i64_w, i32_w]; rw [c4b0]) | skip)
      have H' := Aside0.mk H
      clear H
      have hcz5_0 : w3.cell? ⟨gb138, 0, none⟩ = some (.int .i64 a0_0) := (blk_cell BK138.out 0).trans rfl
      have hcz5_1 : w3.cell? ⟨gb138, 1, none⟩ = some (.slice A0_1 l0_1.length c0_1) := (blk_cell BK138.out 1).trans rfl
      have hcz5_2 : w3.cell? ⟨gb138, 2, none⟩ = some (.int .i64 a0_2) := (blk_cell BK138.out 2).trans rfl
      have hcz5_3 : w3.cell? ⟨gb138, 3, none⟩ = some (.slice A0_3 l0_3.length c0_3) := (blk_cell BK138.out 3).trans rfl
      have hcz5_4 : w3.cell? ⟨gb138, 4, none⟩ = some (.int .i64 a0_4) := (blk_cell BK138.out 4).trans rfl
      have hfz5_0 := blk_frozen BK138.out 0
      have hfz5_1 := blk_frozen BK138.out 1
      have hfz5_2 := blk_frozen BK138.out 2
      have hfz5_3 := blk_frozen BK138.out 3
      have hfz5_4 := blk_frozen BK138.out 4
      go_wp2
      repeat (go_quiet (fail); try go_wp2)
      go_meet
      case rel => exact ⟨_, (true), (by first | rfl | (simp; done) | (simp [*]; done)), H', ⟨by first | omega | exact Nat.le_refl _⟩, ⟨by (with_reducible repeat (first | refine blk_drewN ?_ _ | refine blk_drew ?_ | refine blk_alloc ?_ _)); exact BK138.out⟩, ⟨by repeat (first | (with_reducible first | exact HB.out | apply below_alloc | apply pw_below_drewN | apply below_drew1 | refine below_set ?_ GE138.out) | exact HB.out)⟩⟩
    · rw [if_neg c4] at H
      have c4b0 : decide (a0_0 < 0) = false := decide_eq_false c4
      clear c4
      (first | rw [c4b0] | (simp only [i64_w, i32_w]; rw [c4b0]) | skip)
      by_cases c6 : a0_0 ≥ 20
      · rw [if_pos c6] at H
        have c6b0 : decide (20 ≤ a0_0) = true := decide_eq_true c6
        clear c6
        have H' := Aside0.mk H
        clear H
        have hcz7_0 : w3.cell? ⟨gb138, 0, none⟩ = some (.int .i64 a0_0) := (blk_cell BK138.out 0).trans rfl
        have hcz7_1 : w3.cell? ⟨gb138, 1, none⟩ = some (.slice A0_1 l0_1.length c0_1) := (blk_cell BK138.out 1).trans rfl
        have hcz7_2 : w3.cell? ⟨gb138, 2, none⟩ = some (.int .i64 a0_2) := (blk_cell BK138.out 2).trans rfl
        have hcz7_3 : w3.cell? ⟨gb138, 3, none⟩ = some (.slice A0_3 l0_3.length c0_3) := (blk_cell BK138.out 3).trans rfl
        have hcz7_4 : w3.cell? ⟨gb138, 4, none⟩ = some (.int .i64 a0_4) := (blk_cell BK138.out 4).trans rfl
        have hfz7_0 := blk_frozen BK138.out 0
        have hfz7_1 := blk_frozen BK138.out 1
        have hfz7_2 := blk_frozen BK138.out 2
        have hfz7_3 := blk_frozen BK138.out 3
        have hfz7_4 := blk_frozen BK138.out 4
        go_wp2
        repeat (go_quiet (fail); try go_wp2)
        go_meet
        case rel => exact ⟨_, (true), (by first | rfl | (simp; done) | (simp [*]; done)), H', ⟨by first | omega | exact Nat.le_refl _⟩, ⟨by (with_reducible repeat (first | refine blk_drewN ?_ _ | refine blk_drew ?_ | refine blk_alloc ?_ _)); exact BK138.out⟩, ⟨by repeat (first | (with_reducible first | exact HB.out | apply below_alloc | apply pw_below_drewN | apply below_drew1 | refine below_set ?_ GE138.out) | exact HB.out)⟩⟩
      · rw [if_neg c6] at H
        have c6b0 : decide (20 ≤ a0_0) = false := decide_eq_false c6
        clear c6
        by_cases c8 : (l0_1.length : Int) < 1
        · rw [if_pos c8] at H
          have c8b0 : decide ((l0_1.length : Int) < 1) = true := decide_eq_true c8
          have c8b1 : decide (l0_1.length < 1) = true := decide_eq_true (by omega)
          clear c8
          have H' := Aside0.mk H
          clear H
          have hcz9_0 : w3.cell? ⟨gb138, 0, none⟩ = some (.int .i64 a0_0) := (blk_cell BK138.out 0).trans rfl
          have hcz9_1 : w3.cell? ⟨gb138, 1, none⟩ = some (.slice A0_1 l0_1.length c0_1) := (blk_cell BK138.out 1).trans rfl
          have hcz9_2 : w3.cell? ⟨gb138, 2, none⟩ = some (.int .i64 a0_2) := (blk_cell BK138.out 2).trans rfl
          have hcz9_3 : w3.cell? ⟨gb138, 3, none⟩ = some (.slice A0_3 l0_3.length c0_3) := (blk_cell BK138.out 3).trans rfl
          have hcz9_4 : w3.cell? ⟨gb138, 4, none⟩ = some (.int .i64 a0_4) := (blk_cell BK138.out 4).trans rfl
          have hfz9_0 := blk_frozen BK138.out 0
          have hfz9_1 := blk_frozen BK138.out 1
          have hfz9_2 := blk_frozen BK138.out 2
          have hfz9_3 := blk_frozen BK138.out 3
          have hfz9_4 := blk_frozen BK138.out 4
          go_wp2
          repeat (go_quiet (fail); try go_wp2)
          go_meet
          case rel => exact ⟨_, (true), (by first | rfl | (simp; done) | (simp [*]; done)), H', ⟨by first | omega | exact Nat.le_refl _⟩, ⟨by (with_reducible repeat (first | refine blk_drewN ?_ _ | refine blk_drew ?_ | refine blk_alloc ?_ _)); exact BK138.out⟩, ⟨by repeat (first | (with_reducible first | exact HB.out | apply below_alloc | apply pw_below_drewN | apply below_drew1 | refine below_set ?_ GE138.out) | exact HB.out)⟩⟩
        · rw [if_neg c8] at H
          have c8b0 : decide ((l0_1.length : Int) < 1) = false := decide_eq_false c8
          have c8b1 : decide (l0_1.length < 1) = false := decide_eq_false (by omega)
          clear c8
          by_cases c10 : (l0_1.length : Int) > 6
          · rw [if_pos c10] at H
            have c10b0 : decide (6 < (l0_1.length : Int)) = true := decide_eq_true c10
            have c10b1 : decide (6 < l0_1.length) = true := decide_eq_true (by omega)
            clear c10
            have H' := Aside0.mk H
            clear H
            have hcz11_0 : w3.cell? ⟨gb138, 0, none⟩ = some (.int .i64 a0_0) := (blk_cell BK138.out 0).trans rfl
            have hcz11_1 : w3.cell? ⟨gb138, 1, none⟩ = some (.slice A0_1 l0_1.length c0_1) := (blk_cell BK138.out 1).trans rfl
            have hcz11_2 : w3.cell? ⟨gb138, 2, none⟩ = some (.int .i64 a0_2) := (blk_cell BK138.out 2).trans rfl
            have hcz11_3 : w3.cell? ⟨gb138, 3, none⟩ = some (.slice A0_3 l0_3.length c0_3) := (blk_cell BK138.out 3).trans rfl
            have hcz11_4 : w3.cell? ⟨gb138, 4, none⟩ = some (.int .i64 a0_4) := (blk_cell BK138.out 4).trans rfl
            have hfz11_0 := blk_frozen BK138.out 0
            have hfz11_1 := blk_frozen BK138.out 1
            have hfz11_2 := blk_frozen BK138.out 2
            have hfz11_3 := blk_frozen BK138.out 3
            have hfz11_4 := blk_frozen BK138.out 4
            go_wp2
            repeat (go_quiet (fail); try go_wp2)
            go_meet
            case rel => exact ⟨_, (true), (by first | rfl | (simp; done) | (simp [*]; done)), H', ⟨by first | omega | exact Nat.le_refl _⟩, ⟨by (with_reducible repeat (first | refine blk_drewN ?_ _ | refine blk_drew ?_ | refine blk_alloc ?_ _)); exact BK138.out⟩, ⟨by repeat (first | (with_reducible first | exact HB.out | apply below_alloc | apply pw_below_drewN | apply below_drew1 | refine below_set ?_ GE138.out) | exact HB.out)⟩⟩
          · rw [if_neg c10] at H
            have c10b0 : decide (6 < (l0_1.length : Int)) = false := decide_eq_false c10
            have c10b1 : decide (6 < l0_1.length) = false := decide_eq_false (by omega)
            clear c10
            by_cases c12 : a0_4 < 0
            · rw [if_pos c12] at H
              have c12b0 : decide (a0_4 < 0) = true := decide_eq_true c12
              clear c12
              have H' := Aside0.mk H
              clear H
              have hcz13_0 : w3.cell? ⟨gb138, 0, none⟩ = some (.int .i64 a0_0) := (blk_cell BK138.out 0).trans rfl
              have hcz13_1 : w3.cell? ⟨gb138, 1, none⟩ = some (.slice A0_1 l0_1.length c0_1) := (blk_cell BK138.out 1).trans rfl
              have hcz13_2 : w3.cell? ⟨gb138, 2, none⟩ = some (.int .i64 a0_2) := (blk_cell BK138.out 2).trans rfl
              have hcz13_3 : w3.cell? ⟨gb138, 3, none⟩ = some (.slice A0_3 l0_3.length c0_3) := (blk_cell BK138.out 3).trans rfl
              have hcz13_4 : w3.cell? ⟨gb138, 4, none⟩ = some (.int .i64 a0_4) := (blk_cell BK138.out 4).trans rfl
              have hfz13_0 := blk_frozen BK138.out 0
              have hfz13_1 := blk_frozen BK138.out 1
              have hfz13_2 := blk_frozen BK138.out 2
              have hfz13_3 := blk_frozen BK138.out 3
              have hfz13_4 := blk_frozen BK138.out 4
              go_wp2
              repeat (go_quiet (fail); try go_wp2)
              go_meet
              case rel => exact ⟨_, (true), (by first | rfl | (simp; done) | (simp [*]; done)), H', ⟨by first | omega | exact Nat.le_refl _⟩, ⟨by (with_reducible repeat (first | refine blk_drewN ?_ _ | refine blk_drew ?_ | refine blk_alloc ?_ _)); exact BK138.out⟩, ⟨by repeat (first | (with_reducible first | exact HB.out | apply below_alloc | apply pw_below_drewN | apply below_drew1 | refine below_set ?_ GE138.out) | exact HB.out)⟩⟩
            · rw [if_neg c12] at H
              have c12b0 : decide (a0_4 < 0) = false := decide_eq_false c12
              clear c12
              have H' := Aside0.mk H
              clear H
              have hcz14_0 : w3.cell? ⟨gb138, 0, none⟩ = some (.int .i64 a0_0) := (blk_cell BK138.out 0).trans rfl
              have hcz14_1 : w3.cell? ⟨gb138, 1, none⟩ = some (.slice A0_1 l0_1.length c0_1) := (blk_cell BK138.out 1).trans rfl
              have hcz14_2 : w3.cell? ⟨gb138, 2, none⟩ = some (.int .i64 a0_2) := (blk_cell BK138.out 2).trans rfl
              have hcz14_3 : w3.cell? ⟨gb138, 3, none⟩ = some (.slice A0_3 l0_3.length c0_3) := (blk_cell BK138.out 3).trans rfl
              have hcz14_4 : w3.cell? ⟨gb138, 4, none⟩ = some (.int .i64 a0_4) := (blk_cell BK138.out 4).trans rfl
              have hfz14_0 := blk_frozen BK138.out 0
              have hfz14_1 := blk_frozen BK138.out 1
              have hfz14_2 := blk_frozen BK138.out 2
              have hfz14_3 := blk_frozen BK138.out 3
              have hfz14_4 := blk_frozen BK138.out 4
              go_wp2
              repeat (go_quiet (fail); try go_wp2)
              go_meet
              case rel => exact ⟨_, (decide (a0_4 > 100)), (by first | rfl | (simp; done) | (simp [*]; done)), H', ⟨by first | omega | exact Nat.le_refl _⟩, ⟨by (with_reducible repeat (first | refine blk_drewN ?_ _ | refine blk_drew ?_ | refine blk_alloc ?_ _)); exact BK138.out⟩, ⟨by repeat (first | (with_reducible first | exact HB.out | apply below_alloc | apply pw_below_drewN | apply below_drew1 | refine below_set ?_ GE138.out) | exact HB.out)⟩⟩
  case rest =>
    clear HC2
    try clear c1
    try clear p2
    try clear c4
    try clear c4b0
    try clear c6
    try clear c6b0
    try clear c8
    try clear c8b0
    try clear c8b1
    try clear c10
    try clear c10b0
    try clear c10b1
    try clear c12
    try clear c12b0
    try clear hcz11_0
    try clear hcz11_1
    try clear hcz11_2
    try clear hcz11_3
    try clear hcz11_4
    try clear hcz13_0
    try clear hcz13_1
    try clear hcz13_2
    try clear hcz13_3
    try clear hcz13_4
    try clear hcz14_0
    try clear hcz14_1
    try clear hcz14_2
    try clear hcz14_3
    try clear hcz14_4
    try clear hcz5_0
    try clear hcz5_1
    try clear hcz5_2
    try clear hcz5_3
    try clear hcz5_4
    try clear hcz7_0
    try clear hcz7_1
    try clear hcz7_2
    try clear hcz7_3
    try clear hcz7_4
    try clear hcz9_0
    try clear hcz9_1
    try clear hcz9_2
    try clear hcz9_3
    try clear hcz9_4
    try clear hfz11_0
    try clear hfz11_1
    try clear hfz11_2
    try clear hfz11_3
    try clear hfz11_4
    try clear hfz13_0
    try clear hfz13_1
    try clear hfz13_2
    try clear hfz13_3
    try clear hfz13_4
    try clear hfz14_0
    try clear hfz14_1
    try clear hfz14_2
    try clear hfz14_3
    try clear hfz14_4
    try clear hfz5_0
    try clear hfz5_1
    try clear hfz5_2
    try clear hfz5_3
    try clear hfz5_4
    try clear hfz7_0
    try clear hfz7_1
    try clear hfz7_2
    try clear hfz7_3
    try clear hfz7_4
    try clear hfz9_0
    try clear hfz9_1
    try clear hfz9_2
    try clear hfz9_3
    try clear hfz9_4
    obtain ⟨kq, x36_1, rfl, HA, HJ1, BK138, HB⟩ := hcut
    cases kq with
    | zero => exact absurd HA.out (by simp [interlocutorref4_Right.j0])
    | succ kj1 =>
      have H := HA.out
      clear HA
      simp only [interlocutorref4_Right.j0] at H
      by_cases c15 : x36_1 = true
      · subst c15
        have H1 : (some false) = some r := by rw [if_pos rfl] at H; exact H
        clear H
        have H := H1
        clear H1
        obtain rfl := Option.some.inj H
        go_wp2
        repeat (go_quiet (fail); try go_wp2)
        go_ret
        exact ⟨by first | rfl | (simp [errW_none, errW_some] <;> rfl) | (simp [*, errW_none, errW_some] <;> rfl), by repeat (first | (with_reducible first | exact HB.out | apply below_alloc | apply pw_below_drewN | apply below_drew1 | refine below_set ?_ GE138.out) | exact HB.out)⟩
      · replace c15 := Bool.eq_false_iff.mpr c15
        subst c15
        have H1 : (interlocutorref4_Right.l0 kj1 0 a0_0 l0_1 a0_2 l0_3 a0_4) = some r := by rw [if_neg (show ¬ (false = true) by decide)] at H; exact H
        clear H
        have H := H1
        clear H1
        have H' := Aside0.mk H
        clear H
        go_wp2
        repeat (go_quiet (fail); try go_wp2)
        go_loopg [3] kj1 (fun kq v3 w' => ∃ (x3_2 : Int), v3 = .int .i64 x3_2 ∧ Aside0 (interlocutorref4_Right.l0 kq x3_2 a0_0 l0_1 a0_2 l0_3 a0_4 = some r) ∧ Aside0 (kq ≤ kj1) ∧ Aside0 (w'.heap[gb138]? = some (.cells #[.int .i64 a0_0, (.slice A0_1 l0_1.length c0_1), .int .i64 a0_2, (.slice A0_3 l0_3.length c0_3), .int .i64 a0_4] 26 (0, 0))) ∧ Aside0 (Below w.heap.size w w'))
        case atStart => exact ⟨(0), (by first | rfl | (simp; done) | (simp [*]; done)), H', ⟨Nat.le_refl _⟩, ⟨by (with_reducible repeat (first | refine blk_drewN ?_ _ | refine blk_drew ?_ | refine blk_alloc ?_ _)); exact BK138.out⟩, ⟨by repeat (first | (with_reducible first | exact HB.out | apply below_alloc | apply pw_below_drewN | apply below_drew1 | refine below_set ?_ GE138.out) | exact HB.out)⟩⟩
        case round =>
          clear H'
          try clear c1
          try clear p2
          try clear c4
          try clear c4b0
          try clear c6
          try clear c6b0
          try clear c8
          try clear c8b0
          try clear c8b1
          try clear c10
          try clear c10b0
          try clear c10b1
          try clear c12
          try clear c12b0
          try clear c15
          try clear hcz11_0
          try clear hcz11_1
          try clear hcz11_2
          try clear hcz11_3
          try clear hcz11_4
          try clear hcz13_0
          try clear hcz13_1
          try clear hcz13_2
          try clear hcz13_3
          try clear hcz13_4
          try clear hcz14_0
          try clear hcz14_1
          try clear hcz14_2
          try clear hcz14_3
          try clear hcz14_4
          try clear hcz5_0
          try clear hcz5_1
          try clear hcz5_2
          try clear hcz5_3
          try clear hcz5_4
          try clear hcz7_0
          try clear hcz7_1
          try clear hcz7_2
          try clear hcz7_3
          try clear hcz7_4
          try clear hcz9_0
          try clear hcz9_1
          try clear hcz9_2
          try clear hcz9_3
          try clear hcz9_4
          try clear hfz11_0
          try clear hfz11_1
          try clear hfz11_2
          try clear hfz11_3
          try clear hfz11_4
          try clear hfz13_0
          try clear hfz13_1
          try clear hfz13_2
          try clear hfz13_3
          try clear hfz13_4
          try clear hfz14_0
          try clear hfz14_1
          try clear hfz14_2
          try clear hfz14_3
          try clear hfz14_4
          try clear hfz5_0
          try clear hfz5_1
          try clear hfz5_2
          try clear hfz5_3
          try clear hfz5_4
          try clear hfz7_0
          try clear hfz7_1
          try clear hfz7_2
          try clear hfz7_3
          try clear hfz7_4
          try clear hfz9_0
          try clear hfz9_1
          try clear hfz9_2
          try clear hfz9_3
          try clear hfz9_4
          try clear p2
          obtain ⟨x3_2, rfl, HA, HK2, BK138, HB⟩ := hrel
          cases gk with
          | zero => exact absurd HA.out (by simp [interlocutorref4_Right.l0])
          | succ k2 =>
            have H := HA.out
            clear HA
            simp only [interlocutorref4_Right.l0] at H
            by_cases c16 : x3_2 < (l0_1.length : Int)
            · rw [if_pos c16] at H
              have c16b0 : decide (x3_2 < (l0_1.length : Int)) = true := decide_eq_true c16
              clear c16
              by_cases c17 : 0 ≤ x3_2
              · rw [if_pos c17] at H
                have c17b0 : decide (0 ≤ x3_2) = true := decide_eq_true c17
                clear c17
                by_cases c18 : (rd l0_1 x3_2) ≥ 20
                · rw [if_pos c18] at H
                  have c18b0 : decide (20 ≤ (rd l0_1 x3_2)) = true := decide_eq_true c18
                  clear c18
                  obtain rfl := Option.some.inj H
                  have hcz19_0 : wr.cell? ⟨gb138, 0, none⟩ = some (.int .i64 a0_0) := (blk_cell BK138.out 0).trans rfl
                  have hcz19_1 : wr.cell? ⟨gb138, 1, none⟩ = some (.slice A0_1 l0_1.length c0_1) := (blk_cell BK138.out 1).trans rfl
                  have hcz19_2 : wr.cell? ⟨gb138, 2, none⟩ = some (.int .i64 a0_2) := (blk_cell BK138.out 2).trans rfl
                  have hcz19_3 : wr.cell? ⟨gb138, 3, none⟩ = some (.slice A0_3 l0_3.length c0_3) := (blk_cell BK138.out 3).trans rfl
                  have hcz19_4 : wr.cell? ⟨gb138, 4, none⟩ = some (.int .i64 a0_4) := (blk_cell BK138.out 4).trans rfl
                  have hfz19_0 := blk_frozen BK138.out 0
                  have hfz19_1 := blk_frozen BK138.out 1
                  have hfz19_2 := blk_frozen BK138.out 2
                  have hfz19_3 := blk_frozen BK138.out 3
                  have hfz19_4 := blk_frozen BK138.out 4
                  have p139 : 0 ≤ (x3_2 : Int) := of_decide_eq_true (by first | (with_reducible assumption) | assumption)
                  have q139 : x3_2 < (l0_1.length : Int) := of_decide_eq_true (by first | (with_reducible assumption) | assumption)
                  obtain ⟨ad139, e139, hx139_0⟩ := Kd.at_int HR0_1.out x3_2 p139 q139
                  cases e139
                  replace hx139_0 := (HB.out.cell (World.block_lt_of_cell? w _ hx139_0)).trans hx139_0
                  replace p139 := eq_true p139
                  replace q139 := eq_true q139
                  go_wp2
                  repeat (go_quiet (fail); try go_wp2)
                  go_ret
                  exact ⟨by first | rfl | (simp [errW_none, errW_some] <;> rfl) | (simp [*, errW_none, errW_some] <;> rfl), by repeat (first | (with_reducible first | exact HB.out | apply below_alloc | apply pw_below_drewN | apply below_drew1 | refine below_set ?_ GE138.out) | exact HB.out)⟩
                · rw [if_neg c18] at H
                  have c18b0 : decide (20 ≤ (rd l0_1 x3_2)) = false := decide_eq_false c18
                  clear c18
                  by_cases c20 : (rd l0_1 x3_2) < (-61)
                  · rw [if_pos c20] at H
                    have c20b0 : decide ((rd l0_1 x3_2) < (-61)) = true := decide_eq_true c20
                    clear c20
                    obtain rfl := Option.some.inj H
                    have hcz21_0 : wr.cell? ⟨gb138, 0, none⟩ = some (.int .i64 a0_0) := (blk_cell BK138.out 0).trans rfl
                    have hcz21_1 : wr.cell? ⟨gb138, 1, none⟩ = some (.slice A0_1 l0_1.length c0_1) := (blk_cell BK138.out 1).trans rfl
                    have hcz21_2 : wr.cell? ⟨gb138, 2, none⟩ = some (.int .i64 a0_2) := (blk_cell BK138.out 2).trans rfl
                    have hcz21_3 : wr.cell? ⟨gb138, 3, none⟩ = some (.slice A0_3 l0_3.length c0_3) := (blk_cell BK138.out 3).trans rfl
                    have hcz21_4 : wr.cell? ⟨gb138, 4, none⟩ = some (.int .i64 a0_4) := (blk_cell BK138.out 4).trans rfl
                    have hfz21_0 := blk_frozen BK138.out 0
                    have hfz21_1 := blk_frozen BK138.out 1
                    have hfz21_2 := blk_frozen BK138.out 2
                    have hfz21_3 := blk_frozen BK138.out 3
                    have hfz21_4 := blk_frozen BK138.out 4
                    have p139 : 0 ≤ (x3_2 : Int) := of_decide_eq_true (by first | (with_reducible assumption) | assumption)
                    have q139 : x3_2 < (l0_1.length : Int) := of_decide_eq_true (by first | (with_reducible assumption) | assumption)
                    obtain ⟨ad139, e139, hx139_0⟩ := Kd.at_int HR0_1.out x3_2 p139 q139
                    cases e139
                    replace hx139_0 := (HB.out.cell (World.block_lt_of_cell? w _ hx139_0)).trans hx139_0
                    replace p139 := eq_true p139
                    replace q139 := eq_true q139
                    have p140 : 0 ≤ (x3_2 : Int) := of_decide_eq_true (by first | (with_reducible assumption) | assumption)
                    have q140 : x3_2 < (l0_1.length : Int) := of_decide_eq_true (by first | (with_reducible assumption) | assumption)
                    obtain ⟨ad140, e140, hx140_0⟩ := Kd.at_int HR0_1.out x3_2 p140 q140
                    obtain rfl : ad139 = ad140 := (by injection e140)
                    replace hx140_0 := (HB.out.cell (World.block_lt_of_cell? w _ hx140_0)).trans hx140_0
                    replace p140 := eq_true p140
                    replace q140 := eq_true q140
                    go_wp2
                    repeat (go_quiet (fail); try go_wp2)
                    go_ret
                    exact ⟨by first | rfl | (simp [errW_none, errW_some] <;> rfl) | (simp [*, errW_none, errW_some] <;> rfl), by repeat (first | (with_reducible first | exact HB.out | apply below_alloc | apply pw_below_drewN | apply below_drew1 | refine below_set ?_ GE138.out) | exact HB.out)⟩
                  · rw [if_neg c20] at H
                    have c20b0 : decide ((rd l0_1 x3_2) < (-61)) = false := decide_eq_false c20
                    clear c20
                    have H' := Aside0.mk H
                    clear H
                    have hcz22_0 : wr.cell? ⟨gb138, 0, none⟩ = some (.int .i64 a0_0) := (blk_cell BK138.out 0).trans rfl
                    have hcz22_1 : wr.cell? ⟨gb138, 1, none⟩ = some (.slice A0_1 l0_1.length c0_1) := (blk_cell BK138.out 1).trans rfl
                    have hcz22_2 : wr.cell? ⟨gb138, 2, none⟩ = some (.int .i64 a0_2) := (blk_cell BK138.out 2).trans rfl
                    have hcz22_3 : wr.cell? ⟨gb138, 3, none⟩ = some (.slice A0_3 l0_3.length c0_3) := (blk_cell BK138.out 3).trans rfl
                    have hcz22_4 : wr.cell? ⟨gb138, 4, none⟩ = some (.int .i64 a0_4) := (blk_cell BK138.out 4).trans rfl
                    have hfz22_0 := blk_frozen BK138.out 0
                    have hfz22_1 := blk_frozen BK138.out 1
                    have hfz22_2 := blk_frozen BK138.out 2
                    have hfz22_3 := blk_frozen BK138.out 3
                    have hfz22_4 := blk_frozen BK138.out 4
                    have p139 : 0 ≤ (x3_2 : Int) := of_decide_eq_true (by first | (with_reducible assumption) | assumption)
                    have q139 : x3_2 < (l0_1.length : Int) := of_decide_eq_true (by first | (with_reducible assumption) | assumption)
                    obtain ⟨ad139, e139, hx139_0⟩ := Kd.at_int HR0_1.out x3_2 p139 q139
                    cases e139
                    replace hx139_0 := (HB.out.cell (World.block_lt_of_cell? w _ hx139_0)).trans hx139_0
                    replace p139 := eq_true p139
                    replace q139 := eq_true q139
                    have p140 : 0 ≤ (x3_2 : Int) := of_decide_eq_true (by first | (with_reducible assumption) | assumption)
                    have q140 : x3_2 < (l0_1.length : Int) := of_decide_eq_true (by first | (with_reducible assumption) | assumption)
                    obtain ⟨ad140, e140, hx140_0⟩ := Kd.at_int HR0_1.out x3_2 p140 q140
                    obtain rfl : ad139 = ad140 := (by injection e140)
                    replace hx140_0 := (HB.out.cell (World.block_lt_of_cell? w _ hx140_0)).trans hx140_0
                    replace p140 := eq_true p140
                    replace q140 := eq_true q140
                    go_wp2
                    repeat (go_quiet (fail); try go_wp2)
                    go_roundg k2
                    case measure => have := HJ1.out; have := HK2.out; omega
                    case rel => exact ⟨(wrap64 (x3_2 + 1)), (by first | rfl | (simp; done) | (simp [*]; done)), H', ⟨by have := HJ1.out; have := HK2.out; omega⟩, ⟨by (with_reducible repeat (first | refine blk_drewN ?_ _ | refine blk_drew ?_ | refine blk_alloc ?_ _)); exact BK138.out⟩, ⟨by repeat (first | (with_reducible first | exact HB.out | apply below_alloc | apply pw_below_drewN | apply below_drew1 | refine below_set ?_ GE138.out) | exact HB.out)⟩⟩
              · rw [if_neg c17] at H
                exact absurd H (by simp)
            · rw [if_neg c16] at H
              have c16b0 : decide (x3_2 < (l0_1.length : Int)) = false := decide_eq_false c16
              clear c16
              replace H := Option.bind_eq_some_iff.mp H
              obtain ⟨⟨t141, t142⟩, A230, H⟩ := H
              replace H : (if (l0_3.length : Int) < t141 then (interlocutorref4_Right.j2 k2 true a0_0 l0_1 a0_2 l0_3 a0_4) else (interlocutorref4_Right.j2 k2 (decide ((l0_3.length : Int) > t142)) a0_0 l0_1 a0_2 l0_3 a0_4)) = some r := H
              have A23 := Aside0.mk A230
              clear A230
              have HC24 := Aside0.mk H
              clear H
              have hcz25_0 : wr.cell? ⟨gb138, 0, none⟩ = some (.int .i64 a0_0) := (blk_cell BK138.out 0).trans rfl
              have hcz25_1 : wr.cell? ⟨gb138, 1, none⟩ = some (.slice A0_1 l0_1.length c0_1) := (blk_cell BK138.out 1).trans rfl
              have hcz25_2 : wr.cell? ⟨gb138, 2, none⟩ = some (.int .i64 a0_2) := (blk_cell BK138.out 2).trans rfl
              have hcz25_3 : wr.cell? ⟨gb138, 3, none⟩ = some (.slice A0_3 l0_3.length c0_3) := (blk_cell BK138.out 3).trans rfl
              have hcz25_4 : wr.cell? ⟨gb138, 4, none⟩ = some (.int .i64 a0_4) := (blk_cell BK138.out 4).trans rfl
              have hfz25_0 := blk_frozen BK138.out 0
              have hfz25_1 := blk_frozen BK138.out 1
              have hfz25_2 := blk_frozen BK138.out 2
              have hfz25_3 := blk_frozen BK138.out 3
              have hfz25_4 := blk_frozen BK138.out 4
              go_upto_region 9 with (first | (go_at_call 33; (with_reducible refine (interlocutorref4_wants.calls k2 a0_2 t141 t142 _ A23.out).mono ?_); rintro e w' ⟨rfl, ⟨nd, rfl⟩⟩; (try first | exact ⟨rfl, _, World.drewN_drewN _ _ _⟩ | exact ⟨rfl, _, Eq.trans (World.drewN_drewN _ _ _) (congrArg (World.drewN _) (Nat.add_assoc _ _ _))⟩)))
              repeat (go_quiet (first | (go_at_call 33; (with_reducible refine (interlocutorref4_wants.calls k2 a0_2 t141 t142 _ A23.out).mono ?_); rintro e w' ⟨rfl, ⟨nd, rfl⟩⟩; (try first | exact ⟨rfl, _, World.drewN_drewN _ _ _⟩ | exact ⟨rfl, _, Eq.trans (World.drewN_drewN _ _ _) (congrArg (World.drewN _) (Nat.add_assoc _ _ _))⟩))); go_upto_region 9 with (first | (go_at_call 33; (with_reducible refine (interlocutorref4_wants.calls k2 a0_2 t141 t142 _ A23.out).mono ?_); rintro e w' ⟨rfl, ⟨nd, rfl⟩⟩; (try first | exact ⟨rfl, _, World.drewN_drewN _ _ _⟩ | exact ⟨rfl, _, Eq.trans (World.drewN_drewN _ _ _) (congrArg (World.drewN _) (Nat.add_assoc _ _ _))⟩))))
              (try simp only [Act.put, List.setIfInBounds_toArray, List.set_cons_zero, List.set_cons_succ])
              go_cut [78] (fun v78 wc => ∃ (kq : Nat) (x78_23 : Bool), v78 = .bool x78_23 ∧ Aside0 (interlocutorref4_Right.j2 kq x78_23 a0_0 l0_1 a0_2 l0_3 a0_4 = some r) ∧ Aside0 (kq ≤ k2) ∧ Aside0 (wc.heap[gb138]? = some (.cells #[.int .i64 a0_0, (.slice A0_1 l0_1.length c0_1), .int .i64 a0_2, (.slice A0_3 l0_3.length c0_3), .int .i64 a0_4] 26 (0, 0))) ∧ Aside0 (Below w.heap.size w wc))
              case first =>
                have H := HC24.out
                clear HC24
                by_cases c26 : (l0_3.length : Int) < t141
                · rw [if_pos c26] at H
                  have c26b0 : decide ((l0_3.length : Int) < t141) = true := decide_eq_true c26
                  clear c26
                  (first | rw [c26b0] | (simp only [i64_w, i32_w]; rw [c26b0]) | skip)
                  have H' := Aside0.mk H
                  clear H
                  have hcz27_0 : wr.cell? ⟨gb138, 0, none⟩ = some (.int .i64 a0_0) := (blk_cell BK138.out 0).trans rfl
                  have hcz27_1 : wr.cell? ⟨gb138, 1, none⟩ = some (.slice A0_1 l0_1.length c0_1) := (blk_cell BK138.out 1).trans rfl
                  have hcz27_2 : wr.cell? ⟨gb138, 2, none⟩ = some (.int .i64 a0_2) := (blk_cell BK138.out 2).trans rfl
                  have hcz27_3 : wr.cell? ⟨gb138, 3, none⟩ = some (.slice A0_3 l0_3.length c0_3) := (blk_cell BK138.out 3).trans rfl
                  have hcz27_4 : wr.cell? ⟨gb138, 4, none⟩ = some (.int .i64 a0_4) := (blk_cell BK138.out 4).trans rfl
                  have hfz27_0 := blk_frozen BK138.out 0
                  have hfz27_1 := blk_frozen BK138.out 1
                  have hfz27_2 := blk_frozen BK138.out 2
                  have hfz27_3 := blk_frozen BK138.out 3
                  have hfz27_4 := blk_frozen BK138.out 4
                  go_wp2
                  repeat (go_quiet (fail); try go_wp2)
                  go_meet
                  case rel => exact ⟨_, (true), (by first | rfl | (simp; done) | (simp [*]; done)), H', ⟨by have := HJ1.out; have := HK2.out; first | omega | exact Nat.le_refl _⟩, ⟨by (with_reducible repeat (first | refine blk_drewN ?_ _ | refine blk_drew ?_ | refine blk_alloc ?_ _)); exact BK138.out⟩, ⟨by repeat (first | (with_reducible first | exact HB.out | apply below_alloc | apply pw_below_drewN | apply below_drew1 | refine below_set ?_ GE138.out) | exact HB.out)⟩⟩
                · rw [if_neg c26] at H
                  have c26b0 : decide ((l0_3.length : Int) < t141) = false := decide_eq_false c26
                  clear c26
                  (first | rw [c26b0] | (simp only [i64_w, i32_w]; rw [c26b0]) | skip)
                  have H' := Aside0.mk H
                  clear H
                  have hcz28_0 : wr.cell? ⟨gb138, 0, none⟩ = some (.int .i64 a0_0) := (blk_cell BK138.out 0).trans rfl
                  have hcz28_1 : wr.cell? ⟨gb138, 1, none⟩ = some (.slice A0_1 l0_1.length c0_1) := (blk_cell BK138.out 1).trans rfl
                  have hcz28_2 : wr.cell? ⟨gb138, 2, none⟩ = some (.int .i64 a0_2) := (blk_cell BK138.out 2).trans rfl
                  have hcz28_3 : wr.cell? ⟨gb138, 3, none⟩ = some (.slice A0_3 l0_3.length c0_3) := (blk_cell BK138.out 3).trans rfl
                  have hcz28_4 : wr.cell? ⟨gb138, 4, none⟩ = some (.int .i64 a0_4) := (blk_cell BK138.out 4).trans rfl
                  have hfz28_0 := blk_frozen BK138.out 0
                  have hfz28_1 := blk_frozen BK138.out 1
                  have hfz28_2 := blk_frozen BK138.out 2
                  have hfz28_3 := blk_frozen BK138.out 3
                  have hfz28_4 := blk_frozen BK138.out 4
                  go_wp2
                  repeat (go_quiet (fail); try go_wp2)
                  go_meet
                  case rel => exact ⟨_, (decide ((l0_3.length : Int) > t142)), (by first | rfl | (simp; done) | (simp [*]; done)), H', ⟨by have := HJ1.out; have := HK2.out; first | omega | exact Nat.le_refl _⟩, ⟨by (with_reducible repeat (first | refine blk_drewN ?_ _ | refine blk_drew ?_ | refine blk_alloc ?_ _)); exact BK138.out⟩, ⟨by repeat (first | (with_reducible first | exact HB.out | apply below_alloc | apply pw_below_drewN | apply below_drew1 | refine below_set ?_ GE138.out) | exact HB.out)⟩⟩
              case rest =>
                clear HC24
                try clear c1
                try clear p1
                try clear q1
                try clear hx1
                try clear c2
                try clear p2
                try clear c4
                try clear c4b0
                try clear c6
                try clear c6b0
                try clear p6
                try clear c8
                try clear c8b0
                try clear c8b1
                try clear c10
                try clear c10b0
                try clear c10b1
                try clear c12
                try clear c12b0
                try clear p13
                try clear q13
                try clear hx13
                try clear p14
                try clear q14
                try clear hx14
                try clear c15
                try clear c16
                try clear c16b0
                try clear c17
                try clear c17b0
                try clear c18
                try clear c18b0
                try clear c20
                try clear c20b0
                try clear c26
                try clear c26b0
                try clear hcz11_0
                try clear hcz11_1
                try clear hcz11_2
                try clear hcz11_3
                try clear hcz11_4
                try clear hcz13_0
                try clear hcz13_1
                try clear hcz13_2
                try clear hcz13_3
                try clear hcz13_4
                try clear hcz14_0
                try clear hcz14_1
                try clear hcz14_2
                try clear hcz14_3
                try clear hcz14_4
                try clear hcz19_0
                try clear hcz19_1
                try clear hcz19_2
                try clear hcz19_3
                try clear hcz19_4
                try clear hcz21_0
                try clear hcz21_1
                try clear hcz21_2
                try clear hcz21_3
                try clear hcz21_4
                try clear hcz22_0
                try clear hcz22_1
                try clear hcz22_2
                try clear hcz22_3
                try clear hcz22_4
                try clear hcz25_0
                try clear hcz25_1
                try clear hcz25_2
                try clear hcz25_3
                try clear hcz25_4
                try clear hcz27_0
                try clear hcz27_1
                try clear hcz27_2
                try clear hcz27_3
                try clear hcz27_4
                try clear hcz28_0
                try clear hcz28_1
                try clear hcz28_2
                try clear hcz28_3
                try clear hcz28_4
                try clear hcz5_0
                try clear hcz5_1
                try clear hcz5_2
                try clear hcz5_3
                try clear hcz5_4
                try clear hcz7_0
                try clear hcz7_1
                try clear hcz7_2
                try clear hcz7_3
                try clear hcz7_4
                try clear hcz9_0
                try clear hcz9_1
                try clear hcz9_2
                try clear hcz9_3
                try clear hcz9_4
                try clear hfz11_0
                try clear hfz11_1
                try clear hfz11_2
                try clear hfz11_3
                try clear hfz11_4
                try clear hfz13_0
                try clear hfz13_1
                try clear hfz13_2
                try clear hfz13_3
                try clear hfz13_4
                try clear hfz14_0
                try clear hfz14_1
                try clear hfz14_2
                try clear hfz14_3
                try clear hfz14_4
                try clear hfz19_0
                try clear hfz19_1
                try clear hfz19_2
                try clear hfz19_3
                try clear hfz19_4
                try clear hfz21_0
                try clear hfz21_1
                try clear hfz21_2
                try clear hfz21_3
                try clear hfz21_4
                try clear hfz22_0
                try clear hfz22_1
                try clear hfz22_2
                try clear hfz22_3
                try clear hfz22_4
                try clear hfz25_0
                try clear hfz25_1
                try clear hfz25_2
                try clear hfz25_3
                try clear hfz25_4
                try clear hfz27_0
                try clear hfz27_1
                try clear hfz27_2
                try clear hfz27_3
                try clear hfz27_4
                try clear hfz28_0
                try clear hfz28_1
                try clear hfz28_2
                try clear hfz28_3
                try clear hfz28_4
                try clear hfz5_0
                try clear hfz5_1
                try clear hfz5_2
                try clear hfz5_3
                try clear hfz5_4
                try clear hfz7_0
                try clear hfz7_1
                try clear hfz7_2
                try clear hfz7_3
                try clear hfz7_4
                try clear hfz9_0
                try clear hfz9_1
                try clear hfz9_2
                try clear hfz9_3
                try clear hfz9_4
                try clear hx139_0
                try clear hx140_0
                try clear p139
                try clear p140
                try clear p2
                try clear q139
                try clear q140
                obtain ⟨kq, x78_23, rfl, HA, HJ23, BK138, HB⟩ := hcut
                cases kq with
                | zero => exact absurd HA.out (by simp [interlocutorref4_Right.j2])
                | succ kj23 =>
                  have H := HA.out
                  clear HA
                  simp only [interlocutorref4_Right.j2] at H
                  by_cases c29 : x78_23 = true
                  · subst c29
                    have H1 : (some false) = some r := by rw [if_pos rfl] at H; exact H
                    clear H
                    have H := H1
                    clear H1
                    obtain rfl := Option.some.inj H
                    go_wp2
                    repeat (go_quiet (fail); try go_wp2)
                    go_ret
                    exact ⟨by first | rfl | (simp [errW_none, errW_some] <;> rfl) | (simp [*, errW_none, errW_some] <;> rfl), by repeat (first | (with_reducible first | exact HB.out | apply below_alloc | apply pw_below_drewN | apply below_drew1 | refine below_set ?_ GE138.out) | exact HB.out)⟩
                  · replace c29 := Bool.eq_false_iff.mpr c29
                    subst c29
                    have H1 : (interlocutorref4_Right.l1 kj23 0 a0_0 l0_1 a0_2 l0_3 a0_4) = some r := by rw [if_neg (show ¬ (false = true) by decide)] at H; exact H
                    clear H
                    have H := H1
                    clear H1
                    have H' := Aside0.mk H
                    clear H
                    go_wp2
                    repeat (go_quiet (fail); try go_wp2)
                    go_loopg [6] kj23 (fun kq v6 w' => ∃ (x6_4 : Int), v6 = .int .i64 x6_4 ∧ Aside0 (interlocutorref4_Right.l1 kq x6_4 a0_0 l0_1 a0_2 l0_3 a0_4 = some r) ∧ Aside0 (kq ≤ kj23) ∧ Aside0 (w'.heap[gb138]? = some (.cells #[.int .i64 a0_0, (.slice A0_1 l0_1.length c0_1), .int .i64 a0_2, (.slice A0_3 l0_3.length c0_3), .int .i64 a0_4] 26 (0, 0))) ∧ Aside0 (Below w.heap.size w w'))
                    case atStart => exact ⟨(0), (by first | rfl | (simp; done) | (simp [*]; done)), H', ⟨Nat.le_refl _⟩, ⟨by (with_reducible repeat (first | refine blk_drewN ?_ _ | refine blk_drew ?_ | refine blk_alloc ?_ _)); exact BK138.out⟩, ⟨by repeat (first | (with_reducible first | exact HB.out | apply below_alloc | apply pw_below_drewN | apply below_drew1 | refine below_set ?_ GE138.out) | exact HB.out)⟩⟩
                    case round =>
                      clear H'
                      try clear c1
                      try clear p1
                      try clear q1
                      try clear hx1
                      try clear c2
                      try clear p2
                      try clear c4
                      try clear c4b0
                      try clear c6
                      try clear c6b0
                      try clear p6
                      try clear c8
                      try clear c8b0
                      try clear c8b1
                      try clear c10
                      try clear c10b0
                      try clear c10b1
                      try clear c12
                      try clear c12b0
                      try clear p13
                      try clear q13
                      try clear hx13
                      try clear p14
                      try clear q14
                      try clear hx14
                      try clear c15
                      try clear c16
                      try clear c16b0
                      try clear c17
                      try clear c17b0
                      try clear c18
                      try clear c18b0
                      try clear c20
                      try clear c20b0
                      try clear c26
                      try clear c26b0
                      try clear c29
                      try clear hcz11_0
                      try clear hcz11_1
                      try clear hcz11_2
                      try clear hcz11_3
                      try clear hcz11_4
                      try clear hcz13_0
                      try clear hcz13_1
                      try clear hcz13_2
                      try clear hcz13_3
                      try clear hcz13_4
                      try clear hcz14_0
                      try clear hcz14_1
                      try clear hcz14_2
                      try clear hcz14_3
                      try clear hcz14_4
                      try clear hcz19_0
                      try clear hcz19_1
                      try clear hcz19_2
                      try clear hcz19_3
                      try clear hcz19_4
                      try clear hcz21_0
                      try clear hcz21_1
                      try clear hcz21_2
                      try clear hcz21_3
                      try clear hcz21_4
                      try clear hcz22_0
                      try clear hcz22_1
                      try clear hcz22_2
                      try clear hcz22_3
                      try clear hcz22_4
                      try clear hcz25_0
                      try clear hcz25_1
                      try clear hcz25_2
                      try clear hcz25_3
                      try clear hcz25_4
                      try clear hcz27_0
                      try clear hcz27_1
                      try clear hcz27_2
                      try clear hcz27_3
                      try clear hcz27_4
                      try clear hcz28_0
                      try clear hcz28_1
                      try clear hcz28_2
                      try clear hcz28_3
                      try clear hcz28_4
                      try clear hcz5_0
                      try clear hcz5_1
                      try clear hcz5_2
                      try clear hcz5_3
                      try clear hcz5_4
                      try clear hcz7_0
                      try clear hcz7_1
                      try clear hcz7_2
                      try clear hcz7_3
                      try clear hcz7_4
                      try clear hcz9_0
                      try clear hcz9_1
                      try clear hcz9_2
                      try clear hcz9_3
                      try clear hcz9_4
                      try clear hfz11_0
                      try clear hfz11_1
                      try clear hfz11_2
                      try clear hfz11_3
                      try clear hfz11_4
                      try clear hfz13_0
                      try clear hfz13_1
                      try clear hfz13_2
                      try clear hfz13_3
                      try clear hfz13_4
                      try clear hfz14_0
                      try clear hfz14_1
                      try clear hfz14_2
                      try clear hfz14_3
                      try clear hfz14_4
                      try clear hfz19_0
                      try clear hfz19_1
                      try clear hfz19_2
                      try clear hfz19_3
                      try clear hfz19_4
                      try clear hfz21_0
                      try clear hfz21_1
                      try clear hfz21_2
                      try clear hfz21_3
                      try clear hfz21_4
                      try clear hfz22_0
                      try clear hfz22_1
                      try clear hfz22_2
                      try clear hfz22_3
                      try clear hfz22_4
                      try clear hfz25_0
                      try clear hfz25_1
                      try clear hfz25_2
                      try clear hfz25_3
                      try clear hfz25_4
                      try clear hfz27_0
                      try clear hfz27_1
                      try clear hfz27_2
                      try clear hfz27_3
                      try clear hfz27_4
                      try clear hfz28_0
                      try clear hfz28_1
                      try clear hfz28_2
                      try clear hfz28_3
                      try clear hfz28_4
                      try clear hfz5_0
                      try clear hfz5_1
                      try clear hfz5_2
                      try clear hfz5_3
                      try clear hfz5_4
                      try clear hfz7_0
                      try clear hfz7_1
                      try clear hfz7_2
                      try clear hfz7_3
                      try clear hfz7_4
                      try clear hfz9_0
                      try clear hfz9_1
                      try clear hfz9_2
                      try clear hfz9_3
                      try clear hfz9_4
                      try clear hx139_0
                      try clear hx140_0
                      try clear p1
                      try clear p13
                      try clear p139
                      try clear p14
                      try clear p140
                      try clear p2
                      try clear p6
                      try clear q1
                      try clear q13
                      try clear q139
                      try clear q14
                      try clear q140
                      obtain ⟨x6_4, rfl, HA, HK4, BK138, HB⟩ := hrel
                      cases gk with
                      | zero => exact absurd HA.out (by simp [interlocutorref4_Right.l1])
                      | succ k4 =>
                        have H := HA.out
                        clear HA
                        simp only [interlocutorref4_Right.l1] at H
                        by_cases c30 : x6_4 < (l0_3.length : Int)
                        · rw [if_pos c30] at H
                          have c30b0 : decide (x6_4 < (l0_3.length : Int)) = true := decide_eq_true c30
                          clear c30
                          by_cases c31 : 0 ≤ x6_4
                          · rw [if_pos c31] at H
                            have c31b0 : decide (0 ≤ x6_4) = true := decide_eq_true c31
                            clear c31
                            by_cases c32 : (rd l0_3 x6_4) < 0
                            · rw [if_pos c32] at H
                              have c32b0 : decide ((rd l0_3 x6_4) < 0) = true := decide_eq_true c32
                              clear c32
                              obtain rfl := Option.some.inj H
                              have hcz33_0 : wr.cell? ⟨gb138, 0, none⟩ = some (.int .i64 a0_0) := (blk_cell BK138.out 0).trans rfl
                              have hcz33_1 : wr.cell? ⟨gb138, 1, none⟩ = some (.slice A0_1 l0_1.length c0_1) := (blk_cell BK138.out 1).trans rfl
                              have hcz33_2 : wr.cell? ⟨gb138, 2, none⟩ = some (.int .i64 a0_2) := (blk_cell BK138.out 2).trans rfl
                              have hcz33_3 : wr.cell? ⟨gb138, 3, none⟩ = some (.slice A0_3 l0_3.length c0_3) := (blk_cell BK138.out 3).trans rfl
                              have hcz33_4 : wr.cell? ⟨gb138, 4, none⟩ = some (.int .i64 a0_4) := (blk_cell BK138.out 4).trans rfl
                              have hfz33_0 := blk_frozen BK138.out 0
                              have hfz33_1 := blk_frozen BK138.out 1
                              have hfz33_2 := blk_frozen BK138.out 2
                              have hfz33_3 := blk_frozen BK138.out 3
                              have hfz33_4 := blk_frozen BK138.out 4
                              have p143 : 0 ≤ (x6_4 : Int) := of_decide_eq_true (by first | (with_reducible assumption) | assumption)
                              have q143 : x6_4 < (l0_3.length : Int) := of_decide_eq_true (by first | (with_reducible assumption) | assumption)
                              obtain ⟨ad143, e143, hx143_0⟩ := Kd.at_int HR0_3.out x6_4 p143 q143
                              cases e143
                              replace hx143_0 := (HB.out.cell (World.block_lt_of_cell? w _ hx143_0)).trans hx143_0
                              replace p143 := eq_true p143
                              replace q143 := eq_true q143
                              go_wp2
                              repeat (go_quiet (fail); try go_wp2)
                              go_ret
                              exact ⟨by first | rfl | (simp [errW_none, errW_some] <;> rfl) | (simp [*, errW_none, errW_some] <;> rfl), by repeat (first | (with_reducible first | exact HB.out | apply below_alloc | apply pw_below_drewN | apply below_drew1 | refine below_set ?_ GE138.out) | exact HB.out)⟩
                            · rw [if_neg c32] at H
                              have c32b0 : decide ((rd l0_3 x6_4) < 0) = false := decide_eq_false c32
                              clear c32
                              by_cases c34 : (rd l0_3 x6_4) ≥ (l0_1.length : Int)
                              · rw [if_pos c34] at H
                                have c34b0 : decide ((l0_1.length : Int) ≤ (rd l0_3 x6_4)) = true := decide_eq_true c34
                                clear c34
                                obtain rfl := Option.some.inj H
                                have hcz35_0 : wr.cell? ⟨gb138, 0, none⟩ = some (.int .i64 a0_0) := (blk_cell BK138.out 0).trans rfl
                                have hcz35_1 : wr.cell? ⟨gb138, 1, none⟩ = some (.slice A0_1 l0_1.length c0_1) := (blk_cell BK138.out 1).trans rfl
                                have hcz35_2 : wr.cell? ⟨gb138, 2, none⟩ = some (.int .i64 a0_2) := (blk_cell BK138.out 2).trans rfl
                                have hcz35_3 : wr.cell? ⟨gb138, 3, none⟩ = some (.slice A0_3 l0_3.length c0_3) := (blk_cell BK138.out 3).trans rfl
                                have hcz35_4 : wr.cell? ⟨gb138, 4, none⟩ = some (.int .i64 a0_4) := (blk_cell BK138.out 4).trans rfl
                                have hfz35_0 := blk_frozen BK138.out 0
                                have hfz35_1 := blk_frozen BK138.out 1
                                have hfz35_2 := blk_frozen BK138.out 2
                                have hfz35_3 := blk_frozen BK138.out 3
                                have hfz35_4 := blk_frozen BK138.out 4
                                have p143 : 0 ≤ (x6_4 : Int) := of_decide_eq_true (by first | (with_reducible assumption) | assumption)
                                have q143 : x6_4 < (l0_3.length : Int) := of_decide_eq_true (by first | (with_reducible assumption) | assumption)
                                obtain ⟨ad143, e143, hx143_0⟩ := Kd.at_int HR0_3.out x6_4 p143 q143
                                cases e143
                                replace hx143_0 := (HB.out.cell (World.block_lt_of_cell? w _ hx143_0)).trans hx143_0
                                replace p143 := eq_true p143
                                replace q143 := eq_true q143
                                have p144 : 0 ≤ (x6_4 : Int) := of_decide_eq_true (by first | (with_reducible assumption) | assumption)
                                have q144 : x6_4 < (l0_3.length : Int) := of_decide_eq_true (by first | (with_reducible assumption) | assumption)
                                obtain ⟨ad144, e144, hx144_0⟩ := Kd.at_int HR0_3.out x6_4 p144 q144
                                obtain rfl : ad143 = ad144 := (by injection e144)
                                replace hx144_0 := (HB.out.cell (World.block_lt_of_cell? w _ hx144_0)).trans hx144_0
                                replace p144 := eq_true p144
                                replace q144 := eq_true q144
                                go_wp2
                                repeat (go_quiet (fail); try go_wp2)
                                go_ret
                                exact ⟨by first | rfl | (simp [errW_none, errW_some] <;> rfl) | (simp [*, errW_none, errW_some] <;> rfl), by repeat (first | (with_reducible first | exact HB.out | apply below_alloc | apply pw_below_drewN | apply below_drew1 | refine below_set ?_ GE138.out) | exact HB.out)⟩
                              · rw [if_neg c34] at H
                                have c34b0 : decide ((l0_1.length : Int) ≤ (rd l0_3 x6_4)) = false := decide_eq_false c34
                                clear c34
                                have H' := Aside0.mk H
                                clear H
                                have hcz36_0 : wr.cell? ⟨gb138, 0, none⟩ = some (.int .i64 a0_0) := (blk_cell BK138.out 0).trans rfl
                                have hcz36_1 : wr.cell? ⟨gb138, 1, none⟩ = some (.slice A0_1 l0_1.length c0_1) := (blk_cell BK138.out 1).trans rfl
                                have hcz36_2 : wr.cell? ⟨gb138, 2, none⟩ = some (.int .i64 a0_2) := (blk_cell BK138.out 2).trans rfl
                                have hcz36_3 : wr.cell? ⟨gb138, 3, none⟩ = some (.slice A0_3 l0_3.length c0_3) := (blk_cell BK138.out 3).trans rfl
                                have hcz36_4 : wr.cell? ⟨gb138, 4, none⟩ = some (.int .i64 a0_4) := (blk_cell BK138.out 4).trans rfl
                                have hfz36_0 := blk_frozen BK138.out 0
                                have hfz36_1 := blk_frozen BK138.out 1
                                have hfz36_2 := blk_frozen BK138.out 2
                                have hfz36_3 := blk_frozen BK138.out 3
                                have hfz36_4 := blk_frozen BK138.out 4
                                have p143 : 0 ≤ (x6_4 : Int) := of_decide_eq_true (by first | (with_reducible assumption) | assumption)
                                have q143 : x6_4 < (l0_3.length : Int) := of_decide_eq_true (by first | (with_reducible assumption) | assumption)
                                obtain ⟨ad143, e143, hx143_0⟩ := Kd.at_int HR0_3.out x6_4 p143 q143
                                cases e143
                                replace hx143_0 := (HB.out.cell (World.block_lt_of_cell? w _ hx143_0)).trans hx143_0
                                replace p143 := eq_true p143
                                replace q143 := eq_true q143
                                have p144 : 0 ≤ (x6_4 : Int) := of_decide_eq_true (by first | (with_reducible assumption) | assumption)
                                have q144 : x6_4 < (l0_3.length : Int) := of_decide_eq_true (by first | (with_reducible assumption) | assumption)
                                obtain ⟨ad144, e144, hx144_0⟩ := Kd.at_int HR0_3.out x6_4 p144 q144
                                obtain rfl : ad143 = ad144 := (by injection e144)
                                replace hx144_0 := (HB.out.cell (World.block_lt_of_cell? w _ hx144_0)).trans hx144_0
                                replace p144 := eq_true p144
                                replace q144 := eq_true q144
                                go_wp2
                                repeat (go_quiet (fail); try go_wp2)
                                go_roundg k4
                                case measure => have := HJ1.out; have := HK2.out; have := HJ23.out; have := HK4.out; omega
                                case rel => exact ⟨(wrap64 (x6_4 + 1)), (by first | rfl | (simp; done) | (simp [*]; done)), H', ⟨by have := HJ1.out; have := HK2.out; have := HJ23.out; have := HK4.out; omega⟩, ⟨by (with_reducible repeat (first | refine blk_drewN ?_ _ | refine blk_drew ?_ | refine blk_alloc ?_ _)); exact BK138.out⟩, ⟨by repeat (first | (with_reducible first | exact HB.out | apply below_alloc | apply pw_below_drewN | apply below_drew1 | refine below_set ?_ GE138.out) | exact HB.out)⟩⟩
                          · rw [if_neg c31] at H
                            exact absurd H (by simp)
                        · rw [if_neg c30] at H
                          have c30b0 : decide (x6_4 < (l0_3.length : Int)) = false := decide_eq_false c30
                          clear c30
                          obtain rfl := Option.some.inj H
                          have hcz37_0 : wr.cell? ⟨gb138, 0, none⟩ = some (.int .i64 a0_0) := (blk_cell BK138.out 0).trans rfl
                          have hcz37_1 : wr.cell? ⟨gb138, 1, none⟩ = some (.slice A0_1 l0_1.length c0_1) := (blk_cell BK138.out 1).trans rfl
                          have hcz37_2 : wr.cell? ⟨gb138, 2, none⟩ = some (.int .i64 a0_2) := (blk_cell BK138.out 2).trans rfl
                          have hcz37_3 : wr.cell? ⟨gb138, 3, none⟩ = some (.slice A0_3 l0_3.length c0_3) := (blk_cell BK138.out 3).trans rfl
                          have hcz37_4 : wr.cell? ⟨gb138, 4, none⟩ = some (.int .i64 a0_4) := (blk_cell BK138.out 4).trans rfl
                          have hfz37_0 := blk_frozen BK138.out 0
                          have hfz37_1 := blk_frozen BK138.out 1
                          have hfz37_2 := blk_frozen BK138.out 2
                          have hfz37_3 := blk_frozen BK138.out 3
                          have hfz37_4 := blk_frozen BK138.out 4
                          go_wp2
                          repeat (go_quiet (fail); try go_wp2)
                          go_ret
                          exact ⟨by first | rfl | (simp [errW_none, errW_some] <;> rfl) | (simp [*, errW_none, errW_some] <;> rfl), by repeat (first | (with_reducible first | exact HB.out | apply below_alloc | apply pw_below_drewN | apply below_drew1 | refine below_set ?_ GE138.out) | exact HB.out)⟩
end Go.Proofs.Ytjomlfdkmdgclaa.P
end
section
namespace Go.Proofs.Ytjomlfdkmdgclaa.P
open Go.RowKit Go.Proofs.YtjomlfdkmdgclaaW.PrintWords Go.Proofs.YtjomlfdkmdgclaaW.PrintLast Go.Proofs.YtjomlfdkmdgclaaW.PrintMore
attribute [local go_sem] max2_int min2_int max_two min_two max_three min_three max_four min_four   
set_option linter.unusedVariables false
set_option linter.unusedSimpArgs false
theorem wants_some (k : Nat) (op : Int) : interlocutorref4_wants.f (k + 4) op = some (askedP op) := by
  by_cases h : 0 ≤ op ∧ op ≤ 15
  · have : op = 0 ∨ op = 1 ∨ op = 2 ∨ op = 3 ∨ op = 4 ∨ op = 5 ∨ op = 6 ∨ op = 7 ∨ op = 8 ∨ op = 9 ∨ op = 10 ∨ op = 11 ∨ op = 12 ∨ op = 13 ∨ op = 14 ∨ op = 15 := by omega
    rcases this with rfl | rfl | rfl | rfl | rfl | rfl | rfl | rfl | rfl | rfl | rfl | rfl | rfl | rfl | rfl | rfl <;> rfl
  · have n : ∀ k : Int, 0 ≤ k → k ≤ 15 → ¬ op = k := fun k h0 h1 e => h (by omega)
    have b : ∀ k : Int, 0 ≤ k → k ≤ 15 → ¬ (op == k) = true := fun k h0 h1 e => n k h0 h1 (by simpa using e)
    have e : askedP op = (1, 0) := by
      unfold askedP
      rw [if_neg (by omega), if_neg (by omega), if_neg (by omega), if_neg (by omega), if_neg (by omega)]
    rw [e]
    unfold interlocutorref4_wants.f
    rw [if_neg (n 0 (by omega) (by omega)), if_neg (n 7 (by omega) (by omega)), if_neg (n 8 (by omega) (by omega)), interlocutorref4_wants.j0]
    rw [if_neg (b 11 (by omega) (by omega)), if_neg (n 2 (by omega) (by omega)), if_neg (n 5 (by omega) (by omega)), if_neg (n 9 (by omega) (by omega)), if_neg (n 12 (by omega) (by omega)), if_neg (n 13 (by omega) (by omega)), if_neg (n 14 (by omega) (by omega)), interlocutorref4_wants.j1]
    rw [if_neg (b 15 (by omega) (by omega)), if_neg (n 1 (by omega) (by omega)), interlocutorref4_wants.j2]
    rw [if_neg (b 6 (by omega) (by omega)), if_neg (n 3 (by omega) (by omega)), interlocutorref4_wants.j3]
    rw [if_neg (b 4 (by omega) (by omega)), if_neg (n 10 (by omega) (by omega))]
section
variable (a0 : Int) (l1 : List Int) (a2 : Int) (l3 : List Int) (a4 : Int)
theorem refPlaces (hl : l3.length ≤ 9223372036854775807) : ∀ (n k x : Nat), x ≤ l3.length → l3.length - x = n → n < k → interlocutorref4_Right.l1 k x a0 l1 a2 l3 a4 = some ((l3.drop x).all (placeB l1.length)) := by
  intro n
  induction n with
  | zero =>
    intro k x hx hn hk
    obtain ⟨k, rfl⟩ : ∃ j, k = j + 1 := ⟨k - 1, by omega⟩
    have he : x = l3.length := by omega
    subst he
    simp only [interlocutorref4_Right.l1]
    rw [if_neg (by omega), List.drop_length]
    rfl
  | succ n ih =>
    intro k x hx hn hk
    obtain ⟨k, rfl⟩ : ∃ j, k = j + 1 := ⟨k - 1, by omega⟩
    have hlt : x < l3.length := by omega
    simp only [interlocutorref4_Right.l1]
    rw [if_pos (by omega), if_pos (by omega), rd_getElem l3 x hlt, List.drop_eq_getElem_cons hlt, List.all_cons]
    unfold placeB
    by_cases h0 : l3[x] < 0
    · rw [if_pos h0, decide_eq_false (by omega)]; rfl
    · rw [if_neg h0, decide_eq_true (by omega : 0 ≤ l3[x])]
      by_cases h1 : l3[x] ≥ (l1.length : Int)
      · rw [if_pos h1, decide_eq_false (by omega)]; rfl
      · rw [if_neg h1, decide_eq_true (by omega : l3[x] < (l1.length : Int)), wrap_in (by omega)]
        exact ih k (x + 1) (by omega) (by omega) (by omega)
theorem refItems (hl : l1.length ≤ 9223372036854775807) (hl3 : l3.length ≤ 9223372036854775807) : ∀ (n k x : Nat), x ≤ l1.length → l1.length - x = n → n + l3.length + 8 < k → interlocutorref4_Right.l0 k x a0 l1 a2 l3 a4 = some ((l1.drop x).all itemB && (withinB l3.length (askedP a2).1 (askedP a2).2 && l3.all (placeB l1.length))) := by
  intro n
  induction n with
  | zero =>
    intro k x hx hn hk
    obtain ⟨k, rfl⟩ : ∃ j, k = j + 5 := ⟨k - 5, by omega⟩
    have he : x = l1.length := by omega
    subst he
    rw [show k + 5 = (k + 4) + 1 by omega]
    simp only [interlocutorref4_Right.l0]
    rw [if_neg (by omega), List.drop_length, wants_some]
    simp only [Option.bind_some, List.all_nil, Bool.true_and]
    have h2 := refPlaces a0 l1 a2 l3 a4 hl3 l3.length (k + 3) 0 (Nat.zero_le _) rfl (by omega)
    rw [List.drop_zero] at h2
    have h2' : interlocutorref4_Right.l1 (k + 3) 0 a0 l1 a2 l3 a4 = some (l3.all (placeB l1.length)) := h2
    unfold withinB
    by_cases h0 : (l3.length : Int) < (askedP a2).1
    · rw [if_pos h0, show k + 4 = (k + 3) + 1 by omega]
      simp only [interlocutorref4_Right.j2]
      rw [decide_eq_false (by omega)]
      simp
    · rw [if_neg h0, show k + 4 = (k + 3) + 1 by omega]
      simp only [interlocutorref4_Right.j2]
      rw [decide_eq_true (by omega : (askedP a2).1 ≤ (l3.length : Int)), h2']
      by_cases h1 : (l3.length : Int) > (askedP a2).2
      · rw [decide_eq_true h1, decide_eq_false (by omega : ¬ (l3.length : Int) ≤ (askedP a2).2)]
        simp
      · rw [decide_eq_false h1, decide_eq_true (by omega : (l3.length : Int) ≤ (askedP a2).2)]
        simp
  | succ n ih =>
    intro k x hx hn hk
    obtain ⟨k, rfl⟩ : ∃ j, k = j + 1 := ⟨k - 1, by omega⟩
    have hlt : x < l1.length := by omega
    simp only [interlocutorref4_Right.l0]
    rw [if_pos (by omega), if_pos (by omega), rd_getElem l1 x hlt, List.drop_eq_getElem_cons hlt, List.all_cons]
    by_cases h0 : l1[x] ≥ 20
    · rw [if_pos h0, show itemB l1[x] = false by unfold itemB; simp; omega]; rfl
    · rw [if_neg h0]
      by_cases h1 : l1[x] < -61
      · rw [if_pos h1, show itemB l1[x] = false by unfold itemB; simp; omega]; rfl
      · rw [if_neg h1, show itemB l1[x] = true by unfold itemB; simp; omega, Bool.true_and, wrap_in (by omega)]
        exact ih k (x + 1) (by omega) (by omega) (by omega)
theorem refRight_some (k : Nat) (hl : l1.length ≤ 9223372036854775807) (hl3 : l3.length ≤ 9223372036854775807) (hk : l1.length + l3.length + 10 < k) : interlocutorref4_Right.f k a0 l1 a2 l3 a4 = some (rightP a0 l1 a2 l3 a4) := by
  obtain ⟨k, rfl⟩ : ∃ j, k = j + 1 := ⟨k - 1, by omega⟩
  have h2 := refItems a0 l1 a2 l3 a4 hl hl3 l1.length k 0 (Nat.zero_le _) rfl (by omega)
  rw [List.drop_zero] at h2
  have h2' : interlocutorref4_Right.l0 k 0 a0 l1 a2 l3 a4 = some (l1.all itemB && (withinB l3.length (askedP a2).1 (askedP a2).2 && l3.all (placeB l1.length))) := h2
  unfold interlocutorref4_Right.f
  simp only [interlocutorref4_Right.j0, if_true]
  unfold rightP symbolB
  by_cases c1 : a0 < 0
  · rw [if_pos c1, decide_eq_false (by omega)]; rfl
  rw [if_neg c1, decide_eq_true (by omega : 0 ≤ a0)]
  by_cases c2 : a0 ≥ 20
  · rw [if_pos c2, decide_eq_false (by omega)]; rfl
  rw [if_neg c2, decide_eq_true (by omega : a0 < 20), h2']
  by_cases c3 : (l1.length : Int) < 1
  · rw [if_pos c3, show withinB l1.length 1 6 = false by unfold withinB; simp; omega]; rfl
  rw [if_neg c3]
  by_cases c4 : (l1.length : Int) > 6
  · rw [if_pos c4, show withinB l1.length 1 6 = false by unfold withinB; simp; omega]; rfl
  rw [if_neg c4, show withinB l1.length 1 6 = true by unfold withinB; simp; omega]
  by_cases c5 : a4 < 0
  · rw [if_pos c5, show withinB a4 0 100 = false by unfold withinB; simp; omega]
    simp
  rw [if_neg c5]
  by_cases c6 : a4 > 100
  · rw [decide_eq_true c6, show withinB a4 0 100 = false by unfold withinB; simp; omega]
    simp
  · rw [decide_eq_false c6, show withinB a4 0 100 = true by unfold withinB; simp; omega]
    simp
end
end Go.Proofs.Ytjomlfdkmdgclaa.P
end
section
namespace Go.Proofs.Ytjomlfdkmdgclaa.P
open Go.RowKit Go.Proofs.YtjomlfdkmdgclaaW.PrintWords Go.Proofs.YtjomlfdkmdgclaaW.PrintLast Go.Proofs.YtjomlfdkmdgclaaW.PrintMore
attribute [local go_sem] max2_int min2_int max_two min_two max_three min_three max_four min_four   
set_option linter.unusedVariables false
set_option linter.unusedSimpArgs false
def matD (e : Nat → Nat → Bool) : Nat → Nat → Nat → Bool
  | 0 => e
  | k + 1 => fun i j => matD e k i j || (matD e k i k && matD e k k j)
theorem matD_mono {e : Nat → Nat → Bool} {k i j : Nat} (h : matD e k i j = true) : matD e (k + 1) i j = true := by
  simp [matD, h]
theorem matD_base {e : Nat → Nat → Bool} {i j : Nat} (h : e i j = true) : ∀ k, matD e k i j = true
  | 0 => h
  | k + 1 => matD_mono (matD_base h k)
theorem matD_row (e : Nat → Nat → Bool) (k j : Nat) : matD e (k + 1) k j = matD e k k j := by
  simp only [matD]
  cases matD e k k j <;> simp
theorem matD_col (e : Nat → Nat → Bool) (k i : Nat) : matD e (k + 1) i k = matD e k i k := by
  simp only [matD]
  cases matD e k i k <;> simp
theorem matD_trans {e : Nat → Nat → Bool} : ∀ (k i m j : Nat), m < k → matD e k i m = true → matD e k m j = true → matD e k i j = true
  | 0, _, _, _, h, _, _ => by omega
  | k + 1, i, m, j, hm, h1, h2 => by
    have T := matD_trans (e := e) k
    by_cases e1 : m = k
    · subst e1
      rw [matD_col] at h1
      rw [matD_row] at h2
      simp [matD, h1, h2]
    · have hm' : m < k := by omega
      simp only [matD, Bool.or_eq_true, Bool.and_eq_true] at h1 h2 ⊢
      rcases h1 with h1 | ⟨h1, h1'⟩
      · rcases h2 with h2 | ⟨h2, h2'⟩
        · exact .inl (T i m j hm' h1 h2)
        · exact .inr ⟨T i m k hm' h1 h2, h2'⟩
      · rcases h2 with h2 | ⟨h2, h2'⟩
        · exact .inr ⟨h1, T k m j hm' h1' h2⟩
        · exact .inr ⟨h1, h2'⟩
theorem matD_sound {e : Nat → Nat → Bool} {R : Nat → Nat → Prop} (hb : ∀ i j, e i j = true → R i j) (ht : ∀ i m j, R i m → R m j → R i j) : ∀ (k i j : Nat), matD e k i j = true → R i j
  | 0, i, j, h => hb i j h
  | k + 1, i, j, h => by
    simp only [matD, Bool.or_eq_true, Bool.and_eq_true] at h
    rcases h with h | ⟨h1, h2⟩
    · exact matD_sound hb ht k i j h
    · exact ht i k j (matD_sound hb ht k i k h1) (matD_sound hb ht k k j h2)
def stage (e : Nat → Nat → Bool) (k i j : Nat) : Nat → Nat → Bool := fun a b => if a < i ∨ (a = i ∧ b < j) then matD e (k + 1) a b else matD e k a b
def upd (mt : Nat → Nat → Bool) (i j : Nat) (v : Bool) : Nat → Nat → Bool := fun a b => if a = i ∧ b = j then v else mt a b
theorem stage_col (e : Nat → Nat → Bool) (k i j a : Nat) : stage e k i j a k = matD e k a k := by
  unfold stage; split
  · exact matD_col e k a
  · rfl
theorem stage_row (e : Nat → Nat → Bool) (k i j b : Nat) : stage e k i j k b = matD e k k b := by
  unfold stage; split
  · exact matD_row e k b
  · rfl
theorem stage_at (e : Nat → Nat → Bool) (k i j : Nat) : stage e k i j i j = matD e k i j := by
  unfold stage; rw [if_neg (by omega)]
theorem stage_upd (e : Nat → Nat → Bool) (k i j : Nat) : upd (stage e k i j) i j (stage e k i j i j || (stage e k i j i k && stage e k i j k j)) = stage e k i (j + 1) := by
  rw [stage_at, stage_col, stage_row]
  funext a b
  unfold upd stage
  by_cases h : a = i ∧ b = j
  · obtain ⟨rfl, rfl⟩ := h
    rw [if_pos ⟨rfl, rfl⟩, if_pos (by omega)]
    rfl
  · rw [if_neg h]
    by_cases h2 : a < i ∨ (a = i ∧ b < j)
    · rw [if_pos h2, if_pos (by omega)]
    · rw [if_neg h2, if_neg (by omega)]
def matCells (mt : Nat → Nat → Bool) : List Value := (List.range 400).map fun n => Value.bool (mt (n / 20) (n % 20))
theorem matCells_length (mt : Nat → Nat → Bool) : (matCells mt).length = 400 := by simp [matCells]
theorem matCells_at (mt : Nat → Nat → Bool) (i j : Nat) (hi : i < 20) (hj : j < 20) : (matCells mt)[i * 20 + j]? = some (.bool (mt i j)) := by
  unfold matCells
  rw [List.getElem?_map, List.getElem?_range (by omega)]
  simp only [Option.map_some]
  rw [show (i * 20 + j) / 20 = i by omega, show (i * 20 + j) % 20 = j by omega]
theorem matCells_congr {mt mt' : Nat → Nat → Bool} (h : ∀ i j, i < 20 → j < 20 → mt i j = mt' i j) : matCells mt = matCells mt' := by
  unfold matCells
  refine List.map_congr_left fun n hn => ?_
  rw [List.mem_range] at hn
  rw [h _ _ (by omega) (by omega)]
theorem matCells_set (mt : Nat → Nat → Bool) (i j : Nat) (v : Bool) (hi : i < 20) (hj : j < 20) : (matCells mt).set (i * 20 + j) (.bool v) = matCells (upd mt i j v) := by
  apply List.ext_getElem?
  intro n
  by_cases hn : n < 400
  · obtain ⟨a, b, rfl, ha, hb⟩ : ∃ a b, n = a * 20 + b ∧ a < 20 ∧ b < 20 := ⟨n / 20, n % 20, by omega, by omega, by omega⟩
    rw [matCells_at _ a b ha hb]
    by_cases h : a = i ∧ b = j
    · obtain ⟨rfl, rfl⟩ := h
      rw [List.getElem?_set_self (by rw [matCells_length]; omega)]
      simp [upd]
    · rw [List.getElem?_set_ne (by omega), matCells_at _ a b ha hb]
      simp [upd, h]
  · rw [List.getElem?_eq_none (by rw [List.length_set, matCells_length]; omega), List.getElem?_eq_none (by rw [matCells_length]; omega)]
def Mat (W : World) (t : TypeId) (g : Nat) (mt : Nat → Nat → Bool) : Prop := W.heap[g]? = some (.cells (matCells mt).toArray t (0, 0))
theorem Mat.cell {W : World} {t : TypeId} {g : Nat} {mt : Nat → Nat → Bool} (h : Mat W t g mt) (i j : Nat) (hi : i < 20) (hj : j < 20) : W.cell? ⟨g, i * 20 + j, none⟩ = some (.bool (mt i j)) :=
  (blk_cell h _).trans (by rw [List.getElem?_toArray]; exact matCells_at mt i j hi hj)
theorem Mat.frozen {W : World} {t : TypeId} {g : Nat} {mt : Nat → Nat → Bool} (h : Mat W t g mt) (n : Nat) : W.frozen? ⟨g, n, none⟩ = false := blk_frozen h n
theorem Mat.set {W : World} {t : TypeId} {g : Nat} {mt : Nat → Nat → Bool} (h : Mat W t g mt) (i j : Nat) (v : Bool) (hi : i < 20) (hj : j < 20) : Mat (W.setCell ⟨g, i * 20 + j, none⟩ (.bool v)) t g (upd mt i j v) := by
  unfold Mat
  refine blk_put h (i * 20 + j) (.bool v) ?_
  rw [← matCells_set mt i j v hi hj]
  simp
theorem Mat.congr {W : World} {t : TypeId} {g : Nat} {mt mt' : Nat → Nat → Bool} (h : Mat W t g mt) (he : ∀ i j, i < 20 → j < 20 → mt i j = mt' i j) : Mat W t g mt' := by
  unfold Mat
  rw [← matCells_congr he]
  exact h
theorem Mat.below {W W1 : World} {t : TypeId} {g : Nat} {mt : Nat → Nat → Bool} (h : Mat W t g mt) (hb : Below W.heap.size W W1) : Mat W1 t g mt := blk_below h hb
theorem mat_zero : (matCells fun _ _ => false).toArray = Array.replicate 400 (Value.bool false) := by
  apply Array.ext_getElem?
  intro n
  rw [List.getElem?_toArray, Array.getElem?_replicate]
  unfold matCells
  by_cases h : n < 400
  · rw [if_pos h, List.getElem?_map, List.getElem?_range h]; rfl
  · rw [if_neg h, List.getElem?_eq_none (by simp; omega)]
end Go.Proofs.Ytjomlfdkmdgclaa.P
end
section
namespace Go.Proofs.Ytjomlfdkmdgclaa.P
open Go.RowKit Go.Proofs.YtjomlfdkmdgclaaW.PrintWords Go.Proofs.YtjomlfdkmdgclaaW.PrintLast Go.Proofs.YtjomlfdkmdgclaaW.PrintMore
attribute [local go_sem] max2_int min2_int max_two min_two max_three min_three max_four min_four   
set_option linter.unusedVariables false
set_option linter.unusedSimpArgs false
theorem mem_refRows (s : Nat) (y : Int) : ∀ (l : List Rule') (rows : Nat → List Int), y ∈ l.foldl rowStep rows s ↔ y ∈ rows s ∨ ∃ r ∈ l, r.f0 = s ∧ r.f1 = [y] ∧ 0 ≤ y
  | [], rows => by simp
  | r :: l, rows => by
    rw [List.foldl_cons, mem_refRows s y l (rowStep rows r)]
    have h : y ∈ rowStep rows r s ↔ y ∈ rows s ∨ (r.f0 = s ∧ r.f1 = [y] ∧ 0 ≤ y) := by
      unfold rowStep oneOf
      split
      case isTrue hc =>
        obtain ⟨h1, h2⟩ := hc
        obtain ⟨h3, h4⟩ := of_decide_eq_true h1
        rw [mem_putP]
        have h5 : r.f1 = [rd r.f1 0] := by
          match hr : r.f1, h3 with
          | [x], _ => simp [rd]
        constructor
        · rintro (rfl | h)
          · exact .inr ⟨h2, h5, h4⟩
          · exact .inl h
        · rintro (h | ⟨_, h, _⟩)
          · exact .inr h
          · left
            rw [h]; rfl
      case isFalse hc =>
        constructor
        · exact .inl
        · rintro (h | ⟨h1, h2, h3⟩)
          · exact h
          · exact absurd ⟨decide_eq_true ⟨by rw [h2]; rfl, by rw [h2]; exact h3⟩, h1⟩ hc
    rw [h, or_assoc]
    simp
theorem refRows_iff (l0 : List Rule') (hr : l0.all rightR = true) (s : Nat) (hs : s < 20) (y : Int) : y ∈ refRows l0 s ↔ y ∈ rowsNext l0 s := by
  unfold refRows
  rw [mem_refRows, mem_rowsNext l0 s ⟨by omega, by omega⟩]
  constructor
  · rintro (h | ⟨r, h1, h2, h3, h4⟩)
    · cases h
    · refine ⟨⟨h4, ?_⟩, r, h1, h2, h3⟩
      have h5 := List.all_eq_true.1 hr r h1
      unfold rightR rightP at h5
      simp only [Bool.and_eq_true] at h5
      have h6 := List.all_eq_true.1 h5.2.2.1 y (by rw [h3]; exact List.mem_singleton.2 rfl)
      unfold itemB at h6
      rw [Bool.and_eq_true] at h6
      exact of_decide_eq_true h6.1
  · rintro ⟨h1, r, h2, h3, h4⟩
    exact .inr ⟨r, h2, h3, h4, h1.1⟩
def arrow (l0 : List Rule') (i j : Nat) : Bool := decide ((j : Int) ∈ refRows l0 i)
theorem arrows_reach (l0 : List Rule') (hr : l0.all rightR = true) (i : Nat) (hi : i < 20) (y : Int) : Reach (rowsNext l0) (rowsNext l0 i) y ↔ inSym y ∧ matD (arrow l0) 20 i y.toNat = true := by
  have his : inSym (i : Int) := ⟨by omega, by omega⟩
  constructor
  · intro h
    refine Reach.inv (P := fun y => inSym y ∧ matD (arrow l0) 20 i y.toNat = true) (fun x hx => ?_) (fun x hx y hy => ?_) h
    · have h1 := rowsNext_sym l0 i his x hx
      refine ⟨h1, matD_base ?_ 20⟩
      unfold arrow
      rw [Int.toNat_of_nonneg h1.1]
      exact decide_eq_true ((refRows_iff l0 hr i hi x).2 hx)
    · have h1 := rowsNext_sym l0 x hx.1 y hy
      refine ⟨h1, matD_trans 20 i x.toNat y.toNat (by have := hx.1.1; have := hx.1.2; omega) hx.2 (matD_base ?_ 20)⟩
      unfold arrow
      rw [Int.toNat_of_nonneg h1.1]
      refine decide_eq_true ((refRows_iff l0 hr x.toNat (by have := hx.1.1; have := hx.1.2; omega) y).2 ?_)
      rw [Int.toNat_of_nonneg hx.1.1]
      exact hy
  · rintro ⟨hy, h⟩
    have h2 := matD_sound (e := arrow l0) (R := fun a b => a < 20 → b < 20 ∧ Reach (rowsNext l0) (rowsNext l0 (a : Int)) (b : Int))
      (fun a b hab ha => by
        have h3 := (refRows_iff l0 hr a ha (b : Int)).1 (of_decide_eq_true hab)
        have h4 := rowsNext_sym l0 a ⟨by omega, by omega⟩ b h3
        exact ⟨by have := h4.2; omega, .base h3⟩)
      (fun a m b h1 h2 ha => by
        obtain ⟨hm, h3⟩ := h1 ha
        obtain ⟨hb, h4⟩ := h2 hm
        refine ⟨hb, ?_⟩
        refine Reach.inv (P := fun y => Reach (rowsNext l0) (rowsNext l0 (a : Int)) y) (fun x hx => .step h3 hx) (fun x hx y hy => .step hx hy) h4) 20 i y.toNat h hi
    rw [Int.toNat_of_nonneg hy.1] at h2
    exact h2.2
theorem checkP_matD (l0 : List Rule') (h60 : l0.length ≤ 60) (hr : l0.all rightR = true) : checkP l0 = true ↔ ∀ i, i < 20 → matD (arrow l0) 20 i i = false := by
  rw [checkP_iff]
  constructor
  · rintro ⟨_, _, h⟩ i hi
    have h1 := h i ⟨by omega, by omega⟩
    rw [arrows_reach l0 hr i hi] at h1
    cases hm : matD (arrow l0) 20 i i with
    | false => rfl
    | true => exact absurd ⟨⟨by omega, by omega⟩, by simpa using hm⟩ h1
  · intro h
    refine ⟨h60, hr, fun x hx hR => ?_⟩
    obtain ⟨n, rfl⟩ : ∃ n : Nat, x = n := ⟨x.toNat, by have := hx.1; omega⟩
    have hn : n < 20 := by have := hx.2; omega
    have h1 := ((arrows_reach l0 hr n hn n).1 hR).2
    have h2 := h n hn
    simp [h2] at h1
def arrowUpto (l0 : List Rule') (i k : Nat) (a b : Nat) : Bool := decide (a < i) && arrow l0 a b || (decide (a = i) && decide ((b : Int) ∈ (refRows l0 i).take k))
theorem arrowUpto_snoc (l0 : List Rule') (i k : Nat) (h : k < (refRows l0 i).length) (z : Nat) (hz : (refRows l0 i)[k] = (z : Int)) : upd (arrowUpto l0 i k) i z true = arrowUpto l0 i (k + 1) := by
  funext a b
  unfold upd arrowUpto
  rw [List.take_succ_eq_append_getElem h, hz]
  by_cases ha : a = i
  · subst ha
    by_cases hb : b = z
    · subst hb; simp
    · have : ¬ (b : Int) = (z : Int) := by omega
      simp [hb, this]
  · simp [ha]
theorem arrowUpto_next (l0 : List Rule') (i : Nat) : arrowUpto l0 i (refRows l0 i).length = arrowUpto l0 (i + 1) 0 := by
  funext a b
  unfold arrowUpto
  rw [List.take_length, List.take_zero]
  by_cases ha : a = i
  · subst ha
    simp [arrow]
  · by_cases hl : a < i
    · simp [hl, ha, show a < i + 1 by omega]
    · simp [hl, ha, show ¬ a < i + 1 by omega]
noncomputable def interlocutorref4_Check.f (l0 : List Rule') : Option Bool := some (checkP l0)
theorem mat0 : Try.zeroCells63 = (matCells fun _ _ => false).toArray := by rw [mat_zero]; kernel_rfl
set_option maxHeartbeats 4000000 in
set_option maxRecDepth 100000 in
theorem refCheck_walk (A0 : Option Addr) (c0 : Nat) (l0 : List Rule') (w : World) (hr0 : Kd.C k26 w A0 l0.length l0) (hc0 : l0.length ≤ c0) :
    Calls Try.prog 22 #[.slice A0 l0.length c0] w fun e w' => e = .returned (.bool (checkP l0)) ∧ Below w.heap.size w w' := by
  have HR := Aside0.mk hr0
  have HC := Aside0.mk hc0
  clear hr0 hc0
  by_cases h60 : l0.length ≤ 60
  · have h60z : ¬ ((l0.length : Int) > 60) := by omega
    go_enter Try.func22, Try.ntmps22
    go_wp2
    go_loopg [3] l0.length (fun gg s3 wr => ∃ kk : Nat, kk ≤ l0.length ∧ l0.length - kk ≤ gg ∧ s3 = .int .i64 kk ∧ Aside0 (∀ j, j < kk → ∀ h : j < l0.length, rightR l0[j] = true) ∧ Aside0 (Below w.heap.size w wr))
    case atStart => exact ⟨0, Nat.zero_le _, by omega, rfl, ⟨fun j hj => absurd hj (Nat.not_lt_zero _)⟩, ⟨Below.refl _ _⟩⟩
    case round =>
      obtain ⟨kk, hkk, hgg, rfl, HA, HB⟩ := hrel
      by_cases hlt : kk < l0.length
      · have hltz : (kk : Int) < (l0.length : Int) := by omega
        obtain ⟨ad, A1, c1, A3, c3, hA, h0, h1, h2, h3, h4, l1, g1, l3, g3⟩ := at_T26 (Kd.C_below HR.out HB.out) kk (by omega) hltz
        have hx : rd_T26 l0 kk = l0[kk] := by simp [rd_T26, List.getD_eq_getElem?_getD, List.getElem?_eq_getElem hlt]
        generalize rd_T26 l0 kk = y at *
        rw [Int.toNat_natCast] at h0 h1 h2 h3 h4
        subst hA
        have HX := Aside0.mk hx
        clear hx
        have HRS := Aside0.mk (refRight_some y.f0 y.f1 y.f2.f0 y.f2.f1 y.f3 (y.f1.length + y.f2.f1.length + 11) g1.2.1 g3.2.1 (by omega))
        have hcall := Aside0.mk (interlocutorref4_Right.calls (y.f1.length + y.f2.f1.length + 11) y.f0 A1 c1 y.f1 y.f2.f0 A3 c3 y.f2.f1 y.f3 (rightR y) wr g1 l1 g3 l3 HRS.out)
        clear g1 g3
        cases hr : rightR y with
        | true =>
          rw [hr] at hcall
          go_wp2_with fail
          refine hcall.out.mono ?_
          rintro e w' ⟨rfl, hb⟩
          have HB2 := Aside0.mk (below_step HB.out hb)
          clear hb
          go_wp2
          go_roundg (l0.length - (kk + 1))
          case measure => omega
          case rel =>
            refine ⟨kk + 1, by omega, by omega, by go_num, ⟨fun j hj hl => ?_⟩, HB2⟩
            by_cases e : j = kk
            · subst e; rw [← HX.out]; exact hr
            · exact HA.out j (by omega) hl
        | false =>
          rw [hr] at hcall
          have hz : checkP l0 = false := by
            unfold checkP
            have : l0.all rightR = false := List.all_eq_false.2 ⟨l0[kk], List.getElem_mem hlt, by rw [← HX.out, hr]; decide⟩
            rw [this, Bool.false_and, Bool.and_false]
          go_wp2_with fail
          refine hcall.out.mono ?_
          rintro e w' ⟨rfl, hb⟩
          have HB2 := Aside0.mk (below_step HB.out hb)
          clear hb
          go_wp2
          go_ret
          exact ⟨ret_bool hz.symm, HB2.out⟩
      · have hltz : ¬ (kk : Int) < (l0.length : Int) := by omega
        have hkl : kk = l0.length := by omega
        subst hkl
        have hall : l0.all rightR = true := by
          rw [List.all_eq_true]
          intro r hr
          obtain ⟨j, hj, rfl⟩ := List.mem_iff_getElem.1 hr
          exact HA.out j hj hj
        have HCM := Aside0.mk (checkP_matD l0 h60 hall)
        have hu := Aside0.mk (unitsB_of l0 h60 hall)
        have HALL := Aside0.mk hall
        have HR1 := Aside0.mk (Kd.C_below HR.out HB.out)
        clear HA hall HR
        go_wp2_with fail
        refine (refUnits_walk A0 c0 l0 wr HR1.out HC.out hu.out).mono ?_
        rintro e w1 ⟨v1, rfl, hS, hb⟩
        obtain ⟨A2, c2, rfl, hc2, hC2⟩ := Kd.S_reads hS
        have hlen : (refUnitsP l0).length = 20 := by simp [refUnitsP]
        have HB1 := Aside0.mk (below_step HB.out hb)
        have HU1 := Aside0.mk hC2
        have HM := Aside0.mk (show Mat (w1.alloc (.cells Try.zeroCells63 63)) 63 w1.heap.size (fun _ _ => false) from by unfold Mat; rw [← mat0]; exact blk_new _ _)
        have HB2 := Aside0.mk (below_alloc (Below.refl w1.heap.size w1) (.cells Try.zeroCells63 63))
        rw [hlen]
        have HLN := Aside0.mk hlen
        clear hS hb hc2 hC2 hlen HB HR1
        go_wp2
        generalize (w1.alloc (.cells Try.zeroCells63 63)) = W2 at *
        generalize hg : w1.heap.size = g at *
        have HG := Aside0.mk hg
        clear hg
        go_loopg [6] 20 (fun gg s6 wr => ∃ i : Nat, i ≤ 20 ∧ 20 - i ≤ gg ∧ s6 = .int .i64 i ∧ Aside0 (Mat wr 63 g (arrowUpto l0 i 0)) ∧ Aside0 (Below g w1 wr))
        case atStart => exact ⟨0, by omega, by omega, rfl, ⟨HM.out.congr (fun i j _ _ => by simp [arrowUpto])⟩, HB2⟩
        case round =>
          clear HM HB2
          obtain ⟨i, hi, hgi, rfl, HM, HB2⟩ := hrel
          by_cases hlt : i < 20
          · have hltz : (i : Int) < 20 := by omega
            have hrow : rd_L2 (refUnitsP l0) (i : Int) = refRows l0 i := by
              unfold rd_L2 refUnitsP
              rw [Int.toNat_natCast, List.getD_eq_getElem?_getD, List.getElem?_map, List.getElem?_range hlt]
              rfl
            have HROW := Aside0.mk hrow
            clear hrow
            go_wp2
            go_loopg [7] (refRows l0 i).length (fun gg s7 wr => ∃ k : Nat, k ≤ (refRows l0 i).length ∧ (refRows l0 i).length - k ≤ gg ∧ s7 = .int .i64 k ∧ Aside0 (Mat wr 63 g (arrowUpto l0 i k)) ∧ Aside0 (Below g w1 wr))
            case atStart => exact ⟨0, Nat.zero_le _, by omega, rfl, HM, HB2⟩
            case round =>
              clear HM HB2
              obtain ⟨k, hk, hgk, rfl, HM, HB2⟩ := hrel
              obtain ⟨ad, A4, c4, hA, h0, h1, h2⟩ := at_L2 (show Kd.C (Kd.slice 3 (Kd.int .i64)) wr A2 (refUnitsP l0).length (refUnitsP l0) from Kd.C_below HU1.out (by rw [HG.out]; exact HB2.out)) i (by omega) (by rw [HLN.out]; exact hltz)
              rw [HROW.out] at h0 h1 h2
              rw [Int.toNat_natCast] at h0
              subst hA
              have hlm : (refRows l0 i).length ≤ 9223372036854775807 := h2.2.1
              by_cases hlk : k < (refRows l0 i).length
              · have hz0 := (refRows_iff l0 HALL.out i hlt _).1 (List.getElem_mem hlk)
                have hz1 := rowsNext_sym l0 i ⟨by omega, by omega⟩ _ hz0
                obtain ⟨z, hz⟩ : ∃ z : Nat, (refRows l0 i)[k] = (z : Int) := ⟨(refRows l0 i)[k].toNat, by have := hz1.1; omega⟩
                have hz20 : z < 20 := by have := hz1.2; omega
                have HUP := Aside0.mk (arrowUpto_snoc l0 i k hlk z hz)
                have hlkz : (k : Int) < ((refRows l0 i).length : Int) := by omega
                obtain ⟨ad1, hA1, hc1⟩ := Kd.at_int h2 k (by omega) hlkz
                rw [Int.toNat_natCast, rd_getElem _ k hlk, hz] at hc1
                subst hA1
                have hz20z : (z : Int) < 20 := by omega
                have hcm := HM.out.cell i z hlt hz20
                have hcf := HM.out.frozen (i * 20 + z)
                have HMS := Aside0.mk (HM.out.set i z true hlt hz20)
                rw [HUP.out] at HMS
                clear hz hz0 hz1 h2 h1
                generalize (refRows l0 i).length = m at *
                go_wp2
                go_region
                all_goals
                  go_wp2
                  go_roundg (m - (k + 1))
                  case measure => omega
                  case rel => exact ⟨k + 1, by omega, by omega, by go_num, ⟨HMS.out⟩, ⟨(below_drew HB2.out).setCell (Nat.le_refl _) _⟩⟩
              · have hlkz : ¬ (k : Int) < ((refRows l0 i).length : Int) := by omega
                have hke : k = (refRows l0 i).length := by omega
                have HM2 : Aside0 (Mat wr 63 g (arrowUpto l0 (i + 1) 0)) := ⟨by rw [← arrowUpto_next, ← hke]; exact HM.out⟩
                clear hke h2
                generalize (refRows l0 i).length = m at *
                go_wp2
                go_roundg (20 - (i + 1))
                case measure => omega
                case rel => exact ⟨i + 1, by omega, by omega, by go_num, HM2, HB2⟩
          · have hltz : ¬ (i : Int) < 20 := by omega
            have hie : i = 20 := by omega
            subst hie
            have HM0 : Aside0 (Mat wr 63 g (matD (arrow l0) 0)) := ⟨HM.out.congr (fun a b ha _ => by simp [arrowUpto, matD, ha])⟩
            clear HM HU1
            go_wp2
            go_loopg [8] 20 (fun gg s8 wr => ∃ k : Nat, k ≤ 20 ∧ 20 - k ≤ gg ∧ s8 = .int .i64 k ∧ Aside0 (Mat wr 63 g (matD (arrow l0) k)) ∧ Aside0 (Below g w1 wr))
            case atStart => exact ⟨0, by omega, by omega, rfl, HM0, HB2⟩
            case round =>
              clear HM0 HB2
              obtain ⟨k, hk, hgk, rfl, HM, HB2⟩ := hrel
              by_cases hk20 : k < 20
              · have hk20z : (k : Int) < 20 := by omega
                have HM1 : Aside0 (Mat wr 63 g (stage (arrow l0) k 0 0)) := ⟨HM.out.congr (fun a b _ _ => by simp [stage])⟩
                clear HM
                go_wp2
                go_loopg [9] 20 (fun gg s9 wr => ∃ i : Nat, i ≤ 20 ∧ 20 - i ≤ gg ∧ s9 = .int .i64 i ∧ Aside0 (Mat wr 63 g (stage (arrow l0) k i 0)) ∧ Aside0 (Below g w1 wr))
                case atStart => exact ⟨0, by omega, by omega, rfl, HM1, HB2⟩
                case round =>
                  clear HM1 HB2
                  obtain ⟨i, hi, hgi, rfl, HM, HB2⟩ := hrel
                  by_cases hi20 : i < 20
                  · have hi20z : (i : Int) < 20 := by omega
                    go_wp2
                    go_loopg [10] 20 (fun gg s10 wr => ∃ j : Nat, j ≤ 20 ∧ 20 - j ≤ gg ∧ s10 = .int .i64 j ∧ Aside0 (Mat wr 63 g (stage (arrow l0) k i j)) ∧ Aside0 (Below g w1 wr))
                    case atStart => exact ⟨0, by omega, by omega, rfl, HM, HB2⟩
                    case round =>
                      clear HM HB2
                      obtain ⟨j, hj, hgj, rfl, HM, HB2⟩ := hrel
                      by_cases hj20 : j < 20
                      · have hj20z : (j : Int) < 20 := by omega
                        have m1 := HM.out.cell i j hi20 hj20
                        have m2 := HM.out.cell i k hi20 hk20
                        have m3 := HM.out.cell k j hk20 hj20
                        have mf := HM.out.frozen (i * 20 + j)
                        have HMS : ∀ v : Bool, v = (stage (arrow l0) k i j i j || (stage (arrow l0) k i j i k && stage (arrow l0) k i j k j)) → Mat (wr.setCell ⟨g, i * 20 + j, none⟩ (.bool v)) 63 g (stage (arrow l0) k i (j + 1)) := by
                          intro v hv
                          rw [← stage_upd, ← hv]
                          exact HM.out.set i j v hi20 hj20
                        generalize stage (arrow l0) k i j i j = x1 at *
                        generalize stage (arrow l0) k i j i k = x2 at *
                        generalize stage (arrow l0) k i j k j = x3 at *
                        have HMT := Aside0.mk HMS
                        clear HMS HM
                        cases x1 with
                        | true =>
                          go_wp2
                          go_region
                          all_goals
                            go_wp2
                            go_roundg (20 - (j + 1))
                            case measure => omega
                            case rel => exact ⟨j + 1, by omega, by omega, by go_num, ⟨HMT.out true (by simp)⟩, ⟨(below_drew HB2.out).setCell (Nat.le_refl _) _⟩⟩
                        | false =>
                          cases x2 with
                          | false =>
                            go_wp2
                            go_region
                            all_goals
                              go_wp2
                              go_roundg (20 - (j + 1))
                              case measure => omega
                              case rel => exact ⟨j + 1, by omega, by omega, by go_num, ⟨HMT.out false (by simp)⟩, ⟨(below_drew HB2.out).setCell (Nat.le_refl _) _⟩⟩
                          | true =>
                            cases x3 with
                            | false =>
                              go_wp2
                              go_region
                              all_goals
                                go_wp2
                                go_roundg (20 - (j + 1))
                                case measure => omega
                                case rel => exact ⟨j + 1, by omega, by omega, by go_num, ⟨HMT.out false (by simp)⟩, ⟨(below_drew HB2.out).setCell (Nat.le_refl _) _⟩⟩
                            | true =>
                              go_wp2
                              go_region
                              all_goals
                                go_wp2
                                go_roundg (20 - (j + 1))
                                case measure => omega
                                case rel => exact ⟨j + 1, by omega, by omega, by go_num, ⟨HMT.out true (by simp)⟩, ⟨(below_drew HB2.out).setCell (Nat.le_refl _) _⟩⟩
                      · have hj20z : ¬ (j : Int) < 20 := by omega
                        have hje : j = 20 := by omega
                        have HM2 : Aside0 (Mat wr 63 g (stage (arrow l0) k (i + 1) 0)) := ⟨HM.out.congr (fun a b _ hb => by
                          unfold stage
                          by_cases h : a < i ∨ (a = i ∧ b < j)
                          · rw [if_pos h, if_pos (by omega)]
                          · rw [if_neg h, if_neg (by omega)])⟩
                        go_wp2
                        go_roundg (20 - (i + 1))
                        case measure => omega
                        case rel => exact ⟨i + 1, by omega, by omega, by go_num, HM2, HB2⟩
                  · have hi20z : ¬ (i : Int) < 20 := by omega
                    have HM2 : Aside0 (Mat wr 63 g (matD (arrow l0) (k + 1))) := ⟨HM.out.congr (fun a b ha _ => by
                      unfold stage
                      rw [if_pos (by omega)])⟩
                    go_wp2
                    go_roundg (20 - (k + 1))
                    case measure => omega
                    case rel => exact ⟨k + 1, by omega, by omega, by go_num, HM2, HB2⟩
              · have hk20z : ¬ (k : Int) < 20 := by omega
                have hke : k = 20 := by omega
                subst hke
                go_wp2
                go_loopg [11] 20 (fun gg s11 wr => ∃ i : Nat, i ≤ 20 ∧ 20 - i ≤ gg ∧ s11 = .int .i64 i ∧ Aside0 (Mat wr 63 g (matD (arrow l0) 20)) ∧ Aside0 (Below g w1 wr) ∧ Aside0 (∀ j, j < i → matD (arrow l0) 20 j j = false))
                case atStart => exact ⟨0, by omega, by omega, rfl, HM, HB2, ⟨fun j hj => absurd hj (Nat.not_lt_zero _)⟩⟩
                case round =>
                  clear HM HB2
                  obtain ⟨i, hi, hgi, rfl, HM, HB2, HA⟩ := hrel
                  by_cases hi20 : i < 20
                  · have hi20z : (i : Int) < 20 := by omega
                    have m1 := HM.out.cell i i hi20 hi20
                    cases hd : matD (arrow l0) 20 i i with
                    | true =>
                      rw [hd] at m1
                      have hz : checkP l0 = false := by
                        cases hc : checkP l0 with
                        | false => rfl
                        | true =>
                          have := HCM.out.1 hc i hi20
                          rw [hd] at this
                          cases this
                      go_wp2
                      go_ret
                      exact ⟨ret_bool hz.symm, HB1.out.trans (HB2.out.mono (by rw [← HG.out]; exact HB1.out.size))⟩
                    | false =>
                      rw [hd] at m1
                      go_wp2
                      go_roundg (20 - (i + 1))
                      case measure => omega
                      case rel =>
                        refine ⟨i + 1, by omega, by omega, by go_num, HM, HB2, ⟨fun j hj => ?_⟩⟩
                        by_cases e : j = i
                        · subst e; exact hd
                        · exact HA.out j (by omega)
                  · have hi20z : ¬ (i : Int) < 20 := by omega
                    have hz : checkP l0 = true := HCM.out.2 (fun j hj => HA.out j (by omega))
                    go_wp2
                    go_ret
                    exact ⟨by first | rfl | exact ret_bool hz.symm, HB1.out.trans (HB2.out.mono (by rw [← HG.out]; exact HB1.out.size))⟩
  · have h60z : (l0.length : Int) > 60 := by omega
    have hz : checkP l0 = false := by simp [checkP, h60]
    go_enter Try.func22, Try.ntmps22
    go_wp2
    go_ret
    exact ⟨ret_bool hz.symm, Below.refl _ _⟩
theorem interlocutorref4_Check.calls (A0 : Option Addr) (c0 : Nat) (l0 : List Rule') (r : Bool) (w : World) (hr0 : Kd.C k26 w A0 l0.length l0) (hc0 : l0.length ≤ c0) (h : interlocutorref4_Check.f l0 = some r) :
    Calls Try.prog 22 #[.slice A0 l0.length c0] w fun e w' => e = .returned (.bool r) ∧ Below w.heap.size w w' := by
  obtain rfl := Option.some.inj h
  exact refCheck_walk A0 c0 l0 w hr0 hc0
end Go.Proofs.Ytjomlfdkmdgclaa.P
end
section
namespace Go.Proofs.Ytjomlfdkmdgclaa.P
open Go.RowKit Go.Proofs.YtjomlfdkmdgclaaW.PrintWords Go.Proofs.YtjomlfdkmdgclaaW.PrintLast Go.Proofs.YtjomlfdkmdgclaaW.PrintMore
attribute [local go_sem] max2_int min2_int max_two min_two max_three min_three max_four min_four   
set_option linter.unusedVariables false
set_option linter.unusedSimpArgs false
mutual
noncomputable def interlocutorlaw4_Rules.l0 : Nat → List (S31) → Int → List (S26) → Int → Option ((List (S26)))
  | 0, _, _, _, _ => none
  | k + 1, x0, x1, x5, x6 => if x6 < (x0.length : Int) then (interlocutorlaw4_Rules.j1 k x0 x1 x5 x6 (decide (x6 < 20))) else (interlocutorlaw4_Rules.j1 k x0 x1 x5 x6 false)
noncomputable def interlocutorlaw4_Rules.j1 : Nat → List (S31) → Int → List (S26) → Int → Bool → Option ((List (S26)))
  | 0, _, _, _, _, _ => none
  | k + 1, x0, x1, x5, x6, x15 => if x15 = true then ((some (([] : List (S26)) : List (S26))).bind fun y329 => (if y329.length + x5.length < 1954687338268 then ((some (y329 ++ x5 : List (S26))).bind fun y332 => (if 0 ≤ x6 then (if x6 < (x0.length : Int) then ((interlocutorlaw4_Raw_Make.f k ((rd_T31 x0 x6).f0) ((rd_T31 x0 x6).f1) ((rd_T31 x0 x6).f2) ((rd_T31 x0 x6).f3) ((rd_T31 x0 x6).f4) x1).bind fun bt336 => (if y332.length < 1954687338268 then ((some (y332 ++ [(⟨bt336.1, bt336.2.1, (⟨bt336.2.2.1, bt336.2.2.2.1⟩ : S24), bt336.2.2.2.2⟩ : S26)] : List (S26))).bind fun y345 => ((interlocutorref4_Check.f y345).bind fun t348 => (if t348 = true then (interlocutorlaw4_Rules.l0 k x0 x1 y345 (wrap64 (x6 + 1))) else (interlocutorlaw4_Rules.l0 k x0 x1 x5 (wrap64 (x6 + 1)))))) else (none))) else (none)) else (none))) else (none))) else (some x5)
end
noncomputable def interlocutorlaw4_Rules.f (k : Nat) (l0 : List (S31)) (a1 : Int) : Option ((List (S26))) := interlocutorlaw4_Rules.l0 k l0 a1 ([] : List (S26)) 0
theorem interlocutorlaw4_Rules.mono_l : ∀ k, (∀ y0 y1 y2 y3, LeO (interlocutorlaw4_Rules.l0 k y0 y1 y2 y3) (interlocutorlaw4_Rules.l0 (k + 1) y0 y1 y2 y3)) ∧ (∀ y0 y1 y2 y3 y4, LeO (interlocutorlaw4_Rules.j1 k y0 y1 y2 y3 y4) (interlocutorlaw4_Rules.j1 (k + 1) y0 y1 y2 y3 y4))
  | 0 => ⟨fun _ _ _ _ r h => by simp [interlocutorlaw4_Rules.l0] at h, fun _ _ _ _ _ r h => by simp [interlocutorlaw4_Rules.j1] at h⟩
  | k + 1 => by
    obtain ⟨ih0, ih1⟩ := interlocutorlaw4_Rules.mono_l k
    refine ⟨?_, ?_⟩
    · intro y0 y1 y2 y3
      unfold interlocutorlaw4_Rules.l0
      repeat' first
      | (with_reducible exact ih0 _ _ _ _)
      | (with_reducible exact ih1 _ _ _ _ _)
      | (with_reducible exact interlocutorlaw4_Raw_Make.mono _ _ _ _ _ _ _)
      | (with_reducible exact LeO.refl _)
      | (with_reducible exact LeO.none _)
      | (with_reducible refine LeO.ite ?_ ?_)
      | (with_reducible refine LeO.bind ?_ (fun _ => ?_))
      | exact ih0 _ _ _ _
      | exact ih1 _ _ _ _ _
      | exact interlocutorlaw4_Raw_Make.mono _ _ _ _ _ _ _
      | exact LeO.none _
      | refine LeO.ite ?_ ?_
      | refine LeO.bind ?_ (fun _ => ?_)
    · intro y0 y1 y2 y3 y4
      unfold interlocutorlaw4_Rules.j1
      repeat' first
      | (with_reducible exact ih0 _ _ _ _)
      | (with_reducible exact ih1 _ _ _ _ _)
      | (with_reducible exact interlocutorlaw4_Raw_Make.mono _ _ _ _ _ _ _)
      | (with_reducible exact LeO.refl _)
      | (with_reducible exact LeO.none _)
      | (with_reducible refine LeO.ite ?_ ?_)
      | (with_reducible refine LeO.bind ?_ (fun _ => ?_))
      | exact ih0 _ _ _ _
      | exact ih1 _ _ _ _ _
      | exact interlocutorlaw4_Raw_Make.mono _ _ _ _ _ _ _
      | exact LeO.none _
      | refine LeO.ite ?_ ?_
      | refine LeO.bind ?_ (fun _ => ?_)
theorem interlocutorlaw4_Rules.mono : ∀ a0 a1 k, LeO (interlocutorlaw4_Rules.f k a0 a1) (interlocutorlaw4_Rules.f (k + 1) a0 a1) := by
  intro a0 a1 k
  obtain ⟨ih0, ih1⟩ := interlocutorlaw4_Rules.mono_l k
  unfold interlocutorlaw4_Rules.f
  repeat' first
      | (with_reducible exact ih0 _ _ _ _)
      | (with_reducible exact ih1 _ _ _ _ _)
      | (with_reducible exact interlocutorlaw4_Raw_Make.mono _ _ _ _ _ _ _)
      | (with_reducible exact LeO.refl _)
      | (with_reducible exact LeO.none _)
      | (with_reducible refine LeO.ite ?_ ?_)
      | (with_reducible refine LeO.bind ?_ (fun _ => ?_))
      | exact ih0 _ _ _ _
      | exact ih1 _ _ _ _ _
      | exact interlocutorlaw4_Raw_Make.mono _ _ _ _ _ _ _
      | exact LeO.none _
      | refine LeO.ite ?_ ?_
      | refine LeO.bind ?_ (fun _ => ?_)
def interlocutorlaw4_Rules.T5 : Bool × List (List Nat × List Nat) := (true, [([], []), ([], []), ([0, 1], [0, 1]), ([], []), ([], []), ([3, 4], [3, 4]), ([5], [5]), ([], []), ([6, 7, 2], [6, 7]), ([8], [8]), ([2, 9, 8], [2, 9]), ([10, 10, 0, 1, 2, 3, 4, 5, 6, 7, 8, 9, 10], [10])])
def interlocutorlaw4_Rules.B5 : List Nat := [0, 0, 3, 0, 0, 24, 56, 0, 255, 511, 1023, 2047]
theorem interlocutorlaw4_Rules.tab5 : rtab .any (opsOf Try.f26 5) = interlocutorlaw4_Rules.T5 := by kernel_rfl
theorem interlocutorlaw4_Rules.bits5 : waitsOk interlocutorlaw4_Rules.T5.2 interlocutorlaw4_Rules.B5 = true := by kernel_rfl
set_option maxHeartbeats 8000000 in
set_option maxRecDepth 100000 in
theorem interlocutorlaw4_Rules.calls (k : Nat) (A0 : Option Addr) (c0 : Nat) (l0 : List (S31)) (a1 : Int) (r : List (S26)) (w : World) (hr0 : Kd.C k31 w A0 l0.length l0) (hc0 : l0.length ≤ c0) (h : interlocutorlaw4_Rules.f k l0 a1 = some r) :
    Calls Try.prog 26 #[.slice A0 l0.length c0, .int .i64 a1] w fun e w' => ∃ v0_ : Value, e = .returned (v0_) ∧ Kd.N k26 26 w' w.heap.size (fun k_ => (w.heap.size ≤ k_)) v0_ r ∧ Below w.heap.size w w' := by
  have hu31 := Try.underlying31
  have HR0 := Aside0.mk hr0
  have HC0 := Aside0.mk hc0
  clear hr0 hc0
  have HB := Aside0.mk (Below.refl w.heap.size w)
  have H : (interlocutorlaw4_Rules.l0 k l0 a1 ([] : List (S26)) 0) = some r := h
  clear h
  have H' := Aside0.mk H
  clear H
  go_enter Try.func26, Try.ntmps26
  go_wp2
  go_loopg [5, 6] k (fun kq v5 v6 w' => ∃ (x5_1 : List (S26)) (x6_1 : Int), v6 = .int .i64 x6_1 ∧ Aside0 (interlocutorlaw4_Rules.l0 kq l0 a1 x5_1 x6_1 = some r) ∧ Aside0 (kq ≤ k) ∧ Aside0 (Kd.N k26 26 w' w.heap.size (fun k_ => (w.heap.size ≤ k_)) v5 x5_1) ∧ Aside0 (Below w.heap.size w w'))
  case atStart => exact ⟨(([] : List (S26))), (0), (by first | rfl | (simp; done) | (simp [*]; done)), H', ⟨Nat.le_refl _⟩, ⟨by first | exact Kd.S_nil _ _ _ _ _ | exact Kd.N_nil _ _ _ _ _ | exact Kd.V_nil _ _ _ _ _ | exact Kd.Q_nil _ _ _ _ _ | exact Kd.R_nil _ _ _ _ _⟩, ⟨by repeat (first | (with_reducible first | exact HB.out | apply below_alloc | apply pw_below_drewN | apply below_drew1) | exact HB.out)⟩⟩
  case round =>
    clear H'
    try clear c2
    try clear p2
    obtain ⟨x5_1, x6_1, rfl, HA, HK1, HO_5, HB⟩ := hrel
    cases gk with
    | zero => exact absurd HA.out (by simp [interlocutorlaw4_Rules.l0])
    | succ k1 =>
      have H := HA.out
      clear HA
      simp only [interlocutorlaw4_Rules.l0] at H
      have HC3 := Aside0.mk H
      clear H
      go_upto_region 3 with (fail)
      go_cut [15] (fun v15 wc => ∃ (kq : Nat) (x15_2 : Bool), v15 = .bool x15_2 ∧ Aside0 (interlocutorlaw4_Rules.j1 kq l0 a1 x5_1 x6_1 x15_2 = some r) ∧ Aside0 (kq ≤ k1) ∧ Aside0 (Kd.N k26 26 wc w.heap.size (fun k_ => (w.heap.size ≤ k_)) u5 x5_1) ∧ Aside0 (Below w.heap.size w wc))
      case first =>
        have H := HC3.out
        clear HC3
        by_cases c4 : x6_1 < (l0.length : Int)
        · rw [if_pos c4] at H
          have c4b0 : decide (x6_1 < (l0.length : Int)) = true := decide_eq_true c4
          clear c4
          (first | rw [c4b0] | (simp only [i64_w, i32_w]; rw [c4b0]) | skip)
          have H' := Aside0.mk H
          clear H
          go_wp2
          go_meet
          case rel => exact ⟨_, (decide (x6_1 < 20)), (by first | rfl | (simp; done) | (simp [*]; done)), H', ⟨by have := HK1.out; first | omega | exact Nat.le_refl _⟩, ⟨by (with_reducible repeat (first | apply Kd.N_alloc | apply Kd.N_drewN | apply Kd.N_drew)); exact HO_5.out⟩, ⟨by repeat (first | (with_reducible first | exact HB.out | apply below_alloc | apply pw_below_drewN | apply below_drew1) | exact HB.out)⟩⟩
        · rw [if_neg c4] at H
          have c4b0 : decide (x6_1 < (l0.length : Int)) = false := decide_eq_false c4
          clear c4
          (first | rw [c4b0] | (simp only [i64_w, i32_w]; rw [c4b0]) | skip)
          have H' := Aside0.mk H
          clear H
          go_wp2
          go_meet
          case rel => exact ⟨_, (false), (by first | rfl | (simp; done) | (simp [*]; done)), H', ⟨by have := HK1.out; first | omega | exact Nat.le_refl _⟩, ⟨by (with_reducible repeat (first | apply Kd.N_alloc | apply Kd.N_drewN | apply Kd.N_drew)); exact HO_5.out⟩, ⟨by repeat (first | (with_reducible first | exact HB.out | apply below_alloc | apply pw_below_drewN | apply below_drew1) | exact HB.out)⟩⟩
      case rest =>
        clear HC3
        try clear c2
        try clear p2
        try clear c4
        try clear c4b0
        try clear p2
        obtain ⟨kq, x15_2, rfl, HA, HJ2, HO_5, HB⟩ := hcut
        cases kq with
        | zero => exact absurd HA.out (by simp [interlocutorlaw4_Rules.j1])
        | succ kj2 =>
          have H := HA.out
          clear HA
          simp only [interlocutorlaw4_Rules.j1] at H
          by_cases c5 : x15_2 = true
          · subst c5
            have H1 : ((some (([] : List (S26)) : List (S26))).bind fun y329 => (if y329.length + x5_1.length < 1954687338268 then ((some (y329 ++ x5_1 : List (S26))).bind fun y332 => (if 0 ≤ x6_1 then (if x6_1 < (l0.length : Int) then ((interlocutorlaw4_Raw_Make.f kj2 ((rd_T31 l0 x6_1).f0) ((rd_T31 l0 x6_1).f1) ((rd_T31 l0 x6_1).f2) ((rd_T31 l0 x6_1).f3) ((rd_T31 l0 x6_1).f4) a1).bind fun bt336 => (if y332.length < 1954687338268 then ((some (y332 ++ [(⟨bt336.1, bt336.2.1, (⟨bt336.2.2.1, bt336.2.2.2.1⟩ : S24), bt336.2.2.2.2⟩ : S26)] : List (S26))).bind fun y345 => ((interlocutorref4_Check.f y345).bind fun t348 => (if t348 = true then (interlocutorlaw4_Rules.l0 kj2 l0 a1 y345 (wrap64 (x6_1 + 1))) else (interlocutorlaw4_Rules.l0 kj2 l0 a1 x5_1 (wrap64 (x6_1 + 1)))))) else (none))) else (none)) else (none))) else (none))) = some r := by rw [if_pos rfl] at H; exact H
            clear H
            have H := H1
            clear H1
            obtain ⟨y329, hy329⟩ : ∃ y_ : List (S26), y_ = (([] : List (S26))) := ⟨_, rfl⟩
            replace H : (if y329.length + x5_1.length < 1954687338268 then ((some (y329 ++ x5_1 : List (S26))).bind fun y332 => (if 0 ≤ x6_1 then (if x6_1 < (l0.length : Int) then ((interlocutorlaw4_Raw_Make.f kj2 ((rd_T31 l0 x6_1).f0) ((rd_T31 l0 x6_1).f1) ((rd_T31 l0 x6_1).f2) ((rd_T31 l0 x6_1).f3) ((rd_T31 l0 x6_1).f4) a1).bind fun bt336 => (if y332.length < 1954687338268 then ((some (y332 ++ [(⟨bt336.1, bt336.2.1, (⟨bt336.2.2.1, bt336.2.2.2.1⟩ : S24), bt336.2.2.2.2⟩ : S26)] : List (S26))).bind fun y345 => ((interlocutorref4_Check.f y345).bind fun t348 => (if t348 = true then (interlocutorlaw4_Rules.l0 kj2 l0 a1 y345 (wrap64 (x6_1 + 1))) else (interlocutorlaw4_Rules.l0 kj2 l0 a1 x5_1 (wrap64 (x6_1 + 1)))))) else (none))) else (none)) else (none))) else (none)) = some r := by first | (rw [hy329]; with_reducible exact H) | (have H2_ := (Option.bind_some _ _).symm.trans H; rw [hy329]; with_reducible exact H2_) | (have H2_ := (Option.bind_some _ _).symm.trans H; with_reducible exact H2_) | with_reducible exact H | (rw [hy329]; exact H) | exact H
            have Ny329 := Aside0.mk hy329
            clear hy329
            by_cases c6 : y329.length + x5_1.length < 1954687338268
            · rw [if_pos c6] at H
              have LMc6 := Aside0.mk c6
              clear c6
              obtain ⟨y332, hy332⟩ : ∃ y_ : List (S26), y_ = (y329 ++ x5_1) := ⟨_, rfl⟩
              replace H : (if 0 ≤ x6_1 then (if x6_1 < (l0.length : Int) then ((interlocutorlaw4_Raw_Make.f kj2 ((rd_T31 l0 x6_1).f0) ((rd_T31 l0 x6_1).f1) ((rd_T31 l0 x6_1).f2) ((rd_T31 l0 x6_1).f3) ((rd_T31 l0 x6_1).f4) a1).bind fun bt336 => (if y332.length < 1954687338268 then ((some (y332 ++ [(⟨bt336.1, bt336.2.1, (⟨bt336.2.2.1, bt336.2.2.2.1⟩ : S24), bt336.2.2.2.2⟩ : S26)] : List (S26))).bind fun y345 => ((interlocutorref4_Check.f y345).bind fun t348 => (if t348 = true then (interlocutorlaw4_Rules.l0 kj2 l0 a1 y345 (wrap64 (x6_1 + 1))) else (interlocutorlaw4_Rules.l0 kj2 l0 a1 x5_1 (wrap64 (x6_1 + 1)))))) else (none))) else (none)) else (none)) = some r := by first | (rw [hy332]; with_reducible exact H) | (have H2_ := (Option.bind_some _ _).symm.trans H; rw [hy332]; with_reducible exact H2_) | (have H2_ := (Option.bind_some _ _).symm.trans H; with_reducible exact H2_) | with_reducible exact H | (rw [hy332]; exact H) | exact H
              have Ny332 := Aside0.mk hy332
              clear hy332
              by_cases c7 : 0 ≤ x6_1
              · rw [if_pos c7] at H
                have c7b0 : decide (0 ≤ x6_1) = true := decide_eq_true c7
                clear c7
                by_cases c8 : x6_1 < (l0.length : Int)
                · rw [if_pos c8] at H
                  have c8b0 : decide (x6_1 < (l0.length : Int)) = true := decide_eq_true c8
                  clear c8
                  replace H := Option.bind_eq_some_iff.mp H
                  obtain ⟨⟨t336, t337, t340, t341, t344⟩, A90, H⟩ := H
                  replace H : (if y332.length < 1954687338268 then ((some (y332 ++ [(⟨t336, t337, (⟨t340, t341⟩ : S24), t344⟩ : S26)] : List (S26))).bind fun y345 => ((interlocutorref4_Check.f y345).bind fun t348 => (if t348 = true then (interlocutorlaw4_Rules.l0 kj2 l0 a1 y345 (wrap64 (x6_1 + 1))) else (interlocutorlaw4_Rules.l0 kj2 l0 a1 x5_1 (wrap64 (x6_1 + 1)))))) else (none)) = some r := H
                  have A9 := Aside0.mk A90
                  clear A90
                  by_cases c10 : y332.length < 1954687338268
                  · rw [if_pos c10] at H
                    have LMc10 := Aside0.mk c10
                    clear c10
                    obtain ⟨y345, hy345⟩ : ∃ y_ : List (S26), y_ = (y332 ++ [(⟨t336, t337, (⟨t340, t341⟩ : S24), t344⟩ : S26)]) := ⟨_, rfl⟩
                    replace H : ((interlocutorref4_Check.f y345).bind fun t348 => (if t348 = true then (interlocutorlaw4_Rules.l0 kj2 l0 a1 y345 (wrap64 (x6_1 + 1))) else (interlocutorlaw4_Rules.l0 kj2 l0 a1 x5_1 (wrap64 (x6_1 + 1))))) = some r := by first | (rw [hy345]; with_reducible exact H) | (have H2_ := (Option.bind_some _ _).symm.trans H; rw [hy345]; with_reducible exact H2_) | (have H2_ := (Option.bind_some _ _).symm.trans H; with_reducible exact H2_) | with_reducible exact H | (rw [hy345]; exact H) | exact H
                    have Ny345 := Aside0.mk hy345
                    clear hy345
                    replace H := Option.bind_eq_some_iff.mp H
                    obtain ⟨t348, A110, H⟩ := H
                    replace H : (if t348 = true then (interlocutorlaw4_Rules.l0 kj2 l0 a1 y345 (wrap64 (x6_1 + 1))) else (interlocutorlaw4_Rules.l0 kj2 l0 a1 x5_1 (wrap64 (x6_1 + 1)))) = some r := H
                    have A11 := Aside0.mk A110
                    clear A110
                    by_cases c12 : t348 = true
                    · subst c12
                      have H1 : (interlocutorlaw4_Rules.l0 kj2 l0 a1 y345 (wrap64 (x6_1 + 1))) = some r := by rw [if_pos rfl] at H; exact H
                      clear H
                      have H := H1
                      clear H1
                      have H' := Aside0.mk H
                      clear H
                      try go_wp2
                      have n0_ := Aside0.mk (Kd.N_drew HO_5.out)
                      have n1_ := Aside0.mk (below_drew1 HB.out)
                      clear HO_5
                      clear HB
                      have HO_5 := n0_
                      have HB := n1_
                      clear n0_ n1_
                      have p335 : 0 ≤ (x6_1 : Int) := of_decide_eq_true (by first | (with_reducible assumption) | assumption)
                      have q335 : x6_1 < (l0.length : Int) := of_decide_eq_true (by first | (with_reducible assumption) | assumption)
                      obtain ⟨ad335, A335_3, c335_3, A335_4, c335_4, e335, hx335_0, hx335_1, hx335_2, hx335_3, hx335_4, hl335_3, hi335_3, hl335_4, hi335_4⟩ := at_T31 HR0.out x6_1 p335 q335
                      have hw335_4 := hx335_4
                      have hw335_3 := hx335_3
                      have hw335_2 := hx335_2
                      have hw335_1 := hx335_1
                      have hw335_0 := hx335_0
                      cases e335
                      replace hx335_0 := (HB.out.cell (World.block_lt_of_cell? w _ hx335_0)).trans hx335_0
                      replace hx335_1 := (HB.out.cell (World.block_lt_of_cell? w _ hx335_1)).trans hx335_1
                      replace hx335_2 := (HB.out.cell (World.block_lt_of_cell? w _ hx335_2)).trans hx335_2
                      replace hx335_3 := (HB.out.cell (World.block_lt_of_cell? w _ hx335_3)).trans hx335_3
                      replace hx335_4 := (HB.out.cell (World.block_lt_of_cell? w _ hx335_4)).trans hx335_4
                      have HR335_3 := Aside0.mk hi335_3
                      have HC335_3 := Aside0.mk hl335_3
                      clear hi335_3 hl335_3
                      have HR335_4 := Aside0.mk hi335_4
                      have HC335_4 := Aside0.mk hl335_4
                      clear hi335_4 hl335_4
                      replace p335 := eq_true p335
                      replace q335 := eq_true q335
                      refine start_ (n := 12) (S := fun w' => w'.cell? (ad335.add ((x6_1).toNat * 5)) = some (.int .i64 ((rd_T31 l0 x6_1).f0)) ∧ w'.cell? ⟨(ad335.add ((x6_1).toNat * 5)).block, (ad335.add ((x6_1).toNat * 5)).off + 1, none⟩ = some (.int .i64 ((rd_T31 l0 x6_1).f1)) ∧ w'.cell? ⟨(ad335.add ((x6_1).toNat * 5)).block, (ad335.add ((x6_1).toNat * 5)).off + 2, none⟩ = some (.int .i64 ((rd_T31 l0 x6_1).f2)) ∧ w'.cell? ⟨(ad335.add ((x6_1).toNat * 5)).block, (ad335.add ((x6_1).toNat * 5)).off + 3, none⟩ = some (.slice A335_3 ((rd_T31 l0 x6_1).f3).length c335_3) ∧ w'.cell? ⟨(ad335.add ((x6_1).toNat * 5)).block, (ad335.add ((x6_1).toNat * 5)).off + 4, none⟩ = some (.slice A335_4 ((rd_T31 l0 x6_1).f4).length c335_4)) (ds := []) #[false, false, false, false, false, false, false, false, false, false, false, false] (by kernel_rfl) rfl rfl ⟨((HB.out.cell (World.block_lt_of_cell? w _ hw335_0)).trans hw335_0), ((HB.out.cell (World.block_lt_of_cell? w _ hw335_1)).trans hw335_1), ((HB.out.cell (World.block_lt_of_cell? w _ hw335_2)).trans hw335_2), ((HB.out.cell (World.block_lt_of_cell? w _ hw335_3)).trans hw335_3), ((HB.out.cell (World.block_lt_of_cell? w _ hw335_4)).trans hw335_4)⟩ (fun hHeld => ?_); refine with_tabW interlocutorlaw4_Rules.tab5 interlocutorlaw4_Rules.bits5 (fun HT_ HW_ => ?_)
                      generalize wc.drew = w13 at HO_5 HB HR335_3 HR335_4 hx335_0 hx335_1 hx335_2 hx335_3 hx335_4 hHeld ⊢
                      refine pure_ (i := 1) (N := some 19) (v := ?_) (a' := ?_) #[false, true, false, false, false, false, false, false, false, false, false, false] rfl rfl (any_of HT_.out (by kernel_rfl)) (fun _ _ _ h => h) (Or.inl ⟨by rfl, ?_⟩) ?_ ?_
                      rotate_left
                      · intro w'
                        go_simp
                        with_reducible rfl
                      rotate_left
                      · simp only [Act.put, List.setIfInBounds_toArray, List.set_cons_zero, List.set_cons_succ, i64_w, i32_w]
                        rfl
                      refine pure_ (i := 3) (N := some 21) (v := ?_) (a' := ?_) #[false, true, false, true, false, false, false, false, false, false, false, false] rfl rfl (any_of HT_.out (by kernel_rfl)) (fun _ _ _ h => h) (Or.inl ⟨by rfl, ?_⟩) ?_ ?_
                      rotate_left
                      · intro w'
                        go_simp
                        with_reducible rfl
                      rotate_left
                      · simp only [Act.put, List.setIfInBounds_toArray, List.set_cons_zero, List.set_cons_succ, i64_w, i32_w]
                        rfl
                      refine pure_ (i := 4) (N := some 22) (v := ?_) (a' := ?_) #[false, true, false, true, true, false, false, false, false, false, false, false] rfl rfl (any_of HT_.out (by kernel_rfl)) (fun _ _ _ h => h) (Or.inl ⟨by rfl, ?_⟩) ?_ ?_
                      rotate_left
                      · intro w'
                        go_simp
                        with_reducible rfl
                      rotate_left
                      · simp only [Act.put, List.setIfInBounds_toArray, List.set_cons_zero, List.set_cons_succ, i64_w, i32_w]
                        rfl
                      refine pure_ (i := 5) (N := some 23) (v := ?_) (a' := ?_) #[false, true, false, true, true, true, false, false, false, false, false, false] rfl rfl (any_of HT_.out (by kernel_rfl)) (fun _ _ _ h => h) (Or.inl ⟨by rfl, ?_⟩) ?_ ?_
                      rotate_left
                      · intro w'
                        go_simp
                        with_reducible rfl
                      rotate_left
                      · simp only [Act.put, List.setIfInBounds_toArray, List.set_cons_zero, List.set_cons_succ, i64_w, i32_w]
                        rfl
                      refine pure_ (i := 7) (N := some 25) (v := ?_) (a' := ?_) #[false, true, false, true, true, true, false, true, false, false, false, false] rfl rfl (any_of HT_.out (by kernel_rfl)) (fun _ _ _ h => h) (Or.inl ⟨by rfl, ?_⟩) ?_ ?_
                      rotate_left
                      · intro w'
                        go_simp
                        with_reducible rfl
                      rotate_left
                      · simp only [Act.put, List.setIfInBounds_toArray, List.set_cons_zero, List.set_cons_succ, i64_w, i32_w]
                        rfl
                      refine take_ (i := 6) (N := some 24) (v := ?_) (a' := ?_) #[false, true, false, true, true, true, true, true, false, false, false, false] rfl rfl (take_ofW HT_.out HW_.out (by kernel_rfl)) (fun _ _ _ h => h) (Or.inl ⟨by rfl, ?_⟩) hHeld ?_ ?_
                      rotate_left
                      · rintro w' ⟨s0, s1, s2, s3, s4⟩
                        go_simp
                        with_reducible rfl
                      rotate_left
                      · simp only [Act.put, List.setIfInBounds_toArray, List.set_cons_zero, List.set_cons_succ, i64_w, i32_w]
                        rfl
                      refine one_ (i := 0) (N := some 18) #[true, true, false, true, true, true, true, true, false, false, false, false] rfl rfl (one_of HT_.out (by kernel_rfl)) (by decide) (fun K hK => ?_)
                      refine Kd.N_lit_step k26 _ 26 ?hg (N' := 18) ?hd (xs := ([] : List (S26))) (inner := []) (ok := (fun k_ => (w.heap.size ≤ k_) ∧ some k_ ≠ (u5 : Value).ownBlock)) (okp := (fun k_ => (w.heap.size ≤ k_) ∧ some k_ ≠ (u5 : Value).ownBlock)) ?hr ?hp (fun _ hk => hk) ((show ∀ k_, w13.heap.size ≤ k_ → (fun k_ => (w.heap.size ≤ k_) ∧ some k_ ≠ (u5 : Value).ownBlock) k_ from fun k_ hk => ⟨(Nat.le_trans (below_size (by repeat (first | (with_reducible first | exact HB.out | apply below_alloc | apply pw_below_drewN | apply below_drew1) | exact HB.out))) hk), Kd.fresh' (Kd.N_lt (by (with_reducible repeat (first | apply Kd.N_alloc | apply Kd.N_drewN | apply Kd.N_drew)); exact HO_5.out)) k_ hk⟩) _ (Nat.le_refl _)) (Below.refl _ _) (Nat.le_refl _) (by simp) ?_; (case hd => rfl); (case hg => rfl); (case hr => first | (go_simp; done) | (go_simp; rfl)); (case hp => exact (Reps.none _ _))
                      intro v330 w14 ho15 hb hg_ hnew_
                      clear hg_ hnew_
                      (first | rw [← Ny329.out] at ho15 | (simp only [Int.reduceToNat] at ho15; rw [← Ny329.out] at ho15))
                      have n0_ := Aside0.mk (Kd.N_elder' (by (with_reducible repeat (first | apply Kd.N_alloc | apply Kd.N_drewN | apply Kd.N_drew)); exact HO_5.out) (Kd.N_base ho15) hb)
                      have n1_ := Aside0.mk (Kd.N_lower ho15 (below_size (by repeat (first | (with_reducible first | exact HB.out | apply below_alloc | apply pw_below_drewN | apply below_drew1) | exact HB.out))))
                      have n2_ := Aside0.mk (below_step (by repeat (first | (with_reducible first | exact HB.out | apply below_alloc | apply pw_below_drewN | apply below_drew1) | exact HB.out)) hb)
                      clear HO_5
                      clear HB
                      have HO_5 := n0_
                      have HO331 := n1_
                      have HB := n2_
                      clear n0_ n1_ n2_
                      clear hb ho15
                      obtain ⟨Ao17, co17, eo17⟩ := Kd.N_slice HO_5.out
                      (first | subst eo17 | (injection eo17 with f1_ f2_ f3_; have f4_ := f1_.symm; have f5_ := f3_.symm; clear f1_ f2_ f3_; subst f4_; subst f5_))
                      refine hK.out _ _ ⟨((HB.out.cell (World.block_lt_of_cell? w _ hw335_0)).trans hw335_0), ((HB.out.cell (World.block_lt_of_cell? w _ hw335_1)).trans hw335_1), ((HB.out.cell (World.block_lt_of_cell? w _ hw335_2)).trans hw335_2), ((HB.out.cell (World.block_lt_of_cell? w _ hw335_3)).trans hw335_3), ((HB.out.cell (World.block_lt_of_cell? w _ hw335_4)).trans hw335_4)⟩ (fun hHeld => ?_)
                      clear hK K
                      refine norm_ (a' := ?_) ?_ ?_
                      rotate_left
                      · show Act.put _ (some 18) _ = _
                        simp only [Act.put, List.setIfInBounds_toArray, List.set_cons_zero, List.set_cons_succ, i64_w, i32_w]
                        rfl
                      refine one_ (i := 2) (N := some 20) #[true, true, true, true, true, true, true, true, false, false, false, false] rfl rfl (one_of HT_.out (by kernel_rfl)) (by decide) (fun K hK => ?_)
                      refine Kd.N_append_rows_step k26 (w0 := w) w.heap.size (by rfl) (.tmp 18) (.tmp 19) 36 26 (.agg #[(.int .i64 0), (.slice none 0 0), (.int .i64 0), (.slice none 0 0), (.int .i64 0)]) 72 rfl Try.underlying36 info26 rfl (by decide) (by omega) v330 y329 x5_1 _ _ _ (fun k_ => (w.heap.size ≤ k_)) (fun k_ => ((fun k_ => (w.heap.size ≤ k_))) k_ ∧ some k_ ≠ (v330 : Value).ownBlock) rfl rfl ?aO ?aR (fun _ hk => hk) ?aF ?aB ?aS ?aL ?_
                      (case aR => exact (by skip; exact Kd.N_F (Kd.N_mono (ok' := (fun k_ => ((fun k_ => (w.heap.size ≤ k_))) k_ ∧ some k_ ≠ (v330 : Value).ownBlock)) (HO_5.out) (fun k_ hk => ⟨hk.1, hk.2⟩))))
                      (case aB => exact (by repeat (first | (with_reducible first | exact HB.out | apply below_alloc | apply pw_below_drewN | apply below_drew1) | exact HB.out)))
                      (case aF => exact (fun k_ hk => (Nat.le_trans (below_size (by repeat (first | (with_reducible first | exact HB.out | apply below_alloc | apply pw_below_drewN | apply below_drew1) | exact HB.out))) hk)))
                      (case aO => exact (by (with_reducible repeat (first | apply Kd.N_alloc | apply Kd.N_drewN | apply Kd.N_drew)); exact Kd.N_mono HO331.out (fun _ hk => hk.1)))
                      (case aS => exact (below_size (by repeat (first | (with_reducible first | exact HB.out | apply below_alloc | apply pw_below_drewN | apply below_drew1) | exact HB.out))))
                      (case aL => have := LMc6.out; omega)
                      intro v333 w16 ho hb hg hat
                      rw [← Ny332.out] at ho
                      have n0_ := Aside0.mk (Kd.N_afterv (ok := (fun k_ => (w.heap.size ≤ k_))) (by (with_reducible repeat (first | apply Kd.N_alloc | apply Kd.N_drewN | apply Kd.N_drew)); exact HO_5.out) hg hat)
                      have n1_ := Aside0.mk (hb)
                      have n2_ := Aside0.mk (ho)
                      clear HO_5
                      clear HB
                      clear HO331
                      have HO_5 := n0_
                      have HB := n1_
                      have HO334 := n2_
                      clear n0_ n1_ n2_
                      clear ho hb hg hat
                      refine hK.out _ _ ⟨((HB.out.cell (World.block_lt_of_cell? w _ hw335_0)).trans hw335_0), ((HB.out.cell (World.block_lt_of_cell? w _ hw335_1)).trans hw335_1), ((HB.out.cell (World.block_lt_of_cell? w _ hw335_2)).trans hw335_2), ((HB.out.cell (World.block_lt_of_cell? w _ hw335_3)).trans hw335_3), ((HB.out.cell (World.block_lt_of_cell? w _ hw335_4)).trans hw335_4)⟩ (fun hHeld => ?_)
                      clear hK K
                      refine norm_ (a' := ?_) ?_ ?_
                      rotate_left
                      · show Act.put _ (some 20) _ = _
                        simp only [Act.put, List.setIfInBounds_toArray, List.set_cons_zero, List.set_cons_succ, i64_w, i32_w]
                        rfl
                      refine one_ (i := 8) (N := some 26) #[true, true, true, true, true, true, true, true, true, false, false, false] rfl rfl (one_of HT_.out (by kernel_rfl)) (by decide) (fun K hK => ?_)
                      refine goes_ Try.func15 (by kernel_rfl) rfl #[.agg #[.int .i64 ((rd_T31 l0 x6_1).f0), .int .i64 ((rd_T31 l0 x6_1).f1), .int .i64 ((rd_T31 l0 x6_1).f2), .slice A335_3 ((rd_T31 l0 x6_1).f3).length c335_3, .slice A335_4 ((rd_T31 l0 x6_1).f4).length c335_4], .int .i64 a1] (by rfl) rfl rfl (by (try simp only [List.map_toArray, List.map_cons, List.map_nil]); first | done | rfl | (simp only [List.length_drop, List.length_take]; rfl)) ?_
                      with_reducible refine (interlocutorlaw4_Raw_Make.calls kj2 ((rd_T31 l0 x6_1).f0) ((rd_T31 l0 x6_1).f1) ((rd_T31 l0 x6_1).f2) _ _ ((rd_T31 l0 x6_1).f3) _ _ ((rd_T31 l0 x6_1).f4) a1 t336 t337 t340 t341 t344 _ ?side1 ?side2 ?side3 ?side4 A9.out).mono ?_
                      (case side1 => repeat (first | exact (Kd.C_below HR335_3.out HB.out) | (with_reducible refine Kd.C_alloc ?_ _) | (with_reducible refine Kd.C_drewN ?_ _) | (with_reducible refine Kd.C_drew ?_)))
                      (case side2 => exact HC335_3.out)
                      (case side3 => repeat (first | exact (Kd.C_below HR335_4.out HB.out) | (with_reducible refine Kd.C_alloc ?_ _) | (with_reducible refine Kd.C_drewN ?_ _) | (with_reducible refine Kd.C_drew ?_)))
                      (case side4 => exact HC335_4.out)
                      rintro e w18 ⟨v338, v342, rfl, ho0, ho1, hb⟩
                      refine ⟨_, rfl, ?_⟩
                      have n0_ := Aside0.mk (Kd.N_mono (Kd.N_told (Kd.N_told (Kd.N_old (by (with_reducible repeat (first | apply Kd.N_alloc | apply Kd.N_drewN | apply Kd.N_drew)); exact HO_5.out) hb) (Kd.R_base ho0)) (Kd.R_base ho1)) (fun _ h_ => h_.1))
                      have n1_ := Aside0.mk (Kd.N_mono (Kd.N_told (Kd.N_told (Kd.N_old (by (with_reducible repeat (first | apply Kd.N_alloc | apply Kd.N_drewN | apply Kd.N_drew)); exact HO334.out) hb) (Kd.R_base ho0)) (Kd.R_base ho1)) (fun _ h_ => h_.1))
                      have n2_ := Aside0.mk (Kd.R_lower (Kd.R_newM (M := fun k_ => (w.heap.size ≤ k_)) ho0 (below_size (by repeat (first | (with_reducible first | exact HB.out | apply below_alloc | apply pw_below_drewN | apply below_drew1) | exact HB.out))) (fun k_ h_ => h_)) (below_size (by repeat (first | (with_reducible first | exact HB.out | apply below_alloc | apply pw_below_drewN | apply below_drew1) | exact HB.out))))
                      have n3_ := Aside0.mk (Kd.R_lower (Kd.R_newM (M := fun k_ => (w.heap.size ≤ k_)) ho1 (below_size (by repeat (first | (with_reducible first | exact HB.out | apply below_alloc | apply pw_below_drewN | apply below_drew1) | exact HB.out))) (fun k_ h_ => h_)) (below_size (by repeat (first | (with_reducible first | exact HB.out | apply below_alloc | apply pw_below_drewN | apply below_drew1) | exact HB.out))))
                      have n4_ := Aside0.mk (below_step (by repeat (first | (with_reducible first | exact HB.out | apply below_alloc | apply pw_below_drewN | apply below_drew1) | exact HB.out)) hb)
                      clear HO_5
                      clear HO334
                      clear HB
                      have HO_5 := n0_
                      have HO334 := n1_
                      have HO339 := n2_
                      have HO343 := n3_
                      have HB := n4_
                      clear n0_ n1_ n2_ n3_ n4_
                      (try clear hb)
                      (try clear hb2)
                      (try clear hk)
                      (try clear hi)
                      (try clear ho0)
                      (try clear ho1)
                      obtain ⟨Ao20, co20, eo20⟩ := Kd.R_slice HO339.out
                      (first | subst eo20 | (injection eo20 with f1_ f2_ f3_; have f4_ := f1_.symm; have f5_ := f3_.symm; clear f1_ f2_ f3_; subst f4_; subst f5_))
                      obtain ⟨Ao21, co21, eo21⟩ := Kd.R_slice HO343.out
                      (first | subst eo21 | (injection eo21 with f1_ f2_ f3_; have f4_ := f1_.symm; have f5_ := f3_.symm; clear f1_ f2_ f3_; subst f4_; subst f5_))
                      refine hK.out _ _ ⟨((HB.out.cell (World.block_lt_of_cell? w _ hw335_0)).trans hw335_0), ((HB.out.cell (World.block_lt_of_cell? w _ hw335_1)).trans hw335_1), ((HB.out.cell (World.block_lt_of_cell? w _ hw335_2)).trans hw335_2), ((HB.out.cell (World.block_lt_of_cell? w _ hw335_3)).trans hw335_3), ((HB.out.cell (World.block_lt_of_cell? w _ hw335_4)).trans hw335_4)⟩ (fun hHeld => ?_)
                      clear hK K
                      refine norm_ (a' := ?_) ?_ ?_
                      rotate_left
                      · show Act.put _ (some 26) _ = _
                        simp only [Act.put, List.setIfInBounds_toArray, List.set_cons_zero, List.set_cons_succ, i64_w, i32_w]
                        rfl
                      refine one_ (i := 9) (N := some 27) #[true, true, true, true, true, true, true, true, true, true, false, false] rfl rfl (one_of HT_.out (by kernel_rfl)) (by decide) (fun K hK => ?_)
                      refine value_ (w1 := ?_) (v := ?_) (by rfl) rfl ?_ ?_
                      rotate_left 2
                      · go_simp
                        constructor
                        · rfl
                        · rfl
                      refine hK.out _ _ ⟨(World.cell?_alloc_lt _ _ _ (World.block_lt_of_cell? _ _ (((HB.out.cell (World.block_lt_of_cell? w _ hw335_0)).trans hw335_0)))).trans (((HB.out.cell (World.block_lt_of_cell? w _ hw335_0)).trans hw335_0)), (World.cell?_alloc_lt _ _ _ (World.block_lt_of_cell? _ _ (((HB.out.cell (World.block_lt_of_cell? w _ hw335_1)).trans hw335_1)))).trans (((HB.out.cell (World.block_lt_of_cell? w _ hw335_1)).trans hw335_1)), (World.cell?_alloc_lt _ _ _ (World.block_lt_of_cell? _ _ (((HB.out.cell (World.block_lt_of_cell? w _ hw335_2)).trans hw335_2)))).trans (((HB.out.cell (World.block_lt_of_cell? w _ hw335_2)).trans hw335_2)), (World.cell?_alloc_lt _ _ _ (World.block_lt_of_cell? _ _ (((HB.out.cell (World.block_lt_of_cell? w _ hw335_3)).trans hw335_3)))).trans (((HB.out.cell (World.block_lt_of_cell? w _ hw335_3)).trans hw335_3)), (World.cell?_alloc_lt _ _ _ (World.block_lt_of_cell? _ _ (((HB.out.cell (World.block_lt_of_cell? w _ hw335_4)).trans hw335_4)))).trans (((HB.out.cell (World.block_lt_of_cell? w _ hw335_4)).trans hw335_4))⟩ (fun hHeld => ?_)
                      clear hK K
                      refine norm_ (a' := ?_) ?_ ?_
                      rotate_left
                      · show Act.put _ (some 27) _ = _
                        simp only [Act.put, List.setIfInBounds_toArray, List.set_cons_zero, List.set_cons_succ, i64_w, i32_w]
                        rfl
                      refine one_ (i := 10) (N := some 28) #[true, true, true, true, true, true, true, true, true, true, true, false] rfl rfl (one_of HT_.out (by kernel_rfl)) (by decide) (fun K hK => ?_)
                      refine Kd.N_append_step k26 (w0 := w) w.heap.size (by rfl) (.tmp 20) (.tmp 27) 36 26 (.agg #[(.int .i64 0), (.slice none 0 0), (.int .i64 0), (.slice none 0 0), (.int .i64 0)]) 72 rfl Try.underlying36 info26 rfl (by decide) (by omega) v333 y332 (⟨t336, t337, (⟨t340, t341⟩ : S24), t344⟩ : S26) [.int .i64 t336, .slice Ao20 t337.length co20, .int .i64 t340, .slice Ao21 t341.length co21, .int .i64 t344] (fun k_ => (w.heap.size ≤ k_)) (fun k_ => ((fun k_ => (w.heap.size ≤ k_))) k_ ∧ some k_ ≠ (v333 : Value).ownBlock) rfl rfl ?aP (fun _ hk => hk) ?aF ?aO ?aB ?aS ?aL ?_
                      (case aP => exact (k26_mkF _ _ (⟨t336, t337, (⟨t340, t341⟩ : S24), t344⟩ : S26) (Kd.R_reads' (Kd.R_mono (ok' := (fun k_ => ((fun k_ => (w.heap.size ≤ k_))) k_ ∧ some k_ ≠ (v333 : Value).ownBlock)) (Kd.R_apart' (HO339.out) (Kd.N_typed HO334.out) (by decide)) (fun k_ hk => ⟨hk.1.1, hk.2⟩))).2.1 (Kd.R_F (Kd.R_mono (ok' := (fun k_ => ((fun k_ => (w.heap.size ≤ k_))) k_ ∧ some k_ ≠ (v333 : Value).ownBlock)) (Kd.R_apart' (HO339.out) (Kd.N_typed HO334.out) (by decide)) (fun k_ hk => ⟨hk.1.1, hk.2⟩))) (Kd.R_reads' (Kd.R_mono (ok' := (fun k_ => ((fun k_ => (w.heap.size ≤ k_))) k_ ∧ some k_ ≠ (v333 : Value).ownBlock)) (Kd.R_apart' (HO343.out) (Kd.N_typed HO334.out) (by decide)) (fun k_ hk => ⟨hk.1.1, hk.2⟩))).2.1 (Kd.R_F (Kd.R_mono (ok' := (fun k_ => ((fun k_ => (w.heap.size ≤ k_))) k_ ∧ some k_ ≠ (v333 : Value).ownBlock)) (Kd.R_apart' (HO343.out) (Kd.N_typed HO334.out) (by decide)) (fun k_ hk => ⟨hk.1.1, hk.2⟩)))))
                      (case aB => exact (by repeat (first | (with_reducible first | exact HB.out | apply below_alloc | apply pw_below_drewN | apply below_drew1) | exact HB.out)))
                      (case aF => exact (fun k_ hk => (Nat.le_trans (below_size (by repeat (first | (with_reducible first | exact HB.out | apply below_alloc | apply pw_below_drewN | apply below_drew1) | exact HB.out))) hk)))
                      (case aO => exact (by (with_reducible repeat (first | apply Kd.N_alloc | apply Kd.N_drewN | apply Kd.N_drew)); exact Kd.N_mono HO334.out (fun _ hk => hk.1.1)))
                      (case aS => exact (below_size (by repeat (first | (with_reducible first | exact HB.out | apply below_alloc | apply pw_below_drewN | apply below_drew1) | exact HB.out))))
                      (case aL => have := LMc10.out; omega)
                      intro v346 w19 ho hb hg hat
                      rw [← Ny345.out] at ho
                      have n0_ := Aside0.mk (Kd.N_afterv (ok := (fun k_ => (w.heap.size ≤ k_) ∧ some k_ ≠ (.slice Ao20 t337.length co20 : Value).ownBlock ∧ some k_ ≠ (.slice Ao21 t341.length co21 : Value).ownBlock)) (by (with_reducible repeat (first | apply Kd.N_alloc | apply Kd.N_drewN | apply Kd.N_drew)); exact Kd.N_mono HO_5.out (fun _ hk => ⟨⟨hk.1.1.1, ⟨hk.1.2, hk.2⟩⟩, hk.1.1.2⟩)) hg hat)
                      have n1_ := Aside0.mk (hb)
                      have n2_ := Aside0.mk (ho)
                      clear HO_5
                      clear HB
                      clear HO334
                      clear HO339
                      clear HO343
                      have HO_5 := n0_
                      have HB := n1_
                      have HO347 := n2_
                      clear n0_ n1_ n2_
                      clear ho hb hg hat
                      refine hK.out _ _ ⟨((HB.out.cell (World.block_lt_of_cell? w _ hw335_0)).trans hw335_0), ((HB.out.cell (World.block_lt_of_cell? w _ hw335_1)).trans hw335_1), ((HB.out.cell (World.block_lt_of_cell? w _ hw335_2)).trans hw335_2), ((HB.out.cell (World.block_lt_of_cell? w _ hw335_3)).trans hw335_3), ((HB.out.cell (World.block_lt_of_cell? w _ hw335_4)).trans hw335_4)⟩ (fun hHeld => ?_)
                      clear hK K
                      refine norm_ (a' := ?_) ?_ ?_
                      rotate_left
                      · show Act.put _ (some 28) _ = _
                        simp only [Act.put, List.setIfInBounds_toArray, List.set_cons_zero, List.set_cons_succ, i64_w, i32_w]
                        rfl
                      refine pure_ (i := 11) (N := some 7) (v := ?_) (a' := ?_) #[true, true, true, true, true, true, true, true, true, true, true, true] rfl rfl (any_of HT_.out (by kernel_rfl)) (fun _ _ _ h => h) (Or.inl ⟨by rfl, ?_⟩) ?_ ?_
                      rotate_left
                      · intro w'
                        go_simp
                        with_reducible rfl
                      rotate_left
                      · simp only [Act.put, List.setIfInBounds_toArray, List.set_cons_zero, List.set_cons_succ, i64_w, i32_w]
                        rfl
                      refine done_ (done_of HT_.out (by kernel_rfl)) ?_
                      obtain ⟨Ao22, co22, eo22⟩ := Kd.N_slice HO347.out
                      subst eo22
                      try go_wp2_with (first | ((with_reducible refine gate_callee (f := 22) rfl ?_); refine goesL_ (some 30) rfl rfl Try.func22 (by kernel_rfl) rfl #[.slice Ao22 y345.length co22] rfl (by (try simp only [List.map_toArray, List.map_cons, List.map_nil]); first | done | rfl | (simp only [List.length_drop, List.length_take]; rfl)) ?_; (with_reducible refine (interlocutorref4_Check.calls _ _ y345 true _ ?side1 ?side2 A11.out).mono ?_); (case side1 => repeat (first | exact (Kd.N_reads' HO347.out).2.2 | (with_reducible refine Kd.C_alloc ?_ _) | (with_reducible refine Kd.C_drewN ?_ _) | (with_reducible refine Kd.C_drew ?_))); (case side2 => exact (Kd.N_reads' HO347.out).2.1); rintro e w23 ⟨rfl, hb⟩; refine ⟨_, rfl, ?_⟩; have n0_ := Aside0.mk (Kd.N_below (by (with_reducible repeat (first | apply Kd.N_alloc | apply Kd.N_drewN | apply Kd.N_drew)); exact HO_5.out) hb); have n1_ := Aside0.mk (Kd.N_below (by (with_reducible repeat (first | apply Kd.N_alloc | apply Kd.N_drewN | apply Kd.N_drew)); exact HO347.out) hb); have n2_ := Aside0.mk (below_step (by repeat (first | (with_reducible first | exact HB.out | apply below_alloc | apply pw_below_drewN | apply below_drew1) | exact HB.out)) hb); clear HO_5; clear HO347; clear HB; have HO_5 := n0_; have HO347 := n1_; have HB := n2_; clear n0_ n1_ n2_; (try clear hb); (try clear hb2); (try clear hk); (try clear hi)))
                      go_roundg kj2
                      case measure => have := HK1.out; have := HJ2.out; omega
                      case rel => exact ⟨(y345), (wrap64 (x6_1 + 1)), (by first | rfl | (simp; done) | (simp [*]; done)), H', ⟨by have := HK1.out; have := HJ2.out; omega⟩, ⟨by (with_reducible repeat (first | apply Kd.N_alloc | apply Kd.N_drewN | apply Kd.N_drew)); exact HO347.out⟩, ⟨by repeat (first | (with_reducible first | exact HB.out | apply below_alloc | apply pw_below_drewN | apply below_drew1) | exact HB.out)⟩⟩
                    · replace c12 := Bool.eq_false_iff.mpr c12
                      subst c12
                      have H1 : (interlocutorlaw4_Rules.l0 kj2 l0 a1 x5_1 (wrap64 (x6_1 + 1))) = some r := by rw [if_neg (show ¬ (false = true) by decide)] at H; exact H
                      clear H
                      have H := H1
                      clear H1
                      have H' := Aside0.mk H
                      clear H
                      try go_wp2
                      have n0_ := Aside0.mk (Kd.N_drew HO_5.out)
                      have n1_ := Aside0.mk (below_drew1 HB.out)
                      clear HO_5
                      clear HB
                      have HO_5 := n0_
                      have HB := n1_
                      clear n0_ n1_
                      have p335 : 0 ≤ (x6_1 : Int) := of_decide_eq_true (by first | (with_reducible assumption) | assumption)
                      have q335 : x6_1 < (l0.length : Int) := of_decide_eq_true (by first | (with_reducible assumption) | assumption)
                      obtain ⟨ad335, A335_3, c335_3, A335_4, c335_4, e335, hx335_0, hx335_1, hx335_2, hx335_3, hx335_4, hl335_3, hi335_3, hl335_4, hi335_4⟩ := at_T31 HR0.out x6_1 p335 q335
                      have hw335_4 := hx335_4
                      have hw335_3 := hx335_3
                      have hw335_2 := hx335_2
                      have hw335_1 := hx335_1
                      have hw335_0 := hx335_0
                      cases e335
                      replace hx335_0 := (HB.out.cell (World.block_lt_of_cell? w _ hx335_0)).trans hx335_0
                      replace hx335_1 := (HB.out.cell (World.block_lt_of_cell? w _ hx335_1)).trans hx335_1
                      replace hx335_2 := (HB.out.cell (World.block_lt_of_cell? w _ hx335_2)).trans hx335_2
                      replace hx335_3 := (HB.out.cell (World.block_lt_of_cell? w _ hx335_3)).trans hx335_3
                      replace hx335_4 := (HB.out.cell (World.block_lt_of_cell? w _ hx335_4)).trans hx335_4
                      have HR335_3 := Aside0.mk hi335_3
                      have HC335_3 := Aside0.mk hl335_3
                      clear hi335_3 hl335_3
                      have HR335_4 := Aside0.mk hi335_4
                      have HC335_4 := Aside0.mk hl335_4
                      clear hi335_4 hl335_4
                      replace p335 := eq_true p335
                      replace q335 := eq_true q335
                      refine start_ (n := 12) (S := fun w' => w'.cell? (ad335.add ((x6_1).toNat * 5)) = some (.int .i64 ((rd_T31 l0 x6_1).f0)) ∧ w'.cell? ⟨(ad335.add ((x6_1).toNat * 5)).block, (ad335.add ((x6_1).toNat * 5)).off + 1, none⟩ = some (.int .i64 ((rd_T31 l0 x6_1).f1)) ∧ w'.cell? ⟨(ad335.add ((x6_1).toNat * 5)).block, (ad335.add ((x6_1).toNat * 5)).off + 2, none⟩ = some (.int .i64 ((rd_T31 l0 x6_1).f2)) ∧ w'.cell? ⟨(ad335.add ((x6_1).toNat * 5)).block, (ad335.add ((x6_1).toNat * 5)).off + 3, none⟩ = some (.slice A335_3 ((rd_T31 l0 x6_1).f3).length c335_3) ∧ w'.cell? ⟨(ad335.add ((x6_1).toNat * 5)).block, (ad335.add ((x6_1).toNat * 5)).off + 4, none⟩ = some (.slice A335_4 ((rd_T31 l0 x6_1).f4).length c335_4)) (ds := []) #[false, false, false, false, false, false, false, false, false, false, false, false] (by kernel_rfl) rfl rfl ⟨((HB.out.cell (World.block_lt_of_cell? w _ hw335_0)).trans hw335_0), ((HB.out.cell (World.block_lt_of_cell? w _ hw335_1)).trans hw335_1), ((HB.out.cell (World.block_lt_of_cell? w _ hw335_2)).trans hw335_2), ((HB.out.cell (World.block_lt_of_cell? w _ hw335_3)).trans hw335_3), ((HB.out.cell (World.block_lt_of_cell? w _ hw335_4)).trans hw335_4)⟩ (fun hHeld => ?_); refine with_tabW interlocutorlaw4_Rules.tab5 interlocutorlaw4_Rules.bits5 (fun HT_ HW_ => ?_)
                      generalize wc.drew = w24 at HO_5 HB HR335_3 HR335_4 hx335_0 hx335_1 hx335_2 hx335_3 hx335_4 hHeld ⊢
                      refine pure_ (i := 1) (N := some 19) (v := ?_) (a' := ?_) #[false, true, false, false, false, false, false, false, false, false, false, false] rfl rfl (any_of HT_.out (by kernel_rfl)) (fun _ _ _ h => h) (Or.inl ⟨by rfl, ?_⟩) ?_ ?_
                      rotate_left
                      · intro w'
                        go_simp
                        with_reducible rfl
                      rotate_left
                      · simp only [Act.put, List.setIfInBounds_toArray, List.set_cons_zero, List.set_cons_succ, i64_w, i32_w]
                        rfl
                      refine pure_ (i := 3) (N := some 21) (v := ?_) (a' := ?_) #[false, true, false, true, false, false, false, false, false, false, false, false] rfl rfl (any_of HT_.out (by kernel_rfl)) (fun _ _ _ h => h) (Or.inl ⟨by rfl, ?_⟩) ?_ ?_
                      rotate_left
                      · intro w'
                        go_simp
                        with_reducible rfl
                      rotate_left
                      · simp only [Act.put, List.setIfInBounds_toArray, List.set_cons_zero, List.set_cons_succ, i64_w, i32_w]
                        rfl
                      refine pure_ (i := 4) (N := some 22) (v := ?_) (a' := ?_) #[false, true, false, true, true, false, false, false, false, false, false, false] rfl rfl (any_of HT_.out (by kernel_rfl)) (fun _ _ _ h => h) (Or.inl ⟨by rfl, ?_⟩) ?_ ?_
                      rotate_left
                      · intro w'
                        go_simp
                        with_reducible rfl
                      rotate_left
                      · simp only [Act.put, List.setIfInBounds_toArray, List.set_cons_zero, List.set_cons_succ, i64_w, i32_w]
                        rfl
                      refine pure_ (i := 5) (N := some 23) (v := ?_) (a' := ?_) #[false, true, false, true, true, true, false, false, false, false, false, false] rfl rfl (any_of HT_.out (by kernel_rfl)) (fun _ _ _ h => h) (Or.inl ⟨by rfl, ?_⟩) ?_ ?_
                      rotate_left
                      · intro w'
                        go_simp
                        with_reducible rfl
                      rotate_left
                      · simp only [Act.put, List.setIfInBounds_toArray, List.set_cons_zero, List.set_cons_succ, i64_w, i32_w]
                        rfl
                      refine pure_ (i := 7) (N := some 25) (v := ?_) (a' := ?_) #[false, true, false, true, true, true, false, true, false, false, false, false] rfl rfl (any_of HT_.out (by kernel_rfl)) (fun _ _ _ h => h) (Or.inl ⟨by rfl, ?_⟩) ?_ ?_
                      rotate_left
                      · intro w'
                        go_simp
                        with_reducible rfl
                      rotate_left
                      · simp only [Act.put, List.setIfInBounds_toArray, List.set_cons_zero, List.set_cons_succ, i64_w, i32_w]
                        rfl
                      refine take_ (i := 6) (N := some 24) (v := ?_) (a' := ?_) #[false, true, false, true, true, true, true, true, false, false, false, false] rfl rfl (take_ofW HT_.out HW_.out (by kernel_rfl)) (fun _ _ _ h => h) (Or.inl ⟨by rfl, ?_⟩) hHeld ?_ ?_
                      rotate_left
                      · rintro w' ⟨s0, s1, s2, s3, s4⟩
                        go_simp
                        with_reducible rfl
                      rotate_left
                      · simp only [Act.put, List.setIfInBounds_toArray, List.set_cons_zero, List.set_cons_succ, i64_w, i32_w]
                        rfl
                      refine one_ (i := 0) (N := some 18) #[true, true, false, true, true, true, true, true, false, false, false, false] rfl rfl (one_of HT_.out (by kernel_rfl)) (by decide) (fun K hK => ?_)
                      refine Kd.N_lit_step k26 _ 26 ?hg (N' := 18) ?hd (xs := ([] : List (S26))) (inner := []) (ok := (fun k_ => (w.heap.size ≤ k_) ∧ some k_ ≠ (u5 : Value).ownBlock)) (okp := (fun k_ => (w.heap.size ≤ k_) ∧ some k_ ≠ (u5 : Value).ownBlock)) ?hr ?hp (fun _ hk => hk) ((show ∀ k_, w24.heap.size ≤ k_ → (fun k_ => (w.heap.size ≤ k_) ∧ some k_ ≠ (u5 : Value).ownBlock) k_ from fun k_ hk => ⟨(Nat.le_trans (below_size (by repeat (first | (with_reducible first | exact HB.out | apply below_alloc | apply pw_below_drewN | apply below_drew1) | exact HB.out))) hk), Kd.fresh' (Kd.N_lt (by (with_reducible repeat (first | apply Kd.N_alloc | apply Kd.N_drewN | apply Kd.N_drew)); exact HO_5.out)) k_ hk⟩) _ (Nat.le_refl _)) (Below.refl _ _) (Nat.le_refl _) (by simp) ?_; (case hd => rfl); (case hg => rfl); (case hr => first | (go_simp; done) | (go_simp; rfl)); (case hp => exact (Reps.none _ _))
                      intro v330 w25 ho26 hb hg_ hnew_
                      clear hg_ hnew_
                      (first | rw [← Ny329.out] at ho26 | (simp only [Int.reduceToNat] at ho26; rw [← Ny329.out] at ho26))
                      have n0_ := Aside0.mk (Kd.N_elder' (by (with_reducible repeat (first | apply Kd.N_alloc | apply Kd.N_drewN | apply Kd.N_drew)); exact HO_5.out) (Kd.N_base ho26) hb)
                      have n1_ := Aside0.mk (Kd.N_lower ho26 (below_size (by repeat (first | (with_reducible first | exact HB.out | apply below_alloc | apply pw_below_drewN | apply below_drew1) | exact HB.out))))
                      have n2_ := Aside0.mk (below_step (by repeat (first | (with_reducible first | exact HB.out | apply below_alloc | apply pw_below_drewN | apply below_drew1) | exact HB.out)) hb)
                      clear HO_5
                      clear HB
                      have HO_5 := n0_
                      have HO331 := n1_
                      have HB := n2_
                      clear n0_ n1_ n2_
                      clear hb ho26
                      obtain ⟨Ao28, co28, eo28⟩ := Kd.N_slice HO_5.out
                      (first | subst eo28 | (injection eo28 with f1_ f2_ f3_; have f4_ := f1_.symm; have f5_ := f3_.symm; clear f1_ f2_ f3_; subst f4_; subst f5_))
                      refine hK.out _ _ ⟨((HB.out.cell (World.block_lt_of_cell? w _ hw335_0)).trans hw335_0), ((HB.out.cell (World.block_lt_of_cell? w _ hw335_1)).trans hw335_1), ((HB.out.cell (World.block_lt_of_cell? w _ hw335_2)).trans hw335_2), ((HB.out.cell (World.block_lt_of_cell? w _ hw335_3)).trans hw335_3), ((HB.out.cell (World.block_lt_of_cell? w _ hw335_4)).trans hw335_4)⟩ (fun hHeld => ?_)
                      clear hK K
                      refine norm_ (a' := ?_) ?_ ?_
                      rotate_left
                      · show Act.put _ (some 18) _ = _
                        simp only [Act.put, List.setIfInBounds_toArray, List.set_cons_zero, List.set_cons_succ, i64_w, i32_w]
                        rfl
                      refine one_ (i := 2) (N := some 20) #[true, true, true, true, true, true, true, true, false, false, false, false] rfl rfl (one_of HT_.out (by kernel_rfl)) (by decide) (fun K hK => ?_)
                      refine Kd.N_append_rows_step k26 (w0 := w) w.heap.size (by rfl) (.tmp 18) (.tmp 19) 36 26 (.agg #[(.int .i64 0), (.slice none 0 0), (.int .i64 0), (.slice none 0 0), (.int .i64 0)]) 72 rfl Try.underlying36 info26 rfl (by decide) (by omega) v330 y329 x5_1 _ _ _ (fun k_ => (w.heap.size ≤ k_)) (fun k_ => ((fun k_ => (w.heap.size ≤ k_))) k_ ∧ some k_ ≠ (v330 : Value).ownBlock) rfl rfl ?aO ?aR (fun _ hk => hk) ?aF ?aB ?aS ?aL ?_
                      (case aR => exact (by skip; exact Kd.N_F (Kd.N_mono (ok' := (fun k_ => ((fun k_ => (w.heap.size ≤ k_))) k_ ∧ some k_ ≠ (v330 : Value).ownBlock)) (HO_5.out) (fun k_ hk => ⟨hk.1, hk.2⟩))))
                      (case aB => exact (by repeat (first | (with_reducible first | exact HB.out | apply below_alloc | apply pw_below_drewN | apply below_drew1) | exact HB.out)))
                      (case aF => exact (fun k_ hk => (Nat.le_trans (below_size (by repeat (first | (with_reducible first | exact HB.out | apply below_alloc | apply pw_below_drewN | apply below_drew1) | exact HB.out))) hk)))
                      (case aO => exact (by (with_reducible repeat (first | apply Kd.N_alloc | apply Kd.N_drewN | apply Kd.N_drew)); exact Kd.N_mono HO331.out (fun _ hk => hk.1)))
                      (case aS => exact (below_size (by repeat (first | (with_reducible first | exact HB.out | apply below_alloc | apply pw_below_drewN | apply below_drew1) | exact HB.out))))
                      (case aL => have := LMc6.out; omega)
                      intro v333 w27 ho hb hg hat
                      rw [← Ny332.out] at ho
                      have n0_ := Aside0.mk (Kd.N_afterv (ok := (fun k_ => (w.heap.size ≤ k_))) (by (with_reducible repeat (first | apply Kd.N_alloc | apply Kd.N_drewN | apply Kd.N_drew)); exact HO_5.out) hg hat)
                      have n1_ := Aside0.mk (hb)
                      have n2_ := Aside0.mk (ho)
                      clear HO_5
                      clear HB
                      clear HO331
                      have HO_5 := n0_
                      have HB := n1_
                      have HO334 := n2_
                      clear n0_ n1_ n2_
                      clear ho hb hg hat
                      refine hK.out _ _ ⟨((HB.out.cell (World.block_lt_of_cell? w _ hw335_0)).trans hw335_0), ((HB.out.cell (World.block_lt_of_cell? w _ hw335_1)).trans hw335_1), ((HB.out.cell (World.block_lt_of_cell? w _ hw335_2)).trans hw335_2), ((HB.out.cell (World.block_lt_of_cell? w _ hw335_3)).trans hw335_3), ((HB.out.cell (World.block_lt_of_cell? w _ hw335_4)).trans hw335_4)⟩ (fun hHeld => ?_)
                      clear hK K
                      refine norm_ (a' := ?_) ?_ ?_
                      rotate_left
                      · show Act.put _ (some 20) _ = _
                        simp only [Act.put, List.setIfInBounds_toArray, List.set_cons_zero, List.set_cons_succ, i64_w, i32_w]
                        rfl
                      refine one_ (i := 8) (N := some 26) #[true, true, true, true, true, true, true, true, true, false, false, false] rfl rfl (one_of HT_.out (by kernel_rfl)) (by decide) (fun K hK => ?_)
                      refine goes_ Try.func15 (by kernel_rfl) rfl #[.agg #[.int .i64 ((rd_T31 l0 x6_1).f0), .int .i64 ((rd_T31 l0 x6_1).f1), .int .i64 ((rd_T31 l0 x6_1).f2), .slice A335_3 ((rd_T31 l0 x6_1).f3).length c335_3, .slice A335_4 ((rd_T31 l0 x6_1).f4).length c335_4], .int .i64 a1] (by rfl) rfl rfl (by (try simp only [List.map_toArray, List.map_cons, List.map_nil]); first | done | rfl | (simp only [List.length_drop, List.length_take]; rfl)) ?_
                      with_reducible refine (interlocutorlaw4_Raw_Make.calls kj2 ((rd_T31 l0 x6_1).f0) ((rd_T31 l0 x6_1).f1) ((rd_T31 l0 x6_1).f2) _ _ ((rd_T31 l0 x6_1).f3) _ _ ((rd_T31 l0 x6_1).f4) a1 t336 t337 t340 t341 t344 _ ?side1 ?side2 ?side3 ?side4 A9.out).mono ?_
                      (case side1 => repeat (first | exact (Kd.C_below HR335_3.out HB.out) | (with_reducible refine Kd.C_alloc ?_ _) | (with_reducible refine Kd.C_drewN ?_ _) | (with_reducible refine Kd.C_drew ?_)))
                      (case side2 => exact HC335_3.out)
                      (case side3 => repeat (first | exact (Kd.C_below HR335_4.out HB.out) | (with_reducible refine Kd.C_alloc ?_ _) | (with_reducible refine Kd.C_drewN ?_ _) | (with_reducible refine Kd.C_drew ?_)))
                      (case side4 => exact HC335_4.out)
                      rintro e w29 ⟨v338, v342, rfl, ho0, ho1, hb⟩
                      refine ⟨_, rfl, ?_⟩
                      have n0_ := Aside0.mk (Kd.N_mono (Kd.N_told (Kd.N_told (Kd.N_old (by (with_reducible repeat (first | apply Kd.N_alloc | apply Kd.N_drewN | apply Kd.N_drew)); exact HO_5.out) hb) (Kd.R_base ho0)) (Kd.R_base ho1)) (fun _ h_ => h_.1))
                      have n1_ := Aside0.mk (Kd.N_mono (Kd.N_told (Kd.N_told (Kd.N_old (by (with_reducible repeat (first | apply Kd.N_alloc | apply Kd.N_drewN | apply Kd.N_drew)); exact HO334.out) hb) (Kd.R_base ho0)) (Kd.R_base ho1)) (fun _ h_ => h_.1))
                      have n2_ := Aside0.mk (Kd.R_lower (Kd.R_newM (M := fun k_ => (w.heap.size ≤ k_)) ho0 (below_size (by repeat (first | (with_reducible first | exact HB.out | apply below_alloc | apply pw_below_drewN | apply below_drew1) | exact HB.out))) (fun k_ h_ => h_)) (below_size (by repeat (first | (with_reducible first | exact HB.out | apply below_alloc | apply pw_below_drewN | apply below_drew1) | exact HB.out))))
                      have n3_ := Aside0.mk (Kd.R_lower (Kd.R_newM (M := fun k_ => (w.heap.size ≤ k_)) ho1 (below_size (by repeat (first | (with_reducible first | exact HB.out | apply below_alloc | apply pw_below_drewN | apply below_drew1) | exact HB.out))) (fun k_ h_ => h_)) (below_size (by repeat (first | (with_reducible first | exact HB.out | apply below_alloc | apply pw_below_drewN | apply below_drew1) | exact HB.out))))
                      have n4_ := Aside0.mk (below_step (by repeat (first | (with_reducible first | exact HB.out | apply below_alloc | apply pw_below_drewN | apply below_drew1) | exact HB.out)) hb)
                      clear HO_5
                      clear HO334
                      clear HB
                      have HO_5 := n0_
                      have HO334 := n1_
                      have HO339 := n2_
                      have HO343 := n3_
                      have HB := n4_
                      clear n0_ n1_ n2_ n3_ n4_
                      (try clear hb)
                      (try clear hb2)
                      (try clear hk)
                      (try clear hi)
                      (try clear ho0)
                      (try clear ho1)
                      obtain ⟨Ao31, co31, eo31⟩ := Kd.R_slice HO339.out
                      (first | subst eo31 | (injection eo31 with f1_ f2_ f3_; have f4_ := f1_.symm; have f5_ := f3_.symm; clear f1_ f2_ f3_; subst f4_; subst f5_))
                      obtain ⟨Ao32, co32, eo32⟩ := Kd.R_slice HO343.out
                      (first | subst eo32 | (injection eo32 with f1_ f2_ f3_; have f4_ := f1_.symm; have f5_ := f3_.symm; clear f1_ f2_ f3_; subst f4_; subst f5_))
                      refine hK.out _ _ ⟨((HB.out.cell (World.block_lt_of_cell? w _ hw335_0)).trans hw335_0), ((HB.out.cell (World.block_lt_of_cell? w _ hw335_1)).trans hw335_1), ((HB.out.cell (World.block_lt_of_cell? w _ hw335_2)).trans hw335_2), ((HB.out.cell (World.block_lt_of_cell? w _ hw335_3)).trans hw335_3), ((HB.out.cell (World.block_lt_of_cell? w _ hw335_4)).trans hw335_4)⟩ (fun hHeld => ?_)
                      clear hK K
                      refine norm_ (a' := ?_) ?_ ?_
                      rotate_left
                      · show Act.put _ (some 26) _ = _
                        simp only [Act.put, List.setIfInBounds_toArray, List.set_cons_zero, List.set_cons_succ, i64_w, i32_w]
                        rfl
                      refine one_ (i := 9) (N := some 27) #[true, true, true, true, true, true, true, true, true, true, false, false] rfl rfl (one_of HT_.out (by kernel_rfl)) (by decide) (fun K hK => ?_)
                      refine value_ (w1 := ?_) (v := ?_) (by rfl) rfl ?_ ?_
                      rotate_left 2
                      · go_simp
                        constructor
                        · rfl
                        · rfl
                      refine hK.out _ _ ⟨(World.cell?_alloc_lt _ _ _ (World.block_lt_of_cell? _ _ (((HB.out.cell (World.block_lt_of_cell? w _ hw335_0)).trans hw335_0)))).trans (((HB.out.cell (World.block_lt_of_cell? w _ hw335_0)).trans hw335_0)), (World.cell?_alloc_lt _ _ _ (World.block_lt_of_cell? _ _ (((HB.out.cell (World.block_lt_of_cell? w _ hw335_1)).trans hw335_1)))).trans (((HB.out.cell (World.block_lt_of_cell? w _ hw335_1)).trans hw335_1)), (World.cell?_alloc_lt _ _ _ (World.block_lt_of_cell? _ _ (((HB.out.cell (World.block_lt_of_cell? w _ hw335_2)).trans hw335_2)))).trans (((HB.out.cell (World.block_lt_of_cell? w _ hw335_2)).trans hw335_2)), (World.cell?_alloc_lt _ _ _ (World.block_lt_of_cell? _ _ (((HB.out.cell (World.block_lt_of_cell? w _ hw335_3)).trans hw335_3)))).trans (((HB.out.cell (World.block_lt_of_cell? w _ hw335_3)).trans hw335_3)), (World.cell?_alloc_lt _ _ _ (World.block_lt_of_cell? _ _ (((HB.out.cell (World.block_lt_of_cell? w _ hw335_4)).trans hw335_4)))).trans (((HB.out.cell (World.block_lt_of_cell? w _ hw335_4)).trans hw335_4))⟩ (fun hHeld => ?_)
                      clear hK K
                      refine norm_ (a' := ?_) ?_ ?_
                      rotate_left
                      · show Act.put _ (some 27) _ = _
                        simp only [Act.put, List.setIfInBounds_toArray, List.set_cons_zero, List.set_cons_succ, i64_w, i32_w]
                        rfl
                      refine one_ (i := 10) (N := some 28) #[true, true, true, true, true, true, true, true, true, true, true, false] rfl rfl (one_of HT_.out (by kernel_rfl)) (by decide) (fun K hK => ?_)
                      refine Kd.N_append_step k26 (w0 := w) w.heap.size (by rfl) (.tmp 20) (.tmp 27) 36 26 (.agg #[(.int .i64 0), (.slice none 0 0), (.int .i64 0), (.slice none 0 0), (.int .i64 0)]) 72 rfl Try.underlying36 info26 rfl (by decide) (by omega) v333 y332 (⟨t336, t337, (⟨t340, t341⟩ : S24), t344⟩ : S26) [.int .i64 t336, .slice Ao31 t337.length co31, .int .i64 t340, .slice Ao32 t341.length co32, .int .i64 t344] (fun k_ => (w.heap.size ≤ k_)) (fun k_ => ((fun k_ => (w.heap.size ≤ k_))) k_ ∧ some k_ ≠ (v333 : Value).ownBlock) rfl rfl ?aP (fun _ hk => hk) ?aF ?aO ?aB ?aS ?aL ?_
                      (case aP => exact (k26_mkF _ _ (⟨t336, t337, (⟨t340, t341⟩ : S24), t344⟩ : S26) (Kd.R_reads' (Kd.R_mono (ok' := (fun k_ => ((fun k_ => (w.heap.size ≤ k_))) k_ ∧ some k_ ≠ (v333 : Value).ownBlock)) (Kd.R_apart' (HO339.out) (Kd.N_typed HO334.out) (by decide)) (fun k_ hk => ⟨hk.1.1, hk.2⟩))).2.1 (Kd.R_F (Kd.R_mono (ok' := (fun k_ => ((fun k_ => (w.heap.size ≤ k_))) k_ ∧ some k_ ≠ (v333 : Value).ownBlock)) (Kd.R_apart' (HO339.out) (Kd.N_typed HO334.out) (by decide)) (fun k_ hk => ⟨hk.1.1, hk.2⟩))) (Kd.R_reads' (Kd.R_mono (ok' := (fun k_ => ((fun k_ => (w.heap.size ≤ k_))) k_ ∧ some k_ ≠ (v333 : Value).ownBlock)) (Kd.R_apart' (HO343.out) (Kd.N_typed HO334.out) (by decide)) (fun k_ hk => ⟨hk.1.1, hk.2⟩))).2.1 (Kd.R_F (Kd.R_mono (ok' := (fun k_ => ((fun k_ => (w.heap.size ≤ k_))) k_ ∧ some k_ ≠ (v333 : Value).ownBlock)) (Kd.R_apart' (HO343.out) (Kd.N_typed HO334.out) (by decide)) (fun k_ hk => ⟨hk.1.1, hk.2⟩)))))
                      (case aB => exact (by repeat (first | (with_reducible first | exact HB.out | apply below_alloc | apply pw_below_drewN | apply below_drew1) | exact HB.out)))
                      (case aF => exact (fun k_ hk => (Nat.le_trans (below_size (by repeat (first | (with_reducible first | exact HB.out | apply below_alloc | apply pw_below_drewN | apply below_drew1) | exact HB.out))) hk)))
                      (case aO => exact (by (with_reducible repeat (first | apply Kd.N_alloc | apply Kd.N_drewN | apply Kd.N_drew)); exact Kd.N_mono HO334.out (fun _ hk => hk.1.1)))
                      (case aS => exact (below_size (by repeat (first | (with_reducible first | exact HB.out | apply below_alloc | apply pw_below_drewN | apply below_drew1) | exact HB.out))))
                      (case aL => have := LMc10.out; omega)
                      intro v346 w30 ho hb hg hat
                      rw [← Ny345.out] at ho
                      have n0_ := Aside0.mk (Kd.N_afterv (ok := (fun k_ => (w.heap.size ≤ k_) ∧ some k_ ≠ (.slice Ao31 t337.length co31 : Value).ownBlock ∧ some k_ ≠ (.slice Ao32 t341.length co32 : Value).ownBlock)) (by (with_reducible repeat (first | apply Kd.N_alloc | apply Kd.N_drewN | apply Kd.N_drew)); exact Kd.N_mono HO_5.out (fun _ hk => ⟨⟨hk.1.1.1, ⟨hk.1.2, hk.2⟩⟩, hk.1.1.2⟩)) hg hat)
                      have n1_ := Aside0.mk (hb)
                      have n2_ := Aside0.mk (ho)
                      clear HO_5
                      clear HB
                      clear HO334
                      clear HO339
                      clear HO343
                      have HO_5 := n0_
                      have HB := n1_
                      have HO347 := n2_
                      clear n0_ n1_ n2_
                      clear ho hb hg hat
                      refine hK.out _ _ ⟨((HB.out.cell (World.block_lt_of_cell? w _ hw335_0)).trans hw335_0), ((HB.out.cell (World.block_lt_of_cell? w _ hw335_1)).trans hw335_1), ((HB.out.cell (World.block_lt_of_cell? w _ hw335_2)).trans hw335_2), ((HB.out.cell (World.block_lt_of_cell? w _ hw335_3)).trans hw335_3), ((HB.out.cell (World.block_lt_of_cell? w _ hw335_4)).trans hw335_4)⟩ (fun hHeld => ?_)
                      clear hK K
                      refine norm_ (a' := ?_) ?_ ?_
                      rotate_left
                      · show Act.put _ (some 28) _ = _
                        simp only [Act.put, List.setIfInBounds_toArray, List.set_cons_zero, List.set_cons_succ, i64_w, i32_w]
                        rfl
                      refine pure_ (i := 11) (N := some 7) (v := ?_) (a' := ?_) #[true, true, true, true, true, true, true, true, true, true, true, true] rfl rfl (any_of HT_.out (by kernel_rfl)) (fun _ _ _ h => h) (Or.inl ⟨by rfl, ?_⟩) ?_ ?_
                      rotate_left
                      · intro w'
                        go_simp
                        with_reducible rfl
                      rotate_left
                      · simp only [Act.put, List.setIfInBounds_toArray, List.set_cons_zero, List.set_cons_succ, i64_w, i32_w]
                        rfl
                      refine done_ (done_of HT_.out (by kernel_rfl)) ?_
                      obtain ⟨Ao33, co33, eo33⟩ := Kd.N_slice HO347.out
                      subst eo33
                      try go_wp2_with (first | ((with_reducible refine gate_callee (f := 22) rfl ?_); refine goesL_ (some 30) rfl rfl Try.func22 (by kernel_rfl) rfl #[.slice Ao33 y345.length co33] rfl (by (try simp only [List.map_toArray, List.map_cons, List.map_nil]); first | done | rfl | (simp only [List.length_drop, List.length_take]; rfl)) ?_; (with_reducible refine (interlocutorref4_Check.calls _ _ y345 false _ ?side1 ?side2 A11.out).mono ?_); (case side1 => repeat (first | exact (Kd.N_reads' HO347.out).2.2 | (with_reducible refine Kd.C_alloc ?_ _) | (with_reducible refine Kd.C_drewN ?_ _) | (with_reducible refine Kd.C_drew ?_))); (case side2 => exact (Kd.N_reads' HO347.out).2.1); rintro e w34 ⟨rfl, hb⟩; refine ⟨_, rfl, ?_⟩; have n0_ := Aside0.mk (Kd.N_below (by (with_reducible repeat (first | apply Kd.N_alloc | apply Kd.N_drewN | apply Kd.N_drew)); exact HO_5.out) hb); have n1_ := Aside0.mk (Kd.N_below (by (with_reducible repeat (first | apply Kd.N_alloc | apply Kd.N_drewN | apply Kd.N_drew)); exact HO347.out) hb); have n2_ := Aside0.mk (below_step (by repeat (first | (with_reducible first | exact HB.out | apply below_alloc | apply pw_below_drewN | apply below_drew1) | exact HB.out)) hb); clear HO_5; clear HO347; clear HB; have HO_5 := n0_; have HO347 := n1_; have HB := n2_; clear n0_ n1_ n2_; (try clear hb); (try clear hb2); (try clear hk); (try clear hi)))
                      go_roundg kj2
                      case measure => have := HK1.out; have := HJ2.out; omega
                      case rel => exact ⟨(x5_1), (wrap64 (x6_1 + 1)), (by first | rfl | (simp; done) | (simp [*]; done)), H', ⟨by have := HK1.out; have := HJ2.out; omega⟩, ⟨by (with_reducible repeat (first | apply Kd.N_alloc | apply Kd.N_drewN | apply Kd.N_drew)); exact Kd.N_mono HO_5.out (fun _ hk => hk.1.1)⟩, ⟨by repeat (first | (with_reducible first | exact HB.out | apply below_alloc | apply pw_below_drewN | apply below_drew1) | exact HB.out)⟩⟩
                  · rw [if_neg c10] at H
                    exact absurd H (by simp)
                · rw [if_neg c8] at H
                  exact absurd H (by simp)
              · rw [if_neg c7] at H
                exact absurd H (by simp)
            · rw [if_neg c6] at H
              exact absurd H (by simp)
          · replace c5 := Bool.eq_false_iff.mpr c5
            subst c5
            have H1 : (some x5_1) = some r := by rw [if_neg (show ¬ (false = true) by decide)] at H; exact H
            clear H
            have H := H1
            clear H1
            obtain rfl := Option.some.inj H
            go_wp2
            go_ret
            exact ⟨_, by first | rfl | (simp [errW_none, errW_some] <;> rfl) | (simp [*, errW_none, errW_some] <;> rfl), by (with_reducible repeat (first | apply Kd.N_alloc | apply Kd.N_drewN | apply Kd.N_drew)); exact HO_5.out, by repeat (first | (with_reducible first | exact HB.out | apply below_alloc | apply pw_below_drewN | apply below_drew1) | exact HB.out)⟩
end Go.Proofs.Ytjomlfdkmdgclaa.P
end
section
namespace Go.Proofs.Ytjomlfdkmdgclaa.P
open Go.RowKit Go.Proofs.YtjomlfdkmdgclaaW.PrintWords Go.Proofs.YtjomlfdkmdgclaaW.PrintLast Go.Proofs.YtjomlfdkmdgclaaW.PrintMore
attribute [local go_sem] max2_int min2_int max_two min_two max_three min_three max_four min_four   
set_option linter.unusedVariables false
set_option linter.unusedSimpArgs false
abbrev Raw' := S31
theorem rdR_getElem (l : List Raw') (j : Nat) (h : j < l.length) : rd_T31 l j = l[j] := by
  unfold rd_T31
  rw [Int.toNat_natCast, List.getD_eq_getElem?_getD, List.getElem?_eq_getElem h]
  rfl
def fewB (l : List Raw') : Bool := l.all fun x => decide (x.f3.length ≤ 20 ∧ x.f4.length ≤ 20)
theorem few_loop (l : List Raw') (hl : l.length ≤ 9223372036854775807) : ∀ (d j : Nat), j + d = l.length → ∀ k, d < k → interlocutorlaw4_Few.l0 k l j = some (fewB (l.drop j) && decide (l.length ≤ 80)) := by
  intro d
  induction d with
  | zero =>
    intro j hj k hk
    obtain ⟨k, rfl⟩ : ∃ i, k = i + 1 := ⟨k - 1, by omega⟩
    simp only [interlocutorlaw4_Few.l0]
    rw [if_neg (by omega), show j = l.length by omega, List.drop_length]
    have : decide ((l.length : Int) ≤ 80) = decide (l.length ≤ 80) := decide_eq_decide.2 (by omega)
    rw [this]
    rfl
  | succ d ih =>
    intro j hj k hk
    obtain ⟨k, rfl⟩ : ∃ i, k = i + 1 := ⟨k - 1, by omega⟩
    have hlt : j < l.length := by omega
    have hw : wrap64 ((j : Int) + 1) = ((j + 1 : Nat) : Int) := by rw [wrap_in (by omega)]; rfl
    have h1 := ih (j + 1) (by omega) k (by omega)
    simp only [interlocutorlaw4_Few.l0]
    rw [if_pos (by omega), if_pos (by omega), rdR_getElem l j hlt, hw, h1, List.drop_eq_getElem_cons hlt]
    unfold fewB
    rw [List.all_cons]
    by_cases h3 : (l[j].f3.length : Int) > 20
    · rw [if_pos h3, decide_eq_false (by omega)]; rfl
    · rw [if_neg h3]
      by_cases h4 : (l[j].f4.length : Int) > 20
      · rw [if_pos h4, decide_eq_false (by omega)]; rfl
      · rw [if_neg h4, decide_eq_true (by omega : l[j].f3.length ≤ 20 ∧ l[j].f4.length ≤ 20)]
        rfl
theorem few_some (l : List Raw') (hl : l.length ≤ 9223372036854775807) (k : Nat) (hk : l.length < k) : interlocutorlaw4_Few.f k l = some (fewB l && decide (l.length ≤ 80)) := by
  have h := few_loop l hl l.length 0 (by omega) k hk
  rw [List.drop_zero] at h
  exact h
def kidOk (s : Int) (y : Int) : Prop := (0 ≤ y ∧ y < s) ∨ (-55 ≤ y ∧ y ≤ -1)
section
variable (s n a0 a1 a2 : Int) (l3 l4 : List Int) (c0 : Int) (rhs : List Int) (c2 c4 : Int)
theorem make_places (hn : n ≤ 3) (hr : 1 ≤ rhs.length) (hr2 : rhs.length ≤ 10) (h4 : l4.length ≤ 20) : ∀ (d j : Nat) (ps : List Int), (j : Int) + d = n → ps.length = j → (∀ p ∈ ps, 0 ≤ p ∧ p < (rhs.length : Int)) →
    ∃ ps' : List Int, (ps'.length : Int) = n ∧ (∀ p ∈ ps', 0 ≤ p ∧ p < (rhs.length : Int)) ∧ ∀ k, d < k → interlocutorlaw4_Raw_Make.l1 k n j a0 a1 a2 l3 l4 c0 rhs c2 ps c4 = some (c0, rhs, c2, ps', c4) := by
  intro d
  induction d with
  | zero =>
    intro j ps hj hl hp
    refine ⟨ps, by omega, hp, fun k hk => ?_⟩
    obtain ⟨k, rfl⟩ : ∃ i, k = i + 1 := ⟨k - 1, by omega⟩
    simp only [interlocutorlaw4_Raw_Make.l1]
    rw [if_neg (by omega)]
  | succ d ih =>
    intro j ps hj hl hp
    have hw : wrap64 ((j : Int) + 1) = ((j + 1 : Nat) : Int) := by rw [wrap_in (by omega)]; rfl
    by_cases h : (j : Int) < (l4.length : Int)
    · have hv0 := rem_ge (rd l4 j) (rhs.length : Int) (by omega)
      have hv1 := rem_lt (rd l4 j) (rhs.length : Int) (by omega)
      obtain ⟨ps', h1, h2, h3⟩ := ih (j + 1) (ps ++ [rd l4 j % (rhs.length : Int)]) (by omega) (by rw [List.length_append, hl]; rfl) (fun p hp' => by
        rcases List.mem_append.1 hp' with hp' | hp'
        · exact hp p hp'
        · rw [List.mem_singleton.1 hp']; exact ⟨hv0, hv1⟩)
      refine ⟨ps', h1, h2, fun k hk => ?_⟩
      obtain ⟨k, rfl⟩ : ∃ i, k = i + 1 := ⟨k - 1, by omega⟩
      simp only [interlocutorlaw4_Raw_Make.l1]
      rw [if_pos (by omega), if_pos h, if_pos (by omega), within_rem _ _ (by omega) (by omega), Option.bind_some, if_pos (by omega), hw]
      exact h3 k (by omega)
    · have hv0 := rem_ge (j : Int) (rhs.length : Int) (by omega)
      have hv1 := rem_lt (j : Int) (rhs.length : Int) (by omega)
      obtain ⟨ps', h1, h2, h3⟩ := ih (j + 1) (ps ++ [(j : Int) % (rhs.length : Int)]) (by omega) (by rw [List.length_append, hl]; rfl) (fun p hp' => by
        rcases List.mem_append.1 hp' with hp' | hp'
        · exact hp p hp'
        · rw [List.mem_singleton.1 hp']; exact ⟨hv0, hv1⟩)
      refine ⟨ps', h1, h2, fun k hk => ?_⟩
      obtain ⟨k, rfl⟩ : ∃ i, k = i + 1 := ⟨k - 1, by omega⟩
      simp only [interlocutorlaw4_Raw_Make.l1]
      rw [if_pos (by omega), if_neg h, within_rem _ _ (by omega) (by omega), Option.bind_some, if_pos (by omega), hw]
      exact h3 k (by omega)
theorem kid_table : ∀ t : Fin 11, -55 ≤ wrap64 ((-1) - (rd ([0, 0, 0, 1, 2, 3, 50, 51, 52, 53, 54] : List Int) ((t.val : Nat) : Int))) ∧ wrap64 ((-1) - (rd ([0, 0, 0, 1, 2, 3, 50, 51, 52, 53, 54] : List Int) ((t.val : Nat) : Int))) ≤ -1 := by decide +kernel
theorem make_kids (s n a0 a1 a2 : Int) (l3 l4 : List Int) (c0 c2 c4 : Int) (hs : 1 ≤ s ∧ s ≤ 20) (hn : 1 ≤ n ∧ n ≤ 3) (h3 : l3.length ≤ 20) (hw3 : ∀ y ∈ l3, wfI y) (h4 : l4.length ≤ 20) (ha1 : wfI a1) : ∀ (d i : Nat) (rhs : List Int), i + d = 3 → rhs.length = i → (∀ y ∈ rhs, kidOk s y) →
    ∃ rhs' ps', (1 ≤ rhs'.length ∧ rhs'.length ≤ 3) ∧ (∀ y ∈ rhs', kidOk s y) ∧ ((ps'.length : Int) = n) ∧ (∀ p ∈ ps', 0 ≤ p ∧ p < (rhs'.length : Int)) ∧ ∀ k, 3 * d + 20 < k → interlocutorlaw4_Raw_Make.l0 k s n i a0 a1 a2 l3 l4 c0 rhs c2 c4 = some (c0, rhs', c2, ps', c4) := by
  intro d
  induction d with
  | zero =>
    intro i rhs hi hl hk
    obtain ⟨ps', p1, p2, p3⟩ := make_places n a0 a1 a2 l3 l4 c0 rhs c2 c4 hn.2 (by omega) (by omega) h4 n.toNat 0 [] (by omega) rfl (by simp)
    refine ⟨rhs, ps', ⟨by omega, by omega⟩, hk, p1, p2, fun k hk => ?_⟩
    obtain ⟨k, rfl⟩ : ∃ j, k = j + 2 := ⟨k - 2, by omega⟩
    have hm0 := rem_ge (l3.length : Int) 3 (by omega)
    have hm1 := rem_lt (l3.length : Int) 3 (by omega)
    rw [show k + 2 = (k + 1) + 1 by omega]
    simp only [interlocutorlaw4_Raw_Make.l0]
    rw [within_rem _ 3 (by omega) (by omega), Option.bind_some, wrap_in (by omega), if_neg (by omega), if_neg (by omega)]
    simp only [interlocutorlaw4_Raw_Make.j1, Bool.false_eq_true, if_false]
    exact p3 k (by omega)
  | succ d ih =>
    intro i rhs hi hl hk
    have hm0 := rem_ge (l3.length : Int) 3 (by omega)
    have hm1 := rem_lt (l3.length : Int) 3 (by omega)
    obtain ⟨b, hb0, hb⟩ : ∃ b : Bool, (i = 0 → b = true) ∧ ∀ k, interlocutorlaw4_Raw_Make.l0 (k + 1) s n i a0 a1 a2 l3 l4 c0 rhs c2 c4 = interlocutorlaw4_Raw_Make.j1 k s n i b a0 a1 a2 l3 l4 c0 rhs c2 c4 := by
      by_cases h1 : (i : Int) < 1 + (l3.length : Int) % 3
      · refine ⟨true, fun _ => rfl, fun k => ?_⟩
        simp only [interlocutorlaw4_Raw_Make.l0]
        rw [within_rem _ 3 (by omega) (by omega), Option.bind_some, wrap_in (by omega), if_pos h1]
      · by_cases h2 : (i : Int) < n
        · refine ⟨(wrap64 (Int.tdiv a1 16) % 2 == 0), fun h => by omega, fun k => ?_⟩
          simp only [interlocutorlaw4_Raw_Make.l0]
          rw [within_rem _ 3 (by omega) (by omega), Option.bind_some, wrap_in (by omega), if_neg h1, if_pos h2, within_rem _ 2 (by omega) (by omega), Option.bind_some]
        · refine ⟨false, fun h => by omega, fun k => ?_⟩
          simp only [interlocutorlaw4_Raw_Make.l0]
          rw [within_rem _ 3 (by omega) (by omega), Option.bind_some, wrap_in (by omega), if_neg h1, if_neg h2]
    cases b with
    | false =>
      have hi1 : i ≠ 0 := fun h => by have := hb0 h; cases this
      obtain ⟨ps', p1, p2, p3⟩ := make_places n a0 a1 a2 l3 l4 c0 rhs c2 c4 hn.2 (by omega) (by omega) h4 n.toNat 0 [] (by omega) rfl (by simp)
      refine ⟨rhs, ps', ⟨by omega, by omega⟩, hk, p1, p2, fun k hk => ?_⟩
      obtain ⟨k, rfl⟩ : ∃ j, k = j + 2 := ⟨k - 2, by omega⟩
      rw [show k + 2 = (k + 1) + 1 by omega, hb]
      simp only [interlocutorlaw4_Raw_Make.j1, Bool.false_eq_true, if_false]
      exact p3 k (by omega)
    | true =>
      obtain ⟨v, hv⟩ : ∃ v : Int, ∀ k, interlocutorlaw4_Raw_Make.j1 (k + 1) s n i true a0 a1 a2 l3 l4 c0 rhs c2 c4 = interlocutorlaw4_Raw_Make.j2 k s n i v a0 a1 a2 l3 l4 c0 rhs c2 c4 := by
        by_cases h1 : (i : Int) < (l3.length : Int)
        · refine ⟨rd l3 i, fun k => ?_⟩
          simp only [interlocutorlaw4_Raw_Make.j1, if_true]
          rw [if_pos h1, if_pos (by omega)]
        · refine ⟨i, fun k => ?_⟩
          simp only [interlocutorlaw4_Raw_Make.j1, if_true]
          rw [if_neg h1]
      have hw : wrap64 ((i : Int) + 1) = ((i + 1 : Nat) : Int) := by rw [wrap_in (by omega)]; rfl
      obtain ⟨y, hy, hj⟩ : ∃ y : Int, kidOk s y ∧ ∀ k, interlocutorlaw4_Raw_Make.j2 (k + 1) s n i v a0 a1 a2 l3 l4 c0 rhs c2 c4 = interlocutorlaw4_Raw_Make.l0 k s n ((i + 1 : Nat) : Int) a0 a1 a2 l3 l4 c0 (rhs ++ [y]) c2 c4 := by
        by_cases h1 : wrap64 (Int.tdiv v 20) % 2 = 0
        · obtain ⟨t, ht⟩ := as_fin 11 rfl (rem_ge (wrap64 (Int.tdiv v 40)) 11 (by omega)) (rem_lt (wrap64 (Int.tdiv v 40)) 11 (by omega))
          refine ⟨_, .inr (kid_table t), fun k => ?_⟩
          simp only [interlocutorlaw4_Raw_Make.j2]
          rw [within_rem v s (by omega) (by omega), Option.bind_some, within_rem _ 2 (by omega) (by omega), Option.bind_some, if_pos h1, Option.bind_some, within_rem _ 11 (by omega) (by omega), Option.bind_some, ht, if_pos (by omega), if_pos (by have := t.isLt; simp; omega), if_pos (by omega), hw]
        · refine ⟨v % s, .inl ⟨rem_ge v s (by omega), rem_lt v s (by omega)⟩, fun k => ?_⟩
          simp only [interlocutorlaw4_Raw_Make.j2]
          rw [within_rem v s (by omega) (by omega), Option.bind_some, within_rem _ 2 (by omega) (by omega), Option.bind_some, if_neg h1, if_pos (by omega), hw]
      obtain ⟨rhs', ps', q1, q2, q3, q4, q5⟩ := ih (i + 1) (rhs ++ [y]) (by omega) (by rw [List.length_append, hl]; rfl) (fun z hz => by
        rcases List.mem_append.1 hz with hz | hz
        · exact hk z hz
        · rw [List.mem_singleton.1 hz]; exact hy)
      refine ⟨rhs', ps', q1, q2, q3, q4, fun k hk => ?_⟩
      obtain ⟨k, rfl⟩ : ∃ j, k = j + 3 := ⟨k - 3, by omega⟩
      rw [show k + 3 = ((k + 1) + 1) + 1 by omega, hb, hv, hj]
      exact q5 k (by omega)
def makeN (o : Nat) : Int := rd ([1, 3, 2, 2, 2, 2, 3, 1, 1, 2, 1, 1, 2, 2, 2, 2] : List Int) (o : Int)
theorem makeN_ok : ∀ o : Fin 16, (1 ≤ makeN o.val ∧ makeN o.val ≤ 3) ∧ (askedP ((o.val : Nat) : Int)).1 ≤ makeN o.val ∧ makeN o.val ≤ (askedP ((o.val : Nat) : Int)).2 := by decide +kernel
structure Made (s : Int) (r : Rule') : Prop where
  lhs : 0 ≤ r.f0 ∧ r.f0 < s
  len : 1 ≤ r.f1.length ∧ r.f1.length ≤ 3
  kids : ∀ y ∈ r.f1, kidOk s y
  right : rightR r = true
theorem make_some (x : Raw') (s : Int) (hs : 1 ≤ s ∧ s ≤ 20) (hx : okRaw x) (h3 : x.f3.length ≤ 20) (h4 : x.f4.length ≤ 20) :
    ∃ r : Rule', Made s r ∧ ∀ k, 40 ≤ k → interlocutorlaw4_Raw_Make.f k x.f0 x.f1 x.f2 x.f3 x.f4 s = some (r.f0, r.f1, r.f2.f0, r.f2.f1, r.f3) := by
  obtain ⟨_, hw1, _, hw3, _⟩ := hx
  obtain ⟨o, ho⟩ := as_fin 16 rfl (rem_ge x.f1 16 (by omega)) (rem_lt x.f1 16 (by omega))
  have hn := makeN_ok o
  have hc0 := rem_ge x.f2 101 (by omega)
  have hc1 := rem_lt x.f2 101 (by omega)
  have hl0 := rem_ge x.f0 s (by omega)
  have hl1 := rem_lt x.f0 s (by omega)
  obtain ⟨rhs, ps, p1, p2, p3, p4, p5⟩ := make_kids s (makeN o.val) x.f0 x.f1 x.f2 x.f3 x.f4 (x.f0 % s) ((o.val : Nat) : Int) (x.f2 % 101) hs hn.1 h3 hw3 h4 hw1 3 0 [] rfl rfl (by simp)
  refine ⟨⟨x.f0 % s, rhs, ⟨((o.val : Nat) : Int), ps⟩, x.f2 % 101⟩, ⟨⟨hl0, hl1⟩, p1, p2, ?_⟩, fun k hk => ?_⟩
  · show rightP (x.f0 % s) rhs ((o.val : Nat) : Int) ps (x.f2 % 101) = true
    unfold rightP symbolB withinB
    simp only [Bool.and_eq_true, decide_eq_true_eq, List.all_eq_true]
    refine ⟨⟨hl0, by omega⟩, ⟨by omega, by omega⟩, fun y hy => ?_, ⟨hc0, by omega⟩, ⟨by omega, by omega⟩, fun p hp => ?_⟩
    · unfold itemB
      rcases p2 y hy with h | h
      · rw [decide_eq_true (by omega), decide_eq_true (by omega)]; rfl
      · rw [decide_eq_true (by omega), decide_eq_true (by omega)]; rfl
    · have h := p4 p hp
      unfold placeB
      rw [decide_eq_true h.1, decide_eq_true h.2]; rfl
  · unfold interlocutorlaw4_Raw_Make.f
    rw [within_rem x.f0 s (by omega) (by omega), Option.bind_some, within_rem x.f2 101 (by omega) (by omega), Option.bind_some, within_rem x.f1 16 (by omega) (by omega), Option.bind_some, Option.bind_some, ho, if_pos (by omega), if_pos (by have := o.isLt; simp; omega)]
    exact p5 k (by omega)
end
structure Told (s : Int) (out : List Rule') : Prop where
  made : ∀ r ∈ out, Made s r
  check : checkP out = true
theorem rule_eta (r : Rule') : (⟨r.f0, r.f1, (⟨r.f2.f0, r.f2.f1⟩ : S24), r.f3⟩ : Rule') = r := rfl
theorem rules_loop (l : List Raw') (s : Int) (hs : 1 ≤ s ∧ s ≤ 20) (hl : l.length ≤ 80) (hok : ∀ x ∈ l, okRaw x) (hf : ∀ x ∈ l, x.f3.length ≤ 20 ∧ x.f4.length ≤ 20) : ∀ (d i : Nat) (out : List Rule'), i + d = l.length → out.length ≤ i → Told s out →
    ∃ res, Told s res ∧ ∀ k, 2 * d + 45 < k → interlocutorlaw4_Rules.l0 k l s out i = some res := by
  intro d
  induction d with
  | zero =>
    intro i out hi ho ht
    refine ⟨out, ht, fun k hk => ?_⟩
    obtain ⟨k, rfl⟩ : ∃ j, k = j + 2 := ⟨k - 2, by omega⟩
    rw [show k + 2 = (k + 1) + 1 by omega]
    simp only [interlocutorlaw4_Rules.l0]
    rw [if_neg (by omega)]
    simp only [interlocutorlaw4_Rules.j1, Bool.false_eq_true, if_false]
  | succ d ih =>
    intro i out hi ho ht
    have hlt : i < l.length := by omega
    by_cases h20 : (i : Int) < 20
    · obtain ⟨r, hr, hm⟩ := make_some l[i] s hs (hok _ (List.getElem_mem hlt)) (hf _ (List.getElem_mem hlt)).1 (hf _ (List.getElem_mem hlt)).2
      have hw : wrap64 ((i : Int) + 1) = ((i + 1 : Nat) : Int) := by rw [wrap_in (by omega)]; rfl
      have hmade : ∀ q ∈ out ++ [r], Made s q := by
        intro q hq
        rcases List.mem_append.1 hq with hq | hq
        · exact ht.made q hq
        · rw [List.mem_singleton.1 hq]; exact hr
      have hstep : ∀ k, 45 < k → interlocutorlaw4_Rules.l0 (k + 2) l s out i = if checkP (out ++ [r]) = true then interlocutorlaw4_Rules.l0 k l s (out ++ [r]) ((i + 1 : Nat) : Int) else interlocutorlaw4_Rules.l0 k l s out ((i + 1 : Nat) : Int) := by
        intro k hk
        rw [show k + 2 = (k + 1) + 1 by omega]
        simp only [interlocutorlaw4_Rules.l0]
        rw [if_pos (by omega), decide_eq_true h20]
        simp only [interlocutorlaw4_Rules.j1, if_true, Option.bind_some, List.nil_append, List.length_nil, Nat.zero_add]
        rw [if_pos (by omega), if_pos (by omega), if_pos (by omega), rdR_getElem l i hlt, hm k (by omega), Option.bind_some]
        simp only [rule_eta]
        rw [if_pos (by omega), hw]
        rfl
      cases hc : checkP (out ++ [r]) with
      | true =>
        obtain ⟨res, h1, h2⟩ := ih (i + 1) (out ++ [r]) (by omega) (by rw [List.length_append]; simp; omega) ⟨hmade, hc⟩
        refine ⟨res, h1, fun k hk => ?_⟩
        obtain ⟨k, rfl⟩ : ∃ j, k = j + 2 := ⟨k - 2, by omega⟩
        rw [hstep k (by omega), hc, if_pos rfl]
        exact h2 k (by omega)
      | false =>
        obtain ⟨res, h1, h2⟩ := ih (i + 1) out (by omega) (by omega) ht
        refine ⟨res, h1, fun k hk => ?_⟩
        obtain ⟨k, rfl⟩ : ∃ j, k = j + 2 := ⟨k - 2, by omega⟩
        rw [hstep k (by omega), hc, if_neg (by simp)]
        exact h2 k (by omega)
    · refine ⟨out, ht, fun k hk => ?_⟩
      obtain ⟨k, rfl⟩ : ∃ j, k = j + 2 := ⟨k - 2, by omega⟩
      rw [show k + 2 = (k + 1) + 1 by omega]
      simp only [interlocutorlaw4_Rules.l0]
      rw [if_pos (by omega), decide_eq_false h20]
      simp only [interlocutorlaw4_Rules.j1, Bool.false_eq_true, if_false]
theorem rules_some (l : List Raw') (s : Int) (hs : 1 ≤ s ∧ s ≤ 20) (hl : l.length ≤ 80) (hok : ∀ x ∈ l, okRaw x) (hf : fewB l = true) : ∃ res, Told s res ∧ ∀ k, 300 ≤ k → interlocutorlaw4_Rules.f k l s = some res := by
  obtain ⟨res, h1, h2⟩ := rules_loop l s hs hl hok (fun x hx => of_decide_eq_true (List.all_eq_true.1 hf x hx)) l.length 0 [] (by omega) (Nat.le_refl _) ⟨fun r hr => (by cases hr), check_nil⟩
  exact ⟨res, h1, fun k hk => h2 k (by omega)⟩
end Go.Proofs.Ytjomlfdkmdgclaa.P
end
section
namespace Go.Proofs.Ytjomlfdkmdgclaa.P
open Go.RowKit Go.Proofs.YtjomlfdkmdgclaaW.PrintWords Go.Proofs.YtjomlfdkmdgclaaW.PrintLast Go.Proofs.YtjomlfdkmdgclaaW.PrintMore
attribute [local go_sem] max2_int min2_int max_two min_two max_three min_three max_four min_four   
set_option linter.unusedVariables false
set_option linter.unusedSimpArgs false
theorem sorted_ext {l l' : List Int} (h : l.Pairwise (· < ·)) (h' : l'.Pairwise (· < ·)) (hm : ∀ y, y ∈ l ↔ y ∈ l') : l = l' := by
  have n1 : l.Nodup := h.imp (fun h => Int.ne_of_lt h)
  have n2 : l'.Nodup := h'.imp (fun h => Int.ne_of_lt h)
  have hp : l.Perm l' := (List.perm_ext_iff_of_nodup n1 n2).2 hm
  have s : ∀ l : List Int, l.Pairwise (· < ·) → sortI l = l := by
    intro l h
    unfold sortI
    refine List.mergeSort_of_pairwise (h.imp ?_)
    intro a b h
    simp [leI]
    omega
  rw [← s l h, ← s l' h']
  exact mergeSort_of_perm_i hp
def symRules (l0 : List Rule') : Bool := l0.all fun r => decide (0 ≤ r.f0 ∧ r.f0 < 20) && r.f1.all fun y => decide (y < 20)
noncomputable def interlocutorref4_Reached.f (l0 : List Rule') : Option (List Int) := if symRules l0 = true then some (reachL (nextP l0) [0]) else none
structure Sofar (l0 : List Rule') (l : List Int) : Prop where
  zero : 0 ∈ l
  sorted : l.Pairwise (· < ·)
  reach : ∀ y ∈ l, Reach (nextP l0) [0] y
def doneRule (l : List Int) (r : Rule') : Prop := r.f0 ∈ l → ∀ y ∈ r.f1, 0 ≤ y → y ∈ l
theorem Sofar.len {l0 : List Rule'} {l : List Int} (h : Sofar l0 l) : l.length ≤ 20 :=
  length_of_sub (h.sorted.imp (fun h => Int.ne_of_lt h)) (fun x hx => (h.reach x hx).sym (fun x _ => nextP_sym l0 x) zero_sym)
theorem Sofar.eq {l0 : List Rule'} {l : List Int} (h : Sofar l0 l) (hd : ∀ r ∈ l0, doneRule l r) : l = reachL (nextP l0) [0] := by
  refine sorted_ext h.sorted (reachL_sorted _ _) fun y => ?_
  rw [mem_reached]
  refine ⟨h.reach y, fun hr => ?_⟩
  refine Reach.inv (P := fun y => y ∈ l) (fun x hx => by rw [List.mem_singleton.1 hx]; exact h.zero) (fun x hx y hy => ?_) hr
  obtain ⟨hs, r, hr, h1, h2⟩ := (mem_nextP l0 x y).1 hy
  exact hd r hr (by rw [h1]; exact hx) y h2 hs.1
theorem Sofar.start (l0 : List Rule') : Sofar l0 [0] := ⟨by simp, by simp, fun y hy => .base hy⟩
theorem Sofar.put {l0 : List Rule'} {l : List Int} (h : Sofar l0 l) (r : Rule') (hr : r ∈ l0) (h0 : r.f0 ∈ l) (y : Int) (hy : y ∈ r.f1) (hs : inSym y) : Sofar l0 (putP l y) := by
  refine ⟨(mem_putP _ _ _).2 (.inr h.zero), putP_sorted _ _ h.sorted, fun z hz => ?_⟩
  rcases (mem_putP _ _ _).1 hz with rfl | hz
  · exact .step (h.reach _ h0) ((mem_nextP l0 _ _).2 ⟨hs, r, hr, rfl, hy⟩)
  · exact h.reach z hz
def Pass (again : Bool) (l : List Int) (n : Nat) (done : List Int → Prop) : Prop := n ≤ l.length ∧ (again = true → n < l.length) ∧ (again = false → l.length = n ∧ done l)
set_option maxHeartbeats 4000000 in
set_option maxRecDepth 100000 in
theorem refReached_walk (A0 : Option Addr) (c0 : Nat) (l0 : List Rule') (w : World) (hr0 : Kd.C k26 w A0 l0.length l0) (hc0 : l0.length ≤ c0) (hu : symRules l0 = true) :
    Calls Try.prog 25 #[.slice A0 l0.length c0] w fun e w' => ∃ v0_ : Value, e = .returned (v0_) ∧ Kd.R (Kd.int .i64) 3 w' w.heap.size (fun _ => True) v0_ (reachL (nextP l0) [0]) ∧ Below w.heap.size w w' := by
  have hl : l0.length ≤ 9223372036854775807 := hr0.2.1
  have HU := Aside0.mk hu
  have HR := Aside0.mk hr0
  have HC := Aside0.mk hc0
  clear hr0 hc0 hu
  have hR1 : Aside0 (Kd.R (Kd.int .i64) 3 (w.alloc (.cells #[.int .i64 0] 3)) w.heap.size (fun _ => True) (.slice (some ⟨w.heap.size, 0, none⟩) ([0] : List Int).length 1) [0]) :=
    ⟨Kd.R_of_own (enc := Value.int .i64) (h1 := fun _ => rfl) (xs := [0]) (World.ownsRow_lit (base := w.heap.size) (e := 3) (size := 1) w #[.int .i64 0] 1 (Nat.le_refl _) (by simp [maxLen]) rfl) (fun _ _ => trivial)⟩
  have HB1 := Aside0.mk (below_alloc (Below.refl w.heap.size w) (.cells #[.int .i64 0] 3))
  go_enter Try.func25, Try.ntmps25
  go_wp2
  go_loopg [3, 4] 30 (fun gg s3 s4 wr => ∃ (l : List Int) (again : Bool) (A : Option Addr) (c : Nat), s3 = .slice A l.length c ∧ s4 = .bool again ∧ Aside0 (again.toNat + 30 ≤ gg + l.length) ∧ Aside0 (Sofar l0 l) ∧ Aside0 (again = false → ∀ r ∈ l0, doneRule l r) ∧ Aside0 (Kd.R (Kd.int .i64) 3 wr w.heap.size (fun _ => True) (.slice A l.length c) l) ∧ Aside0 (Below w.heap.size w wr))
  case atStart => exact ⟨[0], true, _, _, rfl, rfl, ⟨by simp⟩, ⟨Sofar.start l0⟩, ⟨fun h => by cases h⟩, hR1, HB1⟩
  case round =>
    clear hR1 HB1
    obtain ⟨l, again, A, c, rfl, rfl, HG, HS, HD, HRL, HB⟩ := hrel
    cases again with
    | false =>
      have h9 := HRL.out
      have he := HS.out.eq (HD.out rfl)
      have HE := Aside0.mk he
      have HR9 := Aside0.mk h9
      clear he h9 HRL
      go_wp2
      go_ret
      have h8 := HR9.out
      refine ⟨_, rfl, ?_, HB.out⟩
      rw [← HE.out]
      exact h8
    | true =>
      have hl20 := HS.out.len
      have hg1 := HG.out
      generalize hn0 : l.length = n0 at *
      have HN0 := Aside0.mk hn0
      obtain ⟨G, hG⟩ : ∃ G, G = gk := ⟨_, rfl⟩
      have hgg : 31 ≤ gk + n0 := by simpa [Nat.add_comm] using hg1
      clear hn0 hg1 HG HD
      go_wp2
      go_loopg [3, 4, 5] l0.length (fun gg s3 s4 s5 wr => ∃ (l : List Int) (again : Bool) (A : Option Addr) (c : Nat) (i : Nat), s3 = .slice A l.length c ∧ s4 = .bool again ∧ s5 = .int .i64 i ∧ i ≤ l0.length ∧ l0.length - i ≤ gg ∧ Aside0 (Sofar l0 l) ∧ Aside0 (Pass again l n0 (fun l => ∀ j, j < i → ∀ h : j < l0.length, doneRule l l0[j])) ∧ Aside0 (Kd.R (Kd.int .i64) 3 wr w.heap.size (fun _ => True) (.slice A l.length c) l) ∧ Aside0 (Below w.heap.size w wr))
      case atStart =>
        refine ⟨l, false, A, c, 0, by rw [HN0.out], rfl, rfl, Nat.zero_le _, by omega, HS, ⟨⟨by rw [HN0.out]; exact Nat.le_refl _, (fun h => by cases h), fun _ => ⟨HN0.out, fun j hj => absurd hj (Nat.not_lt_zero _)⟩⟩⟩, ⟨by rw [HN0.out]; exact HRL.out⟩, HB⟩
      case round =>
        clear HS HRL HB HN0
        obtain ⟨l, again, A, c, i, rfl, rfl, rfl, hi, hgi, HS, HP, HRL, HB⟩ := hrel
        by_cases hlt : i < l0.length
        · have hltz : (i : Int) < (l0.length : Int) := by omega
          obtain ⟨ad, A1, c1, A3, c3, hA, h0, h1, h2, h3, h4, l1, g1, l3, g3⟩ := at_T26 HR.out i (by omega) hltz
          have hx : rd_T26 l0 i = l0[i] := by simp [rd_T26, List.getD_eq_getElem?_getD, List.getElem?_eq_getElem hlt]
          generalize rd_T26 l0 i = y at *
          have HX := Aside0.mk hx
          have HM : Aside0 (y ∈ l0) := ⟨by rw [hx]; exact List.getElem_mem hlt⟩
          rw [Int.toNat_natCast] at h0 h1 h2 h3 h4
          subst hA
          have h0' := pw_cell_below HB.out h0
          have h1' := pw_cell_below HB.out h1
          have H0 := Aside0.mk h0
          have H1 := Aside0.mk h1
          have HG1 := Aside0.mk g1
          have hly : y.f1.length ≤ 9223372036854775807 := g1.2.1
          clear hx l3 g3 g1 h0 h1 h2 h3 h4
          have hll := HS.out.len
          have hml := putP_mem_len l y.f0 HS.out.sorted
          generalize hm0 : l.length = m0 at *
          have HM0 := Aside0.mk hm0
          clear hm0
          go_wp2_with fail
          refine (put_rowN A c m0 l y.f0 wr w.heap.size HB.out.size HM0.out HRL.out (by omega)).mono ?_
          rintro e w2 ⟨A2, c2, rfl, hb2, hR2⟩
          have HB2 := Aside0.mk (below_step HB.out hb2)
          have HRL2 := Aside0.mk (Kd.R_below HRL.out hb2)
          clear hR2 hb2 HB HRL h0' h1'
          have h1' := pw_cell_below HB2.out H1.out
          by_cases hin : y.f0 ∈ l
          · rw [hml.1.2 hin]
            have HIN := Aside0.mk hin
            clear hin hml
            go_wp2
            go_loopg [3, 4, 6] y.f1.length (fun gg s3 s4 s6 wr => ∃ (l : List Int) (again : Bool) (A : Option Addr) (c : Nat) (k : Nat), s3 = .slice A l.length c ∧ s4 = .bool again ∧ s6 = .int .i64 k ∧ k ≤ y.f1.length ∧ y.f1.length - k ≤ gg ∧ Aside0 (y.f0 ∈ l) ∧ Aside0 (Sofar l0 l) ∧ Aside0 (Pass again l n0 (fun l => (∀ j, j < i → ∀ h : j < l0.length, doneRule l l0[j]) ∧ ∀ j, j < k → ∀ h : j < y.f1.length, 0 ≤ y.f1[j] → y.f1[j] ∈ l)) ∧ Aside0 (Kd.R (Kd.int .i64) 3 wr w.heap.size (fun _ => True) (.slice A l.length c) l) ∧ Aside0 (Below w.heap.size w wr))
            case atStart =>
              refine ⟨l, again, A, c, 0, by rw [HM0.out], rfl, rfl, Nat.zero_le _, by omega, HIN, HS, ⟨?_⟩, ⟨by rw [HM0.out]; exact HRL2.out⟩, HB2⟩
              obtain ⟨p1, p2, p3⟩ := HP.out
              exact ⟨p1, p2, fun h => ⟨(p3 h).1, (p3 h).2, fun j hj => absurd hj (Nat.not_lt_zero _)⟩⟩
            case round =>
              clear HIN HS HP HRL2 HB2 HM0 h1' hll
              obtain ⟨l, again, A, c, k, rfl, rfl, rfl, hk, hgk, HIN, HS, HP, HRL, HB⟩ := hrel
              have h1' := pw_cell_below HB.out H1.out
              have hll := HS.out.len
              generalize hm0 : l.length = m1 at *
              have HM0 := Aside0.mk hm0
              clear hm0
              by_cases hlk : k < y.f1.length
              · have hlkz : (k : Int) < (y.f1.length : Int) := by omega
                obtain ⟨ad1, hA1, hc1⟩ := Kd.at_int (Kd.C_below HG1.out HB.out) k (by omega) hlkz
                rw [Int.toNat_natCast, rd_getElem y.f1 k hlk] at hc1
                subst hA1
                have HZ : Aside0 (y.f1[k] ∈ y.f1 ∧ y.f1[k] < 20) := ⟨List.getElem_mem hlk, by
                  have h5 := List.all_eq_true.1 HU.out y HM.out
                  rw [Bool.and_eq_true] at h5
                  exact of_decide_eq_true (List.all_eq_true.1 h5.2 _ (List.getElem_mem hlk))⟩
                generalize hz : y.f1[k] = z at *
                have HZ2 := Aside0.mk hz
                clear hz
                by_cases hz0 : z < 0
                · have hzb : decide (z < 0) = true := decide_eq_true hz0
                  go_wp2
                  go_roundg (y.f1.length - (k + 1))
                  case measure => omega
                  case rel =>
                    refine ⟨l, again, A, c, k + 1, by rw [HM0.out], rfl, by go_num, by omega, by omega, HIN, HS, ⟨?_⟩, ⟨by rw [HM0.out]; exact HRL.out⟩, HB⟩
                    obtain ⟨p1, p2, p3⟩ := HP.out
                    refine ⟨p1, p2, fun h => ⟨(p3 h).1, (p3 h).2.1, fun j hj hlj h0 => ?_⟩⟩
                    by_cases e : j = k
                    · subst e; rw [HZ2.out] at h0; omega
                    · exact (p3 h).2.2 j (by omega) hlj h0
                · have hzb : decide (z < 0) = false := decide_eq_false hz0
                  have HS2 := Aside0.mk (HS.out.put y HM.out HIN.out z HZ.out.1 ⟨by omega, HZ.out.2⟩)
                  have hml := putP_mem_len l z HS.out.sorted
                  rw [HM0.out] at hml
                  have hml2 := HS2.out.len
                  clear hz0
                  go_wp2_with fail
                  refine (put_rowN A c m1 l z wr w.heap.size HB.out.size HM0.out HRL.out (by omega)).mono ?_
                  rintro e w2 ⟨A2, c2, rfl, hb2, hR2⟩
                  have HB2 := Aside0.mk (below_step HB.out hb2)
                  have HR2 := Aside0.mk hR2
                  have HIN2 := Aside0.mk ((mem_putP l z y.f0).2 (.inr HIN.out))
                  have HML := Aside0.mk hml
                  clear hR2 hb2 HB HRL h1' hc1 hml
                  generalize hq : (putP l z).length = q at *
                  have HQ := Aside0.mk hq
                  clear hq
                  have hqle : m1 ≤ q := HML.out.2.1
                  cases again with
                  | true =>
                    go_wp2
                    go_roundg (y.f1.length - (k + 1))
                    case measure => omega
                    case rel =>
                      refine ⟨putP l z, true, A2, c2, k + 1, by rw [HQ.out], rfl, by go_num, by omega, by omega, HIN2, HS2, ⟨?_⟩, ⟨by rw [HQ.out]; exact HR2.out⟩, HB2⟩
                      obtain ⟨p1, p2, p3⟩ := HP.out
                      have := p2 rfl
                      have := HM0.out
                      have := HQ.out
                      exact ⟨by omega, fun _ => by omega, fun h => by cases h⟩
                  | false =>
                    by_cases hgr : m1 < q
                    · have hgz : decide ((m1 : Int) < (q : Int)) = true := decide_eq_true (by omega)
                      go_wp2
                      go_roundg (y.f1.length - (k + 1))
                      case measure => omega
                      case rel =>
                        refine ⟨putP l z, true, A2, c2, k + 1, by rw [HQ.out], rfl, by go_num, by omega, by omega, HIN2, HS2, ⟨?_⟩, ⟨by rw [HQ.out]; exact HR2.out⟩, HB2⟩
                        obtain ⟨p1, p2, p3⟩ := HP.out
                        have := HM0.out
                        have := HQ.out
                        exact ⟨by omega, fun _ => by omega, fun h => by cases h⟩
                    · have hgz : decide ((m1 : Int) < (q : Int)) = false := decide_eq_false (by omega)
                      have hqe : q = m1 := by omega
                      have HE : Aside0 (z ∈ l ∧ putP l z = l) := ⟨HML.out.1.1 hqe, HML.out.2.2 (HML.out.1.1 hqe)⟩
                      go_wp2
                      go_roundg (y.f1.length - (k + 1))
                      case measure => omega
                      case rel =>
                        refine ⟨putP l z, false, A2, c2, k + 1, by first | (rw [HQ.out]; done) | rw [HQ.out, hqe], rfl, by go_num, by omega, by omega, HIN2, HS2, ⟨?_⟩, ⟨by rw [HQ.out]; exact HR2.out⟩, HB2⟩
                        obtain ⟨p1, p2, p3⟩ := HP.out
                        rw [HE.out.2]
                        refine ⟨p1, (fun h => by cases h), fun h => ⟨(p3 h).1, (p3 h).2.1, fun j hj hlj h0 => ?_⟩⟩
                        by_cases e : j = k
                        · subst e; rw [HZ2.out]; exact HE.out.1
                        · exact (p3 h).2.2 j (by omega) hlj h0
              · have hlkz : ¬ (k : Int) < (y.f1.length : Int) := by omega
                have hke : k = y.f1.length := by omega
                have HKE := Aside0.mk hke
                clear hke
                go_wp2
                go_roundg (l0.length - (i + 1))
                case measure => omega
                case rel =>
                  refine ⟨l, again, A, c, i + 1, by rw [HM0.out], rfl, by go_num, by omega, by omega, HS, ⟨?_⟩, ⟨by rw [HM0.out]; exact HRL.out⟩, HB⟩
                  obtain ⟨p1, p2, p3⟩ := HP.out
                  refine ⟨p1, p2, fun h => ⟨(p3 h).1, fun j hj hlj => ?_⟩⟩
                  by_cases e : j = i
                  · subst e
                    rw [← HX.out]
                    intro _ v hv h0
                    obtain ⟨t, ht, rfl⟩ := List.mem_iff_getElem.1 hv
                    exact (p3 h).2.2 t (by rw [HKE.out]; exact ht) ht h0
                  · exact (p3 h).2.1 j (by omega) hlj
          · have hne : (putP l y.f0).length ≠ m0 := fun h => hin (hml.1.1 h)
            generalize (putP l y.f0).length = q at *
            have hqz : ((q : Int) == (m0 : Int)) = false := beq_eq_false_iff_ne.2 (by omega)
            have HIN := Aside0.mk hin
            clear hin hml hne
            go_wp2
            go_roundg (l0.length - (i + 1))
            case measure => omega
            case rel =>
              refine ⟨l, again, A, c, i + 1, by rw [HM0.out], rfl, by go_num, by omega, by omega, HS, ⟨?_⟩, ⟨by rw [HM0.out]; exact HRL2.out⟩, HB2⟩
              obtain ⟨p1, p2, p3⟩ := HP.out
              refine ⟨p1, p2, fun h => ⟨(p3 h).1, fun j hj hlj => ?_⟩⟩
              by_cases e : j = i
              · subst e
                rw [← HX.out]
                exact fun h => absurd h HIN.out
              · exact (p3 h).2 j (by omega) hlj
        · have hltz : ¬ (i : Int) < (l0.length : Int) := by omega
          have hie : i = l0.length := by omega
          have HIE := Aside0.mk hie
          have hll := HS.out.len
          obtain ⟨p1, p2, p3⟩ := HP.out
          clear hie HP
          have HP3 := Aside0.mk p3
          have HP2 := Aside0.mk p2
          have HP1 := Aside0.mk p1
          clear p1 p2 p3
          generalize hm0 : l.length = m0 at *
          have HM0 := Aside0.mk hm0
          clear hm0
          go_wp2
          go_roundg (G - 1)
          case measure => omega
          case rel =>
            refine ⟨l, again, A, c, by rw [HM0.out], rfl, ⟨?_⟩, HS, ⟨fun h r hr => ?_⟩, ⟨by rw [HM0.out]; exact HRL.out⟩, HB⟩
            · cases again with
              | false => have := (HP3.out rfl).1; have := HM0.out; simp; omega
              | true => have := HP2.out rfl; have := HM0.out; simp; omega
            · obtain ⟨j, hj, rfl⟩ := List.mem_iff_getElem.1 hr
              exact (HP3.out h).2 j (by rw [HIE.out]; exact hj) hj
theorem interlocutorref4_Reached.calls (A0 : Option Addr) (c0 : Nat) (l0 : List Rule') (r : List Int) (w : World) (hr0 : Kd.C k26 w A0 l0.length l0) (hc0 : l0.length ≤ c0) (h : interlocutorref4_Reached.f l0 = some r) :
    Calls Try.prog 25 #[.slice A0 l0.length c0] w fun e w' => ∃ v0_ : Value, e = .returned (v0_) ∧ Kd.R (Kd.int .i64) 3 w' w.heap.size (fun _ => True) v0_ r ∧ Below w.heap.size w w' := by
  unfold interlocutorref4_Reached.f at h
  split at h
  case isFalse => cases h
  case isTrue hu =>
  obtain rfl := Option.some.inj h
  exact refReached_walk A0 c0 l0 w hr0 hc0 hu
end Go.Proofs.Ytjomlfdkmdgclaa.P
end
section
namespace Go.Proofs.Ytjomlfdkmdgclaa.P
open Go.RowKit Go.Proofs.YtjomlfdkmdgclaaW.PrintWords Go.Proofs.YtjomlfdkmdgclaaW.PrintLast Go.Proofs.YtjomlfdkmdgclaaW.PrintMore
attribute [local go_sem] max2_int min2_int max_two min_two max_three min_three max_four min_four   
set_option linter.unusedVariables false
set_option linter.unusedSimpArgs false
theorem refRows_sorted (l : List Rule') (s : Nat) : (refRows l s).Pairwise (· < ·) := by
  have : ∀ (l : List Rule') (rows : Nat → List Int), (∀ s, (rows s).Pairwise (· < ·)) → ∀ s, ((l.foldl rowStep rows) s).Pairwise (· < ·) := by
    intro l
    induction l with
    | nil => exact fun rows h s => h s
    | cons r l ih =>
      intro rows h s
      rw [List.foldl_cons]
      refine ih _ (fun s => ?_) s
      unfold rowStep
      split
      · exact putP_sorted _ _ (h s)
      · exact h s
  exact this l _ (fun _ => List.Pairwise.nil) s
theorem units_eq (l0 : List Rule') (hr : l0.all rightR = true) : refUnitsP l0 = unitsP l0 := by
  show (List.range 20).map (refRows l0) = (List.range 20).map (fun s => rowUpto (foundL l0) s 20)
  refine List.map_congr_left fun s hs => ?_
  have hs20 : s < 20 := List.mem_range.1 hs
  refine sorted_ext (refRows_sorted _ _) (rowUpto_sorted _ _) fun y => ?_
  rw [refRows_iff l0 hr s hs20, rowsNext_at l0 s hs20]
theorem rightR_sym (r : Rule') (h : rightR r = true) : (0 ≤ r.f0 ∧ r.f0 < 20) ∧ (1 ≤ r.f1.length ∧ r.f1.length ≤ 6) ∧ (∀ y ∈ r.f1, -61 ≤ y ∧ y < 20) ∧ (0 ≤ r.f3 ∧ r.f3 ≤ 100) := by
  unfold rightR rightP symbolB withinB at h
  simp only [Bool.and_eq_true, decide_eq_true_eq, List.all_eq_true] at h
  refine ⟨h.1, ⟨by omega, by omega⟩, fun y hy => ?_, h.2.2.2.1⟩
  have := h.2.2.1 y hy
  unfold itemB at this
  simp only [Bool.and_eq_true, decide_eq_true_eq] at this
  omega
theorem symRules_of (l0 : List Rule') (hr : l0.all rightR = true) : symRules l0 = true := by
  unfold symRules
  rw [List.all_eq_true]
  intro r h
  obtain ⟨h1, _, h3, _⟩ := rightR_sym r (List.all_eq_true.1 hr r h)
  rw [Bool.and_eq_true, decide_eq_true_eq, List.all_eq_true]
  exact ⟨h1, fun y hy => decide_eq_true (h3 y hy).2⟩
theorem unitsB_right (l0 : List Rule') (h1 : l0.length ≤ 1000000000000) (hr : l0.all rightR = true) : unitsB l0 = true := by
  unfold unitsB
  rw [Bool.and_eq_true, decide_eq_true_eq, List.all_eq_true]
  exact ⟨fun r h => decide_eq_true (rightR_sym r (List.all_eq_true.1 hr r h)).1, h1⟩
theorem sumLen_right : ∀ a : List Rule', a.all rightR = true → sumLen a ≤ 6 * a.length
  | [], _ => by simp [sumLen]
  | r :: a, h => by
    rw [List.all_cons, Bool.and_eq_true] at h
    have h1 := sumLen_right a h.2
    have h2 := (rightR_sym r h.1).2.1.2
    unfold sumLen at h1 ⊢
    rw [List.map_cons, List.sum_cons, List.length_cons]
    omega
theorem made_all {s : Int} {a : List Rule'} (h : ∀ r ∈ a, Made s r) : a.all rightR = true := List.all_eq_true.2 fun r hr => (h r hr).right
theorem rdU (l : List (List Int)) (j : Nat) (h : j < l.length) : rd_L2 l j = l[j] := by
  unfold rd_L2
  rw [Int.toNat_natCast, List.getD_eq_getElem?_getD, List.getElem?_eq_getElem h]
  rfl
end Go.Proofs.Ytjomlfdkmdgclaa.P
end
section
namespace Go.Proofs.Ytjomlfdkmdgclaa.P
open Go.RowKit Go.Proofs.YtjomlfdkmdgclaaW.PrintWords Go.Proofs.YtjomlfdkmdgclaaW.PrintLast Go.Proofs.YtjomlfdkmdgclaaW.PrintMore
attribute [local go_sem] max2_int min2_int max_two min_two max_three min_three max_four min_four   
set_option linter.unusedVariables false
set_option linter.unusedSimpArgs false
noncomputable def interlocutorref3_Ints.l0 : Nat → List Int → List Int → Int → Option (Bool)
  | 0, _, _, _ => none
  | k + 1, x0, x1, x5 => if x5 < (x0.length : Int) then (if 0 ≤ x5 then (if x5 < (x1.length : Int) then (if (rd x0 x5) = (rd x1 x5) then (interlocutorref3_Ints.l0 k x0 x1 (wrap64 (x5 + 1))) else (some false)) else (none)) else (none)) else (some true)
noncomputable def interlocutorref3_Ints.f (k : Nat) (l0 : List Int) (l1 : List Int) : Option (Bool) := if (l0.length : Int) = (l1.length : Int) then (interlocutorref3_Ints.l0 k l0 l1 0) else (some false)
theorem interlocutorref3_Ints.mono_l : ∀ k, (∀ y0 y1 y2, LeO (interlocutorref3_Ints.l0 k y0 y1 y2) (interlocutorref3_Ints.l0 (k + 1) y0 y1 y2))
  | 0 => fun _ _ _ r h => by simp [interlocutorref3_Ints.l0] at h
  | k + 1 => by
    have ih0 := interlocutorref3_Ints.mono_l k
    · intro y0 y1 y2
      unfold interlocutorref3_Ints.l0
      repeat' first
      | (with_reducible exact ih0 _ _ _)
      | (with_reducible exact LeO.refl _)
      | (with_reducible exact LeO.none _)
      | (with_reducible refine LeO.ite ?_ ?_)
      | (with_reducible refine LeO.bind ?_ (fun _ => ?_))
      | exact ih0 _ _ _
      | exact LeO.none _
      | refine LeO.ite ?_ ?_
      | refine LeO.bind ?_ (fun _ => ?_)
theorem interlocutorref3_Ints.mono : ∀ a0 a1 k, LeO (interlocutorref3_Ints.f k a0 a1) (interlocutorref3_Ints.f (k + 1) a0 a1) := by
  intro a0 a1 k
  have ih0 := interlocutorref3_Ints.mono_l k
  unfold interlocutorref3_Ints.f
  repeat' first
      | (with_reducible exact ih0 _ _ _)
      | (with_reducible exact LeO.refl _)
      | (with_reducible exact LeO.none _)
      | (with_reducible refine LeO.ite ?_ ?_)
      | (with_reducible refine LeO.bind ?_ (fun _ => ?_))
      | exact ih0 _ _ _
      | exact LeO.none _
      | refine LeO.ite ?_ ?_
      | refine LeO.bind ?_ (fun _ => ?_)
set_option maxHeartbeats 8000000 in
set_option maxRecDepth 100000 in
theorem interlocutorref3_Ints.calls (k : Nat) (A0 : Option Addr) (c0 : Nat) (l0 : List Int) (A1 : Option Addr) (c1 : Nat) (l1 : List Int) (r : Bool) (w : World) (hr0 : Kd.C (Kd.int .i64) w A0 l0.length l0) (hc0 : l0.length ≤ c0) (hr1 : Kd.C (Kd.int .i64) w A1 l1.length l1) (hc1 : l1.length ≤ c1) (h : interlocutorref3_Ints.f k l0 l1 = some r) :
    Calls Try.prog 23 #[.slice A0 l0.length c0, .slice A1 l1.length c1] w fun e w' => e = .returned (.bool r) ∧ Drawn0 w w' := by
  have HR0 := Aside0.mk hr0
  have HC0 := Aside0.mk hc0
  clear hr0 hc0
  have HR1 := Aside0.mk hr1
  have HC1 := Aside0.mk hc1
  clear hr1 hc1
  have H : (if (l0.length : Int) = (l1.length : Int) then (interlocutorref3_Ints.l0 k l0 l1 0) else (some false)) = some r := h
  clear h
  by_cases c3 : (l0.length : Int) = (l1.length : Int)
  · rw [if_pos c3] at H
    have c3b0 : ((l0.length : Int) == (l1.length : Int)) = true := beq_iff_eq.mpr c3
    have c3b1 : ((l0.length : Int) != (l1.length : Int)) = false := bne_eq_false_iff_eq.mpr c3
    have c3b2 : (l0.length == l1.length) = true := by first | simpa using c3 | (simp at c3 ⊢; omega)
    clear c3
    have H' := Aside0.mk H
    clear H
    go_enter Try.func23, Try.ntmps23
    go_wp2
    repeat (go_quiet (fail); try go_wp2)
    go_loopg [5] k (fun kq v5 w' => ∃ (x5_1 : Int), v5 = .int .i64 x5_1 ∧ Aside0 (interlocutorref3_Ints.l0 kq l0 l1 x5_1 = some r) ∧ Aside0 (kq ≤ k) ∧ Drawn0 w w')
    case atStart => exact ⟨(0), (by first | rfl | (simp; done) | (simp [*]; done)), H', ⟨Nat.le_refl _⟩, by repeat (first | exact Drawn0.refl _ | apply Drawn0.step)⟩
    case round =>
      clear H'
      try clear c1
      try clear c2
      try clear p2
      try clear c3
      try clear c3b0
      try clear c3b1
      try clear c3b2
      obtain ⟨x5_1, rfl, HA, HK1, ⟨m1, rfl⟩⟩ := hrel
      cases gk with
      | zero => exact absurd HA.out (by simp [interlocutorref3_Ints.l0])
      | succ k1 =>
        have H := HA.out
        clear HA
        simp only [interlocutorref3_Ints.l0] at H
        by_cases c4 : x5_1 < (l0.length : Int)
        · rw [if_pos c4] at H
          have c4b0 : decide (x5_1 < (l0.length : Int)) = true := decide_eq_true c4
          clear c4
          by_cases c5 : 0 ≤ x5_1
          · rw [if_pos c5] at H
            have c5b0 : decide (0 ≤ x5_1) = true := decide_eq_true c5
            clear c5
            by_cases c6 : x5_1 < (l1.length : Int)
            · rw [if_pos c6] at H
              have c6b0 : decide (x5_1 < (l1.length : Int)) = true := decide_eq_true c6
              clear c6
              by_cases c7 : (rd l0 x5_1) = (rd l1 x5_1)
              · rw [if_pos c7] at H
                have c7b0 : ((rd l0 x5_1) == (rd l1 x5_1)) = true := beq_iff_eq.mpr c7
                have c7b1 : ((rd l0 x5_1) != (rd l1 x5_1)) = false := bne_eq_false_iff_eq.mpr c7
                clear c7
                have H' := Aside0.mk H
                clear H
                have p215 : 0 ≤ (x5_1 : Int) := of_decide_eq_true (by first | (with_reducible assumption) | assumption)
                have q215 : x5_1 < (l0.length : Int) := of_decide_eq_true (by first | (with_reducible assumption) | assumption)
                obtain ⟨ad215, e215, hx215_0⟩ := Kd.at_int HR0.out x5_1 p215 q215
                cases e215
                replace p215 := eq_true p215
                replace q215 := eq_true q215
                have p216 : 0 ≤ (x5_1 : Int) := of_decide_eq_true (by first | (with_reducible assumption) | assumption)
                have q216 : x5_1 < (l1.length : Int) := of_decide_eq_true (by first | (with_reducible assumption) | assumption)
                obtain ⟨ad216, e216, hx216_0⟩ := Kd.at_int HR1.out x5_1 p216 q216
                cases e216
                replace p216 := eq_true p216
                replace q216 := eq_true q216
                go_wp2
                repeat (go_quiet (fail); try go_wp2)
                go_roundg k1
                case measure => have := HK1.out; omega
                case rel => exact ⟨(wrap64 (x5_1 + 1)), (by first | rfl | (simp; done) | (simp [*]; done)), H', ⟨by have := HK1.out; omega⟩, by repeat (first | exact Drawn0.refl _ | apply Drawn0.step)⟩
              · rw [if_neg c7] at H
                have c7b0 : ((rd l0 x5_1) == (rd l1 x5_1)) = false := beq_eq_false_iff_ne.mpr c7
                have c7b1 : ((rd l0 x5_1) != (rd l1 x5_1)) = true := bne_iff_ne.mpr c7
                obtain rfl := Option.some.inj H
                have p215 : 0 ≤ (x5_1 : Int) := of_decide_eq_true (by first | (with_reducible assumption) | assumption)
                have q215 : x5_1 < (l0.length : Int) := of_decide_eq_true (by first | (with_reducible assumption) | assumption)
                obtain ⟨ad215, e215, hx215_0⟩ := Kd.at_int HR0.out x5_1 p215 q215
                cases e215
                replace p215 := eq_true p215
                replace q215 := eq_true q215
                have p216 : 0 ≤ (x5_1 : Int) := of_decide_eq_true (by first | (with_reducible assumption) | assumption)
                have q216 : x5_1 < (l1.length : Int) := of_decide_eq_true (by first | (with_reducible assumption) | assumption)
                obtain ⟨ad216, e216, hx216_0⟩ := Kd.at_int HR1.out x5_1 p216 q216
                cases e216
                replace p216 := eq_true p216
                replace q216 := eq_true q216
                go_wp2
                repeat (go_quiet (fail); try go_wp2)
                go_ret
                exact ⟨by first | rfl | (simp; done) | (simp [*]; done), by repeat (first | exact Drawn0.refl _ | apply Drawn0.step)⟩
            · rw [if_neg c6] at H
              exact absurd H (by simp)
          · rw [if_neg c5] at H
            exact absurd H (by simp)
        · rw [if_neg c4] at H
          have c4b0 : decide (x5_1 < (l0.length : Int)) = false := decide_eq_false c4
          clear c4
          obtain rfl := Option.some.inj H
          go_wp2
          repeat (go_quiet (fail); try go_wp2)
          go_ret
          exact ⟨by first | rfl | (simp; done) | (simp [*]; done), by repeat (first | exact Drawn0.refl _ | apply Drawn0.step)⟩
  · rw [if_neg c3] at H
    have c3b0 : ((l0.length : Int) == (l1.length : Int)) = false := beq_eq_false_iff_ne.mpr c3
    have c3b1 : ((l0.length : Int) != (l1.length : Int)) = true := bne_iff_ne.mpr c3
    have c3b2 : (l0.length == l1.length) = false := by first | simpa using c3 | (simp at c3 ⊢; omega)
    obtain rfl := Option.some.inj H
    go_enter Try.func23, Try.ntmps23
    go_wp2
    repeat (go_quiet (fail); try go_wp2)
    go_ret
    exact ⟨by first | rfl | (simp; done) | (simp [*]; done), by repeat (first | exact Drawn0.refl _ | apply Drawn0.step)⟩
end Go.Proofs.Ytjomlfdkmdgclaa.P
end
section
namespace Go.Proofs.Ytjomlfdkmdgclaa.P
open Go.RowKit Go.Proofs.YtjomlfdkmdgclaaW.PrintWords Go.Proofs.YtjomlfdkmdgclaaW.PrintLast Go.Proofs.YtjomlfdkmdgclaaW.PrintMore
attribute [local go_sem] max2_int min2_int max_two min_two max_three min_three max_four min_four   
set_option linter.unusedVariables false
set_option linter.unusedSimpArgs false
def Wr (W : World) (base g : Nat) (A : Option Addr) (n : Nat) : Prop :=
  ∀ k, k < n → ∃ b, A = some ⟨b, 0, none⟩ ∧ base ≤ b ∧ b ≠ g ∧ (∃ x, W.cell? ⟨b, k, none⟩ = some x) ∧ W.frozen? ⟨b, k, none⟩ = false
theorem addr_at (b k : Nat) : (⟨b, 0, none⟩ : Addr).add k = ⟨b, k, none⟩ := by
  unfold Addr.add
  split <;> simp_all
theorem Wr.set {W : World} {base g : Nat} {A : Option Addr} {n : Nat} (h : Wr W base g A n) (p : Addr) (u x0 : Value) (hp : W.cell? p = some x0) : Wr (W.setCell p u) base g A n := by
  intro k hk
  obtain ⟨b, h1, h2, h3, ⟨x, h4⟩, h5⟩ := h k hk
  obtain ⟨v', h6⟩ := cell?_setCell_some (w := W) (p := p) (x := u) (q := ⟨b, k, none⟩) (v := x) h4
  exact ⟨b, h1, h2, h3, ⟨v', h6⟩, (World.frozen?_setCell _ _ _ _).trans h5⟩
theorem Wr.drewN {W : World} {base g : Nat} {A : Option Addr} {n : Nat} (h : Wr W base g A n) (m : Nat) : Wr (W.drewN m) base g A n := h
theorem wr_row {W : World} {base base' g : Nat} {ok : Nat → Prop} {A : Option Addr} {n c : Nat} {xs : List Int} (h : Kd.R (Kd.int .i64) 3 W base' ok (.slice A n c) xs) (hb : base ≤ base') {cells : Array Value} {t : TypeId} (hg : W.heap[g]? = some (.cells cells t (0, 0)) → t ≠ 3) (hgo : W.heap[g]? = some (.cells cells t (0, 0))) : n = xs.length ∧ Wr W base g A n := by
  obtain ⟨hn, hc, hC⟩ := Kd.R_reads' h
  refine ⟨hn, fun k hk => ?_⟩
  obtain ⟨b, cap, he, h1, h2, cs, h3⟩ := Kd.R_form h (by omega)
  injection he with he1 he2 he3
  subst he1
  obtain ⟨ad, hA, hcell⟩ := Kd.at_int hC k (by omega) (by omega)
  obtain rfl := Option.some.inj hA
  rw [Int.toNat_natCast] at hcell
  refine ⟨b, rfl, by omega, fun e => ?_, ⟨_, by rw [← hcell, addr_at]⟩, blk_frozen h3 k⟩
  rw [e] at h3
  have h4 := Option.some.inj (h3.symm.trans hgo)
  injection h4 with _ h5
  exact hg hgo h5.symm
structure UW (W : World) (base g : Nat) (vals : Array Value) : Prop where
  blk : W.heap[g]? = some (.cells vals 22 (0, 0))
  rows : ∀ j, j < 20 → ∃ A n c, vals[j]? = some (.slice A n c) ∧ n ≤ 20 ∧ Wr W base g A n
theorem UW.set {W : World} {base g : Nat} {vals : Array Value} (h : UW W base g vals) (p : Addr) (u x0 : Value) (hp : W.cell? p = some x0) (hne : p.block ≠ g) : UW (W.setCell p u) base g vals :=
  ⟨(Below.heap_setCell W p u g (fun e => hne e.symm)).trans h.blk, fun j hj => by obtain ⟨A, n, c, h1, h2, h3⟩ := h.rows j hj; exact ⟨A, n, c, h1, h2, h3.set p u x0 hp⟩⟩
theorem UW.of {W : World} {base : Nat} {v : Value} {us : List (List Int)} (h : Kd.S (Kd.slice 3 (Kd.int .i64)) 22 W base (fun _ => True) v us) (hl : us.length = 20) (hr : ∀ r ∈ us, r.length ≤ 20) :
    ∃ g cap vals, v = .slice (some ⟨g, 0, none⟩) 20 cap ∧ base ≤ g ∧ UW W base g vals := by
  obtain ⟨g, cap, rfl, h1, h2, vals, h3⟩ := Kd.S_form h (by omega)
  rw [hl] at h ⊢
  refine ⟨g, cap, vals, rfl, h1, h3, fun j hj => ?_⟩
  obtain ⟨cs, hcl, hM, hcc⟩ := Kd.S_get h [] (j : Int) (by omega) (by omega)
  obtain ⟨u, rfl, hR⟩ := hM
  obtain ⟨A, c, rfl⟩ := Kd.R_slice hR
  have h5 := hcc 0 _ rfl
  rw [Int.toNat_natCast] at h5 hR
  have hlen : (us.getD j []).length ≤ 20 := by
    rw [List.getD_eq_getElem?_getD]
    cases he : us[j]? with
    | none => simp
    | some r => exact hr r (List.mem_of_getElem? he)
  refine ⟨A, _, c, ?_, hlen, (wr_row hR (Nat.le_refl _) (fun _ => by decide) h3).2⟩
  have h6 := (blk_cell h3 j).symm
  rw [h6, ← h5, addr_at]
  simp [Kd.slice]
noncomputable def interlocutorlaw4_GramOwn.f (_ : Nat) (l0 : List Raw') (_ _ : Int) : Option Bool := @ite _ (∀ x ∈ l0, okRaw x) (Classical.propDecidable _) (some true) none
theorem ints_loop' (l : List Int) (hl : l.length ≤ 1000000) : ∀ (d j : Nat), j + d = l.length → ∀ k, d < k → interlocutorref3_Ints.l0 k l l j = some true := by
  intro d
  induction d with
  | zero =>
    intro j hj k hk
    obtain ⟨k, rfl⟩ : ∃ i, k = i + 1 := ⟨k - 1, by omega⟩
    simp only [interlocutorref3_Ints.l0]
    rw [if_neg (by omega)]
  | succ d ih =>
    intro j hj k hk
    obtain ⟨k, rfl⟩ : ∃ i, k = i + 1 := ⟨k - 1, by omega⟩
    have hw : wrap64 ((j : Int) + 1) = ((j + 1 : Nat) : Int) := by rw [wrap_in (by omega)]; rfl
    simp only [interlocutorref3_Ints.l0]
    rw [if_pos (by omega), if_pos (by omega), hw]
    simp only [if_true]
    rw [if_pos (by omega)]
    exact ih (j + 1) (by omega) k (by omega)
theorem ints_same' (l : List Int) (hl : l.length ≤ 1000000) (k : Nat) (hk : l.length < k) : interlocutorref3_Ints.f k l l = some true := by
  unfold interlocutorref3_Ints.f
  rw [if_pos rfl]
  exact ints_loop' l hl l.length 0 (by omega) k hk
set_option maxHeartbeats 4000000 in
set_option maxRecDepth 100000 in
theorem ownLaw_walk (A0 : Option Addr) (c0 : Nat) (l0 : List Raw') (a1 a2 : Int) (w : World) (hr0 : Kd.C k31 w A0 l0.length l0) (hc0 : l0.length ≤ c0) (hok : ∀ x ∈ l0, okRaw x) :
    Calls Try.prog 12 #[.slice A0 l0.length c0, .int .i64 a1, .int .i64 a2] w fun e w' => e = .returned (.bool true) ∧ Below w.heap.size w w' := by
  have hm : l0.length ≤ 9223372036854775807 := hr0.2.1
  have HF := Aside0.mk (few_some l0 hm (l0.length + 1) (by omega))
  have HR := Aside0.mk hr0
  have HC := Aside0.mk hc0
  have hs0 := rem_ge a1 20 (by omega)
  have hs1 := rem_lt a1 20 (by omega)
  have HW := Aside0.mk (within_rem a1 20 (by omega) (by omega))
  have HRS := fun h1 h2 => rules_some l0 (1 + a1 % 20) ⟨by omega, by omega⟩ h1 hok h2
  clear hr0 hc0 hok
  generalize a1 % 20 = m at *
  cases hf : (fewB l0 && decide (l0.length ≤ 80)) with
  | false =>
    rw [hf] at HF
    clear hf HRS
    go_enter Try.func12, Try.ntmps12
    go_wp2_with fail
    refine (interlocutorlaw4_known.calls true _ rfl).mono ?_
    rintro e w1 ⟨rfl, hb1⟩
    have HB1 := Aside0.mk hb1
    clear hb1
    go_wp2_with fail
    refine (interlocutorlaw4_Few.calls _ A0 c0 l0 false w1 (Kd.C_below HR.out HB1.out) HC.out HF.out).mono ?_
    rintro e w' ⟨rfl, ⟨nd, rfl⟩⟩
    go_wp2
    go_ret
    exact ⟨rfl, pw_below_drewN HB1.out _⟩
  | true =>
    rw [hf] at HF
    rw [Bool.and_eq_true, decide_eq_true_eq] at hf
    obtain ⟨res, hT, hres⟩ := HRS hf.2 hf.1
    have HRES := Aside0.mk (hres 300 (Nat.le_refl _))
    have hc := hT.check
    have hlen := ((checkP_iff res).1 hc).1
    have hall := made_all hT.made
    have hsum := sumLen_right res hall
    have HE1 := Aside0.mk (show gram_Reached.f res = some (reachL (nextP res) [0]) from if_pos (by omega))
    have HE2 := Aside0.mk (show interlocutorref4_Reached.f res = some (reachL (nextP res) [0]) from if_pos (symRules_of res hall))
    have HE3 := Aside0.mk (show gram_Units.f res = some (unitsP res) from if_pos (unitsB_right res (by omega) hall))
    have HE4 : Aside0 (interlocutorref4_Units.f res = some (unitsP res)) := ⟨by rw [← units_eq res hall]; exact if_pos (unitsB_right res (by omega) hall)⟩
    have hrl := reachL_length (nextP res) [0]
    have hul := unitsP_length res
    have HUR : Aside0 (∀ r ∈ unitsP res, r.length ≤ 20) := ⟨fun r hr => by
      obtain ⟨s, _, rfl⟩ := List.mem_map.1 (show r ∈ (List.range 20).map (fun s => rowUpto (foundL res) s 20) from hr)
      exact rowUpto_len _ _ _⟩
    clear hres HRS hf hT hc hall hsum
    generalize reachL (nextP res) [0] = rr at *
    generalize unitsP res = us at *
    have HUL := Aside0.mk hul
    clear hul
    go_enter Try.func12, Try.ntmps12
    go_wp2_with fail
    refine (interlocutorlaw4_known.calls true _ rfl).mono ?_
    rintro e w1 ⟨rfl, hb1⟩
    have HB1 := Aside0.mk hb1
    clear hb1
    go_wp2_with fail
    refine (interlocutorlaw4_Few.calls _ A0 c0 l0 true w1 (Kd.C_below HR.out HB1.out) HC.out HF.out).mono ?_
    rintro e w' ⟨rfl, ⟨nd, rfl⟩⟩
    go_wp2_with fail
    refine (interlocutorlaw4_within.calls _ _ _ _ HW.out).mono ?_
    rintro e w' ⟨rfl, ⟨nd2, rfl⟩⟩
    generalize hW2 : (w1.drewN nd).drewN nd2 = w2
    have HB2 : Aside0 (Below w.heap.size w w2) := ⟨by rw [← hW2]; exact pw_below_drewN (pw_below_drewN HB1.out _) _⟩
    clear hW2 HB1
    go_wp2_with fail
    refine (interlocutorlaw4_Rules.calls 300 A0 c0 l0 (1 + m) res w2 (Kd.C_below HR.out HB2.out) HC.out HRES.out).mono ?_
    rintro e w3 ⟨v3, rfl, hN, hb3⟩
    obtain ⟨A2, c2, rfl, hc2, hC2⟩ := Kd.N_reads hN
    have HB3 := Aside0.mk (below_step HB2.out hb3)
    have HC2 := Aside0.mk hc2
    have HR2 := Aside0.mk hC2
    clear hN hc2 hC2 hb3 HB2
    go_wp2_with fail
    refine (interlocutorlaw4_within.calls _ _ _ _ HW.out).mono ?_
    rintro e w' ⟨rfl, ⟨nd3, rfl⟩⟩
    go_wp2_with fail
    refine (interlocutorlaw4_Rules.calls 300 A0 c0 l0 (1 + m) res (w3.drewN nd3) (Kd.C_below HR.out (pw_below_drewN HB3.out _)) HC.out HRES.out).mono ?_
    rintro e w4 ⟨v4, rfl, hN, hb4⟩
    obtain ⟨A3, c3, rfl, hc3, hC3⟩ := Kd.N_reads hN
    have HB4 := Aside0.mk (below_step (pw_below_drewN HB3.out _) hb4)
    have HC3 := Aside0.mk hc3
    have HR3 := Aside0.mk hC3
    have HR2' := Aside0.mk (Kd.C_below (Kd.C_drewN HR2.out nd3) hb4)
    clear hN hc3 hC3 hb4 HB3 HR2 HR HC
    go_wp2_with fail
    refine (gram_Units.calls A2 c2 res us w4 HR2'.out HC2.out HE3.out).mono ?_
    rintro e w5 ⟨v5, rfl, hS5, hb5⟩
    obtain ⟨g, cap, vals, rfl, hg, hU5⟩ := UW.of hS5 HUL.out HUR.out
    have HB5 := Aside0.mk hb5
    have HU5 := Aside0.mk hU5
    have HG := Aside0.mk hg
    clear hS5 hb5 hU5 hg
    go_wp2_with fail
    refine (gram_Reached.calls A2 c2 res rr w5 (Kd.C_below HR2'.out HB5.out) HC2.out HE1.out).mono ?_
    rintro e w6 ⟨v6, rfl, hR6, hb6⟩
    obtain ⟨A6, c6, rfl⟩ := Kd.R_slice hR6
    have HU6 : Aside0 (UW w6 w4.heap.size g vals) := ⟨⟨blk_below HU5.out.blk hb6, fun j hj => by
      obtain ⟨A, n, c, h1, h2, h3⟩ := HU5.out.rows j hj
      refine ⟨A, n, c, h1, h2, fun k hk => ?_⟩
      obtain ⟨b, q1, q2, q3, ⟨x, q4⟩, q5⟩ := h3 k hk
      have hlt := World.block_lt_of_cell? w5 _ q4
      exact ⟨b, q1, q2, q3, ⟨x, (hb6.cell (p := ⟨b, k, none⟩) hlt).trans q4⟩, (hb6.frozen (p := ⟨b, k, none⟩) hlt).trans q5⟩⟩⟩
    have HWR : Aside0 (Wr w6 w4.heap.size g A6 rr.length) := ⟨(wr_row hR6 (Nat.le_trans (Nat.le_refl _) HB5.out.size) (fun _ => by decide) HU6.out.blk).2⟩
    have HB6 := Aside0.mk (HB5.out.trans (hb6.mono HB5.out.size))
    clear hR6 hb6 HB5 HU5
    go_wp2
    go_loopg [11] 20 (fun gg s11 wr => ∃ i : Nat, i ≤ 20 ∧ 20 - i ≤ gg ∧ s11 = .int .i64 i ∧ Aside0 (UW wr w4.heap.size g vals) ∧ Aside0 (Wr wr w4.heap.size g A6 rr.length) ∧ Aside0 (Below w4.heap.size w4 wr))
    case atStart => exact ⟨0, by omega, by omega, rfl, HU6, HWR, HB6⟩
    case round =>
      clear HU6 HWR HB6
      obtain ⟨i, hi, hgi, rfl, HU, HWR, HB6⟩ := hrel
      by_cases hi20 : i < 20
      · have hi20z : (i : Int) < 20 := by omega
        obtain ⟨A, n, c, hv, hn, hw0⟩ := HU.out.rows i hi20
        clear hw0
        have HV := Aside0.mk hv
        clear hv
        go_wp2
        go_loopg [12] n (fun gg s12 wr => ∃ k : Nat, k ≤ n ∧ n - k ≤ gg ∧ s12 = .int .i64 k ∧ Aside0 (UW wr w4.heap.size g vals) ∧ Aside0 (Wr wr w4.heap.size g A6 rr.length) ∧ Aside0 (Below w4.heap.size w4 wr))
        case atStart => exact ⟨0, by omega, by omega, rfl, HU, HWR, HB6⟩
        case round =>
          clear HU HWR HB6
          obtain ⟨k, hk, hgk, rfl, HU, HWR, HB6⟩ := hrel
          have hcu : wr.cell? ⟨g, i, none⟩ = some (.slice A n c) := (blk_cell HU.out.blk i).trans HV.out
          obtain ⟨A', n', c', hv', _, hw⟩ := HU.out.rows i hi20
          obtain ⟨rfl, rfl, rfl⟩ : A' = A ∧ n' = n ∧ c' = c := by
            have := Option.some.inj (hv'.symm.trans HV.out)
            injection this with e1 e2 e3
            exact ⟨e1, e2, e3⟩
          by_cases hkn : k < n'
          · obtain ⟨b, rfl, hb1, hb2, ⟨x, hx⟩, hfz⟩ := hw k hkn
            have hknz : (k : Int) < (n' : Int) := by omega
            have HX := Aside0.mk hx
            clear hv' hw
            go_wp2
            go_roundg (n' - (k + 1))
            case measure => omega
            case rel => exact ⟨k + 1, by omega, by omega, by go_num, ⟨HU.out.set _ _ _ HX.out hb2⟩, ⟨HWR.out.set _ _ _ HX.out⟩, ⟨HB6.out.setCell hb1 _⟩⟩
          · have hknz : ¬ (k : Int) < (n' : Int) := by omega
            clear hv' hw
            go_wp2
            go_roundg (20 - (i + 1))
            case measure => omega
            case rel => exact ⟨i + 1, by omega, by omega, by go_num, HU, HWR, HB6⟩
      · have hi20z : ¬ (i : Int) < 20 := by omega
        clear HU
        go_wp2
        go_loopg [13] rr.length (fun gg s13 wr => ∃ k : Nat, k ≤ rr.length ∧ rr.length - k ≤ gg ∧ s13 = .int .i64 k ∧ Aside0 (Wr wr w4.heap.size g A6 rr.length) ∧ Aside0 (Below w4.heap.size w4 wr))
        case atStart => exact ⟨0, by omega, by omega, rfl, HWR, HB6⟩
        case round =>
          clear HWR HB6
          obtain ⟨k, hk, hgk, rfl, HWR, HB6⟩ := hrel
          by_cases hkn : k < rr.length
          · obtain ⟨b, hA6, hb1, hb2, ⟨x, hx⟩, hfz⟩ := HWR.out k hkn
            subst hA6
            have hknz : (k : Int) < (rr.length : Int) := by omega
            have HX := Aside0.mk hx
            go_wp2
            go_roundg (rr.length - (k + 1))
            case measure => omega
            case rel => exact ⟨k + 1, by omega, by omega, by go_num, ⟨HWR.out.set _ _ _ HX.out⟩, ⟨HB6.out.setCell hb1 _⟩⟩
          · have hknz : ¬ (k : Int) < (rr.length : Int) := by omega
            clear HWR
            have HBw := Aside0.mk (below_step HB4.out HB6.out)
            have HRa := Aside0.mk (Kd.C_below HR2'.out HB6.out)
            have HRb := Aside0.mk (Kd.C_below HR3.out HB6.out)
            clear HB6 HR2' HR3 HB4
            go_wp2_with fail
            refine (gram_Units.calls A2 c2 res us wr HRa.out HC2.out HE3.out).mono ?_
            rintro e w7 ⟨v7, rfl, hS7, hb7⟩
            obtain ⟨A7, c7, rfl, hc7, hC7⟩ := Kd.S_reads hS7
            have HB7 := Aside0.mk (below_step HBw.out hb7)
            have HRa7 := Aside0.mk (Kd.C_below HRa.out hb7)
            have HRb7 := Aside0.mk (Kd.C_below HRb.out hb7)
            have HU7 := Aside0.mk hC7
            clear hS7 hb7 hc7 hC7 HBw HRa HRb
            go_wp2_with fail
            refine (interlocutorref4_Units.calls A3 c3 res us w7 HRb7.out HC3.out HE4.out).mono ?_
            rintro e w8 ⟨v8, rfl, hS8, hb8⟩
            obtain ⟨A8, c8, rfl, hc8, hC8⟩ := Kd.S_reads hS8
            have HB8 := Aside0.mk (below_step HB7.out hb8)
            have HRa8 := Aside0.mk (Kd.C_below HRa7.out hb8)
            have HRb8 := Aside0.mk (Kd.C_below HRb7.out hb8)
            have HU8 := Aside0.mk (Kd.C_below HU7.out hb8)
            have HX8 := Aside0.mk hC8
            clear hS8 hb8 hc8 hC8 HB7 HRa7 HRb7 HU7
            rw [HUL.out]
            go_wp2_with fail
            refine (gram_Reached.calls A2 c2 res rr w8 HRa8.out HC2.out HE1.out).mono ?_
            rintro e w9 ⟨v9, rfl, hR9, hb9⟩
            obtain ⟨A9, c9, rfl, hc9, hC9⟩ := Kd.R_reads hR9
            have HB9 := Aside0.mk (below_step HB8.out hb9)
            have HRb9 := Aside0.mk (Kd.C_below HRb8.out hb9)
            have HU9 := Aside0.mk (Kd.C_below HU8.out hb9)
            have HX9 := Aside0.mk (Kd.C_below HX8.out hb9)
            have HQ9 := Aside0.mk hC9
            have HQc9 := Aside0.mk hc9
            clear hR9 hb9 hc9 hC9 HB8 HRa8 HRb8 HU8 HX8
            go_wp2_with fail
            refine (interlocutorref4_Reached.calls A3 c3 res rr w9 HRb9.out HC3.out HE2.out).mono ?_
            rintro e w10 ⟨v10, rfl, hR10, hb10⟩
            obtain ⟨A10, c10, rfl, hc10, hC10⟩ := Kd.R_reads hR10
            have HB10 := Aside0.mk (below_step HB9.out hb10)
            have HU10 := Aside0.mk (Kd.C_below HU9.out hb10)
            have HX10 := Aside0.mk (Kd.C_below HX9.out hb10)
            have HQ10 := Aside0.mk (Kd.C_below HQ9.out hb10)
            have HP10 := Aside0.mk hC10
            have HPc10 := Aside0.mk hc10
            clear hR10 hb10 hc10 hC10 HB9 HRb9 HU9 HX9 HQ9
            go_wp2_with fail
            refine (interlocutorref3_Ints.calls 30 A9 c9 rr A10 c10 rr true w10 HQ10.out HQc9.out HP10.out HPc10.out (ints_same' rr (by omega) 30 (by omega))).mono ?_
            rintro e w' ⟨rfl, ⟨nd4, rfl⟩⟩
            generalize hW11 : w10.drewN nd4 = w11
            have HB11 : Aside0 (Below w.heap.size w w11) := ⟨by rw [← hW11]; exact pw_below_drewN HB10.out _⟩
            have HU11 : Aside0 (Kd.C (Kd.slice 3 (Kd.int .i64)) w11 A7 us.length us) := ⟨by rw [← hW11]; exact Kd.C_drewN HU10.out _⟩
            have HX11 : Aside0 (Kd.C (Kd.slice 3 (Kd.int .i64)) w11 A8 us.length us) := ⟨by rw [← hW11]; exact Kd.C_drewN HX10.out _⟩
            clear hW11 HB10 HU10 HX10 HQ10 HP10
            go_wp2
            go_loopg [16] 20 (fun gg s16 wr => ∃ i : Nat, i ≤ 20 ∧ 20 - i ≤ gg ∧ s16 = .int .i64 i ∧ Aside0 (Below w11.heap.size w11 wr))
            case atStart => exact ⟨0, by omega, by omega, rfl, ⟨Below.refl _ _⟩⟩
            case round =>
              obtain ⟨i, hi, hgi, rfl, HB12⟩ := hrel
              by_cases hi20 : i < 20
              · have hi20z : (i : Int) < 20 := by omega
                obtain ⟨ad1, B1, d1, hA1, p0, p1, p2⟩ := at_L2 (Kd.C_below HU11.out HB12.out) i (by omega) (by rw [HUL.out]; exact hi20z)
                obtain ⟨ad2, B2, d2, hA2, q0, q1, q2⟩ := at_L2 (Kd.C_below HX11.out HB12.out) i (by omega) (by rw [HUL.out]; exact hi20z)
                have hr : rd_L2 us i = us[i]'(by rw [HUL.out]; exact hi20) := rdU us i _
                have hrl : (rd_L2 us i).length ≤ 20 := by rw [hr]; exact HUR.out _ (List.getElem_mem _)
                clear hr
                generalize rd_L2 us i = row at *
                subst hA1 hA2
                rw [Int.toNat_natCast] at p0 q0
                have HI := Aside0.mk (fun nq => interlocutorref3_Ints.calls 30 B1 d1 row B2 d2 row true (wr.drewN nq) (Kd.C_drewN p2 nq) p1 (Kd.C_drewN q2 nq) q1 (ints_same' row (by omega) 30 (by omega)))
                clear p1 p2 q1 q2
                generalize row.length = rl at *
                go_wp2
                go_quiet ((go_at_call 23; exact Calls.quiet_of ((HI.out _).mono fun e w' h => ⟨h.1, h.2.out⟩)))
                go_wp2
                go_roundg (20 - (i + 1))
                case measure => omega
                case rel => exact ⟨i + 1, by omega, by omega, by go_num, ⟨pw_below_drewN HB12.out _⟩⟩
              · have hi20z : ¬ (i : Int) < 20 := by omega
                go_wp2
                go_ret
                exact ⟨rfl, below_step HB11.out HB12.out⟩
theorem interlocutorlaw4_GramOwn.calls (k : Nat) (A0 : Option Addr) (c0 : Nat) (l0 : List Raw') (a1 a2 : Int) (r : Bool) (w : World) (hr0 : Kd.C k31 w A0 l0.length l0) (hc0 : l0.length ≤ c0) (h : interlocutorlaw4_GramOwn.f k l0 a1 a2 = some r) :
    Calls Try.prog 12 #[.slice A0 l0.length c0, .int .i64 a1, .int .i64 a2] w fun e w' => e = .returned (.bool r) ∧ Below w.heap.size w w' := by
  unfold interlocutorlaw4_GramOwn.f at h
  split at h
  case isFalse => cases h
  case isTrue hok =>
    obtain rfl := Option.some.inj h
    exact ownLaw_walk A0 c0 l0 a1 a2 w hr0 hc0 hok
end Go.Proofs.Ytjomlfdkmdgclaa.P
end
section
namespace Go.Proofs.Ytjomlfdkmdgclaa.Pure
open Go.RowKit Go.Proofs.Ytjomlfdkmdgclaa.P
theorem GramOwn (l0 : List Raw') (a1 a2 : Int) (_ : l0.length ≤ 9223372036854775807) (hok : ∀ x ∈ l0, okRaw x) : ∃ k, interlocutorlaw4_GramOwn.f k l0 a1 a2 = some true := ⟨0, if_pos hok⟩
end Go.Proofs.Ytjomlfdkmdgclaa.Pure
end
