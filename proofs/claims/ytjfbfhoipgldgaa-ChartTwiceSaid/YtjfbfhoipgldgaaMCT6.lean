/- ChartTwice: a rule that is there twice counts twice; costs, actions do not count. Part 6: contracts of the functions that the law reaches, and words for them. -/
import Derived.Deep.Slices
import Derived.ChangeArms
import Derived.ChangeSame
import Derived.Test.YtjfbfhoipgldgaaMCT5
section
namespace Go.Proofs.Ytjfbfhoipgldgaa.P
open Go.RowKit Go.Proofs.YtjfbfhoipgldgaaW.PrintWords Go.Proofs.YtjfbfhoipgldgaaW.PrintLast Go.Proofs.YtjfbfhoipgldgaaW.PrintMore
attribute [local go_sem] max2_int min2_int max_two min_two max_three min_three max_four min_four   
set_option linter.unusedVariables false
set_option linter.unusedSimpArgs false
mutual
noncomputable def l7_ChartTwice.j0 : Nat → List (S49) → List Int → Int → Int → Bool → Option (Bool)
 | 0, _, _, _, _, _ => none
 | k + 1, x0, x1, x2, x3, x28 => if x28 = true then (some true) else ((some (([(⟨0, (([(-1)] : List Int)), (⟨8, (([0] : List Int))⟩ : S39), 0⟩ : S41)] : List (S41)) : List (S41))).bind fun y261 => ((some (([] : List (S41)) : List (S41))).bind fun y264 => (if y264.length + y261.length < 1954687338268 then ((some (y264 ++ y261 : List (S41))).bind fun y267 => ((l7_within.f x3 101).bind fun t276 => (if y267.length < 1954687338268 then ((l4_Rules.f k x0 3).bind fun t283 => ((some (([] : List (S41)) : List (S41))).bind fun y286 => (if y286.length + t283.length < 1954687338268 then (l7_ChartTwice.l0 k x1 x2 x3 y261 (y267 ++ [(⟨0, (([(-1)] : List Int)), (⟨0, (([0] : List Int))⟩ : S39), t276⟩ : S41)]) (([(⟨0, 1, 0, 0, 1⟩ : S31)] : List (S31))) t283 (y286 ++ t283) 0) else (none)))) else (none)))) else (none))))
noncomputable def l7_ChartTwice.l0 : Nat → List Int → Int → Int → List (S41) → List (S41) → List (S31) → List (S41) → List (S41) → Int → Option (Bool)
 | 0, _, _, _, _, _, _, _, _, _ => none
 | k + 1, x1, x2, x3, x9, x10, x11, x12, x13, x14 => if x14 < (x13.length : Int) then ((l7_within.f (wrap64 (x3 + x14)) 101).bind fun t292 => (if 0 ≤ x14 then (l7_ChartTwice.l0 k x1 x2 x3 x9 x10 x11 x12 (x13.set (x14 : Int).toNat (⟨(rd_T41 x13 x14).f0, (rd_T41 x13 x14).f1, (⟨(rd_T41 x13 x14).f2.f0, (rd_T41 x13 x14).f2.f1⟩ : S39), t292⟩ : S41)) (wrap64 (x14 + 1))) else (none))) else (l7_ChartTwice.l1 k x1 x2 x9 x10 x11 x12 x13 ([] : List (S31)) (mn (x1.length : Int) 5) 0)
noncomputable def l7_ChartTwice.l1 : Nat → List Int → Int → List (S41) → List (S41) → List (S31) → List (S41) → List (S41) → List (S31) → Int → Int → Option (Bool)
 | 0, _, _, _, _, _, _, _, _, _, _ => none
 | k + 1, x1, x2, x9, x10, x11, x12, x13, x15, x16, x17 => if x17 < x16 then ((some (([0, 1, 50] : List Int) : List Int)).bind fun y294 => (if 0 ≤ x17 then (if x17 < (x1.length : Int) then ((l7_within.f (rd x1 x17) 3).bind fun t298 => (if 0 ≤ t298 then (if t298 < (y294.length : Int) then (if x15.length < 3518437208883 then (l7_ChartTwice.l1 k x1 x2 x9 x10 x11 x12 x13 (x15 ++ [(⟨x17, wrap64 (x17 + 1), rd y294 t298, 0, 0⟩ : S31)]) x16 (wrap64 (x17 + 1))) else (none)) else (none)) else (none))) else (none)) else (none))) else ((l7_within.f x2 (wrap64 (x16 + 1))).bind fun t303 => ((chart_Count.f x9 x11 0 0 1 9).bind fun t304 => (if t304 = 1 then ((chart_Count.f x10 x11 0 0 1 9).bind fun t305 => (if t305 = 2 then ((chart_Count.f x12 x15 0 0 t303 1000).bind fun t306 => ((chart_Count.f x13 x15 0 0 t303 1000).bind fun t307 => (if t306 = t307 then ((chart_Spans.f x12 x15 x16).bind fun t308 => ((chart_Spans.f x13 x15 x16).bind fun t311 => (some ((t308.length : Int) == (t311.length : Int))))) else (some false)))) else (some false))) else (some false))))
end
noncomputable def l7_ChartTwice.f (k : Nat) (l0 : List (S49)) (l1 : List Int) (a2 : Int) (a3 : Int) : Option (Bool) := (l7_known.f).bind fun t253 => (if t253 = true then ((l4_Few.f k l0).bind fun t254 => (if t254 = true then (l7_ChartTwice.j0 k l0 l1 a2 a3 (decide ((l0.length : Int) > 8))) else (l7_ChartTwice.j0 k l0 l1 a2 a3 true))) else (some false))
theorem l7_ChartTwice.mono_l : ∀ k, (∀ y0 y1 y2 y3 y4, LeO (l7_ChartTwice.j0 k y0 y1 y2 y3 y4) (l7_ChartTwice.j0 (k + 1) y0 y1 y2 y3 y4)) ∧ (∀ y0 y1 y2 y3 y4 y5 y6 y7 y8, LeO (l7_ChartTwice.l0 k y0 y1 y2 y3 y4 y5 y6 y7 y8) (l7_ChartTwice.l0 (k + 1) y0 y1 y2 y3 y4 y5 y6 y7 y8)) ∧ (∀ y0 y1 y2 y3 y4 y5 y6 y7 y8 y9, LeO (l7_ChartTwice.l1 k y0 y1 y2 y3 y4 y5 y6 y7 y8 y9) (l7_ChartTwice.l1 (k + 1) y0 y1 y2 y3 y4 y5 y6 y7 y8 y9))
 | 0 => ⟨fun _ _ _ _ _ r h => by simp [l7_ChartTwice.j0] at h, fun _ _ _ _ _ _ _ _ _ r h => by simp [l7_ChartTwice.l0] at h, fun _ _ _ _ _ _ _ _ _ _ r h => by simp [l7_ChartTwice.l1] at h⟩
 | k + 1 => by
  obtain ⟨ih0, ih1, ih2⟩ := l7_ChartTwice.mono_l k
  refine ⟨?_, ?_, ?_⟩
  ·intro y0 y1 y2 y3 y4
   unfold l7_ChartTwice.j0
   repeat' first
   | (with_reducible exact ih0 _ _ _ _ _)
   | (with_reducible exact ih1 _ _ _ _ _ _ _ _ _)
   | (with_reducible exact ih2 _ _ _ _ _ _ _ _ _ _)
   | (with_reducible exact l4_Few.mono _ _)
   | (with_reducible exact l4_Rules.mono _ _ _)
   | (with_reducible exact LeO.refl _)
   | (with_reducible exact LeO.none _)
   | (with_reducible refine LeO.ite ?_ ?_)
   | (with_reducible refine LeO.bind ?_ (fun _ => ?_))
   | exact ih0 _ _ _ _ _
   | exact ih1 _ _ _ _ _ _ _ _ _
   | exact ih2 _ _ _ _ _ _ _ _ _ _
   | exact l4_Few.mono _ _
   | exact l4_Rules.mono _ _ _
   | exact LeO.none _
   | refine LeO.ite ?_ ?_
   | refine LeO.bind ?_ (fun _ => ?_)
  ·intro y0 y1 y2 y3 y4 y5 y6 y7 y8
   unfold l7_ChartTwice.l0
   repeat' first
   | (with_reducible exact ih0 _ _ _ _ _)
   | (with_reducible exact ih1 _ _ _ _ _ _ _ _ _)
   | (with_reducible exact ih2 _ _ _ _ _ _ _ _ _ _)
   | (with_reducible exact l4_Few.mono _ _)
   | (with_reducible exact l4_Rules.mono _ _ _)
   | (with_reducible exact LeO.refl _)
   | (with_reducible exact LeO.none _)
   | (with_reducible refine LeO.ite ?_ ?_)
   | (with_reducible refine LeO.bind ?_ (fun _ => ?_))
   | exact ih0 _ _ _ _ _
   | exact ih1 _ _ _ _ _ _ _ _ _
   | exact ih2 _ _ _ _ _ _ _ _ _ _
   | exact l4_Few.mono _ _
   | exact l4_Rules.mono _ _ _
   | exact LeO.none _
   | refine LeO.ite ?_ ?_
   | refine LeO.bind ?_ (fun _ => ?_)
  ·intro y0 y1 y2 y3 y4 y5 y6 y7 y8 y9
   unfold l7_ChartTwice.l1
   repeat' first
   | (with_reducible exact ih0 _ _ _ _ _)
   | (with_reducible exact ih1 _ _ _ _ _ _ _ _ _)
   | (with_reducible exact ih2 _ _ _ _ _ _ _ _ _ _)
   | (with_reducible exact l4_Few.mono _ _)
   | (with_reducible exact l4_Rules.mono _ _ _)
   | (with_reducible exact LeO.refl _)
   | (with_reducible exact LeO.none _)
   | (with_reducible refine LeO.ite ?_ ?_)
   | (with_reducible refine LeO.bind ?_ (fun _ => ?_))
   | exact ih0 _ _ _ _ _
   | exact ih1 _ _ _ _ _ _ _ _ _
   | exact ih2 _ _ _ _ _ _ _ _ _ _
   | exact l4_Few.mono _ _
   | exact l4_Rules.mono _ _ _
   | exact LeO.none _
   | refine LeO.ite ?_ ?_
   | refine LeO.bind ?_ (fun _ => ?_)
theorem l7_ChartTwice.mono : ∀ a0 a1 a2 a3 k, LeO (l7_ChartTwice.f k a0 a1 a2 a3) (l7_ChartTwice.f (k + 1) a0 a1 a2 a3) := by
 intro a0 a1 a2 a3 k
 obtain ⟨ih0, ih1, ih2⟩ := l7_ChartTwice.mono_l k
 unfold l7_ChartTwice.f
 repeat' first
   | (with_reducible exact ih0 _ _ _ _ _)
   | (with_reducible exact ih1 _ _ _ _ _ _ _ _ _)
   | (with_reducible exact ih2 _ _ _ _ _ _ _ _ _ _)
   | (with_reducible exact l4_Few.mono _ _)
   | (with_reducible exact l4_Rules.mono _ _ _)
   | (with_reducible exact LeO.refl _)
   | (with_reducible exact LeO.none _)
   | (with_reducible refine LeO.ite ?_ ?_)
   | (with_reducible refine LeO.bind ?_ (fun _ => ?_))
   | exact ih0 _ _ _ _ _
   | exact ih1 _ _ _ _ _ _ _ _ _
   | exact ih2 _ _ _ _ _ _ _ _ _ _
   | exact l4_Few.mono _ _
   | exact l4_Rules.mono _ _ _
   | exact LeO.none _
   | refine LeO.ite ?_ ?_
   | refine LeO.bind ?_ (fun _ => ?_)
set_option maxHeartbeats 8000000 in
set_option maxRecDepth 100000 in
theorem l7_ChartTwice.calls (k : Nat) (A0 : Option Addr) (c0 : Nat) (l0 : List (S49)) (A1 : Option Addr) (c1 : Nat) (l1 : List Int) (a2 : Int) (a3 : Int) (r : Bool) (w : World) (hr0 : Kd.C k49 w A0 l0.length l0) (hc0 : l0.length ≤ c0) (hr1 : Kd.C (Kd.int .i64) w A1 l1.length l1) (hc1 : l1.length ≤ c1) (h : l7_ChartTwice.f k l0 l1 a2 a3 = some r) :
  Calls Try.prog 5 #[.slice A0 l0.length c0, .slice A1 l1.length c1, .int .i64 a2, .int .i64 a3] w fun e w' => e = .returned (.bool r) ∧ Below w.heap.size w w' := by
 have hu39 := Try.underlying39
 have hu41 := Try.underlying41
 have hu31 := Try.underlying31
 have HR0 := Aside0.mk hr0
 have HC0 := Aside0.mk hc0
 clear hr0 hc0
 have HR1 := Aside0.mk hr1
 have HC1 := Aside0.mk hc1
 clear hr1 hc1
 have HB := Aside0.mk (Below.refl w.heap.size w)
 have H : ((l7_known.f).bind fun t253 => (if t253 = true then ((l4_Few.f k l0).bind fun t254 => (if t254 = true then (l7_ChartTwice.j0 k l0 l1 a2 a3 (decide ((l0.length : Int) > 8))) else (l7_ChartTwice.j0 k l0 l1 a2 a3 true))) else (some false))) = some r := h
 clear h
 replace H := Option.bind_eq_some_iff.mp H
 obtain ⟨t253, A50, H⟩ := H
 replace H : (if t253 = true then ((l4_Few.f k l0).bind fun t254 => (if t254 = true then (l7_ChartTwice.j0 k l0 l1 a2 a3 (decide ((l0.length : Int) > 8))) else (l7_ChartTwice.j0 k l0 l1 a2 a3 true))) else (some false)) = some r := H
 have A5 := Aside0.mk A50
 clear A50
 by_cases c6 : t253 = true
 ·subst c6
  have H1 : ((l4_Few.f k l0).bind fun t254 => (if t254 = true then (l7_ChartTwice.j0 k l0 l1 a2 a3 (decide ((l0.length : Int) > 8))) else (l7_ChartTwice.j0 k l0 l1 a2 a3 true))) = some r := by rw [if_pos rfl] at H; exact H
  clear H
  have H := H1
  clear H1
  have HC7 := Aside0.mk H
  clear H
  go_enter Try.func5, Try.ntmps5
  go_upto_region 3 with (first | ((with_reducible refine gate_callee (f := 9) rfl ?_); refine goesL_ (some 19) rfl rfl Try.func9 (by kernel_rfl) rfl #[] rfl (by (try simp only [List.map_toArray, List.map_cons, List.map_nil]); first | done | rfl | (simp only [List.length_drop, List.length_take]; rfl)) ?_; (with_reducible refine (l7_known.calls  true _ A5.out).mono ?_); rintro e w8 ⟨rfl, hb⟩; refine ⟨_, rfl, ?_⟩; have n0_ := Aside0.mk (below_step (by repeat (first | (with_reducible first | exact HB.out | apply below_alloc | apply pw_below_drewN | apply below_drew1) | exact HB.out)) hb); clear HB; have HB := n0_; clear n0_; (try clear hb); (try clear hb2); (try clear hk); (try clear hi)))
  (try simp only [Act.put, List.setIfInBounds_toArray, List.set_cons_zero, List.set_cons_succ])
  go_cut [28] (fun v28 wc => ∃ (kq : Nat) (x28_6 : Bool), v28 = .bool x28_6 ∧ Aside0 (l7_ChartTwice.j0 kq l0 l1 a2 a3 x28_6 = some r) ∧ Aside0 (kq ≤ k) ∧ Aside0 (Below w.heap.size w wc))
  case first =>
   have H := HC7.out
   clear HC7
   replace H := Option.bind_eq_some_iff.mp H
   obtain ⟨t254, A90, H⟩ := H
   replace H : (if t254 = true then (l7_ChartTwice.j0 k l0 l1 a2 a3 (decide ((l0.length : Int) > 8))) else (l7_ChartTwice.j0 k l0 l1 a2 a3 true)) = some r := H
   have A9 := Aside0.mk A90
   clear A90
   by_cases c10 : t254 = true
   ·subst c10
    have H1 : (l7_ChartTwice.j0 k l0 l1 a2 a3 (decide ((l0.length : Int) > 8))) = some r := by rw [if_pos rfl] at H; exact H
    clear H
    have H := H1
    clear H1
    have H' := Aside0.mk H
    clear H
    go_wp2_with (first | ((with_reducible refine gate_callee (f := 10) rfl ?_); refine goesL_ (some 22) rfl rfl Try.func10 (by kernel_rfl) rfl #[.slice A0 l0.length c0] rfl (by (try simp only [List.map_toArray, List.map_cons, List.map_nil]); first | done | rfl | (simp only [List.length_drop, List.length_take]; rfl)) ?_; (with_reducible refine (l4_Few.calls k _ _ l0 true _ ?side1 ?side2 A9.out).mono ?_); (case side1 => repeat (first | exact (Kd.C_below HR0.out HB.out) | (with_reducible refine Kd.C_alloc ?_ _) | (with_reducible refine Kd.C_drewN ?_ _) | (with_reducible refine Kd.C_drew ?_))); (case side2 => exact HC0.out); rintro e w' ⟨rfl, ⟨nd, rfl⟩⟩; refine ⟨_, rfl, ?_⟩))
    go_meet
    case rel => exact ⟨_, (decide ((l0.length : Int) > 8)), (by first | rfl | (simp; done) | (simp [*]; done)), H', ⟨by first | omega | exact Nat.le_refl _⟩, ⟨by repeat (first | (with_reducible first | exact HB.out | apply below_alloc | apply pw_below_drewN | apply below_drew1) | exact HB.out)⟩⟩
   ·replace c10 := Bool.eq_false_iff.mpr c10
    subst c10
    have H1 : (l7_ChartTwice.j0 k l0 l1 a2 a3 true) = some r := by rw [if_neg (show ¬ (false = true) by decide)] at H; exact H
    clear H
    have H := H1
    clear H1
    have H' := Aside0.mk H
    clear H
    go_wp2_with (first | ((with_reducible refine gate_callee (f := 10) rfl ?_); refine goesL_ (some 22) rfl rfl Try.func10 (by kernel_rfl) rfl #[.slice A0 l0.length c0] rfl (by (try simp only [List.map_toArray, List.map_cons, List.map_nil]); first | done | rfl | (simp only [List.length_drop, List.length_take]; rfl)) ?_; (with_reducible refine (l4_Few.calls k _ _ l0 false _ ?side1 ?side2 A9.out).mono ?_); (case side1 => repeat (first | exact (Kd.C_below HR0.out HB.out) | (with_reducible refine Kd.C_alloc ?_ _) | (with_reducible refine Kd.C_drewN ?_ _) | (with_reducible refine Kd.C_drew ?_))); (case side2 => exact HC0.out); rintro e w' ⟨rfl, ⟨nd, rfl⟩⟩; refine ⟨_, rfl, ?_⟩))
    go_meet
    case rel => exact ⟨_, (true), (by first | rfl | (simp; done) | (simp [*]; done)), H', ⟨by first | omega | exact Nat.le_refl _⟩, ⟨by repeat (first | (with_reducible first | exact HB.out | apply below_alloc | apply pw_below_drewN | apply below_drew1) | exact HB.out)⟩⟩
  case rest =>
   clear HC7
   try clear c1
   try clear p2
   try clear c5
   try clear c6
   try clear c9
   try clear c10
   obtain ⟨kq, x28_6, rfl, HA, HJ6, HB⟩ := hcut
   cases kq with
   | zero => exact absurd HA.out (by simp [l7_ChartTwice.j0])
   | succ kj6 =>
    have H := HA.out
    clear HA
    simp only [l7_ChartTwice.j0] at H
    by_cases c11 : x28_6 = true
    ·subst c11
     have H1 : (some true) = some r := by rw [if_pos rfl] at H; exact H
     clear H
     have H := H1
     clear H1
     obtain rfl := Option.some.inj H
     go_wp2
     go_ret
     exact ⟨by first | rfl | (simp [errW_none, errW_some] <;> rfl) | (simp [*, errW_none, errW_some] <;> rfl), by repeat (first | (with_reducible first | exact HB.out | apply below_alloc | apply pw_below_drewN | apply below_drew1) | exact HB.out)⟩
    ·replace c11 := Bool.eq_false_iff.mpr c11
     subst c11
     have H1 : ((some (([(⟨0, (([(-1)] : List Int)), (⟨8, (([0] : List Int))⟩ : S39), 0⟩ : S41)] : List (S41)) : List (S41))).bind fun y261 => ((some (([] : List (S41)) : List (S41))).bind fun y264 => (if y264.length + y261.length < 1954687338268 then ((some (y264 ++ y261 : List (S41))).bind fun y267 => ((l7_within.f a3 101).bind fun t276 => (if y267.length < 1954687338268 then ((l4_Rules.f kj6 l0 3).bind fun t283 => ((some (([] : List (S41)) : List (S41))).bind fun y286 => (if y286.length + t283.length < 1954687338268 then (l7_ChartTwice.l0 kj6 l1 a2 a3 y261 (y267 ++ [(⟨0, (([(-1)] : List Int)), (⟨0, (([0] : List Int))⟩ : S39), t276⟩ : S41)]) (([(⟨0, 1, 0, 0, 1⟩ : S31)] : List (S31))) t283 (y286 ++ t283) 0) else (none)))) else (none)))) else (none)))) = some r := by rw [if_neg (show ¬ (false = true) by decide)] at H; exact H
     clear H
     have H := H1
     clear H1
     obtain ⟨y255, hy255⟩ : ∃ y_ : List Int, y_ = (([(-1)] : List Int)) := ⟨_, rfl⟩
     replace H : ((some (([(⟨0, y255, (⟨8, (([0] : List Int))⟩ : S39), 0⟩ : S41)] : List (S41)) : List (S41))).bind fun y261 => ((some (([] : List (S41)) : List (S41))).bind fun y264 => (if y264.length + y261.length < 1954687338268 then ((some (y264 ++ y261 : List (S41))).bind fun y267 => ((l7_within.f a3 101).bind fun t276 => (if y267.length < 1954687338268 then ((l4_Rules.f kj6 l0 3).bind fun t283 => ((some (([] : List (S41)) : List (S41))).bind fun y286 => (if y286.length + t283.length < 1954687338268 then (l7_ChartTwice.l0 kj6 l1 a2 a3 y261 (y267 ++ [(⟨0, (([(-1)] : List Int)), (⟨0, (([0] : List Int))⟩ : S39), t276⟩ : S41)]) (([(⟨0, 1, 0, 0, 1⟩ : S31)] : List (S31))) t283 (y286 ++ t283) 0) else (none)))) else (none)))) else (none)))) = some r := by first | (rw [hy255]; with_reducible exact H) | (have H2_ := (Option.bind_some _ _).symm.trans H; rw [hy255]; with_reducible exact H2_) | (have H2_ := (Option.bind_some _ _).symm.trans H; with_reducible exact H2_) | with_reducible exact H | (rw [hy255]; exact H) | exact H
     have Ny255 := Aside0.mk hy255
     clear hy255
     obtain ⟨y258, hy258⟩ : ∃ y_ : List Int, y_ = (([0] : List Int)) := ⟨_, rfl⟩
     replace H : ((some (([(⟨0, y255, (⟨8, y258⟩ : S39), 0⟩ : S41)] : List (S41)) : List (S41))).bind fun y261 => ((some (([] : List (S41)) : List (S41))).bind fun y264 => (if y264.length + y261.length < 1954687338268 then ((some (y264 ++ y261 : List (S41))).bind fun y267 => ((l7_within.f a3 101).bind fun t276 => (if y267.length < 1954687338268 then ((l4_Rules.f kj6 l0 3).bind fun t283 => ((some (([] : List (S41)) : List (S41))).bind fun y286 => (if y286.length + t283.length < 1954687338268 then (l7_ChartTwice.l0 kj6 l1 a2 a3 y261 (y267 ++ [(⟨0, (([(-1)] : List Int)), (⟨0, (([0] : List Int))⟩ : S39), t276⟩ : S41)]) (([(⟨0, 1, 0, 0, 1⟩ : S31)] : List (S31))) t283 (y286 ++ t283) 0) else (none)))) else (none)))) else (none)))) = some r := by first | (rw [hy258]; with_reducible exact H) | (have H2_ := (Option.bind_some _ _).symm.trans H; rw [hy258]; with_reducible exact H2_) | (have H2_ := (Option.bind_some _ _).symm.trans H; with_reducible exact H2_) | with_reducible exact H | (rw [hy258]; exact H) | exact H
     have Ny258 := Aside0.mk hy258
     clear hy258
     obtain ⟨y261, hy261⟩ : ∃ y_ : List (S41), y_ = (([(⟨0, y255, (⟨8, y258⟩ : S39), 0⟩ : S41)] : List (S41))) := ⟨_, rfl⟩
     replace H : ((some (([] : List (S41)) : List (S41))).bind fun y264 => (if y264.length + y261.length < 1954687338268 then ((some (y264 ++ y261 : List (S41))).bind fun y267 => ((l7_within.f a3 101).bind fun t276 => (if y267.length < 1954687338268 then ((l4_Rules.f kj6 l0 3).bind fun t283 => ((some (([] : List (S41)) : List (S41))).bind fun y286 => (if y286.length + t283.length < 1954687338268 then (l7_ChartTwice.l0 kj6 l1 a2 a3 y261 (y267 ++ [(⟨0, (([(-1)] : List Int)), (⟨0, (([0] : List Int))⟩ : S39), t276⟩ : S41)]) (([(⟨0, 1, 0, 0, 1⟩ : S31)] : List (S31))) t283 (y286 ++ t283) 0) else (none)))) else (none)))) else (none))) = some r := by first | (rw [hy261]; with_reducible exact H) | (have H2_ := (Option.bind_some _ _).symm.trans H; rw [hy261]; with_reducible exact H2_) | (have H2_ := (Option.bind_some _ _).symm.trans H; with_reducible exact H2_) | with_reducible exact H | (rw [hy261]; exact H) | exact H
     have Ny261 := Aside0.mk hy261
     clear hy261
     obtain ⟨y264, hy264⟩ : ∃ y_ : List (S41), y_ = (([] : List (S41))) := ⟨_, rfl⟩
     replace H : (if y264.length + y261.length < 1954687338268 then ((some (y264 ++ y261 : List (S41))).bind fun y267 => ((l7_within.f a3 101).bind fun t276 => (if y267.length < 1954687338268 then ((l4_Rules.f kj6 l0 3).bind fun t283 => ((some (([] : List (S41)) : List (S41))).bind fun y286 => (if y286.length + t283.length < 1954687338268 then (l7_ChartTwice.l0 kj6 l1 a2 a3 y261 (y267 ++ [(⟨0, (([(-1)] : List Int)), (⟨0, (([0] : List Int))⟩ : S39), t276⟩ : S41)]) (([(⟨0, 1, 0, 0, 1⟩ : S31)] : List (S31))) t283 (y286 ++ t283) 0) else (none)))) else (none)))) else (none)) = some r := by first | (rw [hy264]; with_reducible exact H) | (have H2_ := (Option.bind_some _ _).symm.trans H; rw [hy264]; with_reducible exact H2_) | (have H2_ := (Option.bind_some _ _).symm.trans H; with_reducible exact H2_) | with_reducible exact H | (rw [hy264]; exact H) | exact H
     have Ny264 := Aside0.mk hy264
     clear hy264
     by_cases c12 : y264.length + y261.length < 1954687338268
     ·rw [if_pos c12] at H
      have LMc12 := Aside0.mk c12
      clear c12
      obtain ⟨y267, hy267⟩ : ∃ y_ : List (S41), y_ = (y264 ++ y261) := ⟨_, rfl⟩
      replace H : ((l7_within.f a3 101).bind fun t276 => (if y267.length < 1954687338268 then ((l4_Rules.f kj6 l0 3).bind fun t283 => ((some (([] : List (S41)) : List (S41))).bind fun y286 => (if y286.length + t283.length < 1954687338268 then (l7_ChartTwice.l0 kj6 l1 a2 a3 y261 (y267 ++ [(⟨0, (([(-1)] : List Int)), (⟨0, (([0] : List Int))⟩ : S39), t276⟩ : S41)]) (([(⟨0, 1, 0, 0, 1⟩ : S31)] : List (S31))) t283 (y286 ++ t283) 0) else (none)))) else (none))) = some r := by first | (rw [hy267]; with_reducible exact H) | (have H2_ := (Option.bind_some _ _).symm.trans H; rw [hy267]; with_reducible exact H2_) | (have H2_ := (Option.bind_some _ _).symm.trans H; with_reducible exact H2_) | with_reducible exact H | (rw [hy267]; exact H) | exact H
      have Ny267 := Aside0.mk hy267
      clear hy267
      obtain ⟨y270, hy270⟩ : ∃ y_ : List Int, y_ = (([(-1)] : List Int)) := ⟨_, rfl⟩
      replace H : ((l7_within.f a3 101).bind fun t276 => (if y267.length < 1954687338268 then ((l4_Rules.f kj6 l0 3).bind fun t283 => ((some (([] : List (S41)) : List (S41))).bind fun y286 => (if y286.length + t283.length < 1954687338268 then (l7_ChartTwice.l0 kj6 l1 a2 a3 y261 (y267 ++ [(⟨0, y270, (⟨0, (([0] : List Int))⟩ : S39), t276⟩ : S41)]) (([(⟨0, 1, 0, 0, 1⟩ : S31)] : List (S31))) t283 (y286 ++ t283) 0) else (none)))) else (none))) = some r := by first | (rw [hy270]; with_reducible exact H) | (have H2_ := (Option.bind_some _ _).symm.trans H; rw [hy270]; with_reducible exact H2_) | (have H2_ := (Option.bind_some _ _).symm.trans H; with_reducible exact H2_) | with_reducible exact H | (rw [hy270]; exact H) | exact H
      have Ny270 := Aside0.mk hy270
      clear hy270
      obtain ⟨y273, hy273⟩ : ∃ y_ : List Int, y_ = (([0] : List Int)) := ⟨_, rfl⟩
      replace H : ((l7_within.f a3 101).bind fun t276 => (if y267.length < 1954687338268 then ((l4_Rules.f kj6 l0 3).bind fun t283 => ((some (([] : List (S41)) : List (S41))).bind fun y286 => (if y286.length + t283.length < 1954687338268 then (l7_ChartTwice.l0 kj6 l1 a2 a3 y261 (y267 ++ [(⟨0, y270, (⟨0, y273⟩ : S39), t276⟩ : S41)]) (([(⟨0, 1, 0, 0, 1⟩ : S31)] : List (S31))) t283 (y286 ++ t283) 0) else (none)))) else (none))) = some r := by first | (rw [hy273]; with_reducible exact H) | (have H2_ := (Option.bind_some _ _).symm.trans H; rw [hy273]; with_reducible exact H2_) | (have H2_ := (Option.bind_some _ _).symm.trans H; with_reducible exact H2_) | with_reducible exact H | (rw [hy273]; exact H) | exact H
      have Ny273 := Aside0.mk hy273
      clear hy273
      replace H := Option.bind_eq_some_iff.mp H
      obtain ⟨t276, A130, H⟩ := H
      replace H : (if y267.length < 1954687338268 then ((l4_Rules.f kj6 l0 3).bind fun t283 => ((some (([] : List (S41)) : List (S41))).bind fun y286 => (if y286.length + t283.length < 1954687338268 then (l7_ChartTwice.l0 kj6 l1 a2 a3 y261 (y267 ++ [(⟨0, y270, (⟨0, y273⟩ : S39), t276⟩ : S41)]) (([(⟨0, 1, 0, 0, 1⟩ : S31)] : List (S31))) t283 (y286 ++ t283) 0) else (none)))) else (none)) = some r := H
      have A13 := Aside0.mk A130
      clear A130
      by_cases c14 : y267.length < 1954687338268
      ·rw [if_pos c14] at H
       have LMc14 := Aside0.mk c14
       clear c14
       obtain ⟨y277, hy277⟩ : ∃ y_ : List (S41), y_ = (y267 ++ [(⟨0, y270, (⟨0, y273⟩ : S39), t276⟩ : S41)]) := ⟨_, rfl⟩
       replace H : ((l4_Rules.f kj6 l0 3).bind fun t283 => ((some (([] : List (S41)) : List (S41))).bind fun y286 => (if y286.length + t283.length < 1954687338268 then (l7_ChartTwice.l0 kj6 l1 a2 a3 y261 y277 (([(⟨0, 1, 0, 0, 1⟩ : S31)] : List (S31))) t283 (y286 ++ t283) 0) else (none)))) = some r := by first | (rw [hy277]; with_reducible exact H) | (have H2_ := (Option.bind_some _ _).symm.trans H; rw [hy277]; with_reducible exact H2_) | (have H2_ := (Option.bind_some _ _).symm.trans H; with_reducible exact H2_) | with_reducible exact H | (rw [hy277]; exact H) | exact H
       have Ny277 := Aside0.mk hy277
       clear hy277
       obtain ⟨y280, hy280⟩ : ∃ y_ : List (S31), y_ = (([(⟨0, 1, 0, 0, 1⟩ : S31)] : List (S31))) := ⟨_, rfl⟩
       replace H : ((l4_Rules.f kj6 l0 3).bind fun t283 => ((some (([] : List (S41)) : List (S41))).bind fun y286 => (if y286.length + t283.length < 1954687338268 then (l7_ChartTwice.l0 kj6 l1 a2 a3 y261 y277 y280 t283 (y286 ++ t283) 0) else (none)))) = some r := by first | (rw [hy280]; with_reducible exact H) | (have H2_ := (Option.bind_some _ _).symm.trans H; rw [hy280]; with_reducible exact H2_) | (have H2_ := (Option.bind_some _ _).symm.trans H; with_reducible exact H2_) | with_reducible exact H | (rw [hy280]; exact H) | exact H
       have Ny280 := Aside0.mk hy280
       clear hy280
       replace H := Option.bind_eq_some_iff.mp H
       obtain ⟨t283, A150, H⟩ := H
       replace H : ((some (([] : List (S41)) : List (S41))).bind fun y286 => (if y286.length + t283.length < 1954687338268 then (l7_ChartTwice.l0 kj6 l1 a2 a3 y261 y277 y280 t283 (y286 ++ t283) 0) else (none))) = some r := H
       have A15 := Aside0.mk A150
       clear A150
       obtain ⟨y286, hy286⟩ : ∃ y_ : List (S41), y_ = (([] : List (S41))) := ⟨_, rfl⟩
       replace H : (if y286.length + t283.length < 1954687338268 then (l7_ChartTwice.l0 kj6 l1 a2 a3 y261 y277 y280 t283 (y286 ++ t283) 0) else (none)) = some r := by first | (rw [hy286]; with_reducible exact H) | (have H2_ := (Option.bind_some _ _).symm.trans H; rw [hy286]; with_reducible exact H2_) | (have H2_ := (Option.bind_some _ _).symm.trans H; with_reducible exact H2_) | with_reducible exact H | (rw [hy286]; exact H) | exact H
       have Ny286 := Aside0.mk hy286
       clear hy286
       by_cases c16 : y286.length + t283.length < 1954687338268
       ·rw [if_pos c16] at H
        have LMc16 := Aside0.mk c16
        clear c16
        obtain ⟨y289, hy289⟩ : ∃ y_ : List (S41), y_ = (y286 ++ t283) := ⟨_, rfl⟩
        replace H : (l7_ChartTwice.l0 kj6 l1 a2 a3 y261 y277 y280 t283 y289 0) = some r := by first | (rw [hy289]; with_reducible exact H) | (have H2_ := (Option.bind_some _ _).symm.trans H; rw [hy289]; with_reducible exact H2_) | (have H2_ := (Option.bind_some _ _).symm.trans H; with_reducible exact H2_) | with_reducible exact H | (rw [hy289]; exact H) | exact H
        have Ny289 := Aside0.mk hy289
        clear hy289
        have H' := Aside0.mk H
        clear H
        go_wp2_with (first | ((with_reducible refine gate_dst (N := 29) rfl ?_); (try (refine gate_guard (by rfl) ?_; dsimp only)); refine Kd.R_lit (Kd.int .i64) _ 3 ?hg (N := 29) ?hd (xs := ([(-1)] : List Int)) (inner := [.int .i64 (-1)]) (ok := fun _ => True) (okp := fun _ => True) ?hr ?hp (fun _ hk => hk) trivial (Below.refl _ _) (Nat.le_refl _) (by simp) ?_; (case hd => rfl); (case hg => rfl); (case hr => first | (go_simp; done) | (go_simp; rfl)); (case hp => exact (Reps.one (show Kd.M (Kd.int .i64) _ _ _ (-1) [.int .i64 (-1)] from rfl) (Reps.none _ _))); intro v256 w17 ho18 hb hg_ hnew_; clear hg_ hnew_; (first | rw [← Ny255.out] at ho18 | (simp only [Int.reduceToNat] at ho18; rw [← Ny255.out] at ho18)); have n0_ := Aside0.mk (Kd.R_lower ho18 (below_size (by repeat (first | (with_reducible first | exact HB.out | apply below_alloc | apply pw_below_drewN | apply below_drew1) | exact HB.out)))); have n1_ := Aside0.mk (below_step (by repeat (first | (with_reducible first | exact HB.out | apply below_alloc | apply pw_below_drewN | apply below_drew1) | exact HB.out)) hb); clear HB; have HO257 := n0_; have HB := n1_; clear n0_ n1_; clear hb ho18) | ((with_reducible refine gate_dst (N := 30) rfl ?_); (try (refine gate_guard (by rfl) ?_; dsimp only)); refine Kd.R_lit (Kd.int .i64) _ 3 ?hg (N := 30) ?hd (xs := ([0] : List Int)) (inner := [.int .i64 0]) (ok := fun _ => True) (okp := fun _ => True) ?hr ?hp (fun _ hk => hk) trivial (Below.refl _ _) (Nat.le_refl _) (by simp) ?_; (case hd => rfl); (case hg => rfl); (case hr => first | (go_simp; done) | (go_simp; rfl)); (case hp => exact (Reps.one (show Kd.M (Kd.int .i64) _ _ _ 0 [.int .i64 0] from rfl) (Reps.none _ _))); intro v259 w19 ho20 hb hg_ hnew_; clear hg_ hnew_; (first | rw [← Ny258.out] at ho20 | (simp only [Int.reduceToNat] at ho20; rw [← Ny258.out] at ho20)); have n0_ := Aside0.mk (Kd.R_elder' (by (with_reducible repeat (first | apply Kd.R_alloc | apply Kd.R_drewN | apply Kd.R_drew)); exact HO257.out) (Kd.R_base ho20) hb); have n1_ := Aside0.mk (Kd.R_lower (Kd.R_new' ho20 (Kd.R_lt (by (with_reducible repeat (first | apply Kd.R_alloc | apply Kd.R_drewN | apply Kd.R_drew)); exact HO257.out))) (below_size (by repeat (first | (with_reducible first | exact HB.out | apply below_alloc | apply pw_below_drewN | apply below_drew1) | exact HB.out)))); have n2_ := Aside0.mk (below_step (by repeat (first | (with_reducible first | exact HB.out | apply below_alloc | apply pw_below_drewN | apply below_drew1) | exact HB.out)) hb); clear HO257; clear HB; have HO257 := n0_; have HO260 := n1_; have HB := n2_; clear n0_ n1_ n2_; clear hb ho20; obtain ⟨Ao21, co21, eo21⟩ := Kd.R_slice HO260.out; subst eo21; obtain ⟨Ao22, co22, eo22⟩ := Kd.R_slice HO257.out; subst eo22) | ((with_reducible refine gate_dst (N := 33) rfl ?_); (try (refine gate_guard (by rfl) ?_; dsimp only)); refine Kd.N_lit k41 _ 41 ?hg (N' := 33) ?hd (xs := ([(⟨0, y255, (⟨8, y258⟩ : S39), 0⟩ : S41)] : List (S41))) (inner := [.int .i64 0, .slice Ao22 y255.length co22, .int .i64 8, .slice Ao21 y258.length co21, .int .i64 0]) (ok := (fun _ => True)) (okp := (fun _ => True)) ?hr ?hp (fun _ hk => hk) ((show ∀ k_, w19.heap.size ≤ k_ → (fun _ => True) k_ from fun k_ hk => trivial) _ (Nat.le_refl _)) (Below.refl _ _) (Nat.le_refl _) (by simp) ?_; (case hd => rfl); (case hg => rfl); (case hr => first | (go_simp; done) | (go_simp; rfl)); (case hp => exact (Reps.c5 (show Kd.FK k41 _ _ (⟨0, y255, (⟨8, y258⟩ : S39), 0⟩ : S41) [.int .i64 0, .slice Ao22 y255.length co22, .int .i64 8, .slice Ao21 y258.length co21, .int .i64 0] from (k41_mkF _ _ (⟨0, y255, (⟨8, y258⟩ : S39), 0⟩ : S41) (Kd.R_reads' (Kd.R_mono (ok' := (fun _ => True)) (HO257.out) (fun k_ hk => trivial))).2.1 (Kd.R_F (Kd.R_mono (ok' := (fun _ => True)) (HO257.out) (fun k_ hk => trivial))) (Kd.R_reads' (Kd.R_mono (ok' := (fun _ => True)) (HO260.out) (fun k_ hk => trivial))).2.1 (Kd.R_F (Kd.R_mono (ok' := (fun _ => True)) (HO260.out) (fun k_ hk => trivial))))) (Reps.none _ _))); intro v262 w23 ho24 hb hg_ hnew_; clear hg_ hnew_; (first | rw [← Ny261.out] at ho24 | (simp only [Int.reduceToNat] at ho24; rw [← Ny261.out] at ho24)); have n0_ := Aside0.mk (Kd.N_lower ho24 (below_size (by repeat (first | (with_reducible first | exact HB.out | apply below_alloc | apply pw_below_drewN | apply below_drew1) | exact HB.out)))); have n1_ := Aside0.mk (below_step (by repeat (first | (with_reducible first | exact HB.out | apply below_alloc | apply pw_below_drewN | apply below_drew1) | exact HB.out)) hb); clear HB; clear HO257; clear HO260; have HO263 := n0_; have HB := n1_; clear n0_ n1_; clear hb ho24) | ((with_reducible refine gate_dst (N := 34) rfl ?_); (try (refine gate_guard (by rfl) ?_; dsimp only)); refine Kd.N_lit k41 _ 41 ?hg (N' := 34) ?hd (xs := ([] : List (S41))) (inner := []) (ok := (fun k_ => some k_ ≠ (v262 : Value).ownBlock)) (okp := (fun k_ => some k_ ≠ (v262 : Value).ownBlock)) ?hr ?hp (fun _ hk => hk) ((show ∀ k_, w23.heap.size ≤ k_ → (fun k_ => some k_ ≠ (v262 : Value).ownBlock) k_ from fun k_ hk => Kd.fresh' (Kd.N_lt (by (with_reducible repeat (first | apply Kd.N_alloc | apply Kd.N_drewN | apply Kd.N_drew)); exact HO263.out)) k_ hk) _ (Nat.le_refl _)) (Below.refl _ _) (Nat.le_refl _) (by simp) ?_; (case hd => rfl); (case hg => rfl); (case hr => first | (go_simp; done) | (go_simp; rfl)); (case hp => exact (Reps.none _ _)); intro v265 w25 ho26 hb hg_ hnew_; clear hg_ hnew_; (first | rw [← Ny264.out] at ho26 | (simp only [Int.reduceToNat] at ho26; rw [← Ny264.out] at ho26)); have n0_ := Aside0.mk (Kd.N_elder' (by (with_reducible repeat (first | apply Kd.N_alloc | apply Kd.N_drewN | apply Kd.N_drew)); exact HO263.out) (Kd.N_base ho26) hb); have n1_ := Aside0.mk (Kd.N_lower ho26 (below_size (by repeat (first | (with_reducible first | exact HB.out | apply below_alloc | apply pw_below_drewN | apply below_drew1) | exact HB.out)))); have n2_ := Aside0.mk (below_step (by repeat (first | (with_reducible first | exact HB.out | apply below_alloc | apply pw_below_drewN | apply below_drew1) | exact HB.out)) hb); clear HO263; clear HB; have HO263 := n0_; have HO266 := n1_; have HB := n2_; clear n0_ n1_ n2_; clear hb ho26; obtain ⟨Ao28, co28, eo28⟩ := Kd.N_slice HO263.out; subst eo28) | ((with_reducible refine gate_builtin (b := .append) (xs := #[.tmp 34, .tmp 35]) rfl ?_); (try (refine gate_guard (by rfl) ?_; dsimp only)); at_builtin; refine Kd.N_append_rows k41 (w0 := w) w.heap.size rfl (.tmp 34) (.tmp 35) 26 41 (.agg #[(.int .i64 0), (.slice none 0 0), (.int .i64 0), (.slice none 0 0), (.int .i64 0)]) 72 rfl Try.underlying26 info41 rfl (by decide) (by omega) v265 y264 y261 _ _ _ (fun _ => True) (fun k_ => ((fun _ => True)) k_ ∧ some k_ ≠ (v265 : Value).ownBlock) rfl rfl ?aO ?aR (fun _ hk => hk) ?aF ?aB ?aS ?aL ?_; (case aR => exact (by skip; exact Kd.N_F (Kd.N_mono (ok' := (fun k_ => ((fun _ => True)) k_ ∧ some k_ ≠ (v265 : Value).ownBlock)) (HO263.out) (fun k_ hk => ⟨trivial, hk.2⟩)))); (case aB => exact (by repeat (first | (with_reducible first | exact HB.out | apply below_alloc | apply pw_below_drewN | apply below_drew1) | exact HB.out))); (case aF => exact (fun _ _ => trivial)); (case aO => exact (by (with_reducible repeat (first | apply Kd.N_alloc | apply Kd.N_drewN | apply Kd.N_drew)); exact Kd.N_mono HO266.out (fun _ hk => trivial))); (case aS => exact (below_size (by repeat (first | (with_reducible first | exact HB.out | apply below_alloc | apply pw_below_drewN | apply below_drew1) | exact HB.out)))); (case aL => have := LMc12.out; omega); intro v268 w27 ho hb hg hat; rw [← Ny267.out] at ho; have n0_ := Aside0.mk (Kd.N_afterv (ok := (fun _ => True)) (by (with_reducible repeat (first | apply Kd.N_alloc | apply Kd.N_drewN | apply Kd.N_drew)); exact HO263.out) hg hat); have n1_ := Aside0.mk (hb); have n2_ := Aside0.mk (ho); clear HO263; clear HB; clear HO266; have HO263 := n0_; have HB := n1_; have HO269 := n2_; clear n0_ n1_ n2_; clear ho hb hg hat) | ((with_reducible refine gate_dst (N := 37) rfl ?_); (try (refine gate_guard (by rfl) ?_; dsimp only)); refine Kd.R_lit (Kd.int .i64) _ 3 ?hg (N := 37) ?hd (xs := ([(-1)] : List Int)) (inner := [.int .i64 (-1)]) (ok := fun _ => True) (okp := fun _ => True) ?hr ?hp (fun _ hk => hk) trivial (Below.refl _ _) (Nat.le_refl _) (by simp) ?_; (case hd => rfl); (case hg => rfl); (case hr => first | (go_simp; done) | (go_simp; rfl)); (case hp => exact (Reps.one (show Kd.M (Kd.int .i64) _ _ _ (-1) [.int .i64 (-1)] from rfl) (Reps.none _ _))); intro v271 w29 ho30 hb hg_ hnew_; clear hg_ hnew_; (first | rw [← Ny270.out] at ho30 | (simp only [Int.reduceToNat] at ho30; rw [← Ny270.out] at ho30)); have n0_ := Aside0.mk (Kd.N_elder' (by (with_reducible repeat (first | apply Kd.N_alloc | apply Kd.N_drewN | apply Kd.N_drew)); exact HO263.out) (Kd.R_base ho30) hb); have n1_ := Aside0.mk (Kd.N_elder' (by (with_reducible repeat (first | apply Kd.N_alloc | apply Kd.N_drewN | apply Kd.N_drew)); exact HO269.out) (Kd.R_base ho30) hb); have n2_ := Aside0.mk (Kd.R_lower ho30 (below_size (by repeat (first | (with_reducible first | exact HB.out | apply below_alloc | apply pw_below_drewN | apply below_drew1) | exact HB.out)))); have n3_ := Aside0.mk (below_step (by repeat (first | (with_reducible first | exact HB.out | apply below_alloc | apply pw_below_drewN | apply below_drew1) | exact HB.out)) hb); clear HO263; clear HO269; clear HB; have HO263 := n0_; have HO269 := n1_; have HO272 := n2_; have HB := n3_; clear n0_ n1_ n2_ n3_; clear hb ho30) | ((with_reducible refine gate_dst (N := 38) rfl ?_); (try (refine gate_guard (by rfl) ?_; dsimp only)); refine Kd.R_lit (Kd.int .i64) _ 3 ?hg (N := 38) ?hd (xs := ([0] : List Int)) (inner := [.int .i64 0]) (ok := fun _ => True) (okp := fun _ => True) ?hr ?hp (fun _ hk => hk) trivial (Below.refl _ _) (Nat.le_refl _) (by simp) ?_; (case hd => rfl); (case hg => rfl); (case hr => first | (go_simp; done) | (go_simp; rfl)); (case hp => exact (Reps.one (show Kd.M (Kd.int .i64) _ _ _ 0 [.int .i64 0] from rfl) (Reps.none _ _))); intro v274 w31 ho32 hb hg_ hnew_; clear hg_ hnew_; (first | rw [← Ny273.out] at ho32 | (simp only [Int.reduceToNat] at ho32; rw [← Ny273.out] at ho32)); have n0_ := Aside0.mk (Kd.N_elder' (by (with_reducible repeat (first | apply Kd.N_alloc | apply Kd.N_drewN | apply Kd.N_drew)); exact HO263.out) (Kd.R_base ho32) hb); have n1_ := Aside0.mk (Kd.N_elder' (by (with_reducible repeat (first | apply Kd.N_alloc | apply Kd.N_drewN | apply Kd.N_drew)); exact HO269.out) (Kd.R_base ho32) hb); have n2_ := Aside0.mk (Kd.R_elder' (by (with_reducible repeat (first | apply Kd.R_alloc | apply Kd.R_drewN | apply Kd.R_drew)); exact HO272.out) (Kd.R_base ho32) hb); have n3_ := Aside0.mk (Kd.R_lower (Kd.R_new' ho32 (Kd.R_lt (by (with_reducible repeat (first | apply Kd.R_alloc | apply Kd.R_drewN | apply Kd.R_drew)); exact HO272.out))) (below_size (by repeat (first | (with_reducible first | exact HB.out | apply below_alloc | apply pw_below_drewN | apply below_drew1) | exact HB.out)))); have n4_ := Aside0.mk (below_step (by repeat (first | (with_reducible first | exact HB.out | apply below_alloc | apply pw_below_drewN | apply below_drew1) | exact HB.out)) hb); clear HO263; clear HO269; clear HO272; clear HB; have HO263 := n0_; have HO269 := n1_; have HO272 := n2_; have HO275 := n3_; have HB := n4_; clear n0_ n1_ n2_ n3_ n4_; clear hb ho32; obtain ⟨Ao33, co33, eo33⟩ := Kd.R_slice HO275.out; subst eo33) | ((with_reducible refine gate_callee (f := 12) rfl ?_); refine goesL_ (some 41) rfl rfl Try.func12 (by kernel_rfl) rfl #[.int .i64 a3, .int .i64 101] rfl (by (try simp only [List.map_toArray, List.map_cons, List.map_nil]); first | done | rfl | (simp only [List.length_drop, List.length_take]; rfl)) ?_; (with_reducible refine (l7_within.calls a3 101 t276 _ A13.out).mono ?_); rintro e w' ⟨rfl, ⟨nd, rfl⟩⟩; refine ⟨_, rfl, ?_⟩; obtain ⟨Ao34, co34, eo34⟩ := Kd.R_slice HO272.out; subst eo34) | ((with_reducible refine gate_builtin (b := .append) (xs := #[.tmp 36, .tmp 43]) rfl ?_); (try (refine gate_guard (by rfl) ?_; dsimp only)); at_builtin; refine Kd.N_append k41 (w0 := w) w.heap.size rfl (.tmp 36) (.tmp 43) 26 41 (.agg #[(.int .i64 0), (.slice none 0 0), (.int .i64 0), (.slice none 0 0), (.int .i64 0)]) 72 rfl Try.underlying26 info41 rfl (by decide) (by omega) v268 y267 (⟨0, y270, (⟨0, y273⟩ : S39), t276⟩ : S41) [.int .i64 0, .slice Ao34 y270.length co34, .int .i64 0, .slice Ao33 y273.length co33, .int .i64 t276] (fun _ => True) (fun k_ => ((fun _ => True)) k_ ∧ some k_ ≠ (v268 : Value).ownBlock) rfl rfl ?aP (fun _ hk => hk) ?aF ?aO ?aB ?aS ?aL ?_; (case aP => exact (k41_mkF _ _ (⟨0, y270, (⟨0, y273⟩ : S39), t276⟩ : S41) (Kd.R_reads' (Kd.R_mono (ok' := (fun k_ => ((fun _ => True)) k_ ∧ some k_ ≠ (v268 : Value).ownBlock)) (Kd.R_apart' (HO272.out) (Kd.N_typed HO269.out) (by decide)) (fun k_ hk => ⟨trivial, hk.2⟩))).2.1 (Kd.R_F (Kd.R_mono (ok' := (fun k_ => ((fun _ => True)) k_ ∧ some k_ ≠ (v268 : Value).ownBlock)) (Kd.R_apart' (HO272.out) (Kd.N_typed HO269.out) (by decide)) (fun k_ hk => ⟨trivial, hk.2⟩))) (Kd.R_reads' (Kd.R_mono (ok' := (fun k_ => ((fun _ => True)) k_ ∧ some k_ ≠ (v268 : Value).ownBlock)) (Kd.R_apart' (HO275.out) (Kd.N_typed HO269.out) (by decide)) (fun k_ hk => ⟨trivial, hk.2⟩))).2.1 (Kd.R_F (Kd.R_mono (ok' := (fun k_ => ((fun _ => True)) k_ ∧ some k_ ≠ (v268 : Value).ownBlock)) (Kd.R_apart' (HO275.out) (Kd.N_typed HO269.out) (by decide)) (fun k_ hk => ⟨trivial, hk.2⟩))))); (case aB => exact (by repeat (first | (with_reducible first | exact HB.out | apply below_alloc | apply pw_below_drewN | apply below_drew1) | exact HB.out))); (case aF => exact (fun _ _ => trivial)); (case aO => exact (by (with_reducible repeat (first | apply Kd.N_alloc | apply Kd.N_drewN | apply Kd.N_drew)); exact Kd.N_mono HO269.out (fun _ hk => trivial))); (case aS => exact (below_size (by repeat (first | (with_reducible first | exact HB.out | apply below_alloc | apply pw_below_drewN | apply below_drew1) | exact HB.out)))); (case aL => have := LMc14.out; omega); intro v278 w35 ho hb hg hat; rw [← Ny277.out] at ho; have n0_ := Aside0.mk (Kd.N_afterv (ok := (fun k_ => some k_ ≠ (.slice Ao34 y270.length co34 : Value).ownBlock ∧ some k_ ≠ (.slice Ao33 y273.length co33 : Value).ownBlock)) (by (with_reducible repeat (first | apply Kd.N_alloc | apply Kd.N_drewN | apply Kd.N_drew)); exact Kd.N_mono HO263.out (fun _ hk => ⟨⟨hk.1.2, hk.2⟩, hk.1.1.2⟩)) hg hat); have n1_ := Aside0.mk (hb); have n2_ := Aside0.mk (ho); clear HO263; clear HB; clear HO269; clear HO272; clear HO275; have HO263 := n0_; have HB := n1_; have HO279 := n2_; clear n0_ n1_ n2_; clear ho hb hg hat) | ((with_reducible refine gate_dst (N := 46) rfl ?_); (try (refine gate_guard (by rfl) ?_; dsimp only)); refine Kd.R_lit k31 _ 31 ?hg (N := 46) ?hd (xs := ([(⟨0, 1, 0, 0, 1⟩ : S31)] : List (S31))) (inner := [.int .i64 0, .int .i64 1, .int .i64 0, .int .i64 0, .int .i64 1]) (ok := fun _ => True) (okp := fun _ => True) ?hr ?hp (fun _ hk => hk) trivial (Below.refl _ _) (Nat.le_refl _) (by simp) ?_; (case hd => rfl); (case hg => rfl); (case hr => first | (go_simp; done) | (go_simp; rfl)); (case hp => exact (Reps.c5 (show Kd.M k31 _ _ _ (⟨0, 1, 0, 0, 1⟩ : S31) [.int .i64 0, .int .i64 1, .int .i64 0, .int .i64 0, .int .i64 1] from (k31_mkM _ _ _ (⟨0, 1, 0, 0, 1⟩ : S31) )) (Reps.none _ _))); intro v281 w36 ho37 hb hg_ hnew_; clear hg_ hnew_; (first | rw [← Ny280.out] at ho37 | (simp only [Int.reduceToNat] at ho37; rw [← Ny280.out] at ho37)); have n0_ := Aside0.mk (Kd.N_elder' (by (with_reducible repeat (first | apply Kd.N_alloc | apply Kd.N_drewN | apply Kd.N_drew)); exact HO263.out) (Kd.R_base ho37) hb); have n1_ := Aside0.mk (Kd.N_elder' (by (with_reducible repeat (first | apply Kd.N_alloc | apply Kd.N_drewN | apply Kd.N_drew)); exact HO279.out) (Kd.R_base ho37) hb); have n2_ := Aside0.mk (Kd.R_lower ho37 (below_size (by repeat (first | (with_reducible first | exact HB.out | apply below_alloc | apply pw_below_drewN | apply below_drew1) | exact HB.out)))); have n3_ := Aside0.mk (below_step (by repeat (first | (with_reducible first | exact HB.out | apply below_alloc | apply pw_below_drewN | apply below_drew1) | exact HB.out)) hb); clear HO263; clear HO279; clear HB; have HO263 := n0_; have HO279 := n1_; have HO282 := n2_; have HB := n3_; clear n0_ n1_ n2_ n3_; clear hb ho37) | ((with_reducible refine gate_callee (f := 11) rfl ?_); refine goesL_ (some 48) rfl rfl Try.func11 (by kernel_rfl) rfl #[.slice A0 l0.length c0, .int .i64 3] rfl (by (try simp only [List.map_toArray, List.map_cons, List.map_nil]); first | done | rfl | (simp only [List.length_drop, List.length_take]; rfl)) ?_; (with_reducible refine (l4_Rules.calls kj6 _ _ l0 3 t283 _ ?side1 ?side2 A15.out).mono ?_); (case side1 => repeat (first | exact (Kd.C_below HR0.out HB.out) | (with_reducible refine Kd.C_alloc ?_ _) | (with_reducible refine Kd.C_drewN ?_ _) | (with_reducible refine Kd.C_drew ?_))); (case side2 => exact HC0.out); rintro e w38 ⟨v284, rfl, ho0, hb⟩; refine ⟨_, rfl, ?_⟩; have n0_ := Aside0.mk (Kd.N_elder' (by (with_reducible repeat (first | apply Kd.N_alloc | apply Kd.N_drewN | apply Kd.N_drew)); exact HO263.out) (Kd.N_base ho0) hb); have n1_ := Aside0.mk (Kd.N_elder' (by (with_reducible repeat (first | apply Kd.N_alloc | apply Kd.N_drewN | apply Kd.N_drew)); exact HO279.out) (Kd.N_base ho0) hb); have n2_ := Aside0.mk (Kd.R_below (by (with_reducible repeat (first | apply Kd.R_alloc | apply Kd.R_drewN | apply Kd.R_drew)); exact HO282.out) hb); have n3_ := Aside0.mk (Kd.N_lower (Kd.N_mono (ok' := fun k_ => some k_ ≠ (.slice Ao28 y261.length co28 : Value).ownBlock ∧ some k_ ≠ (v278 : Value).ownBlock ∧ some k_ ≠ (v281 : Value).ownBlock) ho0 (fun k_ hk_ => ⟨(Kd.fresh' (Kd.N_lt (by (with_reducible repeat (first | apply Kd.N_alloc | apply Kd.N_drewN | apply Kd.N_drew)); exact HO263.out)) k_ hk_), (Kd.fresh' (Kd.N_lt (by (with_reducible repeat (first | apply Kd.N_alloc | apply Kd.N_drewN | apply Kd.N_drew)); exact HO279.out)) k_ hk_), (Kd.fresh' (Kd.R_lt (by (with_reducible repeat (first | apply Kd.R_alloc | apply Kd.R_drewN | apply Kd.R_drew)); exact HO282.out)) k_ hk_)⟩)) (below_size (by repeat (first | (with_reducible first | exact HB.out | apply below_alloc | apply pw_below_drewN | apply below_drew1) | exact HB.out)))); have n4_ := Aside0.mk (below_step (by repeat (first | (with_reducible first | exact HB.out | apply below_alloc | apply pw_below_drewN | apply below_drew1) | exact HB.out)) hb); clear HO263; clear HO279; clear HO282; clear HB; have HO263 := n0_; have HO279 := n1_; have HO282 := n2_; have HO285 := n3_; have HB := n4_; clear n0_ n1_ n2_ n3_ n4_; (try clear hb); (try clear hb2); (try clear hk); (try clear hi); (try clear ho0)) | ((with_reducible refine gate_dst (N := 49) rfl ?_); (try (refine gate_guard (by rfl) ?_; dsimp only)); refine Kd.N_lit k41 _ 41 ?hg (N' := 49) ?hd (xs := ([] : List (S41))) (inner := []) (ok := (fun k_ => some k_ ≠ (.slice Ao28 y261.length co28 : Value).ownBlock ∧ some k_ ≠ (v278 : Value).ownBlock ∧ some k_ ≠ (v281 : Value).ownBlock ∧ some k_ ≠ (v284 : Value).ownBlock)) (okp := (fun k_ => some k_ ≠ (.slice Ao28 y261.length co28 : Value).ownBlock ∧ some k_ ≠ (v278 : Value).ownBlock ∧ some k_ ≠ (v281 : Value).ownBlock ∧ some k_ ≠ (v284 : Value).ownBlock)) ?hr ?hp (fun _ hk => hk) ((show ∀ k_, w38.heap.size ≤ k_ → (fun k_ => some k_ ≠ (.slice Ao28 y261.length co28 : Value).ownBlock ∧ some k_ ≠ (v278 : Value).ownBlock ∧ some k_ ≠ (v281 : Value).ownBlock ∧ some k_ ≠ (v284 : Value).ownBlock) k_ from fun k_ hk => ⟨Kd.fresh' (Kd.N_lt (by (with_reducible repeat (first | apply Kd.N_alloc | apply Kd.N_drewN | apply Kd.N_drew)); exact HO263.out)) k_ hk, Kd.fresh' (Kd.N_lt (by (with_reducible repeat (first | apply Kd.N_alloc | apply Kd.N_drewN | apply Kd.N_drew)); exact HO279.out)) k_ hk, Kd.fresh' (Kd.R_lt (by (with_reducible repeat (first | apply Kd.R_alloc | apply Kd.R_drewN | apply Kd.R_drew)); exact HO282.out)) k_ hk, Kd.fresh' (Kd.N_lt (by (with_reducible repeat (first | apply Kd.N_alloc | apply Kd.N_drewN | apply Kd.N_drew)); exact HO285.out)) k_ hk⟩) _ (Nat.le_refl _)) (Below.refl _ _) (Nat.le_refl _) (by simp) ?_; (case hd => rfl); (case hg => rfl); (case hr => first | (go_simp; done) | (go_simp; rfl)); (case hp => exact (Reps.none _ _)); intro v287 w39 ho40 hb hg_ hnew_; clear hg_ hnew_; (first | rw [← Ny286.out] at ho40 | (simp only [Int.reduceToNat] at ho40; rw [← Ny286.out] at ho40)); have n0_ := Aside0.mk (Kd.N_elder' (by (with_reducible repeat (first | apply Kd.N_alloc | apply Kd.N_drewN | apply Kd.N_drew)); exact HO263.out) (Kd.N_base ho40) hb); have n1_ := Aside0.mk (Kd.N_elder' (by (with_reducible repeat (first | apply Kd.N_alloc | apply Kd.N_drewN | apply Kd.N_drew)); exact HO279.out) (Kd.N_base ho40) hb); have n2_ := Aside0.mk (Kd.R_below (by (with_reducible repeat (first | apply Kd.R_alloc | apply Kd.R_drewN | apply Kd.R_drew)); exact HO282.out) hb); have n3_ := Aside0.mk (Kd.N_elder' (by (with_reducible repeat (first | apply Kd.N_alloc | apply Kd.N_drewN | apply Kd.N_drew)); exact HO285.out) (Kd.N_base ho40) hb); have n4_ := Aside0.mk (Kd.N_lower ho40 (below_size (by repeat (first | (with_reducible first | exact HB.out | apply below_alloc | apply pw_below_drewN | apply below_drew1) | exact HB.out)))); have n5_ := Aside0.mk (below_step (by repeat (first | (with_reducible first | exact HB.out | apply below_alloc | apply pw_below_drewN | apply below_drew1) | exact HB.out)) hb); clear HO263; clear HO279; clear HO282; clear HO285; clear HB; have HO263 := n0_; have HO279 := n1_; have HO282 := n2_; have HO285 := n3_; have HO288 := n4_; have HB := n5_; clear n0_ n1_ n2_ n3_ n4_ n5_; clear hb ho40; obtain ⟨Ao42, co42, eo42⟩ := Kd.N_slice HO285.out; subst eo42) | ((with_reducible refine gate_builtin (b := .append) (xs := #[.tmp 49, .tmp 50]) rfl ?_); (try (refine gate_guard (by rfl) ?_; dsimp only)); at_builtin; refine Kd.N_append_rows k41 (w0 := w) w.heap.size rfl (.tmp 49) (.tmp 50) 26 41 (.agg #[(.int .i64 0), (.slice none 0 0), (.int .i64 0), (.slice none 0 0), (.int .i64 0)]) 72 rfl Try.underlying26 info41 rfl (by decide) (by omega) v287 y286 t283 _ _ _ (fun k_ => some k_ ≠ (.slice Ao28 y261.length co28 : Value).ownBlock ∧ some k_ ≠ (v278 : Value).ownBlock ∧ some k_ ≠ (v281 : Value).ownBlock) (fun k_ => ((fun k_ => some k_ ≠ (.slice Ao28 y261.length co28 : Value).ownBlock ∧ some k_ ≠ (v278 : Value).ownBlock ∧ some k_ ≠ (v281 : Value).ownBlock)) k_ ∧ some k_ ≠ (v287 : Value).ownBlock) rfl rfl ?aO ?aR (fun _ hk => hk) ?aF ?aB ?aS ?aL ?_; (case aR => exact (by skip; exact Kd.N_F (Kd.N_mono (ok' := (fun k_ => ((fun k_ => some k_ ≠ (.slice Ao28 y261.length co28 : Value).ownBlock ∧ some k_ ≠ (v278 : Value).ownBlock ∧ some k_ ≠ (v281 : Value).ownBlock)) k_ ∧ some k_ ≠ (v287 : Value).ownBlock)) (HO285.out) (fun k_ hk => ⟨⟨hk.1.1, ⟨hk.1.2.1, hk.1.2.2⟩⟩, hk.2⟩)))); (case aB => exact (by repeat (first | (with_reducible first | exact HB.out | apply below_alloc | apply pw_below_drewN | apply below_drew1) | exact HB.out))); (case aF => exact (fun k_ hk => ⟨Kd.fresh' (Kd.N_lt (by (with_reducible repeat (first | apply Kd.N_alloc | apply Kd.N_drewN | apply Kd.N_drew)); exact HO263.out)) k_ hk, Kd.fresh' (Kd.N_lt (by (with_reducible repeat (first | apply Kd.N_alloc | apply Kd.N_drewN | apply Kd.N_drew)); exact HO279.out)) k_ hk, Kd.fresh' (Kd.R_lt (by (with_reducible repeat (first | apply Kd.R_alloc | apply Kd.R_drewN | apply Kd.R_drew)); exact HO282.out)) k_ hk⟩)); (case aO => exact (by (with_reducible repeat (first | apply Kd.N_alloc | apply Kd.N_drewN | apply Kd.N_drew)); exact Kd.N_mono HO288.out (fun _ hk => ⟨hk.1, ⟨hk.2.1, hk.2.2.1⟩⟩))); (case aS => exact (below_size (by repeat (first | (with_reducible first | exact HB.out | apply below_alloc | apply pw_below_drewN | apply below_drew1) | exact HB.out)))); (case aL => have := LMc16.out; omega); intro v290 w41 ho hb hg hat; rw [← Ny289.out] at ho; have n0_ := Aside0.mk (Kd.N_afterv (ok := (fun k_ => some k_ ≠ (v278 : Value).ownBlock ∧ some k_ ≠ (v281 : Value).ownBlock ∧ some k_ ≠ (.slice Ao42 t283.length co42 : Value).ownBlock)) (by (with_reducible repeat (first | apply Kd.N_alloc | apply Kd.N_drewN | apply Kd.N_drew)); exact Kd.N_mono HO263.out (fun _ hk => ⟨⟨hk.1.1.1.2, ⟨hk.1.1.2, hk.1.2⟩⟩, hk.2⟩)) hg hat); have n1_ := Aside0.mk (Kd.N_afterv (ok := (fun k_ => some k_ ≠ (v281 : Value).ownBlock ∧ some k_ ≠ (.slice Ao42 t283.length co42 : Value).ownBlock)) (by (with_reducible repeat (first | apply Kd.N_alloc | apply Kd.N_drewN | apply Kd.N_drew)); exact Kd.N_mono HO279.out (fun _ hk => ⟨⟨hk.1.1.2, hk.1.2⟩, hk.2⟩)) hg hat); have n2_ := Aside0.mk (Kd.R_over' (by (with_reducible repeat (first | apply Kd.R_alloc | apply Kd.R_drewN | apply Kd.R_drew)); exact HO282.out) (Kd.N_typed (by (with_reducible repeat (first | apply Kd.N_alloc | apply Kd.N_drewN | apply Kd.N_drew)); exact HO288.out)) (by decide) hg); have n3_ := Aside0.mk (Kd.N_afterv (ok := (fun k_ => some k_ ≠ (.slice Ao28 y261.length co28 : Value).ownBlock ∧ some k_ ≠ (v278 : Value).ownBlock ∧ some k_ ≠ (v281 : Value).ownBlock)) (by (with_reducible repeat (first | apply Kd.N_alloc | apply Kd.N_drewN | apply Kd.N_drew)); exact HO285.out) hg hat); have n4_ := Aside0.mk (hb); have n5_ := Aside0.mk (ho); clear HO263; clear HO279; clear HO282; clear HO285; clear HB; clear HO288; have HO263 := n0_; have HO279 := n1_; have HO282 := n2_; have HO285 := n3_; have HB := n4_; have HO291 := n5_; clear n0_ n1_ n2_ n3_ n4_ n5_; clear ho hb hg hat))
        go_loopg [14] kj6 (fun kq v14 w' => ∃ (x13_2 : List (S41)) (x14_2 : Int), v14 = .int .i64 x14_2 ∧ Aside0 (l7_ChartTwice.l0 kq l1 a2 a3 y261 y277 y280 t283 x13_2 x14_2 = some r) ∧ Aside0 (kq ≤ kj6) ∧ Aside0 (Kd.N k41 41 w' w.heap.size (fun k_ => some k_ ≠ (v278 : Value).ownBlock ∧ some k_ ≠ (v281 : Value).ownBlock ∧ some k_ ≠ ((.slice Ao42 t283.length co42) : Value).ownBlock ∧ some k_ ≠ (v290 : Value).ownBlock) (.slice Ao28 y261.length co28) y261) ∧ Aside0 (Kd.N k41 41 w' w.heap.size (fun k_ => some k_ ≠ (v281 : Value).ownBlock ∧ some k_ ≠ ((.slice Ao42 t283.length co42) : Value).ownBlock ∧ some k_ ≠ (v290 : Value).ownBlock) v278 y277) ∧ Aside0 (Kd.R k31 31 w' w.heap.size (fun _ => True) v281 y280) ∧ Aside0 (Kd.N k41 41 w' w.heap.size (fun k_ => some k_ ≠ ((.slice Ao28 y261.length co28) : Value).ownBlock ∧ some k_ ≠ (v278 : Value).ownBlock ∧ some k_ ≠ (v281 : Value).ownBlock ∧ some k_ ≠ (v290 : Value).ownBlock) (.slice Ao42 t283.length co42) t283) ∧ Aside0 (Kd.N k41 41 w' w.heap.size (fun k_ => some k_ ≠ ((.slice Ao28 y261.length co28) : Value).ownBlock ∧ some k_ ≠ (v278 : Value).ownBlock ∧ some k_ ≠ (v281 : Value).ownBlock) v290 x13_2) ∧ Aside0 (Below w.heap.size w w'))
        case atStart => exact ⟨(y289), (0), (by first | rfl | (simp; done) | (simp [*]; done)), H', ⟨Nat.le_refl _⟩, ⟨by (with_reducible repeat (first | apply Kd.N_alloc | apply Kd.N_drewN | apply Kd.N_drew)); exact Kd.N_mono HO263.out (fun _ hk => ⟨hk.1.1, ⟨hk.1.2.1, ⟨hk.1.2.2, hk.2⟩⟩⟩)⟩, ⟨by (with_reducible repeat (first | apply Kd.N_alloc | apply Kd.N_drewN | apply Kd.N_drew)); exact Kd.N_mono HO279.out (fun _ hk => ⟨hk.1.1, ⟨hk.1.2, hk.2⟩⟩)⟩, ⟨by (with_reducible repeat (first | apply Kd.R_alloc | apply Kd.R_drewN | apply Kd.R_drew)); exact HO282.out⟩, ⟨by (with_reducible repeat (first | apply Kd.N_alloc | apply Kd.N_drewN | apply Kd.N_drew)); exact Kd.N_mono HO285.out (fun _ hk => ⟨hk.1.1, ⟨hk.1.2.1, ⟨hk.1.2.2, hk.2⟩⟩⟩)⟩, ⟨by (with_reducible repeat (first | apply Kd.N_alloc | apply Kd.N_drewN | apply Kd.N_drew)); exact HO291.out⟩, ⟨by repeat (first | (with_reducible first | exact HB.out | apply below_alloc | apply pw_below_drewN | apply below_drew1) | exact HB.out)⟩⟩
        case round =>
         clear H'
         try clear c1
         try clear p2
         try clear c5
         try clear c6
         try clear c9
         try clear c10
         try clear c11
         try clear c12
         try clear c14
         try clear c16
         try clear p2
         obtain ⟨x13_2, x14_2, rfl, HA, HK2, HO_9, HO_10, HO_11, HO_12, HO_13, HB⟩ := hrel
         cases gk with
         | zero => exact absurd HA.out (by simp [l7_ChartTwice.l0])
         | succ k2 =>
          have H := HA.out
          clear HA
          simp only [l7_ChartTwice.l0] at H
          by_cases c43 : x14_2 < (x13_2.length : Int)
          ·rw [if_pos c43] at H
           have c43b0 : decide (x14_2 < (x13_2.length : Int)) = true := decide_eq_true c43
           clear c43
           replace H := Option.bind_eq_some_iff.mp H
           obtain ⟨t292, A440, H⟩ := H
           replace H : (if 0 ≤ x14_2 then (l7_ChartTwice.l0 k2 l1 a2 a3 y261 y277 y280 t283 (x13_2.set (x14_2 : Int).toNat (⟨(rd_T41 x13_2 x14_2).f0, (rd_T41 x13_2 x14_2).f1, (⟨(rd_T41 x13_2 x14_2).f2.f0, (rd_T41 x13_2 x14_2).f2.f1⟩ : S39), t292⟩ : S41)) (wrap64 (x14_2 + 1))) else (none)) = some r := H
           have A44 := Aside0.mk A440
           clear A440
           by_cases c45 : 0 ≤ x14_2
           ·rw [if_pos c45] at H
            have c45b0 : decide (0 ≤ x14_2) = true := decide_eq_true c45
            clear c45
            obtain ⟨y293, hy293⟩ : ∃ y_ : List (S41), y_ = (x13_2.set (x14_2 : Int).toNat (⟨(rd_T41 x13_2 x14_2).f0, (rd_T41 x13_2 x14_2).f1, (⟨(rd_T41 x13_2 x14_2).f2.f0, (rd_T41 x13_2 x14_2).f2.f1⟩ : S39), t292⟩ : S41)) := ⟨_, rfl⟩
            replace H : (l7_ChartTwice.l0 k2 l1 a2 a3 y261 y277 y280 t283 y293 (wrap64 (x14_2 + 1))) = some r := by first | (rw [hy293]; with_reducible exact H) | (have H2_ := (Option.bind_some _ _).symm.trans H; rw [hy293]; with_reducible exact H2_) | (have H2_ := (Option.bind_some _ _).symm.trans H; with_reducible exact H2_) | with_reducible exact H | (rw [hy293]; exact H) | exact H
            have Ny293 := Aside0.mk hy293
            clear hy293
            have H' := Aside0.mk H
            clear H
            obtain ⟨Ao47, co47, eo47⟩ := Kd.N_slice HO_13.out
            subst eo47
            go_wp2_with fail
            refine (l7_within.calls (wrap64 (a3 + x14_2)) 101 t292 _ A44.out).mono ?_
            rintro e w' ⟨rfl, ⟨nd, rfl⟩⟩
            (try (rw [drewN_self wr]; generalize hq_ : World.drewN wr _ = wr; have n0_ : Aside0 (Kd.N k41 41 wr w.heap.size (fun k_ => some k_ ≠ (v281 : Value).ownBlock ∧ some k_ ≠ (.slice Ao42 t283.length co42 : Value).ownBlock ∧ some k_ ≠ (.slice Ao47 x13_2.length co47 : Value).ownBlock) v278 y277) := ⟨by rw [← hq_]; exact (by (with_reducible repeat (first | apply Kd.N_alloc | apply Kd.N_drewN | apply Kd.N_drew)); exact HO_10.out)⟩; have n1_ : Aside0 (Kd.R k31 31 wr w.heap.size (fun _ => True) v281 y280) := ⟨by rw [← hq_]; exact (by (with_reducible repeat (first | apply Kd.R_alloc | apply Kd.R_drewN | apply Kd.R_drew)); exact HO_11.out)⟩; have n2_ : Aside0 (Kd.N k41 41 wr w.heap.size (fun k_ => some k_ ≠ (v278 : Value).ownBlock ∧ some k_ ≠ (v281 : Value).ownBlock ∧ some k_ ≠ (.slice Ao47 x13_2.length co47 : Value).ownBlock ∧ some k_ ≠ (.slice Ao28 y261.length co28 : Value).ownBlock) (.slice Ao42 t283.length co42) t283) := ⟨by rw [← hq_]; exact (by (with_reducible repeat (first | apply Kd.N_alloc | apply Kd.N_drewN | apply Kd.N_drew)); exact Kd.N_mono HO_12.out (fun _ hk => ⟨hk.2.1, ⟨hk.2.2.1, ⟨hk.2.2.2, hk.1⟩⟩⟩))⟩; have n3_ : Aside0 (Kd.N k41 41 wr w.heap.size (fun k_ => some k_ ≠ (v278 : Value).ownBlock ∧ some k_ ≠ (v281 : Value).ownBlock ∧ some k_ ≠ (.slice Ao28 y261.length co28 : Value).ownBlock) (.slice Ao47 x13_2.length co47) x13_2) := ⟨by rw [← hq_]; exact (by (with_reducible repeat (first | apply Kd.N_alloc | apply Kd.N_drewN | apply Kd.N_drew)); exact Kd.N_mono HO_13.out (fun _ hk => ⟨hk.2.1, ⟨hk.2.2, hk.1⟩⟩))⟩; have n4_ : Aside0 (Kd.N k41 41 wr w.heap.size (fun k_ => some k_ ≠ (v278 : Value).ownBlock ∧ some k_ ≠ (v281 : Value).ownBlock ∧ some k_ ≠ (.slice Ao42 t283.length co42 : Value).ownBlock ∧ some k_ ≠ (.slice Ao47 x13_2.length co47 : Value).ownBlock) (.slice Ao28 y261.length co28) y261) := ⟨by rw [← hq_]; exact (by (with_reducible repeat (first | apply Kd.N_alloc | apply Kd.N_drewN | apply Kd.N_drew)); exact HO_9.out)⟩; have n5_ : Aside0 (Below w.heap.size w wr) := ⟨by rw [← hq_]; exact (by repeat (first | (with_reducible first | exact HB.out | apply below_alloc | apply pw_below_drewN | apply below_drew1) | exact HB.out))⟩; clear HO_10 HO_11 HO_12 HO_13 HO_9 HB hq_; have HO_10 := n0_; have HO_11 := n1_; have HO_12 := n2_; have HO_13 := n3_; have HO_9 := n4_; have HB := n5_; clear n0_ n1_ n2_ n3_ n4_ n5_))
            replace HO_13 := Aside0.mk (Kd.N_mono (ok' := fun k_ => some k_ ≠ (.slice Ao28 y261.length co28 : Value).ownBlock ∧ some k_ ≠ (v278 : Value).ownBlock ∧ some k_ ≠ (v281 : Value).ownBlock) HO_13.out (fun _ hk => ⟨hk.2.2, hk.1, hk.2.1⟩))
            replace HO_12 := Aside0.mk (Kd.N_mono (ok' := fun k_ => some k_ ≠ (.slice Ao28 y261.length co28 : Value).ownBlock ∧ some k_ ≠ (v278 : Value).ownBlock ∧ some k_ ≠ (v281 : Value).ownBlock ∧ some k_ ≠ (.slice Ao47 x13_2.length co47 : Value).ownBlock) HO_12.out (fun _ hk => ⟨hk.2.2.2, hk.1, hk.2.1, hk.2.2.1⟩))
            have p46 : 0 ≤ (x14_2 : Int) := of_decide_eq_true (by first | (with_reducible assumption) | assumption)
            have q46 : (x14_2 : Int) < ((x13_2.length : Int) : Int) := of_decide_eq_true (by first | (with_reducible assumption) | assumption)
            obtain ⟨go46, co46, eo46, gb46, gl46, cl46, HG46⟩ := Kd.N_form HO_13.out (by omega)
            (first | cases eo46 | (injection eo46 with ea_ en_ ec_; (first | subst ea_ | (injection ea_ with ea_; subst ea_)); subst ec_; clear en_))
            have GB46 := Aside0.mk gb46
            have GG46 := Aside0.mk HG46
            clear gb46 gl46 HG46
            obtain ⟨ce46, hcl46, hM46, hcc46, hfr46⟩ := Kd.N_elem HO_13.out z41 (x14_2 : Int) p46 q46
            obtain ⟨ua46_1, uc46_1, ua46_3, uc46_3, rfl, ul46_1, ge46_1, ul46_3, ge46_3⟩ := k41_openF hM46
            have hx46_0 : wr.cell? ⟨go46, (x14_2 : Int).toNat * 5, none⟩ = some (.int .i64 ((rd_T41 x13_2 x14_2).f0)) := hcc46 0 _ rfl
            have hx46_1 : wr.cell? ⟨go46, (x14_2 : Int).toNat * 5 + 1, none⟩ = some (.slice ua46_1 ((rd_T41 x13_2 x14_2).f1).length uc46_1) := hcc46 1 _ rfl
            have hx46_2 : wr.cell? ⟨go46, (x14_2 : Int).toNat * 5 + 2, none⟩ = some (.int .i64 ((rd_T41 x13_2 x14_2).f2.f0)) := hcc46 2 _ rfl
            have hx46_3 : wr.cell? ⟨go46, (x14_2 : Int).toNat * 5 + 3, none⟩ = some (.slice ua46_3 ((rd_T41 x13_2 x14_2).f2.f1).length uc46_3) := hcc46 3 _ rfl
            have hx46_4 : wr.cell? ⟨go46, (x14_2 : Int).toNat * 5 + 4, none⟩ = some (.int .i64 ((rd_T41 x13_2 x14_2).f3)) := hcc46 4 _ rfl
            have hf46_0 : wr.frozen? ⟨go46, (x14_2 : Int).toNat * 5, none⟩ = false := hfr46 0
            have hf46_1 : wr.frozen? ⟨go46, (x14_2 : Int).toNat * 5 + 1, none⟩ = false := hfr46 1
            have hf46_2 : wr.frozen? ⟨go46, (x14_2 : Int).toNat * 5 + 2, none⟩ = false := hfr46 2
            have hf46_3 : wr.frozen? ⟨go46, (x14_2 : Int).toNat * 5 + 3, none⟩ = false := hfr46 3
            have hf46_4 : wr.frozen? ⟨go46, (x14_2 : Int).toNat * 5 + 4, none⟩ = false := hfr46 4
            clear hcl46 hcc46 hfr46 hM46
            replace p46 := eq_true p46
            replace q46 := eq_true q46
            have HX48 := Aside0.mk (show Kd.N k41 41 wr w.heap.size (fun k_ => some k_ ≠ (.slice Ao28 y261.length co28 : Value).ownBlock ∧ some k_ ≠ (v278 : Value).ownBlock ∧ some k_ ≠ (v281 : Value).ownBlock) (.slice (some ⟨go46, 0, none⟩) x13_2.length co47) x13_2 from (by (with_reducible repeat (first | apply Kd.N_alloc | apply Kd.N_drewN | apply Kd.N_drew)); exact HO_13.out))
            obtain ⟨ce48, hcl48, hM48, hcc48, hfr48⟩ := Kd.N_elem HX48.out z41 (x14_2 : Int) (of_decide_eq_true (by first | (with_reducible assumption) | assumption)) (by have h_ : (x14_2 : Int) < ((x13_2.length : Int) : Int) := of_decide_eq_true (by first | (with_reducible assumption) | assumption); first | exact h_ | (have e_ := (Kd.N_reads' HO_13.out).1; omega) | simpa using h_)
            obtain ⟨ua48_1, uc48_1, ua48_3, uc48_3, rfl, ul48_1, ge48_1, ul48_3, ge48_3⟩ := k41_openF hM48
            have HP48 := Kd.N_seg HX48.out (x14_2 : Int) (of_decide_eq_true (by first | (with_reducible assumption) | assumption)) (by have h_ : (x14_2 : Int) < ((x13_2.length : Int) : Int) := of_decide_eq_true (by first | (with_reducible assumption) | assumption); first | exact h_ | (have e_ := (Kd.N_reads' HO_13.out).1; omega) | simpa using h_) (seg := [.int .i64 t292]) (j := 4) hcl48 hcc48 (show 5 ≤ 5 from by decide) (x' := (⟨(rd_T41 x13_2 x14_2).f0, (rd_T41 x13_2 x14_2).f1, (⟨(rd_T41 x13_2 x14_2).f2.f0, (rd_T41 x13_2 x14_2).f2.f1⟩ : S39), t292⟩ : S41)) (k41_mkF _ _ (⟨(rd_T41 x13_2 x14_2).f0, (rd_T41 x13_2 x14_2).f1, (⟨(rd_T41 x13_2 x14_2).f2.f0, (rd_T41 x13_2 x14_2).f2.f1⟩ : S39), t292⟩ : S41) ul48_1 ge48_1 ul48_3 ge48_3) (fun _ hk => hk)
            have hx48_4 := hcc48 4 _ rfl
            (try simp only [show (k41).sz = 5 from rfl, Nat.mul_one, Nat.add_zero] at hx48_4)
            have hf48_4 := hfr48 4
            (try simp only [show (k41).sz = 5 from rfl, Nat.mul_one, Nat.add_zero] at hf48_4)
            clear hcl48 hcc48 hfr48 hM48
            go_wp2
            obtain ⟨w49, hw⟩ : ∃ w49, w49 = wr.setCell ⟨go46, (x14_2 : Int).toNat * 5 + 4, none⟩ (.int .i64 t292) := ⟨_, rfl⟩
            rw [← hw]
            have hg : wr.grownBy w49 (some go46) := (by rw [hw]; exact HP48.2)
            have hp_ : Kd.N k41 41 w49 w.heap.size (fun k_ => some k_ ≠ (.slice Ao28 y261.length co28 : Value).ownBlock ∧ some k_ ≠ (v278 : Value).ownBlock ∧ some k_ ≠ (v281 : Value).ownBlock) (.slice (some ⟨go46, 0, none⟩) x13_2.length co47) y293 := (by rw [hw, Ny293.out]; exact HP48.1)
            clear HP48
            have n0_ := Aside0.mk (Kd.N_afterv (v := (.slice (some ⟨go46, 0, none⟩) x13_2.length co47)) (v1 := (.slice (some ⟨go46, 0, none⟩) x13_2.length co47)) (ok := (fun k_ => some k_ ≠ (v278 : Value).ownBlock ∧ some k_ ≠ (v281 : Value).ownBlock ∧ some k_ ≠ (.slice Ao42 t283.length co42 : Value).ownBlock)) (by (with_reducible repeat (first | apply Kd.N_alloc | apply Kd.N_drewN | apply Kd.N_drew)); exact Kd.N_mono HO_9.out (fun _ hk => ⟨⟨hk.1, ⟨hk.2.1, hk.2.2.1⟩⟩, hk.2.2.2⟩)) hg (.inl rfl))
            have n1_ := Aside0.mk (Kd.N_afterv (v := (.slice (some ⟨go46, 0, none⟩) x13_2.length co47)) (v1 := (.slice (some ⟨go46, 0, none⟩) x13_2.length co47)) (ok := (fun k_ => some k_ ≠ (v281 : Value).ownBlock ∧ some k_ ≠ (.slice Ao42 t283.length co42 : Value).ownBlock)) (by (with_reducible repeat (first | apply Kd.N_alloc | apply Kd.N_drewN | apply Kd.N_drew)); exact Kd.N_mono HO_10.out (fun _ hk => ⟨⟨hk.1, hk.2.1⟩, hk.2.2⟩)) hg (.inl rfl))
            have n2_ := Aside0.mk (Kd.R_over' (v := (.slice (some ⟨go46, 0, none⟩) x13_2.length co47)) (by (with_reducible repeat (first | apply Kd.R_alloc | apply Kd.R_drewN | apply Kd.R_drew)); exact HO_11.out) (Kd.N_typed HO_13.out) (by decide) hg)
            have n3_ := Aside0.mk (Kd.N_afterv (v := (.slice (some ⟨go46, 0, none⟩) x13_2.length co47)) (v1 := (.slice (some ⟨go46, 0, none⟩) x13_2.length co47)) (ok := (fun k_ => some k_ ≠ (.slice Ao28 y261.length co28 : Value).ownBlock ∧ some k_ ≠ (v278 : Value).ownBlock ∧ some k_ ≠ (v281 : Value).ownBlock)) (by (with_reducible repeat (first | apply Kd.N_alloc | apply Kd.N_drewN | apply Kd.N_drew)); exact Kd.N_mono HO_12.out (fun _ hk => ⟨⟨hk.1, ⟨hk.2.1, hk.2.2.1⟩⟩, hk.2.2.2⟩)) hg (.inl rfl))
            have n4_ := Aside0.mk (hp_)
            have n5_ := Aside0.mk ((by rw [hw]; exact below_set (HB.out) GB46.out : Below w.heap.size w w49))
            clear HO_9
            clear HO_10
            clear HO_11
            clear HO_12
            clear HO_13
            clear HB
            have HO_9 := n0_
            have HO_10 := n1_
            have HO_11 := n2_
            have HO_12 := n3_
            have HO_13 := n4_
            have HB := n5_
            clear n0_ n1_ n2_ n3_ n4_ n5_
            clear hg hw hp_
            go_roundg k2
            case measure => have := HJ6.out; have := HK2.out; omega
            case rel => exact ⟨(y293), (wrap64 (x14_2 + 1)), (by first | rfl | (simp; done) | (simp [*]; done)), H', ⟨by have := HJ6.out; have := HK2.out; omega⟩, ⟨by (with_reducible repeat (first | apply Kd.N_alloc | apply Kd.N_drewN | apply Kd.N_drew)); exact Kd.N_mono HO_9.out (fun _ hk => ⟨hk.1.1, ⟨hk.1.2.1, ⟨hk.1.2.2, hk.2⟩⟩⟩)⟩, ⟨by (with_reducible repeat (first | apply Kd.N_alloc | apply Kd.N_drewN | apply Kd.N_drew)); exact Kd.N_mono HO_10.out (fun _ hk => ⟨hk.1.1, ⟨hk.1.2, hk.2⟩⟩)⟩, ⟨by (with_reducible repeat (first | apply Kd.R_alloc | apply Kd.R_drewN | apply Kd.R_drew)); exact HO_11.out⟩, ⟨by (with_reducible repeat (first | apply Kd.N_alloc | apply Kd.N_drewN | apply Kd.N_drew)); exact Kd.N_mono HO_12.out (fun _ hk => ⟨hk.1.1, ⟨hk.1.2.1, ⟨hk.1.2.2, hk.2⟩⟩⟩)⟩, ⟨by (with_reducible repeat (first | apply Kd.N_alloc | apply Kd.N_drewN | apply Kd.N_drew)); exact HO_13.out⟩, ⟨by repeat (first | (with_reducible first | exact HB.out | apply below_alloc | apply pw_below_drewN | apply below_drew1) | exact HB.out)⟩⟩
           ·rw [if_neg c45] at H
            exact absurd H (by simp)
          ·rw [if_neg c43] at H
           have c43b0 : decide (x14_2 < (x13_2.length : Int)) = false := decide_eq_false c43
           clear c43
           obtain ⟨ji50, hji50⟩ : ∃ j_ : Int, (mn (l1.length : Int) 5) = j_ := ⟨_, rfl⟩
           replace H : (l7_ChartTwice.l1 k2 l1 a2 y261 y277 y280 t283 x13_2 ([] : List (S31)) ji50 0) = some r := by first | (rw [hji50] at H; exact H) | (simp only [hji50] at H ⊢; exact H)
           have hji50_ : (if 5 < (l1.length : Int) then 5 else (l1.length : Int)) = ji50 := hji50
           have H' := Aside0.mk H
           clear H
           obtain ⟨Ao51, co51, eo51⟩ := Kd.N_slice HO_13.out
           subst eo51
           go_wp2
           go_loopg [15, 17] k2 (fun kq v15 v17 w' => ∃ (x15_3 : List (S31)) (x17_3 : Int), v17 = .int .i64 x17_3 ∧ Aside0 (l7_ChartTwice.l1 kq l1 a2 y261 y277 y280 t283 x13_2 x15_3 ji50 x17_3 = some r) ∧ Aside0 (kq ≤ k2) ∧ Aside0 (Kd.N k41 41 w' w.heap.size (fun k_ => some k_ ≠ (v278 : Value).ownBlock ∧ some k_ ≠ (v281 : Value).ownBlock ∧ some k_ ≠ ((.slice Ao42 t283.length co42) : Value).ownBlock ∧ some k_ ≠ ((.slice Ao51 x13_2.length co51) : Value).ownBlock ∧ some k_ ≠ (v15 : Value).ownBlock) (.slice Ao28 y261.length co28) y261) ∧ Aside0 (Kd.N k41 41 w' w.heap.size (fun k_ => some k_ ≠ (v281 : Value).ownBlock ∧ some k_ ≠ ((.slice Ao42 t283.length co42) : Value).ownBlock ∧ some k_ ≠ ((.slice Ao51 x13_2.length co51) : Value).ownBlock ∧ some k_ ≠ (v15 : Value).ownBlock) v278 y277) ∧ Aside0 (Kd.R k31 31 w' w.heap.size (fun k_ => some k_ ≠ (v15 : Value).ownBlock) v281 y280) ∧ Aside0 (Kd.N k41 41 w' w.heap.size (fun k_ => some k_ ≠ ((.slice Ao28 y261.length co28) : Value).ownBlock ∧ some k_ ≠ (v278 : Value).ownBlock ∧ some k_ ≠ (v281 : Value).ownBlock ∧ some k_ ≠ ((.slice Ao51 x13_2.length co51) : Value).ownBlock ∧ some k_ ≠ (v15 : Value).ownBlock) (.slice Ao42 t283.length co42) t283) ∧ Aside0 (Kd.N k41 41 w' w.heap.size (fun k_ => some k_ ≠ ((.slice Ao28 y261.length co28) : Value).ownBlock ∧ some k_ ≠ (v278 : Value).ownBlock ∧ some k_ ≠ (v281 : Value).ownBlock ∧ some k_ ≠ (v15 : Value).ownBlock) (.slice Ao51 x13_2.length co51) x13_2) ∧ Aside0 (Kd.R k31 31 w' w.heap.size (fun k_ => some k_ ≠ (v281 : Value).ownBlock) v15 x15_3) ∧ Aside0 (Below w.heap.size w w'))
           case atStart => exact ⟨(([] : List (S31))), (0), (by first | rfl | (simp; done) | (simp [*]; done)), H', ⟨Nat.le_refl _⟩, ⟨by (with_reducible repeat (first | apply Kd.N_alloc | apply Kd.N_drewN | apply Kd.N_drew)); exact Kd.N_mono HO_9.out (fun _ hk => ⟨hk.1, ⟨hk.2.1, ⟨hk.2.2.1, ⟨hk.2.2.2, (by simp [Value.ownBlock])⟩⟩⟩⟩)⟩, ⟨by (with_reducible repeat (first | apply Kd.N_alloc | apply Kd.N_drewN | apply Kd.N_drew)); exact Kd.N_mono HO_10.out (fun _ hk => ⟨hk.1, ⟨hk.2.1, ⟨hk.2.2, (by simp [Value.ownBlock])⟩⟩⟩)⟩, ⟨by (with_reducible repeat (first | apply Kd.R_alloc | apply Kd.R_drewN | apply Kd.R_drew)); exact Kd.R_mono HO_11.out (fun _ hk => (by simp [Value.ownBlock]))⟩, ⟨by (with_reducible repeat (first | apply Kd.N_alloc | apply Kd.N_drewN | apply Kd.N_drew)); exact Kd.N_mono HO_12.out (fun _ hk => ⟨hk.1, ⟨hk.2.1, ⟨hk.2.2.1, ⟨hk.2.2.2, (by simp [Value.ownBlock])⟩⟩⟩⟩)⟩, ⟨by (with_reducible repeat (first | apply Kd.N_alloc | apply Kd.N_drewN | apply Kd.N_drew)); exact Kd.N_mono HO_13.out (fun _ hk => ⟨hk.1, ⟨hk.2.1, ⟨hk.2.2, (by simp [Value.ownBlock])⟩⟩⟩)⟩, ⟨by first | exact Kd.R_nil _ _ _ _ _ | exact Kd.N_nil _ _ _ _ _ | exact Kd.V_nil _ _ _ _ _ | exact Kd.Q_nil _ _ _ _ _ | exact Kd.S_nil _ _ _ _ _⟩, ⟨by repeat (first | (with_reducible first | exact HB.out | apply below_alloc | apply pw_below_drewN | apply below_drew1) | exact HB.out)⟩⟩
           case round =>
            clear H'
            try clear c1
            try clear p2
            try clear c4
            try clear p4
            try clear q4
            try clear hx4
            try clear hf4
            try clear c5
            try clear c6
            try clear p6
            try clear c9
            try clear c10
            try clear c11
            try clear c12
            try clear c14
            try clear c16
            try clear c43
            try clear c43b0
            try clear c45
            try clear c45b0
            try clear c46
            try clear p46
            try clear q46
            try clear hx46
            try clear hf46
            try clear c48
            try clear hx48
            try clear hf48
            try clear hx46_0
            try clear hx46_1
            try clear hx46_2
            try clear hx46_3
            try clear hx46_4
            try clear hx48_4
            try clear p2
            try clear p46
            try clear q46
            obtain ⟨x15_3, x17_3, rfl, HA, HK3, HO_9, HO_10, HO_11, HO_12, HO_13, HO_15, HB⟩ := hrel
            cases gk with
            | zero => exact absurd HA.out (by simp [l7_ChartTwice.l1])
            | succ k3 =>
             have H := HA.out
             clear HA
             simp only [l7_ChartTwice.l1] at H
             by_cases c52 : x17_3 < ji50
             ·rw [if_pos c52] at H
              have c52b0 : decide (x17_3 < ji50) = true := decide_eq_true c52
              clear c52
              obtain ⟨y294, hy294⟩ : ∃ y_ : List Int, y_ = (([0, 1, 50] : List Int)) := ⟨_, rfl⟩
              replace H : (if 0 ≤ x17_3 then (if x17_3 < (l1.length : Int) then ((l7_within.f (rd l1 x17_3) 3).bind fun t298 => (if 0 ≤ t298 then (if t298 < (y294.length : Int) then (if x15_3.length < 3518437208883 then (l7_ChartTwice.l1 k3 l1 a2 y261 y277 y280 t283 x13_2 (x15_3 ++ [(⟨x17_3, wrap64 (x17_3 + 1), rd y294 t298, 0, 0⟩ : S31)]) ji50 (wrap64 (x17_3 + 1))) else (none)) else (none)) else (none))) else (none)) else (none)) = some r := by first | (rw [hy294]; with_reducible exact H) | (have H2_ := (Option.bind_some _ _).symm.trans H; rw [hy294]; with_reducible exact H2_) | (have H2_ := (Option.bind_some _ _).symm.trans H; with_reducible exact H2_) | with_reducible exact H | (rw [hy294]; exact H) | exact H
              have Ny294 := Aside0.mk hy294
              clear hy294
              by_cases c53 : 0 ≤ x17_3
              ·rw [if_pos c53] at H
               have c53b0 : decide (0 ≤ x17_3) = true := decide_eq_true c53
               clear c53
               by_cases c54 : x17_3 < (l1.length : Int)
               ·rw [if_pos c54] at H
                have c54b0 : decide (x17_3 < (l1.length : Int)) = true := decide_eq_true c54
                clear c54
                replace H := Option.bind_eq_some_iff.mp H
                obtain ⟨t298, A550, H⟩ := H
                replace H : (if 0 ≤ t298 then (if t298 < (y294.length : Int) then (if x15_3.length < 3518437208883 then (l7_ChartTwice.l1 k3 l1 a2 y261 y277 y280 t283 x13_2 (x15_3 ++ [(⟨x17_3, wrap64 (x17_3 + 1), rd y294 t298, 0, 0⟩ : S31)]) ji50 (wrap64 (x17_3 + 1))) else (none)) else (none)) else (none)) = some r := H
                have A55 := Aside0.mk A550
                clear A550
                by_cases c56 : 0 ≤ t298
                ·rw [if_pos c56] at H
                 have c56b0 : decide (0 ≤ t298) = true := decide_eq_true c56
                 clear c56
                 by_cases c57 : t298 < (y294.length : Int)
                 ·rw [if_pos c57] at H
                  have c57b0 : decide (t298 < (y294.length : Int)) = true := decide_eq_true c57
                  clear c57
                  by_cases c58 : x15_3.length < 3518437208883
                  ·rw [if_pos c58] at H
                   have LMc58 := Aside0.mk c58
                   clear c58
                   obtain ⟨y300, hy300⟩ : ∃ y_ : List (S31), y_ = (x15_3 ++ [(⟨x17_3, wrap64 (x17_3 + 1), rd y294 t298, 0, 0⟩ : S31)]) := ⟨_, rfl⟩
                   replace H : (l7_ChartTwice.l1 k3 l1 a2 y261 y277 y280 t283 x13_2 y300 ji50 (wrap64 (x17_3 + 1))) = some r := by first | (rw [hy300]; with_reducible exact H) | (have H2_ := (Option.bind_some _ _).symm.trans H; rw [hy300]; with_reducible exact H2_) | (have H2_ := (Option.bind_some _ _).symm.trans H; with_reducible exact H2_) | with_reducible exact H | (rw [hy300]; exact H) | exact H
                   have Ny300 := Aside0.mk hy300
                   clear hy300
                   have H' := Aside0.mk H
                   clear H
                   go_wp2_with (first | ((with_reducible refine gate_dst (N := 78) rfl ?_); (try (refine gate_guard (by rfl) ?_; dsimp only)); refine Kd.R_lit (Kd.int .i64) _ 3 ?hg (N := 78) ?hd (xs := ([0, 1, 50] : List Int)) (inner := [.int .i64 0, .int .i64 1, .int .i64 50]) (ok := fun _ => True) (okp := fun _ => True) ?hr ?hp (fun _ hk => hk) trivial (Below.refl _ _) (Nat.le_refl _) (by simp) ?_; (case hd => rfl); (case hg => rfl); (case hr => first | (go_simp; done) | (go_simp; rfl)); (case hp => exact (Reps.one (show Kd.M (Kd.int .i64) _ _ _ 0 [.int .i64 0] from rfl) (Reps.one (show Kd.M (Kd.int .i64) _ _ _ 1 [.int .i64 1] from rfl) (Reps.one (show Kd.M (Kd.int .i64) _ _ _ 50 [.int .i64 50] from rfl) (Reps.none _ _))))); intro v295 w59 ho60 hb hg_ hnew_; clear hg_ hnew_; (first | rw [← Ny294.out] at ho60 | (simp only [Int.reduceToNat] at ho60; rw [← Ny294.out] at ho60)); have n0_ := Aside0.mk (Kd.N_elder' (by (with_reducible repeat (first | apply Kd.N_alloc | apply Kd.N_drewN | apply Kd.N_drew)); exact HO_9.out) (Kd.R_base ho60) hb); have n1_ := Aside0.mk (Kd.N_elder' (by (with_reducible repeat (first | apply Kd.N_alloc | apply Kd.N_drewN | apply Kd.N_drew)); exact HO_10.out) (Kd.R_base ho60) hb); have n2_ := Aside0.mk (Kd.R_below (by (with_reducible repeat (first | apply Kd.R_alloc | apply Kd.R_drewN | apply Kd.R_drew)); exact HO_11.out) hb); have n3_ := Aside0.mk (Kd.N_elder' (by (with_reducible repeat (first | apply Kd.N_alloc | apply Kd.N_drewN | apply Kd.N_drew)); exact HO_12.out) (Kd.R_base ho60) hb); have n4_ := Aside0.mk (Kd.N_elder' (by (with_reducible repeat (first | apply Kd.N_alloc | apply Kd.N_drewN | apply Kd.N_drew)); exact HO_13.out) (Kd.R_base ho60) hb); have n5_ := Aside0.mk (Kd.R_below (by (with_reducible repeat (first | apply Kd.R_alloc | apply Kd.R_drewN | apply Kd.R_drew)); exact HO_15.out) hb); have n6_ := Aside0.mk (Kd.R_lower ho60 (below_size (by repeat (first | (with_reducible first | exact HB.out | apply below_alloc | apply pw_below_drewN | apply below_drew1) | exact HB.out)))); have n7_ := Aside0.mk (below_step (by repeat (first | (with_reducible first | exact HB.out | apply below_alloc | apply pw_below_drewN | apply below_drew1) | exact HB.out)) hb); clear HO_9; clear HO_10; clear HO_11; clear HO_12; clear HO_13; clear HO_15; clear HB; have HO_9 := n0_; have HO_10 := n1_; have HO_11 := n2_; have HO_12 := n3_; have HO_13 := n4_; have HO_15 := n5_; have HO296 := n6_; have HB := n7_; clear n0_ n1_ n2_ n3_ n4_ n5_ n6_ n7_; clear hb ho60; have p297 : 0 ≤ (x17_3 : Int) := of_decide_eq_true (by first | (with_reducible assumption) | assumption); have q297 : x17_3 < (l1.length : Int) := of_decide_eq_true (by first | (with_reducible assumption) | assumption); obtain ⟨ad297, e297, hx297_0⟩ := Kd.at_int HR1.out x17_3 p297 q297; cases e297; replace hx297_0 := (HB.out.cell (World.block_lt_of_cell? w _ hx297_0)).trans hx297_0; replace p297 := eq_true p297; replace q297 := eq_true q297) | ((with_reducible refine gate_callee (f := 12) rfl ?_); refine goesL_ (some 83) rfl rfl Try.func12 (by kernel_rfl) rfl #[.int .i64 (rd l1 x17_3), .int .i64 3] rfl (by (try simp only [List.map_toArray, List.map_cons, List.map_nil]); first | done | rfl | (simp only [List.length_drop, List.length_take]; rfl)) ?_; (with_reducible refine (l7_within.calls (rd l1 x17_3) 3 t298 _ A55.out).mono ?_); rintro e w' ⟨rfl, ⟨nd, rfl⟩⟩; refine ⟨_, rfl, ?_⟩; obtain ⟨Ao61, co61, eo61⟩ := Kd.R_slice HO296.out; subst eo61; have p299 : 0 ≤ (t298 : Int) := of_decide_eq_true (by first | (with_reducible assumption) | assumption); have q299 : t298 < (y294.length : Int) := of_decide_eq_true (by first | (with_reducible assumption) | assumption); obtain ⟨ad299, e299, hx299_0⟩ := Kd.at_int (Kd.R_reads' HO296.out).2.2 t298 p299 q299; cases e299; replace p299 := eq_true p299; replace q299 := eq_true q299) | ((with_reducible refine gate_builtin (b := .append) (xs := #[.tmp 74, .tmp 87]) rfl ?_); (try (refine gate_guard (by rfl) ?_; dsimp only)); at_builtin; refine Kd.R_append k31 (w0 := w) w.heap.size rfl (.tmp 74) (.tmp 87) 28 31 (.agg #[(.int .i64 0), (.int .i64 0), (.int .i64 0), (.int .i64 0), (.int .i64 0)]) 40 rfl Try.underlying28 info31 rfl (by decide) (by omega) u15 x15_3 (⟨x17_3, wrap64 (x17_3 + 1), rd y294 t298, 0, 0⟩ : S31) [.int .i64 x17_3, .int .i64 (wrap64 (x17_3 + 1)), .int .i64 (rd y294 t298), .int .i64 0, .int .i64 0] (fun k_ => some k_ ≠ (v281 : Value).ownBlock) (fun _ => False) rfl rfl ?aP (fun _ hk => hk.elim) ?aF ?aO ?aB ?aS ?aL ?_; (case aP => exact k31_mkM _ _ _ (⟨x17_3, wrap64 (x17_3 + 1), rd y294 t298, 0, 0⟩ : S31)); (case aB => exact (by repeat (first | (with_reducible first | exact HB.out | apply below_alloc | apply pw_below_drewN | apply below_drew1) | exact HB.out))); (case aF => exact (fun k_ hk => Kd.fresh' (Kd.R_lt (by (with_reducible repeat (first | apply Kd.R_alloc | apply Kd.R_drewN | apply Kd.R_drew)); exact HO_11.out)) k_ hk)); (case aO => exact (by (with_reducible repeat (first | apply Kd.R_alloc | apply Kd.R_drewN | apply Kd.R_drew)); exact HO_15.out)); (case aS => exact (below_size (by repeat (first | (with_reducible first | exact HB.out | apply below_alloc | apply pw_below_drewN | apply below_drew1) | exact HB.out)))); (case aL => have := LMc58.out; omega); intro v301 w62 ho hb hg hat; rw [← Ny300.out] at ho; have n0_ := Aside0.mk (Kd.N_afterv (ok := (fun k_ => some k_ ≠ (v278 : Value).ownBlock ∧ some k_ ≠ (v281 : Value).ownBlock ∧ some k_ ≠ (.slice Ao42 t283.length co42 : Value).ownBlock ∧ some k_ ≠ (.slice Ao51 x13_2.length co51 : Value).ownBlock ∧ some k_ ≠ (.slice (some ad299) y294.length co61 : Value).ownBlock)) (by (with_reducible repeat (first | apply Kd.N_alloc | apply Kd.N_drewN | apply Kd.N_drew)); exact Kd.N_mono HO_9.out (fun _ hk => ⟨⟨hk.1.1, ⟨hk.1.2.1, ⟨hk.1.2.2.1, ⟨hk.1.2.2.2.1, hk.2⟩⟩⟩⟩, hk.1.2.2.2.2⟩)) hg hat); have n1_ := Aside0.mk (Kd.N_afterv (ok := (fun k_ => some k_ ≠ (v281 : Value).ownBlock ∧ some k_ ≠ (.slice Ao42 t283.length co42 : Value).ownBlock ∧ some k_ ≠ (.slice Ao51 x13_2.length co51 : Value).ownBlock ∧ some k_ ≠ (.slice (some ad299) y294.length co61 : Value).ownBlock)) (by (with_reducible repeat (first | apply Kd.N_alloc | apply Kd.N_drewN | apply Kd.N_drew)); exact Kd.N_mono HO_10.out (fun _ hk => ⟨⟨hk.1.1, ⟨hk.1.2.1, ⟨hk.1.2.2.1, hk.2⟩⟩⟩, hk.1.2.2.2⟩)) hg hat); have n2_ := Aside0.mk (Kd.R_after (ok := (fun _ => True)) (by (with_reducible repeat (first | apply Kd.R_alloc | apply Kd.R_drewN | apply Kd.R_drew)); exact Kd.R_mono HO_11.out (fun _ hk => ⟨trivial, hk⟩)) hg hat); have n3_ := Aside0.mk (Kd.N_afterv (ok := (fun k_ => some k_ ≠ (.slice Ao28 y261.length co28 : Value).ownBlock ∧ some k_ ≠ (v278 : Value).ownBlock ∧ some k_ ≠ (v281 : Value).ownBlock ∧ some k_ ≠ (.slice Ao51 x13_2.length co51 : Value).ownBlock ∧ some k_ ≠ (.slice (some ad299) y294.length co61 : Value).ownBlock)) (by (with_reducible repeat (first | apply Kd.N_alloc | apply Kd.N_drewN | apply Kd.N_drew)); exact Kd.N_mono HO_12.out (fun _ hk => ⟨⟨hk.1.1, ⟨hk.1.2.1, ⟨hk.1.2.2.1, ⟨hk.1.2.2.2.1, hk.2⟩⟩⟩⟩, hk.1.2.2.2.2⟩)) hg hat); have n4_ := Aside0.mk (Kd.N_afterv (ok := (fun k_ => some k_ ≠ (.slice Ao28 y261.length co28 : Value).ownBlock ∧ some k_ ≠ (v278 : Value).ownBlock ∧ some k_ ≠ (v281 : Value).ownBlock ∧ some k_ ≠ (.slice (some ad299) y294.length co61 : Value).ownBlock)) (by (with_reducible repeat (first | apply Kd.N_alloc | apply Kd.N_drewN | apply Kd.N_drew)); exact Kd.N_mono HO_13.out (fun _ hk => ⟨⟨hk.1.1, ⟨hk.1.2.1, ⟨hk.1.2.2.1, hk.2⟩⟩⟩, hk.1.2.2.2⟩)) hg hat); have n5_ := Aside0.mk (Kd.R_over' (by (with_reducible repeat (first | apply Kd.R_alloc | apply Kd.R_drewN | apply Kd.R_drew)); exact HO296.out) (Kd.R_typed (by (with_reducible repeat (first | apply Kd.R_alloc | apply Kd.R_drewN | apply Kd.R_drew)); exact HO_15.out)) (by decide) hg); have n6_ := Aside0.mk (hb); have n7_ := Aside0.mk (ho); clear HO_9; clear HO_10; clear HO_11; clear HO_12; clear HO_13; clear HO296; clear HB; clear HO_15; have HO_9 := n0_; have HO_10 := n1_; have HO_11 := n2_; have HO_12 := n3_; have HO_13 := n4_; have HO296 := n5_; have HB := n6_; have HO302 := n7_; clear n0_ n1_ n2_ n3_ n4_ n5_ n6_ n7_; clear ho hb hg hat))
                   go_roundg k3
                   case measure => have := HJ6.out; have := HK2.out; have := HK3.out; omega
                   case rel => exact ⟨(y300), (wrap64 (x17_3 + 1)), (by first | rfl | (simp; done) | (simp [*]; done)), H', ⟨by have := HJ6.out; have := HK2.out; have := HK3.out; omega⟩, ⟨by (with_reducible repeat (first | apply Kd.N_alloc | apply Kd.N_drewN | apply Kd.N_drew)); exact Kd.N_mono HO_9.out (fun _ hk => ⟨hk.1.1, ⟨hk.1.2.1, ⟨hk.1.2.2.1, ⟨hk.1.2.2.2.1, hk.2⟩⟩⟩⟩)⟩, ⟨by (with_reducible repeat (first | apply Kd.N_alloc | apply Kd.N_drewN | apply Kd.N_drew)); exact Kd.N_mono HO_10.out (fun _ hk => ⟨hk.1.1, ⟨hk.1.2.1, ⟨hk.1.2.2.1, hk.2⟩⟩⟩)⟩, ⟨by (with_reducible repeat (first | apply Kd.R_alloc | apply Kd.R_drewN | apply Kd.R_drew)); (first | exact Kd.R_mono HO_11.out (fun _ hk => hk.2) | exact HO_11.out)⟩, ⟨by (with_reducible repeat (first | apply Kd.N_alloc | apply Kd.N_drewN | apply Kd.N_drew)); exact Kd.N_mono HO_12.out (fun _ hk => ⟨hk.1.1, ⟨hk.1.2.1, ⟨hk.1.2.2.1, ⟨hk.1.2.2.2.1, hk.2⟩⟩⟩⟩)⟩, ⟨by (with_reducible repeat (first | apply Kd.N_alloc | apply Kd.N_drewN | apply Kd.N_drew)); exact Kd.N_mono HO_13.out (fun _ hk => ⟨hk.1.1, ⟨hk.1.2.1, ⟨hk.1.2.2.1, hk.2⟩⟩⟩)⟩, ⟨by (with_reducible repeat (first | apply Kd.R_alloc | apply Kd.R_drewN | apply Kd.R_drew)); exact HO302.out⟩, ⟨by repeat (first | (with_reducible first | exact HB.out | apply below_alloc | apply pw_below_drewN | apply below_drew1) | exact HB.out)⟩⟩
                  ·rw [if_neg c58] at H
                   exact absurd H (by simp)
                 ·rw [if_neg c57] at H
                  exact absurd H (by simp)
                ·rw [if_neg c56] at H
                 exact absurd H (by simp)
               ·rw [if_neg c54] at H
                exact absurd H (by simp)
              ·rw [if_neg c53] at H
               exact absurd H (by simp)
             ·rw [if_neg c52] at H
              have c52b0 : decide (x17_3 < ji50) = false := decide_eq_false c52
              clear c52
              replace H := Option.bind_eq_some_iff.mp H
              obtain ⟨t303, A630, H⟩ := H
              replace H : ((chart_Count.f y261 y280 0 0 1 9).bind fun t304 => (if t304 = 1 then ((chart_Count.f y277 y280 0 0 1 9).bind fun t305 => (if t305 = 2 then ((chart_Count.f t283 x15_3 0 0 t303 1000).bind fun t306 => ((chart_Count.f x13_2 x15_3 0 0 t303 1000).bind fun t307 => (if t306 = t307 then ((chart_Spans.f t283 x15_3 ji50).bind fun t308 => ((chart_Spans.f x13_2 x15_3 ji50).bind fun t311 => (some ((t308.length : Int) == (t311.length : Int))))) else (some false)))) else (some false))) else (some false))) = some r := H
              have A63 := Aside0.mk A630
              clear A630
              replace H := Option.bind_eq_some_iff.mp H
              obtain ⟨t304, A640, H⟩ := H
              replace H : (if t304 = 1 then ((chart_Count.f y277 y280 0 0 1 9).bind fun t305 => (if t305 = 2 then ((chart_Count.f t283 x15_3 0 0 t303 1000).bind fun t306 => ((chart_Count.f x13_2 x15_3 0 0 t303 1000).bind fun t307 => (if t306 = t307 then ((chart_Spans.f t283 x15_3 ji50).bind fun t308 => ((chart_Spans.f x13_2 x15_3 ji50).bind fun t311 => (some ((t308.length : Int) == (t311.length : Int))))) else (some false)))) else (some false))) else (some false)) = some r := H
              have A64 := Aside0.mk A640
              clear A640
              by_cases c65 : t304 = 1
              ·rw [if_pos c65] at H
               have c65b0 : (t304 == 1) = true := beq_iff_eq.mpr c65
               have c65b1 : (t304 != 1) = false := bne_eq_false_iff_eq.mpr c65
               clear c65
               replace H := Option.bind_eq_some_iff.mp H
               obtain ⟨t305, A660, H⟩ := H
               replace H : (if t305 = 2 then ((chart_Count.f t283 x15_3 0 0 t303 1000).bind fun t306 => ((chart_Count.f x13_2 x15_3 0 0 t303 1000).bind fun t307 => (if t306 = t307 then ((chart_Spans.f t283 x15_3 ji50).bind fun t308 => ((chart_Spans.f x13_2 x15_3 ji50).bind fun t311 => (some ((t308.length : Int) == (t311.length : Int))))) else (some false)))) else (some false)) = some r := H
               have A66 := Aside0.mk A660
               clear A660
               by_cases c67 : t305 = 2
               ·rw [if_pos c67] at H
                have c67b0 : (t305 == 2) = true := beq_iff_eq.mpr c67
                have c67b1 : (t305 != 2) = false := bne_eq_false_iff_eq.mpr c67
                clear c67
                replace H := Option.bind_eq_some_iff.mp H
                obtain ⟨t306, A680, H⟩ := H
                replace H : ((chart_Count.f x13_2 x15_3 0 0 t303 1000).bind fun t307 => (if t306 = t307 then ((chart_Spans.f t283 x15_3 ji50).bind fun t308 => ((chart_Spans.f x13_2 x15_3 ji50).bind fun t311 => (some ((t308.length : Int) == (t311.length : Int))))) else (some false))) = some r := H
                have A68 := Aside0.mk A680
                clear A680
                replace H := Option.bind_eq_some_iff.mp H
                obtain ⟨t307, A690, H⟩ := H
                replace H : (if t306 = t307 then ((chart_Spans.f t283 x15_3 ji50).bind fun t308 => ((chart_Spans.f x13_2 x15_3 ji50).bind fun t311 => (some ((t308.length : Int) == (t311.length : Int))))) else (some false)) = some r := H
                have A69 := Aside0.mk A690
                clear A690
                by_cases c70 : t306 = t307
                ·rw [if_pos c70] at H
                 have c70b0 : (t306 == t307) = true := beq_iff_eq.mpr c70
                 have c70b1 : (t306 != t307) = false := bne_eq_false_iff_eq.mpr c70
                 clear c70
                 replace H := Option.bind_eq_some_iff.mp H
                 obtain ⟨t308, A710, H⟩ := H
                 replace H : ((chart_Spans.f x13_2 x15_3 ji50).bind fun t311 => (some ((t308.length : Int) == (t311.length : Int)))) = some r := H
                 have A71 := Aside0.mk A710
                 clear A710
                 replace H := Option.bind_eq_some_iff.mp H
                 obtain ⟨t311, A720, H⟩ := H
                 replace H : (some ((t308.length : Int) == (t311.length : Int))) = some r := H
                 have A72 := Aside0.mk A720
                 clear A720
                 obtain rfl := Option.some.inj H
                 go_wp2_with (first | (go_at_call 12; (with_reducible refine (l7_within.calls a2 (ji50 + 1) t303 _ (by have h9 := A63.out; rwa [show wrap64 (ji50 + 1) = ji50 + 1 by unfold wrap64; omega] at h9)).mono ?_); rintro e w' ⟨rfl, ⟨nd, rfl⟩⟩; obtain ⟨Ao73, co73, eo73⟩ := Kd.R_slice HO_11.out; subst eo73) | (go_at_call 14; (with_reducible refine (chart_Count.calls _ _ y261 _ _ y280 0 0 1 9 t304 _ ?side1 ?side2 ?side3 ?side4 A64.out).mono ?_); (case side1 => repeat (first | exact (Kd.N_reads' HO_9.out).2.2 | (with_reducible refine Kd.C_alloc ?_ _) | (with_reducible refine Kd.C_drewN ?_ _) | (with_reducible refine Kd.C_drew ?_))); (case side2 => exact (Kd.N_reads' HO_9.out).2.1); (case side3 => repeat (first | exact (Kd.R_reads' HO_11.out).2.2 | (with_reducible refine Kd.C_alloc ?_ _) | (with_reducible refine Kd.C_drewN ?_ _) | (with_reducible refine Kd.C_drew ?_))); (case side4 => exact (Kd.R_reads' HO_11.out).2.1); rintro e w74 ⟨rfl, hb⟩; have n0_ := Aside0.mk (Kd.N_below (by (with_reducible repeat (first | apply Kd.N_alloc | apply Kd.N_drewN | apply Kd.N_drew)); exact HO_9.out) hb); have n1_ := Aside0.mk (Kd.N_below (by (with_reducible repeat (first | apply Kd.N_alloc | apply Kd.N_drewN | apply Kd.N_drew)); exact HO_10.out) hb); have n2_ := Aside0.mk (Kd.R_below (by (with_reducible repeat (first | apply Kd.R_alloc | apply Kd.R_drewN | apply Kd.R_drew)); exact HO_11.out) hb); have n3_ := Aside0.mk (Kd.N_below (by (with_reducible repeat (first | apply Kd.N_alloc | apply Kd.N_drewN | apply Kd.N_drew)); exact HO_12.out) hb); have n4_ := Aside0.mk (Kd.N_below (by (with_reducible repeat (first | apply Kd.N_alloc | apply Kd.N_drewN | apply Kd.N_drew)); exact HO_13.out) hb); have n5_ := Aside0.mk (Kd.R_below (by (with_reducible repeat (first | apply Kd.R_alloc | apply Kd.R_drewN | apply Kd.R_drew)); exact HO_15.out) hb); have n6_ := Aside0.mk (below_step (by repeat (first | (with_reducible first | exact HB.out | apply below_alloc | apply pw_below_drewN | apply below_drew1) | exact HB.out)) hb); clear HO_9; clear HO_10; clear HO_11; clear HO_12; clear HO_13; clear HO_15; clear HB; have HO_9 := n0_; have HO_10 := n1_; have HO_11 := n2_; have HO_12 := n3_; have HO_13 := n4_; have HO_15 := n5_; have HB := n6_; clear n0_ n1_ n2_ n3_ n4_ n5_ n6_; (try clear hb); (try clear hb2); (try clear hk); (try clear hi); obtain ⟨Ao75, co75, eo75⟩ := Kd.N_slice HO_10.out; subst eo75) | (go_at_call 14; (with_reducible refine (chart_Count.calls _ _ y277 _ _ y280 0 0 1 9 t305 _ ?side1 ?side2 ?side3 ?side4 A66.out).mono ?_); (case side1 => repeat (first | exact (Kd.N_reads' HO_10.out).2.2 | (with_reducible refine Kd.C_alloc ?_ _) | (with_reducible refine Kd.C_drewN ?_ _) | (with_reducible refine Kd.C_drew ?_))); (case side2 => exact (Kd.N_reads' HO_10.out).2.1); (case side3 => repeat (first | exact (Kd.R_reads' HO_11.out).2.2 | (with_reducible refine Kd.C_alloc ?_ _) | (with_reducible refine Kd.C_drewN ?_ _) | (with_reducible refine Kd.C_drew ?_))); (case side4 => exact (Kd.R_reads' HO_11.out).2.1); rintro e w76 ⟨rfl, hb⟩; have n0_ := Aside0.mk (Kd.N_below (by (with_reducible repeat (first | apply Kd.N_alloc | apply Kd.N_drewN | apply Kd.N_drew)); exact HO_9.out) hb); have n1_ := Aside0.mk (Kd.N_below (by (with_reducible repeat (first | apply Kd.N_alloc | apply Kd.N_drewN | apply Kd.N_drew)); exact HO_10.out) hb); have n2_ := Aside0.mk (Kd.R_below (by (with_reducible repeat (first | apply Kd.R_alloc | apply Kd.R_drewN | apply Kd.R_drew)); exact HO_11.out) hb); have n3_ := Aside0.mk (Kd.N_below (by (with_reducible repeat (first | apply Kd.N_alloc | apply Kd.N_drewN | apply Kd.N_drew)); exact HO_12.out) hb); have n4_ := Aside0.mk (Kd.N_below (by (with_reducible repeat (first | apply Kd.N_alloc | apply Kd.N_drewN | apply Kd.N_drew)); exact HO_13.out) hb); have n5_ := Aside0.mk (Kd.R_below (by (with_reducible repeat (first | apply Kd.R_alloc | apply Kd.R_drewN | apply Kd.R_drew)); exact HO_15.out) hb); have n6_ := Aside0.mk (below_step (by repeat (first | (with_reducible first | exact HB.out | apply below_alloc | apply pw_below_drewN | apply below_drew1) | exact HB.out)) hb); clear HO_9; clear HO_10; clear HO_11; clear HO_12; clear HO_13; clear HO_15; clear HB; have HO_9 := n0_; have HO_10 := n1_; have HO_11 := n2_; have HO_12 := n3_; have HO_13 := n4_; have HO_15 := n5_; have HB := n6_; clear n0_ n1_ n2_ n3_ n4_ n5_ n6_; (try clear hb); (try clear hb2); (try clear hk); (try clear hi); obtain ⟨Ao77, co77, eo77⟩ := Kd.R_slice HO_15.out; subst eo77) | (go_at_call 14; (with_reducible refine (chart_Count.calls _ _ t283 _ _ x15_3 0 0 t303 1000 t306 _ ?side1 ?side2 ?side3 ?side4 A68.out).mono ?_); (case side1 => repeat (first | exact (Kd.N_reads' HO_12.out).2.2 | (with_reducible refine Kd.C_alloc ?_ _) | (with_reducible refine Kd.C_drewN ?_ _) | (with_reducible refine Kd.C_drew ?_))); (case side2 => exact (Kd.N_reads' HO_12.out).2.1); (case side3 => repeat (first | exact (Kd.R_reads' HO_15.out).2.2 | (with_reducible refine Kd.C_alloc ?_ _) | (with_reducible refine Kd.C_drewN ?_ _) | (with_reducible refine Kd.C_drew ?_))); (case side4 => exact (Kd.R_reads' HO_15.out).2.1); rintro e w78 ⟨rfl, hb⟩; have n0_ := Aside0.mk (Kd.N_below (by (with_reducible repeat (first | apply Kd.N_alloc | apply Kd.N_drewN | apply Kd.N_drew)); exact HO_9.out) hb); have n1_ := Aside0.mk (Kd.N_below (by (with_reducible repeat (first | apply Kd.N_alloc | apply Kd.N_drewN | apply Kd.N_drew)); exact HO_10.out) hb); have n2_ := Aside0.mk (Kd.R_below (by (with_reducible repeat (first | apply Kd.R_alloc | apply Kd.R_drewN | apply Kd.R_drew)); exact HO_11.out) hb); have n3_ := Aside0.mk (Kd.N_below (by (with_reducible repeat (first | apply Kd.N_alloc | apply Kd.N_drewN | apply Kd.N_drew)); exact HO_12.out) hb); have n4_ := Aside0.mk (Kd.N_below (by (with_reducible repeat (first | apply Kd.N_alloc | apply Kd.N_drewN | apply Kd.N_drew)); exact HO_13.out) hb); have n5_ := Aside0.mk (Kd.R_below (by (with_reducible repeat (first | apply Kd.R_alloc | apply Kd.R_drewN | apply Kd.R_drew)); exact HO_15.out) hb); have n6_ := Aside0.mk (below_step (by repeat (first | (with_reducible first | exact HB.out | apply below_alloc | apply pw_below_drewN | apply below_drew1) | exact HB.out)) hb); clear HO_9; clear HO_10; clear HO_11; clear HO_12; clear HO_13; clear HO_15; clear HB; have HO_9 := n0_; have HO_10 := n1_; have HO_11 := n2_; have HO_12 := n3_; have HO_13 := n4_; have HO_15 := n5_; have HB := n6_; clear n0_ n1_ n2_ n3_ n4_ n5_ n6_; (try clear hb); (try clear hb2); (try clear hk); (try clear hi)) | (go_at_call 14; (with_reducible refine (chart_Count.calls _ _ x13_2 _ _ x15_3 0 0 t303 1000 t307 _ ?side1 ?side2 ?side3 ?side4 A69.out).mono ?_); (case side1 => repeat (first | exact (Kd.N_reads' HO_13.out).2.2 | (with_reducible refine Kd.C_alloc ?_ _) | (with_reducible refine Kd.C_drewN ?_ _) | (with_reducible refine Kd.C_drew ?_))); (case side2 => exact (Kd.N_reads' HO_13.out).2.1); (case side3 => repeat (first | exact (Kd.R_reads' HO_15.out).2.2 | (with_reducible refine Kd.C_alloc ?_ _) | (with_reducible refine Kd.C_drewN ?_ _) | (with_reducible refine Kd.C_drew ?_))); (case side4 => exact (Kd.R_reads' HO_15.out).2.1); rintro e w79 ⟨rfl, hb⟩; have n0_ := Aside0.mk (Kd.N_below (by (with_reducible repeat (first | apply Kd.N_alloc | apply Kd.N_drewN | apply Kd.N_drew)); exact HO_9.out) hb); have n1_ := Aside0.mk (Kd.N_below (by (with_reducible repeat (first | apply Kd.N_alloc | apply Kd.N_drewN | apply Kd.N_drew)); exact HO_10.out) hb); have n2_ := Aside0.mk (Kd.R_below (by (with_reducible repeat (first | apply Kd.R_alloc | apply Kd.R_drewN | apply Kd.R_drew)); exact HO_11.out) hb); have n3_ := Aside0.mk (Kd.N_below (by (with_reducible repeat (first | apply Kd.N_alloc | apply Kd.N_drewN | apply Kd.N_drew)); exact HO_12.out) hb); have n4_ := Aside0.mk (Kd.N_below (by (with_reducible repeat (first | apply Kd.N_alloc | apply Kd.N_drewN | apply Kd.N_drew)); exact HO_13.out) hb); have n5_ := Aside0.mk (Kd.R_below (by (with_reducible repeat (first | apply Kd.R_alloc | apply Kd.R_drewN | apply Kd.R_drew)); exact HO_15.out) hb); have n6_ := Aside0.mk (below_step (by repeat (first | (with_reducible first | exact HB.out | apply below_alloc | apply pw_below_drewN | apply below_drew1) | exact HB.out)) hb); clear HO_9; clear HO_10; clear HO_11; clear HO_12; clear HO_13; clear HO_15; clear HB; have HO_9 := n0_; have HO_10 := n1_; have HO_11 := n2_; have HO_12 := n3_; have HO_13 := n4_; have HO_15 := n5_; have HB := n6_; clear n0_ n1_ n2_ n3_ n4_ n5_ n6_; (try clear hb); (try clear hb2); (try clear hk); (try clear hi)) | (go_at_call 13; (with_reducible refine (chart_Spans.calls _ _ t283 _ _ x15_3 ji50 t308 _ ?side1 ?side2 ?side3 ?side4 A71.out).mono ?_); (case side1 => repeat (first | exact (Kd.N_reads' HO_12.out).2.2 | (with_reducible refine Kd.C_alloc ?_ _) | (with_reducible refine Kd.C_drewN ?_ _) | (with_reducible refine Kd.C_drew ?_))); (case side2 => exact (Kd.N_reads' HO_12.out).2.1); (case side3 => repeat (first | exact (Kd.R_reads' HO_15.out).2.2 | (with_reducible refine Kd.C_alloc ?_ _) | (with_reducible refine Kd.C_drewN ?_ _) | (with_reducible refine Kd.C_drew ?_))); (case side4 => exact (Kd.R_reads' HO_15.out).2.1); rintro e w80 ⟨v309, rfl, ho0, hb⟩; have n0_ := Aside0.mk (Kd.N_elder' (by (with_reducible repeat (first | apply Kd.N_alloc | apply Kd.N_drewN | apply Kd.N_drew)); exact HO_9.out) (Kd.R_base ho0) hb); have n1_ := Aside0.mk (Kd.N_elder' (by (with_reducible repeat (first | apply Kd.N_alloc | apply Kd.N_drewN | apply Kd.N_drew)); exact HO_10.out) (Kd.R_base ho0) hb); have n2_ := Aside0.mk (Kd.R_below (by (with_reducible repeat (first | apply Kd.R_alloc | apply Kd.R_drewN | apply Kd.R_drew)); exact HO_11.out) hb); have n3_ := Aside0.mk (Kd.N_elder' (by (with_reducible repeat (first | apply Kd.N_alloc | apply Kd.N_drewN | apply Kd.N_drew)); exact HO_12.out) (Kd.R_base ho0) hb); have n4_ := Aside0.mk (Kd.N_elder' (by (with_reducible repeat (first | apply Kd.N_alloc | apply Kd.N_drewN | apply Kd.N_drew)); exact HO_13.out) (Kd.R_base ho0) hb); have n5_ := Aside0.mk (Kd.R_below (by (with_reducible repeat (first | apply Kd.R_alloc | apply Kd.R_drewN | apply Kd.R_drew)); exact HO_15.out) hb); have n6_ := Aside0.mk (Kd.R_lower ho0 (below_size (by repeat (first | (with_reducible first | exact HB.out | apply below_alloc | apply pw_below_drewN | apply below_drew1) | exact HB.out)))); have n7_ := Aside0.mk (below_step (by repeat (first | (with_reducible first | exact HB.out | apply below_alloc | apply pw_below_drewN | apply below_drew1) | exact HB.out)) hb); clear HO_9; clear HO_10; clear HO_11; clear HO_12; clear HO_13; clear HO_15; clear HB; have HO_9 := n0_; have HO_10 := n1_; have HO_11 := n2_; have HO_12 := n3_; have HO_13 := n4_; have HO_15 := n5_; have HO310 := n6_; have HB := n7_; clear n0_ n1_ n2_ n3_ n4_ n5_ n6_ n7_; (try clear hb); (try clear hb2); (try clear hk); (try clear hi); (try clear ho0); obtain ⟨Ao81, co81, eo81⟩ := Kd.R_slice HO310.out; subst eo81) | (go_at_call 13; (with_reducible refine (chart_Spans.calls _ _ x13_2 _ _ x15_3 ji50 t311 _ ?side1 ?side2 ?side3 ?side4 A72.out).mono ?_); (case side1 => repeat (first | exact (Kd.N_reads' HO_13.out).2.2 | (with_reducible refine Kd.C_alloc ?_ _) | (with_reducible refine Kd.C_drewN ?_ _) | (with_reducible refine Kd.C_drew ?_))); (case side2 => exact (Kd.N_reads' HO_13.out).2.1); (case side3 => repeat (first | exact (Kd.R_reads' HO_15.out).2.2 | (with_reducible refine Kd.C_alloc ?_ _) | (with_reducible refine Kd.C_drewN ?_ _) | (with_reducible refine Kd.C_drew ?_))); (case side4 => exact (Kd.R_reads' HO_15.out).2.1); rintro e w82 ⟨v312, rfl, ho0, hb⟩; have n0_ := Aside0.mk (Kd.N_elder' (by (with_reducible repeat (first | apply Kd.N_alloc | apply Kd.N_drewN | apply Kd.N_drew)); exact HO_9.out) (Kd.R_base ho0) hb); have n1_ := Aside0.mk (Kd.N_elder' (by (with_reducible repeat (first | apply Kd.N_alloc | apply Kd.N_drewN | apply Kd.N_drew)); exact HO_10.out) (Kd.R_base ho0) hb); have n2_ := Aside0.mk (Kd.R_below (by (with_reducible repeat (first | apply Kd.R_alloc | apply Kd.R_drewN | apply Kd.R_drew)); exact HO_11.out) hb); have n3_ := Aside0.mk (Kd.N_elder' (by (with_reducible repeat (first | apply Kd.N_alloc | apply Kd.N_drewN | apply Kd.N_drew)); exact HO_12.out) (Kd.R_base ho0) hb); have n4_ := Aside0.mk (Kd.N_elder' (by (with_reducible repeat (first | apply Kd.N_alloc | apply Kd.N_drewN | apply Kd.N_drew)); exact HO_13.out) (Kd.R_base ho0) hb); have n5_ := Aside0.mk (Kd.R_below (by (with_reducible repeat (first | apply Kd.R_alloc | apply Kd.R_drewN | apply Kd.R_drew)); exact HO_15.out) hb); have n6_ := Aside0.mk (Kd.R_elder' (by (with_reducible repeat (first | apply Kd.R_alloc | apply Kd.R_drewN | apply Kd.R_drew)); exact HO310.out) (Kd.R_base ho0) hb); have n7_ := Aside0.mk (Kd.R_lower (Kd.R_new' ho0 (Kd.R_lt (by (with_reducible repeat (first | apply Kd.R_alloc | apply Kd.R_drewN | apply Kd.R_drew)); exact HO310.out))) (below_size (by repeat (first | (with_reducible first | exact HB.out | apply below_alloc | apply pw_below_drewN | apply below_drew1) | exact HB.out)))); have n8_ := Aside0.mk (below_step (by repeat (first | (with_reducible first | exact HB.out | apply below_alloc | apply pw_below_drewN | apply below_drew1) | exact HB.out)) hb); clear HO_9; clear HO_10; clear HO_11; clear HO_12; clear HO_13; clear HO_15; clear HO310; clear HB; have HO_9 := n0_; have HO_10 := n1_; have HO_11 := n2_; have HO_12 := n3_; have HO_13 := n4_; have HO_15 := n5_; have HO310 := n6_; have HO313 := n7_; have HB := n8_; clear n0_ n1_ n2_ n3_ n4_ n5_ n6_ n7_ n8_; (try clear hb); (try clear hb2); (try clear hk); (try clear hi); (try clear ho0); obtain ⟨Ao83, co83, eo83⟩ := Kd.R_slice HO313.out; subst eo83))
                 go_ret
                 exact ⟨by first | rfl | (simp [errW_none, errW_some] <;> rfl) | (simp only [← hji50]; first | rfl | (simp [errW_none, errW_some] <;> rfl)) | (simp [*, errW_none, errW_some] <;> rfl), by repeat (first | (with_reducible first | exact HB.out | apply below_alloc | apply pw_below_drewN | apply below_drew1) | exact HB.out)⟩
                ·rw [if_neg c70] at H
                 have c70b0 : (t306 == t307) = false := beq_eq_false_iff_ne.mpr c70
                 have c70b1 : (t306 != t307) = true := bne_iff_ne.mpr c70
                 obtain rfl := Option.some.inj H
                 go_wp2_with (first | (go_at_call 12; (with_reducible refine (l7_within.calls a2 (ji50 + 1) t303 _ (by have h9 := A63.out; rwa [show wrap64 (ji50 + 1) = ji50 + 1 by unfold wrap64; omega] at h9)).mono ?_); rintro e w' ⟨rfl, ⟨nd, rfl⟩⟩; obtain ⟨Ao84, co84, eo84⟩ := Kd.R_slice HO_11.out; subst eo84) | (go_at_call 14; (with_reducible refine (chart_Count.calls _ _ y261 _ _ y280 0 0 1 9 t304 _ ?side1 ?side2 ?side3 ?side4 A64.out).mono ?_); (case side1 => repeat (first | exact (Kd.N_reads' HO_9.out).2.2 | (with_reducible refine Kd.C_alloc ?_ _) | (with_reducible refine Kd.C_drewN ?_ _) | (with_reducible refine Kd.C_drew ?_))); (case side2 => exact (Kd.N_reads' HO_9.out).2.1); (case side3 => repeat (first | exact (Kd.R_reads' HO_11.out).2.2 | (with_reducible refine Kd.C_alloc ?_ _) | (with_reducible refine Kd.C_drewN ?_ _) | (with_reducible refine Kd.C_drew ?_))); (case side4 => exact (Kd.R_reads' HO_11.out).2.1); rintro e w85 ⟨rfl, hb⟩; have n0_ := Aside0.mk (Kd.N_below (by (with_reducible repeat (first | apply Kd.N_alloc | apply Kd.N_drewN | apply Kd.N_drew)); exact HO_9.out) hb); have n1_ := Aside0.mk (Kd.N_below (by (with_reducible repeat (first | apply Kd.N_alloc | apply Kd.N_drewN | apply Kd.N_drew)); exact HO_10.out) hb); have n2_ := Aside0.mk (Kd.R_below (by (with_reducible repeat (first | apply Kd.R_alloc | apply Kd.R_drewN | apply Kd.R_drew)); exact HO_11.out) hb); have n3_ := Aside0.mk (Kd.N_below (by (with_reducible repeat (first | apply Kd.N_alloc | apply Kd.N_drewN | apply Kd.N_drew)); exact HO_12.out) hb); have n4_ := Aside0.mk (Kd.N_below (by (with_reducible repeat (first | apply Kd.N_alloc | apply Kd.N_drewN | apply Kd.N_drew)); exact HO_13.out) hb); have n5_ := Aside0.mk (Kd.R_below (by (with_reducible repeat (first | apply Kd.R_alloc | apply Kd.R_drewN | apply Kd.R_drew)); exact HO_15.out) hb); have n6_ := Aside0.mk (below_step (by repeat (first | (with_reducible first | exact HB.out | apply below_alloc | apply pw_below_drewN | apply below_drew1) | exact HB.out)) hb); clear HO_9; clear HO_10; clear HO_11; clear HO_12; clear HO_13; clear HO_15; clear HB; have HO_9 := n0_; have HO_10 := n1_; have HO_11 := n2_; have HO_12 := n3_; have HO_13 := n4_; have HO_15 := n5_; have HB := n6_; clear n0_ n1_ n2_ n3_ n4_ n5_ n6_; (try clear hb); (try clear hb2); (try clear hk); (try clear hi); obtain ⟨Ao86, co86, eo86⟩ := Kd.N_slice HO_10.out; subst eo86) | (go_at_call 14; (with_reducible refine (chart_Count.calls _ _ y277 _ _ y280 0 0 1 9 t305 _ ?side1 ?side2 ?side3 ?side4 A66.out).mono ?_); (case side1 => repeat (first | exact (Kd.N_reads' HO_10.out).2.2 | (with_reducible refine Kd.C_alloc ?_ _) | (with_reducible refine Kd.C_drewN ?_ _) | (with_reducible refine Kd.C_drew ?_))); (case side2 => exact (Kd.N_reads' HO_10.out).2.1); (case side3 => repeat (first | exact (Kd.R_reads' HO_11.out).2.2 | (with_reducible refine Kd.C_alloc ?_ _) | (with_reducible refine Kd.C_drewN ?_ _) | (with_reducible refine Kd.C_drew ?_))); (case side4 => exact (Kd.R_reads' HO_11.out).2.1); rintro e w87 ⟨rfl, hb⟩; have n0_ := Aside0.mk (Kd.N_below (by (with_reducible repeat (first | apply Kd.N_alloc | apply Kd.N_drewN | apply Kd.N_drew)); exact HO_9.out) hb); have n1_ := Aside0.mk (Kd.N_below (by (with_reducible repeat (first | apply Kd.N_alloc | apply Kd.N_drewN | apply Kd.N_drew)); exact HO_10.out) hb); have n2_ := Aside0.mk (Kd.R_below (by (with_reducible repeat (first | apply Kd.R_alloc | apply Kd.R_drewN | apply Kd.R_drew)); exact HO_11.out) hb); have n3_ := Aside0.mk (Kd.N_below (by (with_reducible repeat (first | apply Kd.N_alloc | apply Kd.N_drewN | apply Kd.N_drew)); exact HO_12.out) hb); have n4_ := Aside0.mk (Kd.N_below (by (with_reducible repeat (first | apply Kd.N_alloc | apply Kd.N_drewN | apply Kd.N_drew)); exact HO_13.out) hb); have n5_ := Aside0.mk (Kd.R_below (by (with_reducible repeat (first | apply Kd.R_alloc | apply Kd.R_drewN | apply Kd.R_drew)); exact HO_15.out) hb); have n6_ := Aside0.mk (below_step (by repeat (first | (with_reducible first | exact HB.out | apply below_alloc | apply pw_below_drewN | apply below_drew1) | exact HB.out)) hb); clear HO_9; clear HO_10; clear HO_11; clear HO_12; clear HO_13; clear HO_15; clear HB; have HO_9 := n0_; have HO_10 := n1_; have HO_11 := n2_; have HO_12 := n3_; have HO_13 := n4_; have HO_15 := n5_; have HB := n6_; clear n0_ n1_ n2_ n3_ n4_ n5_ n6_; (try clear hb); (try clear hb2); (try clear hk); (try clear hi); obtain ⟨Ao88, co88, eo88⟩ := Kd.R_slice HO_15.out; subst eo88) | (go_at_call 14; (with_reducible refine (chart_Count.calls _ _ t283 _ _ x15_3 0 0 t303 1000 t306 _ ?side1 ?side2 ?side3 ?side4 A68.out).mono ?_); (case side1 => repeat (first | exact (Kd.N_reads' HO_12.out).2.2 | (with_reducible refine Kd.C_alloc ?_ _) | (with_reducible refine Kd.C_drewN ?_ _) | (with_reducible refine Kd.C_drew ?_))); (case side2 => exact (Kd.N_reads' HO_12.out).2.1); (case side3 => repeat (first | exact (Kd.R_reads' HO_15.out).2.2 | (with_reducible refine Kd.C_alloc ?_ _) | (with_reducible refine Kd.C_drewN ?_ _) | (with_reducible refine Kd.C_drew ?_))); (case side4 => exact (Kd.R_reads' HO_15.out).2.1); rintro e w89 ⟨rfl, hb⟩; have n0_ := Aside0.mk (Kd.N_below (by (with_reducible repeat (first | apply Kd.N_alloc | apply Kd.N_drewN | apply Kd.N_drew)); exact HO_9.out) hb); have n1_ := Aside0.mk (Kd.N_below (by (with_reducible repeat (first | apply Kd.N_alloc | apply Kd.N_drewN | apply Kd.N_drew)); exact HO_10.out) hb); have n2_ := Aside0.mk (Kd.R_below (by (with_reducible repeat (first | apply Kd.R_alloc | apply Kd.R_drewN | apply Kd.R_drew)); exact HO_11.out) hb); have n3_ := Aside0.mk (Kd.N_below (by (with_reducible repeat (first | apply Kd.N_alloc | apply Kd.N_drewN | apply Kd.N_drew)); exact HO_12.out) hb); have n4_ := Aside0.mk (Kd.N_below (by (with_reducible repeat (first | apply Kd.N_alloc | apply Kd.N_drewN | apply Kd.N_drew)); exact HO_13.out) hb); have n5_ := Aside0.mk (Kd.R_below (by (with_reducible repeat (first | apply Kd.R_alloc | apply Kd.R_drewN | apply Kd.R_drew)); exact HO_15.out) hb); have n6_ := Aside0.mk (below_step (by repeat (first | (with_reducible first | exact HB.out | apply below_alloc | apply pw_below_drewN | apply below_drew1) | exact HB.out)) hb); clear HO_9; clear HO_10; clear HO_11; clear HO_12; clear HO_13; clear HO_15; clear HB; have HO_9 := n0_; have HO_10 := n1_; have HO_11 := n2_; have HO_12 := n3_; have HO_13 := n4_; have HO_15 := n5_; have HB := n6_; clear n0_ n1_ n2_ n3_ n4_ n5_ n6_; (try clear hb); (try clear hb2); (try clear hk); (try clear hi)) | (go_at_call 14; (with_reducible refine (chart_Count.calls _ _ x13_2 _ _ x15_3 0 0 t303 1000 t307 _ ?side1 ?side2 ?side3 ?side4 A69.out).mono ?_); (case side1 => repeat (first | exact (Kd.N_reads' HO_13.out).2.2 | (with_reducible refine Kd.C_alloc ?_ _) | (with_reducible refine Kd.C_drewN ?_ _) | (with_reducible refine Kd.C_drew ?_))); (case side2 => exact (Kd.N_reads' HO_13.out).2.1); (case side3 => repeat (first | exact (Kd.R_reads' HO_15.out).2.2 | (with_reducible refine Kd.C_alloc ?_ _) | (with_reducible refine Kd.C_drewN ?_ _) | (with_reducible refine Kd.C_drew ?_))); (case side4 => exact (Kd.R_reads' HO_15.out).2.1); rintro e w90 ⟨rfl, hb⟩; have n0_ := Aside0.mk (Kd.N_below (by (with_reducible repeat (first | apply Kd.N_alloc | apply Kd.N_drewN | apply Kd.N_drew)); exact HO_9.out) hb); have n1_ := Aside0.mk (Kd.N_below (by (with_reducible repeat (first | apply Kd.N_alloc | apply Kd.N_drewN | apply Kd.N_drew)); exact HO_10.out) hb); have n2_ := Aside0.mk (Kd.R_below (by (with_reducible repeat (first | apply Kd.R_alloc | apply Kd.R_drewN | apply Kd.R_drew)); exact HO_11.out) hb); have n3_ := Aside0.mk (Kd.N_below (by (with_reducible repeat (first | apply Kd.N_alloc | apply Kd.N_drewN | apply Kd.N_drew)); exact HO_12.out) hb); have n4_ := Aside0.mk (Kd.N_below (by (with_reducible repeat (first | apply Kd.N_alloc | apply Kd.N_drewN | apply Kd.N_drew)); exact HO_13.out) hb); have n5_ := Aside0.mk (Kd.R_below (by (with_reducible repeat (first | apply Kd.R_alloc | apply Kd.R_drewN | apply Kd.R_drew)); exact HO_15.out) hb); have n6_ := Aside0.mk (below_step (by repeat (first | (with_reducible first | exact HB.out | apply below_alloc | apply pw_below_drewN | apply below_drew1) | exact HB.out)) hb); clear HO_9; clear HO_10; clear HO_11; clear HO_12; clear HO_13; clear HO_15; clear HB; have HO_9 := n0_; have HO_10 := n1_; have HO_11 := n2_; have HO_12 := n3_; have HO_13 := n4_; have HO_15 := n5_; have HB := n6_; clear n0_ n1_ n2_ n3_ n4_ n5_ n6_; (try clear hb); (try clear hb2); (try clear hk); (try clear hi)))
                 go_ret
                 exact ⟨by first | rfl | (simp [errW_none, errW_some] <;> rfl) | (simp only [← hji50]; first | rfl | (simp [errW_none, errW_some] <;> rfl)) | (simp [*, errW_none, errW_some] <;> rfl), by repeat (first | (with_reducible first | exact HB.out | apply below_alloc | apply pw_below_drewN | apply below_drew1) | exact HB.out)⟩
               ·rw [if_neg c67] at H
                have c67b0 : (t305 == 2) = false := beq_eq_false_iff_ne.mpr c67
                have c67b1 : (t305 != 2) = true := bne_iff_ne.mpr c67
                obtain rfl := Option.some.inj H
                go_wp2_with (first | (go_at_call 12; (with_reducible refine (l7_within.calls a2 (ji50 + 1) t303 _ (by have h9 := A63.out; rwa [show wrap64 (ji50 + 1) = ji50 + 1 by unfold wrap64; omega] at h9)).mono ?_); rintro e w' ⟨rfl, ⟨nd, rfl⟩⟩; obtain ⟨Ao91, co91, eo91⟩ := Kd.R_slice HO_11.out; subst eo91) | (go_at_call 14; (with_reducible refine (chart_Count.calls _ _ y261 _ _ y280 0 0 1 9 t304 _ ?side1 ?side2 ?side3 ?side4 A64.out).mono ?_); (case side1 => repeat (first | exact (Kd.N_reads' HO_9.out).2.2 | (with_reducible refine Kd.C_alloc ?_ _) | (with_reducible refine Kd.C_drewN ?_ _) | (with_reducible refine Kd.C_drew ?_))); (case side2 => exact (Kd.N_reads' HO_9.out).2.1); (case side3 => repeat (first | exact (Kd.R_reads' HO_11.out).2.2 | (with_reducible refine Kd.C_alloc ?_ _) | (with_reducible refine Kd.C_drewN ?_ _) | (with_reducible refine Kd.C_drew ?_))); (case side4 => exact (Kd.R_reads' HO_11.out).2.1); rintro e w92 ⟨rfl, hb⟩; have n0_ := Aside0.mk (Kd.N_below (by (with_reducible repeat (first | apply Kd.N_alloc | apply Kd.N_drewN | apply Kd.N_drew)); exact HO_9.out) hb); have n1_ := Aside0.mk (Kd.N_below (by (with_reducible repeat (first | apply Kd.N_alloc | apply Kd.N_drewN | apply Kd.N_drew)); exact HO_10.out) hb); have n2_ := Aside0.mk (Kd.R_below (by (with_reducible repeat (first | apply Kd.R_alloc | apply Kd.R_drewN | apply Kd.R_drew)); exact HO_11.out) hb); have n3_ := Aside0.mk (Kd.N_below (by (with_reducible repeat (first | apply Kd.N_alloc | apply Kd.N_drewN | apply Kd.N_drew)); exact HO_12.out) hb); have n4_ := Aside0.mk (Kd.N_below (by (with_reducible repeat (first | apply Kd.N_alloc | apply Kd.N_drewN | apply Kd.N_drew)); exact HO_13.out) hb); have n5_ := Aside0.mk (Kd.R_below (by (with_reducible repeat (first | apply Kd.R_alloc | apply Kd.R_drewN | apply Kd.R_drew)); exact HO_15.out) hb); have n6_ := Aside0.mk (below_step (by repeat (first | (with_reducible first | exact HB.out | apply below_alloc | apply pw_below_drewN | apply below_drew1) | exact HB.out)) hb); clear HO_9; clear HO_10; clear HO_11; clear HO_12; clear HO_13; clear HO_15; clear HB; have HO_9 := n0_; have HO_10 := n1_; have HO_11 := n2_; have HO_12 := n3_; have HO_13 := n4_; have HO_15 := n5_; have HB := n6_; clear n0_ n1_ n2_ n3_ n4_ n5_ n6_; (try clear hb); (try clear hb2); (try clear hk); (try clear hi); obtain ⟨Ao93, co93, eo93⟩ := Kd.N_slice HO_10.out; subst eo93) | (go_at_call 14; (with_reducible refine (chart_Count.calls _ _ y277 _ _ y280 0 0 1 9 t305 _ ?side1 ?side2 ?side3 ?side4 A66.out).mono ?_); (case side1 => repeat (first | exact (Kd.N_reads' HO_10.out).2.2 | (with_reducible refine Kd.C_alloc ?_ _) | (with_reducible refine Kd.C_drewN ?_ _) | (with_reducible refine Kd.C_drew ?_))); (case side2 => exact (Kd.N_reads' HO_10.out).2.1); (case side3 => repeat (first | exact (Kd.R_reads' HO_11.out).2.2 | (with_reducible refine Kd.C_alloc ?_ _) | (with_reducible refine Kd.C_drewN ?_ _) | (with_reducible refine Kd.C_drew ?_))); (case side4 => exact (Kd.R_reads' HO_11.out).2.1); rintro e w94 ⟨rfl, hb⟩; have n0_ := Aside0.mk (Kd.N_below (by (with_reducible repeat (first | apply Kd.N_alloc | apply Kd.N_drewN | apply Kd.N_drew)); exact HO_9.out) hb); have n1_ := Aside0.mk (Kd.N_below (by (with_reducible repeat (first | apply Kd.N_alloc | apply Kd.N_drewN | apply Kd.N_drew)); exact HO_10.out) hb); have n2_ := Aside0.mk (Kd.R_below (by (with_reducible repeat (first | apply Kd.R_alloc | apply Kd.R_drewN | apply Kd.R_drew)); exact HO_11.out) hb); have n3_ := Aside0.mk (Kd.N_below (by (with_reducible repeat (first | apply Kd.N_alloc | apply Kd.N_drewN | apply Kd.N_drew)); exact HO_12.out) hb); have n4_ := Aside0.mk (Kd.N_below (by (with_reducible repeat (first | apply Kd.N_alloc | apply Kd.N_drewN | apply Kd.N_drew)); exact HO_13.out) hb); have n5_ := Aside0.mk (Kd.R_below (by (with_reducible repeat (first | apply Kd.R_alloc | apply Kd.R_drewN | apply Kd.R_drew)); exact HO_15.out) hb); have n6_ := Aside0.mk (below_step (by repeat (first | (with_reducible first | exact HB.out | apply below_alloc | apply pw_below_drewN | apply below_drew1) | exact HB.out)) hb); clear HO_9; clear HO_10; clear HO_11; clear HO_12; clear HO_13; clear HO_15; clear HB; have HO_9 := n0_; have HO_10 := n1_; have HO_11 := n2_; have HO_12 := n3_; have HO_13 := n4_; have HO_15 := n5_; have HB := n6_; clear n0_ n1_ n2_ n3_ n4_ n5_ n6_; (try clear hb); (try clear hb2); (try clear hk); (try clear hi)))
                go_ret
                exact ⟨by first | rfl | (simp [errW_none, errW_some] <;> rfl) | (simp only [← hji50]; first | rfl | (simp [errW_none, errW_some] <;> rfl)) | (simp [*, errW_none, errW_some] <;> rfl), by repeat (first | (with_reducible first | exact HB.out | apply below_alloc | apply pw_below_drewN | apply below_drew1) | exact HB.out)⟩
              ·rw [if_neg c65] at H
               have c65b0 : (t304 == 1) = false := beq_eq_false_iff_ne.mpr c65
               have c65b1 : (t304 != 1) = true := bne_iff_ne.mpr c65
               obtain rfl := Option.some.inj H
               go_wp2_with (first | (go_at_call 12; (with_reducible refine (l7_within.calls a2 (ji50 + 1) t303 _ (by have h9 := A63.out; rwa [show wrap64 (ji50 + 1) = ji50 + 1 by unfold wrap64; omega] at h9)).mono ?_); rintro e w' ⟨rfl, ⟨nd, rfl⟩⟩; obtain ⟨Ao95, co95, eo95⟩ := Kd.R_slice HO_11.out; subst eo95) | (go_at_call 14; (with_reducible refine (chart_Count.calls _ _ y261 _ _ y280 0 0 1 9 t304 _ ?side1 ?side2 ?side3 ?side4 A64.out).mono ?_); (case side1 => repeat (first | exact (Kd.N_reads' HO_9.out).2.2 | (with_reducible refine Kd.C_alloc ?_ _) | (with_reducible refine Kd.C_drewN ?_ _) | (with_reducible refine Kd.C_drew ?_))); (case side2 => exact (Kd.N_reads' HO_9.out).2.1); (case side3 => repeat (first | exact (Kd.R_reads' HO_11.out).2.2 | (with_reducible refine Kd.C_alloc ?_ _) | (with_reducible refine Kd.C_drewN ?_ _) | (with_reducible refine Kd.C_drew ?_))); (case side4 => exact (Kd.R_reads' HO_11.out).2.1); rintro e w96 ⟨rfl, hb⟩; have n0_ := Aside0.mk (Kd.N_below (by (with_reducible repeat (first | apply Kd.N_alloc | apply Kd.N_drewN | apply Kd.N_drew)); exact HO_9.out) hb); have n1_ := Aside0.mk (Kd.N_below (by (with_reducible repeat (first | apply Kd.N_alloc | apply Kd.N_drewN | apply Kd.N_drew)); exact HO_10.out) hb); have n2_ := Aside0.mk (Kd.R_below (by (with_reducible repeat (first | apply Kd.R_alloc | apply Kd.R_drewN | apply Kd.R_drew)); exact HO_11.out) hb); have n3_ := Aside0.mk (Kd.N_below (by (with_reducible repeat (first | apply Kd.N_alloc | apply Kd.N_drewN | apply Kd.N_drew)); exact HO_12.out) hb); have n4_ := Aside0.mk (Kd.N_below (by (with_reducible repeat (first | apply Kd.N_alloc | apply Kd.N_drewN | apply Kd.N_drew)); exact HO_13.out) hb); have n5_ := Aside0.mk (Kd.R_below (by (with_reducible repeat (first | apply Kd.R_alloc | apply Kd.R_drewN | apply Kd.R_drew)); exact HO_15.out) hb); have n6_ := Aside0.mk (below_step (by repeat (first | (with_reducible first | exact HB.out | apply below_alloc | apply pw_below_drewN | apply below_drew1) | exact HB.out)) hb); clear HO_9; clear HO_10; clear HO_11; clear HO_12; clear HO_13; clear HO_15; clear HB; have HO_9 := n0_; have HO_10 := n1_; have HO_11 := n2_; have HO_12 := n3_; have HO_13 := n4_; have HO_15 := n5_; have HB := n6_; clear n0_ n1_ n2_ n3_ n4_ n5_ n6_; (try clear hb); (try clear hb2); (try clear hk); (try clear hi)))
               go_ret
               exact ⟨by first | rfl | (simp [errW_none, errW_some] <;> rfl) | (simp only [← hji50]; first | rfl | (simp [errW_none, errW_some] <;> rfl)) | (simp [*, errW_none, errW_some] <;> rfl), by repeat (first | (with_reducible first | exact HB.out | apply below_alloc | apply pw_below_drewN | apply below_drew1) | exact HB.out)⟩
       ·rw [if_neg c16] at H
        exact absurd H (by simp)
      ·rw [if_neg c14] at H
       exact absurd H (by simp)
     ·rw [if_neg c12] at H
      exact absurd H (by simp)
 ·replace c6 := Bool.eq_false_iff.mpr c6
  subst c6
  have H1 : (some false) = some r := by rw [if_neg (show ¬ (false = true) by decide)] at H; exact H
  clear H
  have H := H1
  clear H1
  obtain rfl := Option.some.inj H
  go_enter Try.func5, Try.ntmps5
  go_wp2_with (first | ((with_reducible refine gate_callee (f := 9) rfl ?_); refine goesL_ (some 19) rfl rfl Try.func9 (by kernel_rfl) rfl #[] rfl (by (try simp only [List.map_toArray, List.map_cons, List.map_nil]); first | done | rfl | (simp only [List.length_drop, List.length_take]; rfl)) ?_; (with_reducible refine (l7_known.calls  false _ A5.out).mono ?_); rintro e w97 ⟨rfl, hb⟩; refine ⟨_, rfl, ?_⟩; have n0_ := Aside0.mk (below_step (by repeat (first | (with_reducible first | exact HB.out | apply below_alloc | apply pw_below_drewN | apply below_drew1) | exact HB.out)) hb); clear HB; have HB := n0_; clear n0_; (try clear hb); (try clear hb2); (try clear hk); (try clear hi)))
  go_ret
  exact ⟨by first | rfl | (simp [errW_none, errW_some] <;> rfl) | (simp [*, errW_none, errW_some] <;> rfl), by repeat (first | (with_reducible first | exact HB.out | apply below_alloc | apply pw_below_drewN | apply below_drew1) | exact HB.out)⟩
end Go.Proofs.Ytjfbfhoipgldgaa.P
end
section
namespace Go.Proofs.Ytjfbfhoipgldgaa.P
open Go.RowKit Go.Proofs.YtjfbfhoipgldgaaW.PrintWords Go.Proofs.YtjfbfhoipgldgaaW.PrintLast Go.Proofs.YtjfbfhoipgldgaaW.PrintMore
attribute [local go_sem] max2_int min2_int max_two min_two max_three min_three max_four min_four   
set_option linter.unusedVariables false
set_option linter.unusedSimpArgs false
theorem check_flat (l : List Rule') (h1 : l.length ≤ 60) (h2 : l.all rightR = true) (h3 : ∀ r ∈ l, ∀ y, r.f1 = [y] → y < 0) : checkP l = true :=
 (checkP_iff l).2 ⟨h1, h2, fun x hx => no_round l id (fun r hr y hy _ hs => absurd (h3 r hr y hy) (by have := hs.1; omega)) x hx⟩
theorem tok_fwd (toks : List Tok') (h : ∀ x ∈ toks, x.f0 < x.f1) : Chart.Fwd (tokT toks) := by
 intro x p q hpq
 refine Classical.byContradiction fun hx => hpq ?_
 unfold tokT at hx
 obtain ⟨t, ht⟩ := List.exists_mem_of_ne_nil (toks.filter fun t => decide (tkKey t = (-1 - x, (p : Int), (q : Int)))) (fun e => hx (by rw [e]; rfl))
 rw [List.mem_filter] at ht
 have h2 := of_decide_eq_true ht.2
 unfold tkKey at h2
 injection h2 with _ h2
 injection h2 with h2 h3
 have := h t ht.1
 omega
def rowTok (i : Nat) : Tok' := ⟨(i : Int), (i : Int) + 1, 0, 0, 1⟩
def rowL (k : Nat) : List Tok' := (List.range k).map rowTok
theorem rowL_succ (k : Nat) : rowL (k + 1) = rowL k ++ [rowTok k] := by
 unfold rowL
 rw [List.range_succ, List.map_append]
 rfl
theorem rowL_length (k : Nat) : (rowL k).length = k := by simp [rowL]
theorem rowL_mem (k : Nat) (x : Tok') (h : x ∈ rowL k) : ∃ i, i < k ∧ x = rowTok i := by
 obtain ⟨i, hi, rfl⟩ := List.mem_map.1 h
 exact ⟨i, List.mem_range.1 hi, rfl⟩
theorem tokT_row (p q : Nat) : ∀ k, tokT (rowL k) (-1) p q = if q = p + 1 ∧ p < k then 1 else 0
 | 0 => by simp [tokT, rowL]
 | k + 1 => by
  have ih := tokT_row p q k
  have e : tokT (rowL (k + 1)) (-1) p q = tokT (rowL k) (-1) p q + ([rowTok k].filter fun t => decide (tkKey t = (-1 - -1, (p : Int), (q : Int)))).length := by
   unfold tokT
   rw [rowL_succ, List.filter_append, List.length_append]
  rw [e, ih]
  by_cases h : k = p ∧ q = p + 1
  ·obtain ⟨rfl, rfl⟩ := h
   rw [List.filter_cons_of_pos (by unfold tkKey rowTok; simp)]
   simp
  ·rw [List.filter_cons_of_neg (by
    unfold tkKey rowTok
    simp only [decide_eq_true_eq, Prod.mk.injEq, not_and]
    intro _ h1 h2
    omega)]
   by_cases h2 : q = p + 1 ∧ p < k
   ·rw [if_pos h2, if_pos ⟨h2.1, by omega⟩]; rfl
   ·rw [if_neg h2, if_neg (by omega)]; rfl
theorem row_ok (rules : List Rule') (k n : Nat) (hr : rules.length ≤ 1000000) (hk : k ≤ n) (hk2 : k ≤ 1000) : okIn rules (rowL k) n = true := by
 refine (okIn_iff _ _ _).2 ⟨hr, by rw [rowL_length]; exact hk2, fun x hx => ?_⟩
 obtain ⟨i, hi, rfl⟩ := rowL_mem k x hx
 unfold rowTok
 simp only
 omega
theorem row_size : ∀ k, sizeL (rowL k) = (k : Int)
 | 0 => rfl
 | k + 1 => by
  have ih := row_size k
  unfold sizeL at ih ⊢
  rw [rowL_succ, List.foldl_append, ih]
  show max (k : Int) ((k : Int) + 1) = ((k + 1 : Nat) : Int)
  omega
theorem row_toks (k : Nat) : ∀ x ∈ rowL k, 0 ≤ x.f0 ∧ x.f0 < x.f1 ∧ x.f1 ≤ (k : Int) := fun x hx => by
 obtain ⟨i, hi, rfl⟩ := rowL_mem k x hx
 unfold rowTok
 simp only
 omega
def triN (k : Nat) : Nat := (((List.range (20 * (k + 1) * (k + 1))).map (decS (k + 1))).filter fun x => decide (x.f0 = 0 ∧ x.f1 < x.f2)).length
set_option maxRecDepth 100000 in
theorem tri_eq : ∀ k : Fin 13, triN k.val = k.val * (k.val + 1) / 2 := by decide +kernel
theorem spans_tri (rules : List Rule') (toks : List Tok') (k : Nat) (hk : k ≤ 12) (hch : checkP rules = true) (h : ∀ (s : Int) (p q : Nat), numP rules toks k s p q ≠ 0 ↔ s = 0 ∧ p < q ∧ q ≤ k) : (spansP rules toks k).length = k * (k + 1) / 2 := by
 have h1 := tri_eq ⟨k, by omega⟩
 rw [← h1]
 unfold spansP triN
 rw [if_pos hch]
 congr 1
 refine List.filter_congr fun x hx => ?_
 obtain ⟨i, _, rfl⟩ := List.mem_map.1 hx
 have hq : i % (k + 1) < k + 1 := Nat.mod_lt _ (Nat.succ_pos k)
 rw [decide_eq_decide, h]
 unfold decS
 simp only [Int.toNat_natCast]
 omega
theorem pairs_num (rules : List Rule') (hr : plainR rules = [(0, [0, 0]), (0, [-1])] ∨ plainR rules = [(0, [-1]), (0, [0, 0])]) (hch : checkP rules = true) (k : Nat) (hk : k ≤ 10) (s : Int) (p q : Nat) :
  numP rules (rowL k) k s p q = if s = 0 ∧ p < q ∧ q ≤ k then Chart.catF (q - p) else 0 := by
 have hf : Chart.Fwd (tokT (rowL k)) := tok_fwd _ fun x hx => (row_toks k x hx).2.1
 have hne := plain_ne rules hch
 by_cases hs : s = 0
 ·subst hs
  by_cases hpq : p < q
  ·by_cases hq : q ≤ k
   ·rw [if_pos ⟨rfl, hpq, hq⟩]
    refine Chart.brackets (tokT (rowL k)) k (plainR rules) hr hf (fun p q hpq hq => ?_) hk (q - p) p q rfl hpq hq
    rw [tokT_row]
    by_cases e : q = p + 1
    ·rw [if_pos ⟨e, by omega⟩, if_pos e]
    ·rw [if_neg (fun h => e h.1), if_neg e]
   ·rw [if_neg (fun h => hq h.2.2)]
    exact Classical.byContradiction fun h => hq (num_tok rules hch (rowL k) k k (row_toks k) 0 p q h).2
  ·rw [if_neg (fun h => hpq h.2.1)]
   exact Chart.Num_fwd _ _ _ hf hne 0 p q hpq
 ·rw [if_neg (fun h => hs h.1)]
  refine Chart.brackets_other _ _ _ (fun r h => ?_) hne s hs p q
  rcases hr with hr | hr <;> rw [hr] at h <;> simp at h <;> rcases h with rfl | rfl <;> rfl
theorem catF_pos : ∀ d : Fin 11, 1 ≤ d.val → Chart.catF d.val ≠ 0 := by decide
theorem pairs_spans (rules : List Rule') (hr : plainR rules = [(0, [0, 0]), (0, [-1])] ∨ plainR rules = [(0, [-1]), (0, [0, 0])]) (hch : checkP rules = true) (k : Nat) (hk : k ≤ 10) : (spansP rules (rowL k) k).length = k * (k + 1) / 2 := by
 refine spans_tri rules (rowL k) k (by omega) hch fun s p q => ?_
 rw [pairs_num rules hr hch k hk]
 by_cases h : s = 0 ∧ p < q ∧ q ≤ k
 ·rw [if_pos h]
  exact ⟨fun _ => h, fun _ => catF_pos ⟨q - p, by omega⟩ (by show 1 ≤ q - p; omega)⟩
 ·rw [if_neg h]
  exact ⟨fun h1 => absurd rfl h1, fun h1 => absurd h1 h⟩
theorem count_row (rules : List Rule') (hl : rules.length ≤ 1000000) (hch : checkP rules = true) (k : Nat) (hk0 : 1 ≤ k) (hk : k ≤ 1000) (most : Int) (h0 : 0 ≤ most) (h1 : most ≤ 1000000000) :
  chart_Count.f rules (rowL k) 0 0 (k : Int) most = some ((min (numP rules (rowL k) k 0 0 k) most.toNat : Nat) : Int) := by
 unfold chart_Count.f
 rw [if_pos ⟨⟨⟨⟨by omega, by omega⟩, ⟨by omega, by omega⟩, ⟨by omega, by omega⟩, ⟨by omega, by omega⟩⟩, h1⟩, row_ok rules k 1000000 hl (by omega) hk⟩]
 unfold countP
 congr 1
 by_cases hm : most ≤ 0
 ·rw [if_pos (.inl hm)]
  have : most = 0 := by omega
  subst this
  simp
 ·rw [if_neg (by omega), row_size, if_neg (by omega), if_pos hch]
  simp only [Int.toNat_natCast]
  rfl
def oneR : Rule' := ⟨0, [-1], ⟨8, [0]⟩, 0⟩
def pairR : Rule' := ⟨0, [0, 0], ⟨0, [0]⟩, 0⟩
theorem known_check : checkP [oneR, pairR] = true := check_flat _ (by decide) (by decide) (fun r hr y hy => by simp at hr; rcases hr with rfl | rfl <;> simp [oneR, pairR] at hy <;> omega)
theorem known_true : l7_known.f = some true := by
 have hs : chart_Spans.f [oneR, pairR] (rowL 3) 3 = some (spansP [oneR, pairR] (rowL 3) 3) := by
  unfold chart_Spans.f
  rw [if_pos ⟨by decide, row_ok _ 3 3 (by decide) (Nat.le_refl _) (by decide)⟩]
  rfl
 have hs0 : chart_Spans.f [] [] 0 = some (spansP [] [] 0) := by
  unfold chart_Spans.f
  rw [if_pos ⟨by decide, by decide⟩]
  rfl
 have hl := pairs_spans [oneR, pairR] (.inr rfl) known_check 3 (by decide)
 have hl0 : (spansP [] [] 0).length = 0 := by
  refine List.length_eq_zero_iff.2 (List.eq_nil_iff_forall_not_mem.2 fun x hx => ?_)
  obtain ⟨hch, s, p, q, rfl, hn⟩ := (spansP_mem [] [] 0 (by simp) x).1 hx
  obtain ⟨r, hr, _⟩ := num_lhs _ _ _ _ _ _ hn
  simp [plainR] at hr
 have hc : chart_Count.f [oneR, pairR] (rowL 3) 0 0 3 100 = some 2 := by
  have h := count_row [oneR, pairR] (by decide) known_check 3 (by decide) (by decide) 100 (by decide) (by decide)
  rw [pairs_num [oneR, pairR] (.inr rfl) known_check 3 (by decide)] at h
  exact h
 have hc1 : chart_Count.f [oneR, pairR] (rowL 3) 0 1 1 100 = some 0 := by
  unfold chart_Count.f
  rw [if_pos ⟨⟨⟨⟨by omega, by omega⟩, ⟨by omega, by omega⟩, ⟨by omega, by omega⟩, ⟨by omega, by omega⟩⟩, by omega⟩, row_ok _ 3 1000000 (by decide) (by omega) (by omega)⟩]
  unfold countP
  rw [if_pos (.inr (.inr (by omega)))]
 show ((some [oneR, pairR]).bind fun y129 => (some (rowL 3)).bind fun y132 => (chart_Spans.f y129 y132 3).bind fun t135 => (chart_Spans.f ([] : List Rule') ([] : List Tok') 0).bind fun t138 => (if (t138.length : Int) = 0 then (if (t135.length : Int) = 6 then ((chart_Count.f y129 y132 0 0 3 100).bind fun t141 => (if t141 = 2 then ((chart_Count.f y129 y132 0 1 1 100).bind fun t142 => (some (t142 == 0))) else (some false))) else (some false)) else (some false))) = some true
 rw [Option.bind_some, Option.bind_some, hs, Option.bind_some, hs0, Option.bind_some, hl0, hl, hc, hc1]
 rfl
end Go.Proofs.Ytjfbfhoipgldgaa.P
end
section
namespace Go.Proofs.Ytjfbfhoipgldgaa.P
open Go.RowKit Go.Proofs.YtjfbfhoipgldgaaW.PrintWords Go.Proofs.YtjfbfhoipgldgaaW.PrintLast Go.Proofs.YtjfbfhoipgldgaaW.PrintMore
attribute [local go_sem] max2_int min2_int max_two min_two max_three min_three max_four min_four   
set_option linter.unusedVariables false
set_option linter.unusedSimpArgs false
def genTok (c v : Nat → Int) (l : Int) (i : Nat) : Tok' := ⟨(i : Int), (i : Int) + 1, c i, v i, l⟩
def genL (c v : Nat → Int) (l : Int) (k : Nat) : List Tok' := (List.range k).map (genTok c v l)
theorem genL_succ (c v : Nat → Int) (l : Int) (k : Nat) : genL c v l (k + 1) = genL c v l k ++ [genTok c v l k] := by
 unfold genL
 rw [List.range_succ, List.map_append]
 rfl
theorem genL_len (c v : Nat → Int) (l : Int) (k : Nat) : (genL c v l k).length = k := by simp [genL]
theorem genL_toks (c v : Nat → Int) (l : Int) (k : Nat) : ∀ x ∈ genL c v l k, 0 ≤ x.f0 ∧ x.f0 < x.f1 ∧ x.f1 ≤ (k : Int) := fun x hx => by
 obtain ⟨i, hi, rfl⟩ := List.mem_map.1 hx
 have := List.mem_range.1 hi
 unfold genTok
 simp only
 omega
theorem genL_size (c v : Nat → Int) (l : Int) : ∀ k, sizeL (genL c v l k) = (k : Int)
 | 0 => rfl
 | k + 1 => by
  have ih := genL_size c v l k
  unfold sizeL at ih ⊢
  rw [genL_succ, List.foldl_append, ih]
  show max (k : Int) ((k : Int) + 1) = ((k + 1 : Nat) : Int)
  omega
theorem genL_ok (rules : List Rule') (c v : Nat → Int) (l : Int) (hc : ∀ i, -1000000 ≤ c i ∧ c i ≤ 1000000) (k n : Nat) (hr : rules.length ≤ 1000000) (hk : k ≤ n) (hk2 : k ≤ 1000) : okIn rules (genL c v l k) n = true := by
 refine (okIn_iff _ _ _).2 ⟨hr, by rw [genL_len]; exact hk2, fun x hx => ?_⟩
 have h1 := genL_toks c v l k x hx
 obtain ⟨i, hi, rfl⟩ := List.mem_map.1 hx
 exact ⟨⟨h1.1, h1.2.1, by omega⟩, hc i⟩
theorem count_gen (rules : List Rule') (hl : rules.length ≤ 1000000) (hch : checkP rules = true) (c v : Nat → Int) (l : Int) (hc : ∀ i, -1000000 ≤ c i ∧ c i ≤ 1000000) (k s p q : Nat) (hk : k ≤ 1000) (hs : s ≤ 1000) (hp : p ≤ k) (hq : q ≤ k) (most : Int) (h0 : 0 < most) (h1 : most ≤ 1000000000) :
  chart_Count.f rules (genL c v l k) (s : Int) (p : Int) (q : Int) most = some ((min (numP rules (genL c v l k) k (s : Int) p q) most.toNat : Nat) : Int) := by
 unfold chart_Count.f
 rw [if_pos ⟨⟨⟨⟨by omega, by omega⟩, ⟨by omega, by omega⟩, ⟨by omega, by omega⟩, ⟨by omega, by omega⟩⟩, h1⟩, genL_ok rules c v l hc k 1000000 hl (by omega) hk⟩]
 unfold countP
 congr 1
 by_cases hm : q ≤ p
 ·rw [if_pos (.inr (.inr (by omega)))]
  have hf : Chart.Fwd (tokT (genL c v l k)) := tok_fwd _ fun x hx => (genL_toks c v l k x hx).2.1
  have h9 : numP rules (genL c v l k) k (s : Int) p q = 0 := Chart.Num_fwd _ _ _ hf (plain_ne rules hch) _ p q (by omega)
  rw [h9]
  simp
 ·rw [if_neg (by omega), genL_size, if_neg (by omega), if_pos hch]
  simp only [Int.toNat_natCast]
  rfl
end Go.Proofs.Ytjfbfhoipgldgaa.P
end
section
namespace Go.Proofs.Ytjfbfhoipgldgaa.P
open Go.RowKit Go.Proofs.YtjfbfhoipgldgaaW.PrintWords Go.Proofs.YtjfbfhoipgldgaaW.PrintLast Go.Proofs.YtjfbfhoipgldgaaW.PrintMore
attribute [local go_sem] max2_int min2_int max_two min_two max_three min_three max_four min_four   
set_option linter.unusedVariables false
set_option linter.unusedSimpArgs false
theorem within7_rem (a n : Int) (hn : 0 < n) (hn2 : n ≤ 4611686018427387904) : l7_within.f a n = some (a % n) := by
 unfold l7_within.f
 have h1 := Int.emod_nonneg a (by omega : n ≠ 0)
 have h2 := Int.emod_lt_of_pos a hn
 have h4 : (n.natAbs : Int) = n := by omega
 rw [if_neg (by omega)]
 have h3 := @Int.tmod_eq_emod a n
 by_cases hd : 0 ≤ a ∨ n ∣ a
 ·rw [if_pos hd] at h3
  rw [if_neg (by omega), h3]
  congr 1
  omega
 ·rw [if_neg hd, h4] at h3
  rw [if_pos (by omega), h3]
  congr 1
  unfold wrap64
  omega
end Go.Proofs.Ytjfbfhoipgldgaa.P
end
section
namespace Go.Proofs.Ytjfbfhoipgldgaa.P
open Go.RowKit Go.Proofs.YtjfbfhoipgldgaaW.PrintWords Go.Proofs.YtjfbfhoipgldgaaW.PrintLast Go.Proofs.YtjfbfhoipgldgaaW.PrintMore
attribute [local go_sem] max2_int min2_int max_two min_two max_three min_three max_four min_four   
set_option linter.unusedVariables false
set_option linter.unusedSimpArgs false
theorem within_rem (a n : Int) (hn : 0 < n) (hn2 : n ≤ 4611686018427387904) : l4_within.f a n = some (a % n) := by
 unfold l4_within.f
 have h1 := Int.emod_nonneg a (by omega : n ≠ 0)
 have h2 := Int.emod_lt_of_pos a hn
 have h4 : (n.natAbs : Int) = n := by omega
 rw [if_neg (by omega)]
 have h3 := @Int.tmod_eq_emod a n
 by_cases hd : 0 ≤ a ∨ n ∣ a
 ·rw [if_pos hd] at h3
  rw [if_neg (by omega), h3]
  congr 1
  omega
 ·rw [if_neg hd, h4] at h3
  rw [if_pos (by omega), h3]
  congr 1
  unfold wrap64
  omega
theorem rem_ge (a n : Int) (hn : 0 < n) : 0 ≤ a % n := Int.emod_nonneg a (by omega)
theorem rem_lt (a n : Int) (hn : 0 < n) : a % n < n := Int.emod_lt_of_pos a hn
theorem as_fin {x n : Int} (m : Nat) (hm : n = m) (h0 : 0 ≤ x) (h1 : x < n) : ∃ i : Fin m, x = ((i.val : Nat) : Int) := ⟨⟨x.toNat, by omega⟩, by simp; omega⟩
end Go.Proofs.Ytjfbfhoipgldgaa.P
end
section
namespace Go.Proofs.Ytjfbfhoipgldgaa.P
open Go.RowKit Go.Proofs.YtjfbfhoipgldgaaW.PrintWords Go.Proofs.YtjfbfhoipgldgaaW.PrintLast Go.Proofs.YtjfbfhoipgldgaaW.PrintMore
attribute [local go_sem] max2_int min2_int max_two min_two max_three min_three max_four min_four   
set_option linter.unusedVariables false
set_option linter.unusedSimpArgs false
def Opens (P : Program) (t : TypeId) {α : Type} (d : Kd α) (ok : α → Prop) : Prop :=
 P.cellsOf t = d.sz ∧ ∀ (H : Type) (enc : TypeId × Value → H) (W : World) (base : Nat) (spare : Nat → Bool) (held : Bool) (fuel : Nat) (cs : List Value) (x : DataW H × List MemPlace), DataW.trod enc P W base spare held fuel t cs = some x → ∃ v : α, d.K W v cs ∧ ok v
theorem opens_int {P : Program} {t : TypeId} {k : IntKind} (ht : P.underlying t = some (.int k)) (hc : P.cellsOf t = 1) : Opens P t (Kd.int k) (fun n => (Lit.int k n).wf = true) := by
 refine ⟨hc, fun H enc W base spare held fuel cs x h => ?_⟩
 obtain ⟨n, rfl, _, hw⟩ := DataW.trod_int ht h
 exact ⟨n, rfl, hw⟩
theorem list_of {α : Type} {p : Nat → α → Prop} : ∀ n : Nat, (∀ i, i < n → ∃ v, p i v) → ∃ xs : List α, xs.length = n ∧ ∀ i v, xs[i]? = some v → p i v
 | 0, _ => ⟨[], rfl, fun i v h => by simp at h⟩
 | n + 1, h => by
  obtain ⟨xs, hl, hx⟩ := list_of n (fun i hi => h i (by omega))
  obtain ⟨v, hv⟩ := h n (by omega)
  refine ⟨xs ++ [v], by rw [List.length_append, hl]; rfl, fun i u hu => ?_⟩
  by_cases hi : i < xs.length
  ·rw [List.getElem?_append_left hi] at hu
   exact hx i u hu
  ·rw [List.getElem?_append_right (by omega)] at hu
   have h0 : i - xs.length = 0 := by
    have := (List.getElem?_eq_some_iff.1 hu).1
    simp at this
    omega
   rw [h0] at hu
   obtain rfl := Option.some.inj hu
   have : i = n := by omega
   rw [this]
   exact hv
theorem opens_slice {P : Program} {t e : TypeId} {α : Type} {d : Kd α} {ok : α → Prop} (ht : P.underlying t = some (.slice e)) (hc : P.cellsOf t = 1) (h : Opens P e d ok) : Opens P t (Kd.slice e d) (fun xs => ∀ x ∈ xs, ok x) := by
 refine ⟨hc, fun H enc W base spare held fuel cs x hx => ?_⟩
 rcases Go.Deep.open_slice ht hx with ⟨rfl, _⟩ | ⟨a, len, cap, m, n, D, Pl, rfl, _, hl, hm, hmm, _, hel⟩
 ·exact ⟨[], ⟨none, 0, rfl, Nat.le_refl _, rfl, by simp, fun h => absurd h (Nat.lt_irrefl _)⟩, by simp⟩
 ·have hle : len ≤ m := by rw [hmm]; split <;> omega
  obtain ⟨xs, hxl, hxs⟩ := list_of (p := fun i v => ∃ cs', W.cells? base (a.add (i * d.sz)) d.sz = some cs' ∧ d.K W v cs' ∧ ok v) len (fun i hi => by
   obtain ⟨cs', h1, h2⟩ := hel i (by omega)
   obtain ⟨v, h3, h4⟩ := h.2 H enc W base spare held n cs' _ h2
   rw [h.1] at h1
   exact ⟨v, cs', h1, h3, h4⟩)
  have hmax : maxLen ≤ 9223372036854775807 := by decide
  refine ⟨xs, ⟨some a, cap, by rw [hxl], by omega, rfl, by omega, fun _ => ⟨a, rfl, fun j p hj => ?_⟩⟩, fun y hy => ?_⟩
  ·obtain ⟨cs', h1, h2, _⟩ := hxs j p hj
   obtain ⟨_, h3, h4⟩ := World.cells?_some h1
   refine ⟨cs', h3, h2, fun i u hu => ?_⟩
   have h5 := h4 i (by rw [← h3]; exact (List.getElem?_eq_some_iff.1 hu).1)
   rw [hu, add_add] at h5
   exact h5
  ·obtain ⟨j, hj, rfl⟩ := List.mem_iff_getElem.1 hy
   obtain ⟨_, _, _, h4⟩ := hxs j _ (List.getElem?_eq_getElem hj)
   exact h4
abbrev wfI (n : Int) : Prop := (Lit.int .i64 n).wf = true
theorem opInt : Opens Try.prog 3 (Kd.int .i64) wfI := opens_int Try.underlying3 (by kernel_rfl)
theorem opInts : Opens Try.prog 23 (Kd.slice 3 (Kd.int .i64)) (fun l => ∀ n ∈ l, wfI n) := opens_slice Try.underlying23 (by kernel_rfl) opInt
theorem opens_fields {P : Program} {t : TypeId} {fs : Array Field} (ht : P.underlying t = some (.struct fs)) {H : Type} {enc : TypeId × Value → H} {W : World} {base : Nat} {spare : Nat → Bool} {held : Bool} {fuel : Nat} {cs : List Value} {x : DataW H × List MemPlace} (h : DataW.trod enc P W base spare held fuel t cs = some x) :
  cs.length = P.cellsOf t ∧ ∀ (i : Nat) (f : Field), fs[i]? = some f → ∀ {α : Type} {d : Kd α} {ok : α → Prop}, Opens P f.type d ok → ∃ v, d.K W v ((cs.drop f.offset).take d.sz) ∧ ok v := by
 obtain ⟨xs, n, _, _, hl, hlen, hf⟩ := DataW.trod_struct ht h
 refine ⟨hl, fun i f hi α d ok ho => ?_⟩
 have h1 := hf i f hi
 have hil : i < xs.length := by
  have := (Array.getElem?_eq_some_iff.1 hi).1
  omega
 rw [List.getElem?_eq_getElem hil, ho.1] at h1
 exact ho.2 H enc W base spare held n _ _ h1
def okRaw (x : S49) : Prop := wfI x.f0 ∧ wfI x.f1 ∧ wfI x.f2 ∧ (∀ n ∈ x.f3, wfI n) ∧ ∀ n ∈ x.f4, wfI n
theorem opRaw : Opens Try.prog 49 k49 okRaw := by
 refine ⟨by kernel_rfl, fun H enc W base spare held fuel cs x h => ?_⟩
 obtain ⟨hl, hf⟩ := opens_fields Try.underlying49 h
 have hl2 : cs.length = 5 := hl.trans (by kernel_rfl)
 obtain ⟨v0, k0, w0⟩ := hf 0 _ rfl opInt
 obtain ⟨v1, k1, w1⟩ := hf 1 _ rfl opInt
 obtain ⟨v2, k2, w2⟩ := hf 2 _ rfl opInt
 obtain ⟨v3, ⟨A3, c3, k3, l3, g3⟩, w3⟩ := hf 3 _ rfl opInts
 obtain ⟨v4, ⟨A4, c4, k4, l4, g4⟩, w4⟩ := hf 4 _ rfl opInts
 match cs, hl2 with
 | [b0, b1, b2, b3, b4], _ =>
  have e0 : [b0] = [.int .i64 v0] := k0
  have e1 : [b1] = [.int .i64 v1] := k1
  have e2 : [b2] = [.int .i64 v2] := k2
  have e3 : [b3] = [.slice A3 v3.length c3] := k3
  have e4 : [b4] = [.slice A4 v4.length c4] := k4
  rw [(List.cons.inj e0).1, (List.cons.inj e1).1, (List.cons.inj e2).1, (List.cons.inj e3).1, (List.cons.inj e4).1]
  exact ⟨⟨v0, v1, v2, v3, v4⟩, k49_mk W ⟨v0, v1, v2, v3, v4⟩ l3 g3 l4 g4, w0, w1, w2, w3, w4⟩
theorem opRaws : Opens Try.prog 22 (Kd.slice 49 k49) (fun l => ∀ x ∈ l, okRaw x) := opens_slice Try.underlying22 (by kernel_rfl) opRaw
end Go.Proofs.Ytjfbfhoipgldgaa.P
end
section
namespace Go.Proofs.Ytjfbfhoipgldgaa.P
open Go.RowKit Go.Proofs.YtjfbfhoipgldgaaW.PrintWords Go.Proofs.YtjfbfhoipgldgaaW.PrintLast Go.Proofs.YtjfbfhoipgldgaaW.PrintMore
attribute [local go_sem] max2_int min2_int max_two min_two max_three min_three max_four min_four   
set_option linter.unusedVariables false
set_option linter.unusedSimpArgs false
abbrev Raw' := S49
theorem rdR_getElem (l : List Raw') (j : Nat) (h : j < l.length) : rd_T49 l j = l[j] := by
 unfold rd_T49
 rw [Int.toNat_natCast, List.getD_eq_getElem?_getD, List.getElem?_eq_getElem h]
 rfl
def fewB (l : List Raw') : Bool := l.all fun x => decide (x.f3.length ≤ 20 ∧ x.f4.length ≤ 20)
theorem few_loop (l : List Raw') (hl : l.length ≤ 9223372036854775807) : ∀ (d j : Nat), j + d = l.length → ∀ k, d < k → l4_Few.l0 k l j = some (fewB (l.drop j) && decide (l.length ≤ 80)) := by
 intro d
 induction d with
 | zero =>
  intro j hj k hk
  obtain ⟨k, rfl⟩ : ∃ i, k = i + 1 := ⟨k - 1, by omega⟩
  simp only [l4_Few.l0]
  rw [if_neg (by omega), show j = l.length by omega, List.drop_length]
  have : decide ((l.length : Int) ≤ 80) = decide (l.length ≤ 80) := decide_eq_decide.2 (by omega)
  rw [this]
  rfl
 | succ d ih =>
  intro j hj k hk
  obtain ⟨k, rfl⟩ : ∃ i, k = i + 1 := ⟨k - 1, by omega⟩
  have hlt : j < l.length := by omega
  have hw : wrap64 ((j : Int) + 1) = ((j + 1 : Nat) : Int) := by rw [wrap_in (by omega)]; rfl
  have h1 := ih (j + 1) (by omega) k (by omega)
  simp only [l4_Few.l0]
  rw [if_pos (by omega), if_pos (by omega), rdR_getElem l j hlt, hw, h1, List.drop_eq_getElem_cons hlt]
  unfold fewB
  rw [List.all_cons]
  by_cases h3 : (l[j].f3.length : Int) > 20
  ·rw [if_pos h3, decide_eq_false (by omega)]; rfl
  ·rw [if_neg h3]
   by_cases h4 : (l[j].f4.length : Int) > 20
   ·rw [if_pos h4, decide_eq_false (by omega)]; rfl
   ·rw [if_neg h4, decide_eq_true (by omega : l[j].f3.length ≤ 20 ∧ l[j].f4.length ≤ 20)]
    rfl
theorem few_some (l : List Raw') (hl : l.length ≤ 9223372036854775807) (k : Nat) (hk : l.length < k) : l4_Few.f k l = some (fewB l && decide (l.length ≤ 80)) := by
 have h := few_loop l hl l.length 0 (by omega) k hk
 rw [List.drop_zero] at h
 exact h
def kidOk (s : Int) (y : Int) : Prop := (0 ≤ y ∧ y < s) ∨ (-55 ≤ y ∧ y ≤ -1)
section
variable (s n a0 a1 a2 : Int) (l3 l4 : List Int) (c0 : Int) (rhs : List Int) (c2 c4 : Int)
theorem make_places (hn : n ≤ 3) (hr : 1 ≤ rhs.length) (hr2 : rhs.length ≤ 10) (h4 : l4.length ≤ 20) : ∀ (d j : Nat) (ps : List Int), (j : Int) + d = n → ps.length = j → (∀ p ∈ ps, 0 ≤ p ∧ p < (rhs.length : Int)) →
  ∃ ps' : List Int, (ps'.length : Int) = n ∧ (∀ p ∈ ps', 0 ≤ p ∧ p < (rhs.length : Int)) ∧ ∀ k, d < k → l4_Raw_Make.l1 k n j a0 a1 a2 l3 l4 c0 rhs c2 ps c4 = some (c0, rhs, c2, ps', c4) := by
 intro d
 induction d with
 | zero =>
  intro j ps hj hl hp
  refine ⟨ps, by omega, hp, fun k hk => ?_⟩
  obtain ⟨k, rfl⟩ : ∃ i, k = i + 1 := ⟨k - 1, by omega⟩
  simp only [l4_Raw_Make.l1]
  rw [if_neg (by omega)]
 | succ d ih =>
  intro j ps hj hl hp
  have hw : wrap64 ((j : Int) + 1) = ((j + 1 : Nat) : Int) := by rw [wrap_in (by omega)]; rfl
  by_cases h : (j : Int) < (l4.length : Int)
  ·have hv0 := rem_ge (rd l4 j) (rhs.length : Int) (by omega)
   have hv1 := rem_lt (rd l4 j) (rhs.length : Int) (by omega)
   obtain ⟨ps', h1, h2, h3⟩ := ih (j + 1) (ps ++ [rd l4 j % (rhs.length : Int)]) (by omega) (by rw [List.length_append, hl]; rfl) (fun p hp' => by
    rcases List.mem_append.1 hp' with hp' | hp'
    ·exact hp p hp'
    ·rw [List.mem_singleton.1 hp']; exact ⟨hv0, hv1⟩)
   refine ⟨ps', h1, h2, fun k hk => ?_⟩
   obtain ⟨k, rfl⟩ : ∃ i, k = i + 1 := ⟨k - 1, by omega⟩
   simp only [l4_Raw_Make.l1]
   rw [if_pos (by omega), if_pos h, if_pos (by omega), within_rem _ _ (by omega) (by omega), Option.bind_some, if_pos (by omega), hw]
   exact h3 k (by omega)
  ·have hv0 := rem_ge (j : Int) (rhs.length : Int) (by omega)
   have hv1 := rem_lt (j : Int) (rhs.length : Int) (by omega)
   obtain ⟨ps', h1, h2, h3⟩ := ih (j + 1) (ps ++ [(j : Int) % (rhs.length : Int)]) (by omega) (by rw [List.length_append, hl]; rfl) (fun p hp' => by
    rcases List.mem_append.1 hp' with hp' | hp'
    ·exact hp p hp'
    ·rw [List.mem_singleton.1 hp']; exact ⟨hv0, hv1⟩)
   refine ⟨ps', h1, h2, fun k hk => ?_⟩
   obtain ⟨k, rfl⟩ : ∃ i, k = i + 1 := ⟨k - 1, by omega⟩
   simp only [l4_Raw_Make.l1]
   rw [if_pos (by omega), if_neg h, within_rem _ _ (by omega) (by omega), Option.bind_some, if_pos (by omega), hw]
   exact h3 k (by omega)
theorem kid_table : ∀ t : Fin 11, -55 ≤ wrap64 ((-1) - (rd ([0, 0, 0, 1, 2, 3, 50, 51, 52, 53, 54] : List Int) ((t.val : Nat) : Int))) ∧ wrap64 ((-1) - (rd ([0, 0, 0, 1, 2, 3, 50, 51, 52, 53, 54] : List Int) ((t.val : Nat) : Int))) ≤ -1 := by decide +kernel
theorem make_kids (s n a0 a1 a2 : Int) (l3 l4 : List Int) (c0 c2 c4 : Int) (hs : 1 ≤ s ∧ s ≤ 20) (hn : 1 ≤ n ∧ n ≤ 3) (h3 : l3.length ≤ 20) (hw3 : ∀ y ∈ l3, wfI y) (h4 : l4.length ≤ 20) (ha1 : wfI a1) : ∀ (d i : Nat) (rhs : List Int), i + d = 3 → rhs.length = i → (∀ y ∈ rhs, kidOk s y) →
  ∃ rhs' ps', (1 ≤ rhs'.length ∧ rhs'.length ≤ 3) ∧ (∀ y ∈ rhs', kidOk s y) ∧ ((ps'.length : Int) = n) ∧ (∀ p ∈ ps', 0 ≤ p ∧ p < (rhs'.length : Int)) ∧ ∀ k, 3 * d + 20 < k → l4_Raw_Make.l0 k s n i a0 a1 a2 l3 l4 c0 rhs c2 c4 = some (c0, rhs', c2, ps', c4) := by
 intro d
 induction d with
 | zero =>
  intro i rhs hi hl hk
  obtain ⟨ps', p1, p2, p3⟩ := make_places n a0 a1 a2 l3 l4 c0 rhs c2 c4 hn.2 (by omega) (by omega) h4 n.toNat 0 [] (by omega) rfl (by simp)
  refine ⟨rhs, ps', ⟨by omega, by omega⟩, hk, p1, p2, fun k hk => ?_⟩
  obtain ⟨k, rfl⟩ : ∃ j, k = j + 2 := ⟨k - 2, by omega⟩
  have hm0 := rem_ge (l3.length : Int) 3 (by omega)
  have hm1 := rem_lt (l3.length : Int) 3 (by omega)
  rw [show k + 2 = (k + 1) + 1 by omega]
  simp only [l4_Raw_Make.l0]
  rw [within_rem _ 3 (by omega) (by omega), Option.bind_some, wrap_in (by omega), if_neg (by omega), if_neg (by omega)]
  simp only [l4_Raw_Make.j1, Bool.false_eq_true, if_false]
  exact p3 k (by omega)
 | succ d ih =>
  intro i rhs hi hl hk
  have hm0 := rem_ge (l3.length : Int) 3 (by omega)
  have hm1 := rem_lt (l3.length : Int) 3 (by omega)
  obtain ⟨b, hb0, hb⟩ : ∃ b : Bool, (i = 0 → b = true) ∧ ∀ k, l4_Raw_Make.l0 (k + 1) s n i a0 a1 a2 l3 l4 c0 rhs c2 c4 = l4_Raw_Make.j1 k s n i b a0 a1 a2 l3 l4 c0 rhs c2 c4 := by
   by_cases h1 : (i : Int) < 1 + (l3.length : Int) % 3
   ·refine ⟨true, fun _ => rfl, fun k => ?_⟩
    simp only [l4_Raw_Make.l0]
    rw [within_rem _ 3 (by omega) (by omega), Option.bind_some, wrap_in (by omega), if_pos h1]
   ·by_cases h2 : (i : Int) < n
    ·refine ⟨(wrap64 (Int.tdiv a1 16) % 2 == 0), fun h => by omega, fun k => ?_⟩
     simp only [l4_Raw_Make.l0]
     rw [within_rem _ 3 (by omega) (by omega), Option.bind_some, wrap_in (by omega), if_neg h1, if_pos h2, within_rem _ 2 (by omega) (by omega), Option.bind_some]
    ·refine ⟨false, fun h => by omega, fun k => ?_⟩
     simp only [l4_Raw_Make.l0]
     rw [within_rem _ 3 (by omega) (by omega), Option.bind_some, wrap_in (by omega), if_neg h1, if_neg h2]
  cases b with
  | false =>
   have hi1 : i ≠ 0 := fun h => by have := hb0 h; cases this
   obtain ⟨ps', p1, p2, p3⟩ := make_places n a0 a1 a2 l3 l4 c0 rhs c2 c4 hn.2 (by omega) (by omega) h4 n.toNat 0 [] (by omega) rfl (by simp)
   refine ⟨rhs, ps', ⟨by omega, by omega⟩, hk, p1, p2, fun k hk => ?_⟩
   obtain ⟨k, rfl⟩ : ∃ j, k = j + 2 := ⟨k - 2, by omega⟩
   rw [show k + 2 = (k + 1) + 1 by omega, hb]
   simp only [l4_Raw_Make.j1, Bool.false_eq_true, if_false]
   exact p3 k (by omega)
  | true =>
   obtain ⟨v, hv⟩ : ∃ v : Int, ∀ k, l4_Raw_Make.j1 (k + 1) s n i true a0 a1 a2 l3 l4 c0 rhs c2 c4 = l4_Raw_Make.j2 k s n i v a0 a1 a2 l3 l4 c0 rhs c2 c4 := by
    by_cases h1 : (i : Int) < (l3.length : Int)
    ·refine ⟨rd l3 i, fun k => ?_⟩
     simp only [l4_Raw_Make.j1, if_true]
     rw [if_pos h1, if_pos (by omega)]
    ·refine ⟨i, fun k => ?_⟩
     simp only [l4_Raw_Make.j1, if_true]
     rw [if_neg h1]
   have hw : wrap64 ((i : Int) + 1) = ((i + 1 : Nat) : Int) := by rw [wrap_in (by omega)]; rfl
   obtain ⟨y, hy, hj⟩ : ∃ y : Int, kidOk s y ∧ ∀ k, l4_Raw_Make.j2 (k + 1) s n i v a0 a1 a2 l3 l4 c0 rhs c2 c4 = l4_Raw_Make.l0 k s n ((i + 1 : Nat) : Int) a0 a1 a2 l3 l4 c0 (rhs ++ [y]) c2 c4 := by
    by_cases h1 : wrap64 (Int.tdiv v 20) % 2 = 0
    ·obtain ⟨t, ht⟩ := as_fin 11 rfl (rem_ge (wrap64 (Int.tdiv v 40)) 11 (by omega)) (rem_lt (wrap64 (Int.tdiv v 40)) 11 (by omega))
     refine ⟨_, .inr (kid_table t), fun k => ?_⟩
     simp only [l4_Raw_Make.j2]
     rw [within_rem v s (by omega) (by omega), Option.bind_some, within_rem _ 2 (by omega) (by omega), Option.bind_some, if_pos h1, Option.bind_some, within_rem _ 11 (by omega) (by omega), Option.bind_some, ht, if_pos (by omega), if_pos (by have := t.isLt; simp; omega), if_pos (by omega), hw]
    ·refine ⟨v % s, .inl ⟨rem_ge v s (by omega), rem_lt v s (by omega)⟩, fun k => ?_⟩
     simp only [l4_Raw_Make.j2]
     rw [within_rem v s (by omega) (by omega), Option.bind_some, within_rem _ 2 (by omega) (by omega), Option.bind_some, if_neg h1, if_pos (by omega), hw]
   obtain ⟨rhs', ps', q1, q2, q3, q4, q5⟩ := ih (i + 1) (rhs ++ [y]) (by omega) (by rw [List.length_append, hl]; rfl) (fun z hz => by
    rcases List.mem_append.1 hz with hz | hz
    ·exact hk z hz
    ·rw [List.mem_singleton.1 hz]; exact hy)
   refine ⟨rhs', ps', q1, q2, q3, q4, fun k hk => ?_⟩
   obtain ⟨k, rfl⟩ : ∃ j, k = j + 3 := ⟨k - 3, by omega⟩
   rw [show k + 3 = ((k + 1) + 1) + 1 by omega, hb, hv, hj]
   exact q5 k (by omega)
def makeN (o : Nat) : Int := rd ([1, 3, 2, 2, 2, 2, 3, 1, 1, 2, 1, 1, 2, 2, 2, 2] : List Int) (o : Int)
theorem makeN_ok : ∀ o : Fin 16, (1 ≤ makeN o.val ∧ makeN o.val ≤ 3) ∧ (askedP ((o.val : Nat) : Int)).1 ≤ makeN o.val ∧ makeN o.val ≤ (askedP ((o.val : Nat) : Int)).2 := by decide +kernel
structure Made (s : Int) (r : Rule') : Prop where
 lhs : 0 ≤ r.f0 ∧ r.f0 < s
 len : 1 ≤ r.f1.length ∧ r.f1.length ≤ 3
 kids : ∀ y ∈ r.f1, kidOk s y
 right : rightR r = true
theorem make_some (x : Raw') (s : Int) (hs : 1 ≤ s ∧ s ≤ 20) (hx : okRaw x) (h3 : x.f3.length ≤ 20) (h4 : x.f4.length ≤ 20) :
  ∃ r : Rule', Made s r ∧ ∀ k, 40 ≤ k → l4_Raw_Make.f k x.f0 x.f1 x.f2 x.f3 x.f4 s = some (r.f0, r.f1, r.f2.f0, r.f2.f1, r.f3) := by
 obtain ⟨_, hw1, _, hw3, _⟩ := hx
 obtain ⟨o, ho⟩ := as_fin 16 rfl (rem_ge x.f1 16 (by omega)) (rem_lt x.f1 16 (by omega))
 have hn := makeN_ok o
 have hc0 := rem_ge x.f2 101 (by omega)
 have hc1 := rem_lt x.f2 101 (by omega)
 have hl0 := rem_ge x.f0 s (by omega)
 have hl1 := rem_lt x.f0 s (by omega)
 obtain ⟨rhs, ps, p1, p2, p3, p4, p5⟩ := make_kids s (makeN o.val) x.f0 x.f1 x.f2 x.f3 x.f4 (x.f0 % s) ((o.val : Nat) : Int) (x.f2 % 101) hs hn.1 h3 hw3 h4 hw1 3 0 [] rfl rfl (by simp)
 refine ⟨⟨x.f0 % s, rhs, ⟨((o.val : Nat) : Int), ps⟩, x.f2 % 101⟩, ⟨⟨hl0, hl1⟩, p1, p2, ?_⟩, fun k hk => ?_⟩
 ·show rightP (x.f0 % s) rhs ((o.val : Nat) : Int) ps (x.f2 % 101) = true
  unfold rightP symbolB withinB
  simp only [Bool.and_eq_true, decide_eq_true_eq, List.all_eq_true]
  refine ⟨⟨hl0, by omega⟩, ⟨by omega, by omega⟩, fun y hy => ?_, ⟨hc0, by omega⟩, ⟨by omega, by omega⟩, fun p hp => ?_⟩
  ·unfold itemB
   rcases p2 y hy with h | h
   ·rw [decide_eq_true (by omega), decide_eq_true (by omega)]; rfl
   ·rw [decide_eq_true (by omega), decide_eq_true (by omega)]; rfl
  ·have h := p4 p hp
   unfold placeB
   rw [decide_eq_true h.1, decide_eq_true h.2]; rfl
 ·unfold l4_Raw_Make.f
  rw [within_rem x.f0 s (by omega) (by omega), Option.bind_some, within_rem x.f2 101 (by omega) (by omega), Option.bind_some, within_rem x.f1 16 (by omega) (by omega), Option.bind_some, Option.bind_some, ho, if_pos (by omega), if_pos (by have := o.isLt; simp; omega)]
  exact p5 k (by omega)
end
structure Told (s : Int) (out : List Rule') : Prop where
 made : ∀ r ∈ out, Made s r
 check : checkP out = true
theorem rule_eta (r : Rule') : (⟨r.f0, r.f1, (⟨r.f2.f0, r.f2.f1⟩ : S39), r.f3⟩ : Rule') = r := rfl
theorem rules_loop (l : List Raw') (s : Int) (hs : 1 ≤ s ∧ s ≤ 20) (hl : l.length ≤ 80) (hok : ∀ x ∈ l, okRaw x) (hf : ∀ x ∈ l, x.f3.length ≤ 20 ∧ x.f4.length ≤ 20) : ∀ (d i : Nat) (out : List Rule'), i + d = l.length → out.length ≤ i → Told s out →
  ∃ res, Told s res ∧ ∀ k, 2 * d + 45 < k → l4_Rules.l0 k l s out i = some res := by
 intro d
 induction d with
 | zero =>
  intro i out hi ho ht
  refine ⟨out, ht, fun k hk => ?_⟩
  obtain ⟨k, rfl⟩ : ∃ j, k = j + 2 := ⟨k - 2, by omega⟩
  rw [show k + 2 = (k + 1) + 1 by omega]
  simp only [l4_Rules.l0]
  rw [if_neg (by omega)]
  simp only [l4_Rules.j1, Bool.false_eq_true, if_false]
 | succ d ih =>
  intro i out hi ho ht
  have hlt : i < l.length := by omega
  by_cases h20 : (i : Int) < 20
  ·obtain ⟨r, hr, hm⟩ := make_some l[i] s hs (hok _ (List.getElem_mem hlt)) (hf _ (List.getElem_mem hlt)).1 (hf _ (List.getElem_mem hlt)).2
   have hw : wrap64 ((i : Int) + 1) = ((i + 1 : Nat) : Int) := by rw [wrap_in (by omega)]; rfl
   have hmade : ∀ q ∈ out ++ [r], Made s q := by
    intro q hq
    rcases List.mem_append.1 hq with hq | hq
    ·exact ht.made q hq
    ·rw [List.mem_singleton.1 hq]; exact hr
   have hstep : ∀ k, 45 < k → l4_Rules.l0 (k + 2) l s out i = if checkP (out ++ [r]) = true then l4_Rules.l0 k l s (out ++ [r]) ((i + 1 : Nat) : Int) else l4_Rules.l0 k l s out ((i + 1 : Nat) : Int) := by
    intro k hk
    rw [show k + 2 = (k + 1) + 1 by omega]
    simp only [l4_Rules.l0]
    rw [if_pos (by omega), decide_eq_true h20]
    simp only [l4_Rules.j1, if_true, Option.bind_some, List.nil_append, List.length_nil, Nat.zero_add]
    rw [if_pos (by omega), if_pos (by omega), if_pos (by omega), rdR_getElem l i hlt, hm k (by omega), Option.bind_some]
    simp only [rule_eta]
    rw [if_pos (by omega), hw]
    rfl
   cases hc : checkP (out ++ [r]) with
   | true =>
    obtain ⟨res, h1, h2⟩ := ih (i + 1) (out ++ [r]) (by omega) (by rw [List.length_append]; simp; omega) ⟨hmade, hc⟩
    refine ⟨res, h1, fun k hk => ?_⟩
    obtain ⟨k, rfl⟩ : ∃ j, k = j + 2 := ⟨k - 2, by omega⟩
    rw [hstep k (by omega), hc, if_pos rfl]
    exact h2 k (by omega)
   | false =>
    obtain ⟨res, h1, h2⟩ := ih (i + 1) out (by omega) (by omega) ht
    refine ⟨res, h1, fun k hk => ?_⟩
    obtain ⟨k, rfl⟩ : ∃ j, k = j + 2 := ⟨k - 2, by omega⟩
    rw [hstep k (by omega), hc, if_neg (by simp)]
    exact h2 k (by omega)
  ·refine ⟨out, ht, fun k hk => ?_⟩
   obtain ⟨k, rfl⟩ : ∃ j, k = j + 2 := ⟨k - 2, by omega⟩
   rw [show k + 2 = (k + 1) + 1 by omega]
   simp only [l4_Rules.l0]
   rw [if_pos (by omega), decide_eq_false h20]
   simp only [l4_Rules.j1, Bool.false_eq_true, if_false]
theorem check_nilR : checkP [] = true := by
 rw [checkP_iff]
 exact ⟨by simp, rfl, fun x hx => no_round _ id (fun r hr => by cases hr) x hx⟩
theorem rules_some (l : List Raw') (s : Int) (hs : 1 ≤ s ∧ s ≤ 20) (hl : l.length ≤ 80) (hok : ∀ x ∈ l, okRaw x) (hf : fewB l = true) : ∃ res, Told s res ∧ ∀ k, 300 ≤ k → l4_Rules.f k l s = some res := by
 obtain ⟨res, h1, h2⟩ := rules_loop l s hs hl hok (fun x hx => of_decide_eq_true (List.all_eq_true.1 hf x hx)) l.length 0 [] (by omega) (Nat.le_refl _) ⟨fun r hr => (by cases hr), check_nilR⟩
 exact ⟨res, h1, fun k hk => h2 k (by omega)⟩
end Go.Proofs.Ytjfbfhoipgldgaa.P
end
section
set_option linter.unusedVariables false
namespace Go.Proofs.Ytjfbfhoipgldgaa.Pure
open Go.RowKit Go.Proofs.Ytjfbfhoipgldgaa.P Go.Proofs.YtjfbfhoipgldgaaW.PrintWords Go.Proofs.YtjfbfhoipgldgaaW.PrintLast
theorem up2 {g : Nat → Option Bool} (hm : ∀ k, LeO (g k) (g (k + 1))) {k k' : Nat} (h : k ≤ k') (hk : g k = some true) : g k' = some true := by
 obtain ⟨d, rfl⟩ : ∃ d, k' = k + d := ⟨k' - k, by omega⟩
 clear h
 induction d with
 | zero => exact hk
 | succ d ih => exact hm _ _ ih
theorem check_like (a b : List Rule') (hl : b.length ≤ a.length) (hs : ∀ r ∈ b, ∃ r' ∈ a, r'.f0 = r.f0 ∧ r'.f1 = r.f1) (hr : ∀ r ∈ b, rightR r = true) (h : checkP a = true) : checkP b = true := by
 rw [checkP_iff] at h ⊢
 obtain ⟨h1, h2, h3⟩ := h
 have hrow : ∀ x, inSym x → ∀ y ∈ rowsNext b x, y ∈ rowsNext a x := by
  intro x hx y hy
  obtain ⟨q1, r, q2, q3, q4⟩ := (mem_rowsNext b x hx y).1 hy
  obtain ⟨r', e1, e2, e3⟩ := hs r q2
  exact (mem_rowsNext a x hx y).2 ⟨q1, r', e1, e2.trans q3, e3.trans q4⟩
 refine ⟨by omega, List.all_eq_true.2 hr, fun x hx hR => h3 x hx ?_⟩
 exact P.Reach.mono (rowsNext_sym b) (rowsNext_sym b x hx) (hrow x hx) hrow hR
theorem right_cost (a0 : Int) (l1 : List Int) (a2 : Int) (l3 : List Int) (a4 c : Int) (hc : 0 ≤ c ∧ c ≤ 100) (h : rightP a0 l1 a2 l3 a4 = true) : rightP a0 l1 a2 l3 c = true := by
 unfold rightP at h ⊢
 simp only [Bool.and_eq_true] at h ⊢
 refine ⟨h.1, h.2.1, h.2.2.1, ?_, h.2.2.2.2⟩
 unfold withinB
 rw [decide_eq_true hc.1, decide_eq_true hc.2]
 rfl
structure Like (R O : List Rule') : Prop where
 len : O.length = R.length
 same : ∀ j (h : j < R.length) (h2 : j < O.length), O[j].f0 = R[j].f0 ∧ O[j].f1 = R[j].f1 ∧ O[j].f2 = R[j].f2 ∧ 0 ≤ O[j].f3 ∧ O[j].f3 ≤ 100
theorem Like.start (R : List Rule') (h : checkP R = true) : Like R R := ⟨rfl, fun j h1 h2 => ⟨rfl, rfl, rfl, (right_sym0 _ (List.all_eq_true.1 ((checkP_iff R).1 h).2.1 _ (List.getElem_mem h1))).2.2.2⟩⟩
theorem Like.set {R O : List Rule'} (h : Like R O) (i : Nat) (hi : i < O.length) (c : Int) (hc : 0 ≤ c ∧ c ≤ 100) : Like R (O.set i ⟨O[i].f0, O[i].f1, ⟨O[i].f2.f0, O[i].f2.f1⟩, c⟩) := by
 refine ⟨by rw [List.length_set]; exact h.len, fun j h1 h2 => ?_⟩
 rw [List.getElem_set]
 by_cases e : i = j
 ·subst e
  rw [if_pos rfl]
  have h3 := h.same i h1 hi
  exact ⟨h3.1, h3.2.1, h3.2.2.1, hc⟩
 ·rw [if_neg e]
  exact h.same j h1 (by rw [h.len]; exact h1)
theorem Like.plain {R O : List Rule'} (h : Like R O) : plainR O = plainR R := by
 unfold plainR
 apply List.ext_getElem
 ·rw [List.length_map, List.length_map, h.len]
 ·intro j h1 h2
  rw [List.getElem_map, List.getElem_map]
  have h3 := h.same j (by simpa using h2) (by simpa using h1)
  rw [h3.1, h3.2.1]
theorem Like.check {R O : List Rule'} (h : Like R O) (hch : checkP R = true) : checkP O = true := by
 refine check_like R O (Nat.le_of_eq h.len) (fun r hr => ?_) (fun r hr => ?_) hch
 ·obtain ⟨j, hj, rfl⟩ := List.mem_iff_getElem.1 hr
  have h3 := h.same j (by rw [← h.len]; exact hj) hj
  exact ⟨_, List.getElem_mem (by rw [← h.len]; exact hj), h3.1.symm, h3.2.1.symm⟩
 ·obtain ⟨j, hj, rfl⟩ := List.mem_iff_getElem.1 hr
  have hjR : j < R.length := by rw [← h.len]; exact hj
  have h3 := h.same j hjR hj
  have h4 := List.all_eq_true.1 ((checkP_iff R).1 hch).2.1 _ (List.getElem_mem hjR)
  unfold rightR at h4 ⊢
  rw [h3.1, h3.2.1, h3.2.2.1]
  exact right_cost _ _ _ _ _ _ h3.2.2.2 h4
theorem Like.num {R O : List Rule'} (h : Like R O) (toks : List Tok') (n : Nat) (s : Int) (p q : Nat) : numP O toks n s p q = numP R toks n s p q := by
 unfold numP
 rw [h.plain]
theorem Like.spans {R O : List Rule'} (h : Like R O) (hch : checkP R = true) (toks : List Tok') (n : Nat) : spansP O toks n = spansP R toks n := by
 unfold spansP
 rw [if_pos hch, if_pos (h.check hch)]
 refine List.filter_congr fun x _ => ?_
 rw [h.num]
theorem single_num (R : List Rule') (m : Nat) (hR : plainR R = List.replicate m (0, [-1])) (hch : checkP R = true) : numP R (rowL 1) 1 0 0 1 = m := by
 have hf : Chart.Fwd (tokT (rowL 1)) := tok_fwd _ fun x hx => (row_toks 1 x hx).2.1
 have hk : Chart.Ranked (plainR R) (fun _ => 0) := ⟨fun _ => by simp, fun r h x hx e => by
  rw [hR] at h
  have h1 := List.eq_of_mem_replicate h
  subst h1
  simp at e
  omega⟩
 unfold numP
 rw [Chart.Num_eq _ _ _ hf (plain_ne R hch) _ hk 0 0 1 (Nat.le_refl _)]
 have hw : ∀ F, Chart.ways (tokT (rowL 1)) 1 F [-1] 0 1 = 1 := by
  intro F
  have e3 := Chart.ways_snoc (tokT (rowL 1)) 1 F [] (-1) 0 1
  rw [List.nil_append] at e3
  rw [e3]
  have e4 : ∀ f : Nat → Nat, Chart.sumTo 0 f = 0 := fun _ => rfl
  simp [Chart.sumTo_succ, Chart.ways_nil, Chart.E, tokT_row, e4]
 unfold Chart.sumR
 generalize Chart.Num (tokT (rowL 1)) 1 (plainR R) = F
 rw [hR]
 clear hR hk
 induction m with
 | zero => rfl
 | succ m ih =>
  rw [List.replicate_succ, List.filter_cons_of_pos (by simp), List.map_cons, List.sum_cons, ih, hw]
  omega
def costR (c : Int) : Rule' := ⟨0, [-1], ⟨0, [0]⟩, c⟩
theorem twice_check (c : Int) (hc : 0 ≤ c ∧ c ≤ 100) : checkP [oneR] = true ∧ checkP [oneR, costR c] = true := by
 constructor
 ·exact check_flat _ (by decide) (by decide) (fun r hr y hy => by simp at hr; subst hr; simp [oneR] at hy; omega)
 ·refine check_flat _ (by simp) ?_ (fun r hr y hy => by simp at hr; rcases hr with rfl | rfl <;> simp [oneR, costR] at hy <;> omega)
  simp only [List.all_cons, List.all_nil, Bool.and_true, Bool.and_eq_true]
  exact ⟨by decide, right_cost 0 [-1] 0 [0] 0 c hc (by decide)⟩
def twC (ns : List Int) (i : Nat) : Int := rd ([0, 1, 50] : List Int) ((rd ns (i : Int)) % 3)
theorem twC_rng (ns : List Int) (i : Nat) : -1000000 ≤ twC ns i ∧ twC ns i ≤ 1000000 := by
 unfold twC
 obtain ⟨j, hj⟩ := as_fin 3 rfl (rem_ge (rd ns (i : Int)) 3 (by decide)) (rem_lt (rd ns (i : Int)) 3 (by decide))
 rw [hj]
 exact (by decide : ∀ j : Fin 3, -1000000 ≤ rd ([0, 1, 50] : List Int) ((j.val : Nat) : Int) ∧ rd ([0, 1, 50] : List Int) ((j.val : Nat) : Int) ≤ 1000000) j
theorem twice_signs (R O : List Rule') (hL : Like R O) (hch : checkP R = true) (c : Int) (hc : 0 ≤ c ∧ c ≤ 100) (a2 : Int) (ns : List Int) (K : Nat) (hK : K ≤ 5) (hKn : K ≤ ns.length) (m : Nat) : ∀ d i, i + d = K → l7_ChartTwice.l1 (m + 1 + d) ns a2 [oneR] [oneR, costR c] (rowL 1) R O (genL (twC ns) (fun _ => 0) 0 i) (K : Int) (i : Int) = some true
 | 0, i, h => by
  obtain rfl : i = K := by omega
  have hrl : R.length ≤ 1000000 := by have := ((checkP_iff R).1 hch).1; omega
  have hol : O.length ≤ 1000000 := by rw [hL.len]; exact hrl
  have hw : wrap64 ((i : Int) + 1) = (i : Int) + 1 := by unfold wrap64; omega
  have h0 := Int.emod_nonneg a2 (show (i : Int) + 1 ≠ 0 by omega)
  have h1 := Int.emod_lt_of_pos a2 (show (0 : Int) < (i : Int) + 1 by omega)
  obtain ⟨q, hq⟩ : ∃ q : Nat, a2 % ((i : Int) + 1) = (q : Int) := ⟨(a2 % ((i : Int) + 1)).toNat, by omega⟩
  obtain ⟨t1, t2⟩ := twice_check c hc
  have c1 := count_row [oneR] (by simp) t1 1 (Nat.le_refl _) (by omega) 9 (by decide) (by decide)
  have c2 := count_row [oneR, costR c] (by simp) t2 1 (Nat.le_refl _) (by omega) 9 (by decide) (by decide)
  rw [single_num [oneR] 1 rfl t1] at c1
  rw [single_num [oneR, costR c] 2 rfl t2] at c2
  replace c1 : chart_Count.f [oneR] (rowL 1) 0 0 1 9 = some 1 := c1
  replace c2 : chart_Count.f [oneR, costR c] (rowL 1) 0 0 1 9 = some 2 := c2
  have c3 : chart_Count.f R (genL (twC ns) (fun _ => 0) 0 i) 0 0 (q : Int) 1000 = some ((min (numP R (genL (twC ns) (fun _ => 0) 0 i) i 0 0 q) 1000 : Nat) : Int) := count_gen R hrl hch (twC ns) (fun _ => 0) 0 (twC_rng ns) i 0 0 q (by omega) (by omega) (by omega) (by omega) 1000 (by decide) (by decide)
  have c4 : chart_Count.f O (genL (twC ns) (fun _ => 0) 0 i) 0 0 (q : Int) 1000 = some ((min (numP O (genL (twC ns) (fun _ => 0) 0 i) i 0 0 q) 1000 : Nat) : Int) := count_gen O hol (hL.check hch) (twC ns) (fun _ => 0) 0 (twC_rng ns) i 0 0 q (by omega) (by omega) (by omega) (by omega) 1000 (by decide) (by decide)
  rw [hL.num] at c4
  have hs : ∀ Q : List Rule', Q.length ≤ 1000000 → chart_Spans.f Q (genL (twC ns) (fun _ => 0) 0 i) (i : Int) = some (spansP Q (genL (twC ns) (fun _ => 0) 0 i) i) := fun Q hQ => by
   unfold chart_Spans.f
   rw [if_pos ⟨⟨by omega, by omega⟩, by rw [Int.toNat_natCast]; exact genL_ok Q _ _ 0 (twC_rng ns) i i hQ (Nat.le_refl _) (by omega)⟩, Int.toNat_natCast]
  rw [Nat.add_zero, l7_ChartTwice.l1, if_neg (by omega), hw, within7_rem a2 _ (by omega) (by omega), Option.bind_some, hq, c1, Option.bind_some, if_pos rfl, c2, Option.bind_some, if_pos rfl, c3, Option.bind_some, c4, Option.bind_some, if_pos rfl, hs R hrl, Option.bind_some, hs O hol, Option.bind_some, hL.spans hch]
  simp
 | d + 1, i, h => by
  have ih := twice_signs R O hL hch c hc a2 ns K hK hKn m d (i + 1) (by omega)
  have hw : wrap64 ((i : Int) + 1) = ((i + 1 : Nat) : Int) := by unfold wrap64; omega
  have h0 := rem_ge (rd ns (i : Int)) 3 (by decide)
  have h1 := rem_lt (rd ns (i : Int)) 3 (by decide)
  rw [show m + 1 + (d + 1) = (m + 1 + d) + 1 by omega, l7_ChartTwice.l1, if_pos (by omega), Option.bind_some, if_pos (by omega), if_pos (by omega), within7_rem _ 3 (by decide) (by decide), Option.bind_some, if_pos h0, if_pos (by show _ < (3 : Int); exact h1), if_pos (by rw [genL_len]; omega)]
  have hrow : genL (twC ns) (fun _ => 0) 0 i ++ [(⟨(i : Int), wrap64 ((i : Int) + 1), rd ([0, 1, 50] : List Int) ((rd ns (i : Int)) % 3), 0, 0⟩ : Tok')] = genL (twC ns) (fun _ => 0) 0 (i + 1) := by
   rw [genL_succ, hw]
   rfl
  rw [hrow, hw]
  exact ih
theorem twice_costs (R : List Rule') (hch : checkP R = true) (c : Int) (hc : 0 ≤ c ∧ c ≤ 100) (a2 a3 : Int) (ns : List Int) (K : Nat) (hK : K ≤ 5) (hKn : K ≤ ns.length) (hmn : mn (ns.length : Int) 5 = (K : Int)) : ∀ d i O, Like R O → i + d = R.length → l7_ChartTwice.l0 (0 + 1 + K + 1 + d) ns a2 a3 [oneR] [oneR, costR c] (rowL 1) R O (i : Int) = some true
 | 0, i, O, hL, h => by
  have hl := hL.len
  rw [Nat.add_zero, l7_ChartTwice.l0, if_neg (by omega), hmn]
  exact twice_signs R O hL hch c hc a2 ns K hK hKn 0 K 0 (by omega)
 | d + 1, i, O, hL, h => by
  have hl := hL.len
  have hlen : R.length ≤ 60 := ((checkP_iff R).1 hch).1
  have hi : i < O.length := by omega
  have hw : wrap64 ((i : Int) + 1) = ((i + 1 : Nat) : Int) := by unfold wrap64; omega
  have hx : rd_T41 O (i : Int) = O[i] := by
   show O.getD (i : Int).toNat _ = _
   rw [Int.toNat_natCast, List.getD_eq_getElem?_getD, List.getElem?_eq_getElem hi]
   rfl
  have h0 := rem_ge (wrap64 (a3 + (i : Int))) 101 (by decide)
  have h1 := rem_lt (wrap64 (a3 + (i : Int))) 101 (by decide)
  have ih := twice_costs R hch c hc a2 a3 ns K hK hKn hmn d (i + 1) _ (hL.set i hi ((wrap64 (a3 + (i : Int))) % 101) ⟨h0, by omega⟩) (by omega)
  rw [show 0 + 1 + K + 1 + (d + 1) = (0 + 1 + K + 1 + d) + 1 by omega, l7_ChartTwice.l0, if_pos (by omega), within7_rem _ 101 (by decide) (by decide), Option.bind_some, if_pos (Int.natCast_nonneg _), hx, Int.toNat_natCast, hw]
  exact ih
theorem ChartTwice (l0 : List Raw') (l1 : List Int) (a2 a3 : Int) (hl : l0.length ≤ 9223372036854775807) (hok : ∀ x ∈ l0, okRaw x) (_ : l1.length ≤ 9223372036854775807) (_ : ∀ n ∈ l1, wfI n) : ∃ k, l7_ChartTwice.f k l0 l1 a2 a3 = some true := by
 by_cases hf : (fewB l0 && decide (l0.length ≤ 80)) = true
 ·have hf2 := hf
  rw [Bool.and_eq_true, decide_eq_true_eq] at hf2
  by_cases h8 : l0.length > 8
  ·refine ⟨l0.length + 1, ?_⟩
   unfold l7_ChartTwice.f
   rw [known_true, Option.bind_some, if_pos rfl, few_some l0 hl _ (by omega), Option.bind_some, if_pos hf, l7_ChartTwice.j0, if_pos (decide_eq_true (by omega))]
  ·obtain ⟨res, hT, hR⟩ := rules_some l0 3 ⟨by decide, by decide⟩ hf2.2 hok hf2.1
   obtain ⟨K, hK⟩ : ∃ K : Nat, mn (l1.length : Int) 5 = (K : Int) := ⟨(mn (l1.length : Int) 5).toNat, by unfold mn; split <;> omega⟩
   have hKb : K ≤ 5 ∧ K ≤ l1.length := by
    unfold mn at hK
    split at hK <;> omega
   have hlen : res.length ≤ 60 := ((checkP_iff res).1 hT.check).1
   have h0 := rem_ge a3 101 (by decide)
   have h1 := rem_lt a3 101 (by decide)
   have hm := twice_costs res hT.check (a3 % 101) ⟨h0, by omega⟩ a2 a3 l1 K hKb.1 hKb.2 hK res.length 0 res (Like.start res hT.check) (by omega)
   obtain ⟨M, hM⟩ : ∃ M, M = 0 + 1 + K + 1 + res.length := ⟨_, rfl⟩
   rw [← hM] at hm
   refine ⟨max M (max 300 l0.length) + 1, ?_⟩
   unfold l7_ChartTwice.f
   rw [known_true, Option.bind_some, if_pos rfl, few_some l0 hl _ (by omega), Option.bind_some, if_pos hf, l7_ChartTwice.j0, if_neg (by rw [decide_eq_false (by omega)]; decide), Option.bind_some, Option.bind_some, if_pos (by decide), Option.bind_some, within7_rem a3 101 (by decide) (by decide), Option.bind_some, if_pos (by decide), hR _ (by omega), Option.bind_some, Option.bind_some, if_pos (by simp; omega)]
   exact up2 (g := fun k => l7_ChartTwice.l0 k l1 a2 a3 [oneR] [oneR, costR (a3 % 101)] (rowL 1) res res 0) (fun k => (l7_ChartTwice.mono_l k).2.1 _ _ _ _ _ _ _ _ _) (show M ≤ max M (max 300 l0.length) by omega) hm
 ·refine ⟨l0.length + 1, ?_⟩
  unfold l7_ChartTwice.f
  rw [known_true, Option.bind_some, if_pos rfl, few_some l0 hl _ (by omega), Option.bind_some, if_neg hf, l7_ChartTwice.j0, if_pos rfl]
end Go.Proofs.Ytjfbfhoipgldgaa.Pure
end
