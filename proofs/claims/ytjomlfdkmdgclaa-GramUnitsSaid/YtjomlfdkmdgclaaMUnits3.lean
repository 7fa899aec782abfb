/- GramUnits: units are of rules of one symbol alone, rising, each once. Part 3: contracts of the functions that the law reaches, and words for them. -/
import Derived.Deep.Slices
import Derived.ChangeArms
import Derived.ChangeSame
import Derived.Deep.RegionLaw
import Derived.Deep.RegionHeld3
import Derived.BigRegion
import Derived.Test.YtjomlfdkmdgclaaMUnits2
section
namespace Go.Proofs.Ytjomlfdkmdgclaa.P
open Go.RowKit Go.Proofs.YtjomlfdkmdgclaaW.PrintWords Go.Proofs.YtjomlfdkmdgclaaW.PrintLast Go.Proofs.YtjomlfdkmdgclaaW.PrintMore
attribute [local go_sem] max2_int min2_int max_two min_two max_three min_three max_four min_four   
set_option linter.unusedVariables false
set_option linter.unusedSimpArgs false
mutual
noncomputable def interlocutorlaw4_GramUnits.l0 : Nat → List (S31) → Int → List (S26) → Int → Option (Bool)
  | 0, _, _, _, _ => none
  | k + 1, x0, x1, x5, x6 => if x6 < (x0.length : Int) then (if 0 ≤ x6 then ((interlocutorlaw4_within.f x1 20).bind fun t435 => ((interlocutorlaw4_Raw_Make.f k ((rd_T31 x0 x6).f0) ((rd_T31 x0 x6).f1) ((rd_T31 x0 x6).f2) ((rd_T31 x0 x6).f3) ((rd_T31 x0 x6).f4) (wrap64 (1 + t435))).bind fun bt436 => (if x5.length < 1954687338268 then (interlocutorlaw4_GramUnits.l0 k x0 x1 (x5 ++ [(⟨bt436.1, bt436.2.1, (⟨bt436.2.2.1, bt436.2.2.2.1⟩ : S24), bt436.2.2.2.2⟩ : S26)]) (wrap64 (x6 + 1))) else (none)))) else (none)) else ((gram_Units.f x5).bind fun t448 => (if (t448.length : Int) = 20 then (interlocutorlaw4_GramUnits.l1 k x5 t448 0 0) else (some false)))
noncomputable def interlocutorlaw4_GramUnits.l1 : Nat → List (S26) → List (List Int) → Int → Int → Option (Bool)
  | 0, _, _, _, _ => none
  | k + 1, x5, x7, x8, x9 => if x9 < 20 then (interlocutorlaw4_GramUnits.l2 k x5 x7 x8 x9 0) else (some (decide (x8 ≤ (x5.length : Int))))
noncomputable def interlocutorlaw4_GramUnits.l2 : Nat → List (S26) → List (List Int) → Int → Int → Int → Option (Bool)
  | 0, _, _, _, _, _ => none
  | k + 1, x5, x7, x8, x9, x10 => if 0 ≤ x9 then (if x9 < (x7.length : Int) then (if x10 < ((rd_L2 x7 x9).length : Int) then (if x10 > 0 then (if 0 ≤ (wrap64 (x10 - 1)) then (if (wrap64 (x10 - 1)) < ((rd_L2 x7 x9).length : Int) then (if 0 ≤ x10 then (interlocutorlaw4_GramUnits.j3 k x5 x7 x8 x9 x10 (decide ((rd (rd_L2 x7 x9) (wrap64 (x10 - 1))) ≥ (rd (rd_L2 x7 x9) x10)))) else (none)) else (none)) else (none)) else (interlocutorlaw4_GramUnits.j3 k x5 x7 x8 x9 x10 false)) else (interlocutorlaw4_GramUnits.l1 k x5 x7 x8 (wrap64 (x9 + 1)))) else (none)) else (none)
noncomputable def interlocutorlaw4_GramUnits.j3 : Nat → List (S26) → List (List Int) → Int → Int → Int → Bool → Option (Bool)
  | 0, _, _, _, _, _, _ => none
  | k + 1, x5, x7, x8, x9, x10, x72 => if x72 = true then (some false) else (interlocutorlaw4_GramUnits.l3 k x5 x7 x8 x9 x10 false 0)
noncomputable def interlocutorlaw4_GramUnits.l3 : Nat → List (S26) → List (List Int) → Int → Int → Int → Bool → Int → Option (Bool)
  | 0, _, _, _, _, _, _, _ => none
  | k + 1, x5, x7, x8, x9, x10, x11, x12 => if x12 < (x5.length : Int) then (if x11 = true then (interlocutorlaw4_GramUnits.l3 k x5 x7 x8 x9 x10 true (wrap64 (x12 + 1))) else (if 0 ≤ x12 then (if ((rd_T26 x5 x12).f0) = x9 then (if (((rd_T26 x5 x12).f1).length : Int) = 1 then (if 0 < (((rd_T26 x5 x12).f1).length : Int) then (if 0 ≤ x9 then (if x9 < (x7.length : Int) then (if 0 ≤ x10 then (if x10 < ((rd_L2 x7 x9).length : Int) then (interlocutorlaw4_GramUnits.l3 k x5 x7 x8 x9 x10 ((rd ((rd_T26 x5 x12).f1) 0) == (rd (rd_L2 x7 x9) x10)) (wrap64 (x12 + 1))) else (none)) else (none)) else (none)) else (none)) else (none)) else (interlocutorlaw4_GramUnits.l3 k x5 x7 x8 x9 x10 false (wrap64 (x12 + 1)))) else (interlocutorlaw4_GramUnits.l3 k x5 x7 x8 x9 x10 false (wrap64 (x12 + 1)))) else (none))) else (if x11 = true then (interlocutorlaw4_GramUnits.l2 k x5 x7 (wrap64 (x8 + 1)) x9 (wrap64 (x10 + 1))) else (some false))
end
noncomputable def interlocutorlaw4_GramUnits.f (k : Nat) (l0 : List (S31)) (a1 : Int) : Option (Bool) := (interlocutorlaw4_known.f).bind fun t432 => (if t432 = true then ((interlocutorlaw4_Few.f k l0).bind fun t433 => (if t433 = true then (interlocutorlaw4_GramUnits.l0 k l0 a1 ([] : List (S26)) 0) else (some true))) else (some false))
theorem interlocutorlaw4_GramUnits.mono_l : ∀ k, (∀ y0 y1 y2 y3, LeO (interlocutorlaw4_GramUnits.l0 k y0 y1 y2 y3) (interlocutorlaw4_GramUnits.l0 (k + 1) y0 y1 y2 y3)) ∧ (∀ y0 y1 y2 y3, LeO (interlocutorlaw4_GramUnits.l1 k y0 y1 y2 y3) (interlocutorlaw4_GramUnits.l1 (k + 1) y0 y1 y2 y3)) ∧ (∀ y0 y1 y2 y3 y4, LeO (interlocutorlaw4_GramUnits.l2 k y0 y1 y2 y3 y4) (interlocutorlaw4_GramUnits.l2 (k + 1) y0 y1 y2 y3 y4)) ∧ (∀ y0 y1 y2 y3 y4 y5, LeO (interlocutorlaw4_GramUnits.j3 k y0 y1 y2 y3 y4 y5) (interlocutorlaw4_GramUnits.j3 (k + 1) y0 y1 y2 y3 y4 y5)) ∧ (∀ y0 y1 y2 y3 y4 y5 y6, LeO (interlocutorlaw4_GramUnits.l3 k y0 y1 y2 y3 y4 y5 y6) (interlocutorlaw4_GramUnits.l3 (k + 1) y0 y1 y2 y3 y4 y5 y6))
  | 0 => ⟨fun _ _ _ _ r h => by simp [interlocutorlaw4_GramUnits.l0] at h, fun _ _ _ _ r h => by simp [interlocutorlaw4_GramUnits.l1] at h, fun _ _ _ _ _ r h => by simp [interlocutorlaw4_GramUnits.l2] at h, fun _ _ _ _ _ _ r h => by simp [interlocutorlaw4_GramUnits.j3] at h, fun _ _ _ _ _ _ _ r h => by simp [interlocutorlaw4_GramUnits.l3] at h⟩
  | k + 1 => by
    obtain ⟨ih0, ih1, ih2, ih3, ih4⟩ := interlocutorlaw4_GramUnits.mono_l k
    refine ⟨?_, ?_, ?_, ?_, ?_⟩
    · intro y0 y1 y2 y3
      unfold interlocutorlaw4_GramUnits.l0
      repeat' first
      | (with_reducible exact ih0 _ _ _ _)
      | (with_reducible exact ih1 _ _ _ _)
      | (with_reducible exact ih2 _ _ _ _ _)
      | (with_reducible exact ih3 _ _ _ _ _ _)
      | (with_reducible exact ih4 _ _ _ _ _ _ _)
      | (with_reducible exact interlocutorlaw4_Few.mono _ _)
      | (with_reducible exact interlocutorlaw4_Raw_Make.mono _ _ _ _ _ _ _)
      | (with_reducible exact LeO.refl _)
      | (with_reducible exact LeO.none _)
      | (with_reducible refine LeO.ite ?_ ?_)
      | (with_reducible refine LeO.bind ?_ (fun _ => ?_))
      | exact ih0 _ _ _ _
      | exact ih1 _ _ _ _
      | exact ih2 _ _ _ _ _
      | exact ih3 _ _ _ _ _ _
      | exact ih4 _ _ _ _ _ _ _
      | exact interlocutorlaw4_Few.mono _ _
      | exact interlocutorlaw4_Raw_Make.mono _ _ _ _ _ _ _
      | exact LeO.none _
      | refine LeO.ite ?_ ?_
      | refine LeO.bind ?_ (fun _ => ?_)
    · intro y0 y1 y2 y3
      unfold interlocutorlaw4_GramUnits.l1
      repeat' first
      | (with_reducible exact ih0 _ _ _ _)
      | (with_reducible exact ih1 _ _ _ _)
      | (with_reducible exact ih2 _ _ _ _ _)
      | (with_reducible exact ih3 _ _ _ _ _ _)
      | (with_reducible exact ih4 _ _ _ _ _ _ _)
      | (with_reducible exact interlocutorlaw4_Few.mono _ _)
      | (with_reducible exact interlocutorlaw4_Raw_Make.mono _ _ _ _ _ _ _)
      | (with_reducible exact LeO.refl _)
      | (with_reducible exact LeO.none _)
      | (with_reducible refine LeO.ite ?_ ?_)
      | (with_reducible refine LeO.bind ?_ (fun _ => ?_))
      | exact ih0 _ _ _ _
      | exact ih1 _ _ _ _
      | exact ih2 _ _ _ _ _
      | exact ih3 _ _ _ _ _ _
      | exact ih4 _ _ _ _ _ _ _
      | exact interlocutorlaw4_Few.mono _ _
      | exact interlocutorlaw4_Raw_Make.mono _ _ _ _ _ _ _
      | exact LeO.none _
      | refine LeO.ite ?_ ?_
      | refine LeO.bind ?_ (fun _ => ?_)
    · intro y0 y1 y2 y3 y4
      unfold interlocutorlaw4_GramUnits.l2
      repeat' first
      | (with_reducible exact ih0 _ _ _ _)
      | (with_reducible exact ih1 _ _ _ _)
      | (with_reducible exact ih2 _ _ _ _ _)
      | (with_reducible exact ih3 _ _ _ _ _ _)
      | (with_reducible exact ih4 _ _ _ _ _ _ _)
      | (with_reducible exact interlocutorlaw4_Few.mono _ _)
      | (with_reducible exact interlocutorlaw4_Raw_Make.mono _ _ _ _ _ _ _)
      | (with_reducible exact LeO.refl _)
      | (with_reducible exact LeO.none _)
      | (with_reducible refine LeO.ite ?_ ?_)
      | (with_reducible refine LeO.bind ?_ (fun _ => ?_))
      | exact ih0 _ _ _ _
      | exact ih1 _ _ _ _
      | exact ih2 _ _ _ _ _
      | exact ih3 _ _ _ _ _ _
      | exact ih4 _ _ _ _ _ _ _
      | exact interlocutorlaw4_Few.mono _ _
      | exact interlocutorlaw4_Raw_Make.mono _ _ _ _ _ _ _
      | exact LeO.none _
      | refine LeO.ite ?_ ?_
      | refine LeO.bind ?_ (fun _ => ?_)
    · intro y0 y1 y2 y3 y4 y5
      unfold interlocutorlaw4_GramUnits.j3
      repeat' first
      | (with_reducible exact ih0 _ _ _ _)
      | (with_reducible exact ih1 _ _ _ _)
      | (with_reducible exact ih2 _ _ _ _ _)
      | (with_reducible exact ih3 _ _ _ _ _ _)
      | (with_reducible exact ih4 _ _ _ _ _ _ _)
      | (with_reducible exact interlocutorlaw4_Few.mono _ _)
      | (with_reducible exact interlocutorlaw4_Raw_Make.mono _ _ _ _ _ _ _)
      | (with_reducible exact LeO.refl _)
      | (with_reducible exact LeO.none _)
      | (with_reducible refine LeO.ite ?_ ?_)
      | (with_reducible refine LeO.bind ?_ (fun _ => ?_))
      | exact ih0 _ _ _ _
      | exact ih1 _ _ _ _
      | exact ih2 _ _ _ _ _
      | exact ih3 _ _ _ _ _ _
      | exact ih4 _ _ _ _ _ _ _
      | exact interlocutorlaw4_Few.mono _ _
      | exact interlocutorlaw4_Raw_Make.mono _ _ _ _ _ _ _
      | exact LeO.none _
      | refine LeO.ite ?_ ?_
      | refine LeO.bind ?_ (fun _ => ?_)
    · intro y0 y1 y2 y3 y4 y5 y6
      unfold interlocutorlaw4_GramUnits.l3
      repeat' first
      | (with_reducible exact ih0 _ _ _ _)
      | (with_reducible exact ih1 _ _ _ _)
      | (with_reducible exact ih2 _ _ _ _ _)
      | (with_reducible exact ih3 _ _ _ _ _ _)
      | (with_reducible exact ih4 _ _ _ _ _ _ _)
      | (with_reducible exact interlocutorlaw4_Few.mono _ _)
      | (with_reducible exact interlocutorlaw4_Raw_Make.mono _ _ _ _ _ _ _)
      | (with_reducible exact LeO.refl _)
      | (with_reducible exact LeO.none _)
      | (with_reducible refine LeO.ite ?_ ?_)
      | (with_reducible refine LeO.bind ?_ (fun _ => ?_))
      | exact ih0 _ _ _ _
      | exact ih1 _ _ _ _
      | exact ih2 _ _ _ _ _
      | exact ih3 _ _ _ _ _ _
      | exact ih4 _ _ _ _ _ _ _
      | exact interlocutorlaw4_Few.mono _ _
      | exact interlocutorlaw4_Raw_Make.mono _ _ _ _ _ _ _
      | exact LeO.none _
      | refine LeO.ite ?_ ?_
      | refine LeO.bind ?_ (fun _ => ?_)
theorem interlocutorlaw4_GramUnits.mono : ∀ a0 a1 k, LeO (interlocutorlaw4_GramUnits.f k a0 a1) (interlocutorlaw4_GramUnits.f (k + 1) a0 a1) := by
  intro a0 a1 k
  obtain ⟨ih0, ih1, ih2, ih3, ih4⟩ := interlocutorlaw4_GramUnits.mono_l k
  unfold interlocutorlaw4_GramUnits.f
  repeat' first
      | (with_reducible exact ih0 _ _ _ _)
      | (with_reducible exact ih1 _ _ _ _)
      | (with_reducible exact ih2 _ _ _ _ _)
      | (with_reducible exact ih3 _ _ _ _ _ _)
      | (with_reducible exact ih4 _ _ _ _ _ _ _)
      | (with_reducible exact interlocutorlaw4_Few.mono _ _)
      | (with_reducible exact interlocutorlaw4_Raw_Make.mono _ _ _ _ _ _ _)
      | (with_reducible exact LeO.refl _)
      | (with_reducible exact LeO.none _)
      | (with_reducible refine LeO.ite ?_ ?_)
      | (with_reducible refine LeO.bind ?_ (fun _ => ?_))
      | exact ih0 _ _ _ _
      | exact ih1 _ _ _ _
      | exact ih2 _ _ _ _ _
      | exact ih3 _ _ _ _ _ _
      | exact ih4 _ _ _ _ _ _ _
      | exact interlocutorlaw4_Few.mono _ _
      | exact interlocutorlaw4_Raw_Make.mono _ _ _ _ _ _ _
      | exact LeO.none _
      | refine LeO.ite ?_ ?_
      | refine LeO.bind ?_ (fun _ => ?_)
def interlocutorlaw4_GramUnits.T9 : Bool × List (List Nat × List Nat) := (true, [([], []), ([], []), ([], []), ([1, 2], [1, 2]), ([3], [3]), ([], []), ([5], [5]), ([6], [6]), ([4, 7, 6], [4, 7]), ([8], [8]), ([0, 9, 8], [0, 9]), ([10, 10, 0, 1, 2, 3, 4, 5, 6, 7, 8, 9, 10], [0, 10])])
def interlocutorlaw4_GramUnits.B9 : List Nat := [0, 0, 0, 6, 14, 0, 32, 96, 254, 510, 1023, 2047]
theorem interlocutorlaw4_GramUnits.tab9 : rtab .any (opsOf Try.f10 9) = interlocutorlaw4_GramUnits.T9 := by kernel_rfl
theorem interlocutorlaw4_GramUnits.bits9 : waitsOk interlocutorlaw4_GramUnits.T9.2 interlocutorlaw4_GramUnits.B9 = true := by kernel_rfl
def interlocutorlaw4_GramUnits.T20 : Bool × List (List Nat × List Nat) := (true, [([], []), ([0], [0]), ([1], [1]), ([2], [2]), ([2], [2]), ([3, 4, 2], [2, 3, 4]), ([5, 2], [2, 5]), ([2], [2]), ([7, 2], [2, 7]), ([6, 8, 2], [2, 6, 8]), ([9, 2], [2, 9]), ([2], [2]), ([2], [2]), ([11, 12, 2], [2, 11, 12]), ([13, 2], [2, 13]), ([2], [2]), ([14, 15, 2], [2, 14, 15]), ([16, 2], [2, 16]), ([10, 17, 2], [2, 10, 17]), ([2, 18], [2, 18])])
def interlocutorlaw4_GramUnits.B20 : List Nat := [0, 1, 3, 7, 7, 31, 63, 7, 135, 511, 1023, 7, 7, 6151, 14343, 7, 63495, 129031, 262143, 524287]
theorem interlocutorlaw4_GramUnits.tab20 : rtab .any (opsOf Try.f10 20) = interlocutorlaw4_GramUnits.T20 := by kernel_rfl
theorem interlocutorlaw4_GramUnits.bits20 : waitsOk interlocutorlaw4_GramUnits.T20.2 interlocutorlaw4_GramUnits.B20 = true := by kernel_rfl
set_option maxHeartbeats 8000000 in
set_option maxRecDepth 100000 in
theorem interlocutorlaw4_GramUnits.calls (k : Nat) (A0 : Option Addr) (c0 : Nat) (l0 : List (S31)) (a1 : Int) (r : Bool) (w : World) (hr0 : Kd.C k31 w A0 l0.length l0) (hc0 : l0.length ≤ c0) (h : interlocutorlaw4_GramUnits.f k l0 a1 = some r) :
    Calls Try.prog 10 #[.slice A0 l0.length c0, .int .i64 a1] w fun e w' => e = .returned (.bool r) ∧ Below w.heap.size w w' := by
  have hu31 := Try.underlying31
  have HR0 := Aside0.mk hr0
  have HC0 := Aside0.mk hc0
  clear hr0 hc0
  have HB := Aside0.mk (Below.refl w.heap.size w)
  have H : ((interlocutorlaw4_known.f).bind fun t432 => (if t432 = true then ((interlocutorlaw4_Few.f k l0).bind fun t433 => (if t433 = true then (interlocutorlaw4_GramUnits.l0 k l0 a1 ([] : List (S26)) 0) else (some true))) else (some false))) = some r := h
  clear h
  replace H := Option.bind_eq_some_iff.mp H
  obtain ⟨t432, A30, H⟩ := H
  replace H : (if t432 = true then ((interlocutorlaw4_Few.f k l0).bind fun t433 => (if t433 = true then (interlocutorlaw4_GramUnits.l0 k l0 a1 ([] : List (S26)) 0) else (some true))) else (some false)) = some r := H
  have A3 := Aside0.mk A30
  clear A30
  by_cases c4 : t432 = true
  · subst c4
    have H1 : ((interlocutorlaw4_Few.f k l0).bind fun t433 => (if t433 = true then (interlocutorlaw4_GramUnits.l0 k l0 a1 ([] : List (S26)) 0) else (some true))) = some r := by rw [if_pos rfl] at H; exact H
    clear H
    have H := H1
    clear H1
    replace H := Option.bind_eq_some_iff.mp H
    obtain ⟨t433, A50, H⟩ := H
    replace H : (if t433 = true then (interlocutorlaw4_GramUnits.l0 k l0 a1 ([] : List (S26)) 0) else (some true)) = some r := H
    have A5 := Aside0.mk A50
    clear A50
    by_cases c6 : t433 = true
    · subst c6
      have H1 : (interlocutorlaw4_GramUnits.l0 k l0 a1 ([] : List (S26)) 0) = some r := by rw [if_pos rfl] at H; exact H
      clear H
      have H := H1
      clear H1
      have H' := Aside0.mk H
      clear H
      go_enter Try.func10, Try.ntmps10
      go_wp2_with (first | ((with_reducible refine gate_callee (f := 13) rfl ?_); refine goesL_ (some 13) rfl rfl Try.func13 (by kernel_rfl) rfl #[] rfl (by (try simp only [List.map_toArray, List.map_cons, List.map_nil]); first | done | rfl | (simp only [List.length_drop, List.length_take]; rfl)) ?_; (with_reducible refine (interlocutorlaw4_known.calls  true _ A3.out).mono ?_); rintro e w7 ⟨rfl, hb⟩; refine ⟨_, rfl, ?_⟩; have n0_ := Aside0.mk (below_step (by repeat (first | (with_reducible first | exact HB.out | apply below_alloc | apply pw_below_drewN | apply below_drew1) | exact HB.out)) hb); clear HB; have HB := n0_; clear n0_; (try clear hb); (try clear hb2); (try clear hk); (try clear hi)) | ((with_reducible refine gate_callee (f := 14) rfl ?_); refine goesL_ (some 16) rfl rfl Try.func14 (by kernel_rfl) rfl #[.slice A0 l0.length c0] rfl (by (try simp only [List.map_toArray, List.map_cons, List.map_nil]); first | done | rfl | (simp only [List.length_drop, List.length_take]; rfl)) ?_; (with_reducible refine (interlocutorlaw4_Few.calls k _ _ l0 true _ ?side1 ?side2 A5.out).mono ?_); (case side1 => repeat (first | exact (Kd.C_below HR0.out HB.out) | (with_reducible refine Kd.C_alloc ?_ _) | (with_reducible refine Kd.C_drewN ?_ _) | (with_reducible refine Kd.C_drew ?_))); (case side2 => exact HC0.out); rintro e w' ⟨rfl, ⟨nd, rfl⟩⟩; refine ⟨_, rfl, ?_⟩))
      go_loopg [5, 6] k (fun kq v5 v6 w' => ∃ (x5_1 : List (S26)) (x6_1 : Int), v6 = .int .i64 x6_1 ∧ Aside0 (interlocutorlaw4_GramUnits.l0 kq l0 a1 x5_1 x6_1 = some r) ∧ Aside0 (kq ≤ k) ∧ Aside0 (Kd.S k26 26 w' w.heap.size (fun _ => True) v5 x5_1) ∧ Aside0 (Below w.heap.size w w'))
      case atStart => exact ⟨(([] : List (S26))), (0), (by first | rfl | (simp; done) | (simp [*]; done)), H', ⟨Nat.le_refl _⟩, ⟨by first | exact Kd.S_nil _ _ _ _ _ | exact Kd.N_nil _ _ _ _ _ | exact Kd.V_nil _ _ _ _ _ | exact Kd.Q_nil _ _ _ _ _ | exact Kd.R_nil _ _ _ _ _⟩, ⟨by repeat (first | (with_reducible first | exact HB.out | apply below_alloc | apply pw_below_drewN | apply below_drew1) | exact HB.out)⟩⟩
      case round =>
        clear H'
        try clear c1
        try clear p2
        try clear c4
        try clear c6
        obtain ⟨x5_1, x6_1, rfl, HA, HK1, HO_5, HB⟩ := hrel
        cases gk with
        | zero => exact absurd HA.out (by simp [interlocutorlaw4_GramUnits.l0])
        | succ k1 =>
          have H := HA.out
          clear HA
          simp only [interlocutorlaw4_GramUnits.l0] at H
          by_cases c8 : x6_1 < (l0.length : Int)
          · rw [if_pos c8] at H
            have c8b0 : decide (x6_1 < (l0.length : Int)) = true := decide_eq_true c8
            clear c8
            by_cases c9 : 0 ≤ x6_1
            · rw [if_pos c9] at H
              have c9b0 : decide (0 ≤ x6_1) = true := decide_eq_true c9
              clear c9
              replace H := Option.bind_eq_some_iff.mp H
              obtain ⟨t435, A100, H⟩ := H
              replace H : ((interlocutorlaw4_Raw_Make.f k1 ((rd_T31 l0 x6_1).f0) ((rd_T31 l0 x6_1).f1) ((rd_T31 l0 x6_1).f2) ((rd_T31 l0 x6_1).f3) ((rd_T31 l0 x6_1).f4) (wrap64 (1 + t435))).bind fun bt436 => (if x5_1.length < 1954687338268 then (interlocutorlaw4_GramUnits.l0 k1 l0 a1 (x5_1 ++ [(⟨bt436.1, bt436.2.1, (⟨bt436.2.2.1, bt436.2.2.2.1⟩ : S24), bt436.2.2.2.2⟩ : S26)]) (wrap64 (x6_1 + 1))) else (none))) = some r := H
              have A10 := Aside0.mk A100
              clear A100
              replace H := Option.bind_eq_some_iff.mp H
              obtain ⟨⟨t436, t437, t440, t441, t444⟩, A110, H⟩ := H
              replace H : (if x5_1.length < 1954687338268 then (interlocutorlaw4_GramUnits.l0 k1 l0 a1 (x5_1 ++ [(⟨t436, t437, (⟨t440, t441⟩ : S24), t444⟩ : S26)]) (wrap64 (x6_1 + 1))) else (none)) = some r := H
              have A11 := Aside0.mk A110
              clear A110
              by_cases c12 : x5_1.length < 1954687338268
              · rw [if_pos c12] at H
                have LMc12 := Aside0.mk c12
                clear c12
                obtain ⟨y445, hy445⟩ : ∃ y_ : List (S26), y_ = (x5_1 ++ [(⟨t436, t437, (⟨t440, t441⟩ : S24), t444⟩ : S26)]) := ⟨_, rfl⟩
                replace H : (interlocutorlaw4_GramUnits.l0 k1 l0 a1 y445 (wrap64 (x6_1 + 1))) = some r := by first | (rw [hy445]; with_reducible exact H) | (have H2_ := (Option.bind_some _ _).symm.trans H; rw [hy445]; with_reducible exact H2_) | (have H2_ := (Option.bind_some _ _).symm.trans H; with_reducible exact H2_) | with_reducible exact H | (rw [hy445]; exact H) | exact H
                have Ny445 := Aside0.mk hy445
                clear hy445
                have H' := Aside0.mk H
                clear H
                try go_wp2
                have n0_ := Aside0.mk (Kd.S_drew HO_5.out)
                have n1_ := Aside0.mk (below_drew1 HB.out)
                clear HO_5
                clear HB
                have HO_5 := n0_
                have HB := n1_
                clear n0_ n1_
                have p434 : 0 ≤ (x6_1 : Int) := of_decide_eq_true (by first | (with_reducible assumption) | assumption)
                have q434 : x6_1 < (l0.length : Int) := of_decide_eq_true (by first | (with_reducible assumption) | assumption)
                obtain ⟨ad434, A434_3, c434_3, A434_4, c434_4, e434, hx434_0, hx434_1, hx434_2, hx434_3, hx434_4, hl434_3, hi434_3, hl434_4, hi434_4⟩ := at_T31 HR0.out x6_1 p434 q434
                have hw434_4 := hx434_4
                have hw434_3 := hx434_3
                have hw434_2 := hx434_2
                have hw434_1 := hx434_1
                have hw434_0 := hx434_0
                cases e434
                replace hx434_0 := (HB.out.cell (World.block_lt_of_cell? w _ hx434_0)).trans hx434_0
                replace hx434_1 := (HB.out.cell (World.block_lt_of_cell? w _ hx434_1)).trans hx434_1
                replace hx434_2 := (HB.out.cell (World.block_lt_of_cell? w _ hx434_2)).trans hx434_2
                replace hx434_3 := (HB.out.cell (World.block_lt_of_cell? w _ hx434_3)).trans hx434_3
                replace hx434_4 := (HB.out.cell (World.block_lt_of_cell? w _ hx434_4)).trans hx434_4
                have HR434_3 := Aside0.mk hi434_3
                have HC434_3 := Aside0.mk hl434_3
                clear hi434_3 hl434_3
                have HR434_4 := Aside0.mk hi434_4
                have HC434_4 := Aside0.mk hl434_4
                clear hi434_4 hl434_4
                replace p434 := eq_true p434
                replace q434 := eq_true q434
                refine start_ (n := 12) (S := fun w' => w'.cell? (ad434.add ((x6_1).toNat * 5)) = some (.int .i64 ((rd_T31 l0 x6_1).f0)) ∧ w'.cell? ⟨(ad434.add ((x6_1).toNat * 5)).block, (ad434.add ((x6_1).toNat * 5)).off + 1, none⟩ = some (.int .i64 ((rd_T31 l0 x6_1).f1)) ∧ w'.cell? ⟨(ad434.add ((x6_1).toNat * 5)).block, (ad434.add ((x6_1).toNat * 5)).off + 2, none⟩ = some (.int .i64 ((rd_T31 l0 x6_1).f2)) ∧ w'.cell? ⟨(ad434.add ((x6_1).toNat * 5)).block, (ad434.add ((x6_1).toNat * 5)).off + 3, none⟩ = some (.slice A434_3 ((rd_T31 l0 x6_1).f3).length c434_3) ∧ w'.cell? ⟨(ad434.add ((x6_1).toNat * 5)).block, (ad434.add ((x6_1).toNat * 5)).off + 4, none⟩ = some (.slice A434_4 ((rd_T31 l0 x6_1).f4).length c434_4)) (ds := []) #[false, false, false, false, false, false, false, false, false, false, false, false] (by kernel_rfl) rfl rfl ⟨((HB.out.cell (World.block_lt_of_cell? w _ hw434_0)).trans hw434_0), ((HB.out.cell (World.block_lt_of_cell? w _ hw434_1)).trans hw434_1), ((HB.out.cell (World.block_lt_of_cell? w _ hw434_2)).trans hw434_2), ((HB.out.cell (World.block_lt_of_cell? w _ hw434_3)).trans hw434_3), ((HB.out.cell (World.block_lt_of_cell? w _ hw434_4)).trans hw434_4)⟩ (fun hHeld => ?_); refine with_tabW interlocutorlaw4_GramUnits.tab9 interlocutorlaw4_GramUnits.bits9 (fun HT_ HW_ => ?_)
                generalize wr.drew = w13 at HO_5 HB HR434_3 HR434_4 hx434_0 hx434_1 hx434_2 hx434_3 hx434_4 hHeld ⊢
                refine pure_ (i := 0) (N := some 24) (v := ?_) (a' := ?_) #[true, false, false, false, false, false, false, false, false, false, false, false] rfl rfl (any_of HT_.out (by kernel_rfl)) (fun _ _ _ h => h) (Or.inl ⟨by rfl, ?_⟩) ?_ ?_
                rotate_left
                · intro w'
                  go_simp
                  with_reducible rfl
                rotate_left
                · simp only [Act.put, List.setIfInBounds_toArray, List.set_cons_zero, List.set_cons_succ, i64_w, i32_w]
                  rfl
                refine pure_ (i := 1) (N := some 25) (v := ?_) (a' := ?_) #[true, true, false, false, false, false, false, false, false, false, false, false] rfl rfl (any_of HT_.out (by kernel_rfl)) (fun _ _ _ h => h) (Or.inl ⟨by rfl, ?_⟩) ?_ ?_
                rotate_left
                · intro w'
                  go_simp
                  with_reducible rfl
                rotate_left
                · simp only [Act.put, List.setIfInBounds_toArray, List.set_cons_zero, List.set_cons_succ, i64_w, i32_w]
                  rfl
                refine pure_ (i := 2) (N := some 26) (v := ?_) (a' := ?_) #[true, true, true, false, false, false, false, false, false, false, false, false] rfl rfl (any_of HT_.out (by kernel_rfl)) (fun _ _ _ h => h) (Or.inl ⟨by rfl, ?_⟩) ?_ ?_
                rotate_left
                · intro w'
                  go_simp
                  with_reducible rfl
                rotate_left
                · simp only [Act.put, List.setIfInBounds_toArray, List.set_cons_zero, List.set_cons_succ, i64_w, i32_w]
                  rfl
                refine pure_ (i := 3) (N := some 27) (v := ?_) (a' := ?_) #[true, true, true, true, false, false, false, false, false, false, false, false] rfl rfl (any_of HT_.out (by kernel_rfl)) (fun _ _ _ h => h) (Or.inl ⟨by rfl, ?_⟩) ?_ ?_
                rotate_left
                · intro w'
                  go_simp
                  with_reducible rfl
                rotate_left
                · simp only [Act.put, List.setIfInBounds_toArray, List.set_cons_zero, List.set_cons_succ, i64_w, i32_w]
                  rfl
                refine pure_ (i := 5) (N := some 29) (v := ?_) (a' := ?_) #[true, true, true, true, false, true, false, false, false, false, false, false] rfl rfl (any_of HT_.out (by kernel_rfl)) (fun _ _ _ h => h) (Or.inl ⟨by rfl, ?_⟩) ?_ ?_
                rotate_left
                · intro w'
                  go_simp
                  with_reducible rfl
                rotate_left
                · simp only [Act.put, List.setIfInBounds_toArray, List.set_cons_zero, List.set_cons_succ, i64_w, i32_w]
                  rfl
                refine take_ (i := 4) (N := some 28) (v := ?_) (a' := ?_) #[true, true, true, true, true, true, false, false, false, false, false, false] rfl rfl (take_ofW HT_.out HW_.out (by kernel_rfl)) (fun _ _ _ h => h) (Or.inl ⟨by rfl, ?_⟩) hHeld ?_ ?_
                rotate_left
                · rintro w' ⟨s0, s1, s2, s3, s4⟩
                  go_simp
                  with_reducible rfl
                rotate_left
                · simp only [Act.put, List.setIfInBounds_toArray, List.set_cons_zero, List.set_cons_succ, i64_w, i32_w]
                  rfl
                refine one_ (i := 6) (N := some 30) #[true, true, true, true, true, true, true, false, false, false, false, false] rfl rfl (one_of HT_.out (by kernel_rfl)) (by decide) (fun K hK => ?_)
                refine goes_ Try.func17 (by kernel_rfl) rfl #[.int .i64 a1, .int .i64 20] (by rfl) rfl rfl (by (try simp only [List.map_toArray, List.map_cons, List.map_nil]); first | done | rfl | (simp only [List.length_drop, List.length_take]; rfl)) ?_
                with_reducible refine (interlocutorlaw4_within.calls a1 20 t435 _ A10.out).mono ?_
                rintro e w' ⟨rfl, ⟨nd, rfl⟩⟩
                refine ⟨_, rfl, ?_⟩
                refine hK.out _ _ ⟨((HB.out.cell (World.block_lt_of_cell? w _ hw434_0)).trans hw434_0), ((HB.out.cell (World.block_lt_of_cell? w _ hw434_1)).trans hw434_1), ((HB.out.cell (World.block_lt_of_cell? w _ hw434_2)).trans hw434_2), ((HB.out.cell (World.block_lt_of_cell? w _ hw434_3)).trans hw434_3), ((HB.out.cell (World.block_lt_of_cell? w _ hw434_4)).trans hw434_4)⟩ (fun hHeld => ?_)
                clear hK K
                refine norm_ (a' := ?_) ?_ ?_
                rotate_left
                · show Act.put _ (some 30) _ = _
                  simp only [Act.put, List.setIfInBounds_toArray, List.set_cons_zero, List.set_cons_succ, i64_w, i32_w]
                  rfl
                refine pure_ (i := 7) (N := some 31) (v := ?_) (a' := ?_) #[true, true, true, true, true, true, true, true, false, false, false, false] rfl rfl (any_of HT_.out (by kernel_rfl)) (fun _ _ _ h => h) (Or.inl ⟨by rfl, ?_⟩) ?_ ?_
                rotate_left
                · intro w'
                  go_simp
                  with_reducible rfl
                rotate_left
                · simp only [Act.put, List.setIfInBounds_toArray, List.set_cons_zero, List.set_cons_succ, i64_w, i32_w]
                  rfl
                refine one_ (i := 8) (N := some 32) #[true, true, true, true, true, true, true, true, true, false, false, false] rfl rfl (one_of HT_.out (by kernel_rfl)) (by decide) (fun K hK => ?_)
                refine goes_ Try.func15 (by kernel_rfl) rfl #[.agg #[.int .i64 ((rd_T31 l0 x6_1).f0), .int .i64 ((rd_T31 l0 x6_1).f1), .int .i64 ((rd_T31 l0 x6_1).f2), .slice A434_3 ((rd_T31 l0 x6_1).f3).length c434_3, .slice A434_4 ((rd_T31 l0 x6_1).f4).length c434_4], .int .i64 (wrap64 (1 + t435))] (by rfl) rfl rfl (by (try simp only [List.map_toArray, List.map_cons, List.map_nil]); first | done | rfl | (simp only [List.length_drop, List.length_take]; rfl)) ?_
                with_reducible refine (interlocutorlaw4_Raw_Make.calls k1 ((rd_T31 l0 x6_1).f0) ((rd_T31 l0 x6_1).f1) ((rd_T31 l0 x6_1).f2) _ _ ((rd_T31 l0 x6_1).f3) _ _ ((rd_T31 l0 x6_1).f4) (wrap64 (1 + t435)) t436 t437 t440 t441 t444 _ ?side1 ?side2 ?side3 ?side4 A11.out).mono ?_
                (case side1 => repeat (first | exact (Kd.C_below HR434_3.out (by repeat (first | (with_reducible first | exact HB.out | apply below_alloc | apply pw_below_drewN | apply below_drew1) | exact HB.out))) | (with_reducible refine Kd.C_alloc ?_ _) | (with_reducible refine Kd.C_drewN ?_ _) | (with_reducible refine Kd.C_drew ?_)))
                (case side2 => exact HC434_3.out)
                (case side3 => repeat (first | exact (Kd.C_below HR434_4.out (by repeat (first | (with_reducible first | exact HB.out | apply below_alloc | apply pw_below_drewN | apply below_drew1) | exact HB.out))) | (with_reducible refine Kd.C_alloc ?_ _) | (with_reducible refine Kd.C_drewN ?_ _) | (with_reducible refine Kd.C_drew ?_)))
                (case side4 => exact HC434_4.out)
                rintro e w14 ⟨v438, v442, rfl, ho0, ho1, hb⟩
                refine ⟨_, rfl, ?_⟩
                have n0_ := Aside0.mk (Kd.S_mono (Kd.S_told (Kd.S_told (Kd.S_old (by (with_reducible repeat (first | apply Kd.S_alloc | apply Kd.S_drewN | apply Kd.S_drew)); exact HO_5.out) hb) (Kd.R_base ho0)) (Kd.R_base ho1)) (fun _ h_ => h_.1))
                have n1_ := Aside0.mk (Kd.R_lower ho0 (below_size (by repeat (first | (with_reducible first | exact HB.out | apply below_alloc | apply pw_below_drewN | apply below_drew1) | exact HB.out))))
                have n2_ := Aside0.mk (Kd.R_lower ho1 (below_size (by repeat (first | (with_reducible first | exact HB.out | apply below_alloc | apply pw_below_drewN | apply below_drew1) | exact HB.out))))
                have n3_ := Aside0.mk (below_step (by repeat (first | (with_reducible first | exact HB.out | apply below_alloc | apply pw_below_drewN | apply below_drew1) | exact HB.out)) hb)
                clear HO_5
                clear HB
                have HO_5 := n0_
                have HO439 := n1_
                have HO443 := n2_
                have HB := n3_
                clear n0_ n1_ n2_ n3_
                (try clear hb)
                (try clear hb2)
                (try clear hk)
                (try clear hi)
                (try clear ho0)
                (try clear ho1)
                obtain ⟨Ao16, co16, eo16⟩ := Kd.R_slice HO439.out
                (first | subst eo16 | (injection eo16 with f1_ f2_ f3_; have f4_ := f1_.symm; have f5_ := f3_.symm; clear f1_ f2_ f3_; subst f4_; subst f5_))
                obtain ⟨Ao17, co17, eo17⟩ := Kd.R_slice HO443.out
                (first | subst eo17 | (injection eo17 with f1_ f2_ f3_; have f4_ := f1_.symm; have f5_ := f3_.symm; clear f1_ f2_ f3_; subst f4_; subst f5_))
                refine hK.out _ _ ⟨((HB.out.cell (World.block_lt_of_cell? w _ hw434_0)).trans hw434_0), ((HB.out.cell (World.block_lt_of_cell? w _ hw434_1)).trans hw434_1), ((HB.out.cell (World.block_lt_of_cell? w _ hw434_2)).trans hw434_2), ((HB.out.cell (World.block_lt_of_cell? w _ hw434_3)).trans hw434_3), ((HB.out.cell (World.block_lt_of_cell? w _ hw434_4)).trans hw434_4)⟩ (fun hHeld => ?_)
                clear hK K
                refine norm_ (a' := ?_) ?_ ?_
                rotate_left
                · show Act.put _ (some 32) _ = _
                  simp only [Act.put, List.setIfInBounds_toArray, List.set_cons_zero, List.set_cons_succ, i64_w, i32_w]
                  rfl
                refine one_ (i := 9) (N := some 33) #[true, true, true, true, true, true, true, true, true, true, false, false] rfl rfl (one_of HT_.out (by kernel_rfl)) (by decide) (fun K hK => ?_)
                refine value_ (w1 := ?_) (v := ?_) (by rfl) rfl ?_ ?_
                rotate_left 2
                · go_simp
                  constructor
                  · rfl
                  · rfl
                refine hK.out _ _ ⟨(World.cell?_alloc_lt _ _ _ (World.block_lt_of_cell? _ _ (((HB.out.cell (World.block_lt_of_cell? w _ hw434_0)).trans hw434_0)))).trans (((HB.out.cell (World.block_lt_of_cell? w _ hw434_0)).trans hw434_0)), (World.cell?_alloc_lt _ _ _ (World.block_lt_of_cell? _ _ (((HB.out.cell (World.block_lt_of_cell? w _ hw434_1)).trans hw434_1)))).trans (((HB.out.cell (World.block_lt_of_cell? w _ hw434_1)).trans hw434_1)), (World.cell?_alloc_lt _ _ _ (World.block_lt_of_cell? _ _ (((HB.out.cell (World.block_lt_of_cell? w _ hw434_2)).trans hw434_2)))).trans (((HB.out.cell (World.block_lt_of_cell? w _ hw434_2)).trans hw434_2)), (World.cell?_alloc_lt _ _ _ (World.block_lt_of_cell? _ _ (((HB.out.cell (World.block_lt_of_cell? w _ hw434_3)).trans hw434_3)))).trans (((HB.out.cell (World.block_lt_of_cell? w _ hw434_3)).trans hw434_3)), (World.cell?_alloc_lt _ _ _ (World.block_lt_of_cell? _ _ (((HB.out.cell (World.block_lt_of_cell? w _ hw434_4)).trans hw434_4)))).trans (((HB.out.cell (World.block_lt_of_cell? w _ hw434_4)).trans hw434_4))⟩ (fun hHeld => ?_)
                clear hK K
                refine norm_ (a' := ?_) ?_ ?_
                rotate_left
                · show Act.put _ (some 33) _ = _
                  simp only [Act.put, List.setIfInBounds_toArray, List.set_cons_zero, List.set_cons_succ, i64_w, i32_w]
                  rfl
                refine one_ (i := 10) (N := some 34) #[true, true, true, true, true, true, true, true, true, true, true, false] rfl rfl (one_of HT_.out (by kernel_rfl)) (by decide) (fun K hK => ?_)
                refine Kd.S_append_step k26 (w0 := w) w.heap.size (by rfl) (.tmp 24) (.tmp 33) 36 26 (.agg #[(.int .i64 0), (.slice none 0 0), (.int .i64 0), (.slice none 0 0), (.int .i64 0)]) 72 rfl Try.underlying36 info26 rfl (by decide) (by omega) u5 x5_1 (⟨t436, t437, (⟨t440, t441⟩ : S24), t444⟩ : S26) [.int .i64 t436, .slice Ao16 t437.length co16, .int .i64 t440, .slice Ao17 t441.length co17, .int .i64 t444] (fun _ => True) (fun k_ => some k_ = (.slice Ao16 t437.length co16 : Value).ownBlock ∨ some k_ = (.slice Ao17 t441.length co17 : Value).ownBlock) rfl rfl ?aP (fun k_ hk_ => hk_.elim (fun h_ => ((Kd.R_mono (ok' := fun k_ => ((fun _ => True)) k_ ∧ some k_ ≠ (u5 : Value).ownBlock) (Kd.R_apart' (HO439.out) (Kd.S_typed HO_5.out) (by decide)) (fun k_ hk => ⟨trivial, hk.2⟩))).1 k_ h_.symm) (fun h_ => ((Kd.R_mono (ok' := fun k_ => ((fun _ => True)) k_ ∧ some k_ ≠ (u5 : Value).ownBlock) (Kd.R_apart' (HO443.out) (Kd.S_typed HO_5.out) (by decide)) (fun k_ hk => ⟨trivial, hk.2⟩))).1 k_ h_.symm)) ?aF ?aO ?aB ?aS ?aL ?_
                (case aP => exact k26_mkM _ _ _ (⟨t436, t437, (⟨t440, t441⟩ : S24), t444⟩ : S26) (Kd.R_mono (Kd.R_tight rfl (Kd.R_mono (ok' := fun k_ => ((fun _ => True)) k_ ∧ some k_ ≠ (u5 : Value).ownBlock) (Kd.R_apart' (HO439.out) (Kd.S_typed HO_5.out) (by decide)) (fun k_ hk => ⟨trivial, hk.2⟩))) (fun _ h_ => Or.inl h_)) (Kd.R_mono (Kd.R_tight rfl (Kd.R_mono (ok' := fun k_ => ((fun _ => True)) k_ ∧ some k_ ≠ (u5 : Value).ownBlock) (Kd.R_apart' (HO443.out) (Kd.S_typed HO_5.out) (by decide)) (fun k_ hk => ⟨trivial, hk.2⟩))) (fun _ h_ => Or.inr (h_))))
                (case aB => exact (by repeat (first | (with_reducible first | exact HB.out | apply below_alloc | apply pw_below_drewN | apply below_drew1) | exact HB.out)))
                (case aF => exact (fun _ _ => trivial))
                (case aO => exact (by (with_reducible repeat (first | apply Kd.S_alloc | apply Kd.S_drewN | apply Kd.S_drew)); exact Kd.S_mono HO_5.out (fun k_ hk => ⟨trivial, fun e_ => e_.elim (fun h_ => hk.1.2 h_) (fun h_ => hk.2 h_)⟩)))
                (case aS => exact (below_size (by repeat (first | (with_reducible first | exact HB.out | apply below_alloc | apply pw_below_drewN | apply below_drew1) | exact HB.out))))
                (case aL => have := LMc12.out; omega)
                intro v446 w15 ho hb hg hat
                rw [← Ny445.out] at ho
                have n0_ := Aside0.mk (hb)
                have n1_ := Aside0.mk (ho)
                clear HB
                clear HO_5
                clear HO439
                clear HO443
                have HB := n0_
                have HO447 := n1_
                clear n0_ n1_
                clear ho hb hg hat
                refine hK.out _ _ ⟨((HB.out.cell (World.block_lt_of_cell? w _ hw434_0)).trans hw434_0), ((HB.out.cell (World.block_lt_of_cell? w _ hw434_1)).trans hw434_1), ((HB.out.cell (World.block_lt_of_cell? w _ hw434_2)).trans hw434_2), ((HB.out.cell (World.block_lt_of_cell? w _ hw434_3)).trans hw434_3), ((HB.out.cell (World.block_lt_of_cell? w _ hw434_4)).trans hw434_4)⟩ (fun hHeld => ?_)
                clear hK K
                refine norm_ (a' := ?_) ?_ ?_
                rotate_left
                · show Act.put _ (some 34) _ = _
                  simp only [Act.put, List.setIfInBounds_toArray, List.set_cons_zero, List.set_cons_succ, i64_w, i32_w]
                  rfl
                refine pure_ (i := 11) (N := some 5) (v := ?_) (a' := ?_) #[true, true, true, true, true, true, true, true, true, true, true, true] rfl rfl (any_of HT_.out (by kernel_rfl)) (fun _ _ _ h => h) (Or.inl ⟨by rfl, ?_⟩) ?_ ?_
                rotate_left
                · intro w'
                  go_simp
                  with_reducible rfl
                rotate_left
                · simp only [Act.put, List.setIfInBounds_toArray, List.set_cons_zero, List.set_cons_succ, i64_w, i32_w]
                  rfl
                refine done_ (done_of HT_.out (by kernel_rfl)) ?_
                try go_wp2
                go_roundg k1
                case measure => have := HK1.out; omega
                case rel => exact ⟨(y445), (wrap64 (x6_1 + 1)), (by first | rfl | (simp; done) | (simp [*]; done)), H', ⟨by have := HK1.out; omega⟩, ⟨by (with_reducible repeat (first | apply Kd.S_alloc | apply Kd.S_drewN | apply Kd.S_drew)); exact HO447.out⟩, ⟨by repeat (first | (with_reducible first | exact HB.out | apply below_alloc | apply pw_below_drewN | apply below_drew1) | exact HB.out)⟩⟩
              · rw [if_neg c12] at H
                exact absurd H (by simp)
            · rw [if_neg c9] at H
              exact absurd H (by simp)
          · rw [if_neg c8] at H
            have c8b0 : decide (x6_1 < (l0.length : Int)) = false := decide_eq_false c8
            clear c8
            replace H := Option.bind_eq_some_iff.mp H
            obtain ⟨t448, A180, H⟩ := H
            replace H : (if (t448.length : Int) = 20 then (interlocutorlaw4_GramUnits.l1 k1 x5_1 t448 0 0) else (some false)) = some r := H
            have A18 := Aside0.mk A180
            clear A180
            by_cases c19 : (t448.length : Int) = 20
            · rw [if_pos c19] at H
              have c19b0 : ((t448.length : Int) == 20) = true := beq_iff_eq.mpr c19
              have c19b1 : ((t448.length : Int) != 20) = false := bne_eq_false_iff_eq.mpr c19
              clear c19
              have H' := Aside0.mk H
              clear H
              obtain ⟨Ao20, co20, eo20⟩ := Kd.S_slice HO_5.out
              subst eo20
              go_wp2_with (first | ((with_reducible refine gate_callee (f := 19) rfl ?_); refine goesL_ (some 36) rfl rfl Try.func19 (by kernel_rfl) rfl #[.slice Ao20 x5_1.length co20] rfl (by (try simp only [List.map_toArray, List.map_cons, List.map_nil]); first | done | rfl | (simp only [List.length_drop, List.length_take]; rfl)) ?_; (with_reducible refine (gram_Units.calls _ _ x5_1 t448 _ ?side1 ?side2 A18.out).mono ?_); (case side1 => repeat (first | exact (Kd.S_reads' HO_5.out).2.2 | (with_reducible refine Kd.C_alloc ?_ _) | (with_reducible refine Kd.C_drewN ?_ _) | (with_reducible refine Kd.C_drew ?_))); (case side2 => exact (Kd.S_reads' HO_5.out).2.1); rintro e w21 ⟨v449, rfl, ho0, hb⟩; refine ⟨_, rfl, ?_⟩; have n0_ := Aside0.mk (Kd.S_below (by (with_reducible repeat (first | apply Kd.S_alloc | apply Kd.S_drewN | apply Kd.S_drew)); exact HO_5.out) hb); have n1_ := Aside0.mk (Kd.S_lower ho0 (below_size (by repeat (first | (with_reducible first | exact HB.out | apply below_alloc | apply pw_below_drewN | apply below_drew1) | exact HB.out)))); have n2_ := Aside0.mk (below_step (by repeat (first | (with_reducible first | exact HB.out | apply below_alloc | apply pw_below_drewN | apply below_drew1) | exact HB.out)) hb); clear HO_5; clear HB; have HO_5 := n0_; have HO450 := n1_; have HB := n2_; clear n0_ n1_ n2_; (try clear hb); (try clear hb2); (try clear hk); (try clear hi); (try clear ho0); obtain ⟨Ao22, co22, eo22⟩ := Kd.S_slice HO450.out; subst eo22))
              go_loopg [8, 9] k1 (fun kq v8 v9 w' => ∃ (x8_2 : Int) (x9_2 : Int), v8 = .int .i64 x8_2 ∧ v9 = .int .i64 x9_2 ∧ Aside0 (interlocutorlaw4_GramUnits.l1 kq x5_1 t448 x8_2 x9_2 = some r) ∧ Aside0 (kq ≤ k1) ∧ Aside0 (Kd.S k26 26 w' w.heap.size (fun _ => True) (.slice Ao20 x5_1.length co20) x5_1) ∧ Aside0 (Kd.S (Kd.slice 3 (Kd.int .i64)) 22 w' w.heap.size (fun _ => True) (.slice Ao22 t448.length co22) t448) ∧ Aside0 (Below w.heap.size w w'))
              case atStart => exact ⟨(0), (0), (by first | rfl | (simp; done) | (simp [*]; done)), (by first | rfl | (simp; done) | (simp [*]; done)), H', ⟨Nat.le_refl _⟩, ⟨by (with_reducible repeat (first | apply Kd.S_alloc | apply Kd.S_drewN | apply Kd.S_drew)); exact HO_5.out⟩, ⟨by (with_reducible repeat (first | apply Kd.S_alloc | apply Kd.S_drewN | apply Kd.S_drew)); exact HO450.out⟩, ⟨by repeat (first | (with_reducible first | exact HB.out | apply below_alloc | apply pw_below_drewN | apply below_drew1) | exact HB.out)⟩⟩
              case round =>
                clear H'
                try clear c1
                try clear p2
                try clear c4
                try clear p4
                try clear q4
                try clear hx4
                try clear c6
                try clear p6
                try clear c8
                try clear c8b0
                try clear c9
                try clear c9b0
                try clear c10
                try clear c12
                try clear c13
                try clear c14
                try clear c15
                try clear c17
                try clear c19
                try clear c19b0
                try clear c19b1
                try clear hx434_0
                try clear hx434_1
                try clear hx434_2
                try clear hx434_3
                try clear hx434_4
                try clear p2
                try clear p434
                try clear q434
                obtain ⟨x8_2, x9_2, rfl, rfl, HA, HK2, HO_5, HO_7, HB⟩ := hrel
                cases gk with
                | zero => exact absurd HA.out (by simp [interlocutorlaw4_GramUnits.l1])
                | succ k2 =>
                  have H := HA.out
                  clear HA
                  simp only [interlocutorlaw4_GramUnits.l1] at H
                  by_cases c23 : x9_2 < 20
                  · rw [if_pos c23] at H
                    have c23b0 : decide (x9_2 < 20) = true := decide_eq_true c23
                    clear c23
                    have H' := Aside0.mk H
                    clear H
                    go_wp2
                    go_loopg [8, 10] k2 (fun kq v8 v10 w' => ∃ (x8_3 : Int) (x10_3 : Int), v8 = .int .i64 x8_3 ∧ v10 = .int .i64 x10_3 ∧ Aside0 (interlocutorlaw4_GramUnits.l2 kq x5_1 t448 x8_3 x9_2 x10_3 = some r) ∧ Aside0 (kq ≤ k2) ∧ Aside0 (Kd.S k26 26 w' w.heap.size (fun _ => True) (.slice Ao20 x5_1.length co20) x5_1) ∧ Aside0 (Kd.S (Kd.slice 3 (Kd.int .i64)) 22 w' w.heap.size (fun _ => True) (.slice Ao22 t448.length co22) t448) ∧ Aside0 (Below w.heap.size w w'))
                    case atStart => exact ⟨(x8_2), (0), (by first | rfl | (simp; done) | (simp [*]; done)), (by first | rfl | (simp; done) | (simp [*]; done)), H', ⟨Nat.le_refl _⟩, ⟨by (with_reducible repeat (first | apply Kd.S_alloc | apply Kd.S_drewN | apply Kd.S_drew)); exact HO_5.out⟩, ⟨by (with_reducible repeat (first | apply Kd.S_alloc | apply Kd.S_drewN | apply Kd.S_drew)); exact HO_7.out⟩, ⟨by repeat (first | (with_reducible first | exact HB.out | apply below_alloc | apply pw_below_drewN | apply below_drew1) | exact HB.out)⟩⟩
                    case round =>
                      clear H'
                      try clear c1
                      try clear c2
                      try clear p2
                      try clear c4
                      try clear p4
                      try clear q4
                      try clear hx4
                      try clear c6
                      try clear p6
                      try clear c8
                      try clear c8b0
                      try clear c9
                      try clear c9b0
                      try clear c10
                      try clear c12
                      try clear c13
                      try clear c14
                      try clear c15
                      try clear c17
                      try clear c19
                      try clear c19b0
                      try clear c19b1
                      try clear c23
                      try clear c23b0
                      try clear hx434_0
                      try clear hx434_1
                      try clear hx434_2
                      try clear hx434_3
                      try clear hx434_4
                      try clear p2
                      try clear p4
                      try clear p434
                      try clear p6
                      try clear q4
                      try clear q434
                      obtain ⟨x8_3, x10_3, rfl, rfl, HA, HK3, HO_5, HO_7, HB⟩ := hrel
                      cases gk with
                      | zero => exact absurd HA.out (by simp [interlocutorlaw4_GramUnits.l2])
                      | succ k3 =>
                        have H := HA.out
                        clear HA
                        simp only [interlocutorlaw4_GramUnits.l2] at H
                        by_cases c24 : 0 ≤ x9_2
                        · rw [if_pos c24] at H
                          have c24b0 : decide (0 ≤ x9_2) = true := decide_eq_true c24
                          clear c24
                          by_cases c25 : x9_2 < (t448.length : Int)
                          · rw [if_pos c25] at H
                            have c25b0 : decide (x9_2 < (t448.length : Int)) = true := decide_eq_true c25
                            clear c25
                            by_cases c26 : x10_3 < ((rd_L2 t448 x9_2).length : Int)
                            · rw [if_pos c26] at H
                              have c26b0 : decide (x10_3 < ((rd_L2 t448 x9_2).length : Int)) = true := decide_eq_true c26
                              clear c26
                              have HC27 := Aside0.mk H
                              clear H
                              have p451 : 0 ≤ (x9_2 : Int) := of_decide_eq_true (by first | (with_reducible assumption) | assumption)
                              have q451 : x9_2 < (t448.length : Int) := of_decide_eq_true (by first | (with_reducible assumption) | assumption)
                              obtain ⟨ad451, A451_0, c451_0, e451, hx451_0, hl451_0, hi451_0⟩ := at_L2 (Kd.S_reads' HO_7.out).2.2 x9_2 p451 q451
                              cases e451
                              obtain ⟨ce451, hce451, hMe451, hcc451⟩ := Kd.S_get HO_7.out [] x9_2 p451 (by first | exact q451 | exact of_decide_eq_true (by first | (with_reducible assumption) | assumption) | (have e_ := (Kd.S_reads' HO_7.out).1; omega))
                              obtain ⟨ve451_0, rfl, ge451_0⟩ := hMe451
                              have hv451_0 := hcc451 0 _ rfl
                              rw [Nat.add_zero, show ((Kd.slice 3 (Kd.int .i64))).sz = 1 from rfl, Nat.mul_one] at hv451_0
                              replace hv451_0 := Option.some.inj (hv451_0.symm.trans hx451_0)
                              rw [hv451_0] at ge451_0
                              have HL451_0 := Aside0.mk (show Kd.R (Kd.int .i64) 3 _ _ _ _ (rd_L2 t448 x9_2) from ge451_0)
                              clear hv451_0 ge451_0
                              clear hcc451 hce451
                              have HR451_0 := Aside0.mk hi451_0
                              have HC451_0 := Aside0.mk hl451_0
                              clear hi451_0 hl451_0
                              replace p451 := eq_true p451
                              replace q451 := eq_true q451
                              go_upto_region 20 with (fail)
                              go_cut [72] (fun v72 wc => ∃ (kq : Nat) (x72_26 : Bool), v72 = .bool x72_26 ∧ Aside0 (interlocutorlaw4_GramUnits.j3 kq x5_1 t448 x8_3 x9_2 x10_3 x72_26 = some r) ∧ Aside0 (kq ≤ k3) ∧ Aside0 (Kd.S k26 26 wc w.heap.size (fun _ => True) (.slice Ao20 x5_1.length co20) x5_1) ∧ Aside0 (Kd.S (Kd.slice 3 (Kd.int .i64)) 22 wc w.heap.size (fun _ => True) (.slice (some ad451) t448.length co22) t448) ∧ Aside0 (Kd.C (Kd.int .i64) wc A451_0 (rd_L2 t448 x9_2).length (rd_L2 t448 x9_2)) ∧ Aside0 (Below w.heap.size w wc))
                              case first =>
                                have H := HC27.out
                                clear HC27
                                by_cases c28 : x10_3 > 0
                                · rw [if_pos c28] at H
                                  have c28b0 : decide (0 < x10_3) = true := decide_eq_true c28
                                  clear c28
                                  (first | rw [c28b0] | (simp only [i64_w, i32_w]; rw [c28b0]) | skip)
                                  obtain ⟨ji29, hji29⟩ : ∃ j_ : Int, (wrap64 (x10_3 - 1)) = j_ := ⟨_, rfl⟩
                                  replace H : (if 0 ≤ (ji29) then (if (ji29) < ((rd_L2 t448 x9_2).length : Int) then (if 0 ≤ x10_3 then (interlocutorlaw4_GramUnits.j3 k3 x5_1 t448 x8_3 x9_2 x10_3 (decide ((rd (rd_L2 t448 x9_2) (ji29)) ≥ (rd (rd_L2 t448 x9_2) x10_3)))) else (none)) else (none)) else (none)) = some r := by first | (rw [hji29] at H; exact H) | (simp only [hji29] at H ⊢; exact H)
                                  have hji29w : (IntKind.i64.wrap (x10_3 - 1)) = ji29 := (i64_w _).trans hji29
                                  by_cases c30 : 0 ≤ (ji29)
                                  · rw [if_pos c30] at H
                                    have c30b0 : decide (0 ≤ (ji29)) = true := decide_eq_true c30
                                    clear c30
                                    by_cases c31 : (ji29) < ((rd_L2 t448 x9_2).length : Int)
                                    · rw [if_pos c31] at H
                                      have c31b0 : decide ((ji29) < ((rd_L2 t448 x9_2).length : Int)) = true := decide_eq_true c31
                                      clear c31
                                      by_cases c32 : 0 ≤ x10_3
                                      · rw [if_pos c32] at H
                                        have c32b0 : decide (0 ≤ x10_3) = true := decide_eq_true c32
                                        clear c32
                                        have H' := Aside0.mk H
                                        clear H
                                        try go_wp2
                                        have p452 : 0 ≤ (x9_2 : Int) := of_decide_eq_true (by first | (with_reducible assumption) | assumption)
                                        have q452 : x9_2 < (t448.length : Int) := of_decide_eq_true (by first | (with_reducible assumption) | assumption)
                                        obtain ⟨ad452, A452_0, c452_0, e452, hx452_0, hl452_0, hi452_0⟩ := at_L2 (Kd.S_reads' HO_7.out).2.2 x9_2 p452 q452
                                        obtain rfl : ad451 = ad452 := (by injection e452)
                                        obtain ⟨ce452, hce452, hMe452, hcc452⟩ := Kd.S_get HO_7.out [] x9_2 p452 (by first | exact q452 | exact of_decide_eq_true (by first | (with_reducible assumption) | assumption) | (have e_ := (Kd.S_reads' HO_7.out).1; omega))
                                        obtain ⟨ve452_0, rfl, ge452_0⟩ := hMe452
                                        have hv452_0 := hcc452 0 _ rfl
                                        rw [Nat.add_zero, show ((Kd.slice 3 (Kd.int .i64))).sz = 1 from rfl, Nat.mul_one] at hv452_0
                                        replace hv452_0 := Option.some.inj (hv452_0.symm.trans hx452_0)
                                        rw [hv452_0] at ge452_0
                                        have HL452_0 := Aside0.mk (show Kd.R (Kd.int .i64) 3 _ _ _ _ (rd_L2 t448 x9_2) from ge452_0)
                                        clear hv452_0 ge452_0
                                        clear hcc452 hce452
                                        have HR452_0 := Aside0.mk hi452_0
                                        have HC452_0 := Aside0.mk hl452_0
                                        clear hi452_0 hl452_0
                                        replace p452 := eq_true p452
                                        replace q452 := eq_true q452
                                        have p453 : 0 ≤ ((ji29) : Int) := of_decide_eq_true (by first | (with_reducible assumption) | assumption)
                                        have q453 : (ji29) < ((rd_L2 t448 x9_2).length : Int) := of_decide_eq_true (by first | (with_reducible assumption) | assumption)
                                        obtain ⟨ad453, e453, hx453_0⟩ := Kd.at_int (by repeat (first | (with_reducible exact HR452_0.out) | (with_reducible refine Kd.C_alloc ?_ _) | (with_reducible refine Kd.C_drewN ?_ _) | (with_reducible refine Kd.C_drew ?_) | exact HR452_0.out)) (ji29) p453 q453
                                        cases e453
                                        replace p453 := eq_true p453
                                        replace q453 := eq_true q453
                                        have p454 : 0 ≤ (x9_2 : Int) := of_decide_eq_true (by first | (with_reducible assumption) | assumption)
                                        have q454 : x9_2 < (t448.length : Int) := of_decide_eq_true (by first | (with_reducible assumption) | assumption)
                                        obtain ⟨ad454, A454_0, c454_0, e454, hx454_0, hl454_0, hi454_0⟩ := at_L2 (Kd.S_reads' HO_7.out).2.2 x9_2 p454 q454
                                        obtain rfl : ad451 = ad454 := (by injection e454)
                                        obtain ⟨ce454, hce454, hMe454, hcc454⟩ := Kd.S_get HO_7.out [] x9_2 p454 (by first | exact q454 | exact of_decide_eq_true (by first | (with_reducible assumption) | assumption) | (have e_ := (Kd.S_reads' HO_7.out).1; omega))
                                        obtain ⟨ve454_0, rfl, ge454_0⟩ := hMe454
                                        have hv454_0 := hcc454 0 _ rfl
                                        rw [Nat.add_zero, show ((Kd.slice 3 (Kd.int .i64))).sz = 1 from rfl, Nat.mul_one] at hv454_0
                                        replace hv454_0 := Option.some.inj (hv454_0.symm.trans hx454_0)
                                        rw [hv454_0] at ge454_0
                                        have HL454_0 := Aside0.mk (show Kd.R (Kd.int .i64) 3 _ _ _ _ (rd_L2 t448 x9_2) from ge454_0)
                                        clear hv454_0 ge454_0
                                        clear hcc454 hce454
                                        have HR454_0 := Aside0.mk hi454_0
                                        have HC454_0 := Aside0.mk hl454_0
                                        clear hi454_0 hl454_0
                                        replace p454 := eq_true p454
                                        replace q454 := eq_true q454
                                        have ea_ := Option.some.inj (hx452_0.symm.trans hx454_0)
                                        injection ea_ with ea_ en_ ec_
                                        subst ea_
                                        subst ec_
                                        clear en_
                                        have p455 : 0 ≤ (x10_3 : Int) := of_decide_eq_true (by first | (with_reducible assumption) | assumption)
                                        have q455 : x10_3 < ((rd_L2 t448 x9_2).length : Int) := of_decide_eq_true (by first | (with_reducible assumption) | assumption)
                                        obtain ⟨ad455, e455, hx455_0⟩ := Kd.at_int (by repeat (first | (with_reducible exact HR454_0.out) | (with_reducible refine Kd.C_alloc ?_ _) | (with_reducible refine Kd.C_drewN ?_ _) | (with_reducible refine Kd.C_drew ?_) | exact HR454_0.out)) x10_3 p455 q455
                                        cases e455
                                        replace p455 := eq_true p455
                                        replace q455 := eq_true q455
                                        try (have ea_ := Option.some.inj (hx451_0.symm.trans hx452_0); injection ea_ with ea_ en_ ec_; subst ea_; subst ec_; clear en_)
                                        try (have ea_ := Option.some.inj (hx451_0.symm.trans hx454_0); injection ea_ with ea_ en_ ec_; subst ea_; subst ec_; clear en_)
                                        go_quiet (fail)
                                        try go_wp2
                                        go_meet
                                        case rel => exact ⟨_, (decide ((rd (rd_L2 t448 x9_2) (ji29)) ≥ (rd (rd_L2 t448 x9_2) x10_3))), (by first | rfl | (simp; done) | (simp only [← hji29] <;> (first | rfl | simp)) | (simp [*]; done)), H', ⟨by have := HK1.out; have := HK2.out; have := HK3.out; first | omega | exact Nat.le_refl _⟩, ⟨by (with_reducible repeat (first | apply Kd.S_alloc | apply Kd.S_drewN | apply Kd.S_drew)); exact HO_5.out⟩, ⟨by (with_reducible repeat (first | apply Kd.S_alloc | apply Kd.S_drewN | apply Kd.S_drew)); exact HO_7.out⟩, ⟨by repeat (first | (with_reducible exact HR451_0.out) | (with_reducible refine Kd.C_alloc ?_ _) | (with_reducible refine Kd.C_drewN ?_ _) | (with_reducible refine Kd.C_drew ?_) | exact HR451_0.out)⟩, ⟨by repeat (first | (with_reducible first | exact HB.out | apply below_alloc | apply pw_below_drewN | apply below_drew1) | exact HB.out)⟩⟩
                                      · rw [if_neg c32] at H
                                        exact absurd H (by simp)
                                    · rw [if_neg c31] at H
                                      exact absurd H (by simp)
                                  · rw [if_neg c30] at H
                                    exact absurd H (by simp)
                                · rw [if_neg c28] at H
                                  have c28b0 : decide (0 < x10_3) = false := decide_eq_false c28
                                  clear c28
                                  (first | rw [c28b0] | (simp only [i64_w, i32_w]; rw [c28b0]) | skip)
                                  have H' := Aside0.mk H
                                  clear H
                                  try go_wp2
                                  try (have ea_ := Option.some.inj (hx451_0.symm.trans hx452_0); injection ea_ with ea_ en_ ec_; subst ea_; subst ec_; clear en_)
                                  try (have ea_ := Option.some.inj (hx451_0.symm.trans hx454_0); injection ea_ with ea_ en_ ec_; subst ea_; subst ec_; clear en_)
                                  go_quiet (fail)
                                  try go_wp2
                                  go_meet
                                  case rel => exact ⟨_, (false), (by first | rfl | (simp; done) | (simp [*]; done)), H', ⟨by have := HK1.out; have := HK2.out; have := HK3.out; first | omega | exact Nat.le_refl _⟩, ⟨by (with_reducible repeat (first | apply Kd.S_alloc | apply Kd.S_drewN | apply Kd.S_drew)); exact HO_5.out⟩, ⟨by (with_reducible repeat (first | apply Kd.S_alloc | apply Kd.S_drewN | apply Kd.S_drew)); exact HO_7.out⟩, ⟨by repeat (first | (with_reducible exact HR451_0.out) | (with_reducible refine Kd.C_alloc ?_ _) | (with_reducible refine Kd.C_drewN ?_ _) | (with_reducible refine Kd.C_drew ?_) | exact HR451_0.out)⟩, ⟨by repeat (first | (with_reducible first | exact HB.out | apply below_alloc | apply pw_below_drewN | apply below_drew1) | exact HB.out)⟩⟩
                              case rest =>
                                clear HC27
                                try clear c1
                                try clear c2
                                try clear p2
                                try clear c3
                                try clear c4
                                try clear p4
                                try clear q4
                                try clear hx4
                                try clear c6
                                try clear p6
                                try clear c8
                                try clear c8b0
                                try clear c9
                                try clear c9b0
                                try clear c10
                                try clear c12
                                try clear c13
                                try clear c14
                                try clear c15
                                try clear c17
                                try clear c19
                                try clear c19b0
                                try clear c19b1
                                try clear c23
                                try clear c23b0
                                try clear c24
                                try clear c24b0
                                try clear c25
                                try clear c25b0
                                try clear c26
                                try clear c26b0
                                try clear c28
                                try clear c28b0
                                try clear c30
                                try clear c30b0
                                try clear c31
                                try clear c31b0
                                try clear c32
                                try clear c32b0
                                try clear hx434_0
                                try clear hx434_1
                                try clear hx434_2
                                try clear hx434_3
                                try clear hx434_4
                                try clear hx451_0
                                try clear hx452_0
                                try clear hx453_0
                                try clear hx454_0
                                try clear hx455_0
                                try clear p2
                                try clear p4
                                try clear p434
                                try clear p451
                                try clear p452
                                try clear p453
                                try clear p454
                                try clear p455
                                try clear p6
                                try clear q4
                                try clear q434
                                try clear q451
                                try clear q452
                                try clear q453
                                try clear q454
                                try clear q455
                                obtain ⟨kq, x72_26, rfl, HA, HJ26, HO_5, HO_7, HR451_0, HB⟩ := hcut
                                cases kq with
                                | zero => exact absurd HA.out (by simp [interlocutorlaw4_GramUnits.j3])
                                | succ kj26 =>
                                  have H := HA.out
                                  clear HA
                                  simp only [interlocutorlaw4_GramUnits.j3] at H
                                  by_cases c35 : x72_26 = true
                                  · subst c35
                                    have H1 : (some false) = some r := by rw [if_pos rfl] at H; exact H
                                    clear H
                                    have H := H1
                                    clear H1
                                    obtain rfl := Option.some.inj H
                                    go_wp2
                                    go_ret
                                    exact ⟨by first | rfl | (simp [errW_none, errW_some] <;> rfl) | (simp [*, errW_none, errW_some] <;> rfl), by repeat (first | (with_reducible first | exact HB.out | apply below_alloc | apply pw_below_drewN | apply below_drew1) | exact HB.out)⟩
                                  · replace c35 := Bool.eq_false_iff.mpr c35
                                    subst c35
                                    have H1 : (interlocutorlaw4_GramUnits.l3 kj26 x5_1 t448 x8_3 x9_2 x10_3 false 0) = some r := by rw [if_neg (show ¬ (false = true) by decide)] at H; exact H
                                    clear H
                                    have H := H1
                                    clear H1
                                    have H' := Aside0.mk H
                                    clear H
                                    go_wp2
                                    go_loopg [11, 12] kj26 (fun kq v11 v12 w' => ∃ (x11_5 : Bool) (x12_5 : Int), v11 = .bool x11_5 ∧ v12 = .int .i64 x12_5 ∧ Aside0 (interlocutorlaw4_GramUnits.l3 kq x5_1 t448 x8_3 x9_2 x10_3 x11_5 x12_5 = some r) ∧ Aside0 (kq ≤ kj26) ∧ Aside0 (Kd.S k26 26 w' w.heap.size (fun _ => True) (.slice Ao20 x5_1.length co20) x5_1) ∧ Aside0 (Kd.S (Kd.slice 3 (Kd.int .i64)) 22 w' w.heap.size (fun _ => True) (.slice (some ad451) t448.length co22) t448) ∧ Aside0 (Kd.C (Kd.int .i64) w' A451_0 (rd_L2 t448 x9_2).length (rd_L2 t448 x9_2)) ∧ Aside0 (Below w.heap.size w w'))
                                    case atStart => exact ⟨(false), (0), (by first | rfl | (simp; done) | (simp [*]; done)), (by first | rfl | (simp; done) | (simp [*]; done)), H', ⟨Nat.le_refl _⟩, ⟨by (with_reducible repeat (first | apply Kd.S_alloc | apply Kd.S_drewN | apply Kd.S_drew)); exact HO_5.out⟩, ⟨by (with_reducible repeat (first | apply Kd.S_alloc | apply Kd.S_drewN | apply Kd.S_drew)); exact HO_7.out⟩, ⟨by repeat (first | (with_reducible exact HR451_0.out) | (with_reducible refine Kd.C_alloc ?_ _) | (with_reducible refine Kd.C_drewN ?_ _) | (with_reducible refine Kd.C_drew ?_) | exact HR451_0.out)⟩, ⟨by repeat (first | (with_reducible first | exact HB.out | apply below_alloc | apply pw_below_drewN | apply below_drew1) | exact HB.out)⟩⟩
                                    case round =>
                                      clear H'
                                      try clear c1
                                      try clear c2
                                      try clear p2
                                      try clear c3
                                      try clear c4
                                      try clear p4
                                      try clear q4
                                      try clear hx4
                                      try clear c6
                                      try clear p6
                                      try clear c8
                                      try clear c8b0
                                      try clear c9
                                      try clear c9b0
                                      try clear c10
                                      try clear c12
                                      try clear c13
                                      try clear c14
                                      try clear c15
                                      try clear c17
                                      try clear c19
                                      try clear c19b0
                                      try clear c19b1
                                      try clear c23
                                      try clear c23b0
                                      try clear c24
                                      try clear c24b0
                                      try clear c25
                                      try clear c25b0
                                      try clear c26
                                      try clear c26b0
                                      try clear c28
                                      try clear c28b0
                                      try clear c30
                                      try clear c30b0
                                      try clear c31
                                      try clear c31b0
                                      try clear c32
                                      try clear c32b0
                                      try clear c35
                                      try clear hx434_0
                                      try clear hx434_1
                                      try clear hx434_2
                                      try clear hx434_3
                                      try clear hx434_4
                                      try clear hx451_0
                                      try clear hx452_0
                                      try clear hx453_0
                                      try clear hx454_0
                                      try clear hx455_0
                                      try clear p2
                                      try clear p4
                                      try clear p434
                                      try clear p451
                                      try clear p452
                                      try clear p453
                                      try clear p454
                                      try clear p455
                                      try clear p6
                                      try clear q4
                                      try clear q434
                                      try clear q451
                                      try clear q452
                                      try clear q453
                                      try clear q454
                                      try clear q455
                                      obtain ⟨x11_5, x12_5, rfl, rfl, HA, HK5, HO_5, HO_7, HR451_0, HB⟩ := hrel
                                      cases gk with
                                      | zero => exact absurd HA.out (by simp [interlocutorlaw4_GramUnits.l3])
                                      | succ k5 =>
                                        have H := HA.out
                                        clear HA
                                        simp only [interlocutorlaw4_GramUnits.l3] at H
                                        by_cases c36 : x12_5 < (x5_1.length : Int)
                                        · rw [if_pos c36] at H
                                          have c36b0 : decide (x12_5 < (x5_1.length : Int)) = true := decide_eq_true c36
                                          clear c36
                                          by_cases c37 : x11_5 = true
                                          · subst c37
                                            have H1 : (interlocutorlaw4_GramUnits.l3 k5 x5_1 t448 x8_3 x9_2 x10_3 true (wrap64 (x12_5 + 1))) = some r := by rw [if_pos rfl] at H; exact H
                                            clear H
                                            have H := H1
                                            clear H1
                                            have H' := Aside0.mk H
                                            clear H
                                            try go_wp2
                                            go_quiet (fail)
                                            try go_wp2
                                            go_roundg k5
                                            case measure => have := HK1.out; have := HK2.out; have := HK3.out; have := HJ26.out; have := HK5.out; omega
                                            case rel => exact ⟨(true), (wrap64 (x12_5 + 1)), (by first | rfl | (simp; done) | (simp [*]; done)), (by first | rfl | (simp; done) | (simp [*]; done)), H', ⟨by have := HK1.out; have := HK2.out; have := HK3.out; have := HJ26.out; have := HK5.out; omega⟩, ⟨by (with_reducible repeat (first | apply Kd.S_alloc | apply Kd.S_drewN | apply Kd.S_drew)); exact HO_5.out⟩, ⟨by (with_reducible repeat (first | apply Kd.S_alloc | apply Kd.S_drewN | apply Kd.S_drew)); exact HO_7.out⟩, ⟨by repeat (first | (with_reducible exact HR451_0.out) | (with_reducible refine Kd.C_alloc ?_ _) | (with_reducible refine Kd.C_drewN ?_ _) | (with_reducible refine Kd.C_drew ?_) | exact HR451_0.out)⟩, ⟨by repeat (first | (with_reducible first | exact HB.out | apply below_alloc | apply pw_below_drewN | apply below_drew1) | exact HB.out)⟩⟩
                                          · replace c37 := Bool.eq_false_iff.mpr c37
                                            subst c37
                                            have H1 : (if 0 ≤ x12_5 then (if ((rd_T26 x5_1 x12_5).f0) = x9_2 then (if (((rd_T26 x5_1 x12_5).f1).length : Int) = 1 then (if 0 < (((rd_T26 x5_1 x12_5).f1).length : Int) then (if 0 ≤ x9_2 then (if x9_2 < (t448.length : Int) then (if 0 ≤ x10_3 then (if x10_3 < ((rd_L2 t448 x9_2).length : Int) then (interlocutorlaw4_GramUnits.l3 k5 x5_1 t448 x8_3 x9_2 x10_3 ((rd ((rd_T26 x5_1 x12_5).f1) 0) == (rd (rd_L2 t448 x9_2) x10_3)) (wrap64 (x12_5 + 1))) else (none)) else (none)) else (none)) else (none)) else (none)) else (interlocutorlaw4_GramUnits.l3 k5 x5_1 t448 x8_3 x9_2 x10_3 false (wrap64 (x12_5 + 1)))) else (interlocutorlaw4_GramUnits.l3 k5 x5_1 t448 x8_3 x9_2 x10_3 false (wrap64 (x12_5 + 1)))) else (none)) = some r := by rw [if_neg (show ¬ (false = true) by decide)] at H; exact H
                                            clear H
                                            have H := H1
                                            clear H1
                                            by_cases c39 : 0 ≤ x12_5
                                            · rw [if_pos c39] at H
                                              have c39b0 : decide (0 ≤ x12_5) = true := decide_eq_true c39
                                              clear c39
                                              by_cases c40 : ((rd_T26 x5_1 x12_5).f0) = x9_2
                                              · rw [if_pos c40] at H
                                                have c40b0 : (((rd_T26 x5_1 x12_5).f0) == x9_2) = true := beq_iff_eq.mpr c40
                                                have c40b1 : (((rd_T26 x5_1 x12_5).f0) != x9_2) = false := bne_eq_false_iff_eq.mpr c40
                                                clear c40
                                                by_cases c41 : (((rd_T26 x5_1 x12_5).f1).length : Int) = 1
                                                · rw [if_pos c41] at H
                                                  have c41b0 : ((((rd_T26 x5_1 x12_5).f1).length : Int) == 1) = true := beq_iff_eq.mpr c41
                                                  have c41b1 : ((((rd_T26 x5_1 x12_5).f1).length : Int) != 1) = false := bne_eq_false_iff_eq.mpr c41
                                                  clear c41
                                                  by_cases c42 : 0 < (((rd_T26 x5_1 x12_5).f1).length : Int)
                                                  · rw [if_pos c42] at H
                                                    have c42b0 : decide (0 < (((rd_T26 x5_1 x12_5).f1).length : Int)) = true := decide_eq_true c42
                                                    have c42b1 : decide (0 < ((rd_T26 x5_1 x12_5).f1).length) = true := decide_eq_true (by omega)
                                                    clear c42
                                                    by_cases c43 : 0 ≤ x9_2
                                                    · rw [if_pos c43] at H
                                                      have c43b0 : decide (0 ≤ x9_2) = true := decide_eq_true c43
                                                      clear c43
                                                      by_cases c44 : x9_2 < (t448.length : Int)
                                                      · rw [if_pos c44] at H
                                                        have c44b0 : decide (x9_2 < (t448.length : Int)) = true := decide_eq_true c44
                                                        clear c44
                                                        by_cases c45 : 0 ≤ x10_3
                                                        · rw [if_pos c45] at H
                                                          have c45b0 : decide (0 ≤ x10_3) = true := decide_eq_true c45
                                                          clear c45
                                                          by_cases c46 : x10_3 < ((rd_L2 t448 x9_2).length : Int)
                                                          · rw [if_pos c46] at H
                                                            have c46b0 : decide (x10_3 < ((rd_L2 t448 x9_2).length : Int)) = true := decide_eq_true c46
                                                            clear c46
                                                            have H' := Aside0.mk H
                                                            clear H
                                                            try go_wp2
                                                            have p456 : 0 ≤ (x12_5 : Int) := of_decide_eq_true (by first | (with_reducible assumption) | assumption)
                                                            have q456 : x12_5 < (x5_1.length : Int) := of_decide_eq_true (by first | (with_reducible assumption) | assumption)
                                                            obtain ⟨ad456, A456_1, c456_1, A456_3, c456_3, e456, hx456_0, hx456_1, hx456_2, hx456_3, hx456_4, hl456_1, hi456_1, hl456_3, hi456_3⟩ := at_T26 (Kd.S_reads' HO_5.out).2.2 x12_5 p456 q456
                                                            cases e456
                                                            obtain ⟨ce456, hce456, hMe456, hcc456⟩ := Kd.S_get HO_5.out z26 x12_5 p456 (by first | exact q456 | exact of_decide_eq_true (by first | (with_reducible assumption) | assumption) | (have e_ := (Kd.S_reads' HO_5.out).1; omega))
                                                            obtain ⟨ve456_1, ve456_3, rfl, ge456_1, ge456_3⟩ := k26_openM hMe456
                                                            have hv456_1 := hcc456 1 _ rfl
                                                            rw [add_field _ _ 1 (by omega)] at hv456_1
                                                            replace hv456_1 := Option.some.inj (hv456_1.symm.trans hx456_1)
                                                            rw [hv456_1] at ge456_1
                                                            have HL456_1 := Aside0.mk (show Kd.R (Kd.int .i64) 3 _ _ _ _ ((rd_T26 x5_1 x12_5).f1) from ge456_1)
                                                            clear hv456_1 ge456_1
                                                            have hv456_3 := hcc456 3 _ rfl
                                                            rw [add_field _ _ 3 (by omega)] at hv456_3
                                                            replace hv456_3 := Option.some.inj (hv456_3.symm.trans hx456_3)
                                                            rw [hv456_3] at ge456_3
                                                            have HL456_3 := Aside0.mk (show Kd.R (Kd.int .i64) 3 _ _ _ _ ((rd_T26 x5_1 x12_5).f2.f1) from ge456_3)
                                                            clear hv456_3 ge456_3
                                                            clear hcc456 hce456
                                                            have HR456_1 := Aside0.mk hi456_1
                                                            have HC456_1 := Aside0.mk hl456_1
                                                            clear hi456_1 hl456_1
                                                            have HR456_3 := Aside0.mk hi456_3
                                                            have HC456_3 := Aside0.mk hl456_3
                                                            clear hi456_3 hl456_3
                                                            replace p456 := eq_true p456
                                                            replace q456 := eq_true q456
                                                            have p457 : 0 ≤ (x12_5 : Int) := of_decide_eq_true (by first | (with_reducible assumption) | assumption)
                                                            have q457 : x12_5 < (x5_1.length : Int) := of_decide_eq_true (by first | (with_reducible assumption) | assumption)
                                                            obtain ⟨ad457, A457_1, c457_1, A457_3, c457_3, e457, hx457_0, hx457_1, hx457_2, hx457_3, hx457_4, hl457_1, hi457_1, hl457_3, hi457_3⟩ := at_T26 (Kd.S_reads' HO_5.out).2.2 x12_5 p457 q457
                                                            obtain rfl : ad456 = ad457 := (by injection e457)
                                                            obtain ⟨ce457, hce457, hMe457, hcc457⟩ := Kd.S_get HO_5.out z26 x12_5 p457 (by first | exact q457 | exact of_decide_eq_true (by first | (with_reducible assumption) | assumption) | (have e_ := (Kd.S_reads' HO_5.out).1; omega))
                                                            obtain ⟨ve457_1, ve457_3, rfl, ge457_1, ge457_3⟩ := k26_openM hMe457
                                                            have hv457_1 := hcc457 1 _ rfl
                                                            rw [add_field _ _ 1 (by omega)] at hv457_1
                                                            replace hv457_1 := Option.some.inj (hv457_1.symm.trans hx457_1)
                                                            rw [hv457_1] at ge457_1
                                                            have HL457_1 := Aside0.mk (show Kd.R (Kd.int .i64) 3 _ _ _ _ ((rd_T26 x5_1 x12_5).f1) from ge457_1)
                                                            clear hv457_1 ge457_1
                                                            have hv457_3 := hcc457 3 _ rfl
                                                            rw [add_field _ _ 3 (by omega)] at hv457_3
                                                            replace hv457_3 := Option.some.inj (hv457_3.symm.trans hx457_3)
                                                            rw [hv457_3] at ge457_3
                                                            have HL457_3 := Aside0.mk (show Kd.R (Kd.int .i64) 3 _ _ _ _ ((rd_T26 x5_1 x12_5).f2.f1) from ge457_3)
                                                            clear hv457_3 ge457_3
                                                            clear hcc457 hce457
                                                            have HR457_1 := Aside0.mk hi457_1
                                                            have HC457_1 := Aside0.mk hl457_1
                                                            clear hi457_1 hl457_1
                                                            have HR457_3 := Aside0.mk hi457_3
                                                            have HC457_3 := Aside0.mk hl457_3
                                                            clear hi457_3 hl457_3
                                                            replace p457 := eq_true p457
                                                            replace q457 := eq_true q457
                                                            have ea_ := Option.some.inj (hx456_1.symm.trans hx457_1)
                                                            injection ea_ with ea_ en_ ec_
                                                            subst ea_
                                                            subst ec_
                                                            clear en_
                                                            have ea_ := Option.some.inj (hx456_3.symm.trans hx457_3)
                                                            injection ea_ with ea_ en_ ec_
                                                            subst ea_
                                                            subst ec_
                                                            clear en_
                                                            have p458 : 0 ≤ (x12_5 : Int) := of_decide_eq_true (by first | (with_reducible assumption) | assumption)
                                                            have q458 : x12_5 < (x5_1.length : Int) := of_decide_eq_true (by first | (with_reducible assumption) | assumption)
                                                            obtain ⟨ad458, A458_1, c458_1, A458_3, c458_3, e458, hx458_0, hx458_1, hx458_2, hx458_3, hx458_4, hl458_1, hi458_1, hl458_3, hi458_3⟩ := at_T26 (Kd.S_reads' HO_5.out).2.2 x12_5 p458 q458
                                                            obtain rfl : ad456 = ad458 := (by injection e458)
                                                            obtain ⟨ce458, hce458, hMe458, hcc458⟩ := Kd.S_get HO_5.out z26 x12_5 p458 (by first | exact q458 | exact of_decide_eq_true (by first | (with_reducible assumption) | assumption) | (have e_ := (Kd.S_reads' HO_5.out).1; omega))
                                                            obtain ⟨ve458_1, ve458_3, rfl, ge458_1, ge458_3⟩ := k26_openM hMe458
                                                            have hv458_1 := hcc458 1 _ rfl
                                                            rw [add_field _ _ 1 (by omega)] at hv458_1
                                                            replace hv458_1 := Option.some.inj (hv458_1.symm.trans hx458_1)
                                                            rw [hv458_1] at ge458_1
                                                            have HL458_1 := Aside0.mk (show Kd.R (Kd.int .i64) 3 _ _ _ _ ((rd_T26 x5_1 x12_5).f1) from ge458_1)
                                                            clear hv458_1 ge458_1
                                                            have hv458_3 := hcc458 3 _ rfl
                                                            rw [add_field _ _ 3 (by omega)] at hv458_3
                                                            replace hv458_3 := Option.some.inj (hv458_3.symm.trans hx458_3)
                                                            rw [hv458_3] at ge458_3
                                                            have HL458_3 := Aside0.mk (show Kd.R (Kd.int .i64) 3 _ _ _ _ ((rd_T26 x5_1 x12_5).f2.f1) from ge458_3)
                                                            clear hv458_3 ge458_3
                                                            clear hcc458 hce458
                                                            have HR458_1 := Aside0.mk hi458_1
                                                            have HC458_1 := Aside0.mk hl458_1
                                                            clear hi458_1 hl458_1
                                                            have HR458_3 := Aside0.mk hi458_3
                                                            have HC458_3 := Aside0.mk hl458_3
                                                            clear hi458_3 hl458_3
                                                            replace p458 := eq_true p458
                                                            replace q458 := eq_true q458
                                                            have ea_ := Option.some.inj (hx456_1.symm.trans hx458_1)
                                                            injection ea_ with ea_ en_ ec_
                                                            subst ea_
                                                            subst ec_
                                                            clear en_
                                                            have ea_ := Option.some.inj (hx456_3.symm.trans hx458_3)
                                                            injection ea_ with ea_ en_ ec_
                                                            subst ea_
                                                            subst ec_
                                                            clear en_
                                                            have p459 : 0 ≤ (0 : Int) := (by omega)
                                                            have q459 : 0 < (((rd_T26 x5_1 x12_5).f1).length : Int) := of_decide_eq_true (by first | (with_reducible assumption) | assumption)
                                                            obtain ⟨ad459, e459, hx459_0⟩ := Kd.at_int (by repeat (first | (with_reducible exact HR458_1.out) | (with_reducible refine Kd.C_alloc ?_ _) | (with_reducible refine Kd.C_drewN ?_ _) | (with_reducible refine Kd.C_drew ?_) | exact HR458_1.out)) 0 p459 q459
                                                            cases e459
                                                            have qi459 : (0 < ((rd_T26 x5_1 x12_5).f1).length) = True := eq_true (by omega)
                                                            (try rw [show ((0 : Int)).toNat = 0 from rfl] at hx459_0)
                                                            (try rw [Addr.add_zero'] at hx459_0)
                                                            replace p459 := eq_true p459
                                                            replace q459 := eq_true q459
                                                            have p460 : 0 ≤ (x9_2 : Int) := of_decide_eq_true (by first | (with_reducible assumption) | assumption)
                                                            have q460 : x9_2 < (t448.length : Int) := of_decide_eq_true (by first | (with_reducible assumption) | assumption)
                                                            obtain ⟨ad460, A460_0, c460_0, e460, hx460_0, hl460_0, hi460_0⟩ := at_L2 (Kd.S_reads' HO_7.out).2.2 x9_2 p460 q460
                                                            obtain rfl : ad451 = ad460 := (by injection e460)
                                                            obtain ⟨ce460, hce460, hMe460, hcc460⟩ := Kd.S_get HO_7.out [] x9_2 p460 (by first | exact q460 | exact of_decide_eq_true (by first | (with_reducible assumption) | assumption) | (have e_ := (Kd.S_reads' HO_7.out).1; omega))
                                                            obtain ⟨ve460_0, rfl, ge460_0⟩ := hMe460
                                                            have hv460_0 := hcc460 0 _ rfl
                                                            rw [Nat.add_zero, show ((Kd.slice 3 (Kd.int .i64))).sz = 1 from rfl, Nat.mul_one] at hv460_0
                                                            replace hv460_0 := Option.some.inj (hv460_0.symm.trans hx460_0)
                                                            rw [hv460_0] at ge460_0
                                                            have HL460_0 := Aside0.mk (show Kd.R (Kd.int .i64) 3 _ _ _ _ (rd_L2 t448 x9_2) from ge460_0)
                                                            clear hv460_0 ge460_0
                                                            clear hcc460 hce460
                                                            have HR460_0 := Aside0.mk hi460_0
                                                            have HC460_0 := Aside0.mk hl460_0
                                                            clear hi460_0 hl460_0
                                                            replace p460 := eq_true p460
                                                            replace q460 := eq_true q460
                                                            have p461 : 0 ≤ (x10_3 : Int) := of_decide_eq_true (by first | (with_reducible assumption) | assumption)
                                                            have q461 : x10_3 < ((rd_L2 t448 x9_2).length : Int) := of_decide_eq_true (by first | (with_reducible assumption) | assumption)
                                                            obtain ⟨ad461, e461, hx461_0⟩ := Kd.at_int (by repeat (first | (with_reducible exact HR460_0.out) | (with_reducible refine Kd.C_alloc ?_ _) | (with_reducible refine Kd.C_drewN ?_ _) | (with_reducible refine Kd.C_drew ?_) | exact HR460_0.out)) x10_3 p461 q461
                                                            cases e461
                                                            replace p461 := eq_true p461
                                                            replace q461 := eq_true q461
                                                            try (have ea_ := Option.some.inj (hx456_0.symm.trans hx457_0); injection ea_ with ea_ en_ ec_; subst ea_; subst ec_; clear en_)
                                                            try (have ea_ := Option.some.inj (hx456_0.symm.trans hx458_0); injection ea_ with ea_ en_ ec_; subst ea_; subst ec_; clear en_)
                                                            try (have ea_ := Option.some.inj (hx451_0.symm.trans hx460_0); injection ea_ with ea_ en_ ec_; subst ea_; subst ec_; clear en_)
                                                            go_quiet (fail)
                                                            try go_wp2
                                                            go_roundg k5
                                                            case measure => have := HK1.out; have := HK2.out; have := HK3.out; have := HJ26.out; have := HK5.out; omega
                                                            case rel => exact ⟨(((rd ((rd_T26 x5_1 x12_5).f1) 0) == (rd (rd_L2 t448 x9_2) x10_3))), (wrap64 (x12_5 + 1)), (by first | rfl | (simp; done) | (simp [*]; done)), (by first | rfl | (simp; done) | (simp [*]; done)), H', ⟨by have := HK1.out; have := HK2.out; have := HK3.out; have := HJ26.out; have := HK5.out; omega⟩, ⟨by (with_reducible repeat (first | apply Kd.S_alloc | apply Kd.S_drewN | apply Kd.S_drew)); exact HO_5.out⟩, ⟨by (with_reducible repeat (first | apply Kd.S_alloc | apply Kd.S_drewN | apply Kd.S_drew)); exact HO_7.out⟩, ⟨by repeat (first | (with_reducible exact HR451_0.out) | (with_reducible refine Kd.C_alloc ?_ _) | (with_reducible refine Kd.C_drewN ?_ _) | (with_reducible refine Kd.C_drew ?_) | exact HR451_0.out)⟩, ⟨by repeat (first | (with_reducible first | exact HB.out | apply below_alloc | apply pw_below_drewN | apply below_drew1) | exact HB.out)⟩⟩
                                                          · rw [if_neg c46] at H
                                                            exact absurd H (by simp)
                                                        · rw [if_neg c45] at H
                                                          exact absurd H (by simp)
                                                      · rw [if_neg c44] at H
                                                        exact absurd H (by simp)
                                                    · rw [if_neg c43] at H
                                                      exact absurd H (by simp)
                                                  · rw [if_neg c42] at H
                                                    exact absurd H (by simp)
                                                · rw [if_neg c41] at H
                                                  have c41b0 : ((((rd_T26 x5_1 x12_5).f1).length : Int) == 1) = false := beq_eq_false_iff_ne.mpr c41
                                                  have c41b1 : ((((rd_T26 x5_1 x12_5).f1).length : Int) != 1) = true := bne_iff_ne.mpr c41
                                                  have H' := Aside0.mk H
                                                  clear H
                                                  try go_wp2
                                                  have p456 : 0 ≤ (x12_5 : Int) := of_decide_eq_true (by first | (with_reducible assumption) | assumption)
                                                  have q456 : x12_5 < (x5_1.length : Int) := of_decide_eq_true (by first | (with_reducible assumption) | assumption)
                                                  obtain ⟨ad456, A456_1, c456_1, A456_3, c456_3, e456, hx456_0, hx456_1, hx456_2, hx456_3, hx456_4, hl456_1, hi456_1, hl456_3, hi456_3⟩ := at_T26 (Kd.S_reads' HO_5.out).2.2 x12_5 p456 q456
                                                  cases e456
                                                  obtain ⟨ce456, hce456, hMe456, hcc456⟩ := Kd.S_get HO_5.out z26 x12_5 p456 (by first | exact q456 | exact of_decide_eq_true (by first | (with_reducible assumption) | assumption) | (have e_ := (Kd.S_reads' HO_5.out).1; omega))
                                                  obtain ⟨ve456_1, ve456_3, rfl, ge456_1, ge456_3⟩ := k26_openM hMe456
                                                  have hv456_1 := hcc456 1 _ rfl
                                                  rw [add_field _ _ 1 (by omega)] at hv456_1
                                                  replace hv456_1 := Option.some.inj (hv456_1.symm.trans hx456_1)
                                                  rw [hv456_1] at ge456_1
                                                  have HL456_1 := Aside0.mk (show Kd.R (Kd.int .i64) 3 _ _ _ _ ((rd_T26 x5_1 x12_5).f1) from ge456_1)
                                                  clear hv456_1 ge456_1
                                                  have hv456_3 := hcc456 3 _ rfl
                                                  rw [add_field _ _ 3 (by omega)] at hv456_3
                                                  replace hv456_3 := Option.some.inj (hv456_3.symm.trans hx456_3)
                                                  rw [hv456_3] at ge456_3
                                                  have HL456_3 := Aside0.mk (show Kd.R (Kd.int .i64) 3 _ _ _ _ ((rd_T26 x5_1 x12_5).f2.f1) from ge456_3)
                                                  clear hv456_3 ge456_3
                                                  clear hcc456 hce456
                                                  have HR456_1 := Aside0.mk hi456_1
                                                  have HC456_1 := Aside0.mk hl456_1
                                                  clear hi456_1 hl456_1
                                                  have HR456_3 := Aside0.mk hi456_3
                                                  have HC456_3 := Aside0.mk hl456_3
                                                  clear hi456_3 hl456_3
                                                  replace p456 := eq_true p456
                                                  replace q456 := eq_true q456
                                                  have p457 : 0 ≤ (x12_5 : Int) := of_decide_eq_true (by first | (with_reducible assumption) | assumption)
                                                  have q457 : x12_5 < (x5_1.length : Int) := of_decide_eq_true (by first | (with_reducible assumption) | assumption)
                                                  obtain ⟨ad457, A457_1, c457_1, A457_3, c457_3, e457, hx457_0, hx457_1, hx457_2, hx457_3, hx457_4, hl457_1, hi457_1, hl457_3, hi457_3⟩ := at_T26 (Kd.S_reads' HO_5.out).2.2 x12_5 p457 q457
                                                  obtain rfl : ad456 = ad457 := (by injection e457)
                                                  obtain ⟨ce457, hce457, hMe457, hcc457⟩ := Kd.S_get HO_5.out z26 x12_5 p457 (by first | exact q457 | exact of_decide_eq_true (by first | (with_reducible assumption) | assumption) | (have e_ := (Kd.S_reads' HO_5.out).1; omega))
                                                  obtain ⟨ve457_1, ve457_3, rfl, ge457_1, ge457_3⟩ := k26_openM hMe457
                                                  have hv457_1 := hcc457 1 _ rfl
                                                  rw [add_field _ _ 1 (by omega)] at hv457_1
                                                  replace hv457_1 := Option.some.inj (hv457_1.symm.trans hx457_1)
                                                  rw [hv457_1] at ge457_1
                                                  have HL457_1 := Aside0.mk (show Kd.R (Kd.int .i64) 3 _ _ _ _ ((rd_T26 x5_1 x12_5).f1) from ge457_1)
                                                  clear hv457_1 ge457_1
                                                  have hv457_3 := hcc457 3 _ rfl
                                                  rw [add_field _ _ 3 (by omega)] at hv457_3
                                                  replace hv457_3 := Option.some.inj (hv457_3.symm.trans hx457_3)
                                                  rw [hv457_3] at ge457_3
                                                  have HL457_3 := Aside0.mk (show Kd.R (Kd.int .i64) 3 _ _ _ _ ((rd_T26 x5_1 x12_5).f2.f1) from ge457_3)
                                                  clear hv457_3 ge457_3
                                                  clear hcc457 hce457
                                                  have HR457_1 := Aside0.mk hi457_1
                                                  have HC457_1 := Aside0.mk hl457_1
                                                  clear hi457_1 hl457_1
                                                  have HR457_3 := Aside0.mk hi457_3
                                                  have HC457_3 := Aside0.mk hl457_3
                                                  clear hi457_3 hl457_3
                                                  replace p457 := eq_true p457
                                                  replace q457 := eq_true q457
                                                  have ea_ := Option.some.inj (hx456_1.symm.trans hx457_1)
                                                  injection ea_ with ea_ en_ ec_
                                                  subst ea_
                                                  subst ec_
                                                  clear en_
                                                  have ea_ := Option.some.inj (hx456_3.symm.trans hx457_3)
                                                  injection ea_ with ea_ en_ ec_
                                                  subst ea_
                                                  subst ec_
                                                  clear en_
                                                  try (have ea_ := Option.some.inj (hx451_0.symm.trans hx460_0); injection ea_ with ea_ en_ ec_; subst ea_; subst ec_; clear en_)
                                                  try (have ea_ := Option.some.inj (hx456_0.symm.trans hx457_0); injection ea_ with ea_ en_ ec_; subst ea_; subst ec_; clear en_)
                                                  go_quiet (fail)
                                                  try go_wp2
                                                  go_roundg k5
                                                  case measure => have := HK1.out; have := HK2.out; have := HK3.out; have := HJ26.out; have := HK5.out; omega
                                                  case rel => exact ⟨(false), (wrap64 (x12_5 + 1)), (by first | rfl | (simp; done) | (simp [*]; done)), (by first | rfl | (simp; done) | (simp [*]; done)), H', ⟨by have := HK1.out; have := HK2.out; have := HK3.out; have := HJ26.out; have := HK5.out; omega⟩, ⟨by (with_reducible repeat (first | apply Kd.S_alloc | apply Kd.S_drewN | apply Kd.S_drew)); exact HO_5.out⟩, ⟨by (with_reducible repeat (first | apply Kd.S_alloc | apply Kd.S_drewN | apply Kd.S_drew)); exact HO_7.out⟩, ⟨by repeat (first | (with_reducible exact HR451_0.out) | (with_reducible refine Kd.C_alloc ?_ _) | (with_reducible refine Kd.C_drewN ?_ _) | (with_reducible refine Kd.C_drew ?_) | exact HR451_0.out)⟩, ⟨by repeat (first | (with_reducible first | exact HB.out | apply below_alloc | apply pw_below_drewN | apply below_drew1) | exact HB.out)⟩⟩
                                              · rw [if_neg c40] at H
                                                have c40b0 : (((rd_T26 x5_1 x12_5).f0) == x9_2) = false := beq_eq_false_iff_ne.mpr c40
                                                have c40b1 : (((rd_T26 x5_1 x12_5).f0) != x9_2) = true := bne_iff_ne.mpr c40
                                                have H' := Aside0.mk H
                                                clear H
                                                try go_wp2
                                                have p456 : 0 ≤ (x12_5 : Int) := of_decide_eq_true (by first | (with_reducible assumption) | assumption)
                                                have q456 : x12_5 < (x5_1.length : Int) := of_decide_eq_true (by first | (with_reducible assumption) | assumption)
                                                obtain ⟨ad456, A456_1, c456_1, A456_3, c456_3, e456, hx456_0, hx456_1, hx456_2, hx456_3, hx456_4, hl456_1, hi456_1, hl456_3, hi456_3⟩ := at_T26 (Kd.S_reads' HO_5.out).2.2 x12_5 p456 q456
                                                cases e456
                                                obtain ⟨ce456, hce456, hMe456, hcc456⟩ := Kd.S_get HO_5.out z26 x12_5 p456 (by first | exact q456 | exact of_decide_eq_true (by first | (with_reducible assumption) | assumption) | (have e_ := (Kd.S_reads' HO_5.out).1; omega))
                                                obtain ⟨ve456_1, ve456_3, rfl, ge456_1, ge456_3⟩ := k26_openM hMe456
                                                have hv456_1 := hcc456 1 _ rfl
                                                rw [add_field _ _ 1 (by omega)] at hv456_1
                                                replace hv456_1 := Option.some.inj (hv456_1.symm.trans hx456_1)
                                                rw [hv456_1] at ge456_1
                                                have HL456_1 := Aside0.mk (show Kd.R (Kd.int .i64) 3 _ _ _ _ ((rd_T26 x5_1 x12_5).f1) from ge456_1)
                                                clear hv456_1 ge456_1
                                                have hv456_3 := hcc456 3 _ rfl
                                                rw [add_field _ _ 3 (by omega)] at hv456_3
                                                replace hv456_3 := Option.some.inj (hv456_3.symm.trans hx456_3)
                                                rw [hv456_3] at ge456_3
                                                have HL456_3 := Aside0.mk (show Kd.R (Kd.int .i64) 3 _ _ _ _ ((rd_T26 x5_1 x12_5).f2.f1) from ge456_3)
                                                clear hv456_3 ge456_3
                                                clear hcc456 hce456
                                                have HR456_1 := Aside0.mk hi456_1
                                                have HC456_1 := Aside0.mk hl456_1
                                                clear hi456_1 hl456_1
                                                have HR456_3 := Aside0.mk hi456_3
                                                have HC456_3 := Aside0.mk hl456_3
                                                clear hi456_3 hl456_3
                                                replace p456 := eq_true p456
                                                replace q456 := eq_true q456
                                                try (have ea_ := Option.some.inj (hx456_0.symm.trans hx457_0); injection ea_ with ea_ en_ ec_; subst ea_; subst ec_; clear en_)
                                                go_quiet (fail)
                                                try go_wp2
                                                go_roundg k5
                                                case measure => have := HK1.out; have := HK2.out; have := HK3.out; have := HJ26.out; have := HK5.out; omega
                                                case rel => exact ⟨(false), (wrap64 (x12_5 + 1)), (by first | rfl | (simp; done) | (simp [*]; done)), (by first | rfl | (simp; done) | (simp [*]; done)), H', ⟨by have := HK1.out; have := HK2.out; have := HK3.out; have := HJ26.out; have := HK5.out; omega⟩, ⟨by (with_reducible repeat (first | apply Kd.S_alloc | apply Kd.S_drewN | apply Kd.S_drew)); exact HO_5.out⟩, ⟨by (with_reducible repeat (first | apply Kd.S_alloc | apply Kd.S_drewN | apply Kd.S_drew)); exact HO_7.out⟩, ⟨by repeat (first | (with_reducible exact HR451_0.out) | (with_reducible refine Kd.C_alloc ?_ _) | (with_reducible refine Kd.C_drewN ?_ _) | (with_reducible refine Kd.C_drew ?_) | exact HR451_0.out)⟩, ⟨by repeat (first | (with_reducible first | exact HB.out | apply below_alloc | apply pw_below_drewN | apply below_drew1) | exact HB.out)⟩⟩
                                            · rw [if_neg c39] at H
                                              exact absurd H (by simp)
                                        · rw [if_neg c36] at H
                                          have c36b0 : decide (x12_5 < (x5_1.length : Int)) = false := decide_eq_false c36
                                          clear c36
                                          by_cases c50 : x11_5 = true
                                          · subst c50
                                            have H1 : (interlocutorlaw4_GramUnits.l2 k5 x5_1 t448 (wrap64 (x8_3 + 1)) x9_2 (wrap64 (x10_3 + 1))) = some r := by rw [if_pos rfl] at H; exact H
                                            clear H
                                            have H := H1
                                            clear H1
                                            have H' := Aside0.mk H
                                            clear H
                                            go_wp2
                                            go_roundg k5
                                            case measure => have := HK1.out; have := HK2.out; have := HK3.out; have := HJ26.out; have := HK5.out; omega
                                            case rel => exact ⟨(wrap64 (x8_3 + 1)), (wrap64 (x10_3 + 1)), (by first | rfl | (simp; done) | (simp [*]; done)), (by first | rfl | (simp; done) | (simp [*]; done)), H', ⟨by have := HK1.out; have := HK2.out; have := HK3.out; have := HJ26.out; have := HK5.out; omega⟩, ⟨by (with_reducible repeat (first | apply Kd.S_alloc | apply Kd.S_drewN | apply Kd.S_drew)); exact HO_5.out⟩, ⟨by (with_reducible repeat (first | apply Kd.S_alloc | apply Kd.S_drewN | apply Kd.S_drew)); exact HO_7.out⟩, ⟨by repeat (first | (with_reducible first | exact HB.out | apply below_alloc | apply pw_below_drewN | apply below_drew1) | exact HB.out)⟩⟩
                                          · replace c50 := Bool.eq_false_iff.mpr c50
                                            subst c50
                                            have H1 : (some false) = some r := by rw [if_neg (show ¬ (false = true) by decide)] at H; exact H
                                            clear H
                                            have H := H1
                                            clear H1
                                            obtain rfl := Option.some.inj H
                                            go_wp2
                                            go_ret
                                            exact ⟨by first | rfl | (simp [errW_none, errW_some] <;> rfl) | (simp [*, errW_none, errW_some] <;> rfl), by repeat (first | (with_reducible first | exact HB.out | apply below_alloc | apply pw_below_drewN | apply below_drew1) | exact HB.out)⟩
                            · rw [if_neg c26] at H
                              have c26b0 : decide (x10_3 < ((rd_L2 t448 x9_2).length : Int)) = false := decide_eq_false c26
                              clear c26
                              have H' := Aside0.mk H
                              clear H
                              have p451 : 0 ≤ (x9_2 : Int) := of_decide_eq_true (by first | (with_reducible assumption) | assumption)
                              have q451 : x9_2 < (t448.length : Int) := of_decide_eq_true (by first | (with_reducible assumption) | assumption)
                              obtain ⟨ad451, A451_0, c451_0, e451, hx451_0, hl451_0, hi451_0⟩ := at_L2 (Kd.S_reads' HO_7.out).2.2 x9_2 p451 q451
                              cases e451
                              obtain ⟨ce451, hce451, hMe451, hcc451⟩ := Kd.S_get HO_7.out [] x9_2 p451 (by first | exact q451 | exact of_decide_eq_true (by first | (with_reducible assumption) | assumption) | (have e_ := (Kd.S_reads' HO_7.out).1; omega))
                              obtain ⟨ve451_0, rfl, ge451_0⟩ := hMe451
                              have hv451_0 := hcc451 0 _ rfl
                              rw [Nat.add_zero, show ((Kd.slice 3 (Kd.int .i64))).sz = 1 from rfl, Nat.mul_one] at hv451_0
                              replace hv451_0 := Option.some.inj (hv451_0.symm.trans hx451_0)
                              rw [hv451_0] at ge451_0
                              have HL451_0 := Aside0.mk (show Kd.R (Kd.int .i64) 3 _ _ _ _ (rd_L2 t448 x9_2) from ge451_0)
                              clear hv451_0 ge451_0
                              clear hcc451 hce451
                              have HR451_0 := Aside0.mk hi451_0
                              have HC451_0 := Aside0.mk hl451_0
                              clear hi451_0 hl451_0
                              replace p451 := eq_true p451
                              replace q451 := eq_true q451
                              go_wp2
                              go_roundg k3
                              case measure => have := HK1.out; have := HK2.out; have := HK3.out; omega
                              case rel => exact ⟨(x8_3), (wrap64 (x9_2 + 1)), (by first | rfl | (simp; done) | (simp [*]; done)), (by first | rfl | (simp; done) | (simp [*]; done)), H', ⟨by have := HK1.out; have := HK2.out; have := HK3.out; omega⟩, ⟨by (with_reducible repeat (first | apply Kd.S_alloc | apply Kd.S_drewN | apply Kd.S_drew)); exact HO_5.out⟩, ⟨by (with_reducible repeat (first | apply Kd.S_alloc | apply Kd.S_drewN | apply Kd.S_drew)); exact HO_7.out⟩, ⟨by repeat (first | (with_reducible first | exact HB.out | apply below_alloc | apply pw_below_drewN | apply below_drew1) | exact HB.out)⟩⟩
                          · rw [if_neg c25] at H
                            exact absurd H (by simp)
                        · rw [if_neg c24] at H
                          exact absurd H (by simp)
                  · rw [if_neg c23] at H
                    have c23b0 : decide (x9_2 < 20) = false := decide_eq_false c23
                    clear c23
                    obtain rfl := Option.some.inj H
                    go_wp2
                    go_ret
                    exact ⟨by first | rfl | (simp [errW_none, errW_some] <;> rfl) | (simp [*, errW_none, errW_some] <;> rfl), by repeat (first | (with_reducible first | exact HB.out | apply below_alloc | apply pw_below_drewN | apply below_drew1) | exact HB.out)⟩
            · rw [if_neg c19] at H
              have c19b0 : ((t448.length : Int) == 20) = false := beq_eq_false_iff_ne.mpr c19
              have c19b1 : ((t448.length : Int) != 20) = true := bne_iff_ne.mpr c19
              obtain rfl := Option.some.inj H
              obtain ⟨Ao51, co51, eo51⟩ := Kd.S_slice HO_5.out
              subst eo51
              go_wp2_with (first | ((with_reducible refine gate_callee (f := 19) rfl ?_); refine goesL_ (some 36) rfl rfl Try.func19 (by kernel_rfl) rfl #[.slice Ao51 x5_1.length co51] rfl (by (try simp only [List.map_toArray, List.map_cons, List.map_nil]); first | done | rfl | (simp only [List.length_drop, List.length_take]; rfl)) ?_; (with_reducible refine (gram_Units.calls _ _ x5_1 t448 _ ?side1 ?side2 A18.out).mono ?_); (case side1 => repeat (first | exact (Kd.S_reads' HO_5.out).2.2 | (with_reducible refine Kd.C_alloc ?_ _) | (with_reducible refine Kd.C_drewN ?_ _) | (with_reducible refine Kd.C_drew ?_))); (case side2 => exact (Kd.S_reads' HO_5.out).2.1); rintro e w52 ⟨v449, rfl, ho0, hb⟩; refine ⟨_, rfl, ?_⟩; have n0_ := Aside0.mk (Kd.S_below (by (with_reducible repeat (first | apply Kd.S_alloc | apply Kd.S_drewN | apply Kd.S_drew)); exact HO_5.out) hb); have n1_ := Aside0.mk (Kd.S_lower ho0 (below_size (by repeat (first | (with_reducible first | exact HB.out | apply below_alloc | apply pw_below_drewN | apply below_drew1) | exact HB.out)))); have n2_ := Aside0.mk (below_step (by repeat (first | (with_reducible first | exact HB.out | apply below_alloc | apply pw_below_drewN | apply below_drew1) | exact HB.out)) hb); clear HO_5; clear HB; have HO_5 := n0_; have HO450 := n1_; have HB := n2_; clear n0_ n1_ n2_; (try clear hb); (try clear hb2); (try clear hk); (try clear hi); (try clear ho0); obtain ⟨Ao53, co53, eo53⟩ := Kd.S_slice HO450.out; subst eo53))
              go_ret
              exact ⟨by first | rfl | (simp [errW_none, errW_some] <;> rfl) | (simp [*, errW_none, errW_some] <;> rfl), by repeat (first | (with_reducible first | exact HB.out | apply below_alloc | apply pw_below_drewN | apply below_drew1) | exact HB.out)⟩
    · replace c6 := Bool.eq_false_iff.mpr c6
      subst c6
      have H1 : (some true) = some r := by rw [if_neg (show ¬ (false = true) by decide)] at H; exact H
      clear H
      have H := H1
      clear H1
      obtain rfl := Option.some.inj H
      go_enter Try.func10, Try.ntmps10
      go_wp2_with (first | ((with_reducible refine gate_callee (f := 13) rfl ?_); refine goesL_ (some 13) rfl rfl Try.func13 (by kernel_rfl) rfl #[] rfl (by (try simp only [List.map_toArray, List.map_cons, List.map_nil]); first | done | rfl | (simp only [List.length_drop, List.length_take]; rfl)) ?_; (with_reducible refine (interlocutorlaw4_known.calls  true _ A3.out).mono ?_); rintro e w54 ⟨rfl, hb⟩; refine ⟨_, rfl, ?_⟩; have n0_ := Aside0.mk (below_step (by repeat (first | (with_reducible first | exact HB.out | apply below_alloc | apply pw_below_drewN | apply below_drew1) | exact HB.out)) hb); clear HB; have HB := n0_; clear n0_; (try clear hb); (try clear hb2); (try clear hk); (try clear hi)) | ((with_reducible refine gate_callee (f := 14) rfl ?_); refine goesL_ (some 16) rfl rfl Try.func14 (by kernel_rfl) rfl #[.slice A0 l0.length c0] rfl (by (try simp only [List.map_toArray, List.map_cons, List.map_nil]); first | done | rfl | (simp only [List.length_drop, List.length_take]; rfl)) ?_; (with_reducible refine (interlocutorlaw4_Few.calls k _ _ l0 false _ ?side1 ?side2 A5.out).mono ?_); (case side1 => repeat (first | exact (Kd.C_below HR0.out HB.out) | (with_reducible refine Kd.C_alloc ?_ _) | (with_reducible refine Kd.C_drewN ?_ _) | (with_reducible refine Kd.C_drew ?_))); (case side2 => exact HC0.out); rintro e w' ⟨rfl, ⟨nd, rfl⟩⟩; refine ⟨_, rfl, ?_⟩))
      go_ret
      exact ⟨by first | rfl | (simp [errW_none, errW_some] <;> rfl) | (simp [*, errW_none, errW_some] <;> rfl), by repeat (first | (with_reducible first | exact HB.out | apply below_alloc | apply pw_below_drewN | apply below_drew1) | exact HB.out)⟩
  · replace c4 := Bool.eq_false_iff.mpr c4
    subst c4
    have H1 : (some false) = some r := by rw [if_neg (show ¬ (false = true) by decide)] at H; exact H
    clear H
    have H := H1
    clear H1
    obtain rfl := Option.some.inj H
    go_enter Try.func10, Try.ntmps10
    go_wp2_with (first | ((with_reducible refine gate_callee (f := 13) rfl ?_); refine goesL_ (some 13) rfl rfl Try.func13 (by kernel_rfl) rfl #[] rfl (by (try simp only [List.map_toArray, List.map_cons, List.map_nil]); first | done | rfl | (simp only [List.length_drop, List.length_take]; rfl)) ?_; (with_reducible refine (interlocutorlaw4_known.calls  false _ A3.out).mono ?_); rintro e w55 ⟨rfl, hb⟩; refine ⟨_, rfl, ?_⟩; have n0_ := Aside0.mk (below_step (by repeat (first | (with_reducible first | exact HB.out | apply below_alloc | apply pw_below_drewN | apply below_drew1) | exact HB.out)) hb); clear HB; have HB := n0_; clear n0_; (try clear hb); (try clear hb2); (try clear hk); (try clear hi)))
    go_ret
    exact ⟨by first | rfl | (simp [errW_none, errW_some] <;> rfl) | (simp [*, errW_none, errW_some] <;> rfl), by repeat (first | (with_reducible first | exact HB.out | apply below_alloc | apply pw_below_drewN | apply below_drew1) | exact HB.out)⟩
end Go.Proofs.Ytjomlfdkmdgclaa.P
end
section
namespace Go.Proofs.Ytjomlfdkmdgclaa.P
open Go.RowKit Go.Proofs.YtjomlfdkmdgclaaW.PrintWords Go.Proofs.YtjomlfdkmdgclaaW.PrintLast Go.Proofs.YtjomlfdkmdgclaaW.PrintMore
attribute [local go_sem] max2_int min2_int max_two min_two max_three min_three max_four min_four   
set_option linter.unusedVariables false
set_option linter.unusedSimpArgs false
theorem within_rem (a n : Int) (hn : 0 < n) (hn2 : n ≤ 4611686018427387904) : interlocutorlaw4_within.f a n = some (a % n) := by
  unfold interlocutorlaw4_within.f
  have h1 := Int.emod_nonneg a (by omega : n ≠ 0)
  have h2 := Int.emod_lt_of_pos a hn
  have h4 : (n.natAbs : Int) = n := by omega
  rw [if_neg (by omega)]
  have h3 := @Int.tmod_eq_emod a n
  by_cases hd : 0 ≤ a ∨ n ∣ a
  · rw [if_pos hd] at h3
    rw [if_neg (by omega), h3]
    congr 1
    omega
  · rw [if_neg hd, h4] at h3
    rw [if_pos (by omega), h3]
    congr 1
    unfold wrap64
    omega
theorem rem_ge (a n : Int) (hn : 0 < n) : 0 ≤ a % n := Int.emod_nonneg a (by omega)
theorem rem_lt (a n : Int) (hn : 0 < n) : a % n < n := Int.emod_lt_of_pos a hn
theorem as_fin {x n : Int} (m : Nat) (hm : n = m) (h0 : 0 ≤ x) (h1 : x < n) : ∃ i : Fin m, x = ((i.val : Nat) : Int) := ⟨⟨x.toNat, by omega⟩, by simp; omega⟩
end Go.Proofs.Ytjomlfdkmdgclaa.P
end
section
namespace Go.Proofs.Ytjomlfdkmdgclaa.P
open Go.RowKit Go.Proofs.YtjomlfdkmdgclaaW.PrintWords Go.Proofs.YtjomlfdkmdgclaaW.PrintLast Go.Proofs.YtjomlfdkmdgclaaW.PrintMore
attribute [local go_sem] max2_int min2_int max_two min_two max_three min_three max_four min_four   
set_option linter.unusedVariables false
set_option linter.unusedSimpArgs false
def Opens (P : Program) (t : TypeId) {α : Type} (d : Kd α) (ok : α → Prop) : Prop :=
  P.cellsOf t = d.sz ∧ ∀ (H : Type) (enc : TypeId × Value → H) (W : World) (base : Nat) (spare : Nat → Bool) (held : Bool) (fuel : Nat) (cs : List Value) (x : DataW H × List MemPlace), DataW.trod enc P W base spare held fuel t cs = some x → ∃ v : α, d.K W v cs ∧ ok v
theorem opens_int {P : Program} {t : TypeId} {k : IntKind} (ht : P.underlying t = some (.int k)) (hc : P.cellsOf t = 1) : Opens P t (Kd.int k) (fun n => (Lit.int k n).wf = true) := by
  refine ⟨hc, fun H enc W base spare held fuel cs x h => ?_⟩
  obtain ⟨n, rfl, _, hw⟩ := DataW.trod_int ht h
  exact ⟨n, rfl, hw⟩
theorem list_of {α : Type} {p : Nat → α → Prop} : ∀ n : Nat, (∀ i, i < n → ∃ v, p i v) → ∃ xs : List α, xs.length = n ∧ ∀ i v, xs[i]? = some v → p i v
  | 0, _ => ⟨[], rfl, fun i v h => by simp at h⟩
  | n + 1, h => by
    obtain ⟨xs, hl, hx⟩ := list_of n (fun i hi => h i (by omega))
    obtain ⟨v, hv⟩ := h n (by omega)
    refine ⟨xs ++ [v], by rw [List.length_append, hl]; rfl, fun i u hu => ?_⟩
    by_cases hi : i < xs.length
    · rw [List.getElem?_append_left hi] at hu
      exact hx i u hu
    · rw [List.getElem?_append_right (by omega)] at hu
      have h0 : i - xs.length = 0 := by
        have := (List.getElem?_eq_some_iff.1 hu).1
        simp at this
        omega
      rw [h0] at hu
      obtain rfl := Option.some.inj hu
      have : i = n := by omega
      rw [this]
      exact hv
theorem opens_slice {P : Program} {t e : TypeId} {α : Type} {d : Kd α} {ok : α → Prop} (ht : P.underlying t = some (.slice e)) (hc : P.cellsOf t = 1) (h : Opens P e d ok) : Opens P t (Kd.slice e d) (fun xs => ∀ x ∈ xs, ok x) := by
  refine ⟨hc, fun H enc W base spare held fuel cs x hx => ?_⟩
  rcases Go.Deep.open_slice ht hx with ⟨rfl, _⟩ | ⟨a, len, cap, m, n, D, Pl, rfl, _, hl, hm, hmm, _, hel⟩
  · exact ⟨[], ⟨none, 0, rfl, Nat.le_refl _, rfl, by simp, fun h => absurd h (Nat.lt_irrefl _)⟩, by simp⟩
  · have hle : len ≤ m := by rw [hmm]; split <;> omega
    obtain ⟨xs, hxl, hxs⟩ := list_of (p := fun i v => ∃ cs', W.cells? base (a.add (i * d.sz)) d.sz = some cs' ∧ d.K W v cs' ∧ ok v) len (fun i hi => by
      obtain ⟨cs', h1, h2⟩ := hel i (by omega)
      obtain ⟨v, h3, h4⟩ := h.2 H enc W base spare held n cs' _ h2
      rw [h.1] at h1
      exact ⟨v, cs', h1, h3, h4⟩)
    have hmax : maxLen ≤ 9223372036854775807 := by decide
    refine ⟨xs, ⟨some a, cap, by rw [hxl], by omega, rfl, by omega, fun _ => ⟨a, rfl, fun j p hj => ?_⟩⟩, fun y hy => ?_⟩
    · obtain ⟨cs', h1, h2, _⟩ := hxs j p hj
      obtain ⟨_, h3, h4⟩ := World.cells?_some h1
      refine ⟨cs', h3, h2, fun i u hu => ?_⟩
      have h5 := h4 i (by rw [← h3]; exact (List.getElem?_eq_some_iff.1 hu).1)
      rw [hu, add_add] at h5
      exact h5
    · obtain ⟨j, hj, rfl⟩ := List.mem_iff_getElem.1 hy
      obtain ⟨_, _, _, h4⟩ := hxs j _ (List.getElem?_eq_getElem hj)
      exact h4
abbrev wfI (n : Int) : Prop := (Lit.int .i64 n).wf = true
theorem opInt : Opens Try.prog 3 (Kd.int .i64) wfI := opens_int Try.underlying3 (by kernel_rfl)
theorem opInts : Opens Try.prog 22 (Kd.slice 3 (Kd.int .i64)) (fun l => ∀ n ∈ l, wfI n) := opens_slice Try.underlying22 (by kernel_rfl) opInt
theorem opens_fields {P : Program} {t : TypeId} {fs : Array Field} (ht : P.underlying t = some (.struct fs)) {H : Type} {enc : TypeId × Value → H} {W : World} {base : Nat} {spare : Nat → Bool} {held : Bool} {fuel : Nat} {cs : List Value} {x : DataW H × List MemPlace} (h : DataW.trod enc P W base spare held fuel t cs = some x) :
    cs.length = P.cellsOf t ∧ ∀ (i : Nat) (f : Field), fs[i]? = some f → ∀ {α : Type} {d : Kd α} {ok : α → Prop}, Opens P f.type d ok → ∃ v, d.K W v ((cs.drop f.offset).take d.sz) ∧ ok v := by
  obtain ⟨xs, n, _, _, hl, hlen, hf⟩ := DataW.trod_struct ht h
  refine ⟨hl, fun i f hi α d ok ho => ?_⟩
  have h1 := hf i f hi
  have hil : i < xs.length := by
    have := (Array.getElem?_eq_some_iff.1 hi).1
    omega
  rw [List.getElem?_eq_getElem hil, ho.1] at h1
  exact ho.2 H enc W base spare held n _ _ h1
def okRaw (x : S31) : Prop := wfI x.f0 ∧ wfI x.f1 ∧ wfI x.f2 ∧ (∀ n ∈ x.f3, wfI n) ∧ ∀ n ∈ x.f4, wfI n
theorem opRaw : Opens Try.prog 31 k31 okRaw := by
  refine ⟨by kernel_rfl, fun H enc W base spare held fuel cs x h => ?_⟩
  obtain ⟨hl, hf⟩ := opens_fields Try.underlying31 h
  have hl2 : cs.length = 5 := hl.trans (by kernel_rfl)
  obtain ⟨v0, k0, w0⟩ := hf 0 _ rfl opInt
  obtain ⟨v1, k1, w1⟩ := hf 1 _ rfl opInt
  obtain ⟨v2, k2, w2⟩ := hf 2 _ rfl opInt
  obtain ⟨v3, ⟨A3, c3, k3, l3, g3⟩, w3⟩ := hf 3 _ rfl opInts
  obtain ⟨v4, ⟨A4, c4, k4, l4, g4⟩, w4⟩ := hf 4 _ rfl opInts
  match cs, hl2 with
  | [b0, b1, b2, b3, b4], _ =>
    have e0 : [b0] = [.int .i64 v0] := k0
    have e1 : [b1] = [.int .i64 v1] := k1
    have e2 : [b2] = [.int .i64 v2] := k2
    have e3 : [b3] = [.slice A3 v3.length c3] := k3
    have e4 : [b4] = [.slice A4 v4.length c4] := k4
    rw [(List.cons.inj e0).1, (List.cons.inj e1).1, (List.cons.inj e2).1, (List.cons.inj e3).1, (List.cons.inj e4).1]
    exact ⟨⟨v0, v1, v2, v3, v4⟩, k31_mk W ⟨v0, v1, v2, v3, v4⟩ l3 g3 l4 g4, w0, w1, w2, w3, w4⟩
theorem opRaws : Opens Try.prog 27 (Kd.slice 31 k31) (fun l => ∀ x ∈ l, okRaw x) := opens_slice Try.underlying27 (by kernel_rfl) opRaw
end Go.Proofs.Ytjomlfdkmdgclaa.P
end
section
namespace Go.Proofs.Ytjomlfdkmdgclaa.P
open Go.RowKit Go.Proofs.YtjomlfdkmdgclaaW.PrintWords Go.Proofs.YtjomlfdkmdgclaaW.PrintLast Go.Proofs.YtjomlfdkmdgclaaW.PrintMore
attribute [local go_sem] max2_int min2_int max_two min_two max_three min_three max_four min_four   
set_option linter.unusedVariables false
set_option linter.unusedSimpArgs false
def lowP (n : Int) (l : List Int) : Nat := (l.takeWhile fun x => decide (x < n)).length
def putP (l : List Int) (n : Int) : List Int := if (l.drop (lowP n l)).head? = some n then l else l.take (lowP n l) ++ n :: l.drop (lowP n l)
section
variable {ops : Array Oper} {o : Oper} {a : Act} {Q : Exit → Act → World → Prop} {Kc : Act → World → Prop}
end
theorem lowP_take (n : Int) (l : List Int) : ∀ x ∈ l.take (lowP n l), x < n := by
  intro x hx
  have h : l.take (lowP n l) = l.takeWhile fun x => decide (x < n) := by
    unfold lowP
    exact (List.prefix_iff_eq_take.1 (List.takeWhile_prefix _)).symm
  rw [h] at hx
  have := List.all_eq_true.1 (List.all_takeWhile (l := l) (p := fun x => decide (x < n))) x hx
  exact of_decide_eq_true this
theorem lowP_drop (n : Int) (l : List Int) (hs : l.Pairwise (· < ·)) : ∀ x ∈ l.drop (lowP n l), n ≤ x := by
  induction l with
  | nil => simp [lowP]
  | cons a l ih =>
    unfold lowP
    by_cases h : a < n
    · rw [List.takeWhile_cons, if_pos (by simpa using h), List.length_cons, List.drop_succ_cons]
      exact ih (List.pairwise_cons.1 hs).2
    · rw [List.takeWhile_cons, if_neg (by simpa using h)]
      intro x hx
      rcases List.mem_cons.1 hx with rfl | hx
      · omega
      · have := (List.pairwise_cons.1 hs).1 x hx
        omega
theorem mem_putP (l : List Int) (n : Int) (y : Int) : y ∈ putP l n ↔ y = n ∨ y ∈ l := by
  unfold putP
  split
  case isTrue h =>
    constructor
    · exact .inr
    · rintro (rfl | h2)
      · have : y ∈ l.drop (lowP y l) := by
          cases hd : l.drop (lowP y l) with
          | nil => rw [hd] at h; cases h
          | cons a t => rw [hd] at h; simp at h; simp [h]
        exact List.mem_of_mem_drop this
      · exact h2
  case isFalse h =>
    rw [List.mem_append, List.mem_cons]
    constructor
    · rintro (h | rfl | h)
      · exact .inr (List.mem_of_mem_take h)
      · exact .inl rfl
      · exact .inr (List.mem_of_mem_drop h)
    · rintro (rfl | h)
      · exact .inr (.inl rfl)
      · rw [← List.take_append_drop (lowP n l) l, List.mem_append] at h
        rcases h with h | h
        · exact .inl h
        · exact .inr (.inr h)
theorem putP_sorted (l : List Int) (n : Int) (hs : l.Pairwise (· < ·)) : (putP l n).Pairwise (· < ·) := by
  unfold putP
  split
  · exact hs
  case isFalse h =>
    have h1 := lowP_take n l
    have h2 := lowP_drop n l hs
    have h3 : ∀ x ∈ l.drop (lowP n l), n < x := by
      intro x hx
      have h4 := h2 x hx
      by_cases e : x = n
      · exfalso
        subst e
        cases hd : l.drop (lowP x l) with
        | nil => rw [hd] at hx; cases hx
        | cons a t =>
          rw [hd] at h hx h2
          have h5 : a ≠ x := fun e => h (by simp [e])
          have h6 := h2 a List.mem_cons_self
          rcases List.mem_cons.1 hx with e | hx
          · exact h5 e.symm
          · have h7 : (l.drop (lowP x l)).Pairwise (· < ·) := hs.sublist (List.drop_sublist _ _)
            rw [hd] at h7
            have := (List.pairwise_cons.1 h7).1 x hx
            omega
      · omega
    rw [List.pairwise_append, List.pairwise_cons]
    refine ⟨hs.sublist (List.take_sublist _ _), ⟨h3, hs.sublist (List.drop_sublist _ _)⟩, fun a ha b hb => ?_⟩
    rcases List.mem_cons.1 hb with rfl | hb
    · exact h1 a ha
    · have := h1 a ha
      have := h3 b hb
      omega
end Go.Proofs.Ytjomlfdkmdgclaa.P
end
section
namespace Go.Proofs.Ytjomlfdkmdgclaa.P
open Go.RowKit Go.Proofs.YtjomlfdkmdgclaaW.PrintWords Go.Proofs.YtjomlfdkmdgclaaW.PrintLast Go.Proofs.YtjomlfdkmdgclaaW.PrintMore
attribute [local go_sem] max2_int min2_int max_two min_two max_three min_three max_four min_four   
set_option linter.unusedVariables false
set_option linter.unusedSimpArgs false
def oneOf (r : Rule') : Bool := decide (r.f1.length = 1 ∧ 0 ≤ rd r.f1 0)
def rowStep (rows : Nat → List Int) (r : Rule') : Nat → List Int := fun s => if oneOf r = true ∧ r.f0 = (s : Int) then putP (rows s) (rd r.f1 0) else rows s
def refRows (l : List Rule') : Nat → List Int := l.foldl rowStep (fun _ => [])
theorem putP_len (l : List Int) (n : Int) : (putP l n).length ≤ l.length + 1 := by
  unfold putP
  split
  · omega
  · rw [List.length_append, List.length_cons, List.length_take, List.length_drop]
    have : lowP n l ≤ l.length := by
      unfold lowP
      exact (List.takeWhile_sublist _).length_le
    omega
def refUnitsP (l0 : List Rule') : List (List Int) := (List.range 20).map (refRows l0)
theorem URows.below {base g : Nat} {rows : Nat → List Int} {W W1 : World} {vals : List Value} {f : Nat → Nat} {i : Nat} (h : URows base g rows i W vals f) (hb : Below W.heap.size W W1) : URows base g rows i W1 vals f :=
  ⟨h.len, blk_below h.blk hb, h.ge, fun j hj => by obtain ⟨v, h1, h2⟩ := h.done j hj; exact ⟨v, h1, Kd.R_below h2 hb⟩, h.rest⟩
theorem URows.same {base g : Nat} {rows rows' : Nat → List Int} {W : World} {vals : List Value} {f : Nat → Nat} {i : Nat} (h : URows base g rows i W vals f) (he : ∀ j, j < i → rows' j = rows j) : URows base g rows' i W vals f :=
  ⟨h.len, h.blk, h.ge, fun j hj => by rw [he j hj]; exact h.done j hj, h.rest⟩
end Go.Proofs.Ytjomlfdkmdgclaa.P
end
section
namespace Go.Proofs.Ytjomlfdkmdgclaa.P
open Go.RowKit Go.Proofs.YtjomlfdkmdgclaaW.PrintWords Go.Proofs.YtjomlfdkmdgclaaW.PrintLast Go.Proofs.YtjomlfdkmdgclaaW.PrintMore
attribute [local go_sem] max2_int min2_int max_two min_two max_three min_three max_four min_four   
set_option linter.unusedVariables false
set_option linter.unusedSimpArgs false
end Go.Proofs.Ytjomlfdkmdgclaa.P
end
section
namespace Go.Proofs.Ytjomlfdkmdgclaa.P
open Go.RowKit Go.Proofs.YtjomlfdkmdgclaaW.PrintWords Go.Proofs.YtjomlfdkmdgclaaW.PrintLast Go.Proofs.YtjomlfdkmdgclaaW.PrintMore
attribute [local go_sem] max2_int min2_int max_two min_two max_three min_three max_four min_four   
set_option linter.unusedVariables false
set_option linter.unusedSimpArgs false
end Go.Proofs.Ytjomlfdkmdgclaa.P
end
section
namespace Go.Proofs.Ytjomlfdkmdgclaa.P
open Go.RowKit Go.Proofs.YtjomlfdkmdgclaaW.PrintWords Go.Proofs.YtjomlfdkmdgclaaW.PrintLast Go.Proofs.YtjomlfdkmdgclaaW.PrintMore
attribute [local go_sem] max2_int min2_int max_two min_two max_three min_three max_four min_four   
set_option linter.unusedVariables false
set_option linter.unusedSimpArgs false
section
variable (a0 : Int) (l1 : List Int) (a2 : Int) (l3 : List Int) (a4 : Int)
end
end Go.Proofs.Ytjomlfdkmdgclaa.P
end
section
namespace Go.Proofs.Ytjomlfdkmdgclaa.P
open Go.RowKit Go.Proofs.YtjomlfdkmdgclaaW.PrintWords Go.Proofs.YtjomlfdkmdgclaaW.PrintLast Go.Proofs.YtjomlfdkmdgclaaW.PrintMore
attribute [local go_sem] max2_int min2_int max_two min_two max_three min_three max_four min_four   
set_option linter.unusedVariables false
set_option linter.unusedSimpArgs false
end Go.Proofs.Ytjomlfdkmdgclaa.P
end
section
namespace Go.Proofs.Ytjomlfdkmdgclaa.P
open Go.RowKit Go.Proofs.YtjomlfdkmdgclaaW.PrintWords Go.Proofs.YtjomlfdkmdgclaaW.PrintLast Go.Proofs.YtjomlfdkmdgclaaW.PrintMore
attribute [local go_sem] max2_int min2_int max_two min_two max_three min_three max_four min_four   
set_option linter.unusedVariables false
set_option linter.unusedSimpArgs false
theorem mem_refRows (s : Nat) (y : Int) : ∀ (l : List Rule') (rows : Nat → List Int), y ∈ l.foldl rowStep rows s ↔ y ∈ rows s ∨ ∃ r ∈ l, r.f0 = s ∧ r.f1 = [y] ∧ 0 ≤ y
  | [], rows => by simp
  | r :: l, rows => by
    rw [List.foldl_cons, mem_refRows s y l (rowStep rows r)]
    have h : y ∈ rowStep rows r s ↔ y ∈ rows s ∨ (r.f0 = s ∧ r.f1 = [y] ∧ 0 ≤ y) := by
      unfold rowStep oneOf
      split
      case isTrue hc =>
        obtain ⟨h1, h2⟩ := hc
        obtain ⟨h3, h4⟩ := of_decide_eq_true h1
        rw [mem_putP]
        have h5 : r.f1 = [rd r.f1 0] := by
          match hr : r.f1, h3 with
          | [x], _ => simp [rd]
        constructor
        · rintro (rfl | h)
          · exact .inr ⟨h2, h5, h4⟩
          · exact .inl h
        · rintro (h | ⟨_, h, _⟩)
          · exact .inr h
          · left
            rw [h]; rfl
      case isFalse hc =>
        constructor
        · exact .inl
        · rintro (h | ⟨h1, h2, h3⟩)
          · exact h
          · exact absurd ⟨decide_eq_true ⟨by rw [h2]; rfl, by rw [h2]; exact h3⟩, h1⟩ hc
    rw [h, or_assoc]
    simp
theorem refRows_iff (l0 : List Rule') (hr : l0.all rightR = true) (s : Nat) (hs : s < 20) (y : Int) : y ∈ refRows l0 s ↔ y ∈ rowsNext l0 s := by
  unfold refRows
  rw [mem_refRows, mem_rowsNext l0 s ⟨by omega, by omega⟩]
  constructor
  · rintro (h | ⟨r, h1, h2, h3, h4⟩)
    · cases h
    · refine ⟨⟨h4, ?_⟩, r, h1, h2, h3⟩
      have h5 := List.all_eq_true.1 hr r h1
      unfold rightR rightP at h5
      simp only [Bool.and_eq_true] at h5
      have h6 := List.all_eq_true.1 h5.2.2.1 y (by rw [h3]; exact List.mem_singleton.2 rfl)
      unfold itemB at h6
      rw [Bool.and_eq_true] at h6
      exact of_decide_eq_true h6.1
  · rintro ⟨h1, r, h2, h3, h4⟩
    exact .inr ⟨r, h2, h3, h4, h1.1⟩
end Go.Proofs.Ytjomlfdkmdgclaa.P
end
section
namespace Go.Proofs.Ytjomlfdkmdgclaa.P
open Go.RowKit Go.Proofs.YtjomlfdkmdgclaaW.PrintWords Go.Proofs.YtjomlfdkmdgclaaW.PrintLast Go.Proofs.YtjomlfdkmdgclaaW.PrintMore
attribute [local go_sem] max2_int min2_int max_two min_two max_three min_three max_four min_four   
set_option linter.unusedVariables false
set_option linter.unusedSimpArgs false
end Go.Proofs.Ytjomlfdkmdgclaa.P
end
section
namespace Go.Proofs.Ytjomlfdkmdgclaa.P
open Go.RowKit Go.Proofs.YtjomlfdkmdgclaaW.PrintWords Go.Proofs.YtjomlfdkmdgclaaW.PrintLast Go.Proofs.YtjomlfdkmdgclaaW.PrintMore
attribute [local go_sem] max2_int min2_int max_two min_two max_three min_three max_four min_four   
set_option linter.unusedVariables false
set_option linter.unusedSimpArgs false
abbrev Raw' := S31
theorem rdR_getElem (l : List Raw') (j : Nat) (h : j < l.length) : rd_T31 l j = l[j] := by
  unfold rd_T31
  rw [Int.toNat_natCast, List.getD_eq_getElem?_getD, List.getElem?_eq_getElem h]
  rfl
def fewB (l : List Raw') : Bool := l.all fun x => decide (x.f3.length ≤ 20 ∧ x.f4.length ≤ 20)
theorem few_loop (l : List Raw') (hl : l.length ≤ 9223372036854775807) : ∀ (d j : Nat), j + d = l.length → ∀ k, d < k → interlocutorlaw4_Few.l0 k l j = some (fewB (l.drop j) && decide (l.length ≤ 80)) := by
  intro d
  induction d with
  | zero =>
    intro j hj k hk
    obtain ⟨k, rfl⟩ : ∃ i, k = i + 1 := ⟨k - 1, by omega⟩
    simp only [interlocutorlaw4_Few.l0]
    rw [if_neg (by omega), show j = l.length by omega, List.drop_length]
    have : decide ((l.length : Int) ≤ 80) = decide (l.length ≤ 80) := decide_eq_decide.2 (by omega)
    rw [this]
    rfl
  | succ d ih =>
    intro j hj k hk
    obtain ⟨k, rfl⟩ : ∃ i, k = i + 1 := ⟨k - 1, by omega⟩
    have hlt : j < l.length := by omega
    have hw : wrap64 ((j : Int) + 1) = ((j + 1 : Nat) : Int) := by rw [wrap_in (by omega)]; rfl
    have h1 := ih (j + 1) (by omega) k (by omega)
    simp only [interlocutorlaw4_Few.l0]
    rw [if_pos (by omega), if_pos (by omega), rdR_getElem l j hlt, hw, h1, List.drop_eq_getElem_cons hlt]
    unfold fewB
    rw [List.all_cons]
    by_cases h3 : (l[j].f3.length : Int) > 20
    · rw [if_pos h3, decide_eq_false (by omega)]; rfl
    · rw [if_neg h3]
      by_cases h4 : (l[j].f4.length : Int) > 20
      · rw [if_pos h4, decide_eq_false (by omega)]; rfl
      · rw [if_neg h4, decide_eq_true (by omega : l[j].f3.length ≤ 20 ∧ l[j].f4.length ≤ 20)]
        rfl
theorem few_some (l : List Raw') (hl : l.length ≤ 9223372036854775807) (k : Nat) (hk : l.length < k) : interlocutorlaw4_Few.f k l = some (fewB l && decide (l.length ≤ 80)) := by
  have h := few_loop l hl l.length 0 (by omega) k hk
  rw [List.drop_zero] at h
  exact h
def kidOk (s : Int) (y : Int) : Prop := (0 ≤ y ∧ y < s) ∨ (-55 ≤ y ∧ y ≤ -1)
section
variable (s n a0 a1 a2 : Int) (l3 l4 : List Int) (c0 : Int) (rhs : List Int) (c2 c4 : Int)
theorem make_places (hn : n ≤ 3) (hr : 1 ≤ rhs.length) (hr2 : rhs.length ≤ 10) (h4 : l4.length ≤ 20) : ∀ (d j : Nat) (ps : List Int), (j : Int) + d = n → ps.length = j → (∀ p ∈ ps, 0 ≤ p ∧ p < (rhs.length : Int)) →
    ∃ ps' : List Int, (ps'.length : Int) = n ∧ (∀ p ∈ ps', 0 ≤ p ∧ p < (rhs.length : Int)) ∧ ∀ k, d < k → interlocutorlaw4_Raw_Make.l1 k n j a0 a1 a2 l3 l4 c0 rhs c2 ps c4 = some (c0, rhs, c2, ps', c4) := by
  intro d
  induction d with
  | zero =>
    intro j ps hj hl hp
    refine ⟨ps, by omega, hp, fun k hk => ?_⟩
    obtain ⟨k, rfl⟩ : ∃ i, k = i + 1 := ⟨k - 1, by omega⟩
    simp only [interlocutorlaw4_Raw_Make.l1]
    rw [if_neg (by omega)]
  | succ d ih =>
    intro j ps hj hl hp
    have hw : wrap64 ((j : Int) + 1) = ((j + 1 : Nat) : Int) := by rw [wrap_in (by omega)]; rfl
    by_cases h : (j : Int) < (l4.length : Int)
    · have hv0 := rem_ge (rd l4 j) (rhs.length : Int) (by omega)
      have hv1 := rem_lt (rd l4 j) (rhs.length : Int) (by omega)
      obtain ⟨ps', h1, h2, h3⟩ := ih (j + 1) (ps ++ [rd l4 j % (rhs.length : Int)]) (by omega) (by rw [List.length_append, hl]; rfl) (fun p hp' => by
        rcases List.mem_append.1 hp' with hp' | hp'
        · exact hp p hp'
        · rw [List.mem_singleton.1 hp']; exact ⟨hv0, hv1⟩)
      refine ⟨ps', h1, h2, fun k hk => ?_⟩
      obtain ⟨k, rfl⟩ : ∃ i, k = i + 1 := ⟨k - 1, by omega⟩
      simp only [interlocutorlaw4_Raw_Make.l1]
      rw [if_pos (by omega), if_pos h, if_pos (by omega), within_rem _ _ (by omega) (by omega), Option.bind_some, if_pos (by omega), hw]
      exact h3 k (by omega)
    · have hv0 := rem_ge (j : Int) (rhs.length : Int) (by omega)
      have hv1 := rem_lt (j : Int) (rhs.length : Int) (by omega)
      obtain ⟨ps', h1, h2, h3⟩ := ih (j + 1) (ps ++ [(j : Int) % (rhs.length : Int)]) (by omega) (by rw [List.length_append, hl]; rfl) (fun p hp' => by
        rcases List.mem_append.1 hp' with hp' | hp'
        · exact hp p hp'
        · rw [List.mem_singleton.1 hp']; exact ⟨hv0, hv1⟩)
      refine ⟨ps', h1, h2, fun k hk => ?_⟩
      obtain ⟨k, rfl⟩ : ∃ i, k = i + 1 := ⟨k - 1, by omega⟩
      simp only [interlocutorlaw4_Raw_Make.l1]
      rw [if_pos (by omega), if_neg h, within_rem _ _ (by omega) (by omega), Option.bind_some, if_pos (by omega), hw]
      exact h3 k (by omega)
theorem kid_table : ∀ t : Fin 11, -55 ≤ wrap64 ((-1) - (rd ([0, 0, 0, 1, 2, 3, 50, 51, 52, 53, 54] : List Int) ((t.val : Nat) : Int))) ∧ wrap64 ((-1) - (rd ([0, 0, 0, 1, 2, 3, 50, 51, 52, 53, 54] : List Int) ((t.val : Nat) : Int))) ≤ -1 := by decide +kernel
theorem make_kids (s n a0 a1 a2 : Int) (l3 l4 : List Int) (c0 c2 c4 : Int) (hs : 1 ≤ s ∧ s ≤ 20) (hn : 1 ≤ n ∧ n ≤ 3) (h3 : l3.length ≤ 20) (hw3 : ∀ y ∈ l3, wfI y) (h4 : l4.length ≤ 20) (ha1 : wfI a1) : ∀ (d i : Nat) (rhs : List Int), i + d = 3 → rhs.length = i → (∀ y ∈ rhs, kidOk s y) →
    ∃ rhs' ps', (1 ≤ rhs'.length ∧ rhs'.length ≤ 3) ∧ (∀ y ∈ rhs', kidOk s y) ∧ ((ps'.length : Int) = n) ∧ (∀ p ∈ ps', 0 ≤ p ∧ p < (rhs'.length : Int)) ∧ ∀ k, 3 * d + 20 < k → interlocutorlaw4_Raw_Make.l0 k s n i a0 a1 a2 l3 l4 c0 rhs c2 c4 = some (c0, rhs', c2, ps', c4) := by
  intro d
  induction d with
  | zero =>
    intro i rhs hi hl hk
    obtain ⟨ps', p1, p2, p3⟩ := make_places n a0 a1 a2 l3 l4 c0 rhs c2 c4 hn.2 (by omega) (by omega) h4 n.toNat 0 [] (by omega) rfl (by simp)
    refine ⟨rhs, ps', ⟨by omega, by omega⟩, hk, p1, p2, fun k hk => ?_⟩
    obtain ⟨k, rfl⟩ : ∃ j, k = j + 2 := ⟨k - 2, by omega⟩
    have hm0 := rem_ge (l3.length : Int) 3 (by omega)
    have hm1 := rem_lt (l3.length : Int) 3 (by omega)
    rw [show k + 2 = (k + 1) + 1 by omega]
    simp only [interlocutorlaw4_Raw_Make.l0]
    rw [within_rem _ 3 (by omega) (by omega), Option.bind_some, wrap_in (by omega), if_neg (by omega), if_neg (by omega)]
    simp only [interlocutorlaw4_Raw_Make.j1, Bool.false_eq_true, if_false]
    exact p3 k (by omega)
  | succ d ih =>
    intro i rhs hi hl hk
    have hm0 := rem_ge (l3.length : Int) 3 (by omega)
    have hm1 := rem_lt (l3.length : Int) 3 (by omega)
    obtain ⟨b, hb0, hb⟩ : ∃ b : Bool, (i = 0 → b = true) ∧ ∀ k, interlocutorlaw4_Raw_Make.l0 (k + 1) s n i a0 a1 a2 l3 l4 c0 rhs c2 c4 = interlocutorlaw4_Raw_Make.j1 k s n i b a0 a1 a2 l3 l4 c0 rhs c2 c4 := by
      by_cases h1 : (i : Int) < 1 + (l3.length : Int) % 3
      · refine ⟨true, fun _ => rfl, fun k => ?_⟩
        simp only [interlocutorlaw4_Raw_Make.l0]
        rw [within_rem _ 3 (by omega) (by omega), Option.bind_some, wrap_in (by omega), if_pos h1]
      · by_cases h2 : (i : Int) < n
        · refine ⟨(wrap64 (Int.tdiv a1 16) % 2 == 0), fun h => by omega, fun k => ?_⟩
          simp only [interlocutorlaw4_Raw_Make.l0]
          rw [within_rem _ 3 (by omega) (by omega), Option.bind_some, wrap_in (by omega), if_neg h1, if_pos h2, within_rem _ 2 (by omega) (by omega), Option.bind_some]
        · refine ⟨false, fun h => by omega, fun k => ?_⟩
          simp only [interlocutorlaw4_Raw_Make.l0]
          rw [within_rem _ 3 (by omega) (by omega), Option.bind_some, wrap_in (by omega), if_neg h1, if_neg h2]
    cases b with
    | false =>
      have hi1 : i ≠ 0 := fun h => by have := hb0 h; cases this
      obtain ⟨ps', p1, p2, p3⟩ := make_places n a0 a1 a2 l3 l4 c0 rhs c2 c4 hn.2 (by omega) (by omega) h4 n.toNat 0 [] (by omega) rfl (by simp)
      refine ⟨rhs, ps', ⟨by omega, by omega⟩, hk, p1, p2, fun k hk => ?_⟩
      obtain ⟨k, rfl⟩ : ∃ j, k = j + 2 := ⟨k - 2, by omega⟩
      rw [show k + 2 = (k + 1) + 1 by omega, hb]
      simp only [interlocutorlaw4_Raw_Make.j1, Bool.false_eq_true, if_false]
      exact p3 k (by omega)
    | true =>
      obtain ⟨v, hv⟩ : ∃ v : Int, ∀ k, interlocutorlaw4_Raw_Make.j1 (k + 1) s n i true a0 a1 a2 l3 l4 c0 rhs c2 c4 = interlocutorlaw4_Raw_Make.j2 k s n i v a0 a1 a2 l3 l4 c0 rhs c2 c4 := by
        by_cases h1 : (i : Int) < (l3.length : Int)
        · refine ⟨rd l3 i, fun k => ?_⟩
          simp only [interlocutorlaw4_Raw_Make.j1, if_true]
          rw [if_pos h1, if_pos (by omega)]
        · refine ⟨i, fun k => ?_⟩
          simp only [interlocutorlaw4_Raw_Make.j1, if_true]
          rw [if_neg h1]
      have hw : wrap64 ((i : Int) + 1) = ((i + 1 : Nat) : Int) := by rw [wrap_in (by omega)]; rfl
      obtain ⟨y, hy, hj⟩ : ∃ y : Int, kidOk s y ∧ ∀ k, interlocutorlaw4_Raw_Make.j2 (k + 1) s n i v a0 a1 a2 l3 l4 c0 rhs c2 c4 = interlocutorlaw4_Raw_Make.l0 k s n ((i + 1 : Nat) : Int) a0 a1 a2 l3 l4 c0 (rhs ++ [y]) c2 c4 := by
        by_cases h1 : wrap64 (Int.tdiv v 20) % 2 = 0
        · obtain ⟨t, ht⟩ := as_fin 11 rfl (rem_ge (wrap64 (Int.tdiv v 40)) 11 (by omega)) (rem_lt (wrap64 (Int.tdiv v 40)) 11 (by omega))
          refine ⟨_, .inr (kid_table t), fun k => ?_⟩
          simp only [interlocutorlaw4_Raw_Make.j2]
          rw [within_rem v s (by omega) (by omega), Option.bind_some, within_rem _ 2 (by omega) (by omega), Option.bind_some, if_pos h1, Option.bind_some, within_rem _ 11 (by omega) (by omega), Option.bind_some, ht, if_pos (by omega), if_pos (by have := t.isLt; simp; omega), if_pos (by omega), hw]
        · refine ⟨v % s, .inl ⟨rem_ge v s (by omega), rem_lt v s (by omega)⟩, fun k => ?_⟩
          simp only [interlocutorlaw4_Raw_Make.j2]
          rw [within_rem v s (by omega) (by omega), Option.bind_some, within_rem _ 2 (by omega) (by omega), Option.bind_some, if_neg h1, if_pos (by omega), hw]
      obtain ⟨rhs', ps', q1, q2, q3, q4, q5⟩ := ih (i + 1) (rhs ++ [y]) (by omega) (by rw [List.length_append, hl]; rfl) (fun z hz => by
        rcases List.mem_append.1 hz with hz | hz
        · exact hk z hz
        · rw [List.mem_singleton.1 hz]; exact hy)
      refine ⟨rhs', ps', q1, q2, q3, q4, fun k hk => ?_⟩
      obtain ⟨k, rfl⟩ : ∃ j, k = j + 3 := ⟨k - 3, by omega⟩
      rw [show k + 3 = ((k + 1) + 1) + 1 by omega, hb, hv, hj]
      exact q5 k (by omega)
def makeN (o : Nat) : Int := rd ([1, 3, 2, 2, 2, 2, 3, 1, 1, 2, 1, 1, 2, 2, 2, 2] : List Int) (o : Int)
theorem makeN_ok : ∀ o : Fin 16, (1 ≤ makeN o.val ∧ makeN o.val ≤ 3) ∧ (askedP ((o.val : Nat) : Int)).1 ≤ makeN o.val ∧ makeN o.val ≤ (askedP ((o.val : Nat) : Int)).2 := by decide +kernel
structure Made (s : Int) (r : Rule') : Prop where
  lhs : 0 ≤ r.f0 ∧ r.f0 < s
  len : 1 ≤ r.f1.length ∧ r.f1.length ≤ 3
  kids : ∀ y ∈ r.f1, kidOk s y
  right : rightR r = true
theorem make_some (x : Raw') (s : Int) (hs : 1 ≤ s ∧ s ≤ 20) (hx : okRaw x) (h3 : x.f3.length ≤ 20) (h4 : x.f4.length ≤ 20) :
    ∃ r : Rule', Made s r ∧ ∀ k, 40 ≤ k → interlocutorlaw4_Raw_Make.f k x.f0 x.f1 x.f2 x.f3 x.f4 s = some (r.f0, r.f1, r.f2.f0, r.f2.f1, r.f3) := by
  obtain ⟨_, hw1, _, hw3, _⟩ := hx
  obtain ⟨o, ho⟩ := as_fin 16 rfl (rem_ge x.f1 16 (by omega)) (rem_lt x.f1 16 (by omega))
  have hn := makeN_ok o
  have hc0 := rem_ge x.f2 101 (by omega)
  have hc1 := rem_lt x.f2 101 (by omega)
  have hl0 := rem_ge x.f0 s (by omega)
  have hl1 := rem_lt x.f0 s (by omega)
  obtain ⟨rhs, ps, p1, p2, p3, p4, p5⟩ := make_kids s (makeN o.val) x.f0 x.f1 x.f2 x.f3 x.f4 (x.f0 % s) ((o.val : Nat) : Int) (x.f2 % 101) hs hn.1 h3 hw3 h4 hw1 3 0 [] rfl rfl (by simp)
  refine ⟨⟨x.f0 % s, rhs, ⟨((o.val : Nat) : Int), ps⟩, x.f2 % 101⟩, ⟨⟨hl0, hl1⟩, p1, p2, ?_⟩, fun k hk => ?_⟩
  · show rightP (x.f0 % s) rhs ((o.val : Nat) : Int) ps (x.f2 % 101) = true
    unfold rightP symbolB withinB
    simp only [Bool.and_eq_true, decide_eq_true_eq, List.all_eq_true]
    refine ⟨⟨hl0, by omega⟩, ⟨by omega, by omega⟩, fun y hy => ?_, ⟨hc0, by omega⟩, ⟨by omega, by omega⟩, fun p hp => ?_⟩
    · unfold itemB
      rcases p2 y hy with h | h
      · rw [decide_eq_true (by omega), decide_eq_true (by omega)]; rfl
      · rw [decide_eq_true (by omega), decide_eq_true (by omega)]; rfl
    · have h := p4 p hp
      unfold placeB
      rw [decide_eq_true h.1, decide_eq_true h.2]; rfl
  · unfold interlocutorlaw4_Raw_Make.f
    rw [within_rem x.f0 s (by omega) (by omega), Option.bind_some, within_rem x.f2 101 (by omega) (by omega), Option.bind_some, within_rem x.f1 16 (by omega) (by omega), Option.bind_some, Option.bind_some, ho, if_pos (by omega), if_pos (by have := o.isLt; simp; omega)]
    exact p5 k (by omega)
end
theorem rule_eta (r : Rule') : (⟨r.f0, r.f1, (⟨r.f2.f0, r.f2.f1⟩ : S24), r.f3⟩ : Rule') = r := rfl
end Go.Proofs.Ytjomlfdkmdgclaa.P
end
section
namespace Go.Proofs.Ytjomlfdkmdgclaa.P
open Go.RowKit Go.Proofs.YtjomlfdkmdgclaaW.PrintWords Go.Proofs.YtjomlfdkmdgclaaW.PrintLast Go.Proofs.YtjomlfdkmdgclaaW.PrintMore
attribute [local go_sem] max2_int min2_int max_two min_two max_three min_three max_four min_four   
set_option linter.unusedVariables false
set_option linter.unusedSimpArgs false
theorem sorted_ext {l l' : List Int} (h : l.Pairwise (· < ·)) (h' : l'.Pairwise (· < ·)) (hm : ∀ y, y ∈ l ↔ y ∈ l') : l = l' := by
  have n1 : l.Nodup := h.imp (fun h => Int.ne_of_lt h)
  have n2 : l'.Nodup := h'.imp (fun h => Int.ne_of_lt h)
  have hp : l.Perm l' := (List.perm_ext_iff_of_nodup n1 n2).2 hm
  have s : ∀ l : List Int, l.Pairwise (· < ·) → sortI l = l := by
    intro l h
    unfold sortI
    refine List.mergeSort_of_pairwise (h.imp ?_)
    intro a b h
    simp [leI]
    omega
  rw [← s l h, ← s l' h']
  exact mergeSort_of_perm_i hp
end Go.Proofs.Ytjomlfdkmdgclaa.P
end
section
namespace Go.Proofs.Ytjomlfdkmdgclaa.P
open Go.RowKit Go.Proofs.YtjomlfdkmdgclaaW.PrintWords Go.Proofs.YtjomlfdkmdgclaaW.PrintLast Go.Proofs.YtjomlfdkmdgclaaW.PrintMore
attribute [local go_sem] max2_int min2_int max_two min_two max_three min_three max_four min_four   
set_option linter.unusedVariables false
set_option linter.unusedSimpArgs false
theorem refRows_sorted (l : List Rule') (s : Nat) : (refRows l s).Pairwise (· < ·) := by
  have : ∀ (l : List Rule') (rows : Nat → List Int), (∀ s, (rows s).Pairwise (· < ·)) → ∀ s, ((l.foldl rowStep rows) s).Pairwise (· < ·) := by
    intro l
    induction l with
    | nil => exact fun rows h s => h s
    | cons r l ih =>
      intro rows h s
      rw [List.foldl_cons]
      refine ih _ (fun s => ?_) s
      unfold rowStep
      split
      · exact putP_sorted _ _ (h s)
      · exact h s
  exact this l _ (fun _ => List.Pairwise.nil) s
theorem units_eq (l0 : List Rule') (hr : l0.all rightR = true) : refUnitsP l0 = unitsP l0 := by
  show (List.range 20).map (refRows l0) = (List.range 20).map (fun s => rowUpto (foundL l0) s 20)
  refine List.map_congr_left fun s hs => ?_
  have hs20 : s < 20 := List.mem_range.1 hs
  refine sorted_ext (refRows_sorted _ _) (rowUpto_sorted _ _) fun y => ?_
  rw [refRows_iff l0 hr s hs20, rowsNext_at l0 s hs20]
theorem rightR_sym (r : Rule') (h : rightR r = true) : (0 ≤ r.f0 ∧ r.f0 < 20) ∧ (1 ≤ r.f1.length ∧ r.f1.length ≤ 6) ∧ (∀ y ∈ r.f1, -61 ≤ y ∧ y < 20) ∧ (0 ≤ r.f3 ∧ r.f3 ≤ 100) := by
  unfold rightR rightP symbolB withinB at h
  simp only [Bool.and_eq_true, decide_eq_true_eq, List.all_eq_true] at h
  refine ⟨h.1, ⟨by omega, by omega⟩, fun y hy => ?_, h.2.2.2.1⟩
  have := h.2.2.1 y hy
  unfold itemB at this
  simp only [Bool.and_eq_true, decide_eq_true_eq] at this
  omega
theorem unitsB_right (l0 : List Rule') (h1 : l0.length ≤ 1000000000000) (hr : l0.all rightR = true) : unitsB l0 = true := by
  unfold unitsB
  rw [Bool.and_eq_true, decide_eq_true_eq, List.all_eq_true]
  exact ⟨fun r h => decide_eq_true (rightR_sym r (List.all_eq_true.1 hr r h)).1, h1⟩
theorem rdU (l : List (List Int)) (j : Nat) (h : j < l.length) : rd_L2 l j = l[j] := by
  unfold rd_L2
  rw [Int.toNat_natCast, List.getD_eq_getElem?_getD, List.getElem?_eq_getElem h]
  rfl
end Go.Proofs.Ytjomlfdkmdgclaa.P
end
section
namespace Go.Proofs.Ytjomlfdkmdgclaa.Pure
open Go.RowKit Go.Proofs.Ytjomlfdkmdgclaa.P Go.Proofs.YtjomlfdkmdgclaaW.PrintWords Go.Proofs.YtjomlfdkmdgclaaW.PrintLast
theorem rdRule (l : List Rule') (j : Nat) (h : j < l.length) : rd_T26 l j = l[j] := by
  unfold rd_T26
  rw [Int.toNat_natCast, List.getD_eq_getElem?_getD, List.getElem?_eq_getElem h]
  rfl
def sumTo (rows : Nat → List Int) : Nat → Nat
  | 0 => 0
  | s + 1 => sumTo rows s + (rows s).length
theorem sumTo_step (rows : Nat → List Int) (r : Rule') : ∀ s, sumTo (rowStep rows r) s ≤ sumTo rows s + (if r.f0 < (s : Int) then 1 else 0)
  | 0 => by simp [sumTo]
  | s + 1 => by
    have ih := sumTo_step rows r s
    have h1 : (rowStep rows r s).length ≤ (rows s).length + (if r.f0 = (s : Int) then 1 else 0) := by
      unfold rowStep
      split
      case isTrue h => rw [if_pos h.2]; exact putP_len _ _
      case isFalse h => omega
    unfold sumTo
    split at ih <;> split at h1 <;> split <;> omega
theorem sumTo_all (l : List Rule') : ∀ (rows : Nat → List Int) (s : Nat), sumTo (l.foldl rowStep rows) s ≤ sumTo rows s + l.length := by
  induction l with
  | nil => intro rows s; exact Nat.le_refl _
  | cons r l ih =>
    intro rows s
    have h1 := ih (rowStep rows r) s
    have h2 := sumTo_step rows r s
    rw [List.foldl_cons, List.length_cons]
    split at h2 <;> omega
theorem sumTo_nil : ∀ s, sumTo (fun _ => []) s = 0
  | 0 => rfl
  | s + 1 => by simp [sumTo, sumTo_nil s]
theorem units_few (a : List Rule') (s : Nat) : sumTo (refRows a) s ≤ a.length := by
  have h := sumTo_all a (fun _ => []) s
  rw [sumTo_nil] at h
  unfold refRows
  omega
theorem isOne (r : Rule') (y : Int) (h : r.f1.length = 1) : r.f1 = [y] ↔ rd r.f1 0 = y := by
  match hr : r.f1, h with
  | [x], _ => simp [rd]
theorem l3_ok (a : List Rule') (u : List (List Int)) (n s k : Int) (y : Int) (hs0 : 0 ≤ s) (hs : s < (u.length : Int)) (hk0 : 0 ≤ k) (hk : k < ((rd_L2 u s).length : Int)) (hy : rd (rd_L2 u s) k = y) (F : Nat)
    (hnext : ∀ K, F ≤ K → interlocutorlaw4_GramUnits.l2 K a u (wrap64 (n + 1)) s (wrap64 (k + 1)) = some true) (hl : a.length ≤ 80) :
    ∀ (d i : Nat) (is : Bool), i + d = a.length → (is = true ∨ ∃ r ∈ a.drop i, r.f0 = s ∧ r.f1 = [y]) → ∀ K, F + d < K → interlocutorlaw4_GramUnits.l3 K a u n s k is i = some true := by
  intro d
  induction d with
  | zero =>
    intro i is hi hx K hK
    obtain ⟨K, rfl⟩ : ∃ j, K = j + 1 := ⟨K - 1, by omega⟩
    have h1 : ¬ (i : Int) < (a.length : Int) := by clear hy hx hnext hk hs; omega
    have h2 : F ≤ K := by clear hy hx hnext hk hs; omega
    have h3 : a.drop i = [] := List.drop_of_length_le (by clear hy hx hnext hk hs; omega)
    have : is = true := by
      rcases hx with h | ⟨r, hr, _⟩
      · exact h
      · rw [h3] at hr; cases hr
    simp only [interlocutorlaw4_GramUnits.l3]
    rw [if_neg h1, if_pos this]
    exact hnext K h2
  | succ d ih =>
    intro i is hi hx K hK
    obtain ⟨K, rfl⟩ : ∃ j, K = j + 1 := ⟨K - 1, by clear hy hx hnext hk hs ih; omega⟩
    have hlt : i < a.length := by clear hy hx hnext hk hs ih; omega
    have hi2 : (i : Int) < (a.length : Int) := by clear hy hx hnext hk hs ih; omega
    have hi3 : i + 1 + d = a.length := by clear hy hx hnext hk hs ih; omega
    have hK2 : F + d < K := by clear hy hx hnext hk hs ih; omega
    have hw : wrap64 ((i : Int) + 1) = ((i + 1 : Nat) : Int) := by clear hy hx hnext hk hs ih; rw [wrap_in (by omega)]; rfl
    simp only [interlocutorlaw4_GramUnits.l3]
    rw [if_pos hi2, hw]
    by_cases his : is = true
    · rw [if_pos his]
      exact ih (i + 1) true hi3 (.inl rfl) K hK2
    · rw [if_neg his, if_pos (Int.natCast_nonneg i), rdRule a i hlt]
      have hx' : ∃ r ∈ a.drop i, r.f0 = s ∧ r.f1 = [y] := hx.resolve_left his
      rw [List.drop_eq_getElem_cons hlt] at hx'
      clear hx
      generalize a[i] = q at *
      by_cases c1 : q.f0 = s
      · rw [if_pos c1]
        by_cases c2 : (q.f1.length : Int) = 1
        · have c3 : (0 : Int) < (q.f1.length : Int) := by rw [c2]; decide
          have c4 : q.f1.length = 1 := by clear hy hx' hnext hk hs ih; omega
          rw [if_pos c2, if_pos c3, if_pos hs0, if_pos hs, if_pos hk0, if_pos hk, hy]
          refine ih (i + 1) _ hi3 ?_ K hK2
          obtain ⟨r, hr, hr2⟩ := hx'
          rcases List.mem_cons.1 hr with rfl | hr
          · exact .inl (beq_iff_eq.2 ((isOne r y c4).1 hr2.2))
          · exact .inr ⟨r, hr, hr2⟩
        · rw [if_neg c2]
          refine ih (i + 1) _ hi3 (.inr ?_) K hK2
          obtain ⟨r, hr, hr2⟩ := hx'
          rcases List.mem_cons.1 hr with rfl | hr
          · exact absurd (by rw [hr2.2]; rfl) c2
          · exact ⟨r, hr, hr2⟩
      · rw [if_neg c1]
        refine ih (i + 1) _ hi3 (.inr ?_) K hK2
        obtain ⟨r, hr, hr2⟩ := hx'
        rcases List.mem_cons.1 hr with rfl | hr
        · exact absurd hr2.1 c1
        · exact ⟨r, hr, hr2⟩
structure RowOk (a : List Rule') (u : List (List Int)) (s : Nat) (row : List Int) : Prop where
  at_ : rd_L2 u s = row
  len : row.length ≤ 20
  sorted : row.Pairwise (· < ·)
  rule : ∀ y ∈ row, ∃ r ∈ a, r.f0 = (s : Int) ∧ r.f1 = [y]
set_option maxHeartbeats 4000000 in
theorem l2_ok (a : List Rule') (u : List (List Int)) (hl : a.length ≤ 80) (hul : u.length = 20) (s : Nat) (hs : s < 20) (row : List Int) (hr : RowOk a u s row) (S S1 : Nat) (hS : S1 = S + row.length) (hb : S1 ≤ 80) (F : Nat)
    (hnext : ∀ K, F ≤ K → interlocutorlaw4_GramUnits.l1 K a u (S1 : Int) ((s + 1 : Nat) : Int) = some true) :
    ∀ (d k : Nat), k + d = row.length → ∀ K, F + d * 90 + 2 ≤ K → interlocutorlaw4_GramUnits.l2 K a u ((S + k : Nat) : Int) s k = some true := by
  obtain ⟨hrow, hrl, hsort, hrule⟩ := hr
  have hsz : (0 : Int) ≤ (s : Int) := Int.natCast_nonneg s
  have hsu : (s : Int) < (u.length : Int) := by clear hnext; omega
  have hw9 : Aside0 (wrap64 ((s : Int) + 1) = ((s + 1 : Nat) : Int)) := ⟨by clear hnext; rw [wrap_in (by omega)]; rfl⟩
  intro d
  induction d with
  | zero =>
    intro k hk K hK
    obtain ⟨K, rfl⟩ : ∃ j, K = j + 1 := ⟨K - 1, by clear hnext; omega⟩
    have h1 : ¬ (k : Int) < (row.length : Int) := by clear hnext; omega
    have h2 : F ≤ K := by clear hnext; omega
    have h3 : S + k = S1 := by clear hnext; omega
    simp only [interlocutorlaw4_GramUnits.l2]
    rw [if_pos hsz, if_pos hsu, hrow, if_neg h1, hw9.out, h3]
    exact hnext K h2
  | succ d ih =>
    intro k hk K hK
    obtain ⟨K, rfl⟩ : ∃ j, K = j + 2 := ⟨K - 2, by clear hnext ih; omega⟩
    have hklt : k < row.length := by clear hnext ih; omega
    have hkz : (0 : Int) ≤ (k : Int) := Int.natCast_nonneg k
    have hkl : (k : Int) < (row.length : Int) := by clear hnext ih; omega
    have hw10 : Aside0 (wrap64 ((k : Int) + 1) = ((k + 1 : Nat) : Int)) := ⟨by clear hnext ih; rw [wrap_in (by omega)]; rfl⟩
    have hwn : Aside0 (wrap64 (((S + k : Nat) : Int) + 1) = ((S + (k + 1) : Nat) : Int)) := ⟨by clear hnext ih; exact (wrap_in ⟨by omega, by omega⟩).trans (by omega)⟩
    have hnx : ∀ K, F + d * 90 + 2 ≤ K → interlocutorlaw4_GramUnits.l2 K a u (wrap64 (((S + k : Nat) : Int) + 1)) s (wrap64 ((k : Int) + 1)) = some true := by
      rw [hwn.out, hw10.out]
      exact ih (k + 1) (by clear hnext ih; omega)
    have hlast : interlocutorlaw4_GramUnits.l3 K a u ((S + k : Nat) : Int) s k false ((0 : Nat) : Int) = some true := by
      refine l3_ok a u _ s k row[k] hsz hsu hkz (by rw [hrow]; exact hkl) (by rw [hrow]; exact rd_getElem _ _ hklt) (F + d * 90 + 2) hnx hl a.length 0 false (Nat.zero_add _) (.inr ?_) K (by clear hnext ih hnx; omega)
      rw [List.drop_zero]
      exact hrule _ (List.getElem_mem hklt)
    have hj3 : interlocutorlaw4_GramUnits.j3 (K + 1) a u ((S + k : Nat) : Int) s k false = some true := by
      simp only [interlocutorlaw4_GramUnits.j3, Bool.false_eq_true, if_false]
      exact hlast
    rw [show K + 2 = (K + 1) + 1 from rfl]
    simp only [interlocutorlaw4_GramUnits.l2]
    rw [if_pos hsz, if_pos hsu, hrow, if_pos hkl]
    by_cases c : (k : Int) > 0
    · have hk1 : k - 1 < row.length := by clear hnext ih hnx; omega
      have hwk : Aside0 (wrap64 ((k : Int) - 1) = ((k - 1 : Nat) : Int)) := ⟨by clear hnext ih hnx; exact (wrap_in ⟨by omega, by omega⟩).trans (by omega)⟩
      have h1 : ((k - 1 : Nat) : Int) < (row.length : Int) := by clear hnext ih hnx; omega
      rw [if_pos c, hwk.out, if_pos (Int.natCast_nonneg _), if_pos h1, if_pos hkz, rd_getElem _ (k - 1) hk1, rd_getElem _ k hklt]
      have hp := List.pairwise_iff_getElem.1 hsort (k - 1) k hk1 hklt (by clear hnext ih hnx; omega)
      rw [decide_eq_false (by clear hnext ih hnx; omega)]
      exact hj3
    · rw [if_neg c]
      exact hj3
theorem l1_ok (a : List Rule') (u : List (List Int)) (hl : a.length ≤ 80) (hul : u.length = 20) (rows : Nat → List Int) (hr : ∀ s, s < 20 → RowOk a u s (rows s)) (hb : ∀ s, sumTo rows s ≤ a.length) :
    ∀ (d s : Nat), s + d = 20 → ∀ K, d * 2000 < K → interlocutorlaw4_GramUnits.l1 K a u ((sumTo rows s : Nat) : Int) s = some true := by
  intro d
  induction d with
  | zero =>
    intro s hs K hK
    obtain ⟨K, rfl⟩ : ∃ j, K = j + 1 := ⟨K - 1, by omega⟩
    have h1 := hb s
    generalize sumTo rows s = S at *
    simp only [interlocutorlaw4_GramUnits.l1]
    rw [if_neg (by omega), decide_eq_true (by omega)]
  | succ d ih =>
    intro s hs K hK
    obtain ⟨K, rfl⟩ : ∃ j, K = j + 1 := ⟨K - 1, by omega⟩
    have hs20 : s < 20 := by omega
    have hro := hr s hs20
    have hrl := hro.len
    have h1 := hb (s + 1)
    have hs2 : s + 1 + d = 20 := by omega
    have hK2 : d * 2000 + 1 + (rows s).length * 90 + 2 ≤ K := by omega
    have hb2 : sumTo rows (s + 1) ≤ 80 := Nat.le_trans h1 hl
    simp only [interlocutorlaw4_GramUnits.l1]
    rw [if_pos (by omega)]
    exact l2_ok a u hl hul s hs20 (rows s) hro (sumTo rows s) (sumTo rows (s + 1)) rfl hb2 (d * 2000 + 1) (fun K hK => ih (s + 1) hs2 K hK) (rows s).length 0 (Nat.zero_add _) K hK2
theorem row_ok (a : List Rule') (ha : a.all rightR = true) (s : Nat) (hs : s < 20) : RowOk a (unitsP a) s (refRows a s) := by
  have h1 : (unitsP a)[s]? = some (refRows a s) := by
    rw [← units_eq a ha]
    show ((List.range 20).map (refRows a))[s]? = _
    rw [List.getElem?_map, List.getElem?_range hs]
    rfl
  have hlt : s < (unitsP a).length := by rw [unitsP_length]; exact hs
  have h2 : rd_L2 (unitsP a) s = refRows a s := by
    rw [rdU _ s hlt]
    exact Option.some.inj ((List.getElem?_eq_getElem hlt).symm.trans h1)
  refine ⟨h2, ?_, refRows_sorted a s, fun y hy => ?_⟩
  · have h3 : refRows a s ∈ unitsP a := List.mem_of_getElem? h1
    obtain ⟨t, _, ht⟩ := List.mem_map.1 (show refRows a s ∈ (List.range 20).map (fun s => rowUpto (foundL a) s 20) from h3)
    rw [← ht]
    exact rowUpto_len _ _ _
  · obtain ⟨_, r, h3, h4, h5⟩ := (mem_rowsNext a s ⟨by omega, by omega⟩ y).1 ((refRows_iff a ha s hs y).1 hy)
    exact ⟨r, h3, h4, h5⟩
theorem make_loop (l0 : List Raw') (a1 : Int) (hl : l0.length ≤ 80) (hok : ∀ x ∈ l0, okRaw x) (hf : ∀ x ∈ l0, x.f3.length ≤ 20 ∧ x.f4.length ≤ 20) : ∀ (d j : Nat) (a : List Rule'), j + d = l0.length → a.length = j → a.all rightR = true → ∀ k, d + 50000 < k → interlocutorlaw4_GramUnits.l0 k l0 a1 a j = some true := by
  have hs0 := rem_ge a1 20 (by omega)
  have hs1 := rem_lt a1 20 (by omega)
  intro d
  induction d with
  | zero =>
    intro j a hj hl2 ha k hk
    obtain ⟨k, rfl⟩ : ∃ i, k = i + 1 := ⟨k - 1, by omega⟩
    simp only [interlocutorlaw4_GramUnits.l0]
    have e1 : gram_Units.f a = some (unitsP a) := if_pos (unitsB_right a (by omega) ha)
    have := unitsP_length a
    rw [if_neg (by omega), e1, Option.bind_some, if_pos (by omega)]
    have hl80 : a.length ≤ 80 := by omega
    exact l1_ok a (unitsP a) hl80 (unitsP_length a) (refRows a) (fun s hs => row_ok a ha s hs) (fun s => units_few a s) 20 0 rfl k (by omega)
  | succ d ih =>
    intro j a hj hl2 ha k hk
    obtain ⟨k, rfl⟩ : ∃ i, k = i + 1 := ⟨k - 1, by omega⟩
    have hlt : j < l0.length := by omega
    obtain ⟨r, hr, hm⟩ := make_some l0[j] (1 + a1 % 20) ⟨by omega, by omega⟩ (hok _ (List.getElem_mem hlt)) (hf _ (List.getElem_mem hlt)).1 (hf _ (List.getElem_mem hlt)).2
    have hw : wrap64 ((j : Int) + 1) = ((j + 1 : Nat) : Int) := by rw [wrap_in (by omega)]; rfl
    simp only [interlocutorlaw4_GramUnits.l0]
    rw [if_pos (by omega), if_pos (by omega), within_rem a1 20 (by omega) (by omega), Option.bind_some, wrap_in (by omega), rdR_getElem l0 j hlt, hm k (by omega), Option.bind_some]
    simp only [rule_eta]
    rw [if_pos (by omega), hw]
    refine ih (j + 1) _ (by omega) (by rw [List.length_append]; simp; omega) ?_ k (by omega)
    rw [List.all_append, Bool.and_eq_true, ha]
    exact ⟨rfl, by rw [List.all_cons, List.all_nil, Bool.and_true]; exact hr.right⟩
theorem GramUnits (l0 : List Raw') (a1 : Int) (hl : l0.length ≤ 9223372036854775807) (hok : ∀ x ∈ l0, okRaw x) : ∃ k, interlocutorlaw4_GramUnits.f k l0 a1 = some true := by
  refine ⟨l0.length + 50010, ?_⟩
  have hkn : interlocutorlaw4_known.f = some true := rfl
  unfold interlocutorlaw4_GramUnits.f
  rw [hkn, Option.bind_some, if_pos rfl, few_some l0 hl _ (by omega), Option.bind_some]
  by_cases hf : (fewB l0 && decide (l0.length ≤ 80)) = true
  · rw [if_pos hf]
    rw [Bool.and_eq_true, decide_eq_true_eq] at hf
    exact make_loop l0 a1 hf.2 hok (fun x hx => of_decide_eq_true (List.all_eq_true.1 hf.1 x hx)) l0.length 0 [] (by omega) rfl rfl _ (by omega)
  · rw [if_neg hf]
end Go.Proofs.Ytjomlfdkmdgclaa.Pure
end
