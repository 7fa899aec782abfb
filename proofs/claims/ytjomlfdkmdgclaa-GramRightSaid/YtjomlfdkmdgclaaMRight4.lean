/- GramRight: whether any rule may be is the document's; so is one of which one thing was turned. Part 4: contracts of the functions that the law reaches, and words for them. -/
import Derived.Deep.Slices
import Derived.ChangeArms
import Derived.ChangeSame
import Derived.Deep.RegionLaw
import Derived.Deep.RegionHeld3
import Derived.Test.YtjomlfdkmdgclaaMRight3
section
namespace Go.Proofs.Ytjomlfdkmdgclaa.P
open Go.RowKit Go.Proofs.YtjomlfdkmdgclaaW.PrintWords Go.Proofs.YtjomlfdkmdgclaaW.PrintLast Go.Proofs.YtjomlfdkmdgclaaW.PrintMore
attribute [local go_sem] max2_int min2_int max_two min_two max_three min_three max_four min_four   
set_option linter.unusedVariables false
set_option linter.unusedSimpArgs false
mutual
noncomputable def interlocutorlaw4_GramRight.j0 : Nat → List (S31) → Int → Int → Bool → Int → List Int → Int → List Int → Int → Option (Bool)
  | 0, _, _, _, _, _, _, _, _, _ => none
  | k + 1, x1, x2, x3, x32, x146000, x146001, x146002, x146003, x146004 => if x32 = true then (some true) else (if 0 < (x1.length : Int) then ((interlocutorlaw4_Raw_Make.f k ((rd_T31 x1 0).f0) ((rd_T31 x1 0).f1) ((rd_T31 x1 0).f2) ((rd_T31 x1 0).f3) ((rd_T31 x1 0).f4) 20).bind fun bt149 => ((gram_Right.f bt149.1 bt149.2.1 bt149.2.2.1 bt149.2.2.2.1 bt149.2.2.2.2).bind fun t159 => (if t159 = true then ((interlocutorlaw4_within.f x2 7).bind fun t160 => (if t160 = 0 then ((some (([(-1), 0, 19, 20, x3] : List Int) : List Int)).bind fun y161 => ((interlocutorlaw4_within.f x3 5).bind fun t164 => (if 0 ≤ t164 then (if t164 < (y161.length : Int) then (interlocutorlaw4_GramRight.j1 k x146000 x146001 x146002 x146003 x146004 (rd y161 t164) bt149.2.1 bt149.2.2.1 bt149.2.2.2.1 bt149.2.2.2.2) else (none)) else (none)))) else (if t160 = 1 then ((some (([19, 20, (-1), (-61), (-62), x3] : List Int) : List Int)).bind fun y166 => ((interlocutorlaw4_within.f x3 6).bind fun t169 => (if 0 ≤ t169 then (if t169 < (y166.length : Int) then (if 0 < (bt149.2.1.length : Int) then (interlocutorlaw4_GramRight.j1 k x146000 x146001 x146002 x146003 x146004 bt149.1 (bt149.2.1.set (0 : Int).toNat (rd y166 t169)) bt149.2.2.1 bt149.2.2.2.1 bt149.2.2.2.2) else (none)) else (none)) else (none)))) else (if t160 = 2 then ((some (([] : List Int) : List Int)).bind fun y172 => (if y172.length + bt149.2.1.length < 17592186044416 then ((some (y172 ++ bt149.2.1 : List Int)).bind fun y175 => ((some (([0, 0, 0, 0] : List Int) : List Int)).bind fun y178 => (if y175.length + y178.length < 17592186044416 then (interlocutorlaw4_GramRight.j1 k x146000 x146001 x146002 x146003 x146004 bt149.1 (y175 ++ y178) bt149.2.2.1 bt149.2.2.2.1 bt149.2.2.2.2) else (none)))) else (none))) else (if t160 = 3 then ((some (([(-1), 0, 100, 101, x3] : List Int) : List Int)).bind fun y184 => ((interlocutorlaw4_within.f x3 5).bind fun t187 => (if 0 ≤ t187 then (if t187 < (y184.length : Int) then (interlocutorlaw4_GramRight.j1 k x146000 x146001 x146002 x146003 x146004 bt149.1 bt149.2.1 bt149.2.2.1 bt149.2.2.2.1 (rd y184 t187)) else (none)) else (none)))) else (if t160 = 4 then ((some (([(-1), 0, 3, 4, 10, 15, 16, x3] : List Int) : List Int)).bind fun y189 => ((interlocutorlaw4_within.f x3 8).bind fun t192 => (if 0 ≤ t192 then (if t192 < (y189.length : Int) then (interlocutorlaw4_GramRight.j1 k x146000 x146001 x146002 x146003 x146004 bt149.1 bt149.2.1 (rd y189 t192) bt149.2.2.2.1 bt149.2.2.2.2) else (none)) else (none)))) else (if t160 = 5 then ((some (([] : List Int) : List Int)).bind fun y194 => (if y194.length + bt149.2.2.2.1.length < 17592186044416 then ((some (y194 ++ bt149.2.2.2.1 : List Int)).bind fun y197 => (if y197.length < 17592186044416 then (interlocutorlaw4_GramRight.j1 k x146000 x146001 x146002 x146003 x146004 bt149.1 bt149.2.1 bt149.2.2.1 (y197 ++ [0]) bt149.2.2.2.2) else (none))) else (none))) else (if t160 = 6 then ((some (([(-1), 0, 5, 6, (bt149.2.1.length : Int), x3] : List Int) : List Int)).bind fun y203 => ((interlocutorlaw4_within.f x3 6).bind fun t206 => (if 0 ≤ t206 then (if t206 < (y203.length : Int) then (if 0 < (bt149.2.2.2.1.length : Int) then (interlocutorlaw4_GramRight.j1 k x146000 x146001 x146002 x146003 x146004 bt149.1 bt149.2.1 bt149.2.2.1 (bt149.2.2.2.1.set (0 : Int).toNat (rd y203 t206)) bt149.2.2.2.2) else (none)) else (none)) else (none)))) else (interlocutorlaw4_GramRight.j1 k x146000 x146001 x146002 x146003 x146004 bt149.1 bt149.2.1 bt149.2.2.1 bt149.2.2.2.1 bt149.2.2.2.2))))))))) else (some false)))) else (none))
noncomputable def interlocutorlaw4_GramRight.j1 : Nat → Int → List Int → Int → List Int → Int → Int → List Int → Int → List Int → Int → Option (Bool)
  | 0, _, _, _, _, _, _, _, _, _, _ => none
  | k + 1, x146000, x146001, x146002, x146003, x146004, x159000, x159001, x159002, x159003, x159004 => (gram_Right.f x159000 x159001 x159002 x159003 x159004).bind fun t209 => ((interlocutorref4_Right.f k x159000 x159001 x159002 x159003 x159004).bind fun t210 => (if (t209 == t210) = true then ((gram_Right.f x146000 x146001 x146002 x146003 x146004).bind fun t211 => ((interlocutorref4_Right.f k x146000 x146001 x146002 x146003 x146004).bind fun t212 => (some (t211 == t212)))) else (some false)))
end
noncomputable def interlocutorlaw4_GramRight.f (k : Nat) (a0_0 : Int) (l0_1 : List Int) (a0_2 : Int) (l0_3 : List Int) (a0_4 : Int) (l1 : List (S31)) (a2 : Int) (a3 : Int) : Option (Bool) := (interlocutorlaw4_known.f).bind fun t146 => (if t146 = true then ((interlocutorlaw4_Few.f k l1).bind fun t147 => (if t147 = true then (if (l0_1.length : Int) > 20 then (interlocutorlaw4_GramRight.j0 k l1 a2 a3 true a0_0 l0_1 a0_2 l0_3 a0_4) else (if (l0_3.length : Int) > 20 then (interlocutorlaw4_GramRight.j0 k l1 a2 a3 true a0_0 l0_1 a0_2 l0_3 a0_4) else (interlocutorlaw4_GramRight.j0 k l1 a2 a3 ((l1.length : Int) == 0) a0_0 l0_1 a0_2 l0_3 a0_4))) else (interlocutorlaw4_GramRight.j0 k l1 a2 a3 true a0_0 l0_1 a0_2 l0_3 a0_4))) else (some false))
theorem interlocutorlaw4_GramRight.mono_l : ∀ k, (∀ y0 y1 y2 y3 y4 y5 y6 y7 y8, LeO (interlocutorlaw4_GramRight.j0 k y0 y1 y2 y3 y4 y5 y6 y7 y8) (interlocutorlaw4_GramRight.j0 (k + 1) y0 y1 y2 y3 y4 y5 y6 y7 y8)) ∧ (∀ y0 y1 y2 y3 y4 y5 y6 y7 y8 y9, LeO (interlocutorlaw4_GramRight.j1 k y0 y1 y2 y3 y4 y5 y6 y7 y8 y9) (interlocutorlaw4_GramRight.j1 (k + 1) y0 y1 y2 y3 y4 y5 y6 y7 y8 y9))
  | 0 => ⟨fun _ _ _ _ _ _ _ _ _ r h => by simp [interlocutorlaw4_GramRight.j0] at h, fun _ _ _ _ _ _ _ _ _ _ r h => by simp [interlocutorlaw4_GramRight.j1] at h⟩
  | k + 1 => by
    obtain ⟨ih0, ih1⟩ := interlocutorlaw4_GramRight.mono_l k
    refine ⟨?_, ?_⟩
    · intro y0 y1 y2 y3 y4 y5 y6 y7 y8
      unfold interlocutorlaw4_GramRight.j0
      repeat' first
      | (with_reducible exact ih0 _ _ _ _ _ _ _ _ _)
      | (with_reducible exact ih1 _ _ _ _ _ _ _ _ _ _)
      | (with_reducible exact interlocutorlaw4_Few.mono _ _)
      | (with_reducible exact interlocutorlaw4_Raw_Make.mono _ _ _ _ _ _ _)
      | (with_reducible exact interlocutorref4_Right.mono _ _ _ _ _ _)
      | (with_reducible exact LeO.refl _)
      | (with_reducible exact LeO.none _)
      | (with_reducible refine LeO.ite ?_ ?_)
      | (with_reducible refine LeO.bind ?_ (fun _ => ?_))
      | exact ih0 _ _ _ _ _ _ _ _ _
      | exact ih1 _ _ _ _ _ _ _ _ _ _
      | exact interlocutorlaw4_Few.mono _ _
      | exact interlocutorlaw4_Raw_Make.mono _ _ _ _ _ _ _
      | exact interlocutorref4_Right.mono _ _ _ _ _ _
      | exact LeO.none _
      | refine LeO.ite ?_ ?_
      | refine LeO.bind ?_ (fun _ => ?_)
    · intro y0 y1 y2 y3 y4 y5 y6 y7 y8 y9
      unfold interlocutorlaw4_GramRight.j1
      repeat' first
      | (with_reducible exact ih0 _ _ _ _ _ _ _ _ _)
      | (with_reducible exact ih1 _ _ _ _ _ _ _ _ _ _)
      | (with_reducible exact interlocutorlaw4_Few.mono _ _)
      | (with_reducible exact interlocutorlaw4_Raw_Make.mono _ _ _ _ _ _ _)
      | (with_reducible exact interlocutorref4_Right.mono _ _ _ _ _ _)
      | (with_reducible exact LeO.refl _)
      | (with_reducible exact LeO.none _)
      | (with_reducible refine LeO.ite ?_ ?_)
      | (with_reducible refine LeO.bind ?_ (fun _ => ?_))
      | exact ih0 _ _ _ _ _ _ _ _ _
      | exact ih1 _ _ _ _ _ _ _ _ _ _
      | exact interlocutorlaw4_Few.mono _ _
      | exact interlocutorlaw4_Raw_Make.mono _ _ _ _ _ _ _
      | exact interlocutorref4_Right.mono _ _ _ _ _ _
      | exact LeO.none _
      | refine LeO.ite ?_ ?_
      | refine LeO.bind ?_ (fun _ => ?_)
theorem interlocutorlaw4_GramRight.mono : ∀ a0 a1 a2 a3 a4 a5 a6 a7 k, LeO (interlocutorlaw4_GramRight.f k a0 a1 a2 a3 a4 a5 a6 a7) (interlocutorlaw4_GramRight.f (k + 1) a0 a1 a2 a3 a4 a5 a6 a7) := by
  intro a0 a1 a2 a3 a4 a5 a6 a7 k
  obtain ⟨ih0, ih1⟩ := interlocutorlaw4_GramRight.mono_l k
  unfold interlocutorlaw4_GramRight.f
  repeat' first
      | (with_reducible exact ih0 _ _ _ _ _ _ _ _ _)
      | (with_reducible exact ih1 _ _ _ _ _ _ _ _ _ _)
      | (with_reducible exact interlocutorlaw4_Few.mono _ _)
      | (with_reducible exact interlocutorlaw4_Raw_Make.mono _ _ _ _ _ _ _)
      | (with_reducible exact interlocutorref4_Right.mono _ _ _ _ _ _)
      | (with_reducible exact LeO.refl _)
      | (with_reducible exact LeO.none _)
      | (with_reducible refine LeO.ite ?_ ?_)
      | (with_reducible refine LeO.bind ?_ (fun _ => ?_))
      | exact ih0 _ _ _ _ _ _ _ _ _
      | exact ih1 _ _ _ _ _ _ _ _ _ _
      | exact interlocutorlaw4_Few.mono _ _
      | exact interlocutorlaw4_Raw_Make.mono _ _ _ _ _ _ _
      | exact interlocutorref4_Right.mono _ _ _ _ _ _
      | exact LeO.none _
      | refine LeO.ite ?_ ?_
      | refine LeO.bind ?_ (fun _ => ?_)
def interlocutorlaw4_GramRight.T12 : Bool × List (List Nat × List Nat) := (true, [([], []), ([0], [0]), ([], []), ([2], [2]), ([], []), ([4], [4]), ([3, 5], [3, 5]), ([6], [6]), ([1, 0, 1, 2, 3, 4, 5, 6, 7], [1]), ([8, 7, 5, 0, 1, 2, 3, 4, 5, 6, 7], [7, 8])])
def interlocutorlaw4_GramRight.B12 : List Nat := [0, 1, 0, 4, 0, 16, 60, 124, 255, 511]
theorem interlocutorlaw4_GramRight.tab12 : rtab .any (opsOf Try.f3 12) = interlocutorlaw4_GramRight.T12 := by kernel_rfl
theorem interlocutorlaw4_GramRight.bits12 : waitsOk interlocutorlaw4_GramRight.T12.2 interlocutorlaw4_GramRight.B12 = true := by kernel_rfl
def interlocutorlaw4_GramRight.T22 : Bool × List (List Nat × List Nat) := (true, [([], []), ([0], [0]), ([1], [1]), ([], []), ([3], [3]), ([4], [4]), ([], []), ([5, 6], [5, 6]), ([], []), ([8], [8]), ([7, 9], [7, 9]), ([10], [10]), ([2, 0, 1, 2, 3, 4, 5, 6, 7, 8, 9, 10, 11], [2]), ([12, 11, 9, 0, 1, 2, 3, 4, 5, 6, 7, 8, 9, 10, 11], [11, 12])])
def interlocutorlaw4_GramRight.B22 : List Nat := [0, 1, 3, 0, 8, 24, 0, 120, 0, 256, 1016, 2040, 4095, 8191]
theorem interlocutorlaw4_GramRight.tab22 : rtab .any (opsOf Try.f3 22) = interlocutorlaw4_GramRight.T22 := by kernel_rfl
theorem interlocutorlaw4_GramRight.bits22 : waitsOk interlocutorlaw4_GramRight.T22.2 interlocutorlaw4_GramRight.B22 = true := by kernel_rfl
def interlocutorlaw4_GramRight.T23 : Bool × List (List Nat × List Nat) := (true, [([], []), ([0], [0]), ([], []), ([2, 1], [2]), ([1, 3], [1, 3]), ([4, 3], [4]), ([5], [5]), ([6, 5, 5], [5, 6]), ([5], [5]), ([8, 7, 5], [5, 8]), ([7, 9, 5], [5, 7, 9]), ([5, 10], [5, 10]), ([11, 9, 0, 1, 2, 3, 4, 5, 6, 7, 8, 9, 10, 11], [11])])
def interlocutorlaw4_GramRight.B23 : List Nat := [0, 1, 0, 7, 15, 31, 63, 127, 63, 511, 1023, 2047, 4095]
theorem interlocutorlaw4_GramRight.tab23 : rtab .any (opsOf Try.f3 23) = interlocutorlaw4_GramRight.T23 := by kernel_rfl
theorem interlocutorlaw4_GramRight.bits23 : waitsOk interlocutorlaw4_GramRight.T23.2 interlocutorlaw4_GramRight.B23 = true := by kernel_rfl
set_option maxHeartbeats 8000000 in
set_option maxRecDepth 100000 in
theorem interlocutorlaw4_GramRight.calls (k : Nat) (a0_0 : Int) (A0_1 : Option Addr) (c0_1 : Nat) (l0_1 : List Int) (a0_2 : Int) (A0_3 : Option Addr) (c0_3 : Nat) (l0_3 : List Int) (a0_4 : Int) (A1 : Option Addr) (c1 : Nat) (l1 : List (S31)) (a2 : Int) (a3 : Int) (r : Bool) (w : World) (hr0_1 : Kd.C (Kd.int .i64) w A0_1 l0_1.length l0_1) (hc0_1 : l0_1.length ≤ c0_1) (hr0_3 : Kd.C (Kd.int .i64) w A0_3 l0_3.length l0_3) (hc0_3 : l0_3.length ≤ c0_3) (hr1 : Kd.C k31 w A1 l1.length l1) (hc1 : l1.length ≤ c1) (h : interlocutorlaw4_GramRight.f k a0_0 l0_1 a0_2 l0_3 a0_4 l1 a2 a3 = some r) :
    Calls Try.prog 3 #[.agg #[.int .i64 a0_0, .slice A0_1 l0_1.length c0_1, .int .i64 a0_2, .slice A0_3 l0_3.length c0_3, .int .i64 a0_4], .slice A1 l1.length c1, .int .i64 a2, .int .i64 a3] w fun e w' => e = .returned (.bool r) ∧ Below w.heap.size w w' := by
  have hu26 := Try.underlying26
  have hu31 := Try.underlying31
  have HR0_1 := Aside0.mk hr0_1
  have HC0_1 := Aside0.mk hc0_1
  clear hr0_1 hc0_1
  have HR0_3 := Aside0.mk hr0_3
  have HC0_3 := Aside0.mk hc0_3
  clear hr0_3 hc0_3
  have HR1 := Aside0.mk hr1
  have HC1 := Aside0.mk hc1
  clear hr1 hc1
  have HB := Aside0.mk (Below.refl w.heap.size w)
  have H : ((interlocutorlaw4_known.f).bind fun t146 => (if t146 = true then ((interlocutorlaw4_Few.f k l1).bind fun t147 => (if t147 = true then (if (l0_1.length : Int) > 20 then (interlocutorlaw4_GramRight.j0 k l1 a2 a3 true a0_0 l0_1 a0_2 l0_3 a0_4) else (if (l0_3.length : Int) > 20 then (interlocutorlaw4_GramRight.j0 k l1 a2 a3 true a0_0 l0_1 a0_2 l0_3 a0_4) else (interlocutorlaw4_GramRight.j0 k l1 a2 a3 ((l1.length : Int) == 0) a0_0 l0_1 a0_2 l0_3 a0_4))) else (interlocutorlaw4_GramRight.j0 k l1 a2 a3 true a0_0 l0_1 a0_2 l0_3 a0_4))) else (some false))) = some r := h
  clear h
  replace H := Option.bind_eq_some_iff.mp H
  obtain ⟨t146, A50, H⟩ := H
  replace H : (if t146 = true then ((interlocutorlaw4_Few.f k l1).bind fun t147 => (if t147 = true then (if (l0_1.length : Int) > 20 then (interlocutorlaw4_GramRight.j0 k l1 a2 a3 true a0_0 l0_1 a0_2 l0_3 a0_4) else (if (l0_3.length : Int) > 20 then (interlocutorlaw4_GramRight.j0 k l1 a2 a3 true a0_0 l0_1 a0_2 l0_3 a0_4) else (interlocutorlaw4_GramRight.j0 k l1 a2 a3 ((l1.length : Int) == 0) a0_0 l0_1 a0_2 l0_3 a0_4))) else (interlocutorlaw4_GramRight.j0 k l1 a2 a3 true a0_0 l0_1 a0_2 l0_3 a0_4))) else (some false)) = some r := H
  have A5 := Aside0.mk A50
  clear A50
  by_cases c6 : t146 = true
  · subst c6
    have H1 : ((interlocutorlaw4_Few.f k l1).bind fun t147 => (if t147 = true then (if (l0_1.length : Int) > 20 then (interlocutorlaw4_GramRight.j0 k l1 a2 a3 true a0_0 l0_1 a0_2 l0_3 a0_4) else (if (l0_3.length : Int) > 20 then (interlocutorlaw4_GramRight.j0 k l1 a2 a3 true a0_0 l0_1 a0_2 l0_3 a0_4) else (interlocutorlaw4_GramRight.j0 k l1 a2 a3 ((l1.length : Int) == 0) a0_0 l0_1 a0_2 l0_3 a0_4))) else (interlocutorlaw4_GramRight.j0 k l1 a2 a3 true a0_0 l0_1 a0_2 l0_3 a0_4))) = some r := by rw [if_pos rfl] at H; exact H
    clear H
    have H := H1
    clear H1
    have HC7 := Aside0.mk H
    clear H
    go_enter Try.func3, Try.ntmps3
    go_upto_region 3 with (first | ((with_reducible refine gate_dst (N := 4) rfl ?_); (try (refine gate_guard (by rfl) ?_; dsimp only)); refine box_event ?hg (N := 4) ?hd (cs := #[.int .i64 a0_0, .slice A0_1 l0_1.length c0_1, .int .i64 a0_2, .slice A0_3 l0_3.length c0_3, .int .i64 a0_4]) (t := 26) ?hr ?_; (case hd => rfl); (case hg => rfl); (case hr => first | (go_simp; done) | (go_simp; rfl)); intro gb145 hg w8 hbox hb; have n0_ := Aside0.mk (below_step (by repeat (first | (with_reducible first | exact HB.out | apply below_alloc | apply pw_below_drewN | apply below_drew1) | exact HB.out)) hb); have n1_ := Aside0.mk (hbox); have n2_ := Aside0.mk ((by rw [hg]; exact (below_size (by repeat (first | (with_reducible first | exact HB.out | apply below_alloc | apply pw_below_drewN | apply below_drew1) | exact HB.out))) : w.heap.size ≤ gb145)); have n3_ := Aside0.mk ((by rw [hg]; exact (below_size (by repeat (first | (with_reducible first | exact HB.out | apply below_alloc | apply pw_below_drewN | apply below_drew1) | exact HB.out))) : w.heap.size ≤ gb145)); clear HB; have HB := n0_; have BK145 := n1_; have GW145 := n2_; have GE145 := n3_; clear n0_ n1_ n2_ n3_; clear hb hbox hg) | ((with_reducible refine gate_callee (f := 13) rfl ?_); refine goesL_ (some 10) rfl rfl Try.func13 (by kernel_rfl) rfl #[] rfl (by (try simp only [List.map_toArray, List.map_cons, List.map_nil]); first | done | rfl | (simp only [List.length_drop, List.length_take]; rfl)) ?_; (with_reducible refine (interlocutorlaw4_known.calls  true _ A5.out).mono ?_); rintro e w9 ⟨rfl, hb⟩; refine ⟨_, rfl, ?_⟩; have n0_ := Aside0.mk (blk_below (g := gb145) (o := .cells #[.int .i64 a0_0, .slice A0_1 l0_1.length c0_1, .int .i64 a0_2, .slice A0_3 l0_3.length c0_3, .int .i64 a0_4] 26 (0, 0)) (by (with_reducible repeat (first | refine blk_drewN ?_ _ | refine blk_drew ?_ | refine blk_alloc ?_ _)); exact BK145.out) hb); have n1_ := Aside0.mk (below_step (by repeat (first | (with_reducible first | exact HB.out | apply below_alloc | apply pw_below_drewN | apply below_drew1 | refine below_set ?_ GE145.out) | exact HB.out)) hb); clear BK145; clear HB; have BK145 := n0_; have HB := n1_; clear n0_ n1_; (try clear hb); (try clear hb2); (try clear hk); (try clear hi)))
    (try simp only [Act.put, List.setIfInBounds_toArray, List.set_cons_zero, List.set_cons_succ])
    go_cut [32] (fun v32 wc => ∃ (kq : Nat) (x32_6 : Bool), v32 = .bool x32_6 ∧ Aside0 (interlocutorlaw4_GramRight.j0 kq l1 a2 a3 x32_6 a0_0 l0_1 a0_2 l0_3 a0_4 = some r) ∧ Aside0 (kq ≤ k) ∧ Aside0 (wc.heap[gb145]? = some (.cells #[.int .i64 a0_0, (.slice A0_1 l0_1.length c0_1), .int .i64 a0_2, (.slice A0_3 l0_3.length c0_3), .int .i64 a0_4] 26 (0, 0))) ∧ Aside0 (Below w.heap.size w wc))
    case first =>
      have H := HC7.out
      clear HC7
      replace H := Option.bind_eq_some_iff.mp H
      obtain ⟨t147, A100, H⟩ := H
      replace H : (if t147 = true then (if (l0_1.length : Int) > 20 then (interlocutorlaw4_GramRight.j0 k l1 a2 a3 true a0_0 l0_1 a0_2 l0_3 a0_4) else (if (l0_3.length : Int) > 20 then (interlocutorlaw4_GramRight.j0 k l1 a2 a3 true a0_0 l0_1 a0_2 l0_3 a0_4) else (interlocutorlaw4_GramRight.j0 k l1 a2 a3 ((l1.length : Int) == 0) a0_0 l0_1 a0_2 l0_3 a0_4))) else (interlocutorlaw4_GramRight.j0 k l1 a2 a3 true a0_0 l0_1 a0_2 l0_3 a0_4)) = some r := H
      have A10 := Aside0.mk A100
      clear A100
      by_cases c11 : t147 = true
      · subst c11
        have H1 : (if (l0_1.length : Int) > 20 then (interlocutorlaw4_GramRight.j0 k l1 a2 a3 true a0_0 l0_1 a0_2 l0_3 a0_4) else (if (l0_3.length : Int) > 20 then (interlocutorlaw4_GramRight.j0 k l1 a2 a3 true a0_0 l0_1 a0_2 l0_3 a0_4) else (interlocutorlaw4_GramRight.j0 k l1 a2 a3 ((l1.length : Int) == 0) a0_0 l0_1 a0_2 l0_3 a0_4))) = some r := by rw [if_pos rfl] at H; exact H
        clear H
        have H := H1
        clear H1
        by_cases c12 : (l0_1.length : Int) > 20
        · rw [if_pos c12] at H
          have c12b0 : decide (20 < (l0_1.length : Int)) = true := decide_eq_true c12
          have c12b1 : decide (20 < l0_1.length) = true := decide_eq_true (by omega)
          clear c12
          (first | rw [c12b0] | (simp only [i64_w, i32_w]; rw [c12b0]) | skip)
          have H' := Aside0.mk H
          clear H
          go_wp2_with (first | ((with_reducible refine gate_callee (f := 14) rfl ?_); refine goesL_ (some 13) rfl rfl Try.func14 (by kernel_rfl) rfl #[.slice A1 l1.length c1] rfl (by (try simp only [List.map_toArray, List.map_cons, List.map_nil]); first | done | rfl | (simp only [List.length_drop, List.length_take]; rfl)) ?_; (with_reducible refine (interlocutorlaw4_Few.calls k _ _ l1 true _ ?side1 ?side2 A10.out).mono ?_); (case side1 => repeat (first | exact (Kd.C_below HR1.out HB.out) | (with_reducible refine Kd.C_alloc ?_ _) | (with_reducible refine Kd.C_drewN ?_ _) | (with_reducible refine Kd.C_drew ?_))); (case side2 => exact HC1.out); rintro e w' ⟨rfl, ⟨nd, rfl⟩⟩; refine ⟨_, rfl, ?_⟩; have hcz13_0 : w9.cell? ⟨gb145, 0, none⟩ = some (.int .i64 a0_0) := (blk_cell BK145.out 0).trans rfl; have hcz13_1 : w9.cell? ⟨gb145, 1, none⟩ = some (.slice A0_1 l0_1.length c0_1) := (blk_cell BK145.out 1).trans rfl; have hcz13_2 : w9.cell? ⟨gb145, 2, none⟩ = some (.int .i64 a0_2) := (blk_cell BK145.out 2).trans rfl; have hcz13_3 : w9.cell? ⟨gb145, 3, none⟩ = some (.slice A0_3 l0_3.length c0_3) := (blk_cell BK145.out 3).trans rfl; have hcz13_4 : w9.cell? ⟨gb145, 4, none⟩ = some (.int .i64 a0_4) := (blk_cell BK145.out 4).trans rfl; have hfz13_0 := blk_frozen BK145.out 0; have hfz13_1 := blk_frozen BK145.out 1; have hfz13_2 := blk_frozen BK145.out 2; have hfz13_3 := blk_frozen BK145.out 3; have hfz13_4 := blk_frozen BK145.out 4))
          go_meet
          case rel => exact ⟨_, (true), (by first | rfl | (simp; done) | (simp [*]; done)), H', ⟨by first | omega | exact Nat.le_refl _⟩, ⟨by (with_reducible repeat (first | refine blk_drewN ?_ _ | refine blk_drew ?_ | refine blk_alloc ?_ _)); exact BK145.out⟩, ⟨by repeat (first | (with_reducible first | exact HB.out | apply below_alloc | apply pw_below_drewN | apply below_drew1 | refine below_set ?_ GE145.out) | exact HB.out)⟩⟩
        · rw [if_neg c12] at H
          have c12b0 : decide (20 < (l0_1.length : Int)) = false := decide_eq_false c12
          have c12b1 : decide (20 < l0_1.length) = false := decide_eq_false (by omega)
          clear c12
          (first | rw [c12b0] | (simp only [i64_w, i32_w]; rw [c12b0]) | skip)
          by_cases c14 : (l0_3.length : Int) > 20
          · rw [if_pos c14] at H
            have c14b0 : decide (20 < (l0_3.length : Int)) = true := decide_eq_true c14
            have c14b1 : decide (20 < l0_3.length) = true := decide_eq_true (by omega)
            clear c14
            have H' := Aside0.mk H
            clear H
            go_wp2_with (first | ((with_reducible refine gate_callee (f := 14) rfl ?_); refine goesL_ (some 13) rfl rfl Try.func14 (by kernel_rfl) rfl #[.slice A1 l1.length c1] rfl (by (try simp only [List.map_toArray, List.map_cons, List.map_nil]); first | done | rfl | (simp only [List.length_drop, List.length_take]; rfl)) ?_; (with_reducible refine (interlocutorlaw4_Few.calls k _ _ l1 true _ ?side1 ?side2 A10.out).mono ?_); (case side1 => repeat (first | exact (Kd.C_below HR1.out HB.out) | (with_reducible refine Kd.C_alloc ?_ _) | (with_reducible refine Kd.C_drewN ?_ _) | (with_reducible refine Kd.C_drew ?_))); (case side2 => exact HC1.out); rintro e w' ⟨rfl, ⟨nd, rfl⟩⟩; refine ⟨_, rfl, ?_⟩; have hcz15_0 : w9.cell? ⟨gb145, 0, none⟩ = some (.int .i64 a0_0) := (blk_cell BK145.out 0).trans rfl; have hcz15_1 : w9.cell? ⟨gb145, 1, none⟩ = some (.slice A0_1 l0_1.length c0_1) := (blk_cell BK145.out 1).trans rfl; have hcz15_2 : w9.cell? ⟨gb145, 2, none⟩ = some (.int .i64 a0_2) := (blk_cell BK145.out 2).trans rfl; have hcz15_3 : w9.cell? ⟨gb145, 3, none⟩ = some (.slice A0_3 l0_3.length c0_3) := (blk_cell BK145.out 3).trans rfl; have hcz15_4 : w9.cell? ⟨gb145, 4, none⟩ = some (.int .i64 a0_4) := (blk_cell BK145.out 4).trans rfl; have hfz15_0 := blk_frozen BK145.out 0; have hfz15_1 := blk_frozen BK145.out 1; have hfz15_2 := blk_frozen BK145.out 2; have hfz15_3 := blk_frozen BK145.out 3; have hfz15_4 := blk_frozen BK145.out 4))
            go_meet
            case rel => exact ⟨_, (true), (by first | rfl | (simp; done) | (simp [*]; done)), H', ⟨by first | omega | exact Nat.le_refl _⟩, ⟨by (with_reducible repeat (first | refine blk_drewN ?_ _ | refine blk_drew ?_ | refine blk_alloc ?_ _)); exact BK145.out⟩, ⟨by repeat (first | (with_reducible first | exact HB.out | apply below_alloc | apply pw_below_drewN | apply below_drew1 | refine below_set ?_ GE145.out) | exact HB.out)⟩⟩
          · rw [if_neg c14] at H
            have c14b0 : decide (20 < (l0_3.length : Int)) = false := decide_eq_false c14
            have c14b1 : decide (20 < l0_3.length) = false := decide_eq_false (by omega)
            clear c14
            have H' := Aside0.mk H
            clear H
            go_wp2_with (first | ((with_reducible refine gate_callee (f := 14) rfl ?_); refine goesL_ (some 13) rfl rfl Try.func14 (by kernel_rfl) rfl #[.slice A1 l1.length c1] rfl (by (try simp only [List.map_toArray, List.map_cons, List.map_nil]); first | done | rfl | (simp only [List.length_drop, List.length_take]; rfl)) ?_; (with_reducible refine (interlocutorlaw4_Few.calls k _ _ l1 true _ ?side1 ?side2 A10.out).mono ?_); (case side1 => repeat (first | exact (Kd.C_below HR1.out HB.out) | (with_reducible refine Kd.C_alloc ?_ _) | (with_reducible refine Kd.C_drewN ?_ _) | (with_reducible refine Kd.C_drew ?_))); (case side2 => exact HC1.out); rintro e w' ⟨rfl, ⟨nd, rfl⟩⟩; refine ⟨_, rfl, ?_⟩; have hcz16_0 : w9.cell? ⟨gb145, 0, none⟩ = some (.int .i64 a0_0) := (blk_cell BK145.out 0).trans rfl; have hcz16_1 : w9.cell? ⟨gb145, 1, none⟩ = some (.slice A0_1 l0_1.length c0_1) := (blk_cell BK145.out 1).trans rfl; have hcz16_2 : w9.cell? ⟨gb145, 2, none⟩ = some (.int .i64 a0_2) := (blk_cell BK145.out 2).trans rfl; have hcz16_3 : w9.cell? ⟨gb145, 3, none⟩ = some (.slice A0_3 l0_3.length c0_3) := (blk_cell BK145.out 3).trans rfl; have hcz16_4 : w9.cell? ⟨gb145, 4, none⟩ = some (.int .i64 a0_4) := (blk_cell BK145.out 4).trans rfl; have hfz16_0 := blk_frozen BK145.out 0; have hfz16_1 := blk_frozen BK145.out 1; have hfz16_2 := blk_frozen BK145.out 2; have hfz16_3 := blk_frozen BK145.out 3; have hfz16_4 := blk_frozen BK145.out 4))
            go_meet
            case rel => exact ⟨_, (((l1.length : Int) == 0)), (by first | rfl | (simp; done) | (simp [*]; done)), H', ⟨by first | omega | exact Nat.le_refl _⟩, ⟨by (with_reducible repeat (first | refine blk_drewN ?_ _ | refine blk_drew ?_ | refine blk_alloc ?_ _)); exact BK145.out⟩, ⟨by repeat (first | (with_reducible first | exact HB.out | apply below_alloc | apply pw_below_drewN | apply below_drew1 | refine below_set ?_ GE145.out) | exact HB.out)⟩⟩
      · replace c11 := Bool.eq_false_iff.mpr c11
        subst c11
        have H1 : (interlocutorlaw4_GramRight.j0 k l1 a2 a3 true a0_0 l0_1 a0_2 l0_3 a0_4) = some r := by rw [if_neg (show ¬ (false = true) by decide)] at H; exact H
        clear H
        have H := H1
        clear H1
        have H' := Aside0.mk H
        clear H
        go_wp2_with (first | ((with_reducible refine gate_callee (f := 14) rfl ?_); refine goesL_ (some 13) rfl rfl Try.func14 (by kernel_rfl) rfl #[.slice A1 l1.length c1] rfl (by (try simp only [List.map_toArray, List.map_cons, List.map_nil]); first | done | rfl | (simp only [List.length_drop, List.length_take]; rfl)) ?_; (with_reducible refine (interlocutorlaw4_Few.calls k _ _ l1 false _ ?side1 ?side2 A10.out).mono ?_); (case side1 => repeat (first | exact (Kd.C_below HR1.out HB.out) | (with_reducible refine Kd.C_alloc ?_ _) | (with_reducible refine Kd.C_drewN ?_ _) | (with_reducible refine Kd.C_drew ?_))); (case side2 => exact HC1.out); rintro e w' ⟨rfl, ⟨nd, rfl⟩⟩; refine ⟨_, rfl, ?_⟩))
        go_meet
        case rel => exact ⟨_, (true), (by first | rfl | (simp; done) | (simp [*]; done)), H', ⟨by first | omega | exact Nat.le_refl _⟩, ⟨by (with_reducible repeat (first | refine blk_drewN ?_ _ | refine blk_drew ?_ | refine blk_alloc ?_ _)); exact BK145.out⟩, ⟨by repeat (first | (with_reducible first | exact HB.out | apply below_alloc | apply pw_below_drewN | apply below_drew1 | refine below_set ?_ GE145.out) | exact HB.out)⟩⟩
    case rest =>
      clear HC7
      try clear c1
      try clear p2
      try clear c3
      try clear c6
      try clear c11
      try clear c12
      try clear c12b0
      try clear c12b1
      try clear c13
      try clear c14
      try clear c14b0
      try clear c14b1
      try clear hcz13_0
      try clear hcz13_1
      try clear hcz13_2
      try clear hcz13_3
      try clear hcz13_4
      try clear hcz15_0
      try clear hcz15_1
      try clear hcz15_2
      try clear hcz15_3
      try clear hcz15_4
      try clear hcz16_0
      try clear hcz16_1
      try clear hcz16_2
      try clear hcz16_3
      try clear hcz16_4
      try clear hfz13_0
      try clear hfz13_1
      try clear hfz13_2
      try clear hfz13_3
      try clear hfz13_4
      try clear hfz15_0
      try clear hfz15_1
      try clear hfz15_2
      try clear hfz15_3
      try clear hfz15_4
      try clear hfz16_0
      try clear hfz16_1
      try clear hfz16_2
      try clear hfz16_3
      try clear hfz16_4
      obtain ⟨kq, x32_6, rfl, HA, HJ6, BK145, HB⟩ := hcut
      cases kq with
      | zero => exact absurd HA.out (by simp [interlocutorlaw4_GramRight.j0])
      | succ kj6 =>
        have H := HA.out
        clear HA
        simp only [interlocutorlaw4_GramRight.j0] at H
        by_cases c17 : x32_6 = true
        · subst c17
          have H1 : (some true) = some r := by rw [if_pos rfl] at H; exact H
          clear H
          have H := H1
          clear H1
          obtain rfl := Option.some.inj H
          go_wp2
          go_ret
          exact ⟨by first | rfl | (simp [errW_none, errW_some] <;> rfl) | (simp [*, errW_none, errW_some] <;> rfl), by repeat (first | (with_reducible first | exact HB.out | apply below_alloc | apply pw_below_drewN | apply below_drew1 | refine below_set ?_ GE145.out) | exact HB.out)⟩
        · replace c17 := Bool.eq_false_iff.mpr c17
          subst c17
          have H1 : (if 0 < (l1.length : Int) then ((interlocutorlaw4_Raw_Make.f kj6 ((rd_T31 l1 0).f0) ((rd_T31 l1 0).f1) ((rd_T31 l1 0).f2) ((rd_T31 l1 0).f3) ((rd_T31 l1 0).f4) 20).bind fun bt149 => ((gram_Right.f bt149.1 bt149.2.1 bt149.2.2.1 bt149.2.2.2.1 bt149.2.2.2.2).bind fun t159 => (if t159 = true then ((interlocutorlaw4_within.f a2 7).bind fun t160 => (if t160 = 0 then ((some (([(-1), 0, 19, 20, a3] : List Int) : List Int)).bind fun y161 => ((interlocutorlaw4_within.f a3 5).bind fun t164 => (if 0 ≤ t164 then (if t164 < (y161.length : Int) then (interlocutorlaw4_GramRight.j1 kj6 a0_0 l0_1 a0_2 l0_3 a0_4 (rd y161 t164) bt149.2.1 bt149.2.2.1 bt149.2.2.2.1 bt149.2.2.2.2) else (none)) else (none)))) else (if t160 = 1 then ((some (([19, 20, (-1), (-61), (-62), a3] : List Int) : List Int)).bind fun y166 => ((interlocutorlaw4_within.f a3 6).bind fun t169 => (if 0 ≤ t169 then (if t169 < (y166.length : Int) then (if 0 < (bt149.2.1.length : Int) then (interlocutorlaw4_GramRight.j1 kj6 a0_0 l0_1 a0_2 l0_3 a0_4 bt149.1 (bt149.2.1.set (0 : Int).toNat (rd y166 t169)) bt149.2.2.1 bt149.2.2.2.1 bt149.2.2.2.2) else (none)) else (none)) else (none)))) else (if t160 = 2 then ((some (([] : List Int) : List Int)).bind fun y172 => (if y172.length + bt149.2.1.length < 17592186044416 then ((some (y172 ++ bt149.2.1 : List Int)).bind fun y175 => ((some (([0, 0, 0, 0] : List Int) : List Int)).bind fun y178 => (if y175.length + y178.length < 17592186044416 then (interlocutorlaw4_GramRight.j1 kj6 a0_0 l0_1 a0_2 l0_3 a0_4 bt149.1 (y175 ++ y178) bt149.2.2.1 bt149.2.2.2.1 bt149.2.2.2.2) else (none)))) else (none))) else (if t160 = 3 then ((some (([(-1), 0, 100, 101, a3] : List Int) : List Int)).bind fun y184 => ((interlocutorlaw4_within.f a3 5).bind fun t187 => (if 0 ≤ t187 then (if t187 < (y184.length : Int) then (interlocutorlaw4_GramRight.j1 kj6 a0_0 l0_1 a0_2 l0_3 a0_4 bt149.1 bt149.2.1 bt149.2.2.1 bt149.2.2.2.1 (rd y184 t187)) else (none)) else (none)))) else (if t160 = 4 then ((some (([(-1), 0, 3, 4, 10, 15, 16, a3] : List Int) : List Int)).bind fun y189 => ((interlocutorlaw4_within.f a3 8).bind fun t192 => (if 0 ≤ t192 then (if t192 < (y189.length : Int) then (interlocutorlaw4_GramRight.j1 kj6 a0_0 l0_1 a0_2 l0_3 a0_4 bt149.1 bt149.2.1 (rd y189 t192) bt149.2.2.2.1 bt149.2.2.2.2) else (none)) else (none)))) else (if t160 = 5 then ((some (([] : List Int) : List Int)).bind fun y194 => (if y194.length + bt149.2.2.2.1.length < 17592186044416 then ((some (y194 ++ bt149.2.2.2.1 : List Int)).bind fun y197 => (if y197.length < 17592186044416 then (interlocutorlaw4_GramRight.j1 kj6 a0_0 l0_1 a0_2 l0_3 a0_4 bt149.1 bt149.2.1 bt149.2.2.1 (y197 ++ [0]) bt149.2.2.2.2) else (none))) else (none))) else (if t160 = 6 then ((some (([(-1), 0, 5, 6, (bt149.2.1.length : Int), a3] : List Int) : List Int)).bind fun y203 => ((interlocutorlaw4_within.f a3 6).bind fun t206 => (if 0 ≤ t206 then (if t206 < (y203.length : Int) then (if 0 < (bt149.2.2.2.1.length : Int) then (interlocutorlaw4_GramRight.j1 kj6 a0_0 l0_1 a0_2 l0_3 a0_4 bt149.1 bt149.2.1 bt149.2.2.1 (bt149.2.2.2.1.set (0 : Int).toNat (rd y203 t206)) bt149.2.2.2.2) else (none)) else (none)) else (none)))) else (interlocutorlaw4_GramRight.j1 kj6 a0_0 l0_1 a0_2 l0_3 a0_4 bt149.1 bt149.2.1 bt149.2.2.1 bt149.2.2.2.1 bt149.2.2.2.2))))))))) else (some false)))) else (none)) = some r := by rw [if_neg (show ¬ (false = true) by decide)] at H; exact H
          clear H
          have H := H1
          clear H1
          by_cases c18 : 0 < (l1.length : Int)
          · rw [if_pos c18] at H
            have c18b0 : decide (0 < (l1.length : Int)) = true := decide_eq_true c18
            have c18b1 : decide (0 < l1.length) = true := decide_eq_true (by omega)
            clear c18
            replace H := Option.bind_eq_some_iff.mp H
            obtain ⟨⟨t149, t150, t153, t154, t157⟩, A190, H⟩ := H
            replace H : ((gram_Right.f t149 t150 t153 t154 t157).bind fun t159 => (if t159 = true then ((interlocutorlaw4_within.f a2 7).bind fun t160 => (if t160 = 0 then ((some (([(-1), 0, 19, 20, a3] : List Int) : List Int)).bind fun y161 => ((interlocutorlaw4_within.f a3 5).bind fun t164 => (if 0 ≤ t164 then (if t164 < (y161.length : Int) then (interlocutorlaw4_GramRight.j1 kj6 a0_0 l0_1 a0_2 l0_3 a0_4 (rd y161 t164) t150 t153 t154 t157) else (none)) else (none)))) else (if t160 = 1 then ((some (([19, 20, (-1), (-61), (-62), a3] : List Int) : List Int)).bind fun y166 => ((interlocutorlaw4_within.f a3 6).bind fun t169 => (if 0 ≤ t169 then (if t169 < (y166.length : Int) then (if 0 < (t150.length : Int) then (interlocutorlaw4_GramRight.j1 kj6 a0_0 l0_1 a0_2 l0_3 a0_4 t149 (t150.set (0 : Int).toNat (rd y166 t169)) t153 t154 t157) else (none)) else (none)) else (none)))) else (if t160 = 2 then ((some (([] : List Int) : List Int)).bind fun y172 => (if y172.length + t150.length < 17592186044416 then ((some (y172 ++ t150 : List Int)).bind fun y175 => ((some (([0, 0, 0, 0] : List Int) : List Int)).bind fun y178 => (if y175.length + y178.length < 17592186044416 then (interlocutorlaw4_GramRight.j1 kj6 a0_0 l0_1 a0_2 l0_3 a0_4 t149 (y175 ++ y178) t153 t154 t157) else (none)))) else (none))) else (if t160 = 3 then ((some (([(-1), 0, 100, 101, a3] : List Int) : List Int)).bind fun y184 => ((interlocutorlaw4_within.f a3 5).bind fun t187 => (if 0 ≤ t187 then (if t187 < (y184.length : Int) then (interlocutorlaw4_GramRight.j1 kj6 a0_0 l0_1 a0_2 l0_3 a0_4 t149 t150 t153 t154 (rd y184 t187)) else (none)) else (none)))) else (if t160 = 4 then ((some (([(-1), 0, 3, 4, 10, 15, 16, a3] : List Int) : List Int)).bind fun y189 => ((interlocutorlaw4_within.f a3 8).bind fun t192 => (if 0 ≤ t192 then (if t192 < (y189.length : Int) then (interlocutorlaw4_GramRight.j1 kj6 a0_0 l0_1 a0_2 l0_3 a0_4 t149 t150 (rd y189 t192) t154 t157) else (none)) else (none)))) else (if t160 = 5 then ((some (([] : List Int) : List Int)).bind fun y194 => (if y194.length + t154.length < 17592186044416 then ((some (y194 ++ t154 : List Int)).bind fun y197 => (if y197.length < 17592186044416 then (interlocutorlaw4_GramRight.j1 kj6 a0_0 l0_1 a0_2 l0_3 a0_4 t149 t150 t153 (y197 ++ [0]) t157) else (none))) else (none))) else (if t160 = 6 then ((some (([(-1), 0, 5, 6, (t150.length : Int), a3] : List Int) : List Int)).bind fun y203 => ((interlocutorlaw4_within.f a3 6).bind fun t206 => (if 0 ≤ t206 then (if t206 < (y203.length : Int) then (if 0 < (t154.length : Int) then (interlocutorlaw4_GramRight.j1 kj6 a0_0 l0_1 a0_2 l0_3 a0_4 t149 t150 t153 (t154.set (0 : Int).toNat (rd y203 t206)) t157) else (none)) else (none)) else (none)))) else (interlocutorlaw4_GramRight.j1 kj6 a0_0 l0_1 a0_2 l0_3 a0_4 t149 t150 t153 t154 t157))))))))) else (some false))) = some r := H
            have A19 := Aside0.mk A190
            clear A190
            replace H := Option.bind_eq_some_iff.mp H
            obtain ⟨t159, A200, H⟩ := H
            replace H : (if t159 = true then ((interlocutorlaw4_within.f a2 7).bind fun t160 => (if t160 = 0 then ((some (([(-1), 0, 19, 20, a3] : List Int) : List Int)).bind fun y161 => ((interlocutorlaw4_within.f a3 5).bind fun t164 => (if 0 ≤ t164 then (if t164 < (y161.length : Int) then (interlocutorlaw4_GramRight.j1 kj6 a0_0 l0_1 a0_2 l0_3 a0_4 (rd y161 t164) t150 t153 t154 t157) else (none)) else (none)))) else (if t160 = 1 then ((some (([19, 20, (-1), (-61), (-62), a3] : List Int) : List Int)).bind fun y166 => ((interlocutorlaw4_within.f a3 6).bind fun t169 => (if 0 ≤ t169 then (if t169 < (y166.length : Int) then (if 0 < (t150.length : Int) then (interlocutorlaw4_GramRight.j1 kj6 a0_0 l0_1 a0_2 l0_3 a0_4 t149 (t150.set (0 : Int).toNat (rd y166 t169)) t153 t154 t157) else (none)) else (none)) else (none)))) else (if t160 = 2 then ((some (([] : List Int) : List Int)).bind fun y172 => (if y172.length + t150.length < 17592186044416 then ((some (y172 ++ t150 : List Int)).bind fun y175 => ((some (([0, 0, 0, 0] : List Int) : List Int)).bind fun y178 => (if y175.length + y178.length < 17592186044416 then (interlocutorlaw4_GramRight.j1 kj6 a0_0 l0_1 a0_2 l0_3 a0_4 t149 (y175 ++ y178) t153 t154 t157) else (none)))) else (none))) else (if t160 = 3 then ((some (([(-1), 0, 100, 101, a3] : List Int) : List Int)).bind fun y184 => ((interlocutorlaw4_within.f a3 5).bind fun t187 => (if 0 ≤ t187 then (if t187 < (y184.length : Int) then (interlocutorlaw4_GramRight.j1 kj6 a0_0 l0_1 a0_2 l0_3 a0_4 t149 t150 t153 t154 (rd y184 t187)) else (none)) else (none)))) else (if t160 = 4 then ((some (([(-1), 0, 3, 4, 10, 15, 16, a3] : List Int) : List Int)).bind fun y189 => ((interlocutorlaw4_within.f a3 8).bind fun t192 => (if 0 ≤ t192 then (if t192 < (y189.length : Int) then (interlocutorlaw4_GramRight.j1 kj6 a0_0 l0_1 a0_2 l0_3 a0_4 t149 t150 (rd y189 t192) t154 t157) else (none)) else (none)))) else (if t160 = 5 then ((some (([] : List Int) : List Int)).bind fun y194 => (if y194.length + t154.length < 17592186044416 then ((some (y194 ++ t154 : List Int)).bind fun y197 => (if y197.length < 17592186044416 then (interlocutorlaw4_GramRight.j1 kj6 a0_0 l0_1 a0_2 l0_3 a0_4 t149 t150 t153 (y197 ++ [0]) t157) else (none))) else (none))) else (if t160 = 6 then ((some (([(-1), 0, 5, 6, (t150.length : Int), a3] : List Int) : List Int)).bind fun y203 => ((interlocutorlaw4_within.f a3 6).bind fun t206 => (if 0 ≤ t206 then (if t206 < (y203.length : Int) then (if 0 < (t154.length : Int) then (interlocutorlaw4_GramRight.j1 kj6 a0_0 l0_1 a0_2 l0_3 a0_4 t149 t150 t153 (t154.set (0 : Int).toNat (rd y203 t206)) t157) else (none)) else (none)) else (none)))) else (interlocutorlaw4_GramRight.j1 kj6 a0_0 l0_1 a0_2 l0_3 a0_4 t149 t150 t153 t154 t157))))))))) else (some false)) = some r := H
            have A20 := Aside0.mk A200
            clear A200
            by_cases c21 : t159 = true
            · subst c21
              have H1 : ((interlocutorlaw4_within.f a2 7).bind fun t160 => (if t160 = 0 then ((some (([(-1), 0, 19, 20, a3] : List Int) : List Int)).bind fun y161 => ((interlocutorlaw4_within.f a3 5).bind fun t164 => (if 0 ≤ t164 then (if t164 < (y161.length : Int) then (interlocutorlaw4_GramRight.j1 kj6 a0_0 l0_1 a0_2 l0_3 a0_4 (rd y161 t164) t150 t153 t154 t157) else (none)) else (none)))) else (if t160 = 1 then ((some (([19, 20, (-1), (-61), (-62), a3] : List Int) : List Int)).bind fun y166 => ((interlocutorlaw4_within.f a3 6).bind fun t169 => (if 0 ≤ t169 then (if t169 < (y166.length : Int) then (if 0 < (t150.length : Int) then (interlocutorlaw4_GramRight.j1 kj6 a0_0 l0_1 a0_2 l0_3 a0_4 t149 (t150.set (0 : Int).toNat (rd y166 t169)) t153 t154 t157) else (none)) else (none)) else (none)))) else (if t160 = 2 then ((some (([] : List Int) : List Int)).bind fun y172 => (if y172.length + t150.length < 17592186044416 then ((some (y172 ++ t150 : List Int)).bind fun y175 => ((some (([0, 0, 0, 0] : List Int) : List Int)).bind fun y178 => (if y175.length + y178.length < 17592186044416 then (interlocutorlaw4_GramRight.j1 kj6 a0_0 l0_1 a0_2 l0_3 a0_4 t149 (y175 ++ y178) t153 t154 t157) else (none)))) else (none))) else (if t160 = 3 then ((some (([(-1), 0, 100, 101, a3] : List Int) : List Int)).bind fun y184 => ((interlocutorlaw4_within.f a3 5).bind fun t187 => (if 0 ≤ t187 then (if t187 < (y184.length : Int) then (interlocutorlaw4_GramRight.j1 kj6 a0_0 l0_1 a0_2 l0_3 a0_4 t149 t150 t153 t154 (rd y184 t187)) else (none)) else (none)))) else (if t160 = 4 then ((some (([(-1), 0, 3, 4, 10, 15, 16, a3] : List Int) : List Int)).bind fun y189 => ((interlocutorlaw4_within.f a3 8).bind fun t192 => (if 0 ≤ t192 then (if t192 < (y189.length : Int) then (interlocutorlaw4_GramRight.j1 kj6 a0_0 l0_1 a0_2 l0_3 a0_4 t149 t150 (rd y189 t192) t154 t157) else (none)) else (none)))) else (if t160 = 5 then ((some (([] : List Int) : List Int)).bind fun y194 => (if y194.length + t154.length < 17592186044416 then ((some (y194 ++ t154 : List Int)).bind fun y197 => (if y197.length < 17592186044416 then (interlocutorlaw4_GramRight.j1 kj6 a0_0 l0_1 a0_2 l0_3 a0_4 t149 t150 t153 (y197 ++ [0]) t157) else (none))) else (none))) else (if t160 = 6 then ((some (([(-1), 0, 5, 6, (t150.length : Int), a3] : List Int) : List Int)).bind fun y203 => ((interlocutorlaw4_within.f a3 6).bind fun t206 => (if 0 ≤ t206 then (if t206 < (y203.length : Int) then (if 0 < (t154.length : Int) then (interlocutorlaw4_GramRight.j1 kj6 a0_0 l0_1 a0_2 l0_3 a0_4 t149 t150 t153 (t154.set (0 : Int).toNat (rd y203 t206)) t157) else (none)) else (none)) else (none)))) else (interlocutorlaw4_GramRight.j1 kj6 a0_0 l0_1 a0_2 l0_3 a0_4 t149 t150 t153 t154 t157))))))))) = some r := by rw [if_pos rfl] at H; exact H
              clear H
              have H := H1
              clear H1
              replace H := Option.bind_eq_some_iff.mp H
              obtain ⟨t160, A220, H⟩ := H
              replace H : (if t160 = 0 then ((some (([(-1), 0, 19, 20, a3] : List Int) : List Int)).bind fun y161 => ((interlocutorlaw4_within.f a3 5).bind fun t164 => (if 0 ≤ t164 then (if t164 < (y161.length : Int) then (interlocutorlaw4_GramRight.j1 kj6 a0_0 l0_1 a0_2 l0_3 a0_4 (rd y161 t164) t150 t153 t154 t157) else (none)) else (none)))) else (if t160 = 1 then ((some (([19, 20, (-1), (-61), (-62), a3] : List Int) : List Int)).bind fun y166 => ((interlocutorlaw4_within.f a3 6).bind fun t169 => (if 0 ≤ t169 then (if t169 < (y166.length : Int) then (if 0 < (t150.length : Int) then (interlocutorlaw4_GramRight.j1 kj6 a0_0 l0_1 a0_2 l0_3 a0_4 t149 (t150.set (0 : Int).toNat (rd y166 t169)) t153 t154 t157) else (none)) else (none)) else (none)))) else (if t160 = 2 then ((some (([] : List Int) : List Int)).bind fun y172 => (if y172.length + t150.length < 17592186044416 then ((some (y172 ++ t150 : List Int)).bind fun y175 => ((some (([0, 0, 0, 0] : List Int) : List Int)).bind fun y178 => (if y175.length + y178.length < 17592186044416 then (interlocutorlaw4_GramRight.j1 kj6 a0_0 l0_1 a0_2 l0_3 a0_4 t149 (y175 ++ y178) t153 t154 t157) else (none)))) else (none))) else (if t160 = 3 then ((some (([(-1), 0, 100, 101, a3] : List Int) : List Int)).bind fun y184 => ((interlocutorlaw4_within.f a3 5).bind fun t187 => (if 0 ≤ t187 then (if t187 < (y184.length : Int) then (interlocutorlaw4_GramRight.j1 kj6 a0_0 l0_1 a0_2 l0_3 a0_4 t149 t150 t153 t154 (rd y184 t187)) else (none)) else (none)))) else (if t160 = 4 then ((some (([(-1), 0, 3, 4, 10, 15, 16, a3] : List Int) : List Int)).bind fun y189 => ((interlocutorlaw4_within.f a3 8).bind fun t192 => (if 0 ≤ t192 then (if t192 < (y189.length : Int) then (interlocutorlaw4_GramRight.j1 kj6 a0_0 l0_1 a0_2 l0_3 a0_4 t149 t150 (rd y189 t192) t154 t157) else (none)) else (none)))) else (if t160 = 5 then ((some (([] : List Int) : List Int)).bind fun y194 => (if y194.length + t154.length < 17592186044416 then ((some (y194 ++ t154 : List Int)).bind fun y197 => (if y197.length < 17592186044416 then (interlocutorlaw4_GramRight.j1 kj6 a0_0 l0_1 a0_2 l0_3 a0_4 t149 t150 t153 (y197 ++ [0]) t157) else (none))) else (none))) else (if t160 = 6 then ((some (([(-1), 0, 5, 6, (t150.length : Int), a3] : List Int) : List Int)).bind fun y203 => ((interlocutorlaw4_within.f a3 6).bind fun t206 => (if 0 ≤ t206 then (if t206 < (y203.length : Int) then (if 0 < (t154.length : Int) then (interlocutorlaw4_GramRight.j1 kj6 a0_0 l0_1 a0_2 l0_3 a0_4 t149 t150 t153 (t154.set (0 : Int).toNat (rd y203 t206)) t157) else (none)) else (none)) else (none)))) else (interlocutorlaw4_GramRight.j1 kj6 a0_0 l0_1 a0_2 l0_3 a0_4 t149 t150 t153 t154 t157)))))))) = some r := H
              have A22 := Aside0.mk A220
              clear A220
              have HC23 := Aside0.mk H
              clear H
              have p148 : 0 ≤ (0 : Int) := (by omega)
              have q148 : 0 < (l1.length : Int) := of_decide_eq_true (by first | (with_reducible assumption) | assumption)
              obtain ⟨ad148, A148_3, c148_3, A148_4, c148_4, e148, hx148_0, hx148_1, hx148_2, hx148_3, hx148_4, hl148_3, hi148_3, hl148_4, hi148_4⟩ := at_T31 HR1.out 0 p148 q148
              cases e148
              have qi148 : (0 < l1.length) = True := eq_true (by omega)
              (try rw [show ((0 : Int)).toNat = 0 from rfl] at hx148_0)
              (try rw [show 0 * 5 = 0 from rfl] at hx148_0)
              (try rw [Addr.add_zero'] at hx148_0)
              (try rw [show ((0 : Int)).toNat = 0 from rfl] at hx148_1)
              (try rw [show 0 * 5 = 0 from rfl] at hx148_1)
              (try rw [Addr.add_zero'] at hx148_1)
              (try rw [show ((0 : Int)).toNat = 0 from rfl] at hx148_2)
              (try rw [show 0 * 5 = 0 from rfl] at hx148_2)
              (try rw [Addr.add_zero'] at hx148_2)
              (try rw [show ((0 : Int)).toNat = 0 from rfl] at hx148_3)
              (try rw [show 0 * 5 = 0 from rfl] at hx148_3)
              (try rw [Addr.add_zero'] at hx148_3)
              (try rw [show ((0 : Int)).toNat = 0 from rfl] at hx148_4)
              (try rw [show 0 * 5 = 0 from rfl] at hx148_4)
              (try rw [Addr.add_zero'] at hx148_4)
              replace hx148_0 := (HB.out.cell (World.block_lt_of_cell? w _ hx148_0)).trans hx148_0
              replace hx148_1 := (HB.out.cell (World.block_lt_of_cell? w _ hx148_1)).trans hx148_1
              replace hx148_2 := (HB.out.cell (World.block_lt_of_cell? w _ hx148_2)).trans hx148_2
              replace hx148_3 := (HB.out.cell (World.block_lt_of_cell? w _ hx148_3)).trans hx148_3
              replace hx148_4 := (HB.out.cell (World.block_lt_of_cell? w _ hx148_4)).trans hx148_4
              have HR148_3 := Aside0.mk hi148_3
              have HC148_3 := Aside0.mk hl148_3
              clear hi148_3 hl148_3
              have HR148_4 := Aside0.mk hi148_4
              have HC148_4 := Aside0.mk hl148_4
              clear hi148_4 hl148_4
              replace p148 := eq_true p148
              replace q148 := eq_true q148
              go_upto_block 0 with (first | ((with_reducible refine gate_callee (f := 15) rfl ?_); refine goesL_ (some 36) rfl rfl Try.func15 (by kernel_rfl) rfl #[.agg #[.int .i64 ((rd_T31 l1 0).f0), .int .i64 ((rd_T31 l1 0).f1), .int .i64 ((rd_T31 l1 0).f2), .slice A148_3 ((rd_T31 l1 0).f3).length c148_3, .slice A148_4 ((rd_T31 l1 0).f4).length c148_4], .int .i64 20] rfl (by (try simp only [List.map_toArray, List.map_cons, List.map_nil]); first | done | rfl | (simp only [List.length_drop, List.length_take]; rfl)) ?_; (with_reducible refine (interlocutorlaw4_Raw_Make.calls kj6 ((rd_T31 l1 0).f0) ((rd_T31 l1 0).f1) ((rd_T31 l1 0).f2) _ _ ((rd_T31 l1 0).f3) _ _ ((rd_T31 l1 0).f4) 20 t149 t150 t153 t154 t157 _ ?side1 ?side2 ?side3 ?side4 A19.out).mono ?_); (case side1 => repeat (first | exact (Kd.C_below HR148_3.out HB.out) | (with_reducible refine Kd.C_alloc ?_ _) | (with_reducible refine Kd.C_drewN ?_ _) | (with_reducible refine Kd.C_drew ?_))); (case side2 => exact HC148_3.out); (case side3 => repeat (first | exact (Kd.C_below HR148_4.out HB.out) | (with_reducible refine Kd.C_alloc ?_ _) | (with_reducible refine Kd.C_drewN ?_ _) | (with_reducible refine Kd.C_drew ?_))); (case side4 => exact HC148_4.out); rintro e w24 ⟨v151, v155, rfl, ho0, ho1, hb⟩; refine ⟨_, rfl, ?_⟩; have n0_ := Aside0.mk (Kd.R_lower ho0 (below_size (by repeat (first | (with_reducible first | exact HB.out | apply below_alloc | apply pw_below_drewN | apply below_drew1 | refine below_set ?_ GE145.out) | exact HB.out)))); have n1_ := Aside0.mk (Kd.R_lower ho1 (below_size (by repeat (first | (with_reducible first | exact HB.out | apply below_alloc | apply pw_below_drewN | apply below_drew1 | refine below_set ?_ GE145.out) | exact HB.out)))); have n2_ := Aside0.mk (blk_below (g := gb145) (o := .cells #[.int .i64 a0_0, .slice A0_1 l0_1.length c0_1, .int .i64 a0_2, .slice A0_3 l0_3.length c0_3, .int .i64 a0_4] 26 (0, 0)) (by (with_reducible repeat (first | refine blk_drewN ?_ _ | refine blk_drew ?_ | refine blk_alloc ?_ _)); exact BK145.out) hb); have n3_ := Aside0.mk (below_step (by repeat (first | (with_reducible first | exact HB.out | apply below_alloc | apply pw_below_drewN | apply below_drew1 | refine below_set ?_ GE145.out) | exact HB.out)) hb); clear BK145; clear HB; have HO152 := n0_; have HO156 := n1_; have BK145 := n2_; have HB := n3_; clear n0_ n1_ n2_ n3_; (try clear hb); (try clear hb2); (try clear hk); (try clear hi); (try clear ho0); (try clear ho1)) | ((with_reducible refine gate_dst (N := 9) rfl ?_); (try (refine gate_guard (by rfl) ?_; dsimp only)); refine box_event ?hg (N := 9) ?hd (cs := #[.int .i64 0, .slice none 0 0, .int .i64 0, .slice none 0 0, .int .i64 0]) (t := 26) ?hr ?_; (case hd => rfl); (case hg => rfl); (case hr => first | (go_simp; done) | (go_simp; rfl)); intro gb158 hg w25 hbox hb; have n0_ := Aside0.mk (Kd.R_below (by (with_reducible repeat (first | apply Kd.R_alloc | apply Kd.R_drewN | apply Kd.R_drew)); exact HO152.out) hb); have n1_ := Aside0.mk (Kd.R_below (by (with_reducible repeat (first | apply Kd.R_alloc | apply Kd.R_drewN | apply Kd.R_drew)); exact HO156.out) hb); have n2_ := Aside0.mk (blk_below (g := gb145) (o := .cells #[.int .i64 a0_0, .slice A0_1 l0_1.length c0_1, .int .i64 a0_2, .slice A0_3 l0_3.length c0_3, .int .i64 a0_4] 26 (0, 0)) (by (with_reducible repeat (first | refine blk_drewN ?_ _ | refine blk_drew ?_ | refine blk_alloc ?_ _)); exact BK145.out) hb); have n3_ := Aside0.mk (below_step (by repeat (first | (with_reducible first | exact HB.out | apply below_alloc | apply pw_below_drewN | apply below_drew1 | refine below_set ?_ GE145.out) | exact HB.out)) hb); have n4_ := Aside0.mk (hbox); have n5_ := Aside0.mk ((by rw [hg]; exact (below_size (by repeat (first | (with_reducible first | exact HB.out | apply below_alloc | apply pw_below_drewN | apply below_drew1 | refine below_set ?_ GE145.out) | exact HB.out))) : w.heap.size ≤ gb158)); have n6_ := Aside0.mk ((by rw [hg]; exact (below_size (by repeat (first | (with_reducible first | exact HB.out | apply below_alloc | apply pw_below_drewN | apply below_drew1 | refine below_set ?_ GE145.out) | exact HB.out))) : w.heap.size ≤ gb158)); have n7_ := Aside0.mk ((by rw [hg]; exact Nat.ne_of_lt (blk_lt (g := gb145) (o := .cells #[.int .i64 a0_0, .slice A0_1 l0_1.length c0_1, .int .i64 a0_2, .slice A0_3 l0_3.length c0_3, .int .i64 a0_4] 26 (0, 0)) (by (with_reducible repeat (first | refine blk_drewN ?_ _ | refine blk_drew ?_ | refine blk_alloc ?_ _)); exact BK145.out)) : gb145 ≠ gb158)); have n8_ := Aside0.mk ((by rw [hg]; exact Nat.ne_of_gt (blk_lt (g := gb145) (o := .cells #[.int .i64 a0_0, .slice A0_1 l0_1.length c0_1, .int .i64 a0_2, .slice A0_3 l0_3.length c0_3, .int .i64 a0_4] 26 (0, 0)) (by (with_reducible repeat (first | refine blk_drewN ?_ _ | refine blk_drew ?_ | refine blk_alloc ?_ _)); exact BK145.out)) : gb158 ≠ gb145)); clear HO152; clear HO156; clear BK145; clear HB; have HO152 := n0_; have HO156 := n1_; have BK145 := n2_; have HB := n3_; have BK158 := n4_; have GW158 := n5_; have GE158 := n6_; have NB145_158 := n7_; have NB158_145 := n8_; clear n0_ n1_ n2_ n3_ n4_ n5_ n6_ n7_ n8_; clear hb hbox hg; have hnb26 := NB158_145.out; have hnc26 := NB145_158.out; have hcz27_0 : w25.cell? ⟨gb158, 0, none⟩ = some (.int .i64 0) := (blk_cell BK158.out 0).trans rfl; have hcz27_1 : w25.cell? ⟨gb158, 1, none⟩ = some (.slice none 0 0) := (blk_cell BK158.out 1).trans rfl; have hcz27_2 : w25.cell? ⟨gb158, 2, none⟩ = some (.int .i64 0) := (blk_cell BK158.out 2).trans rfl; have hcz27_3 : w25.cell? ⟨gb158, 3, none⟩ = some (.slice none 0 0) := (blk_cell BK158.out 3).trans rfl; have hcz27_4 : w25.cell? ⟨gb158, 4, none⟩ = some (.int .i64 0) := (blk_cell BK158.out 4).trans rfl; have hfz27_0 := blk_frozen BK158.out 0; have hfz27_1 := blk_frozen BK158.out 1; have hfz27_2 := blk_frozen BK158.out 2; have hfz27_3 := blk_frozen BK158.out 3; have hfz27_4 := blk_frozen BK158.out 4; obtain ⟨Ao28, co28, eo28⟩ := Kd.R_slice HO152.out; subst eo28; obtain ⟨Ao29, co29, eo29⟩ := Kd.R_slice HO156.out; subst eo29) | ((with_reducible refine gate_callee (f := 16) rfl ?_); refine goesL_ (some 38) rfl rfl Try.func16 (by kernel_rfl) rfl #[.agg #[.int .i64 t149, .slice Ao28 t150.length co28, .int .i64 t153, .slice Ao29 t154.length co29, .int .i64 t157]] rfl (by (try simp only [List.map_toArray, List.map_cons, List.map_nil]); first | done | rfl | (simp only [List.length_drop, List.length_take]; rfl)) ?_; (with_reducible refine (gram_Right.calls t149 _ _ t150 t153 _ _ t154 t157 true _ ?side1 ?side2 ?side3 ?side4 A20.out).mono ?_); (case side1 => refine (Kd.R_reads' (e := 3) (base := w.heap.size) (ok := fun k_ => some k_ ≠ (.slice Ao29 t154.length co29 : Value).ownBlock) (n := t150.length) (c := co28) ?_).2.2; exact (by (with_reducible repeat (first | apply Kd.R_alloc | apply Kd.R_drewN | apply Kd.R_drew)); exact (Kd.R_mono (Kd.R_far (p := ⟨gb158, 4, none⟩) (Kd.R_far (p := ⟨gb158, 3, none⟩) (Kd.R_far (p := ⟨gb158, 2, none⟩) (Kd.R_far (p := ⟨gb158, 1, none⟩) (Kd.R_far (p := ⟨gb158, 0, none⟩) (Kd.R_types HO152.out BK158.out (by decide)) (fun _ hk => hk.2) (.int .i64 t149)) (fun _ hk => hk.2) (.slice Ao28 t150.length co28)) (fun _ hk => hk.2) (.int .i64 t153)) (fun _ hk => hk.2) (.slice Ao29 t154.length co29)) (fun _ hk => hk.2) (.int .i64 t157)) (fun _ h_ => h_.1)))); (case side2 => exact (Kd.R_reads' HO152.out).2.1); (case side3 => refine (Kd.R_reads' (e := 3) (base := w.heap.size) (ok := fun k_ => some k_ ≠ (.slice Ao28 t150.length co28 : Value).ownBlock) (n := t154.length) (c := co29) ?_).2.2; exact (by (with_reducible repeat (first | apply Kd.R_alloc | apply Kd.R_drewN | apply Kd.R_drew)); exact (Kd.R_mono (Kd.R_far (p := ⟨gb158, 4, none⟩) (Kd.R_far (p := ⟨gb158, 3, none⟩) (Kd.R_far (p := ⟨gb158, 2, none⟩) (Kd.R_far (p := ⟨gb158, 1, none⟩) (Kd.R_far (p := ⟨gb158, 0, none⟩) (Kd.R_types HO156.out BK158.out (by decide)) (fun _ hk => hk.2) (.int .i64 t149)) (fun _ hk => hk.2) (.slice Ao28 t150.length co28)) (fun _ hk => hk.2) (.int .i64 t153)) (fun _ hk => hk.2) (.slice Ao29 t154.length co29)) (fun _ hk => hk.2) (.int .i64 t157)) (fun _ h_ => h_.1)))); (case side4 => exact (Kd.R_reads' HO156.out).2.1); rintro e w30 ⟨rfl, hb⟩; refine ⟨_, rfl, ?_⟩; have n0_ := Aside0.mk (Kd.R_below (by (with_reducible repeat (first | apply Kd.R_alloc | apply Kd.R_drewN | apply Kd.R_drew)); exact (Kd.R_mono (Kd.R_far (p := ⟨gb158, 4, none⟩) (Kd.R_far (p := ⟨gb158, 3, none⟩) (Kd.R_far (p := ⟨gb158, 2, none⟩) (Kd.R_far (p := ⟨gb158, 1, none⟩) (Kd.R_far (p := ⟨gb158, 0, none⟩) (Kd.R_types HO152.out BK158.out (by decide)) (fun _ hk => hk.2) (.int .i64 t149)) (fun _ hk => hk.2) (.slice Ao28 t150.length co28)) (fun _ hk => hk.2) (.int .i64 t153)) (fun _ hk => hk.2) (.slice Ao29 t154.length co29)) (fun _ hk => hk.2) (.int .i64 t157)) (fun _ h_ => h_.1))) hb); have n1_ := Aside0.mk (Kd.R_below (by (with_reducible repeat (first | apply Kd.R_alloc | apply Kd.R_drewN | apply Kd.R_drew)); exact (Kd.R_mono (Kd.R_far (p := ⟨gb158, 4, none⟩) (Kd.R_far (p := ⟨gb158, 3, none⟩) (Kd.R_far (p := ⟨gb158, 2, none⟩) (Kd.R_far (p := ⟨gb158, 1, none⟩) (Kd.R_far (p := ⟨gb158, 0, none⟩) (Kd.R_types HO156.out BK158.out (by decide)) (fun _ hk => hk.2) (.int .i64 t149)) (fun _ hk => hk.2) (.slice Ao28 t150.length co28)) (fun _ hk => hk.2) (.int .i64 t153)) (fun _ hk => hk.2) (.slice Ao29 t154.length co29)) (fun _ hk => hk.2) (.int .i64 t157)) (fun _ h_ => h_.1))) hb); have n2_ := Aside0.mk (blk_below (g := gb145) (o := .cells #[.int .i64 a0_0, .slice A0_1 l0_1.length c0_1, .int .i64 a0_2, .slice A0_3 l0_3.length c0_3, .int .i64 a0_4] 26 (0, 0)) (by (with_reducible repeat (first | refine blk_drewN ?_ _ | refine blk_drew ?_ | refine blk_alloc ?_ _)); refine blk_far ?_ NB145_158.out _; (with_reducible repeat (first | refine blk_drewN ?_ _ | refine blk_drew ?_ | refine blk_alloc ?_ _)); refine blk_far ?_ NB145_158.out _; (with_reducible repeat (first | refine blk_drewN ?_ _ | refine blk_drew ?_ | refine blk_alloc ?_ _)); refine blk_far ?_ NB145_158.out _; (with_reducible repeat (first | refine blk_drewN ?_ _ | refine blk_drew ?_ | refine blk_alloc ?_ _)); refine blk_far ?_ NB145_158.out _; (with_reducible repeat (first | refine blk_drewN ?_ _ | refine blk_drew ?_ | refine blk_alloc ?_ _)); refine blk_far ?_ NB145_158.out _; (with_reducible repeat (first | refine blk_drewN ?_ _ | refine blk_drew ?_ | refine blk_alloc ?_ _)); exact BK145.out) hb); have n3_ := Aside0.mk (blk_below (g := gb158) (o := .cells #[.int .i64 t149, .slice Ao28 t150.length co28, .int .i64 t153, .slice Ao29 t154.length co29, .int .i64 t157] 26 (0, 0)) (by (with_reducible repeat (first | refine blk_drewN ?_ _ | refine blk_drew ?_ | refine blk_alloc ?_ _)); refine blk_put (cs := #[.int .i64 t149, .slice Ao28 t150.length co28, .int .i64 t153, .slice Ao29 t154.length co29, .int .i64 0]) ?_ 4 _ rfl; (with_reducible repeat (first | refine blk_drewN ?_ _ | refine blk_drew ?_ | refine blk_alloc ?_ _)); refine blk_put (cs := #[.int .i64 t149, .slice Ao28 t150.length co28, .int .i64 t153, .slice none 0 0, .int .i64 0]) ?_ 3 _ rfl; (with_reducible repeat (first | refine blk_drewN ?_ _ | refine blk_drew ?_ | refine blk_alloc ?_ _)); refine blk_put (cs := #[.int .i64 t149, .slice Ao28 t150.length co28, .int .i64 0, .slice none 0 0, .int .i64 0]) ?_ 2 _ rfl; (with_reducible repeat (first | refine blk_drewN ?_ _ | refine blk_drew ?_ | refine blk_alloc ?_ _)); refine blk_put (cs := #[.int .i64 t149, .slice none 0 0, .int .i64 0, .slice none 0 0, .int .i64 0]) ?_ 1 _ rfl; (with_reducible repeat (first | refine blk_drewN ?_ _ | refine blk_drew ?_ | refine blk_alloc ?_ _)); refine blk_put (cs := #[.int .i64 0, .slice none 0 0, .int .i64 0, .slice none 0 0, .int .i64 0]) ?_ 0 _ rfl; (with_reducible repeat (first | refine blk_drewN ?_ _ | refine blk_drew ?_ | refine blk_alloc ?_ _)); exact BK158.out) hb); have n4_ := Aside0.mk (below_step (by repeat (first | (with_reducible first | exact HB.out | apply below_alloc | apply pw_below_drewN | apply below_drew1 | refine below_set ?_ GE145.out | refine below_set ?_ GE158.out) | exact HB.out)) hb); clear HO152; clear HO156; clear BK145; clear BK158; clear HB; have HO152 := n0_; have HO156 := n1_; have BK145 := n2_; have BK158 := n3_; have HB := n4_; clear n0_ n1_ n2_ n3_ n4_; (try clear hb); (try clear hb2); (try clear hk); (try clear hi)) | ((with_reducible refine gate_callee (f := 17) rfl ?_); refine goesL_ (some 41) rfl rfl Try.func17 (by kernel_rfl) rfl #[.int .i64 a2, .int .i64 7] rfl (by (try simp only [List.map_toArray, List.map_cons, List.map_nil]); first | done | rfl | (simp only [List.length_drop, List.length_take]; rfl)) ?_; (with_reducible refine (interlocutorlaw4_within.calls a2 7 t160 _ A22.out).mono ?_); rintro e w' ⟨rfl, ⟨nd, rfl⟩⟩; refine ⟨_, rfl, ?_⟩))
              (try simp only [Act.put, List.setIfInBounds_toArray, List.set_cons_zero, List.set_cons_succ])
              go_cut [] (fun wc => ∃ (kq : Nat) (x159000_22 : Int) (x159001_22 : List Int) (x159002_22 : Int) (x159003_22 : List Int) (x159004_22 : Int) (u159001 : Value) (u159003 : Value), Aside0 (interlocutorlaw4_GramRight.j1 kq a0_0 l0_1 a0_2 l0_3 a0_4 x159000_22 x159001_22 x159002_22 x159003_22 x159004_22 = some r) ∧ Aside0 (kq ≤ kj6) ∧ Aside0 (Kd.R (Kd.int .i64) 3 wc w.heap.size (fun k_ => some k_ ≠ (u159003 : Value).ownBlock) u159001 x159001_22) ∧ Aside0 (Kd.R (Kd.int .i64) 3 wc w.heap.size (fun k_ => some k_ ≠ (u159001 : Value).ownBlock) u159003 x159003_22) ∧ Aside0 (wc.heap[gb145]? = some (.cells #[.int .i64 a0_0, (.slice A0_1 l0_1.length c0_1), .int .i64 a0_2, (.slice A0_3 l0_3.length c0_3), .int .i64 a0_4] 26 (0, 0))) ∧ Aside0 (wc.heap[gb158]? = some (.cells #[.int .i64 x159000_22, u159001, .int .i64 x159002_22, u159003, .int .i64 x159004_22] 26 (0, 0))) ∧ Aside0 (Below w.heap.size w wc))
              case first =>
                have H := HC23.out
                clear HC23
                by_cases c31 : t160 = 0
                · rw [if_pos c31] at H
                  have c31b0 : (t160 == 0) = true := beq_iff_eq.mpr c31
                  have c31b1 : (t160 != 0) = false := bne_eq_false_iff_eq.mpr c31
                  clear c31
                  (first | rw [c31b0] | (simp only [i64_w, i32_w]; rw [c31b0]) | skip)
                  obtain ⟨y161, hy161⟩ : ∃ y_ : List Int, y_ = (([(-1), 0, 19, 20, a3] : List Int)) := ⟨_, rfl⟩
                  replace H : ((interlocutorlaw4_within.f a3 5).bind fun t164 => (if 0 ≤ t164 then (if t164 < (y161.length : Int) then (interlocutorlaw4_GramRight.j1 kj6 a0_0 l0_1 a0_2 l0_3 a0_4 (rd y161 t164) t150 t153 t154 t157) else (none)) else (none))) = some r := by first | (rw [hy161]; with_reducible exact H) | (have H2_ := (Option.bind_some _ _).symm.trans H; rw [hy161]; with_reducible exact H2_) | (have H2_ := (Option.bind_some _ _).symm.trans H; with_reducible exact H2_) | with_reducible exact H | (rw [hy161]; exact H) | exact H
                  have Ny161 := Aside0.mk hy161
                  clear hy161
                  replace H := Option.bind_eq_some_iff.mp H
                  obtain ⟨t164, A320, H⟩ := H
                  replace H : (if 0 ≤ t164 then (if t164 < (y161.length : Int) then (interlocutorlaw4_GramRight.j1 kj6 a0_0 l0_1 a0_2 l0_3 a0_4 (rd y161 t164) t150 t153 t154 t157) else (none)) else (none)) = some r := H
                  have A32 := Aside0.mk A320
                  clear A320
                  by_cases c33 : 0 ≤ t164
                  · rw [if_pos c33] at H
                    have c33b0 : decide (0 ≤ t164) = true := decide_eq_true c33
                    clear c33
                    by_cases c34 : t164 < (y161.length : Int)
                    · rw [if_pos c34] at H
                      have c34b0 : decide (t164 < (y161.length : Int)) = true := decide_eq_true c34
                      clear c34
                      have H' := Aside0.mk H
                      clear H
                      go_wp2_with (first | ((with_reducible refine gate_dst (N := 45) rfl ?_); (try (refine gate_guard (by rfl) ?_; dsimp only)); refine Kd.R_lit (Kd.int .i64) _ 3 ?hg (N := 45) ?hd (xs := ([(-1), 0, 19, 20, a3] : List Int)) (inner := [.int .i64 (-1), .int .i64 0, .int .i64 19, .int .i64 20, .int .i64 a3]) (ok := fun _ => True) (okp := fun _ => True) ?hr ?hp (fun _ hk => hk) trivial (Below.refl _ _) (Nat.le_refl _) (by simp) ?_; (case hd => rfl); (case hg => rfl); (case hr => first | (go_simp; done) | (go_simp; rfl)); (case hp => exact (Reps.one (show Kd.M (Kd.int .i64) _ _ _ (-1) [.int .i64 (-1)] from rfl) (Reps.one (show Kd.M (Kd.int .i64) _ _ _ 0 [.int .i64 0] from rfl) (Reps.one (show Kd.M (Kd.int .i64) _ _ _ 19 [.int .i64 19] from rfl) (Reps.one (show Kd.M (Kd.int .i64) _ _ _ 20 [.int .i64 20] from rfl) (Reps.one (show Kd.M (Kd.int .i64) _ _ _ a3 [.int .i64 a3] from rfl) (Reps.none _ _))))))); intro v162 w35 ho36 hb hg_ hnew_; clear hg_ hnew_; (first | rw [← Ny161.out] at ho36 | (simp only [Int.reduceToNat] at ho36; rw [← Ny161.out] at ho36)); have n0_ := Aside0.mk (Kd.R_elder' (by (with_reducible repeat (first | apply Kd.R_alloc | apply Kd.R_drewN | apply Kd.R_drew)); exact HO152.out) (Kd.R_base ho36) hb); have n1_ := Aside0.mk (Kd.R_elder' (by (with_reducible repeat (first | apply Kd.R_alloc | apply Kd.R_drewN | apply Kd.R_drew)); exact HO156.out) (Kd.R_base ho36) hb); have n2_ := Aside0.mk (Kd.R_lower (Kd.R_new' (Kd.R_new' ho36 (Kd.R_lt (by (with_reducible repeat (first | apply Kd.R_alloc | apply Kd.R_drewN | apply Kd.R_drew)); exact HO152.out))) (Kd.R_lt (by (with_reducible repeat (first | apply Kd.R_alloc | apply Kd.R_drewN | apply Kd.R_drew)); exact HO156.out))) (below_size (by repeat (first | (with_reducible first | exact HB.out | apply below_alloc | apply pw_below_drewN | apply below_drew1 | refine below_set ?_ GE145.out | refine below_set ?_ GE158.out) | exact HB.out)))); have n3_ := Aside0.mk (blk_below (g := gb145) (o := .cells #[.int .i64 a0_0, .slice A0_1 l0_1.length c0_1, .int .i64 a0_2, .slice A0_3 l0_3.length c0_3, .int .i64 a0_4] 26 (0, 0)) (by (with_reducible repeat (first | refine blk_drewN ?_ _ | refine blk_drew ?_ | refine blk_alloc ?_ _)); exact BK145.out) hb); have n4_ := Aside0.mk (blk_below (g := gb158) (o := .cells #[.int .i64 t149, .slice Ao28 t150.length co28, .int .i64 t153, .slice Ao29 t154.length co29, .int .i64 t157] 26 (0, 0)) (by (with_reducible repeat (first | refine blk_drewN ?_ _ | refine blk_drew ?_ | refine blk_alloc ?_ _)); exact BK158.out) hb); have n5_ := Aside0.mk (below_step (by repeat (first | (with_reducible first | exact HB.out | apply below_alloc | apply pw_below_drewN | apply below_drew1 | refine below_set ?_ GE145.out | refine below_set ?_ GE158.out) | exact HB.out)) hb); clear HO152; clear HO156; clear BK145; clear BK158; clear HB; have HO152 := n0_; have HO156 := n1_; have HO163 := n2_; have BK145 := n3_; have BK158 := n4_; have HB := n5_; clear n0_ n1_ n2_ n3_ n4_ n5_; clear hb ho36) | ((with_reducible refine gate_callee (f := 17) rfl ?_); refine goesL_ (some 47) rfl rfl Try.func17 (by kernel_rfl) rfl #[.int .i64 a3, .int .i64 5] rfl (by (try simp only [List.map_toArray, List.map_cons, List.map_nil]); first | done | rfl | (simp only [List.length_drop, List.length_take]; rfl)) ?_; (with_reducible refine (interlocutorlaw4_within.calls a3 5 t164 _ A32.out).mono ?_); rintro e w' ⟨rfl, ⟨nd, rfl⟩⟩; refine ⟨_, rfl, ?_⟩; (try (rw [drewN_self w35]; generalize hq_ : World.drewN w35 _ = w35; have n0_ : Aside0 (Kd.R (Kd.int .i64) 3 w35 w.heap.size (fun k_ => some k_ ≠ (.slice Ao29 t154.length co29 : Value).ownBlock ∧ some k_ ≠ (v162 : Value).ownBlock) (.slice Ao28 t150.length co28) t150) := ⟨by rw [← hq_]; exact (by (with_reducible repeat (first | apply Kd.R_alloc | apply Kd.R_drewN | apply Kd.R_drew)); exact HO152.out)⟩; have n1_ : Aside0 (Kd.R (Kd.int .i64) 3 w35 w.heap.size (fun k_ => some k_ ≠ (.slice Ao28 t150.length co28 : Value).ownBlock ∧ some k_ ≠ (v162 : Value).ownBlock) (.slice Ao29 t154.length co29) t154) := ⟨by rw [← hq_]; exact (by (with_reducible repeat (first | apply Kd.R_alloc | apply Kd.R_drewN | apply Kd.R_drew)); exact HO156.out)⟩; have n2_ : Aside0 (Kd.R (Kd.int .i64) 3 w35 w.heap.size (fun k_ => ((True ∧ some k_ ≠ (.slice Ao28 t150.length co28 : Value).ownBlock) ∧ some k_ ≠ (.slice Ao29 t154.length co29 : Value).ownBlock)) v162 y161) := ⟨by rw [← hq_]; exact (by (with_reducible repeat (first | apply Kd.R_alloc | apply Kd.R_drewN | apply Kd.R_drew)); exact HO163.out)⟩; have n3_ : Aside0 (w35.heap[gb145]? = some (.cells #[.int .i64 a0_0, .slice A0_1 l0_1.length c0_1, .int .i64 a0_2, .slice A0_3 l0_3.length c0_3, .int .i64 a0_4] 26 (0, 0))) := ⟨by rw [← hq_]; exact (by (with_reducible repeat (first | refine blk_drewN ?_ _ | refine blk_drew ?_ | refine blk_alloc ?_ _)); exact BK145.out)⟩; have n4_ : Aside0 (w35.heap[gb158]? = some (.cells #[.int .i64 t149, .slice Ao28 t150.length co28, .int .i64 t153, .slice Ao29 t154.length co29, .int .i64 t157] 26 (0, 0))) := ⟨by rw [← hq_]; exact (by (with_reducible repeat (first | refine blk_drewN ?_ _ | refine blk_drew ?_ | refine blk_alloc ?_ _)); exact BK158.out)⟩; have n5_ : Aside0 (Below w.heap.size w w35) := ⟨by rw [← hq_]; exact (by repeat (first | (with_reducible first | exact HB.out | apply below_alloc | apply pw_below_drewN | apply below_drew1 | refine below_set ?_ GE145.out | refine below_set ?_ GE158.out) | exact HB.out))⟩; clear HO152 HO156 HO163 BK145 BK158 HB hq_; have HO152 := n0_; have HO156 := n1_; have HO163 := n2_; have BK145 := n3_; have BK158 := n4_; have HB := n5_; clear n0_ n1_ n2_ n3_ n4_ n5_)); obtain ⟨Ao37, co37, eo37⟩ := Kd.R_slice HO163.out; subst eo37; have p165 : 0 ≤ (t164 : Int) := of_decide_eq_true (by first | (with_reducible assumption) | assumption); have q165 : t164 < (y161.length : Int) := of_decide_eq_true (by first | (with_reducible assumption) | assumption); obtain ⟨ad165, e165, hx165_0⟩ := Kd.at_int (Kd.R_reads' HO163.out).2.2 t164 p165 q165; cases e165; replace p165 := eq_true p165; replace q165 := eq_true q165; have hnb38 := NB158_145.out; have hnc38 := NB145_158.out; have hcz39_0 : w35.cell? ⟨gb158, 0, none⟩ = some (.int .i64 t149) := (blk_cell BK158.out 0).trans rfl; have hcz39_1 : w35.cell? ⟨gb158, 1, none⟩ = some (.slice Ao28 t150.length co28) := (blk_cell BK158.out 1).trans rfl; have hcz39_2 : w35.cell? ⟨gb158, 2, none⟩ = some (.int .i64 t153) := (blk_cell BK158.out 2).trans rfl; have hcz39_3 : w35.cell? ⟨gb158, 3, none⟩ = some (.slice Ao29 t154.length co29) := (blk_cell BK158.out 3).trans rfl; have hcz39_4 : w35.cell? ⟨gb158, 4, none⟩ = some (.int .i64 t157) := (blk_cell BK158.out 4).trans rfl; have hfz39_0 := blk_frozen BK158.out 0; have hfz39_1 := blk_frozen BK158.out 1; have hfz39_2 := blk_frozen BK158.out 2; have hfz39_3 := blk_frozen BK158.out 3; have hfz39_4 := blk_frozen BK158.out 4))
                      go_meet
                      case rel => exact ⟨_, (rd y161 t164), (t150), (t153), (t154), (t157), (.slice Ao28 t150.length co28), (.slice Ao29 t154.length co29), H', ⟨by have := HJ6.out; first | omega | exact Nat.le_refl _⟩, ⟨by (with_reducible repeat (first | apply Kd.R_alloc | apply Kd.R_drewN | apply Kd.R_drew)); exact Kd.R_mono (Kd.R_far (p := ⟨gb158, 0, none⟩) (Kd.R_types HO152.out BK158.out (by decide)) (fun _ hk => hk.2) (.int .i64 (rd y161 t164))) (fun _ hk => hk.1.1)⟩, ⟨by (with_reducible repeat (first | apply Kd.R_alloc | apply Kd.R_drewN | apply Kd.R_drew)); exact Kd.R_mono (Kd.R_far (p := ⟨gb158, 0, none⟩) (Kd.R_types HO156.out BK158.out (by decide)) (fun _ hk => hk.2) (.int .i64 (rd y161 t164))) (fun _ hk => hk.1.1)⟩, ⟨by (with_reducible repeat (first | refine blk_drewN ?_ _ | refine blk_drew ?_ | refine blk_alloc ?_ _)); refine blk_far ?_ NB145_158.out _; (with_reducible repeat (first | refine blk_drewN ?_ _ | refine blk_drew ?_ | refine blk_alloc ?_ _)); exact BK145.out⟩, ⟨by (with_reducible repeat (first | refine blk_drewN ?_ _ | refine blk_drew ?_ | refine blk_alloc ?_ _)); refine blk_put (cs := #[.int .i64 t149, .slice Ao28 t150.length co28, .int .i64 t153, .slice Ao29 t154.length co29, .int .i64 t157]) ?_ 0 _ rfl; (with_reducible repeat (first | refine blk_drewN ?_ _ | refine blk_drew ?_ | refine blk_alloc ?_ _)); exact BK158.out⟩, ⟨by repeat (first | (with_reducible first | exact HB.out | apply below_alloc | apply pw_below_drewN | apply below_drew1 | refine below_set ?_ GE145.out | refine below_set ?_ GE158.out) | exact HB.out)⟩⟩
                    · rw [if_neg c34] at H
                      exact absurd H (by simp)
                  · rw [if_neg c33] at H
                    exact absurd H (by simp)
                · rw [if_neg c31] at H
                  have c31b0 : (t160 == 0) = false := beq_eq_false_iff_ne.mpr c31
                  have c31b1 : (t160 != 0) = true := bne_iff_ne.mpr c31
                  (first | rw [c31b0] | (simp only [i64_w, i32_w]; rw [c31b0]) | skip)
                  by_cases c40 : t160 = 1
                  · rw [if_pos c40] at H
                    have c40b0 : (t160 == 1) = true := beq_iff_eq.mpr c40
                    have c40b1 : (t160 != 1) = false := bne_eq_false_iff_eq.mpr c40
                    clear c40
                    obtain ⟨y166, hy166⟩ : ∃ y_ : List Int, y_ = (([19, 20, (-1), (-61), (-62), a3] : List Int)) := ⟨_, rfl⟩
                    replace H : ((interlocutorlaw4_within.f a3 6).bind fun t169 => (if 0 ≤ t169 then (if t169 < (y166.length : Int) then (if 0 < (t150.length : Int) then (interlocutorlaw4_GramRight.j1 kj6 a0_0 l0_1 a0_2 l0_3 a0_4 t149 (t150.set (0 : Int).toNat (rd y166 t169)) t153 t154 t157) else (none)) else (none)) else (none))) = some r := by first | (rw [hy166]; with_reducible exact H) | (have H2_ := (Option.bind_some _ _).symm.trans H; rw [hy166]; with_reducible exact H2_) | (have H2_ := (Option.bind_some _ _).symm.trans H; with_reducible exact H2_) | with_reducible exact H | (rw [hy166]; exact H) | exact H
                    have Ny166 := Aside0.mk hy166
                    clear hy166
                    replace H := Option.bind_eq_some_iff.mp H
                    obtain ⟨t169, A410, H⟩ := H
                    replace H : (if 0 ≤ t169 then (if t169 < (y166.length : Int) then (if 0 < (t150.length : Int) then (interlocutorlaw4_GramRight.j1 kj6 a0_0 l0_1 a0_2 l0_3 a0_4 t149 (t150.set (0 : Int).toNat (rd y166 t169)) t153 t154 t157) else (none)) else (none)) else (none)) = some r := H
                    have A41 := Aside0.mk A410
                    clear A410
                    by_cases c42 : 0 ≤ t169
                    · rw [if_pos c42] at H
                      have c42b0 : decide (0 ≤ t169) = true := decide_eq_true c42
                      clear c42
                      by_cases c43 : t169 < (y166.length : Int)
                      · rw [if_pos c43] at H
                        have c43b0 : decide (t169 < (y166.length : Int)) = true := decide_eq_true c43
                        clear c43
                        by_cases c44 : 0 < (t150.length : Int)
                        · rw [if_pos c44] at H
                          have c44b0 : decide (0 < (t150.length : Int)) = true := decide_eq_true c44
                          have c44b1 : decide (0 < t150.length) = true := decide_eq_true (by omega)
                          clear c44
                          obtain ⟨y171, hy171⟩ : ∃ y_ : List Int, y_ = (t150.set (0 : Int).toNat (rd y166 t169)) := ⟨_, rfl⟩
                          replace H : (interlocutorlaw4_GramRight.j1 kj6 a0_0 l0_1 a0_2 l0_3 a0_4 t149 y171 t153 t154 t157) = some r := by first | (rw [hy171]; with_reducible exact H) | (have H2_ := (Option.bind_some _ _).symm.trans H; rw [hy171]; with_reducible exact H2_) | (have H2_ := (Option.bind_some _ _).symm.trans H; with_reducible exact H2_) | with_reducible exact H | (rw [hy171]; exact H) | exact H
                          have Ny171 := Aside0.mk hy171
                          clear hy171
                          have H' := Aside0.mk H
                          clear H
                          try go_wp2
                          have pi170 : (0 ≤ (t169 : Int)) = True := eq_true (of_decide_eq_true (by first | (with_reducible assumption) | assumption))
                          have qi170 : (t169 < (y166.length : Int)) = True := eq_true (of_decide_eq_true (by first | (with_reducible assumption) | assumption))
                          have n0_ := Aside0.mk (Kd.R_drew (Kd.R_drewN HO152.out nd))
                          have n1_ := Aside0.mk (Kd.R_drew (Kd.R_drewN HO156.out nd))
                          have n2_ := Aside0.mk (blk_drew (blk_drewN BK145.out nd))
                          have n3_ := Aside0.mk (blk_drew (blk_drewN BK158.out nd))
                          have n4_ := Aside0.mk (below_drew1 (pw_below_drewN HB.out nd))
                          clear HO152
                          clear HO156
                          clear BK145
                          clear BK158
                          clear HB
                          have HO152 := n0_
                          have HO156 := n1_
                          have BK145 := n2_
                          have BK158 := n3_
                          have HB := n4_
                          clear n0_ n1_ n2_ n3_ n4_
                          refine start_ (n := 10) (S := fun w' => w'.cell? ⟨gb158, 0, none⟩ = some (.int .i64 t149) ∧ w'.cell? ⟨gb158, 1, none⟩ = some (.slice Ao28 t150.length co28) ∧ w'.cell? ⟨gb158, 2, none⟩ = some (.int .i64 t153) ∧ w'.cell? ⟨gb158, 3, none⟩ = some (.slice Ao29 t154.length co29) ∧ w'.cell? ⟨gb158, 4, none⟩ = some (.int .i64 t157)) (ds := [9]) #[false, false, false, false, false, false, false, false, false, false] (by kernel_rfl) rfl rfl ⟨(blk_cell BK158.out 0).trans rfl, (blk_cell BK158.out 1).trans rfl, (blk_cell BK158.out 2).trans rfl, (blk_cell BK158.out 3).trans rfl, (blk_cell BK158.out 4).trans rfl⟩ (fun hHeld => ?_); refine with_tabW interlocutorlaw4_GramRight.tab12 interlocutorlaw4_GramRight.bits12 (fun HT_ HW_ => ?_)
                          generalize (w30.drewN nd).drew = w46 at HO152 HO156 BK145 BK158 HB hHeld ⊢
                          refine pure_ (i := 0) (N := some 53) (v := ?_) (a' := ?_) #[true, false, false, false, false, false, false, false, false, false] rfl rfl (any_of HT_.out (by kernel_rfl)) (fun _ _ _ h => h) (Or.inl ⟨by rfl, ?_⟩) ?_ ?_
                          rotate_left
                          · intro w'
                            go_simp
                            with_reducible rfl
                          rotate_left
                          · simp only [Act.put, List.setIfInBounds_toArray, List.set_cons_zero, List.set_cons_succ, i64_w, i32_w]
                            rfl
                          refine pure_ (i := 2) (N := some 55) (v := ?_) (a' := ?_) #[true, false, true, false, false, false, false, false, false, false] rfl rfl (any_of HT_.out (by kernel_rfl)) (fun _ _ _ h => h) (Or.inl ⟨by rfl, ?_⟩) ?_ ?_
                          rotate_left
                          · intro w'
                            go_simp
                            with_reducible rfl
                          rotate_left
                          · simp only [Act.put, List.setIfInBounds_toArray, List.set_cons_zero, List.set_cons_succ, i64_w, i32_w]
                            rfl
                          refine pure_ (i := 4) (N := some 57) (v := ?_) (a' := ?_) #[true, false, true, false, true, false, false, false, false, false] rfl rfl (any_of HT_.out (by kernel_rfl)) (fun _ _ _ h => h) (Or.inl ⟨by rfl, ?_⟩) ?_ ?_
                          rotate_left
                          · intro w'
                            go_simp
                            with_reducible rfl
                          rotate_left
                          · simp only [Act.put, List.setIfInBounds_toArray, List.set_cons_zero, List.set_cons_succ, i64_w, i32_w]
                            rfl
                          refine take_ (i := 1) (N := some 54) (v := ?_) (a' := ?_) #[true, true, true, false, true, false, false, false, false, false] rfl rfl (take_ofW HT_.out HW_.out (by kernel_rfl)) (fun _ _ _ h => h) (Or.inl ⟨by rfl, ?_⟩) hHeld ?_ ?_
                          rotate_left
                          · rintro w' ⟨s0, s1, s2, s3, s4⟩
                            go_simp
                            with_reducible rfl
                          rotate_left
                          · simp only [Act.put, List.setIfInBounds_toArray, List.set_cons_zero, List.set_cons_succ, i64_w, i32_w]
                            rfl
                          refine join_ (σ := Value × Addr) 4 #[true, true, true, true, true, true, false, false, false, false] (fun s_ => [(56, s_.1), (58, .int .i64 t169)]) (fun s_ w' => (w'.cell? ⟨gb158, 0, none⟩ = some (.int .i64 t149) ∧ w'.cell? ⟨gb158, 1, none⟩ = some (.slice Ao28 t150.length co28) ∧ w'.cell? ⟨gb158, 2, none⟩ = some (.int .i64 t153) ∧ w'.cell? ⟨gb158, 3, none⟩ = some (.slice Ao29 t154.length co29) ∧ w'.cell? ⟨gb158, 4, none⟩ = some (.int .i64 t157)) ∧ (Kd.R (Kd.int .i64) 3 w' w.heap.size (fun k_ => some k_ ≠ (.slice Ao29 t154.length co29 : Value).ownBlock ∧ some k_ ≠ (s_.1 : Value).ownBlock) (.slice Ao28 t150.length co28) t150) ∧ (Kd.R (Kd.int .i64) 3 w' w.heap.size (fun k_ => some k_ ≠ (.slice Ao28 t150.length co28 : Value).ownBlock ∧ some k_ ≠ (s_.1 : Value).ownBlock) (.slice Ao29 t154.length co29) t154) ∧ (Kd.R (Kd.int .i64) 3 w' w.heap.size (fun k_ => some k_ ≠ (.slice Ao28 t150.length co28 : Value).ownBlock ∧ some k_ ≠ (.slice Ao29 t154.length co29 : Value).ownBlock) s_.1 y166) ∧ (∃ c_, (s_.1 : Value) = .slice (some s_.2) y166.length c_) ∧ (w'.heap[gb145]? = some (.cells #[.int .i64 a0_0, .slice A0_1 l0_1.length c0_1, .int .i64 a0_2, .slice A0_3 l0_3.length c0_3, .int .i64 a0_4] 26 (0, 0))) ∧ (w'.heap[gb158]? = some (.cells #[.int .i64 t149, .slice Ao28 t150.length co28, .int .i64 t153, .slice Ao29 t154.length co29, .int .i64 t157] 26 (0, 0))) ∧ (Below w.heap.size w w')) ?_ ?_
                          rotate_left
                          · intro hCont
                            refine two_ (i := 3) (j := 5) (Ni := some 56) (Nj := some 58) #[true, true, true, true, true, false, false, false, false, false] #[true, true, true, false, true, true, false, false, false, false] rfl rfl rfl rfl (two_of HT_.out (by kernel_rfl)) (by decide) (by decide) (fun K hK => ?_) (fun K hK => ?_)
                            · skip
                              refine Kd.R_lit_step (Kd.int .i64) _ 3 ?hg (N := 56) ?hd (xs := ([19, 20, (-1), (-61), (-62), a3] : List Int)) (inner := [.int .i64 19, .int .i64 20, .int .i64 (-1), .int .i64 (-61), .int .i64 (-62), .int .i64 a3]) (ok := fun _ => True) (okp := fun _ => True) ?hr ?hp (fun _ hk => hk) trivial (Below.refl _ _) (Nat.le_refl _) (by simp) ?_; (case hd => rfl); (case hg => rfl); (case hr => first | (go_simp; done) | (go_simp; rfl)); (case hp => exact (Reps.one (show Kd.M (Kd.int .i64) _ _ _ 19 [.int .i64 19] from rfl) (Reps.one (show Kd.M (Kd.int .i64) _ _ _ 20 [.int .i64 20] from rfl) (Reps.one (show Kd.M (Kd.int .i64) _ _ _ (-1) [.int .i64 (-1)] from rfl) (Reps.one (show Kd.M (Kd.int .i64) _ _ _ (-61) [.int .i64 (-61)] from rfl) (Reps.one (show Kd.M (Kd.int .i64) _ _ _ (-62) [.int .i64 (-62)] from rfl) (Reps.one (show Kd.M (Kd.int .i64) _ _ _ a3 [.int .i64 a3] from rfl) (Reps.none _ _))))))))
                              intro v167 w47 ho48 hb hg_ hnew_
                              clear hg_ hnew_
                              (first | rw [← Ny166.out] at ho48 | (simp only [Int.reduceToNat] at ho48; rw [← Ny166.out] at ho48))
                              have n0_ := Aside0.mk (Kd.R_elder' (by (with_reducible repeat (first | apply Kd.R_alloc | apply Kd.R_drewN | apply Kd.R_drew)); exact HO152.out) (Kd.R_base ho48) hb)
                              have n1_ := Aside0.mk (Kd.R_elder' (by (with_reducible repeat (first | apply Kd.R_alloc | apply Kd.R_drewN | apply Kd.R_drew)); exact HO156.out) (Kd.R_base ho48) hb)
                              have n2_ := Aside0.mk (Kd.R_lower (Kd.R_new' (Kd.R_new' ho48 (Kd.R_lt (by (with_reducible repeat (first | apply Kd.R_alloc | apply Kd.R_drewN | apply Kd.R_drew)); exact HO152.out))) (Kd.R_lt (by (with_reducible repeat (first | apply Kd.R_alloc | apply Kd.R_drewN | apply Kd.R_drew)); exact HO156.out))) (below_size (by repeat (first | (with_reducible first | exact HB.out | apply below_alloc | apply pw_below_drewN | apply below_drew1 | refine below_set ?_ GE145.out | refine below_set ?_ GE158.out) | exact HB.out))))
                              have n3_ := Aside0.mk (blk_below (g := gb145) (o := .cells #[.int .i64 a0_0, .slice A0_1 l0_1.length c0_1, .int .i64 a0_2, .slice A0_3 l0_3.length c0_3, .int .i64 a0_4] 26 (0, 0)) (by (with_reducible repeat (first | refine blk_drewN ?_ _ | refine blk_drew ?_ | refine blk_alloc ?_ _)); exact BK145.out) hb)
                              have n4_ := Aside0.mk (blk_below (g := gb158) (o := .cells #[.int .i64 t149, .slice Ao28 t150.length co28, .int .i64 t153, .slice Ao29 t154.length co29, .int .i64 t157] 26 (0, 0)) (by (with_reducible repeat (first | refine blk_drewN ?_ _ | refine blk_drew ?_ | refine blk_alloc ?_ _)); exact BK158.out) hb)
                              have n5_ := Aside0.mk (below_step (by repeat (first | (with_reducible first | exact HB.out | apply below_alloc | apply pw_below_drewN | apply below_drew1 | refine below_set ?_ GE145.out | refine below_set ?_ GE158.out) | exact HB.out)) hb)
                              clear HO152
                              clear HO156
                              clear BK145
                              clear BK158
                              clear HB
                              have HO152 := n0_
                              have HO156 := n1_
                              have HO168 := n2_
                              have BK145 := n3_
                              have BK158 := n4_
                              have HB := n5_
                              clear n0_ n1_ n2_ n3_ n4_ n5_
                              clear hb ho48
                              obtain ⟨Ao49, co49, eo49⟩ := Kd.R_slice HO168.out
                              subst eo49
                              obtain ⟨ado49, fo49, _⟩ := Kd.at_int (Kd.R_reads' HO168.out).2.2 0 (by decide) (by rw [Ny166.out]; simp)
                              cases fo49
                              refine hK.out _ _ ⟨(blk_cell BK158.out 0).trans rfl, (blk_cell BK158.out 1).trans rfl, (blk_cell BK158.out 2).trans rfl, (blk_cell BK158.out 3).trans rfl, (blk_cell BK158.out 4).trans rfl⟩ (fun hHeld => ?_)
                              clear hK K
                              refine norm_ (a' := ?_) ?_ ?_
                              rotate_left
                              · show Act.put _ (some 56) _ = _
                                simp only [Act.put, List.setIfInBounds_toArray, List.set_cons_zero, List.set_cons_succ, i64_w, i32_w]
                                rfl
                              refine one_ (i := 5) (N := some 58) #[true, true, true, true, true, true, false, false, false, false] rfl rfl (one_of HT_.out (by kernel_rfl)) (by decide) (fun K hK => ?_)
                              refine goes_ Try.func17 (by kernel_rfl) rfl #[.int .i64 a3, .int .i64 6] (by rfl) rfl rfl (by (try simp only [List.map_toArray, List.map_cons, List.map_nil]); first | done | rfl | (simp only [List.length_drop, List.length_take]; rfl)) ?_
                              with_reducible refine (interlocutorlaw4_within.calls a3 6 t169 _ A41.out).mono ?_
                              rintro e w' ⟨rfl, ⟨nd, rfl⟩⟩
                              refine ⟨_, rfl, ?_⟩
                              refine hK.out _ _ ⟨(blk_cell BK158.out 0).trans rfl, (blk_cell BK158.out 1).trans rfl, (blk_cell BK158.out 2).trans rfl, (blk_cell BK158.out 3).trans rfl, (blk_cell BK158.out 4).trans rfl⟩ (fun hHeld => ?_)
                              clear hK K
                              refine norm_ (a' := ?_) ?_ ?_
                              rotate_left
                              · show Act.put _ (some 58) _ = _
                                simp only [Act.put, List.setIfInBounds_toArray, List.set_cons_zero, List.set_cons_succ, i64_w, i32_w]
                                rfl
                              exact norm_ (by simp only [putAll, Act.put, List.setIfInBounds_toArray, List.set_cons_zero, List.set_cons_succ]) (hCont (.slice (some ado49) y166.length co49, ado49) _ ⟨hHeld, (by (with_reducible repeat (first | apply Kd.R_alloc | apply Kd.R_drewN | apply Kd.R_drew)); exact HO152.out), (by (with_reducible repeat (first | apply Kd.R_alloc | apply Kd.R_drewN | apply Kd.R_drew)); exact HO156.out), (by (with_reducible repeat (first | apply Kd.R_alloc | apply Kd.R_drewN | apply Kd.R_drew)); exact Kd.R_mono HO168.out (fun _ hk => ⟨hk.1.2, hk.2⟩)), ⟨_, rfl⟩, (by (with_reducible repeat (first | refine blk_drewN ?_ _ | refine blk_drew ?_ | refine blk_alloc ?_ _)); exact BK145.out), (by (with_reducible repeat (first | refine blk_drewN ?_ _ | refine blk_drew ?_ | refine blk_alloc ?_ _)); exact BK158.out), (by repeat (first | (with_reducible first | exact HB.out | apply below_alloc | apply pw_below_drewN | apply below_drew1 | refine below_set ?_ GE145.out | refine below_set ?_ GE158.out) | exact HB.out))⟩)
                            · skip
                              refine goes_ Try.func17 (by kernel_rfl) rfl #[.int .i64 a3, .int .i64 6] (by rfl) rfl rfl (by (try simp only [List.map_toArray, List.map_cons, List.map_nil]); first | done | rfl | (simp only [List.length_drop, List.length_take]; rfl)) ?_
                              with_reducible refine (interlocutorlaw4_within.calls a3 6 t169 _ A41.out).mono ?_
                              rintro e w' ⟨rfl, ⟨nd, rfl⟩⟩
                              refine ⟨_, rfl, ?_⟩
                              refine hK.out _ _ ⟨(blk_cell BK158.out 0).trans rfl, (blk_cell BK158.out 1).trans rfl, (blk_cell BK158.out 2).trans rfl, (blk_cell BK158.out 3).trans rfl, (blk_cell BK158.out 4).trans rfl⟩ (fun hHeld => ?_)
                              clear hK K
                              refine norm_ (a' := ?_) ?_ ?_
                              rotate_left
                              · show Act.put _ (some 58) _ = _
                                simp only [Act.put, List.setIfInBounds_toArray, List.set_cons_zero, List.set_cons_succ, i64_w, i32_w]
                                rfl
                              refine one_ (i := 3) (N := some 56) #[true, true, true, true, true, true, false, false, false, false] rfl rfl (one_of HT_.out (by kernel_rfl)) (by decide) (fun K hK => ?_)
                              refine Kd.R_lit_step (Kd.int .i64) _ 3 ?hg (N := 56) ?hd (xs := ([19, 20, (-1), (-61), (-62), a3] : List Int)) (inner := [.int .i64 19, .int .i64 20, .int .i64 (-1), .int .i64 (-61), .int .i64 (-62), .int .i64 a3]) (ok := fun _ => True) (okp := fun _ => True) ?hr ?hp (fun _ hk => hk) trivial (Below.refl _ _) (Nat.le_refl _) (by simp) ?_; (case hd => rfl); (case hg => rfl); (case hr => first | (go_simp; done) | (go_simp; rfl)); (case hp => exact (Reps.one (show Kd.M (Kd.int .i64) _ _ _ 19 [.int .i64 19] from rfl) (Reps.one (show Kd.M (Kd.int .i64) _ _ _ 20 [.int .i64 20] from rfl) (Reps.one (show Kd.M (Kd.int .i64) _ _ _ (-1) [.int .i64 (-1)] from rfl) (Reps.one (show Kd.M (Kd.int .i64) _ _ _ (-61) [.int .i64 (-61)] from rfl) (Reps.one (show Kd.M (Kd.int .i64) _ _ _ (-62) [.int .i64 (-62)] from rfl) (Reps.one (show Kd.M (Kd.int .i64) _ _ _ a3 [.int .i64 a3] from rfl) (Reps.none _ _))))))))
                              intro v167 w47 ho48 hb hg_ hnew_
                              clear hg_ hnew_
                              (first | rw [← Ny166.out] at ho48 | (simp only [Int.reduceToNat] at ho48; rw [← Ny166.out] at ho48))
                              have n0_ := Aside0.mk (Kd.R_elder' (by (with_reducible repeat (first | apply Kd.R_alloc | apply Kd.R_drewN | apply Kd.R_drew)); exact HO152.out) (Kd.R_base ho48) hb)
                              have n1_ := Aside0.mk (Kd.R_elder' (by (with_reducible repeat (first | apply Kd.R_alloc | apply Kd.R_drewN | apply Kd.R_drew)); exact HO156.out) (Kd.R_base ho48) hb)
                              have n2_ := Aside0.mk (Kd.R_lower (Kd.R_new' (Kd.R_new' ho48 (Kd.R_lt (by (with_reducible repeat (first | apply Kd.R_alloc | apply Kd.R_drewN | apply Kd.R_drew)); exact HO152.out))) (Kd.R_lt (by (with_reducible repeat (first | apply Kd.R_alloc | apply Kd.R_drewN | apply Kd.R_drew)); exact HO156.out))) (below_size (by repeat (first | (with_reducible first | exact HB.out | apply below_alloc | apply pw_below_drewN | apply below_drew1 | refine below_set ?_ GE145.out | refine below_set ?_ GE158.out) | exact HB.out))))
                              have n3_ := Aside0.mk (blk_below (g := gb145) (o := .cells #[.int .i64 a0_0, .slice A0_1 l0_1.length c0_1, .int .i64 a0_2, .slice A0_3 l0_3.length c0_3, .int .i64 a0_4] 26 (0, 0)) (by (with_reducible repeat (first | refine blk_drewN ?_ _ | refine blk_drew ?_ | refine blk_alloc ?_ _)); exact BK145.out) hb)
                              have n4_ := Aside0.mk (blk_below (g := gb158) (o := .cells #[.int .i64 t149, .slice Ao28 t150.length co28, .int .i64 t153, .slice Ao29 t154.length co29, .int .i64 t157] 26 (0, 0)) (by (with_reducible repeat (first | refine blk_drewN ?_ _ | refine blk_drew ?_ | refine blk_alloc ?_ _)); exact BK158.out) hb)
                              have n5_ := Aside0.mk (below_step (by repeat (first | (with_reducible first | exact HB.out | apply below_alloc | apply pw_below_drewN | apply below_drew1 | refine below_set ?_ GE145.out | refine below_set ?_ GE158.out) | exact HB.out)) hb)
                              clear HO152
                              clear HO156
                              clear BK145
                              clear BK158
                              clear HB
                              have HO152 := n0_
                              have HO156 := n1_
                              have HO168 := n2_
                              have BK145 := n3_
                              have BK158 := n4_
                              have HB := n5_
                              clear n0_ n1_ n2_ n3_ n4_ n5_
                              clear hb ho48
                              obtain ⟨Ao49, co49, eo49⟩ := Kd.R_slice HO168.out
                              subst eo49
                              obtain ⟨ado49, fo49, _⟩ := Kd.at_int (Kd.R_reads' HO168.out).2.2 0 (by decide) (by rw [Ny166.out]; simp)
                              cases fo49
                              refine hK.out _ _ ⟨(blk_cell BK158.out 0).trans rfl, (blk_cell BK158.out 1).trans rfl, (blk_cell BK158.out 2).trans rfl, (blk_cell BK158.out 3).trans rfl, (blk_cell BK158.out 4).trans rfl⟩ (fun hHeld => ?_)
                              clear hK K
                              refine norm_ (a' := ?_) ?_ ?_
                              rotate_left
                              · show Act.put _ (some 56) _ = _
                                simp only [Act.put, List.setIfInBounds_toArray, List.set_cons_zero, List.set_cons_succ, i64_w, i32_w]
                                rfl
                              exact norm_ (by simp only [putAll, Act.put, List.setIfInBounds_toArray, List.set_cons_zero, List.set_cons_succ]) (hCont (.slice (some ado49) y166.length co49, ado49) _ ⟨hHeld, (by (with_reducible repeat (first | apply Kd.R_alloc | apply Kd.R_drewN | apply Kd.R_drew)); exact HO152.out), (by (with_reducible repeat (first | apply Kd.R_alloc | apply Kd.R_drewN | apply Kd.R_drew)); exact HO156.out), (by (with_reducible repeat (first | apply Kd.R_alloc | apply Kd.R_drewN | apply Kd.R_drew)); exact Kd.R_mono HO168.out (fun _ hk => ⟨hk.1.2, hk.2⟩)), ⟨_, rfl⟩, (by (with_reducible repeat (first | refine blk_drewN ?_ _ | refine blk_drew ?_ | refine blk_alloc ?_ _)); exact BK145.out), (by (with_reducible repeat (first | refine blk_drewN ?_ _ | refine blk_drew ?_ | refine blk_alloc ?_ _)); exact BK158.out), (by repeat (first | (with_reducible first | exact HB.out | apply below_alloc | apply pw_below_drewN | apply below_drew1 | refine below_set ?_ GE145.out | refine below_set ?_ GE158.out) | exact HB.out))⟩)
                          rintro ⟨v167, adz_v167⟩ w50 ⟨hS_, h0_, h1_, h2_, h3_, h4_, h5_, h6_⟩
                          have n0_ : Aside0 (Kd.R (Kd.int .i64) 3 w50 w.heap.size (fun k_ => some k_ ≠ (.slice Ao29 t154.length co29 : Value).ownBlock ∧ some k_ ≠ (v167 : Value).ownBlock) (.slice Ao28 t150.length co28) t150) := ⟨h0_⟩
                          have n1_ : Aside0 (Kd.R (Kd.int .i64) 3 w50 w.heap.size (fun k_ => some k_ ≠ (.slice Ao28 t150.length co28 : Value).ownBlock ∧ some k_ ≠ (v167 : Value).ownBlock) (.slice Ao29 t154.length co29) t154) := ⟨h1_⟩
                          have n2_ : Aside0 (Kd.R (Kd.int .i64) 3 w50 w.heap.size (fun k_ => some k_ ≠ (.slice Ao28 t150.length co28 : Value).ownBlock ∧ some k_ ≠ (.slice Ao29 t154.length co29 : Value).ownBlock) v167 y166) := ⟨h2_⟩
                          have n3_ : Aside0 (∃ c_, (v167 : Value) = .slice (some adz_v167) y166.length c_) := ⟨h3_⟩
                          have n4_ : Aside0 (w50.heap[gb145]? = some (.cells #[.int .i64 a0_0, .slice A0_1 l0_1.length c0_1, .int .i64 a0_2, .slice A0_3 l0_3.length c0_3, .int .i64 a0_4] 26 (0, 0))) := ⟨h4_⟩
                          have n5_ : Aside0 (w50.heap[gb158]? = some (.cells #[.int .i64 t149, .slice Ao28 t150.length co28, .int .i64 t153, .slice Ao29 t154.length co29, .int .i64 t157] 26 (0, 0))) := ⟨h5_⟩
                          have n6_ : Aside0 (Below w.heap.size w w50) := ⟨h6_⟩
                          clear HO152
                          clear HO156
                          clear BK145
                          clear BK158
                          clear HB
                          clear h0_ h1_ h2_ h3_ h4_ h5_ h6_
                          have HO152 := n0_
                          have HO156 := n1_
                          have HO168 := n2_
                          have HA_HO168 := n3_
                          have BK145 := n4_
                          have BK158 := n5_
                          have HB := n6_
                          clear n0_ n1_ n2_ n3_ n4_ n5_ n6_
                          have hHeld : w50.cell? ⟨gb158, 0, none⟩ = some (.int .i64 t149) ∧ w50.cell? ⟨gb158, 1, none⟩ = some (.slice Ao28 t150.length co28) ∧ w50.cell? ⟨gb158, 2, none⟩ = some (.int .i64 t153) ∧ w50.cell? ⟨gb158, 3, none⟩ = some (.slice Ao29 t154.length co29) ∧ w50.cell? ⟨gb158, 4, none⟩ = some (.int .i64 t157) := hS_
                          obtain ⟨co51, eo51⟩ := HA_HO168.out
                          clear HA_HO168
                          subst eo51
                          have p45 : 0 ≤ (0 : Int) := (by omega)
                          have q45 : (0 : Int) < ((t150.length : Int) : Int) := of_decide_eq_true (by first | (with_reducible assumption) | assumption)
                          have qi45 : (0 < t150.length) = True := eq_true (by omega)
                          obtain ⟨go45, co45, eo45, gb45, gl45, cl45, HG45⟩ := Kd.R_form HO152.out (by omega)
                          (first | cases eo45 | (injection eo45 with ea_ en_ ec_; (first | subst ea_ | (injection ea_ with ea_; subst ea_)); subst ec_; clear en_))
                          have GB45 := Aside0.mk gb45
                          have GG45 := Aside0.mk HG45
                          clear gb45 gl45 HG45
                          obtain ⟨hx45_0, hf45_0⟩ := Kd.R_celln 0 HO152.out (0 : Int) p45 q45
                          (try rw [show ((0 : Int)).toNat = 0 from rfl] at hx45_0)
                          (try simp only [Nat.reduceMul, Nat.zero_mul, Nat.zero_add, Nat.reduceAdd] at hx45_0)
                          (try rw [show ((0 : Int)).toNat = 0 from rfl] at hf45_0)
                          (try simp only [Nat.reduceMul, Nat.zero_mul, Nat.zero_add, Nat.reduceAdd] at hf45_0)
                          replace p45 := eq_true p45
                          replace q45 := eq_true q45
                          have HP52 := Kd.R_putn HO152.out (0 : Int) (rd y166 t169)
                          rw [← Ny171.out] at HP52
                          have HQ52 := Aside0.mk HP52
                          clear HP52
                          refine norm_ (a' := ?_) ?_ ?_
                          rotate_left
                          · simp only [putAll, Act.put, List.setIfInBounds_toArray, List.set_cons_zero, List.set_cons_succ]
                            rfl
                          refine pure_ (i := 6) (N := some 59) (v := ?_) (a' := ?_) #[true, true, true, true, true, true, true, false, false, false] rfl rfl (any_of HT_.out (by kernel_rfl)) (fun _ _ _ h => h) (Or.inl ⟨by rfl, ?_⟩) ?_ ?_
                          rotate_left
                          · intro w'
                            go_simp
                            with_reducible rfl
                          rotate_left
                          · simp only [Act.put, List.setIfInBounds_toArray, List.set_cons_zero, List.set_cons_succ, i64_w, i32_w]
                            rfl
                          refine one_ (i := 7) (N := some 60) #[true, true, true, true, true, true, true, true, false, false] rfl rfl (one_of HT_.out (by kernel_rfl)) (by decide) (fun K hK => ?_)
                          (have p170 : 0 ≤ (t169 : Int) := of_decide_eq_true (by first | (with_reducible assumption) | assumption); have q170 : t169 < (y166.length : Int) := of_decide_eq_true (by first | (with_reducible assumption) | assumption); obtain ⟨ad170, e170, hx170_0⟩ := Kd.at_int (Kd.R_reads' HO168.out).2.2 t169 p170 q170; obtain rfl : adz_v167 = ad170 := (by injection e170))
                          refine value_ (w1 := ?_) (v := ?_) (by rfl) rfl ?_ ?_
                          rotate_left 2
                          · go_simp
                            constructor
                            · rfl
                            · rfl
                          clear hx170_0
                          refine hK.out _ _ ⟨(blk_cell BK158.out 0).trans rfl, (blk_cell BK158.out 1).trans rfl, (blk_cell BK158.out 2).trans rfl, (blk_cell BK158.out 3).trans rfl, (blk_cell BK158.out 4).trans rfl⟩ (fun hHeld => ?_)
                          clear hK K
                          refine norm_ (a' := ?_) ?_ ?_
                          rotate_left
                          · show Act.put _ (some 60) _ = _
                            simp only [Act.put, List.setIfInBounds_toArray, List.set_cons_zero, List.set_cons_succ, i64_w, i32_w]
                            rfl
                          refine pure_ (i := 8) (N := some 61) (v := ?_) (a' := ?_) #[true, true, true, true, true, true, true, true, true, false] rfl rfl (any_of HT_.out (by kernel_rfl)) (fun _ _ _ h => h) (Or.inl ⟨by rfl, ?_⟩) ?_ ?_
                          rotate_left
                          · intro w'
                            go_simp
                            with_reducible rfl
                          rotate_left
                          · simp only [Act.put, List.setIfInBounds_toArray, List.set_cons_zero, List.set_cons_succ, i64_w, i32_w]
                            rfl
                          refine last_ (i := 9) (N := none) #[true, true, true, true, true, true, true, true, true, true] rfl rfl (one_of HT_.out (by kernel_rfl)) (by decide) (fun K hK => ?_)
                          refine skip_ (w1 := ?_) (by rfl) rfl ?_ ?_
                          rotate_left
                          · go_simp
                            rfl
                          refine hK.out _ _ ?_
                          clear hK K
                          refine done_ (done_of HT_.out (by kernel_rfl)) ?_
                          try go_wp2
                          go_meet
                          case rel => exact ⟨_, (t149), (y171), (t153), (t154), (t157), (.slice (some ⟨go45, 0, none⟩) t150.length co28), (.slice Ao29 t154.length co29), H', ⟨by have := HJ6.out; first | omega | exact Nat.le_refl _⟩, ⟨by (with_reducible repeat (first | apply Kd.R_alloc | apply Kd.R_drewN | apply Kd.R_drew)); exact Kd.R_mono HQ52.out (fun _ hk => hk.1)⟩, ⟨by (with_reducible repeat (first | apply Kd.R_alloc | apply Kd.R_drewN | apply Kd.R_drew)); exact Kd.R_mono (Kd.R_far (p := ⟨go45, 0, none⟩) (Kd.R_mono HO156.out (fun k_ hk => (⟨hk, fun e_ => hk.1 (by rw [e_]; rfl)⟩ : _ ∧ k_ ≠ go45))) (fun _ hk => hk.2) (.int .i64 (rd y166 t169))) (fun _ hk => hk.1.1)⟩, ⟨by (with_reducible repeat (first | refine blk_drewN ?_ _ | refine blk_drew ?_ | refine blk_alloc ?_ _)); refine blk_far ?_ (by have h_ := Kd.R_ne HO152.out BK145.out (by decide); intro e_; exact h_ (by rw [e_]; rfl)) _; (with_reducible repeat (first | refine blk_drewN ?_ _ | refine blk_drew ?_ | refine blk_alloc ?_ _)); exact BK145.out⟩, ⟨by (with_reducible repeat (first | refine blk_drewN ?_ _ | refine blk_drew ?_ | refine blk_alloc ?_ _)); refine blk_far ?_ (by have h_ := Kd.R_ne HO152.out BK158.out (by decide); intro e_; exact h_ (by rw [e_]; rfl)) _; (with_reducible repeat (first | refine blk_drewN ?_ _ | refine blk_drew ?_ | refine blk_alloc ?_ _)); exact BK158.out⟩, ⟨by repeat (first | (with_reducible first | exact HB.out | apply below_alloc | apply pw_below_drewN | apply below_drew1 | refine below_set ?_ GB45.out | refine below_set ?_ GE145.out | refine below_set ?_ GE158.out) | exact HB.out)⟩⟩
                        · rw [if_neg c44] at H
                          exact absurd H (by simp)
                      · rw [if_neg c43] at H
                        exact absurd H (by simp)
                    · rw [if_neg c42] at H
                      exact absurd H (by simp)
                  · rw [if_neg c40] at H
                    have c40b0 : (t160 == 1) = false := beq_eq_false_iff_ne.mpr c40
                    have c40b1 : (t160 != 1) = true := bne_iff_ne.mpr c40
                    by_cases c53 : t160 = 2
                    · rw [if_pos c53] at H
                      have c53b0 : (t160 == 2) = true := beq_iff_eq.mpr c53
                      have c53b1 : (t160 != 2) = false := bne_eq_false_iff_eq.mpr c53
                      clear c53
                      obtain ⟨y172, hy172⟩ : ∃ y_ : List Int, y_ = (([] : List Int)) := ⟨_, rfl⟩
                      replace H : (if y172.length + t150.length < 17592186044416 then ((some (y172 ++ t150 : List Int)).bind fun y175 => ((some (([0, 0, 0, 0] : List Int) : List Int)).bind fun y178 => (if y175.length + y178.length < 17592186044416 then (interlocutorlaw4_GramRight.j1 kj6 a0_0 l0_1 a0_2 l0_3 a0_4 t149 (y175 ++ y178) t153 t154 t157) else (none)))) else (none)) = some r := by first | (rw [hy172]; with_reducible exact H) | (have H2_ := (Option.bind_some _ _).symm.trans H; rw [hy172]; with_reducible exact H2_) | (have H2_ := (Option.bind_some _ _).symm.trans H; with_reducible exact H2_) | with_reducible exact H | (rw [hy172]; exact H) | exact H
                      have Ny172 := Aside0.mk hy172
                      clear hy172
                      by_cases c54 : y172.length + t150.length < 17592186044416
                      · rw [if_pos c54] at H
                        have LMc54 := Aside0.mk c54
                        clear c54
                        obtain ⟨y175, hy175⟩ : ∃ y_ : List Int, y_ = (y172 ++ t150) := ⟨_, rfl⟩
                        replace H : ((some (([0, 0, 0, 0] : List Int) : List Int)).bind fun y178 => (if y175.length + y178.length < 17592186044416 then (interlocutorlaw4_GramRight.j1 kj6 a0_0 l0_1 a0_2 l0_3 a0_4 t149 (y175 ++ y178) t153 t154 t157) else (none))) = some r := by first | (rw [hy175]; with_reducible exact H) | (have H2_ := (Option.bind_some _ _).symm.trans H; rw [hy175]; with_reducible exact H2_) | (have H2_ := (Option.bind_some _ _).symm.trans H; with_reducible exact H2_) | with_reducible exact H | (rw [hy175]; exact H) | exact H
                        have Ny175 := Aside0.mk hy175
                        clear hy175
                        obtain ⟨y178, hy178⟩ : ∃ y_ : List Int, y_ = (([0, 0, 0, 0] : List Int)) := ⟨_, rfl⟩
                        replace H : (if y175.length + y178.length < 17592186044416 then (interlocutorlaw4_GramRight.j1 kj6 a0_0 l0_1 a0_2 l0_3 a0_4 t149 (y175 ++ y178) t153 t154 t157) else (none)) = some r := by first | (rw [hy178]; with_reducible exact H) | (have H2_ := (Option.bind_some _ _).symm.trans H; rw [hy178]; with_reducible exact H2_) | (have H2_ := (Option.bind_some _ _).symm.trans H; with_reducible exact H2_) | with_reducible exact H | (rw [hy178]; exact H) | exact H
                        have Ny178 := Aside0.mk hy178
                        clear hy178
                        by_cases c55 : y175.length + y178.length < 17592186044416
                        · rw [if_pos c55] at H
                          have LMc55 := Aside0.mk c55
                          clear c55
                          obtain ⟨y181, hy181⟩ : ∃ y_ : List Int, y_ = (y175 ++ y178) := ⟨_, rfl⟩
                          replace H : (interlocutorlaw4_GramRight.j1 kj6 a0_0 l0_1 a0_2 l0_3 a0_4 t149 y181 t153 t154 t157) = some r := by first | (rw [hy181]; with_reducible exact H) | (have H2_ := (Option.bind_some _ _).symm.trans H; rw [hy181]; with_reducible exact H2_) | (have H2_ := (Option.bind_some _ _).symm.trans H; with_reducible exact H2_) | with_reducible exact H | (rw [hy181]; exact H) | exact H
                          have Ny181 := Aside0.mk hy181
                          clear hy181
                          have H' := Aside0.mk H
                          clear H
                          go_wp2_with (first | ((with_reducible refine gate_dst (N := 64) rfl ?_); (try (refine gate_guard (by rfl) ?_; dsimp only)); refine Kd.R_lit (Kd.int .i64) _ 3 ?hg (N := 64) ?hd (xs := ([] : List Int)) (inner := []) (ok := fun _ => True) (okp := fun _ => True) ?hr ?hp (fun _ hk => hk) trivial (Below.refl _ _) (Nat.le_refl _) (by simp) ?_; (case hd => rfl); (case hg => rfl); (case hr => first | (go_simp; done) | (go_simp; rfl)); (case hp => exact (Reps.none _ _)); intro v173 w56 ho57 hb hg_ hnew_; clear hg_ hnew_; (first | rw [← Ny172.out] at ho57 | (simp only [Int.reduceToNat] at ho57; rw [← Ny172.out] at ho57)); have n0_ := Aside0.mk (Kd.R_elder' (by (with_reducible repeat (first | apply Kd.R_alloc | apply Kd.R_drewN | apply Kd.R_drew)); exact HO152.out) (Kd.R_base ho57) hb); have n1_ := Aside0.mk (Kd.R_elder' (by (with_reducible repeat (first | apply Kd.R_alloc | apply Kd.R_drewN | apply Kd.R_drew)); exact HO156.out) (Kd.R_base ho57) hb); have n2_ := Aside0.mk (Kd.R_lower (Kd.R_new' (Kd.R_new' ho57 (Kd.R_lt (by (with_reducible repeat (first | apply Kd.R_alloc | apply Kd.R_drewN | apply Kd.R_drew)); exact HO152.out))) (Kd.R_lt (by (with_reducible repeat (first | apply Kd.R_alloc | apply Kd.R_drewN | apply Kd.R_drew)); exact HO156.out))) (below_size (by repeat (first | (with_reducible first | exact HB.out | apply below_alloc | apply pw_below_drewN | apply below_drew1 | refine below_set ?_ GE145.out | refine below_set ?_ GE158.out) | exact HB.out)))); have n3_ := Aside0.mk (blk_below (g := gb145) (o := .cells #[.int .i64 a0_0, .slice A0_1 l0_1.length c0_1, .int .i64 a0_2, .slice A0_3 l0_3.length c0_3, .int .i64 a0_4] 26 (0, 0)) (by (with_reducible repeat (first | refine blk_drewN ?_ _ | refine blk_drew ?_ | refine blk_alloc ?_ _)); exact BK145.out) hb); have n4_ := Aside0.mk (blk_below (g := gb158) (o := .cells #[.int .i64 t149, .slice Ao28 t150.length co28, .int .i64 t153, .slice Ao29 t154.length co29, .int .i64 t157] 26 (0, 0)) (by (with_reducible repeat (first | refine blk_drewN ?_ _ | refine blk_drew ?_ | refine blk_alloc ?_ _)); exact BK158.out) hb); have n5_ := Aside0.mk (below_step (by repeat (first | (with_reducible first | exact HB.out | apply below_alloc | apply pw_below_drewN | apply below_drew1 | refine below_set ?_ GE145.out | refine below_set ?_ GE158.out) | exact HB.out)) hb); clear HO152; clear HO156; clear BK145; clear BK158; clear HB; have HO152 := n0_; have HO156 := n1_; have HO174 := n2_; have BK145 := n3_; have BK158 := n4_; have HB := n5_; clear n0_ n1_ n2_ n3_ n4_ n5_; clear hb ho57; have hnb58 := NB158_145.out; have hnc58 := NB145_158.out; have hcz59_0 : w56.cell? ⟨gb158, 0, none⟩ = some (.int .i64 t149) := (blk_cell BK158.out 0).trans rfl; have hcz59_1 : w56.cell? ⟨gb158, 1, none⟩ = some (.slice Ao28 t150.length co28) := (blk_cell BK158.out 1).trans rfl; have hcz59_2 : w56.cell? ⟨gb158, 2, none⟩ = some (.int .i64 t153) := (blk_cell BK158.out 2).trans rfl; have hcz59_3 : w56.cell? ⟨gb158, 3, none⟩ = some (.slice Ao29 t154.length co29) := (blk_cell BK158.out 3).trans rfl; have hcz59_4 : w56.cell? ⟨gb158, 4, none⟩ = some (.int .i64 t157) := (blk_cell BK158.out 4).trans rfl; have hfz59_0 := blk_frozen BK158.out 0; have hfz59_1 := blk_frozen BK158.out 1; have hfz59_2 := blk_frozen BK158.out 2; have hfz59_3 := blk_frozen BK158.out 3; have hfz59_4 := blk_frozen BK158.out 4) | ((with_reducible refine gate_builtin (b := .append) (xs := #[.tmp 64, .tmp 66]) rfl ?_); (try (refine gate_guard (by rfl) ?_; dsimp only)); at_builtin; refine Kd.R_append_rows (Kd.int .i64) (w0 := w) w.heap.size rfl (.tmp 64) (.tmp 66) 22 3 (.int .i64 0) 8 rfl Try.underlying22 info3 rfl (by decide) (by omega) v173 y172 t150 _ _ _ (fun k_ => some k_ ≠ (.slice Ao28 t150.length co28 : Value).ownBlock ∧ some k_ ≠ (.slice Ao29 t154.length co29 : Value).ownBlock) (fun _ => False) rfl rfl ?aO ?aR (fun _ _ h => h) (fun _ h => h.elim) ?aF ?aB ?aS ?aL ?_; (case aR => repeat (first | exact (Kd.R_reads' HO152.out).2.2 | (with_reducible refine Kd.C_alloc ?_ _) | (with_reducible refine Kd.C_drewN ?_ _) | (with_reducible refine Kd.C_drew ?_))); (case aB => exact (by repeat (first | (with_reducible first | exact HB.out | apply below_alloc | apply pw_below_drewN | apply below_drew1 | refine below_set ?_ GE145.out | refine below_set ?_ GE158.out) | exact HB.out))); (case aF => exact (fun k_ hk => ⟨Kd.fresh' (Kd.R_lt (by (with_reducible repeat (first | apply Kd.R_alloc | apply Kd.R_drewN | apply Kd.R_drew)); exact HO152.out)) k_ hk, Kd.fresh' (Kd.R_lt (by (with_reducible repeat (first | apply Kd.R_alloc | apply Kd.R_drewN | apply Kd.R_drew)); exact HO156.out)) k_ hk⟩)); (case aO => exact (by (with_reducible repeat (first | apply Kd.R_alloc | apply Kd.R_drewN | apply Kd.R_drew)); exact Kd.R_mono HO174.out (fun _ hk => ⟨hk.1.2, hk.2⟩))); (case aS => exact (below_size (by repeat (first | (with_reducible first | exact HB.out | apply below_alloc | apply pw_below_drewN | apply below_drew1 | refine below_set ?_ GE145.out | refine below_set ?_ GE158.out) | exact HB.out)))); (case aL => have := LMc54.out; omega); intro v176 w60 ho hb hg hat; rw [← Ny175.out] at ho; have n0_ := Aside0.mk (blk_grown (g := gb145) (o := .cells #[.int .i64 a0_0, .slice A0_1 l0_1.length c0_1, .int .i64 a0_2, .slice A0_3 l0_3.length c0_3, .int .i64 a0_4] 26 (0, 0)) (by (with_reducible repeat (first | refine blk_drewN ?_ _ | refine blk_drew ?_ | refine blk_alloc ?_ _)); exact BK145.out) hg (Kd.R_ne HO174.out BK145.out (by decide))); have n1_ := Aside0.mk (Kd.R_after (ok := (fun k_ => some k_ ≠ (.slice Ao29 t154.length co29 : Value).ownBlock)) (by (with_reducible repeat (first | apply Kd.R_alloc | apply Kd.R_drewN | apply Kd.R_drew)); exact HO152.out) hg hat); have n2_ := Aside0.mk (Kd.R_after (ok := (fun k_ => some k_ ≠ (.slice Ao28 t150.length co28 : Value).ownBlock)) (by (with_reducible repeat (first | apply Kd.R_alloc | apply Kd.R_drewN | apply Kd.R_drew)); exact HO156.out) hg hat); have n3_ := Aside0.mk (blk_grown (g := gb158) (o := .cells #[.int .i64 t149, .slice Ao28 t150.length co28, .int .i64 t153, .slice Ao29 t154.length co29, .int .i64 t157] 26 (0, 0)) (by (with_reducible repeat (first | refine blk_drewN ?_ _ | refine blk_drew ?_ | refine blk_alloc ?_ _)); exact BK158.out) hg (Kd.R_ne HO174.out BK158.out (by decide))); have n4_ := Aside0.mk (hb); have n5_ := Aside0.mk (ho); clear BK145; clear HO152; clear HO156; clear BK158; clear HB; clear HO174; have BK145 := n0_; have HO152 := n1_; have HO156 := n2_; have BK158 := n3_; have HB := n4_; have HO177 := n5_; clear n0_ n1_ n2_ n3_ n4_ n5_; clear ho hb hg hat) | ((with_reducible refine gate_dst (N := 68) rfl ?_); (try (refine gate_guard (by rfl) ?_; dsimp only)); refine Kd.R_lit (Kd.int .i64) _ 3 ?hg (N := 68) ?hd (xs := ([0, 0, 0, 0] : List Int)) (inner := [.int .i64 0, .int .i64 0, .int .i64 0, .int .i64 0]) (ok := fun _ => True) (okp := fun _ => True) ?hr ?hp (fun _ hk => hk) trivial (Below.refl _ _) (Nat.le_refl _) (by simp) ?_; (case hd => rfl); (case hg => rfl); (case hr => first | (go_simp; done) | (go_simp; rfl)); (case hp => exact (Reps.one (show Kd.M (Kd.int .i64) _ _ _ 0 [.int .i64 0] from rfl) (Reps.one (show Kd.M (Kd.int .i64) _ _ _ 0 [.int .i64 0] from rfl) (Reps.one (show Kd.M (Kd.int .i64) _ _ _ 0 [.int .i64 0] from rfl) (Reps.one (show Kd.M (Kd.int .i64) _ _ _ 0 [.int .i64 0] from rfl) (Reps.none _ _)))))); intro v179 w61 ho62 hb hg_ hnew_; clear hg_ hnew_; (first | rw [← Ny178.out] at ho62 | (simp only [Int.reduceToNat] at ho62; rw [← Ny178.out] at ho62)); have n0_ := Aside0.mk (Kd.R_elder' (by (with_reducible repeat (first | apply Kd.R_alloc | apply Kd.R_drewN | apply Kd.R_drew)); exact HO152.out) (Kd.R_base ho62) hb); have n1_ := Aside0.mk (Kd.R_elder' (by (with_reducible repeat (first | apply Kd.R_alloc | apply Kd.R_drewN | apply Kd.R_drew)); exact HO156.out) (Kd.R_base ho62) hb); have n2_ := Aside0.mk (Kd.R_elder' (by (with_reducible repeat (first | apply Kd.R_alloc | apply Kd.R_drewN | apply Kd.R_drew)); exact HO177.out) (Kd.R_base ho62) hb); have n3_ := Aside0.mk (Kd.R_lower (Kd.R_new' (Kd.R_new' (Kd.R_new' ho62 (Kd.R_lt (by (with_reducible repeat (first | apply Kd.R_alloc | apply Kd.R_drewN | apply Kd.R_drew)); exact HO152.out))) (Kd.R_lt (by (with_reducible repeat (first | apply Kd.R_alloc | apply Kd.R_drewN | apply Kd.R_drew)); exact HO156.out))) (Kd.R_lt (by (with_reducible repeat (first | apply Kd.R_alloc | apply Kd.R_drewN | apply Kd.R_drew)); exact HO177.out))) (below_size (by repeat (first | (with_reducible first | exact HB.out | apply below_alloc | apply pw_below_drewN | apply below_drew1 | refine below_set ?_ GE145.out | refine below_set ?_ GE158.out) | exact HB.out)))); have n4_ := Aside0.mk (blk_below (g := gb145) (o := .cells #[.int .i64 a0_0, .slice A0_1 l0_1.length c0_1, .int .i64 a0_2, .slice A0_3 l0_3.length c0_3, .int .i64 a0_4] 26 (0, 0)) (by (with_reducible repeat (first | refine blk_drewN ?_ _ | refine blk_drew ?_ | refine blk_alloc ?_ _)); exact BK145.out) hb); have n5_ := Aside0.mk (blk_below (g := gb158) (o := .cells #[.int .i64 t149, .slice Ao28 t150.length co28, .int .i64 t153, .slice Ao29 t154.length co29, .int .i64 t157] 26 (0, 0)) (by (with_reducible repeat (first | refine blk_drewN ?_ _ | refine blk_drew ?_ | refine blk_alloc ?_ _)); exact BK158.out) hb); have n6_ := Aside0.mk (below_step (by repeat (first | (with_reducible first | exact HB.out | apply below_alloc | apply pw_below_drewN | apply below_drew1 | refine below_set ?_ GE145.out | refine below_set ?_ GE158.out) | exact HB.out)) hb); clear HO152; clear HO156; clear HO177; clear BK145; clear BK158; clear HB; have HO152 := n0_; have HO156 := n1_; have HO177 := n2_; have HO180 := n3_; have BK145 := n4_; have BK158 := n5_; have HB := n6_; clear n0_ n1_ n2_ n3_ n4_ n5_ n6_; clear hb ho62; obtain ⟨Ao64, co64, eo64⟩ := Kd.R_slice HO180.out; subst eo64) | ((with_reducible refine gate_builtin (b := .append) (xs := #[.tmp 67, .tmp 68]) rfl ?_); (try (refine gate_guard (by rfl) ?_; dsimp only)); at_builtin; refine Kd.R_append_rows (Kd.int .i64) (w0 := w) w.heap.size rfl (.tmp 67) (.tmp 68) 22 3 (.int .i64 0) 8 rfl Try.underlying22 info3 rfl (by decide) (by omega) v176 y175 y178 _ _ _ (fun k_ => some k_ ≠ (.slice Ao28 t150.length co28 : Value).ownBlock ∧ some k_ ≠ (.slice Ao29 t154.length co29 : Value).ownBlock ∧ some k_ ≠ (.slice Ao64 y178.length co64 : Value).ownBlock) (fun _ => False) rfl rfl ?aO ?aR (fun _ _ h => h) (fun _ h => h.elim) ?aF ?aB ?aS ?aL ?_; (case aR => repeat (first | exact (Kd.R_reads' HO180.out).2.2 | (with_reducible refine Kd.C_alloc ?_ _) | (with_reducible refine Kd.C_drewN ?_ _) | (with_reducible refine Kd.C_drew ?_))); (case aB => exact (by repeat (first | (with_reducible first | exact HB.out | apply below_alloc | apply pw_below_drewN | apply below_drew1 | refine below_set ?_ GE145.out | refine below_set ?_ GE158.out) | exact HB.out))); (case aF => exact (fun k_ hk => ⟨Kd.fresh' (Kd.R_lt (by (with_reducible repeat (first | apply Kd.R_alloc | apply Kd.R_drewN | apply Kd.R_drew)); exact HO152.out)) k_ hk, Kd.fresh' (Kd.R_lt (by (with_reducible repeat (first | apply Kd.R_alloc | apply Kd.R_drewN | apply Kd.R_drew)); exact HO156.out)) k_ hk, Kd.fresh' (Kd.R_lt (by (with_reducible repeat (first | apply Kd.R_alloc | apply Kd.R_drewN | apply Kd.R_drew)); exact HO180.out)) k_ hk⟩)); (case aO => exact (by (with_reducible repeat (first | apply Kd.R_alloc | apply Kd.R_drewN | apply Kd.R_drew)); exact Kd.R_mono HO177.out (fun _ hk => ⟨hk.1.1, ⟨hk.1.2, hk.2⟩⟩))); (case aS => exact (below_size (by repeat (first | (with_reducible first | exact HB.out | apply below_alloc | apply pw_below_drewN | apply below_drew1 | refine below_set ?_ GE145.out | refine below_set ?_ GE158.out) | exact HB.out)))); (case aL => have := LMc55.out; omega); intro v182 w63 ho hb hg hat; rw [← Ny181.out] at ho; have n0_ := Aside0.mk (blk_grown (g := gb145) (o := .cells #[.int .i64 a0_0, .slice A0_1 l0_1.length c0_1, .int .i64 a0_2, .slice A0_3 l0_3.length c0_3, .int .i64 a0_4] 26 (0, 0)) (by (with_reducible repeat (first | refine blk_drewN ?_ _ | refine blk_drew ?_ | refine blk_alloc ?_ _)); exact BK145.out) hg (Kd.R_ne HO177.out BK145.out (by decide))); have n1_ := Aside0.mk (Kd.R_after (ok := (fun k_ => some k_ ≠ (.slice Ao29 t154.length co29 : Value).ownBlock ∧ some k_ ≠ (.slice Ao64 y178.length co64 : Value).ownBlock)) (by (with_reducible repeat (first | apply Kd.R_alloc | apply Kd.R_drewN | apply Kd.R_drew)); exact Kd.R_mono HO152.out (fun _ hk => ⟨⟨hk.1.1, hk.2⟩, hk.1.2⟩)) hg hat); have n2_ := Aside0.mk (Kd.R_after (ok := (fun k_ => some k_ ≠ (.slice Ao28 t150.length co28 : Value).ownBlock ∧ some k_ ≠ (.slice Ao64 y178.length co64 : Value).ownBlock)) (by (with_reducible repeat (first | apply Kd.R_alloc | apply Kd.R_drewN | apply Kd.R_drew)); exact Kd.R_mono HO156.out (fun _ hk => ⟨⟨hk.1.1, hk.2⟩, hk.1.2⟩)) hg hat); have n3_ := Aside0.mk (blk_grown (g := gb158) (o := .cells #[.int .i64 t149, .slice Ao28 t150.length co28, .int .i64 t153, .slice Ao29 t154.length co29, .int .i64 t157] 26 (0, 0)) (by (with_reducible repeat (first | refine blk_drewN ?_ _ | refine blk_drew ?_ | refine blk_alloc ?_ _)); exact BK158.out) hg (Kd.R_ne HO177.out BK158.out (by decide))); have n4_ := Aside0.mk (Kd.R_after (ok := (fun k_ => some k_ ≠ (.slice Ao28 t150.length co28 : Value).ownBlock ∧ some k_ ≠ (.slice Ao29 t154.length co29 : Value).ownBlock)) (by (with_reducible repeat (first | apply Kd.R_alloc | apply Kd.R_drewN | apply Kd.R_drew)); exact Kd.R_mono HO180.out (fun _ hk => ⟨⟨hk.1.1.2, hk.1.2⟩, hk.2⟩)) hg hat); have n5_ := Aside0.mk (hb); have n6_ := Aside0.mk (ho); clear BK145; clear HO152; clear HO156; clear BK158; clear HO180; clear HB; clear HO177; have BK145 := n0_; have HO152 := n1_; have HO156 := n2_; have BK158 := n3_; have HO180 := n4_; have HB := n5_; have HO183 := n6_; clear n0_ n1_ n2_ n3_ n4_ n5_ n6_; clear ho hb hg hat; obtain ⟨Ao65, co65, eo65⟩ := Kd.R_slice HO183.out; subst eo65; have hcz66_0 : w63.cell? ⟨gb158, 0, none⟩ = some (.int .i64 t149) := (blk_cell BK158.out 0).trans rfl; have hcz66_1 : w63.cell? ⟨gb158, 1, none⟩ = some (.slice Ao28 t150.length co28) := (blk_cell BK158.out 1).trans rfl; have hcz66_2 : w63.cell? ⟨gb158, 2, none⟩ = some (.int .i64 t153) := (blk_cell BK158.out 2).trans rfl; have hcz66_3 : w63.cell? ⟨gb158, 3, none⟩ = some (.slice Ao29 t154.length co29) := (blk_cell BK158.out 3).trans rfl; have hcz66_4 : w63.cell? ⟨gb158, 4, none⟩ = some (.int .i64 t157) := (blk_cell BK158.out 4).trans rfl; have hfz66_0 := blk_frozen BK158.out 0; have hfz66_1 := blk_frozen BK158.out 1; have hfz66_2 := blk_frozen BK158.out 2; have hfz66_3 := blk_frozen BK158.out 3; have hfz66_4 := blk_frozen BK158.out 4))
                          go_meet
                          case rel => exact ⟨_, (t149), (y181), (t153), (t154), (t157), (.slice Ao65 y181.length co65), (.slice Ao29 t154.length co29), H', ⟨by have := HJ6.out; first | omega | exact Nat.le_refl _⟩, ⟨by (with_reducible repeat (first | apply Kd.R_alloc | apply Kd.R_drewN | apply Kd.R_drew)); exact Kd.R_mono (Kd.R_far (p := ⟨gb158, 1, none⟩) (Kd.R_types HO183.out BK158.out (by decide)) (fun _ hk => hk.2) (.slice Ao65 y181.length co65)) (fun _ hk => hk.1.2.1)⟩, ⟨by (with_reducible repeat (first | apply Kd.R_alloc | apply Kd.R_drewN | apply Kd.R_drew)); exact Kd.R_mono (Kd.R_far (p := ⟨gb158, 1, none⟩) (Kd.R_types HO156.out BK158.out (by decide)) (fun _ hk => hk.2) (.slice Ao65 y181.length co65)) (fun _ hk => hk.1.2)⟩, ⟨by (with_reducible repeat (first | refine blk_drewN ?_ _ | refine blk_drew ?_ | refine blk_alloc ?_ _)); refine blk_far ?_ NB145_158.out _; (with_reducible repeat (first | refine blk_drewN ?_ _ | refine blk_drew ?_ | refine blk_alloc ?_ _)); exact BK145.out⟩, ⟨by (with_reducible repeat (first | refine blk_drewN ?_ _ | refine blk_drew ?_ | refine blk_alloc ?_ _)); refine blk_put (cs := #[.int .i64 t149, .slice Ao28 t150.length co28, .int .i64 t153, .slice Ao29 t154.length co29, .int .i64 t157]) ?_ 1 _ rfl; (with_reducible repeat (first | refine blk_drewN ?_ _ | refine blk_drew ?_ | refine blk_alloc ?_ _)); exact BK158.out⟩, ⟨by repeat (first | (with_reducible first | exact HB.out | apply below_alloc | apply pw_below_drewN | apply below_drew1 | refine below_set ?_ GE145.out | refine below_set ?_ GE158.out) | exact HB.out)⟩⟩
                        · rw [if_neg c55] at H
                          exact absurd H (by simp)
                      · rw [if_neg c54] at H
                        exact absurd H (by simp)
                    · rw [if_neg c53] at H
                      have c53b0 : (t160 == 2) = false := beq_eq_false_iff_ne.mpr c53
                      have c53b1 : (t160 != 2) = true := bne_iff_ne.mpr c53
                      by_cases c67 : t160 = 3
                      · rw [if_pos c67] at H
                        have c67b0 : (t160 == 3) = true := beq_iff_eq.mpr c67
                        have c67b1 : (t160 != 3) = false := bne_eq_false_iff_eq.mpr c67
                        clear c67
                        obtain ⟨y184, hy184⟩ : ∃ y_ : List Int, y_ = (([(-1), 0, 100, 101, a3] : List Int)) := ⟨_, rfl⟩
                        replace H : ((interlocutorlaw4_within.f a3 5).bind fun t187 => (if 0 ≤ t187 then (if t187 < (y184.length : Int) then (interlocutorlaw4_GramRight.j1 kj6 a0_0 l0_1 a0_2 l0_3 a0_4 t149 t150 t153 t154 (rd y184 t187)) else (none)) else (none))) = some r := by first | (rw [hy184]; with_reducible exact H) | (have H2_ := (Option.bind_some _ _).symm.trans H; rw [hy184]; with_reducible exact H2_) | (have H2_ := (Option.bind_some _ _).symm.trans H; with_reducible exact H2_) | with_reducible exact H | (rw [hy184]; exact H) | exact H
                        have Ny184 := Aside0.mk hy184
                        clear hy184
                        replace H := Option.bind_eq_some_iff.mp H
                        obtain ⟨t187, A680, H⟩ := H
                        replace H : (if 0 ≤ t187 then (if t187 < (y184.length : Int) then (interlocutorlaw4_GramRight.j1 kj6 a0_0 l0_1 a0_2 l0_3 a0_4 t149 t150 t153 t154 (rd y184 t187)) else (none)) else (none)) = some r := H
                        have A68 := Aside0.mk A680
                        clear A680
                        by_cases c69 : 0 ≤ t187
                        · rw [if_pos c69] at H
                          have c69b0 : decide (0 ≤ t187) = true := decide_eq_true c69
                          clear c69
                          by_cases c70 : t187 < (y184.length : Int)
                          · rw [if_pos c70] at H
                            have c70b0 : decide (t187 < (y184.length : Int)) = true := decide_eq_true c70
                            clear c70
                            have H' := Aside0.mk H
                            clear H
                            go_wp2_with (first | ((with_reducible refine gate_dst (N := 74) rfl ?_); (try (refine gate_guard (by rfl) ?_; dsimp only)); refine Kd.R_lit (Kd.int .i64) _ 3 ?hg (N := 74) ?hd (xs := ([(-1), 0, 100, 101, a3] : List Int)) (inner := [.int .i64 (-1), .int .i64 0, .int .i64 100, .int .i64 101, .int .i64 a3]) (ok := fun _ => True) (okp := fun _ => True) ?hr ?hp (fun _ hk => hk) trivial (Below.refl _ _) (Nat.le_refl _) (by simp) ?_; (case hd => rfl); (case hg => rfl); (case hr => first | (go_simp; done) | (go_simp; rfl)); (case hp => exact (Reps.one (show Kd.M (Kd.int .i64) _ _ _ (-1) [.int .i64 (-1)] from rfl) (Reps.one (show Kd.M (Kd.int .i64) _ _ _ 0 [.int .i64 0] from rfl) (Reps.one (show Kd.M (Kd.int .i64) _ _ _ 100 [.int .i64 100] from rfl) (Reps.one (show Kd.M (Kd.int .i64) _ _ _ 101 [.int .i64 101] from rfl) (Reps.one (show Kd.M (Kd.int .i64) _ _ _ a3 [.int .i64 a3] from rfl) (Reps.none _ _))))))); intro v185 w71 ho72 hb hg_ hnew_; clear hg_ hnew_; (first | rw [← Ny184.out] at ho72 | (simp only [Int.reduceToNat] at ho72; rw [← Ny184.out] at ho72)); have n0_ := Aside0.mk (Kd.R_elder' (by (with_reducible repeat (first | apply Kd.R_alloc | apply Kd.R_drewN | apply Kd.R_drew)); exact HO152.out) (Kd.R_base ho72) hb); have n1_ := Aside0.mk (Kd.R_elder' (by (with_reducible repeat (first | apply Kd.R_alloc | apply Kd.R_drewN | apply Kd.R_drew)); exact HO156.out) (Kd.R_base ho72) hb); have n2_ := Aside0.mk (Kd.R_lower (Kd.R_new' (Kd.R_new' ho72 (Kd.R_lt (by (with_reducible repeat (first | apply Kd.R_alloc | apply Kd.R_drewN | apply Kd.R_drew)); exact HO152.out))) (Kd.R_lt (by (with_reducible repeat (first | apply Kd.R_alloc | apply Kd.R_drewN | apply Kd.R_drew)); exact HO156.out))) (below_size (by repeat (first | (with_reducible first | exact HB.out | apply below_alloc | apply pw_below_drewN | apply below_drew1 | refine below_set ?_ GE145.out | refine below_set ?_ GE158.out) | exact HB.out)))); have n3_ := Aside0.mk (blk_below (g := gb145) (o := .cells #[.int .i64 a0_0, .slice A0_1 l0_1.length c0_1, .int .i64 a0_2, .slice A0_3 l0_3.length c0_3, .int .i64 a0_4] 26 (0, 0)) (by (with_reducible repeat (first | refine blk_drewN ?_ _ | refine blk_drew ?_ | refine blk_alloc ?_ _)); exact BK145.out) hb); have n4_ := Aside0.mk (blk_below (g := gb158) (o := .cells #[.int .i64 t149, .slice Ao28 t150.length co28, .int .i64 t153, .slice Ao29 t154.length co29, .int .i64 t157] 26 (0, 0)) (by (with_reducible repeat (first | refine blk_drewN ?_ _ | refine blk_drew ?_ | refine blk_alloc ?_ _)); exact BK158.out) hb); have n5_ := Aside0.mk (below_step (by repeat (first | (with_reducible first | exact HB.out | apply below_alloc | apply pw_below_drewN | apply below_drew1 | refine below_set ?_ GE145.out | refine below_set ?_ GE158.out) | exact HB.out)) hb); clear HO152; clear HO156; clear BK145; clear BK158; clear HB; have HO152 := n0_; have HO156 := n1_; have HO186 := n2_; have BK145 := n3_; have BK158 := n4_; have HB := n5_; clear n0_ n1_ n2_ n3_ n4_ n5_; clear hb ho72) | ((with_reducible refine gate_callee (f := 17) rfl ?_); refine goesL_ (some 76) rfl rfl Try.func17 (by kernel_rfl) rfl #[.int .i64 a3, .int .i64 5] rfl (by (try simp only [List.map_toArray, List.map_cons, List.map_nil]); first | done | rfl | (simp only [List.length_drop, List.length_take]; rfl)) ?_; (with_reducible refine (interlocutorlaw4_within.calls a3 5 t187 _ A68.out).mono ?_); rintro e w' ⟨rfl, ⟨nd, rfl⟩⟩; refine ⟨_, rfl, ?_⟩; (try (rw [drewN_self w71]; generalize hq_ : World.drewN w71 _ = w71; have n0_ : Aside0 (Kd.R (Kd.int .i64) 3 w71 w.heap.size (fun k_ => some k_ ≠ (.slice Ao29 t154.length co29 : Value).ownBlock ∧ some k_ ≠ (v185 : Value).ownBlock) (.slice Ao28 t150.length co28) t150) := ⟨by rw [← hq_]; exact (by (with_reducible repeat (first | apply Kd.R_alloc | apply Kd.R_drewN | apply Kd.R_drew)); exact HO152.out)⟩; have n1_ : Aside0 (Kd.R (Kd.int .i64) 3 w71 w.heap.size (fun k_ => some k_ ≠ (.slice Ao28 t150.length co28 : Value).ownBlock ∧ some k_ ≠ (v185 : Value).ownBlock) (.slice Ao29 t154.length co29) t154) := ⟨by rw [← hq_]; exact (by (with_reducible repeat (first | apply Kd.R_alloc | apply Kd.R_drewN | apply Kd.R_drew)); exact HO156.out)⟩; have n2_ : Aside0 (Kd.R (Kd.int .i64) 3 w71 w.heap.size (fun k_ => ((True ∧ some k_ ≠ (.slice Ao28 t150.length co28 : Value).ownBlock) ∧ some k_ ≠ (.slice Ao29 t154.length co29 : Value).ownBlock)) v185 y184) := ⟨by rw [← hq_]; exact (by (with_reducible repeat (first | apply Kd.R_alloc | apply Kd.R_drewN | apply Kd.R_drew)); exact HO186.out)⟩; have n3_ : Aside0 (w71.heap[gb145]? = some (.cells #[.int .i64 a0_0, .slice A0_1 l0_1.length c0_1, .int .i64 a0_2, .slice A0_3 l0_3.length c0_3, .int .i64 a0_4] 26 (0, 0))) := ⟨by rw [← hq_]; exact (by (with_reducible repeat (first | refine blk_drewN ?_ _ | refine blk_drew ?_ | refine blk_alloc ?_ _)); exact BK145.out)⟩; have n4_ : Aside0 (w71.heap[gb158]? = some (.cells #[.int .i64 t149, .slice Ao28 t150.length co28, .int .i64 t153, .slice Ao29 t154.length co29, .int .i64 t157] 26 (0, 0))) := ⟨by rw [← hq_]; exact (by (with_reducible repeat (first | refine blk_drewN ?_ _ | refine blk_drew ?_ | refine blk_alloc ?_ _)); exact BK158.out)⟩; have n5_ : Aside0 (Below w.heap.size w w71) := ⟨by rw [← hq_]; exact (by repeat (first | (with_reducible first | exact HB.out | apply below_alloc | apply pw_below_drewN | apply below_drew1 | refine below_set ?_ GE145.out | refine below_set ?_ GE158.out) | exact HB.out))⟩; clear HO152 HO156 HO186 BK145 BK158 HB hq_; have HO152 := n0_; have HO156 := n1_; have HO186 := n2_; have BK145 := n3_; have BK158 := n4_; have HB := n5_; clear n0_ n1_ n2_ n3_ n4_ n5_)); obtain ⟨Ao73, co73, eo73⟩ := Kd.R_slice HO186.out; subst eo73; have p188 : 0 ≤ (t187 : Int) := of_decide_eq_true (by first | (with_reducible assumption) | assumption); have q188 : t187 < (y184.length : Int) := of_decide_eq_true (by first | (with_reducible assumption) | assumption); obtain ⟨ad188, e188, hx188_0⟩ := Kd.at_int (Kd.R_reads' HO186.out).2.2 t187 p188 q188; cases e188; replace p188 := eq_true p188; replace q188 := eq_true q188; have hnb74 := NB158_145.out; have hnc74 := NB145_158.out; have hcz75_0 : w71.cell? ⟨gb158, 0, none⟩ = some (.int .i64 t149) := (blk_cell BK158.out 0).trans rfl; have hcz75_1 : w71.cell? ⟨gb158, 1, none⟩ = some (.slice Ao28 t150.length co28) := (blk_cell BK158.out 1).trans rfl; have hcz75_2 : w71.cell? ⟨gb158, 2, none⟩ = some (.int .i64 t153) := (blk_cell BK158.out 2).trans rfl; have hcz75_3 : w71.cell? ⟨gb158, 3, none⟩ = some (.slice Ao29 t154.length co29) := (blk_cell BK158.out 3).trans rfl; have hcz75_4 : w71.cell? ⟨gb158, 4, none⟩ = some (.int .i64 t157) := (blk_cell BK158.out 4).trans rfl; have hfz75_0 := blk_frozen BK158.out 0; have hfz75_1 := blk_frozen BK158.out 1; have hfz75_2 := blk_frozen BK158.out 2; have hfz75_3 := blk_frozen BK158.out 3; have hfz75_4 := blk_frozen BK158.out 4))
                            go_meet
                            case rel => exact ⟨_, (t149), (t150), (t153), (t154), (rd y184 t187), (.slice Ao28 t150.length co28), (.slice Ao29 t154.length co29), H', ⟨by have := HJ6.out; first | omega | exact Nat.le_refl _⟩, ⟨by (with_reducible repeat (first | apply Kd.R_alloc | apply Kd.R_drewN | apply Kd.R_drew)); exact Kd.R_mono (Kd.R_far (p := ⟨gb158, 4, none⟩) (Kd.R_types HO152.out BK158.out (by decide)) (fun _ hk => hk.2) (.int .i64 (rd y184 t187))) (fun _ hk => hk.1.1)⟩, ⟨by (with_reducible repeat (first | apply Kd.R_alloc | apply Kd.R_drewN | apply Kd.R_drew)); exact Kd.R_mono (Kd.R_far (p := ⟨gb158, 4, none⟩) (Kd.R_types HO156.out BK158.out (by decide)) (fun _ hk => hk.2) (.int .i64 (rd y184 t187))) (fun _ hk => hk.1.1)⟩, ⟨by (with_reducible repeat (first | refine blk_drewN ?_ _ | refine blk_drew ?_ | refine blk_alloc ?_ _)); refine blk_far ?_ NB145_158.out _; (with_reducible repeat (first | refine blk_drewN ?_ _ | refine blk_drew ?_ | refine blk_alloc ?_ _)); exact BK145.out⟩, ⟨by (with_reducible repeat (first | refine blk_drewN ?_ _ | refine blk_drew ?_ | refine blk_alloc ?_ _)); refine blk_put (cs := #[.int .i64 t149, .slice Ao28 t150.length co28, .int .i64 t153, .slice Ao29 t154.length co29, .int .i64 t157]) ?_ 4 _ rfl; (with_reducible repeat (first | refine blk_drewN ?_ _ | refine blk_drew ?_ | refine blk_alloc ?_ _)); exact BK158.out⟩, ⟨by repeat (first | (with_reducible first | exact HB.out | apply below_alloc | apply pw_below_drewN | apply below_drew1 | refine below_set ?_ GE145.out | refine below_set ?_ GE158.out) | exact HB.out)⟩⟩
                          · rw [if_neg c70] at H
                            exact absurd H (by simp)
                        · rw [if_neg c69] at H
                          exact absurd H (by simp)
                      · rw [if_neg c67] at H
                        have c67b0 : (t160 == 3) = false := beq_eq_false_iff_ne.mpr c67
                        have c67b1 : (t160 != 3) = true := bne_iff_ne.mpr c67
                        by_cases c76 : t160 = 4
                        · rw [if_pos c76] at H
                          have c76b0 : (t160 == 4) = true := beq_iff_eq.mpr c76
                          have c76b1 : (t160 != 4) = false := bne_eq_false_iff_eq.mpr c76
                          clear c76
                          obtain ⟨y189, hy189⟩ : ∃ y_ : List Int, y_ = (([(-1), 0, 3, 4, 10, 15, 16, a3] : List Int)) := ⟨_, rfl⟩
                          replace H : ((interlocutorlaw4_within.f a3 8).bind fun t192 => (if 0 ≤ t192 then (if t192 < (y189.length : Int) then (interlocutorlaw4_GramRight.j1 kj6 a0_0 l0_1 a0_2 l0_3 a0_4 t149 t150 (rd y189 t192) t154 t157) else (none)) else (none))) = some r := by first | (rw [hy189]; with_reducible exact H) | (have H2_ := (Option.bind_some _ _).symm.trans H; rw [hy189]; with_reducible exact H2_) | (have H2_ := (Option.bind_some _ _).symm.trans H; with_reducible exact H2_) | with_reducible exact H | (rw [hy189]; exact H) | exact H
                          have Ny189 := Aside0.mk hy189
                          clear hy189
                          replace H := Option.bind_eq_some_iff.mp H
                          obtain ⟨t192, A770, H⟩ := H
                          replace H : (if 0 ≤ t192 then (if t192 < (y189.length : Int) then (interlocutorlaw4_GramRight.j1 kj6 a0_0 l0_1 a0_2 l0_3 a0_4 t149 t150 (rd y189 t192) t154 t157) else (none)) else (none)) = some r := H
                          have A77 := Aside0.mk A770
                          clear A770
                          by_cases c78 : 0 ≤ t192
                          · rw [if_pos c78] at H
                            have c78b0 : decide (0 ≤ t192) = true := decide_eq_true c78
                            clear c78
                            by_cases c79 : t192 < (y189.length : Int)
                            · rw [if_pos c79] at H
                              have c79b0 : decide (t192 < (y189.length : Int)) = true := decide_eq_true c79
                              clear c79
                              have H' := Aside0.mk H
                              clear H
                              go_wp2_with (first | ((with_reducible refine gate_dst (N := 83) rfl ?_); (try (refine gate_guard (by rfl) ?_; dsimp only)); refine Kd.R_lit (Kd.int .i64) _ 3 ?hg (N := 83) ?hd (xs := ([(-1), 0, 3, 4, 10, 15, 16, a3] : List Int)) (inner := [.int .i64 (-1), .int .i64 0, .int .i64 3, .int .i64 4, .int .i64 10, .int .i64 15, .int .i64 16, .int .i64 a3]) (ok := fun _ => True) (okp := fun _ => True) ?hr ?hp (fun _ hk => hk) trivial (Below.refl _ _) (Nat.le_refl _) (by simp) ?_; (case hd => rfl); (case hg => rfl); (case hr => first | (go_simp; done) | (go_simp; rfl)); (case hp => exact (Reps.one (show Kd.M (Kd.int .i64) _ _ _ (-1) [.int .i64 (-1)] from rfl) (Reps.one (show Kd.M (Kd.int .i64) _ _ _ 0 [.int .i64 0] from rfl) (Reps.one (show Kd.M (Kd.int .i64) _ _ _ 3 [.int .i64 3] from rfl) (Reps.one (show Kd.M (Kd.int .i64) _ _ _ 4 [.int .i64 4] from rfl) (Reps.one (show Kd.M (Kd.int .i64) _ _ _ 10 [.int .i64 10] from rfl) (Reps.one (show Kd.M (Kd.int .i64) _ _ _ 15 [.int .i64 15] from rfl) (Reps.one (show Kd.M (Kd.int .i64) _ _ _ 16 [.int .i64 16] from rfl) (Reps.one (show Kd.M (Kd.int .i64) _ _ _ a3 [.int .i64 a3] from rfl) (Reps.none _ _)))))))))); intro v190 w80 ho81 hb hg_ hnew_; clear hg_ hnew_; (first | rw [← Ny189.out] at ho81 | (simp only [Int.reduceToNat] at ho81; rw [← Ny189.out] at ho81)); have n0_ := Aside0.mk (Kd.R_elder' (by (with_reducible repeat (first | apply Kd.R_alloc | apply Kd.R_drewN | apply Kd.R_drew)); exact HO152.out) (Kd.R_base ho81) hb); have n1_ := Aside0.mk (Kd.R_elder' (by (with_reducible repeat (first | apply Kd.R_alloc | apply Kd.R_drewN | apply Kd.R_drew)); exact HO156.out) (Kd.R_base ho81) hb); have n2_ := Aside0.mk (Kd.R_lower (Kd.R_new' (Kd.R_new' ho81 (Kd.R_lt (by (with_reducible repeat (first | apply Kd.R_alloc | apply Kd.R_drewN | apply Kd.R_drew)); exact HO152.out))) (Kd.R_lt (by (with_reducible repeat (first | apply Kd.R_alloc | apply Kd.R_drewN | apply Kd.R_drew)); exact HO156.out))) (below_size (by repeat (first | (with_reducible first | exact HB.out | apply below_alloc | apply pw_below_drewN | apply below_drew1 | refine below_set ?_ GE145.out | refine below_set ?_ GE158.out) | exact HB.out)))); have n3_ := Aside0.mk (blk_below (g := gb145) (o := .cells #[.int .i64 a0_0, .slice A0_1 l0_1.length c0_1, .int .i64 a0_2, .slice A0_3 l0_3.length c0_3, .int .i64 a0_4] 26 (0, 0)) (by (with_reducible repeat (first | refine blk_drewN ?_ _ | refine blk_drew ?_ | refine blk_alloc ?_ _)); exact BK145.out) hb); have n4_ := Aside0.mk (blk_below (g := gb158) (o := .cells #[.int .i64 t149, .slice Ao28 t150.length co28, .int .i64 t153, .slice Ao29 t154.length co29, .int .i64 t157] 26 (0, 0)) (by (with_reducible repeat (first | refine blk_drewN ?_ _ | refine blk_drew ?_ | refine blk_alloc ?_ _)); exact BK158.out) hb); have n5_ := Aside0.mk (below_step (by repeat (first | (with_reducible first | exact HB.out | apply below_alloc | apply pw_below_drewN | apply below_drew1 | refine below_set ?_ GE145.out | refine below_set ?_ GE158.out) | exact HB.out)) hb); clear HO152; clear HO156; clear BK145; clear BK158; clear HB; have HO152 := n0_; have HO156 := n1_; have HO191 := n2_; have BK145 := n3_; have BK158 := n4_; have HB := n5_; clear n0_ n1_ n2_ n3_ n4_ n5_; clear hb ho81) | ((with_reducible refine gate_callee (f := 17) rfl ?_); refine goesL_ (some 85) rfl rfl Try.func17 (by kernel_rfl) rfl #[.int .i64 a3, .int .i64 8] rfl (by (try simp only [List.map_toArray, List.map_cons, List.map_nil]); first | done | rfl | (simp only [List.length_drop, List.length_take]; rfl)) ?_; (with_reducible refine (interlocutorlaw4_within.calls a3 8 t192 _ A77.out).mono ?_); rintro e w' ⟨rfl, ⟨nd, rfl⟩⟩; refine ⟨_, rfl, ?_⟩; (try (rw [drewN_self w80]; generalize hq_ : World.drewN w80 _ = w80; have n0_ : Aside0 (Kd.R (Kd.int .i64) 3 w80 w.heap.size (fun k_ => some k_ ≠ (.slice Ao29 t154.length co29 : Value).ownBlock ∧ some k_ ≠ (v190 : Value).ownBlock) (.slice Ao28 t150.length co28) t150) := ⟨by rw [← hq_]; exact (by (with_reducible repeat (first | apply Kd.R_alloc | apply Kd.R_drewN | apply Kd.R_drew)); exact HO152.out)⟩; have n1_ : Aside0 (Kd.R (Kd.int .i64) 3 w80 w.heap.size (fun k_ => some k_ ≠ (.slice Ao28 t150.length co28 : Value).ownBlock ∧ some k_ ≠ (v190 : Value).ownBlock) (.slice Ao29 t154.length co29) t154) := ⟨by rw [← hq_]; exact (by (with_reducible repeat (first | apply Kd.R_alloc | apply Kd.R_drewN | apply Kd.R_drew)); exact HO156.out)⟩; have n2_ : Aside0 (Kd.R (Kd.int .i64) 3 w80 w.heap.size (fun k_ => ((True ∧ some k_ ≠ (.slice Ao28 t150.length co28 : Value).ownBlock) ∧ some k_ ≠ (.slice Ao29 t154.length co29 : Value).ownBlock)) v190 y189) := ⟨by rw [← hq_]; exact (by (with_reducible repeat (first | apply Kd.R_alloc | apply Kd.R_drewN | apply Kd.R_drew)); exact HO191.out)⟩; have n3_ : Aside0 (w80.heap[gb145]? = some (.cells #[.int .i64 a0_0, .slice A0_1 l0_1.length c0_1, .int .i64 a0_2, .slice A0_3 l0_3.length c0_3, .int .i64 a0_4] 26 (0, 0))) := ⟨by rw [← hq_]; exact (by (with_reducible repeat (first | refine blk_drewN ?_ _ | refine blk_drew ?_ | refine blk_alloc ?_ _)); exact BK145.out)⟩; have n4_ : Aside0 (w80.heap[gb158]? = some (.cells #[.int .i64 t149, .slice Ao28 t150.length co28, .int .i64 t153, .slice Ao29 t154.length co29, .int .i64 t157] 26 (0, 0))) := ⟨by rw [← hq_]; exact (by (with_reducible repeat (first | refine blk_drewN ?_ _ | refine blk_drew ?_ | refine blk_alloc ?_ _)); exact BK158.out)⟩; have n5_ : Aside0 (Below w.heap.size w w80) := ⟨by rw [← hq_]; exact (by repeat (first | (with_reducible first | exact HB.out | apply below_alloc | apply pw_below_drewN | apply below_drew1 | refine below_set ?_ GE145.out | refine below_set ?_ GE158.out) | exact HB.out))⟩; clear HO152 HO156 HO191 BK145 BK158 HB hq_; have HO152 := n0_; have HO156 := n1_; have HO191 := n2_; have BK145 := n3_; have BK158 := n4_; have HB := n5_; clear n0_ n1_ n2_ n3_ n4_ n5_)); obtain ⟨Ao82, co82, eo82⟩ := Kd.R_slice HO191.out; subst eo82; have p193 : 0 ≤ (t192 : Int) := of_decide_eq_true (by first | (with_reducible assumption) | assumption); have q193 : t192 < (y189.length : Int) := of_decide_eq_true (by first | (with_reducible assumption) | assumption); obtain ⟨ad193, e193, hx193_0⟩ := Kd.at_int (Kd.R_reads' HO191.out).2.2 t192 p193 q193; cases e193; replace p193 := eq_true p193; replace q193 := eq_true q193; have hnb83 := NB158_145.out; have hnc83 := NB145_158.out; have hcz84_0 : w80.cell? ⟨gb158, 0, none⟩ = some (.int .i64 t149) := (blk_cell BK158.out 0).trans rfl; have hcz84_1 : w80.cell? ⟨gb158, 1, none⟩ = some (.slice Ao28 t150.length co28) := (blk_cell BK158.out 1).trans rfl; have hcz84_2 : w80.cell? ⟨gb158, 2, none⟩ = some (.int .i64 t153) := (blk_cell BK158.out 2).trans rfl; have hcz84_3 : w80.cell? ⟨gb158, 3, none⟩ = some (.slice Ao29 t154.length co29) := (blk_cell BK158.out 3).trans rfl; have hcz84_4 : w80.cell? ⟨gb158, 4, none⟩ = some (.int .i64 t157) := (blk_cell BK158.out 4).trans rfl; have hfz84_0 := blk_frozen BK158.out 0; have hfz84_1 := blk_frozen BK158.out 1; have hfz84_2 := blk_frozen BK158.out 2; have hfz84_3 := blk_frozen BK158.out 3; have hfz84_4 := blk_frozen BK158.out 4))
                              go_meet
                              case rel => exact ⟨_, (t149), (t150), (rd y189 t192), (t154), (t157), (.slice Ao28 t150.length co28), (.slice Ao29 t154.length co29), H', ⟨by have := HJ6.out; first | omega | exact Nat.le_refl _⟩, ⟨by (with_reducible repeat (first | apply Kd.R_alloc | apply Kd.R_drewN | apply Kd.R_drew)); exact Kd.R_mono (Kd.R_far (p := ⟨gb158, 2, none⟩) (Kd.R_types HO152.out BK158.out (by decide)) (fun _ hk => hk.2) (.int .i64 (rd y189 t192))) (fun _ hk => hk.1.1)⟩, ⟨by (with_reducible repeat (first | apply Kd.R_alloc | apply Kd.R_drewN | apply Kd.R_drew)); exact Kd.R_mono (Kd.R_far (p := ⟨gb158, 2, none⟩) (Kd.R_types HO156.out BK158.out (by decide)) (fun _ hk => hk.2) (.int .i64 (rd y189 t192))) (fun _ hk => hk.1.1)⟩, ⟨by (with_reducible repeat (first | refine blk_drewN ?_ _ | refine blk_drew ?_ | refine blk_alloc ?_ _)); refine blk_far ?_ NB145_158.out _; (with_reducible repeat (first | refine blk_drewN ?_ _ | refine blk_drew ?_ | refine blk_alloc ?_ _)); exact BK145.out⟩, ⟨by (with_reducible repeat (first | refine blk_drewN ?_ _ | refine blk_drew ?_ | refine blk_alloc ?_ _)); refine blk_put (cs := #[.int .i64 t149, .slice Ao28 t150.length co28, .int .i64 t153, .slice Ao29 t154.length co29, .int .i64 t157]) ?_ 2 _ rfl; (with_reducible repeat (first | refine blk_drewN ?_ _ | refine blk_drew ?_ | refine blk_alloc ?_ _)); exact BK158.out⟩, ⟨by repeat (first | (with_reducible first | exact HB.out | apply below_alloc | apply pw_below_drewN | apply below_drew1 | refine below_set ?_ GE145.out | refine below_set ?_ GE158.out) | exact HB.out)⟩⟩
                            · rw [if_neg c79] at H
                              exact absurd H (by simp)
                          · rw [if_neg c78] at H
                            exact absurd H (by simp)
                        · rw [if_neg c76] at H
                          have c76b0 : (t160 == 4) = false := beq_eq_false_iff_ne.mpr c76
                          have c76b1 : (t160 != 4) = true := bne_iff_ne.mpr c76
                          by_cases c85 : t160 = 5
                          · rw [if_pos c85] at H
                            have c85b0 : (t160 == 5) = true := beq_iff_eq.mpr c85
                            have c85b1 : (t160 != 5) = false := bne_eq_false_iff_eq.mpr c85
                            clear c85
                            obtain ⟨y194, hy194⟩ : ∃ y_ : List Int, y_ = (([] : List Int)) := ⟨_, rfl⟩
                            replace H : (if y194.length + t154.length < 17592186044416 then ((some (y194 ++ t154 : List Int)).bind fun y197 => (if y197.length < 17592186044416 then (interlocutorlaw4_GramRight.j1 kj6 a0_0 l0_1 a0_2 l0_3 a0_4 t149 t150 t153 (y197 ++ [0]) t157) else (none))) else (none)) = some r := by first | (rw [hy194]; with_reducible exact H) | (have H2_ := (Option.bind_some _ _).symm.trans H; rw [hy194]; with_reducible exact H2_) | (have H2_ := (Option.bind_some _ _).symm.trans H; with_reducible exact H2_) | with_reducible exact H | (rw [hy194]; exact H) | exact H
                            have Ny194 := Aside0.mk hy194
                            clear hy194
                            by_cases c86 : y194.length + t154.length < 17592186044416
                            · rw [if_pos c86] at H
                              have LMc86 := Aside0.mk c86
                              clear c86
                              obtain ⟨y197, hy197⟩ : ∃ y_ : List Int, y_ = (y194 ++ t154) := ⟨_, rfl⟩
                              replace H : (if y197.length < 17592186044416 then (interlocutorlaw4_GramRight.j1 kj6 a0_0 l0_1 a0_2 l0_3 a0_4 t149 t150 t153 (y197 ++ [0]) t157) else (none)) = some r := by first | (rw [hy197]; with_reducible exact H) | (have H2_ := (Option.bind_some _ _).symm.trans H; rw [hy197]; with_reducible exact H2_) | (have H2_ := (Option.bind_some _ _).symm.trans H; with_reducible exact H2_) | with_reducible exact H | (rw [hy197]; exact H) | exact H
                              have Ny197 := Aside0.mk hy197
                              clear hy197
                              by_cases c87 : y197.length < 17592186044416
                              · rw [if_pos c87] at H
                                have LMc87 := Aside0.mk c87
                                clear c87
                                obtain ⟨y200, hy200⟩ : ∃ y_ : List Int, y_ = (y197 ++ [0]) := ⟨_, rfl⟩
                                replace H : (interlocutorlaw4_GramRight.j1 kj6 a0_0 l0_1 a0_2 l0_3 a0_4 t149 t150 t153 y200 t157) = some r := by first | (rw [hy200]; with_reducible exact H) | (have H2_ := (Option.bind_some _ _).symm.trans H; rw [hy200]; with_reducible exact H2_) | (have H2_ := (Option.bind_some _ _).symm.trans H; with_reducible exact H2_) | with_reducible exact H | (rw [hy200]; exact H) | exact H
                                have Ny200 := Aside0.mk hy200
                                clear hy200
                                have H' := Aside0.mk H
                                clear H
                                go_wp2_with (first | ((with_reducible refine gate_dst (N := 92) rfl ?_); (try (refine gate_guard (by rfl) ?_; dsimp only)); refine Kd.R_lit (Kd.int .i64) _ 3 ?hg (N := 92) ?hd (xs := ([] : List Int)) (inner := []) (ok := fun _ => True) (okp := fun _ => True) ?hr ?hp (fun _ hk => hk) trivial (Below.refl _ _) (Nat.le_refl _) (by simp) ?_; (case hd => rfl); (case hg => rfl); (case hr => first | (go_simp; done) | (go_simp; rfl)); (case hp => exact (Reps.none _ _)); intro v195 w88 ho89 hb hg_ hnew_; clear hg_ hnew_; (first | rw [← Ny194.out] at ho89 | (simp only [Int.reduceToNat] at ho89; rw [← Ny194.out] at ho89)); have n0_ := Aside0.mk (Kd.R_elder' (by (with_reducible repeat (first | apply Kd.R_alloc | apply Kd.R_drewN | apply Kd.R_drew)); exact HO152.out) (Kd.R_base ho89) hb); have n1_ := Aside0.mk (Kd.R_elder' (by (with_reducible repeat (first | apply Kd.R_alloc | apply Kd.R_drewN | apply Kd.R_drew)); exact HO156.out) (Kd.R_base ho89) hb); have n2_ := Aside0.mk (Kd.R_lower (Kd.R_new' (Kd.R_new' ho89 (Kd.R_lt (by (with_reducible repeat (first | apply Kd.R_alloc | apply Kd.R_drewN | apply Kd.R_drew)); exact HO152.out))) (Kd.R_lt (by (with_reducible repeat (first | apply Kd.R_alloc | apply Kd.R_drewN | apply Kd.R_drew)); exact HO156.out))) (below_size (by repeat (first | (with_reducible first | exact HB.out | apply below_alloc | apply pw_below_drewN | apply below_drew1 | refine below_set ?_ GE145.out | refine below_set ?_ GE158.out) | exact HB.out)))); have n3_ := Aside0.mk (blk_below (g := gb145) (o := .cells #[.int .i64 a0_0, .slice A0_1 l0_1.length c0_1, .int .i64 a0_2, .slice A0_3 l0_3.length c0_3, .int .i64 a0_4] 26 (0, 0)) (by (with_reducible repeat (first | refine blk_drewN ?_ _ | refine blk_drew ?_ | refine blk_alloc ?_ _)); exact BK145.out) hb); have n4_ := Aside0.mk (blk_below (g := gb158) (o := .cells #[.int .i64 t149, .slice Ao28 t150.length co28, .int .i64 t153, .slice Ao29 t154.length co29, .int .i64 t157] 26 (0, 0)) (by (with_reducible repeat (first | refine blk_drewN ?_ _ | refine blk_drew ?_ | refine blk_alloc ?_ _)); exact BK158.out) hb); have n5_ := Aside0.mk (below_step (by repeat (first | (with_reducible first | exact HB.out | apply below_alloc | apply pw_below_drewN | apply below_drew1 | refine below_set ?_ GE145.out | refine below_set ?_ GE158.out) | exact HB.out)) hb); clear HO152; clear HO156; clear BK145; clear BK158; clear HB; have HO152 := n0_; have HO156 := n1_; have HO196 := n2_; have BK145 := n3_; have BK158 := n4_; have HB := n5_; clear n0_ n1_ n2_ n3_ n4_ n5_; clear hb ho89; have hnb90 := NB158_145.out; have hnc90 := NB145_158.out; have hcz91_0 : w88.cell? ⟨gb158, 0, none⟩ = some (.int .i64 t149) := (blk_cell BK158.out 0).trans rfl; have hcz91_1 : w88.cell? ⟨gb158, 1, none⟩ = some (.slice Ao28 t150.length co28) := (blk_cell BK158.out 1).trans rfl; have hcz91_2 : w88.cell? ⟨gb158, 2, none⟩ = some (.int .i64 t153) := (blk_cell BK158.out 2).trans rfl; have hcz91_3 : w88.cell? ⟨gb158, 3, none⟩ = some (.slice Ao29 t154.length co29) := (blk_cell BK158.out 3).trans rfl; have hcz91_4 : w88.cell? ⟨gb158, 4, none⟩ = some (.int .i64 t157) := (blk_cell BK158.out 4).trans rfl; have hfz91_0 := blk_frozen BK158.out 0; have hfz91_1 := blk_frozen BK158.out 1; have hfz91_2 := blk_frozen BK158.out 2; have hfz91_3 := blk_frozen BK158.out 3; have hfz91_4 := blk_frozen BK158.out 4) | ((with_reducible refine gate_builtin (b := .append) (xs := #[.tmp 92, .tmp 95]) rfl ?_); (try (refine gate_guard (by rfl) ?_; dsimp only)); at_builtin; refine Kd.R_append_rows (Kd.int .i64) (w0 := w) w.heap.size rfl (.tmp 92) (.tmp 95) 22 3 (.int .i64 0) 8 rfl Try.underlying22 info3 rfl (by decide) (by omega) v195 y194 t154 _ _ _ (fun k_ => some k_ ≠ (.slice Ao28 t150.length co28 : Value).ownBlock ∧ some k_ ≠ (.slice Ao29 t154.length co29 : Value).ownBlock) (fun _ => False) rfl rfl ?aO ?aR (fun _ _ h => h) (fun _ h => h.elim) ?aF ?aB ?aS ?aL ?_; (case aR => repeat (first | exact (Kd.R_reads' HO156.out).2.2 | (with_reducible refine Kd.C_alloc ?_ _) | (with_reducible refine Kd.C_drewN ?_ _) | (with_reducible refine Kd.C_drew ?_))); (case aB => exact (by repeat (first | (with_reducible first | exact HB.out | apply below_alloc | apply pw_below_drewN | apply below_drew1 | refine below_set ?_ GE145.out | refine below_set ?_ GE158.out) | exact HB.out))); (case aF => exact (fun k_ hk => ⟨Kd.fresh' (Kd.R_lt (by (with_reducible repeat (first | apply Kd.R_alloc | apply Kd.R_drewN | apply Kd.R_drew)); exact HO152.out)) k_ hk, Kd.fresh' (Kd.R_lt (by (with_reducible repeat (first | apply Kd.R_alloc | apply Kd.R_drewN | apply Kd.R_drew)); exact HO156.out)) k_ hk⟩)); (case aO => exact (by (with_reducible repeat (first | apply Kd.R_alloc | apply Kd.R_drewN | apply Kd.R_drew)); exact Kd.R_mono HO196.out (fun _ hk => ⟨hk.1.2, hk.2⟩))); (case aS => exact (below_size (by repeat (first | (with_reducible first | exact HB.out | apply below_alloc | apply pw_below_drewN | apply below_drew1 | refine below_set ?_ GE145.out | refine below_set ?_ GE158.out) | exact HB.out)))); (case aL => have := LMc86.out; omega); intro v198 w92 ho hb hg hat; rw [← Ny197.out] at ho; have n0_ := Aside0.mk (blk_grown (g := gb145) (o := .cells #[.int .i64 a0_0, .slice A0_1 l0_1.length c0_1, .int .i64 a0_2, .slice A0_3 l0_3.length c0_3, .int .i64 a0_4] 26 (0, 0)) (by (with_reducible repeat (first | refine blk_drewN ?_ _ | refine blk_drew ?_ | refine blk_alloc ?_ _)); exact BK145.out) hg (Kd.R_ne HO196.out BK145.out (by decide))); have n1_ := Aside0.mk (Kd.R_after (ok := (fun k_ => some k_ ≠ (.slice Ao29 t154.length co29 : Value).ownBlock)) (by (with_reducible repeat (first | apply Kd.R_alloc | apply Kd.R_drewN | apply Kd.R_drew)); exact HO152.out) hg hat); have n2_ := Aside0.mk (Kd.R_after (ok := (fun k_ => some k_ ≠ (.slice Ao28 t150.length co28 : Value).ownBlock)) (by (with_reducible repeat (first | apply Kd.R_alloc | apply Kd.R_drewN | apply Kd.R_drew)); exact HO156.out) hg hat); have n3_ := Aside0.mk (blk_grown (g := gb158) (o := .cells #[.int .i64 t149, .slice Ao28 t150.length co28, .int .i64 t153, .slice Ao29 t154.length co29, .int .i64 t157] 26 (0, 0)) (by (with_reducible repeat (first | refine blk_drewN ?_ _ | refine blk_drew ?_ | refine blk_alloc ?_ _)); exact BK158.out) hg (Kd.R_ne HO196.out BK158.out (by decide))); have n4_ := Aside0.mk (hb); have n5_ := Aside0.mk (ho); clear BK145; clear HO152; clear HO156; clear BK158; clear HB; clear HO196; have BK145 := n0_; have HO152 := n1_; have HO156 := n2_; have BK158 := n3_; have HB := n4_; have HO199 := n5_; clear n0_ n1_ n2_ n3_ n4_ n5_; clear ho hb hg hat) | ((with_reducible refine gate_builtin (b := .append) (xs := #[.tmp 96, .tmp 97]) rfl ?_); (try (refine gate_guard (by rfl) ?_; dsimp only)); at_builtin; refine Kd.R_append (Kd.int .i64) (w0 := w) w.heap.size rfl (.tmp 96) (.tmp 97) 22 3 (.int .i64 0) 8 rfl Try.underlying22 info3 rfl (by decide) (by omega) v198 y197 0 [.int .i64 0] (fun k_ => some k_ ≠ (.slice Ao28 t150.length co28 : Value).ownBlock ∧ some k_ ≠ (.slice Ao29 t154.length co29 : Value).ownBlock) (fun _ => False) rfl rfl ?aP (fun _ hk => hk.elim) ?aF ?aO ?aB ?aS ?aL ?_; (case aP => exact rfl); (case aB => exact (by repeat (first | (with_reducible first | exact HB.out | apply below_alloc | apply pw_below_drewN | apply below_drew1 | refine below_set ?_ GE145.out | refine below_set ?_ GE158.out) | exact HB.out))); (case aF => exact (fun k_ hk => ⟨Kd.fresh' (Kd.R_lt (by (with_reducible repeat (first | apply Kd.R_alloc | apply Kd.R_drewN | apply Kd.R_drew)); exact HO152.out)) k_ hk, Kd.fresh' (Kd.R_lt (by (with_reducible repeat (first | apply Kd.R_alloc | apply Kd.R_drewN | apply Kd.R_drew)); exact HO156.out)) k_ hk⟩)); (case aO => exact (by (with_reducible repeat (first | apply Kd.R_alloc | apply Kd.R_drewN | apply Kd.R_drew)); exact HO199.out)); (case aS => exact (below_size (by repeat (first | (with_reducible first | exact HB.out | apply below_alloc | apply pw_below_drewN | apply below_drew1 | refine below_set ?_ GE145.out | refine below_set ?_ GE158.out) | exact HB.out)))); (case aL => have := LMc87.out; omega); intro v201 w93 ho hb hg hat; rw [← Ny200.out] at ho; have n0_ := Aside0.mk (blk_grown (g := gb145) (o := .cells #[.int .i64 a0_0, .slice A0_1 l0_1.length c0_1, .int .i64 a0_2, .slice A0_3 l0_3.length c0_3, .int .i64 a0_4] 26 (0, 0)) (by (with_reducible repeat (first | refine blk_drewN ?_ _ | refine blk_drew ?_ | refine blk_alloc ?_ _)); exact BK145.out) hg (Kd.R_ne HO199.out BK145.out (by decide))); have n1_ := Aside0.mk (Kd.R_after (ok := (fun k_ => some k_ ≠ (.slice Ao29 t154.length co29 : Value).ownBlock)) (by (with_reducible repeat (first | apply Kd.R_alloc | apply Kd.R_drewN | apply Kd.R_drew)); exact HO152.out) hg hat); have n2_ := Aside0.mk (Kd.R_after (ok := (fun k_ => some k_ ≠ (.slice Ao28 t150.length co28 : Value).ownBlock)) (by (with_reducible repeat (first | apply Kd.R_alloc | apply Kd.R_drewN | apply Kd.R_drew)); exact HO156.out) hg hat); have n3_ := Aside0.mk (blk_grown (g := gb158) (o := .cells #[.int .i64 t149, .slice Ao28 t150.length co28, .int .i64 t153, .slice Ao29 t154.length co29, .int .i64 t157] 26 (0, 0)) (by (with_reducible repeat (first | refine blk_drewN ?_ _ | refine blk_drew ?_ | refine blk_alloc ?_ _)); exact BK158.out) hg (Kd.R_ne HO199.out BK158.out (by decide))); have n4_ := Aside0.mk (hb); have n5_ := Aside0.mk (ho); clear BK145; clear HO152; clear HO156; clear BK158; clear HB; clear HO199; have BK145 := n0_; have HO152 := n1_; have HO156 := n2_; have BK158 := n3_; have HB := n4_; have HO202 := n5_; clear n0_ n1_ n2_ n3_ n4_ n5_; clear ho hb hg hat; obtain ⟨Ao94, co94, eo94⟩ := Kd.R_slice HO202.out; subst eo94; have hcz95_0 : w93.cell? ⟨gb158, 0, none⟩ = some (.int .i64 t149) := (blk_cell BK158.out 0).trans rfl; have hcz95_1 : w93.cell? ⟨gb158, 1, none⟩ = some (.slice Ao28 t150.length co28) := (blk_cell BK158.out 1).trans rfl; have hcz95_2 : w93.cell? ⟨gb158, 2, none⟩ = some (.int .i64 t153) := (blk_cell BK158.out 2).trans rfl; have hcz95_3 : w93.cell? ⟨gb158, 3, none⟩ = some (.slice Ao29 t154.length co29) := (blk_cell BK158.out 3).trans rfl; have hcz95_4 : w93.cell? ⟨gb158, 4, none⟩ = some (.int .i64 t157) := (blk_cell BK158.out 4).trans rfl; have hfz95_0 := blk_frozen BK158.out 0; have hfz95_1 := blk_frozen BK158.out 1; have hfz95_2 := blk_frozen BK158.out 2; have hfz95_3 := blk_frozen BK158.out 3; have hfz95_4 := blk_frozen BK158.out 4))
                                go_meet
                                case rel => exact ⟨_, (t149), (t150), (t153), (y200), (t157), (.slice Ao28 t150.length co28), (.slice Ao94 y200.length co94), H', ⟨by have := HJ6.out; first | omega | exact Nat.le_refl _⟩, ⟨by (with_reducible repeat (first | apply Kd.R_alloc | apply Kd.R_drewN | apply Kd.R_drew)); exact Kd.R_mono (Kd.R_far (p := ⟨gb158, 3, none⟩) (Kd.R_types HO152.out BK158.out (by decide)) (fun _ hk => hk.2) (.slice Ao94 y200.length co94)) (fun _ hk => hk.1.2)⟩, ⟨by (with_reducible repeat (first | apply Kd.R_alloc | apply Kd.R_drewN | apply Kd.R_drew)); exact Kd.R_mono (Kd.R_far (p := ⟨gb158, 3, none⟩) (Kd.R_types HO202.out BK158.out (by decide)) (fun _ hk => hk.2) (.slice Ao94 y200.length co94)) (fun _ hk => hk.1.1)⟩, ⟨by (with_reducible repeat (first | refine blk_drewN ?_ _ | refine blk_drew ?_ | refine blk_alloc ?_ _)); refine blk_far ?_ NB145_158.out _; (with_reducible repeat (first | refine blk_drewN ?_ _ | refine blk_drew ?_ | refine blk_alloc ?_ _)); exact BK145.out⟩, ⟨by (with_reducible repeat (first | refine blk_drewN ?_ _ | refine blk_drew ?_ | refine blk_alloc ?_ _)); refine blk_put (cs := #[.int .i64 t149, .slice Ao28 t150.length co28, .int .i64 t153, .slice Ao29 t154.length co29, .int .i64 t157]) ?_ 3 _ rfl; (with_reducible repeat (first | refine blk_drewN ?_ _ | refine blk_drew ?_ | refine blk_alloc ?_ _)); exact BK158.out⟩, ⟨by repeat (first | (with_reducible first | exact HB.out | apply below_alloc | apply pw_below_drewN | apply below_drew1 | refine below_set ?_ GE145.out | refine below_set ?_ GE158.out) | exact HB.out)⟩⟩
                              · rw [if_neg c87] at H
                                exact absurd H (by simp)
                            · rw [if_neg c86] at H
                              exact absurd H (by simp)
                          · rw [if_neg c85] at H
                            have c85b0 : (t160 == 5) = false := beq_eq_false_iff_ne.mpr c85
                            have c85b1 : (t160 != 5) = true := bne_iff_ne.mpr c85
                            by_cases c96 : t160 = 6
                            · rw [if_pos c96] at H
                              have c96b0 : (t160 == 6) = true := beq_iff_eq.mpr c96
                              have c96b1 : (t160 != 6) = false := bne_eq_false_iff_eq.mpr c96
                              clear c96
                              obtain ⟨y203, hy203⟩ : ∃ y_ : List Int, y_ = (([(-1), 0, 5, 6, (t150.length : Int), a3] : List Int)) := ⟨_, rfl⟩
                              replace H : ((interlocutorlaw4_within.f a3 6).bind fun t206 => (if 0 ≤ t206 then (if t206 < (y203.length : Int) then (if 0 < (t154.length : Int) then (interlocutorlaw4_GramRight.j1 kj6 a0_0 l0_1 a0_2 l0_3 a0_4 t149 t150 t153 (t154.set (0 : Int).toNat (rd y203 t206)) t157) else (none)) else (none)) else (none))) = some r := by first | (rw [hy203]; with_reducible exact H) | (have H2_ := (Option.bind_some _ _).symm.trans H; rw [hy203]; with_reducible exact H2_) | (have H2_ := (Option.bind_some _ _).symm.trans H; with_reducible exact H2_) | with_reducible exact H | (rw [hy203]; exact H) | exact H
                              have Ny203 := Aside0.mk hy203
                              clear hy203
                              replace H := Option.bind_eq_some_iff.mp H
                              obtain ⟨t206, A970, H⟩ := H
                              replace H : (if 0 ≤ t206 then (if t206 < (y203.length : Int) then (if 0 < (t154.length : Int) then (interlocutorlaw4_GramRight.j1 kj6 a0_0 l0_1 a0_2 l0_3 a0_4 t149 t150 t153 (t154.set (0 : Int).toNat (rd y203 t206)) t157) else (none)) else (none)) else (none)) = some r := H
                              have A97 := Aside0.mk A970
                              clear A970
                              by_cases c98 : 0 ≤ t206
                              · rw [if_pos c98] at H
                                have c98b0 : decide (0 ≤ t206) = true := decide_eq_true c98
                                clear c98
                                by_cases c99 : t206 < (y203.length : Int)
                                · rw [if_pos c99] at H
                                  have c99b0 : decide (t206 < (y203.length : Int)) = true := decide_eq_true c99
                                  clear c99
                                  by_cases c100 : 0 < (t154.length : Int)
                                  · rw [if_pos c100] at H
                                    have c100b0 : decide (0 < (t154.length : Int)) = true := decide_eq_true c100
                                    have c100b1 : decide (0 < t154.length) = true := decide_eq_true (by omega)
                                    clear c100
                                    obtain ⟨y208, hy208⟩ : ∃ y_ : List Int, y_ = (t154.set (0 : Int).toNat (rd y203 t206)) := ⟨_, rfl⟩
                                    replace H : (interlocutorlaw4_GramRight.j1 kj6 a0_0 l0_1 a0_2 l0_3 a0_4 t149 t150 t153 y208 t157) = some r := by first | (rw [hy208]; with_reducible exact H) | (have H2_ := (Option.bind_some _ _).symm.trans H; rw [hy208]; with_reducible exact H2_) | (have H2_ := (Option.bind_some _ _).symm.trans H; with_reducible exact H2_) | with_reducible exact H | (rw [hy208]; exact H) | exact H
                                    have Ny208 := Aside0.mk hy208
                                    clear hy208
                                    have H' := Aside0.mk H
                                    clear H
                                    try go_wp2
                                    have pi207 : (0 ≤ (t206 : Int)) = True := eq_true (of_decide_eq_true (by first | (with_reducible assumption) | assumption))
                                    have qi207 : (t206 < (y203.length : Int)) = True := eq_true (of_decide_eq_true (by first | (with_reducible assumption) | assumption))
                                    have n0_ := Aside0.mk (Kd.R_drew (Kd.R_drewN HO152.out nd))
                                    have n1_ := Aside0.mk (Kd.R_drew (Kd.R_drewN HO156.out nd))
                                    have n2_ := Aside0.mk (blk_drew (blk_drewN BK145.out nd))
                                    have n3_ := Aside0.mk (blk_drew (blk_drewN BK158.out nd))
                                    have n4_ := Aside0.mk (below_drew1 (pw_below_drewN HB.out nd))
                                    clear HO152
                                    clear HO156
                                    clear BK145
                                    clear BK158
                                    clear HB
                                    have HO152 := n0_
                                    have HO156 := n1_
                                    have BK145 := n2_
                                    have BK158 := n3_
                                    have HB := n4_
                                    clear n0_ n1_ n2_ n3_ n4_
                                    refine start_ (n := 14) (S := fun w' => w'.cell? ⟨gb158, 0, none⟩ = some (.int .i64 t149) ∧ w'.cell? ⟨gb158, 1, none⟩ = some (.slice Ao28 t150.length co28) ∧ w'.cell? ⟨gb158, 2, none⟩ = some (.int .i64 t153) ∧ w'.cell? ⟨gb158, 3, none⟩ = some (.slice Ao29 t154.length co29) ∧ w'.cell? ⟨gb158, 4, none⟩ = some (.int .i64 t157)) (ds := [13]) #[false, false, false, false, false, false, false, false, false, false, false, false, false, false] (by kernel_rfl) rfl rfl ⟨(blk_cell BK158.out 0).trans rfl, (blk_cell BK158.out 1).trans rfl, (blk_cell BK158.out 2).trans rfl, (blk_cell BK158.out 3).trans rfl, (blk_cell BK158.out 4).trans rfl⟩ (fun hHeld => ?_); refine with_tabW interlocutorlaw4_GramRight.tab22 interlocutorlaw4_GramRight.bits22 (fun HT_ HW_ => ?_)
                                    generalize (w30.drewN nd).drew = w102 at HO152 HO156 BK145 BK158 HB hHeld ⊢
                                    refine pure_ (i := 0) (N := some 103) (v := ?_) (a' := ?_) #[true, false, false, false, false, false, false, false, false, false, false, false, false, false] rfl rfl (any_of HT_.out (by kernel_rfl)) (fun _ _ _ h => h) (Or.inl ⟨by rfl, ?_⟩) ?_ ?_
                                    rotate_left
                                    · intro w'
                                      go_simp
                                      with_reducible rfl
                                    rotate_left
                                    · simp only [Act.put, List.setIfInBounds_toArray, List.set_cons_zero, List.set_cons_succ, i64_w, i32_w]
                                      rfl
                                    refine pure_ (i := 1) (N := some 104) (v := ?_) (a' := ?_) #[true, true, false, false, false, false, false, false, false, false, false, false, false, false] rfl rfl (any_of HT_.out (by kernel_rfl)) (fun _ _ _ h => h) (Or.inl ⟨by rfl, ?_⟩) ?_ ?_
                                    rotate_left
                                    · intro w'
                                      go_simp
                                      with_reducible rfl
                                    rotate_left
                                    · simp only [Act.put, List.setIfInBounds_toArray, List.set_cons_zero, List.set_cons_succ, i64_w, i32_w]
                                      rfl
                                    refine pure_ (i := 3) (N := some 106) (v := ?_) (a' := ?_) #[true, true, false, true, false, false, false, false, false, false, false, false, false, false] rfl rfl (any_of HT_.out (by kernel_rfl)) (fun _ _ _ h => h) (Or.inl ⟨by rfl, ?_⟩) ?_ ?_
                                    rotate_left
                                    · intro w'
                                      go_simp
                                      with_reducible rfl
                                    rotate_left
                                    · simp only [Act.put, List.setIfInBounds_toArray, List.set_cons_zero, List.set_cons_succ, i64_w, i32_w]
                                      rfl
                                    refine pure_ (i := 6) (N := some 109) (v := ?_) (a' := ?_) #[true, true, false, true, false, false, true, false, false, false, false, false, false, false] rfl rfl (any_of HT_.out (by kernel_rfl)) (fun _ _ _ h => h) (Or.inl ⟨by rfl, ?_⟩) ?_ ?_
                                    rotate_left
                                    · intro w'
                                      go_simp
                                      with_reducible rfl
                                    rotate_left
                                    · simp only [Act.put, List.setIfInBounds_toArray, List.set_cons_zero, List.set_cons_succ, i64_w, i32_w]
                                      rfl
                                    refine pure_ (i := 8) (N := some 111) (v := ?_) (a' := ?_) #[true, true, false, true, false, false, true, false, true, false, false, false, false, false] rfl rfl (any_of HT_.out (by kernel_rfl)) (fun _ _ _ h => h) (Or.inl ⟨by rfl, ?_⟩) ?_ ?_
                                    rotate_left
                                    · intro w'
                                      go_simp
                                      with_reducible rfl
                                    rotate_left
                                    · simp only [Act.put, List.setIfInBounds_toArray, List.set_cons_zero, List.set_cons_succ, i64_w, i32_w]
                                      rfl
                                    refine take_ (i := 2) (N := some 105) (v := ?_) (a' := ?_) #[true, true, true, true, false, false, true, false, true, false, false, false, false, false] rfl rfl (take_ofW HT_.out HW_.out (by kernel_rfl)) (fun _ _ _ h => h) (Or.inl ⟨by rfl, ?_⟩) hHeld ?_ ?_
                                    rotate_left
                                    · rintro w' ⟨s0, s1, s2, s3, s4⟩
                                      go_simp
                                      with_reducible rfl
                                    rotate_left
                                    · simp only [Act.put, List.setIfInBounds_toArray, List.set_cons_zero, List.set_cons_succ, i64_w, i32_w]
                                      rfl
                                    refine take_ (i := 4) (N := some 107) (v := ?_) (a' := ?_) #[true, true, true, true, true, false, true, false, true, false, false, false, false, false] rfl rfl (take_ofW HT_.out HW_.out (by kernel_rfl)) (fun _ _ _ h => h) (Or.inl ⟨by rfl, ?_⟩) hHeld ?_ ?_
                                    rotate_left
                                    · rintro w' ⟨s0, s1, s2, s3, s4⟩
                                      go_simp
                                      with_reducible rfl
                                    rotate_left
                                    · simp only [Act.put, List.setIfInBounds_toArray, List.set_cons_zero, List.set_cons_succ, i64_w, i32_w]
                                      rfl
                                    refine pure_ (i := 5) (N := some 108) (v := ?_) (a' := ?_) #[true, true, true, true, true, true, true, false, true, false, false, false, false, false] rfl rfl (any_of HT_.out (by kernel_rfl)) (fun _ _ _ h => h) (Or.inl ⟨by rfl, ?_⟩) ?_ ?_
                                    rotate_left
                                    · intro w'
                                      go_simp
                                      with_reducible rfl
                                    rotate_left
                                    · simp only [Act.put, List.setIfInBounds_toArray, List.set_cons_zero, List.set_cons_succ, i64_w, i32_w]
                                      rfl
                                    refine join_ (σ := Value × Addr) 4 #[true, true, true, true, true, true, true, true, true, true, false, false, false, false] (fun s_ => [(110, s_.1), (112, .int .i64 t206)]) (fun s_ w' => (w'.cell? ⟨gb158, 0, none⟩ = some (.int .i64 t149) ∧ w'.cell? ⟨gb158, 1, none⟩ = some (.slice Ao28 t150.length co28) ∧ w'.cell? ⟨gb158, 2, none⟩ = some (.int .i64 t153) ∧ w'.cell? ⟨gb158, 3, none⟩ = some (.slice Ao29 t154.length co29) ∧ w'.cell? ⟨gb158, 4, none⟩ = some (.int .i64 t157)) ∧ (Kd.R (Kd.int .i64) 3 w' w.heap.size (fun k_ => some k_ ≠ (.slice Ao29 t154.length co29 : Value).ownBlock ∧ some k_ ≠ (s_.1 : Value).ownBlock) (.slice Ao28 t150.length co28) t150) ∧ (Kd.R (Kd.int .i64) 3 w' w.heap.size (fun k_ => some k_ ≠ (.slice Ao28 t150.length co28 : Value).ownBlock ∧ some k_ ≠ (s_.1 : Value).ownBlock) (.slice Ao29 t154.length co29) t154) ∧ (Kd.R (Kd.int .i64) 3 w' w.heap.size (fun k_ => some k_ ≠ (.slice Ao28 t150.length co28 : Value).ownBlock ∧ some k_ ≠ (.slice Ao29 t154.length co29 : Value).ownBlock) s_.1 y203) ∧ (∃ c_, (s_.1 : Value) = .slice (some s_.2) y203.length c_) ∧ (w'.heap[gb145]? = some (.cells #[.int .i64 a0_0, .slice A0_1 l0_1.length c0_1, .int .i64 a0_2, .slice A0_3 l0_3.length c0_3, .int .i64 a0_4] 26 (0, 0))) ∧ (w'.heap[gb158]? = some (.cells #[.int .i64 t149, .slice Ao28 t150.length co28, .int .i64 t153, .slice Ao29 t154.length co29, .int .i64 t157] 26 (0, 0))) ∧ (Below w.heap.size w w')) ?_ ?_
                                    rotate_left
                                    · intro hCont
                                      refine two_ (i := 7) (j := 9) (Ni := some 110) (Nj := some 112) #[true, true, true, true, true, true, true, true, true, false, false, false, false, false] #[true, true, true, true, true, true, true, false, true, true, false, false, false, false] rfl rfl rfl rfl (two_of HT_.out (by kernel_rfl)) (by decide) (by decide) (fun K hK => ?_) (fun K hK => ?_)
                                      · skip
                                        refine Kd.R_lit_step (Kd.int .i64) _ 3 ?hg (N := 110) ?hd (xs := ([(-1), 0, 5, 6, (t150.length : Int), a3] : List Int)) (inner := [.int .i64 (-1), .int .i64 0, .int .i64 5, .int .i64 6, .int .i64 (t150.length : Int), .int .i64 a3]) (ok := fun _ => True) (okp := fun _ => True) ?hr ?hp (fun _ hk => hk) trivial (Below.refl _ _) (Nat.le_refl _) (by simp) ?_; (case hd => rfl); (case hg => rfl); (case hr => first | (go_simp; done) | (go_simp; rfl)); (case hp => exact (Reps.one (show Kd.M (Kd.int .i64) _ _ _ (-1) [.int .i64 (-1)] from rfl) (Reps.one (show Kd.M (Kd.int .i64) _ _ _ 0 [.int .i64 0] from rfl) (Reps.one (show Kd.M (Kd.int .i64) _ _ _ 5 [.int .i64 5] from rfl) (Reps.one (show Kd.M (Kd.int .i64) _ _ _ 6 [.int .i64 6] from rfl) (Reps.one (show Kd.M (Kd.int .i64) _ _ _ (t150.length : Int) [.int .i64 (t150.length : Int)] from rfl) (Reps.one (show Kd.M (Kd.int .i64) _ _ _ a3 [.int .i64 a3] from rfl) (Reps.none _ _))))))))
                                        intro v204 w103 ho104 hb hg_ hnew_
                                        clear hg_ hnew_
                                        (first | rw [← Ny203.out] at ho104 | (simp only [Int.reduceToNat] at ho104; rw [← Ny203.out] at ho104))
                                        have n0_ := Aside0.mk (Kd.R_elder' (by (with_reducible repeat (first | apply Kd.R_alloc | apply Kd.R_drewN | apply Kd.R_drew)); exact HO152.out) (Kd.R_base ho104) hb)
                                        have n1_ := Aside0.mk (Kd.R_elder' (by (with_reducible repeat (first | apply Kd.R_alloc | apply Kd.R_drewN | apply Kd.R_drew)); exact HO156.out) (Kd.R_base ho104) hb)
                                        have n2_ := Aside0.mk (Kd.R_lower (Kd.R_new' (Kd.R_new' ho104 (Kd.R_lt (by (with_reducible repeat (first | apply Kd.R_alloc | apply Kd.R_drewN | apply Kd.R_drew)); exact HO152.out))) (Kd.R_lt (by (with_reducible repeat (first | apply Kd.R_alloc | apply Kd.R_drewN | apply Kd.R_drew)); exact HO156.out))) (below_size (by repeat (first | (with_reducible first | exact HB.out | apply below_alloc | apply pw_below_drewN | apply below_drew1 | refine below_set ?_ GE145.out | refine below_set ?_ GE158.out) | exact HB.out))))
                                        have n3_ := Aside0.mk (blk_below (g := gb145) (o := .cells #[.int .i64 a0_0, .slice A0_1 l0_1.length c0_1, .int .i64 a0_2, .slice A0_3 l0_3.length c0_3, .int .i64 a0_4] 26 (0, 0)) (by (with_reducible repeat (first | refine blk_drewN ?_ _ | refine blk_drew ?_ | refine blk_alloc ?_ _)); exact BK145.out) hb)
                                        have n4_ := Aside0.mk (blk_below (g := gb158) (o := .cells #[.int .i64 t149, .slice Ao28 t150.length co28, .int .i64 t153, .slice Ao29 t154.length co29, .int .i64 t157] 26 (0, 0)) (by (with_reducible repeat (first | refine blk_drewN ?_ _ | refine blk_drew ?_ | refine blk_alloc ?_ _)); exact BK158.out) hb)
                                        have n5_ := Aside0.mk (below_step (by repeat (first | (with_reducible first | exact HB.out | apply below_alloc | apply pw_below_drewN | apply below_drew1 | refine below_set ?_ GE145.out | refine below_set ?_ GE158.out) | exact HB.out)) hb)
                                        clear HO152
                                        clear HO156
                                        clear BK145
                                        clear BK158
                                        clear HB
                                        have HO152 := n0_
                                        have HO156 := n1_
                                        have HO205 := n2_
                                        have BK145 := n3_
                                        have BK158 := n4_
                                        have HB := n5_
                                        clear n0_ n1_ n2_ n3_ n4_ n5_
                                        clear hb ho104
                                        obtain ⟨Ao105, co105, eo105⟩ := Kd.R_slice HO205.out
                                        subst eo105
                                        obtain ⟨ado105, fo105, _⟩ := Kd.at_int (Kd.R_reads' HO205.out).2.2 0 (by decide) (by rw [Ny203.out]; simp)
                                        cases fo105
                                        refine hK.out _ _ ⟨(blk_cell BK158.out 0).trans rfl, (blk_cell BK158.out 1).trans rfl, (blk_cell BK158.out 2).trans rfl, (blk_cell BK158.out 3).trans rfl, (blk_cell BK158.out 4).trans rfl⟩ (fun hHeld => ?_)
                                        clear hK K
                                        refine norm_ (a' := ?_) ?_ ?_
                                        rotate_left
                                        · show Act.put _ (some 110) _ = _
                                          simp only [Act.put, List.setIfInBounds_toArray, List.set_cons_zero, List.set_cons_succ, i64_w, i32_w]
                                          rfl
                                        refine one_ (i := 9) (N := some 112) #[true, true, true, true, true, true, true, true, true, true, false, false, false, false] rfl rfl (one_of HT_.out (by kernel_rfl)) (by decide) (fun K hK => ?_)
                                        refine goes_ Try.func17 (by kernel_rfl) rfl #[.int .i64 a3, .int .i64 6] (by rfl) rfl rfl (by (try simp only [List.map_toArray, List.map_cons, List.map_nil]); first | done | rfl | (simp only [List.length_drop, List.length_take]; rfl)) ?_
                                        with_reducible refine (interlocutorlaw4_within.calls a3 6 t206 _ A97.out).mono ?_
                                        rintro e w' ⟨rfl, ⟨nd, rfl⟩⟩
                                        refine ⟨_, rfl, ?_⟩
                                        refine hK.out _ _ ⟨(blk_cell BK158.out 0).trans rfl, (blk_cell BK158.out 1).trans rfl, (blk_cell BK158.out 2).trans rfl, (blk_cell BK158.out 3).trans rfl, (blk_cell BK158.out 4).trans rfl⟩ (fun hHeld => ?_)
                                        clear hK K
                                        refine norm_ (a' := ?_) ?_ ?_
                                        rotate_left
                                        · show Act.put _ (some 112) _ = _
                                          simp only [Act.put, List.setIfInBounds_toArray, List.set_cons_zero, List.set_cons_succ, i64_w, i32_w]
                                          rfl
                                        exact norm_ (by simp only [putAll, Act.put, List.setIfInBounds_toArray, List.set_cons_zero, List.set_cons_succ]) (hCont (.slice (some ado105) y203.length co105, ado105) _ ⟨hHeld, (by (with_reducible repeat (first | apply Kd.R_alloc | apply Kd.R_drewN | apply Kd.R_drew)); exact HO152.out), (by (with_reducible repeat (first | apply Kd.R_alloc | apply Kd.R_drewN | apply Kd.R_drew)); exact HO156.out), (by (with_reducible repeat (first | apply Kd.R_alloc | apply Kd.R_drewN | apply Kd.R_drew)); exact Kd.R_mono HO205.out (fun _ hk => ⟨hk.1.2, hk.2⟩)), ⟨_, rfl⟩, (by (with_reducible repeat (first | refine blk_drewN ?_ _ | refine blk_drew ?_ | refine blk_alloc ?_ _)); exact BK145.out), (by (with_reducible repeat (first | refine blk_drewN ?_ _ | refine blk_drew ?_ | refine blk_alloc ?_ _)); exact BK158.out), (by repeat (first | (with_reducible first | exact HB.out | apply below_alloc | apply pw_below_drewN | apply below_drew1 | refine below_set ?_ GE145.out | refine below_set ?_ GE158.out) | exact HB.out))⟩)
                                      · skip
                                        refine goes_ Try.func17 (by kernel_rfl) rfl #[.int .i64 a3, .int .i64 6] (by rfl) rfl rfl (by (try simp only [List.map_toArray, List.map_cons, List.map_nil]); first | done | rfl | (simp only [List.length_drop, List.length_take]; rfl)) ?_
                                        with_reducible refine (interlocutorlaw4_within.calls a3 6 t206 _ A97.out).mono ?_
                                        rintro e w' ⟨rfl, ⟨nd, rfl⟩⟩
                                        refine ⟨_, rfl, ?_⟩
                                        refine hK.out _ _ ⟨(blk_cell BK158.out 0).trans rfl, (blk_cell BK158.out 1).trans rfl, (blk_cell BK158.out 2).trans rfl, (blk_cell BK158.out 3).trans rfl, (blk_cell BK158.out 4).trans rfl⟩ (fun hHeld => ?_)
                                        clear hK K
                                        refine norm_ (a' := ?_) ?_ ?_
                                        rotate_left
                                        · show Act.put _ (some 112) _ = _
                                          simp only [Act.put, List.setIfInBounds_toArray, List.set_cons_zero, List.set_cons_succ, i64_w, i32_w]
                                          rfl
                                        refine one_ (i := 7) (N := some 110) #[true, true, true, true, true, true, true, true, true, true, false, false, false, false] rfl rfl (one_of HT_.out (by kernel_rfl)) (by decide) (fun K hK => ?_)
                                        refine Kd.R_lit_step (Kd.int .i64) _ 3 ?hg (N := 110) ?hd (xs := ([(-1), 0, 5, 6, (t150.length : Int), a3] : List Int)) (inner := [.int .i64 (-1), .int .i64 0, .int .i64 5, .int .i64 6, .int .i64 (t150.length : Int), .int .i64 a3]) (ok := fun _ => True) (okp := fun _ => True) ?hr ?hp (fun _ hk => hk) trivial (Below.refl _ _) (Nat.le_refl _) (by simp) ?_; (case hd => rfl); (case hg => rfl); (case hr => first | (go_simp; done) | (go_simp; rfl)); (case hp => exact (Reps.one (show Kd.M (Kd.int .i64) _ _ _ (-1) [.int .i64 (-1)] from rfl) (Reps.one (show Kd.M (Kd.int .i64) _ _ _ 0 [.int .i64 0] from rfl) (Reps.one (show Kd.M (Kd.int .i64) _ _ _ 5 [.int .i64 5] from rfl) (Reps.one (show Kd.M (Kd.int .i64) _ _ _ 6 [.int .i64 6] from rfl) (Reps.one (show Kd.M (Kd.int .i64) _ _ _ (t150.length : Int) [.int .i64 (t150.length : Int)] from rfl) (Reps.one (show Kd.M (Kd.int .i64) _ _ _ a3 [.int .i64 a3] from rfl) (Reps.none _ _))))))))
                                        intro v204 w103 ho104 hb hg_ hnew_
                                        clear hg_ hnew_
                                        (first | rw [← Ny203.out] at ho104 | (simp only [Int.reduceToNat] at ho104; rw [← Ny203.out] at ho104))
                                        have n0_ := Aside0.mk (Kd.R_elder' (by (with_reducible repeat (first | apply Kd.R_alloc | apply Kd.R_drewN | apply Kd.R_drew)); exact HO152.out) (Kd.R_base ho104) hb)
                                        have n1_ := Aside0.mk (Kd.R_elder' (by (with_reducible repeat (first | apply Kd.R_alloc | apply Kd.R_drewN | apply Kd.R_drew)); exact HO156.out) (Kd.R_base ho104) hb)
                                        have n2_ := Aside0.mk (Kd.R_lower (Kd.R_new' (Kd.R_new' ho104 (Kd.R_lt (by (with_reducible repeat (first | apply Kd.R_alloc | apply Kd.R_drewN | apply Kd.R_drew)); exact HO152.out))) (Kd.R_lt (by (with_reducible repeat (first | apply Kd.R_alloc | apply Kd.R_drewN | apply Kd.R_drew)); exact HO156.out))) (below_size (by repeat (first | (with_reducible first | exact HB.out | apply below_alloc | apply pw_below_drewN | apply below_drew1 | refine below_set ?_ GE145.out | refine below_set ?_ GE158.out) | exact HB.out))))
                                        have n3_ := Aside0.mk (blk_below (g := gb145) (o := .cells #[.int .i64 a0_0, .slice A0_1 l0_1.length c0_1, .int .i64 a0_2, .slice A0_3 l0_3.length c0_3, .int .i64 a0_4] 26 (0, 0)) (by (with_reducible repeat (first | refine blk_drewN ?_ _ | refine blk_drew ?_ | refine blk_alloc ?_ _)); exact BK145.out) hb)
                                        have n4_ := Aside0.mk (blk_below (g := gb158) (o := .cells #[.int .i64 t149, .slice Ao28 t150.length co28, .int .i64 t153, .slice Ao29 t154.length co29, .int .i64 t157] 26 (0, 0)) (by (with_reducible repeat (first | refine blk_drewN ?_ _ | refine blk_drew ?_ | refine blk_alloc ?_ _)); exact BK158.out) hb)
                                        have n5_ := Aside0.mk (below_step (by repeat (first | (with_reducible first | exact HB.out | apply below_alloc | apply pw_below_drewN | apply below_drew1 | refine below_set ?_ GE145.out | refine below_set ?_ GE158.out) | exact HB.out)) hb)
                                        clear HO152
                                        clear HO156
                                        clear BK145
                                        clear BK158
                                        clear HB
                                        have HO152 := n0_
                                        have HO156 := n1_
                                        have HO205 := n2_
                                        have BK145 := n3_
                                        have BK158 := n4_
                                        have HB := n5_
                                        clear n0_ n1_ n2_ n3_ n4_ n5_
                                        clear hb ho104
                                        obtain ⟨Ao105, co105, eo105⟩ := Kd.R_slice HO205.out
                                        subst eo105
                                        obtain ⟨ado105, fo105, _⟩ := Kd.at_int (Kd.R_reads' HO205.out).2.2 0 (by decide) (by rw [Ny203.out]; simp)
                                        cases fo105
                                        refine hK.out _ _ ⟨(blk_cell BK158.out 0).trans rfl, (blk_cell BK158.out 1).trans rfl, (blk_cell BK158.out 2).trans rfl, (blk_cell BK158.out 3).trans rfl, (blk_cell BK158.out 4).trans rfl⟩ (fun hHeld => ?_)
                                        clear hK K
                                        refine norm_ (a' := ?_) ?_ ?_
                                        rotate_left
                                        · show Act.put _ (some 110) _ = _
                                          simp only [Act.put, List.setIfInBounds_toArray, List.set_cons_zero, List.set_cons_succ, i64_w, i32_w]
                                          rfl
                                        exact norm_ (by simp only [putAll, Act.put, List.setIfInBounds_toArray, List.set_cons_zero, List.set_cons_succ]) (hCont (.slice (some ado105) y203.length co105, ado105) _ ⟨hHeld, (by (with_reducible repeat (first | apply Kd.R_alloc | apply Kd.R_drewN | apply Kd.R_drew)); exact HO152.out), (by (with_reducible repeat (first | apply Kd.R_alloc | apply Kd.R_drewN | apply Kd.R_drew)); exact HO156.out), (by (with_reducible repeat (first | apply Kd.R_alloc | apply Kd.R_drewN | apply Kd.R_drew)); exact Kd.R_mono HO205.out (fun _ hk => ⟨hk.1.2, hk.2⟩)), ⟨_, rfl⟩, (by (with_reducible repeat (first | refine blk_drewN ?_ _ | refine blk_drew ?_ | refine blk_alloc ?_ _)); exact BK145.out), (by (with_reducible repeat (first | refine blk_drewN ?_ _ | refine blk_drew ?_ | refine blk_alloc ?_ _)); exact BK158.out), (by repeat (first | (with_reducible first | exact HB.out | apply below_alloc | apply pw_below_drewN | apply below_drew1 | refine below_set ?_ GE145.out | refine below_set ?_ GE158.out) | exact HB.out))⟩)
                                    rintro ⟨v204, adz_v204⟩ w106 ⟨hS_, h0_, h1_, h2_, h3_, h4_, h5_, h6_⟩
                                    have n0_ : Aside0 (Kd.R (Kd.int .i64) 3 w106 w.heap.size (fun k_ => some k_ ≠ (.slice Ao29 t154.length co29 : Value).ownBlock ∧ some k_ ≠ (v204 : Value).ownBlock) (.slice Ao28 t150.length co28) t150) := ⟨h0_⟩
                                    have n1_ : Aside0 (Kd.R (Kd.int .i64) 3 w106 w.heap.size (fun k_ => some k_ ≠ (.slice Ao28 t150.length co28 : Value).ownBlock ∧ some k_ ≠ (v204 : Value).ownBlock) (.slice Ao29 t154.length co29) t154) := ⟨h1_⟩
                                    have n2_ : Aside0 (Kd.R (Kd.int .i64) 3 w106 w.heap.size (fun k_ => some k_ ≠ (.slice Ao28 t150.length co28 : Value).ownBlock ∧ some k_ ≠ (.slice Ao29 t154.length co29 : Value).ownBlock) v204 y203) := ⟨h2_⟩
                                    have n3_ : Aside0 (∃ c_, (v204 : Value) = .slice (some adz_v204) y203.length c_) := ⟨h3_⟩
                                    have n4_ : Aside0 (w106.heap[gb145]? = some (.cells #[.int .i64 a0_0, .slice A0_1 l0_1.length c0_1, .int .i64 a0_2, .slice A0_3 l0_3.length c0_3, .int .i64 a0_4] 26 (0, 0))) := ⟨h4_⟩
                                    have n5_ : Aside0 (w106.heap[gb158]? = some (.cells #[.int .i64 t149, .slice Ao28 t150.length co28, .int .i64 t153, .slice Ao29 t154.length co29, .int .i64 t157] 26 (0, 0))) := ⟨h5_⟩
                                    have n6_ : Aside0 (Below w.heap.size w w106) := ⟨h6_⟩
                                    clear HO152
                                    clear HO156
                                    clear BK145
                                    clear BK158
                                    clear HB
                                    clear h0_ h1_ h2_ h3_ h4_ h5_ h6_
                                    have HO152 := n0_
                                    have HO156 := n1_
                                    have HO205 := n2_
                                    have HA_HO205 := n3_
                                    have BK145 := n4_
                                    have BK158 := n5_
                                    have HB := n6_
                                    clear n0_ n1_ n2_ n3_ n4_ n5_ n6_
                                    have hHeld : w106.cell? ⟨gb158, 0, none⟩ = some (.int .i64 t149) ∧ w106.cell? ⟨gb158, 1, none⟩ = some (.slice Ao28 t150.length co28) ∧ w106.cell? ⟨gb158, 2, none⟩ = some (.int .i64 t153) ∧ w106.cell? ⟨gb158, 3, none⟩ = some (.slice Ao29 t154.length co29) ∧ w106.cell? ⟨gb158, 4, none⟩ = some (.int .i64 t157) := hS_
                                    obtain ⟨co107, eo107⟩ := HA_HO205.out
                                    clear HA_HO205
                                    subst eo107
                                    have p101 : 0 ≤ (0 : Int) := (by omega)
                                    have q101 : (0 : Int) < ((t154.length : Int) : Int) := of_decide_eq_true (by first | (with_reducible assumption) | assumption)
                                    have qi101 : (0 < t154.length) = True := eq_true (by omega)
                                    obtain ⟨go101, co101, eo101, gb101, gl101, cl101, HG101⟩ := Kd.R_form HO156.out (by omega)
                                    (first | cases eo101 | (injection eo101 with ea_ en_ ec_; (first | subst ea_ | (injection ea_ with ea_; subst ea_)); subst ec_; clear en_))
                                    have GB101 := Aside0.mk gb101
                                    have GG101 := Aside0.mk HG101
                                    clear gb101 gl101 HG101
                                    obtain ⟨hx101_0, hf101_0⟩ := Kd.R_celln 0 HO156.out (0 : Int) p101 q101
                                    (try rw [show ((0 : Int)).toNat = 0 from rfl] at hx101_0)
                                    (try simp only [Nat.reduceMul, Nat.zero_mul, Nat.zero_add, Nat.reduceAdd] at hx101_0)
                                    (try rw [show ((0 : Int)).toNat = 0 from rfl] at hf101_0)
                                    (try simp only [Nat.reduceMul, Nat.zero_mul, Nat.zero_add, Nat.reduceAdd] at hf101_0)
                                    replace p101 := eq_true p101
                                    replace q101 := eq_true q101
                                    have HP108 := Kd.R_putn HO156.out (0 : Int) (rd y203 t206)
                                    rw [← Ny208.out] at HP108
                                    have HQ108 := Aside0.mk HP108
                                    clear HP108
                                    refine norm_ (a' := ?_) ?_ ?_
                                    rotate_left
                                    · simp only [putAll, Act.put, List.setIfInBounds_toArray, List.set_cons_zero, List.set_cons_succ]
                                      rfl
                                    refine pure_ (i := 10) (N := some 113) (v := ?_) (a' := ?_) #[true, true, true, true, true, true, true, true, true, true, true, false, false, false] rfl rfl (any_of HT_.out (by kernel_rfl)) (fun _ _ _ h => h) (Or.inl ⟨by rfl, ?_⟩) ?_ ?_
                                    rotate_left
                                    · intro w'
                                      go_simp
                                      with_reducible rfl
                                    rotate_left
                                    · simp only [Act.put, List.setIfInBounds_toArray, List.set_cons_zero, List.set_cons_succ, i64_w, i32_w]
                                      rfl
                                    refine one_ (i := 11) (N := some 114) #[true, true, true, true, true, true, true, true, true, true, true, true, false, false] rfl rfl (one_of HT_.out (by kernel_rfl)) (by decide) (fun K hK => ?_)
                                    (have p207 : 0 ≤ (t206 : Int) := of_decide_eq_true (by first | (with_reducible assumption) | assumption); have q207 : t206 < (y203.length : Int) := of_decide_eq_true (by first | (with_reducible assumption) | assumption); obtain ⟨ad207, e207, hx207_0⟩ := Kd.at_int (Kd.R_reads' HO205.out).2.2 t206 p207 q207; obtain rfl : adz_v204 = ad207 := (by injection e207))
                                    refine value_ (w1 := ?_) (v := ?_) (by rfl) rfl ?_ ?_
                                    rotate_left 2
                                    · go_simp
                                      constructor
                                      · rfl
                                      · rfl
                                    clear hx207_0
                                    refine hK.out _ _ ⟨(blk_cell BK158.out 0).trans rfl, (blk_cell BK158.out 1).trans rfl, (blk_cell BK158.out 2).trans rfl, (blk_cell BK158.out 3).trans rfl, (blk_cell BK158.out 4).trans rfl⟩ (fun hHeld => ?_)
                                    clear hK K
                                    refine norm_ (a' := ?_) ?_ ?_
                                    rotate_left
                                    · show Act.put _ (some 114) _ = _
                                      simp only [Act.put, List.setIfInBounds_toArray, List.set_cons_zero, List.set_cons_succ, i64_w, i32_w]
                                      rfl
                                    refine pure_ (i := 12) (N := some 115) (v := ?_) (a' := ?_) #[true, true, true, true, true, true, true, true, true, true, true, true, true, false] rfl rfl (any_of HT_.out (by kernel_rfl)) (fun _ _ _ h => h) (Or.inl ⟨by rfl, ?_⟩) ?_ ?_
                                    rotate_left
                                    · intro w'
                                      go_simp
                                      with_reducible rfl
                                    rotate_left
                                    · simp only [Act.put, List.setIfInBounds_toArray, List.set_cons_zero, List.set_cons_succ, i64_w, i32_w]
                                      rfl
                                    refine last_ (i := 13) (N := none) #[true, true, true, true, true, true, true, true, true, true, true, true, true, true] rfl rfl (one_of HT_.out (by kernel_rfl)) (by decide) (fun K hK => ?_)
                                    refine skip_ (w1 := ?_) (by rfl) rfl ?_ ?_
                                    rotate_left
                                    · go_simp
                                      rfl
                                    refine hK.out _ _ ?_
                                    clear hK K
                                    refine done_ (done_of HT_.out (by kernel_rfl)) ?_
                                    try go_wp2
                                    go_meet
                                    case rel => exact ⟨_, (t149), (t150), (t153), (y208), (t157), (.slice Ao28 t150.length co28), (.slice (some ⟨go101, 0, none⟩) t154.length co29), H', ⟨by have := HJ6.out; first | omega | exact Nat.le_refl _⟩, ⟨by (with_reducible repeat (first | apply Kd.R_alloc | apply Kd.R_drewN | apply Kd.R_drew)); exact Kd.R_mono (Kd.R_far (p := ⟨go101, 0, none⟩) (Kd.R_mono HO152.out (fun k_ hk => (⟨hk, fun e_ => hk.1 (by rw [e_]; rfl)⟩ : _ ∧ k_ ≠ go101))) (fun _ hk => hk.2) (.int .i64 (rd y203 t206))) (fun _ hk => hk.1.1)⟩, ⟨by (with_reducible repeat (first | apply Kd.R_alloc | apply Kd.R_drewN | apply Kd.R_drew)); exact Kd.R_mono HQ108.out (fun _ hk => hk.1)⟩, ⟨by (with_reducible repeat (first | refine blk_drewN ?_ _ | refine blk_drew ?_ | refine blk_alloc ?_ _)); refine blk_far ?_ (by have h_ := Kd.R_ne HO156.out BK145.out (by decide); intro e_; exact h_ (by rw [e_]; rfl)) _; (with_reducible repeat (first | refine blk_drewN ?_ _ | refine blk_drew ?_ | refine blk_alloc ?_ _)); exact BK145.out⟩, ⟨by (with_reducible repeat (first | refine blk_drewN ?_ _ | refine blk_drew ?_ | refine blk_alloc ?_ _)); refine blk_far ?_ (by have h_ := Kd.R_ne HO156.out BK158.out (by decide); intro e_; exact h_ (by rw [e_]; rfl)) _; (with_reducible repeat (first | refine blk_drewN ?_ _ | refine blk_drew ?_ | refine blk_alloc ?_ _)); exact BK158.out⟩, ⟨by repeat (first | (with_reducible first | exact HB.out | apply below_alloc | apply pw_below_drewN | apply below_drew1 | refine below_set ?_ GB101.out | refine below_set ?_ GE145.out | refine below_set ?_ GE158.out) | exact HB.out)⟩⟩
                                  · rw [if_neg c100] at H
                                    exact absurd H (by simp)
                                · rw [if_neg c99] at H
                                  exact absurd H (by simp)
                              · rw [if_neg c98] at H
                                exact absurd H (by simp)
                            · rw [if_neg c96] at H
                              have c96b0 : (t160 == 6) = false := beq_eq_false_iff_ne.mpr c96
                              have c96b1 : (t160 != 6) = true := bne_iff_ne.mpr c96
                              have H' := Aside0.mk H
                              clear H
                              go_wp2
                              go_meet
                              case rel => exact ⟨_, (t149), (t150), (t153), (t154), (t157), (.slice Ao28 t150.length co28), (.slice Ao29 t154.length co29), H', ⟨by have := HJ6.out; first | omega | exact Nat.le_refl _⟩, ⟨by (with_reducible repeat (first | apply Kd.R_alloc | apply Kd.R_drewN | apply Kd.R_drew)); exact HO152.out⟩, ⟨by (with_reducible repeat (first | apply Kd.R_alloc | apply Kd.R_drewN | apply Kd.R_drew)); exact HO156.out⟩, ⟨by (with_reducible repeat (first | refine blk_drewN ?_ _ | refine blk_drew ?_ | refine blk_alloc ?_ _)); exact BK145.out⟩, ⟨by (with_reducible repeat (first | refine blk_drewN ?_ _ | refine blk_drew ?_ | refine blk_alloc ?_ _)); exact BK158.out⟩, ⟨by repeat (first | (with_reducible first | exact HB.out | apply below_alloc | apply pw_below_drewN | apply below_drew1 | refine below_set ?_ GE145.out | refine below_set ?_ GE158.out) | exact HB.out)⟩⟩
              case rest =>
                clear HC23
                try clear c1
                try clear p1
                try clear q1
                try clear hx1
                try clear qi1
                try clear p2
                try clear q2
                try clear hx2
                try clear qi2
                try clear c4
                try clear p4
                try clear q4
                try clear hx4
                try clear qi4
                try clear hf4
                try clear c5
                try clear c6
                try clear c7
                try clear c8
                try clear c9
                try clear c10
                try clear p10
                try clear q10
                try clear hx10
                try clear qi10
                try clear hf10
                try clear c17
                try clear p17
                try clear q17
                try clear hx17
                try clear p18
                try clear q18
                try clear hx18
                try clear p19
                try clear q19
                try clear hx19
                try clear p20
                try clear q20
                try clear hx20
                try clear qi20
                try clear c40
                try clear c40b0
                try clear c40b1
                try clear c42
                try clear c43
                try clear c44
                try clear p45
                try clear q45
                try clear hx45
                try clear qi45
                try clear hf45
                try clear c53
                try clear c53b0
                try clear c53b1
                try clear c54
                try clear c55
                try clear c58
                try clear c67
                try clear c67b0
                try clear c67b1
                try clear c69
                try clear c69b0
                try clear c70
                try clear c70b0
                try clear c74
                try clear c76
                try clear c76b0
                try clear c76b1
                try clear c78
                try clear c78b0
                try clear c79
                try clear c79b0
                try clear c83
                try clear c85
                try clear c85b0
                try clear c85b1
                try clear c86
                try clear c87
                try clear c90
                try clear c96
                try clear c96b0
                try clear c96b1
                try clear c98
                try clear c98b0
                try clear c99
                try clear c99b0
                try clear c100
                try clear c100b0
                try clear c100b1
                try clear p101
                try clear q101
                try clear hx101
                try clear qi101
                try clear hf101
                try clear hcz59_0
                try clear hcz59_1
                try clear hcz59_2
                try clear hcz59_3
                try clear hcz59_4
                try clear hcz66_0
                try clear hcz66_1
                try clear hcz66_2
                try clear hcz66_3
                try clear hcz66_4
                try clear hcz75_0
                try clear hcz75_1
                try clear hcz75_2
                try clear hcz75_3
                try clear hcz75_4
                try clear hcz84_0
                try clear hcz84_1
                try clear hcz84_2
                try clear hcz84_3
                try clear hcz84_4
                try clear hcz91_0
                try clear hcz91_1
                try clear hcz91_2
                try clear hcz91_3
                try clear hcz91_4
                try clear hcz95_0
                try clear hcz95_1
                try clear hcz95_2
                try clear hcz95_3
                try clear hcz95_4
                try clear hfz59_0
                try clear hfz59_1
                try clear hfz59_2
                try clear hfz59_3
                try clear hfz59_4
                try clear hfz66_0
                try clear hfz66_1
                try clear hfz66_2
                try clear hfz66_3
                try clear hfz66_4
                try clear hfz75_0
                try clear hfz75_1
                try clear hfz75_2
                try clear hfz75_3
                try clear hfz75_4
                try clear hfz84_0
                try clear hfz84_1
                try clear hfz84_2
                try clear hfz84_3
                try clear hfz84_4
                try clear hfz91_0
                try clear hfz91_1
                try clear hfz91_2
                try clear hfz91_3
                try clear hfz91_4
                try clear hfz95_0
                try clear hfz95_1
                try clear hfz95_2
                try clear hfz95_3
                try clear hfz95_4
                try clear hx101_0
                try clear hx170_0
                try clear hx188_0
                try clear hx193_0
                try clear hx207_0
                try clear hx45_0
                try clear p101
                try clear p170
                try clear p188
                try clear p193
                try clear p207
                try clear p45
                try clear q101
                try clear q170
                try clear q188
                try clear q193
                try clear q207
                try clear q45
                obtain ⟨kq, x159000_22, x159001_22, x159002_22, x159003_22, x159004_22, u159001, u159003, HA, HJ22, HO_159001, HO_159003, BK145, BK158, HB⟩ := hcut
                cases kq with
                | zero => exact absurd HA.out (by simp [interlocutorlaw4_GramRight.j1])
                | succ kj22 =>
                  have H := HA.out
                  clear HA
                  simp only [interlocutorlaw4_GramRight.j1] at H
                  replace H := Option.bind_eq_some_iff.mp H
                  obtain ⟨t209, A1090, H⟩ := H
                  replace H : ((interlocutorref4_Right.f kj22 x159000_22 x159001_22 x159002_22 x159003_22 x159004_22).bind fun t210 => (if (t209 == t210) = true then ((gram_Right.f a0_0 l0_1 a0_2 l0_3 a0_4).bind fun t211 => ((interlocutorref4_Right.f kj22 a0_0 l0_1 a0_2 l0_3 a0_4).bind fun t212 => (some (t211 == t212)))) else (some false))) = some r := H
                  have A109 := Aside0.mk A1090
                  clear A1090
                  replace H := Option.bind_eq_some_iff.mp H
                  obtain ⟨t210, A1100, H⟩ := H
                  replace H : (if (t209 == t210) = true then ((gram_Right.f a0_0 l0_1 a0_2 l0_3 a0_4).bind fun t211 => ((interlocutorref4_Right.f kj22 a0_0 l0_1 a0_2 l0_3 a0_4).bind fun t212 => (some (t211 == t212)))) else (some false)) = some r := H
                  have A110 := Aside0.mk A1100
                  clear A1100
                  by_cases c111 : (t209 == t210) = true
                  · rw [if_pos c111] at H
                    have c111b0 : (t209 == t210) = true := c111
                    (try (have c111b1 : decide (t209 = t210) = true := by simpa using c111))
                    (try (have c111b2 : (t209 == t210) = true := by simpa using c111))
                    clear c111
                    replace H := Option.bind_eq_some_iff.mp H
                    obtain ⟨t211, A1120, H⟩ := H
                    replace H : ((interlocutorref4_Right.f kj22 a0_0 l0_1 a0_2 l0_3 a0_4).bind fun t212 => (some (t211 == t212))) = some r := H
                    have A112 := Aside0.mk A1120
                    clear A1120
                    replace H := Option.bind_eq_some_iff.mp H
                    obtain ⟨t212, A1130, H⟩ := H
                    replace H : (some (t211 == t212)) = some r := H
                    have A113 := Aside0.mk A1130
                    clear A1130
                    obtain rfl := Option.some.inj H
                    try go_wp2
                    have n0_ := Aside0.mk (Kd.R_drew HO_159001.out)
                    have n1_ := Aside0.mk (Kd.R_drew HO_159003.out)
                    have n2_ := Aside0.mk (blk_drew BK145.out)
                    have n3_ := Aside0.mk (blk_drew BK158.out)
                    have n4_ := Aside0.mk (below_drew1 HB.out)
                    clear HO_159001
                    clear HO_159003
                    clear BK145
                    clear BK158
                    clear HB
                    have HO_159001 := n0_
                    have HO_159003 := n1_
                    have BK145 := n2_
                    have BK158 := n3_
                    have HB := n4_
                    clear n0_ n1_ n2_ n3_ n4_
                    obtain ⟨Ao115, co115, eo115⟩ := Kd.R_slice HO_159001.out
                    (first | subst eo115 | (injection eo115 with f1_ f2_ f3_; have f4_ := f1_.symm; have f5_ := f3_.symm; clear f1_ f2_ f3_; subst f4_; subst f5_))
                    obtain ⟨Ao116, co116, eo116⟩ := Kd.R_slice HO_159003.out
                    (first | subst eo116 | (injection eo116 with f1_ f2_ f3_; have f4_ := f1_.symm; have f5_ := f3_.symm; clear f1_ f2_ f3_; subst f4_; subst f5_))
                    refine start_ (n := 13) (S := fun w' => w'.cell? ⟨gb158, 0, none⟩ = some (.int .i64 x159000_22) ∧ w'.cell? ⟨gb158, 1, none⟩ = some (.slice Ao115 x159001_22.length co115) ∧ w'.cell? ⟨gb158, 2, none⟩ = some (.int .i64 x159002_22) ∧ w'.cell? ⟨gb158, 3, none⟩ = some (.slice Ao116 x159003_22.length co116) ∧ w'.cell? ⟨gb158, 4, none⟩ = some (.int .i64 x159004_22) ∧ w'.cell? ⟨gb145, 0, none⟩ = some (.int .i64 a0_0) ∧ w'.cell? ⟨gb145, 1, none⟩ = some (.slice A0_1 l0_1.length c0_1) ∧ w'.cell? ⟨gb145, 2, none⟩ = some (.int .i64 a0_2) ∧ w'.cell? ⟨gb145, 3, none⟩ = some (.slice A0_3 l0_3.length c0_3) ∧ w'.cell? ⟨gb145, 4, none⟩ = some (.int .i64 a0_4)) (ds := []) #[false, false, false, false, false, false, false, false, false, false, false, false, false] (by kernel_rfl) rfl rfl ⟨(blk_cell BK158.out 0).trans rfl, (blk_cell BK158.out 1).trans rfl, (blk_cell BK158.out 2).trans rfl, (blk_cell BK158.out 3).trans rfl, (blk_cell BK158.out 4).trans rfl, (blk_cell BK145.out 0).trans rfl, (blk_cell BK145.out 1).trans rfl, (blk_cell BK145.out 2).trans rfl, (blk_cell BK145.out 3).trans rfl, (blk_cell BK145.out 4).trans rfl⟩ (fun hHeld => ?_); refine with_tabW interlocutorlaw4_GramRight.tab23 interlocutorlaw4_GramRight.bits23 (fun HT_ HW_ => ?_)
                    generalize wc.drew = w114 at HO_159001 HO_159003 BK145 BK158 HB hHeld ⊢
                    refine take_ (i := 0) (N := some 116) (v := ?_) (a' := ?_) #[true, false, false, false, false, false, false, false, false, false, false, false, false] rfl rfl (take_ofW HT_.out HW_.out (by kernel_rfl)) (fun _ _ _ h => h) (Or.inl ⟨by rfl, ?_⟩) hHeld ?_ ?_
                    rotate_left
                    · rintro w' ⟨s0, s1, s2, s3, s4, s5, s6, s7, s8, s9⟩
                      go_simp
                      with_reducible rfl
                    rotate_left
                    · simp only [Act.put, List.setIfInBounds_toArray, List.set_cons_zero, List.set_cons_succ, i64_w, i32_w]
                      rfl
                    refine take_ (i := 2) (N := some 118) (v := ?_) (a' := ?_) #[true, false, true, false, false, false, false, false, false, false, false, false, false] rfl rfl (take_ofW HT_.out HW_.out (by kernel_rfl)) (fun _ _ _ h => h) (Or.inl ⟨by rfl, ?_⟩) hHeld ?_ ?_
                    rotate_left
                    · rintro w' ⟨s0, s1, s2, s3, s4, s5, s6, s7, s8, s9⟩
                      go_simp
                      with_reducible rfl
                    rotate_left
                    · simp only [Act.put, List.setIfInBounds_toArray, List.set_cons_zero, List.set_cons_succ, i64_w, i32_w]
                      rfl
                    refine one_ (i := 1) (N := some 117) #[true, true, true, false, false, false, false, false, false, false, false, false, false] rfl rfl (one_of HT_.out (by kernel_rfl)) (by decide) (fun K hK => ?_)
                    refine goes_ Try.func16 (by kernel_rfl) rfl #[.agg #[.int .i64 x159000_22, .slice Ao115 x159001_22.length co115, .int .i64 x159002_22, .slice Ao116 x159003_22.length co116, .int .i64 x159004_22]] (by rfl) rfl rfl (by (try simp only [List.map_toArray, List.map_cons, List.map_nil]); first | done | rfl | (simp only [List.length_drop, List.length_take]; rfl)) ?_
                    with_reducible refine (gram_Right.calls x159000_22 _ _ x159001_22 x159002_22 _ _ x159003_22 x159004_22 t209 _ ?side1 ?side2 ?side3 ?side4 A109.out).mono ?_
                    (case side1 => repeat (first | exact (Kd.R_reads' HO_159001.out).2.2 | (with_reducible refine Kd.C_alloc ?_ _) | (with_reducible refine Kd.C_drewN ?_ _) | (with_reducible refine Kd.C_drew ?_)))
                    (case side2 => exact (Kd.R_reads' HO_159001.out).2.1)
                    (case side3 => repeat (first | exact (Kd.R_reads' HO_159003.out).2.2 | (with_reducible refine Kd.C_alloc ?_ _) | (with_reducible refine Kd.C_drewN ?_ _) | (with_reducible refine Kd.C_drew ?_)))
                    (case side4 => exact (Kd.R_reads' HO_159003.out).2.1)
                    rintro e w117 ⟨rfl, hb⟩
                    refine ⟨_, rfl, ?_⟩
                    have n0_ := Aside0.mk (Kd.R_below (by (with_reducible repeat (first | apply Kd.R_alloc | apply Kd.R_drewN | apply Kd.R_drew)); exact HO_159001.out) hb)
                    have n1_ := Aside0.mk (Kd.R_below (by (with_reducible repeat (first | apply Kd.R_alloc | apply Kd.R_drewN | apply Kd.R_drew)); exact HO_159003.out) hb)
                    have n2_ := Aside0.mk (blk_below (g := gb145) (o := .cells #[.int .i64 a0_0, .slice A0_1 l0_1.length c0_1, .int .i64 a0_2, .slice A0_3 l0_3.length c0_3, .int .i64 a0_4] 26 (0, 0)) (by (with_reducible repeat (first | refine blk_drewN ?_ _ | refine blk_drew ?_ | refine blk_alloc ?_ _)); exact BK145.out) hb)
                    have n3_ := Aside0.mk (blk_below (g := gb158) (o := .cells #[.int .i64 x159000_22, .slice Ao115 x159001_22.length co115, .int .i64 x159002_22, .slice Ao116 x159003_22.length co116, .int .i64 x159004_22] 26 (0, 0)) (by (with_reducible repeat (first | refine blk_drewN ?_ _ | refine blk_drew ?_ | refine blk_alloc ?_ _)); exact BK158.out) hb)
                    have n4_ := Aside0.mk (below_step (by repeat (first | (with_reducible first | exact HB.out | apply below_alloc | apply pw_below_drewN | apply below_drew1 | refine below_set ?_ GE145.out | refine below_set ?_ GE158.out) | exact HB.out)) hb)
                    clear HO_159001
                    clear HO_159003
                    clear BK145
                    clear BK158
                    clear HB
                    have HO_159001 := n0_
                    have HO_159003 := n1_
                    have BK145 := n2_
                    have BK158 := n3_
                    have HB := n4_
                    clear n0_ n1_ n2_ n3_ n4_
                    (try clear hb)
                    (try clear hb2)
                    (try clear hk)
                    (try clear hi)
                    refine hK.out _ _ ⟨(blk_cell BK158.out 0).trans rfl, (blk_cell BK158.out 1).trans rfl, (blk_cell BK158.out 2).trans rfl, (blk_cell BK158.out 3).trans rfl, (blk_cell BK158.out 4).trans rfl, (blk_cell BK145.out 0).trans rfl, (blk_cell BK145.out 1).trans rfl, (blk_cell BK145.out 2).trans rfl, (blk_cell BK145.out 3).trans rfl, (blk_cell BK145.out 4).trans rfl⟩ (fun hHeld => ?_)
                    clear hK K
                    refine norm_ (a' := ?_) ?_ ?_
                    rotate_left
                    · show Act.put _ (some 117) _ = _
                      simp only [Act.put, List.setIfInBounds_toArray, List.set_cons_zero, List.set_cons_succ, i64_w, i32_w]
                      rfl
                    refine one_ (i := 3) (N := some 119) #[true, true, true, true, false, false, false, false, false, false, false, false, false] rfl rfl (one_of HT_.out (by kernel_rfl)) (by decide) (fun K hK => ?_)
                    refine goes_ Try.func18 (by kernel_rfl) rfl #[.agg #[.int .i64 x159000_22, .slice Ao115 x159001_22.length co115, .int .i64 x159002_22, .slice Ao116 x159003_22.length co116, .int .i64 x159004_22]] (by rfl) rfl rfl (by (try simp only [List.map_toArray, List.map_cons, List.map_nil]); first | done | rfl | (simp only [List.length_drop, List.length_take]; rfl)) ?_
                    with_reducible refine (interlocutorref4_Right.calls kj22 x159000_22 _ _ x159001_22 x159002_22 _ _ x159003_22 x159004_22 t210 _ ?side1 ?side2 ?side3 ?side4 A110.out).mono ?_
                    (case side1 => repeat (first | exact (Kd.R_reads' HO_159001.out).2.2 | (with_reducible refine Kd.C_alloc ?_ _) | (with_reducible refine Kd.C_drewN ?_ _) | (with_reducible refine Kd.C_drew ?_)))
                    (case side2 => exact (Kd.R_reads' HO_159001.out).2.1)
                    (case side3 => repeat (first | exact (Kd.R_reads' HO_159003.out).2.2 | (with_reducible refine Kd.C_alloc ?_ _) | (with_reducible refine Kd.C_drewN ?_ _) | (with_reducible refine Kd.C_drew ?_)))
                    (case side4 => exact (Kd.R_reads' HO_159003.out).2.1)
                    rintro e w118 ⟨rfl, hb⟩
                    refine ⟨_, rfl, ?_⟩
                    have n0_ := Aside0.mk (Kd.R_below (by (with_reducible repeat (first | apply Kd.R_alloc | apply Kd.R_drewN | apply Kd.R_drew)); exact HO_159001.out) hb)
                    have n1_ := Aside0.mk (Kd.R_below (by (with_reducible repeat (first | apply Kd.R_alloc | apply Kd.R_drewN | apply Kd.R_drew)); exact HO_159003.out) hb)
                    have n2_ := Aside0.mk (blk_below (g := gb145) (o := .cells #[.int .i64 a0_0, .slice A0_1 l0_1.length c0_1, .int .i64 a0_2, .slice A0_3 l0_3.length c0_3, .int .i64 a0_4] 26 (0, 0)) (by (with_reducible repeat (first | refine blk_drewN ?_ _ | refine blk_drew ?_ | refine blk_alloc ?_ _)); exact BK145.out) hb)
                    have n3_ := Aside0.mk (blk_below (g := gb158) (o := .cells #[.int .i64 x159000_22, .slice Ao115 x159001_22.length co115, .int .i64 x159002_22, .slice Ao116 x159003_22.length co116, .int .i64 x159004_22] 26 (0, 0)) (by (with_reducible repeat (first | refine blk_drewN ?_ _ | refine blk_drew ?_ | refine blk_alloc ?_ _)); exact BK158.out) hb)
                    have n4_ := Aside0.mk (below_step (by repeat (first | (with_reducible first | exact HB.out | apply below_alloc | apply pw_below_drewN | apply below_drew1 | refine below_set ?_ GE145.out | refine below_set ?_ GE158.out) | exact HB.out)) hb)
                    clear HO_159001
                    clear HO_159003
                    clear BK145
                    clear BK158
                    clear HB
                    have HO_159001 := n0_
                    have HO_159003 := n1_
                    have BK145 := n2_
                    have BK158 := n3_
                    have HB := n4_
                    clear n0_ n1_ n2_ n3_ n4_
                    (try clear hb)
                    (try clear hb2)
                    (try clear hk)
                    (try clear hi)
                    refine hK.out _ _ ⟨(blk_cell BK158.out 0).trans rfl, (blk_cell BK158.out 1).trans rfl, (blk_cell BK158.out 2).trans rfl, (blk_cell BK158.out 3).trans rfl, (blk_cell BK158.out 4).trans rfl, (blk_cell BK145.out 0).trans rfl, (blk_cell BK145.out 1).trans rfl, (blk_cell BK145.out 2).trans rfl, (blk_cell BK145.out 3).trans rfl, (blk_cell BK145.out 4).trans rfl⟩ (fun hHeld => ?_)
                    clear hK K
                    refine norm_ (a' := ?_) ?_ ?_
                    rotate_left
                    · show Act.put _ (some 119) _ = _
                      simp only [Act.put, List.setIfInBounds_toArray, List.set_cons_zero, List.set_cons_succ, i64_w, i32_w]
                      rfl
                    refine pure_ (i := 4) (N := some 120) (v := ?_) (a' := ?_) #[true, true, true, true, true, false, false, false, false, false, false, false, false] rfl rfl (any_of HT_.out (by kernel_rfl)) (fun _ _ _ h => h) (Or.inl ⟨by rfl, ?_⟩) ?_ ?_
                    rotate_left
                    · intro w'
                      go_simp
                      with_reducible rfl
                    rotate_left
                    · simp only [Act.put, List.setIfInBounds_toArray, List.set_cons_zero, List.set_cons_succ, i64_w, i32_w]
                      rfl
                    refine pure_ (i := 5) (N := some 121) (v := ?_) (a' := ?_) #[true, true, true, true, true, true, false, false, false, false, false, false, false] rfl rfl (any_of HT_.out (by kernel_rfl)) (fun _ _ _ h => h) (Or.inl ⟨by rfl, ?_⟩) ?_ ?_
                    rotate_left
                    · intro w'
                      go_simp
                      with_reducible rfl
                    rotate_left
                    · simp only [Act.put, List.setIfInBounds_toArray, List.set_cons_zero, List.set_cons_succ, i64_w, i32_w]
                      rfl
                    refine take_ (i := 6) (N := some 122) (v := ?_) (a' := ?_) #[true, true, true, true, true, true, true, false, false, false, false, false, false] rfl rfl (take_ofW HT_.out HW_.out (by kernel_rfl)) (fun _ _ _ h => h) (Or.inl ⟨by rfl, ?_⟩) hHeld ?_ ?_
                    rotate_left
                    · rintro w' ⟨s0, s1, s2, s3, s4, s5, s6, s7, s8, s9⟩
                      go_simp
                      with_reducible rfl
                    rotate_left
                    · simp only [Act.put, List.setIfInBounds_toArray, List.set_cons_zero, List.set_cons_succ, i64_w, i32_w]
                      rfl
                    refine take_ (i := 8) (N := some 124) (v := ?_) (a' := ?_) #[true, true, true, true, true, true, true, false, true, false, false, false, false] rfl rfl (take_ofW HT_.out HW_.out (by kernel_rfl)) (fun _ _ _ h => h) (Or.inl ⟨by rfl, ?_⟩) hHeld ?_ ?_
                    rotate_left
                    · rintro w' ⟨s0, s1, s2, s3, s4, s5, s6, s7, s8, s9⟩
                      go_simp
                      with_reducible rfl
                    rotate_left
                    · simp only [Act.put, List.setIfInBounds_toArray, List.set_cons_zero, List.set_cons_succ, i64_w, i32_w]
                      rfl
                    refine one_ (i := 7) (N := some 123) #[true, true, true, true, true, true, true, true, true, false, false, false, false] rfl rfl (one_of HT_.out (by kernel_rfl)) (by decide) (fun K hK => ?_)
                    refine goes_ Try.func16 (by kernel_rfl) rfl #[.agg #[.int .i64 a0_0, .slice A0_1 l0_1.length c0_1, .int .i64 a0_2, .slice A0_3 l0_3.length c0_3, .int .i64 a0_4]] (by rfl) rfl rfl (by (try simp only [List.map_toArray, List.map_cons, List.map_nil]); first | done | rfl | (simp only [List.length_drop, List.length_take]; rfl)) ?_
                    with_reducible refine (gram_Right.calls a0_0 _ _ l0_1 a0_2 _ _ l0_3 a0_4 t211 _ ?side1 ?side2 ?side3 ?side4 A112.out).mono ?_
                    (case side1 => repeat (first | exact (Kd.C_below HR0_1.out HB.out) | (with_reducible refine Kd.C_alloc ?_ _) | (with_reducible refine Kd.C_drewN ?_ _) | (with_reducible refine Kd.C_drew ?_)))
                    (case side2 => exact HC0_1.out)
                    (case side3 => repeat (first | exact (Kd.C_below HR0_3.out HB.out) | (with_reducible refine Kd.C_alloc ?_ _) | (with_reducible refine Kd.C_drewN ?_ _) | (with_reducible refine Kd.C_drew ?_)))
                    (case side4 => exact HC0_3.out)
                    rintro e w119 ⟨rfl, hb⟩
                    refine ⟨_, rfl, ?_⟩
                    have n0_ := Aside0.mk (Kd.R_below (by (with_reducible repeat (first | apply Kd.R_alloc | apply Kd.R_drewN | apply Kd.R_drew)); exact HO_159001.out) hb)
                    have n1_ := Aside0.mk (Kd.R_below (by (with_reducible repeat (first | apply Kd.R_alloc | apply Kd.R_drewN | apply Kd.R_drew)); exact HO_159003.out) hb)
                    have n2_ := Aside0.mk (blk_below (g := gb145) (o := .cells #[.int .i64 a0_0, .slice A0_1 l0_1.length c0_1, .int .i64 a0_2, .slice A0_3 l0_3.length c0_3, .int .i64 a0_4] 26 (0, 0)) (by (with_reducible repeat (first | refine blk_drewN ?_ _ | refine blk_drew ?_ | refine blk_alloc ?_ _)); exact BK145.out) hb)
                    have n3_ := Aside0.mk (blk_below (g := gb158) (o := .cells #[.int .i64 x159000_22, .slice Ao115 x159001_22.length co115, .int .i64 x159002_22, .slice Ao116 x159003_22.length co116, .int .i64 x159004_22] 26 (0, 0)) (by (with_reducible repeat (first | refine blk_drewN ?_ _ | refine blk_drew ?_ | refine blk_alloc ?_ _)); exact BK158.out) hb)
                    have n4_ := Aside0.mk (below_step (by repeat (first | (with_reducible first | exact HB.out | apply below_alloc | apply pw_below_drewN | apply below_drew1 | refine below_set ?_ GE145.out | refine below_set ?_ GE158.out) | exact HB.out)) hb)
                    clear HO_159001
                    clear HO_159003
                    clear BK145
                    clear BK158
                    clear HB
                    have HO_159001 := n0_
                    have HO_159003 := n1_
                    have BK145 := n2_
                    have BK158 := n3_
                    have HB := n4_
                    clear n0_ n1_ n2_ n3_ n4_
                    (try clear hb)
                    (try clear hb2)
                    (try clear hk)
                    (try clear hi)
                    refine hK.out _ _ ⟨(blk_cell BK158.out 0).trans rfl, (blk_cell BK158.out 1).trans rfl, (blk_cell BK158.out 2).trans rfl, (blk_cell BK158.out 3).trans rfl, (blk_cell BK158.out 4).trans rfl, (blk_cell BK145.out 0).trans rfl, (blk_cell BK145.out 1).trans rfl, (blk_cell BK145.out 2).trans rfl, (blk_cell BK145.out 3).trans rfl, (blk_cell BK145.out 4).trans rfl⟩ (fun hHeld => ?_)
                    clear hK K
                    refine norm_ (a' := ?_) ?_ ?_
                    rotate_left
                    · show Act.put _ (some 123) _ = _
                      simp only [Act.put, List.setIfInBounds_toArray, List.set_cons_zero, List.set_cons_succ, i64_w, i32_w]
                      rfl
                    refine one_ (i := 9) (N := some 125) #[true, true, true, true, true, true, true, true, true, true, false, false, false] rfl rfl (one_of HT_.out (by kernel_rfl)) (by decide) (fun K hK => ?_)
                    refine goes_ Try.func18 (by kernel_rfl) rfl #[.agg #[.int .i64 a0_0, .slice A0_1 l0_1.length c0_1, .int .i64 a0_2, .slice A0_3 l0_3.length c0_3, .int .i64 a0_4]] (by rfl) rfl rfl (by (try simp only [List.map_toArray, List.map_cons, List.map_nil]); first | done | rfl | (simp only [List.length_drop, List.length_take]; rfl)) ?_
                    with_reducible refine (interlocutorref4_Right.calls kj22 a0_0 _ _ l0_1 a0_2 _ _ l0_3 a0_4 t212 _ ?side1 ?side2 ?side3 ?side4 A113.out).mono ?_
                    (case side1 => repeat (first | exact (Kd.C_below HR0_1.out HB.out) | (with_reducible refine Kd.C_alloc ?_ _) | (with_reducible refine Kd.C_drewN ?_ _) | (with_reducible refine Kd.C_drew ?_)))
                    (case side2 => exact HC0_1.out)
                    (case side3 => repeat (first | exact (Kd.C_below HR0_3.out HB.out) | (with_reducible refine Kd.C_alloc ?_ _) | (with_reducible refine Kd.C_drewN ?_ _) | (with_reducible refine Kd.C_drew ?_)))
                    (case side4 => exact HC0_3.out)
                    rintro e w120 ⟨rfl, hb⟩
                    refine ⟨_, rfl, ?_⟩
                    have n0_ := Aside0.mk (Kd.R_below (by (with_reducible repeat (first | apply Kd.R_alloc | apply Kd.R_drewN | apply Kd.R_drew)); exact HO_159001.out) hb)
                    have n1_ := Aside0.mk (Kd.R_below (by (with_reducible repeat (first | apply Kd.R_alloc | apply Kd.R_drewN | apply Kd.R_drew)); exact HO_159003.out) hb)
                    have n2_ := Aside0.mk (blk_below (g := gb145) (o := .cells #[.int .i64 a0_0, .slice A0_1 l0_1.length c0_1, .int .i64 a0_2, .slice A0_3 l0_3.length c0_3, .int .i64 a0_4] 26 (0, 0)) (by (with_reducible repeat (first | refine blk_drewN ?_ _ | refine blk_drew ?_ | refine blk_alloc ?_ _)); exact BK145.out) hb)
                    have n3_ := Aside0.mk (blk_below (g := gb158) (o := .cells #[.int .i64 x159000_22, .slice Ao115 x159001_22.length co115, .int .i64 x159002_22, .slice Ao116 x159003_22.length co116, .int .i64 x159004_22] 26 (0, 0)) (by (with_reducible repeat (first | refine blk_drewN ?_ _ | refine blk_drew ?_ | refine blk_alloc ?_ _)); exact BK158.out) hb)
                    have n4_ := Aside0.mk (below_step (by repeat (first | (with_reducible first | exact HB.out | apply below_alloc | apply pw_below_drewN | apply below_drew1 | refine below_set ?_ GE145.out | refine below_set ?_ GE158.out) | exact HB.out)) hb)
                    clear HO_159001
                    clear HO_159003
                    clear BK145
                    clear BK158
                    clear HB
                    have HO_159001 := n0_
                    have HO_159003 := n1_
                    have BK145 := n2_
                    have BK158 := n3_
                    have HB := n4_
                    clear n0_ n1_ n2_ n3_ n4_
                    (try clear hb)
                    (try clear hb2)
                    (try clear hk)
                    (try clear hi)
                    refine hK.out _ _ ⟨(blk_cell BK158.out 0).trans rfl, (blk_cell BK158.out 1).trans rfl, (blk_cell BK158.out 2).trans rfl, (blk_cell BK158.out 3).trans rfl, (blk_cell BK158.out 4).trans rfl, (blk_cell BK145.out 0).trans rfl, (blk_cell BK145.out 1).trans rfl, (blk_cell BK145.out 2).trans rfl, (blk_cell BK145.out 3).trans rfl, (blk_cell BK145.out 4).trans rfl⟩ (fun hHeld => ?_)
                    clear hK K
                    refine norm_ (a' := ?_) ?_ ?_
                    rotate_left
                    · show Act.put _ (some 125) _ = _
                      simp only [Act.put, List.setIfInBounds_toArray, List.set_cons_zero, List.set_cons_succ, i64_w, i32_w]
                      rfl
                    refine pure_ (i := 10) (N := some 126) (v := ?_) (a' := ?_) #[true, true, true, true, true, true, true, true, true, true, true, false, false] rfl rfl (any_of HT_.out (by kernel_rfl)) (fun _ _ _ h => h) (Or.inl ⟨by rfl, ?_⟩) ?_ ?_
                    rotate_left
                    · intro w'
                      go_simp
                      with_reducible rfl
                    rotate_left
                    · simp only [Act.put, List.setIfInBounds_toArray, List.set_cons_zero, List.set_cons_succ, i64_w, i32_w]
                      rfl
                    refine pure_ (i := 11) (N := some 127) (v := ?_) (a' := ?_) #[true, true, true, true, true, true, true, true, true, true, true, true, false] rfl rfl (any_of HT_.out (by kernel_rfl)) (fun _ _ _ h => h) (Or.inl ⟨by rfl, ?_⟩) ?_ ?_
                    rotate_left
                    · intro w'
                      go_simp
                      with_reducible rfl
                    rotate_left
                    · simp only [Act.put, List.setIfInBounds_toArray, List.set_cons_zero, List.set_cons_succ, i64_w, i32_w]
                      rfl
                    refine pure_ (i := 12) (N := some 8) (v := ?_) (a' := ?_) #[true, true, true, true, true, true, true, true, true, true, true, true, true] rfl rfl (any_of HT_.out (by kernel_rfl)) (fun _ _ _ h => h) (Or.inl ⟨by rfl, ?_⟩) ?_ ?_
                    rotate_left
                    · intro w'
                      go_simp
                      with_reducible rfl
                    rotate_left
                    · simp only [Act.put, List.setIfInBounds_toArray, List.set_cons_zero, List.set_cons_succ, i64_w, i32_w]
                      rfl
                    refine done_ (done_of HT_.out (by kernel_rfl)) ?_
                    try go_wp2
                    go_ret
                    exact ⟨by first | rfl | (simp [errW_none, errW_some] <;> rfl) | (simp [*, errW_none, errW_some] <;> rfl), by repeat (first | (with_reducible first | exact HB.out | apply below_alloc | apply pw_below_drewN | apply below_drew1 | refine below_set ?_ GE145.out | refine below_set ?_ GE158.out) | exact HB.out)⟩
                  · rw [if_neg c111] at H
                    have c111b0 : (t209 == t210) = false := by simpa using c111
                    (try (have c111b1 : decide (t209 = t210) = false := by simpa using c111))
                    (try (have c111b2 : (t209 == t210) = false := by simpa using c111))
                    (try (have c111b3 : ¬ (t209 = t210) := by simpa using c111))
                    clear c111
                    obtain rfl := Option.some.inj H
                    try go_wp2
                    have n0_ := Aside0.mk (Kd.R_drew HO_159001.out)
                    have n1_ := Aside0.mk (Kd.R_drew HO_159003.out)
                    have n2_ := Aside0.mk (blk_drew BK145.out)
                    have n3_ := Aside0.mk (blk_drew BK158.out)
                    have n4_ := Aside0.mk (below_drew1 HB.out)
                    clear HO_159001
                    clear HO_159003
                    clear BK145
                    clear BK158
                    clear HB
                    have HO_159001 := n0_
                    have HO_159003 := n1_
                    have BK145 := n2_
                    have BK158 := n3_
                    have HB := n4_
                    clear n0_ n1_ n2_ n3_ n4_
                    obtain ⟨Ao122, co122, eo122⟩ := Kd.R_slice HO_159001.out
                    (first | subst eo122 | (injection eo122 with f1_ f2_ f3_; have f4_ := f1_.symm; have f5_ := f3_.symm; clear f1_ f2_ f3_; subst f4_; subst f5_))
                    obtain ⟨Ao123, co123, eo123⟩ := Kd.R_slice HO_159003.out
                    (first | subst eo123 | (injection eo123 with f1_ f2_ f3_; have f4_ := f1_.symm; have f5_ := f3_.symm; clear f1_ f2_ f3_; subst f4_; subst f5_))
                    refine start_ (n := 13) (S := fun w' => w'.cell? ⟨gb158, 0, none⟩ = some (.int .i64 x159000_22) ∧ w'.cell? ⟨gb158, 1, none⟩ = some (.slice Ao122 x159001_22.length co122) ∧ w'.cell? ⟨gb158, 2, none⟩ = some (.int .i64 x159002_22) ∧ w'.cell? ⟨gb158, 3, none⟩ = some (.slice Ao123 x159003_22.length co123) ∧ w'.cell? ⟨gb158, 4, none⟩ = some (.int .i64 x159004_22)) (ds := []) #[false, false, false, false, false, false, false, false, false, false, false, false, false] (by kernel_rfl) rfl rfl ⟨(blk_cell BK158.out 0).trans rfl, (blk_cell BK158.out 1).trans rfl, (blk_cell BK158.out 2).trans rfl, (blk_cell BK158.out 3).trans rfl, (blk_cell BK158.out 4).trans rfl⟩ (fun hHeld => ?_); refine with_tabW interlocutorlaw4_GramRight.tab23 interlocutorlaw4_GramRight.bits23 (fun HT_ HW_ => ?_)
                    generalize wc.drew = w121 at HO_159001 HO_159003 BK145 BK158 HB hHeld ⊢
                    refine take_ (i := 0) (N := some 116) (v := ?_) (a' := ?_) #[true, false, false, false, false, false, false, false, false, false, false, false, false] rfl rfl (take_ofW HT_.out HW_.out (by kernel_rfl)) (fun _ _ _ h => h) (Or.inl ⟨by rfl, ?_⟩) hHeld ?_ ?_
                    rotate_left
                    · rintro w' ⟨s0, s1, s2, s3, s4⟩
                      go_simp
                      with_reducible rfl
                    rotate_left
                    · simp only [Act.put, List.setIfInBounds_toArray, List.set_cons_zero, List.set_cons_succ, i64_w, i32_w]
                      rfl
                    refine take_ (i := 2) (N := some 118) (v := ?_) (a' := ?_) #[true, false, true, false, false, false, false, false, false, false, false, false, false] rfl rfl (take_ofW HT_.out HW_.out (by kernel_rfl)) (fun _ _ _ h => h) (Or.inl ⟨by rfl, ?_⟩) hHeld ?_ ?_
                    rotate_left
                    · rintro w' ⟨s0, s1, s2, s3, s4⟩
                      go_simp
                      with_reducible rfl
                    rotate_left
                    · simp only [Act.put, List.setIfInBounds_toArray, List.set_cons_zero, List.set_cons_succ, i64_w, i32_w]
                      rfl
                    refine one_ (i := 1) (N := some 117) #[true, true, true, false, false, false, false, false, false, false, false, false, false] rfl rfl (one_of HT_.out (by kernel_rfl)) (by decide) (fun K hK => ?_)
                    refine goes_ Try.func16 (by kernel_rfl) rfl #[.agg #[.int .i64 x159000_22, .slice Ao122 x159001_22.length co122, .int .i64 x159002_22, .slice Ao123 x159003_22.length co123, .int .i64 x159004_22]] (by rfl) rfl rfl (by (try simp only [List.map_toArray, List.map_cons, List.map_nil]); first | done | rfl | (simp only [List.length_drop, List.length_take]; rfl)) ?_
                    with_reducible refine (gram_Right.calls x159000_22 _ _ x159001_22 x159002_22 _ _ x159003_22 x159004_22 t209 _ ?side1 ?side2 ?side3 ?side4 A109.out).mono ?_
                    (case side1 => repeat (first | exact (Kd.R_reads' HO_159001.out).2.2 | (with_reducible refine Kd.C_alloc ?_ _) | (with_reducible refine Kd.C_drewN ?_ _) | (with_reducible refine Kd.C_drew ?_)))
                    (case side2 => exact (Kd.R_reads' HO_159001.out).2.1)
                    (case side3 => repeat (first | exact (Kd.R_reads' HO_159003.out).2.2 | (with_reducible refine Kd.C_alloc ?_ _) | (with_reducible refine Kd.C_drewN ?_ _) | (with_reducible refine Kd.C_drew ?_)))
                    (case side4 => exact (Kd.R_reads' HO_159003.out).2.1)
                    rintro e w124 ⟨rfl, hb⟩
                    refine ⟨_, rfl, ?_⟩
                    have n0_ := Aside0.mk (Kd.R_below (by (with_reducible repeat (first | apply Kd.R_alloc | apply Kd.R_drewN | apply Kd.R_drew)); exact HO_159001.out) hb)
                    have n1_ := Aside0.mk (Kd.R_below (by (with_reducible repeat (first | apply Kd.R_alloc | apply Kd.R_drewN | apply Kd.R_drew)); exact HO_159003.out) hb)
                    have n2_ := Aside0.mk (blk_below (g := gb145) (o := .cells #[.int .i64 a0_0, .slice A0_1 l0_1.length c0_1, .int .i64 a0_2, .slice A0_3 l0_3.length c0_3, .int .i64 a0_4] 26 (0, 0)) (by (with_reducible repeat (first | refine blk_drewN ?_ _ | refine blk_drew ?_ | refine blk_alloc ?_ _)); exact BK145.out) hb)
                    have n3_ := Aside0.mk (blk_below (g := gb158) (o := .cells #[.int .i64 x159000_22, .slice Ao122 x159001_22.length co122, .int .i64 x159002_22, .slice Ao123 x159003_22.length co123, .int .i64 x159004_22] 26 (0, 0)) (by (with_reducible repeat (first | refine blk_drewN ?_ _ | refine blk_drew ?_ | refine blk_alloc ?_ _)); exact BK158.out) hb)
                    have n4_ := Aside0.mk (below_step (by repeat (first | (with_reducible first | exact HB.out | apply below_alloc | apply pw_below_drewN | apply below_drew1 | refine below_set ?_ GE145.out | refine below_set ?_ GE158.out) | exact HB.out)) hb)
                    clear HO_159001
                    clear HO_159003
                    clear BK145
                    clear BK158
                    clear HB
                    have HO_159001 := n0_
                    have HO_159003 := n1_
                    have BK145 := n2_
                    have BK158 := n3_
                    have HB := n4_
                    clear n0_ n1_ n2_ n3_ n4_
                    (try clear hb)
                    (try clear hb2)
                    (try clear hk)
                    (try clear hi)
                    refine hK.out _ _ ⟨(blk_cell BK158.out 0).trans rfl, (blk_cell BK158.out 1).trans rfl, (blk_cell BK158.out 2).trans rfl, (blk_cell BK158.out 3).trans rfl, (blk_cell BK158.out 4).trans rfl⟩ (fun hHeld => ?_)
                    clear hK K
                    refine norm_ (a' := ?_) ?_ ?_
                    rotate_left
                    · show Act.put _ (some 117) _ = _
                      simp only [Act.put, List.setIfInBounds_toArray, List.set_cons_zero, List.set_cons_succ, i64_w, i32_w]
                      rfl
                    refine one_ (i := 3) (N := some 119) #[true, true, true, true, false, false, false, false, false, false, false, false, false] rfl rfl (one_of HT_.out (by kernel_rfl)) (by decide) (fun K hK => ?_)
                    refine goes_ Try.func18 (by kernel_rfl) rfl #[.agg #[.int .i64 x159000_22, .slice Ao122 x159001_22.length co122, .int .i64 x159002_22, .slice Ao123 x159003_22.length co123, .int .i64 x159004_22]] (by rfl) rfl rfl (by (try simp only [List.map_toArray, List.map_cons, List.map_nil]); first | done | rfl | (simp only [List.length_drop, List.length_take]; rfl)) ?_
                    with_reducible refine (interlocutorref4_Right.calls kj22 x159000_22 _ _ x159001_22 x159002_22 _ _ x159003_22 x159004_22 t210 _ ?side1 ?side2 ?side3 ?side4 A110.out).mono ?_
                    (case side1 => repeat (first | exact (Kd.R_reads' HO_159001.out).2.2 | (with_reducible refine Kd.C_alloc ?_ _) | (with_reducible refine Kd.C_drewN ?_ _) | (with_reducible refine Kd.C_drew ?_)))
                    (case side2 => exact (Kd.R_reads' HO_159001.out).2.1)
                    (case side3 => repeat (first | exact (Kd.R_reads' HO_159003.out).2.2 | (with_reducible refine Kd.C_alloc ?_ _) | (with_reducible refine Kd.C_drewN ?_ _) | (with_reducible refine Kd.C_drew ?_)))
                    (case side4 => exact (Kd.R_reads' HO_159003.out).2.1)
                    rintro e w125 ⟨rfl, hb⟩
                    refine ⟨_, rfl, ?_⟩
                    have n0_ := Aside0.mk (Kd.R_below (by (with_reducible repeat (first | apply Kd.R_alloc | apply Kd.R_drewN | apply Kd.R_drew)); exact HO_159001.out) hb)
                    have n1_ := Aside0.mk (Kd.R_below (by (with_reducible repeat (first | apply Kd.R_alloc | apply Kd.R_drewN | apply Kd.R_drew)); exact HO_159003.out) hb)
                    have n2_ := Aside0.mk (blk_below (g := gb145) (o := .cells #[.int .i64 a0_0, .slice A0_1 l0_1.length c0_1, .int .i64 a0_2, .slice A0_3 l0_3.length c0_3, .int .i64 a0_4] 26 (0, 0)) (by (with_reducible repeat (first | refine blk_drewN ?_ _ | refine blk_drew ?_ | refine blk_alloc ?_ _)); exact BK145.out) hb)
                    have n3_ := Aside0.mk (blk_below (g := gb158) (o := .cells #[.int .i64 x159000_22, .slice Ao122 x159001_22.length co122, .int .i64 x159002_22, .slice Ao123 x159003_22.length co123, .int .i64 x159004_22] 26 (0, 0)) (by (with_reducible repeat (first | refine blk_drewN ?_ _ | refine blk_drew ?_ | refine blk_alloc ?_ _)); exact BK158.out) hb)
                    have n4_ := Aside0.mk (below_step (by repeat (first | (with_reducible first | exact HB.out | apply below_alloc | apply pw_below_drewN | apply below_drew1 | refine below_set ?_ GE145.out | refine below_set ?_ GE158.out) | exact HB.out)) hb)
                    clear HO_159001
                    clear HO_159003
                    clear BK145
                    clear BK158
                    clear HB
                    have HO_159001 := n0_
                    have HO_159003 := n1_
                    have BK145 := n2_
                    have BK158 := n3_
                    have HB := n4_
                    clear n0_ n1_ n2_ n3_ n4_
                    (try clear hb)
                    (try clear hb2)
                    (try clear hk)
                    (try clear hi)
                    refine hK.out _ _ ⟨(blk_cell BK158.out 0).trans rfl, (blk_cell BK158.out 1).trans rfl, (blk_cell BK158.out 2).trans rfl, (blk_cell BK158.out 3).trans rfl, (blk_cell BK158.out 4).trans rfl⟩ (fun hHeld => ?_)
                    clear hK K
                    refine norm_ (a' := ?_) ?_ ?_
                    rotate_left
                    · show Act.put _ (some 119) _ = _
                      simp only [Act.put, List.setIfInBounds_toArray, List.set_cons_zero, List.set_cons_succ, i64_w, i32_w]
                      rfl
                    refine pure_ (i := 4) (N := some 120) (v := ?_) (a' := ?_) #[true, true, true, true, true, false, false, false, false, false, false, false, false] rfl rfl (any_of HT_.out (by kernel_rfl)) (fun _ _ _ h => h) (Or.inl ⟨by rfl, ?_⟩) ?_ ?_
                    rotate_left
                    · intro w'
                      go_simp
                      with_reducible rfl
                    rotate_left
                    · simp only [Act.put, List.setIfInBounds_toArray, List.set_cons_zero, List.set_cons_succ, i64_w, i32_w]
                      rfl
                    refine pure_ (i := 5) (N := some 121) (v := ?_) (a' := ?_) #[true, true, true, true, true, true, false, false, false, false, false, false, false] rfl rfl (any_of HT_.out (by kernel_rfl)) (fun _ _ _ h => h) (Or.inl ⟨by rfl, ?_⟩) ?_ ?_
                    rotate_left
                    · intro w'
                      go_simp
                      with_reducible rfl
                    rotate_left
                    · simp only [Act.put, List.setIfInBounds_toArray, List.set_cons_zero, List.set_cons_succ, i64_w, i32_w]
                      rfl
                    refine pure_ (i := 6) (N := some 122) (v := undef) (a' := ?_) #[true, true, true, true, true, true, true, false, false, false, false, false, false] rfl rfl (any_of HT_.out (by kernel_rfl)) (fun _ _ _ h => h) (Or.inr ⟨by rfl, rfl⟩) ?_ ?_
                    rotate_left
                    · simp only [Act.put, List.setIfInBounds_toArray, List.set_cons_zero, List.set_cons_succ, i64_w, i32_w]
                      rfl
                    refine pure_ (i := 7) (N := some 123) (v := undef) (a' := ?_) #[true, true, true, true, true, true, true, true, false, false, false, false, false] rfl rfl (any_of HT_.out (by kernel_rfl)) (fun _ _ _ h => h) (Or.inr ⟨by rfl, rfl⟩) ?_ ?_
                    rotate_left
                    · simp only [Act.put, List.setIfInBounds_toArray, List.set_cons_zero, List.set_cons_succ, i64_w, i32_w]
                      rfl
                    refine pure_ (i := 8) (N := some 124) (v := undef) (a' := ?_) #[true, true, true, true, true, true, true, true, true, false, false, false, false] rfl rfl (any_of HT_.out (by kernel_rfl)) (fun _ _ _ h => h) (Or.inr ⟨by rfl, rfl⟩) ?_ ?_
                    rotate_left
                    · simp only [Act.put, List.setIfInBounds_toArray, List.set_cons_zero, List.set_cons_succ, i64_w, i32_w]
                      rfl
                    refine pure_ (i := 9) (N := some 125) (v := undef) (a' := ?_) #[true, true, true, true, true, true, true, true, true, true, false, false, false] rfl rfl (any_of HT_.out (by kernel_rfl)) (fun _ _ _ h => h) (Or.inr ⟨by rfl, rfl⟩) ?_ ?_
                    rotate_left
                    · simp only [Act.put, List.setIfInBounds_toArray, List.set_cons_zero, List.set_cons_succ, i64_w, i32_w]
                      rfl
                    refine pure_ (i := 10) (N := some 126) (v := undef) (a' := ?_) #[true, true, true, true, true, true, true, true, true, true, true, false, false] rfl rfl (any_of HT_.out (by kernel_rfl)) (fun _ _ _ h => h) (Or.inr ⟨by rfl, rfl⟩) ?_ ?_
                    rotate_left
                    · simp only [Act.put, List.setIfInBounds_toArray, List.set_cons_zero, List.set_cons_succ, i64_w, i32_w]
                      rfl
                    refine pure_ (i := 11) (N := some 127) (v := ?_) (a' := ?_) #[true, true, true, true, true, true, true, true, true, true, true, true, false] rfl rfl (any_of HT_.out (by kernel_rfl)) (fun _ _ _ h => h) (Or.inl ⟨by rfl, ?_⟩) ?_ ?_
                    rotate_left
                    · intro w'
                      go_simp
                      with_reducible rfl
                    rotate_left
                    · simp only [Act.put, List.setIfInBounds_toArray, List.set_cons_zero, List.set_cons_succ, i64_w, i32_w]
                      rfl
                    refine pure_ (i := 12) (N := some 8) (v := ?_) (a' := ?_) #[true, true, true, true, true, true, true, true, true, true, true, true, true] rfl rfl (any_of HT_.out (by kernel_rfl)) (fun _ _ _ h => h) (Or.inl ⟨by rfl, ?_⟩) ?_ ?_
                    rotate_left
                    · intro w'
                      go_simp
                      with_reducible rfl
                    rotate_left
                    · simp only [Act.put, List.setIfInBounds_toArray, List.set_cons_zero, List.set_cons_succ, i64_w, i32_w]
                      rfl
                    refine done_ (done_of HT_.out (by kernel_rfl)) ?_
                    try go_wp2
                    go_ret
                    exact ⟨by first | rfl | (simp [errW_none, errW_some] <;> rfl) | (simp [*, errW_none, errW_some] <;> rfl), by repeat (first | (with_reducible first | exact HB.out | apply below_alloc | apply pw_below_drewN | apply below_drew1 | refine below_set ?_ GE145.out | refine below_set ?_ GE158.out) | exact HB.out)⟩
            · replace c21 := Bool.eq_false_iff.mpr c21
              subst c21
              have H1 : (some false) = some r := by rw [if_neg (show ¬ (false = true) by decide)] at H; exact H
              clear H
              have H := H1
              clear H1
              obtain rfl := Option.some.inj H
              have p148 : 0 ≤ (0 : Int) := (by omega)
              have q148 : 0 < (l1.length : Int) := of_decide_eq_true (by first | (with_reducible assumption) | assumption)
              obtain ⟨ad148, A148_3, c148_3, A148_4, c148_4, e148, hx148_0, hx148_1, hx148_2, hx148_3, hx148_4, hl148_3, hi148_3, hl148_4, hi148_4⟩ := at_T31 HR1.out 0 p148 q148
              cases e148
              have qi148 : (0 < l1.length) = True := eq_true (by omega)
              (try rw [show ((0 : Int)).toNat = 0 from rfl] at hx148_0)
              (try rw [show 0 * 5 = 0 from rfl] at hx148_0)
              (try rw [Addr.add_zero'] at hx148_0)
              (try rw [show ((0 : Int)).toNat = 0 from rfl] at hx148_1)
              (try rw [show 0 * 5 = 0 from rfl] at hx148_1)
              (try rw [Addr.add_zero'] at hx148_1)
              (try rw [show ((0 : Int)).toNat = 0 from rfl] at hx148_2)
              (try rw [show 0 * 5 = 0 from rfl] at hx148_2)
              (try rw [Addr.add_zero'] at hx148_2)
              (try rw [show ((0 : Int)).toNat = 0 from rfl] at hx148_3)
              (try rw [show 0 * 5 = 0 from rfl] at hx148_3)
              (try rw [Addr.add_zero'] at hx148_3)
              (try rw [show ((0 : Int)).toNat = 0 from rfl] at hx148_4)
              (try rw [show 0 * 5 = 0 from rfl] at hx148_4)
              (try rw [Addr.add_zero'] at hx148_4)
              replace hx148_0 := (HB.out.cell (World.block_lt_of_cell? w _ hx148_0)).trans hx148_0
              replace hx148_1 := (HB.out.cell (World.block_lt_of_cell? w _ hx148_1)).trans hx148_1
              replace hx148_2 := (HB.out.cell (World.block_lt_of_cell? w _ hx148_2)).trans hx148_2
              replace hx148_3 := (HB.out.cell (World.block_lt_of_cell? w _ hx148_3)).trans hx148_3
              replace hx148_4 := (HB.out.cell (World.block_lt_of_cell? w _ hx148_4)).trans hx148_4
              have HR148_3 := Aside0.mk hi148_3
              have HC148_3 := Aside0.mk hl148_3
              clear hi148_3 hl148_3
              have HR148_4 := Aside0.mk hi148_4
              have HC148_4 := Aside0.mk hl148_4
              clear hi148_4 hl148_4
              replace p148 := eq_true p148
              replace q148 := eq_true q148
              go_wp2_with (first | ((with_reducible refine gate_callee (f := 15) rfl ?_); refine goesL_ (some 36) rfl rfl Try.func15 (by kernel_rfl) rfl #[.agg #[.int .i64 ((rd_T31 l1 0).f0), .int .i64 ((rd_T31 l1 0).f1), .int .i64 ((rd_T31 l1 0).f2), .slice A148_3 ((rd_T31 l1 0).f3).length c148_3, .slice A148_4 ((rd_T31 l1 0).f4).length c148_4], .int .i64 20] rfl (by (try simp only [List.map_toArray, List.map_cons, List.map_nil]); first | done | rfl | (simp only [List.length_drop, List.length_take]; rfl)) ?_; (with_reducible refine (interlocutorlaw4_Raw_Make.calls kj6 ((rd_T31 l1 0).f0) ((rd_T31 l1 0).f1) ((rd_T31 l1 0).f2) _ _ ((rd_T31 l1 0).f3) _ _ ((rd_T31 l1 0).f4) 20 t149 t150 t153 t154 t157 _ ?side1 ?side2 ?side3 ?side4 A19.out).mono ?_); (case side1 => repeat (first | exact (Kd.C_below HR148_3.out HB.out) | (with_reducible refine Kd.C_alloc ?_ _) | (with_reducible refine Kd.C_drewN ?_ _) | (with_reducible refine Kd.C_drew ?_))); (case side2 => exact HC148_3.out); (case side3 => repeat (first | exact (Kd.C_below HR148_4.out HB.out) | (with_reducible refine Kd.C_alloc ?_ _) | (with_reducible refine Kd.C_drewN ?_ _) | (with_reducible refine Kd.C_drew ?_))); (case side4 => exact HC148_4.out); rintro e w126 ⟨v151, v155, rfl, ho0, ho1, hb⟩; refine ⟨_, rfl, ?_⟩; have n0_ := Aside0.mk (Kd.R_lower ho0 (below_size (by repeat (first | (with_reducible first | exact HB.out | apply below_alloc | apply pw_below_drewN | apply below_drew1 | refine below_set ?_ GE145.out) | exact HB.out)))); have n1_ := Aside0.mk (Kd.R_lower ho1 (below_size (by repeat (first | (with_reducible first | exact HB.out | apply below_alloc | apply pw_below_drewN | apply below_drew1 | refine below_set ?_ GE145.out) | exact HB.out)))); have n2_ := Aside0.mk (blk_below (g := gb145) (o := .cells #[.int .i64 a0_0, .slice A0_1 l0_1.length c0_1, .int .i64 a0_2, .slice A0_3 l0_3.length c0_3, .int .i64 a0_4] 26 (0, 0)) (by (with_reducible repeat (first | refine blk_drewN ?_ _ | refine blk_drew ?_ | refine blk_alloc ?_ _)); exact BK145.out) hb); have n3_ := Aside0.mk (below_step (by repeat (first | (with_reducible first | exact HB.out | apply below_alloc | apply pw_below_drewN | apply below_drew1 | refine below_set ?_ GE145.out) | exact HB.out)) hb); clear BK145; clear HB; have HO152 := n0_; have HO156 := n1_; have BK145 := n2_; have HB := n3_; clear n0_ n1_ n2_ n3_; (try clear hb); (try clear hb2); (try clear hk); (try clear hi); (try clear ho0); (try clear ho1)) | ((with_reducible refine gate_dst (N := 9) rfl ?_); (try (refine gate_guard (by rfl) ?_; dsimp only)); refine box_event ?hg (N := 9) ?hd (cs := #[.int .i64 0, .slice none 0 0, .int .i64 0, .slice none 0 0, .int .i64 0]) (t := 26) ?hr ?_; (case hd => rfl); (case hg => rfl); (case hr => first | (go_simp; done) | (go_simp; rfl)); intro gb158 hg w127 hbox hb; have n0_ := Aside0.mk (Kd.R_below (by (with_reducible repeat (first | apply Kd.R_alloc | apply Kd.R_drewN | apply Kd.R_drew)); exact HO152.out) hb); have n1_ := Aside0.mk (Kd.R_below (by (with_reducible repeat (first | apply Kd.R_alloc | apply Kd.R_drewN | apply Kd.R_drew)); exact HO156.out) hb); have n2_ := Aside0.mk (blk_below (g := gb145) (o := .cells #[.int .i64 a0_0, .slice A0_1 l0_1.length c0_1, .int .i64 a0_2, .slice A0_3 l0_3.length c0_3, .int .i64 a0_4] 26 (0, 0)) (by (with_reducible repeat (first | refine blk_drewN ?_ _ | refine blk_drew ?_ | refine blk_alloc ?_ _)); exact BK145.out) hb); have n3_ := Aside0.mk (below_step (by repeat (first | (with_reducible first | exact HB.out | apply below_alloc | apply pw_below_drewN | apply below_drew1 | refine below_set ?_ GE145.out) | exact HB.out)) hb); have n4_ := Aside0.mk (hbox); have n5_ := Aside0.mk ((by rw [hg]; exact (below_size (by repeat (first | (with_reducible first | exact HB.out | apply below_alloc | apply pw_below_drewN | apply below_drew1 | refine below_set ?_ GE145.out) | exact HB.out))) : w.heap.size ≤ gb158)); have n6_ := Aside0.mk ((by rw [hg]; exact (below_size (by repeat (first | (with_reducible first | exact HB.out | apply below_alloc | apply pw_below_drewN | apply below_drew1 | refine below_set ?_ GE145.out) | exact HB.out))) : w.heap.size ≤ gb158)); have n7_ := Aside0.mk ((by rw [hg]; exact Nat.ne_of_lt (blk_lt (g := gb145) (o := .cells #[.int .i64 a0_0, .slice A0_1 l0_1.length c0_1, .int .i64 a0_2, .slice A0_3 l0_3.length c0_3, .int .i64 a0_4] 26 (0, 0)) (by (with_reducible repeat (first | refine blk_drewN ?_ _ | refine blk_drew ?_ | refine blk_alloc ?_ _)); exact BK145.out)) : gb145 ≠ gb158)); have n8_ := Aside0.mk ((by rw [hg]; exact Nat.ne_of_gt (blk_lt (g := gb145) (o := .cells #[.int .i64 a0_0, .slice A0_1 l0_1.length c0_1, .int .i64 a0_2, .slice A0_3 l0_3.length c0_3, .int .i64 a0_4] 26 (0, 0)) (by (with_reducible repeat (first | refine blk_drewN ?_ _ | refine blk_drew ?_ | refine blk_alloc ?_ _)); exact BK145.out)) : gb158 ≠ gb145)); clear HO152; clear HO156; clear BK145; clear HB; have HO152 := n0_; have HO156 := n1_; have BK145 := n2_; have HB := n3_; have BK158 := n4_; have GW158 := n5_; have GE158 := n6_; have NB145_158 := n7_; have NB158_145 := n8_; clear n0_ n1_ n2_ n3_ n4_ n5_ n6_ n7_ n8_; clear hb hbox hg; have hnb128 := NB158_145.out; have hnc128 := NB145_158.out; have hcz129_0 : w127.cell? ⟨gb158, 0, none⟩ = some (.int .i64 0) := (blk_cell BK158.out 0).trans rfl; have hcz129_1 : w127.cell? ⟨gb158, 1, none⟩ = some (.slice none 0 0) := (blk_cell BK158.out 1).trans rfl; have hcz129_2 : w127.cell? ⟨gb158, 2, none⟩ = some (.int .i64 0) := (blk_cell BK158.out 2).trans rfl; have hcz129_3 : w127.cell? ⟨gb158, 3, none⟩ = some (.slice none 0 0) := (blk_cell BK158.out 3).trans rfl; have hcz129_4 : w127.cell? ⟨gb158, 4, none⟩ = some (.int .i64 0) := (blk_cell BK158.out 4).trans rfl; have hfz129_0 := blk_frozen BK158.out 0; have hfz129_1 := blk_frozen BK158.out 1; have hfz129_2 := blk_frozen BK158.out 2; have hfz129_3 := blk_frozen BK158.out 3; have hfz129_4 := blk_frozen BK158.out 4; obtain ⟨Ao130, co130, eo130⟩ := Kd.R_slice HO152.out; subst eo130; obtain ⟨Ao131, co131, eo131⟩ := Kd.R_slice HO156.out; subst eo131) | ((with_reducible refine gate_callee (f := 16) rfl ?_); refine goesL_ (some 38) rfl rfl Try.func16 (by kernel_rfl) rfl #[.agg #[.int .i64 t149, .slice Ao130 t150.length co130, .int .i64 t153, .slice Ao131 t154.length co131, .int .i64 t157]] rfl (by (try simp only [List.map_toArray, List.map_cons, List.map_nil]); first | done | rfl | (simp only [List.length_drop, List.length_take]; rfl)) ?_; (with_reducible refine (gram_Right.calls t149 _ _ t150 t153 _ _ t154 t157 false _ ?side1 ?side2 ?side3 ?side4 A20.out).mono ?_); (case side1 => refine (Kd.R_reads' (e := 3) (base := w.heap.size) (ok := fun k_ => some k_ ≠ (.slice Ao131 t154.length co131 : Value).ownBlock) (n := t150.length) (c := co130) ?_).2.2; exact (by (with_reducible repeat (first | apply Kd.R_alloc | apply Kd.R_drewN | apply Kd.R_drew)); exact (Kd.R_mono (Kd.R_far (p := ⟨gb158, 4, none⟩) (Kd.R_far (p := ⟨gb158, 3, none⟩) (Kd.R_far (p := ⟨gb158, 2, none⟩) (Kd.R_far (p := ⟨gb158, 1, none⟩) (Kd.R_far (p := ⟨gb158, 0, none⟩) (Kd.R_types HO152.out BK158.out (by decide)) (fun _ hk => hk.2) (.int .i64 t149)) (fun _ hk => hk.2) (.slice Ao130 t150.length co130)) (fun _ hk => hk.2) (.int .i64 t153)) (fun _ hk => hk.2) (.slice Ao131 t154.length co131)) (fun _ hk => hk.2) (.int .i64 t157)) (fun _ h_ => h_.1)))); (case side2 => exact (Kd.R_reads' HO152.out).2.1); (case side3 => refine (Kd.R_reads' (e := 3) (base := w.heap.size) (ok := fun k_ => some k_ ≠ (.slice Ao130 t150.length co130 : Value).ownBlock) (n := t154.length) (c := co131) ?_).2.2; exact (by (with_reducible repeat (first | apply Kd.R_alloc | apply Kd.R_drewN | apply Kd.R_drew)); exact (Kd.R_mono (Kd.R_far (p := ⟨gb158, 4, none⟩) (Kd.R_far (p := ⟨gb158, 3, none⟩) (Kd.R_far (p := ⟨gb158, 2, none⟩) (Kd.R_far (p := ⟨gb158, 1, none⟩) (Kd.R_far (p := ⟨gb158, 0, none⟩) (Kd.R_types HO156.out BK158.out (by decide)) (fun _ hk => hk.2) (.int .i64 t149)) (fun _ hk => hk.2) (.slice Ao130 t150.length co130)) (fun _ hk => hk.2) (.int .i64 t153)) (fun _ hk => hk.2) (.slice Ao131 t154.length co131)) (fun _ hk => hk.2) (.int .i64 t157)) (fun _ h_ => h_.1)))); (case side4 => exact (Kd.R_reads' HO156.out).2.1); rintro e w132 ⟨rfl, hb⟩; refine ⟨_, rfl, ?_⟩; have n0_ := Aside0.mk (Kd.R_below (by (with_reducible repeat (first | apply Kd.R_alloc | apply Kd.R_drewN | apply Kd.R_drew)); exact (Kd.R_mono (Kd.R_far (p := ⟨gb158, 4, none⟩) (Kd.R_far (p := ⟨gb158, 3, none⟩) (Kd.R_far (p := ⟨gb158, 2, none⟩) (Kd.R_far (p := ⟨gb158, 1, none⟩) (Kd.R_far (p := ⟨gb158, 0, none⟩) (Kd.R_types HO152.out BK158.out (by decide)) (fun _ hk => hk.2) (.int .i64 t149)) (fun _ hk => hk.2) (.slice Ao130 t150.length co130)) (fun _ hk => hk.2) (.int .i64 t153)) (fun _ hk => hk.2) (.slice Ao131 t154.length co131)) (fun _ hk => hk.2) (.int .i64 t157)) (fun _ h_ => h_.1))) hb); have n1_ := Aside0.mk (Kd.R_below (by (with_reducible repeat (first | apply Kd.R_alloc | apply Kd.R_drewN | apply Kd.R_drew)); exact (Kd.R_mono (Kd.R_far (p := ⟨gb158, 4, none⟩) (Kd.R_far (p := ⟨gb158, 3, none⟩) (Kd.R_far (p := ⟨gb158, 2, none⟩) (Kd.R_far (p := ⟨gb158, 1, none⟩) (Kd.R_far (p := ⟨gb158, 0, none⟩) (Kd.R_types HO156.out BK158.out (by decide)) (fun _ hk => hk.2) (.int .i64 t149)) (fun _ hk => hk.2) (.slice Ao130 t150.length co130)) (fun _ hk => hk.2) (.int .i64 t153)) (fun _ hk => hk.2) (.slice Ao131 t154.length co131)) (fun _ hk => hk.2) (.int .i64 t157)) (fun _ h_ => h_.1))) hb); have n2_ := Aside0.mk (blk_below (g := gb145) (o := .cells #[.int .i64 a0_0, .slice A0_1 l0_1.length c0_1, .int .i64 a0_2, .slice A0_3 l0_3.length c0_3, .int .i64 a0_4] 26 (0, 0)) (by (with_reducible repeat (first | refine blk_drewN ?_ _ | refine blk_drew ?_ | refine blk_alloc ?_ _)); refine blk_far ?_ NB145_158.out _; (with_reducible repeat (first | refine blk_drewN ?_ _ | refine blk_drew ?_ | refine blk_alloc ?_ _)); refine blk_far ?_ NB145_158.out _; (with_reducible repeat (first | refine blk_drewN ?_ _ | refine blk_drew ?_ | refine blk_alloc ?_ _)); refine blk_far ?_ NB145_158.out _; (with_reducible repeat (first | refine blk_drewN ?_ _ | refine blk_drew ?_ | refine blk_alloc ?_ _)); refine blk_far ?_ NB145_158.out _; (with_reducible repeat (first | refine blk_drewN ?_ _ | refine blk_drew ?_ | refine blk_alloc ?_ _)); refine blk_far ?_ NB145_158.out _; (with_reducible repeat (first | refine blk_drewN ?_ _ | refine blk_drew ?_ | refine blk_alloc ?_ _)); exact BK145.out) hb); have n3_ := Aside0.mk (blk_below (g := gb158) (o := .cells #[.int .i64 t149, .slice Ao130 t150.length co130, .int .i64 t153, .slice Ao131 t154.length co131, .int .i64 t157] 26 (0, 0)) (by (with_reducible repeat (first | refine blk_drewN ?_ _ | refine blk_drew ?_ | refine blk_alloc ?_ _)); refine blk_put (cs := #[.int .i64 t149, .slice Ao130 t150.length co130, .int .i64 t153, .slice Ao131 t154.length co131, .int .i64 0]) ?_ 4 _ rfl; (with_reducible repeat (first | refine blk_drewN ?_ _ | refine blk_drew ?_ | refine blk_alloc ?_ _)); refine blk_put (cs := #[.int .i64 t149, .slice Ao130 t150.length co130, .int .i64 t153, .slice none 0 0, .int .i64 0]) ?_ 3 _ rfl; (with_reducible repeat (first | refine blk_drewN ?_ _ | refine blk_drew ?_ | refine blk_alloc ?_ _)); refine blk_put (cs := #[.int .i64 t149, .slice Ao130 t150.length co130, .int .i64 0, .slice none 0 0, .int .i64 0]) ?_ 2 _ rfl; (with_reducible repeat (first | refine blk_drewN ?_ _ | refine blk_drew ?_ | refine blk_alloc ?_ _)); refine blk_put (cs := #[.int .i64 t149, .slice none 0 0, .int .i64 0, .slice none 0 0, .int .i64 0]) ?_ 1 _ rfl; (with_reducible repeat (first | refine blk_drewN ?_ _ | refine blk_drew ?_ | refine blk_alloc ?_ _)); refine blk_put (cs := #[.int .i64 0, .slice none 0 0, .int .i64 0, .slice none 0 0, .int .i64 0]) ?_ 0 _ rfl; (with_reducible repeat (first | refine blk_drewN ?_ _ | refine blk_drew ?_ | refine blk_alloc ?_ _)); exact BK158.out) hb); have n4_ := Aside0.mk (below_step (by repeat (first | (with_reducible first | exact HB.out | apply below_alloc | apply pw_below_drewN | apply below_drew1 | refine below_set ?_ GE145.out | refine below_set ?_ GE158.out) | exact HB.out)) hb); clear HO152; clear HO156; clear BK145; clear BK158; clear HB; have HO152 := n0_; have HO156 := n1_; have BK145 := n2_; have BK158 := n3_; have HB := n4_; clear n0_ n1_ n2_ n3_ n4_; (try clear hb); (try clear hb2); (try clear hk); (try clear hi)))
              go_ret
              exact ⟨by first | rfl | (simp [errW_none, errW_some] <;> rfl) | (simp [*, errW_none, errW_some] <;> rfl), by repeat (first | (with_reducible first | exact HB.out | apply below_alloc | apply pw_below_drewN | apply below_drew1 | refine below_set ?_ GE145.out | refine below_set ?_ GE158.out) | exact HB.out)⟩
          · rw [if_neg c18] at H
            exact absurd H (by simp)
  · replace c6 := Bool.eq_false_iff.mpr c6
    subst c6
    have H1 : (some false) = some r := by rw [if_neg (show ¬ (false = true) by decide)] at H; exact H
    clear H
    have H := H1
    clear H1
    obtain rfl := Option.some.inj H
    go_enter Try.func3, Try.ntmps3
    go_wp2_with (first | ((with_reducible refine gate_dst (N := 4) rfl ?_); (try (refine gate_guard (by rfl) ?_; dsimp only)); refine box_event ?hg (N := 4) ?hd (cs := #[.int .i64 a0_0, .slice A0_1 l0_1.length c0_1, .int .i64 a0_2, .slice A0_3 l0_3.length c0_3, .int .i64 a0_4]) (t := 26) ?hr ?_; (case hd => rfl); (case hg => rfl); (case hr => first | (go_simp; done) | (go_simp; rfl)); intro gb145 hg w133 hbox hb; have n0_ := Aside0.mk (below_step (by repeat (first | (with_reducible first | exact HB.out | apply below_alloc | apply pw_below_drewN | apply below_drew1) | exact HB.out)) hb); have n1_ := Aside0.mk (hbox); have n2_ := Aside0.mk ((by rw [hg]; exact (below_size (by repeat (first | (with_reducible first | exact HB.out | apply below_alloc | apply pw_below_drewN | apply below_drew1) | exact HB.out))) : w.heap.size ≤ gb145)); have n3_ := Aside0.mk ((by rw [hg]; exact (below_size (by repeat (first | (with_reducible first | exact HB.out | apply below_alloc | apply pw_below_drewN | apply below_drew1) | exact HB.out))) : w.heap.size ≤ gb145)); clear HB; have HB := n0_; have BK145 := n1_; have GW145 := n2_; have GE145 := n3_; clear n0_ n1_ n2_ n3_; clear hb hbox hg) | ((with_reducible refine gate_callee (f := 13) rfl ?_); refine goesL_ (some 10) rfl rfl Try.func13 (by kernel_rfl) rfl #[] rfl (by (try simp only [List.map_toArray, List.map_cons, List.map_nil]); first | done | rfl | (simp only [List.length_drop, List.length_take]; rfl)) ?_; (with_reducible refine (interlocutorlaw4_known.calls  false _ A5.out).mono ?_); rintro e w134 ⟨rfl, hb⟩; refine ⟨_, rfl, ?_⟩; have n0_ := Aside0.mk (blk_below (g := gb145) (o := .cells #[.int .i64 a0_0, .slice A0_1 l0_1.length c0_1, .int .i64 a0_2, .slice A0_3 l0_3.length c0_3, .int .i64 a0_4] 26 (0, 0)) (by (with_reducible repeat (first | refine blk_drewN ?_ _ | refine blk_drew ?_ | refine blk_alloc ?_ _)); exact BK145.out) hb); have n1_ := Aside0.mk (below_step (by repeat (first | (with_reducible first | exact HB.out | apply below_alloc | apply pw_below_drewN | apply below_drew1 | refine below_set ?_ GE145.out) | exact HB.out)) hb); clear BK145; clear HB; have BK145 := n0_; have HB := n1_; clear n0_ n1_; (try clear hb); (try clear hb2); (try clear hk); (try clear hi)))
    go_ret
    exact ⟨by first | rfl | (simp [errW_none, errW_some] <;> rfl) | (simp [*, errW_none, errW_some] <;> rfl), by repeat (first | (with_reducible first | exact HB.out | apply below_alloc | apply pw_below_drewN | apply below_drew1 | refine below_set ?_ GE145.out) | exact HB.out)⟩
end Go.Proofs.Ytjomlfdkmdgclaa.P
end
section
namespace Go.Proofs.Ytjomlfdkmdgclaa.P
open Go.RowKit Go.Proofs.YtjomlfdkmdgclaaW.PrintWords Go.Proofs.YtjomlfdkmdgclaaW.PrintLast Go.Proofs.YtjomlfdkmdgclaaW.PrintMore
attribute [local go_sem] max2_int min2_int max_two min_two max_three min_three max_four min_four   
set_option linter.unusedVariables false
set_option linter.unusedSimpArgs false
theorem within_rem (a n : Int) (hn : 0 < n) (hn2 : n ≤ 4611686018427387904) : interlocutorlaw4_within.f a n = some (a % n) := by
  unfold interlocutorlaw4_within.f
  have h1 := Int.emod_nonneg a (by omega : n ≠ 0)
  have h2 := Int.emod_lt_of_pos a hn
  have h4 : (n.natAbs : Int) = n := by omega
  rw [if_neg (by omega)]
  have h3 := @Int.tmod_eq_emod a n
  by_cases hd : 0 ≤ a ∨ n ∣ a
  · rw [if_pos hd] at h3
    rw [if_neg (by omega), h3]
    congr 1
    omega
  · rw [if_neg hd, h4] at h3
    rw [if_pos (by omega), h3]
    congr 1
    unfold wrap64
    omega
theorem rem_ge (a n : Int) (hn : 0 < n) : 0 ≤ a % n := Int.emod_nonneg a (by omega)
theorem rem_lt (a n : Int) (hn : 0 < n) : a % n < n := Int.emod_lt_of_pos a hn
theorem as_fin {x n : Int} (m : Nat) (hm : n = m) (h0 : 0 ≤ x) (h1 : x < n) : ∃ i : Fin m, x = ((i.val : Nat) : Int) := ⟨⟨x.toNat, by omega⟩, by simp; omega⟩
end Go.Proofs.Ytjomlfdkmdgclaa.P
end
section
namespace Go.Proofs.Ytjomlfdkmdgclaa.P
open Go.RowKit Go.Proofs.YtjomlfdkmdgclaaW.PrintWords Go.Proofs.YtjomlfdkmdgclaaW.PrintLast Go.Proofs.YtjomlfdkmdgclaaW.PrintMore
attribute [local go_sem] max2_int min2_int max_two min_two max_three min_three max_four min_four   
set_option linter.unusedVariables false
set_option linter.unusedSimpArgs false
def Opens (P : Program) (t : TypeId) {α : Type} (d : Kd α) (ok : α → Prop) : Prop :=
  P.cellsOf t = d.sz ∧ ∀ (H : Type) (enc : TypeId × Value → H) (W : World) (base : Nat) (spare : Nat → Bool) (held : Bool) (fuel : Nat) (cs : List Value) (x : DataW H × List MemPlace), DataW.trod enc P W base spare held fuel t cs = some x → ∃ v : α, d.K W v cs ∧ ok v
theorem opens_int {P : Program} {t : TypeId} {k : IntKind} (ht : P.underlying t = some (.int k)) (hc : P.cellsOf t = 1) : Opens P t (Kd.int k) (fun n => (Lit.int k n).wf = true) := by
  refine ⟨hc, fun H enc W base spare held fuel cs x h => ?_⟩
  obtain ⟨n, rfl, _, hw⟩ := DataW.trod_int ht h
  exact ⟨n, rfl, hw⟩
theorem list_of {α : Type} {p : Nat → α → Prop} : ∀ n : Nat, (∀ i, i < n → ∃ v, p i v) → ∃ xs : List α, xs.length = n ∧ ∀ i v, xs[i]? = some v → p i v
  | 0, _ => ⟨[], rfl, fun i v h => by simp at h⟩
  | n + 1, h => by
    obtain ⟨xs, hl, hx⟩ := list_of n (fun i hi => h i (by omega))
    obtain ⟨v, hv⟩ := h n (by omega)
    refine ⟨xs ++ [v], by rw [List.length_append, hl]; rfl, fun i u hu => ?_⟩
    by_cases hi : i < xs.length
    · rw [List.getElem?_append_left hi] at hu
      exact hx i u hu
    · rw [List.getElem?_append_right (by omega)] at hu
      have h0 : i - xs.length = 0 := by
        have := (List.getElem?_eq_some_iff.1 hu).1
        simp at this
        omega
      rw [h0] at hu
      obtain rfl := Option.some.inj hu
      have : i = n := by omega
      rw [this]
      exact hv
theorem opens_slice {P : Program} {t e : TypeId} {α : Type} {d : Kd α} {ok : α → Prop} (ht : P.underlying t = some (.slice e)) (hc : P.cellsOf t = 1) (h : Opens P e d ok) : Opens P t (Kd.slice e d) (fun xs => ∀ x ∈ xs, ok x) := by
  refine ⟨hc, fun H enc W base spare held fuel cs x hx => ?_⟩
  rcases Go.Deep.open_slice ht hx with ⟨rfl, _⟩ | ⟨a, len, cap, m, n, D, Pl, rfl, _, hl, hm, hmm, _, hel⟩
  · exact ⟨[], ⟨none, 0, rfl, Nat.le_refl _, rfl, by simp, fun h => absurd h (Nat.lt_irrefl _)⟩, by simp⟩
  · have hle : len ≤ m := by rw [hmm]; split <;> omega
    obtain ⟨xs, hxl, hxs⟩ := list_of (p := fun i v => ∃ cs', W.cells? base (a.add (i * d.sz)) d.sz = some cs' ∧ d.K W v cs' ∧ ok v) len (fun i hi => by
      obtain ⟨cs', h1, h2⟩ := hel i (by omega)
      obtain ⟨v, h3, h4⟩ := h.2 H enc W base spare held n cs' _ h2
      rw [h.1] at h1
      exact ⟨v, cs', h1, h3, h4⟩)
    have hmax : maxLen ≤ 9223372036854775807 := by decide
    refine ⟨xs, ⟨some a, cap, by rw [hxl], by omega, rfl, by omega, fun _ => ⟨a, rfl, fun j p hj => ?_⟩⟩, fun y hy => ?_⟩
    · obtain ⟨cs', h1, h2, _⟩ := hxs j p hj
      obtain ⟨_, h3, h4⟩ := World.cells?_some h1
      refine ⟨cs', h3, h2, fun i u hu => ?_⟩
      have h5 := h4 i (by rw [← h3]; exact (List.getElem?_eq_some_iff.1 hu).1)
      rw [hu, add_add] at h5
      exact h5
    · obtain ⟨j, hj, rfl⟩ := List.mem_iff_getElem.1 hy
      obtain ⟨_, _, _, h4⟩ := hxs j _ (List.getElem?_eq_getElem hj)
      exact h4
abbrev wfI (n : Int) : Prop := (Lit.int .i64 n).wf = true
theorem opInt : Opens Try.prog 3 (Kd.int .i64) wfI := opens_int Try.underlying3 (by kernel_rfl)
theorem opInts : Opens Try.prog 22 (Kd.slice 3 (Kd.int .i64)) (fun l => ∀ n ∈ l, wfI n) := opens_slice Try.underlying22 (by kernel_rfl) opInt
theorem opens_fields {P : Program} {t : TypeId} {fs : Array Field} (ht : P.underlying t = some (.struct fs)) {H : Type} {enc : TypeId × Value → H} {W : World} {base : Nat} {spare : Nat → Bool} {held : Bool} {fuel : Nat} {cs : List Value} {x : DataW H × List MemPlace} (h : DataW.trod enc P W base spare held fuel t cs = some x) :
    cs.length = P.cellsOf t ∧ ∀ (i : Nat) (f : Field), fs[i]? = some f → ∀ {α : Type} {d : Kd α} {ok : α → Prop}, Opens P f.type d ok → ∃ v, d.K W v ((cs.drop f.offset).take d.sz) ∧ ok v := by
  obtain ⟨xs, n, _, _, hl, hlen, hf⟩ := DataW.trod_struct ht h
  refine ⟨hl, fun i f hi α d ok ho => ?_⟩
  have h1 := hf i f hi
  have hil : i < xs.length := by
    have := (Array.getElem?_eq_some_iff.1 hi).1
    omega
  rw [List.getElem?_eq_getElem hil, ho.1] at h1
  exact ho.2 H enc W base spare held n _ _ h1
def ok24 (x : S24) : Prop := wfI x.f0 ∧ ∀ n ∈ x.f1, wfI n
theorem opAct : Opens Try.prog 24 k24 ok24 := by
  refine ⟨by kernel_rfl, fun H enc W base spare held fuel cs x h => ?_⟩
  obtain ⟨hl, hf⟩ := opens_fields Try.underlying24 h
  have hl2 : cs.length = 2 := hl.trans (by kernel_rfl)
  obtain ⟨v0, k0, w0⟩ := hf 0 _ rfl opInt
  obtain ⟨v1, ⟨A1, c1, k1, l1, g1⟩, w1⟩ := hf 1 _ rfl opInts
  match cs, hl2 with
  | [b0, b1], _ =>
    have e0 : [b0] = [.int .i64 v0] := k0
    have e1 : [b1] = [.slice A1 v1.length c1] := k1
    rw [(List.cons.inj e0).1, (List.cons.inj e1).1]
    exact ⟨⟨v0, v1⟩, k24_mk W ⟨v0, v1⟩ l1 g1, w0, w1⟩
def ok26 (x : S26) : Prop := wfI x.f0 ∧ (∀ n ∈ x.f1, wfI n) ∧ ok24 x.f2 ∧ wfI x.f3
theorem opRule : Opens Try.prog 26 k26 ok26 := by
  refine ⟨by kernel_rfl, fun H enc W base spare held fuel cs x h => ?_⟩
  obtain ⟨hl, hf⟩ := opens_fields Try.underlying26 h
  have hl2 : cs.length = 5 := hl.trans (by kernel_rfl)
  obtain ⟨v0, k0, w0⟩ := hf 0 _ rfl opInt
  obtain ⟨v1, ⟨A1, c1, k1, l1, g1⟩, w1⟩ := hf 1 _ rfl opInts
  obtain ⟨v2, k2, w2⟩ := hf 2 _ rfl opAct
  obtain ⟨v3, k3, w3⟩ := hf 3 _ rfl opInt
  obtain ⟨A3, c3, k2', l3, g3⟩ := k24_open k2
  match cs, hl2 with
  | [b0, b1, b2, b3, b4], _ =>
    have e0 : [b0] = [.int .i64 v0] := k0
    have e1 : [b1] = [.slice A1 v1.length c1] := k1
    have e2 : [b2, b3] = [.int .i64 v2.f0, .slice A3 v2.f1.length c3] := k2'
    have e3 : [b4] = [.int .i64 v3] := k3
    rw [(List.cons.inj e0).1, (List.cons.inj e1).1, (List.cons.inj e2).1, (List.cons.inj (List.cons.inj e2).2).1, (List.cons.inj e3).1]
    exact ⟨⟨v0, v1, v2, v3⟩, k26_mk W ⟨v0, v1, v2, v3⟩ l1 g1 l3 g3, w0, w1, w2, w3⟩
def okRaw (x : S31) : Prop := wfI x.f0 ∧ wfI x.f1 ∧ wfI x.f2 ∧ (∀ n ∈ x.f3, wfI n) ∧ ∀ n ∈ x.f4, wfI n
theorem opRaw : Opens Try.prog 31 k31 okRaw := by
  refine ⟨by kernel_rfl, fun H enc W base spare held fuel cs x h => ?_⟩
  obtain ⟨hl, hf⟩ := opens_fields Try.underlying31 h
  have hl2 : cs.length = 5 := hl.trans (by kernel_rfl)
  obtain ⟨v0, k0, w0⟩ := hf 0 _ rfl opInt
  obtain ⟨v1, k1, w1⟩ := hf 1 _ rfl opInt
  obtain ⟨v2, k2, w2⟩ := hf 2 _ rfl opInt
  obtain ⟨v3, ⟨A3, c3, k3, l3, g3⟩, w3⟩ := hf 3 _ rfl opInts
  obtain ⟨v4, ⟨A4, c4, k4, l4, g4⟩, w4⟩ := hf 4 _ rfl opInts
  match cs, hl2 with
  | [b0, b1, b2, b3, b4], _ =>
    have e0 : [b0] = [.int .i64 v0] := k0
    have e1 : [b1] = [.int .i64 v1] := k1
    have e2 : [b2] = [.int .i64 v2] := k2
    have e3 : [b3] = [.slice A3 v3.length c3] := k3
    have e4 : [b4] = [.slice A4 v4.length c4] := k4
    rw [(List.cons.inj e0).1, (List.cons.inj e1).1, (List.cons.inj e2).1, (List.cons.inj e3).1, (List.cons.inj e4).1]
    exact ⟨⟨v0, v1, v2, v3, v4⟩, k31_mk W ⟨v0, v1, v2, v3, v4⟩ l3 g3 l4 g4, w0, w1, w2, w3, w4⟩
theorem opRaws : Opens Try.prog 27 (Kd.slice 31 k31) (fun l => ∀ x ∈ l, okRaw x) := opens_slice Try.underlying27 (by kernel_rfl) opRaw
end Go.Proofs.Ytjomlfdkmdgclaa.P
end
section
namespace Go.Proofs.Ytjomlfdkmdgclaa.P
open Go.RowKit Go.Proofs.YtjomlfdkmdgclaaW.PrintWords Go.Proofs.YtjomlfdkmdgclaaW.PrintLast Go.Proofs.YtjomlfdkmdgclaaW.PrintMore
attribute [local go_sem] max2_int min2_int max_two min_two max_three min_three max_four min_four   
set_option linter.unusedVariables false
set_option linter.unusedSimpArgs false
section
variable {ops : Array Oper} {o : Oper} {a : Act} {Q : Exit → Act → World → Prop} {Kc : Act → World → Prop}
end
end Go.Proofs.Ytjomlfdkmdgclaa.P
end
section
namespace Go.Proofs.Ytjomlfdkmdgclaa.P
open Go.RowKit Go.Proofs.YtjomlfdkmdgclaaW.PrintWords Go.Proofs.YtjomlfdkmdgclaaW.PrintLast Go.Proofs.YtjomlfdkmdgclaaW.PrintMore
attribute [local go_sem] max2_int min2_int max_two min_two max_three min_three max_four min_four   
set_option linter.unusedVariables false
set_option linter.unusedSimpArgs false
theorem URows.below {base g : Nat} {rows : Nat → List Int} {W W1 : World} {vals : List Value} {f : Nat → Nat} {i : Nat} (h : URows base g rows i W vals f) (hb : Below W.heap.size W W1) : URows base g rows i W1 vals f :=
  ⟨h.len, blk_below h.blk hb, h.ge, fun j hj => by obtain ⟨v, h1, h2⟩ := h.done j hj; exact ⟨v, h1, Kd.R_below h2 hb⟩, h.rest⟩
theorem URows.same {base g : Nat} {rows rows' : Nat → List Int} {W : World} {vals : List Value} {f : Nat → Nat} {i : Nat} (h : URows base g rows i W vals f) (he : ∀ j, j < i → rows' j = rows j) : URows base g rows' i W vals f :=
  ⟨h.len, h.blk, h.ge, fun j hj => by rw [he j hj]; exact h.done j hj, h.rest⟩
end Go.Proofs.Ytjomlfdkmdgclaa.P
end
