/- Spans that were told may be overwritten: told again they are alike; rules and signs are not changed. Part 4: contracts of the functions that the law reaches, and words for them. -/
import Derived.Deep.RegionLaw
import Derived.Deep.RegionHeld3
import Derived.Test.YtjfbfhoipgldgaaGreatMCO3
section
namespace Go.Proofs.YtjfbfhoipgldgaaGreat.P
open Go.RowKit Go.Proofs.YtjfbfhoipgldgaaGreatW.PrintWords Go.Proofs.YtjfbfhoipgldgaaGreatW.PrintLast Go.Proofs.YtjfbfhoipgldgaaGreatW.PrintMore
attribute [local go_sem] ob_ lb_ vb_ ub_ db_ cb_ nb_ kb_   
set_option linter.unusedVariables false
set_option linter.unusedSimpArgs false
mutual
noncomputable def l4_Raw_Make.l0 : Nat → Int → Int → Int → Int → Int → Int → List Int → List Int → Int → List Int → Int → Int → Option (Int × List Int × Int × List Int × Int)
 | 0, _, _, _, _, _, _, _, _, _, _, _, _ => none
 | k + 1, x1, x6, x7, x146000, x146001, x146002, x146003, x146004, x150000, x150001, x150002, x150004 => (l4_within.f (x146003.length : Int) 3).bind fun t155 => (if x7 < (wrap64 (1 + t155)) then (l4_Raw_Make.j1 k x1 x6 x7 true x146000 x146001 x146002 x146003 x146004 x150000 x150001 x150002 x150004) else (if x7 < x6 then ((l4_within.f (wrap64 (Int.tdiv x146001 16)) 2).bind fun t156 => (l4_Raw_Make.j1 k x1 x6 x7 (t156 == 0) x146000 x146001 x146002 x146003 x146004 x150000 x150001 x150002 x150004)) else (l4_Raw_Make.j1 k x1 x6 x7 false x146000 x146001 x146002 x146003 x146004 x150000 x150001 x150002 x150004)))
noncomputable def l4_Raw_Make.j1 : Nat → Int → Int → Int → Bool → Int → Int → Int → List Int → List Int → Int → List Int → Int → Int → Option (Int × List Int × Int × List Int × Int)
 | 0, _, _, _, _, _, _, _, _, _, _, _, _, _ => none
 | k + 1, x1, x6, x7, x49, x146000, x146001, x146002, x146003, x146004, x150000, x150001, x150002, x150004 => if x49 = true then (if x7 < (x146003.length : Int) then (if 0 ≤ x7 then (l4_Raw_Make.j2 k x1 x6 x7 (rd x146003 x7) x146000 x146001 x146002 x146003 x146004 x150000 x150001 x150002 x150004) else (none)) else (l4_Raw_Make.j2 k x1 x6 x7 x7 x146000 x146001 x146002 x146003 x146004 x150000 x150001 x150002 x150004)) else (l4_Raw_Make.l1 k x6 0 x146000 x146001 x146002 x146003 x146004 x150000 x150001 x150002 ([] : List Int) x150004)
noncomputable def l4_Raw_Make.j2 : Nat → Int → Int → Int → Int → Int → Int → Int → List Int → List Int → Int → List Int → Int → Int → Option (Int × List Int × Int × List Int × Int)
 | 0, _, _, _, _, _, _, _, _, _, _, _, _, _ => none
 | k + 1, x1, x6, x7, x8, x146000, x146001, x146002, x146003, x146004, x150000, x150001, x150002, x150004 => (l4_within.f x8 x1).bind fun t158 => ((l4_within.f (wrap64 (Int.tdiv x8 20)) 2).bind fun t159 => (if t159 = 0 then ((some (([0, 0, 0, 1, 2, 3, 50, 51, 52, 53, 54] : List Int) : List Int)).bind fun y160 => ((l4_within.f (wrap64 (Int.tdiv x8 40)) 11).bind fun t163 => (if 0 ≤ t163 then (if t163 < (y160.length : Int) then (if x150001.length < 17592186044416 then (l4_Raw_Make.l0 k x1 x6 (wrap64 (x7 + 1)) x146000 x146001 x146002 x146003 x146004 x150000 (x150001 ++ [wrap64 ((-1) - (rd y160 t163))]) x150002 x150004) else (none)) else (none)) else (none)))) else (if x150001.length < 17592186044416 then (l4_Raw_Make.l0 k x1 x6 (wrap64 (x7 + 1)) x146000 x146001 x146002 x146003 x146004 x150000 (x150001 ++ [t158]) x150002 x150004) else (none))))
noncomputable def l4_Raw_Make.l1 : Nat → Int → Int → Int → Int → Int → List Int → List Int → Int → List Int → Int → List Int → Int → Option (Int × List Int × Int × List Int × Int)
 | 0, _, _, _, _, _, _, _, _, _, _, _, _ => none
 | k + 1, x6, x10, x146000, x146001, x146002, x146003, x146004, x150000, x150001, x150002, x150003, x150004 => if x10 < x6 then (if x10 < (x146004.length : Int) then (if 0 ≤ x10 then ((l4_within.f (rd x146004 x10) (x150001.length : Int)).bind fun t172 => (if x150003.length < 17592186044416 then (l4_Raw_Make.l1 k x6 (wrap64 (x10 + 1)) x146000 x146001 x146002 x146003 x146004 x150000 x150001 x150002 (x150003 ++ [t172]) x150004) else (none))) else (none)) else ((l4_within.f x10 (x150001.length : Int)).bind fun t176 => (if x150003.length < 17592186044416 then (l4_Raw_Make.l1 k x6 (wrap64 (x10 + 1)) x146000 x146001 x146002 x146003 x146004 x150000 x150001 x150002 (x150003 ++ [t176]) x150004) else (none)))) else (some (x150000, x150001, x150002, x150003, x150004))
end
noncomputable def l4_Raw_Make.f (k : Nat) (a0_0 : Int) (a0_1 : Int) (a0_2 : Int) (l0_3 : List Int) (l0_4 : List Int) (a1 : Int) : Option (Int × List Int × Int × List Int × Int) := (l4_within.f a0_0 a1).bind fun t147 => ((l4_within.f a0_2 101).bind fun t148 => ((l4_within.f a0_1 16).bind fun t150 => ((some (([1, 3, 2, 2, 2, 2, 3, 1, 1, 2, 1, 1, 2, 2, 2, 2] : List Int) : List Int)).bind fun y151 => (if 0 ≤ t150 then (if t150 < (y151.length : Int) then (l4_Raw_Make.l0 k a1 (rd y151 t150) 0 a0_0 a0_1 a0_2 l0_3 l0_4 t147 ([] : List Int) t150 t148) else (none)) else (none)))))
def l4_Raw_Make.T1 : Bool × List (List Nat × List Nat) := (true, [([], []), ([0], [0]), ([], []), ([1, 2], [1, 2]), ([], []), ([4], [4]), ([5, 3], [5]), ([3, 6], [3, 6]), ([], []), ([8, 7, 6, 0, 1, 2, 3, 4, 5, 6, 7, 8], [7, 8])])
def l4_Raw_Make.B1 : List Nat := [0, 1, 0, 7, 0, 16, 63, 127, 0, 511]
theorem l4_Raw_Make.tab1 : rtab .any (opsOf Tryz.f16 1) = l4_Raw_Make.T1 := by kernel_rfl
theorem l4_Raw_Make.bits1 : rf_ l4_Raw_Make.T1.2 l4_Raw_Make.B1 = true := by kernel_rfl
def l4_Raw_Make.T20 : Bool × List (List Nat × List Nat) := (true, [([], []), ([0], [0]), ([1], [1]), ([], []), ([], []), ([4], [4]), ([5], [5]), ([3, 6], [3, 6]), ([7], [7]), ([2, 8, 7], [2, 8]), ([0, 1, 2, 3, 4, 5, 6, 7, 8, 9], []), ([10, 0, 1, 2, 3, 4, 5, 6, 7, 8, 9], [10]), ([11, 9, 9, 0, 1, 2, 3, 4, 5, 6, 7, 8, 9], [9, 11])])
def l4_Raw_Make.B20 : List Nat := [0, 1, 3, 0, 0, 16, 48, 120, 248, 511, 1023, 2047, 4095]
theorem l4_Raw_Make.tab20 : rtab .any (opsOf Tryz.f16 20) = l4_Raw_Make.T20 := by kernel_rfl
theorem l4_Raw_Make.bits20 : rf_ l4_Raw_Make.T20.2 l4_Raw_Make.B20 = true := by kernel_rfl
set_option maxHeartbeats 8000000 in
set_option maxRecDepth 100000 in
theorem l4_Raw_Make.calls (k : Nat) (a0_0 : Int) (a0_1 : Int) (a0_2 : Int) (A0_3 : Option Addr) (c0_3 : Nat) (l0_3 : List Int) (A0_4 : Option Addr) (c0_4 : Nat) (l0_4 : List Int) (a1 : Int) (r1 : Int) (r2 : List Int) (r3 : Int) (r4 : List Int) (r5 : Int) (w : World) (hr0_3 : Kd.C (Kd.int .i64) w A0_3 l0_3.length l0_3) (hc0_3 : l0_3.length ≤ c0_3) (hr0_4 : Kd.C (Kd.int .i64) w A0_4 l0_4.length l0_4) (hc0_4 : l0_4.length ≤ c0_4) (h : l4_Raw_Make.f k a0_0 a0_1 a0_2 l0_3 l0_4 a1 = some (r1, r2, r3, r4, r5)) :
  Calls Tryz.prog 16 #[.agg #[.int .i64 a0_0, .int .i64 a0_1, .int .i64 a0_2, .slice A0_3 l0_3.length c0_3, .slice A0_4 l0_4.length c0_4], .int .i64 a1] w fun e w' => ∃ v1_ v3_ : Value, e = .returned (.agg #[.int .i64 r1, v1_, .int .i64 r3, v3_, .int .i64 r5]) ∧ Kd.R (Kd.int .i64) 3 w' w.heap.size (fun k_ => some k_ ≠ (v3_ : Value).ownBlock) v1_ r2 ∧ Kd.R (Kd.int .i64) 3 w' w.heap.size (fun k_ => some k_ ≠ (v1_ : Value).ownBlock) v3_ r4 ∧ Below w.heap.size w w' := by
 have hu50 := Tryz.underlying50
 have hu48 := Tryz.underlying48
 have HR0_3 := Aside0.mk hr0_3
 have HC0_3 := Aside0.mk hc0_3
 clear hr0_3 hc0_3
 have HR0_4 := Aside0.mk hr0_4
 have HC0_4 := Aside0.mk hc0_4
 clear hr0_4 hc0_4
 have HB := Aside0.mk (Below.refl w.heap.size w)
 have H : ((l4_within.f a0_0 a1).bind fun t147 => ((l4_within.f a0_2 101).bind fun t148 => ((l4_within.f a0_1 16).bind fun t150 => ((some (([1, 3, 2, 2, 2, 2, 3, 1, 1, 2, 1, 1, 2, 2, 2, 2] : List Int) : List Int)).bind fun y151 => (if 0 ≤ t150 then (if t150 < (y151.length : Int) then (l4_Raw_Make.l0 k a1 (rd y151 t150) 0 a0_0 a0_1 a0_2 l0_3 l0_4 t147 ([] : List Int) t150 t148) else (none)) else (none)))))) = some (r1, r2, r3, r4, r5) := h
 clear h
 replace H := Option.bind_eq_some_iff.mp H
 obtain ⟨t147, A30, H⟩ := H
 replace H : ((l4_within.f a0_2 101).bind fun t148 => ((l4_within.f a0_1 16).bind fun t150 => ((some (([1, 3, 2, 2, 2, 2, 3, 1, 1, 2, 1, 1, 2, 2, 2, 2] : List Int) : List Int)).bind fun y151 => (if 0 ≤ t150 then (if t150 < (y151.length : Int) then (l4_Raw_Make.l0 k a1 (rd y151 t150) 0 a0_0 a0_1 a0_2 l0_3 l0_4 t147 ([] : List Int) t150 t148) else (none)) else (none))))) = some (r1, r2, r3, r4, r5) := H
 have A3 := Aside0.mk A30
 clear A30
 replace H := Option.bind_eq_some_iff.mp H
 obtain ⟨t148, A40, H⟩ := H
 replace H : ((l4_within.f a0_1 16).bind fun t150 => ((some (([1, 3, 2, 2, 2, 2, 3, 1, 1, 2, 1, 1, 2, 2, 2, 2] : List Int) : List Int)).bind fun y151 => (if 0 ≤ t150 then (if t150 < (y151.length : Int) then (l4_Raw_Make.l0 k a1 (rd y151 t150) 0 a0_0 a0_1 a0_2 l0_3 l0_4 t147 ([] : List Int) t150 t148) else (none)) else (none)))) = some (r1, r2, r3, r4, r5) := H
 have A4 := Aside0.mk A40
 clear A40
 replace H := Option.bind_eq_some_iff.mp H
 obtain ⟨t150, A50, H⟩ := H
 replace H : ((some (([1, 3, 2, 2, 2, 2, 3, 1, 1, 2, 1, 1, 2, 2, 2, 2] : List Int) : List Int)).bind fun y151 => (if 0 ≤ t150 then (if t150 < (y151.length : Int) then (l4_Raw_Make.l0 k a1 (rd y151 t150) 0 a0_0 a0_1 a0_2 l0_3 l0_4 t147 ([] : List Int) t150 t148) else (none)) else (none))) = some (r1, r2, r3, r4, r5) := H
 have A5 := Aside0.mk A50
 clear A50
 obtain ⟨y151, hy151⟩ : ∃ y_ : List Int, y_ = (([1, 3, 2, 2, 2, 2, 3, 1, 1, 2, 1, 1, 2, 2, 2, 2] : List Int)) := ⟨_, rfl⟩
 replace H : (if 0 ≤ t150 then (if t150 < (y151.length : Int) then (l4_Raw_Make.l0 k a1 (rd y151 t150) 0 a0_0 a0_1 a0_2 l0_3 l0_4 t147 ([] : List Int) t150 t148) else (none)) else (none)) = some (r1, r2, r3, r4, r5) := by first | (rw [hy151]; with_reducible exact H) | (have H2_ := (Option.bind_some _ _).symm.trans H; rw [hy151]; with_reducible exact H2_) | (have H2_ := (Option.bind_some _ _).symm.trans H; with_reducible exact H2_) | with_reducible exact H | (rw [hy151]; exact H) | exact H
 have Ny151 := Aside0.mk hy151
 clear hy151
 by_cases c6 : 0 ≤ t150
 ·rw [if_pos c6] at H
  have c6b0 : decide (0 ≤ t150) = true := decide_eq_true c6
  clear c6
  by_cases c7 : t150 < (y151.length : Int)
  ·rw [if_pos c7] at H
   have c7b0 : decide (t150 < (y151.length : Int)) = true := decide_eq_true c7
   clear c7
   have H' := Aside0.mk H
   clear H
   go_enter Tryz.func16, Tryz.ntmps16
   try go_wp2_with (first | ((with_reducible refine pb_ (N := 2) rfl ?_); refine mg_ ?hg (N := 2) ?hd (cs := #[.int .i64 a0_0, .int .i64 a0_1, .int .i64 a0_2, .slice A0_3 l0_3.length c0_3, .slice A0_4 l0_4.length c0_4]) (t := 50) ?hr ?_; (case hd => rfl); (case hg => rfl); (case hr => first | (go_simp; done) | (go_simp; rfl)); intro gb145 hg w8 hbox hb; have n0_ := Aside0.mk (ma_ (by repeat (first | (with_reducible first | exact HB.out | apply ba_ | apply aa_ | apply da_) | exact HB.out)) hb); have n1_ := Aside0.mk (hbox); have n2_ := Aside0.mk ((by rw [hg]; exact (na_ (by repeat (first | (with_reducible first | exact HB.out | apply ba_ | apply aa_ | apply da_) | exact HB.out))) : w.heap.size ≤ gb145)); have n3_ := Aside0.mk ((by rw [hg]; exact (na_ (by repeat (first | (with_reducible first | exact HB.out | apply ba_ | apply aa_ | apply da_) | exact HB.out))) : w.heap.size ≤ gb145)); clear HB; have HB := n0_; have BK145 := n1_; have GW145 := n2_; have GE145 := n3_; clear n0_ n1_ n2_ n3_; clear hb hbox hg) | ((with_reducible refine pb_ (N := 4) rfl ?_); refine mg_ ?hg (N := 4) ?hd (cs := #[.int .i64 0, .slice none 0 0, .int .i64 0, .slice none 0 0, .int .i64 0]) (t := 48) ?hr ?_; (case hd => rfl); (case hg => rfl); (case hr => first | (go_simp; done) | (go_simp; rfl)); intro gb146 hg w9 hbox hb; have n0_ := Aside0.mk (ya_ (g := gb145) (o := .cells #[.int .i64 a0_0, .int .i64 a0_1, .int .i64 a0_2, .slice A0_3 l0_3.length c0_3, .slice A0_4 l0_4.length c0_4] 50 (0, 0)) (by (with_reducible repeat (first | refine ha_ ?_ _ | refine ia_ ?_ | refine ga_ ?_ _)); exact BK145.out) hb); have n1_ := Aside0.mk (ma_ (by repeat (first | (with_reducible first | exact HB.out | apply ba_ | apply aa_ | apply da_ | refine ja_ ?_ GE145.out) | exact HB.out)) hb); have n2_ := Aside0.mk (hbox); have n3_ := Aside0.mk ((by rw [hg]; exact (na_ (by repeat (first | (with_reducible first | exact HB.out | apply ba_ | apply aa_ | apply da_ | refine ja_ ?_ GE145.out) | exact HB.out))) : w.heap.size ≤ gb146)); have n4_ := Aside0.mk ((by rw [hg]; exact (na_ (by repeat (first | (with_reducible first | exact HB.out | apply ba_ | apply aa_ | apply da_ | refine ja_ ?_ GE145.out) | exact HB.out))) : w.heap.size ≤ gb146)); have n5_ := Aside0.mk ((by rw [hg]; exact Nat.ne_of_lt (kc_ (g := gb145) (o := .cells #[.int .i64 a0_0, .int .i64 a0_1, .int .i64 a0_2, .slice A0_3 l0_3.length c0_3, .slice A0_4 l0_4.length c0_4] 50 (0, 0)) (by (with_reducible repeat (first | refine ha_ ?_ _ | refine ia_ ?_ | refine ga_ ?_ _)); exact BK145.out)) : gb145 ≠ gb146)); have n6_ := Aside0.mk ((by rw [hg]; exact Nat.ne_of_gt (kc_ (g := gb145) (o := .cells #[.int .i64 a0_0, .int .i64 a0_1, .int .i64 a0_2, .slice A0_3 l0_3.length c0_3, .slice A0_4 l0_4.length c0_4] 50 (0, 0)) (by (with_reducible repeat (first | refine ha_ ?_ _ | refine ia_ ?_ | refine ga_ ?_ _)); exact BK145.out)) : gb146 ≠ gb145)); clear BK145; clear HB; have BK145 := n0_; have HB := n1_; have BK146 := n2_; have GW146 := n3_; have GE146 := n4_; have NB145_146 := n5_; have NB146_145 := n6_; clear n0_ n1_ n2_ n3_ n4_ n5_ n6_; clear hb hbox hg))
   have n0_ := Aside0.mk (ia_ BK145.out)
   have n1_ := Aside0.mk (ia_ BK146.out)
   have n2_ := Aside0.mk (da_ HB.out)
   clear BK145
   clear BK146
   clear HB
   have BK145 := n0_
   have BK146 := n1_
   have HB := n2_
   clear n0_ n1_ n2_
   refine td_ (n := 10) (S := fun w' => w'.cell? ⟨gb145, 0, none⟩ = some (.int .i64 a0_0) ∧ w'.cell? ⟨gb145, 1, none⟩ = some (.int .i64 a0_1) ∧ w'.cell? ⟨gb145, 2, none⟩ = some (.int .i64 a0_2) ∧ w'.cell? ⟨gb145, 3, none⟩ = some (.slice A0_3 l0_3.length c0_3) ∧ w'.cell? ⟨gb145, 4, none⟩ = some (.slice A0_4 l0_4.length c0_4)) (ds := []) (f_ 10 0) (by kernel_rfl) rfl rfl ⟨(ca_ BK145.out 0).trans rfl, (ca_ BK145.out 1).trans rfl, (ca_ BK145.out 2).trans rfl, (ca_ BK145.out 3).trans rfl, (ca_ BK145.out 4).trans rfl⟩ (fun hHeld => ?_); refine gf_ l4_Raw_Make.tab1 l4_Raw_Make.bits1 (fun HT_ HW_ => ?_)
   generalize w9.drew = w10 at BK145 BK146 HB hHeld ⊢
   refine oa_ (i := 0) (N := some 12) (v := ?_) (a' := ?_) (f_ 10 1) rfl rfl (jb_ HT_.out (by kernel_rfl)) (fun _ _ _ h => h) (Or.inl ⟨by rfl, ?_⟩) ?_ ?_
   rotate_left
   ·intro w'
    go_simp
    with_reducible rfl
   rotate_left
   ·simp only [Act.put, s1_, s2_, s3_, ka_, la_]
    rfl
   refine oa_ (i := 2) (N := some 14) (v := ?_) (a' := ?_) #[true, false, true, false, false, false, false, false, false, false] rfl rfl (jb_ HT_.out (by kernel_rfl)) (fun _ _ _ h => h) (Or.inl ⟨by rfl, ?_⟩) ?_ ?_
   rotate_left
   ·intro w'
    go_simp
    with_reducible rfl
   rotate_left
   ·simp only [Act.put, s1_, s2_, s3_, ka_, la_]
    rfl
   refine oa_ (i := 4) (N := some 16) (v := ?_) (a' := ?_) #[true, false, true, false, true, false, false, false, false, false] rfl rfl (jb_ HT_.out (by kernel_rfl)) (fun _ _ _ h => h) (Or.inl ⟨by rfl, ?_⟩) ?_ ?_
   rotate_left
   ·intro w'
    go_simp
    with_reducible rfl
   rotate_left
   ·simp only [Act.put, s1_, s2_, s3_, ka_, la_]
    rfl
   refine take_ (i := 1) (N := some 13) (v := ?_) (a' := ?_) #[true, true, true, false, true, false, false, false, false, false] rfl rfl (yd_ HT_.out HW_.out (by kernel_rfl)) (fun _ _ _ h => h) (Or.inl ⟨by rfl, ?_⟩) hHeld ?_ ?_
   rotate_left
   ·rintro w' ⟨s0, s1, s2, s3, s4⟩
    go_simp
    with_reducible rfl
   rotate_left
   ·simp only [Act.put, s1_, s2_, s3_, ka_, la_]
    rfl
   refine take_ (i := 5) (N := some 17) (v := ?_) (a' := ?_) #[true, true, true, false, true, true, false, false, false, false] rfl rfl (yd_ HT_.out HW_.out (by kernel_rfl)) (fun _ _ _ h => h) (Or.inl ⟨by rfl, ?_⟩) hHeld ?_ ?_
   rotate_left
   ·rintro w' ⟨s0, s1, s2, s3, s4⟩
    go_simp
    with_reducible rfl
   rotate_left
   ·simp only [Act.put, s1_, s2_, s3_, ka_, la_]
    rfl
   refine sk_ (σ := Nat) 1 (f_ 10 9) (fun s_ => [(15, .int .i64 t147), (18, .int .i64 t148), (5, .pointer (some ⟨s_, 0, none⟩)), (19, .agg #[.int .i64 t147, .slice none 0 0, .int .i64 0, .slice none 0 0, .int .i64 t148])]) (fun s_ w' => (w'.cell? ⟨gb145, 0, none⟩ = some (.int .i64 a0_0) ∧ w'.cell? ⟨gb145, 1, none⟩ = some (.int .i64 a0_1) ∧ w'.cell? ⟨gb145, 2, none⟩ = some (.int .i64 a0_2) ∧ w'.cell? ⟨gb145, 3, none⟩ = some (.slice A0_3 l0_3.length c0_3) ∧ w'.cell? ⟨gb145, 4, none⟩ = some (.slice A0_4 l0_4.length c0_4)) ∧ (w'.heap[gb145]? = some (.cells #[.int .i64 a0_0, .int .i64 a0_1, .int .i64 a0_2, .slice A0_3 l0_3.length c0_3, .slice A0_4 l0_4.length c0_4] 50 (0, 0))) ∧ (w'.heap[gb146]? = some (.cells #[.int .i64 0, .slice none 0 0, .int .i64 0, .slice none 0 0, .int .i64 0] 48 (0, 0))) ∧ (w'.heap[s_]? = some (.cells #[.int .i64 0, .slice none 0 0, .int .i64 0, .slice none 0 0, .int .i64 0] 48 (0, 0))) ∧ (w.heap.size ≤ s_) ∧ (w.heap.size ≤ s_) ∧ (gb145 ≠ s_) ∧ (s_ ≠ gb145) ∧ (gb146 ≠ s_) ∧ (s_ ≠ gb146) ∧ (Below w.heap.size w w')) ?_ ?_
   rotate_left
   ·intro hCont
    refine two_ (i := 3) (j := 8) (Ni := some 15) (Nj := some 5) (f_ 10 6) #[true, true, true, false, true, true, false, false, true, false] rfl rfl rfl rfl (nl_ HT_.out (by kernel_rfl)) (by decide) (by decide) (fun K hK => ?_) (fun K hK => ?_)
    ·skip
     refine id_ Tryz.func25 (by kernel_rfl) rfl #[.int .i64 a0_0, .int .i64 a1] (by rfl) rfl rfl (by (try simp only [List.map_toArray, List.map_cons, List.map_nil]); first | done | rfl | (simp only [List.length_drop, List.length_take]; rfl)) ?_
     with_reducible refine (l4_within.calls a0_0 a1 t147 _ A3.out).mono ?_
     rintro e w' ⟨rfl, ⟨nd, rfl⟩⟩
     refine ⟨_, rfl, ?_⟩
     refine hK.out _ _ ⟨(ca_ BK145.out 0).trans rfl, (ca_ BK145.out 1).trans rfl, (ca_ BK145.out 2).trans rfl, (ca_ BK145.out 3).trans rfl, (ca_ BK145.out 4).trans rfl⟩ (fun hHeld => ?_)
     clear hK K
     refine ab_ (a' := ?_) ?_ ?_
     rotate_left
     ·show Act.put _ (some 15) _ = _
      simp only [Act.put, s1_, s2_, s3_, ka_, la_]
      rfl
     refine two_ (i := 6) (j := 8) (Ni := some 18) (Nj := some 5) (f_ 10 7) #[true, true, true, true, true, true, false, false, true, false] rfl rfl rfl rfl (nl_ HT_.out (by kernel_rfl)) (by decide) (by decide) (fun K hK => ?_) (fun K hK => ?_)
     ·skip
      refine id_ Tryz.func25 (by kernel_rfl) rfl #[.int .i64 a0_2, .int .i64 101] (by rfl) rfl rfl (by (try simp only [List.map_toArray, List.map_cons, List.map_nil]); first | done | rfl | (simp only [List.length_drop, List.length_take]; rfl)) ?_
      with_reducible refine (l4_within.calls a0_2 101 t148 _ A4.out).mono ?_
      rintro e w' ⟨rfl, ⟨nd, rfl⟩⟩
      refine ⟨_, rfl, ?_⟩
      refine hK.out _ _ ⟨(ca_ BK145.out 0).trans rfl, (ca_ BK145.out 1).trans rfl, (ca_ BK145.out 2).trans rfl, (ca_ BK145.out 3).trans rfl, (ca_ BK145.out 4).trans rfl⟩ (fun hHeld => ?_)
      clear hK K
      refine ab_ (a' := ?_) ?_ ?_
      rotate_left
      ·show Act.put _ (some 18) _ = _
       simp only [Act.put, s1_, s2_, s3_, ka_, la_]
       rfl
      refine oa_ (i := 7) (N := some 19) (v := ?_) (a' := ?_) (f_ 10 8) rfl rfl (jb_ HT_.out (by kernel_rfl)) (fun _ _ _ h => h) (Or.inl ⟨by rfl, ?_⟩) ?_ ?_
      rotate_left
      ·intro w'
       go_simp
       with_reducible rfl
      rotate_left
      ·simp only [Act.put, s1_, s2_, s3_, ka_, la_]
       rfl
      refine one_ (i := 8) (N := some 5) (f_ 10 9) rfl rfl (lc_ HT_.out (by kernel_rfl)) (by decide) (fun K hK => ?_)
      refine pm_ ?hg (N := 5) ?hd (cs := #[.int .i64 0, .slice none 0 0, .int .i64 0, .slice none 0 0, .int .i64 0]) (t := 48) ?hr ?_; (case hd => rfl); (case hg => rfl); (case hr => first | (go_simp; done) | (go_simp; rfl))
      intro gb149 hg w11 hbox hb
      have n0_ := Aside0.mk (ya_ (g := gb145) (o := .cells #[.int .i64 a0_0, .int .i64 a0_1, .int .i64 a0_2, .slice A0_3 l0_3.length c0_3, .slice A0_4 l0_4.length c0_4] 50 (0, 0)) (by (with_reducible repeat (first | refine ha_ ?_ _ | refine ia_ ?_ | refine ga_ ?_ _)); exact BK145.out) hb)
      have n1_ := Aside0.mk (ya_ (g := gb146) (o := .cells #[.int .i64 0, .slice none 0 0, .int .i64 0, .slice none 0 0, .int .i64 0] 48 (0, 0)) (by (with_reducible repeat (first | refine ha_ ?_ _ | refine ia_ ?_ | refine ga_ ?_ _)); exact BK146.out) hb)
      have n2_ := Aside0.mk (ma_ (by repeat (first | (with_reducible first | exact HB.out | apply ba_ | apply aa_ | apply da_ | refine ja_ ?_ GE145.out | refine ja_ ?_ GE146.out) | exact HB.out)) hb)
      have n3_ := Aside0.mk (hbox)
      have n4_ := Aside0.mk ((by rw [hg]; exact (na_ (by repeat (first | (with_reducible first | exact HB.out | apply ba_ | apply aa_ | apply da_ | refine ja_ ?_ GE145.out | refine ja_ ?_ GE146.out) | exact HB.out))) : w.heap.size ≤ gb149))
      have n5_ := Aside0.mk ((by rw [hg]; exact (na_ (by repeat (first | (with_reducible first | exact HB.out | apply ba_ | apply aa_ | apply da_ | refine ja_ ?_ GE145.out | refine ja_ ?_ GE146.out) | exact HB.out))) : w.heap.size ≤ gb149))
      have n6_ := Aside0.mk ((by rw [hg]; exact Nat.ne_of_lt (kc_ (g := gb145) (o := .cells #[.int .i64 a0_0, .int .i64 a0_1, .int .i64 a0_2, .slice A0_3 l0_3.length c0_3, .slice A0_4 l0_4.length c0_4] 50 (0, 0)) (by (with_reducible repeat (first | refine ha_ ?_ _ | refine ia_ ?_ | refine ga_ ?_ _)); exact BK145.out)) : gb145 ≠ gb149))
      have n7_ := Aside0.mk ((by rw [hg]; exact Nat.ne_of_gt (kc_ (g := gb145) (o := .cells #[.int .i64 a0_0, .int .i64 a0_1, .int .i64 a0_2, .slice A0_3 l0_3.length c0_3, .slice A0_4 l0_4.length c0_4] 50 (0, 0)) (by (with_reducible repeat (first | refine ha_ ?_ _ | refine ia_ ?_ | refine ga_ ?_ _)); exact BK145.out)) : gb149 ≠ gb145))
      have n8_ := Aside0.mk ((by rw [hg]; exact Nat.ne_of_lt (kc_ (g := gb146) (o := .cells #[.int .i64 0, .slice none 0 0, .int .i64 0, .slice none 0 0, .int .i64 0] 48 (0, 0)) (by (with_reducible repeat (first | refine ha_ ?_ _ | refine ia_ ?_ | refine ga_ ?_ _)); exact BK146.out)) : gb146 ≠ gb149))
      have n9_ := Aside0.mk ((by rw [hg]; exact Nat.ne_of_gt (kc_ (g := gb146) (o := .cells #[.int .i64 0, .slice none 0 0, .int .i64 0, .slice none 0 0, .int .i64 0] 48 (0, 0)) (by (with_reducible repeat (first | refine ha_ ?_ _ | refine ia_ ?_ | refine ga_ ?_ _)); exact BK146.out)) : gb149 ≠ gb146))
      clear BK145
      clear BK146
      clear HB
      have BK145 := n0_
      have BK146 := n1_
      have HB := n2_
      have BK149 := n3_
      have GW149 := n4_
      have GE149 := n5_
      have NB145_149 := n6_
      have NB149_145 := n7_
      have NB146_149 := n8_
      have NB149_146 := n9_
      clear n0_ n1_ n2_ n3_ n4_ n5_ n6_ n7_ n8_ n9_
      clear hb hbox hg
      refine hK.out _ _ ⟨(ca_ BK145.out 0).trans rfl, (ca_ BK145.out 1).trans rfl, (ca_ BK145.out 2).trans rfl, (ca_ BK145.out 3).trans rfl, (ca_ BK145.out 4).trans rfl⟩ (fun hHeld => ?_)
      clear hK K
      refine ab_ (a' := ?_) ?_ ?_
      rotate_left
      ·show Act.put _ (some 5) _ = _
       simp only [Act.put, s1_, s2_, s3_, ka_, la_]
       rfl
      exact ab_ (by simp only [fc_, Act.put, s1_, s2_, s3_]) (hCont (gb149) _ ⟨hHeld, (by (with_reducible repeat (first | refine ha_ ?_ _ | refine ia_ ?_ | refine ga_ ?_ _)); exact BK145.out), (by (with_reducible repeat (first | refine ha_ ?_ _ | refine ia_ ?_ | refine ga_ ?_ _)); exact BK146.out), (by (with_reducible repeat (first | refine ha_ ?_ _ | refine ia_ ?_ | refine ga_ ?_ _)); exact BK149.out), GW149.out, GE149.out, NB145_149.out, NB149_145.out, NB146_149.out, NB149_146.out, (by repeat (first | (with_reducible first | exact HB.out | apply ba_ | apply aa_ | apply da_ | refine ja_ ?_ GE145.out | refine ja_ ?_ GE146.out | refine ja_ ?_ GE149.out) | exact HB.out))⟩)
     skip
     refine pm_ ?hg (N := 5) ?hd (cs := #[.int .i64 0, .slice none 0 0, .int .i64 0, .slice none 0 0, .int .i64 0]) (t := 48) ?hr ?_; (case hd => rfl); (case hg => rfl); (case hr => first | (go_simp; done) | (go_simp; rfl))
     intro gb149 hg w11 hbox hb
     have n0_ := Aside0.mk (ya_ (g := gb145) (o := .cells #[.int .i64 a0_0, .int .i64 a0_1, .int .i64 a0_2, .slice A0_3 l0_3.length c0_3, .slice A0_4 l0_4.length c0_4] 50 (0, 0)) (by (with_reducible repeat (first | refine ha_ ?_ _ | refine ia_ ?_ | refine ga_ ?_ _)); exact BK145.out) hb)
     have n1_ := Aside0.mk (ya_ (g := gb146) (o := .cells #[.int .i64 0, .slice none 0 0, .int .i64 0, .slice none 0 0, .int .i64 0] 48 (0, 0)) (by (with_reducible repeat (first | refine ha_ ?_ _ | refine ia_ ?_ | refine ga_ ?_ _)); exact BK146.out) hb)
     have n2_ := Aside0.mk (ma_ (by repeat (first | (with_reducible first | exact HB.out | apply ba_ | apply aa_ | apply da_ | refine ja_ ?_ GE145.out | refine ja_ ?_ GE146.out) | exact HB.out)) hb)
     have n3_ := Aside0.mk (hbox)
     have n4_ := Aside0.mk ((by rw [hg]; exact (na_ (by repeat (first | (with_reducible first | exact HB.out | apply ba_ | apply aa_ | apply da_ | refine ja_ ?_ GE145.out | refine ja_ ?_ GE146.out) | exact HB.out))) : w.heap.size ≤ gb149))
     have n5_ := Aside0.mk ((by rw [hg]; exact (na_ (by repeat (first | (with_reducible first | exact HB.out | apply ba_ | apply aa_ | apply da_ | refine ja_ ?_ GE145.out | refine ja_ ?_ GE146.out) | exact HB.out))) : w.heap.size ≤ gb149))
     have n6_ := Aside0.mk ((by rw [hg]; exact Nat.ne_of_lt (kc_ (g := gb145) (o := .cells #[.int .i64 a0_0, .int .i64 a0_1, .int .i64 a0_2, .slice A0_3 l0_3.length c0_3, .slice A0_4 l0_4.length c0_4] 50 (0, 0)) (by (with_reducible repeat (first | refine ha_ ?_ _ | refine ia_ ?_ | refine ga_ ?_ _)); exact BK145.out)) : gb145 ≠ gb149))
     have n7_ := Aside0.mk ((by rw [hg]; exact Nat.ne_of_gt (kc_ (g := gb145) (o := .cells #[.int .i64 a0_0, .int .i64 a0_1, .int .i64 a0_2, .slice A0_3 l0_3.length c0_3, .slice A0_4 l0_4.length c0_4] 50 (0, 0)) (by (with_reducible repeat (first | refine ha_ ?_ _ | refine ia_ ?_ | refine ga_ ?_ _)); exact BK145.out)) : gb149 ≠ gb145))
     have n8_ := Aside0.mk ((by rw [hg]; exact Nat.ne_of_lt (kc_ (g := gb146) (o := .cells #[.int .i64 0, .slice none 0 0, .int .i64 0, .slice none 0 0, .int .i64 0] 48 (0, 0)) (by (with_reducible repeat (first | refine ha_ ?_ _ | refine ia_ ?_ | refine ga_ ?_ _)); exact BK146.out)) : gb146 ≠ gb149))
     have n9_ := Aside0.mk ((by rw [hg]; exact Nat.ne_of_gt (kc_ (g := gb146) (o := .cells #[.int .i64 0, .slice none 0 0, .int .i64 0, .slice none 0 0, .int .i64 0] 48 (0, 0)) (by (with_reducible repeat (first | refine ha_ ?_ _ | refine ia_ ?_ | refine ga_ ?_ _)); exact BK146.out)) : gb149 ≠ gb146))
     clear BK145
     clear BK146
     clear HB
     have BK145 := n0_
     have BK146 := n1_
     have HB := n2_
     have BK149 := n3_
     have GW149 := n4_
     have GE149 := n5_
     have NB145_149 := n6_
     have NB149_145 := n7_
     have NB146_149 := n8_
     have NB149_146 := n9_
     clear n0_ n1_ n2_ n3_ n4_ n5_ n6_ n7_ n8_ n9_
     clear hb hbox hg
     refine hK.out _ _ ⟨(ca_ BK145.out 0).trans rfl, (ca_ BK145.out 1).trans rfl, (ca_ BK145.out 2).trans rfl, (ca_ BK145.out 3).trans rfl, (ca_ BK145.out 4).trans rfl⟩ (fun hHeld => ?_)
     clear hK K
     refine ab_ (a' := ?_) ?_ ?_
     rotate_left
     ·show Act.put _ (some 5) _ = _
      simp only [Act.put, s1_, s2_, s3_, ka_, la_]
      rfl
     refine one_ (i := 6) (N := some 18) #[true, true, true, true, true, true, true, false, true, false] rfl rfl (lc_ HT_.out (by kernel_rfl)) (by decide) (fun K hK => ?_)
     refine id_ Tryz.func25 (by kernel_rfl) rfl #[.int .i64 a0_2, .int .i64 101] (by rfl) rfl rfl (by (try simp only [List.map_toArray, List.map_cons, List.map_nil]); first | done | rfl | (simp only [List.length_drop, List.length_take]; rfl)) ?_
     with_reducible refine (l4_within.calls a0_2 101 t148 _ A4.out).mono ?_
     rintro e w' ⟨rfl, ⟨nd, rfl⟩⟩
     refine ⟨_, rfl, ?_⟩
     refine hK.out _ _ ⟨(ca_ BK145.out 0).trans rfl, (ca_ BK145.out 1).trans rfl, (ca_ BK145.out 2).trans rfl, (ca_ BK145.out 3).trans rfl, (ca_ BK145.out 4).trans rfl⟩ (fun hHeld => ?_)
     clear hK K
     refine ab_ (a' := ?_) ?_ ?_
     rotate_left
     ·show Act.put _ (some 18) _ = _
      simp only [Act.put, s1_, s2_, s3_, ka_, la_]
      rfl
     refine oa_ (i := 7) (N := some 19) (v := ?_) (a' := ?_) (f_ 10 9) rfl rfl (jb_ HT_.out (by kernel_rfl)) (fun _ _ _ h => h) (Or.inl ⟨by rfl, ?_⟩) ?_ ?_
     rotate_left
     ·intro w'
      go_simp
      with_reducible rfl
     rotate_left
     ·simp only [Act.put, s1_, s2_, s3_, ka_, la_]
      rfl
     exact ab_ (by simp only [fc_, Act.put, s1_, s2_, s3_]) (hCont (gb149) _ ⟨hHeld, (by (with_reducible repeat (first | refine ha_ ?_ _ | refine ia_ ?_ | refine ga_ ?_ _)); exact BK145.out), (by (with_reducible repeat (first | refine ha_ ?_ _ | refine ia_ ?_ | refine ga_ ?_ _)); exact BK146.out), (by (with_reducible repeat (first | refine ha_ ?_ _ | refine ia_ ?_ | refine ga_ ?_ _)); exact BK149.out), GW149.out, GE149.out, NB145_149.out, NB149_145.out, NB146_149.out, NB149_146.out, (by repeat (first | (with_reducible first | exact HB.out | apply ba_ | apply aa_ | apply da_ | refine ja_ ?_ GE145.out | refine ja_ ?_ GE146.out | refine ja_ ?_ GE149.out) | exact HB.out))⟩)
    skip
    refine pm_ ?hg (N := 5) ?hd (cs := #[.int .i64 0, .slice none 0 0, .int .i64 0, .slice none 0 0, .int .i64 0]) (t := 48) ?hr ?_; (case hd => rfl); (case hg => rfl); (case hr => first | (go_simp; done) | (go_simp; rfl))
    intro gb149 hg w11 hbox hb
    have n0_ := Aside0.mk (ya_ (g := gb145) (o := .cells #[.int .i64 a0_0, .int .i64 a0_1, .int .i64 a0_2, .slice A0_3 l0_3.length c0_3, .slice A0_4 l0_4.length c0_4] 50 (0, 0)) (by (with_reducible repeat (first | refine ha_ ?_ _ | refine ia_ ?_ | refine ga_ ?_ _)); exact BK145.out) hb)
    have n1_ := Aside0.mk (ya_ (g := gb146) (o := .cells #[.int .i64 0, .slice none 0 0, .int .i64 0, .slice none 0 0, .int .i64 0] 48 (0, 0)) (by (with_reducible repeat (first | refine ha_ ?_ _ | refine ia_ ?_ | refine ga_ ?_ _)); exact BK146.out) hb)
    have n2_ := Aside0.mk (ma_ (by repeat (first | (with_reducible first | exact HB.out | apply ba_ | apply aa_ | apply da_ | refine ja_ ?_ GE145.out | refine ja_ ?_ GE146.out) | exact HB.out)) hb)
    have n3_ := Aside0.mk (hbox)
    have n4_ := Aside0.mk ((by rw [hg]; exact (na_ (by repeat (first | (with_reducible first | exact HB.out | apply ba_ | apply aa_ | apply da_ | refine ja_ ?_ GE145.out | refine ja_ ?_ GE146.out) | exact HB.out))) : w.heap.size ≤ gb149))
    have n5_ := Aside0.mk ((by rw [hg]; exact (na_ (by repeat (first | (with_reducible first | exact HB.out | apply ba_ | apply aa_ | apply da_ | refine ja_ ?_ GE145.out | refine ja_ ?_ GE146.out) | exact HB.out))) : w.heap.size ≤ gb149))
    have n6_ := Aside0.mk ((by rw [hg]; exact Nat.ne_of_lt (kc_ (g := gb145) (o := .cells #[.int .i64 a0_0, .int .i64 a0_1, .int .i64 a0_2, .slice A0_3 l0_3.length c0_3, .slice A0_4 l0_4.length c0_4] 50 (0, 0)) (by (with_reducible repeat (first | refine ha_ ?_ _ | refine ia_ ?_ | refine ga_ ?_ _)); exact BK145.out)) : gb145 ≠ gb149))
    have n7_ := Aside0.mk ((by rw [hg]; exact Nat.ne_of_gt (kc_ (g := gb145) (o := .cells #[.int .i64 a0_0, .int .i64 a0_1, .int .i64 a0_2, .slice A0_3 l0_3.length c0_3, .slice A0_4 l0_4.length c0_4] 50 (0, 0)) (by (with_reducible repeat (first | refine ha_ ?_ _ | refine ia_ ?_ | refine ga_ ?_ _)); exact BK145.out)) : gb149 ≠ gb145))
    have n8_ := Aside0.mk ((by rw [hg]; exact Nat.ne_of_lt (kc_ (g := gb146) (o := .cells #[.int .i64 0, .slice none 0 0, .int .i64 0, .slice none 0 0, .int .i64 0] 48 (0, 0)) (by (with_reducible repeat (first | refine ha_ ?_ _ | refine ia_ ?_ | refine ga_ ?_ _)); exact BK146.out)) : gb146 ≠ gb149))
    have n9_ := Aside0.mk ((by rw [hg]; exact Nat.ne_of_gt (kc_ (g := gb146) (o := .cells #[.int .i64 0, .slice none 0 0, .int .i64 0, .slice none 0 0, .int .i64 0] 48 (0, 0)) (by (with_reducible repeat (first | refine ha_ ?_ _ | refine ia_ ?_ | refine ga_ ?_ _)); exact BK146.out)) : gb149 ≠ gb146))
    clear BK145
    clear BK146
    clear HB
    have BK145 := n0_
    have BK146 := n1_
    have HB := n2_
    have BK149 := n3_
    have GW149 := n4_
    have GE149 := n5_
    have NB145_149 := n6_
    have NB149_145 := n7_
    have NB146_149 := n8_
    have NB149_146 := n9_
    clear n0_ n1_ n2_ n3_ n4_ n5_ n6_ n7_ n8_ n9_
    clear hb hbox hg
    refine hK.out _ _ ⟨(ca_ BK145.out 0).trans rfl, (ca_ BK145.out 1).trans rfl, (ca_ BK145.out 2).trans rfl, (ca_ BK145.out 3).trans rfl, (ca_ BK145.out 4).trans rfl⟩ (fun hHeld => ?_)
    clear hK K
    refine ab_ (a' := ?_) ?_ ?_
    rotate_left
    ·show Act.put _ (some 5) _ = _
     simp only [Act.put, s1_, s2_, s3_, ka_, la_]
     rfl
    refine one_ (i := 3) (N := some 15) #[true, true, true, true, true, true, false, false, true, false] rfl rfl (lc_ HT_.out (by kernel_rfl)) (by decide) (fun K hK => ?_)
    refine id_ Tryz.func25 (by kernel_rfl) rfl #[.int .i64 a0_0, .int .i64 a1] (by rfl) rfl rfl (by (try simp only [List.map_toArray, List.map_cons, List.map_nil]); first | done | rfl | (simp only [List.length_drop, List.length_take]; rfl)) ?_
    with_reducible refine (l4_within.calls a0_0 a1 t147 _ A3.out).mono ?_
    rintro e w' ⟨rfl, ⟨nd, rfl⟩⟩
    refine ⟨_, rfl, ?_⟩
    refine hK.out _ _ ⟨(ca_ BK145.out 0).trans rfl, (ca_ BK145.out 1).trans rfl, (ca_ BK145.out 2).trans rfl, (ca_ BK145.out 3).trans rfl, (ca_ BK145.out 4).trans rfl⟩ (fun hHeld => ?_)
    clear hK K
    refine ab_ (a' := ?_) ?_ ?_
    rotate_left
    ·show Act.put _ (some 15) _ = _
     simp only [Act.put, s1_, s2_, s3_, ka_, la_]
     rfl
    refine one_ (i := 6) (N := some 18) #[true, true, true, true, true, true, true, false, true, false] rfl rfl (lc_ HT_.out (by kernel_rfl)) (by decide) (fun K hK => ?_)
    refine id_ Tryz.func25 (by kernel_rfl) rfl #[.int .i64 a0_2, .int .i64 101] (by rfl) rfl rfl (by (try simp only [List.map_toArray, List.map_cons, List.map_nil]); first | done | rfl | (simp only [List.length_drop, List.length_take]; rfl)) ?_
    with_reducible refine (l4_within.calls a0_2 101 t148 _ A4.out).mono ?_
    rintro e w' ⟨rfl, ⟨nd, rfl⟩⟩
    refine ⟨_, rfl, ?_⟩
    refine hK.out _ _ ⟨(ca_ BK145.out 0).trans rfl, (ca_ BK145.out 1).trans rfl, (ca_ BK145.out 2).trans rfl, (ca_ BK145.out 3).trans rfl, (ca_ BK145.out 4).trans rfl⟩ (fun hHeld => ?_)
    clear hK K
    refine ab_ (a' := ?_) ?_ ?_
    rotate_left
    ·show Act.put _ (some 18) _ = _
     simp only [Act.put, s1_, s2_, s3_, ka_, la_]
     rfl
    refine oa_ (i := 7) (N := some 19) (v := ?_) (a' := ?_) (f_ 10 9) rfl rfl (jb_ HT_.out (by kernel_rfl)) (fun _ _ _ h => h) (Or.inl ⟨by rfl, ?_⟩) ?_ ?_
    rotate_left
    ·intro w'
     go_simp
     with_reducible rfl
    rotate_left
    ·simp only [Act.put, s1_, s2_, s3_, ka_, la_]
     rfl
    exact ab_ (by simp only [fc_, Act.put, s1_, s2_, s3_]) (hCont (gb149) _ ⟨hHeld, (by (with_reducible repeat (first | refine ha_ ?_ _ | refine ia_ ?_ | refine ga_ ?_ _)); exact BK145.out), (by (with_reducible repeat (first | refine ha_ ?_ _ | refine ia_ ?_ | refine ga_ ?_ _)); exact BK146.out), (by (with_reducible repeat (first | refine ha_ ?_ _ | refine ia_ ?_ | refine ga_ ?_ _)); exact BK149.out), GW149.out, GE149.out, NB145_149.out, NB149_145.out, NB146_149.out, NB149_146.out, (by repeat (first | (with_reducible first | exact HB.out | apply ba_ | apply aa_ | apply da_ | refine ja_ ?_ GE145.out | refine ja_ ?_ GE146.out | refine ja_ ?_ GE149.out) | exact HB.out))⟩)
   rintro gb149 w12 ⟨hS_, h0_, h1_, h2_, h3_, h4_, h5_, h6_, h7_, h8_, h9_⟩
   have n0_ : Aside0 (w12.heap[gb145]? = some (.cells #[.int .i64 a0_0, .int .i64 a0_1, .int .i64 a0_2, .slice A0_3 l0_3.length c0_3, .slice A0_4 l0_4.length c0_4] 50 (0, 0))) := ⟨h0_⟩
   have n1_ : Aside0 (w12.heap[gb146]? = some (.cells #[.int .i64 0, .slice none 0 0, .int .i64 0, .slice none 0 0, .int .i64 0] 48 (0, 0))) := ⟨h1_⟩
   have n2_ : Aside0 (w12.heap[gb149]? = some (.cells #[.int .i64 0, .slice none 0 0, .int .i64 0, .slice none 0 0, .int .i64 0] 48 (0, 0))) := ⟨h2_⟩
   have n3_ : Aside0 (w.heap.size ≤ gb149) := ⟨h3_⟩
   have n4_ : Aside0 (w.heap.size ≤ gb149) := ⟨h4_⟩
   have n5_ : Aside0 (gb145 ≠ gb149) := ⟨h5_⟩
   have n6_ : Aside0 (gb149 ≠ gb145) := ⟨h6_⟩
   have n7_ : Aside0 (gb146 ≠ gb149) := ⟨h7_⟩
   have n8_ : Aside0 (gb149 ≠ gb146) := ⟨h8_⟩
   have n9_ : Aside0 (Below w.heap.size w w12) := ⟨h9_⟩
   clear BK145
   clear BK146
   clear HB
   clear h0_ h1_ h2_ h3_ h4_ h5_ h6_ h7_ h8_ h9_
   have BK145 := n0_
   have BK146 := n1_
   have BK149 := n2_
   have GW149 := n3_
   have GE149 := n4_
   have NB145_149 := n5_
   have NB149_145 := n6_
   have NB146_149 := n7_
   have NB149_146 := n8_
   have HB := n9_
   clear n0_ n1_ n2_ n3_ n4_ n5_ n6_ n7_ n8_ n9_
   have hHeld : w12.cell? ⟨gb145, 0, none⟩ = some (.int .i64 a0_0) ∧ w12.cell? ⟨gb145, 1, none⟩ = some (.int .i64 a0_1) ∧ w12.cell? ⟨gb145, 2, none⟩ = some (.int .i64 a0_2) ∧ w12.cell? ⟨gb145, 3, none⟩ = some (.slice A0_3 l0_3.length c0_3) ∧ w12.cell? ⟨gb145, 4, none⟩ = some (.slice A0_4 l0_4.length c0_4) := hS_
   refine ab_ (a' := ?_) ?_ ?_
   rotate_left
   ·simp only [fc_, Act.put, s1_, s2_, s3_]
    rfl
   refine one_ (i := 9) (N := none) (f_ 10 10) rfl rfl (lc_ HT_.out (by kernel_rfl)) (by decide) (fun K hK => ?_)
   have hs13 : w12.cell? ⟨gb149, 0, none⟩ = some (.int .i64 0) := (ca_ BK149.out 0).trans rfl
   have hfs13 := fa_ BK149.out 0
   have hns13_0 := NB145_149.out
   have hns13_1 := NB146_149.out
   have hms13_0 := NB149_145.out
   have hms13_1 := NB149_146.out
   have hs14 : w12.cell? ⟨gb149, 1, none⟩ = some (.slice none 0 0) := (ca_ BK149.out 1).trans rfl
   have hfs14 := fa_ BK149.out 1
   have hns14_0 := NB145_149.out
   have hns14_1 := NB146_149.out
   have hms14_0 := NB149_145.out
   have hms14_1 := NB149_146.out
   have hs15 : w12.cell? ⟨gb149, 2, none⟩ = some (.int .i64 0) := (ca_ BK149.out 2).trans rfl
   have hfs15 := fa_ BK149.out 2
   have hns15_0 := NB145_149.out
   have hns15_1 := NB146_149.out
   have hms15_0 := NB149_145.out
   have hms15_1 := NB149_146.out
   have hs16 : w12.cell? ⟨gb149, 3, none⟩ = some (.slice none 0 0) := (ca_ BK149.out 3).trans rfl
   have hfs16 := fa_ BK149.out 3
   have hns16_0 := NB145_149.out
   have hns16_1 := NB146_149.out
   have hms16_0 := NB149_145.out
   have hms16_1 := NB149_146.out
   have hs17 : w12.cell? ⟨gb149, 4, none⟩ = some (.int .i64 0) := (ca_ BK149.out 4).trans rfl
   have hfs17 := fa_ BK149.out 4
   have hns17_0 := NB145_149.out
   have hns17_1 := NB146_149.out
   have hms17_0 := NB149_145.out
   have hms17_1 := NB149_146.out
   refine sn_ (w1 := ?_) (by rfl) rfl ?_ ?_
   rotate_left
   ·go_simp
    rfl
   refine hK.out _ _ ⟨((xb_ (p := ⟨gb149, _, none⟩) NB145_149.out _).trans (((xb_ (p := ⟨gb149, _, none⟩) NB145_149.out _).trans (((xb_ (p := ⟨gb149, _, none⟩) NB145_149.out _).trans (((xb_ (p := ⟨gb149, _, none⟩) NB145_149.out _).trans (((xb_ (p := ⟨gb149, _, none⟩) NB145_149.out _).trans (hHeld.1)))))))))), ((xb_ (p := ⟨gb149, _, none⟩) NB145_149.out _).trans (((xb_ (p := ⟨gb149, _, none⟩) NB145_149.out _).trans (((xb_ (p := ⟨gb149, _, none⟩) NB145_149.out _).trans (((xb_ (p := ⟨gb149, _, none⟩) NB145_149.out _).trans (((xb_ (p := ⟨gb149, _, none⟩) NB145_149.out _).trans (hHeld.2.1)))))))))), ((xb_ (p := ⟨gb149, _, none⟩) NB145_149.out _).trans (((xb_ (p := ⟨gb149, _, none⟩) NB145_149.out _).trans (((xb_ (p := ⟨gb149, _, none⟩) NB145_149.out _).trans (((xb_ (p := ⟨gb149, _, none⟩) NB145_149.out _).trans (((xb_ (p := ⟨gb149, _, none⟩) NB145_149.out _).trans (hHeld.2.2.1)))))))))), ((xb_ (p := ⟨gb149, _, none⟩) NB145_149.out _).trans (((xb_ (p := ⟨gb149, _, none⟩) NB145_149.out _).trans (((xb_ (p := ⟨gb149, _, none⟩) NB145_149.out _).trans (((xb_ (p := ⟨gb149, _, none⟩) NB145_149.out _).trans (((xb_ (p := ⟨gb149, _, none⟩) NB145_149.out _).trans (hHeld.2.2.2.1)))))))))), ((xb_ (p := ⟨gb149, _, none⟩) NB145_149.out _).trans (((xb_ (p := ⟨gb149, _, none⟩) NB145_149.out _).trans (((xb_ (p := ⟨gb149, _, none⟩) NB145_149.out _).trans (((xb_ (p := ⟨gb149, _, none⟩) NB145_149.out _).trans (((xb_ (p := ⟨gb149, _, none⟩) NB145_149.out _).trans (hHeld.2.2.2.2))))))))))⟩ (fun hHeld => ?_)
   clear hK K
   refine ie_ (vh_ HT_.out (by kernel_rfl)) ?_
   have hnb18 := NB145_146.out
   have hnc18 := NB146_145.out
   have hnb19 := NB145_149.out
   have hnc19 := NB149_145.out
   have hcz20_0 : w12.cell? ⟨gb145, 0, none⟩ = some (.int .i64 a0_0) := (ca_ BK145.out 0).trans rfl
   have hcz20_1 : w12.cell? ⟨gb145, 1, none⟩ = some (.int .i64 a0_1) := (ca_ BK145.out 1).trans rfl
   have hcz20_2 : w12.cell? ⟨gb145, 2, none⟩ = some (.int .i64 a0_2) := (ca_ BK145.out 2).trans rfl
   have hcz20_3 : w12.cell? ⟨gb145, 3, none⟩ = some (.slice A0_3 l0_3.length c0_3) := (ca_ BK145.out 3).trans rfl
   have hcz20_4 : w12.cell? ⟨gb145, 4, none⟩ = some (.slice A0_4 l0_4.length c0_4) := (ca_ BK145.out 4).trans rfl
   have hfz20_0 := fa_ BK145.out 0
   have hfz20_1 := fa_ BK145.out 1
   have hfz20_2 := fa_ BK145.out 2
   have hfz20_3 := fa_ BK145.out 3
   have hfz20_4 := fa_ BK145.out 4
   try go_wp2_with (first | ((with_reducible refine pa_ (f := 25) rfl ?_); refine rb_ (some 22) rfl rfl Tryz.func25 (by kernel_rfl) rfl #[.int .i64 a0_1, .int .i64 16] rfl (by (try simp only [List.map_toArray, List.map_cons, List.map_nil]); first | done | rfl | (simp only [List.length_drop, List.length_take]; rfl)) ?_; (with_reducible refine (l4_within.calls a0_1 16 t150 _ A5.out).mono ?_); rintro e w' ⟨rfl, ⟨nd, rfl⟩⟩; refine ⟨_, rfl, ?_⟩; have hnb21 := NB149_146.out; have hnc21 := NB146_149.out; have hcz22_0 : w12.cell? ⟨gb149, 0, none⟩ = some (.int .i64 0) := (ca_ BK149.out 0).trans rfl; have hcz22_1 : w12.cell? ⟨gb149, 1, none⟩ = some (.slice none 0 0) := (ca_ BK149.out 1).trans rfl; have hcz22_2 : w12.cell? ⟨gb149, 2, none⟩ = some (.int .i64 0) := (ca_ BK149.out 2).trans rfl; have hcz22_3 : w12.cell? ⟨gb149, 3, none⟩ = some (.slice none 0 0) := (ca_ BK149.out 3).trans rfl; have hcz22_4 : w12.cell? ⟨gb149, 4, none⟩ = some (.int .i64 0) := (ca_ BK149.out 4).trans rfl; have hfz22_0 := fa_ BK149.out 0; have hfz22_1 := fa_ BK149.out 1; have hfz22_2 := fa_ BK149.out 2; have hfz22_3 := fa_ BK149.out 3; have hfz22_4 := fa_ BK149.out 4) | ((with_reducible refine pb_ (N := 25) rfl ?_); refine Kd.R_lit (Kd.int .i64) _ 3 ?hg (N := 25) ?hd (xs := ([1, 3, 2, 2, 2, 2, 3, 1, 1, 2, 1, 1, 2, 2, 2, 2] : List Int)) (inner := [.int .i64 1, .int .i64 3, .int .i64 2, .int .i64 2, .int .i64 2, .int .i64 2, .int .i64 3, .int .i64 1, .int .i64 1, .int .i64 2, .int .i64 1, .int .i64 1, .int .i64 2, .int .i64 2, .int .i64 2, .int .i64 2]) (ok := fun _ => True) (okp := fun _ => True) ?hr ?hp (fun _ hk => hk) trivial (Below.refl _ _) (Nat.le_refl _) (by simp) ?_; (case hd => rfl); (case hg => rfl); (case hr => first | (go_simp; done) | (go_simp; rfl)); (case hp => exact (Reps.one (show Kd.M (Kd.int .i64) _ _ _ 1 [.int .i64 1] from rfl) (Reps.one (show Kd.M (Kd.int .i64) _ _ _ 3 [.int .i64 3] from rfl) (Reps.one (show Kd.M (Kd.int .i64) _ _ _ 2 [.int .i64 2] from rfl) (Reps.one (show Kd.M (Kd.int .i64) _ _ _ 2 [.int .i64 2] from rfl) (Reps.one (show Kd.M (Kd.int .i64) _ _ _ 2 [.int .i64 2] from rfl) (Reps.one (show Kd.M (Kd.int .i64) _ _ _ 2 [.int .i64 2] from rfl) (Reps.one (show Kd.M (Kd.int .i64) _ _ _ 3 [.int .i64 3] from rfl) (Reps.one (show Kd.M (Kd.int .i64) _ _ _ 1 [.int .i64 1] from rfl) (Reps.one (show Kd.M (Kd.int .i64) _ _ _ 1 [.int .i64 1] from rfl) (Reps.one (show Kd.M (Kd.int .i64) _ _ _ 2 [.int .i64 2] from rfl) (Reps.one (show Kd.M (Kd.int .i64) _ _ _ 1 [.int .i64 1] from rfl) (Reps.one (show Kd.M (Kd.int .i64) _ _ _ 1 [.int .i64 1] from rfl) (Reps.one (show Kd.M (Kd.int .i64) _ _ _ 2 [.int .i64 2] from rfl) (Reps.one (show Kd.M (Kd.int .i64) _ _ _ 2 [.int .i64 2] from rfl) (Reps.one (show Kd.M (Kd.int .i64) _ _ _ 2 [.int .i64 2] from rfl) (Reps.one (show Kd.M (Kd.int .i64) _ _ _ 2 [.int .i64 2] from rfl) (Reps.none _ _)))))))))))))))))); intro v152 w23 ho24 hb hg_ hnew_; clear hg_ hnew_; (first | rw [← Ny151.out] at ho24 | (simp only [Int.reduceToNat] at ho24; rw [← Ny151.out] at ho24)); have n0_ := Aside0.mk (Kd.R_lower ho24 (na_ (by repeat (first | (with_reducible first | exact HB.out | apply ba_ | apply aa_ | apply da_ | refine ja_ ?_ GE145.out | refine ja_ ?_ GE146.out | refine ja_ ?_ GE149.out) | exact HB.out)))); have n1_ := Aside0.mk (ya_ (g := gb145) (o := .cells #[.int .i64 a0_0, .int .i64 a0_1, .int .i64 a0_2, .slice A0_3 l0_3.length c0_3, .slice A0_4 l0_4.length c0_4] 50 (0, 0)) (by (with_reducible repeat (first | refine ha_ ?_ _ | refine ia_ ?_ | refine ga_ ?_ _)); refine mc_ ?_ NB145_149.out _; (with_reducible repeat (first | refine ha_ ?_ _ | refine ia_ ?_ | refine ga_ ?_ _)); refine mc_ ?_ NB145_149.out _; (with_reducible repeat (first | refine ha_ ?_ _ | refine ia_ ?_ | refine ga_ ?_ _)); refine mc_ ?_ NB145_149.out _; (with_reducible repeat (first | refine ha_ ?_ _ | refine ia_ ?_ | refine ga_ ?_ _)); refine mc_ ?_ NB145_149.out _; (with_reducible repeat (first | refine ha_ ?_ _ | refine ia_ ?_ | refine ga_ ?_ _)); refine mc_ ?_ NB145_149.out _; (with_reducible repeat (first | refine ha_ ?_ _ | refine ia_ ?_ | refine ga_ ?_ _)); refine mc_ ?_ NB145_149.out _; (with_reducible repeat (first | refine ha_ ?_ _ | refine ia_ ?_ | refine ga_ ?_ _)); exact BK145.out) hb); have n2_ := Aside0.mk (ya_ (g := gb146) (o := .cells #[.int .i64 0, .slice none 0 0, .int .i64 0, .slice none 0 0, .int .i64 0] 48 (0, 0)) (by (with_reducible repeat (first | refine ha_ ?_ _ | refine ia_ ?_ | refine ga_ ?_ _)); refine mc_ ?_ NB146_149.out _; (with_reducible repeat (first | refine ha_ ?_ _ | refine ia_ ?_ | refine ga_ ?_ _)); refine mc_ ?_ NB146_149.out _; (with_reducible repeat (first | refine ha_ ?_ _ | refine ia_ ?_ | refine ga_ ?_ _)); refine mc_ ?_ NB146_149.out _; (with_reducible repeat (first | refine ha_ ?_ _ | refine ia_ ?_ | refine ga_ ?_ _)); refine mc_ ?_ NB146_149.out _; (with_reducible repeat (first | refine ha_ ?_ _ | refine ia_ ?_ | refine ga_ ?_ _)); refine mc_ ?_ NB146_149.out _; (with_reducible repeat (first | refine ha_ ?_ _ | refine ia_ ?_ | refine ga_ ?_ _)); refine mc_ ?_ NB146_149.out _; (with_reducible repeat (first | refine ha_ ?_ _ | refine ia_ ?_ | refine ga_ ?_ _)); exact BK146.out) hb); have n3_ := Aside0.mk (ya_ (g := gb149) (o := .cells #[.int .i64 t147, .slice none 0 0, .int .i64 t150, .slice none 0 0, .int .i64 t148] 48 (0, 0)) (by (with_reducible repeat (first | refine ha_ ?_ _ | refine ia_ ?_ | refine ga_ ?_ _)); refine wc_ (cs := #[.int .i64 t147, .slice none 0 0, .int .i64 0, .slice none 0 0, .int .i64 t148]) ?_ 2 _ rfl; (with_reducible repeat (first | refine ha_ ?_ _ | refine ia_ ?_ | refine ga_ ?_ _)); refine wc_ (cs := #[.int .i64 t147, .slice none 0 0, .int .i64 0, .slice none 0 0, .int .i64 0]) ?_ 4 _ rfl; (with_reducible repeat (first | refine ha_ ?_ _ | refine ia_ ?_ | refine ga_ ?_ _)); refine wc_ (cs := #[.int .i64 t147, .slice none 0 0, .int .i64 0, .slice none 0 0, .int .i64 0]) ?_ 3 _ rfl; (with_reducible repeat (first | refine ha_ ?_ _ | refine ia_ ?_ | refine ga_ ?_ _)); refine wc_ (cs := #[.int .i64 t147, .slice none 0 0, .int .i64 0, .slice none 0 0, .int .i64 0]) ?_ 2 _ rfl; (with_reducible repeat (first | refine ha_ ?_ _ | refine ia_ ?_ | refine ga_ ?_ _)); refine wc_ (cs := #[.int .i64 t147, .slice none 0 0, .int .i64 0, .slice none 0 0, .int .i64 0]) ?_ 1 _ rfl; (with_reducible repeat (first | refine ha_ ?_ _ | refine ia_ ?_ | refine ga_ ?_ _)); refine wc_ (cs := #[.int .i64 0, .slice none 0 0, .int .i64 0, .slice none 0 0, .int .i64 0]) ?_ 0 _ rfl; (with_reducible repeat (first | refine ha_ ?_ _ | refine ia_ ?_ | refine ga_ ?_ _)); exact BK149.out) hb); have n4_ := Aside0.mk (ma_ (by repeat (first | (with_reducible first | exact HB.out | apply ba_ | apply aa_ | apply da_ | refine ja_ ?_ GE145.out | refine ja_ ?_ GE146.out | refine ja_ ?_ GE149.out) | exact HB.out)) hb); clear BK145; clear BK146; clear BK149; clear HB; have HO153 := n0_; have BK145 := n1_; have BK146 := n2_; have BK149 := n3_; have HB := n4_; clear n0_ n1_ n2_ n3_ n4_; clear hb ho24; have hcz25_0 : w23.cell? ⟨gb149, 0, none⟩ = some (.int .i64 t147) := (ca_ BK149.out 0).trans rfl; have hcz25_1 : w23.cell? ⟨gb149, 1, none⟩ = some (.slice none 0 0) := (ca_ BK149.out 1).trans rfl; have hcz25_2 : w23.cell? ⟨gb149, 2, none⟩ = some (.int .i64 t150) := (ca_ BK149.out 2).trans rfl; have hcz25_3 : w23.cell? ⟨gb149, 3, none⟩ = some (.slice none 0 0) := (ca_ BK149.out 3).trans rfl; have hcz25_4 : w23.cell? ⟨gb149, 4, none⟩ = some (.int .i64 t148) := (ca_ BK149.out 4).trans rfl; have hfz25_0 := fa_ BK149.out 0; have hfz25_1 := fa_ BK149.out 1; have hfz25_2 := fa_ BK149.out 2; have hfz25_3 := fa_ BK149.out 3; have hfz25_4 := fa_ BK149.out 4; obtain ⟨Ao26, co26, eo26⟩ := Kd.R_slice HO153.out; subst eo26; have p154 : 0 ≤ (t150 : Int) := of_decide_eq_true (by first | (with_reducible assumption) | assumption); have q154 : t150 < (y151.length : Int) := of_decide_eq_true (by first | (with_reducible assumption) | assumption); obtain ⟨ad154, e154, hx154_0⟩ := Kd.at_int (Kd.R_reads' HO153.out).2.2 t150 p154 q154; cases e154; replace p154 := eq_true p154; replace q154 := eq_true q154))
   go_loopg [7] k (fun kq v7 w' => ∃ (x7_1 : Int) (x150001_1 : List Int) (u150001 : Value), v7 = .int .i64 x7_1 ∧ Aside0 (l4_Raw_Make.l0 kq a1 (rd y151 t150) x7_1 a0_0 a0_1 a0_2 l0_3 l0_4 t147 x150001_1 t150 t148 = some (r1, r2, r3, r4, r5)) ∧ Aside0 (kq ≤ k) ∧ Aside0 (Kd.R (Kd.int .i64) 3 w' w.heap.size (fun _ => True) u150001 x150001_1) ∧ Aside0 (w'.heap[gb145]? = some (.cells #[.int .i64 a0_0, .int .i64 a0_1, .int .i64 a0_2, (.slice A0_3 l0_3.length c0_3), (.slice A0_4 l0_4.length c0_4)] 50 (0, 0))) ∧ Aside0 (w'.heap[gb146]? = some (.cells #[.int .i64 0, (.slice none 0 0), .int .i64 0, (.slice none 0 0), .int .i64 0] 48 (0, 0))) ∧ Aside0 (w'.heap[gb149]? = some (.cells #[.int .i64 t147, u150001, .int .i64 t150, (.slice none 0 0), .int .i64 t148] 48 (0, 0))) ∧ Aside0 (Below w.heap.size w w'))
   case atStart => exact ⟨(0), (([] : List Int)), (.slice none 0 0), (by first | rfl | (simp; done) | (simp [*]; done)), H', ⟨Nat.le_refl _⟩, ⟨by first | exact Kd.R_nil _ _ _ _ _ | exact Kd.N_nil _ _ _ _ _ | exact Kd.V_nil _ _ _ _ _ | exact Kd.Q_nil _ _ _ _ _ | exact Kd.S_nil _ _ _ _ _⟩, ⟨by (with_reducible repeat (first | refine ha_ ?_ _ | refine ia_ ?_ | refine ga_ ?_ _)); exact BK145.out⟩, ⟨by (with_reducible repeat (first | refine ha_ ?_ _ | refine ia_ ?_ | refine ga_ ?_ _)); exact BK146.out⟩, ⟨by (with_reducible repeat (first | refine ha_ ?_ _ | refine ia_ ?_ | refine ga_ ?_ _)); exact BK149.out⟩, ⟨by repeat (first | (with_reducible first | exact HB.out | apply ba_ | apply aa_ | apply da_ | refine ja_ ?_ GE145.out | refine ja_ ?_ GE146.out | refine ja_ ?_ GE149.out) | exact HB.out)⟩⟩
   clear H'
   try clear c1
   try clear p1
   try clear q1
   try clear hx1
   try clear c2
   try clear p2
   try clear c6
   try clear c6b0
   try clear c7
   try clear c7b0
   try clear p15
   try clear q15
   try clear hx15
   try clear c16
   try clear c18
   try clear c19
   try clear c21
   try clear c25
   try clear hcz20_0
   try clear hcz20_1
   try clear hcz20_2
   try clear hcz20_3
   try clear hcz20_4
   try clear hcz22_0
   try clear hcz22_1
   try clear hcz22_2
   try clear hcz22_3
   try clear hcz22_4
   try clear hcz25_0
   try clear hcz25_1
   try clear hcz25_2
   try clear hcz25_3
   try clear hcz25_4
   try clear hfz20_0
   try clear hfz20_1
   try clear hfz20_2
   try clear hfz20_3
   try clear hfz20_4
   try clear hfz22_0
   try clear hfz22_1
   try clear hfz22_2
   try clear hfz22_3
   try clear hfz22_4
   try clear hfz25_0
   try clear hfz25_1
   try clear hfz25_2
   try clear hfz25_3
   try clear hfz25_4
   try clear hx154_0
   try clear p154
   try clear q154
   obtain ⟨x7_1, x150001_1, u150001, rfl, HA, HK1, HO_150001, BK145, BK146, BK149, HB⟩ := hrel
   cases gk with
   | zero => exact absurd HA.out (by simp [l4_Raw_Make.l0])
   | succ k1 =>
    have H := HA.out
    clear HA
    simp only [l4_Raw_Make.l0] at H
    have HC27 := Aside0.mk H
    clear H
    go_upto_region 5 with (fail)
    go_cut [49] (fun v49 wc => ∃ (kq : Nat) (x49_26 : Bool), v49 = .bool x49_26 ∧ Aside0 (l4_Raw_Make.j1 kq a1 (rd y151 t150) x7_1 x49_26 a0_0 a0_1 a0_2 l0_3 l0_4 t147 x150001_1 t150 t148 = some (r1, r2, r3, r4, r5)) ∧ Aside0 (kq ≤ k1) ∧ Aside0 (Kd.R (Kd.int .i64) 3 wc w.heap.size (fun _ => True) u150001 x150001_1) ∧ Aside0 (wc.heap[gb145]? = some (.cells #[.int .i64 a0_0, .int .i64 a0_1, .int .i64 a0_2, (.slice A0_3 l0_3.length c0_3), (.slice A0_4 l0_4.length c0_4)] 50 (0, 0))) ∧ Aside0 (wc.heap[gb146]? = some (.cells #[.int .i64 0, (.slice none 0 0), .int .i64 0, (.slice none 0 0), .int .i64 0] 48 (0, 0))) ∧ Aside0 (wc.heap[gb149]? = some (.cells #[.int .i64 t147, u150001, .int .i64 t150, (.slice none 0 0), .int .i64 t148] 48 (0, 0))) ∧ Aside0 (Below w.heap.size w wc))
    case first =>
     have H := HC27.out
     clear HC27
     replace H := Option.bind_eq_some_iff.mp H
     obtain ⟨t155, A280, H⟩ := H
     replace H : (if x7_1 < (wrap64 (1 + t155)) then (l4_Raw_Make.j1 k1 a1 (rd y151 t150) x7_1 true a0_0 a0_1 a0_2 l0_3 l0_4 t147 x150001_1 t150 t148) else (if x7_1 < (rd y151 t150) then ((l4_within.f (wrap64 (Int.tdiv a0_1 16)) 2).bind fun t156 => (l4_Raw_Make.j1 k1 a1 (rd y151 t150) x7_1 (t156 == 0) a0_0 a0_1 a0_2 l0_3 l0_4 t147 x150001_1 t150 t148)) else (l4_Raw_Make.j1 k1 a1 (rd y151 t150) x7_1 false a0_0 a0_1 a0_2 l0_3 l0_4 t147 x150001_1 t150 t148))) = some (r1, r2, r3, r4, r5) := H
     have A28 := Aside0.mk A280
     clear A280
     by_cases c29 : x7_1 < (wrap64 (1 + t155))
     ·rw [if_pos c29] at H
      have c29b0 : decide (x7_1 < (wrap64 (1 + t155))) = true := decide_eq_true c29
      clear c29
      (first | rw [c29b0] | (simp only [ka_, la_]; rw [c29b0]) | skip)
      have H' := Aside0.mk H
      clear H
      have hnb30 := NB145_146.out
      have hnc30 := NB146_145.out
      have hnb31 := NB145_149.out
      have hnc31 := NB149_145.out
      have hcz32_0 : wr.cell? ⟨gb145, 0, none⟩ = some (.int .i64 a0_0) := (ca_ BK145.out 0).trans rfl
      have hcz32_1 : wr.cell? ⟨gb145, 1, none⟩ = some (.int .i64 a0_1) := (ca_ BK145.out 1).trans rfl
      have hcz32_2 : wr.cell? ⟨gb145, 2, none⟩ = some (.int .i64 a0_2) := (ca_ BK145.out 2).trans rfl
      have hcz32_3 : wr.cell? ⟨gb145, 3, none⟩ = some (.slice A0_3 l0_3.length c0_3) := (ca_ BK145.out 3).trans rfl
      have hcz32_4 : wr.cell? ⟨gb145, 4, none⟩ = some (.slice A0_4 l0_4.length c0_4) := (ca_ BK145.out 4).trans rfl
      have hfz32_0 := fa_ BK145.out 0
      have hfz32_1 := fa_ BK145.out 1
      have hfz32_2 := fa_ BK145.out 2
      have hfz32_3 := fa_ BK145.out 3
      have hfz32_4 := fa_ BK145.out 4
      go_wp2_with (first | ((with_reducible refine pa_ (f := 25) rfl ?_); refine rb_ (some 35) rfl rfl Tryz.func25 (by kernel_rfl) rfl #[.int .i64 (l0_3.length : Int), .int .i64 3] rfl (by (try simp only [List.map_toArray, List.map_cons, List.map_nil]); first | done | rfl | (simp only [List.length_drop, List.length_take]; rfl)) ?_; (with_reducible refine (l4_within.calls (l0_3.length : Int) 3 t155 _ A28.out).mono ?_); rintro e w' ⟨rfl, ⟨nd, rfl⟩⟩; refine ⟨_, rfl, ?_⟩))
      go_meet
      case rel => exact ⟨_, (true), (by first | rfl | (simp; done) | (simp [*]; done)), H', ⟨by have := HK1.out; first | omega | exact Nat.le_refl _⟩, ⟨by (with_reducible repeat (first | apply Kd.R_alloc | apply Kd.R_drewN | apply Kd.R_drew)); exact HO_150001.out⟩, ⟨by (with_reducible repeat (first | refine ha_ ?_ _ | refine ia_ ?_ | refine ga_ ?_ _)); exact BK145.out⟩, ⟨by (with_reducible repeat (first | refine ha_ ?_ _ | refine ia_ ?_ | refine ga_ ?_ _)); exact BK146.out⟩, ⟨by (with_reducible repeat (first | refine ha_ ?_ _ | refine ia_ ?_ | refine ga_ ?_ _)); exact BK149.out⟩, ⟨by repeat (first | (with_reducible first | exact HB.out | apply ba_ | apply aa_ | apply da_ | refine ja_ ?_ GE145.out | refine ja_ ?_ GE146.out | refine ja_ ?_ GE149.out) | exact HB.out)⟩⟩
     rw [if_neg c29] at H
     have c29b0 : decide (x7_1 < (wrap64 (1 + t155))) = false := decide_eq_false c29
     clear c29
     (first | rw [c29b0] | (simp only [ka_, la_]; rw [c29b0]) | skip)
     by_cases c33 : x7_1 < (rd y151 t150)
     ·rw [if_pos c33] at H
      have c33b0 : decide (x7_1 < (rd y151 t150)) = true := decide_eq_true c33
      clear c33
      replace H := Option.bind_eq_some_iff.mp H
      obtain ⟨t156, A340, H⟩ := H
      replace H : (l4_Raw_Make.j1 k1 a1 (rd y151 t150) x7_1 (t156 == 0) a0_0 a0_1 a0_2 l0_3 l0_4 t147 x150001_1 t150 t148) = some (r1, r2, r3, r4, r5) := H
      have A34 := Aside0.mk A340
      clear A340
      have H' := Aside0.mk H
      clear H
      have hnb35 := NB145_146.out
      have hnc35 := NB146_145.out
      have hnb36 := NB145_149.out
      have hnc36 := NB149_145.out
      have hcz37_0 : wr.cell? ⟨gb145, 0, none⟩ = some (.int .i64 a0_0) := (ca_ BK145.out 0).trans rfl
      have hcz37_1 : wr.cell? ⟨gb145, 1, none⟩ = some (.int .i64 a0_1) := (ca_ BK145.out 1).trans rfl
      have hcz37_2 : wr.cell? ⟨gb145, 2, none⟩ = some (.int .i64 a0_2) := (ca_ BK145.out 2).trans rfl
      have hcz37_3 : wr.cell? ⟨gb145, 3, none⟩ = some (.slice A0_3 l0_3.length c0_3) := (ca_ BK145.out 3).trans rfl
      have hcz37_4 : wr.cell? ⟨gb145, 4, none⟩ = some (.slice A0_4 l0_4.length c0_4) := (ca_ BK145.out 4).trans rfl
      have hfz37_0 := fa_ BK145.out 0
      have hfz37_1 := fa_ BK145.out 1
      have hfz37_2 := fa_ BK145.out 2
      have hfz37_3 := fa_ BK145.out 3
      have hfz37_4 := fa_ BK145.out 4
      go_wp2_with (first | ((with_reducible refine pa_ (f := 25) rfl ?_); refine rb_ (some 35) rfl rfl Tryz.func25 (by kernel_rfl) rfl #[.int .i64 (l0_3.length : Int), .int .i64 3] rfl (by (try simp only [List.map_toArray, List.map_cons, List.map_nil]); first | done | rfl | (simp only [List.length_drop, List.length_take]; rfl)) ?_; (with_reducible refine (l4_within.calls (l0_3.length : Int) 3 t155 _ A28.out).mono ?_); rintro e w' ⟨rfl, ⟨nd, rfl⟩⟩; refine ⟨_, rfl, ?_⟩) | (go_at_call 25; (with_reducible refine (l4_within.calls (wrap64 (Int.tdiv a0_1 16)) 2 t156 _ A34.out).mono ?_); rintro e w' ⟨rfl, ⟨nd, rfl⟩⟩))
      go_meet
      case rel => exact ⟨_, ((t156 == 0)), (by first | rfl | (simp; done) | (simp [*]; done)), H', ⟨by have := HK1.out; first | omega | exact Nat.le_refl _⟩, ⟨by (with_reducible repeat (first | apply Kd.R_alloc | apply Kd.R_drewN | apply Kd.R_drew)); exact HO_150001.out⟩, ⟨by (with_reducible repeat (first | refine ha_ ?_ _ | refine ia_ ?_ | refine ga_ ?_ _)); exact BK145.out⟩, ⟨by (with_reducible repeat (first | refine ha_ ?_ _ | refine ia_ ?_ | refine ga_ ?_ _)); exact BK146.out⟩, ⟨by (with_reducible repeat (first | refine ha_ ?_ _ | refine ia_ ?_ | refine ga_ ?_ _)); exact BK149.out⟩, ⟨by repeat (first | (with_reducible first | exact HB.out | apply ba_ | apply aa_ | apply da_ | refine ja_ ?_ GE145.out | refine ja_ ?_ GE146.out | refine ja_ ?_ GE149.out) | exact HB.out)⟩⟩
     rw [if_neg c33] at H
     have c33b0 : decide (x7_1 < (rd y151 t150)) = false := decide_eq_false c33
     clear c33
     have H' := Aside0.mk H
     clear H
     have hnb38 := NB145_146.out
     have hnc38 := NB146_145.out
     have hnb39 := NB145_149.out
     have hnc39 := NB149_145.out
     have hcz40_0 : wr.cell? ⟨gb145, 0, none⟩ = some (.int .i64 a0_0) := (ca_ BK145.out 0).trans rfl
     have hcz40_1 : wr.cell? ⟨gb145, 1, none⟩ = some (.int .i64 a0_1) := (ca_ BK145.out 1).trans rfl
     have hcz40_2 : wr.cell? ⟨gb145, 2, none⟩ = some (.int .i64 a0_2) := (ca_ BK145.out 2).trans rfl
     have hcz40_3 : wr.cell? ⟨gb145, 3, none⟩ = some (.slice A0_3 l0_3.length c0_3) := (ca_ BK145.out 3).trans rfl
     have hcz40_4 : wr.cell? ⟨gb145, 4, none⟩ = some (.slice A0_4 l0_4.length c0_4) := (ca_ BK145.out 4).trans rfl
     have hfz40_0 := fa_ BK145.out 0
     have hfz40_1 := fa_ BK145.out 1
     have hfz40_2 := fa_ BK145.out 2
     have hfz40_3 := fa_ BK145.out 3
     have hfz40_4 := fa_ BK145.out 4
     go_wp2_with (first | ((with_reducible refine pa_ (f := 25) rfl ?_); refine rb_ (some 35) rfl rfl Tryz.func25 (by kernel_rfl) rfl #[.int .i64 (l0_3.length : Int), .int .i64 3] rfl (by (try simp only [List.map_toArray, List.map_cons, List.map_nil]); first | done | rfl | (simp only [List.length_drop, List.length_take]; rfl)) ?_; (with_reducible refine (l4_within.calls (l0_3.length : Int) 3 t155 _ A28.out).mono ?_); rintro e w' ⟨rfl, ⟨nd, rfl⟩⟩; refine ⟨_, rfl, ?_⟩))
     go_meet
     case rel => exact ⟨_, (false), (by first | rfl | (simp; done) | (simp [*]; done)), H', ⟨by have := HK1.out; first | omega | exact Nat.le_refl _⟩, ⟨by (with_reducible repeat (first | apply Kd.R_alloc | apply Kd.R_drewN | apply Kd.R_drew)); exact HO_150001.out⟩, ⟨by (with_reducible repeat (first | refine ha_ ?_ _ | refine ia_ ?_ | refine ga_ ?_ _)); exact BK145.out⟩, ⟨by (with_reducible repeat (first | refine ha_ ?_ _ | refine ia_ ?_ | refine ga_ ?_ _)); exact BK146.out⟩, ⟨by (with_reducible repeat (first | refine ha_ ?_ _ | refine ia_ ?_ | refine ga_ ?_ _)); exact BK149.out⟩, ⟨by repeat (first | (with_reducible first | exact HB.out | apply ba_ | apply aa_ | apply da_ | refine ja_ ?_ GE145.out | refine ja_ ?_ GE146.out | refine ja_ ?_ GE149.out) | exact HB.out)⟩⟩
    clear HC27
    try clear c1
    try clear p1
    try clear q1
    try clear hx1
    try clear c2
    try clear p2
    try clear c3
    try clear c6
    try clear c6b0
    try clear p6
    try clear c7
    try clear c7b0
    try clear p15
    try clear q15
    try clear hx15
    try clear c16
    try clear c18
    try clear c19
    try clear c21
    try clear c25
    try clear c29
    try clear c29b0
    try clear c30
    try clear c31
    try clear c33
    try clear c33b0
    try clear c35
    try clear c36
    try clear c38
    try clear c39
    try clear hcz20_0
    try clear hcz20_1
    try clear hcz20_2
    try clear hcz20_3
    try clear hcz20_4
    try clear hcz22_0
    try clear hcz22_1
    try clear hcz22_2
    try clear hcz22_3
    try clear hcz22_4
    try clear hcz25_0
    try clear hcz25_1
    try clear hcz25_2
    try clear hcz25_3
    try clear hcz25_4
    try clear hcz32_0
    try clear hcz32_1
    try clear hcz32_2
    try clear hcz32_3
    try clear hcz32_4
    try clear hcz37_0
    try clear hcz37_1
    try clear hcz37_2
    try clear hcz37_3
    try clear hcz37_4
    try clear hcz40_0
    try clear hcz40_1
    try clear hcz40_2
    try clear hcz40_3
    try clear hcz40_4
    try clear hfz20_0
    try clear hfz20_1
    try clear hfz20_2
    try clear hfz20_3
    try clear hfz20_4
    try clear hfz22_0
    try clear hfz22_1
    try clear hfz22_2
    try clear hfz22_3
    try clear hfz22_4
    try clear hfz25_0
    try clear hfz25_1
    try clear hfz25_2
    try clear hfz25_3
    try clear hfz25_4
    try clear hfz32_0
    try clear hfz32_1
    try clear hfz32_2
    try clear hfz32_3
    try clear hfz32_4
    try clear hfz37_0
    try clear hfz37_1
    try clear hfz37_2
    try clear hfz37_3
    try clear hfz37_4
    try clear hfz40_0
    try clear hfz40_1
    try clear hfz40_2
    try clear hfz40_3
    try clear hfz40_4
    try clear hx154_0
    try clear p1
    try clear p15
    try clear p154
    try clear p2
    try clear q1
    try clear q15
    try clear q154
    obtain ⟨kq, x49_26, rfl, HA, HJ26, HO_150001, BK145, BK146, BK149, HB⟩ := hcut
    cases kq with
    | zero => exact absurd HA.out (by simp [l4_Raw_Make.j1])
    | succ kj26 =>
     have H := HA.out
     clear HA
     simp only [l4_Raw_Make.j1] at H
     by_cases c41 : x49_26 = true
     ·subst c41
      have H1 : (if x7_1 < (l0_3.length : Int) then (if 0 ≤ x7_1 then (l4_Raw_Make.j2 kj26 a1 (rd y151 t150) x7_1 (rd l0_3 x7_1) a0_0 a0_1 a0_2 l0_3 l0_4 t147 x150001_1 t150 t148) else (none)) else (l4_Raw_Make.j2 kj26 a1 (rd y151 t150) x7_1 x7_1 a0_0 a0_1 a0_2 l0_3 l0_4 t147 x150001_1 t150 t148)) = some (r1, r2, r3, r4, r5) := by rw [if_pos rfl] at H; exact H
      clear H
      have H := H1
      clear H1
      have HC42 := Aside0.mk H
      clear H
      have hnb43 := NB145_146.out
      have hnc43 := NB146_145.out
      have hnb44 := NB145_149.out
      have hnc44 := NB149_145.out
      have hcz45_0 : wc.cell? ⟨gb145, 0, none⟩ = some (.int .i64 a0_0) := (ca_ BK145.out 0).trans rfl
      have hcz45_1 : wc.cell? ⟨gb145, 1, none⟩ = some (.int .i64 a0_1) := (ca_ BK145.out 1).trans rfl
      have hcz45_2 : wc.cell? ⟨gb145, 2, none⟩ = some (.int .i64 a0_2) := (ca_ BK145.out 2).trans rfl
      have hcz45_3 : wc.cell? ⟨gb145, 3, none⟩ = some (.slice A0_3 l0_3.length c0_3) := (ca_ BK145.out 3).trans rfl
      have hcz45_4 : wc.cell? ⟨gb145, 4, none⟩ = some (.slice A0_4 l0_4.length c0_4) := (ca_ BK145.out 4).trans rfl
      have hfz45_0 := fa_ BK145.out 0
      have hfz45_1 := fa_ BK145.out 1
      have hfz45_2 := fa_ BK145.out 2
      have hfz45_3 := fa_ BK145.out 3
      have hfz45_4 := fa_ BK145.out 4
      go_upto_if 57 with (fail)
      go_cut [8] (fun v8 wc => ∃ (kq : Nat) (x8_41 : Int), v8 = .int .i64 x8_41 ∧ Aside0 (l4_Raw_Make.j2 kq a1 (rd y151 t150) x7_1 x8_41 a0_0 a0_1 a0_2 l0_3 l0_4 t147 x150001_1 t150 t148 = some (r1, r2, r3, r4, r5)) ∧ Aside0 (kq ≤ kj26) ∧ Aside0 (Kd.R (Kd.int .i64) 3 wc w.heap.size (fun _ => True) u150001 x150001_1) ∧ Aside0 (wc.heap[gb145]? = some (.cells #[.int .i64 a0_0, .int .i64 a0_1, .int .i64 a0_2, (.slice A0_3 l0_3.length c0_3), (.slice A0_4 l0_4.length c0_4)] 50 (0, 0))) ∧ Aside0 (wc.heap[gb146]? = some (.cells #[.int .i64 0, (.slice none 0 0), .int .i64 0, (.slice none 0 0), .int .i64 0] 48 (0, 0))) ∧ Aside0 (wc.heap[gb149]? = some (.cells #[.int .i64 t147, u150001, .int .i64 t150, (.slice none 0 0), .int .i64 t148] 48 (0, 0))) ∧ Aside0 (Below w.heap.size w wc))
      case first =>
       have H := HC42.out
       clear HC42
       by_cases c46 : x7_1 < (l0_3.length : Int)
       ·rw [if_pos c46] at H
        have c46b0 : decide (x7_1 < (l0_3.length : Int)) = true := decide_eq_true c46
        clear c46
        (first | rw [c46b0] | (simp only [ka_, la_]; rw [c46b0]) | skip)
        by_cases c47 : 0 ≤ x7_1
        ·rw [if_pos c47] at H
         have c47b0 : decide (0 ≤ x7_1) = true := decide_eq_true c47
         clear c47
         have H' := Aside0.mk H
         clear H
         have hnb48 := NB145_146.out
         have hnc48 := NB146_145.out
         have hnb49 := NB145_149.out
         have hnc49 := NB149_145.out
         have hcz50_0 : wc.cell? ⟨gb145, 0, none⟩ = some (.int .i64 a0_0) := (ca_ BK145.out 0).trans rfl
         have hcz50_1 : wc.cell? ⟨gb145, 1, none⟩ = some (.int .i64 a0_1) := (ca_ BK145.out 1).trans rfl
         have hcz50_2 : wc.cell? ⟨gb145, 2, none⟩ = some (.int .i64 a0_2) := (ca_ BK145.out 2).trans rfl
         have hcz50_3 : wc.cell? ⟨gb145, 3, none⟩ = some (.slice A0_3 l0_3.length c0_3) := (ca_ BK145.out 3).trans rfl
         have hcz50_4 : wc.cell? ⟨gb145, 4, none⟩ = some (.slice A0_4 l0_4.length c0_4) := (ca_ BK145.out 4).trans rfl
         have hfz50_0 := fa_ BK145.out 0
         have hfz50_1 := fa_ BK145.out 1
         have hfz50_2 := fa_ BK145.out 2
         have hfz50_3 := fa_ BK145.out 3
         have hfz50_4 := fa_ BK145.out 4
         have p157 : 0 ≤ (x7_1 : Int) := of_decide_eq_true (by first | (with_reducible assumption) | assumption)
         have q157 : x7_1 < (l0_3.length : Int) := of_decide_eq_true (by first | (with_reducible assumption) | assumption)
         obtain ⟨ad157, e157, hx157_0⟩ := Kd.at_int HR0_3.out x7_1 p157 q157
         cases e157
         replace hx157_0 := (HB.out.cell (World.block_lt_of_cell? w _ hx157_0)).trans hx157_0
         replace p157 := eq_true p157
         replace q157 := eq_true q157
         go_wp2
         go_meet
         case rel => exact ⟨_, (rd l0_3 x7_1), (by first | rfl | (simp; done) | (simp [*]; done)), H', ⟨by have := HK1.out; have := HJ26.out; first | omega | exact Nat.le_refl _⟩, ⟨by (with_reducible repeat (first | apply Kd.R_alloc | apply Kd.R_drewN | apply Kd.R_drew)); exact HO_150001.out⟩, ⟨by (with_reducible repeat (first | refine ha_ ?_ _ | refine ia_ ?_ | refine ga_ ?_ _)); exact BK145.out⟩, ⟨by (with_reducible repeat (first | refine ha_ ?_ _ | refine ia_ ?_ | refine ga_ ?_ _)); exact BK146.out⟩, ⟨by (with_reducible repeat (first | refine ha_ ?_ _ | refine ia_ ?_ | refine ga_ ?_ _)); exact BK149.out⟩, ⟨by repeat (first | (with_reducible first | exact HB.out | apply ba_ | apply aa_ | apply da_ | refine ja_ ?_ GE145.out | refine ja_ ?_ GE146.out | refine ja_ ?_ GE149.out) | exact HB.out)⟩⟩
        rw [if_neg c47] at H
        exact absurd H (by simp)
       rw [if_neg c46] at H
       have c46b0 : decide (x7_1 < (l0_3.length : Int)) = false := decide_eq_false c46
       clear c46
       (first | rw [c46b0] | (simp only [ka_, la_]; rw [c46b0]) | skip)
       have H' := Aside0.mk H
       clear H
       go_wp2
       go_meet
       case rel => exact ⟨_, (x7_1), (by first | rfl | (simp; done) | (simp [*]; done)), H', ⟨by have := HK1.out; have := HJ26.out; first | omega | exact Nat.le_refl _⟩, ⟨by (with_reducible repeat (first | apply Kd.R_alloc | apply Kd.R_drewN | apply Kd.R_drew)); exact HO_150001.out⟩, ⟨by (with_reducible repeat (first | refine ha_ ?_ _ | refine ia_ ?_ | refine ga_ ?_ _)); exact BK145.out⟩, ⟨by (with_reducible repeat (first | refine ha_ ?_ _ | refine ia_ ?_ | refine ga_ ?_ _)); exact BK146.out⟩, ⟨by (with_reducible repeat (first | refine ha_ ?_ _ | refine ia_ ?_ | refine ga_ ?_ _)); exact BK149.out⟩, ⟨by repeat (first | (with_reducible first | exact HB.out | apply ba_ | apply aa_ | apply da_ | refine ja_ ?_ GE145.out | refine ja_ ?_ GE146.out | refine ja_ ?_ GE149.out) | exact HB.out)⟩⟩
      clear HC42
      try clear c1
      try clear p1
      try clear q1
      try clear hx1
      try clear c2
      try clear p2
      try clear c3
      try clear c4
      try clear c6
      try clear c6b0
      try clear p6
      try clear c7
      try clear c7b0
      try clear p15
      try clear q15
      try clear hx15
      try clear c16
      try clear c18
      try clear c19
      try clear c21
      try clear c25
      try clear c29
      try clear c29b0
      try clear c30
      try clear c31
      try clear c33
      try clear c33b0
      try clear c35
      try clear c36
      try clear c38
      try clear c39
      try clear c41
      try clear c43
      try clear c44
      try clear c46
      try clear c46b0
      try clear c47
      try clear c47b0
      try clear c48
      try clear c49
      try clear hcz20_0
      try clear hcz20_1
      try clear hcz20_2
      try clear hcz20_3
      try clear hcz20_4
      try clear hcz22_0
      try clear hcz22_1
      try clear hcz22_2
      try clear hcz22_3
      try clear hcz22_4
      try clear hcz25_0
      try clear hcz25_1
      try clear hcz25_2
      try clear hcz25_3
      try clear hcz25_4
      try clear hcz32_0
      try clear hcz32_1
      try clear hcz32_2
      try clear hcz32_3
      try clear hcz32_4
      try clear hcz37_0
      try clear hcz37_1
      try clear hcz37_2
      try clear hcz37_3
      try clear hcz37_4
      try clear hcz40_0
      try clear hcz40_1
      try clear hcz40_2
      try clear hcz40_3
      try clear hcz40_4
      try clear hcz45_0
      try clear hcz45_1
      try clear hcz45_2
      try clear hcz45_3
      try clear hcz45_4
      try clear hcz50_0
      try clear hcz50_1
      try clear hcz50_2
      try clear hcz50_3
      try clear hcz50_4
      try clear hfz20_0
      try clear hfz20_1
      try clear hfz20_2
      try clear hfz20_3
      try clear hfz20_4
      try clear hfz22_0
      try clear hfz22_1
      try clear hfz22_2
      try clear hfz22_3
      try clear hfz22_4
      try clear hfz25_0
      try clear hfz25_1
      try clear hfz25_2
      try clear hfz25_3
      try clear hfz25_4
      try clear hfz32_0
      try clear hfz32_1
      try clear hfz32_2
      try clear hfz32_3
      try clear hfz32_4
      try clear hfz37_0
      try clear hfz37_1
      try clear hfz37_2
      try clear hfz37_3
      try clear hfz37_4
      try clear hfz40_0
      try clear hfz40_1
      try clear hfz40_2
      try clear hfz40_3
      try clear hfz40_4
      try clear hfz45_0
      try clear hfz45_1
      try clear hfz45_2
      try clear hfz45_3
      try clear hfz45_4
      try clear hfz50_0
      try clear hfz50_1
      try clear hfz50_2
      try clear hfz50_3
      try clear hfz50_4
      try clear hx154_0
      try clear hx157_0
      try clear p1
      try clear p15
      try clear p154
      try clear p157
      try clear p2
      try clear p6
      try clear q1
      try clear q15
      try clear q154
      try clear q157
      obtain ⟨kq, x8_41, rfl, HA, HJ41, HO_150001, BK145, BK146, BK149, HB⟩ := hcut
      cases kq with
      | zero => exact absurd HA.out (by simp [l4_Raw_Make.j2])
      | succ kj41 =>
       have H := HA.out
       clear HA
       simp only [l4_Raw_Make.j2] at H
       replace H := Option.bind_eq_some_iff.mp H
       obtain ⟨t158, A510, H⟩ := H
       replace H : ((l4_within.f (wrap64 (Int.tdiv x8_41 20)) 2).bind fun t159 => (if t159 = 0 then ((some (([0, 0, 0, 1, 2, 3, 50, 51, 52, 53, 54] : List Int) : List Int)).bind fun y160 => ((l4_within.f (wrap64 (Int.tdiv x8_41 40)) 11).bind fun t163 => (if 0 ≤ t163 then (if t163 < (y160.length : Int) then (if x150001_1.length < 17592186044416 then (l4_Raw_Make.l0 kj41 a1 (rd y151 t150) (wrap64 (x7_1 + 1)) a0_0 a0_1 a0_2 l0_3 l0_4 t147 (x150001_1 ++ [wrap64 ((-1) - (rd y160 t163))]) t150 t148) else (none)) else (none)) else (none)))) else (if x150001_1.length < 17592186044416 then (l4_Raw_Make.l0 kj41 a1 (rd y151 t150) (wrap64 (x7_1 + 1)) a0_0 a0_1 a0_2 l0_3 l0_4 t147 (x150001_1 ++ [t158]) t150 t148) else (none)))) = some (r1, r2, r3, r4, r5) := H
       have A51 := Aside0.mk A510
       clear A510
       replace H := Option.bind_eq_some_iff.mp H
       obtain ⟨t159, A520, H⟩ := H
       replace H : (if t159 = 0 then ((some (([0, 0, 0, 1, 2, 3, 50, 51, 52, 53, 54] : List Int) : List Int)).bind fun y160 => ((l4_within.f (wrap64 (Int.tdiv x8_41 40)) 11).bind fun t163 => (if 0 ≤ t163 then (if t163 < (y160.length : Int) then (if x150001_1.length < 17592186044416 then (l4_Raw_Make.l0 kj41 a1 (rd y151 t150) (wrap64 (x7_1 + 1)) a0_0 a0_1 a0_2 l0_3 l0_4 t147 (x150001_1 ++ [wrap64 ((-1) - (rd y160 t163))]) t150 t148) else (none)) else (none)) else (none)))) else (if x150001_1.length < 17592186044416 then (l4_Raw_Make.l0 kj41 a1 (rd y151 t150) (wrap64 (x7_1 + 1)) a0_0 a0_1 a0_2 l0_3 l0_4 t147 (x150001_1 ++ [t158]) t150 t148) else (none))) = some (r1, r2, r3, r4, r5) := H
       have A52 := Aside0.mk A520
       clear A520
       by_cases c53 : t159 = 0
       ·rw [if_pos c53] at H
        have c53b0 : (t159 == 0) = true := beq_iff_eq.mpr c53
        have c53b1 : (t159 != 0) = false := bne_eq_false_iff_eq.mpr c53
        clear c53
        obtain ⟨y160, hy160⟩ : ∃ y_ : List Int, y_ = (([0, 0, 0, 1, 2, 3, 50, 51, 52, 53, 54] : List Int)) := ⟨_, rfl⟩
        replace H : ((l4_within.f (wrap64 (Int.tdiv x8_41 40)) 11).bind fun t163 => (if 0 ≤ t163 then (if t163 < (y160.length : Int) then (if x150001_1.length < 17592186044416 then (l4_Raw_Make.l0 kj41 a1 (rd y151 t150) (wrap64 (x7_1 + 1)) a0_0 a0_1 a0_2 l0_3 l0_4 t147 (x150001_1 ++ [wrap64 ((-1) - (rd y160 t163))]) t150 t148) else (none)) else (none)) else (none))) = some (r1, r2, r3, r4, r5) := by first | (rw [hy160]; with_reducible exact H) | (have H2_ := (Option.bind_some _ _).symm.trans H; rw [hy160]; with_reducible exact H2_) | (have H2_ := (Option.bind_some _ _).symm.trans H; with_reducible exact H2_) | with_reducible exact H | (rw [hy160]; exact H) | exact H
        have Ny160 := Aside0.mk hy160
        clear hy160
        replace H := Option.bind_eq_some_iff.mp H
        obtain ⟨t163, A540, H⟩ := H
        replace H : (if 0 ≤ t163 then (if t163 < (y160.length : Int) then (if x150001_1.length < 17592186044416 then (l4_Raw_Make.l0 kj41 a1 (rd y151 t150) (wrap64 (x7_1 + 1)) a0_0 a0_1 a0_2 l0_3 l0_4 t147 (x150001_1 ++ [wrap64 ((-1) - (rd y160 t163))]) t150 t148) else (none)) else (none)) else (none)) = some (r1, r2, r3, r4, r5) := H
        have A54 := Aside0.mk A540
        clear A540
        by_cases c55 : 0 ≤ t163
        ·rw [if_pos c55] at H
         have c55b0 : decide (0 ≤ t163) = true := decide_eq_true c55
         clear c55
         by_cases c56 : t163 < (y160.length : Int)
         ·rw [if_pos c56] at H
          have c56b0 : decide (t163 < (y160.length : Int)) = true := decide_eq_true c56
          clear c56
          by_cases c57 : x150001_1.length < 17592186044416
          ·rw [if_pos c57] at H
           have LMc57 := Aside0.mk c57
           clear c57
           obtain ⟨y165, hy165⟩ : ∃ y_ : List Int, y_ = (x150001_1 ++ [wrap64 ((-1) - (rd y160 t163))]) := ⟨_, rfl⟩
           replace H : (l4_Raw_Make.l0 kj41 a1 (rd y151 t150) (wrap64 (x7_1 + 1)) a0_0 a0_1 a0_2 l0_3 l0_4 t147 y165 t150 t148) = some (r1, r2, r3, r4, r5) := by first | (rw [hy165]; with_reducible exact H) | (have H2_ := (Option.bind_some _ _).symm.trans H; rw [hy165]; with_reducible exact H2_) | (have H2_ := (Option.bind_some _ _).symm.trans H; with_reducible exact H2_) | with_reducible exact H | (rw [hy165]; exact H) | exact H
           have Ny165 := Aside0.mk hy165
           clear hy165
           have H' := Aside0.mk H
           clear H
           go_wp2_with (first | ((with_reducible refine pa_ (f := 25) rfl ?_); refine rb_ (some 65) rfl rfl Tryz.func25 (by kernel_rfl) rfl #[.int .i64 x8_41, .int .i64 a1] rfl (by (try simp only [List.map_toArray, List.map_cons, List.map_nil]); first | done | rfl | (simp only [List.length_drop, List.length_take]; rfl)) ?_; (with_reducible refine (l4_within.calls x8_41 a1 t158 _ A51.out).mono ?_); rintro e w' ⟨rfl, ⟨nd, rfl⟩⟩; refine ⟨_, rfl, ?_⟩; (try (rw [nf_ wc]; generalize hq_ : World.drewN wc _ = wc; have n0_ : Aside0 (Kd.R (Kd.int .i64) 3 wc w.heap.size (fun _ => True) u150001 x150001_1) := ⟨by rw [← hq_]; exact (by (with_reducible repeat (first | apply Kd.R_alloc | apply Kd.R_drewN | apply Kd.R_drew)); exact HO_150001.out)⟩; have n1_ : Aside0 (wc.heap[gb145]? = some (.cells #[.int .i64 a0_0, .int .i64 a0_1, .int .i64 a0_2, .slice A0_3 l0_3.length c0_3, .slice A0_4 l0_4.length c0_4] 50 (0, 0))) := ⟨by rw [← hq_]; exact (by (with_reducible repeat (first | refine ha_ ?_ _ | refine ia_ ?_ | refine ga_ ?_ _)); exact BK145.out)⟩; have n2_ : Aside0 (wc.heap[gb146]? = some (.cells #[.int .i64 0, .slice none 0 0, .int .i64 0, .slice none 0 0, .int .i64 0] 48 (0, 0))) := ⟨by rw [← hq_]; exact (by (with_reducible repeat (first | refine ha_ ?_ _ | refine ia_ ?_ | refine ga_ ?_ _)); exact BK146.out)⟩; have n3_ : Aside0 (wc.heap[gb149]? = some (.cells #[.int .i64 t147, u150001, .int .i64 t150, .slice none 0 0, .int .i64 t148] 48 (0, 0))) := ⟨by rw [← hq_]; exact (by (with_reducible repeat (first | refine ha_ ?_ _ | refine ia_ ?_ | refine ga_ ?_ _)); exact BK149.out)⟩; have n4_ : Aside0 (Below w.heap.size w wc) := ⟨by rw [← hq_]; exact (by repeat (first | (with_reducible first | exact HB.out | apply ba_ | apply aa_ | apply da_ | refine ja_ ?_ GE145.out | refine ja_ ?_ GE146.out | refine ja_ ?_ GE149.out) | exact HB.out))⟩; clear HO_150001 BK145 BK146 BK149 HB hq_; have HO_150001 := n0_; have BK145 := n1_; have BK146 := n2_; have BK149 := n3_; have HB := n4_; clear n0_ n1_ n2_ n3_ n4_))) | ((with_reducible refine pa_ (f := 25) rfl ?_); refine rb_ (some 68) rfl rfl Tryz.func25 (by kernel_rfl) rfl #[.int .i64 (wrap64 (Int.tdiv x8_41 20)), .int .i64 2] rfl (by (try simp only [List.map_toArray, List.map_cons, List.map_nil]); first | done | rfl | (simp only [List.length_drop, List.length_take]; rfl)) ?_; (with_reducible refine (l4_within.calls (wrap64 (Int.tdiv x8_41 20)) 2 t159 _ A52.out).mono ?_); rintro e w' ⟨rfl, ⟨nd, rfl⟩⟩; refine ⟨_, rfl, ?_⟩; (try (rw [nf_ wc]; generalize hq_ : World.drewN wc _ = wc; have n0_ : Aside0 (Kd.R (Kd.int .i64) 3 wc w.heap.size (fun _ => True) u150001 x150001_1) := ⟨by rw [← hq_]; exact (by (with_reducible repeat (first | apply Kd.R_alloc | apply Kd.R_drewN | apply Kd.R_drew)); exact HO_150001.out)⟩; have n1_ : Aside0 (wc.heap[gb145]? = some (.cells #[.int .i64 a0_0, .int .i64 a0_1, .int .i64 a0_2, .slice A0_3 l0_3.length c0_3, .slice A0_4 l0_4.length c0_4] 50 (0, 0))) := ⟨by rw [← hq_]; exact (by (with_reducible repeat (first | refine ha_ ?_ _ | refine ia_ ?_ | refine ga_ ?_ _)); exact BK145.out)⟩; have n2_ : Aside0 (wc.heap[gb146]? = some (.cells #[.int .i64 0, .slice none 0 0, .int .i64 0, .slice none 0 0, .int .i64 0] 48 (0, 0))) := ⟨by rw [← hq_]; exact (by (with_reducible repeat (first | refine ha_ ?_ _ | refine ia_ ?_ | refine ga_ ?_ _)); exact BK146.out)⟩; have n3_ : Aside0 (wc.heap[gb149]? = some (.cells #[.int .i64 t147, u150001, .int .i64 t150, .slice none 0 0, .int .i64 t148] 48 (0, 0))) := ⟨by rw [← hq_]; exact (by (with_reducible repeat (first | refine ha_ ?_ _ | refine ia_ ?_ | refine ga_ ?_ _)); exact BK149.out)⟩; have n4_ : Aside0 (Below w.heap.size w wc) := ⟨by rw [← hq_]; exact (by repeat (first | (with_reducible first | exact HB.out | apply ba_ | apply aa_ | apply da_ | refine ja_ ?_ GE145.out | refine ja_ ?_ GE146.out | refine ja_ ?_ GE149.out) | exact HB.out))⟩; clear HO_150001 BK145 BK146 BK149 HB hq_; have HO_150001 := n0_; have BK145 := n1_; have BK146 := n2_; have BK149 := n3_; have HB := n4_; clear n0_ n1_ n2_ n3_ n4_))) | ((with_reducible refine pb_ (N := 70) rfl ?_); refine Kd.R_lit (Kd.int .i64) _ 3 ?hg (N := 70) ?hd (xs := ([0, 0, 0, 1, 2, 3, 50, 51, 52, 53, 54] : List Int)) (inner := [.int .i64 0, .int .i64 0, .int .i64 0, .int .i64 1, .int .i64 2, .int .i64 3, .int .i64 50, .int .i64 51, .int .i64 52, .int .i64 53, .int .i64 54]) (ok := fun _ => True) (okp := fun _ => True) ?hr ?hp (fun _ hk => hk) trivial (Below.refl _ _) (Nat.le_refl _) (by simp) ?_; (case hd => rfl); (case hg => rfl); (case hr => first | (go_simp; done) | (go_simp; rfl)); (case hp => exact (Reps.one (show Kd.M (Kd.int .i64) _ _ _ 0 [.int .i64 0] from rfl) (Reps.one (show Kd.M (Kd.int .i64) _ _ _ 0 [.int .i64 0] from rfl) (Reps.one (show Kd.M (Kd.int .i64) _ _ _ 0 [.int .i64 0] from rfl) (Reps.one (show Kd.M (Kd.int .i64) _ _ _ 1 [.int .i64 1] from rfl) (Reps.one (show Kd.M (Kd.int .i64) _ _ _ 2 [.int .i64 2] from rfl) (Reps.one (show Kd.M (Kd.int .i64) _ _ _ 3 [.int .i64 3] from rfl) (Reps.one (show Kd.M (Kd.int .i64) _ _ _ 50 [.int .i64 50] from rfl) (Reps.one (show Kd.M (Kd.int .i64) _ _ _ 51 [.int .i64 51] from rfl) (Reps.one (show Kd.M (Kd.int .i64) _ _ _ 52 [.int .i64 52] from rfl) (Reps.one (show Kd.M (Kd.int .i64) _ _ _ 53 [.int .i64 53] from rfl) (Reps.one (show Kd.M (Kd.int .i64) _ _ _ 54 [.int .i64 54] from rfl) (Reps.none _ _))))))))))))); intro v161 w58 ho59 hb hg_ hnew_; clear hg_ hnew_; (first | rw [← Ny160.out] at ho59 | (simp only [Int.reduceToNat] at ho59; rw [← Ny160.out] at ho59)); have n0_ := Aside0.mk (Kd.R_elder' (by (with_reducible repeat (first | apply Kd.R_alloc | apply Kd.R_drewN | apply Kd.R_drew)); exact HO_150001.out) (Kd.R_base ho59) hb); have n1_ := Aside0.mk (Kd.R_lower (Kd.R_new' ho59 (Kd.R_lt (by (with_reducible repeat (first | apply Kd.R_alloc | apply Kd.R_drewN | apply Kd.R_drew)); exact HO_150001.out))) (na_ (by repeat (first | (with_reducible first | exact HB.out | apply ba_ | apply aa_ | apply da_ | refine ja_ ?_ GE145.out | refine ja_ ?_ GE146.out | refine ja_ ?_ GE149.out) | exact HB.out)))); have n2_ := Aside0.mk (ya_ (g := gb145) (o := .cells #[.int .i64 a0_0, .int .i64 a0_1, .int .i64 a0_2, .slice A0_3 l0_3.length c0_3, .slice A0_4 l0_4.length c0_4] 50 (0, 0)) (by (with_reducible repeat (first | refine ha_ ?_ _ | refine ia_ ?_ | refine ga_ ?_ _)); exact BK145.out) hb); have n3_ := Aside0.mk (ya_ (g := gb146) (o := .cells #[.int .i64 0, .slice none 0 0, .int .i64 0, .slice none 0 0, .int .i64 0] 48 (0, 0)) (by (with_reducible repeat (first | refine ha_ ?_ _ | refine ia_ ?_ | refine ga_ ?_ _)); exact BK146.out) hb); have n4_ := Aside0.mk (ya_ (g := gb149) (o := .cells #[.int .i64 t147, u150001, .int .i64 t150, .slice none 0 0, .int .i64 t148] 48 (0, 0)) (by (with_reducible repeat (first | refine ha_ ?_ _ | refine ia_ ?_ | refine ga_ ?_ _)); exact BK149.out) hb); have n5_ := Aside0.mk (ma_ (by repeat (first | (with_reducible first | exact HB.out | apply ba_ | apply aa_ | apply da_ | refine ja_ ?_ GE145.out | refine ja_ ?_ GE146.out | refine ja_ ?_ GE149.out) | exact HB.out)) hb); clear HO_150001; clear BK145; clear BK146; clear BK149; clear HB; have HO_150001 := n0_; have HO162 := n1_; have BK145 := n2_; have BK146 := n3_; have BK149 := n4_; have HB := n5_; clear n0_ n1_ n2_ n3_ n4_ n5_; clear hb ho59) | ((with_reducible refine pa_ (f := 25) rfl ?_); refine rb_ (some 73) rfl rfl Tryz.func25 (by kernel_rfl) rfl #[.int .i64 (wrap64 (Int.tdiv x8_41 40)), .int .i64 11] rfl (by (try simp only [List.map_toArray, List.map_cons, List.map_nil]); first | done | rfl | (simp only [List.length_drop, List.length_take]; rfl)) ?_; (with_reducible refine (l4_within.calls (wrap64 (Int.tdiv x8_41 40)) 11 t163 _ A54.out).mono ?_); rintro e w' ⟨rfl, ⟨nd, rfl⟩⟩; refine ⟨_, rfl, ?_⟩; (try (rw [nf_ w58]; generalize hq_ : World.drewN w58 _ = w58; have n0_ : Aside0 (Kd.R (Kd.int .i64) 3 w58 w.heap.size (fun k_ => (True ∧ some k_ ≠ (u150001 : Value).ownBlock)) v161 y160) := ⟨by rw [← hq_]; exact (by (with_reducible repeat (first | apply Kd.R_alloc | apply Kd.R_drewN | apply Kd.R_drew)); exact HO162.out)⟩; have n1_ : Aside0 (Kd.R (Kd.int .i64) 3 w58 w.heap.size (fun k_ => (True ∧ some k_ ≠ (v161 : Value).ownBlock)) u150001 x150001_1) := ⟨by rw [← hq_]; exact (by (with_reducible repeat (first | apply Kd.R_alloc | apply Kd.R_drewN | apply Kd.R_drew)); exact HO_150001.out)⟩; have n2_ : Aside0 (w58.heap[gb145]? = some (.cells #[.int .i64 a0_0, .int .i64 a0_1, .int .i64 a0_2, .slice A0_3 l0_3.length c0_3, .slice A0_4 l0_4.length c0_4] 50 (0, 0))) := ⟨by rw [← hq_]; exact (by (with_reducible repeat (first | refine ha_ ?_ _ | refine ia_ ?_ | refine ga_ ?_ _)); exact BK145.out)⟩; have n3_ : Aside0 (w58.heap[gb146]? = some (.cells #[.int .i64 0, .slice none 0 0, .int .i64 0, .slice none 0 0, .int .i64 0] 48 (0, 0))) := ⟨by rw [← hq_]; exact (by (with_reducible repeat (first | refine ha_ ?_ _ | refine ia_ ?_ | refine ga_ ?_ _)); exact BK146.out)⟩; have n4_ : Aside0 (w58.heap[gb149]? = some (.cells #[.int .i64 t147, u150001, .int .i64 t150, .slice none 0 0, .int .i64 t148] 48 (0, 0))) := ⟨by rw [← hq_]; exact (by (with_reducible repeat (first | refine ha_ ?_ _ | refine ia_ ?_ | refine ga_ ?_ _)); exact BK149.out)⟩; have n5_ : Aside0 (Below w.heap.size w w58) := ⟨by rw [← hq_]; exact (by repeat (first | (with_reducible first | exact HB.out | apply ba_ | apply aa_ | apply da_ | refine ja_ ?_ GE145.out | refine ja_ ?_ GE146.out | refine ja_ ?_ GE149.out) | exact HB.out))⟩; clear HO162 HO_150001 BK145 BK146 BK149 HB hq_; have HO162 := n0_; have HO_150001 := n1_; have BK145 := n2_; have BK146 := n3_; have BK149 := n4_; have HB := n5_; clear n0_ n1_ n2_ n3_ n4_ n5_)); obtain ⟨Ao60, co60, eo60⟩ := Kd.R_slice HO162.out; subst eo60; have p164 : 0 ≤ (t163 : Int) := of_decide_eq_true (by first | (with_reducible assumption) | assumption); have q164 : t163 < (y160.length : Int) := of_decide_eq_true (by first | (with_reducible assumption) | assumption); obtain ⟨ad164, e164, hx164_0⟩ := Kd.at_int (Kd.R_reads' HO162.out).2.2 t163 p164 q164; cases e164; replace p164 := eq_true p164; replace q164 := eq_true q164; have hnb61 := NB149_145.out; have hnc61 := NB145_149.out; have hnb62 := NB149_146.out; have hnc62 := NB146_149.out; have hcz63_0 : w58.cell? ⟨gb149, 0, none⟩ = some (.int .i64 t147) := (ca_ BK149.out 0).trans rfl; have hcz63_1 : w58.cell? ⟨gb149, 1, none⟩ = some (u150001) := (ca_ BK149.out 1).trans rfl; have hcz63_2 : w58.cell? ⟨gb149, 2, none⟩ = some (.int .i64 t150) := (ca_ BK149.out 2).trans rfl; have hcz63_3 : w58.cell? ⟨gb149, 3, none⟩ = some (.slice none 0 0) := (ca_ BK149.out 3).trans rfl; have hcz63_4 : w58.cell? ⟨gb149, 4, none⟩ = some (.int .i64 t148) := (ca_ BK149.out 4).trans rfl; have hfz63_0 := fa_ BK149.out 0; have hfz63_1 := fa_ BK149.out 1; have hfz63_2 := fa_ BK149.out 2; have hfz63_3 := fa_ BK149.out 3; have hfz63_4 := fa_ BK149.out 4) | ((with_reducible refine tg_ (b := .append) (xs := #[.tmp 78, .tmp 80]) rfl ?_); at_builtin; refine Kd.R_append (Kd.int .i64) (w0 := w) w.heap.size rfl (.tmp 78) (.tmp 80) 23 3 (.int .i64 0) 8 rfl Tryz.underlying23 ae_ rfl (by decide) (by omega) u150001 x150001_1 (wrap64 ((-1) - (rd y160 t163))) [.int .i64 (wrap64 ((-1) - (rd y160 t163)))] (fun k_ => some k_ ≠ (.slice (some ad164) y160.length co60 : Value).ownBlock) (fun _ => False) rfl rfl ?aP (fun _ hk => hk.elim) ?aF ?aO ?aB ?aS ?aL ?_; (case aP => exact rfl); (case aB => exact (by repeat (first | (with_reducible first | exact HB.out | apply ba_ | apply aa_ | apply da_ | refine ja_ ?_ GE145.out | refine ja_ ?_ GE146.out | refine ja_ ?_ GE149.out) | exact HB.out))); (case aF => exact (fun k_ hk => Kd.fresh' (Kd.R_lt (by (with_reducible repeat (first | apply Kd.R_alloc | apply Kd.R_drewN | apply Kd.R_drew)); exact HO162.out)) k_ hk)); (case aO => exact (by (with_reducible repeat (first | apply Kd.R_alloc | apply Kd.R_drewN | apply Kd.R_drew)); (first | exact Kd.R_mono HO_150001.out (fun _ hk => hk.2) | exact HO_150001.out))); (case aS => exact (na_ (by repeat (first | (with_reducible first | exact HB.out | apply ba_ | apply aa_ | apply da_ | refine ja_ ?_ GE145.out | refine ja_ ?_ GE146.out | refine ja_ ?_ GE149.out) | exact HB.out)))); (case aL => have := LMc57.out; omega); intro v166 w64 ho hb hg hat; rw [← Ny165.out] at ho; have n0_ := Aside0.mk (xa_ (g := gb145) (o := .cells #[.int .i64 a0_0, .int .i64 a0_1, .int .i64 a0_2, .slice A0_3 l0_3.length c0_3, .slice A0_4 l0_4.length c0_4] 50 (0, 0)) (by (with_reducible repeat (first | refine ha_ ?_ _ | refine ia_ ?_ | refine ga_ ?_ _)); exact BK145.out) hg (Kd.R_ne HO_150001.out BK145.out (by decide))); have n1_ := Aside0.mk (xa_ (g := gb146) (o := .cells #[.int .i64 0, .slice none 0 0, .int .i64 0, .slice none 0 0, .int .i64 0] 48 (0, 0)) (by (with_reducible repeat (first | refine ha_ ?_ _ | refine ia_ ?_ | refine ga_ ?_ _)); exact BK146.out) hg (Kd.R_ne HO_150001.out BK146.out (by decide))); have n2_ := Aside0.mk (xa_ (g := gb149) (o := .cells #[.int .i64 t147, u150001, .int .i64 t150, .slice none 0 0, .int .i64 t148] 48 (0, 0)) (by (with_reducible repeat (first | refine ha_ ?_ _ | refine ia_ ?_ | refine ga_ ?_ _)); exact BK149.out) hg (Kd.R_ne HO_150001.out BK149.out (by decide))); have n3_ := Aside0.mk (Kd.R_after (ok := (fun _ => True)) (by (with_reducible repeat (first | apply Kd.R_alloc | apply Kd.R_drewN | apply Kd.R_drew)); exact HO162.out) hg hat); have n4_ := Aside0.mk (hb); have n5_ := Aside0.mk (ho); clear BK145; clear BK146; clear BK149; clear HO162; clear HB; clear HO_150001; have BK145 := n0_; have BK146 := n1_; have BK149 := n2_; have HO162 := n3_; have HB := n4_; have HO167 := n5_; clear n0_ n1_ n2_ n3_ n4_ n5_; clear ho hb hg hat; obtain ⟨Ao65, co65, eo65⟩ := Kd.R_slice HO167.out; subst eo65; have hcz66_0 : w64.cell? ⟨gb149, 0, none⟩ = some (.int .i64 t147) := (ca_ BK149.out 0).trans rfl; have hcz66_1 : w64.cell? ⟨gb149, 1, none⟩ = some (u150001) := (ca_ BK149.out 1).trans rfl; have hcz66_2 : w64.cell? ⟨gb149, 2, none⟩ = some (.int .i64 t150) := (ca_ BK149.out 2).trans rfl; have hcz66_3 : w64.cell? ⟨gb149, 3, none⟩ = some (.slice none 0 0) := (ca_ BK149.out 3).trans rfl; have hcz66_4 : w64.cell? ⟨gb149, 4, none⟩ = some (.int .i64 t148) := (ca_ BK149.out 4).trans rfl; have hfz66_0 := fa_ BK149.out 0; have hfz66_1 := fa_ BK149.out 1; have hfz66_2 := fa_ BK149.out 2; have hfz66_3 := fa_ BK149.out 3; have hfz66_4 := fa_ BK149.out 4))
           go_roundg kj41
           case measure => have := HK1.out; have := HJ26.out; have := HJ41.out; omega
           case rel => exact ⟨(wrap64 (x7_1 + 1)), (y165), (.slice Ao65 y165.length co65), (by first | rfl | (simp; done) | (simp [*]; done)), H', ⟨by have := HK1.out; have := HJ26.out; have := HJ41.out; omega⟩, ⟨by (with_reducible repeat (first | apply Kd.R_alloc | apply Kd.R_drewN | apply Kd.R_drew)); exact Kd.R_mono (Kd.R_far (p := ⟨gb149, 1, none⟩) (Kd.R_types HO167.out BK149.out (by decide)) (fun _ hk => hk.2) (.slice Ao65 y165.length co65)) (fun _ hk => trivial)⟩, ⟨by (with_reducible repeat (first | refine ha_ ?_ _ | refine ia_ ?_ | refine ga_ ?_ _)); refine mc_ ?_ NB145_149.out _; (with_reducible repeat (first | refine ha_ ?_ _ | refine ia_ ?_ | refine ga_ ?_ _)); exact BK145.out⟩, ⟨by (with_reducible repeat (first | refine ha_ ?_ _ | refine ia_ ?_ | refine ga_ ?_ _)); refine mc_ ?_ NB146_149.out _; (with_reducible repeat (first | refine ha_ ?_ _ | refine ia_ ?_ | refine ga_ ?_ _)); exact BK146.out⟩, ⟨by (with_reducible repeat (first | refine ha_ ?_ _ | refine ia_ ?_ | refine ga_ ?_ _)); refine wc_ (cs := #[.int .i64 t147, u150001, .int .i64 t150, .slice none 0 0, .int .i64 t148]) ?_ 1 _ rfl; (with_reducible repeat (first | refine ha_ ?_ _ | refine ia_ ?_ | refine ga_ ?_ _)); exact BK149.out⟩, ⟨by repeat (first | (with_reducible first | exact HB.out | apply ba_ | apply aa_ | apply da_ | refine ja_ ?_ GE145.out | refine ja_ ?_ GE146.out | refine ja_ ?_ GE149.out) | exact HB.out)⟩⟩
          rw [if_neg c57] at H
          exact absurd H (by simp)
         rw [if_neg c56] at H
         exact absurd H (by simp)
        rw [if_neg c55] at H
        exact absurd H (by simp)
       rw [if_neg c53] at H
       have c53b0 : (t159 == 0) = false := beq_eq_false_iff_ne.mpr c53
       have c53b1 : (t159 != 0) = true := bne_iff_ne.mpr c53
       by_cases c67 : x150001_1.length < 17592186044416
       ·rw [if_pos c67] at H
        have LMc67 := Aside0.mk c67
        clear c67
        obtain ⟨y168, hy168⟩ : ∃ y_ : List Int, y_ = (x150001_1 ++ [t158]) := ⟨_, rfl⟩
        replace H : (l4_Raw_Make.l0 kj41 a1 (rd y151 t150) (wrap64 (x7_1 + 1)) a0_0 a0_1 a0_2 l0_3 l0_4 t147 y168 t150 t148) = some (r1, r2, r3, r4, r5) := by first | (rw [hy168]; with_reducible exact H) | (have H2_ := (Option.bind_some _ _).symm.trans H; rw [hy168]; with_reducible exact H2_) | (have H2_ := (Option.bind_some _ _).symm.trans H; with_reducible exact H2_) | with_reducible exact H | (rw [hy168]; exact H) | exact H
        have Ny168 := Aside0.mk hy168
        clear hy168
        have H' := Aside0.mk H
        clear H
        go_wp2_with (first | ((with_reducible refine pa_ (f := 25) rfl ?_); refine rb_ (some 65) rfl rfl Tryz.func25 (by kernel_rfl) rfl #[.int .i64 x8_41, .int .i64 a1] rfl (by (try simp only [List.map_toArray, List.map_cons, List.map_nil]); first | done | rfl | (simp only [List.length_drop, List.length_take]; rfl)) ?_; (with_reducible refine (l4_within.calls x8_41 a1 t158 _ A51.out).mono ?_); rintro e w' ⟨rfl, ⟨nd, rfl⟩⟩; refine ⟨_, rfl, ?_⟩; (try (rw [nf_ wc]; generalize hq_ : World.drewN wc _ = wc; have n0_ : Aside0 (Kd.R (Kd.int .i64) 3 wc w.heap.size (fun _ => True) u150001 x150001_1) := ⟨by rw [← hq_]; exact (by (with_reducible repeat (first | apply Kd.R_alloc | apply Kd.R_drewN | apply Kd.R_drew)); exact HO_150001.out)⟩; have n1_ : Aside0 (wc.heap[gb145]? = some (.cells #[.int .i64 a0_0, .int .i64 a0_1, .int .i64 a0_2, .slice A0_3 l0_3.length c0_3, .slice A0_4 l0_4.length c0_4] 50 (0, 0))) := ⟨by rw [← hq_]; exact (by (with_reducible repeat (first | refine ha_ ?_ _ | refine ia_ ?_ | refine ga_ ?_ _)); exact BK145.out)⟩; have n2_ : Aside0 (wc.heap[gb146]? = some (.cells #[.int .i64 0, .slice none 0 0, .int .i64 0, .slice none 0 0, .int .i64 0] 48 (0, 0))) := ⟨by rw [← hq_]; exact (by (with_reducible repeat (first | refine ha_ ?_ _ | refine ia_ ?_ | refine ga_ ?_ _)); exact BK146.out)⟩; have n3_ : Aside0 (wc.heap[gb149]? = some (.cells #[.int .i64 t147, u150001, .int .i64 t150, .slice none 0 0, .int .i64 t148] 48 (0, 0))) := ⟨by rw [← hq_]; exact (by (with_reducible repeat (first | refine ha_ ?_ _ | refine ia_ ?_ | refine ga_ ?_ _)); exact BK149.out)⟩; have n4_ : Aside0 (Below w.heap.size w wc) := ⟨by rw [← hq_]; exact (by repeat (first | (with_reducible first | exact HB.out | apply ba_ | apply aa_ | apply da_ | refine ja_ ?_ GE145.out | refine ja_ ?_ GE146.out | refine ja_ ?_ GE149.out) | exact HB.out))⟩; clear HO_150001 BK145 BK146 BK149 HB hq_; have HO_150001 := n0_; have BK145 := n1_; have BK146 := n2_; have BK149 := n3_; have HB := n4_; clear n0_ n1_ n2_ n3_ n4_))) | ((with_reducible refine pa_ (f := 25) rfl ?_); refine rb_ (some 68) rfl rfl Tryz.func25 (by kernel_rfl) rfl #[.int .i64 (wrap64 (Int.tdiv x8_41 20)), .int .i64 2] rfl (by (try simp only [List.map_toArray, List.map_cons, List.map_nil]); first | done | rfl | (simp only [List.length_drop, List.length_take]; rfl)) ?_; (with_reducible refine (l4_within.calls (wrap64 (Int.tdiv x8_41 20)) 2 t159 _ A52.out).mono ?_); rintro e w' ⟨rfl, ⟨nd, rfl⟩⟩; refine ⟨_, rfl, ?_⟩; (try (rw [nf_ wc]; generalize hq_ : World.drewN wc _ = wc; have n0_ : Aside0 (Kd.R (Kd.int .i64) 3 wc w.heap.size (fun _ => True) u150001 x150001_1) := ⟨by rw [← hq_]; exact (by (with_reducible repeat (first | apply Kd.R_alloc | apply Kd.R_drewN | apply Kd.R_drew)); exact HO_150001.out)⟩; have n1_ : Aside0 (wc.heap[gb145]? = some (.cells #[.int .i64 a0_0, .int .i64 a0_1, .int .i64 a0_2, .slice A0_3 l0_3.length c0_3, .slice A0_4 l0_4.length c0_4] 50 (0, 0))) := ⟨by rw [← hq_]; exact (by (with_reducible repeat (first | refine ha_ ?_ _ | refine ia_ ?_ | refine ga_ ?_ _)); exact BK145.out)⟩; have n2_ : Aside0 (wc.heap[gb146]? = some (.cells #[.int .i64 0, .slice none 0 0, .int .i64 0, .slice none 0 0, .int .i64 0] 48 (0, 0))) := ⟨by rw [← hq_]; exact (by (with_reducible repeat (first | refine ha_ ?_ _ | refine ia_ ?_ | refine ga_ ?_ _)); exact BK146.out)⟩; have n3_ : Aside0 (wc.heap[gb149]? = some (.cells #[.int .i64 t147, u150001, .int .i64 t150, .slice none 0 0, .int .i64 t148] 48 (0, 0))) := ⟨by rw [← hq_]; exact (by (with_reducible repeat (first | refine ha_ ?_ _ | refine ia_ ?_ | refine ga_ ?_ _)); exact BK149.out)⟩; have n4_ : Aside0 (Below w.heap.size w wc) := ⟨by rw [← hq_]; exact (by repeat (first | (with_reducible first | exact HB.out | apply ba_ | apply aa_ | apply da_ | refine ja_ ?_ GE145.out | refine ja_ ?_ GE146.out | refine ja_ ?_ GE149.out) | exact HB.out))⟩; clear HO_150001 BK145 BK146 BK149 HB hq_; have HO_150001 := n0_; have BK145 := n1_; have BK146 := n2_; have BK149 := n3_; have HB := n4_; clear n0_ n1_ n2_ n3_ n4_)); have hnb68 := NB149_145.out; have hnc68 := NB145_149.out; have hnb69 := NB149_146.out; have hnc69 := NB146_149.out; have hcz70_0 : wc.cell? ⟨gb149, 0, none⟩ = some (.int .i64 t147) := (ca_ BK149.out 0).trans rfl; have hcz70_1 : wc.cell? ⟨gb149, 1, none⟩ = some (u150001) := (ca_ BK149.out 1).trans rfl; have hcz70_2 : wc.cell? ⟨gb149, 2, none⟩ = some (.int .i64 t150) := (ca_ BK149.out 2).trans rfl; have hcz70_3 : wc.cell? ⟨gb149, 3, none⟩ = some (.slice none 0 0) := (ca_ BK149.out 3).trans rfl; have hcz70_4 : wc.cell? ⟨gb149, 4, none⟩ = some (.int .i64 t148) := (ca_ BK149.out 4).trans rfl; have hfz70_0 := fa_ BK149.out 0; have hfz70_1 := fa_ BK149.out 1; have hfz70_2 := fa_ BK149.out 2; have hfz70_3 := fa_ BK149.out 3; have hfz70_4 := fa_ BK149.out 4) | ((with_reducible refine tg_ (b := .append) (xs := #[.tmp 78, .tmp 80]) rfl ?_); at_builtin; refine Kd.R_append (Kd.int .i64) (w0 := w) w.heap.size rfl (.tmp 78) (.tmp 80) 23 3 (.int .i64 0) 8 rfl Tryz.underlying23 ae_ rfl (by decide) (by omega) u150001 x150001_1 t158 [.int .i64 t158] (fun _ => True) (fun _ => False) rfl rfl ?aP (fun _ hk => hk.elim) ?aF ?aO ?aB ?aS ?aL ?_; (case aP => exact rfl); (case aB => exact (by repeat (first | (with_reducible first | exact HB.out | apply ba_ | apply aa_ | apply da_ | refine ja_ ?_ GE145.out | refine ja_ ?_ GE146.out | refine ja_ ?_ GE149.out) | exact HB.out))); (case aF => exact (fun _ _ => trivial)); (case aO => exact (by (with_reducible repeat (first | apply Kd.R_alloc | apply Kd.R_drewN | apply Kd.R_drew)); exact HO_150001.out)); (case aS => exact (na_ (by repeat (first | (with_reducible first | exact HB.out | apply ba_ | apply aa_ | apply da_ | refine ja_ ?_ GE145.out | refine ja_ ?_ GE146.out | refine ja_ ?_ GE149.out) | exact HB.out)))); (case aL => have := LMc67.out; omega); intro v169 w71 ho hb hg hat; rw [← Ny168.out] at ho; have n0_ := Aside0.mk (xa_ (g := gb145) (o := .cells #[.int .i64 a0_0, .int .i64 a0_1, .int .i64 a0_2, .slice A0_3 l0_3.length c0_3, .slice A0_4 l0_4.length c0_4] 50 (0, 0)) (by (with_reducible repeat (first | refine ha_ ?_ _ | refine ia_ ?_ | refine ga_ ?_ _)); exact BK145.out) hg (Kd.R_ne HO_150001.out BK145.out (by decide))); have n1_ := Aside0.mk (xa_ (g := gb146) (o := .cells #[.int .i64 0, .slice none 0 0, .int .i64 0, .slice none 0 0, .int .i64 0] 48 (0, 0)) (by (with_reducible repeat (first | refine ha_ ?_ _ | refine ia_ ?_ | refine ga_ ?_ _)); exact BK146.out) hg (Kd.R_ne HO_150001.out BK146.out (by decide))); have n2_ := Aside0.mk (xa_ (g := gb149) (o := .cells #[.int .i64 t147, u150001, .int .i64 t150, .slice none 0 0, .int .i64 t148] 48 (0, 0)) (by (with_reducible repeat (first | refine ha_ ?_ _ | refine ia_ ?_ | refine ga_ ?_ _)); exact BK149.out) hg (Kd.R_ne HO_150001.out BK149.out (by decide))); have n3_ := Aside0.mk (hb); have n4_ := Aside0.mk (ho); clear BK145; clear BK146; clear BK149; clear HB; clear HO_150001; have BK145 := n0_; have BK146 := n1_; have BK149 := n2_; have HB := n3_; have HO170 := n4_; clear n0_ n1_ n2_ n3_ n4_; clear ho hb hg hat; obtain ⟨Ao72, co72, eo72⟩ := Kd.R_slice HO170.out; subst eo72; have hcz73_0 : w71.cell? ⟨gb149, 0, none⟩ = some (.int .i64 t147) := (ca_ BK149.out 0).trans rfl; have hcz73_1 : w71.cell? ⟨gb149, 1, none⟩ = some (u150001) := (ca_ BK149.out 1).trans rfl; have hcz73_2 : w71.cell? ⟨gb149, 2, none⟩ = some (.int .i64 t150) := (ca_ BK149.out 2).trans rfl; have hcz73_3 : w71.cell? ⟨gb149, 3, none⟩ = some (.slice none 0 0) := (ca_ BK149.out 3).trans rfl; have hcz73_4 : w71.cell? ⟨gb149, 4, none⟩ = some (.int .i64 t148) := (ca_ BK149.out 4).trans rfl; have hfz73_0 := fa_ BK149.out 0; have hfz73_1 := fa_ BK149.out 1; have hfz73_2 := fa_ BK149.out 2; have hfz73_3 := fa_ BK149.out 3; have hfz73_4 := fa_ BK149.out 4))
        go_roundg kj41
        case measure => have := HK1.out; have := HJ26.out; have := HJ41.out; omega
        case rel => exact ⟨(wrap64 (x7_1 + 1)), (y168), (.slice Ao72 y168.length co72), (by first | rfl | (simp; done) | (simp [*]; done)), H', ⟨by have := HK1.out; have := HJ26.out; have := HJ41.out; omega⟩, ⟨by (with_reducible repeat (first | apply Kd.R_alloc | apply Kd.R_drewN | apply Kd.R_drew)); exact Kd.R_mono (Kd.R_far (p := ⟨gb149, 1, none⟩) (Kd.R_types HO170.out BK149.out (by decide)) (fun _ hk => hk.2) (.slice Ao72 y168.length co72)) (fun _ hk => trivial)⟩, ⟨by (with_reducible repeat (first | refine ha_ ?_ _ | refine ia_ ?_ | refine ga_ ?_ _)); refine mc_ ?_ NB145_149.out _; (with_reducible repeat (first | refine ha_ ?_ _ | refine ia_ ?_ | refine ga_ ?_ _)); exact BK145.out⟩, ⟨by (with_reducible repeat (first | refine ha_ ?_ _ | refine ia_ ?_ | refine ga_ ?_ _)); refine mc_ ?_ NB146_149.out _; (with_reducible repeat (first | refine ha_ ?_ _ | refine ia_ ?_ | refine ga_ ?_ _)); exact BK146.out⟩, ⟨by (with_reducible repeat (first | refine ha_ ?_ _ | refine ia_ ?_ | refine ga_ ?_ _)); refine wc_ (cs := #[.int .i64 t147, u150001, .int .i64 t150, .slice none 0 0, .int .i64 t148]) ?_ 1 _ rfl; (with_reducible repeat (first | refine ha_ ?_ _ | refine ia_ ?_ | refine ga_ ?_ _)); exact BK149.out⟩, ⟨by repeat (first | (with_reducible first | exact HB.out | apply ba_ | apply aa_ | apply da_ | refine ja_ ?_ GE145.out | refine ja_ ?_ GE146.out | refine ja_ ?_ GE149.out) | exact HB.out)⟩⟩
       rw [if_neg c67] at H
       exact absurd H (by simp)
     replace c41 := Bool.eq_false_iff.mpr c41
     subst c41
     have H1 : (l4_Raw_Make.l1 kj26 (rd y151 t150) 0 a0_0 a0_1 a0_2 l0_3 l0_4 t147 x150001_1 t150 ([] : List Int) t148) = some (r1, r2, r3, r4, r5) := by rw [if_neg (show ¬ (false = true) by decide)] at H; exact H
     clear H
     have H := H1
     clear H1
     have H' := Aside0.mk H
     clear H
     go_wp2
     go_loopg [10] kj26 (fun kq v10 w' => ∃ (x10_3 : Int) (x150003_3 : List Int) (u150003 : Value), v10 = .int .i64 x10_3 ∧ Aside0 (l4_Raw_Make.l1 kq (rd y151 t150) x10_3 a0_0 a0_1 a0_2 l0_3 l0_4 t147 x150001_1 t150 x150003_3 t148 = some (r1, r2, r3, r4, r5)) ∧ Aside0 (kq ≤ kj26) ∧ Aside0 (Kd.R (Kd.int .i64) 3 w' w.heap.size (fun k_ => some k_ ≠ (u150003 : Value).ownBlock) u150001 x150001_1) ∧ Aside0 (Kd.R (Kd.int .i64) 3 w' w.heap.size (fun k_ => some k_ ≠ (u150001 : Value).ownBlock) u150003 x150003_3) ∧ Aside0 (w'.heap[gb145]? = some (.cells #[.int .i64 a0_0, .int .i64 a0_1, .int .i64 a0_2, (.slice A0_3 l0_3.length c0_3), (.slice A0_4 l0_4.length c0_4)] 50 (0, 0))) ∧ Aside0 (w'.heap[gb146]? = some (.cells #[.int .i64 0, (.slice none 0 0), .int .i64 0, (.slice none 0 0), .int .i64 0] 48 (0, 0))) ∧ Aside0 (w'.heap[gb149]? = some (.cells #[.int .i64 t147, u150001, .int .i64 t150, u150003, .int .i64 t148] 48 (0, 0))) ∧ Aside0 (Below w.heap.size w w'))
     case atStart => exact ⟨(0), (([] : List Int)), (.slice none 0 0), (by first | rfl | (simp; done) | (simp [*]; done)), H', ⟨Nat.le_refl _⟩, ⟨by (with_reducible repeat (first | apply Kd.R_alloc | apply Kd.R_drewN | apply Kd.R_drew)); exact Kd.R_mono HO_150001.out (fun _ hk => (by simp [Value.ownBlock]))⟩, ⟨by first | exact Kd.R_nil _ _ _ _ _ | exact Kd.N_nil _ _ _ _ _ | exact Kd.V_nil _ _ _ _ _ | exact Kd.Q_nil _ _ _ _ _ | exact Kd.S_nil _ _ _ _ _⟩, ⟨by (with_reducible repeat (first | refine ha_ ?_ _ | refine ia_ ?_ | refine ga_ ?_ _)); exact BK145.out⟩, ⟨by (with_reducible repeat (first | refine ha_ ?_ _ | refine ia_ ?_ | refine ga_ ?_ _)); exact BK146.out⟩, ⟨by (with_reducible repeat (first | refine ha_ ?_ _ | refine ia_ ?_ | refine ga_ ?_ _)); exact BK149.out⟩, ⟨by repeat (first | (with_reducible first | exact HB.out | apply ba_ | apply aa_ | apply da_ | refine ja_ ?_ GE145.out | refine ja_ ?_ GE146.out | refine ja_ ?_ GE149.out) | exact HB.out)⟩⟩
     clear H'
     try clear c1
     try clear p1
     try clear q1
     try clear hx1
     try clear c2
     try clear p2
     try clear c3
     try clear c4
     try clear c5
     try clear c6
     try clear c6b0
     try clear p6
     try clear c7
     try clear c7b0
     try clear p15
     try clear q15
     try clear hx15
     try clear c16
     try clear p16
     try clear q16
     try clear hx16
     try clear c18
     try clear c19
     try clear c21
     try clear c25
     try clear c29
     try clear c29b0
     try clear c30
     try clear c31
     try clear c33
     try clear c33b0
     try clear c35
     try clear c36
     try clear c38
     try clear c39
     try clear c41
     try clear c43
     try clear c44
     try clear c46
     try clear c46b0
     try clear c47
     try clear c47b0
     try clear c48
     try clear c49
     try clear c53
     try clear c53b0
     try clear c53b1
     try clear c55
     try clear c55b0
     try clear c56
     try clear c56b0
     try clear c57
     try clear c61
     try clear c62
     try clear p64
     try clear c67
     try clear c68
     try clear c69
     try clear hcz20_0
     try clear hcz20_1
     try clear hcz20_2
     try clear hcz20_3
     try clear hcz20_4
     try clear hcz22_0
     try clear hcz22_1
     try clear hcz22_2
     try clear hcz22_3
     try clear hcz22_4
     try clear hcz25_0
     try clear hcz25_1
     try clear hcz25_2
     try clear hcz25_3
     try clear hcz25_4
     try clear hcz32_0
     try clear hcz32_1
     try clear hcz32_2
     try clear hcz32_3
     try clear hcz32_4
     try clear hcz37_0
     try clear hcz37_1
     try clear hcz37_2
     try clear hcz37_3
     try clear hcz37_4
     try clear hcz40_0
     try clear hcz40_1
     try clear hcz40_2
     try clear hcz40_3
     try clear hcz40_4
     try clear hcz45_0
     try clear hcz45_1
     try clear hcz45_2
     try clear hcz45_3
     try clear hcz45_4
     try clear hcz50_0
     try clear hcz50_1
     try clear hcz50_2
     try clear hcz50_3
     try clear hcz50_4
     try clear hcz63_0
     try clear hcz63_1
     try clear hcz63_2
     try clear hcz63_3
     try clear hcz63_4
     try clear hcz66_0
     try clear hcz66_1
     try clear hcz66_2
     try clear hcz66_3
     try clear hcz66_4
     try clear hcz70_0
     try clear hcz70_1
     try clear hcz70_2
     try clear hcz70_3
     try clear hcz70_4
     try clear hcz73_0
     try clear hcz73_1
     try clear hcz73_2
     try clear hcz73_3
     try clear hcz73_4
     try clear hfz20_0
     try clear hfz20_1
     try clear hfz20_2
     try clear hfz20_3
     try clear hfz20_4
     try clear hfz22_0
     try clear hfz22_1
     try clear hfz22_2
     try clear hfz22_3
     try clear hfz22_4
     try clear hfz25_0
     try clear hfz25_1
     try clear hfz25_2
     try clear hfz25_3
     try clear hfz25_4
     try clear hfz32_0
     try clear hfz32_1
     try clear hfz32_2
     try clear hfz32_3
     try clear hfz32_4
     try clear hfz37_0
     try clear hfz37_1
     try clear hfz37_2
     try clear hfz37_3
     try clear hfz37_4
     try clear hfz40_0
     try clear hfz40_1
     try clear hfz40_2
     try clear hfz40_3
     try clear hfz40_4
     try clear hfz45_0
     try clear hfz45_1
     try clear hfz45_2
     try clear hfz45_3
     try clear hfz45_4
     try clear hfz50_0
     try clear hfz50_1
     try clear hfz50_2
     try clear hfz50_3
     try clear hfz50_4
     try clear hfz63_0
     try clear hfz63_1
     try clear hfz63_2
     try clear hfz63_3
     try clear hfz63_4
     try clear hfz66_0
     try clear hfz66_1
     try clear hfz66_2
     try clear hfz66_3
     try clear hfz66_4
     try clear hfz70_0
     try clear hfz70_1
     try clear hfz70_2
     try clear hfz70_3
     try clear hfz70_4
     try clear hfz73_0
     try clear hfz73_1
     try clear hfz73_2
     try clear hfz73_3
     try clear hfz73_4
     try clear hx154_0
     try clear hx157_0
     try clear hx164_0
     try clear p1
     try clear p15
     try clear p154
     try clear p157
     try clear p164
     try clear p2
     try clear p6
     try clear q1
     try clear q15
     try clear q154
     try clear q157
     try clear q164
     obtain ⟨x10_3, x150003_3, u150003, rfl, HA, HK3, HO_150001, HO_150003, BK145, BK146, BK149, HB⟩ := hrel
     cases gk with
     | zero => exact absurd HA.out (by simp [l4_Raw_Make.l1])
     | succ k3 =>
      have H := HA.out
      clear HA
      simp only [l4_Raw_Make.l1] at H
      by_cases c74 : x10_3 < (rd y151 t150)
      ·rw [if_pos c74] at H
       have c74b0 : decide (x10_3 < (rd y151 t150)) = true := decide_eq_true c74
       clear c74
       by_cases c75 : x10_3 < (l0_4.length : Int)
       ·rw [if_pos c75] at H
        have c75b0 : decide (x10_3 < (l0_4.length : Int)) = true := decide_eq_true c75
        clear c75
        by_cases c76 : 0 ≤ x10_3
        ·rw [if_pos c76] at H
         have c76b0 : decide (0 ≤ x10_3) = true := decide_eq_true c76
         clear c76
         replace H := Option.bind_eq_some_iff.mp H
         obtain ⟨t172, A770, H⟩ := H
         replace H : (if x150003_3.length < 17592186044416 then (l4_Raw_Make.l1 k3 (rd y151 t150) (wrap64 (x10_3 + 1)) a0_0 a0_1 a0_2 l0_3 l0_4 t147 x150001_1 t150 (x150003_3 ++ [t172]) t148) else (none)) = some (r1, r2, r3, r4, r5) := H
         have A77 := Aside0.mk A770
         clear A770
         by_cases c78 : x150003_3.length < 17592186044416
         ·rw [if_pos c78] at H
          have LMc78 := Aside0.mk c78
          clear c78
          obtain ⟨y173, hy173⟩ : ∃ y_ : List Int, y_ = (x150003_3 ++ [t172]) := ⟨_, rfl⟩
          replace H : (l4_Raw_Make.l1 k3 (rd y151 t150) (wrap64 (x10_3 + 1)) a0_0 a0_1 a0_2 l0_3 l0_4 t147 x150001_1 t150 y173 t148) = some (r1, r2, r3, r4, r5) := by first | (rw [hy173]; with_reducible exact H) | (have H2_ := (Option.bind_some _ _).symm.trans H; rw [hy173]; with_reducible exact H2_) | (have H2_ := (Option.bind_some _ _).symm.trans H; with_reducible exact H2_) | with_reducible exact H | (rw [hy173]; exact H) | exact H
          have Ny173 := Aside0.mk hy173
          clear hy173
          have H' := Aside0.mk H
          clear H
          have hnb79 := NB145_146.out
          have hnc79 := NB146_145.out
          have hnb80 := NB145_149.out
          have hnc80 := NB149_145.out
          have hcz81_0 : wr.cell? ⟨gb145, 0, none⟩ = some (.int .i64 a0_0) := (ca_ BK145.out 0).trans rfl
          have hcz81_1 : wr.cell? ⟨gb145, 1, none⟩ = some (.int .i64 a0_1) := (ca_ BK145.out 1).trans rfl
          have hcz81_2 : wr.cell? ⟨gb145, 2, none⟩ = some (.int .i64 a0_2) := (ca_ BK145.out 2).trans rfl
          have hcz81_3 : wr.cell? ⟨gb145, 3, none⟩ = some (.slice A0_3 l0_3.length c0_3) := (ca_ BK145.out 3).trans rfl
          have hcz81_4 : wr.cell? ⟨gb145, 4, none⟩ = some (.slice A0_4 l0_4.length c0_4) := (ca_ BK145.out 4).trans rfl
          have hfz81_0 := fa_ BK145.out 0
          have hfz81_1 := fa_ BK145.out 1
          have hfz81_2 := fa_ BK145.out 2
          have hfz81_3 := fa_ BK145.out 3
          have hfz81_4 := fa_ BK145.out 4
          have p171 : 0 ≤ (x10_3 : Int) := of_decide_eq_true (by first | (with_reducible assumption) | assumption)
          have q171 : x10_3 < (l0_4.length : Int) := of_decide_eq_true (by first | (with_reducible assumption) | assumption)
          obtain ⟨ad171, e171, hx171_0⟩ := Kd.at_int HR0_4.out x10_3 p171 q171
          cases e171
          replace hx171_0 := (HB.out.cell (World.block_lt_of_cell? w _ hx171_0)).trans hx171_0
          replace p171 := eq_true p171
          replace q171 := eq_true q171
          try go_wp2
          have n0_ := Aside0.mk (Kd.R_drew HO_150001.out)
          have n1_ := Aside0.mk (Kd.R_drew HO_150003.out)
          have n2_ := Aside0.mk (ia_ BK145.out)
          have n3_ := Aside0.mk (ia_ BK146.out)
          have n4_ := Aside0.mk (ia_ BK149.out)
          have n5_ := Aside0.mk (da_ HB.out)
          clear HO_150001
          clear HO_150003
          clear BK145
          clear BK146
          clear BK149
          clear HB
          have HO_150001 := n0_
          have HO_150003 := n1_
          have BK145 := n2_
          have BK146 := n3_
          have BK149 := n4_
          have HB := n5_
          clear n0_ n1_ n2_ n3_ n4_ n5_
          obtain ⟨Ao83, co83, eo83⟩ := Kd.R_slice HO_150001.out
          (first | subst eo83 | (injection eo83 with f1_ f2_ f3_; have f4_ := f1_.symm; have f5_ := f3_.symm; clear f1_ f2_ f3_; subst f4_; subst f5_))
          refine td_ (n := 13) (S := fun w' => w'.cell? ⟨gb149, 0, none⟩ = some (.int .i64 t147) ∧ w'.cell? ⟨gb149, 1, none⟩ = some (.slice Ao83 x150001_1.length co83) ∧ w'.cell? ⟨gb149, 2, none⟩ = some (.int .i64 t150) ∧ w'.cell? ⟨gb149, 3, none⟩ = some (u150003) ∧ w'.cell? ⟨gb149, 4, none⟩ = some (.int .i64 t148)) (ds := [12]) (f_ 13 0) (by kernel_rfl) rfl rfl ⟨(ca_ BK149.out 0).trans rfl, (ca_ BK149.out 1).trans rfl, (ca_ BK149.out 2).trans rfl, (ca_ BK149.out 3).trans rfl, (ca_ BK149.out 4).trans rfl⟩ (fun hHeld => ?_); refine gf_ l4_Raw_Make.tab20 l4_Raw_Make.bits20 (fun HT_ HW_ => ?_)
          generalize wr.drew = w82 at HO_150001 HO_150003 BK145 BK146 BK149 HB hHeld ⊢
          refine oa_ (i := 0) (N := some 99) (v := ?_) (a' := ?_) (f_ 13 1) rfl rfl (jb_ HT_.out (by kernel_rfl)) (fun _ _ _ h => h) (Or.inl ⟨by rfl, ?_⟩) ?_ ?_
          rotate_left
          ·intro w'
           go_simp
           with_reducible rfl
          rotate_left
          ·simp only [Act.put, s1_, s2_, s3_, ka_, la_]
           rfl
          refine oa_ (i := 1) (N := some 100) (v := ?_) (a' := ?_) (f_ 13 2) rfl rfl (jb_ HT_.out (by kernel_rfl)) (fun _ _ _ h => h) (Or.inl ⟨by rfl, ?_⟩) ?_ ?_
          rotate_left
          ·intro w'
           go_simp
           with_reducible rfl
          rotate_left
          ·simp only [Act.put, s1_, s2_, s3_, ka_, la_]
           rfl
          refine oa_ (i := 3) (N := some 102) (v := ?_) (a' := ?_) #[true, true, false, true, false, false, false, false, false, false, false, false, false] rfl rfl (jb_ HT_.out (by kernel_rfl)) (fun _ _ _ h => h) (Or.inl ⟨by rfl, ?_⟩) ?_ ?_
          rotate_left
          ·intro w'
           go_simp
           with_reducible rfl
          rotate_left
          ·simp only [Act.put, s1_, s2_, s3_, ka_, la_]
           rfl
          refine oa_ (i := 4) (N := some 103) (v := ?_) (a' := ?_) #[true, true, false, true, true, false, false, false, false, false, false, false, false] rfl rfl (jb_ HT_.out (by kernel_rfl)) (fun _ _ _ h => h) (Or.inl ⟨by rfl, ?_⟩) ?_ ?_
          rotate_left
          ·intro w'
           go_simp
           with_reducible rfl
          rotate_left
          ·simp only [Act.put, s1_, s2_, s3_, ka_, la_]
           rfl
          refine take_ (i := 2) (N := some 101) (v := ?_) (a' := ?_) (f_ 13 5) rfl rfl (yd_ HT_.out HW_.out (by kernel_rfl)) (fun _ _ _ h => h) (Or.inl ⟨by rfl, ?_⟩) hHeld ?_ ?_
          rotate_left
          ·rintro w' ⟨s0, s1, s2, s3, s4⟩
           go_simp
           with_reducible rfl
          rotate_left
          ·simp only [Act.put, s1_, s2_, s3_, ka_, la_]
           rfl
          refine take_ (i := 5) (N := some 104) (v := ?_) (a' := ?_) (f_ 13 6) rfl rfl (yd_ HT_.out HW_.out (by kernel_rfl)) (fun _ _ _ h => h) (Or.inl ⟨by rfl, ?_⟩) hHeld ?_ ?_
          rotate_left
          ·rintro w' ⟨s0, s1, s2, s3, s4⟩
           go_simp
           with_reducible rfl
          rotate_left
          ·simp only [Act.put, s1_, s2_, s3_, ka_, la_]
           rfl
          refine oa_ (i := 6) (N := some 105) (v := ?_) (a' := ?_) (f_ 13 7) rfl rfl (jb_ HT_.out (by kernel_rfl)) (fun _ _ _ h => h) (Or.inl ⟨by rfl, ?_⟩) ?_ ?_
          rotate_left
          ·intro w'
           go_simp
           with_reducible rfl
          rotate_left
          ·simp only [Act.put, s1_, s2_, s3_, ka_, la_]
           rfl
          refine one_ (i := 7) (N := some 106) (f_ 13 8) rfl rfl (lc_ HT_.out (by kernel_rfl)) (by decide) (fun K hK => ?_)
          refine id_ Tryz.func25 (by kernel_rfl) rfl #[.int .i64 (rd l0_4 x10_3), .int .i64 (x150001_1.length : Int)] (by rfl) rfl rfl (by (try simp only [List.map_toArray, List.map_cons, List.map_nil]); first | done | rfl | (simp only [List.length_drop, List.length_take]; rfl)) ?_
          with_reducible refine (l4_within.calls (rd l0_4 x10_3) (x150001_1.length : Int) t172 _ A77.out).mono ?_
          rintro e w' ⟨rfl, ⟨nd, rfl⟩⟩
          refine ⟨_, rfl, ?_⟩
          refine hK.out _ _ ⟨(ca_ BK149.out 0).trans rfl, (ca_ BK149.out 1).trans rfl, (ca_ BK149.out 2).trans rfl, (ca_ BK149.out 3).trans rfl, (ca_ BK149.out 4).trans rfl⟩ (fun hHeld => ?_)
          clear hK K
          refine ab_ (a' := ?_) ?_ ?_
          rotate_left
          ·show Act.put _ (some 106) _ = _
           simp only [Act.put, s1_, s2_, s3_, ka_, la_]
           rfl
          refine one_ (i := 8) (N := some 107) (f_ 13 9) rfl rfl (lc_ HT_.out (by kernel_rfl)) (by decide) (fun K hK => ?_)
          refine re_ (w1 := ?_) (v := ?_) (by rfl) rfl ?_ ?_
          rotate_left 2
          ·go_simp
           constructor
           ·rfl
           rfl
          refine hK.out _ _ ⟨(ca_ (ga_ BK149.out _) 0).trans rfl, (ca_ (ga_ BK149.out _) 1).trans rfl, (ca_ (ga_ BK149.out _) 2).trans rfl, (ca_ (ga_ BK149.out _) 3).trans rfl, (ca_ (ga_ BK149.out _) 4).trans rfl⟩ (fun hHeld => ?_)
          clear hK K
          refine ab_ (a' := ?_) ?_ ?_
          rotate_left
          ·show Act.put _ (some 107) _ = _
           simp only [Act.put, s1_, s2_, s3_, ka_, la_]
           rfl
          refine one_ (i := 9) (N := some 108) (f_ 13 10) rfl rfl (lc_ HT_.out (by kernel_rfl)) (by decide) (fun K hK => ?_)
          refine Kd.R_append_step (Kd.int .i64) (w0 := w) w.heap.size (by rfl) (.tmp 101) (.tmp 107) 23 3 (.int .i64 0) 8 rfl Tryz.underlying23 ae_ rfl (by decide) (by omega) u150003 x150003_3 t172 [.int .i64 t172] (fun k_ => some k_ ≠ (.slice Ao83 x150001_1.length co83 : Value).ownBlock) (fun _ => False) rfl rfl ?aP (fun _ hk => hk.elim) ?aF ?aO ?aB ?aS ?aL ?_
          (case aP => exact rfl)
          (case aB => exact (by repeat (first | (with_reducible first | exact HB.out | apply ba_ | apply aa_ | apply da_ | refine ja_ ?_ GE145.out | refine ja_ ?_ GE146.out | refine ja_ ?_ GE149.out) | exact HB.out)))
          (case aF => exact (fun k_ hk => Kd.fresh' (Kd.R_lt (by (with_reducible repeat (first | apply Kd.R_alloc | apply Kd.R_drewN | apply Kd.R_drew)); exact HO_150001.out)) k_ hk))
          (case aO => exact (by (with_reducible repeat (first | apply Kd.R_alloc | apply Kd.R_drewN | apply Kd.R_drew)); exact HO_150003.out))
          (case aS => exact (na_ (by repeat (first | (with_reducible first | exact HB.out | apply ba_ | apply aa_ | apply da_ | refine ja_ ?_ GE145.out | refine ja_ ?_ GE146.out | refine ja_ ?_ GE149.out) | exact HB.out))))
          (case aL => have := LMc78.out; omega)
          intro v174 w84 ho hb hg hat
          rw [← Ny173.out] at ho
          have n0_ := Aside0.mk (Kd.R_after (ok := (fun _ => True)) (by (with_reducible repeat (first | apply Kd.R_alloc | apply Kd.R_drewN | apply Kd.R_drew)); exact Kd.R_mono HO_150001.out (fun _ hk => ⟨trivial, hk⟩)) hg hat)
          have n1_ := Aside0.mk (xa_ (g := gb145) (o := .cells #[.int .i64 a0_0, .int .i64 a0_1, .int .i64 a0_2, .slice A0_3 l0_3.length c0_3, .slice (some ad171) l0_4.length c0_4] 50 (0, 0)) (by (with_reducible repeat (first | refine ha_ ?_ _ | refine ia_ ?_ | refine ga_ ?_ _)); exact BK145.out) hg (Kd.R_ne HO_150003.out BK145.out (by decide)))
          have n2_ := Aside0.mk (xa_ (g := gb146) (o := .cells #[.int .i64 0, .slice none 0 0, .int .i64 0, .slice none 0 0, .int .i64 0] 48 (0, 0)) (by (with_reducible repeat (first | refine ha_ ?_ _ | refine ia_ ?_ | refine ga_ ?_ _)); exact BK146.out) hg (Kd.R_ne HO_150003.out BK146.out (by decide)))
          have n3_ := Aside0.mk (xa_ (g := gb149) (o := .cells #[.int .i64 t147, .slice Ao83 x150001_1.length co83, .int .i64 t150, u150003, .int .i64 t148] 48 (0, 0)) (by (with_reducible repeat (first | refine ha_ ?_ _ | refine ia_ ?_ | refine ga_ ?_ _)); exact BK149.out) hg (Kd.R_ne HO_150003.out BK149.out (by decide)))
          have n4_ := Aside0.mk (hb)
          have n5_ := Aside0.mk (ho)
          clear HO_150001
          clear BK145
          clear BK146
          clear BK149
          clear HB
          clear HO_150003
          have HO_150001 := n0_
          have BK145 := n1_
          have BK146 := n2_
          have BK149 := n3_
          have HB := n4_
          have HO175 := n5_
          clear n0_ n1_ n2_ n3_ n4_ n5_
          clear ho hb hg hat
          obtain ⟨Ao85, co85, eo85⟩ := Kd.R_slice HO175.out
          (first | subst eo85 | (injection eo85 with f1_ f2_ f3_; have f4_ := f1_.symm; have f5_ := f3_.symm; clear f1_ f2_ f3_; subst f4_; subst f5_))
          refine hK.out _ _ ⟨(ca_ BK149.out 0).trans rfl, (ca_ BK149.out 1).trans rfl, (ca_ BK149.out 2).trans rfl, (ca_ BK149.out 3).trans rfl, (ca_ BK149.out 4).trans rfl⟩ (fun hHeld => ?_)
          clear hK K
          refine ab_ (a' := ?_) ?_ ?_
          rotate_left
          ·show Act.put _ (some 108) _ = _
           simp only [Act.put, s1_, s2_, s3_, ka_, la_]
           rfl
          refine oa_ (i := 10) (N := some 109) (v := ?_) (a' := ?_) (f_ 13 11) rfl rfl (jb_ HT_.out (by kernel_rfl)) (fun _ _ _ h => h) (Or.inl ⟨by rfl, ?_⟩) ?_ ?_
          rotate_left
          ·intro w'
           go_simp
           with_reducible rfl
          rotate_left
          ·simp only [Act.put, s1_, s2_, s3_, ka_, la_]
           rfl
          refine oa_ (i := 11) (N := some 110) (v := ?_) (a' := ?_) (f_ 13 12) rfl rfl (jb_ HT_.out (by kernel_rfl)) (fun _ _ _ h => h) (Or.inl ⟨by rfl, ?_⟩) ?_ ?_
          rotate_left
          ·intro w'
           go_simp
           with_reducible rfl
          rotate_left
          ·simp only [Act.put, s1_, s2_, s3_, ka_, la_]
           rfl
          refine gg_ (i := 12) (N := none) (f_ 13 13) rfl rfl (lc_ HT_.out (by kernel_rfl)) (by decide) (fun K hK => ?_)
          have hs86 : w84.cell? ⟨gb149, 3, none⟩ = some (u150003) := (ca_ BK149.out 3).trans rfl
          have hfs86 := fa_ BK149.out 3
          have hns86_0 := NB145_149.out
          have hns86_1 := NB146_149.out
          have hms86_0 := NB149_145.out
          have hms86_1 := NB149_146.out
          refine sn_ (w1 := ?_) (by rfl) rfl ?_ ?_
          rotate_left
          ·go_simp
           rfl
          refine hK.out _ _ ?_
          clear hK K
          refine ie_ (vh_ HT_.out (by kernel_rfl)) ?_
          try go_wp2
          go_roundg k3
          case measure => have := HK1.out; have := HJ26.out; have := HK3.out; omega
          case rel => exact ⟨(wrap64 (x10_3 + 1)), (y173), (.slice Ao85 y173.length co85), (by first | rfl | (simp; done) | (simp [*]; done)), H', ⟨by have := HK1.out; have := HJ26.out; have := HK3.out; omega⟩, ⟨by (with_reducible repeat (first | apply Kd.R_alloc | apply Kd.R_drewN | apply Kd.R_drew)); exact Kd.R_mono (Kd.R_far (p := ⟨gb149, 3, none⟩) (Kd.R_types HO_150001.out BK149.out (by decide)) (fun _ hk => hk.2) (.slice Ao85 y173.length co85)) (fun _ hk => hk.1.2)⟩, ⟨by (with_reducible repeat (first | apply Kd.R_alloc | apply Kd.R_drewN | apply Kd.R_drew)); exact Kd.R_mono (Kd.R_far (p := ⟨gb149, 3, none⟩) (Kd.R_types HO175.out BK149.out (by decide)) (fun _ hk => hk.2) (.slice Ao85 y173.length co85)) (fun _ hk => hk.1)⟩, ⟨by (with_reducible repeat (first | refine ha_ ?_ _ | refine ia_ ?_ | refine ga_ ?_ _)); refine mc_ ?_ NB145_149.out _; (with_reducible repeat (first | refine ha_ ?_ _ | refine ia_ ?_ | refine ga_ ?_ _)); exact BK145.out⟩, ⟨by (with_reducible repeat (first | refine ha_ ?_ _ | refine ia_ ?_ | refine ga_ ?_ _)); refine mc_ ?_ NB146_149.out _; (with_reducible repeat (first | refine ha_ ?_ _ | refine ia_ ?_ | refine ga_ ?_ _)); exact BK146.out⟩, ⟨by (with_reducible repeat (first | refine ha_ ?_ _ | refine ia_ ?_ | refine ga_ ?_ _)); refine wc_ (cs := #[.int .i64 t147, .slice Ao83 x150001_1.length co83, .int .i64 t150, u150003, .int .i64 t148]) ?_ 3 _ rfl; (with_reducible repeat (first | refine ha_ ?_ _ | refine ia_ ?_ | refine ga_ ?_ _)); exact BK149.out⟩, ⟨by repeat (first | (with_reducible first | exact HB.out | apply ba_ | apply aa_ | apply da_ | refine ja_ ?_ GE145.out | refine ja_ ?_ GE146.out | refine ja_ ?_ GE149.out) | exact HB.out)⟩⟩
         rw [if_neg c78] at H
         exact absurd H (by simp)
        rw [if_neg c76] at H
        exact absurd H (by simp)
       rw [if_neg c75] at H
       have c75b0 : decide (x10_3 < (l0_4.length : Int)) = false := decide_eq_false c75
       clear c75
       replace H := Option.bind_eq_some_iff.mp H
       obtain ⟨t176, A870, H⟩ := H
       replace H : (if x150003_3.length < 17592186044416 then (l4_Raw_Make.l1 k3 (rd y151 t150) (wrap64 (x10_3 + 1)) a0_0 a0_1 a0_2 l0_3 l0_4 t147 x150001_1 t150 (x150003_3 ++ [t176]) t148) else (none)) = some (r1, r2, r3, r4, r5) := H
       have A87 := Aside0.mk A870
       clear A870
       by_cases c88 : x150003_3.length < 17592186044416
       ·rw [if_pos c88] at H
        have LMc88 := Aside0.mk c88
        clear c88
        obtain ⟨y177, hy177⟩ : ∃ y_ : List Int, y_ = (x150003_3 ++ [t176]) := ⟨_, rfl⟩
        replace H : (l4_Raw_Make.l1 k3 (rd y151 t150) (wrap64 (x10_3 + 1)) a0_0 a0_1 a0_2 l0_3 l0_4 t147 x150001_1 t150 y177 t148) = some (r1, r2, r3, r4, r5) := by first | (rw [hy177]; with_reducible exact H) | (have H2_ := (Option.bind_some _ _).symm.trans H; rw [hy177]; with_reducible exact H2_) | (have H2_ := (Option.bind_some _ _).symm.trans H; with_reducible exact H2_) | with_reducible exact H | (rw [hy177]; exact H) | exact H
        have Ny177 := Aside0.mk hy177
        clear hy177
        have H' := Aside0.mk H
        clear H
        have hnb89 := NB145_146.out
        have hnc89 := NB146_145.out
        have hnb90 := NB145_149.out
        have hnc90 := NB149_145.out
        have hcz91_0 : wr.cell? ⟨gb145, 0, none⟩ = some (.int .i64 a0_0) := (ca_ BK145.out 0).trans rfl
        have hcz91_1 : wr.cell? ⟨gb145, 1, none⟩ = some (.int .i64 a0_1) := (ca_ BK145.out 1).trans rfl
        have hcz91_2 : wr.cell? ⟨gb145, 2, none⟩ = some (.int .i64 a0_2) := (ca_ BK145.out 2).trans rfl
        have hcz91_3 : wr.cell? ⟨gb145, 3, none⟩ = some (.slice A0_3 l0_3.length c0_3) := (ca_ BK145.out 3).trans rfl
        have hcz91_4 : wr.cell? ⟨gb145, 4, none⟩ = some (.slice A0_4 l0_4.length c0_4) := (ca_ BK145.out 4).trans rfl
        have hfz91_0 := fa_ BK145.out 0
        have hfz91_1 := fa_ BK145.out 1
        have hfz91_2 := fa_ BK145.out 2
        have hfz91_3 := fa_ BK145.out 3
        have hfz91_4 := fa_ BK145.out 4
        try go_wp2
        have n0_ := Aside0.mk (Kd.R_drew HO_150001.out)
        have n1_ := Aside0.mk (Kd.R_drew HO_150003.out)
        have n2_ := Aside0.mk (ia_ BK145.out)
        have n3_ := Aside0.mk (ia_ BK146.out)
        have n4_ := Aside0.mk (ia_ BK149.out)
        have n5_ := Aside0.mk (da_ HB.out)
        clear HO_150001
        clear HO_150003
        clear BK145
        clear BK146
        clear BK149
        clear HB
        have HO_150001 := n0_
        have HO_150003 := n1_
        have BK145 := n2_
        have BK146 := n3_
        have BK149 := n4_
        have HB := n5_
        clear n0_ n1_ n2_ n3_ n4_ n5_
        obtain ⟨Ao93, co93, eo93⟩ := Kd.R_slice HO_150001.out
        (first | subst eo93 | (injection eo93 with f1_ f2_ f3_; have f4_ := f1_.symm; have f5_ := f3_.symm; clear f1_ f2_ f3_; subst f4_; subst f5_))
        refine td_ (n := 13) (S := fun w' => w'.cell? ⟨gb149, 0, none⟩ = some (.int .i64 t147) ∧ w'.cell? ⟨gb149, 1, none⟩ = some (.slice Ao93 x150001_1.length co93) ∧ w'.cell? ⟨gb149, 2, none⟩ = some (.int .i64 t150) ∧ w'.cell? ⟨gb149, 3, none⟩ = some (u150003) ∧ w'.cell? ⟨gb149, 4, none⟩ = some (.int .i64 t148)) (ds := [12]) (f_ 13 0) (by kernel_rfl) rfl rfl ⟨(ca_ BK149.out 0).trans rfl, (ca_ BK149.out 1).trans rfl, (ca_ BK149.out 2).trans rfl, (ca_ BK149.out 3).trans rfl, (ca_ BK149.out 4).trans rfl⟩ (fun hHeld => ?_); refine gf_ l4_Raw_Make.tab20 l4_Raw_Make.bits20 (fun HT_ HW_ => ?_)
        generalize wr.drew = w92 at HO_150001 HO_150003 BK145 BK146 BK149 HB hHeld ⊢
        refine oa_ (i := 0) (N := some 99) (v := ?_) (a' := ?_) (f_ 13 1) rfl rfl (jb_ HT_.out (by kernel_rfl)) (fun _ _ _ h => h) (Or.inl ⟨by rfl, ?_⟩) ?_ ?_
        rotate_left
        ·intro w'
         go_simp
         with_reducible rfl
        rotate_left
        ·simp only [Act.put, s1_, s2_, s3_, ka_, la_]
         rfl
        refine oa_ (i := 1) (N := some 100) (v := ?_) (a' := ?_) (f_ 13 2) rfl rfl (jb_ HT_.out (by kernel_rfl)) (fun _ _ _ h => h) (Or.inl ⟨by rfl, ?_⟩) ?_ ?_
        rotate_left
        ·intro w'
         go_simp
         with_reducible rfl
        rotate_left
        ·simp only [Act.put, s1_, s2_, s3_, ka_, la_]
         rfl
        refine oa_ (i := 3) (N := some 102) (v := ?_) (a' := ?_) #[true, true, false, true, false, false, false, false, false, false, false, false, false] rfl rfl (jb_ HT_.out (by kernel_rfl)) (fun _ _ _ h => h) (Or.inl ⟨by rfl, ?_⟩) ?_ ?_
        rotate_left
        ·intro w'
         go_simp
         with_reducible rfl
        rotate_left
        ·simp only [Act.put, s1_, s2_, s3_, ka_, la_]
         rfl
        refine oa_ (i := 4) (N := some 103) (v := ?_) (a' := ?_) #[true, true, false, true, true, false, false, false, false, false, false, false, false] rfl rfl (jb_ HT_.out (by kernel_rfl)) (fun _ _ _ h => h) (Or.inl ⟨by rfl, ?_⟩) ?_ ?_
        rotate_left
        ·intro w'
         go_simp
         with_reducible rfl
        rotate_left
        ·simp only [Act.put, s1_, s2_, s3_, ka_, la_]
         rfl
        refine take_ (i := 2) (N := some 101) (v := ?_) (a' := ?_) (f_ 13 5) rfl rfl (yd_ HT_.out HW_.out (by kernel_rfl)) (fun _ _ _ h => h) (Or.inl ⟨by rfl, ?_⟩) hHeld ?_ ?_
        rotate_left
        ·rintro w' ⟨s0, s1, s2, s3, s4⟩
         go_simp
         with_reducible rfl
        rotate_left
        ·simp only [Act.put, s1_, s2_, s3_, ka_, la_]
         rfl
        refine take_ (i := 5) (N := some 104) (v := ?_) (a' := ?_) (f_ 13 6) rfl rfl (yd_ HT_.out HW_.out (by kernel_rfl)) (fun _ _ _ h => h) (Or.inl ⟨by rfl, ?_⟩) hHeld ?_ ?_
        rotate_left
        ·rintro w' ⟨s0, s1, s2, s3, s4⟩
         go_simp
         with_reducible rfl
        rotate_left
        ·simp only [Act.put, s1_, s2_, s3_, ka_, la_]
         rfl
        refine oa_ (i := 6) (N := some 105) (v := ?_) (a' := ?_) (f_ 13 7) rfl rfl (jb_ HT_.out (by kernel_rfl)) (fun _ _ _ h => h) (Or.inl ⟨by rfl, ?_⟩) ?_ ?_
        rotate_left
        ·intro w'
         go_simp
         with_reducible rfl
        rotate_left
        ·simp only [Act.put, s1_, s2_, s3_, ka_, la_]
         rfl
        refine one_ (i := 7) (N := some 106) (f_ 13 8) rfl rfl (lc_ HT_.out (by kernel_rfl)) (by decide) (fun K hK => ?_)
        refine id_ Tryz.func25 (by kernel_rfl) rfl #[.int .i64 x10_3, .int .i64 (x150001_1.length : Int)] (by rfl) rfl rfl (by (try simp only [List.map_toArray, List.map_cons, List.map_nil]); first | done | rfl | (simp only [List.length_drop, List.length_take]; rfl)) ?_
        with_reducible refine (l4_within.calls x10_3 (x150001_1.length : Int) t176 _ A87.out).mono ?_
        rintro e w' ⟨rfl, ⟨nd, rfl⟩⟩
        refine ⟨_, rfl, ?_⟩
        refine hK.out _ _ ⟨(ca_ BK149.out 0).trans rfl, (ca_ BK149.out 1).trans rfl, (ca_ BK149.out 2).trans rfl, (ca_ BK149.out 3).trans rfl, (ca_ BK149.out 4).trans rfl⟩ (fun hHeld => ?_)
        clear hK K
        refine ab_ (a' := ?_) ?_ ?_
        rotate_left
        ·show Act.put _ (some 106) _ = _
         simp only [Act.put, s1_, s2_, s3_, ka_, la_]
         rfl
        refine one_ (i := 8) (N := some 107) (f_ 13 9) rfl rfl (lc_ HT_.out (by kernel_rfl)) (by decide) (fun K hK => ?_)
        refine re_ (w1 := ?_) (v := ?_) (by rfl) rfl ?_ ?_
        rotate_left 2
        ·go_simp
         constructor
         ·rfl
         rfl
        refine hK.out _ _ ⟨(ca_ (ga_ BK149.out _) 0).trans rfl, (ca_ (ga_ BK149.out _) 1).trans rfl, (ca_ (ga_ BK149.out _) 2).trans rfl, (ca_ (ga_ BK149.out _) 3).trans rfl, (ca_ (ga_ BK149.out _) 4).trans rfl⟩ (fun hHeld => ?_)
        clear hK K
        refine ab_ (a' := ?_) ?_ ?_
        rotate_left
        ·show Act.put _ (some 107) _ = _
         simp only [Act.put, s1_, s2_, s3_, ka_, la_]
         rfl
        refine one_ (i := 9) (N := some 108) (f_ 13 10) rfl rfl (lc_ HT_.out (by kernel_rfl)) (by decide) (fun K hK => ?_)
        refine Kd.R_append_step (Kd.int .i64) (w0 := w) w.heap.size (by rfl) (.tmp 101) (.tmp 107) 23 3 (.int .i64 0) 8 rfl Tryz.underlying23 ae_ rfl (by decide) (by omega) u150003 x150003_3 t176 [.int .i64 t176] (fun k_ => some k_ ≠ (.slice Ao93 x150001_1.length co93 : Value).ownBlock) (fun _ => False) rfl rfl ?aP (fun _ hk => hk.elim) ?aF ?aO ?aB ?aS ?aL ?_
        (case aP => exact rfl)
        (case aB => exact (by repeat (first | (with_reducible first | exact HB.out | apply ba_ | apply aa_ | apply da_ | refine ja_ ?_ GE145.out | refine ja_ ?_ GE146.out | refine ja_ ?_ GE149.out) | exact HB.out)))
        (case aF => exact (fun k_ hk => Kd.fresh' (Kd.R_lt (by (with_reducible repeat (first | apply Kd.R_alloc | apply Kd.R_drewN | apply Kd.R_drew)); exact HO_150001.out)) k_ hk))
        (case aO => exact (by (with_reducible repeat (first | apply Kd.R_alloc | apply Kd.R_drewN | apply Kd.R_drew)); exact HO_150003.out))
        (case aS => exact (na_ (by repeat (first | (with_reducible first | exact HB.out | apply ba_ | apply aa_ | apply da_ | refine ja_ ?_ GE145.out | refine ja_ ?_ GE146.out | refine ja_ ?_ GE149.out) | exact HB.out))))
        (case aL => have := LMc88.out; omega)
        intro v178 w94 ho hb hg hat
        rw [← Ny177.out] at ho
        have n0_ := Aside0.mk (Kd.R_after (ok := (fun _ => True)) (by (with_reducible repeat (first | apply Kd.R_alloc | apply Kd.R_drewN | apply Kd.R_drew)); exact Kd.R_mono HO_150001.out (fun _ hk => ⟨trivial, hk⟩)) hg hat)
        have n1_ := Aside0.mk (xa_ (g := gb145) (o := .cells #[.int .i64 a0_0, .int .i64 a0_1, .int .i64 a0_2, .slice A0_3 l0_3.length c0_3, .slice A0_4 l0_4.length c0_4] 50 (0, 0)) (by (with_reducible repeat (first | refine ha_ ?_ _ | refine ia_ ?_ | refine ga_ ?_ _)); exact BK145.out) hg (Kd.R_ne HO_150003.out BK145.out (by decide)))
        have n2_ := Aside0.mk (xa_ (g := gb146) (o := .cells #[.int .i64 0, .slice none 0 0, .int .i64 0, .slice none 0 0, .int .i64 0] 48 (0, 0)) (by (with_reducible repeat (first | refine ha_ ?_ _ | refine ia_ ?_ | refine ga_ ?_ _)); exact BK146.out) hg (Kd.R_ne HO_150003.out BK146.out (by decide)))
        have n3_ := Aside0.mk (xa_ (g := gb149) (o := .cells #[.int .i64 t147, .slice Ao93 x150001_1.length co93, .int .i64 t150, u150003, .int .i64 t148] 48 (0, 0)) (by (with_reducible repeat (first | refine ha_ ?_ _ | refine ia_ ?_ | refine ga_ ?_ _)); exact BK149.out) hg (Kd.R_ne HO_150003.out BK149.out (by decide)))
        have n4_ := Aside0.mk (hb)
        have n5_ := Aside0.mk (ho)
        clear HO_150001
        clear BK145
        clear BK146
        clear BK149
        clear HB
        clear HO_150003
        have HO_150001 := n0_
        have BK145 := n1_
        have BK146 := n2_
        have BK149 := n3_
        have HB := n4_
        have HO179 := n5_
        clear n0_ n1_ n2_ n3_ n4_ n5_
        clear ho hb hg hat
        obtain ⟨Ao95, co95, eo95⟩ := Kd.R_slice HO179.out
        (first | subst eo95 | (injection eo95 with f1_ f2_ f3_; have f4_ := f1_.symm; have f5_ := f3_.symm; clear f1_ f2_ f3_; subst f4_; subst f5_))
        refine hK.out _ _ ⟨(ca_ BK149.out 0).trans rfl, (ca_ BK149.out 1).trans rfl, (ca_ BK149.out 2).trans rfl, (ca_ BK149.out 3).trans rfl, (ca_ BK149.out 4).trans rfl⟩ (fun hHeld => ?_)
        clear hK K
        refine ab_ (a' := ?_) ?_ ?_
        rotate_left
        ·show Act.put _ (some 108) _ = _
         simp only [Act.put, s1_, s2_, s3_, ka_, la_]
         rfl
        refine oa_ (i := 10) (N := some 109) (v := ?_) (a' := ?_) (f_ 13 11) rfl rfl (jb_ HT_.out (by kernel_rfl)) (fun _ _ _ h => h) (Or.inl ⟨by rfl, ?_⟩) ?_ ?_
        rotate_left
        ·intro w'
         go_simp
         with_reducible rfl
        rotate_left
        ·simp only [Act.put, s1_, s2_, s3_, ka_, la_]
         rfl
        refine oa_ (i := 11) (N := some 110) (v := ?_) (a' := ?_) (f_ 13 12) rfl rfl (jb_ HT_.out (by kernel_rfl)) (fun _ _ _ h => h) (Or.inl ⟨by rfl, ?_⟩) ?_ ?_
        rotate_left
        ·intro w'
         go_simp
         with_reducible rfl
        rotate_left
        ·simp only [Act.put, s1_, s2_, s3_, ka_, la_]
         rfl
        refine gg_ (i := 12) (N := none) (f_ 13 13) rfl rfl (lc_ HT_.out (by kernel_rfl)) (by decide) (fun K hK => ?_)
        have hs96 : w94.cell? ⟨gb149, 3, none⟩ = some (u150003) := (ca_ BK149.out 3).trans rfl
        have hfs96 := fa_ BK149.out 3
        have hns96_0 := NB145_149.out
        have hns96_1 := NB146_149.out
        have hms96_0 := NB149_145.out
        have hms96_1 := NB149_146.out
        refine sn_ (w1 := ?_) (by rfl) rfl ?_ ?_
        rotate_left
        ·go_simp
         rfl
        refine hK.out _ _ ?_
        clear hK K
        refine ie_ (vh_ HT_.out (by kernel_rfl)) ?_
        try go_wp2
        go_roundg k3
        case measure => have := HK1.out; have := HJ26.out; have := HK3.out; omega
        case rel => exact ⟨(wrap64 (x10_3 + 1)), (y177), (.slice Ao95 y177.length co95), (by first | rfl | (simp; done) | (simp [*]; done)), H', ⟨by have := HK1.out; have := HJ26.out; have := HK3.out; omega⟩, ⟨by (with_reducible repeat (first | apply Kd.R_alloc | apply Kd.R_drewN | apply Kd.R_drew)); exact Kd.R_mono (Kd.R_far (p := ⟨gb149, 3, none⟩) (Kd.R_types HO_150001.out BK149.out (by decide)) (fun _ hk => hk.2) (.slice Ao95 y177.length co95)) (fun _ hk => hk.1.2)⟩, ⟨by (with_reducible repeat (first | apply Kd.R_alloc | apply Kd.R_drewN | apply Kd.R_drew)); exact Kd.R_mono (Kd.R_far (p := ⟨gb149, 3, none⟩) (Kd.R_types HO179.out BK149.out (by decide)) (fun _ hk => hk.2) (.slice Ao95 y177.length co95)) (fun _ hk => hk.1)⟩, ⟨by (with_reducible repeat (first | refine ha_ ?_ _ | refine ia_ ?_ | refine ga_ ?_ _)); refine mc_ ?_ NB145_149.out _; (with_reducible repeat (first | refine ha_ ?_ _ | refine ia_ ?_ | refine ga_ ?_ _)); exact BK145.out⟩, ⟨by (with_reducible repeat (first | refine ha_ ?_ _ | refine ia_ ?_ | refine ga_ ?_ _)); refine mc_ ?_ NB146_149.out _; (with_reducible repeat (first | refine ha_ ?_ _ | refine ia_ ?_ | refine ga_ ?_ _)); exact BK146.out⟩, ⟨by (with_reducible repeat (first | refine ha_ ?_ _ | refine ia_ ?_ | refine ga_ ?_ _)); refine wc_ (cs := #[.int .i64 t147, .slice Ao93 x150001_1.length co93, .int .i64 t150, u150003, .int .i64 t148]) ?_ 3 _ rfl; (with_reducible repeat (first | refine ha_ ?_ _ | refine ia_ ?_ | refine ga_ ?_ _)); exact BK149.out⟩, ⟨by repeat (first | (with_reducible first | exact HB.out | apply ba_ | apply aa_ | apply da_ | refine ja_ ?_ GE145.out | refine ja_ ?_ GE146.out | refine ja_ ?_ GE149.out) | exact HB.out)⟩⟩
       rw [if_neg c88] at H
       exact absurd H (by simp)
      rw [if_neg c74] at H
      have c74b0 : decide (x10_3 < (rd y151 t150)) = false := decide_eq_false c74
      clear c74
      simp only [Option.some.injEq, Prod.mk.injEq] at H
      obtain ⟨rfl, rfl, rfl, rfl, rfl⟩ := H
      have hnb97 := NB149_145.out
      have hnc97 := NB145_149.out
      have hnb98 := NB149_146.out
      have hnc98 := NB146_149.out
      have hcz99_0 : wr.cell? ⟨gb149, 0, none⟩ = some (.int .i64 t147) := (ca_ BK149.out 0).trans rfl
      have hcz99_1 : wr.cell? ⟨gb149, 1, none⟩ = some (u150001) := (ca_ BK149.out 1).trans rfl
      have hcz99_2 : wr.cell? ⟨gb149, 2, none⟩ = some (.int .i64 t150) := (ca_ BK149.out 2).trans rfl
      have hcz99_3 : wr.cell? ⟨gb149, 3, none⟩ = some (u150003) := (ca_ BK149.out 3).trans rfl
      have hcz99_4 : wr.cell? ⟨gb149, 4, none⟩ = some (.int .i64 t148) := (ca_ BK149.out 4).trans rfl
      have hfz99_0 := fa_ BK149.out 0
      have hfz99_1 := fa_ BK149.out 1
      have hfz99_2 := fa_ BK149.out 2
      have hfz99_3 := fa_ BK149.out 3
      have hfz99_4 := fa_ BK149.out 4
      have hnb100 := NB146_145.out
      have hnc100 := NB145_146.out
      have hcz101_0 : wr.cell? ⟨gb146, 0, none⟩ = some (.int .i64 0) := (ca_ BK146.out 0).trans rfl
      have hcz101_1 : wr.cell? ⟨gb146, 1, none⟩ = some (.slice none 0 0) := (ca_ BK146.out 1).trans rfl
      have hcz101_2 : wr.cell? ⟨gb146, 2, none⟩ = some (.int .i64 0) := (ca_ BK146.out 2).trans rfl
      have hcz101_3 : wr.cell? ⟨gb146, 3, none⟩ = some (.slice none 0 0) := (ca_ BK146.out 3).trans rfl
      have hcz101_4 : wr.cell? ⟨gb146, 4, none⟩ = some (.int .i64 0) := (ca_ BK146.out 4).trans rfl
      have hfz101_0 := fa_ BK146.out 0
      have hfz101_1 := fa_ BK146.out 1
      have hfz101_2 := fa_ BK146.out 2
      have hfz101_3 := fa_ BK146.out 3
      have hfz101_4 := fa_ BK146.out 4
      obtain ⟨Ao102, co102, eo102⟩ := Kd.R_slice HO_150001.out
      subst eo102
      obtain ⟨Ao103, co103, eo103⟩ := Kd.R_slice HO_150003.out
      subst eo103
      go_wp2
      refine bodyPost_ret (results_cell_row rfl _ _ gb146 48 #[.int .i64 t147, .slice Ao102 x150001_1.length co102, .int .i64 t150, .slice Ao103 x150003_3.length co103, .int .i64 t148] (0, 0) _ rfl (by (with_reducible repeat (first | refine ha_ ?_ _ | refine ia_ ?_ | refine ga_ ?_ _)); refine wc_ (cs := #[.int .i64 t147, .slice Ao102 x150001_1.length co102, .int .i64 t150, .slice Ao103 x150003_3.length co103, .int .i64 0]) ?_ 4 _ rfl; (with_reducible repeat (first | refine ha_ ?_ _ | refine ia_ ?_ | refine ga_ ?_ _)); refine wc_ (cs := #[.int .i64 t147, .slice Ao102 x150001_1.length co102, .int .i64 t150, .slice none 0 0, .int .i64 0]) ?_ 3 _ rfl; (with_reducible repeat (first | refine ha_ ?_ _ | refine ia_ ?_ | refine ga_ ?_ _)); refine wc_ (cs := #[.int .i64 t147, .slice Ao102 x150001_1.length co102, .int .i64 0, .slice none 0 0, .int .i64 0]) ?_ 2 _ rfl; (with_reducible repeat (first | refine ha_ ?_ _ | refine ia_ ?_ | refine ga_ ?_ _)); refine wc_ (cs := #[.int .i64 t147, .slice none 0 0, .int .i64 0, .slice none 0 0, .int .i64 0]) ?_ 1 _ rfl; (with_reducible repeat (first | refine ha_ ?_ _ | refine ia_ ?_ | refine ga_ ?_ _)); refine wc_ (cs := #[.int .i64 0, .slice none 0 0, .int .i64 0, .slice none 0 0, .int .i64 0]) ?_ 0 _ rfl; (with_reducible repeat (first | refine ha_ ?_ _ | refine ia_ ?_ | refine ga_ ?_ _)); exact BK146.out) Tryz.underlying48 rfl (by kernel_rfl)) rfl ?_
      exact ⟨_, _, by first | rfl | (simp [wa_, va_] <;> rfl) | (simp [*, wa_, va_] <;> rfl), by (with_reducible repeat (first | apply Kd.R_alloc | apply Kd.R_drewN | apply Kd.R_drew)); exact Kd.R_mono (Kd.R_far (p := ⟨gb146, 4, none⟩) (Kd.R_far (p := ⟨gb146, 3, none⟩) (Kd.R_far (p := ⟨gb146, 2, none⟩) (Kd.R_far (p := ⟨gb146, 1, none⟩) (Kd.R_far (p := ⟨gb146, 0, none⟩) (Kd.R_types HO_150001.out BK146.out (by decide)) (fun _ hk => hk.2) (.int .i64 t147)) (fun _ hk => hk.2) (.slice Ao102 x150001_1.length co102)) (fun _ hk => hk.2) (.int .i64 t150)) (fun _ hk => hk.2) (.slice Ao103 x150003_3.length co103)) (fun _ hk => hk.2) (.int .i64 t148)) (fun _ hk => hk.1), by (with_reducible repeat (first | apply Kd.R_alloc | apply Kd.R_drewN | apply Kd.R_drew)); exact Kd.R_mono (Kd.R_far (p := ⟨gb146, 4, none⟩) (Kd.R_far (p := ⟨gb146, 3, none⟩) (Kd.R_far (p := ⟨gb146, 2, none⟩) (Kd.R_far (p := ⟨gb146, 1, none⟩) (Kd.R_far (p := ⟨gb146, 0, none⟩) (Kd.R_types HO_150003.out BK146.out (by decide)) (fun _ hk => hk.2) (.int .i64 t147)) (fun _ hk => hk.2) (.slice Ao102 x150001_1.length co102)) (fun _ hk => hk.2) (.int .i64 t150)) (fun _ hk => hk.2) (.slice Ao103 x150003_3.length co103)) (fun _ hk => hk.2) (.int .i64 t148)) (fun _ hk => hk.1), by repeat (first | (with_reducible first | exact HB.out | apply ba_ | apply aa_ | apply da_ | refine ja_ ?_ GE145.out | refine ja_ ?_ GE146.out | refine ja_ ?_ GE149.out) | exact HB.out)⟩
  rw [if_neg c7] at H
  exact absurd H (by simp)
 rw [if_neg c6] at H
 exact absurd H (by simp)
def lowP (n : Int) (l : List Int) : Nat := (l.takeWhile fun x => decide (x < n)).length
def putP (l : List Int) (n : Int) : List Int := if (l.drop (lowP n l)).head? = some n then l else l.take (lowP n l) ++ n :: l.drop (lowP n l)
theorem fp_ (n : Int) : ∀ (l : List Int) (k : Nat), k ≤ l.length → (∀ j, j < k → ∀ h : j < l.length, l[j] < n) → (∀ h : k < l.length, ¬ l[k] < n) → lowP n l = k
 | [], k, hk, _, _ => by simp at hk; subst hk; rfl
 | x :: l, 0, _, _, h1 => by
  have h2 := h1 (by simp)
  unfold lowP
  rw [List.takeWhile_cons, if_neg (by simpa using h2)]
  rfl
 | x :: l, k + 1, hk, h0, h1 => by
  have h2 := h0 0 (by omega) (by simp)
  have h3 : x < n := h2
  have h4 := fp_ n l k (by simpa using hk) (fun j hj hl => by have := h0 (j + 1) (by omega) (by simpa using hl); simpa using this) (fun hl => by have := h1 (by simpa using hl); simpa using this)
  unfold lowP at h4 ⊢
  rw [List.takeWhile_cons, if_pos (by simpa using h3), List.length_cons, h4]
section
variable {ops : Array Oper} {o : Oper} {a : Act} {Q : Exit → Act → World → Prop} {Kc : Act → World → Prop}
theorem hf_ {W : World} {v : Value} (op : Op) (_h : o.op = op) (h : if Region.wanted o (yielded ops a.tmps) = true then Oper.wp Tryz.prog o a W Kc Q else Kc (a.put o.dst v) W) : if Region.wanted o (yielded ops a.tmps) = true then Oper.wp Tryz.prog o a W Kc Q else Kc (a.put o.dst v) W := h
theorem nu_ {W : World} {g : Nat} {n : Int} (h : W.heap[g]? = some (.cells #[.int .i64 n] 3 (0, 0))) : Kd.C (Kd.int .i64) W (some ⟨g, 0, none⟩) 1 [n] :=
 rc_ (d := Kd.int .i64) (xs := [n]) (cs := [.int .i64 n]) h (by simp) (lf_ rfl rfl)
theorem er_ {W : World} {base g : Nat} (h : W.heap[g]? = some (.cells #[] 3 (0, 0))) (hb : base ≤ g) : Kd.R (Kd.int .i64) 3 W base (fun _ => True) (.slice (some ⟨g, 0, none⟩) 0 0) ([] : List Int) :=
 ⟨fun _ _ => trivial, [], ⟨rfl, .inr ⟨g, 0, #[], rfl, hb, h, Nat.le_refl _, Nat.zero_le _, rfl, rfl⟩⟩, Reps.none _ _⟩
theorem ng_ {w0 W : World} (base : Nat) (hw : Region.wanted o (yielded ops a.tmps) = true) (s x : Operand) (ho : o.op = .call { callee := .builtin .append, args := #[s, x], argTypes := #[23, 23] })
  (v : Value) (xs ys : List Int) (A : Option Addr) (m c : Nat) (hs : a.eval s = v) (hx : a.eval x = .slice A m c)
  (HO : Kd.R (Kd.int .i64) 3 W base (fun _ => True) v xs) (HR : Kd.C (Kd.int .i64) W A m ys) (HB : Below base w0 W) (hbase : base ≤ W.heap.size) (hl : (xs.length + m) * 8 ≤ 140737488355328)
  (h : ∀ v1 w1, Kd.R (Kd.int .i64) 3 w1 base (fun _ => True) v1 (xs ++ ys) → Below base w0 w1 → W.grownBy w1 v.ownBlock → Kc (a.put o.dst v1) w1) :
  if Region.wanted o (yielded ops a.tmps) = true then Oper.wp Tryz.prog o a W Kc Q else Kc (a.put o.dst undef) W :=
 Kd.R_append_rows_step (Kd.int .i64) base hw s x 23 3 (.int .i64 0) 8 ho Tryz.underlying23 ae_ rfl (by decide) (by omega) v xs ys A m c (fun _ => True) (fun _ => False) hs hx HO HR (fun _ _ h => h) (fun _ hk => hk.elim) (fun _ _ => trivial) HB hbase hl (fun v1 w1 h1 h2 h3 _ => h v1 w1 h1 h2 h3)
end
set_option maxHeartbeats 4000000 in
set_option maxRecDepth 100000 in
theorem put_walk (A0 : Option Addr) (c0 : Nat) (l : List Int) (n : Int) (w : World) (hr0 : Kd.C (Kd.int .i64) w A0 l.length l) (hc0 : l.length ≤ c0) (hl : l.length ≤ 1000000000000) :
  Calls Tryz.prog 43 #[.slice A0 l.length c0, .int .i64 n] w fun e w' => ∃ v : Value, e = .returned v ∧ Below w.heap.size w w' ∧ ((v = .slice A0 l.length c0 ∧ putP l n = l) ∨ Kd.R (Kd.int .i64) 3 w' w.heap.size (fun _ => True) v (putP l n)) := by
 have HR := Aside0.mk hr0
 have HC := Aside0.mk hc0
 clear hr0 hc0
 go_enter Tryz.func43, Tryz.ntmps43
 go_wp2
 go_loopg [5] l.length (fun gg s5 wr => ∃ kk : Nat, kk ≤ l.length ∧ l.length - kk ≤ gg ∧ s5 = .int .i64 kk ∧ Drawn0 w wr ∧ Aside0 (∀ j, j < kk → ∀ h : j < l.length, l[j] < n))
 case atStart => exact ⟨0, Nat.zero_le _, by omega, rfl, Drawn0.refl _, ⟨fun j hj => absurd hj (Nat.not_lt_zero _)⟩⟩
 obtain ⟨kk, hkk, hgg, rfl, ⟨nd, rfl⟩, AB⟩ := hrel
 by_cases hlt : kk < l.length
 ·have hltz : (kk : Int) < (l.length : Int) := by omega
  obtain ⟨ad, hA, hcell⟩ := Kd.at_int HR.out kk (by omega) hltz
  rw [Int.toNat_natCast] at hcell
  rw [de_ l kk hlt] at hcell
  have hcell2 : (w.drewN nd).cell? (ad.add kk) = some (.int .i64 l[kk]) := hcell
  subst hA
  clear hcell
  by_cases hx : l[kk] < n
  ·have hxb : decide (l[kk] < n) = true := decide_eq_true hx
   generalize hy : l[kk] = y at *
   clear hx
   go_wp2
   go_roundg (l.length - (kk + 1))
   case measure => omega
   case rel =>
    refine ⟨kk + 1, by omega, by omega, by go_num, ⟨_, rfl⟩, ⟨fun j hj hl => ?_⟩⟩
    by_cases e : j = kk
    ·subst e; rw [hy]; exact of_decide_eq_true hxb
    exact AB.out j (by omega) hl
  have hlow := fp_ n l kk hkk AB.out (fun _ => hx)
  by_cases he : l[kk] = n
  ·have hxb : decide (l[kk] < n) = false := decide_eq_false hx
   have heb : decide (l[kk] = n) = true := decide_eq_true he
   have hz : putP l n = l := by
    unfold putP
    rw [hlow, List.head?_drop, List.getElem?_eq_getElem hlt, if_pos (by rw [he])]
   generalize hy : l[kk] = y at *
   clear hx
   go_wp2
   go_ret
   exact ⟨_, rfl, aa_ (Below.refl _ _) _, .inl ⟨rfl, hz⟩⟩
  have hxb : decide (l[kk] < n) = false := decide_eq_false hx
  have heb : decide (l[kk] = n) = false := decide_eq_false he
  have hz : putP l n = l.take kk ++ n :: l.drop kk := by
   unfold putP
   rw [hlow, List.head?_drop, List.getElem?_eq_getElem hlt, if_neg (fun h => he (Option.some.inj h))]
  generalize hy : l[kk] = y at *
  clear hx
  obtain ⟨i0, hi, hz0, hz1, hz2⟩ := info_parts ae_
  obtain ⟨htk, htr, htc⟩ := di_ (P := Tryz.prog) (Value.int .i64) (0 : Int) 23 3 .i64 Tryz.underlying23 hi hz1 (some ad) c0 l (kk : Int) (by omega) (by omega) HC.out
  obtain ⟨A', hdk, hdr, hdc⟩ := bg_ (P := Tryz.prog) (Value.int .i64) (0 : Int) 23 3 .i64 Tryz.underlying23 hi hz1 (some ad) c0 l (kk : Int) (by omega) (by omega) HC.out
  rw [Int.toNat_natCast] at htc hdc
  simp only [Int.toNat_natCast] at htk htr hdk hdr
  have HT := Aside0.mk (Kd.C_of_reads (enc := Value.int .i64) (h1 := fun _ => rfl) (htr w (Kd.reads_of_C (d := (0 : Int)) HR.out)))
  have HD := Aside0.mk (Kd.C_of_reads (enc := Value.int .i64) (h1 := fun _ => rfl) (hdr w (Kd.reads_of_C (d := (0 : Int)) HR.out)))
  have HPZ := Aside0.mk hz
  clear htr hdr htc hdc hi hz0 hz1 hz2 hz
  have hlt1 : (l.take kk).length ≤ 1000000000000 := Nat.le_trans (List.length_take_le _ _) (by omega)
  have hld1 : (l.drop kk).length ≤ 1000000000000 := by rw [List.length_drop]; omega
  generalize l.take kk = lt at *
  generalize l.drop kk = ld at *
  go_wp2
  have hbw : ∀ W, Below w.heap.size w W → Kd.C (Kd.int .i64) W (some ad) lt.length lt ∧ Kd.C (Kd.int .i64) W A' ld.length ld := fun W hb => ⟨Kd.C_below HT.out hb, Kd.C_below HD.out hb⟩
  go_region_law (first
   | (refine hf_ (.call { callee := .builtin .append, args := #[.tmp 33, .tmp 36], argTypes := #[23, 23] }) rfl ?_; refine ng_ (w0 := w) w.heap.size (by rfl) (.tmp 33) (.tmp 36) (by rfl) (.slice (some ⟨_, 0, none⟩) 0 0) [] lt (some ad) lt.length c0 (by rfl) (by rfl) (er_ (by repeat (first | exact nc_ (by first | rfl | (simp; done)) | apply ua_)) (by omega)) (hbw _ (by repeat (first | (with_reducible first | exact Below.refl _ _ | exact hb1 | exact hb2 | apply ba_ | apply aa_ | apply da_)))).1 (by repeat (first | (with_reducible first | exact Below.refl _ _ | exact hb1 | exact hb2 | apply ba_ | apply aa_ | apply da_))) (by first | (simp; done) | (simp; omega)) (by first | omega | (simp; omega)) ?_; intro v1 w1 ho1 hb1 hg1)
   | (refine hf_ (.call { callee := .builtin .append, args := #[.tmp 40, .tmp 43], argTypes := #[23, 23] }) rfl ?_; refine ng_ (w0 := w) w.heap.size (by rfl) (.tmp 40) (.tmp 43) (by rfl) v2 (lt ++ [n]) ld A' ld.length (c0 - kk) (by rfl) (by rfl) ho2 (hbw _ hb2).2 hb2 hb2.size (by first | omega | (simp; omega)) ?_; intro v3 w3 ho3 hb3 hg3)
   | (refine hf_ (.call { callee := .builtin .append, args := #[.tmp 37, .tmp 39], argTypes := #[23, 23] }) rfl ?_; refine ng_ (w0 := w) w.heap.size (by rfl) (.tmp 37) (.tmp 39) (by rfl) v1 lt [n] _ 1 1 (by rfl) (by rfl) (by first | exact ho1 | exact Kd.R_alloc ho1 _) (nu_ (by first | exact nc_ (by first | rfl | (simp; done)) | exact xa_ (by repeat (first | exact nc_ (by first | rfl | (simp; done)) | apply ua_)) hg1 (by simp [Value.ownBlock] <;> omega))) (by repeat (first | (with_reducible first | exact Below.refl _ _ | exact hb1 | exact hb2 | apply ba_ | apply aa_ | apply da_))) (by first | exact hb1.size | (have := hb1.size; simp; omega)) (by first | omega | (simp; omega)) ?_; intro v2 w2 ho2 hb2 hg2))
  all_goals
   go_wp2
   go_ret
   exact ⟨_, rfl, hb3, .inr (by rw [HPZ.out, show lt ++ n :: ld = lt ++ [n] ++ ld by simp]; exact ho3)⟩
 have hltz : ¬ (kk : Int) < (l.length : Int) := by omega
 have hke : kk = l.length := by omega
 have hlow := fp_ n l kk hkk AB.out (fun h => absurd h hlt)
 have hz : putP l n = l.take kk ++ n :: l.drop kk := by
  unfold putP
  rw [hlow, List.head?_drop, List.getElem?_eq_none (by omega), if_neg (by simp)]
 have hkl : l.length ≤ kk := by omega
 clear hke
 obtain ⟨i0, hi, hz0, hz1, hz2⟩ := info_parts ae_
 obtain ⟨htk, htr, htc⟩ := di_ (P := Tryz.prog) (Value.int .i64) (0 : Int) 23 3 .i64 Tryz.underlying23 hi hz1 A0 c0 l (kk : Int) (by omega) (by omega) HC.out
 obtain ⟨A', hdk, hdr, hdc⟩ := bg_ (P := Tryz.prog) (Value.int .i64) (0 : Int) 23 3 .i64 Tryz.underlying23 hi hz1 A0 c0 l (kk : Int) (by omega) (by omega) HC.out
 rw [Int.toNat_natCast] at htc hdc
 simp only [Int.toNat_natCast] at htk htr hdk hdr
 have HT := Aside0.mk (Kd.C_of_reads (enc := Value.int .i64) (h1 := fun _ => rfl) (htr w (Kd.reads_of_C (d := (0 : Int)) HR.out)))
 have HD := Aside0.mk (Kd.C_of_reads (enc := Value.int .i64) (h1 := fun _ => rfl) (hdr w (Kd.reads_of_C (d := (0 : Int)) HR.out)))
 have HPZ := Aside0.mk hz
 clear htr hdr htc hdc hi hz0 hz1 hz2 hz
 have hlt1 : (l.take kk).length ≤ 1000000000000 := Nat.le_trans (List.length_take_le _ _) (by omega)
 have hld1 : (l.drop kk).length ≤ 1000000000000 := by rw [List.length_drop]; omega
 generalize l.take kk = lt at *
 generalize l.drop kk = ld at *
 go_wp2
 have hbw : ∀ W, Below w.heap.size w W → Kd.C (Kd.int .i64) W A0 lt.length lt ∧ Kd.C (Kd.int .i64) W A' ld.length ld := fun W hb => ⟨Kd.C_below HT.out hb, Kd.C_below HD.out hb⟩
 go_region_law (first
  | (refine hf_ (.call { callee := .builtin .append, args := #[.tmp 33, .tmp 36], argTypes := #[23, 23] }) rfl ?_; refine ng_ (w0 := w) w.heap.size (by rfl) (.tmp 33) (.tmp 36) (by rfl) (.slice (some ⟨_, 0, none⟩) 0 0) [] lt A0 lt.length c0 (by rfl) (by rfl) (er_ (by repeat (first | exact nc_ (by first | rfl | (simp; done)) | apply ua_)) (by omega)) (hbw _ (by repeat (first | (with_reducible first | exact Below.refl _ _ | exact hb1 | exact hb2 | apply ba_ | apply aa_ | apply da_)))).1 (by repeat (first | (with_reducible first | exact Below.refl _ _ | exact hb1 | exact hb2 | apply ba_ | apply aa_ | apply da_))) (by first | (simp; done) | (simp; omega)) (by first | omega | (simp; omega)) ?_; intro v1 w1 ho1 hb1 hg1)
  | (refine hf_ (.call { callee := .builtin .append, args := #[.tmp 40, .tmp 43], argTypes := #[23, 23] }) rfl ?_; refine ng_ (w0 := w) w.heap.size (by rfl) (.tmp 40) (.tmp 43) (by rfl) v2 (lt ++ [n]) ld A' ld.length (c0 - kk) (by rfl) (by rfl) ho2 (hbw _ hb2).2 hb2 hb2.size (by first | omega | (simp; omega)) ?_; intro v3 w3 ho3 hb3 hg3)
  | (refine hf_ (.call { callee := .builtin .append, args := #[.tmp 37, .tmp 39], argTypes := #[23, 23] }) rfl ?_; refine ng_ (w0 := w) w.heap.size (by rfl) (.tmp 37) (.tmp 39) (by rfl) v1 lt [n] _ 1 1 (by rfl) (by rfl) (by first | exact ho1 | exact Kd.R_alloc ho1 _) (nu_ (by first | exact nc_ (by first | rfl | (simp; done)) | exact xa_ (by repeat (first | exact nc_ (by first | rfl | (simp; done)) | apply ua_)) hg1 (by simp [Value.ownBlock] <;> omega))) (by repeat (first | (with_reducible first | exact Below.refl _ _ | exact hb1 | exact hb2 | apply ba_ | apply aa_ | apply da_))) (by first | exact hb1.size | (have := hb1.size; simp; omega)) (by first | omega | (simp; omega)) ?_; intro v2 w2 ho2 hb2 hg2))
 all_goals
  go_wp2
  go_ret
  exact ⟨_, rfl, hb3, .inr (by rw [HPZ.out, show lt ++ n :: ld = lt ++ [n] ++ ld by simp]; exact ho3)⟩
theorem mem_putP (l : List Int) (n : Int) (y : Int) : y ∈ putP l n ↔ y = n ∨ y ∈ l := by
 unfold putP
 split
 case isTrue h =>
  constructor
  ·exact .inr
  rintro (rfl | h2)
  ·have : y ∈ l.drop (lowP y l) := by
    cases hd : l.drop (lowP y l) with
    | nil => rw [hd] at h; cases h
    | cons a t => rw [hd] at h; simp at h; simp [h]
   exact List.mem_of_mem_drop this
  exact h2
 case isFalse h =>
  rw [List.mem_append, List.mem_cons]
  constructor
  ·rintro (h | rfl | h)
   ·exact .inr (List.mem_of_mem_take h)
   ·exact .inl rfl
   exact .inr (List.mem_of_mem_drop h)
  rintro (rfl | h)
  ·exact .inr (.inl rfl)
  rw [← List.take_append_drop (lowP n l) l, List.mem_append] at h
  rcases h with h | h
  ·exact .inl h
  exact .inr (.inr h)
def oneOf (r : qa_) : Bool := decide (r.f1.length = 1 ∧ 0 ≤ rd r.f1 0)
def wd_ (rows : Nat → List Int) (r : qa_) : Nat → List Int := fun s => if oneOf r = true ∧ r.f0 = (s : Int) then putP (rows s) (rd r.f1 0) else rows s
def gb_ (l : List qa_) : Nat → List Int := l.foldl wd_ (fun _ => [])
theorem wo_ (l : List qa_) (k : Nat) (h : k < l.length) : gb_ (l.take (k + 1)) = wd_ (gb_ (l.take k)) l[k] := by
 unfold gb_
 rw [List.take_succ_eq_append_getElem h, List.foldl_append]
 rfl
theorem putP_len (l : List Int) (n : Int) : (putP l n).length ≤ l.length + 1 := by
 unfold putP
 split
 ·omega
 rw [List.length_append, List.length_cons, List.length_take, List.length_drop]
 have : lowP n l ≤ l.length := by
  unfold lowP
  exact (List.takeWhile_sublist _).length_le
 omega
theorem qq_ (l : List qa_) (s : Nat) : (gb_ l s).length ≤ l.length := by
 suffices h : ∀ (l : List qa_) (rows : Nat → List Int) (n : Nat), (rows s).length ≤ n → (l.foldl wd_ rows s).length ≤ n + l.length by
  have := h l (fun _ => []) 0 (Nat.le_refl _)
  rw [Nat.zero_add] at this
  exact this
 intro l
 induction l with
 | nil => intro rows n h; exact h
 | cons r l ih =>
  intro rows n h
  have h2 : (wd_ rows r s).length ≤ n + 1 := by
   unfold wd_
   split
   ·exact Nat.le_trans (putP_len _ _) (by omega)
   omega
  have := ih (wd_ rows r) (n + 1) h2
  rw [List.foldl_cons, List.length_cons, show n + (l.length + 1) = n + 1 + l.length by omega]
  exact this
def se_ (l0 : List qa_) : List (List Int) := (List.range 20).map (gb_ l0)
theorem URows.swap {base g : Nat} {rows rows' : Nat → List Int} {W W1 : World} {vals : List Value} {f : Nat → Nat} {i : Nat} {v0 v1 : Value} (h : URows base g rows 20 W vals f) (hb : Below W.heap.size W W1) (hw : base ≤ W.heap.size) (hv : vals[i]? = some v0) (hrows : ∀ j, j ≠ i → rows' j = rows j)
  (hc : (v1 = v0 ∧ rows' i = rows i) ∨ Kd.R (Kd.int .i64) 3 W1 W.heap.size (fun _ => True) v1 (rows' i)) : ∃ f', URows base g rows' 20 (W1.setCell ⟨g, i, none⟩ v1) (vals.set i v1) f' := by
 have hi : i < vals.length := (List.getElem?_eq_some_iff.1 hv).1
 have hi20 : i < 20 := by have := h.len; omega
 have hgl := kc_ h.blk
 refine ⟨fun k => if k < W.heap.size then f k else i, by rw [List.length_set]; exact h.len, ?_, h.ge, fun j hj => ?_, fun j hj hj2 => by omega⟩
 ·refine wc_ (ya_ h.blk hb) i v1 ?_
  simp
 by_cases e : j = i
 ·subst e
  refine ⟨v1, by rw [List.getElem?_set_self hi], ?_⟩
  rcases hc with ⟨e1, e2⟩ | hR
  ·obtain ⟨v, h1, h2⟩ := h.done j hj
   rw [hv] at h1
   obtain rfl := Option.some.inj h1
   subst e1
   rw [e2]
   refine Kd.R_far (Kd.R_mono (Kd.R_below (Kd.R_bound h2) hb) (fun k hk => ⟨hk.1.1, ?_⟩)) (fun k hk => hk.1) _
   rw [if_pos hk.2.2.1]
   exact hk.1.2
  refine Kd.R_far (Kd.R_mono (Kd.R_lower (Kd.R_bound hR) hw) (fun k hk => ⟨?_, ?_⟩)) (fun k hk => hk.1) _
  ·have := hk.2.1
   omega
  rw [if_neg (by have := hk.2.1; omega)]
 obtain ⟨v, h1, h2⟩ := h.done j hj
 refine ⟨v, by rw [List.getElem?_set_ne (fun h => e h.symm)]; exact h1, ?_⟩
 rw [hrows j e]
 refine Kd.R_far (Kd.R_mono (Kd.R_below (Kd.R_bound h2) hb) (fun k hk => ⟨hk.1.1, ?_⟩)) (fun k hk => hk.1) _
 rw [if_pos hk.2.2.1]
 exact hk.1.2
theorem URows.below {base g : Nat} {rows : Nat → List Int} {W W1 : World} {vals : List Value} {f : Nat → Nat} {i : Nat} (h : URows base g rows i W vals f) (hb : Below W.heap.size W W1) : URows base g rows i W1 vals f :=
 ⟨h.len, ya_ h.blk hb, h.ge, fun j hj => by obtain ⟨v, h1, h2⟩ := h.done j hj; exact ⟨v, h1, Kd.R_below h2 hb⟩, h.rest⟩
theorem kv_ (A0 : Option Addr) (c0 n0 : Nat) (l : List Int) (n : Int) (w : World) (hr0 : Kd.C (Kd.int .i64) w A0 n0 l) (hc0 : n0 ≤ c0) (hl : n0 ≤ 1000000000000) (hn : l.length = n0) :
  Calls Tryz.prog 43 #[.slice A0 n0 c0, .int .i64 n] w fun e w' => ∃ A n1 c, e = .returned (.slice A n1 c) ∧ Below w.heap.size w w' ∧ ((.slice A n1 c = Value.slice A0 n0 c0 ∧ putP l n = l) ∨ Kd.R (Kd.int .i64) 3 w' w.heap.size (fun _ => True) (.slice A n1 c) (putP l n)) := by
 subst hn
 refine (put_walk A0 c0 l n w hr0 hc0 hl).mono ?_
 rintro e w' ⟨v, rfl, hb, hcase⟩
 have : ∃ A n1 c, v = .slice A n1 c := by
  rcases hcase with ⟨rfl, _⟩ | h
  ·exact ⟨_, _, _, rfl⟩
  obtain ⟨A, c, rfl⟩ := Kd.R_slice h
  exact ⟨_, _, _, rfl⟩
 obtain ⟨A, n1, c, rfl⟩ := this
 exact ⟨A, n1, c, rfl, hb, hcase⟩
set_option maxHeartbeats 4000000 in
set_option maxRecDepth 100000 in
theorem fn_ (A0 : Option Addr) (c0 : Nat) (l0 : List qa_) (w : World) (hr0 : Kd.C k48 w A0 l0.length l0) (hc0 : l0.length ≤ c0) (hu : li_ l0 = true) :
  Calls Tryz.prog 27 #[.slice A0 l0.length c0] w fun e w' => ∃ v0_ : Value, e = .returned (v0_) ∧ Kd.S (Kd.slice 3 (Kd.int .i64)) 23 w' w.heap.size (fun _ => True) v0_ (se_ l0) ∧ Below w.heap.size w w' := by
 have hu2 := hu
 simp only [li_, Bool.and_eq_true, List.all_eq_true, decide_eq_true_eq] at hu2
 obtain ⟨hu3, hlen⟩ := hu2
 have HU := Aside0.mk hu3
 have HR := Aside0.mk hr0
 have HC := Aside0.mk hc0
 clear hr0 hc0 hu hu3
 have hmk : ∀ w, (Instr.makeSlice 72 (.int .i64 20) (.int .i64 20)).run Tryz.prog w = .ok (.slice (some ⟨w.heap.size, 0, none⟩) 20 20) (w.alloc (.cells (List.replicate 20 (Value.slice none 0 0)).toArray 23)) := fun _ => by kernel_rfl
 have HU0 : Aside0 (∃ vals f, URows w.heap.size w.heap.size (fun _ => []) 20 (w.alloc (.cells (List.replicate 20 (Value.slice none 0 0)).toArray 23)) vals f) :=
  ⟨List.replicate 20 (.slice none 0 0), fun _ => 0, ⟨by simp, qb_ _ _, Nat.le_refl _, fun j hj => ⟨.slice none 0 0, by rw [List.getElem?_replicate, if_pos hj], Kd.R_nil _ _ _ _ _⟩, fun j hj hj2 => by omega⟩⟩
 have HB1 := Aside0.mk (ba_ (Below.refl w.heap.size w) (.cells (List.replicate 20 (Value.slice none 0 0)).toArray 23))
 go_enter Tryz.func27, Tryz.ntmps27
 go_wp2
 clear hmk
 go_loopg [4] l0.length (fun gg s4 wr => ∃ kk : Nat, kk ≤ l0.length ∧ l0.length - kk ≤ gg ∧ s4 = .int .i64 kk ∧ Aside0 (∃ vals f, URows w.heap.size w.heap.size (gb_ (l0.take kk)) 20 wr vals f) ∧ Aside0 (Below w.heap.size w wr))
 case atStart => exact ⟨0, Nat.zero_le _, by omega, rfl, HU0, HB1⟩
 clear HU0 HB1
 obtain ⟨kk, hkk, hgg, rfl, HX, HB⟩ := hrel
 by_cases hlt : kk < l0.length
 ·have hltz : (kk : Int) < (l0.length : Int) := by omega
  obtain ⟨ad, A1, c1, A3, c3, hA, h0, h1, h2, h3, h4, l1, g1, l3, g3⟩ := pf_ (Kd.C_below HR.out HB.out) kk (by omega) hltz
  have hx : sb_ l0 kk = l0[kk] := by simp [sb_, List.getD_eq_getElem?_getD, List.getElem?_eq_getElem hlt]
  have hsn := wo_ l0 kk hlt
  have hyr := HU.out _ (List.getElem_mem hlt)
  rw [← hx] at hsn hyr
  generalize sb_ l0 kk = y at *
  rw [Int.toNat_natCast] at h0 h1 h2 h3 h4
  subst hA
  obtain ⟨hy0, hy1⟩ := hyr
  obtain ⟨s, hs⟩ : ∃ s : Nat, y.f0 = s := ⟨y.f0.toNat, by omega⟩
  have hs20 : s < 20 := by omega
  have HSN := Aside0.mk hsn
  have HS := Aside0.mk hs
  clear hx l3 g3 hsn
  rw [hs] at h0 hy0 hy1
  clear hs
  by_cases hone : y.f1.length = 1
  ·obtain ⟨ad1, hA1, hcell⟩ := Kd.at_int g1 0 (by omega) (by omega)
   have hcell' : wr.cell? ad1 = some (.int .i64 (rd y.f1 0)) := hcell
   subst hA1
   have hlx : wr.heap.size > ad1.block := World.block_lt_of_cell? wr _ hcell'
   have hce : (wr.alloc (.cells #[.int .i64 s, .slice (some ad1) 1 c1, .int .i64 y.f2.f0, .slice A3 y.f2.f1.length c3, .int .i64 y.f3] 48)).cell? ad1 = some (.int .i64 (rd y.f1 0)) := (World.cell?_alloc_lt _ _ _ hlx).trans hcell'
   rw [hone] at h1
   generalize hrd : rd y.f1 0 = x at *
   have HRDX := Aside0.mk hrd
   clear hrd hcell g1 hcell' hlx
   have HBK := Aside0.mk (qb_ wr (.cells #[.int .i64 s, .slice (some ad1) 1 c1, .int .i64 y.f2.f0, .slice A3 y.f2.f1.length c3, .int .i64 y.f3] 48))
   have HB1 := Aside0.mk (ba_ HB.out (.cells #[.int .i64 s, .slice (some ad1) 1 c1, .int .i64 y.f2.f0, .slice A3 y.f2.f1.length c3, .int .i64 y.f3] 48))
   have HX1 : Aside0 (∃ vals f, URows w.heap.size w.heap.size (gb_ (l0.take kk)) 20 (wr.alloc (.cells #[.int .i64 s, .slice (some ad1) 1 c1, .int .i64 y.f2.f0, .slice A3 y.f2.f1.length c3, .int .i64 y.f3] 48)) vals f) := ⟨by obtain ⟨vals, f, h⟩ := HX.out; exact ⟨vals, f, h.below (ba_ (Below.refl _ _) _)⟩⟩
   have hd0 := ca_ HBK.out 0
   have hd1 := ca_ HBK.out 1
   simp only [List.getElem?_toArray, List.getElem?_cons_succ, List.getElem?_cons_zero] at hd0 hd1
   by_cases hx0 : 0 ≤ x
   ·have HST : Aside0 (∀ j : Nat, gb_ (l0.take (kk + 1)) j = if j = s then putP (gb_ (l0.take kk) s) x else gb_ (l0.take kk) j) := ⟨by
     intro j
     rw [HSN.out]
     unfold wd_
     rw [HRDX.out, HS.out]
     by_cases e : j = s
     ·subst e
      rw [if_pos rfl, if_pos ⟨decide_eq_true ⟨hone, by rw [HRDX.out]; exact hx0⟩, rfl⟩]
     rw [if_neg e, if_neg (fun h => e (by have := h.2; omega))]⟩
    obtain ⟨vals, f, hX⟩ := HX1.out
    have HX1 := Aside0.mk hX
    obtain ⟨v, hv, hRs⟩ := hX.done s hs20
    obtain ⟨Au, cu, rfl, hle, hCu⟩ := Kd.R_reads hRs
    have hcg : (wr.alloc (.cells #[.int .i64 s, .slice (some ad1) 1 c1, .int .i64 y.f2.f0, .slice A3 y.f2.f1.length c3, .int .i64 y.f3] 48)).cell? ⟨w.heap.size, s, none⟩ = some (.slice Au (gb_ (l0.take kk) s).length cu) := (ca_ hX.blk s).trans (by rw [List.getElem?_toArray]; exact hv)
    have HV := Aside0.mk hv
    have HLE := Aside0.mk hle
    have HRD1 := Aside0.mk hCu
    have HLL : Aside0 ((gb_ (l0.take kk) s).length ≤ 1000000000000) := ⟨Nat.le_trans (qq_ _ _) (Nat.le_trans (List.length_take_le _ _) (by omega))⟩
    generalize hnu : (gb_ (l0.take kk) s).length = nu at *
    have HNU := Aside0.mk hnu
    clear hv hX hRs hle hCu hnu
    clear HX HB
    go_wp2
    generalize wr.alloc (.cells #[.int .i64 s, .slice (some ad1) 1 c1, .int .i64 y.f2.f0, .slice A3 y.f2.f1.length c3, .int .i64 y.f3] 48) = W1 at *
    generalize wr.heap.size = b at *
    have HSZ0 := Aside0.mk HB1.out.size
    generalize w.heap.size = g at *
    refine td_ (n := 15) (S := fun w' => w'.cell? ⟨b, 0, none⟩ = some (.int .i64 s) ∧ w'.cell? ⟨b, 1, none⟩ = some (.slice (some ad1) 1 c1) ∧ w'.cell? ad1 = some (.int .i64 x) ∧ w'.cell? ⟨g, s, none⟩ = some (.slice Au nu cu)) (ds := [14]) (f_ 15 0) (by kernel_rfl) rfl rfl ⟨hd0, hd1, hce, hcg⟩ (fun hHeld => ?_)
    have HX2 : Aside0 (URows g g (gb_ (l0.take kk)) 20 W1.drew vals f) := ⟨HX1.out.below (yb_ (Below.refl _ _))⟩
    have HB2 : Aside0 (Below g w W1.drew) := ⟨yb_ HB1.out⟩
    have HRD : Aside0 (Kd.C (Kd.int .i64) W1.drew Au nu (gb_ (l0.take kk) s)) := ⟨Kd.C_below HRD1.out (yb_ (Below.refl _ _))⟩
    have HBG : Aside0 (W1.drew.heap[g]? = some (.cells vals.toArray 23 (0, 0))) := ⟨HX2.out.blk⟩
    have HSZ : Aside0 (g ≤ W1.drew.heap.size) := ⟨HSZ0.out⟩
    clear HX1 HB1 HRD1
    generalize W1.drew = W2 at *
    refine oa_ (i := 0) (N := some 28) (v := ?_) (a' := ?_) (f_ 15 1) rfl rfl (by kernel_rfl) (fun _ _ _ h => h) (Or.inl ⟨by rfl, ?_⟩) ?_ ?_
    rotate_left
    ·intro w'
     go_simp
     try with_reducible rfl
    rotate_left
    ·simp only [Act.put, s1_, s2_, s3_, ka_, la_]
     rfl
    refine oa_ (i := 1) (N := some 29) (v := ?_) (a' := ?_) (f_ 15 2) rfl rfl (by kernel_rfl) (fun _ _ _ h => h) (Or.inl ⟨by rfl, ?_⟩) ?_ ?_
    rotate_left
    ·intro w'
     go_simp
     try with_reducible rfl
    rotate_left
    ·simp only [Act.put, s1_, s2_, s3_, ka_, la_]
     rfl
    refine take_ (i := 2) (N := some 30) (v := ?_) (a' := ?_) (f_ 15 3) rfl rfl (by kernel_rfl) (fun _ _ _ h => h) (Or.inl ⟨by rfl, ?_⟩) hHeld ?_ ?_
    rotate_left
    ·rintro w' ⟨s0, s1, s2, s3⟩
     go_simp
     try with_reducible rfl
    rotate_left
    ·simp only [Act.put, s1_, s2_, s3_, ka_, la_]
     rfl
    refine oa_ (i := 3) (N := some 31) (v := ?_) (a' := ?_) (f_ 15 4) rfl rfl (by kernel_rfl) (fun _ _ _ h => h) (Or.inl ⟨by rfl, ?_⟩) ?_ ?_
    rotate_left
    ·intro w'
     go_simp
     try with_reducible rfl
    rotate_left
    ·simp only [Act.put, s1_, s2_, s3_, ka_, la_]
     rfl
    refine oa_ (i := 4) (N := some 32) (v := ?_) (a' := ?_) (f_ 15 5) rfl rfl (by kernel_rfl) (fun _ _ _ h => h) (Or.inl ⟨by rfl, ?_⟩) ?_ ?_
    rotate_left
    ·intro w'
     go_simp
     try with_reducible rfl
    rotate_left
    ·simp only [Act.put, s1_, s2_, s3_, ka_, la_]
     rfl
    refine take_ (i := 5) (N := some 33) (v := ?_) (a' := ?_) (f_ 15 6) rfl rfl (by kernel_rfl) (fun _ _ _ h => h) (Or.inl ⟨by rfl, ?_⟩) hHeld ?_ ?_
    rotate_left
    ·rintro w' ⟨s0, s1, s2, s3⟩
     go_simp
     try with_reducible rfl
    rotate_left
    ·simp only [Act.put, s1_, s2_, s3_, ka_, la_]
     rfl
    refine oa_ (i := 6) (N := some 34) (v := ?_) (a' := ?_) (f_ 15 7) rfl rfl (by kernel_rfl) (fun _ _ _ h => h) (Or.inl ⟨by rfl, ?_⟩) ?_ ?_
    rotate_left
    ·intro w'
     go_simp
     try with_reducible rfl
    rotate_left
    ·simp only [Act.put, s1_, s2_, s3_, ka_, la_]
     rfl
    refine take_ (i := 7) (N := some 35) (v := ?_) (a' := ?_) (f_ 15 8) rfl rfl (by kernel_rfl) (fun _ _ _ h => h) (Or.inl ⟨by rfl, ?_⟩) hHeld ?_ ?_
    rotate_left
    ·rintro w' ⟨s0, s1, s2, s3⟩
     go_simp
     try with_reducible rfl
    rotate_left
    ·simp only [Act.put, s1_, s2_, s3_, ka_, la_]
     rfl
    refine oa_ (i := 8) (N := some 36) (v := ?_) (a' := ?_) (f_ 15 9) rfl rfl (by kernel_rfl) (fun _ _ _ h => h) (Or.inl ⟨by rfl, ?_⟩) ?_ ?_
    rotate_left
    ·intro w'
     go_simp
     try with_reducible rfl
    rotate_left
    ·simp only [Act.put, s1_, s2_, s3_, ka_, la_]
     rfl
    refine take_ (i := 9) (N := some 37) (v := ?_) (a' := ?_) (f_ 15 10) rfl rfl (by kernel_rfl) (fun _ _ _ h => h) (Or.inl ⟨by rfl, ?_⟩) hHeld ?_ ?_
    rotate_left
    ·rintro w' ⟨s0, s1, s2, s3⟩
     go_simp
     try with_reducible rfl
    rotate_left
    ·simp only [Act.put, s1_, s2_, s3_, ka_, la_]
     rfl
    refine oa_ (i := 10) (N := some 38) (v := ?_) (a' := ?_) (f_ 15 11) rfl rfl (by kernel_rfl) (fun _ _ _ h => h) (Or.inl ⟨by rfl, ?_⟩) ?_ ?_
    rotate_left
    ·intro w'
     go_simp
     try with_reducible rfl
    rotate_left
    ·simp only [Act.put, s1_, s2_, s3_, ka_, la_]
     rfl
    refine take_ (i := 11) (N := some 39) (v := ?_) (a' := ?_) (f_ 15 12) rfl rfl (by kernel_rfl) (fun _ _ _ h => h) (Or.inl ⟨by rfl, ?_⟩) hHeld ?_ ?_
    rotate_left
    ·rintro w' ⟨s0, s1, s2, s3⟩
     go_simp
     try with_reducible rfl
    rotate_left
    ·simp only [Act.put, s1_, s2_, s3_, ka_, la_]
     rfl
    refine one_ (i := 12) (N := some 40) (f_ 15 13) rfl rfl (by kernel_rfl) (by decide) (fun K hK => ?_)
    refine id_ Tryz.func43 (by kernel_rfl) rfl #[.slice Au nu cu, .int .i64 x] (by rfl) rfl rfl (by (try simp only [List.map_toArray, List.map_cons, List.map_nil]); rfl) ?_
    refine (kv_ Au cu nu (gb_ (l0.take kk) s) x W2 HRD.out HLE.out HLL.out HNU.out).mono ?_
    rintro e w3 ⟨A5, n5, c5, rfl, hb3, hcase⟩
    have HB3 := Aside0.mk hb3
    have HCASE := Aside0.mk hcase
    clear hb3 hcase
    refine ⟨_, rfl, ?_⟩
    refine hK.out _ _ ⟨fb_ HB3.out hHeld.1, fb_ HB3.out hHeld.2.1, fb_ HB3.out hHeld.2.2.1, fb_ HB3.out hHeld.2.2.2⟩ (fun hHeld => ?_)
    clear hK K
    refine ab_ (a' := ?_) ?_ ?_
    rotate_left
    ·show Act.put _ (some 40) _ = _
     simp only [Act.put, s1_, s2_, s3_, ka_, la_]
     rfl
    refine oa_ (i := 13) (N := some 41) (v := ?_) (a' := ?_) (f_ 15 14) rfl rfl (by kernel_rfl) (fun _ _ _ h => h) (Or.inl ⟨by rfl, ?_⟩) ?_ ?_
    rotate_left
    ·intro w'
     go_simp
     try with_reducible rfl
    rotate_left
    ·simp only [Act.put, s1_, s2_, s3_, ka_, la_]
     rfl
    refine gg_ (i := 14) (N := none) (f_ 15 15) rfl rfl (by kernel_rfl) (by decide) (fun K hK => ?_)
    have hs24 : w3.cell? ⟨g, s, none⟩ = some (.slice Au nu cu) := hHeld.2.2.2
    have hfs24 : w3.frozen? ⟨g, s, none⟩ = false := fa_ (ya_ HBG.out HB3.out) s
    refine sn_ (w1 := ?_) (by rfl) rfl ?_ ?_
    rotate_left
    ·go_simp
     rfl
    refine hK.out _ _ ?_
    clear hK K
    refine ie_ (by kernel_rfl) ?_
    try go_wp2
    go_roundg (l0.length - (kk + 1))
    case measure => omega
    case rel =>
     refine ⟨kk + 1, by omega, by omega, by go_num, ⟨?_⟩, ⟨?_⟩⟩
     ·obtain ⟨f', h'⟩ := HX2.out.swap (rows' := gb_ (l0.take (kk + 1))) HB3.out HSZ.out HV.out (fun j hj => by rw [HST.out, if_neg hj]) (v1 := .slice A5 n5 c5) (by rw [HST.out, if_pos rfl]; exact HCASE.out)
      exact ⟨_, _, h'⟩
     exact (HB2.out.trans (HB3.out.mono HSZ.out)).setCell (Nat.le_refl _) _
   have hx0z : decide (0 ≤ x) = false := decide_eq_false hx0
   have HST : Aside0 (gb_ (l0.take (kk + 1)) = gb_ (l0.take kk)) := ⟨by
    rw [HSN.out]
    funext j
    unfold wd_ oneOf
    rw [HRDX.out, if_neg (fun h => hx0 (of_decide_eq_true h.1).2)]⟩
   clear hone
   go_wp2
   go_roundg (l0.length - (kk + 1))
   case measure => omega
   case rel => exact ⟨kk + 1, by omega, by omega, by go_num, ⟨by rw [HST.out]; exact HX1.out⟩, HB1⟩
  have HB1 := Aside0.mk (ba_ HB.out (.cells #[.int .i64 s, .slice A1 y.f1.length c1, .int .i64 y.f2.f0, .slice A3 y.f2.f1.length c3, .int .i64 y.f3] 48))
  have HX1 : Aside0 (∃ vals f, URows w.heap.size w.heap.size (gb_ (l0.take kk)) 20 (wr.alloc (.cells #[.int .i64 s, .slice A1 y.f1.length c1, .int .i64 y.f2.f0, .slice A3 y.f2.f1.length c3, .int .i64 y.f3] 48)) vals f) := ⟨by obtain ⟨vals, f, h⟩ := HX.out; exact ⟨vals, f, h.below (ba_ (Below.refl _ _) _)⟩⟩
  have honez : ((y.f1.length : Int) == 1) = false := beq_eq_false_iff_ne.2 (by omega)
  have HST : Aside0 (gb_ (l0.take (kk + 1)) = gb_ (l0.take kk)) := ⟨by
   rw [HSN.out]
   funext j
   unfold wd_ oneOf
   rw [if_neg (fun h => hone (of_decide_eq_true h.1).1)]⟩
  clear hone
  go_wp2
  go_roundg (l0.length - (kk + 1))
  case measure => omega
  case rel => exact ⟨kk + 1, by omega, by omega, by go_num, ⟨by rw [HST.out]; exact HX1.out⟩, HB1⟩
 have hltz : ¬ (kk : Int) < (l0.length : Int) := by omega
 have hkl : kk = l0.length := by omega
 subst hkl
 obtain ⟨vals, f, hU1⟩ := HX.out
 rw [List.take_length] at hU1
 have HV := Aside0.mk hU1.toS
 clear hU1 HX
 go_wp2
 go_ret
 exact ⟨_, rfl, HV.out, HB.out⟩
mutual
noncomputable def r4_wants.j0 : Nat → Int → Bool → Option (Int × Int)
 | 0, _, _ => none
 | k + 1, x4, x5 => if x5 = true then (some (1, 1)) else (if x4 = 2 then (r4_wants.j1 k x4 (x4 == 2)) else (if x4 = 5 then (r4_wants.j1 k x4 (x4 == 5)) else (if x4 = 9 then (r4_wants.j1 k x4 (x4 == 9)) else (if x4 = 12 then (r4_wants.j1 k x4 (x4 == 12)) else (if x4 = 13 then (r4_wants.j1 k x4 (x4 == 13)) else (if x4 = 14 then (r4_wants.j1 k x4 (x4 == 14)) else (r4_wants.j1 k x4 (x4 == 15))))))))
noncomputable def r4_wants.j1 : Nat → Int → Bool → Option (Int × Int)
 | 0, _, _ => none
 | k + 1, x4, x10 => if x10 = true then (some (2, 2)) else (if x4 = 1 then (r4_wants.j2 k x4 (x4 == 1)) else (r4_wants.j2 k x4 (x4 == 6)))
noncomputable def r4_wants.j2 : Nat → Int → Bool → Option (Int × Int)
 | 0, _, _ => none
 | k + 1, x4, x18 => if x18 = true then (some (3, 3)) else (if x4 = 3 then (r4_wants.j3 k x4 (x4 == 3)) else (r4_wants.j3 k x4 (x4 == 4)))
noncomputable def r4_wants.j3 : Nat → Int → Bool → Option (Int × Int)
 | 0, _, _ => none
 | k + 1, x4, x21 => if x21 = true then (some (2, 3)) else (if x4 = 10 then (some (1, 6)) else (some (1, 0)))
end
noncomputable def r4_wants.f (k : Nat) (a0 : Int) : Option (Int × Int) := if a0 = 0 then (r4_wants.j0 k a0 (a0 == 0)) else (if a0 = 7 then (r4_wants.j0 k a0 (a0 == 7)) else (if a0 = 8 then (r4_wants.j0 k a0 (a0 == 8)) else (r4_wants.j0 k a0 (a0 == 11))))
set_option maxHeartbeats 8000000 in
set_option maxRecDepth 100000 in
theorem r4_wants.calls (k : Nat) (a0 : Int) (r1 : Int) (r2 : Int) (w : World) (h : r4_wants.f k a0 = some (r1, r2)) :
  Calls Tryz.prog 42 #[.int .i64 a0] w fun e w' => e = .returned (.tuple #[.int .i64 r1, .int .i64 r2]) ∧ Drawn0 w w' := by
 have H : (if a0 = 0 then (r4_wants.j0 k a0 (a0 == 0)) else (if a0 = 7 then (r4_wants.j0 k a0 (a0 == 7)) else (if a0 = 8 then (r4_wants.j0 k a0 (a0 == 8)) else (r4_wants.j0 k a0 (a0 == 11))))) = some (r1, r2) := h
 clear h
 have HC2 := Aside0.mk H
 clear H
 go_enter Tryz.func42, Tryz.ntmps42
 go_upto_if 5 with (fail)
 go_cut [5] (fun v5 wc => ∃ (kq : Nat) (x5_1 : Bool), v5 = .bool x5_1 ∧ Aside0 (r4_wants.j0 kq a0 x5_1 = some (r1, r2)) ∧ Aside0 (kq ≤ k) ∧ Drawn0 w wc)
 case first =>
  have H := HC2.out
  clear HC2
  by_cases c3 : a0 = 0
  ·rw [if_pos c3] at H
   have c3b0 : (a0 == 0) = true := beq_iff_eq.mpr c3
   have c3b1 : (a0 != 0) = false := bne_eq_false_iff_eq.mpr c3
   clear c3
   (first | rw [c3b0] | (simp only [ka_, la_]; rw [c3b0]) | skip)
   have H' := Aside0.mk H
   clear H
   go_wp2
   go_meet
   case rel => exact ⟨_, ((a0 == 0)), (by first | rfl | (simp; done) | (simp [*]; done)), H', ⟨by first | omega | exact Nat.le_refl _⟩, by repeat (first | exact Drawn0.refl _ | apply Drawn0.step)⟩
  rw [if_neg c3] at H
  have c3b0 : (a0 == 0) = false := beq_eq_false_iff_ne.mpr c3
  have c3b1 : (a0 != 0) = true := bne_iff_ne.mpr c3
  (first | rw [c3b0] | (simp only [ka_, la_]; rw [c3b0]) | skip)
  by_cases c4 : a0 = 7
  ·rw [if_pos c4] at H
   have c4b0 : (a0 == 7) = true := beq_iff_eq.mpr c4
   have c4b1 : (a0 != 7) = false := bne_eq_false_iff_eq.mpr c4
   clear c4
   have H' := Aside0.mk H
   clear H
   go_wp2
   go_meet
   case rel => exact ⟨_, ((a0 == 7)), (by first | rfl | (simp; done) | (simp [*]; done)), H', ⟨by first | omega | exact Nat.le_refl _⟩, by repeat (first | exact Drawn0.refl _ | apply Drawn0.step)⟩
  rw [if_neg c4] at H
  have c4b0 : (a0 == 7) = false := beq_eq_false_iff_ne.mpr c4
  have c4b1 : (a0 != 7) = true := bne_iff_ne.mpr c4
  by_cases c5 : a0 = 8
  ·rw [if_pos c5] at H
   have c5b0 : (a0 == 8) = true := beq_iff_eq.mpr c5
   have c5b1 : (a0 != 8) = false := bne_eq_false_iff_eq.mpr c5
   clear c5
   have H' := Aside0.mk H
   clear H
   go_wp2
   go_meet
   case rel => exact ⟨_, ((a0 == 8)), (by first | rfl | (simp; done) | (simp [*]; done)), H', ⟨by first | omega | exact Nat.le_refl _⟩, by repeat (first | exact Drawn0.refl _ | apply Drawn0.step)⟩
  rw [if_neg c5] at H
  have c5b0 : (a0 == 8) = false := beq_eq_false_iff_ne.mpr c5
  have c5b1 : (a0 != 8) = true := bne_iff_ne.mpr c5
  have H' := Aside0.mk H
  clear H
  go_wp2
  go_meet
  case rel => exact ⟨_, ((a0 == 11)), (by first | rfl | (simp; done) | (simp [*]; done)), H', ⟨by first | omega | exact Nat.le_refl _⟩, by repeat (first | exact Drawn0.refl _ | apply Drawn0.step)⟩
 clear HC2
 try clear p2
 try clear c3
 try clear c3b0
 try clear c3b1
 try clear c4
 try clear c4b0
 try clear c4b1
 try clear c5
 try clear c5b0
 try clear c5b1
 obtain ⟨kq, x5_1, rfl, HA, HJ1, ⟨mc1, rfl⟩⟩ := hcut
 cases kq with
 | zero => exact absurd HA.out (by simp [r4_wants.j0])
 | succ kj1 =>
  have H := HA.out
  clear HA
  simp only [r4_wants.j0] at H
  by_cases c6 : x5_1 = true
  ·subst c6
   have H1 : (some (1, 1)) = some (r1, r2) := by rw [if_pos rfl] at H; exact H
   clear H
   have H := H1
   clear H1
   simp only [Option.some.injEq, Prod.mk.injEq] at H
   obtain ⟨rfl, rfl⟩ := H
   go_wp2
   go_ret2
   exact ⟨by first | rfl | (simp; done) | (simp [*]; done), by repeat (first | exact Drawn0.refl _ | apply Drawn0.step)⟩
  replace c6 := Bool.eq_false_iff.mpr c6
  subst c6
  have H1 : (if a0 = 2 then (r4_wants.j1 kj1 a0 (a0 == 2)) else (if a0 = 5 then (r4_wants.j1 kj1 a0 (a0 == 5)) else (if a0 = 9 then (r4_wants.j1 kj1 a0 (a0 == 9)) else (if a0 = 12 then (r4_wants.j1 kj1 a0 (a0 == 12)) else (if a0 = 13 then (r4_wants.j1 kj1 a0 (a0 == 13)) else (if a0 = 14 then (r4_wants.j1 kj1 a0 (a0 == 14)) else (r4_wants.j1 kj1 a0 (a0 == 15)))))))) = some (r1, r2) := by rw [if_neg (show ¬ (false = true) by decide)] at H; exact H
  clear H
  have H := H1
  clear H1
  have HC7 := Aside0.mk H
  clear H
  go_upto_if 10 with (fail)
  go_cut [10] (fun v10 wc => ∃ (kq : Nat) (x10_6 : Bool), v10 = .bool x10_6 ∧ Aside0 (r4_wants.j1 kq a0 x10_6 = some (r1, r2)) ∧ Aside0 (kq ≤ kj1) ∧ Drawn0 w wc)
  case first =>
   have H := HC7.out
   clear HC7
   by_cases c8 : a0 = 2
   ·rw [if_pos c8] at H
    have c8b0 : (a0 == 2) = true := beq_iff_eq.mpr c8
    have c8b1 : (a0 != 2) = false := bne_eq_false_iff_eq.mpr c8
    clear c8
    (first | rw [c8b0] | (simp only [ka_, la_]; rw [c8b0]) | skip)
    have H' := Aside0.mk H
    clear H
    go_wp2
    go_meet
    case rel => exact ⟨_, ((a0 == 2)), (by first | rfl | (simp; done) | (simp [*]; done)), H', ⟨by have := HJ1.out; first | omega | exact Nat.le_refl _⟩, by repeat (first | exact Drawn0.refl _ | apply Drawn0.step)⟩
   rw [if_neg c8] at H
   have c8b0 : (a0 == 2) = false := beq_eq_false_iff_ne.mpr c8
   have c8b1 : (a0 != 2) = true := bne_iff_ne.mpr c8
   (first | rw [c8b0] | (simp only [ka_, la_]; rw [c8b0]) | skip)
   by_cases c9 : a0 = 5
   ·rw [if_pos c9] at H
    have c9b0 : (a0 == 5) = true := beq_iff_eq.mpr c9
    have c9b1 : (a0 != 5) = false := bne_eq_false_iff_eq.mpr c9
    clear c9
    have H' := Aside0.mk H
    clear H
    go_wp2
    go_meet
    case rel => exact ⟨_, ((a0 == 5)), (by first | rfl | (simp; done) | (simp [*]; done)), H', ⟨by have := HJ1.out; first | omega | exact Nat.le_refl _⟩, by repeat (first | exact Drawn0.refl _ | apply Drawn0.step)⟩
   rw [if_neg c9] at H
   have c9b0 : (a0 == 5) = false := beq_eq_false_iff_ne.mpr c9
   have c9b1 : (a0 != 5) = true := bne_iff_ne.mpr c9
   by_cases c10 : a0 = 9
   ·rw [if_pos c10] at H
    have c10b0 : (a0 == 9) = true := beq_iff_eq.mpr c10
    have c10b1 : (a0 != 9) = false := bne_eq_false_iff_eq.mpr c10
    clear c10
    have H' := Aside0.mk H
    clear H
    go_wp2
    go_meet
    case rel => exact ⟨_, ((a0 == 9)), (by first | rfl | (simp; done) | (simp [*]; done)), H', ⟨by have := HJ1.out; first | omega | exact Nat.le_refl _⟩, by repeat (first | exact Drawn0.refl _ | apply Drawn0.step)⟩
   rw [if_neg c10] at H
   have c10b0 : (a0 == 9) = false := beq_eq_false_iff_ne.mpr c10
   have c10b1 : (a0 != 9) = true := bne_iff_ne.mpr c10
   by_cases c11 : a0 = 12
   ·rw [if_pos c11] at H
    have c11b0 : (a0 == 12) = true := beq_iff_eq.mpr c11
    have c11b1 : (a0 != 12) = false := bne_eq_false_iff_eq.mpr c11
    clear c11
    have H' := Aside0.mk H
    clear H
    go_wp2
    go_meet
    case rel => exact ⟨_, ((a0 == 12)), (by first | rfl | (simp; done) | (simp [*]; done)), H', ⟨by have := HJ1.out; first | omega | exact Nat.le_refl _⟩, by repeat (first | exact Drawn0.refl _ | apply Drawn0.step)⟩
   rw [if_neg c11] at H
   have c11b0 : (a0 == 12) = false := beq_eq_false_iff_ne.mpr c11
   have c11b1 : (a0 != 12) = true := bne_iff_ne.mpr c11
   by_cases c12 : a0 = 13
   ·rw [if_pos c12] at H
    have c12b0 : (a0 == 13) = true := beq_iff_eq.mpr c12
    have c12b1 : (a0 != 13) = false := bne_eq_false_iff_eq.mpr c12
    clear c12
    have H' := Aside0.mk H
    clear H
    go_wp2
    go_meet
    case rel => exact ⟨_, ((a0 == 13)), (by first | rfl | (simp; done) | (simp [*]; done)), H', ⟨by have := HJ1.out; first | omega | exact Nat.le_refl _⟩, by repeat (first | exact Drawn0.refl _ | apply Drawn0.step)⟩
   rw [if_neg c12] at H
   have c12b0 : (a0 == 13) = false := beq_eq_false_iff_ne.mpr c12
   have c12b1 : (a0 != 13) = true := bne_iff_ne.mpr c12
   by_cases c13 : a0 = 14
   ·rw [if_pos c13] at H
    have c13b0 : (a0 == 14) = true := beq_iff_eq.mpr c13
    have c13b1 : (a0 != 14) = false := bne_eq_false_iff_eq.mpr c13
    clear c13
    have H' := Aside0.mk H
    clear H
    go_wp2
    go_meet
    case rel => exact ⟨_, ((a0 == 14)), (by first | rfl | (simp; done) | (simp [*]; done)), H', ⟨by have := HJ1.out; first | omega | exact Nat.le_refl _⟩, by repeat (first | exact Drawn0.refl _ | apply Drawn0.step)⟩
   rw [if_neg c13] at H
   have c13b0 : (a0 == 14) = false := beq_eq_false_iff_ne.mpr c13
   have c13b1 : (a0 != 14) = true := bne_iff_ne.mpr c13
   have H' := Aside0.mk H
   clear H
   go_wp2
   go_meet
   case rel => exact ⟨_, ((a0 == 15)), (by first | rfl | (simp; done) | (simp [*]; done)), H', ⟨by have := HJ1.out; first | omega | exact Nat.le_refl _⟩, by repeat (first | exact Drawn0.refl _ | apply Drawn0.step)⟩
  clear HC7
  try clear c1
  try clear p2
  try clear c3
  try clear c3b0
  try clear c3b1
  try clear c4
  try clear c4b0
  try clear c4b1
  try clear c5
  try clear c5b0
  try clear c5b1
  try clear c6
  try clear c8
  try clear c8b0
  try clear c8b1
  try clear c9
  try clear c9b0
  try clear c9b1
  try clear c10
  try clear c10b0
  try clear c10b1
  try clear c11
  try clear c11b0
  try clear c11b1
  try clear c12
  try clear c12b0
  try clear c12b1
  try clear c13
  try clear c13b0
  try clear c13b1
  try clear p2
  obtain ⟨kq, x10_6, rfl, HA, HJ6, ⟨mc6, rfl⟩⟩ := hcut
  cases kq with
  | zero => exact absurd HA.out (by simp [r4_wants.j1])
  | succ kj6 =>
   have H := HA.out
   clear HA
   simp only [r4_wants.j1] at H
   by_cases c14 : x10_6 = true
   ·subst c14
    have H1 : (some (2, 2)) = some (r1, r2) := by rw [if_pos rfl] at H; exact H
    clear H
    have H := H1
    clear H1
    simp only [Option.some.injEq, Prod.mk.injEq] at H
    obtain ⟨rfl, rfl⟩ := H
    go_wp2
    go_ret2
    exact ⟨by first | rfl | (simp; done) | (simp [*]; done), by repeat (first | exact Drawn0.refl _ | apply Drawn0.step)⟩
   replace c14 := Bool.eq_false_iff.mpr c14
   subst c14
   have H1 : (if a0 = 1 then (r4_wants.j2 kj6 a0 (a0 == 1)) else (r4_wants.j2 kj6 a0 (a0 == 6))) = some (r1, r2) := by rw [if_neg (show ¬ (false = true) by decide)] at H; exact H
   clear H
   have H := H1
   clear H1
   have HC15 := Aside0.mk H
   clear H
   go_upto_if 18 with (fail)
   go_cut [18] (fun v18 wc => ∃ (kq : Nat) (x18_14 : Bool), v18 = .bool x18_14 ∧ Aside0 (r4_wants.j2 kq a0 x18_14 = some (r1, r2)) ∧ Aside0 (kq ≤ kj6) ∧ Drawn0 w wc)
   case first =>
    have H := HC15.out
    clear HC15
    by_cases c16 : a0 = 1
    ·rw [if_pos c16] at H
     have c16b0 : (a0 == 1) = true := beq_iff_eq.mpr c16
     have c16b1 : (a0 != 1) = false := bne_eq_false_iff_eq.mpr c16
     clear c16
     (first | rw [c16b0] | (simp only [ka_, la_]; rw [c16b0]) | skip)
     have H' := Aside0.mk H
     clear H
     go_wp2
     go_meet
     case rel => exact ⟨_, ((a0 == 1)), (by first | rfl | (simp; done) | (simp [*]; done)), H', ⟨by have := HJ1.out; have := HJ6.out; first | omega | exact Nat.le_refl _⟩, by repeat (first | exact Drawn0.refl _ | apply Drawn0.step)⟩
    rw [if_neg c16] at H
    have c16b0 : (a0 == 1) = false := beq_eq_false_iff_ne.mpr c16
    have c16b1 : (a0 != 1) = true := bne_iff_ne.mpr c16
    (first | rw [c16b0] | (simp only [ka_, la_]; rw [c16b0]) | skip)
    have H' := Aside0.mk H
    clear H
    go_wp2
    go_meet
    case rel => exact ⟨_, ((a0 == 6)), (by first | rfl | (simp; done) | (simp [*]; done)), H', ⟨by have := HJ1.out; have := HJ6.out; first | omega | exact Nat.le_refl _⟩, by repeat (first | exact Drawn0.refl _ | apply Drawn0.step)⟩
   clear HC15
   try clear c1
   try clear p2
   try clear c3
   try clear c3b0
   try clear c3b1
   try clear c4
   try clear c4b0
   try clear c4b1
   try clear c5
   try clear c5b0
   try clear c5b1
   try clear c6
   try clear c8
   try clear c8b0
   try clear c8b1
   try clear c9
   try clear c9b0
   try clear c9b1
   try clear c10
   try clear c10b0
   try clear c10b1
   try clear c11
   try clear c11b0
   try clear c11b1
   try clear c12
   try clear c12b0
   try clear c12b1
   try clear c13
   try clear c13b0
   try clear c13b1
   try clear c14
   try clear c16
   try clear c16b0
   try clear c16b1
   try clear p2
   obtain ⟨kq, x18_14, rfl, HA, HJ14, ⟨mc14, rfl⟩⟩ := hcut
   cases kq with
   | zero => exact absurd HA.out (by simp [r4_wants.j2])
   | succ kj14 =>
    have H := HA.out
    clear HA
    simp only [r4_wants.j2] at H
    by_cases c17 : x18_14 = true
    ·subst c17
     have H1 : (some (3, 3)) = some (r1, r2) := by rw [if_pos rfl] at H; exact H
     clear H
     have H := H1
     clear H1
     simp only [Option.some.injEq, Prod.mk.injEq] at H
     obtain ⟨rfl, rfl⟩ := H
     go_wp2
     go_ret2
     exact ⟨by first | rfl | (simp; done) | (simp [*]; done), by repeat (first | exact Drawn0.refl _ | apply Drawn0.step)⟩
    replace c17 := Bool.eq_false_iff.mpr c17
    subst c17
    have H1 : (if a0 = 3 then (r4_wants.j3 kj14 a0 (a0 == 3)) else (r4_wants.j3 kj14 a0 (a0 == 4))) = some (r1, r2) := by rw [if_neg (show ¬ (false = true) by decide)] at H; exact H
    clear H
    have H := H1
    clear H1
    have HC18 := Aside0.mk H
    clear H
    go_upto_if 21 with (fail)
    go_cut [21] (fun v21 wc => ∃ (kq : Nat) (x21_17 : Bool), v21 = .bool x21_17 ∧ Aside0 (r4_wants.j3 kq a0 x21_17 = some (r1, r2)) ∧ Aside0 (kq ≤ kj14) ∧ Drawn0 w wc)
    case first =>
     have H := HC18.out
     clear HC18
     by_cases c19 : a0 = 3
     ·rw [if_pos c19] at H
      have c19b0 : (a0 == 3) = true := beq_iff_eq.mpr c19
      have c19b1 : (a0 != 3) = false := bne_eq_false_iff_eq.mpr c19
      clear c19
      (first | rw [c19b0] | (simp only [ka_, la_]; rw [c19b0]) | skip)
      have H' := Aside0.mk H
      clear H
      go_wp2
      go_meet
      case rel => exact ⟨_, ((a0 == 3)), (by first | rfl | (simp; done) | (simp [*]; done)), H', ⟨by have := HJ1.out; have := HJ6.out; have := HJ14.out; first | omega | exact Nat.le_refl _⟩, by repeat (first | exact Drawn0.refl _ | apply Drawn0.step)⟩
     rw [if_neg c19] at H
     have c19b0 : (a0 == 3) = false := beq_eq_false_iff_ne.mpr c19
     have c19b1 : (a0 != 3) = true := bne_iff_ne.mpr c19
     (first | rw [c19b0] | (simp only [ka_, la_]; rw [c19b0]) | skip)
     have H' := Aside0.mk H
     clear H
     go_wp2
     go_meet
     case rel => exact ⟨_, ((a0 == 4)), (by first | rfl | (simp; done) | (simp [*]; done)), H', ⟨by have := HJ1.out; have := HJ6.out; have := HJ14.out; first | omega | exact Nat.le_refl _⟩, by repeat (first | exact Drawn0.refl _ | apply Drawn0.step)⟩
    clear HC18
    try clear c1
    try clear p2
    try clear c3
    try clear c3b0
    try clear c3b1
    try clear c4
    try clear c4b0
    try clear c4b1
    try clear c5
    try clear c5b0
    try clear c5b1
    try clear c6
    try clear c8
    try clear c8b0
    try clear c8b1
    try clear c9
    try clear c9b0
    try clear c9b1
    try clear c10
    try clear c10b0
    try clear c10b1
    try clear c11
    try clear c11b0
    try clear c11b1
    try clear c12
    try clear c12b0
    try clear c12b1
    try clear c13
    try clear c13b0
    try clear c13b1
    try clear c14
    try clear c16
    try clear c16b0
    try clear c16b1
    try clear c17
    try clear c19
    try clear c19b0
    try clear c19b1
    try clear p2
    obtain ⟨kq, x21_17, rfl, HA, HJ17, ⟨mc17, rfl⟩⟩ := hcut
    cases kq with
    | zero => exact absurd HA.out (by simp [r4_wants.j3])
    | succ kj17 =>
     have H := HA.out
     clear HA
     simp only [r4_wants.j3] at H
     by_cases c20 : x21_17 = true
     ·subst c20
      have H1 : (some (2, 3)) = some (r1, r2) := by rw [if_pos rfl] at H; exact H
      clear H
      have H := H1
      clear H1
      simp only [Option.some.injEq, Prod.mk.injEq] at H
      obtain ⟨rfl, rfl⟩ := H
      go_wp2
      go_ret2
      exact ⟨by first | rfl | (simp; done) | (simp [*]; done), by repeat (first | exact Drawn0.refl _ | apply Drawn0.step)⟩
     replace c20 := Bool.eq_false_iff.mpr c20
     subst c20
     have H1 : (if a0 = 10 then (some (1, 6)) else (some (1, 0))) = some (r1, r2) := by rw [if_neg (show ¬ (false = true) by decide)] at H; exact H
     clear H
     have H := H1
     clear H1
     by_cases c21 : a0 = 10
     ·rw [if_pos c21] at H
      have c21b0 : (a0 == 10) = true := beq_iff_eq.mpr c21
      have c21b1 : (a0 != 10) = false := bne_eq_false_iff_eq.mpr c21
      clear c21
      simp only [Option.some.injEq, Prod.mk.injEq] at H
      obtain ⟨rfl, rfl⟩ := H
      go_wp2
      go_ret2
      exact ⟨by first | rfl | (simp; done) | (simp [*]; done), by repeat (first | exact Drawn0.refl _ | apply Drawn0.step)⟩
     rw [if_neg c21] at H
     have c21b0 : (a0 == 10) = false := beq_eq_false_iff_ne.mpr c21
     have c21b1 : (a0 != 10) = true := bne_iff_ne.mpr c21
     simp only [Option.some.injEq, Prod.mk.injEq] at H
     obtain ⟨rfl, rfl⟩ := H
     go_wp2
     go_ret2
     exact ⟨by first | rfl | (simp; done) | (simp [*]; done), by repeat (first | exact Drawn0.refl _ | apply Drawn0.step)⟩
end Go.Proofs.YtjfbfhoipgldgaaGreat.P
end
