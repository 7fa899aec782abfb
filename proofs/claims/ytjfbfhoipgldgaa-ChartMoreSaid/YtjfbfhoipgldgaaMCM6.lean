/- ChartMore: with a rule more nothing is lost: spans, and in how many ways. Part 6: contracts of the functions that the law reaches, and words for them. -/
import Derived.Deep.Slices
import Derived.ChangeArms
import Derived.ChangeSame
import Derived.Test.YtjfbfhoipgldgaaMCM5
section
namespace Go.Proofs.Ytjfbfhoipgldgaa.P
open Go.RowKit Go.Proofs.YtjfbfhoipgldgaaW.PrintWords Go.Proofs.YtjfbfhoipgldgaaW.PrintLast Go.Proofs.YtjfbfhoipgldgaaW.PrintMore
attribute [local go_sem] max2_int min2_int max_two min_two max_three min_three max_four min_four   
set_option linter.unusedVariables false
set_option linter.unusedSimpArgs false
attribute [local go_sem high] eqA35
noncomputable def l7_row.l0 : Nat → List Int → List (S31) → Int → Int → Option ((List (S31)) × Int)
 | 0, _, _, _, _ => none
 | k + 1, x0, x6, x7, x8 => if x8 < x7 then ((some (([0, 0, 1, 2, 50, 51] : List Int) : List Int)).bind fun y253 => (if 0 ≤ x8 then (if x8 < (x0.length : Int) then ((l7_within.f (rd x0 x8) 6).bind fun t257 => (if 0 ≤ t257 then (if t257 < (y253.length : Int) then ((l7_within.f (wrap64 (Int.tdiv (rd x0 x8) 6)) 20).bind fun t260 => (if x6.length < 3518437208883 then (l7_row.l0 k x0 (x6 ++ [(⟨x8, wrap64 (x8 + 1), rd y253 t257, t260, 1⟩ : S31)]) x7 (wrap64 (x8 + 1))) else (none))) else (none)) else (none))) else (none)) else (none))) else (some (x6, x7))
noncomputable def l7_row.f (k : Nat) (l0 : List Int) (a1 : Int) : Option ((List (S31)) × Int) := l7_row.l0 k l0 ([] : List (S31)) (mn (l0.length : Int) a1) 0
theorem l7_row.mono_l : ∀ k, (∀ y0 y1 y2 y3, LeO (l7_row.l0 k y0 y1 y2 y3) (l7_row.l0 (k + 1) y0 y1 y2 y3))
 | 0 => fun _ _ _ _ r h => by simp [l7_row.l0] at h
 | k + 1 => by
  have ih0 := l7_row.mono_l k
  ·intro y0 y1 y2 y3
   unfold l7_row.l0
   repeat' first
   | (with_reducible exact ih0 _ _ _ _)
   | (with_reducible exact LeO.refl _)
   | (with_reducible exact LeO.none _)
   | (with_reducible refine LeO.ite ?_ ?_)
   | (with_reducible refine LeO.bind ?_ (fun _ => ?_))
   | exact ih0 _ _ _ _
   | exact LeO.none _
   | refine LeO.ite ?_ ?_
   | refine LeO.bind ?_ (fun _ => ?_)
theorem l7_row.mono : ∀ a0 a1 k, LeO (l7_row.f k a0 a1) (l7_row.f (k + 1) a0 a1) := by
 intro a0 a1 k
 have ih0 := l7_row.mono_l k
 unfold l7_row.f
 repeat' first
   | (with_reducible exact ih0 _ _ _ _)
   | (with_reducible exact LeO.refl _)
   | (with_reducible exact LeO.none _)
   | (with_reducible refine LeO.ite ?_ ?_)
   | (with_reducible refine LeO.bind ?_ (fun _ => ?_))
   | exact ih0 _ _ _ _
   | exact LeO.none _
   | refine LeO.ite ?_ ?_
   | refine LeO.bind ?_ (fun _ => ?_)
def l7_row.T6 : Bool × List (List Nat × List Nat) := (true, [([], []), ([], []), ([], []), ([2], [2]), ([], []), ([], []), ([], []), ([5, 6], [5, 6]), ([7], [7]), ([8], [8]), ([4, 9], [4, 9]), ([10], [10]), ([], []), ([], []), ([12, 13], [12, 13]), ([14], [14]), ([15], [15]), ([16, 9], [16]), ([1, 3, 11, 17], [1, 3, 11, 17]), ([18], [18]), ([0, 19, 17], [0, 19]), ([20, 20, 0, 1, 2, 3, 4, 5, 6, 7, 8, 9, 10, 11, 12, 13, 14, 15, 16, 17, 18, 19, 20], [0, 20])])
def l7_row.B6 : List Nat := [0, 0, 0, 4, 0, 0, 0, 96, 224, 480, 1008, 2032, 0, 0, 12288, 28672, 61440, 127968, 262142, 524286, 1048575, 2097151]
theorem l7_row.tab6 : rtab .any (opsOf Try.f15 6) = l7_row.T6 := by kernel_rfl
theorem l7_row.bits6 : waitsOk l7_row.T6.2 l7_row.B6 = true := by kernel_rfl
set_option maxHeartbeats 8000000 in
set_option maxRecDepth 100000 in
theorem l7_row.calls (k : Nat) (A0 : Option Addr) (c0 : Nat) (l0 : List Int) (a1 : Int) (r1 : List (S31)) (r2 : Int) (w : World) (hr0 : Kd.C (Kd.int .i64) w A0 l0.length l0) (hc0 : l0.length ≤ c0) (h : l7_row.f k l0 a1 = some (r1, r2)) :
  Calls Try.prog 15 #[.slice A0 l0.length c0, .int .i64 a1] w fun e w' => ∃ v0_ : Value, e = .returned (.tuple #[v0_, .int .i64 r2]) ∧ Kd.R k31 31 w' w.heap.size (fun _ => True) v0_ r1 ∧ Below w.heap.size w w' := by
 have hu31 := Try.underlying31
 have HR0 := Aside0.mk hr0
 have HC0 := Aside0.mk hc0
 clear hr0 hc0
 have HB := Aside0.mk (Below.refl w.heap.size w)
 have H : (l7_row.l0 k l0 ([] : List (S31)) (mn (l0.length : Int) a1) 0) = some (r1, r2) := h
 clear h
 obtain ⟨ji3, hji3⟩ : ∃ j_ : Int, (mn (l0.length : Int) a1) = j_ := ⟨_, rfl⟩
 replace H : (l7_row.l0 k l0 ([] : List (S31)) ji3 0) = some (r1, r2) := by first | (rw [hji3] at H; exact H) | (simp only [hji3] at H ⊢; exact H)
 have hji3_ : (if a1 < (l0.length : Int) then a1 else (l0.length : Int)) = ji3 := hji3
 have H' := Aside0.mk H
 clear H
 go_enter Try.func15, Try.ntmps15
 go_wp2
 go_loopg [6, 8] k (fun kq v6 v8 w' => ∃ (x6_1 : List (S31)) (x8_1 : Int), v8 = .int .i64 x8_1 ∧ Aside0 (l7_row.l0 kq l0 x6_1 ji3 x8_1 = some (r1, r2)) ∧ Aside0 (kq ≤ k) ∧ Aside0 (Kd.R k31 31 w' w.heap.size (fun _ => True) v6 x6_1) ∧ Aside0 (Below w.heap.size w w'))
 case atStart => exact ⟨(([] : List (S31))), (0), (by first | rfl | (simp; done) | (simp [*]; done)), H', ⟨Nat.le_refl _⟩, ⟨by first | exact Kd.R_nil _ _ _ _ _ | exact Kd.N_nil _ _ _ _ _ | exact Kd.V_nil _ _ _ _ _ | exact Kd.Q_nil _ _ _ _ _ | exact Kd.S_nil _ _ _ _ _⟩, ⟨by repeat (first | (with_reducible first | exact HB.out | apply below_alloc | apply pw_below_drewN | apply below_drew1) | exact HB.out)⟩⟩
 case round =>
  clear H'
  try clear c1
  try clear p2
  obtain ⟨x6_1, x8_1, rfl, HA, HK1, HO_6, HB⟩ := hrel
  cases gk with
  | zero => exact absurd HA.out (by simp [l7_row.l0])
  | succ k1 =>
   have H := HA.out
   clear HA
   simp only [l7_row.l0] at H
   by_cases c4 : x8_1 < ji3
   ·rw [if_pos c4] at H
    have c4b0 : decide (x8_1 < ji3) = true := decide_eq_true c4
    clear c4
    obtain ⟨y253, hy253⟩ : ∃ y_ : List Int, y_ = (([0, 0, 1, 2, 50, 51] : List Int)) := ⟨_, rfl⟩
    replace H : (if 0 ≤ x8_1 then (if x8_1 < (l0.length : Int) then ((l7_within.f (rd l0 x8_1) 6).bind fun t257 => (if 0 ≤ t257 then (if t257 < (y253.length : Int) then ((l7_within.f (wrap64 (Int.tdiv (rd l0 x8_1) 6)) 20).bind fun t260 => (if x6_1.length < 3518437208883 then (l7_row.l0 k1 l0 (x6_1 ++ [(⟨x8_1, wrap64 (x8_1 + 1), rd y253 t257, t260, 1⟩ : S31)]) ji3 (wrap64 (x8_1 + 1))) else (none))) else (none)) else (none))) else (none)) else (none)) = some (r1, r2) := by first | (rw [hy253]; with_reducible exact H) | (have H2_ := (Option.bind_some _ _).symm.trans H; rw [hy253]; with_reducible exact H2_) | (have H2_ := (Option.bind_some _ _).symm.trans H; with_reducible exact H2_) | with_reducible exact H | (rw [hy253]; exact H) | exact H
    have Ny253 := Aside0.mk hy253
    clear hy253
    by_cases c5 : 0 ≤ x8_1
    ·rw [if_pos c5] at H
     have c5b0 : decide (0 ≤ x8_1) = true := decide_eq_true c5
     clear c5
     by_cases c6 : x8_1 < (l0.length : Int)
     ·rw [if_pos c6] at H
      have c6b0 : decide (x8_1 < (l0.length : Int)) = true := decide_eq_true c6
      clear c6
      replace H := Option.bind_eq_some_iff.mp H
      obtain ⟨t257, A70, H⟩ := H
      replace H : (if 0 ≤ t257 then (if t257 < (y253.length : Int) then ((l7_within.f (wrap64 (Int.tdiv (rd l0 x8_1) 6)) 20).bind fun t260 => (if x6_1.length < 3518437208883 then (l7_row.l0 k1 l0 (x6_1 ++ [(⟨x8_1, wrap64 (x8_1 + 1), rd y253 t257, t260, 1⟩ : S31)]) ji3 (wrap64 (x8_1 + 1))) else (none))) else (none)) else (none)) = some (r1, r2) := H
      have A7 := Aside0.mk A70
      clear A70
      by_cases c8 : 0 ≤ t257
      ·rw [if_pos c8] at H
       have c8b0 : decide (0 ≤ t257) = true := decide_eq_true c8
       clear c8
       by_cases c9 : t257 < (y253.length : Int)
       ·rw [if_pos c9] at H
        have c9b0 : decide (t257 < (y253.length : Int)) = true := decide_eq_true c9
        clear c9
        replace H := Option.bind_eq_some_iff.mp H
        obtain ⟨t260, A100, H⟩ := H
        replace H : (if x6_1.length < 3518437208883 then (l7_row.l0 k1 l0 (x6_1 ++ [(⟨x8_1, wrap64 (x8_1 + 1), rd y253 t257, t260, 1⟩ : S31)]) ji3 (wrap64 (x8_1 + 1))) else (none)) = some (r1, r2) := H
        have A10 := Aside0.mk A100
        clear A100
        by_cases c11 : x6_1.length < 3518437208883
        ·rw [if_pos c11] at H
         have LMc11 := Aside0.mk c11
         clear c11
         obtain ⟨y261, hy261⟩ : ∃ y_ : List (S31), y_ = (x6_1 ++ [(⟨x8_1, wrap64 (x8_1 + 1), rd y253 t257, t260, 1⟩ : S31)]) := ⟨_, rfl⟩
         replace H : (l7_row.l0 k1 l0 y261 ji3 (wrap64 (x8_1 + 1))) = some (r1, r2) := by first | (rw [hy261]; with_reducible exact H) | (have H2_ := (Option.bind_some _ _).symm.trans H; rw [hy261]; with_reducible exact H2_) | (have H2_ := (Option.bind_some _ _).symm.trans H; with_reducible exact H2_) | with_reducible exact H | (rw [hy261]; exact H) | exact H
         have Ny261 := Aside0.mk hy261
         clear hy261
         have H' := Aside0.mk H
         clear H
         obtain ⟨Ao12, co12, eo12⟩ := Kd.R_slice HO_6.out
         subst eo12
         try go_wp2
         have pi258 : (0 ≤ (t257 : Int)) = True := eq_true (of_decide_eq_true (by first | (with_reducible assumption) | assumption))
         have qi258 : (t257 < (y253.length : Int)) = True := eq_true (of_decide_eq_true (by first | (with_reducible assumption) | assumption))
         have n0_ := Aside0.mk (Kd.R_drew HO_6.out)
         have n1_ := Aside0.mk (below_drew1 HB.out)
         clear HO_6
         clear HB
         have HO_6 := n0_
         have HB := n1_
         clear n0_ n1_
         have p256 : 0 ≤ (x8_1 : Int) := of_decide_eq_true (by first | (with_reducible assumption) | assumption)
         have q256 : x8_1 < (l0.length : Int) := of_decide_eq_true (by first | (with_reducible assumption) | assumption)
         obtain ⟨ad256, e256, hx256_0⟩ := Kd.at_int HR0.out x8_1 p256 q256
         have hw256_0 := hx256_0
         cases e256
         replace hx256_0 := (HB.out.cell (World.block_lt_of_cell? w _ hx256_0)).trans hx256_0
         replace p256 := eq_true p256
         replace q256 := eq_true q256
         have p259 : 0 ≤ (x8_1 : Int) := of_decide_eq_true (by first | (with_reducible assumption) | assumption)
         have q259 : x8_1 < (l0.length : Int) := of_decide_eq_true (by first | (with_reducible assumption) | assumption)
         obtain ⟨ad259, e259, hx259_0⟩ := Kd.at_int HR0.out x8_1 p259 q259
         have hw259_0 := hx259_0
         obtain rfl : ad256 = ad259 := (by injection e259)
         replace hx259_0 := (HB.out.cell (World.block_lt_of_cell? w _ hx259_0)).trans hx259_0
         replace p259 := eq_true p259
         replace q259 := eq_true q259
         refine start_ (n := 22) (S := fun w' => w'.cell? (ad256.add (x8_1).toNat) = some (.int .i64 (rd l0 x8_1)) ∧ w'.cell? (ad256.add (x8_1).toNat) = some (.int .i64 (rd l0 x8_1))) (ds := []) #[false, false, false, false, false, false, false, false, false, false, false, false, false, false, false, false, false, false, false, false, false, false] (by kernel_rfl) rfl rfl ⟨((HB.out.cell (World.block_lt_of_cell? w _ hw256_0)).trans hw256_0), ((HB.out.cell (World.block_lt_of_cell? w _ hw259_0)).trans hw259_0)⟩ (fun hHeld => ?_); refine with_tabW l7_row.tab6 l7_row.bits6 (fun HT_ HW_ => ?_)
         generalize wr.drew = w13 at HO_6 HB hx256_0 hx259_0 hHeld ⊢
         refine pure_ (i := 0) (N := some 18) (v := ?_) (a' := ?_) #[true, false, false, false, false, false, false, false, false, false, false, false, false, false, false, false, false, false, false, false, false, false] rfl rfl (any_of HT_.out (by kernel_rfl)) (fun _ _ _ h => h) (Or.inl ⟨by rfl, ?_⟩) ?_ ?_
         rotate_left
         ·intro w'
          go_simp
          with_reducible rfl
         rotate_left
         ·simp only [Act.put, List.setIfInBounds_toArray, List.set_cons_zero, List.set_cons_succ, i64_w, i32_w]
          rfl
         refine pure_ (i := 1) (N := some 19) (v := ?_) (a' := ?_) #[true, true, false, false, false, false, false, false, false, false, false, false, false, false, false, false, false, false, false, false, false, false] rfl rfl (any_of HT_.out (by kernel_rfl)) (fun _ _ _ h => h) (Or.inl ⟨by rfl, ?_⟩) ?_ ?_
         rotate_left
         ·intro w'
          go_simp
          with_reducible rfl
         rotate_left
         ·simp only [Act.put, List.setIfInBounds_toArray, List.set_cons_zero, List.set_cons_succ, i64_w, i32_w]
          rfl
         refine pure_ (i := 2) (N := some 20) (v := ?_) (a' := ?_) #[true, true, true, false, false, false, false, false, false, false, false, false, false, false, false, false, false, false, false, false, false, false] rfl rfl (any_of HT_.out (by kernel_rfl)) (fun _ _ _ h => h) (Or.inl ⟨by rfl, ?_⟩) ?_ ?_
         rotate_left
         ·intro w'
          go_simp
          with_reducible rfl
         rotate_left
         ·simp only [Act.put, List.setIfInBounds_toArray, List.set_cons_zero, List.set_cons_succ, i64_w, i32_w]
          rfl
         refine pure_ (i := 3) (N := some 21) (v := ?_) (a' := ?_) #[true, true, true, true, false, false, false, false, false, false, false, false, false, false, false, false, false, false, false, false, false, false] rfl rfl (any_of HT_.out (by kernel_rfl)) (fun _ _ _ h => h) (Or.inl ⟨by rfl, ?_⟩) ?_ ?_
         rotate_left
         ·intro w'
          go_simp
          with_reducible rfl
         rotate_left
         ·simp only [Act.put, List.setIfInBounds_toArray, List.set_cons_zero, List.set_cons_succ, i64_w, i32_w]
          rfl
         refine pure_ (i := 5) (N := some 23) (v := ?_) (a' := ?_) #[true, true, true, true, false, true, false, false, false, false, false, false, false, false, false, false, false, false, false, false, false, false] rfl rfl (any_of HT_.out (by kernel_rfl)) (fun _ _ _ h => h) (Or.inl ⟨by rfl, ?_⟩) ?_ ?_
         rotate_left
         ·intro w'
          go_simp
          with_reducible rfl
         rotate_left
         ·simp only [Act.put, List.setIfInBounds_toArray, List.set_cons_zero, List.set_cons_succ, i64_w, i32_w]
          rfl
         refine pure_ (i := 6) (N := some 24) (v := ?_) (a' := ?_) #[true, true, true, true, false, true, true, false, false, false, false, false, false, false, false, false, false, false, false, false, false, false] rfl rfl (any_of HT_.out (by kernel_rfl)) (fun _ _ _ h => h) (Or.inl ⟨by rfl, ?_⟩) ?_ ?_
         rotate_left
         ·intro w'
          go_simp
          with_reducible rfl
         rotate_left
         ·simp only [Act.put, List.setIfInBounds_toArray, List.set_cons_zero, List.set_cons_succ, i64_w, i32_w]
          rfl
         refine pure_ (i := 7) (N := some 25) (v := ?_) (a' := ?_) #[true, true, true, true, false, true, true, true, false, false, false, false, false, false, false, false, false, false, false, false, false, false] rfl rfl (any_of HT_.out (by kernel_rfl)) (fun _ _ _ h => h) (Or.inl ⟨by rfl, ?_⟩) ?_ ?_
         rotate_left
         ·intro w'
          go_simp
          with_reducible rfl
         rotate_left
         ·simp only [Act.put, List.setIfInBounds_toArray, List.set_cons_zero, List.set_cons_succ, i64_w, i32_w]
          rfl
         refine pure_ (i := 12) (N := some 30) (v := ?_) (a' := ?_) #[true, true, true, true, false, true, true, true, false, false, false, false, true, false, false, false, false, false, false, false, false, false] rfl rfl (any_of HT_.out (by kernel_rfl)) (fun _ _ _ h => h) (Or.inl ⟨by rfl, ?_⟩) ?_ ?_
         rotate_left
         ·intro w'
          go_simp
          with_reducible rfl
         rotate_left
         ·simp only [Act.put, List.setIfInBounds_toArray, List.set_cons_zero, List.set_cons_succ, i64_w, i32_w]
          rfl
         refine pure_ (i := 13) (N := some 31) (v := ?_) (a' := ?_) #[true, true, true, true, false, true, true, true, false, false, false, false, true, true, false, false, false, false, false, false, false, false] rfl rfl (any_of HT_.out (by kernel_rfl)) (fun _ _ _ h => h) (Or.inl ⟨by rfl, ?_⟩) ?_ ?_
         rotate_left
         ·intro w'
          go_simp
          with_reducible rfl
         rotate_left
         ·simp only [Act.put, List.setIfInBounds_toArray, List.set_cons_zero, List.set_cons_succ, i64_w, i32_w]
          rfl
         refine pure_ (i := 14) (N := some 32) (v := ?_) (a' := ?_) #[true, true, true, true, false, true, true, true, false, false, false, false, true, true, true, false, false, false, false, false, false, false] rfl rfl (any_of HT_.out (by kernel_rfl)) (fun _ _ _ h => h) (Or.inl ⟨by rfl, ?_⟩) ?_ ?_
         rotate_left
         ·intro w'
          go_simp
          with_reducible rfl
         rotate_left
         ·simp only [Act.put, List.setIfInBounds_toArray, List.set_cons_zero, List.set_cons_succ, i64_w, i32_w]
          rfl
         refine take_ (i := 8) (N := some 26) (v := ?_) (a' := ?_) #[true, true, true, true, false, true, true, true, true, false, false, false, true, true, true, false, false, false, false, false, false, false] rfl rfl (take_ofW HT_.out HW_.out (by kernel_rfl)) (fun _ _ _ h => h) (Or.inl ⟨by rfl, ?_⟩) hHeld ?_ ?_
         rotate_left
         ·rintro w' ⟨s0, s1⟩
          go_simp
          with_reducible rfl
         rotate_left
         ·simp only [Act.put, List.setIfInBounds_toArray, List.set_cons_zero, List.set_cons_succ, i64_w, i32_w]
          rfl
         refine take_ (i := 15) (N := some 33) (v := ?_) (a' := ?_) #[true, true, true, true, false, true, true, true, true, false, false, false, true, true, true, true, false, false, false, false, false, false] rfl rfl (take_ofW HT_.out HW_.out (by kernel_rfl)) (fun _ _ _ h => h) (Or.inl ⟨by rfl, ?_⟩) hHeld ?_ ?_
         rotate_left
         ·rintro w' ⟨s0, s1⟩
          go_simp
          with_reducible rfl
         rotate_left
         ·simp only [Act.put, List.setIfInBounds_toArray, List.set_cons_zero, List.set_cons_succ, i64_w, i32_w]
          rfl
         refine pure_ (i := 16) (N := some 34) (v := ?_) (a' := ?_) #[true, true, true, true, false, true, true, true, true, false, false, false, true, true, true, true, true, false, false, false, false, false] rfl rfl (any_of HT_.out (by kernel_rfl)) (fun _ _ _ h => h) (Or.inl ⟨by rfl, ?_⟩) ?_ ?_
         rotate_left
         ·intro w'
          go_simp
          with_reducible rfl
         rotate_left
         ·simp only [Act.put, List.setIfInBounds_toArray, List.set_cons_zero, List.set_cons_succ, i64_w, i32_w]
          rfl
         refine join_ (σ := Value × Addr) 4 #[true, true, true, true, true, true, true, true, true, true, true, true, true, true, true, true, true, true, false, false, false, false] (fun s_ => [(22, s_.1), (27, .int .i64 t257), (29, .int .i64 (rd y253 t257)), (35, .int .i64 t260), (28, .pointer (some (s_.2.add (t257).toNat)))]) (fun s_ w' => (w'.cell? (ad256.add (x8_1).toNat) = some (.int .i64 (rd l0 x8_1)) ∧ w'.cell? (ad256.add (x8_1).toNat) = some (.int .i64 (rd l0 x8_1))) ∧ (Kd.R (Kd.int .i64) 3 w' w.heap.size (fun _ => True) s_.1 y253) ∧ (Kd.R k31 31 w' w.heap.size (fun _ => True) (.slice Ao12 x6_1.length co12) x6_1) ∧ (∃ c_, (s_.1 : Value) = .slice (some s_.2) y253.length c_) ∧ (Below w.heap.size w w')) ?_ ?_
         rotate_left
         ·intro hJ4_9_11_17
          refine join_ (σ := Value × Addr) 5 #[true, true, true, true, true, true, true, true, true, true, true, true, true, true, true, true, true, false, false, false, false, false] (fun s_ => [(22, s_.1), (27, .int .i64 t257), (29, .int .i64 (rd y253 t257)), (28, .pointer (some (s_.2.add (t257).toNat)))]) (fun s_ w' => (w'.cell? (ad256.add (x8_1).toNat) = some (.int .i64 (rd l0 x8_1)) ∧ w'.cell? (ad256.add (x8_1).toNat) = some (.int .i64 (rd l0 x8_1))) ∧ (Kd.R (Kd.int .i64) 3 w' w.heap.size (fun _ => True) s_.1 y253) ∧ (Kd.R k31 31 w' w.heap.size (fun _ => True) (.slice Ao12 x6_1.length co12) x6_1) ∧ (∃ c_, (s_.1 : Value) = .slice (some s_.2) y253.length c_) ∧ (Below w.heap.size w w')) ?_ ?_
          rotate_left
          ·intro hJ4_9_11
           refine join_ (σ := Value × Addr) 5 #[true, true, true, true, true, true, true, true, true, true, true, false, true, true, true, true, true, true, false, false, false, false] (fun s_ => [(22, s_.1), (27, .int .i64 t257), (35, .int .i64 t260), (28, .pointer (some (s_.2.add (t257).toNat)))]) (fun s_ w' => (w'.cell? (ad256.add (x8_1).toNat) = some (.int .i64 (rd l0 x8_1)) ∧ w'.cell? (ad256.add (x8_1).toNat) = some (.int .i64 (rd l0 x8_1))) ∧ (Kd.R (Kd.int .i64) 3 w' w.heap.size (fun _ => True) s_.1 y253) ∧ (Kd.R k31 31 w' w.heap.size (fun _ => True) (.slice Ao12 x6_1.length co12) x6_1) ∧ (∃ c_, (s_.1 : Value) = .slice (some s_.2) y253.length c_) ∧ (Below w.heap.size w w')) ?_ ?_
           rotate_left
           ·intro hJ4_9_17
            refine join_ (σ := Value × Addr) 6 #[true, true, true, true, true, true, true, true, true, true, true, false, true, true, true, true, true, false, false, false, false, false] (fun s_ => [(22, s_.1), (27, .int .i64 t257), (28, .pointer (some (s_.2.add (t257).toNat)))]) (fun s_ w' => (w'.cell? (ad256.add (x8_1).toNat) = some (.int .i64 (rd l0 x8_1)) ∧ w'.cell? (ad256.add (x8_1).toNat) = some (.int .i64 (rd l0 x8_1))) ∧ (Kd.R (Kd.int .i64) 3 w' w.heap.size (fun _ => True) s_.1 y253) ∧ (Kd.R k31 31 w' w.heap.size (fun _ => True) (.slice Ao12 x6_1.length co12) x6_1) ∧ (∃ c_, (s_.1 : Value) = .slice (some s_.2) y253.length c_) ∧ (Below w.heap.size w w')) ?_ ?_
            rotate_left
            ·intro hJ4_9
             refine join_ (σ := Unit) 7 #[true, true, true, true, false, true, true, true, true, true, false, false, true, true, true, true, true, true, false, false, false, false] (fun s_ => [(27, .int .i64 t257), (35, .int .i64 t260)]) (fun s_ w' => (w'.cell? (ad256.add (x8_1).toNat) = some (.int .i64 (rd l0 x8_1)) ∧ w'.cell? (ad256.add (x8_1).toNat) = some (.int .i64 (rd l0 x8_1))) ∧ (Kd.R k31 31 w' w.heap.size (fun _ => True) (.slice Ao12 x6_1.length co12) x6_1) ∧ (Below w.heap.size w w')) ?_ ?_
             rotate_left
             ·intro hJ9_17
              refine join_ (σ := Value × Addr) 8 #[true, true, true, true, true, true, true, true, true, false, false, false, true, true, true, true, true, false, false, false, false, false] (fun s_ => [(22, s_.1)]) (fun s_ w' => (w'.cell? (ad256.add (x8_1).toNat) = some (.int .i64 (rd l0 x8_1)) ∧ w'.cell? (ad256.add (x8_1).toNat) = some (.int .i64 (rd l0 x8_1))) ∧ (Kd.R (Kd.int .i64) 3 w' w.heap.size (fun _ => True) s_.1 y253) ∧ (Kd.R k31 31 w' w.heap.size (fun _ => True) (.slice Ao12 x6_1.length co12) x6_1) ∧ (∃ c_, (s_.1 : Value) = .slice (some s_.2) y253.length c_) ∧ (Below w.heap.size w w')) ?_ ?_
              rotate_left
              ·intro hJ4
               refine join_ (σ := Unit) 8 #[true, true, true, true, false, true, true, true, true, true, false, false, true, true, true, true, true, false, false, false, false, false] (fun s_ => [(27, .int .i64 t257)]) (fun s_ w' => (w'.cell? (ad256.add (x8_1).toNat) = some (.int .i64 (rd l0 x8_1)) ∧ w'.cell? (ad256.add (x8_1).toNat) = some (.int .i64 (rd l0 x8_1))) ∧ (Kd.R k31 31 w' w.heap.size (fun _ => True) (.slice Ao12 x6_1.length co12) x6_1) ∧ (Below w.heap.size w w')) ?_ ?_
               rotate_left
               ·intro hJ9
                refine two_ (i := 4) (j := 9) (Ni := some 22) (Nj := some 27) #[true, true, true, true, true, true, true, true, true, false, false, false, true, true, true, true, true, false, false, false, false, false] #[true, true, true, true, false, true, true, true, true, true, false, false, true, true, true, true, true, false, false, false, false, false] rfl rfl rfl rfl (two_of HT_.out (by kernel_rfl)) (by decide) (by decide) (fun K hK => ?_) (fun K hK => ?_)
                ·skip
                 refine Kd.R_lit_step (Kd.int .i64) _ 3 ?hg (N := 22) ?hd (xs := ([0, 0, 1, 2, 50, 51] : List Int)) (inner := [.int .i64 0, .int .i64 0, .int .i64 1, .int .i64 2, .int .i64 50, .int .i64 51]) (ok := fun _ => True) (okp := fun _ => True) ?hr ?hp (fun _ hk => hk) trivial (Below.refl _ _) (Nat.le_refl _) (by simp) ?_; (case hd => rfl); (case hg => rfl); (case hr => first | (go_simp; done) | (go_simp; rfl)); (case hp => exact (Reps.one (show Kd.M (Kd.int .i64) _ _ _ 0 [.int .i64 0] from rfl) (Reps.one (show Kd.M (Kd.int .i64) _ _ _ 0 [.int .i64 0] from rfl) (Reps.one (show Kd.M (Kd.int .i64) _ _ _ 1 [.int .i64 1] from rfl) (Reps.one (show Kd.M (Kd.int .i64) _ _ _ 2 [.int .i64 2] from rfl) (Reps.one (show Kd.M (Kd.int .i64) _ _ _ 50 [.int .i64 50] from rfl) (Reps.one (show Kd.M (Kd.int .i64) _ _ _ 51 [.int .i64 51] from rfl) (Reps.none _ _))))))))
                 intro v254 w14 ho15 hb hg_ hnew_
                 clear hg_ hnew_
                 (first | rw [← Ny253.out] at ho15 | (simp only [Int.reduceToNat] at ho15; rw [← Ny253.out] at ho15))
                 have n0_ := Aside0.mk (Kd.R_below (by (with_reducible repeat (first | apply Kd.R_alloc | apply Kd.R_drewN | apply Kd.R_drew)); exact HO_6.out) hb)
                 have n1_ := Aside0.mk (Kd.R_lower ho15 (below_size (by repeat (first | (with_reducible first | exact HB.out | apply below_alloc | apply pw_below_drewN | apply below_drew1) | exact HB.out))))
                 have n2_ := Aside0.mk (below_step (by repeat (first | (with_reducible first | exact HB.out | apply below_alloc | apply pw_below_drewN | apply below_drew1) | exact HB.out)) hb)
                 clear HO_6
                 clear HB
                 have HO_6 := n0_
                 have HO255 := n1_
                 have HB := n2_
                 clear n0_ n1_ n2_
                 clear hb ho15
                 obtain ⟨Ao16, co16, eo16⟩ := Kd.R_slice HO255.out
                 subst eo16
                 obtain ⟨ado16, fo16, _⟩ := Kd.at_int (Kd.R_reads' HO255.out).2.2 0 (by decide) (by rw [Ny253.out]; simp)
                 cases fo16
                 refine hK.out _ _ ⟨((HB.out.cell (World.block_lt_of_cell? w _ hw256_0)).trans hw256_0), ((HB.out.cell (World.block_lt_of_cell? w _ hw259_0)).trans hw259_0)⟩ (fun hHeld => ?_)
                 clear hK K
                 refine norm_ (a' := ?_) ?_ ?_
                 rotate_left
                 ·show Act.put _ (some 22) _ = _
                  simp only [Act.put, List.setIfInBounds_toArray, List.set_cons_zero, List.set_cons_succ, i64_w, i32_w]
                  rfl
                 exact norm_ (by first | (simp only [putAll, Act.put, List.setIfInBounds_toArray, List.set_cons_zero, List.set_cons_succ]; done) | (simp only [putAll, Act.put, List.setIfInBounds_toArray, List.set_cons_zero, List.set_cons_succ]; rfl)) (hJ4 (.slice (some ado16) y253.length co16, ado16) _ ⟨hHeld, (by (with_reducible repeat (first | apply Kd.R_alloc | apply Kd.R_drewN | apply Kd.R_drew)); exact HO255.out), (by (with_reducible repeat (first | apply Kd.R_alloc | apply Kd.R_drewN | apply Kd.R_drew)); exact HO_6.out), ⟨_, rfl⟩, (by repeat (first | (with_reducible first | exact HB.out | apply below_alloc | apply pw_below_drewN | apply below_drew1) | exact HB.out))⟩)
                ·skip
                 refine goes_ Try.func12 (by kernel_rfl) rfl #[.int .i64 (rd l0 x8_1), .int .i64 6] (by rfl) rfl rfl (by (try simp only [List.map_toArray, List.map_cons, List.map_nil]); first | done | rfl | (simp only [List.length_drop, List.length_take]; rfl)) ?_
                 with_reducible refine (l7_within.calls (rd l0 x8_1) 6 t257 _ A7.out).mono ?_
                 rintro e w' ⟨rfl, ⟨nd, rfl⟩⟩
                 refine ⟨_, rfl, ?_⟩
                 refine hK.out _ _ ⟨((HB.out.cell (World.block_lt_of_cell? w _ hw256_0)).trans hw256_0), ((HB.out.cell (World.block_lt_of_cell? w _ hw259_0)).trans hw259_0)⟩ (fun hHeld => ?_)
                 clear hK K
                 refine norm_ (a' := ?_) ?_ ?_
                 rotate_left
                 ·show Act.put _ (some 27) _ = _
                  simp only [Act.put, List.setIfInBounds_toArray, List.set_cons_zero, List.set_cons_succ, i64_w, i32_w]
                  rfl
                 exact norm_ (by first | (simp only [putAll, Act.put, List.setIfInBounds_toArray, List.set_cons_zero, List.set_cons_succ]; done) | (simp only [putAll, Act.put, List.setIfInBounds_toArray, List.set_cons_zero, List.set_cons_succ]; rfl)) (hJ9 () _ ⟨hHeld, (by (with_reducible repeat (first | apply Kd.R_alloc | apply Kd.R_drewN | apply Kd.R_drew)); exact HO_6.out), (by repeat (first | (with_reducible first | exact HB.out | apply below_alloc | apply pw_below_drewN | apply below_drew1) | exact HB.out))⟩)
               ·skip
                rintro _ w14 ⟨hS_, h0_, h1_⟩
                have n0_ : Aside0 (Kd.R k31 31 w14 w.heap.size (fun _ => True) (.slice Ao12 x6_1.length co12) x6_1) := ⟨h0_⟩
                have n1_ : Aside0 (Below w.heap.size w w14) := ⟨h1_⟩
                clear HO_6
                clear HB
                clear h0_ h1_
                have HO_6 := n0_
                have HB := n1_
                clear n0_ n1_
                have hHeld : w14.cell? (ad256.add (x8_1).toNat) = some (.int .i64 (rd l0 x8_1)) ∧ w14.cell? (ad256.add (x8_1).toNat) = some (.int .i64 (rd l0 x8_1)) := hS_
                refine norm_ (a' := ?_) ?_ ?_
                rotate_left
                ·simp only [putAll, Act.put, List.setIfInBounds_toArray, List.set_cons_zero, List.set_cons_succ]
                 rfl
                refine two_ (i := 4) (j := 17) (Ni := some 22) (Nj := some 35) #[true, true, true, true, true, true, true, true, true, true, false, false, true, true, true, true, true, false, false, false, false, false] #[true, true, true, true, false, true, true, true, true, true, false, false, true, true, true, true, true, true, false, false, false, false] rfl rfl rfl rfl (two_of HT_.out (by kernel_rfl)) (by decide) (by decide) (fun K hK => ?_) (fun K hK => ?_)
                ·skip
                 refine Kd.R_lit_step (Kd.int .i64) _ 3 ?hg (N := 22) ?hd (xs := ([0, 0, 1, 2, 50, 51] : List Int)) (inner := [.int .i64 0, .int .i64 0, .int .i64 1, .int .i64 2, .int .i64 50, .int .i64 51]) (ok := fun _ => True) (okp := fun _ => True) ?hr ?hp (fun _ hk => hk) trivial (Below.refl _ _) (Nat.le_refl _) (by simp) ?_; (case hd => rfl); (case hg => rfl); (case hr => first | (go_simp; done) | (go_simp; rfl)); (case hp => exact (Reps.one (show Kd.M (Kd.int .i64) _ _ _ 0 [.int .i64 0] from rfl) (Reps.one (show Kd.M (Kd.int .i64) _ _ _ 0 [.int .i64 0] from rfl) (Reps.one (show Kd.M (Kd.int .i64) _ _ _ 1 [.int .i64 1] from rfl) (Reps.one (show Kd.M (Kd.int .i64) _ _ _ 2 [.int .i64 2] from rfl) (Reps.one (show Kd.M (Kd.int .i64) _ _ _ 50 [.int .i64 50] from rfl) (Reps.one (show Kd.M (Kd.int .i64) _ _ _ 51 [.int .i64 51] from rfl) (Reps.none _ _))))))))
                 intro v254 w15 ho16 hb hg_ hnew_
                 clear hg_ hnew_
                 (first | rw [← Ny253.out] at ho16 | (simp only [Int.reduceToNat] at ho16; rw [← Ny253.out] at ho16))
                 have n0_ := Aside0.mk (Kd.R_below (by (with_reducible repeat (first | apply Kd.R_alloc | apply Kd.R_drewN | apply Kd.R_drew)); exact HO_6.out) hb)
                 have n1_ := Aside0.mk (Kd.R_lower ho16 (below_size (by repeat (first | (with_reducible first | exact HB.out | apply below_alloc | apply pw_below_drewN | apply below_drew1) | exact HB.out))))
                 have n2_ := Aside0.mk (below_step (by repeat (first | (with_reducible first | exact HB.out | apply below_alloc | apply pw_below_drewN | apply below_drew1) | exact HB.out)) hb)
                 clear HO_6
                 clear HB
                 have HO_6 := n0_
                 have HO255 := n1_
                 have HB := n2_
                 clear n0_ n1_ n2_
                 clear hb ho16
                 obtain ⟨Ao17, co17, eo17⟩ := Kd.R_slice HO255.out
                 subst eo17
                 obtain ⟨ado17, fo17, _⟩ := Kd.at_int (Kd.R_reads' HO255.out).2.2 0 (by decide) (by rw [Ny253.out]; simp)
                 cases fo17
                 refine hK.out _ _ ⟨((HB.out.cell (World.block_lt_of_cell? w _ hw256_0)).trans hw256_0), ((HB.out.cell (World.block_lt_of_cell? w _ hw259_0)).trans hw259_0)⟩ (fun hHeld => ?_)
                 clear hK K
                 refine norm_ (a' := ?_) ?_ ?_
                 rotate_left
                 ·show Act.put _ (some 22) _ = _
                  simp only [Act.put, List.setIfInBounds_toArray, List.set_cons_zero, List.set_cons_succ, i64_w, i32_w]
                  rfl
                 refine pure_ (i := 10) (N := some 28) (v := ?_) (a' := ?_) #[true, true, true, true, true, true, true, true, true, true, true, false, true, true, true, true, true, false, false, false, false, false] rfl rfl (any_of HT_.out (by kernel_rfl)) (fun _ _ _ h => h) (Or.inl ⟨by rfl, ?_⟩) ?_ ?_
                 rotate_left
                 ·intro w'
                  go_simp
                  with_reducible rfl
                 rotate_left
                 ·simp only [Act.put, List.setIfInBounds_toArray, List.set_cons_zero, List.set_cons_succ, i64_w, i32_w]
                  rfl
                 exact norm_ (by first | (simp only [putAll, Act.put, List.setIfInBounds_toArray, List.set_cons_zero, List.set_cons_succ]; done) | (simp only [putAll, Act.put, List.setIfInBounds_toArray, List.set_cons_zero, List.set_cons_succ]; rfl)) (hJ4_9 (.slice (some ado17) y253.length co17, ado17) _ ⟨hHeld, (by (with_reducible repeat (first | apply Kd.R_alloc | apply Kd.R_drewN | apply Kd.R_drew)); exact HO255.out), (by (with_reducible repeat (first | apply Kd.R_alloc | apply Kd.R_drewN | apply Kd.R_drew)); exact HO_6.out), ⟨_, rfl⟩, (by repeat (first | (with_reducible first | exact HB.out | apply below_alloc | apply pw_below_drewN | apply below_drew1) | exact HB.out))⟩)
                ·skip
                 refine goes_ Try.func12 (by kernel_rfl) rfl #[.int .i64 (wrap64 (Int.tdiv (rd l0 x8_1) 6)), .int .i64 20] (by rfl) rfl rfl (by (try simp only [List.map_toArray, List.map_cons, List.map_nil]); first | done | rfl | (simp only [List.length_drop, List.length_take]; rfl)) ?_
                 with_reducible refine (l7_within.calls (wrap64 (Int.tdiv (rd l0 x8_1) 6)) 20 t260 _ A10.out).mono ?_
                 rintro e w' ⟨rfl, ⟨nd, rfl⟩⟩
                 refine ⟨_, rfl, ?_⟩
                 refine hK.out _ _ ⟨((HB.out.cell (World.block_lt_of_cell? w _ hw256_0)).trans hw256_0), ((HB.out.cell (World.block_lt_of_cell? w _ hw259_0)).trans hw259_0)⟩ (fun hHeld => ?_)
                 clear hK K
                 refine norm_ (a' := ?_) ?_ ?_
                 rotate_left
                 ·show Act.put _ (some 35) _ = _
                  simp only [Act.put, List.setIfInBounds_toArray, List.set_cons_zero, List.set_cons_succ, i64_w, i32_w]
                  rfl
                 exact norm_ (by first | (simp only [putAll, Act.put, List.setIfInBounds_toArray, List.set_cons_zero, List.set_cons_succ]; done) | (simp only [putAll, Act.put, List.setIfInBounds_toArray, List.set_cons_zero, List.set_cons_succ]; rfl)) (hJ9_17 () _ ⟨hHeld, (by (with_reducible repeat (first | apply Kd.R_alloc | apply Kd.R_drewN | apply Kd.R_drew)); exact HO_6.out), (by repeat (first | (with_reducible first | exact HB.out | apply below_alloc | apply pw_below_drewN | apply below_drew1) | exact HB.out))⟩)
              ·skip
               rintro ⟨v254, adz_v254⟩ w17 ⟨hS_, h0_, h1_, h2_, h3_⟩
               have n0_ : Aside0 (Kd.R (Kd.int .i64) 3 w17 w.heap.size (fun _ => True) v254 y253) := ⟨h0_⟩
               have n1_ : Aside0 (Kd.R k31 31 w17 w.heap.size (fun _ => True) (.slice Ao12 x6_1.length co12) x6_1) := ⟨h1_⟩
               have n2_ : Aside0 (∃ c_, (v254 : Value) = .slice (some adz_v254) y253.length c_) := ⟨h2_⟩
               have n3_ : Aside0 (Below w.heap.size w w17) := ⟨h3_⟩
               clear HO_6
               clear HB
               clear h0_ h1_ h2_ h3_
               have HO255 := n0_
               have HO_6 := n1_
               have HA_HO255 := n2_
               have HB := n3_
               clear n0_ n1_ n2_ n3_
               have hHeld : w17.cell? (ad256.add (x8_1).toNat) = some (.int .i64 (rd l0 x8_1)) ∧ w17.cell? (ad256.add (x8_1).toNat) = some (.int .i64 (rd l0 x8_1)) := hS_
               obtain ⟨co18, eo18⟩ := HA_HO255.out
               clear HA_HO255
               subst eo18
               refine norm_ (a' := ?_) ?_ ?_
               rotate_left
               ·simp only [putAll, Act.put, List.setIfInBounds_toArray, List.set_cons_zero, List.set_cons_succ]
                rfl
               refine one_ (i := 9) (N := some 27) #[true, true, true, true, true, true, true, true, true, true, false, false, true, true, true, true, true, false, false, false, false, false] rfl rfl (one_of HT_.out (by kernel_rfl)) (by decide) (fun K hK => ?_)
               refine goes_ Try.func12 (by kernel_rfl) rfl #[.int .i64 (rd l0 x8_1), .int .i64 6] (by rfl) rfl rfl (by (try simp only [List.map_toArray, List.map_cons, List.map_nil]); first | done | rfl | (simp only [List.length_drop, List.length_take]; rfl)) ?_
               with_reducible refine (l7_within.calls (rd l0 x8_1) 6 t257 _ A7.out).mono ?_
               rintro e w' ⟨rfl, ⟨nd, rfl⟩⟩
               refine ⟨_, rfl, ?_⟩
               refine hK.out _ _ ⟨((HB.out.cell (World.block_lt_of_cell? w _ hw256_0)).trans hw256_0), ((HB.out.cell (World.block_lt_of_cell? w _ hw259_0)).trans hw259_0)⟩ (fun hHeld => ?_)
               clear hK K
               refine norm_ (a' := ?_) ?_ ?_
               rotate_left
               ·show Act.put _ (some 27) _ = _
                simp only [Act.put, List.setIfInBounds_toArray, List.set_cons_zero, List.set_cons_succ, i64_w, i32_w]
                rfl
               refine pure_ (i := 10) (N := some 28) (v := ?_) (a' := ?_) #[true, true, true, true, true, true, true, true, true, true, true, false, true, true, true, true, true, false, false, false, false, false] rfl rfl (any_of HT_.out (by kernel_rfl)) (fun _ _ _ h => h) (Or.inl ⟨by rfl, ?_⟩) ?_ ?_
               rotate_left
               ·intro w'
                go_simp
                with_reducible rfl
               rotate_left
               ·simp only [Act.put, List.setIfInBounds_toArray, List.set_cons_zero, List.set_cons_succ, i64_w, i32_w]
                rfl
               exact norm_ (by first | (simp only [putAll, Act.put, List.setIfInBounds_toArray, List.set_cons_zero, List.set_cons_succ]; done) | (simp only [putAll, Act.put, List.setIfInBounds_toArray, List.set_cons_zero, List.set_cons_succ]; rfl)) (hJ4_9 (.slice (some adz_v254) y253.length co18, adz_v254) _ ⟨hHeld, (by (with_reducible repeat (first | apply Kd.R_alloc | apply Kd.R_drewN | apply Kd.R_drew)); exact HO255.out), (by (with_reducible repeat (first | apply Kd.R_alloc | apply Kd.R_drewN | apply Kd.R_drew)); exact HO_6.out), ⟨_, rfl⟩, (by repeat (first | (with_reducible first | exact HB.out | apply below_alloc | apply pw_below_drewN | apply below_drew1) | exact HB.out))⟩)
             ·skip
              rintro _ w14 ⟨hS_, h0_, h1_⟩
              have n0_ : Aside0 (Kd.R k31 31 w14 w.heap.size (fun _ => True) (.slice Ao12 x6_1.length co12) x6_1) := ⟨h0_⟩
              have n1_ : Aside0 (Below w.heap.size w w14) := ⟨h1_⟩
              clear HO_6
              clear HB
              clear h0_ h1_
              have HO_6 := n0_
              have HB := n1_
              clear n0_ n1_
              have hHeld : w14.cell? (ad256.add (x8_1).toNat) = some (.int .i64 (rd l0 x8_1)) ∧ w14.cell? (ad256.add (x8_1).toNat) = some (.int .i64 (rd l0 x8_1)) := hS_
              refine norm_ (a' := ?_) ?_ ?_
              rotate_left
              ·simp only [putAll, Act.put, List.setIfInBounds_toArray, List.set_cons_zero, List.set_cons_succ]
               rfl
              refine one_ (i := 4) (N := some 22) #[true, true, true, true, true, true, true, true, true, true, false, false, true, true, true, true, true, true, false, false, false, false] rfl rfl (one_of HT_.out (by kernel_rfl)) (by decide) (fun K hK => ?_)
              refine Kd.R_lit_step (Kd.int .i64) _ 3 ?hg (N := 22) ?hd (xs := ([0, 0, 1, 2, 50, 51] : List Int)) (inner := [.int .i64 0, .int .i64 0, .int .i64 1, .int .i64 2, .int .i64 50, .int .i64 51]) (ok := fun _ => True) (okp := fun _ => True) ?hr ?hp (fun _ hk => hk) trivial (Below.refl _ _) (Nat.le_refl _) (by simp) ?_; (case hd => rfl); (case hg => rfl); (case hr => first | (go_simp; done) | (go_simp; rfl)); (case hp => exact (Reps.one (show Kd.M (Kd.int .i64) _ _ _ 0 [.int .i64 0] from rfl) (Reps.one (show Kd.M (Kd.int .i64) _ _ _ 0 [.int .i64 0] from rfl) (Reps.one (show Kd.M (Kd.int .i64) _ _ _ 1 [.int .i64 1] from rfl) (Reps.one (show Kd.M (Kd.int .i64) _ _ _ 2 [.int .i64 2] from rfl) (Reps.one (show Kd.M (Kd.int .i64) _ _ _ 50 [.int .i64 50] from rfl) (Reps.one (show Kd.M (Kd.int .i64) _ _ _ 51 [.int .i64 51] from rfl) (Reps.none _ _))))))))
              intro v254 w15 ho16 hb hg_ hnew_
              clear hg_ hnew_
              (first | rw [← Ny253.out] at ho16 | (simp only [Int.reduceToNat] at ho16; rw [← Ny253.out] at ho16))
              have n0_ := Aside0.mk (Kd.R_below (by (with_reducible repeat (first | apply Kd.R_alloc | apply Kd.R_drewN | apply Kd.R_drew)); exact HO_6.out) hb)
              have n1_ := Aside0.mk (Kd.R_lower ho16 (below_size (by repeat (first | (with_reducible first | exact HB.out | apply below_alloc | apply pw_below_drewN | apply below_drew1) | exact HB.out))))
              have n2_ := Aside0.mk (below_step (by repeat (first | (with_reducible first | exact HB.out | apply below_alloc | apply pw_below_drewN | apply below_drew1) | exact HB.out)) hb)
              clear HO_6
              clear HB
              have HO_6 := n0_
              have HO255 := n1_
              have HB := n2_
              clear n0_ n1_ n2_
              clear hb ho16
              obtain ⟨Ao17, co17, eo17⟩ := Kd.R_slice HO255.out
              subst eo17
              obtain ⟨ado17, fo17, _⟩ := Kd.at_int (Kd.R_reads' HO255.out).2.2 0 (by decide) (by rw [Ny253.out]; simp)
              cases fo17
              refine hK.out _ _ ⟨((HB.out.cell (World.block_lt_of_cell? w _ hw256_0)).trans hw256_0), ((HB.out.cell (World.block_lt_of_cell? w _ hw259_0)).trans hw259_0)⟩ (fun hHeld => ?_)
              clear hK K
              refine norm_ (a' := ?_) ?_ ?_
              rotate_left
              ·show Act.put _ (some 22) _ = _
               simp only [Act.put, List.setIfInBounds_toArray, List.set_cons_zero, List.set_cons_succ, i64_w, i32_w]
               rfl
              refine pure_ (i := 10) (N := some 28) (v := ?_) (a' := ?_) #[true, true, true, true, true, true, true, true, true, true, true, false, true, true, true, true, true, true, false, false, false, false] rfl rfl (any_of HT_.out (by kernel_rfl)) (fun _ _ _ h => h) (Or.inl ⟨by rfl, ?_⟩) ?_ ?_
              rotate_left
              ·intro w'
               go_simp
               with_reducible rfl
              rotate_left
              ·simp only [Act.put, List.setIfInBounds_toArray, List.set_cons_zero, List.set_cons_succ, i64_w, i32_w]
               rfl
              exact norm_ (by first | (simp only [putAll, Act.put, List.setIfInBounds_toArray, List.set_cons_zero, List.set_cons_succ]; done) | (simp only [putAll, Act.put, List.setIfInBounds_toArray, List.set_cons_zero, List.set_cons_succ]; rfl)) (hJ4_9_17 (.slice (some ado17) y253.length co17, ado17) _ ⟨hHeld, (by (with_reducible repeat (first | apply Kd.R_alloc | apply Kd.R_drewN | apply Kd.R_drew)); exact HO255.out), (by (with_reducible repeat (first | apply Kd.R_alloc | apply Kd.R_drewN | apply Kd.R_drew)); exact HO_6.out), ⟨_, rfl⟩, (by repeat (first | (with_reducible first | exact HB.out | apply below_alloc | apply pw_below_drewN | apply below_drew1) | exact HB.out))⟩)
            ·skip
             rintro ⟨v254, adz_v254⟩ w17 ⟨hS_, h0_, h1_, h2_, h3_⟩
             have n0_ : Aside0 (Kd.R (Kd.int .i64) 3 w17 w.heap.size (fun _ => True) v254 y253) := ⟨h0_⟩
             have n1_ : Aside0 (Kd.R k31 31 w17 w.heap.size (fun _ => True) (.slice Ao12 x6_1.length co12) x6_1) := ⟨h1_⟩
             have n2_ : Aside0 (∃ c_, (v254 : Value) = .slice (some adz_v254) y253.length c_) := ⟨h2_⟩
             have n3_ : Aside0 (Below w.heap.size w w17) := ⟨h3_⟩
             clear HO_6
             clear HB
             clear h0_ h1_ h2_ h3_
             have HO255 := n0_
             have HO_6 := n1_
             have HA_HO255 := n2_
             have HB := n3_
             clear n0_ n1_ n2_ n3_
             have hHeld : w17.cell? (ad256.add (x8_1).toNat) = some (.int .i64 (rd l0 x8_1)) ∧ w17.cell? (ad256.add (x8_1).toNat) = some (.int .i64 (rd l0 x8_1)) := hS_
             obtain ⟨co18, eo18⟩ := HA_HO255.out
             clear HA_HO255
             subst eo18
             refine norm_ (a' := ?_) ?_ ?_
             rotate_left
             ·simp only [putAll, Act.put, List.setIfInBounds_toArray, List.set_cons_zero, List.set_cons_succ]
              rfl
             refine two_ (i := 11) (j := 17) (Ni := some 29) (Nj := some 35) #[true, true, true, true, true, true, true, true, true, true, true, true, true, true, true, true, true, false, false, false, false, false] #[true, true, true, true, true, true, true, true, true, true, true, false, true, true, true, true, true, true, false, false, false, false] rfl rfl rfl rfl (two_of HT_.out (by kernel_rfl)) (by decide) (by decide) (fun K hK => ?_) (fun K hK => ?_)
             ·skip
              (have p258 : 0 ≤ (t257 : Int) := of_decide_eq_true (by first | (with_reducible assumption) | assumption); have q258 : t257 < (y253.length : Int) := of_decide_eq_true (by first | (with_reducible assumption) | assumption); obtain ⟨ad258, e258, hx258_0⟩ := Kd.at_int (Kd.R_reads' HO255.out).2.2 t257 p258 q258; obtain rfl : adz_v254 = ad258 := (by injection e258))
              refine value_ (w1 := ?_) (v := ?_) (by rfl) rfl ?_ ?_
              rotate_left 2
              ·go_simp
               constructor
               ·rfl
               ·rfl
              clear hx258_0
              refine hK.out _ _ ⟨((HB.out.cell (World.block_lt_of_cell? w _ hw256_0)).trans hw256_0), ((HB.out.cell (World.block_lt_of_cell? w _ hw259_0)).trans hw259_0)⟩ (fun hHeld => ?_)
              clear hK K
              refine norm_ (a' := ?_) ?_ ?_
              rotate_left
              ·show Act.put _ (some 29) _ = _
               simp only [Act.put, List.setIfInBounds_toArray, List.set_cons_zero, List.set_cons_succ, i64_w, i32_w]
               rfl
              exact norm_ (by first | (simp only [putAll, Act.put, List.setIfInBounds_toArray, List.set_cons_zero, List.set_cons_succ]; done) | (simp only [putAll, Act.put, List.setIfInBounds_toArray, List.set_cons_zero, List.set_cons_succ]; rfl)) (hJ4_9_11 (.slice (some adz_v254) y253.length co18, adz_v254) _ ⟨hHeld, (by (with_reducible repeat (first | apply Kd.R_alloc | apply Kd.R_drewN | apply Kd.R_drew)); exact HO255.out), (by (with_reducible repeat (first | apply Kd.R_alloc | apply Kd.R_drewN | apply Kd.R_drew)); exact HO_6.out), ⟨_, rfl⟩, (by repeat (first | (with_reducible first | exact HB.out | apply below_alloc | apply pw_below_drewN | apply below_drew1) | exact HB.out))⟩)
             ·skip
              refine goes_ Try.func12 (by kernel_rfl) rfl #[.int .i64 (wrap64 (Int.tdiv (rd l0 x8_1) 6)), .int .i64 20] (by rfl) rfl rfl (by (try simp only [List.map_toArray, List.map_cons, List.map_nil]); first | done | rfl | (simp only [List.length_drop, List.length_take]; rfl)) ?_
              with_reducible refine (l7_within.calls (wrap64 (Int.tdiv (rd l0 x8_1) 6)) 20 t260 _ A10.out).mono ?_
              rintro e w' ⟨rfl, ⟨nd, rfl⟩⟩
              refine ⟨_, rfl, ?_⟩
              refine hK.out _ _ ⟨((HB.out.cell (World.block_lt_of_cell? w _ hw256_0)).trans hw256_0), ((HB.out.cell (World.block_lt_of_cell? w _ hw259_0)).trans hw259_0)⟩ (fun hHeld => ?_)
              clear hK K
              refine norm_ (a' := ?_) ?_ ?_
              rotate_left
              ·show Act.put _ (some 35) _ = _
               simp only [Act.put, List.setIfInBounds_toArray, List.set_cons_zero, List.set_cons_succ, i64_w, i32_w]
               rfl
              exact norm_ (by first | (simp only [putAll, Act.put, List.setIfInBounds_toArray, List.set_cons_zero, List.set_cons_succ]; done) | (simp only [putAll, Act.put, List.setIfInBounds_toArray, List.set_cons_zero, List.set_cons_succ]; rfl)) (hJ4_9_17 (.slice (some adz_v254) y253.length co18, adz_v254) _ ⟨hHeld, (by (with_reducible repeat (first | apply Kd.R_alloc | apply Kd.R_drewN | apply Kd.R_drew)); exact HO255.out), (by (with_reducible repeat (first | apply Kd.R_alloc | apply Kd.R_drewN | apply Kd.R_drew)); exact HO_6.out), ⟨_, rfl⟩, (by repeat (first | (with_reducible first | exact HB.out | apply below_alloc | apply pw_below_drewN | apply below_drew1) | exact HB.out))⟩)
           ·skip
            rintro ⟨v254, adz_v254⟩ w17 ⟨hS_, h0_, h1_, h2_, h3_⟩
            have n0_ : Aside0 (Kd.R (Kd.int .i64) 3 w17 w.heap.size (fun _ => True) v254 y253) := ⟨h0_⟩
            have n1_ : Aside0 (Kd.R k31 31 w17 w.heap.size (fun _ => True) (.slice Ao12 x6_1.length co12) x6_1) := ⟨h1_⟩
            have n2_ : Aside0 (∃ c_, (v254 : Value) = .slice (some adz_v254) y253.length c_) := ⟨h2_⟩
            have n3_ : Aside0 (Below w.heap.size w w17) := ⟨h3_⟩
            clear HO_6
            clear HB
            clear h0_ h1_ h2_ h3_
            have HO255 := n0_
            have HO_6 := n1_
            have HA_HO255 := n2_
            have HB := n3_
            clear n0_ n1_ n2_ n3_
            have hHeld : w17.cell? (ad256.add (x8_1).toNat) = some (.int .i64 (rd l0 x8_1)) ∧ w17.cell? (ad256.add (x8_1).toNat) = some (.int .i64 (rd l0 x8_1)) := hS_
            obtain ⟨co18, eo18⟩ := HA_HO255.out
            clear HA_HO255
            subst eo18
            refine norm_ (a' := ?_) ?_ ?_
            rotate_left
            ·simp only [putAll, Act.put, List.setIfInBounds_toArray, List.set_cons_zero, List.set_cons_succ]
             rfl
            refine one_ (i := 11) (N := some 29) #[true, true, true, true, true, true, true, true, true, true, true, true, true, true, true, true, true, true, false, false, false, false] rfl rfl (one_of HT_.out (by kernel_rfl)) (by decide) (fun K hK => ?_)
            (have p258 : 0 ≤ (t257 : Int) := of_decide_eq_true (by first | (with_reducible assumption) | assumption); have q258 : t257 < (y253.length : Int) := of_decide_eq_true (by first | (with_reducible assumption) | assumption); obtain ⟨ad258, e258, hx258_0⟩ := Kd.at_int (Kd.R_reads' HO255.out).2.2 t257 p258 q258; obtain rfl : adz_v254 = ad258 := (by injection e258))
            refine value_ (w1 := ?_) (v := ?_) (by rfl) rfl ?_ ?_
            rotate_left 2
            ·go_simp
             constructor
             ·rfl
             ·rfl
            clear hx258_0
            refine hK.out _ _ ⟨((HB.out.cell (World.block_lt_of_cell? w _ hw256_0)).trans hw256_0), ((HB.out.cell (World.block_lt_of_cell? w _ hw259_0)).trans hw259_0)⟩ (fun hHeld => ?_)
            clear hK K
            refine norm_ (a' := ?_) ?_ ?_
            rotate_left
            ·show Act.put _ (some 29) _ = _
             simp only [Act.put, List.setIfInBounds_toArray, List.set_cons_zero, List.set_cons_succ, i64_w, i32_w]
             rfl
            exact norm_ (by first | (simp only [putAll, Act.put, List.setIfInBounds_toArray, List.set_cons_zero, List.set_cons_succ]; done) | (simp only [putAll, Act.put, List.setIfInBounds_toArray, List.set_cons_zero, List.set_cons_succ]; rfl)) (hJ4_9_11_17 (.slice (some adz_v254) y253.length co18, adz_v254) _ ⟨hHeld, (by (with_reducible repeat (first | apply Kd.R_alloc | apply Kd.R_drewN | apply Kd.R_drew)); exact HO255.out), (by (with_reducible repeat (first | apply Kd.R_alloc | apply Kd.R_drewN | apply Kd.R_drew)); exact HO_6.out), ⟨_, rfl⟩, (by repeat (first | (with_reducible first | exact HB.out | apply below_alloc | apply pw_below_drewN | apply below_drew1) | exact HB.out))⟩)
          ·skip
           rintro ⟨v254, adz_v254⟩ w17 ⟨hS_, h0_, h1_, h2_, h3_⟩
           have n0_ : Aside0 (Kd.R (Kd.int .i64) 3 w17 w.heap.size (fun _ => True) v254 y253) := ⟨h0_⟩
           have n1_ : Aside0 (Kd.R k31 31 w17 w.heap.size (fun _ => True) (.slice Ao12 x6_1.length co12) x6_1) := ⟨h1_⟩
           have n2_ : Aside0 (∃ c_, (v254 : Value) = .slice (some adz_v254) y253.length c_) := ⟨h2_⟩
           have n3_ : Aside0 (Below w.heap.size w w17) := ⟨h3_⟩
           clear HO_6
           clear HB
           clear h0_ h1_ h2_ h3_
           have HO255 := n0_
           have HO_6 := n1_
           have HA_HO255 := n2_
           have HB := n3_
           clear n0_ n1_ n2_ n3_
           have hHeld : w17.cell? (ad256.add (x8_1).toNat) = some (.int .i64 (rd l0 x8_1)) ∧ w17.cell? (ad256.add (x8_1).toNat) = some (.int .i64 (rd l0 x8_1)) := hS_
           obtain ⟨co18, eo18⟩ := HA_HO255.out
           clear HA_HO255
           subst eo18
           refine norm_ (a' := ?_) ?_ ?_
           rotate_left
           ·simp only [putAll, Act.put, List.setIfInBounds_toArray, List.set_cons_zero, List.set_cons_succ]
            rfl
           refine one_ (i := 17) (N := some 35) #[true, true, true, true, true, true, true, true, true, true, true, true, true, true, true, true, true, true, false, false, false, false] rfl rfl (one_of HT_.out (by kernel_rfl)) (by decide) (fun K hK => ?_)
           refine goes_ Try.func12 (by kernel_rfl) rfl #[.int .i64 (wrap64 (Int.tdiv (rd l0 x8_1) 6)), .int .i64 20] (by rfl) rfl rfl (by (try simp only [List.map_toArray, List.map_cons, List.map_nil]); first | done | rfl | (simp only [List.length_drop, List.length_take]; rfl)) ?_
           with_reducible refine (l7_within.calls (wrap64 (Int.tdiv (rd l0 x8_1) 6)) 20 t260 _ A10.out).mono ?_
           rintro e w' ⟨rfl, ⟨nd, rfl⟩⟩
           refine ⟨_, rfl, ?_⟩
           refine hK.out _ _ ⟨((HB.out.cell (World.block_lt_of_cell? w _ hw256_0)).trans hw256_0), ((HB.out.cell (World.block_lt_of_cell? w _ hw259_0)).trans hw259_0)⟩ (fun hHeld => ?_)
           clear hK K
           refine norm_ (a' := ?_) ?_ ?_
           rotate_left
           ·show Act.put _ (some 35) _ = _
            simp only [Act.put, List.setIfInBounds_toArray, List.set_cons_zero, List.set_cons_succ, i64_w, i32_w]
            rfl
           exact norm_ (by first | (simp only [putAll, Act.put, List.setIfInBounds_toArray, List.set_cons_zero, List.set_cons_succ]; done) | (simp only [putAll, Act.put, List.setIfInBounds_toArray, List.set_cons_zero, List.set_cons_succ]; rfl)) (hJ4_9_11_17 (.slice (some adz_v254) y253.length co18, adz_v254) _ ⟨hHeld, (by (with_reducible repeat (first | apply Kd.R_alloc | apply Kd.R_drewN | apply Kd.R_drew)); exact HO255.out), (by (with_reducible repeat (first | apply Kd.R_alloc | apply Kd.R_drewN | apply Kd.R_drew)); exact HO_6.out), ⟨_, rfl⟩, (by repeat (first | (with_reducible first | exact HB.out | apply below_alloc | apply pw_below_drewN | apply below_drew1) | exact HB.out))⟩)
         rintro ⟨v254, adz_v254⟩ w17 ⟨hS_, h0_, h1_, h2_, h3_⟩
         have n0_ : Aside0 (Kd.R (Kd.int .i64) 3 w17 w.heap.size (fun _ => True) v254 y253) := ⟨h0_⟩
         have n1_ : Aside0 (Kd.R k31 31 w17 w.heap.size (fun _ => True) (.slice Ao12 x6_1.length co12) x6_1) := ⟨h1_⟩
         have n2_ : Aside0 (∃ c_, (v254 : Value) = .slice (some adz_v254) y253.length c_) := ⟨h2_⟩
         have n3_ : Aside0 (Below w.heap.size w w17) := ⟨h3_⟩
         clear HO_6
         clear HB
         clear h0_ h1_ h2_ h3_
         have HO255 := n0_
         have HO_6 := n1_
         have HA_HO255 := n2_
         have HB := n3_
         clear n0_ n1_ n2_ n3_
         have hHeld : w17.cell? (ad256.add (x8_1).toNat) = some (.int .i64 (rd l0 x8_1)) ∧ w17.cell? (ad256.add (x8_1).toNat) = some (.int .i64 (rd l0 x8_1)) := hS_
         obtain ⟨co18, eo18⟩ := HA_HO255.out
         clear HA_HO255
         subst eo18
         refine norm_ (a' := ?_) ?_ ?_
         rotate_left
         ·simp only [putAll, Act.put, List.setIfInBounds_toArray, List.set_cons_zero, List.set_cons_succ]
          rfl
         refine pure_ (i := 18) (N := some 36) (v := ?_) (a' := ?_) #[true, true, true, true, true, true, true, true, true, true, true, true, true, true, true, true, true, true, true, false, false, false] rfl rfl (any_of HT_.out (by kernel_rfl)) (fun _ _ _ h => h) (Or.inl ⟨by rfl, ?_⟩) ?_ ?_
         rotate_left
         ·intro w'
          go_simp
          with_reducible rfl
         rotate_left
         ·simp only [Act.put, List.setIfInBounds_toArray, List.set_cons_zero, List.set_cons_succ, i64_w, i32_w]
          rfl
         refine one_ (i := 19) (N := some 37) #[true, true, true, true, true, true, true, true, true, true, true, true, true, true, true, true, true, true, true, true, false, false] rfl rfl (one_of HT_.out (by kernel_rfl)) (by decide) (fun K hK => ?_)
         refine value_ (w1 := ?_) (v := ?_) (by rfl) rfl ?_ ?_
         rotate_left 2
         ·go_simp
          constructor
          ·rfl
          ·rfl
         refine hK.out _ _ ⟨(World.cell?_alloc_lt _ _ _ (World.block_lt_of_cell? _ _ (((HB.out.cell (World.block_lt_of_cell? w _ hw256_0)).trans hw256_0)))).trans (((HB.out.cell (World.block_lt_of_cell? w _ hw256_0)).trans hw256_0)), (World.cell?_alloc_lt _ _ _ (World.block_lt_of_cell? _ _ (((HB.out.cell (World.block_lt_of_cell? w _ hw259_0)).trans hw259_0)))).trans (((HB.out.cell (World.block_lt_of_cell? w _ hw259_0)).trans hw259_0))⟩ (fun hHeld => ?_)
         clear hK K
         refine norm_ (a' := ?_) ?_ ?_
         rotate_left
         ·show Act.put _ (some 37) _ = _
          simp only [Act.put, List.setIfInBounds_toArray, List.set_cons_zero, List.set_cons_succ, i64_w, i32_w]
          rfl
         refine one_ (i := 20) (N := some 38) #[true, true, true, true, true, true, true, true, true, true, true, true, true, true, true, true, true, true, true, true, true, false] rfl rfl (one_of HT_.out (by kernel_rfl)) (by decide) (fun K hK => ?_)
         refine Kd.R_append_step k31 (w0 := w) w.heap.size (by rfl) (.tmp 18) (.tmp 37) 28 31 (.agg #[(.int .i64 0), (.int .i64 0), (.int .i64 0), (.int .i64 0), (.int .i64 0)]) 40 rfl Try.underlying28 info31 rfl (by decide) (by omega) (.slice Ao12 x6_1.length co12) x6_1 (⟨x8_1, wrap64 (x8_1 + 1), rd y253 t257, t260, 1⟩ : S31) [.int .i64 x8_1, .int .i64 (wrap64 (x8_1 + 1)), .int .i64 (rd y253 t257), .int .i64 t260, .int .i64 1] (fun _ => True) (fun _ => False) rfl rfl ?aP (fun _ hk => hk.elim) ?aF ?aO ?aB ?aS ?aL ?_
         (case aP => exact k31_mkM _ _ _ (⟨x8_1, wrap64 (x8_1 + 1), rd y253 t257, t260, 1⟩ : S31))
         (case aB => exact (by repeat (first | (with_reducible first | exact HB.out | apply below_alloc | apply pw_below_drewN | apply below_drew1) | exact HB.out)))
         (case aF => exact (fun _ _ => trivial))
         (case aO => exact (by (with_reducible repeat (first | apply Kd.R_alloc | apply Kd.R_drewN | apply Kd.R_drew)); exact HO_6.out))
         (case aS => exact (below_size (by repeat (first | (with_reducible first | exact HB.out | apply below_alloc | apply pw_below_drewN | apply below_drew1) | exact HB.out))))
         (case aL => have := LMc11.out; omega)
         intro v262 w19 ho hb hg hat
         rw [← Ny261.out] at ho
         have n0_ := Aside0.mk (Kd.R_over' (by (with_reducible repeat (first | apply Kd.R_alloc | apply Kd.R_drewN | apply Kd.R_drew)); exact HO255.out) (Kd.R_typed (by (with_reducible repeat (first | apply Kd.R_alloc | apply Kd.R_drewN | apply Kd.R_drew)); exact HO_6.out)) (by decide) hg)
         have n1_ := Aside0.mk (hb)
         have n2_ := Aside0.mk (ho)
         clear HO255
         clear HB
         clear HO_6
         have HO255 := n0_
         have HB := n1_
         have HO263 := n2_
         clear n0_ n1_ n2_
         clear ho hb hg hat
         refine hK.out _ _ ⟨((HB.out.cell (World.block_lt_of_cell? w _ hw256_0)).trans hw256_0), ((HB.out.cell (World.block_lt_of_cell? w _ hw259_0)).trans hw259_0)⟩ (fun hHeld => ?_)
         clear hK K
         refine norm_ (a' := ?_) ?_ ?_
         rotate_left
         ·show Act.put _ (some 38) _ = _
          simp only [Act.put, List.setIfInBounds_toArray, List.set_cons_zero, List.set_cons_succ, i64_w, i32_w]
          rfl
         refine pure_ (i := 21) (N := some 6) (v := ?_) (a' := ?_) #[true, true, true, true, true, true, true, true, true, true, true, true, true, true, true, true, true, true, true, true, true, true] rfl rfl (any_of HT_.out (by kernel_rfl)) (fun _ _ _ h => h) (Or.inl ⟨by rfl, ?_⟩) ?_ ?_
         rotate_left
         ·intro w'
          go_simp
          with_reducible rfl
         rotate_left
         ·simp only [Act.put, List.setIfInBounds_toArray, List.set_cons_zero, List.set_cons_succ, i64_w, i32_w]
          rfl
         refine done_ (done_of HT_.out (by kernel_rfl)) ?_
         try go_wp2
         go_roundg k1
         case measure => have := HK1.out; omega
         case rel => exact ⟨(y261), (wrap64 (x8_1 + 1)), (by first | rfl | (simp; done) | (simp [*]; done)), H', ⟨by have := HK1.out; omega⟩, ⟨by (with_reducible repeat (first | apply Kd.R_alloc | apply Kd.R_drewN | apply Kd.R_drew)); exact HO263.out⟩, ⟨by repeat (first | (with_reducible first | exact HB.out | apply below_alloc | apply pw_below_drewN | apply below_drew1) | exact HB.out)⟩⟩
        ·rw [if_neg c11] at H
         exact absurd H (by simp)
       ·rw [if_neg c9] at H
        exact absurd H (by simp)
      ·rw [if_neg c8] at H
       exact absurd H (by simp)
     ·rw [if_neg c6] at H
      exact absurd H (by simp)
    ·rw [if_neg c5] at H
     exact absurd H (by simp)
   ·rw [if_neg c4] at H
    have c4b0 : decide (x8_1 < ji3) = false := decide_eq_false c4
    clear c4
    simp only [Option.some.injEq, Prod.mk.injEq] at H
    obtain ⟨rfl, rfl⟩ := H
    go_wp2
    go_ret2
    exact ⟨_, by first | rfl | (simp [errW_none, errW_some] <;> rfl) | (simp only [← hji3]; first | rfl | (simp [errW_none, errW_some] <;> rfl)) | (simp [*, errW_none, errW_some] <;> rfl), by (with_reducible repeat (first | apply Kd.R_alloc | apply Kd.R_drewN | apply Kd.R_drew)); exact HO_6.out, by repeat (first | (with_reducible first | exact HB.out | apply below_alloc | apply pw_below_drewN | apply below_drew1) | exact HB.out)⟩
mutual
noncomputable def l7_ChartMore.j0 : Nat → List (S49) → List Int → Int → Bool → Option (Bool)
 | 0, _, _, _, _ => none
 | k + 1, x0, x1, x2, x24 => if x24 = true then (some true) else ((l7_within.f x2 4).bind fun t266 => ((l4_Rules.f k x0 (wrap64 (1 + t266))).bind fun t267 => (if (t267.length : Int) = 0 then (some true) else (if 0 ≤ (wrap64 ((t267.length : Int) - 1)) then (if (wrap64 ((t267.length : Int) - 1)) ≤ (t267.length : Int) then ((some (t267.take ((wrap64 ((t267.length : Int) - 1)) : Int).toNat : List (S41))).bind fun y270 => ((l7_row.f k x1 5).bind fun bt275 => ((chart_Spans.f y270 bt275.1 bt275.2).bind fun t279 => ((chart_Spans.f t267 bt275.1 bt275.2).bind fun t282 => (l7_ChartMore.l0 k t267 y270 bt275.1 bt275.2 t279 t282 0 0))))) else (none)) else (none)))))
noncomputable def l7_ChartMore.l0 : Nat → List (S41) → List (S41) → List (S31) → Int → List (S35) → List (S35) → Int → Int → Option (Bool)
 | 0, _, _, _, _, _, _, _, _ => none
 | k + 1, x7, x8, x9, x10, x11, x12, x13, x14 => if x14 < (x12.length : Int) then (if x13 < (x11.length : Int) then (if 0 ≤ x13 then (if 0 ≤ x14 then (if (((rd_T35 x11 x13).f0) == ((rd_T35 x12 x14).f0) && (((rd_T35 x11 x13).f1) == ((rd_T35 x12 x14).f1) && (((rd_T35 x11 x13).f2) == ((rd_T35 x12 x14).f2)))) = true then (l7_ChartMore.l0 k x7 x8 x9 x10 x11 x12 (wrap64 (x13 + 1)) (wrap64 (x14 + 1))) else (l7_ChartMore.l0 k x7 x8 x9 x10 x11 x12 x13 (wrap64 (x14 + 1)))) else (none)) else (none)) else (l7_ChartMore.l0 k x7 x8 x9 x10 x11 x12 x13 (wrap64 (x14 + 1)))) else (if x13 = (x11.length : Int) then ((chart_Count.f x8 x9 0 0 x10 100000).bind fun t287 => ((chart_Count.f x7 x9 0 0 x10 100000).bind fun t288 => (some (decide (t287 ≤ t288))))) else (some false))
end
noncomputable def l7_ChartMore.f (k : Nat) (l0 : List (S49)) (l1 : List Int) (a2 : Int) : Option (Bool) := (l7_known.f).bind fun t264 => (if t264 = true then ((l4_Few.f k l0).bind fun t265 => (if t265 = true then (l7_ChartMore.j0 k l0 l1 a2 (decide ((l0.length : Int) > 8))) else (l7_ChartMore.j0 k l0 l1 a2 true))) else (some false))
theorem l7_ChartMore.mono_l : ∀ k, (∀ y0 y1 y2 y3, LeO (l7_ChartMore.j0 k y0 y1 y2 y3) (l7_ChartMore.j0 (k + 1) y0 y1 y2 y3)) ∧ (∀ y0 y1 y2 y3 y4 y5 y6 y7, LeO (l7_ChartMore.l0 k y0 y1 y2 y3 y4 y5 y6 y7) (l7_ChartMore.l0 (k + 1) y0 y1 y2 y3 y4 y5 y6 y7))
 | 0 => ⟨fun _ _ _ _ r h => by simp [l7_ChartMore.j0] at h, fun _ _ _ _ _ _ _ _ r h => by simp [l7_ChartMore.l0] at h⟩
 | k + 1 => by
  obtain ⟨ih0, ih1⟩ := l7_ChartMore.mono_l k
  refine ⟨?_, ?_⟩
  ·intro y0 y1 y2 y3
   unfold l7_ChartMore.j0
   repeat' first
   | (with_reducible exact ih0 _ _ _ _)
   | (with_reducible exact ih1 _ _ _ _ _ _ _ _)
   | (with_reducible exact l4_Few.mono _ _)
   | (with_reducible exact l4_Rules.mono _ _ _)
   | (with_reducible exact l7_row.mono _ _ _)
   | (with_reducible exact LeO.refl _)
   | (with_reducible exact LeO.none _)
   | (with_reducible refine LeO.ite ?_ ?_)
   | (with_reducible refine LeO.bind ?_ (fun _ => ?_))
   | exact ih0 _ _ _ _
   | exact ih1 _ _ _ _ _ _ _ _
   | exact l4_Few.mono _ _
   | exact l4_Rules.mono _ _ _
   | exact l7_row.mono _ _ _
   | exact LeO.none _
   | refine LeO.ite ?_ ?_
   | refine LeO.bind ?_ (fun _ => ?_)
  ·intro y0 y1 y2 y3 y4 y5 y6 y7
   unfold l7_ChartMore.l0
   repeat' first
   | (with_reducible exact ih0 _ _ _ _)
   | (with_reducible exact ih1 _ _ _ _ _ _ _ _)
   | (with_reducible exact l4_Few.mono _ _)
   | (with_reducible exact l4_Rules.mono _ _ _)
   | (with_reducible exact l7_row.mono _ _ _)
   | (with_reducible exact LeO.refl _)
   | (with_reducible exact LeO.none _)
   | (with_reducible refine LeO.ite ?_ ?_)
   | (with_reducible refine LeO.bind ?_ (fun _ => ?_))
   | exact ih0 _ _ _ _
   | exact ih1 _ _ _ _ _ _ _ _
   | exact l4_Few.mono _ _
   | exact l4_Rules.mono _ _ _
   | exact l7_row.mono _ _ _
   | exact LeO.none _
   | refine LeO.ite ?_ ?_
   | refine LeO.bind ?_ (fun _ => ?_)
theorem l7_ChartMore.mono : ∀ a0 a1 a2 k, LeO (l7_ChartMore.f k a0 a1 a2) (l7_ChartMore.f (k + 1) a0 a1 a2) := by
 intro a0 a1 a2 k
 obtain ⟨ih0, ih1⟩ := l7_ChartMore.mono_l k
 unfold l7_ChartMore.f
 repeat' first
   | (with_reducible exact ih0 _ _ _ _)
   | (with_reducible exact ih1 _ _ _ _ _ _ _ _)
   | (with_reducible exact l4_Few.mono _ _)
   | (with_reducible exact l4_Rules.mono _ _ _)
   | (with_reducible exact l7_row.mono _ _ _)
   | (with_reducible exact LeO.refl _)
   | (with_reducible exact LeO.none _)
   | (with_reducible refine LeO.ite ?_ ?_)
   | (with_reducible refine LeO.bind ?_ (fun _ => ?_))
   | exact ih0 _ _ _ _
   | exact ih1 _ _ _ _ _ _ _ _
   | exact l4_Few.mono _ _
   | exact l4_Rules.mono _ _ _
   | exact l7_row.mono _ _ _
   | exact LeO.none _
   | refine LeO.ite ?_ ?_
   | refine LeO.bind ?_ (fun _ => ?_)
set_option maxHeartbeats 8000000 in
set_option maxRecDepth 100000 in
theorem l7_ChartMore.calls (k : Nat) (A0 : Option Addr) (c0 : Nat) (l0 : List (S49)) (A1 : Option Addr) (c1 : Nat) (l1 : List Int) (a2 : Int) (r : Bool) (w : World) (hr0 : Kd.C k49 w A0 l0.length l0) (hc0 : l0.length ≤ c0) (hr1 : Kd.C (Kd.int .i64) w A1 l1.length l1) (hc1 : l1.length ≤ c1) (h : l7_ChartMore.f k l0 l1 a2 = some r) :
  Calls Try.prog 6 #[.slice A0 l0.length c0, .slice A1 l1.length c1, .int .i64 a2] w fun e w' => e = .returned (.bool r) ∧ Below w.heap.size w w' := by
 have hu35 := Try.underlying35
 have HR0 := Aside0.mk hr0
 have HC0 := Aside0.mk hc0
 clear hr0 hc0
 have HR1 := Aside0.mk hr1
 have HC1 := Aside0.mk hc1
 clear hr1 hc1
 have HB := Aside0.mk (Below.refl w.heap.size w)
 have H : ((l7_known.f).bind fun t264 => (if t264 = true then ((l4_Few.f k l0).bind fun t265 => (if t265 = true then (l7_ChartMore.j0 k l0 l1 a2 (decide ((l0.length : Int) > 8))) else (l7_ChartMore.j0 k l0 l1 a2 true))) else (some false))) = some r := h
 clear h
 replace H := Option.bind_eq_some_iff.mp H
 obtain ⟨t264, A40, H⟩ := H
 replace H : (if t264 = true then ((l4_Few.f k l0).bind fun t265 => (if t265 = true then (l7_ChartMore.j0 k l0 l1 a2 (decide ((l0.length : Int) > 8))) else (l7_ChartMore.j0 k l0 l1 a2 true))) else (some false)) = some r := H
 have A4 := Aside0.mk A40
 clear A40
 by_cases c5 : t264 = true
 ·subst c5
  have H1 : ((l4_Few.f k l0).bind fun t265 => (if t265 = true then (l7_ChartMore.j0 k l0 l1 a2 (decide ((l0.length : Int) > 8))) else (l7_ChartMore.j0 k l0 l1 a2 true))) = some r := by rw [if_pos rfl] at H; exact H
  clear H
  have H := H1
  clear H1
  have HC6 := Aside0.mk H
  clear H
  go_enter Try.func6, Try.ntmps6
  go_upto_region 3 with (first | (go_at_call 9; (with_reducible refine (l7_known.calls  true _ A4.out).mono ?_); rintro e w7 ⟨rfl, hb⟩; have n0_ := Aside0.mk (below_step (by repeat (first | (with_reducible first | exact HB.out | apply below_alloc | apply pw_below_drewN | apply below_drew1) | exact HB.out)) hb); clear HB; have HB := n0_; clear n0_; (try clear hb); (try clear hb2); (try clear hk); (try clear hi)))
  repeat (go_quiet (first | (go_at_call 9; (with_reducible refine (l7_known.calls  true _ A4.out).mono ?_); rintro e w7 ⟨rfl, hb⟩; have n0_ := Aside0.mk (below_step (by repeat (first | (with_reducible first | exact HB.out | apply below_alloc | apply pw_below_drewN | apply below_drew1) | exact HB.out)) hb); clear HB; have HB := n0_; clear n0_; (try clear hb); (try clear hb2); (try clear hk); (try clear hi))); go_upto_region 3 with (first | (go_at_call 9; (with_reducible refine (l7_known.calls  true _ A4.out).mono ?_); rintro e w7 ⟨rfl, hb⟩; have n0_ := Aside0.mk (below_step (by repeat (first | (with_reducible first | exact HB.out | apply below_alloc | apply pw_below_drewN | apply below_drew1) | exact HB.out)) hb); clear HB; have HB := n0_; clear n0_; (try clear hb); (try clear hb2); (try clear hk); (try clear hi))))
  (try simp only [Act.put, List.setIfInBounds_toArray, List.set_cons_zero, List.set_cons_succ])
  go_cut [24] (fun v24 wc => ∃ (kq : Nat) (x24_5 : Bool), v24 = .bool x24_5 ∧ Aside0 (l7_ChartMore.j0 kq l0 l1 a2 x24_5 = some r) ∧ Aside0 (kq ≤ k) ∧ Aside0 (Below w.heap.size w wc))
  case first =>
   have H := HC6.out
   clear HC6
   replace H := Option.bind_eq_some_iff.mp H
   obtain ⟨t265, A80, H⟩ := H
   replace H : (if t265 = true then (l7_ChartMore.j0 k l0 l1 a2 (decide ((l0.length : Int) > 8))) else (l7_ChartMore.j0 k l0 l1 a2 true)) = some r := H
   have A8 := Aside0.mk A80
   clear A80
   by_cases c9 : t265 = true
   ·subst c9
    have H1 : (l7_ChartMore.j0 k l0 l1 a2 (decide ((l0.length : Int) > 8))) = some r := by rw [if_pos rfl] at H; exact H
    clear H
    have H := H1
    clear H1
    have H' := Aside0.mk H
    clear H
    go_wp2_with (first | (go_at_call 10; (with_reducible refine (l4_Few.calls k _ _ l0 true _ ?side1 ?side2 A8.out).mono ?_); (case side1 => repeat (first | exact (Kd.C_below HR0.out HB.out) | (with_reducible refine Kd.C_alloc ?_ _) | (with_reducible refine Kd.C_drewN ?_ _) | (with_reducible refine Kd.C_drew ?_))); (case side2 => exact HC0.out); rintro e w' ⟨rfl, ⟨nd, rfl⟩⟩; (try first | exact ⟨rfl, _, World.drewN_drewN _ _ _⟩ | exact ⟨rfl, _, Eq.trans (World.drewN_drewN _ _ _) (congrArg (World.drewN _) (Nat.add_assoc _ _ _))⟩)))
    repeat (go_quiet (first | (go_at_call 10; (with_reducible refine (l4_Few.calls k _ _ l0 true _ ?side1 ?side2 A8.out).mono ?_); (case side1 => repeat (first | exact (Kd.C_below HR0.out HB.out) | (with_reducible refine Kd.C_alloc ?_ _) | (with_reducible refine Kd.C_drewN ?_ _) | (with_reducible refine Kd.C_drew ?_))); (case side2 => exact HC0.out); rintro e w' ⟨rfl, ⟨nd, rfl⟩⟩; (try first | exact ⟨rfl, _, World.drewN_drewN _ _ _⟩ | exact ⟨rfl, _, Eq.trans (World.drewN_drewN _ _ _) (congrArg (World.drewN _) (Nat.add_assoc _ _ _))⟩))); try go_wp2_with (first | (go_at_call 10; (with_reducible refine (l4_Few.calls k _ _ l0 true _ ?side1 ?side2 A8.out).mono ?_); (case side1 => repeat (first | exact (Kd.C_below HR0.out HB.out) | (with_reducible refine Kd.C_alloc ?_ _) | (with_reducible refine Kd.C_drewN ?_ _) | (with_reducible refine Kd.C_drew ?_))); (case side2 => exact HC0.out); rintro e w' ⟨rfl, ⟨nd, rfl⟩⟩; (try first | exact ⟨rfl, _, World.drewN_drewN _ _ _⟩ | exact ⟨rfl, _, Eq.trans (World.drewN_drewN _ _ _) (congrArg (World.drewN _) (Nat.add_assoc _ _ _))⟩))))
    go_meet
    case rel => exact ⟨_, (decide ((l0.length : Int) > 8)), (by first | rfl | (simp; done) | (simp [*]; done)), H', ⟨by first | omega | exact Nat.le_refl _⟩, ⟨by repeat (first | (with_reducible first | exact HB.out | apply below_alloc | apply pw_below_drewN | apply below_drew1) | exact HB.out)⟩⟩
   ·replace c9 := Bool.eq_false_iff.mpr c9
    subst c9
    have H1 : (l7_ChartMore.j0 k l0 l1 a2 true) = some r := by rw [if_neg (show ¬ (false = true) by decide)] at H; exact H
    clear H
    have H := H1
    clear H1
    have H' := Aside0.mk H
    clear H
    go_wp2_with (first | (go_at_call 10; (with_reducible refine (l4_Few.calls k _ _ l0 false _ ?side1 ?side2 A8.out).mono ?_); (case side1 => repeat (first | exact (Kd.C_below HR0.out HB.out) | (with_reducible refine Kd.C_alloc ?_ _) | (with_reducible refine Kd.C_drewN ?_ _) | (with_reducible refine Kd.C_drew ?_))); (case side2 => exact HC0.out); rintro e w' ⟨rfl, ⟨nd, rfl⟩⟩; (try first | exact ⟨rfl, _, World.drewN_drewN _ _ _⟩ | exact ⟨rfl, _, Eq.trans (World.drewN_drewN _ _ _) (congrArg (World.drewN _) (Nat.add_assoc _ _ _))⟩)))
    repeat (go_quiet (first | (go_at_call 10; (with_reducible refine (l4_Few.calls k _ _ l0 false _ ?side1 ?side2 A8.out).mono ?_); (case side1 => repeat (first | exact (Kd.C_below HR0.out HB.out) | (with_reducible refine Kd.C_alloc ?_ _) | (with_reducible refine Kd.C_drewN ?_ _) | (with_reducible refine Kd.C_drew ?_))); (case side2 => exact HC0.out); rintro e w' ⟨rfl, ⟨nd, rfl⟩⟩; (try first | exact ⟨rfl, _, World.drewN_drewN _ _ _⟩ | exact ⟨rfl, _, Eq.trans (World.drewN_drewN _ _ _) (congrArg (World.drewN _) (Nat.add_assoc _ _ _))⟩))); try go_wp2_with (first | (go_at_call 10; (with_reducible refine (l4_Few.calls k _ _ l0 false _ ?side1 ?side2 A8.out).mono ?_); (case side1 => repeat (first | exact (Kd.C_below HR0.out HB.out) | (with_reducible refine Kd.C_alloc ?_ _) | (with_reducible refine Kd.C_drewN ?_ _) | (with_reducible refine Kd.C_drew ?_))); (case side2 => exact HC0.out); rintro e w' ⟨rfl, ⟨nd, rfl⟩⟩; (try first | exact ⟨rfl, _, World.drewN_drewN _ _ _⟩ | exact ⟨rfl, _, Eq.trans (World.drewN_drewN _ _ _) (congrArg (World.drewN _) (Nat.add_assoc _ _ _))⟩))))
    go_meet
    case rel => exact ⟨_, (true), (by first | rfl | (simp; done) | (simp [*]; done)), H', ⟨by first | omega | exact Nat.le_refl _⟩, ⟨by repeat (first | (with_reducible first | exact HB.out | apply below_alloc | apply pw_below_drewN | apply below_drew1) | exact HB.out)⟩⟩
  case rest =>
   clear HC6
   try clear c1
   try clear p2
   try clear c5
   try clear c6
   try clear c9
   obtain ⟨kq, x24_5, rfl, HA, HJ5, HB⟩ := hcut
   cases kq with
   | zero => exact absurd HA.out (by simp [l7_ChartMore.j0])
   | succ kj5 =>
    have H := HA.out
    clear HA
    simp only [l7_ChartMore.j0] at H
    by_cases c10 : x24_5 = true
    ·subst c10
     have H1 : (some true) = some r := by rw [if_pos rfl] at H; exact H
     clear H
     have H := H1
     clear H1
     obtain rfl := Option.some.inj H
     go_wp2
     repeat (go_quiet (fail); try go_wp2)
     go_ret
     exact ⟨by first | rfl | (simp [errW_none, errW_some] <;> rfl) | (simp [*, errW_none, errW_some] <;> rfl), by repeat (first | (with_reducible first | exact HB.out | apply below_alloc | apply pw_below_drewN | apply below_drew1) | exact HB.out)⟩
    ·replace c10 := Bool.eq_false_iff.mpr c10
     subst c10
     have H1 : ((l7_within.f a2 4).bind fun t266 => ((l4_Rules.f kj5 l0 (wrap64 (1 + t266))).bind fun t267 => (if (t267.length : Int) = 0 then (some true) else (if 0 ≤ (wrap64 ((t267.length : Int) - 1)) then (if (wrap64 ((t267.length : Int) - 1)) ≤ (t267.length : Int) then ((some (t267.take ((wrap64 ((t267.length : Int) - 1)) : Int).toNat : List (S41))).bind fun y270 => ((l7_row.f kj5 l1 5).bind fun bt275 => ((chart_Spans.f y270 bt275.1 bt275.2).bind fun t279 => ((chart_Spans.f t267 bt275.1 bt275.2).bind fun t282 => (l7_ChartMore.l0 kj5 t267 y270 bt275.1 bt275.2 t279 t282 0 0))))) else (none)) else (none))))) = some r := by rw [if_neg (show ¬ (false = true) by decide)] at H; exact H
     clear H
     have H := H1
     clear H1
     replace H := Option.bind_eq_some_iff.mp H
     obtain ⟨t266, A110, H⟩ := H
     replace H : ((l4_Rules.f kj5 l0 (wrap64 (1 + t266))).bind fun t267 => (if (t267.length : Int) = 0 then (some true) else (if 0 ≤ (wrap64 ((t267.length : Int) - 1)) then (if (wrap64 ((t267.length : Int) - 1)) ≤ (t267.length : Int) then ((some (t267.take ((wrap64 ((t267.length : Int) - 1)) : Int).toNat : List (S41))).bind fun y270 => ((l7_row.f kj5 l1 5).bind fun bt275 => ((chart_Spans.f y270 bt275.1 bt275.2).bind fun t279 => ((chart_Spans.f t267 bt275.1 bt275.2).bind fun t282 => (l7_ChartMore.l0 kj5 t267 y270 bt275.1 bt275.2 t279 t282 0 0))))) else (none)) else (none)))) = some r := H
     have A11 := Aside0.mk A110
     clear A110
     replace H := Option.bind_eq_some_iff.mp H
     obtain ⟨t267, A120, H⟩ := H
     replace H : (if (t267.length : Int) = 0 then (some true) else (if 0 ≤ (wrap64 ((t267.length : Int) - 1)) then (if (wrap64 ((t267.length : Int) - 1)) ≤ (t267.length : Int) then ((some (t267.take ((wrap64 ((t267.length : Int) - 1)) : Int).toNat : List (S41))).bind fun y270 => ((l7_row.f kj5 l1 5).bind fun bt275 => ((chart_Spans.f y270 bt275.1 bt275.2).bind fun t279 => ((chart_Spans.f t267 bt275.1 bt275.2).bind fun t282 => (l7_ChartMore.l0 kj5 t267 y270 bt275.1 bt275.2 t279 t282 0 0))))) else (none)) else (none))) = some r := H
     have A12 := Aside0.mk A120
     clear A120
     by_cases c13 : (t267.length : Int) = 0
     ·rw [if_pos c13] at H
      have c13b0 : ((t267.length : Int) == 0) = true := beq_iff_eq.mpr c13
      have c13b1 : ((t267.length : Int) != 0) = false := bne_eq_false_iff_eq.mpr c13
      clear c13
      obtain rfl := Option.some.inj H
      go_wp2_with (first | (go_at_call 12; (with_reducible refine (l7_within.calls a2 4 t266 _ A11.out).mono ?_); rintro e w' ⟨rfl, ⟨nd, rfl⟩⟩; (try first | exact ⟨rfl, _, World.drewN_drewN _ _ _⟩ | exact ⟨rfl, _, Eq.trans (World.drewN_drewN _ _ _) (congrArg (World.drewN _) (Nat.add_assoc _ _ _))⟩)) | (go_at_call 11; (with_reducible refine (l4_Rules.calls kj5 _ _ l0 (wrap64 (1 + t266)) t267 _ ?side1 ?side2 A12.out).mono ?_); (case side1 => repeat (first | exact (Kd.C_below HR0.out (by repeat (first | (with_reducible first | exact HB.out | apply below_alloc | apply pw_below_drewN | apply below_drew1) | exact HB.out))) | (with_reducible refine Kd.C_alloc ?_ _) | (with_reducible refine Kd.C_drewN ?_ _) | (with_reducible refine Kd.C_drew ?_))); (case side2 => exact HC0.out); rintro e w14 ⟨v268, rfl, ho0, hb⟩; have n0_ := Aside0.mk (Kd.N_lower (Kd.N_mono (ok' := fun k_ => True) ho0 (fun k_ hk_ => trivial)) (below_size (by repeat (first | (with_reducible first | exact HB.out | apply below_alloc | apply pw_below_drewN | apply below_drew1) | exact HB.out)))); have n1_ := Aside0.mk (below_step (by repeat (first | (with_reducible first | exact HB.out | apply below_alloc | apply pw_below_drewN | apply below_drew1) | exact HB.out)) hb); clear HB; have HO269 := n0_; have HB := n1_; clear n0_ n1_; (try clear hb); (try clear hb2); (try clear hk); (try clear hi); (try clear ho0); obtain ⟨Ao15, co15, eo15⟩ := Kd.N_slice HO269.out; subst eo15))
      repeat (go_quiet (first | (go_at_call 12; (with_reducible refine (l7_within.calls a2 4 t266 _ A11.out).mono ?_); rintro e w' ⟨rfl, ⟨nd, rfl⟩⟩; (try first | exact ⟨rfl, _, World.drewN_drewN _ _ _⟩ | exact ⟨rfl, _, Eq.trans (World.drewN_drewN _ _ _) (congrArg (World.drewN _) (Nat.add_assoc _ _ _))⟩)) | (go_at_call 11; (with_reducible refine (l4_Rules.calls kj5 _ _ l0 (wrap64 (1 + t266)) t267 _ ?side1 ?side2 A12.out).mono ?_); (case side1 => repeat (first | exact (Kd.C_below HR0.out (by repeat (first | (with_reducible first | exact HB.out | apply below_alloc | apply pw_below_drewN | apply below_drew1) | exact HB.out))) | (with_reducible refine Kd.C_alloc ?_ _) | (with_reducible refine Kd.C_drewN ?_ _) | (with_reducible refine Kd.C_drew ?_))); (case side2 => exact HC0.out); rintro e w14 ⟨v268, rfl, ho0, hb⟩; have n0_ := Aside0.mk (Kd.N_lower (Kd.N_mono (ok' := fun k_ => True) ho0 (fun k_ hk_ => trivial)) (below_size (by repeat (first | (with_reducible first | exact HB.out | apply below_alloc | apply pw_below_drewN | apply below_drew1) | exact HB.out)))); have n1_ := Aside0.mk (below_step (by repeat (first | (with_reducible first | exact HB.out | apply below_alloc | apply pw_below_drewN | apply below_drew1) | exact HB.out)) hb); clear HB; have HO269 := n0_; have HB := n1_; clear n0_ n1_; (try clear hb); (try clear hb2); (try clear hk); (try clear hi); (try clear ho0); obtain ⟨Ao15, co15, eo15⟩ := Kd.N_slice HO269.out; subst eo15)); try go_wp2_with (first | (go_at_call 12; (with_reducible refine (l7_within.calls a2 4 t266 _ A11.out).mono ?_); rintro e w' ⟨rfl, ⟨nd, rfl⟩⟩; (try first | exact ⟨rfl, _, World.drewN_drewN _ _ _⟩ | exact ⟨rfl, _, Eq.trans (World.drewN_drewN _ _ _) (congrArg (World.drewN _) (Nat.add_assoc _ _ _))⟩)) | (go_at_call 11; (with_reducible refine (l4_Rules.calls kj5 _ _ l0 (wrap64 (1 + t266)) t267 _ ?side1 ?side2 A12.out).mono ?_); (case side1 => repeat (first | exact (Kd.C_below HR0.out (by repeat (first | (with_reducible first | exact HB.out | apply below_alloc | apply pw_below_drewN | apply below_drew1) | exact HB.out))) | (with_reducible refine Kd.C_alloc ?_ _) | (with_reducible refine Kd.C_drewN ?_ _) | (with_reducible refine Kd.C_drew ?_))); (case side2 => exact HC0.out); rintro e w14 ⟨v268, rfl, ho0, hb⟩; have n0_ := Aside0.mk (Kd.N_lower (Kd.N_mono (ok' := fun k_ => True) ho0 (fun k_ hk_ => trivial)) (below_size (by repeat (first | (with_reducible first | exact HB.out | apply below_alloc | apply pw_below_drewN | apply below_drew1) | exact HB.out)))); have n1_ := Aside0.mk (below_step (by repeat (first | (with_reducible first | exact HB.out | apply below_alloc | apply pw_below_drewN | apply below_drew1) | exact HB.out)) hb); clear HB; have HO269 := n0_; have HB := n1_; clear n0_ n1_; (try clear hb); (try clear hb2); (try clear hk); (try clear hi); (try clear ho0); obtain ⟨Ao15, co15, eo15⟩ := Kd.N_slice HO269.out; subst eo15)))
      go_ret
      exact ⟨by first | rfl | (simp [errW_none, errW_some] <;> rfl) | (simp [*, errW_none, errW_some] <;> rfl), by repeat (first | (with_reducible first | exact HB.out | apply below_alloc | apply pw_below_drewN | apply below_drew1) | exact HB.out)⟩
     ·rw [if_neg c13] at H
      have c13b0 : ((t267.length : Int) == 0) = false := beq_eq_false_iff_ne.mpr c13
      have c13b1 : ((t267.length : Int) != 0) = true := bne_iff_ne.mpr c13
      have c13b2 : ¬ (t267 = []) := fun h_ => c13 (by rw [h_]; rfl)
      obtain ⟨ji16, hji16⟩ : ∃ j_ : Int, (wrap64 ((t267.length : Int) - 1)) = j_ := ⟨_, rfl⟩
      replace H : (if 0 ≤ (ji16) then (if (ji16) ≤ (t267.length : Int) then ((some (t267.take ((ji16) : Int).toNat : List (S41))).bind fun y270 => ((l7_row.f kj5 l1 5).bind fun bt275 => ((chart_Spans.f y270 bt275.1 bt275.2).bind fun t279 => ((chart_Spans.f t267 bt275.1 bt275.2).bind fun t282 => (l7_ChartMore.l0 kj5 t267 y270 bt275.1 bt275.2 t279 t282 0 0))))) else (none)) else (none)) = some r := by first | (rw [hji16] at H; exact H) | (simp only [hji16] at H ⊢; exact H)
      (try rw [hji16] at A11)
      (try rw [hji16] at A12)
      have hji16w : (IntKind.i64.wrap ((t267.length : Int) - 1)) = ji16 := (i64_w _).trans hji16
      by_cases c17 : 0 ≤ (ji16)
      ·rw [if_pos c17] at H
       have c17b0 := eq_true c17
       have c17b1 : decide (0 ≤ (ji16)) = true := decide_eq_true c17
       clear c17
       by_cases c18 : (ji16) ≤ (t267.length : Int)
       ·rw [if_pos c18] at H
        have c18b0 := eq_true c18
        have c18b1 : decide ((ji16) ≤ (t267.length : Int)) = true := decide_eq_true c18
        clear c18
        obtain ⟨y270, hy270⟩ : ∃ y_ : List (S41), y_ = (t267.take ((ji16) : Int).toNat) := ⟨_, rfl⟩
        replace H : ((l7_row.f kj5 l1 5).bind fun bt275 => ((chart_Spans.f y270 bt275.1 bt275.2).bind fun t279 => ((chart_Spans.f t267 bt275.1 bt275.2).bind fun t282 => (l7_ChartMore.l0 kj5 t267 y270 bt275.1 bt275.2 t279 t282 0 0)))) = some r := by first | (rw [hy270]; with_reducible exact H) | (have H2_ := (Option.bind_some _ _).symm.trans H; rw [hy270]; with_reducible exact H2_) | (have H2_ := (Option.bind_some _ _).symm.trans H; with_reducible exact H2_) | with_reducible exact H | (rw [hy270]; exact H) | exact H
        have Ny270 := Aside0.mk hy270
        clear hy270
        replace H := Option.bind_eq_some_iff.mp H
        obtain ⟨⟨t275, t276⟩, A190, H⟩ := H
        replace H : ((chart_Spans.f y270 t275 t276).bind fun t279 => ((chart_Spans.f t267 t275 t276).bind fun t282 => (l7_ChartMore.l0 kj5 t267 y270 t275 t276 t279 t282 0 0))) = some r := H
        have A19 := Aside0.mk A190
        clear A190
        replace H := Option.bind_eq_some_iff.mp H
        obtain ⟨t279, A200, H⟩ := H
        replace H : ((chart_Spans.f t267 t275 t276).bind fun t282 => (l7_ChartMore.l0 kj5 t267 y270 t275 t276 t279 t282 0 0)) = some r := H
        have A20 := Aside0.mk A200
        clear A200
        replace H := Option.bind_eq_some_iff.mp H
        obtain ⟨t282, A210, H⟩ := H
        replace H : (l7_ChartMore.l0 kj5 t267 y270 t275 t276 t279 t282 0 0) = some r := H
        have A21 := Aside0.mk A210
        clear A210
        have H' := Aside0.mk H
        clear H
        go_wp2_with (first | (go_at_call 12; (with_reducible refine (l7_within.calls a2 4 t266 _ A11.out).mono ?_); rintro e w' ⟨rfl, ⟨nd, rfl⟩⟩; (try first | exact ⟨rfl, _, World.drewN_drewN _ _ _⟩ | exact ⟨rfl, _, Eq.trans (World.drewN_drewN _ _ _) (congrArg (World.drewN _) (Nat.add_assoc _ _ _))⟩)) | (go_at_call 11; (with_reducible refine (l4_Rules.calls kj5 _ _ l0 (wrap64 (1 + t266)) t267 _ ?side1 ?side2 A12.out).mono ?_); (case side1 => repeat (first | exact (Kd.C_below HR0.out (by repeat (first | (with_reducible first | exact HB.out | apply below_alloc | apply pw_below_drewN | apply below_drew1) | exact HB.out))) | (with_reducible refine Kd.C_alloc ?_ _) | (with_reducible refine Kd.C_drewN ?_ _) | (with_reducible refine Kd.C_drew ?_))); (case side2 => exact HC0.out); rintro e w22 ⟨v268, rfl, ho0, hb⟩; have n0_ := Aside0.mk (Kd.N_lower (Kd.N_mono (ok' := fun k_ => True) ho0 (fun k_ hk_ => trivial)) (below_size (by repeat (first | (with_reducible first | exact HB.out | apply below_alloc | apply pw_below_drewN | apply below_drew1) | exact HB.out)))); have n1_ := Aside0.mk (below_step (by repeat (first | (with_reducible first | exact HB.out | apply below_alloc | apply pw_below_drewN | apply below_drew1) | exact HB.out)) hb); clear HB; have HO269 := n0_; have HB := n1_; clear n0_ n1_; (try clear hb); (try clear hb2); (try clear hk); (try clear hi); (try clear ho0); obtain ⟨Ao23, co23, eo23⟩ := Kd.N_slice HO269.out; subst eo23; have q24 : ((ji16) : Int) ≤ ((t267.length : Int) : Int) := of_decide_eq_true (by first | (with_reducible assumption) | assumption); obtain ⟨i024, hi024, _, hsz24, _⟩ := info_parts info41; have hroom24 : t267.length ≤ co23 := (Kd.N_reads' HO269.out).2.1; have hC24 : Kd.F k41 _ _ Ao23 t267.length t267 := (Kd.V_at (base := w.heap.size) (Kd.N_V HO269.out)).2.2; have hcut24 := cut_to (P := Try.prog) 26 41 .i64 Try.underlying26 hi024 Ao23 t267.length co23 (ji16) (of_decide_eq_true (by first | (with_reducible assumption) | assumption)) q24 hroom24; have hr24 := Kd.F_take (m := ((ji16) : Int).toNat) hC24 (by omega); have hy24 : y270.length = ((ji16) : Int).toNat := (by rw [Ny270.out, List.length_take]; omega); rw [← Ny270.out] at hr24; rw [← hy24] at hcut24; have HO274 := Aside0.mk (show Kd.V k41 41 _ w.heap.size _ (.slice Ao23 y270.length co23) y270 from Kd.V_mk (by omega) hr24); have HC274 := Aside0.mk (show y270.length ≤ co23 from by omega); clear hr24 hC24 hroom24 hi024 hsz24; have KY24 := Aside0.mk hy24; clear hy24; replace q24 := eq_true q24) | (go_at_call 15; (with_reducible refine (l7_row.calls kj5 _ _ l1 5 t275 t276 _ ?side1 ?side2 A19.out).mono ?_); (case side1 => repeat (first | exact (Kd.C_below HR1.out HB.out) | (with_reducible refine Kd.C_alloc ?_ _) | (with_reducible refine Kd.C_drewN ?_ _) | (with_reducible refine Kd.C_drew ?_))); (case side2 => exact HC1.out); rintro e w25 ⟨v277, rfl, ho0, hb⟩; have n0_ := Aside0.mk (Kd.N_elder' (by (with_reducible repeat (first | apply Kd.N_alloc | apply Kd.N_drewN | apply Kd.N_drew)); exact HO269.out) (Kd.R_base ho0) hb); have n1_ := Aside0.mk (Kd.V_elder' (by (with_reducible repeat (first | apply Kd.V_alloc | apply Kd.V_drewN | apply Kd.V_drew)); exact HO274.out) (Kd.R_base ho0) hb); have n2_ := Aside0.mk (Kd.R_lower ho0 (below_size (by repeat (first | (with_reducible first | exact HB.out | apply below_alloc | apply pw_below_drewN | apply below_drew1) | exact HB.out)))); have n3_ := Aside0.mk (below_step (by repeat (first | (with_reducible first | exact HB.out | apply below_alloc | apply pw_below_drewN | apply below_drew1) | exact HB.out)) hb); clear HO269; clear HO274; clear HB; have HO269 := n0_; have HO274 := n1_; have HO278 := n2_; have HB := n3_; clear n0_ n1_ n2_ n3_; (try clear hb); (try clear hb2); (try clear hk); (try clear hi); (try clear ho0); obtain ⟨Ao26, co26, eo26⟩ := Kd.R_slice HO278.out; subst eo26) | (go_at_call 13; (with_reducible refine (chart_Spans.calls _ _ y270 _ _ t275 t276 t279 _ ?side1 ?side2 ?side3 ?side4 A20.out).mono ?_); (case side1 => repeat (first | exact (Kd.V_reads' HO274.out).2.2 | (with_reducible refine Kd.C_alloc ?_ _) | (with_reducible refine Kd.C_drewN ?_ _) | (with_reducible refine Kd.C_drew ?_))); (case side2 => exact (Kd.V_reads' HO274.out).2.1); (case side3 => repeat (first | exact (Kd.R_reads' HO278.out).2.2 | (with_reducible refine Kd.C_alloc ?_ _) | (with_reducible refine Kd.C_drewN ?_ _) | (with_reducible refine Kd.C_drew ?_))); (case side4 => exact (Kd.R_reads' HO278.out).2.1); rintro e w27 ⟨v280, rfl, ho0, hb⟩; have n0_ := Aside0.mk (Kd.N_elder' (by (with_reducible repeat (first | apply Kd.N_alloc | apply Kd.N_drewN | apply Kd.N_drew)); exact HO269.out) (Kd.R_base ho0) hb); have n1_ := Aside0.mk (Kd.V_elder' (by (with_reducible repeat (first | apply Kd.V_alloc | apply Kd.V_drewN | apply Kd.V_drew)); exact HO274.out) (Kd.R_base ho0) hb); have n2_ := Aside0.mk (Kd.R_below (by (with_reducible repeat (first | apply Kd.R_alloc | apply Kd.R_drewN | apply Kd.R_drew)); exact HO278.out) hb); have n3_ := Aside0.mk (Kd.R_lower ho0 (below_size (by repeat (first | (with_reducible first | exact HB.out | apply below_alloc | apply pw_below_drewN | apply below_drew1) | exact HB.out)))); have n4_ := Aside0.mk (below_step (by repeat (first | (with_reducible first | exact HB.out | apply below_alloc | apply pw_below_drewN | apply below_drew1) | exact HB.out)) hb); clear HO269; clear HO274; clear HO278; clear HB; have HO269 := n0_; have HO274 := n1_; have HO278 := n2_; have HO281 := n3_; have HB := n4_; clear n0_ n1_ n2_ n3_ n4_; (try clear hb); (try clear hb2); (try clear hk); (try clear hi); (try clear ho0)) | (go_at_call 13; (with_reducible refine (chart_Spans.calls _ _ t267 _ _ t275 t276 t282 _ ?side1 ?side2 ?side3 ?side4 A21.out).mono ?_); (case side1 => repeat (first | exact (Kd.N_reads' HO269.out).2.2 | (with_reducible refine Kd.C_alloc ?_ _) | (with_reducible refine Kd.C_drewN ?_ _) | (with_reducible refine Kd.C_drew ?_))); (case side2 => exact (Kd.N_reads' HO269.out).2.1); (case side3 => repeat (first | exact (Kd.R_reads' HO278.out).2.2 | (with_reducible refine Kd.C_alloc ?_ _) | (with_reducible refine Kd.C_drewN ?_ _) | (with_reducible refine Kd.C_drew ?_))); (case side4 => exact (Kd.R_reads' HO278.out).2.1); rintro e w28 ⟨v283, rfl, ho0, hb⟩; have n0_ := Aside0.mk (Kd.N_elder' (by (with_reducible repeat (first | apply Kd.N_alloc | apply Kd.N_drewN | apply Kd.N_drew)); exact HO269.out) (Kd.R_base ho0) hb); have n1_ := Aside0.mk (Kd.V_elder' (by (with_reducible repeat (first | apply Kd.V_alloc | apply Kd.V_drewN | apply Kd.V_drew)); exact HO274.out) (Kd.R_base ho0) hb); have n2_ := Aside0.mk (Kd.R_below (by (with_reducible repeat (first | apply Kd.R_alloc | apply Kd.R_drewN | apply Kd.R_drew)); exact HO278.out) hb); have n3_ := Aside0.mk (Kd.R_elder' (by (with_reducible repeat (first | apply Kd.R_alloc | apply Kd.R_drewN | apply Kd.R_drew)); exact HO281.out) (Kd.R_base ho0) hb); have n4_ := Aside0.mk (Kd.R_lower (Kd.R_new' ho0 (Kd.R_lt (by (with_reducible repeat (first | apply Kd.R_alloc | apply Kd.R_drewN | apply Kd.R_drew)); exact HO281.out))) (below_size (by repeat (first | (with_reducible first | exact HB.out | apply below_alloc | apply pw_below_drewN | apply below_drew1) | exact HB.out)))); have n5_ := Aside0.mk (below_step (by repeat (first | (with_reducible first | exact HB.out | apply below_alloc | apply pw_below_drewN | apply below_drew1) | exact HB.out)) hb); clear HO269; clear HO274; clear HO278; clear HO281; clear HB; have HO269 := n0_; have HO274 := n1_; have HO278 := n2_; have HO281 := n3_; have HO284 := n4_; have HB := n5_; clear n0_ n1_ n2_ n3_ n4_ n5_; (try clear hb); (try clear hb2); (try clear hk); (try clear hi); (try clear ho0)))
        repeat (go_quiet (first | (go_at_call 12; (with_reducible refine (l7_within.calls a2 4 t266 _ A11.out).mono ?_); rintro e w' ⟨rfl, ⟨nd, rfl⟩⟩; (try first | exact ⟨rfl, _, World.drewN_drewN _ _ _⟩ | exact ⟨rfl, _, Eq.trans (World.drewN_drewN _ _ _) (congrArg (World.drewN _) (Nat.add_assoc _ _ _))⟩)) | (go_at_call 11; (with_reducible refine (l4_Rules.calls kj5 _ _ l0 (wrap64 (1 + t266)) t267 _ ?side1 ?side2 A12.out).mono ?_); (case side1 => repeat (first | exact (Kd.C_below HR0.out (by repeat (first | (with_reducible first | exact HB.out | apply below_alloc | apply pw_below_drewN | apply below_drew1) | exact HB.out))) | (with_reducible refine Kd.C_alloc ?_ _) | (with_reducible refine Kd.C_drewN ?_ _) | (with_reducible refine Kd.C_drew ?_))); (case side2 => exact HC0.out); rintro e w22 ⟨v268, rfl, ho0, hb⟩; have n0_ := Aside0.mk (Kd.N_lower (Kd.N_mono (ok' := fun k_ => True) ho0 (fun k_ hk_ => trivial)) (below_size (by repeat (first | (with_reducible first | exact HB.out | apply below_alloc | apply pw_below_drewN | apply below_drew1) | exact HB.out)))); have n1_ := Aside0.mk (below_step (by repeat (first | (with_reducible first | exact HB.out | apply below_alloc | apply pw_below_drewN | apply below_drew1) | exact HB.out)) hb); clear HB; have HO269 := n0_; have HB := n1_; clear n0_ n1_; (try clear hb); (try clear hb2); (try clear hk); (try clear hi); (try clear ho0); obtain ⟨Ao23, co23, eo23⟩ := Kd.N_slice HO269.out; subst eo23; have q24 : ((ji16) : Int) ≤ ((t267.length : Int) : Int) := of_decide_eq_true (by first | (with_reducible assumption) | assumption); obtain ⟨i024, hi024, _, hsz24, _⟩ := info_parts info41; have hroom24 : t267.length ≤ co23 := (Kd.N_reads' HO269.out).2.1; have hC24 : Kd.F k41 _ _ Ao23 t267.length t267 := (Kd.V_at (base := w.heap.size) (Kd.N_V HO269.out)).2.2; have hcut24 := cut_to (P := Try.prog) 26 41 .i64 Try.underlying26 hi024 Ao23 t267.length co23 (ji16) (of_decide_eq_true (by first | (with_reducible assumption) | assumption)) q24 hroom24; have hr24 := Kd.F_take (m := ((ji16) : Int).toNat) hC24 (by omega); have hy24 : y270.length = ((ji16) : Int).toNat := (by rw [Ny270.out, List.length_take]; omega); rw [← Ny270.out] at hr24; rw [← hy24] at hcut24; have HO274 := Aside0.mk (show Kd.V k41 41 _ w.heap.size _ (.slice Ao23 y270.length co23) y270 from Kd.V_mk (by omega) hr24); have HC274 := Aside0.mk (show y270.length ≤ co23 from by omega); clear hr24 hC24 hroom24 hi024 hsz24; have KY24 := Aside0.mk hy24; clear hy24; replace q24 := eq_true q24) | (go_at_call 15; (with_reducible refine (l7_row.calls kj5 _ _ l1 5 t275 t276 _ ?side1 ?side2 A19.out).mono ?_); (case side1 => repeat (first | exact (Kd.C_below HR1.out HB.out) | (with_reducible refine Kd.C_alloc ?_ _) | (with_reducible refine Kd.C_drewN ?_ _) | (with_reducible refine Kd.C_drew ?_))); (case side2 => exact HC1.out); rintro e w25 ⟨v277, rfl, ho0, hb⟩; have n0_ := Aside0.mk (Kd.N_elder' (by (with_reducible repeat (first | apply Kd.N_alloc | apply Kd.N_drewN | apply Kd.N_drew)); exact HO269.out) (Kd.R_base ho0) hb); have n1_ := Aside0.mk (Kd.V_elder' (by (with_reducible repeat (first | apply Kd.V_alloc | apply Kd.V_drewN | apply Kd.V_drew)); exact HO274.out) (Kd.R_base ho0) hb); have n2_ := Aside0.mk (Kd.R_lower ho0 (below_size (by repeat (first | (with_reducible first | exact HB.out | apply below_alloc | apply pw_below_drewN | apply below_drew1) | exact HB.out)))); have n3_ := Aside0.mk (below_step (by repeat (first | (with_reducible first | exact HB.out | apply below_alloc | apply pw_below_drewN | apply below_drew1) | exact HB.out)) hb); clear HO269; clear HO274; clear HB; have HO269 := n0_; have HO274 := n1_; have HO278 := n2_; have HB := n3_; clear n0_ n1_ n2_ n3_; (try clear hb); (try clear hb2); (try clear hk); (try clear hi); (try clear ho0); obtain ⟨Ao26, co26, eo26⟩ := Kd.R_slice HO278.out; subst eo26) | (go_at_call 13; (with_reducible refine (chart_Spans.calls _ _ y270 _ _ t275 t276 t279 _ ?side1 ?side2 ?side3 ?side4 A20.out).mono ?_); (case side1 => repeat (first | exact (Kd.V_reads' HO274.out).2.2 | (with_reducible refine Kd.C_alloc ?_ _) | (with_reducible refine Kd.C_drewN ?_ _) | (with_reducible refine Kd.C_drew ?_))); (case side2 => exact (Kd.V_reads' HO274.out).2.1); (case side3 => repeat (first | exact (Kd.R_reads' HO278.out).2.2 | (with_reducible refine Kd.C_alloc ?_ _) | (with_reducible refine Kd.C_drewN ?_ _) | (with_reducible refine Kd.C_drew ?_))); (case side4 => exact (Kd.R_reads' HO278.out).2.1); rintro e w27 ⟨v280, rfl, ho0, hb⟩; have n0_ := Aside0.mk (Kd.N_elder' (by (with_reducible repeat (first | apply Kd.N_alloc | apply Kd.N_drewN | apply Kd.N_drew)); exact HO269.out) (Kd.R_base ho0) hb); have n1_ := Aside0.mk (Kd.V_elder' (by (with_reducible repeat (first | apply Kd.V_alloc | apply Kd.V_drewN | apply Kd.V_drew)); exact HO274.out) (Kd.R_base ho0) hb); have n2_ := Aside0.mk (Kd.R_below (by (with_reducible repeat (first | apply Kd.R_alloc | apply Kd.R_drewN | apply Kd.R_drew)); exact HO278.out) hb); have n3_ := Aside0.mk (Kd.R_lower ho0 (below_size (by repeat (first | (with_reducible first | exact HB.out | apply below_alloc | apply pw_below_drewN | apply below_drew1) | exact HB.out)))); have n4_ := Aside0.mk (below_step (by repeat (first | (with_reducible first | exact HB.out | apply below_alloc | apply pw_below_drewN | apply below_drew1) | exact HB.out)) hb); clear HO269; clear HO274; clear HO278; clear HB; have HO269 := n0_; have HO274 := n1_; have HO278 := n2_; have HO281 := n3_; have HB := n4_; clear n0_ n1_ n2_ n3_ n4_; (try clear hb); (try clear hb2); (try clear hk); (try clear hi); (try clear ho0)) | (go_at_call 13; (with_reducible refine (chart_Spans.calls _ _ t267 _ _ t275 t276 t282 _ ?side1 ?side2 ?side3 ?side4 A21.out).mono ?_); (case side1 => repeat (first | exact (Kd.N_reads' HO269.out).2.2 | (with_reducible refine Kd.C_alloc ?_ _) | (with_reducible refine Kd.C_drewN ?_ _) | (with_reducible refine Kd.C_drew ?_))); (case side2 => exact (Kd.N_reads' HO269.out).2.1); (case side3 => repeat (first | exact (Kd.R_reads' HO278.out).2.2 | (with_reducible refine Kd.C_alloc ?_ _) | (with_reducible refine Kd.C_drewN ?_ _) | (with_reducible refine Kd.C_drew ?_))); (case side4 => exact (Kd.R_reads' HO278.out).2.1); rintro e w28 ⟨v283, rfl, ho0, hb⟩; have n0_ := Aside0.mk (Kd.N_elder' (by (with_reducible repeat (first | apply Kd.N_alloc | apply Kd.N_drewN | apply Kd.N_drew)); exact HO269.out) (Kd.R_base ho0) hb); have n1_ := Aside0.mk (Kd.V_elder' (by (with_reducible repeat (first | apply Kd.V_alloc | apply Kd.V_drewN | apply Kd.V_drew)); exact HO274.out) (Kd.R_base ho0) hb); have n2_ := Aside0.mk (Kd.R_below (by (with_reducible repeat (first | apply Kd.R_alloc | apply Kd.R_drewN | apply Kd.R_drew)); exact HO278.out) hb); have n3_ := Aside0.mk (Kd.R_elder' (by (with_reducible repeat (first | apply Kd.R_alloc | apply Kd.R_drewN | apply Kd.R_drew)); exact HO281.out) (Kd.R_base ho0) hb); have n4_ := Aside0.mk (Kd.R_lower (Kd.R_new' ho0 (Kd.R_lt (by (with_reducible repeat (first | apply Kd.R_alloc | apply Kd.R_drewN | apply Kd.R_drew)); exact HO281.out))) (below_size (by repeat (first | (with_reducible first | exact HB.out | apply below_alloc | apply pw_below_drewN | apply below_drew1) | exact HB.out)))); have n5_ := Aside0.mk (below_step (by repeat (first | (with_reducible first | exact HB.out | apply below_alloc | apply pw_below_drewN | apply below_drew1) | exact HB.out)) hb); clear HO269; clear HO274; clear HO278; clear HO281; clear HB; have HO269 := n0_; have HO274 := n1_; have HO278 := n2_; have HO281 := n3_; have HO284 := n4_; have HB := n5_; clear n0_ n1_ n2_ n3_ n4_ n5_; (try clear hb); (try clear hb2); (try clear hk); (try clear hi); (try clear ho0))); try go_wp2_with (first | (go_at_call 12; (with_reducible refine (l7_within.calls a2 4 t266 _ A11.out).mono ?_); rintro e w' ⟨rfl, ⟨nd, rfl⟩⟩; (try first | exact ⟨rfl, _, World.drewN_drewN _ _ _⟩ | exact ⟨rfl, _, Eq.trans (World.drewN_drewN _ _ _) (congrArg (World.drewN _) (Nat.add_assoc _ _ _))⟩)) | (go_at_call 11; (with_reducible refine (l4_Rules.calls kj5 _ _ l0 (wrap64 (1 + t266)) t267 _ ?side1 ?side2 A12.out).mono ?_); (case side1 => repeat (first | exact (Kd.C_below HR0.out (by repeat (first | (with_reducible first | exact HB.out | apply below_alloc | apply pw_below_drewN | apply below_drew1) | exact HB.out))) | (with_reducible refine Kd.C_alloc ?_ _) | (with_reducible refine Kd.C_drewN ?_ _) | (with_reducible refine Kd.C_drew ?_))); (case side2 => exact HC0.out); rintro e w22 ⟨v268, rfl, ho0, hb⟩; have n0_ := Aside0.mk (Kd.N_lower (Kd.N_mono (ok' := fun k_ => True) ho0 (fun k_ hk_ => trivial)) (below_size (by repeat (first | (with_reducible first | exact HB.out | apply below_alloc | apply pw_below_drewN | apply below_drew1) | exact HB.out)))); have n1_ := Aside0.mk (below_step (by repeat (first | (with_reducible first | exact HB.out | apply below_alloc | apply pw_below_drewN | apply below_drew1) | exact HB.out)) hb); clear HB; have HO269 := n0_; have HB := n1_; clear n0_ n1_; (try clear hb); (try clear hb2); (try clear hk); (try clear hi); (try clear ho0); obtain ⟨Ao23, co23, eo23⟩ := Kd.N_slice HO269.out; subst eo23; have q24 : ((ji16) : Int) ≤ ((t267.length : Int) : Int) := of_decide_eq_true (by first | (with_reducible assumption) | assumption); obtain ⟨i024, hi024, _, hsz24, _⟩ := info_parts info41; have hroom24 : t267.length ≤ co23 := (Kd.N_reads' HO269.out).2.1; have hC24 : Kd.F k41 _ _ Ao23 t267.length t267 := (Kd.V_at (base := w.heap.size) (Kd.N_V HO269.out)).2.2; have hcut24 := cut_to (P := Try.prog) 26 41 .i64 Try.underlying26 hi024 Ao23 t267.length co23 (ji16) (of_decide_eq_true (by first | (with_reducible assumption) | assumption)) q24 hroom24; have hr24 := Kd.F_take (m := ((ji16) : Int).toNat) hC24 (by omega); have hy24 : y270.length = ((ji16) : Int).toNat := (by rw [Ny270.out, List.length_take]; omega); rw [← Ny270.out] at hr24; rw [← hy24] at hcut24; have HO274 := Aside0.mk (show Kd.V k41 41 _ w.heap.size _ (.slice Ao23 y270.length co23) y270 from Kd.V_mk (by omega) hr24); have HC274 := Aside0.mk (show y270.length ≤ co23 from by omega); clear hr24 hC24 hroom24 hi024 hsz24; have KY24 := Aside0.mk hy24; clear hy24; replace q24 := eq_true q24) | (go_at_call 15; (with_reducible refine (l7_row.calls kj5 _ _ l1 5 t275 t276 _ ?side1 ?side2 A19.out).mono ?_); (case side1 => repeat (first | exact (Kd.C_below HR1.out HB.out) | (with_reducible refine Kd.C_alloc ?_ _) | (with_reducible refine Kd.C_drewN ?_ _) | (with_reducible refine Kd.C_drew ?_))); (case side2 => exact HC1.out); rintro e w25 ⟨v277, rfl, ho0, hb⟩; have n0_ := Aside0.mk (Kd.N_elder' (by (with_reducible repeat (first | apply Kd.N_alloc | apply Kd.N_drewN | apply Kd.N_drew)); exact HO269.out) (Kd.R_base ho0) hb); have n1_ := Aside0.mk (Kd.V_elder' (by (with_reducible repeat (first | apply Kd.V_alloc | apply Kd.V_drewN | apply Kd.V_drew)); exact HO274.out) (Kd.R_base ho0) hb); have n2_ := Aside0.mk (Kd.R_lower ho0 (below_size (by repeat (first | (with_reducible first | exact HB.out | apply below_alloc | apply pw_below_drewN | apply below_drew1) | exact HB.out)))); have n3_ := Aside0.mk (below_step (by repeat (first | (with_reducible first | exact HB.out | apply below_alloc | apply pw_below_drewN | apply below_drew1) | exact HB.out)) hb); clear HO269; clear HO274; clear HB; have HO269 := n0_; have HO274 := n1_; have HO278 := n2_; have HB := n3_; clear n0_ n1_ n2_ n3_; (try clear hb); (try clear hb2); (try clear hk); (try clear hi); (try clear ho0); obtain ⟨Ao26, co26, eo26⟩ := Kd.R_slice HO278.out; subst eo26) | (go_at_call 13; (with_reducible refine (chart_Spans.calls _ _ y270 _ _ t275 t276 t279 _ ?side1 ?side2 ?side3 ?side4 A20.out).mono ?_); (case side1 => repeat (first | exact (Kd.V_reads' HO274.out).2.2 | (with_reducible refine Kd.C_alloc ?_ _) | (with_reducible refine Kd.C_drewN ?_ _) | (with_reducible refine Kd.C_drew ?_))); (case side2 => exact (Kd.V_reads' HO274.out).2.1); (case side3 => repeat (first | exact (Kd.R_reads' HO278.out).2.2 | (with_reducible refine Kd.C_alloc ?_ _) | (with_reducible refine Kd.C_drewN ?_ _) | (with_reducible refine Kd.C_drew ?_))); (case side4 => exact (Kd.R_reads' HO278.out).2.1); rintro e w27 ⟨v280, rfl, ho0, hb⟩; have n0_ := Aside0.mk (Kd.N_elder' (by (with_reducible repeat (first | apply Kd.N_alloc | apply Kd.N_drewN | apply Kd.N_drew)); exact HO269.out) (Kd.R_base ho0) hb); have n1_ := Aside0.mk (Kd.V_elder' (by (with_reducible repeat (first | apply Kd.V_alloc | apply Kd.V_drewN | apply Kd.V_drew)); exact HO274.out) (Kd.R_base ho0) hb); have n2_ := Aside0.mk (Kd.R_below (by (with_reducible repeat (first | apply Kd.R_alloc | apply Kd.R_drewN | apply Kd.R_drew)); exact HO278.out) hb); have n3_ := Aside0.mk (Kd.R_lower ho0 (below_size (by repeat (first | (with_reducible first | exact HB.out | apply below_alloc | apply pw_below_drewN | apply below_drew1) | exact HB.out)))); have n4_ := Aside0.mk (below_step (by repeat (first | (with_reducible first | exact HB.out | apply below_alloc | apply pw_below_drewN | apply below_drew1) | exact HB.out)) hb); clear HO269; clear HO274; clear HO278; clear HB; have HO269 := n0_; have HO274 := n1_; have HO278 := n2_; have HO281 := n3_; have HB := n4_; clear n0_ n1_ n2_ n3_ n4_; (try clear hb); (try clear hb2); (try clear hk); (try clear hi); (try clear ho0)) | (go_at_call 13; (with_reducible refine (chart_Spans.calls _ _ t267 _ _ t275 t276 t282 _ ?side1 ?side2 ?side3 ?side4 A21.out).mono ?_); (case side1 => repeat (first | exact (Kd.N_reads' HO269.out).2.2 | (with_reducible refine Kd.C_alloc ?_ _) | (with_reducible refine Kd.C_drewN ?_ _) | (with_reducible refine Kd.C_drew ?_))); (case side2 => exact (Kd.N_reads' HO269.out).2.1); (case side3 => repeat (first | exact (Kd.R_reads' HO278.out).2.2 | (with_reducible refine Kd.C_alloc ?_ _) | (with_reducible refine Kd.C_drewN ?_ _) | (with_reducible refine Kd.C_drew ?_))); (case side4 => exact (Kd.R_reads' HO278.out).2.1); rintro e w28 ⟨v283, rfl, ho0, hb⟩; have n0_ := Aside0.mk (Kd.N_elder' (by (with_reducible repeat (first | apply Kd.N_alloc | apply Kd.N_drewN | apply Kd.N_drew)); exact HO269.out) (Kd.R_base ho0) hb); have n1_ := Aside0.mk (Kd.V_elder' (by (with_reducible repeat (first | apply Kd.V_alloc | apply Kd.V_drewN | apply Kd.V_drew)); exact HO274.out) (Kd.R_base ho0) hb); have n2_ := Aside0.mk (Kd.R_below (by (with_reducible repeat (first | apply Kd.R_alloc | apply Kd.R_drewN | apply Kd.R_drew)); exact HO278.out) hb); have n3_ := Aside0.mk (Kd.R_elder' (by (with_reducible repeat (first | apply Kd.R_alloc | apply Kd.R_drewN | apply Kd.R_drew)); exact HO281.out) (Kd.R_base ho0) hb); have n4_ := Aside0.mk (Kd.R_lower (Kd.R_new' ho0 (Kd.R_lt (by (with_reducible repeat (first | apply Kd.R_alloc | apply Kd.R_drewN | apply Kd.R_drew)); exact HO281.out))) (below_size (by repeat (first | (with_reducible first | exact HB.out | apply below_alloc | apply pw_below_drewN | apply below_drew1) | exact HB.out)))); have n5_ := Aside0.mk (below_step (by repeat (first | (with_reducible first | exact HB.out | apply below_alloc | apply pw_below_drewN | apply below_drew1) | exact HB.out)) hb); clear HO269; clear HO274; clear HO278; clear HO281; clear HB; have HO269 := n0_; have HO274 := n1_; have HO278 := n2_; have HO281 := n3_; have HO284 := n4_; have HB := n5_; clear n0_ n1_ n2_ n3_ n4_ n5_; (try clear hb); (try clear hb2); (try clear hk); (try clear hi); (try clear ho0))))
        go_loopg [13, 14] kj5 (fun kq v13 v14 w' => ∃ (x13_2 : Int) (x14_2 : Int), v13 = .int .i64 x13_2 ∧ v14 = .int .i64 x14_2 ∧ Aside0 (l7_ChartMore.l0 kq t267 y270 t275 t276 t279 t282 x13_2 x14_2 = some r) ∧ Aside0 (kq ≤ kj5) ∧ Aside0 (Kd.N k41 41 w' w.heap.size (fun k_ => some k_ ≠ ((.slice Ao26 t275.length co26) : Value).ownBlock ∧ some k_ ≠ (v280 : Value).ownBlock ∧ some k_ ≠ (v283 : Value).ownBlock) (.slice Ao23 t267.length co23) t267) ∧ Aside0 (Kd.V k41 41 w' w.heap.size (fun k_ => some k_ ≠ ((.slice Ao26 t275.length co26) : Value).ownBlock ∧ some k_ ≠ (v280 : Value).ownBlock ∧ some k_ ≠ (v283 : Value).ownBlock) (.slice Ao23 y270.length co23) y270) ∧ Aside0 (Kd.R k31 31 w' w.heap.size (fun _ => True) (.slice Ao26 t275.length co26) t275) ∧ Aside0 (Kd.R k35 35 w' w.heap.size (fun k_ => some k_ ≠ (v283 : Value).ownBlock) v280 t279) ∧ Aside0 (Kd.R k35 35 w' w.heap.size (fun k_ => some k_ ≠ (v280 : Value).ownBlock) v283 t282) ∧ Aside0 (Below w.heap.size w w'))
        case atStart => exact ⟨(0), (0), (by first | rfl | (simp; done) | (simp [*]; done)), (by first | rfl | (simp; done) | (simp [*]; done)), H', ⟨Nat.le_refl _⟩, ⟨by (with_reducible repeat (first | apply Kd.N_alloc | apply Kd.N_drewN | apply Kd.N_drew)); exact Kd.N_mono HO269.out (fun _ hk => ⟨hk.1.1.2, ⟨hk.1.2, hk.2⟩⟩)⟩, ⟨by (with_reducible repeat (first | apply Kd.V_alloc | apply Kd.V_drewN | apply Kd.V_drew)); exact Kd.V_mono HO274.out (fun _ hk => ⟨hk.1.1.2, ⟨hk.1.2, hk.2⟩⟩)⟩, ⟨by (with_reducible repeat (first | apply Kd.R_alloc | apply Kd.R_drewN | apply Kd.R_drew)); exact HO278.out⟩, ⟨by (with_reducible repeat (first | apply Kd.R_alloc | apply Kd.R_drewN | apply Kd.R_drew)); (first | exact Kd.R_mono HO281.out (fun _ hk => hk.2) | exact HO281.out)⟩, ⟨by (with_reducible repeat (first | apply Kd.R_alloc | apply Kd.R_drewN | apply Kd.R_drew)); (first | exact Kd.R_mono HO284.out (fun _ hk => hk.2) | exact HO284.out)⟩, ⟨by repeat (first | (with_reducible first | exact HB.out | apply below_alloc | apply pw_below_drewN | apply below_drew1) | exact HB.out)⟩⟩
        case round =>
         clear H'
         try clear c1
         try clear p2
         try clear q2
         try clear c5
         try clear c6
         try clear p6
         try clear c9
         try clear c10
         try clear c13
         try clear c13b0
         try clear c13b1
         try clear c13b2
         try clear c17
         try clear c17b0
         try clear c17b1
         try clear c18
         try clear c18b0
         try clear c18b1
         try clear q24
         try clear p2
         try clear q24
         obtain ⟨x13_2, x14_2, rfl, rfl, HA, HK2, HO_7, HO_8, HO_9, HO_11, HO_12, HB⟩ := hrel
         cases gk with
         | zero => exact absurd HA.out (by simp [l7_ChartMore.l0])
         | succ k2 =>
          have H := HA.out
          clear HA
          simp only [l7_ChartMore.l0] at H
          by_cases c29 : x14_2 < (t282.length : Int)
          ·rw [if_pos c29] at H
           have c29b0 : decide (x14_2 < (t282.length : Int)) = true := decide_eq_true c29
           clear c29
           by_cases c30 : x13_2 < (t279.length : Int)
           ·rw [if_pos c30] at H
            have c30b0 : decide (x13_2 < (t279.length : Int)) = true := decide_eq_true c30
            clear c30
            by_cases c31 : 0 ≤ x13_2
            ·rw [if_pos c31] at H
             have c31b0 : decide (0 ≤ x13_2) = true := decide_eq_true c31
             clear c31
             by_cases c32 : 0 ≤ x14_2
             ·rw [if_pos c32] at H
              have c32b0 : decide (0 ≤ x14_2) = true := decide_eq_true c32
              clear c32
              by_cases c33 : (((rd_T35 t279 x13_2).f0) == ((rd_T35 t282 x14_2).f0) && (((rd_T35 t279 x13_2).f1) == ((rd_T35 t282 x14_2).f1) && (((rd_T35 t279 x13_2).f2) == ((rd_T35 t282 x14_2).f2)))) = true
              ·rw [if_pos c33] at H
               have c33b0 : (((rd_T35 t279 x13_2).f0) == ((rd_T35 t282 x14_2).f0) && (((rd_T35 t279 x13_2).f1) == ((rd_T35 t282 x14_2).f1) && (((rd_T35 t279 x13_2).f2) == ((rd_T35 t282 x14_2).f2)))) = true := c33
               (try (have c33b1 : decide (((rd_T35 t279 x13_2).f0) = ((rd_T35 t282 x14_2).f0) && (((rd_T35 t279 x13_2).f1) == ((rd_T35 t282 x14_2).f1) && (((rd_T35 t279 x13_2).f2) == ((rd_T35 t282 x14_2).f2)))) = true := by simpa using c33))
               (try (have c33b2 : (((rd_T35 t279 x13_2).f0) == ((rd_T35 t282 x14_2).f0) && (((rd_T35 t279 x13_2).f1) == ((rd_T35 t282 x14_2).f1) && (((rd_T35 t279 x13_2).f2) == ((rd_T35 t282 x14_2).f2)))) = true := by simpa using c33))
               clear c33
               have H' := Aside0.mk H
               clear H
               obtain ⟨Ao34, co34, eo34⟩ := Kd.R_slice HO_12.out
               subst eo34
               obtain ⟨Ao35, co35, eo35⟩ := Kd.R_slice HO_11.out
               subst eo35
               have p285 : 0 ≤ (x13_2 : Int) := of_decide_eq_true (by first | (with_reducible assumption) | assumption)
               have q285 : x13_2 < (t279.length : Int) := of_decide_eq_true (by first | (with_reducible assumption) | assumption)
               obtain ⟨ad285, e285, hx285_0, hx285_1, hx285_2⟩ := at_T35 (Kd.R_reads' HO_11.out).2.2 x13_2 p285 q285
               cases e285
               replace p285 := eq_true p285
               replace q285 := eq_true q285
               have p286 : 0 ≤ (x14_2 : Int) := of_decide_eq_true (by first | (with_reducible assumption) | assumption)
               have q286 : x14_2 < (t282.length : Int) := of_decide_eq_true (by first | (with_reducible assumption) | assumption)
               obtain ⟨ad286, e286, hx286_0, hx286_1, hx286_2⟩ := at_T35 (Kd.R_reads' HO_12.out).2.2 x14_2 p286 q286
               cases e286
               replace p286 := eq_true p286
               replace q286 := eq_true q286
               go_wp2
               repeat (go_quiet (fail); try go_wp2)
               go_roundg k2
               case measure => have := HJ5.out; have := HK2.out; omega
               case rel => exact ⟨(wrap64 (x13_2 + 1)), (wrap64 (x14_2 + 1)), (by first | rfl | (simp; done) | (simp [*]; done)), (by first | rfl | (simp; done) | (simp [*]; done)), H', ⟨by have := HJ5.out; have := HK2.out; omega⟩, ⟨by (with_reducible repeat (first | apply Kd.N_alloc | apply Kd.N_drewN | apply Kd.N_drew)); exact HO_7.out⟩, ⟨by (with_reducible repeat (first | apply Kd.V_alloc | apply Kd.V_drewN | apply Kd.V_drew)); exact HO_8.out⟩, ⟨by (with_reducible repeat (first | apply Kd.R_alloc | apply Kd.R_drewN | apply Kd.R_drew)); exact HO_9.out⟩, ⟨by (with_reducible repeat (first | apply Kd.R_alloc | apply Kd.R_drewN | apply Kd.R_drew)); exact HO_11.out⟩, ⟨by (with_reducible repeat (first | apply Kd.R_alloc | apply Kd.R_drewN | apply Kd.R_drew)); exact HO_12.out⟩, ⟨by repeat (first | (with_reducible first | exact HB.out | apply below_alloc | apply pw_below_drewN | apply below_drew1) | exact HB.out)⟩⟩
              ·rw [if_neg c33] at H
               have c33b0 : (((rd_T35 t279 x13_2).f0) == ((rd_T35 t282 x14_2).f0) && (((rd_T35 t279 x13_2).f1) == ((rd_T35 t282 x14_2).f1) && (((rd_T35 t279 x13_2).f2) == ((rd_T35 t282 x14_2).f2)))) = false := by simpa using c33
               (try (have c33b1 : decide (((rd_T35 t279 x13_2).f0) = ((rd_T35 t282 x14_2).f0) && (((rd_T35 t279 x13_2).f1) == ((rd_T35 t282 x14_2).f1) && (((rd_T35 t279 x13_2).f2) == ((rd_T35 t282 x14_2).f2)))) = false := by simpa using c33))
               (try (have c33b2 : (((rd_T35 t279 x13_2).f0) == ((rd_T35 t282 x14_2).f0) && (((rd_T35 t279 x13_2).f1) == ((rd_T35 t282 x14_2).f1) && (((rd_T35 t279 x13_2).f2) == ((rd_T35 t282 x14_2).f2)))) = false := by simpa using c33))
               (try (have c33b3 : ¬ (((rd_T35 t279 x13_2).f0) = ((rd_T35 t282 x14_2).f0) && (((rd_T35 t279 x13_2).f1) == ((rd_T35 t282 x14_2).f1) && (((rd_T35 t279 x13_2).f2) == ((rd_T35 t282 x14_2).f2)))) := by simpa using c33))
               clear c33
               have H' := Aside0.mk H
               clear H
               obtain ⟨Ao36, co36, eo36⟩ := Kd.R_slice HO_12.out
               subst eo36
               obtain ⟨Ao37, co37, eo37⟩ := Kd.R_slice HO_11.out
               subst eo37
               have p285 : 0 ≤ (x13_2 : Int) := of_decide_eq_true (by first | (with_reducible assumption) | assumption)
               have q285 : x13_2 < (t279.length : Int) := of_decide_eq_true (by first | (with_reducible assumption) | assumption)
               obtain ⟨ad285, e285, hx285_0, hx285_1, hx285_2⟩ := at_T35 (Kd.R_reads' HO_11.out).2.2 x13_2 p285 q285
               cases e285
               replace p285 := eq_true p285
               replace q285 := eq_true q285
               have p286 : 0 ≤ (x14_2 : Int) := of_decide_eq_true (by first | (with_reducible assumption) | assumption)
               have q286 : x14_2 < (t282.length : Int) := of_decide_eq_true (by first | (with_reducible assumption) | assumption)
               obtain ⟨ad286, e286, hx286_0, hx286_1, hx286_2⟩ := at_T35 (Kd.R_reads' HO_12.out).2.2 x14_2 p286 q286
               cases e286
               replace p286 := eq_true p286
               replace q286 := eq_true q286
               go_wp2
               repeat (go_quiet (fail); try go_wp2)
               go_roundg k2
               case measure => have := HJ5.out; have := HK2.out; omega
               case rel => exact ⟨(x13_2), (wrap64 (x14_2 + 1)), (by first | rfl | (simp; done) | (simp [*]; done)), (by first | rfl | (simp; done) | (simp [*]; done)), H', ⟨by have := HJ5.out; have := HK2.out; omega⟩, ⟨by (with_reducible repeat (first | apply Kd.N_alloc | apply Kd.N_drewN | apply Kd.N_drew)); exact HO_7.out⟩, ⟨by (with_reducible repeat (first | apply Kd.V_alloc | apply Kd.V_drewN | apply Kd.V_drew)); exact HO_8.out⟩, ⟨by (with_reducible repeat (first | apply Kd.R_alloc | apply Kd.R_drewN | apply Kd.R_drew)); exact HO_9.out⟩, ⟨by (with_reducible repeat (first | apply Kd.R_alloc | apply Kd.R_drewN | apply Kd.R_drew)); exact HO_11.out⟩, ⟨by (with_reducible repeat (first | apply Kd.R_alloc | apply Kd.R_drewN | apply Kd.R_drew)); exact HO_12.out⟩, ⟨by repeat (first | (with_reducible first | exact HB.out | apply below_alloc | apply pw_below_drewN | apply below_drew1) | exact HB.out)⟩⟩
             ·rw [if_neg c32] at H
              exact absurd H (by simp)
            ·rw [if_neg c31] at H
             exact absurd H (by simp)
           ·rw [if_neg c30] at H
            have c30b0 : decide (x13_2 < (t279.length : Int)) = false := decide_eq_false c30
            clear c30
            have H' := Aside0.mk H
            clear H
            obtain ⟨Ao38, co38, eo38⟩ := Kd.R_slice HO_12.out
            subst eo38
            obtain ⟨Ao39, co39, eo39⟩ := Kd.R_slice HO_11.out
            subst eo39
            go_wp2
            repeat (go_quiet (fail); try go_wp2)
            go_roundg k2
            case measure => have := HJ5.out; have := HK2.out; omega
            case rel => exact ⟨(x13_2), (wrap64 (x14_2 + 1)), (by first | rfl | (simp; done) | (simp [*]; done)), (by first | rfl | (simp; done) | (simp [*]; done)), H', ⟨by have := HJ5.out; have := HK2.out; omega⟩, ⟨by (with_reducible repeat (first | apply Kd.N_alloc | apply Kd.N_drewN | apply Kd.N_drew)); exact HO_7.out⟩, ⟨by (with_reducible repeat (first | apply Kd.V_alloc | apply Kd.V_drewN | apply Kd.V_drew)); exact HO_8.out⟩, ⟨by (with_reducible repeat (first | apply Kd.R_alloc | apply Kd.R_drewN | apply Kd.R_drew)); exact HO_9.out⟩, ⟨by (with_reducible repeat (first | apply Kd.R_alloc | apply Kd.R_drewN | apply Kd.R_drew)); exact HO_11.out⟩, ⟨by (with_reducible repeat (first | apply Kd.R_alloc | apply Kd.R_drewN | apply Kd.R_drew)); exact HO_12.out⟩, ⟨by repeat (first | (with_reducible first | exact HB.out | apply below_alloc | apply pw_below_drewN | apply below_drew1) | exact HB.out)⟩⟩
          ·rw [if_neg c29] at H
           have c29b0 : decide (x14_2 < (t282.length : Int)) = false := decide_eq_false c29
           clear c29
           by_cases c40 : x13_2 = (t279.length : Int)
           ·rw [if_pos c40] at H
            have c40b0 : (x13_2 == (t279.length : Int)) = true := beq_iff_eq.mpr c40
            have c40b1 : (x13_2 != (t279.length : Int)) = false := bne_eq_false_iff_eq.mpr c40
            clear c40
            replace H := Option.bind_eq_some_iff.mp H
            obtain ⟨t287, A410, H⟩ := H
            replace H : ((chart_Count.f t267 t275 0 0 t276 100000).bind fun t288 => (some (decide (t287 ≤ t288)))) = some r := H
            have A41 := Aside0.mk A410
            clear A410
            replace H := Option.bind_eq_some_iff.mp H
            obtain ⟨t288, A420, H⟩ := H
            replace H : (some (decide (t287 ≤ t288))) = some r := H
            have A42 := Aside0.mk A420
            clear A420
            obtain rfl := Option.some.inj H
            obtain ⟨Ao43, co43, eo43⟩ := Kd.R_slice HO_12.out
            subst eo43
            obtain ⟨Ao44, co44, eo44⟩ := Kd.R_slice HO_11.out
            subst eo44
            go_wp2_with (first | (go_at_call 14; (with_reducible refine (chart_Count.calls _ _ y270 _ _ t275 0 0 t276 100000 t287 _ ?side1 ?side2 ?side3 ?side4 A41.out).mono ?_); (case side1 => repeat (first | exact (Kd.V_reads' HO_8.out).2.2 | (with_reducible refine Kd.C_alloc ?_ _) | (with_reducible refine Kd.C_drewN ?_ _) | (with_reducible refine Kd.C_drew ?_))); (case side2 => exact (Kd.V_reads' HO_8.out).2.1); (case side3 => repeat (first | exact (Kd.R_reads' HO_9.out).2.2 | (with_reducible refine Kd.C_alloc ?_ _) | (with_reducible refine Kd.C_drewN ?_ _) | (with_reducible refine Kd.C_drew ?_))); (case side4 => exact (Kd.R_reads' HO_9.out).2.1); rintro e w45 ⟨rfl, hb⟩; have n0_ := Aside0.mk (Kd.N_below (by (with_reducible repeat (first | apply Kd.N_alloc | apply Kd.N_drewN | apply Kd.N_drew)); exact HO_7.out) hb); have n1_ := Aside0.mk (Kd.V_below (by (with_reducible repeat (first | apply Kd.V_alloc | apply Kd.V_drewN | apply Kd.V_drew)); exact HO_8.out) hb); have n2_ := Aside0.mk (Kd.R_below (by (with_reducible repeat (first | apply Kd.R_alloc | apply Kd.R_drewN | apply Kd.R_drew)); exact HO_9.out) hb); have n3_ := Aside0.mk (Kd.R_below (by (with_reducible repeat (first | apply Kd.R_alloc | apply Kd.R_drewN | apply Kd.R_drew)); exact HO_11.out) hb); have n4_ := Aside0.mk (Kd.R_below (by (with_reducible repeat (first | apply Kd.R_alloc | apply Kd.R_drewN | apply Kd.R_drew)); exact HO_12.out) hb); have n5_ := Aside0.mk (below_step (by repeat (first | (with_reducible first | exact HB.out | apply below_alloc | apply pw_below_drewN | apply below_drew1) | exact HB.out)) hb); clear HO_7; clear HO_8; clear HO_9; clear HO_11; clear HO_12; clear HB; have HO_7 := n0_; have HO_8 := n1_; have HO_9 := n2_; have HO_11 := n3_; have HO_12 := n4_; have HB := n5_; clear n0_ n1_ n2_ n3_ n4_ n5_; (try clear hb); (try clear hb2); (try clear hk); (try clear hi)) | (go_at_call 14; (with_reducible refine (chart_Count.calls _ _ t267 _ _ t275 0 0 t276 100000 t288 _ ?side1 ?side2 ?side3 ?side4 A42.out).mono ?_); (case side1 => repeat (first | exact (Kd.N_reads' HO_7.out).2.2 | (with_reducible refine Kd.C_alloc ?_ _) | (with_reducible refine Kd.C_drewN ?_ _) | (with_reducible refine Kd.C_drew ?_))); (case side2 => exact (Kd.N_reads' HO_7.out).2.1); (case side3 => repeat (first | exact (Kd.R_reads' HO_9.out).2.2 | (with_reducible refine Kd.C_alloc ?_ _) | (with_reducible refine Kd.C_drewN ?_ _) | (with_reducible refine Kd.C_drew ?_))); (case side4 => exact (Kd.R_reads' HO_9.out).2.1); rintro e w46 ⟨rfl, hb⟩; have n0_ := Aside0.mk (Kd.N_below (by (with_reducible repeat (first | apply Kd.N_alloc | apply Kd.N_drewN | apply Kd.N_drew)); exact HO_7.out) hb); have n1_ := Aside0.mk (Kd.V_below (by (with_reducible repeat (first | apply Kd.V_alloc | apply Kd.V_drewN | apply Kd.V_drew)); exact HO_8.out) hb); have n2_ := Aside0.mk (Kd.R_below (by (with_reducible repeat (first | apply Kd.R_alloc | apply Kd.R_drewN | apply Kd.R_drew)); exact HO_9.out) hb); have n3_ := Aside0.mk (Kd.R_below (by (with_reducible repeat (first | apply Kd.R_alloc | apply Kd.R_drewN | apply Kd.R_drew)); exact HO_11.out) hb); have n4_ := Aside0.mk (Kd.R_below (by (with_reducible repeat (first | apply Kd.R_alloc | apply Kd.R_drewN | apply Kd.R_drew)); exact HO_12.out) hb); have n5_ := Aside0.mk (below_step (by repeat (first | (with_reducible first | exact HB.out | apply below_alloc | apply pw_below_drewN | apply below_drew1) | exact HB.out)) hb); clear HO_7; clear HO_8; clear HO_9; clear HO_11; clear HO_12; clear HB; have HO_7 := n0_; have HO_8 := n1_; have HO_9 := n2_; have HO_11 := n3_; have HO_12 := n4_; have HB := n5_; clear n0_ n1_ n2_ n3_ n4_ n5_; (try clear hb); (try clear hb2); (try clear hk); (try clear hi)))
            repeat (go_quiet (first | (go_at_call 14; (with_reducible refine (chart_Count.calls _ _ y270 _ _ t275 0 0 t276 100000 t287 _ ?side1 ?side2 ?side3 ?side4 A41.out).mono ?_); (case side1 => repeat (first | exact (Kd.V_reads' HO_8.out).2.2 | (with_reducible refine Kd.C_alloc ?_ _) | (with_reducible refine Kd.C_drewN ?_ _) | (with_reducible refine Kd.C_drew ?_))); (case side2 => exact (Kd.V_reads' HO_8.out).2.1); (case side3 => repeat (first | exact (Kd.R_reads' HO_9.out).2.2 | (with_reducible refine Kd.C_alloc ?_ _) | (with_reducible refine Kd.C_drewN ?_ _) | (with_reducible refine Kd.C_drew ?_))); (case side4 => exact (Kd.R_reads' HO_9.out).2.1); rintro e w45 ⟨rfl, hb⟩; have n0_ := Aside0.mk (Kd.N_below (by (with_reducible repeat (first | apply Kd.N_alloc | apply Kd.N_drewN | apply Kd.N_drew)); exact HO_7.out) hb); have n1_ := Aside0.mk (Kd.V_below (by (with_reducible repeat (first | apply Kd.V_alloc | apply Kd.V_drewN | apply Kd.V_drew)); exact HO_8.out) hb); have n2_ := Aside0.mk (Kd.R_below (by (with_reducible repeat (first | apply Kd.R_alloc | apply Kd.R_drewN | apply Kd.R_drew)); exact HO_9.out) hb); have n3_ := Aside0.mk (Kd.R_below (by (with_reducible repeat (first | apply Kd.R_alloc | apply Kd.R_drewN | apply Kd.R_drew)); exact HO_11.out) hb); have n4_ := Aside0.mk (Kd.R_below (by (with_reducible repeat (first | apply Kd.R_alloc | apply Kd.R_drewN | apply Kd.R_drew)); exact HO_12.out) hb); have n5_ := Aside0.mk (below_step (by repeat (first | (with_reducible first | exact HB.out | apply below_alloc | apply pw_below_drewN | apply below_drew1) | exact HB.out)) hb); clear HO_7; clear HO_8; clear HO_9; clear HO_11; clear HO_12; clear HB; have HO_7 := n0_; have HO_8 := n1_; have HO_9 := n2_; have HO_11 := n3_; have HO_12 := n4_; have HB := n5_; clear n0_ n1_ n2_ n3_ n4_ n5_; (try clear hb); (try clear hb2); (try clear hk); (try clear hi)) | (go_at_call 14; (with_reducible refine (chart_Count.calls _ _ t267 _ _ t275 0 0 t276 100000 t288 _ ?side1 ?side2 ?side3 ?side4 A42.out).mono ?_); (case side1 => repeat (first | exact (Kd.N_reads' HO_7.out).2.2 | (with_reducible refine Kd.C_alloc ?_ _) | (with_reducible refine Kd.C_drewN ?_ _) | (with_reducible refine Kd.C_drew ?_))); (case side2 => exact (Kd.N_reads' HO_7.out).2.1); (case side3 => repeat (first | exact (Kd.R_reads' HO_9.out).2.2 | (with_reducible refine Kd.C_alloc ?_ _) | (with_reducible refine Kd.C_drewN ?_ _) | (with_reducible refine Kd.C_drew ?_))); (case side4 => exact (Kd.R_reads' HO_9.out).2.1); rintro e w46 ⟨rfl, hb⟩; have n0_ := Aside0.mk (Kd.N_below (by (with_reducible repeat (first | apply Kd.N_alloc | apply Kd.N_drewN | apply Kd.N_drew)); exact HO_7.out) hb); have n1_ := Aside0.mk (Kd.V_below (by (with_reducible repeat (first | apply Kd.V_alloc | apply Kd.V_drewN | apply Kd.V_drew)); exact HO_8.out) hb); have n2_ := Aside0.mk (Kd.R_below (by (with_reducible repeat (first | apply Kd.R_alloc | apply Kd.R_drewN | apply Kd.R_drew)); exact HO_9.out) hb); have n3_ := Aside0.mk (Kd.R_below (by (with_reducible repeat (first | apply Kd.R_alloc | apply Kd.R_drewN | apply Kd.R_drew)); exact HO_11.out) hb); have n4_ := Aside0.mk (Kd.R_below (by (with_reducible repeat (first | apply Kd.R_alloc | apply Kd.R_drewN | apply Kd.R_drew)); exact HO_12.out) hb); have n5_ := Aside0.mk (below_step (by repeat (first | (with_reducible first | exact HB.out | apply below_alloc | apply pw_below_drewN | apply below_drew1) | exact HB.out)) hb); clear HO_7; clear HO_8; clear HO_9; clear HO_11; clear HO_12; clear HB; have HO_7 := n0_; have HO_8 := n1_; have HO_9 := n2_; have HO_11 := n3_; have HO_12 := n4_; have HB := n5_; clear n0_ n1_ n2_ n3_ n4_ n5_; (try clear hb); (try clear hb2); (try clear hk); (try clear hi))); try go_wp2_with (first | (go_at_call 14; (with_reducible refine (chart_Count.calls _ _ y270 _ _ t275 0 0 t276 100000 t287 _ ?side1 ?side2 ?side3 ?side4 A41.out).mono ?_); (case side1 => repeat (first | exact (Kd.V_reads' HO_8.out).2.2 | (with_reducible refine Kd.C_alloc ?_ _) | (with_reducible refine Kd.C_drewN ?_ _) | (with_reducible refine Kd.C_drew ?_))); (case side2 => exact (Kd.V_reads' HO_8.out).2.1); (case side3 => repeat (first | exact (Kd.R_reads' HO_9.out).2.2 | (with_reducible refine Kd.C_alloc ?_ _) | (with_reducible refine Kd.C_drewN ?_ _) | (with_reducible refine Kd.C_drew ?_))); (case side4 => exact (Kd.R_reads' HO_9.out).2.1); rintro e w45 ⟨rfl, hb⟩; have n0_ := Aside0.mk (Kd.N_below (by (with_reducible repeat (first | apply Kd.N_alloc | apply Kd.N_drewN | apply Kd.N_drew)); exact HO_7.out) hb); have n1_ := Aside0.mk (Kd.V_below (by (with_reducible repeat (first | apply Kd.V_alloc | apply Kd.V_drewN | apply Kd.V_drew)); exact HO_8.out) hb); have n2_ := Aside0.mk (Kd.R_below (by (with_reducible repeat (first | apply Kd.R_alloc | apply Kd.R_drewN | apply Kd.R_drew)); exact HO_9.out) hb); have n3_ := Aside0.mk (Kd.R_below (by (with_reducible repeat (first | apply Kd.R_alloc | apply Kd.R_drewN | apply Kd.R_drew)); exact HO_11.out) hb); have n4_ := Aside0.mk (Kd.R_below (by (with_reducible repeat (first | apply Kd.R_alloc | apply Kd.R_drewN | apply Kd.R_drew)); exact HO_12.out) hb); have n5_ := Aside0.mk (below_step (by repeat (first | (with_reducible first | exact HB.out | apply below_alloc | apply pw_below_drewN | apply below_drew1) | exact HB.out)) hb); clear HO_7; clear HO_8; clear HO_9; clear HO_11; clear HO_12; clear HB; have HO_7 := n0_; have HO_8 := n1_; have HO_9 := n2_; have HO_11 := n3_; have HO_12 := n4_; have HB := n5_; clear n0_ n1_ n2_ n3_ n4_ n5_; (try clear hb); (try clear hb2); (try clear hk); (try clear hi)) | (go_at_call 14; (with_reducible refine (chart_Count.calls _ _ t267 _ _ t275 0 0 t276 100000 t288 _ ?side1 ?side2 ?side3 ?side4 A42.out).mono ?_); (case side1 => repeat (first | exact (Kd.N_reads' HO_7.out).2.2 | (with_reducible refine Kd.C_alloc ?_ _) | (with_reducible refine Kd.C_drewN ?_ _) | (with_reducible refine Kd.C_drew ?_))); (case side2 => exact (Kd.N_reads' HO_7.out).2.1); (case side3 => repeat (first | exact (Kd.R_reads' HO_9.out).2.2 | (with_reducible refine Kd.C_alloc ?_ _) | (with_reducible refine Kd.C_drewN ?_ _) | (with_reducible refine Kd.C_drew ?_))); (case side4 => exact (Kd.R_reads' HO_9.out).2.1); rintro e w46 ⟨rfl, hb⟩; have n0_ := Aside0.mk (Kd.N_below (by (with_reducible repeat (first | apply Kd.N_alloc | apply Kd.N_drewN | apply Kd.N_drew)); exact HO_7.out) hb); have n1_ := Aside0.mk (Kd.V_below (by (with_reducible repeat (first | apply Kd.V_alloc | apply Kd.V_drewN | apply Kd.V_drew)); exact HO_8.out) hb); have n2_ := Aside0.mk (Kd.R_below (by (with_reducible repeat (first | apply Kd.R_alloc | apply Kd.R_drewN | apply Kd.R_drew)); exact HO_9.out) hb); have n3_ := Aside0.mk (Kd.R_below (by (with_reducible repeat (first | apply Kd.R_alloc | apply Kd.R_drewN | apply Kd.R_drew)); exact HO_11.out) hb); have n4_ := Aside0.mk (Kd.R_below (by (with_reducible repeat (first | apply Kd.R_alloc | apply Kd.R_drewN | apply Kd.R_drew)); exact HO_12.out) hb); have n5_ := Aside0.mk (below_step (by repeat (first | (with_reducible first | exact HB.out | apply below_alloc | apply pw_below_drewN | apply below_drew1) | exact HB.out)) hb); clear HO_7; clear HO_8; clear HO_9; clear HO_11; clear HO_12; clear HB; have HO_7 := n0_; have HO_8 := n1_; have HO_9 := n2_; have HO_11 := n3_; have HO_12 := n4_; have HB := n5_; clear n0_ n1_ n2_ n3_ n4_ n5_; (try clear hb); (try clear hb2); (try clear hk); (try clear hi))))
            go_ret
            exact ⟨by first | rfl | (simp [errW_none, errW_some] <;> rfl) | (simp only [← hji16]; first | rfl | (simp [errW_none, errW_some] <;> rfl)) | (simp [*, errW_none, errW_some] <;> rfl), by repeat (first | (with_reducible first | exact HB.out | apply below_alloc | apply pw_below_drewN | apply below_drew1) | exact HB.out)⟩
           ·rw [if_neg c40] at H
            have c40b0 : (x13_2 == (t279.length : Int)) = false := beq_eq_false_iff_ne.mpr c40
            have c40b1 : (x13_2 != (t279.length : Int)) = true := bne_iff_ne.mpr c40
            obtain rfl := Option.some.inj H
            obtain ⟨Ao47, co47, eo47⟩ := Kd.R_slice HO_12.out
            subst eo47
            obtain ⟨Ao48, co48, eo48⟩ := Kd.R_slice HO_11.out
            subst eo48
            go_wp2
            repeat (go_quiet (fail); try go_wp2)
            go_ret
            exact ⟨by first | rfl | (simp [errW_none, errW_some] <;> rfl) | (simp only [← hji16]; first | rfl | (simp [errW_none, errW_some] <;> rfl)) | (simp [*, errW_none, errW_some] <;> rfl), by repeat (first | (with_reducible first | exact HB.out | apply below_alloc | apply pw_below_drewN | apply below_drew1) | exact HB.out)⟩
       ·rw [if_neg c18] at H
        exact absurd H (by simp)
      ·rw [if_neg c17] at H
       exact absurd H (by simp)
 ·replace c5 := Bool.eq_false_iff.mpr c5
  subst c5
  have H1 : (some false) = some r := by rw [if_neg (show ¬ (false = true) by decide)] at H; exact H
  clear H
  have H := H1
  clear H1
  obtain rfl := Option.some.inj H
  go_enter Try.func6, Try.ntmps6
  go_wp2_with (first | (go_at_call 9; (with_reducible refine (l7_known.calls  false _ A4.out).mono ?_); rintro e w49 ⟨rfl, hb⟩; have n0_ := Aside0.mk (below_step (by repeat (first | (with_reducible first | exact HB.out | apply below_alloc | apply pw_below_drewN | apply below_drew1) | exact HB.out)) hb); clear HB; have HB := n0_; clear n0_; (try clear hb); (try clear hb2); (try clear hk); (try clear hi)))
  repeat (go_quiet (first | (go_at_call 9; (with_reducible refine (l7_known.calls  false _ A4.out).mono ?_); rintro e w49 ⟨rfl, hb⟩; have n0_ := Aside0.mk (below_step (by repeat (first | (with_reducible first | exact HB.out | apply below_alloc | apply pw_below_drewN | apply below_drew1) | exact HB.out)) hb); clear HB; have HB := n0_; clear n0_; (try clear hb); (try clear hb2); (try clear hk); (try clear hi))); try go_wp2_with (first | (go_at_call 9; (with_reducible refine (l7_known.calls  false _ A4.out).mono ?_); rintro e w49 ⟨rfl, hb⟩; have n0_ := Aside0.mk (below_step (by repeat (first | (with_reducible first | exact HB.out | apply below_alloc | apply pw_below_drewN | apply below_drew1) | exact HB.out)) hb); clear HB; have HB := n0_; clear n0_; (try clear hb); (try clear hb2); (try clear hk); (try clear hi))))
  go_ret
  exact ⟨by first | rfl | (simp [errW_none, errW_some] <;> rfl) | (simp [*, errW_none, errW_some] <;> rfl), by repeat (first | (with_reducible first | exact HB.out | apply below_alloc | apply pw_below_drewN | apply below_drew1) | exact HB.out)⟩
end Go.Proofs.Ytjfbfhoipgldgaa.P
end
section
namespace Go.Proofs.Ytjfbfhoipgldgaa.P
open Go.RowKit Go.Proofs.YtjfbfhoipgldgaaW.PrintWords Go.Proofs.YtjfbfhoipgldgaaW.PrintLast Go.Proofs.YtjfbfhoipgldgaaW.PrintMore
attribute [local go_sem] max2_int min2_int max_two min_two max_three min_three max_four min_four   
set_option linter.unusedVariables false
set_option linter.unusedSimpArgs false
theorem check_flat (l : List Rule') (h1 : l.length ≤ 60) (h2 : l.all rightR = true) (h3 : ∀ r ∈ l, ∀ y, r.f1 = [y] → y < 0) : checkP l = true :=
 (checkP_iff l).2 ⟨h1, h2, fun x hx => no_round l id (fun r hr y hy _ hs => absurd (h3 r hr y hy) (by have := hs.1; omega)) x hx⟩
theorem tok_fwd (toks : List Tok') (h : ∀ x ∈ toks, x.f0 < x.f1) : Chart.Fwd (tokT toks) := by
 intro x p q hpq
 refine Classical.byContradiction fun hx => hpq ?_
 unfold tokT at hx
 obtain ⟨t, ht⟩ := List.exists_mem_of_ne_nil (toks.filter fun t => decide (tkKey t = (-1 - x, (p : Int), (q : Int)))) (fun e => hx (by rw [e]; rfl))
 rw [List.mem_filter] at ht
 have h2 := of_decide_eq_true ht.2
 unfold tkKey at h2
 injection h2 with _ h2
 injection h2 with h2 h3
 have := h t ht.1
 omega
def rowTok (i : Nat) : Tok' := ⟨(i : Int), (i : Int) + 1, 0, 0, 1⟩
def rowL (k : Nat) : List Tok' := (List.range k).map rowTok
theorem rowL_succ (k : Nat) : rowL (k + 1) = rowL k ++ [rowTok k] := by
 unfold rowL
 rw [List.range_succ, List.map_append]
 rfl
theorem rowL_length (k : Nat) : (rowL k).length = k := by simp [rowL]
theorem rowL_mem (k : Nat) (x : Tok') (h : x ∈ rowL k) : ∃ i, i < k ∧ x = rowTok i := by
 obtain ⟨i, hi, rfl⟩ := List.mem_map.1 h
 exact ⟨i, List.mem_range.1 hi, rfl⟩
theorem tokT_row (p q : Nat) : ∀ k, tokT (rowL k) (-1) p q = if q = p + 1 ∧ p < k then 1 else 0
 | 0 => by simp [tokT, rowL]
 | k + 1 => by
  have ih := tokT_row p q k
  have e : tokT (rowL (k + 1)) (-1) p q = tokT (rowL k) (-1) p q + ([rowTok k].filter fun t => decide (tkKey t = (-1 - -1, (p : Int), (q : Int)))).length := by
   unfold tokT
   rw [rowL_succ, List.filter_append, List.length_append]
  rw [e, ih]
  by_cases h : k = p ∧ q = p + 1
  ·obtain ⟨rfl, rfl⟩ := h
   rw [List.filter_cons_of_pos (by unfold tkKey rowTok; simp)]
   simp
  ·rw [List.filter_cons_of_neg (by
    unfold tkKey rowTok
    simp only [decide_eq_true_eq, Prod.mk.injEq, not_and]
    intro _ h1 h2
    omega)]
   by_cases h2 : q = p + 1 ∧ p < k
   ·rw [if_pos h2, if_pos ⟨h2.1, by omega⟩]; rfl
   ·rw [if_neg h2, if_neg (by omega)]; rfl
theorem row_ok (rules : List Rule') (k n : Nat) (hr : rules.length ≤ 1000000) (hk : k ≤ n) (hk2 : k ≤ 1000) : okIn rules (rowL k) n = true := by
 refine (okIn_iff _ _ _).2 ⟨hr, by rw [rowL_length]; exact hk2, fun x hx => ?_⟩
 obtain ⟨i, hi, rfl⟩ := rowL_mem k x hx
 unfold rowTok
 simp only
 omega
theorem row_size : ∀ k, sizeL (rowL k) = (k : Int)
 | 0 => rfl
 | k + 1 => by
  have ih := row_size k
  unfold sizeL at ih ⊢
  rw [rowL_succ, List.foldl_append, ih]
  show max (k : Int) ((k : Int) + 1) = ((k + 1 : Nat) : Int)
  omega
theorem row_toks (k : Nat) : ∀ x ∈ rowL k, 0 ≤ x.f0 ∧ x.f0 < x.f1 ∧ x.f1 ≤ (k : Int) := fun x hx => by
 obtain ⟨i, hi, rfl⟩ := rowL_mem k x hx
 unfold rowTok
 simp only
 omega
def triN (k : Nat) : Nat := (((List.range (20 * (k + 1) * (k + 1))).map (decS (k + 1))).filter fun x => decide (x.f0 = 0 ∧ x.f1 < x.f2)).length
set_option maxRecDepth 100000 in
theorem tri_eq : ∀ k : Fin 13, triN k.val = k.val * (k.val + 1) / 2 := by decide +kernel
theorem spans_tri (rules : List Rule') (toks : List Tok') (k : Nat) (hk : k ≤ 12) (hch : checkP rules = true) (h : ∀ (s : Int) (p q : Nat), numP rules toks k s p q ≠ 0 ↔ s = 0 ∧ p < q ∧ q ≤ k) : (spansP rules toks k).length = k * (k + 1) / 2 := by
 have h1 := tri_eq ⟨k, by omega⟩
 rw [← h1]
 unfold spansP triN
 rw [if_pos hch]
 congr 1
 refine List.filter_congr fun x hx => ?_
 obtain ⟨i, _, rfl⟩ := List.mem_map.1 hx
 have hq : i % (k + 1) < k + 1 := Nat.mod_lt _ (Nat.succ_pos k)
 rw [decide_eq_decide, h]
 unfold decS
 simp only [Int.toNat_natCast]
 omega
theorem pairs_num (rules : List Rule') (hr : plainR rules = [(0, [0, 0]), (0, [-1])] ∨ plainR rules = [(0, [-1]), (0, [0, 0])]) (hch : checkP rules = true) (k : Nat) (hk : k ≤ 10) (s : Int) (p q : Nat) :
  numP rules (rowL k) k s p q = if s = 0 ∧ p < q ∧ q ≤ k then Chart.catF (q - p) else 0 := by
 have hf : Chart.Fwd (tokT (rowL k)) := tok_fwd _ fun x hx => (row_toks k x hx).2.1
 have hne := plain_ne rules hch
 by_cases hs : s = 0
 ·subst hs
  by_cases hpq : p < q
  ·by_cases hq : q ≤ k
   ·rw [if_pos ⟨rfl, hpq, hq⟩]
    refine Chart.brackets (tokT (rowL k)) k (plainR rules) hr hf (fun p q hpq hq => ?_) hk (q - p) p q rfl hpq hq
    rw [tokT_row]
    by_cases e : q = p + 1
    ·rw [if_pos ⟨e, by omega⟩, if_pos e]
    ·rw [if_neg (fun h => e h.1), if_neg e]
   ·rw [if_neg (fun h => hq h.2.2)]
    exact Classical.byContradiction fun h => hq (num_tok rules hch (rowL k) k k (row_toks k) 0 p q h).2
  ·rw [if_neg (fun h => hpq h.2.1)]
   exact Chart.Num_fwd _ _ _ hf hne 0 p q hpq
 ·rw [if_neg (fun h => hs h.1)]
  refine Chart.brackets_other _ _ _ (fun r h => ?_) hne s hs p q
  rcases hr with hr | hr <;> rw [hr] at h <;> simp at h <;> rcases h with rfl | rfl <;> rfl
theorem catF_pos : ∀ d : Fin 11, 1 ≤ d.val → Chart.catF d.val ≠ 0 := by decide
theorem pairs_spans (rules : List Rule') (hr : plainR rules = [(0, [0, 0]), (0, [-1])] ∨ plainR rules = [(0, [-1]), (0, [0, 0])]) (hch : checkP rules = true) (k : Nat) (hk : k ≤ 10) : (spansP rules (rowL k) k).length = k * (k + 1) / 2 := by
 refine spans_tri rules (rowL k) k (by omega) hch fun s p q => ?_
 rw [pairs_num rules hr hch k hk]
 by_cases h : s = 0 ∧ p < q ∧ q ≤ k
 ·rw [if_pos h]
  exact ⟨fun _ => h, fun _ => catF_pos ⟨q - p, by omega⟩ (by show 1 ≤ q - p; omega)⟩
 ·rw [if_neg h]
  exact ⟨fun h1 => absurd rfl h1, fun h1 => absurd h1 h⟩
theorem count_row (rules : List Rule') (hl : rules.length ≤ 1000000) (hch : checkP rules = true) (k : Nat) (hk0 : 1 ≤ k) (hk : k ≤ 1000) (most : Int) (h0 : 0 ≤ most) (h1 : most ≤ 1000000000) :
  chart_Count.f rules (rowL k) 0 0 (k : Int) most = some ((min (numP rules (rowL k) k 0 0 k) most.toNat : Nat) : Int) := by
 unfold chart_Count.f
 rw [if_pos ⟨⟨⟨⟨by omega, by omega⟩, ⟨by omega, by omega⟩, ⟨by omega, by omega⟩, ⟨by omega, by omega⟩⟩, h1⟩, row_ok rules k 1000000 hl (by omega) hk⟩]
 unfold countP
 congr 1
 by_cases hm : most ≤ 0
 ·rw [if_pos (.inl hm)]
  have : most = 0 := by omega
  subst this
  simp
 ·rw [if_neg (by omega), row_size, if_neg (by omega), if_pos hch]
  simp only [Int.toNat_natCast]
  rfl
def oneR : Rule' := ⟨0, [-1], ⟨8, [0]⟩, 0⟩
def pairR : Rule' := ⟨0, [0, 0], ⟨0, [0]⟩, 0⟩
theorem known_check : checkP [oneR, pairR] = true := check_flat _ (by decide) (by decide) (fun r hr y hy => by simp at hr; rcases hr with rfl | rfl <;> simp [oneR, pairR] at hy <;> omega)
theorem known_true : l7_known.f = some true := by
 have hs : chart_Spans.f [oneR, pairR] (rowL 3) 3 = some (spansP [oneR, pairR] (rowL 3) 3) := by
  unfold chart_Spans.f
  rw [if_pos ⟨by decide, row_ok _ 3 3 (by decide) (Nat.le_refl _) (by decide)⟩]
  rfl
 have hs0 : chart_Spans.f [] [] 0 = some (spansP [] [] 0) := by
  unfold chart_Spans.f
  rw [if_pos ⟨by decide, by decide⟩]
  rfl
 have hl := pairs_spans [oneR, pairR] (.inr rfl) known_check 3 (by decide)
 have hl0 : (spansP [] [] 0).length = 0 := by
  refine List.length_eq_zero_iff.2 (List.eq_nil_iff_forall_not_mem.2 fun x hx => ?_)
  obtain ⟨hch, s, p, q, rfl, hn⟩ := (spansP_mem [] [] 0 (by simp) x).1 hx
  obtain ⟨r, hr, _⟩ := num_lhs _ _ _ _ _ _ hn
  simp [plainR] at hr
 have hc : chart_Count.f [oneR, pairR] (rowL 3) 0 0 3 100 = some 2 := by
  have h := count_row [oneR, pairR] (by decide) known_check 3 (by decide) (by decide) 100 (by decide) (by decide)
  rw [pairs_num [oneR, pairR] (.inr rfl) known_check 3 (by decide)] at h
  exact h
 have hc1 : chart_Count.f [oneR, pairR] (rowL 3) 0 1 1 100 = some 0 := by
  unfold chart_Count.f
  rw [if_pos ⟨⟨⟨⟨by omega, by omega⟩, ⟨by omega, by omega⟩, ⟨by omega, by omega⟩, ⟨by omega, by omega⟩⟩, by omega⟩, row_ok _ 3 1000000 (by decide) (by omega) (by omega)⟩]
  unfold countP
  rw [if_pos (.inr (.inr (by omega)))]
 show ((some [oneR, pairR]).bind fun y129 => (some (rowL 3)).bind fun y132 => (chart_Spans.f y129 y132 3).bind fun t135 => (chart_Spans.f ([] : List Rule') ([] : List Tok') 0).bind fun t138 => (if (t138.length : Int) = 0 then (if (t135.length : Int) = 6 then ((chart_Count.f y129 y132 0 0 3 100).bind fun t141 => (if t141 = 2 then ((chart_Count.f y129 y132 0 1 1 100).bind fun t142 => (some (t142 == 0))) else (some false))) else (some false)) else (some false))) = some true
 rw [Option.bind_some, Option.bind_some, hs, Option.bind_some, hs0, Option.bind_some, hl0, hl, hc, hc1]
 rfl
end Go.Proofs.Ytjfbfhoipgldgaa.P
end
section
namespace Go.Proofs.Ytjfbfhoipgldgaa.P
open Go.RowKit Go.Proofs.YtjfbfhoipgldgaaW.PrintWords Go.Proofs.YtjfbfhoipgldgaaW.PrintLast Go.Proofs.YtjfbfhoipgldgaaW.PrintMore
attribute [local go_sem] max2_int min2_int max_two min_two max_three min_three max_four min_four   
set_option linter.unusedVariables false
set_option linter.unusedSimpArgs false
def genTok (c v : Nat → Int) (l : Int) (i : Nat) : Tok' := ⟨(i : Int), (i : Int) + 1, c i, v i, l⟩
def genL (c v : Nat → Int) (l : Int) (k : Nat) : List Tok' := (List.range k).map (genTok c v l)
theorem genL_succ (c v : Nat → Int) (l : Int) (k : Nat) : genL c v l (k + 1) = genL c v l k ++ [genTok c v l k] := by
 unfold genL
 rw [List.range_succ, List.map_append]
 rfl
theorem genL_len (c v : Nat → Int) (l : Int) (k : Nat) : (genL c v l k).length = k := by simp [genL]
theorem genL_toks (c v : Nat → Int) (l : Int) (k : Nat) : ∀ x ∈ genL c v l k, 0 ≤ x.f0 ∧ x.f0 < x.f1 ∧ x.f1 ≤ (k : Int) := fun x hx => by
 obtain ⟨i, hi, rfl⟩ := List.mem_map.1 hx
 have := List.mem_range.1 hi
 unfold genTok
 simp only
 omega
theorem genL_size (c v : Nat → Int) (l : Int) : ∀ k, sizeL (genL c v l k) = (k : Int)
 | 0 => rfl
 | k + 1 => by
  have ih := genL_size c v l k
  unfold sizeL at ih ⊢
  rw [genL_succ, List.foldl_append, ih]
  show max (k : Int) ((k : Int) + 1) = ((k + 1 : Nat) : Int)
  omega
theorem genL_ok (rules : List Rule') (c v : Nat → Int) (l : Int) (hc : ∀ i, -1000000 ≤ c i ∧ c i ≤ 1000000) (k n : Nat) (hr : rules.length ≤ 1000000) (hk : k ≤ n) (hk2 : k ≤ 1000) : okIn rules (genL c v l k) n = true := by
 refine (okIn_iff _ _ _).2 ⟨hr, by rw [genL_len]; exact hk2, fun x hx => ?_⟩
 have h1 := genL_toks c v l k x hx
 obtain ⟨i, hi, rfl⟩ := List.mem_map.1 hx
 exact ⟨⟨h1.1, h1.2.1, by omega⟩, hc i⟩
theorem count_gen (rules : List Rule') (hl : rules.length ≤ 1000000) (hch : checkP rules = true) (c v : Nat → Int) (l : Int) (hc : ∀ i, -1000000 ≤ c i ∧ c i ≤ 1000000) (k s p q : Nat) (hk : k ≤ 1000) (hs : s ≤ 1000) (hp : p ≤ k) (hq : q ≤ k) (most : Int) (h0 : 0 < most) (h1 : most ≤ 1000000000) :
  chart_Count.f rules (genL c v l k) (s : Int) (p : Int) (q : Int) most = some ((min (numP rules (genL c v l k) k (s : Int) p q) most.toNat : Nat) : Int) := by
 unfold chart_Count.f
 rw [if_pos ⟨⟨⟨⟨by omega, by omega⟩, ⟨by omega, by omega⟩, ⟨by omega, by omega⟩, ⟨by omega, by omega⟩⟩, h1⟩, genL_ok rules c v l hc k 1000000 hl (by omega) hk⟩]
 unfold countP
 congr 1
 by_cases hm : q ≤ p
 ·rw [if_pos (.inr (.inr (by omega)))]
  have hf : Chart.Fwd (tokT (genL c v l k)) := tok_fwd _ fun x hx => (genL_toks c v l k x hx).2.1
  have h9 : numP rules (genL c v l k) k (s : Int) p q = 0 := Chart.Num_fwd _ _ _ hf (plain_ne rules hch) _ p q (by omega)
  rw [h9]
  simp
 ·rw [if_neg (by omega), genL_size, if_neg (by omega), if_pos hch]
  simp only [Int.toNat_natCast]
  rfl
end Go.Proofs.Ytjfbfhoipgldgaa.P
end
section
namespace Go.Proofs.Ytjfbfhoipgldgaa.P
open Go.RowKit Go.Proofs.YtjfbfhoipgldgaaW.PrintWords Go.Proofs.YtjfbfhoipgldgaaW.PrintLast Go.Proofs.YtjfbfhoipgldgaaW.PrintMore
attribute [local go_sem] max2_int min2_int max_two min_two max_three min_three max_four min_four   
set_option linter.unusedVariables false
set_option linter.unusedSimpArgs false
theorem within7_rem (a n : Int) (hn : 0 < n) (hn2 : n ≤ 4611686018427387904) : l7_within.f a n = some (a % n) := by
 unfold l7_within.f
 have h1 := Int.emod_nonneg a (by omega : n ≠ 0)
 have h2 := Int.emod_lt_of_pos a hn
 have h4 : (n.natAbs : Int) = n := by omega
 rw [if_neg (by omega)]
 have h3 := @Int.tmod_eq_emod a n
 by_cases hd : 0 ≤ a ∨ n ∣ a
 ·rw [if_pos hd] at h3
  rw [if_neg (by omega), h3]
  congr 1
  omega
 ·rw [if_neg hd, h4] at h3
  rw [if_pos (by omega), h3]
  congr 1
  unfold wrap64
  omega
end Go.Proofs.Ytjfbfhoipgldgaa.P
end
section
namespace Go.Proofs.Ytjfbfhoipgldgaa.P
open Go.RowKit Go.Proofs.YtjfbfhoipgldgaaW.PrintWords Go.Proofs.YtjfbfhoipgldgaaW.PrintLast Go.Proofs.YtjfbfhoipgldgaaW.PrintMore
attribute [local go_sem] max2_int min2_int max_two min_two max_three min_three max_four min_four   
set_option linter.unusedVariables false
set_option linter.unusedSimpArgs false
theorem within_rem (a n : Int) (hn : 0 < n) (hn2 : n ≤ 4611686018427387904) : l4_within.f a n = some (a % n) := by
 unfold l4_within.f
 have h1 := Int.emod_nonneg a (by omega : n ≠ 0)
 have h2 := Int.emod_lt_of_pos a hn
 have h4 : (n.natAbs : Int) = n := by omega
 rw [if_neg (by omega)]
 have h3 := @Int.tmod_eq_emod a n
 by_cases hd : 0 ≤ a ∨ n ∣ a
 ·rw [if_pos hd] at h3
  rw [if_neg (by omega), h3]
  congr 1
  omega
 ·rw [if_neg hd, h4] at h3
  rw [if_pos (by omega), h3]
  congr 1
  unfold wrap64
  omega
theorem rem_ge (a n : Int) (hn : 0 < n) : 0 ≤ a % n := Int.emod_nonneg a (by omega)
theorem rem_lt (a n : Int) (hn : 0 < n) : a % n < n := Int.emod_lt_of_pos a hn
theorem as_fin {x n : Int} (m : Nat) (hm : n = m) (h0 : 0 ≤ x) (h1 : x < n) : ∃ i : Fin m, x = ((i.val : Nat) : Int) := ⟨⟨x.toNat, by omega⟩, by simp; omega⟩
end Go.Proofs.Ytjfbfhoipgldgaa.P
end
section
namespace Go.Proofs.Ytjfbfhoipgldgaa.P
open Go.RowKit Go.Proofs.YtjfbfhoipgldgaaW.PrintWords Go.Proofs.YtjfbfhoipgldgaaW.PrintLast Go.Proofs.YtjfbfhoipgldgaaW.PrintMore
attribute [local go_sem] max2_int min2_int max_two min_two max_three min_three max_four min_four   
set_option linter.unusedVariables false
set_option linter.unusedSimpArgs false
def Opens (P : Program) (t : TypeId) {α : Type} (d : Kd α) (ok : α → Prop) : Prop :=
 P.cellsOf t = d.sz ∧ ∀ (H : Type) (enc : TypeId × Value → H) (W : World) (base : Nat) (spare : Nat → Bool) (held : Bool) (fuel : Nat) (cs : List Value) (x : DataW H × List MemPlace), DataW.trod enc P W base spare held fuel t cs = some x → ∃ v : α, d.K W v cs ∧ ok v
theorem opens_int {P : Program} {t : TypeId} {k : IntKind} (ht : P.underlying t = some (.int k)) (hc : P.cellsOf t = 1) : Opens P t (Kd.int k) (fun n => (Lit.int k n).wf = true) := by
 refine ⟨hc, fun H enc W base spare held fuel cs x h => ?_⟩
 obtain ⟨n, rfl, _, hw⟩ := DataW.trod_int ht h
 exact ⟨n, rfl, hw⟩
theorem list_of {α : Type} {p : Nat → α → Prop} : ∀ n : Nat, (∀ i, i < n → ∃ v, p i v) → ∃ xs : List α, xs.length = n ∧ ∀ i v, xs[i]? = some v → p i v
 | 0, _ => ⟨[], rfl, fun i v h => by simp at h⟩
 | n + 1, h => by
  obtain ⟨xs, hl, hx⟩ := list_of n (fun i hi => h i (by omega))
  obtain ⟨v, hv⟩ := h n (by omega)
  refine ⟨xs ++ [v], by rw [List.length_append, hl]; rfl, fun i u hu => ?_⟩
  by_cases hi : i < xs.length
  ·rw [List.getElem?_append_left hi] at hu
   exact hx i u hu
  ·rw [List.getElem?_append_right (by omega)] at hu
   have h0 : i - xs.length = 0 := by
    have := (List.getElem?_eq_some_iff.1 hu).1
    simp at this
    omega
   rw [h0] at hu
   obtain rfl := Option.some.inj hu
   have : i = n := by omega
   rw [this]
   exact hv
theorem opens_slice {P : Program} {t e : TypeId} {α : Type} {d : Kd α} {ok : α → Prop} (ht : P.underlying t = some (.slice e)) (hc : P.cellsOf t = 1) (h : Opens P e d ok) : Opens P t (Kd.slice e d) (fun xs => ∀ x ∈ xs, ok x) := by
 refine ⟨hc, fun H enc W base spare held fuel cs x hx => ?_⟩
 rcases Go.Deep.open_slice ht hx with ⟨rfl, _⟩ | ⟨a, len, cap, m, n, D, Pl, rfl, _, hl, hm, hmm, _, hel⟩
 ·exact ⟨[], ⟨none, 0, rfl, Nat.le_refl _, rfl, by simp, fun h => absurd h (Nat.lt_irrefl _)⟩, by simp⟩
 ·have hle : len ≤ m := by rw [hmm]; split <;> omega
  obtain ⟨xs, hxl, hxs⟩ := list_of (p := fun i v => ∃ cs', W.cells? base (a.add (i * d.sz)) d.sz = some cs' ∧ d.K W v cs' ∧ ok v) len (fun i hi => by
   obtain ⟨cs', h1, h2⟩ := hel i (by omega)
   obtain ⟨v, h3, h4⟩ := h.2 H enc W base spare held n cs' _ h2
   rw [h.1] at h1
   exact ⟨v, cs', h1, h3, h4⟩)
  have hmax : maxLen ≤ 9223372036854775807 := by decide
  refine ⟨xs, ⟨some a, cap, by rw [hxl], by omega, rfl, by omega, fun _ => ⟨a, rfl, fun j p hj => ?_⟩⟩, fun y hy => ?_⟩
  ·obtain ⟨cs', h1, h2, _⟩ := hxs j p hj
   obtain ⟨_, h3, h4⟩ := World.cells?_some h1
   refine ⟨cs', h3, h2, fun i u hu => ?_⟩
   have h5 := h4 i (by rw [← h3]; exact (List.getElem?_eq_some_iff.1 hu).1)
   rw [hu, add_add] at h5
   exact h5
  ·obtain ⟨j, hj, rfl⟩ := List.mem_iff_getElem.1 hy
   obtain ⟨_, _, _, h4⟩ := hxs j _ (List.getElem?_eq_getElem hj)
   exact h4
abbrev wfI (n : Int) : Prop := (Lit.int .i64 n).wf = true
theorem opInt : Opens Try.prog 3 (Kd.int .i64) wfI := opens_int Try.underlying3 (by kernel_rfl)
theorem opInts : Opens Try.prog 23 (Kd.slice 3 (Kd.int .i64)) (fun l => ∀ n ∈ l, wfI n) := opens_slice Try.underlying23 (by kernel_rfl) opInt
theorem opens_fields {P : Program} {t : TypeId} {fs : Array Field} (ht : P.underlying t = some (.struct fs)) {H : Type} {enc : TypeId × Value → H} {W : World} {base : Nat} {spare : Nat → Bool} {held : Bool} {fuel : Nat} {cs : List Value} {x : DataW H × List MemPlace} (h : DataW.trod enc P W base spare held fuel t cs = some x) :
  cs.length = P.cellsOf t ∧ ∀ (i : Nat) (f : Field), fs[i]? = some f → ∀ {α : Type} {d : Kd α} {ok : α → Prop}, Opens P f.type d ok → ∃ v, d.K W v ((cs.drop f.offset).take d.sz) ∧ ok v := by
 obtain ⟨xs, n, _, _, hl, hlen, hf⟩ := DataW.trod_struct ht h
 refine ⟨hl, fun i f hi α d ok ho => ?_⟩
 have h1 := hf i f hi
 have hil : i < xs.length := by
  have := (Array.getElem?_eq_some_iff.1 hi).1
  omega
 rw [List.getElem?_eq_getElem hil, ho.1] at h1
 exact ho.2 H enc W base spare held n _ _ h1
def okRaw (x : S49) : Prop := wfI x.f0 ∧ wfI x.f1 ∧ wfI x.f2 ∧ (∀ n ∈ x.f3, wfI n) ∧ ∀ n ∈ x.f4, wfI n
theorem opRaw : Opens Try.prog 49 k49 okRaw := by
 refine ⟨by kernel_rfl, fun H enc W base spare held fuel cs x h => ?_⟩
 obtain ⟨hl, hf⟩ := opens_fields Try.underlying49 h
 have hl2 : cs.length = 5 := hl.trans (by kernel_rfl)
 obtain ⟨v0, k0, w0⟩ := hf 0 _ rfl opInt
 obtain ⟨v1, k1, w1⟩ := hf 1 _ rfl opInt
 obtain ⟨v2, k2, w2⟩ := hf 2 _ rfl opInt
 obtain ⟨v3, ⟨A3, c3, k3, l3, g3⟩, w3⟩ := hf 3 _ rfl opInts
 obtain ⟨v4, ⟨A4, c4, k4, l4, g4⟩, w4⟩ := hf 4 _ rfl opInts
 match cs, hl2 with
 | [b0, b1, b2, b3, b4], _ =>
  have e0 : [b0] = [.int .i64 v0] := k0
  have e1 : [b1] = [.int .i64 v1] := k1
  have e2 : [b2] = [.int .i64 v2] := k2
  have e3 : [b3] = [.slice A3 v3.length c3] := k3
  have e4 : [b4] = [.slice A4 v4.length c4] := k4
  rw [(List.cons.inj e0).1, (List.cons.inj e1).1, (List.cons.inj e2).1, (List.cons.inj e3).1, (List.cons.inj e4).1]
  exact ⟨⟨v0, v1, v2, v3, v4⟩, k49_mk W ⟨v0, v1, v2, v3, v4⟩ l3 g3 l4 g4, w0, w1, w2, w3, w4⟩
theorem opRaws : Opens Try.prog 22 (Kd.slice 49 k49) (fun l => ∀ x ∈ l, okRaw x) := opens_slice Try.underlying22 (by kernel_rfl) opRaw
end Go.Proofs.Ytjfbfhoipgldgaa.P
end
section
namespace Go.Proofs.Ytjfbfhoipgldgaa.P
open Go.RowKit Go.Proofs.YtjfbfhoipgldgaaW.PrintWords Go.Proofs.YtjfbfhoipgldgaaW.PrintLast Go.Proofs.YtjfbfhoipgldgaaW.PrintMore
attribute [local go_sem] max2_int min2_int max_two min_two max_three min_three max_four min_four   
set_option linter.unusedVariables false
set_option linter.unusedSimpArgs false
abbrev Raw' := S49
theorem rdR_getElem (l : List Raw') (j : Nat) (h : j < l.length) : rd_T49 l j = l[j] := by
 unfold rd_T49
 rw [Int.toNat_natCast, List.getD_eq_getElem?_getD, List.getElem?_eq_getElem h]
 rfl
def fewB (l : List Raw') : Bool := l.all fun x => decide (x.f3.length ≤ 20 ∧ x.f4.length ≤ 20)
theorem few_loop (l : List Raw') (hl : l.length ≤ 9223372036854775807) : ∀ (d j : Nat), j + d = l.length → ∀ k, d < k → l4_Few.l0 k l j = some (fewB (l.drop j) && decide (l.length ≤ 80)) := by
 intro d
 induction d with
 | zero =>
  intro j hj k hk
  obtain ⟨k, rfl⟩ : ∃ i, k = i + 1 := ⟨k - 1, by omega⟩
  simp only [l4_Few.l0]
  rw [if_neg (by omega), show j = l.length by omega, List.drop_length]
  have : decide ((l.length : Int) ≤ 80) = decide (l.length ≤ 80) := decide_eq_decide.2 (by omega)
  rw [this]
  rfl
 | succ d ih =>
  intro j hj k hk
  obtain ⟨k, rfl⟩ : ∃ i, k = i + 1 := ⟨k - 1, by omega⟩
  have hlt : j < l.length := by omega
  have hw : wrap64 ((j : Int) + 1) = ((j + 1 : Nat) : Int) := by rw [wrap_in (by omega)]; rfl
  have h1 := ih (j + 1) (by omega) k (by omega)
  simp only [l4_Few.l0]
  rw [if_pos (by omega), if_pos (by omega), rdR_getElem l j hlt, hw, h1, List.drop_eq_getElem_cons hlt]
  unfold fewB
  rw [List.all_cons]
  by_cases h3 : (l[j].f3.length : Int) > 20
  ·rw [if_pos h3, decide_eq_false (by omega)]; rfl
  ·rw [if_neg h3]
   by_cases h4 : (l[j].f4.length : Int) > 20
   ·rw [if_pos h4, decide_eq_false (by omega)]; rfl
   ·rw [if_neg h4, decide_eq_true (by omega : l[j].f3.length ≤ 20 ∧ l[j].f4.length ≤ 20)]
    rfl
theorem few_some (l : List Raw') (hl : l.length ≤ 9223372036854775807) (k : Nat) (hk : l.length < k) : l4_Few.f k l = some (fewB l && decide (l.length ≤ 80)) := by
 have h := few_loop l hl l.length 0 (by omega) k hk
 rw [List.drop_zero] at h
 exact h
def kidOk (s : Int) (y : Int) : Prop := (0 ≤ y ∧ y < s) ∨ (-55 ≤ y ∧ y ≤ -1)
section
variable (s n a0 a1 a2 : Int) (l3 l4 : List Int) (c0 : Int) (rhs : List Int) (c2 c4 : Int)
theorem make_places (hn : n ≤ 3) (hr : 1 ≤ rhs.length) (hr2 : rhs.length ≤ 10) (h4 : l4.length ≤ 20) : ∀ (d j : Nat) (ps : List Int), (j : Int) + d = n → ps.length = j → (∀ p ∈ ps, 0 ≤ p ∧ p < (rhs.length : Int)) →
  ∃ ps' : List Int, (ps'.length : Int) = n ∧ (∀ p ∈ ps', 0 ≤ p ∧ p < (rhs.length : Int)) ∧ ∀ k, d < k → l4_Raw_Make.l1 k n j a0 a1 a2 l3 l4 c0 rhs c2 ps c4 = some (c0, rhs, c2, ps', c4) := by
 intro d
 induction d with
 | zero =>
  intro j ps hj hl hp
  refine ⟨ps, by omega, hp, fun k hk => ?_⟩
  obtain ⟨k, rfl⟩ : ∃ i, k = i + 1 := ⟨k - 1, by omega⟩
  simp only [l4_Raw_Make.l1]
  rw [if_neg (by omega)]
 | succ d ih =>
  intro j ps hj hl hp
  have hw : wrap64 ((j : Int) + 1) = ((j + 1 : Nat) : Int) := by rw [wrap_in (by omega)]; rfl
  by_cases h : (j : Int) < (l4.length : Int)
  ·have hv0 := rem_ge (rd l4 j) (rhs.length : Int) (by omega)
   have hv1 := rem_lt (rd l4 j) (rhs.length : Int) (by omega)
   obtain ⟨ps', h1, h2, h3⟩ := ih (j + 1) (ps ++ [rd l4 j % (rhs.length : Int)]) (by omega) (by rw [List.length_append, hl]; rfl) (fun p hp' => by
    rcases List.mem_append.1 hp' with hp' | hp'
    ·exact hp p hp'
    ·rw [List.mem_singleton.1 hp']; exact ⟨hv0, hv1⟩)
   refine ⟨ps', h1, h2, fun k hk => ?_⟩
   obtain ⟨k, rfl⟩ : ∃ i, k = i + 1 := ⟨k - 1, by omega⟩
   simp only [l4_Raw_Make.l1]
   rw [if_pos (by omega), if_pos h, if_pos (by omega), within_rem _ _ (by omega) (by omega), Option.bind_some, if_pos (by omega), hw]
   exact h3 k (by omega)
  ·have hv0 := rem_ge (j : Int) (rhs.length : Int) (by omega)
   have hv1 := rem_lt (j : Int) (rhs.length : Int) (by omega)
   obtain ⟨ps', h1, h2, h3⟩ := ih (j + 1) (ps ++ [(j : Int) % (rhs.length : Int)]) (by omega) (by rw [List.length_append, hl]; rfl) (fun p hp' => by
    rcases List.mem_append.1 hp' with hp' | hp'
    ·exact hp p hp'
    ·rw [List.mem_singleton.1 hp']; exact ⟨hv0, hv1⟩)
   refine ⟨ps', h1, h2, fun k hk => ?_⟩
   obtain ⟨k, rfl⟩ : ∃ i, k = i + 1 := ⟨k - 1, by omega⟩
   simp only [l4_Raw_Make.l1]
   rw [if_pos (by omega), if_neg h, within_rem _ _ (by omega) (by omega), Option.bind_some, if_pos (by omega), hw]
   exact h3 k (by omega)
theorem kid_table : ∀ t : Fin 11, -55 ≤ wrap64 ((-1) - (rd ([0, 0, 0, 1, 2, 3, 50, 51, 52, 53, 54] : List Int) ((t.val : Nat) : Int))) ∧ wrap64 ((-1) - (rd ([0, 0, 0, 1, 2, 3, 50, 51, 52, 53, 54] : List Int) ((t.val : Nat) : Int))) ≤ -1 := by decide +kernel
theorem make_kids (s n a0 a1 a2 : Int) (l3 l4 : List Int) (c0 c2 c4 : Int) (hs : 1 ≤ s ∧ s ≤ 20) (hn : 1 ≤ n ∧ n ≤ 3) (h3 : l3.length ≤ 20) (hw3 : ∀ y ∈ l3, wfI y) (h4 : l4.length ≤ 20) (ha1 : wfI a1) : ∀ (d i : Nat) (rhs : List Int), i + d = 3 → rhs.length = i → (∀ y ∈ rhs, kidOk s y) →
  ∃ rhs' ps', (1 ≤ rhs'.length ∧ rhs'.length ≤ 3) ∧ (∀ y ∈ rhs', kidOk s y) ∧ ((ps'.length : Int) = n) ∧ (∀ p ∈ ps', 0 ≤ p ∧ p < (rhs'.length : Int)) ∧ ∀ k, 3 * d + 20 < k → l4_Raw_Make.l0 k s n i a0 a1 a2 l3 l4 c0 rhs c2 c4 = some (c0, rhs', c2, ps', c4) := by
 intro d
 induction d with
 | zero =>
  intro i rhs hi hl hk
  obtain ⟨ps', p1, p2, p3⟩ := make_places n a0 a1 a2 l3 l4 c0 rhs c2 c4 hn.2 (by omega) (by omega) h4 n.toNat 0 [] (by omega) rfl (by simp)
  refine ⟨rhs, ps', ⟨by omega, by omega⟩, hk, p1, p2, fun k hk => ?_⟩
  obtain ⟨k, rfl⟩ : ∃ j, k = j + 2 := ⟨k - 2, by omega⟩
  have hm0 := rem_ge (l3.length : Int) 3 (by omega)
  have hm1 := rem_lt (l3.length : Int) 3 (by omega)
  rw [show k + 2 = (k + 1) + 1 by omega]
  simp only [l4_Raw_Make.l0]
  rw [within_rem _ 3 (by omega) (by omega), Option.bind_some, wrap_in (by omega), if_neg (by omega), if_neg (by omega)]
  simp only [l4_Raw_Make.j1, Bool.false_eq_true, if_false]
  exact p3 k (by omega)
 | succ d ih =>
  intro i rhs hi hl hk
  have hm0 := rem_ge (l3.length : Int) 3 (by omega)
  have hm1 := rem_lt (l3.length : Int) 3 (by omega)
  obtain ⟨b, hb0, hb⟩ : ∃ b : Bool, (i = 0 → b = true) ∧ ∀ k, l4_Raw_Make.l0 (k + 1) s n i a0 a1 a2 l3 l4 c0 rhs c2 c4 = l4_Raw_Make.j1 k s n i b a0 a1 a2 l3 l4 c0 rhs c2 c4 := by
   by_cases h1 : (i : Int) < 1 + (l3.length : Int) % 3
   ·refine ⟨true, fun _ => rfl, fun k => ?_⟩
    simp only [l4_Raw_Make.l0]
    rw [within_rem _ 3 (by omega) (by omega), Option.bind_some, wrap_in (by omega), if_pos h1]
   ·by_cases h2 : (i : Int) < n
    ·refine ⟨(wrap64 (Int.tdiv a1 16) % 2 == 0), fun h => by omega, fun k => ?_⟩
     simp only [l4_Raw_Make.l0]
     rw [within_rem _ 3 (by omega) (by omega), Option.bind_some, wrap_in (by omega), if_neg h1, if_pos h2, within_rem _ 2 (by omega) (by omega), Option.bind_some]
    ·refine ⟨false, fun h => by omega, fun k => ?_⟩
     simp only [l4_Raw_Make.l0]
     rw [within_rem _ 3 (by omega) (by omega), Option.bind_some, wrap_in (by omega), if_neg h1, if_neg h2]
  cases b with
  | false =>
   have hi1 : i ≠ 0 := fun h => by have := hb0 h; cases this
   obtain ⟨ps', p1, p2, p3⟩ := make_places n a0 a1 a2 l3 l4 c0 rhs c2 c4 hn.2 (by omega) (by omega) h4 n.toNat 0 [] (by omega) rfl (by simp)
   refine ⟨rhs, ps', ⟨by omega, by omega⟩, hk, p1, p2, fun k hk => ?_⟩
   obtain ⟨k, rfl⟩ : ∃ j, k = j + 2 := ⟨k - 2, by omega⟩
   rw [show k + 2 = (k + 1) + 1 by omega, hb]
   simp only [l4_Raw_Make.j1, Bool.false_eq_true, if_false]
   exact p3 k (by omega)
  | true =>
   obtain ⟨v, hv⟩ : ∃ v : Int, ∀ k, l4_Raw_Make.j1 (k + 1) s n i true a0 a1 a2 l3 l4 c0 rhs c2 c4 = l4_Raw_Make.j2 k s n i v a0 a1 a2 l3 l4 c0 rhs c2 c4 := by
    by_cases h1 : (i : Int) < (l3.length : Int)
    ·refine ⟨rd l3 i, fun k => ?_⟩
     simp only [l4_Raw_Make.j1, if_true]
     rw [if_pos h1, if_pos (by omega)]
    ·refine ⟨i, fun k => ?_⟩
     simp only [l4_Raw_Make.j1, if_true]
     rw [if_neg h1]
   have hw : wrap64 ((i : Int) + 1) = ((i + 1 : Nat) : Int) := by rw [wrap_in (by omega)]; rfl
   obtain ⟨y, hy, hj⟩ : ∃ y : Int, kidOk s y ∧ ∀ k, l4_Raw_Make.j2 (k + 1) s n i v a0 a1 a2 l3 l4 c0 rhs c2 c4 = l4_Raw_Make.l0 k s n ((i + 1 : Nat) : Int) a0 a1 a2 l3 l4 c0 (rhs ++ [y]) c2 c4 := by
    by_cases h1 : wrap64 (Int.tdiv v 20) % 2 = 0
    ·obtain ⟨t, ht⟩ := as_fin 11 rfl (rem_ge (wrap64 (Int.tdiv v 40)) 11 (by omega)) (rem_lt (wrap64 (Int.tdiv v 40)) 11 (by omega))
     refine ⟨_, .inr (kid_table t), fun k => ?_⟩
     simp only [l4_Raw_Make.j2]
     rw [within_rem v s (by omega) (by omega), Option.bind_some, within_rem _ 2 (by omega) (by omega), Option.bind_some, if_pos h1, Option.bind_some, within_rem _ 11 (by omega) (by omega), Option.bind_some, ht, if_pos (by omega), if_pos (by have := t.isLt; simp; omega), if_pos (by omega), hw]
    ·refine ⟨v % s, .inl ⟨rem_ge v s (by omega), rem_lt v s (by omega)⟩, fun k => ?_⟩
     simp only [l4_Raw_Make.j2]
     rw [within_rem v s (by omega) (by omega), Option.bind_some, within_rem _ 2 (by omega) (by omega), Option.bind_some, if_neg h1, if_pos (by omega), hw]
   obtain ⟨rhs', ps', q1, q2, q3, q4, q5⟩ := ih (i + 1) (rhs ++ [y]) (by omega) (by rw [List.length_append, hl]; rfl) (fun z hz => by
    rcases List.mem_append.1 hz with hz | hz
    ·exact hk z hz
    ·rw [List.mem_singleton.1 hz]; exact hy)
   refine ⟨rhs', ps', q1, q2, q3, q4, fun k hk => ?_⟩
   obtain ⟨k, rfl⟩ : ∃ j, k = j + 3 := ⟨k - 3, by omega⟩
   rw [show k + 3 = ((k + 1) + 1) + 1 by omega, hb, hv, hj]
   exact q5 k (by omega)
def makeN (o : Nat) : Int := rd ([1, 3, 2, 2, 2, 2, 3, 1, 1, 2, 1, 1, 2, 2, 2, 2] : List Int) (o : Int)
theorem makeN_ok : ∀ o : Fin 16, (1 ≤ makeN o.val ∧ makeN o.val ≤ 3) ∧ (askedP ((o.val : Nat) : Int)).1 ≤ makeN o.val ∧ makeN o.val ≤ (askedP ((o.val : Nat) : Int)).2 := by decide +kernel
structure Made (s : Int) (r : Rule') : Prop where
 lhs : 0 ≤ r.f0 ∧ r.f0 < s
 len : 1 ≤ r.f1.length ∧ r.f1.length ≤ 3
 kids : ∀ y ∈ r.f1, kidOk s y
 right : rightR r = true
theorem make_some (x : Raw') (s : Int) (hs : 1 ≤ s ∧ s ≤ 20) (hx : okRaw x) (h3 : x.f3.length ≤ 20) (h4 : x.f4.length ≤ 20) :
  ∃ r : Rule', Made s r ∧ ∀ k, 40 ≤ k → l4_Raw_Make.f k x.f0 x.f1 x.f2 x.f3 x.f4 s = some (r.f0, r.f1, r.f2.f0, r.f2.f1, r.f3) := by
 obtain ⟨_, hw1, _, hw3, _⟩ := hx
 obtain ⟨o, ho⟩ := as_fin 16 rfl (rem_ge x.f1 16 (by omega)) (rem_lt x.f1 16 (by omega))
 have hn := makeN_ok o
 have hc0 := rem_ge x.f2 101 (by omega)
 have hc1 := rem_lt x.f2 101 (by omega)
 have hl0 := rem_ge x.f0 s (by omega)
 have hl1 := rem_lt x.f0 s (by omega)
 obtain ⟨rhs, ps, p1, p2, p3, p4, p5⟩ := make_kids s (makeN o.val) x.f0 x.f1 x.f2 x.f3 x.f4 (x.f0 % s) ((o.val : Nat) : Int) (x.f2 % 101) hs hn.1 h3 hw3 h4 hw1 3 0 [] rfl rfl (by simp)
 refine ⟨⟨x.f0 % s, rhs, ⟨((o.val : Nat) : Int), ps⟩, x.f2 % 101⟩, ⟨⟨hl0, hl1⟩, p1, p2, ?_⟩, fun k hk => ?_⟩
 ·show rightP (x.f0 % s) rhs ((o.val : Nat) : Int) ps (x.f2 % 101) = true
  unfold rightP symbolB withinB
  simp only [Bool.and_eq_true, decide_eq_true_eq, List.all_eq_true]
  refine ⟨⟨hl0, by omega⟩, ⟨by omega, by omega⟩, fun y hy => ?_, ⟨hc0, by omega⟩, ⟨by omega, by omega⟩, fun p hp => ?_⟩
  ·unfold itemB
   rcases p2 y hy with h | h
   ·rw [decide_eq_true (by omega), decide_eq_true (by omega)]; rfl
   ·rw [decide_eq_true (by omega), decide_eq_true (by omega)]; rfl
  ·have h := p4 p hp
   unfold placeB
   rw [decide_eq_true h.1, decide_eq_true h.2]; rfl
 ·unfold l4_Raw_Make.f
  rw [within_rem x.f0 s (by omega) (by omega), Option.bind_some, within_rem x.f2 101 (by omega) (by omega), Option.bind_some, within_rem x.f1 16 (by omega) (by omega), Option.bind_some, Option.bind_some, ho, if_pos (by omega), if_pos (by have := o.isLt; simp; omega)]
  exact p5 k (by omega)
end
structure Told (s : Int) (out : List Rule') : Prop where
 made : ∀ r ∈ out, Made s r
 check : checkP out = true
theorem rule_eta (r : Rule') : (⟨r.f0, r.f1, (⟨r.f2.f0, r.f2.f1⟩ : S39), r.f3⟩ : Rule') = r := rfl
theorem rules_loop (l : List Raw') (s : Int) (hs : 1 ≤ s ∧ s ≤ 20) (hl : l.length ≤ 80) (hok : ∀ x ∈ l, okRaw x) (hf : ∀ x ∈ l, x.f3.length ≤ 20 ∧ x.f4.length ≤ 20) : ∀ (d i : Nat) (out : List Rule'), i + d = l.length → out.length ≤ i → Told s out →
  ∃ res, Told s res ∧ ∀ k, 2 * d + 45 < k → l4_Rules.l0 k l s out i = some res := by
 intro d
 induction d with
 | zero =>
  intro i out hi ho ht
  refine ⟨out, ht, fun k hk => ?_⟩
  obtain ⟨k, rfl⟩ : ∃ j, k = j + 2 := ⟨k - 2, by omega⟩
  rw [show k + 2 = (k + 1) + 1 by omega]
  simp only [l4_Rules.l0]
  rw [if_neg (by omega)]
  simp only [l4_Rules.j1, Bool.false_eq_true, if_false]
 | succ d ih =>
  intro i out hi ho ht
  have hlt : i < l.length := by omega
  by_cases h20 : (i : Int) < 20
  ·obtain ⟨r, hr, hm⟩ := make_some l[i] s hs (hok _ (List.getElem_mem hlt)) (hf _ (List.getElem_mem hlt)).1 (hf _ (List.getElem_mem hlt)).2
   have hw : wrap64 ((i : Int) + 1) = ((i + 1 : Nat) : Int) := by rw [wrap_in (by omega)]; rfl
   have hmade : ∀ q ∈ out ++ [r], Made s q := by
    intro q hq
    rcases List.mem_append.1 hq with hq | hq
    ·exact ht.made q hq
    ·rw [List.mem_singleton.1 hq]; exact hr
   have hstep : ∀ k, 45 < k → l4_Rules.l0 (k + 2) l s out i = if checkP (out ++ [r]) = true then l4_Rules.l0 k l s (out ++ [r]) ((i + 1 : Nat) : Int) else l4_Rules.l0 k l s out ((i + 1 : Nat) : Int) := by
    intro k hk
    rw [show k + 2 = (k + 1) + 1 by omega]
    simp only [l4_Rules.l0]
    rw [if_pos (by omega), decide_eq_true h20]
    simp only [l4_Rules.j1, if_true, Option.bind_some, List.nil_append, List.length_nil, Nat.zero_add]
    rw [if_pos (by omega), if_pos (by omega), if_pos (by omega), rdR_getElem l i hlt, hm k (by omega), Option.bind_some]
    simp only [rule_eta]
    rw [if_pos (by omega), hw]
    rfl
   cases hc : checkP (out ++ [r]) with
   | true =>
    obtain ⟨res, h1, h2⟩ := ih (i + 1) (out ++ [r]) (by omega) (by rw [List.length_append]; simp; omega) ⟨hmade, hc⟩
    refine ⟨res, h1, fun k hk => ?_⟩
    obtain ⟨k, rfl⟩ : ∃ j, k = j + 2 := ⟨k - 2, by omega⟩
    rw [hstep k (by omega), hc, if_pos rfl]
    exact h2 k (by omega)
   | false =>
    obtain ⟨res, h1, h2⟩ := ih (i + 1) out (by omega) (by omega) ht
    refine ⟨res, h1, fun k hk => ?_⟩
    obtain ⟨k, rfl⟩ : ∃ j, k = j + 2 := ⟨k - 2, by omega⟩
    rw [hstep k (by omega), hc, if_neg (by simp)]
    exact h2 k (by omega)
  ·refine ⟨out, ht, fun k hk => ?_⟩
   obtain ⟨k, rfl⟩ : ∃ j, k = j + 2 := ⟨k - 2, by omega⟩
   rw [show k + 2 = (k + 1) + 1 by omega]
   simp only [l4_Rules.l0]
   rw [if_pos (by omega), decide_eq_false h20]
   simp only [l4_Rules.j1, Bool.false_eq_true, if_false]
theorem check_nilR : checkP [] = true := by
 rw [checkP_iff]
 exact ⟨by simp, rfl, fun x hx => no_round _ id (fun r hr => by cases hr) x hx⟩
theorem rules_some (l : List Raw') (s : Int) (hs : 1 ≤ s ∧ s ≤ 20) (hl : l.length ≤ 80) (hok : ∀ x ∈ l, okRaw x) (hf : fewB l = true) : ∃ res, Told s res ∧ ∀ k, 300 ≤ k → l4_Rules.f k l s = some res := by
 obtain ⟨res, h1, h2⟩ := rules_loop l s hs hl hok (fun x hx => of_decide_eq_true (List.all_eq_true.1 hf x hx)) l.length 0 [] (by omega) (Nat.le_refl _) ⟨fun r hr => (by cases hr), check_nilR⟩
 exact ⟨res, h1, fun k hk => h2 k (by omega)⟩
end Go.Proofs.Ytjfbfhoipgldgaa.P
end
section
namespace Go.Proofs.Ytjfbfhoipgldgaa.Pure
open Go.RowKit Go.Proofs.Ytjfbfhoipgldgaa.P Go.Proofs.YtjfbfhoipgldgaaW.PrintWords Go.Proofs.YtjfbfhoipgldgaaW.PrintLast
theorem check_less (a b : List Rule') (hl : b.length ≤ a.length) (hs : ∀ r ∈ b, r ∈ a) (h : checkP a = true) : checkP b = true := by
 rw [checkP_iff] at h ⊢
 obtain ⟨h1, h2, h3⟩ := h
 have hrow : ∀ x, inSym x → ∀ y ∈ rowsNext b x, y ∈ rowsNext a x := by
  intro x hx y hy
  obtain ⟨q1, r, q2, q3⟩ := (mem_rowsNext b x hx y).1 hy
  exact (mem_rowsNext a x hx y).2 ⟨q1, r, hs r q2, q3⟩
 refine ⟨by omega, List.all_eq_true.2 fun r hr => List.all_eq_true.1 h2 r (hs r hr), fun x hx hR => h3 x hx ?_⟩
 exact P.Reach.mono (rowsNext_sym b) (rowsNext_sym b x hx) (hrow x hx) hrow hR
open Classical in
theorem in_row (A B : List Sp) (hA : A.Pairwise ltS) (hB : B.Pairwise ltS) (hs : ∀ x ∈ A, x ∈ B) : B.filter (fun x => decide (x ∈ A)) = A := by
 refine rising_unique _ _ (hB.filter _) hA fun x => ?_
 rw [List.mem_filter, decide_eq_true_eq]
 exact ⟨fun h => h.2, fun h => ⟨hs x h, h⟩⟩
open Classical in
noncomputable def met (A B : List Sp) (i : Nat) : Nat := ((B.take i).filter fun x => decide (x ∈ A)).length
open Classical in
theorem met_end (A B : List Sp) (hA : A.Pairwise ltS) (hB : B.Pairwise ltS) (hs : ∀ x ∈ A, x ∈ B) : met A B B.length = A.length := by
 unfold met
 rw [List.take_length, in_row A B hA hB hs]
open Classical in
theorem met_step (A B : List Sp) (hA : A.Pairwise ltS) (hB : B.Pairwise ltS) (hs : ∀ x ∈ A, x ∈ B) (i : Nat) (hi : i < B.length) :
  (B[i] ∈ A → ∃ h : met A B i < A.length, A[met A B i] = B[i] ∧ met A B (i + 1) = met A B i + 1) ∧ (B[i] ∉ A → met A B (i + 1) = met A B i) := by
 have e := in_row A B hA hB hs
 have hsn : met A B (i + 1) = met A B i + ([B[i]].filter fun x => decide (x ∈ A)).length := by
  unfold met
  rw [List.take_succ_eq_append_getElem hi, List.filter_append, List.length_append]
 constructor
 ·intro hx
  have h1 : A = (B.take i).filter (fun x => decide (x ∈ A)) ++ B[i] :: (B.drop (i + 1)).filter (fun x => decide (x ∈ A)) := by
   conv => lhs; rw [← e]
   conv => lhs; rw [← List.take_append_drop i B, List.filter_append, List.drop_eq_getElem_cons hi]
   rw [List.filter_cons_of_pos (by simpa using hx)]
  have h2 : A[met A B i]? = some B[i] := by
   have h3 : ((B.take i).filter (fun x => decide (x ∈ A)) ++ B[i] :: (B.drop (i + 1)).filter (fun x => decide (x ∈ A)))[met A B i]? = some B[i] := by
    unfold met
    rw [List.getElem?_append_right (Nat.le_refl _)]
    simp
   rw [← h1] at h3
   exact h3
  obtain ⟨h3, h4⟩ := List.getElem?_eq_some_iff.1 h2
  refine ⟨h3, h4, ?_⟩
  rw [hsn, List.filter_cons_of_pos (by simpa using hx)]
  rfl
 ·intro hx
  rw [hsn, List.filter_cons_of_neg (by simpa using hx)]
  rfl
theorem more_loop (x7 x8 : List Rule') (x9 : List Tok') (x10 : Int) (A B : List Sp) (hA : A.Pairwise ltS) (hB : B.Pairwise ltS) (hs : ∀ x ∈ A, x ∈ B) (hb : B.length ≤ 1000000) (m : Nat) :
  ∀ d i, i + d = B.length → l7_ChartMore.l0 (m + d) x7 x8 x9 x10 A B (met A B i : Int) (i : Int) = l7_ChartMore.l0 m x7 x8 x9 x10 A B (A.length : Int) (B.length : Int)
 | 0, i, h => by
  obtain rfl : i = B.length := by omega
  rw [met_end A B hA hB hs]
  rfl
 | d + 1, i, h => by
  have ih := more_loop x7 x8 x9 x10 A B hA hB hs hb m d (i + 1) (by omega)
  have hi : i < B.length := by omega
  have hw : wrap64 ((i : Int) + 1) = ((i + 1 : Nat) : Int) := by unfold wrap64; omega
  have hx : rd_T35 B (i : Int) = B[i] := by
   show B.getD (i : Int).toNat _ = _
   rw [Int.toNat_natCast, List.getD_eq_getElem?_getD, List.getElem?_eq_getElem hi]
   rfl
  obtain ⟨h1, h2⟩ := met_step A B hA hB hs i hi
  have hmb : met A B i ≤ B.length := by
   unfold met
   refine Nat.le_trans (List.length_filter_le _ _) ?_
   rw [List.length_take]
   omega
  rw [show m + (d + 1) = (m + d) + 1 by omega, l7_ChartMore.l0, if_pos (by omega)]
  by_cases hin : B[i] ∈ A
  ·obtain ⟨hlt, e1, e2⟩ := h1 hin
   have hy : rd_T35 A ((met A B i : Nat) : Int) = B[i] := by
    show A.getD ((met A B i : Nat) : Int).toNat _ = _
    rw [Int.toNat_natCast, List.getD_eq_getElem?_getD, List.getElem?_eq_getElem hlt, ← e1]
    rfl
   have hwm : wrap64 (((met A B i : Nat) : Int) + 1) = ((met A B (i + 1) : Nat) : Int) := by rw [e2]; unfold wrap64; omega
   rw [if_pos (by omega), if_pos (Int.natCast_nonneg _), if_pos (Int.natCast_nonneg _), hx, hy, if_pos (by simp), hw, hwm]
   exact ih
  ·have e2 := h2 hin
   by_cases hlt : met A B i < A.length
   ·have hy : rd_T35 A ((met A B i : Nat) : Int) = A[met A B i] := by
     show A.getD ((met A B i : Nat) : Int).toNat _ = _
     rw [Int.toNat_natCast, List.getD_eq_getElem?_getD, List.getElem?_eq_getElem hlt]
     rfl
    have hne : A[met A B i] ≠ B[i] := fun e => hin (by rw [← e]; exact List.getElem_mem hlt)
    rw [if_pos (by omega), if_pos (Int.natCast_nonneg _), if_pos (Int.natCast_nonneg _), hx, hy, if_neg (by
     intro he
     simp only [Bool.and_eq_true, beq_iff_eq] at he
     obtain ⟨a1, a2, a3⟩ := he
     refine hne ?_
     generalize A[met A B i] = u at a1 a2 a3 ⊢
     generalize B[i] = t at a1 a2 a3 ⊢
     obtain ⟨u0, u1, u2⟩ := u
     obtain ⟨t0, t1, t2⟩ := t
     simp only at a1 a2 a3
     subst a1 a2 a3
     rfl), hw, ← e2]
    exact ih
   ·rw [if_neg (by omega), hw, ← e2]
    exact ih
def moreC (ns : List Int) (i : Nat) : Int := rd ([0, 0, 1, 2, 50, 51] : List Int) ((rd ns (i : Int)) % 6)
def moreV (ns : List Int) (i : Nat) : Int := (wrap64 (Int.tdiv (rd ns (i : Int)) 6)) % 20
theorem moreC_rng (ns : List Int) (i : Nat) : -1000000 ≤ moreC ns i ∧ moreC ns i ≤ 1000000 := by
 unfold moreC
 obtain ⟨j, hj⟩ := as_fin 6 rfl (rem_ge (rd ns (i : Int)) 6 (by decide)) (rem_lt (rd ns (i : Int)) 6 (by decide))
 rw [hj]
 exact (by decide : ∀ j : Fin 6, -1000000 ≤ rd ([0, 0, 1, 2, 50, 51] : List Int) ((j.val : Nat) : Int) ∧ rd ([0, 0, 1, 2, 50, 51] : List Int) ((j.val : Nat) : Int) ≤ 1000000) j
theorem row_loop (ns : List Int) (K : Nat) (hK : K ≤ 5) (hKn : K ≤ ns.length) (m : Nat) : ∀ d i, i + d = K → l7_row.l0 (m + 1 + d) ns (genL (moreC ns) (moreV ns) 1 i) (K : Int) (i : Int) = some (genL (moreC ns) (moreV ns) 1 K, (K : Int))
 | 0, i, h => by
  obtain rfl : i = K := by omega
  rw [Nat.add_zero, l7_row.l0, if_neg (by omega)]
 | d + 1, i, h => by
  have ih := row_loop ns K hK hKn m d (i + 1) (by omega)
  have hw : wrap64 ((i : Int) + 1) = ((i + 1 : Nat) : Int) := by unfold wrap64; omega
  have h0 := rem_ge (rd ns (i : Int)) 6 (by decide)
  have h1 := rem_lt (rd ns (i : Int)) 6 (by decide)
  rw [show m + 1 + (d + 1) = (m + 1 + d) + 1 by omega, l7_row.l0, if_pos (by omega), Option.bind_some, if_pos (by omega), if_pos (by omega), within7_rem _ 6 (by decide) (by decide), Option.bind_some, if_pos h0, if_pos (by show _ < (6 : Int); exact h1), within7_rem _ 20 (by decide) (by decide), Option.bind_some, if_pos (by rw [genL_len]; omega)]
  have hrow : genL (moreC ns) (moreV ns) 1 i ++ [(⟨(i : Int), wrap64 ((i : Int) + 1), rd ([0, 0, 1, 2, 50, 51] : List Int) ((rd ns (i : Int)) % 6), (wrap64 (Int.tdiv (rd ns (i : Int)) 6)) % 20, 1⟩ : Tok')] = genL (moreC ns) (moreV ns) 1 (i + 1) := by
   rw [genL_succ, hw]
   rfl
  rw [hrow, hw]
  exact ih
theorem num_more (R : List Rule') (r : Rule') (toks : List Tok') (hT : ∀ x ∈ toks, x.f0 < x.f1) (n : Nat) (s : Int) (p q : Nat) : numP R toks n s p q ≤ numP (R ++ [r]) toks n s p q := by
 unfold numP
 have e : plainR (R ++ [r]) = plainR R ++ [(r.f0, r.f1)] := by unfold plainR; rw [List.map_append]; rfl
 rw [e]
 exact Chart.NF_more _ _ (tok_fwd toks hT) _ _ _ _ _ _
theorem more_end (R : List Rule') (r : Rule') (hch : checkP (R ++ [r]) = true) (ns : List Int) (K : Nat) (hK : K ≤ 5) (hKn : K ≤ ns.length) : ∃ m, ∀ k, m ≤ k →
  ((l7_row.f k ns 5).bind fun bt275 => ((chart_Spans.f R bt275.1 bt275.2).bind fun t279 => ((chart_Spans.f (R ++ [r]) bt275.1 bt275.2).bind fun t282 => (l7_ChartMore.l0 k (R ++ [r]) R bt275.1 bt275.2 t279 t282 0 0)))) = some true ∨ mn (ns.length : Int) 5 ≠ (K : Int) := by
 have hch2 : checkP R = true := check_less (R ++ [r]) R (by simp) (fun x hx => List.mem_append_left _ hx) hch
 have hl : (R ++ [r]).length ≤ 1000000 := by have := ((checkP_iff _).1 hch).1; omega
 have hl2 : R.length ≤ 1000000 := by have := ((checkP_iff _).1 hch2).1; omega
 obtain ⟨toks, htk⟩ : ∃ toks, toks = genL (moreC ns) (moreV ns) 1 K := ⟨_, rfl⟩
 have ht := genL_toks (moreC ns) (moreV ns) 1 K
 rw [← htk] at ht
 have hs : ∀ Q : List Rule', Q.length ≤ 1000000 → chart_Spans.f Q toks (K : Int) = some (spansP Q toks K) := fun Q hQ => by
  unfold chart_Spans.f
  rw [if_pos ⟨⟨by omega, by omega⟩, by rw [Int.toNat_natCast, htk]; exact genL_ok Q _ _ 1 (moreC_rng ns) K K hQ (Nat.le_refl _) (by omega)⟩, Int.toNat_natCast]
 have hsub : ∀ x ∈ spansP R toks K, x ∈ spansP (R ++ [r]) toks K := by
  intro x hx
  obtain ⟨_, s, p, q, rfl, h⟩ := (spansP_mem R toks K ht x).1 hx
  have := num_more R r toks (fun x hx => (ht x hx).2.1) K s p q
  exact (spansP_mem (R ++ [r]) toks K ht _).2 ⟨hch, s, p, q, rfl, by omega⟩
 have hBl : (spansP (R ++ [r]) toks K).length ≤ 1000000 := by
  have h1 := spansP_len (R ++ [r]) toks K
  have h2 : 20 * (K + 1) * (K + 1) ≤ 20 * 6 * 6 := Nat.mul_le_mul (by omega) (by omega)
  omega
 have hc : ∀ Q : List Rule', Q.length ≤ 1000000 → checkP Q = true → chart_Count.f Q toks 0 0 (K : Int) 100000 = some ((min (numP Q toks K 0 0 K) 100000 : Nat) : Int) := fun Q hQ hq => by
  have h := count_gen Q hQ hq (moreC ns) (moreV ns) 1 (moreC_rng ns) K 0 0 K (by omega) (by omega) (by omega) (Nat.le_refl _) 100000 (by decide) (by decide)
  rw [← htk] at h
  exact h
 have hle := num_more R r toks (fun x hx => (ht x hx).2.1) K 0 0 K
 have hfin : l7_ChartMore.l0 (0 + 1 + (spansP (R ++ [r]) toks K).length) (R ++ [r]) R toks (K : Int) (spansP R toks K) (spansP (R ++ [r]) toks K) 0 0 = some true := by
  have h := more_loop (R ++ [r]) R toks (K : Int) (spansP R toks K) (spansP (R ++ [r]) toks K) (spansP_rising _ _ _) (spansP_rising _ _ _) hsub hBl (0 + 1) (spansP (R ++ [r]) toks K).length 0 (by omega)
  have e0 : met (spansP R toks K) (spansP (R ++ [r]) toks K) 0 = 0 := by unfold met; simp
  rw [e0] at h
  refine h.trans ?_
  rw [l7_ChartMore.l0, if_neg (by omega), if_pos rfl, hc R hl2 hch2, Option.bind_some, hc (R ++ [r]) hl hch, Option.bind_some, decide_eq_true (by omega)]
 have hup : ∀ (k : Nat), 0 + 1 + (spansP (R ++ [r]) toks K).length ≤ k → l7_ChartMore.l0 k (R ++ [r]) R toks (K : Int) (spansP R toks K) (spansP (R ++ [r]) toks K) 0 0 = some true := by
  intro k hk
  obtain ⟨d, rfl⟩ : ∃ d, k = 0 + 1 + (spansP (R ++ [r]) toks K).length + d := ⟨k - (0 + 1 + (spansP (R ++ [r]) toks K).length), by omega⟩
  clear hk
  induction d with
  | zero => exact hfin
  | succ d ih => exact (l7_ChartMore.mono_l _).2 _ _ _ _ _ _ _ _ _ ih
 refine ⟨0 + 1 + (spansP (R ++ [r]) toks K).length + 1 + K, fun k hk => ?_⟩
 by_cases hmn : mn (ns.length : Int) 5 = (K : Int)
 ·refine .inl ?_
  have hr : l7_row.f k ns 5 = some (toks, (K : Int)) := by
   unfold l7_row.f
   rw [hmn, show k = (k - (1 + K)) + 1 + K by omega, htk]
   exact row_loop ns K hK hKn (k - (1 + K)) K 0 (by omega)
  rw [hr, Option.bind_some]
  show ((chart_Spans.f R toks (K : Int)).bind fun t279 => ((chart_Spans.f (R ++ [r]) toks (K : Int)).bind fun t282 => (l7_ChartMore.l0 k (R ++ [r]) R toks (K : Int) t279 t282 0 0))) = some true
  rw [hs R hl2, Option.bind_some, hs (R ++ [r]) hl, Option.bind_some]
  exact hup k (by omega)
 ·exact .inr hmn
theorem ChartMore (l0 : List Raw') (l1 : List Int) (a2 : Int) (hl : l0.length ≤ 9223372036854775807) (hok : ∀ x ∈ l0, okRaw x) (_ : l1.length ≤ 9223372036854775807) (_ : ∀ n ∈ l1, wfI n) : ∃ k, l7_ChartMore.f k l0 l1 a2 = some true := by
 by_cases hf : (fewB l0 && decide (l0.length ≤ 80)) = true
 ·have hf2 := hf
  rw [Bool.and_eq_true, decide_eq_true_eq] at hf2
  by_cases h8 : l0.length > 8
  ·refine ⟨l0.length + 1, ?_⟩
   unfold l7_ChartMore.f
   rw [known_true, Option.bind_some, if_pos rfl, few_some l0 hl _ (by omega), Option.bind_some, if_pos hf, l7_ChartMore.j0, if_pos (decide_eq_true (by omega))]
  ·have h0 := rem_ge a2 4 (by decide)
   have h1 := rem_lt a2 4 (by decide)
   have hws : wrap64 (1 + a2 % 4) = 1 + a2 % 4 := by unfold wrap64; omega
   obtain ⟨res, hT, hR⟩ := rules_some l0 (1 + a2 % 4) ⟨by omega, by omega⟩ hf2.2 hok hf2.1
   by_cases he : res = []
   ·refine ⟨max 300 l0.length + 1, ?_⟩
    unfold l7_ChartMore.f
    rw [known_true, Option.bind_some, if_pos rfl, few_some l0 hl _ (by omega), Option.bind_some, if_pos hf, l7_ChartMore.j0, if_neg (by rw [decide_eq_false (by omega)]; decide), within7_rem a2 4 (by decide) (by decide), Option.bind_some, hws, hR _ (by omega), Option.bind_some, if_pos (by rw [he]; rfl)]
   ·obtain ⟨R, r, rfl⟩ : ∃ R r, res = R ++ [r] := ⟨res.dropLast, res.getLast he, (List.dropLast_concat_getLast he).symm⟩
    obtain ⟨K, hK⟩ : ∃ K : Nat, mn (l1.length : Int) 5 = (K : Int) := ⟨(mn (l1.length : Int) 5).toNat, by unfold mn; split <;> omega⟩
    have hKb : K ≤ 5 ∧ K ≤ l1.length := by
     unfold mn at hK
     split at hK <;> omega
    obtain ⟨m, hm⟩ := more_end R r hT.check l1 K hKb.1 hKb.2
    have hlen : (R ++ [r]).length ≤ 60 := ((checkP_iff _).1 hT.check).1
    have hlen2 : (R ++ [r]).length = R.length + 1 := by simp
    have hwl : wrap64 (((R ++ [r]).length : Int) - 1) = (R.length : Int) := by rw [hlen2]; unfold wrap64; omega
    refine ⟨max m (max 300 l0.length) + 1, ?_⟩
    unfold l7_ChartMore.f
    rw [known_true, Option.bind_some, if_pos rfl, few_some l0 hl _ (by omega), Option.bind_some, if_pos hf, l7_ChartMore.j0, if_neg (by rw [decide_eq_false (by omega)]; decide), within7_rem a2 4 (by decide) (by decide), Option.bind_some, hws, hR _ (by omega), Option.bind_some, if_neg (by rw [hlen2]; omega), hwl, if_pos (by omega), if_pos (by rw [hlen2]; omega), Option.bind_some, Int.toNat_natCast, List.take_left]
    exact (hm _ (by omega)).resolve_right (fun h => h hK)
 ·refine ⟨l0.length + 1, ?_⟩
  unfold l7_ChartMore.f
  rw [known_true, Option.bind_some, if_pos rfl, few_some l0 hl _ (by omega), Option.bind_some, if_neg hf, l7_ChartMore.j0, if_pos rfl]
end Go.Proofs.Ytjfbfhoipgldgaa.Pure
end
