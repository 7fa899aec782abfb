/- GramOrder: rules in another order, or twice, are as right; what is reached is the same. Part 2: contracts of the functions that the law reaches, and words for them. -/
import Derived.BigRegion
import Derived.DeepKeys4
import Derived.Deep.Slices
import Derived.ChangeArms
import Derived.ChangeSame
import Derived.Deep.RegionLaw
import Derived.Deep.RegionHeld3
import Derived.Test.YtjomlfdkmdgclaaMOrder1
section
namespace Go.Proofs.Ytjomlfdkmdgclaa.P
open Go.RowKit Go.Proofs.YtjomlfdkmdgclaaW.PrintWords Go.Proofs.YtjomlfdkmdgclaaW.PrintLast Go.Proofs.YtjomlfdkmdgclaaW.PrintMore
attribute [local go_sem] max2_int min2_int max_two min_two max_three min_three max_four min_four   
set_option linter.unusedVariables false
set_option linter.unusedSimpArgs false
mutual
noncomputable def gram_asked.j0 : Nat → Int → Bool → Option (Int × Int)
  | 0, _, _ => none
  | k + 1, x4, x5 => if x5 = true then (some (1, 1)) else (if x4 = 2 then (gram_asked.j1 k x4 (x4 == 2)) else (if x4 = 5 then (gram_asked.j1 k x4 (x4 == 5)) else (if x4 = 9 then (gram_asked.j1 k x4 (x4 == 9)) else (if x4 = 12 then (gram_asked.j1 k x4 (x4 == 12)) else (if x4 = 13 then (gram_asked.j1 k x4 (x4 == 13)) else (if x4 = 14 then (gram_asked.j1 k x4 (x4 == 14)) else (gram_asked.j1 k x4 (x4 == 15))))))))
noncomputable def gram_asked.j1 : Nat → Int → Bool → Option (Int × Int)
  | 0, _, _ => none
  | k + 1, x4, x10 => if x10 = true then (some (2, 2)) else (if x4 = 1 then (gram_asked.j2 k x4 (x4 == 1)) else (gram_asked.j2 k x4 (x4 == 6)))
noncomputable def gram_asked.j2 : Nat → Int → Bool → Option (Int × Int)
  | 0, _, _ => none
  | k + 1, x4, x18 => if x18 = true then (some (3, 3)) else (if x4 = 3 then (gram_asked.j3 k x4 (x4 == 3)) else (gram_asked.j3 k x4 (x4 == 4)))
noncomputable def gram_asked.j3 : Nat → Int → Bool → Option (Int × Int)
  | 0, _, _ => none
  | k + 1, x4, x21 => if x21 = true then (some (2, 3)) else (if x4 = 10 then (some (1, 6)) else (some (1, 0)))
end
noncomputable def gram_asked.f (k : Nat) (a0 : Int) : Option (Int × Int) := if a0 = 0 then (gram_asked.j0 k a0 (a0 == 0)) else (if a0 = 7 then (gram_asked.j0 k a0 (a0 == 7)) else (if a0 = 8 then (gram_asked.j0 k a0 (a0 == 8)) else (gram_asked.j0 k a0 (a0 == 11))))
theorem gram_asked.mono_l : ∀ k, (∀ y0 y1, LeO (gram_asked.j0 k y0 y1) (gram_asked.j0 (k + 1) y0 y1)) ∧ (∀ y0 y1, LeO (gram_asked.j1 k y0 y1) (gram_asked.j1 (k + 1) y0 y1)) ∧ (∀ y0 y1, LeO (gram_asked.j2 k y0 y1) (gram_asked.j2 (k + 1) y0 y1)) ∧ (∀ y0 y1, LeO (gram_asked.j3 k y0 y1) (gram_asked.j3 (k + 1) y0 y1))
  | 0 => ⟨fun _ _ r h => by simp [gram_asked.j0] at h, fun _ _ r h => by simp [gram_asked.j1] at h, fun _ _ r h => by simp [gram_asked.j2] at h, fun _ _ r h => by simp [gram_asked.j3] at h⟩
  | k + 1 => by
    obtain ⟨ih0, ih1, ih2, ih3⟩ := gram_asked.mono_l k
    refine ⟨?_, ?_, ?_, ?_⟩
    · intro y0 y1
      unfold gram_asked.j0
      repeat' first
      | (with_reducible exact ih0 _ _)
      | (with_reducible exact ih1 _ _)
      | (with_reducible exact ih2 _ _)
      | (with_reducible exact ih3 _ _)
      | (with_reducible exact LeO.refl _)
      | (with_reducible exact LeO.none _)
      | (with_reducible refine LeO.ite ?_ ?_)
      | (with_reducible refine LeO.bind ?_ (fun _ => ?_))
      | exact ih0 _ _
      | exact ih1 _ _
      | exact ih2 _ _
      | exact ih3 _ _
      | exact LeO.none _
      | refine LeO.ite ?_ ?_
      | refine LeO.bind ?_ (fun _ => ?_)
    · intro y0 y1
      unfold gram_asked.j1
      repeat' first
      | (with_reducible exact ih0 _ _)
      | (with_reducible exact ih1 _ _)
      | (with_reducible exact ih2 _ _)
      | (with_reducible exact ih3 _ _)
      | (with_reducible exact LeO.refl _)
      | (with_reducible exact LeO.none _)
      | (with_reducible refine LeO.ite ?_ ?_)
      | (with_reducible refine LeO.bind ?_ (fun _ => ?_))
      | exact ih0 _ _
      | exact ih1 _ _
      | exact ih2 _ _
      | exact ih3 _ _
      | exact LeO.none _
      | refine LeO.ite ?_ ?_
      | refine LeO.bind ?_ (fun _ => ?_)
    · intro y0 y1
      unfold gram_asked.j2
      repeat' first
      | (with_reducible exact ih0 _ _)
      | (with_reducible exact ih1 _ _)
      | (with_reducible exact ih2 _ _)
      | (with_reducible exact ih3 _ _)
      | (with_reducible exact LeO.refl _)
      | (with_reducible exact LeO.none _)
      | (with_reducible refine LeO.ite ?_ ?_)
      | (with_reducible refine LeO.bind ?_ (fun _ => ?_))
      | exact ih0 _ _
      | exact ih1 _ _
      | exact ih2 _ _
      | exact ih3 _ _
      | exact LeO.none _
      | refine LeO.ite ?_ ?_
      | refine LeO.bind ?_ (fun _ => ?_)
    · intro y0 y1
      unfold gram_asked.j3
      repeat' first
      | (with_reducible exact ih0 _ _)
      | (with_reducible exact ih1 _ _)
      | (with_reducible exact ih2 _ _)
      | (with_reducible exact ih3 _ _)
      | (with_reducible exact LeO.refl _)
      | (with_reducible exact LeO.none _)
      | (with_reducible refine LeO.ite ?_ ?_)
      | (with_reducible refine LeO.bind ?_ (fun _ => ?_))
      | exact ih0 _ _
      | exact ih1 _ _
      | exact ih2 _ _
      | exact ih3 _ _
      | exact LeO.none _
      | refine LeO.ite ?_ ?_
      | refine LeO.bind ?_ (fun _ => ?_)
theorem gram_asked.mono : ∀ a0 k, LeO (gram_asked.f k a0) (gram_asked.f (k + 1) a0) := by
  intro a0 k
  obtain ⟨ih0, ih1, ih2, ih3⟩ := gram_asked.mono_l k
  unfold gram_asked.f
  repeat' first
      | (with_reducible exact ih0 _ _)
      | (with_reducible exact ih1 _ _)
      | (with_reducible exact ih2 _ _)
      | (with_reducible exact ih3 _ _)
      | (with_reducible exact LeO.refl _)
      | (with_reducible exact LeO.none _)
      | (with_reducible refine LeO.ite ?_ ?_)
      | (with_reducible refine LeO.bind ?_ (fun _ => ?_))
      | exact ih0 _ _
      | exact ih1 _ _
      | exact ih2 _ _
      | exact ih3 _ _
      | exact LeO.none _
      | refine LeO.ite ?_ ?_
      | refine LeO.bind ?_ (fun _ => ?_)
set_option maxHeartbeats 8000000 in
set_option maxRecDepth 100000 in
theorem gram_asked.calls (k : Nat) (a0 : Int) (r1 : Int) (r2 : Int) (w : World) (h : gram_asked.f k a0 = some (r1, r2)) :
    Calls Try.prog 27 #[.int .i64 a0] w fun e w' => e = .returned (.tuple #[.int .i64 r1, .int .i64 r2]) ∧ Drawn0 w w' := by
  have H : (if a0 = 0 then (gram_asked.j0 k a0 (a0 == 0)) else (if a0 = 7 then (gram_asked.j0 k a0 (a0 == 7)) else (if a0 = 8 then (gram_asked.j0 k a0 (a0 == 8)) else (gram_asked.j0 k a0 (a0 == 11))))) = some (r1, r2) := h
  clear h
  have HC2 := Aside0.mk H
  clear H
  go_enter Try.func27, Try.ntmps27
  go_upto_if 5 with (fail)
  go_cut [5] (fun v5 wc => ∃ (kq : Nat) (x5_1 : Bool), v5 = .bool x5_1 ∧ Aside0 (gram_asked.j0 kq a0 x5_1 = some (r1, r2)) ∧ Aside0 (kq ≤ k) ∧ Drawn0 w wc)
  case first =>
    have H := HC2.out
    clear HC2
    by_cases c3 : a0 = 0
    · rw [if_pos c3] at H
      have c3b0 : (a0 == 0) = true := beq_iff_eq.mpr c3
      have c3b1 : (a0 != 0) = false := bne_eq_false_iff_eq.mpr c3
      clear c3
      (first | rw [c3b0] | (simp only [i64_w, i32_w]; rw [c3b0]) | skip)
      have H' := Aside0.mk H
      clear H
      go_wp2
      go_meet
      case rel => exact ⟨_, ((a0 == 0)), (by first | rfl | (simp; done) | (simp [*]; done)), H', ⟨by first | omega | exact Nat.le_refl _⟩, by repeat (first | exact Drawn0.refl _ | apply Drawn0.step)⟩
    · rw [if_neg c3] at H
      have c3b0 : (a0 == 0) = false := beq_eq_false_iff_ne.mpr c3
      have c3b1 : (a0 != 0) = true := bne_iff_ne.mpr c3
      (first | rw [c3b0] | (simp only [i64_w, i32_w]; rw [c3b0]) | skip)
      by_cases c4 : a0 = 7
      · rw [if_pos c4] at H
        have c4b0 : (a0 == 7) = true := beq_iff_eq.mpr c4
        have c4b1 : (a0 != 7) = false := bne_eq_false_iff_eq.mpr c4
        clear c4
        have H' := Aside0.mk H
        clear H
        go_wp2
        go_meet
        case rel => exact ⟨_, ((a0 == 7)), (by first | rfl | (simp; done) | (simp [*]; done)), H', ⟨by first | omega | exact Nat.le_refl _⟩, by repeat (first | exact Drawn0.refl _ | apply Drawn0.step)⟩
      · rw [if_neg c4] at H
        have c4b0 : (a0 == 7) = false := beq_eq_false_iff_ne.mpr c4
        have c4b1 : (a0 != 7) = true := bne_iff_ne.mpr c4
        by_cases c5 : a0 = 8
        · rw [if_pos c5] at H
          have c5b0 : (a0 == 8) = true := beq_iff_eq.mpr c5
          have c5b1 : (a0 != 8) = false := bne_eq_false_iff_eq.mpr c5
          clear c5
          have H' := Aside0.mk H
          clear H
          go_wp2
          go_meet
          case rel => exact ⟨_, ((a0 == 8)), (by first | rfl | (simp; done) | (simp [*]; done)), H', ⟨by first | omega | exact Nat.le_refl _⟩, by repeat (first | exact Drawn0.refl _ | apply Drawn0.step)⟩
        · rw [if_neg c5] at H
          have c5b0 : (a0 == 8) = false := beq_eq_false_iff_ne.mpr c5
          have c5b1 : (a0 != 8) = true := bne_iff_ne.mpr c5
          have H' := Aside0.mk H
          clear H
          go_wp2
          go_meet
          case rel => exact ⟨_, ((a0 == 11)), (by first | rfl | (simp; done) | (simp [*]; done)), H', ⟨by first | omega | exact Nat.le_refl _⟩, by repeat (first | exact Drawn0.refl _ | apply Drawn0.step)⟩
  case rest =>
    clear HC2
    try clear c2
    try clear p2
    try clear c3
    try clear c3b0
    try clear c3b1
    try clear c4
    try clear c4b0
    try clear c4b1
    try clear c5
    try clear c5b0
    try clear c5b1
    obtain ⟨kq, x5_1, rfl, HA, HJ1, ⟨mc1, rfl⟩⟩ := hcut
    cases kq with
    | zero => exact absurd HA.out (by simp [gram_asked.j0])
    | succ kj1 =>
      have H := HA.out
      clear HA
      simp only [gram_asked.j0] at H
      by_cases c6 : x5_1 = true
      · subst c6
        have H1 : (some (1, 1)) = some (r1, r2) := by rw [if_pos rfl] at H; exact H
        clear H
        have H := H1
        clear H1
        simp only [Option.some.injEq, Prod.mk.injEq] at H
        obtain ⟨rfl, rfl⟩ := H
        go_wp2
        go_ret2
        exact ⟨by first | rfl | (simp; done) | (simp [*]; done), by repeat (first | exact Drawn0.refl _ | apply Drawn0.step)⟩
      · replace c6 := Bool.eq_false_iff.mpr c6
        subst c6
        have H1 : (if a0 = 2 then (gram_asked.j1 kj1 a0 (a0 == 2)) else (if a0 = 5 then (gram_asked.j1 kj1 a0 (a0 == 5)) else (if a0 = 9 then (gram_asked.j1 kj1 a0 (a0 == 9)) else (if a0 = 12 then (gram_asked.j1 kj1 a0 (a0 == 12)) else (if a0 = 13 then (gram_asked.j1 kj1 a0 (a0 == 13)) else (if a0 = 14 then (gram_asked.j1 kj1 a0 (a0 == 14)) else (gram_asked.j1 kj1 a0 (a0 == 15)))))))) = some (r1, r2) := by rw [if_neg (show ¬ (false = true) by decide)] at H; exact H
        clear H
        have H := H1
        clear H1
        have HC7 := Aside0.mk H
        clear H
        go_upto_if 10 with (fail)
        go_cut [10] (fun v10 wc => ∃ (kq : Nat) (x10_6 : Bool), v10 = .bool x10_6 ∧ Aside0 (gram_asked.j1 kq a0 x10_6 = some (r1, r2)) ∧ Aside0 (kq ≤ kj1) ∧ Drawn0 w wc)
        case first =>
          have H := HC7.out
          clear HC7
          by_cases c8 : a0 = 2
          · rw [if_pos c8] at H
            have c8b0 : (a0 == 2) = true := beq_iff_eq.mpr c8
            have c8b1 : (a0 != 2) = false := bne_eq_false_iff_eq.mpr c8
            clear c8
            (first | rw [c8b0] | (simp only [i64_w, i32_w]; rw [c8b0]) | skip)
            have H' := Aside0.mk H
            clear H
            go_wp2
            go_meet
            case rel => exact ⟨_, ((a0 == 2)), (by first | rfl | (simp; done) | (simp [*]; done)), H', ⟨by have := HJ1.out; first | omega | exact Nat.le_refl _⟩, by repeat (first | exact Drawn0.refl _ | apply Drawn0.step)⟩
          · rw [if_neg c8] at H
            have c8b0 : (a0 == 2) = false := beq_eq_false_iff_ne.mpr c8
            have c8b1 : (a0 != 2) = true := bne_iff_ne.mpr c8
            (first | rw [c8b0] | (simp only [i64_w, i32_w]; rw [c8b0]) | skip)
            by_cases c9 : a0 = 5
            · rw [if_pos c9] at H
              have c9b0 : (a0 == 5) = true := beq_iff_eq.mpr c9
              have c9b1 : (a0 != 5) = false := bne_eq_false_iff_eq.mpr c9
              clear c9
              have H' := Aside0.mk H
              clear H
              go_wp2
              go_meet
              case rel => exact ⟨_, ((a0 == 5)), (by first | rfl | (simp; done) | (simp [*]; done)), H', ⟨by have := HJ1.out; first | omega | exact Nat.le_refl _⟩, by repeat (first | exact Drawn0.refl _ | apply Drawn0.step)⟩
            · rw [if_neg c9] at H
              have c9b0 : (a0 == 5) = false := beq_eq_false_iff_ne.mpr c9
              have c9b1 : (a0 != 5) = true := bne_iff_ne.mpr c9
              by_cases c10 : a0 = 9
              · rw [if_pos c10] at H
                have c10b0 : (a0 == 9) = true := beq_iff_eq.mpr c10
                have c10b1 : (a0 != 9) = false := bne_eq_false_iff_eq.mpr c10
                clear c10
                have H' := Aside0.mk H
                clear H
                go_wp2
                go_meet
                case rel => exact ⟨_, ((a0 == 9)), (by first | rfl | (simp; done) | (simp [*]; done)), H', ⟨by have := HJ1.out; first | omega | exact Nat.le_refl _⟩, by repeat (first | exact Drawn0.refl _ | apply Drawn0.step)⟩
              · rw [if_neg c10] at H
                have c10b0 : (a0 == 9) = false := beq_eq_false_iff_ne.mpr c10
                have c10b1 : (a0 != 9) = true := bne_iff_ne.mpr c10
                by_cases c11 : a0 = 12
                · rw [if_pos c11] at H
                  have c11b0 : (a0 == 12) = true := beq_iff_eq.mpr c11
                  have c11b1 : (a0 != 12) = false := bne_eq_false_iff_eq.mpr c11
                  clear c11
                  have H' := Aside0.mk H
                  clear H
                  go_wp2
                  go_meet
                  case rel => exact ⟨_, ((a0 == 12)), (by first | rfl | (simp; done) | (simp [*]; done)), H', ⟨by have := HJ1.out; first | omega | exact Nat.le_refl _⟩, by repeat (first | exact Drawn0.refl _ | apply Drawn0.step)⟩
                · rw [if_neg c11] at H
                  have c11b0 : (a0 == 12) = false := beq_eq_false_iff_ne.mpr c11
                  have c11b1 : (a0 != 12) = true := bne_iff_ne.mpr c11
                  by_cases c12 : a0 = 13
                  · rw [if_pos c12] at H
                    have c12b0 : (a0 == 13) = true := beq_iff_eq.mpr c12
                    have c12b1 : (a0 != 13) = false := bne_eq_false_iff_eq.mpr c12
                    clear c12
                    have H' := Aside0.mk H
                    clear H
                    go_wp2
                    go_meet
                    case rel => exact ⟨_, ((a0 == 13)), (by first | rfl | (simp; done) | (simp [*]; done)), H', ⟨by have := HJ1.out; first | omega | exact Nat.le_refl _⟩, by repeat (first | exact Drawn0.refl _ | apply Drawn0.step)⟩
                  · rw [if_neg c12] at H
                    have c12b0 : (a0 == 13) = false := beq_eq_false_iff_ne.mpr c12
                    have c12b1 : (a0 != 13) = true := bne_iff_ne.mpr c12
                    by_cases c13 : a0 = 14
                    · rw [if_pos c13] at H
                      have c13b0 : (a0 == 14) = true := beq_iff_eq.mpr c13
                      have c13b1 : (a0 != 14) = false := bne_eq_false_iff_eq.mpr c13
                      clear c13
                      have H' := Aside0.mk H
                      clear H
                      go_wp2
                      go_meet
                      case rel => exact ⟨_, ((a0 == 14)), (by first | rfl | (simp; done) | (simp [*]; done)), H', ⟨by have := HJ1.out; first | omega | exact Nat.le_refl _⟩, by repeat (first | exact Drawn0.refl _ | apply Drawn0.step)⟩
                    · rw [if_neg c13] at H
                      have c13b0 : (a0 == 14) = false := beq_eq_false_iff_ne.mpr c13
                      have c13b1 : (a0 != 14) = true := bne_iff_ne.mpr c13
                      have H' := Aside0.mk H
                      clear H
                      go_wp2
                      go_meet
                      case rel => exact ⟨_, ((a0 == 15)), (by first | rfl | (simp; done) | (simp [*]; done)), H', ⟨by have := HJ1.out; first | omega | exact Nat.le_refl _⟩, by repeat (first | exact Drawn0.refl _ | apply Drawn0.step)⟩
        case rest =>
          clear HC7
          try clear c1
          try clear c2
          try clear p2
          try clear c3
          try clear c3b0
          try clear c3b1
          try clear c4
          try clear c4b0
          try clear c4b1
          try clear c5
          try clear c5b0
          try clear c5b1
          try clear c6
          try clear c8
          try clear c8b0
          try clear c8b1
          try clear c9
          try clear c9b0
          try clear c9b1
          try clear c10
          try clear c10b0
          try clear c10b1
          try clear c11
          try clear c11b0
          try clear c11b1
          try clear c12
          try clear c12b0
          try clear c12b1
          try clear c13
          try clear c13b0
          try clear c13b1
          try clear p2
          obtain ⟨kq, x10_6, rfl, HA, HJ6, ⟨mc6, rfl⟩⟩ := hcut
          cases kq with
          | zero => exact absurd HA.out (by simp [gram_asked.j1])
          | succ kj6 =>
            have H := HA.out
            clear HA
            simp only [gram_asked.j1] at H
            by_cases c14 : x10_6 = true
            · subst c14
              have H1 : (some (2, 2)) = some (r1, r2) := by rw [if_pos rfl] at H; exact H
              clear H
              have H := H1
              clear H1
              simp only [Option.some.injEq, Prod.mk.injEq] at H
              obtain ⟨rfl, rfl⟩ := H
              go_wp2
              go_ret2
              exact ⟨by first | rfl | (simp; done) | (simp [*]; done), by repeat (first | exact Drawn0.refl _ | apply Drawn0.step)⟩
            · replace c14 := Bool.eq_false_iff.mpr c14
              subst c14
              have H1 : (if a0 = 1 then (gram_asked.j2 kj6 a0 (a0 == 1)) else (gram_asked.j2 kj6 a0 (a0 == 6))) = some (r1, r2) := by rw [if_neg (show ¬ (false = true) by decide)] at H; exact H
              clear H
              have H := H1
              clear H1
              have HC15 := Aside0.mk H
              clear H
              go_upto_if 18 with (fail)
              go_cut [18] (fun v18 wc => ∃ (kq : Nat) (x18_14 : Bool), v18 = .bool x18_14 ∧ Aside0 (gram_asked.j2 kq a0 x18_14 = some (r1, r2)) ∧ Aside0 (kq ≤ kj6) ∧ Drawn0 w wc)
              case first =>
                have H := HC15.out
                clear HC15
                by_cases c16 : a0 = 1
                · rw [if_pos c16] at H
                  have c16b0 : (a0 == 1) = true := beq_iff_eq.mpr c16
                  have c16b1 : (a0 != 1) = false := bne_eq_false_iff_eq.mpr c16
                  clear c16
                  (first | rw [c16b0] | (simp only [i64_w, i32_w]; rw [c16b0]) | skip)
                  have H' := Aside0.mk H
                  clear H
                  go_wp2
                  go_meet
                  case rel => exact ⟨_, ((a0 == 1)), (by first | rfl | (simp; done) | (simp [*]; done)), H', ⟨by have := HJ1.out; have := HJ6.out; first | omega | exact Nat.le_refl _⟩, by repeat (first | exact Drawn0.refl _ | apply Drawn0.step)⟩
                · rw [if_neg c16] at H
                  have c16b0 : (a0 == 1) = false := beq_eq_false_iff_ne.mpr c16
                  have c16b1 : (a0 != 1) = true := bne_iff_ne.mpr c16
                  (first | rw [c16b0] | (simp only [i64_w, i32_w]; rw [c16b0]) | skip)
                  have H' := Aside0.mk H
                  clear H
                  go_wp2
                  go_meet
                  case rel => exact ⟨_, ((a0 == 6)), (by first | rfl | (simp; done) | (simp [*]; done)), H', ⟨by have := HJ1.out; have := HJ6.out; first | omega | exact Nat.le_refl _⟩, by repeat (first | exact Drawn0.refl _ | apply Drawn0.step)⟩
              case rest =>
                clear HC15
                try clear c1
                try clear c2
                try clear p2
                try clear c3
                try clear c3b0
                try clear c3b1
                try clear c4
                try clear c4b0
                try clear c4b1
                try clear c5
                try clear c5b0
                try clear c5b1
                try clear c6
                try clear c8
                try clear c8b0
                try clear c8b1
                try clear c9
                try clear c9b0
                try clear c9b1
                try clear c10
                try clear c10b0
                try clear c10b1
                try clear c11
                try clear c11b0
                try clear c11b1
                try clear c12
                try clear c12b0
                try clear c12b1
                try clear c13
                try clear c13b0
                try clear c13b1
                try clear c14
                try clear c16
                try clear c16b0
                try clear c16b1
                try clear p2
                obtain ⟨kq, x18_14, rfl, HA, HJ14, ⟨mc14, rfl⟩⟩ := hcut
                cases kq with
                | zero => exact absurd HA.out (by simp [gram_asked.j2])
                | succ kj14 =>
                  have H := HA.out
                  clear HA
                  simp only [gram_asked.j2] at H
                  by_cases c17 : x18_14 = true
                  · subst c17
                    have H1 : (some (3, 3)) = some (r1, r2) := by rw [if_pos rfl] at H; exact H
                    clear H
                    have H := H1
                    clear H1
                    simp only [Option.some.injEq, Prod.mk.injEq] at H
                    obtain ⟨rfl, rfl⟩ := H
                    go_wp2
                    go_ret2
                    exact ⟨by first | rfl | (simp; done) | (simp [*]; done), by repeat (first | exact Drawn0.refl _ | apply Drawn0.step)⟩
                  · replace c17 := Bool.eq_false_iff.mpr c17
                    subst c17
                    have H1 : (if a0 = 3 then (gram_asked.j3 kj14 a0 (a0 == 3)) else (gram_asked.j3 kj14 a0 (a0 == 4))) = some (r1, r2) := by rw [if_neg (show ¬ (false = true) by decide)] at H; exact H
                    clear H
                    have H := H1
                    clear H1
                    have HC18 := Aside0.mk H
                    clear H
                    go_upto_if 21 with (fail)
                    go_cut [21] (fun v21 wc => ∃ (kq : Nat) (x21_17 : Bool), v21 = .bool x21_17 ∧ Aside0 (gram_asked.j3 kq a0 x21_17 = some (r1, r2)) ∧ Aside0 (kq ≤ kj14) ∧ Drawn0 w wc)
                    case first =>
                      have H := HC18.out
                      clear HC18
                      by_cases c19 : a0 = 3
                      · rw [if_pos c19] at H
                        have c19b0 : (a0 == 3) = true := beq_iff_eq.mpr c19
                        have c19b1 : (a0 != 3) = false := bne_eq_false_iff_eq.mpr c19
                        clear c19
                        (first | rw [c19b0] | (simp only [i64_w, i32_w]; rw [c19b0]) | skip)
                        have H' := Aside0.mk H
                        clear H
                        go_wp2
                        go_meet
                        case rel => exact ⟨_, ((a0 == 3)), (by first | rfl | (simp; done) | (simp [*]; done)), H', ⟨by have := HJ1.out; have := HJ6.out; have := HJ14.out; first | omega | exact Nat.le_refl _⟩, by repeat (first | exact Drawn0.refl _ | apply Drawn0.step)⟩
                      · rw [if_neg c19] at H
                        have c19b0 : (a0 == 3) = false := beq_eq_false_iff_ne.mpr c19
                        have c19b1 : (a0 != 3) = true := bne_iff_ne.mpr c19
                        (first | rw [c19b0] | (simp only [i64_w, i32_w]; rw [c19b0]) | skip)
                        have H' := Aside0.mk H
                        clear H
                        go_wp2
                        go_meet
                        case rel => exact ⟨_, ((a0 == 4)), (by first | rfl | (simp; done) | (simp [*]; done)), H', ⟨by have := HJ1.out; have := HJ6.out; have := HJ14.out; first | omega | exact Nat.le_refl _⟩, by repeat (first | exact Drawn0.refl _ | apply Drawn0.step)⟩
                    case rest =>
                      clear HC18
                      try clear c1
                      try clear c2
                      try clear p2
                      try clear c3
                      try clear c3b0
                      try clear c3b1
                      try clear c4
                      try clear c4b0
                      try clear c4b1
                      try clear c5
                      try clear c5b0
                      try clear c5b1
                      try clear c6
                      try clear c8
                      try clear c8b0
                      try clear c8b1
                      try clear c9
                      try clear c9b0
                      try clear c9b1
                      try clear c10
                      try clear c10b0
                      try clear c10b1
                      try clear c11
                      try clear c11b0
                      try clear c11b1
                      try clear c12
                      try clear c12b0
                      try clear c12b1
                      try clear c13
                      try clear c13b0
                      try clear c13b1
                      try clear c14
                      try clear c16
                      try clear c16b0
                      try clear c16b1
                      try clear c17
                      try clear c19
                      try clear c19b0
                      try clear c19b1
                      try clear p2
                      obtain ⟨kq, x21_17, rfl, HA, HJ17, ⟨mc17, rfl⟩⟩ := hcut
                      cases kq with
                      | zero => exact absurd HA.out (by simp [gram_asked.j3])
                      | succ kj17 =>
                        have H := HA.out
                        clear HA
                        simp only [gram_asked.j3] at H
                        by_cases c20 : x21_17 = true
                        · subst c20
                          have H1 : (some (2, 3)) = some (r1, r2) := by rw [if_pos rfl] at H; exact H
                          clear H
                          have H := H1
                          clear H1
                          simp only [Option.some.injEq, Prod.mk.injEq] at H
                          obtain ⟨rfl, rfl⟩ := H
                          go_wp2
                          go_ret2
                          exact ⟨by first | rfl | (simp; done) | (simp [*]; done), by repeat (first | exact Drawn0.refl _ | apply Drawn0.step)⟩
                        · replace c20 := Bool.eq_false_iff.mpr c20
                          subst c20
                          have H1 : (if a0 = 10 then (some (1, 6)) else (some (1, 0))) = some (r1, r2) := by rw [if_neg (show ¬ (false = true) by decide)] at H; exact H
                          clear H
                          have H := H1
                          clear H1
                          by_cases c21 : a0 = 10
                          · rw [if_pos c21] at H
                            have c21b0 : (a0 == 10) = true := beq_iff_eq.mpr c21
                            have c21b1 : (a0 != 10) = false := bne_eq_false_iff_eq.mpr c21
                            clear c21
                            simp only [Option.some.injEq, Prod.mk.injEq] at H
                            obtain ⟨rfl, rfl⟩ := H
                            go_wp2
                            go_ret2
                            exact ⟨by first | rfl | (simp; done) | (simp [*]; done), by repeat (first | exact Drawn0.refl _ | apply Drawn0.step)⟩
                          · rw [if_neg c21] at H
                            have c21b0 : (a0 == 10) = false := beq_eq_false_iff_ne.mpr c21
                            have c21b1 : (a0 != 10) = true := bne_iff_ne.mpr c21
                            simp only [Option.some.injEq, Prod.mk.injEq] at H
                            obtain ⟨rfl, rfl⟩ := H
                            go_wp2
                            go_ret2
                            exact ⟨by first | rfl | (simp; done) | (simp [*]; done), by repeat (first | exact Drawn0.refl _ | apply Drawn0.step)⟩
noncomputable def gram_symbol.f (a0 : Int) : Option (Bool) := if a0 ≥ 0 then (some (decide (a0 < 20))) else (some false)
set_option maxHeartbeats 8000000 in
set_option maxRecDepth 100000 in
theorem gram_symbol.calls (a0 : Int) (r : Bool) (w : World) (h : gram_symbol.f a0 = some r) :
    Calls Try.prog 28 #[.int .i64 a0] w fun e w' => e = .returned (.bool r) ∧ Drawn0 w w' := by
  have H : (if a0 ≥ 0 then (some (decide (a0 < 20))) else (some false)) = some r := h
  clear h
  by_cases c2 : a0 ≥ 0
  · rw [if_pos c2] at H
    have c2b0 : decide (0 ≤ a0) = true := decide_eq_true c2
    clear c2
    obtain rfl := Option.some.inj H
    go_enter Try.func28, Try.ntmps28
    go_wp2
    go_ret
    exact ⟨by first | rfl | (simp; done) | (simp [*]; done), by repeat (first | exact Drawn0.refl _ | apply Drawn0.step)⟩
  · rw [if_neg c2] at H
    have c2b0 : decide (0 ≤ a0) = false := decide_eq_false c2
    clear c2
    obtain rfl := Option.some.inj H
    go_enter Try.func28, Try.ntmps28
    go_wp2
    go_ret
    exact ⟨by first | rfl | (simp; done) | (simp [*]; done), by repeat (first | exact Drawn0.refl _ | apply Drawn0.step)⟩
noncomputable def gram_within.f (a0 : Int) (a1 : Int) (a2 : Int) : Option (Bool) := if a0 ≥ a1 then (some (decide (a0 ≤ a2))) else (some false)
set_option maxHeartbeats 8000000 in
set_option maxRecDepth 100000 in
theorem gram_within.calls (a0 : Int) (a1 : Int) (a2 : Int) (r : Bool) (w : World) (h : gram_within.f a0 a1 a2 = some r) :
    Calls Try.prog 29 #[.int .i64 a0, .int .i64 a1, .int .i64 a2] w fun e w' => e = .returned (.bool r) ∧ Drawn0 w w' := by
  have H : (if a0 ≥ a1 then (some (decide (a0 ≤ a2))) else (some false)) = some r := h
  clear h
  by_cases c4 : a0 ≥ a1
  · rw [if_pos c4] at H
    have c4b0 : decide (a1 ≤ a0) = true := decide_eq_true c4
    clear c4
    obtain rfl := Option.some.inj H
    go_enter Try.func29, Try.ntmps29
    go_wp2
    go_ret
    exact ⟨by first | rfl | (simp; done) | (simp [*]; done), by repeat (first | exact Drawn0.refl _ | apply Drawn0.step)⟩
  · rw [if_neg c4] at H
    have c4b0 : decide (a1 ≤ a0) = false := decide_eq_false c4
    clear c4
    obtain rfl := Option.some.inj H
    go_enter Try.func29, Try.ntmps29
    go_wp2
    go_ret
    exact ⟨by first | rfl | (simp; done) | (simp [*]; done), by repeat (first | exact Drawn0.refl _ | apply Drawn0.step)⟩
end Go.Proofs.Ytjomlfdkmdgclaa.P
end
section
namespace Go.Proofs.Ytjomlfdkmdgclaa.P
open Go.RowKit Go.Proofs.YtjomlfdkmdgclaaW.PrintWords Go.Proofs.YtjomlfdkmdgclaaW.PrintLast Go.Proofs.YtjomlfdkmdgclaaW.PrintMore
attribute [local go_sem] max2_int min2_int max_two min_two max_three min_three max_four min_four   
set_option linter.unusedVariables false
set_option linter.unusedSimpArgs false
theorem all_closure (fv : Value) (p : Int → Bool) (w : World) (hf : FnTells Try.prog w IntRel fv p) :
    FnTells Try.prog (w.alloc (.cells #[fv] 44)) IntRel (.func (.func 43) #[] #[.pointer (some ⟨w.heap.size, 0, none⟩)]) (fun x => !p x) := by
  refine ⟨_, _, _, rfl, enters_of Try.func43 (by kernel_rfl) rfl, ?_⟩
  rintro W x v hb rfl
  obtain ⟨g, pre, lb, rfl, eg, hq⟩ := hf
  have hbw : Below w.heap.size w W := (below_alloc (Below.refl _ w) _).trans (hb.mono (by simp))
  have hcall := hq W x _ hbw rfl
  have hcell : W.cell? ⟨w.heap.size, 0, none⟩ = some (.func (.func g) pre lb) := pw_cell_below hb (cell_new0 _ _ _)
  clear hb hq hbw
  cases hp : p x with
  | true =>
    rw [hp] at hcall
    go_enter Try.func43, Try.ntmps43
    go_wp2_with fail
    refine hcall.mono ?_
    rintro e w' ⟨rfl, hb'⟩
    go_wp2
    go_ret
    exact ⟨ret_bool (by rw [hp]; rfl), hb'⟩
  | false =>
    rw [hp] at hcall
    go_enter Try.func43, Try.ntmps43
    go_wp2_with fail
    refine hcall.mono ?_
    rintro e w' ⟨rfl, hb'⟩
    go_wp2
    go_ret
    exact ⟨ret_bool (by rw [hp]; rfl), hb'⟩
theorem any_not_all {α : Type} (p : α → Bool) : ∀ l : List α, l.any (fun x => !p x) = !l.all p
  | [] => rfl
  | x :: l => by simp only [List.any_cons, List.all_cons, any_not_all p l, Bool.not_and]
theorem gram_all_calls (fv : Value) (A0 : Option Addr) (c0 : Nat) (l0 : List Int) (p : Int → Bool) (w : World) (hr0 : Kd.C (Kd.int .i64) w A0 l0.length l0) (hc0 : l0.length ≤ c0)
   (hf : FnTells Try.prog w IntRel fv p) :
   Calls Try.prog 30 #[.slice A0 l0.length c0, fv] w fun e w' => e = .returned (.bool (l0.all p)) ∧ Below w.heap.size w w' := by
  have h1 := all_closure fv p w hf
  have hc := containsFunc_int _ A0 c0 l0 (fun x => !p x) (w.alloc (.cells #[fv] 44)) (Kd.C_below hr0 (below_alloc (Below.refl _ w) _)) hc0 h1
  have ha : l0.any (fun x => !p x) = !l0.all p := any_not_all p l0
  rw [ha] at hc
  obtain ⟨g, pre, lb, rfl, eg, hq⟩ := hf
  clear hr0 hq h1 ha
  cases h : l0.all p with
  | true =>
    rw [h] at hc
    clear h
    go_enter Try.func30, Try.ntmps30
    go_wp2_with fail
    refine hc.mono ?_
    rintro e w' ⟨rfl, hb'⟩
    go_wp2
    go_ret
    exact ⟨rfl, (below_alloc (Below.refl _ w) _).trans (hb'.mono (by simp))⟩
  | false =>
    rw [h] at hc
    clear h
    go_enter Try.func30, Try.ntmps30
    go_wp2_with fail
    refine hc.mono ?_
    rintro e w' ⟨rfl, hb'⟩
    go_wp2
    go_ret
    exact ⟨rfl, (below_alloc (Below.refl _ w) _).trans (hb'.mono (by simp))⟩
def itemB (x : Int) : Bool := decide (x < 20) && decide (-61 ≤ x)
def placeB (n : Nat) (x : Int) : Bool := decide (0 ≤ x) && decide (x < (n : Int))
theorem item_tells (a0 : Int) (A1 : Option Addr) (c1 : Nat) (l1 : List Int) (a2 : Int) (A3 : Option Addr) (c3 : Nat) (l3 : List Int) (a4 : Int) (w : World) :
    FnTells Try.prog w IntRel (.func (.func 31) #[.agg #[.int .i64 a0, .slice A1 l1.length c1, .int .i64 a2, .slice A3 l3.length c3, .int .i64 a4]] #[]) itemB := by
  refine ⟨_, _, _, rfl, enters_of Try.func31 (by kernel_rfl) rfl, ?_⟩
  rintro W x v hb rfl
  clear hb
  by_cases h1 : x < 20
  · have d1 : decide (x < 20) = true := decide_eq_true h1
    by_cases h2 : -61 ≤ x
    · have d2 : decide (-61 ≤ x) = true := decide_eq_true h2
      have hz : itemB x = true := by simp [itemB, h1, h2]
      rw [hz]
      clear hz
      go_enter Try.func31, Try.ntmps31
      go_wp2
      go_ret
      exact ⟨rfl, below_alloc (Below.refl _ _) _⟩
    · have d2 : decide (-61 ≤ x) = false := decide_eq_false h2
      have hz : itemB x = false := by simp [itemB, h1]; omega
      rw [hz]
      clear hz
      go_enter Try.func31, Try.ntmps31
      go_wp2
      go_ret
      exact ⟨rfl, below_alloc (Below.refl _ _) _⟩
  · have d1 : decide (x < 20) = false := decide_eq_false h1
    have hz : itemB x = false := by simp [itemB, h1]
    rw [hz]
    clear hz
    go_enter Try.func31, Try.ntmps31
    go_wp2
    go_ret
    exact ⟨rfl, below_alloc (Below.refl _ _) _⟩
theorem place_tells (a0 : Int) (A1 : Option Addr) (c1 : Nat) (l1 : List Int) (a2 : Int) (A3 : Option Addr) (c3 : Nat) (l3 : List Int) (a4 : Int) (w : World) (hl : l1.length ≤ 9223372036854775807) :
    FnTells Try.prog w IntRel (.func (.func 32) #[.agg #[.int .i64 a0, .slice A1 l1.length c1, .int .i64 a2, .slice A3 l3.length c3, .int .i64 a4]] #[]) (placeB l1.length) := by
  refine ⟨_, _, _, rfl, enters_of Try.func32 (by kernel_rfl) rfl, ?_⟩
  rintro W x v hb rfl
  clear hb
  by_cases h1 : 0 ≤ x
  · have d1 : decide (0 ≤ x) = true := decide_eq_true h1
    by_cases h2 : x < (l1.length : Int)
    · have d2 : decide (x < (l1.length : Int)) = true := decide_eq_true h2
      have hz : placeB l1.length x = true := by simp [placeB, h1, h2]
      rw [hz]
      clear hz
      go_enter Try.func32, Try.ntmps32
      go_wp2
      go_ret
      exact ⟨rfl, below_alloc (Below.refl _ _) _⟩
    · have d2 : decide (x < (l1.length : Int)) = false := decide_eq_false h2
      have hz : placeB l1.length x = false := by simp [placeB, h1]; omega
      rw [hz]
      clear hz
      go_enter Try.func32, Try.ntmps32
      go_wp2
      go_ret
      exact ⟨rfl, below_alloc (Below.refl _ _) _⟩
  · have d1 : decide (0 ≤ x) = false := decide_eq_false h1
    have hz : placeB l1.length x = false := by simp [placeB, h1]
    rw [hz]
    clear hz
    go_enter Try.func32, Try.ntmps32
    go_wp2
    go_ret
    exact ⟨rfl, below_alloc (Below.refl _ _) _⟩
def askedP (op : Int) : Int × Int :=
  if op = 0 ∨ op = 7 ∨ op = 8 ∨ op = 11 then (1, 1) else if op = 2 ∨ op = 5 ∨ op = 9 ∨ op = 12 ∨ op = 13 ∨ op = 14 ∨ op = 15 then (2, 2)
  else if op = 1 ∨ op = 6 then (3, 3) else if op = 3 ∨ op = 4 then (2, 3) else if op = 10 then (1, 6) else (1, 0)
def symbolB (x : Int) : Bool := decide (0 ≤ x) && decide (x < 20)
def withinB (x a b : Int) : Bool := decide (a ≤ x) && decide (x ≤ b)
theorem asked_some (k : Nat) (op : Int) : gram_asked.f (k + 4) op = some (askedP op) := by
  by_cases h : 0 ≤ op ∧ op ≤ 15
  · have : op = 0 ∨ op = 1 ∨ op = 2 ∨ op = 3 ∨ op = 4 ∨ op = 5 ∨ op = 6 ∨ op = 7 ∨ op = 8 ∨ op = 9 ∨ op = 10 ∨ op = 11 ∨ op = 12 ∨ op = 13 ∨ op = 14 ∨ op = 15 := by omega
    rcases this with rfl | rfl | rfl | rfl | rfl | rfl | rfl | rfl | rfl | rfl | rfl | rfl | rfl | rfl | rfl | rfl <;> rfl
  · have n : ∀ k : Int, 0 ≤ k → k ≤ 15 → ¬ op = k := fun k h0 h1 e => h (by omega)
    have b : ∀ k : Int, 0 ≤ k → k ≤ 15 → ¬ (op == k) = true := fun k h0 h1 e => n k h0 h1 (by simpa using e)
    have e : askedP op = (1, 0) := by
      unfold askedP
      rw [if_neg (by omega), if_neg (by omega), if_neg (by omega), if_neg (by omega), if_neg (by omega)]
    rw [e]
    unfold gram_asked.f
    rw [if_neg (n 0 (by omega) (by omega)), if_neg (n 7 (by omega) (by omega)), if_neg (n 8 (by omega) (by omega)), gram_asked.j0]
    rw [if_neg (b 11 (by omega) (by omega)), if_neg (n 2 (by omega) (by omega)), if_neg (n 5 (by omega) (by omega)), if_neg (n 9 (by omega) (by omega)), if_neg (n 12 (by omega) (by omega)), if_neg (n 13 (by omega) (by omega)), if_neg (n 14 (by omega) (by omega)), gram_asked.j1]
    rw [if_neg (b 15 (by omega) (by omega)), if_neg (n 1 (by omega) (by omega)), gram_asked.j2]
    rw [if_neg (b 6 (by omega) (by omega)), if_neg (n 3 (by omega) (by omega)), gram_asked.j3]
    rw [if_neg (b 4 (by omega) (by omega)), if_neg (n 10 (by omega) (by omega))]
theorem symbol_some (x : Int) : gram_symbol.f x = some (symbolB x) := by
  unfold gram_symbol.f symbolB
  by_cases h0 : 0 ≤ x
  · rw [if_pos h0, decide_eq_true h0]; rfl
  · rw [if_neg h0, decide_eq_false h0]; rfl
theorem within_some (x a b : Int) : gram_within.f x a b = some (withinB x a b) := by
  unfold gram_within.f withinB
  by_cases h0 : a ≤ x
  · rw [if_pos h0, decide_eq_true h0]; rfl
  · rw [if_neg h0, decide_eq_false h0]; rfl
def rightP (a0 : Int) (l1 : List Int) (a2 : Int) (l3 : List Int) (a4 : Int) : Bool :=
  symbolB a0 && (withinB l1.length 1 6 && (l1.all itemB && (withinB a4 0 100 && (withinB l3.length (askedP a2).1 (askedP a2).2 && l3.all (placeB l1.length)))))
def gram_Right.f (a0_0 : Int) (l0_1 : List Int) (a0_2 : Int) (l0_3 : List Int) (a0_4 : Int) : Option Bool := some (rightP a0_0 l0_1 a0_2 l0_3 a0_4)
theorem right_walk (a0_0 : Int) (A0_1 : Option Addr) (c0_1 : Nat) (l0_1 : List Int) (a0_2 : Int) (A0_3 : Option Addr) (c0_3 : Nat) (l0_3 : List Int) (a0_4 : Int) (w : World) (hr0_1 : Kd.C (Kd.int .i64) w A0_1 l0_1.length l0_1) (hc0_1 : l0_1.length ≤ c0_1) (hr0_3 : Kd.C (Kd.int .i64) w A0_3 l0_3.length l0_3) (hc0_3 : l0_3.length ≤ c0_3) :
    Calls Try.prog 16 #[.agg #[.int .i64 a0_0, .slice A0_1 l0_1.length c0_1, .int .i64 a0_2, .slice A0_3 l0_3.length c0_3, .int .i64 a0_4]] w fun e w' => e = .returned (.bool (rightP a0_0 l0_1 a0_2 l0_3 a0_4)) ∧ Below w.heap.size w w' := by
  have hl1 : l0_1.length ≤ 9223372036854775807 := hr0_1.2.1
  have hl3 : l0_3.length ≤ 9223372036854775807 := hr0_3.2.1
  have K1 := fun w => item_tells a0_0 A0_1 c0_1 l0_1 a0_2 A0_3 c0_3 l0_3 a0_4 w
  have K2 := fun w => place_tells a0_0 A0_1 c0_1 l0_1 a0_2 A0_3 c0_3 l0_3 a0_4 w hl1
  have HR1 := Aside0.mk hr0_1
  have HR3 := Aside0.mk hr0_3
  have HA := Aside0.mk (asked_some 5 a0_2)
  generalize hq : askedP a0_2 = q at HA
  obtain ⟨q1, q2⟩ := q
  have HP : Aside0 (rightP a0_0 l0_1 a0_2 l0_3 a0_4 = (symbolB a0_0 && (withinB l0_1.length 1 6 && (l0_1.all itemB && (withinB a0_4 0 100 && (withinB l0_3.length q1 q2 && l0_3.all (placeB l0_1.length))))))) := ⟨by unfold rightP; rw [hq]⟩
  clear hq hr0_1 hr0_3
  have HB := Aside0.mk (Below.refl w.heap.size w)
  rw [HP.out]
  clear HP
  have HS := Aside0.mk (symbol_some a0_0)
  have HW1 := Aside0.mk (within_some l0_1.length 1 6)
  have HW2 := Aside0.mk (within_some a0_4 0 100)
  have HW3 := Aside0.mk (within_some l0_3.length q1 q2)
  cases h0 : symbolB a0_0 with
  | false =>
    rw [h0] at HS
    clear h0
    go_enter Try.func16, Try.ntmps16
    go_wp2_with fail
    refine (gram_asked.calls 9 _ q1 q2 _ HA.out).mono ?_
    rintro e w' ⟨rfl, ⟨nd, rfl⟩⟩
    go_wp2_with fail
    refine (gram_symbol.calls _ _ _ HS.out).mono ?_
    rintro e w' ⟨rfl, ⟨nd, rfl⟩⟩
    go_wp2
    go_ret
    exact ⟨rfl, by repeat (first | (with_reducible first | exact HB.out | apply below_alloc | apply pw_below_drewN | apply below_drew1) | exact HB.out)⟩
  | true =>
    rw [h0] at HS
    clear h0
    cases h1 : withinB l0_1.length 1 6 with
    | false =>
      rw [h1] at HW1
      clear h1
      go_enter Try.func16, Try.ntmps16
      go_wp2_with fail
      refine (gram_asked.calls 9 _ q1 q2 _ HA.out).mono ?_
      rintro e w' ⟨rfl, ⟨nd, rfl⟩⟩
      go_wp2_with fail
      refine (gram_symbol.calls _ _ _ HS.out).mono ?_
      rintro e w' ⟨rfl, ⟨nd, rfl⟩⟩
      go_wp2_with fail
      refine (gram_within.calls _ _ _ _ _ HW1.out).mono ?_
      rintro e w' ⟨rfl, ⟨nd, rfl⟩⟩
      go_wp2
      go_ret
      exact ⟨rfl, by repeat (first | (with_reducible first | exact HB.out | apply below_alloc | apply pw_below_drewN | apply below_drew1) | exact HB.out)⟩
    | true =>
      rw [h1] at HW1
      clear h1
      cases h2 : l0_1.all itemB with
      | false =>
        have H2 := Aside0.mk h2
        clear h2
        go_enter Try.func16, Try.ntmps16
        go_wp2_with fail
        refine (gram_asked.calls 9 _ q1 q2 _ HA.out).mono ?_
        rintro e w' ⟨rfl, ⟨nd, rfl⟩⟩
        go_wp2_with fail
        refine (gram_symbol.calls _ _ _ HS.out).mono ?_
        rintro e w' ⟨rfl, ⟨nd, rfl⟩⟩
        go_wp2_with fail
        refine (gram_within.calls _ _ _ _ _ HW1.out).mono ?_
        rintro e w' ⟨rfl, ⟨nd, rfl⟩⟩
        go_wp2_with fail
        refine (gram_all_calls _ _ _ _ _ _ (Kd.C_below HR1.out ?b2) hc0_1 (K1 _)).mono ?_
        case b2 => repeat (first | (with_reducible first | exact HB.out | apply below_alloc | apply pw_below_drewN | apply below_drew1) | exact HB.out)
        rw [H2.out]
        rintro e w2 ⟨rfl, hb⟩
        have n0_ := Aside0.mk (below_step (by repeat (first | (with_reducible first | exact HB.out | apply below_alloc | apply pw_below_drewN | apply below_drew1) | exact HB.out)) hb)
        have n1_ := Aside0.mk (blk_below (g := w.heap.size) (o := .cells #[.int .i64 a0_0, .slice A0_1 l0_1.length c0_1, .int .i64 a0_2, .slice A0_3 l0_3.length c0_3, .int .i64 a0_4] 26 (0, 0)) (by (with_reducible repeat (first | refine blk_drewN ?_ _ | refine blk_drew ?_)); exact blk_alloc (blk_new _ _) _) hb)
        have n2_ := Aside0.mk (blk_below (g := w.heap.size + 1) (o := .cells #[.int .i64 a0_0, .slice A0_1 l0_1.length c0_1, .int .i64 a0_2, .slice A0_3 l0_3.length c0_3, .int .i64 a0_4] 51 (0, 0)) (by (with_reducible repeat (first | refine blk_drewN ?_ _ | refine blk_drew ?_)); have h_ := blk_new (w.alloc (.cells #[.int .i64 a0_0, .slice A0_1 l0_1.length c0_1, .int .i64 a0_2, .slice A0_3 l0_3.length c0_3, .int .i64 a0_4] 26 (0, 0))) (.cells #[.int .i64 a0_0, .slice A0_1 l0_1.length c0_1, .int .i64 a0_2, .slice A0_3 l0_3.length c0_3, .int .i64 a0_4] 51 (0, 0)); rw [World.size_alloc] at h_; exact h_) hb)
        have c10 := blk_cell n1_.out 0
        have c20 := blk_cell n2_.out 0
        simp only [List.getElem?_toArray, List.getElem?_cons_succ, List.getElem?_cons_zero] at c10 c20
        have c11 := blk_cell n1_.out 1
        have c21 := blk_cell n2_.out 1
        simp only [List.getElem?_toArray, List.getElem?_cons_succ, List.getElem?_cons_zero] at c11 c21
        have c12 := blk_cell n1_.out 2
        have c22 := blk_cell n2_.out 2
        simp only [List.getElem?_toArray, List.getElem?_cons_succ, List.getElem?_cons_zero] at c12 c22
        have c13 := blk_cell n1_.out 3
        have c23 := blk_cell n2_.out 3
        simp only [List.getElem?_toArray, List.getElem?_cons_succ, List.getElem?_cons_zero] at c13 c23
        have c14 := blk_cell n1_.out 4
        have c24 := blk_cell n2_.out 4
        simp only [List.getElem?_toArray, List.getElem?_cons_succ, List.getElem?_cons_zero] at c14 c24
        clear n1_ n2_
        clear HB hb
        have HB := n0_
        clear n0_
        go_wp2
        go_ret
        exact ⟨rfl, by repeat (first | (with_reducible first | exact HB.out | apply below_alloc | apply pw_below_drewN | apply below_drew1) | exact HB.out)⟩
      | true =>
        have H2 := Aside0.mk h2
        clear h2
        cases h3 : withinB a0_4 0 100 with
        | false =>
          rw [h3] at HW2
          clear h3
          go_enter Try.func16, Try.ntmps16
          go_wp2_with fail
          refine (gram_asked.calls 9 _ q1 q2 _ HA.out).mono ?_
          rintro e w' ⟨rfl, ⟨nd, rfl⟩⟩
          go_wp2_with fail
          refine (gram_symbol.calls _ _ _ HS.out).mono ?_
          rintro e w' ⟨rfl, ⟨nd, rfl⟩⟩
          go_wp2_with fail
          refine (gram_within.calls _ _ _ _ _ HW1.out).mono ?_
          rintro e w' ⟨rfl, ⟨nd, rfl⟩⟩
          go_wp2_with fail
          refine (gram_all_calls _ _ _ _ _ _ (Kd.C_below HR1.out ?b2) hc0_1 (K1 _)).mono ?_
          case b2 => repeat (first | (with_reducible first | exact HB.out | apply below_alloc | apply pw_below_drewN | apply below_drew1) | exact HB.out)
          rw [H2.out]
          rintro e w2 ⟨rfl, hb⟩
          have n0_ := Aside0.mk (below_step (by repeat (first | (with_reducible first | exact HB.out | apply below_alloc | apply pw_below_drewN | apply below_drew1) | exact HB.out)) hb)
          have n1_ := Aside0.mk (blk_below (g := w.heap.size) (o := .cells #[.int .i64 a0_0, .slice A0_1 l0_1.length c0_1, .int .i64 a0_2, .slice A0_3 l0_3.length c0_3, .int .i64 a0_4] 26 (0, 0)) (by (with_reducible repeat (first | refine blk_drewN ?_ _ | refine blk_drew ?_)); exact blk_alloc (blk_new _ _) _) hb)
          have n2_ := Aside0.mk (blk_below (g := w.heap.size + 1) (o := .cells #[.int .i64 a0_0, .slice A0_1 l0_1.length c0_1, .int .i64 a0_2, .slice A0_3 l0_3.length c0_3, .int .i64 a0_4] 51 (0, 0)) (by (with_reducible repeat (first | refine blk_drewN ?_ _ | refine blk_drew ?_)); have h_ := blk_new (w.alloc (.cells #[.int .i64 a0_0, .slice A0_1 l0_1.length c0_1, .int .i64 a0_2, .slice A0_3 l0_3.length c0_3, .int .i64 a0_4] 26 (0, 0))) (.cells #[.int .i64 a0_0, .slice A0_1 l0_1.length c0_1, .int .i64 a0_2, .slice A0_3 l0_3.length c0_3, .int .i64 a0_4] 51 (0, 0)); rw [World.size_alloc] at h_; exact h_) hb)
          have c10 := blk_cell n1_.out 0
          have c20 := blk_cell n2_.out 0
          simp only [List.getElem?_toArray, List.getElem?_cons_succ, List.getElem?_cons_zero] at c10 c20
          have c11 := blk_cell n1_.out 1
          have c21 := blk_cell n2_.out 1
          simp only [List.getElem?_toArray, List.getElem?_cons_succ, List.getElem?_cons_zero] at c11 c21
          have c12 := blk_cell n1_.out 2
          have c22 := blk_cell n2_.out 2
          simp only [List.getElem?_toArray, List.getElem?_cons_succ, List.getElem?_cons_zero] at c12 c22
          have c13 := blk_cell n1_.out 3
          have c23 := blk_cell n2_.out 3
          simp only [List.getElem?_toArray, List.getElem?_cons_succ, List.getElem?_cons_zero] at c13 c23
          have c14 := blk_cell n1_.out 4
          have c24 := blk_cell n2_.out 4
          simp only [List.getElem?_toArray, List.getElem?_cons_succ, List.getElem?_cons_zero] at c14 c24
          clear n1_ n2_
          clear HB hb
          have HB := n0_
          clear n0_
          go_wp2_with fail
          refine (gram_within.calls _ _ _ _ _ HW2.out).mono ?_
          rintro e w' ⟨rfl, ⟨nd, rfl⟩⟩
          go_wp2
          go_ret
          exact ⟨rfl, by repeat (first | (with_reducible first | exact HB.out | apply below_alloc | apply pw_below_drewN | apply below_drew1) | exact HB.out)⟩
        | true =>
          rw [h3] at HW2
          clear h3
          cases h4 : withinB l0_3.length q1 q2 with
          | false =>
            rw [h4] at HW3
            clear h4
            go_enter Try.func16, Try.ntmps16
            go_wp2_with fail
            refine (gram_asked.calls 9 _ q1 q2 _ HA.out).mono ?_
            rintro e w' ⟨rfl, ⟨nd, rfl⟩⟩
            go_wp2_with fail
            refine (gram_symbol.calls _ _ _ HS.out).mono ?_
            rintro e w' ⟨rfl, ⟨nd, rfl⟩⟩
            go_wp2_with fail
            refine (gram_within.calls _ _ _ _ _ HW1.out).mono ?_
            rintro e w' ⟨rfl, ⟨nd, rfl⟩⟩
            go_wp2_with fail
            refine (gram_all_calls _ _ _ _ _ _ (Kd.C_below HR1.out ?b2) hc0_1 (K1 _)).mono ?_
            case b2 => repeat (first | (with_reducible first | exact HB.out | apply below_alloc | apply pw_below_drewN | apply below_drew1) | exact HB.out)
            rw [H2.out]
            rintro e w2 ⟨rfl, hb⟩
            have n0_ := Aside0.mk (below_step (by repeat (first | (with_reducible first | exact HB.out | apply below_alloc | apply pw_below_drewN | apply below_drew1) | exact HB.out)) hb)
            have n1_ := Aside0.mk (blk_below (g := w.heap.size) (o := .cells #[.int .i64 a0_0, .slice A0_1 l0_1.length c0_1, .int .i64 a0_2, .slice A0_3 l0_3.length c0_3, .int .i64 a0_4] 26 (0, 0)) (by (with_reducible repeat (first | refine blk_drewN ?_ _ | refine blk_drew ?_)); exact blk_alloc (blk_new _ _) _) hb)
            have n2_ := Aside0.mk (blk_below (g := w.heap.size + 1) (o := .cells #[.int .i64 a0_0, .slice A0_1 l0_1.length c0_1, .int .i64 a0_2, .slice A0_3 l0_3.length c0_3, .int .i64 a0_4] 51 (0, 0)) (by (with_reducible repeat (first | refine blk_drewN ?_ _ | refine blk_drew ?_)); have h_ := blk_new (w.alloc (.cells #[.int .i64 a0_0, .slice A0_1 l0_1.length c0_1, .int .i64 a0_2, .slice A0_3 l0_3.length c0_3, .int .i64 a0_4] 26 (0, 0))) (.cells #[.int .i64 a0_0, .slice A0_1 l0_1.length c0_1, .int .i64 a0_2, .slice A0_3 l0_3.length c0_3, .int .i64 a0_4] 51 (0, 0)); rw [World.size_alloc] at h_; exact h_) hb)
            have c10 := blk_cell n1_.out 0
            have c20 := blk_cell n2_.out 0
            simp only [List.getElem?_toArray, List.getElem?_cons_succ, List.getElem?_cons_zero] at c10 c20
            have c11 := blk_cell n1_.out 1
            have c21 := blk_cell n2_.out 1
            simp only [List.getElem?_toArray, List.getElem?_cons_succ, List.getElem?_cons_zero] at c11 c21
            have c12 := blk_cell n1_.out 2
            have c22 := blk_cell n2_.out 2
            simp only [List.getElem?_toArray, List.getElem?_cons_succ, List.getElem?_cons_zero] at c12 c22
            have c13 := blk_cell n1_.out 3
            have c23 := blk_cell n2_.out 3
            simp only [List.getElem?_toArray, List.getElem?_cons_succ, List.getElem?_cons_zero] at c13 c23
            have c14 := blk_cell n1_.out 4
            have c24 := blk_cell n2_.out 4
            simp only [List.getElem?_toArray, List.getElem?_cons_succ, List.getElem?_cons_zero] at c14 c24
            clear n1_ n2_
            clear HB hb
            have HB := n0_
            clear n0_
            go_wp2_with fail
            refine (gram_within.calls _ _ _ _ _ HW2.out).mono ?_
            rintro e w' ⟨rfl, ⟨nd, rfl⟩⟩
            go_wp2_with fail
            refine (gram_within.calls _ _ _ _ _ HW3.out).mono ?_
            rintro e w' ⟨rfl, ⟨nd, rfl⟩⟩
            go_wp2
            go_ret
            exact ⟨rfl, by repeat (first | (with_reducible first | exact HB.out | apply below_alloc | apply pw_below_drewN | apply below_drew1) | exact HB.out)⟩
          | true =>
            rw [h4] at HW3
            clear h4
            cases h5 : l0_3.all (placeB l0_1.length) with
            | false =>
              have H5 := Aside0.mk h5
              clear h5
              go_enter Try.func16, Try.ntmps16
              go_wp2_with fail
              refine (gram_asked.calls 9 _ q1 q2 _ HA.out).mono ?_
              rintro e w' ⟨rfl, ⟨nd, rfl⟩⟩
              go_wp2_with fail
              refine (gram_symbol.calls _ _ _ HS.out).mono ?_
              rintro e w' ⟨rfl, ⟨nd, rfl⟩⟩
              go_wp2_with fail
              refine (gram_within.calls _ _ _ _ _ HW1.out).mono ?_
              rintro e w' ⟨rfl, ⟨nd, rfl⟩⟩
              go_wp2_with fail
              refine (gram_all_calls _ _ _ _ _ _ (Kd.C_below HR1.out ?b2) hc0_1 (K1 _)).mono ?_
              case b2 => repeat (first | (with_reducible first | exact HB.out | apply below_alloc | apply pw_below_drewN | apply below_drew1) | exact HB.out)
              rw [H2.out]
              rintro e w2 ⟨rfl, hb⟩
              have n0_ := Aside0.mk (below_step (by repeat (first | (with_reducible first | exact HB.out | apply below_alloc | apply pw_below_drewN | apply below_drew1) | exact HB.out)) hb)
              have n1_ := Aside0.mk (blk_below (g := w.heap.size) (o := .cells #[.int .i64 a0_0, .slice A0_1 l0_1.length c0_1, .int .i64 a0_2, .slice A0_3 l0_3.length c0_3, .int .i64 a0_4] 26 (0, 0)) (by (with_reducible repeat (first | refine blk_drewN ?_ _ | refine blk_drew ?_)); exact blk_alloc (blk_new _ _) _) hb)
              have n2_ := Aside0.mk (blk_below (g := w.heap.size + 1) (o := .cells #[.int .i64 a0_0, .slice A0_1 l0_1.length c0_1, .int .i64 a0_2, .slice A0_3 l0_3.length c0_3, .int .i64 a0_4] 51 (0, 0)) (by (with_reducible repeat (first | refine blk_drewN ?_ _ | refine blk_drew ?_)); have h_ := blk_new (w.alloc (.cells #[.int .i64 a0_0, .slice A0_1 l0_1.length c0_1, .int .i64 a0_2, .slice A0_3 l0_3.length c0_3, .int .i64 a0_4] 26 (0, 0))) (.cells #[.int .i64 a0_0, .slice A0_1 l0_1.length c0_1, .int .i64 a0_2, .slice A0_3 l0_3.length c0_3, .int .i64 a0_4] 51 (0, 0)); rw [World.size_alloc] at h_; exact h_) hb)
              have c10 := blk_cell n1_.out 0
              have c20 := blk_cell n2_.out 0
              simp only [List.getElem?_toArray, List.getElem?_cons_succ, List.getElem?_cons_zero] at c10 c20
              have c11 := blk_cell n1_.out 1
              have c21 := blk_cell n2_.out 1
              simp only [List.getElem?_toArray, List.getElem?_cons_succ, List.getElem?_cons_zero] at c11 c21
              have c12 := blk_cell n1_.out 2
              have c22 := blk_cell n2_.out 2
              simp only [List.getElem?_toArray, List.getElem?_cons_succ, List.getElem?_cons_zero] at c12 c22
              have c13 := blk_cell n1_.out 3
              have c23 := blk_cell n2_.out 3
              simp only [List.getElem?_toArray, List.getElem?_cons_succ, List.getElem?_cons_zero] at c13 c23
              have c14 := blk_cell n1_.out 4
              have c24 := blk_cell n2_.out 4
              simp only [List.getElem?_toArray, List.getElem?_cons_succ, List.getElem?_cons_zero] at c14 c24
              clear n1_ n2_
              clear HB hb
              have HB := n0_
              clear n0_
              go_wp2_with fail
              refine (gram_within.calls _ _ _ _ _ HW2.out).mono ?_
              rintro e w' ⟨rfl, ⟨nd, rfl⟩⟩
              go_wp2_with fail
              refine (gram_within.calls _ _ _ _ _ HW3.out).mono ?_
              rintro e w' ⟨rfl, ⟨nd, rfl⟩⟩
              go_wp2_with fail
              refine (gram_all_calls _ _ _ _ _ _ (Kd.C_below HR3.out ?b5) hc0_3 (K2 _)).mono ?_
              case b5 => repeat (first | (with_reducible first | exact HB.out | apply below_alloc | apply pw_below_drewN | apply below_drew1) | exact HB.out)
              rw [H5.out]
              rintro e w5 ⟨rfl, hb⟩
              have n0_ := Aside0.mk (below_step (by repeat (first | (with_reducible first | exact HB.out | apply below_alloc | apply pw_below_drewN | apply below_drew1) | exact HB.out)) hb)
              clear HB hb
              have HB := n0_
              clear n0_
              go_wp2
              go_ret
              exact ⟨rfl, by repeat (first | (with_reducible first | exact HB.out | apply below_alloc | apply pw_below_drewN | apply below_drew1) | exact HB.out)⟩
            | true =>
              have H5 := Aside0.mk h5
              clear h5
              go_enter Try.func16, Try.ntmps16
              go_wp2_with fail
              refine (gram_asked.calls 9 _ q1 q2 _ HA.out).mono ?_
              rintro e w' ⟨rfl, ⟨nd, rfl⟩⟩
              go_wp2_with fail
              refine (gram_symbol.calls _ _ _ HS.out).mono ?_
              rintro e w' ⟨rfl, ⟨nd, rfl⟩⟩
              go_wp2_with fail
              refine (gram_within.calls _ _ _ _ _ HW1.out).mono ?_
              rintro e w' ⟨rfl, ⟨nd, rfl⟩⟩
              go_wp2_with fail
              refine (gram_all_calls _ _ _ _ _ _ (Kd.C_below HR1.out ?b2) hc0_1 (K1 _)).mono ?_
              case b2 => repeat (first | (with_reducible first | exact HB.out | apply below_alloc | apply pw_below_drewN | apply below_drew1) | exact HB.out)
              rw [H2.out]
              rintro e w2 ⟨rfl, hb⟩
              have n0_ := Aside0.mk (below_step (by repeat (first | (with_reducible first | exact HB.out | apply below_alloc | apply pw_below_drewN | apply below_drew1) | exact HB.out)) hb)
              have n1_ := Aside0.mk (blk_below (g := w.heap.size) (o := .cells #[.int .i64 a0_0, .slice A0_1 l0_1.length c0_1, .int .i64 a0_2, .slice A0_3 l0_3.length c0_3, .int .i64 a0_4] 26 (0, 0)) (by (with_reducible repeat (first | refine blk_drewN ?_ _ | refine blk_drew ?_)); exact blk_alloc (blk_new _ _) _) hb)
              have n2_ := Aside0.mk (blk_below (g := w.heap.size + 1) (o := .cells #[.int .i64 a0_0, .slice A0_1 l0_1.length c0_1, .int .i64 a0_2, .slice A0_3 l0_3.length c0_3, .int .i64 a0_4] 51 (0, 0)) (by (with_reducible repeat (first | refine blk_drewN ?_ _ | refine blk_drew ?_)); have h_ := blk_new (w.alloc (.cells #[.int .i64 a0_0, .slice A0_1 l0_1.length c0_1, .int .i64 a0_2, .slice A0_3 l0_3.length c0_3, .int .i64 a0_4] 26 (0, 0))) (.cells #[.int .i64 a0_0, .slice A0_1 l0_1.length c0_1, .int .i64 a0_2, .slice A0_3 l0_3.length c0_3, .int .i64 a0_4] 51 (0, 0)); rw [World.size_alloc] at h_; exact h_) hb)
              have c10 := blk_cell n1_.out 0
              have c20 := blk_cell n2_.out 0
              simp only [List.getElem?_toArray, List.getElem?_cons_succ, List.getElem?_cons_zero] at c10 c20
              have c11 := blk_cell n1_.out 1
              have c21 := blk_cell n2_.out 1
              simp only [List.getElem?_toArray, List.getElem?_cons_succ, List.getElem?_cons_zero] at c11 c21
              have c12 := blk_cell n1_.out 2
              have c22 := blk_cell n2_.out 2
              simp only [List.getElem?_toArray, List.getElem?_cons_succ, List.getElem?_cons_zero] at c12 c22
              have c13 := blk_cell n1_.out 3
              have c23 := blk_cell n2_.out 3
              simp only [List.getElem?_toArray, List.getElem?_cons_succ, List.getElem?_cons_zero] at c13 c23
              have c14 := blk_cell n1_.out 4
              have c24 := blk_cell n2_.out 4
              simp only [List.getElem?_toArray, List.getElem?_cons_succ, List.getElem?_cons_zero] at c14 c24
              clear n1_ n2_
              clear HB hb
              have HB := n0_
              clear n0_
              go_wp2_with fail
              refine (gram_within.calls _ _ _ _ _ HW2.out).mono ?_
              rintro e w' ⟨rfl, ⟨nd, rfl⟩⟩
              go_wp2_with fail
              refine (gram_within.calls _ _ _ _ _ HW3.out).mono ?_
              rintro e w' ⟨rfl, ⟨nd, rfl⟩⟩
              go_wp2_with fail
              refine (gram_all_calls _ _ _ _ _ _ (Kd.C_below HR3.out ?b5) hc0_3 (K2 _)).mono ?_
              case b5 => repeat (first | (with_reducible first | exact HB.out | apply below_alloc | apply pw_below_drewN | apply below_drew1) | exact HB.out)
              rw [H5.out]
              rintro e w5 ⟨rfl, hb⟩
              have n0_ := Aside0.mk (below_step (by repeat (first | (with_reducible first | exact HB.out | apply below_alloc | apply pw_below_drewN | apply below_drew1) | exact HB.out)) hb)
              clear HB hb
              have HB := n0_
              clear n0_
              go_wp2
              go_ret
              exact ⟨rfl, by repeat (first | (with_reducible first | exact HB.out | apply below_alloc | apply pw_below_drewN | apply below_drew1) | exact HB.out)⟩
theorem gram_Right.calls (a0_0 : Int) (A0_1 : Option Addr) (c0_1 : Nat) (l0_1 : List Int) (a0_2 : Int) (A0_3 : Option Addr) (c0_3 : Nat) (l0_3 : List Int) (a0_4 : Int) (r : Bool) (w : World) (hr0_1 : Kd.C (Kd.int .i64) w A0_1 l0_1.length l0_1) (hc0_1 : l0_1.length ≤ c0_1) (hr0_3 : Kd.C (Kd.int .i64) w A0_3 l0_3.length l0_3) (hc0_3 : l0_3.length ≤ c0_3) (h : gram_Right.f a0_0 l0_1 a0_2 l0_3 a0_4 = some r) :
    Calls Try.prog 16 #[.agg #[.int .i64 a0_0, .slice A0_1 l0_1.length c0_1, .int .i64 a0_2, .slice A0_3 l0_3.length c0_3, .int .i64 a0_4]] w fun e w' => e = .returned (.bool r) ∧ Below w.heap.size w w' := by
  obtain rfl := Option.some.inj h
  exact right_walk a0_0 A0_1 c0_1 l0_1 a0_2 A0_3 c0_3 l0_3 a0_4 w hr0_1 hc0_1 hr0_3 hc0_3
end Go.Proofs.Ytjomlfdkmdgclaa.P
end
section
namespace Go.Proofs.Ytjomlfdkmdgclaa.P
open Go.RowKit Go.Proofs.YtjomlfdkmdgclaaW.PrintWords Go.Proofs.YtjomlfdkmdgclaaW.PrintLast Go.Proofs.YtjomlfdkmdgclaaW.PrintMore
attribute [local go_sem] max2_int min2_int max_two min_two max_three min_three max_four min_four   
set_option linter.unusedVariables false
set_option linter.unusedSimpArgs false
open Go.Maps (Keyed)
abbrev Rule' := S26
def encP (p : Int × Int) : Value := .agg #[.int .i64 p.1, .int .i64 p.2]
theorem encP_inj : ∀ x y, encP x = encP y → x = y := fun x y h => by
  simp [encP] at h
  exact Prod.ext h.1 h.2
theorem laidOut : laidOutB Try.prog = true := by kernel_rfl
theorem pairKeyed : Keyed Try.prog 56 := Keyed.of_law (deep_law_laid laidOut (m := 2) (by omega) (of_decide_eq_true (by kernel_rfl)) (by kernel_rfl) (by rw [Try.underlying56]))
theorem sizeTypes : ∃ n, Try.prog.types.size = n + 1 := ⟨Try.prog.types.size - 1, by have h : 0 < Try.prog.types.size := of_decide_eq_true (by kernel_rfl); omega⟩
theorem keyType2 : Try.prog.keyType 56 = true := by kernel_rfl
theorem cellsOf2 : Try.prog.cellsOf 56 = 2 := by kernel_rfl
theorem cellsOf1 : Try.prog.cellsOf 3 = 1 := by kernel_rfl
theorem keyOfP {a b : Int} (ha : 0 ≤ a ∧ a < 20) (hb : 0 ≤ b ∧ b < 20) : ∃ l, keyOf Try.prog 56 (encP (a, b)) = some l := by
  obtain ⟨n, hn⟩ := sizeTypes
  have wa : (Lit.int .i64 a).wf = true := WalkArith.wf_i64 (by omega)
  have wb : (Lit.int .i64 b).wf = true := WalkArith.wf_i64 (by omega)
  refine ⟨.string (keyBytes [.int .i64 a, .int .i64 b]), ?_⟩
  unfold keyOf encP
  rw [Try.underlying56]
  simp only [keyType2, Value.formed, Try.underlying56, cellsOf2, Value.cells, hn]
  simp [Program.keyLits, Try.underlying56, Try.underlying3, cellsOf2, cellsOf1, wa, wb, List.range_succ]
def foundStep (m : List ((Int × Int) × Int)) (r : Rule') : List ((Int × Int) × Int) :=
  if r.f1.length = 1 ∧ 0 ≤ rd r.f1 0 ∧ rd r.f1 0 < 20 then mput m (r.f0, rd r.f1 0) ((mget m (r.f0, rd r.f1 0)).getD 0 + 1) else m
def foundL (l : List Rule') : List ((Int × Int) × Int) := l.foldl foundStep []
abbrev encM (m : List ((Int × Int) × Int)) : List ((Int × Int) × Value) := m.map fun p => (p.1, Value.int .i64 p.2)
theorem getD_encM (m : List ((Int × Int) × Int)) (x : Int × Int) : (mget (encM m) x).getD (.int .i64 0) = .int .i64 ((mget m x).getD 0) := by
  rw [mget_map]; cases mget m x <;> rfl
theorem found_bound (l : List Rule') (x : Int × Int) : 0 ≤ (mget (foundL l) x).getD 0 ∧ (mget (foundL l) x).getD 0 ≤ l.length := by
  suffices h : ∀ (l : List Rule') (m : List ((Int × Int) × Int)) (n : Nat), (∀ x, 0 ≤ (mget m x).getD 0 ∧ (mget m x).getD 0 ≤ n) → ∀ x, 0 ≤ (mget (l.foldl foundStep m) x).getD 0 ∧ (mget (l.foldl foundStep m) x).getD 0 ≤ (n + l.length : Nat) by
    have := h l [] 0 (fun x => by simp [mget]) x
    rw [Nat.zero_add] at this
    exact this
  intro l
  induction l with
  | nil => intro m n h x; exact h x
  | cons r l ih =>
    intro m n h x
    have h2 : ∀ y, 0 ≤ (mget (foundStep m r) y).getD 0 ∧ (mget (foundStep m r) y).getD 0 ≤ ((n + 1 : Nat) : Int) := by
      intro y
      unfold foundStep
      split
      · by_cases e : y = (r.f0, rd r.f1 0)
        · subst e
          rw [mget_mput_same]
          have := h (r.f0, rd r.f1 0)
          simp only [Option.getD_some]
          omega
        · rw [mget_mput_other _ _ _ e]
          have := h y
          omega
      · have := h y
        omega
    have := ih (foundStep m r) (n + 1) h2 x
    rw [List.foldl_cons, List.length_cons, show n + (l.length + 1) = n + 1 + l.length by omega]
    exact this
theorem found_snoc (l : List Rule') (k : Nat) (h : k < l.length) : foundL (l.take (k + 1)) = foundStep (foundL (l.take k)) l[k] := by
  unfold foundL
  rw [List.take_succ_eq_append_getElem h, List.foldl_append]
  rfl
theorem map_incr {P : Program} {κ : Type} [DecidableEq κ] {kt t e : TypeId} {enc : κ → Value} {w : World} {b : Nat} {m : List (κ × Value)} {z : Value} (h : MapOf P kt enc w b m) (K : Keyed P kt) (hinj : ∀ x y, enc x = enc y → x = y) (ht : P.underlying t = some (.map kt e)) (hz : ∀ w, (zeroValue e).run P w = .ok z w)
    (k : κ) (hk : ∃ l, keyOf P kt (enc k) = some l) (v v2 : Value) (hv : (mget m k).getD z = v) :
    ∃ w1 n w2, (Instr.mapEntry t (.map (some b)) (enc k)).run P w = .ok (.tuple #[v, .int .i64 n]) w1 ∧ (Instr.lookup t (.map (some b)) (enc k) false).run P w1 = .ok v w1 ∧ (Instr.entryStore t (.map (some b)) (.int .i64 n) v2).run P w1 = .ok () w2 ∧ MapOf P kt enc w2 b (mput m k v2) ∧ w.grownBy w2 (some b) ∧ w2.heap.size = w.heap.size := by
  obtain ⟨w1, n, h1, _, _, ⟨m1, hm1, hg1⟩, h4⟩ := h.entry K hinj ht hz k hk
  obtain ⟨w2, h5, h6, h7, h8⟩ := h4 v2
  have h9 := hm1.lookup K hinj ht (hz w1) k hk false
  rw [hg1, hv] at h9
  exact ⟨w1, n, w2, by rw [h1, hv], h9, h5, h6, h7, h8⟩
def unitsB (l0 : List Rule') : Bool := l0.all (fun r => decide (0 ≤ r.f0 ∧ r.f0 < 20)) && decide (l0.length ≤ 1000000000000)
def unitsP (l0 : List Rule') : List (List Int) := (List.range 20).map fun (s : Nat) => ((List.range 20).map fun (x : Nat) => (x : Int)).filter fun x => decide (0 < (mget (foundL l0) ((s : Int), x)).getD 0)
def gram_Units.f (l0 : List Rule') : Option (List (List Int)) := if unitsB l0 = true then some (unitsP l0) else none
def rowUpto (m : List ((Int × Int) × Int)) (s n : Nat) : List Int := ((List.range n).map fun (x : Nat) => (x : Int)).filter fun x => decide (0 < (mget m ((s : Int), x)).getD 0)
theorem rowUpto_succ (m : List ((Int × Int) × Int)) (s n : Nat) : rowUpto m s (n + 1) = rowUpto m s n ++ if 0 < (mget m ((s : Int), (n : Int))).getD 0 then [(n : Int)] else [] := by
  unfold rowUpto
  rw [List.range_succ, List.map_append, List.filter_append]
  congr 1
  by_cases h : 0 < (mget m ((s : Int), (n : Int))).getD 0 <;> simp [h]
theorem rowUpto_len (m : List ((Int × Int) × Int)) (s n : Nat) : (rowUpto m s n).length ≤ n := by
  unfold rowUpto
  have := List.length_filter_le (fun x => decide (0 < (mget m ((s : Int), x)).getD 0)) ((List.range n).map fun (x : Nat) => (x : Int))
  simpa using this
structure URows (base g : Nat) (row : Nat → List Int) (i : Nat) (W : World) (vals : List Value) (f : Nat → Nat) : Prop where
  len : vals.length = 20
  blk : W.heap[g]? = some (.cells vals.toArray 22 (0, 0))
  ge : base ≤ g
  done : ∀ j, j < i → ∃ v, vals[j]? = some v ∧ Kd.R (Kd.int .i64) 3 W base (fun k => k ≠ g ∧ f k = j) v (row j)
  rest : ∀ j, i ≤ j → j < 20 → vals[j]? = some (.slice none 0 0)
structure UCur (base g N : Nat) (row : Nat → List Int) (i : Nat) (W : World) (vals : List Value) (f : Nat → Nat) (u : Value) (cur : List Int) : Prop where
  len : vals.length = 20
  blk : W.heap[g]? = some (.cells vals.toArray 22 (0, 0))
  ge : base ≤ g
  done : ∀ j, j < i → ∃ v, vals[j]? = some v ∧ Kd.R (Kd.int .i64) 3 W base (fun k => (k ≠ g ∧ f k = j) ∧ k < N) v (row j)
  rest : ∀ j, i < j → j < 20 → vals[j]? = some (.slice none 0 0)
  at_ : vals[i]? = some u
  cur : Kd.R (Kd.int .i64) 3 W base (fun k => k ≠ g ∧ N ≤ k) u cur
  gN : g < N
  size : N ≤ W.heap.size
theorem URows.start {base g : Nat} {row : Nat → List Int} {i : Nat} {W : World} {vals : List Value} {f : Nat → Nat} (h : URows base g row i W vals f) (hi : i < 20) : UCur base g W.heap.size row i W vals f (.slice none 0 0) [] :=
  ⟨h.len, h.blk, h.ge, fun j hj => by obtain ⟨v, h1, h2⟩ := h.done j hj; exact ⟨v, h1, Kd.R_mono (Kd.R_bound h2) (fun k hk => ⟨hk.1, hk.2.2.1⟩)⟩, fun j hj hj2 => h.rest j (by omega) hj2, h.rest i (Nat.le_refl _) hi, Kd.R_nil _ _ _ _ _, blk_lt h.blk, Nat.le_refl _⟩
theorem UCur.below {base g N : Nat} {row : Nat → List Int} {i : Nat} {W W1 : World} {vals : List Value} {f : Nat → Nat} {u : Value} {cur : List Int} (h : UCur base g N row i W vals f u cur) (hb : Below W.heap.size W W1) : UCur base g N row i W1 vals f u cur :=
  ⟨h.len, blk_below h.blk hb, h.ge, fun j hj => by obtain ⟨v, h1, h2⟩ := h.done j hj; exact ⟨v, h1, Kd.R_below h2 hb⟩, h.rest, h.at_, Kd.R_below h.cur hb, h.gN, Nat.le_trans h.size hb.size⟩
theorem UCur.put {base g N : Nat} {row : Nat → List Int} {i : Nat} {W W1 : World} {vals : List Value} {f : Nat → Nat} {u u1 : Value} {cur cur1 : List Int} (h : UCur base g N row i W vals f u cur) (hg : W.grownBy W1 u.ownBlock)
    (hr : Kd.R (Kd.int .i64) 3 W1 base (fun k => k ≠ g ∧ N ≤ k) u1 cur1) : UCur base g N row i (W1.setCell ⟨g, i, none⟩ u1) (vals.set i u1) f u1 cur1 := by
  have hi : i < vals.length := (List.getElem?_eq_some_iff.1 h.at_).1
  have hne : ∀ k, (k ≠ g ∧ N ≤ k) → k ≠ (⟨g, i, none⟩ : Addr).block := fun k hk => hk.1
  have hub : ∀ k, k < N → some k ≠ u.ownBlock := fun k hk e => by have := (h.cur.1 k e.symm).2; omega
  have hb1 : W1.heap[g]? = some (.cells vals.toArray 22 (0, 0)) := blk_grown h.blk hg (hub g h.gN)
  refine ⟨by rw [List.length_set]; exact h.len, ?_, h.ge, fun j hj => ?_, fun j hj hj2 => ?_, by rw [List.getElem?_set_self hi], Kd.R_far hr hne u1, h.gN, Nat.le_trans h.size (by simp [World.setCell]; exact hg.size)⟩
  · refine blk_put hb1 i u1 ?_
    simp
  · obtain ⟨v, h1, h2⟩ := h.done j hj
    refine ⟨v, by rw [List.getElem?_set_ne (by omega)]; exact h1, Kd.R_far (Kd.R_grown h2 hg (fun k hk => hub k hk.2)) (fun k hk => hk.1.1) u1⟩
  · rw [List.getElem?_set_ne (by omega)]
    exact h.rest j hj hj2
theorem UCur.finish {base g N : Nat} {row : Nat → List Int} {i : Nat} {W : World} {vals : List Value} {f : Nat → Nat} {u : Value} (h : UCur base g N row i W vals f u (row i)) : URows base g row (i + 1) W vals (fun k => if k < N then f k else i) := by
  refine ⟨h.len, h.blk, h.ge, fun j hj => ?_, fun j hj hj2 => h.rest j (by omega) hj2⟩
  by_cases e : j = i
  · subst e
    exact ⟨u, h.at_, Kd.R_mono h.cur (fun k hk => ⟨hk.1, by rw [if_neg (by omega)]⟩)⟩
  · obtain ⟨v, h1, h2⟩ := h.done j (by omega)
    exact ⟨v, h1, Kd.R_mono h2 (fun k hk => ⟨hk.1.1, by rw [if_pos hk.2]; exact hk.1.2⟩)⟩
theorem URows.toS {base g : Nat} {row : Nat → List Int} {W : World} {vals : List Value} {f : Nat → Nat} (h : URows base g row 20 W vals f) :
    Kd.S (Kd.slice 3 (Kd.int .i64)) 22 W base (fun _ => True) (.slice (some ⟨g, 0, none⟩) 20 20) ((List.range 20).map row) := by
  refine ⟨f, fun _ _ => trivial, vals, ⟨?_, .inr ⟨g, 20, vals.toArray, rfl, h.ge, h.blk, by simp, by unfold maxLen; omega, by simp [h.len, Kd.tag, Kd.slice], ?_⟩⟩, ?_, fun j p hj => ?_⟩
  · simp [h.len, Kd.tag, Kd.slice]
  · have : vals.take 20 = vals := by rw [← h.len]; exact List.take_length
    simpa [Kd.tag, Kd.slice] using this
  · simp [h.len, Kd.tag, Kd.slice]
  · obtain ⟨x, n⟩ := p
    rw [List.getElem?_zipIdx] at hj
    obtain ⟨y, hy, hp⟩ := Option.map_eq_some_iff.1 hj
    simp only [Nat.zero_add, Prod.mk.injEq] at hp
    obtain ⟨rfl, rfl⟩ := hp
    have hj20 : j < 20 := by have := (List.getElem?_eq_some_iff.1 hy).1; simpa using this
    rw [List.getElem?_map, List.getElem?_range hj20] at hy
    have hy2 : row j = y := by simpa using hy
    obtain ⟨v, h1, h2⟩ := h.done j hj20
    have h3 : (vals.drop (j * 1)).take 1 = [v] := by
      obtain ⟨hl, hv⟩ := List.getElem?_eq_some_iff.1 h1
      rw [Nat.mul_one, List.drop_eq_getElem_cons hl, hv]; rfl
    show ((Kd.tag f (Kd.slice 3 (Kd.int .i64))).M W base _ (y, j) ((vals.drop (j * 1)).take 1))
    rw [h3]
    refine ⟨v, rfl, ?_⟩
    rw [← hy2]
    refine Kd.R_mono h2 (fun k hk => ⟨⟨trivial, ?_⟩, hk.2⟩)
    simp [Value.ownBlock]
    exact hk.1
set_option maxHeartbeats 4000000 in
set_option maxRecDepth 100000 in
theorem units_walk (A0 : Option Addr) (c0 : Nat) (l0 : List Rule') (w : World) (hr0 : Kd.C k26 w A0 l0.length l0) (hc0 : l0.length ≤ c0) (hu : unitsB l0 = true) :
    Calls Try.prog 19 #[.slice A0 l0.length c0] w fun e w' => ∃ v0_ : Value, e = .returned (v0_) ∧ Kd.S (Kd.slice 3 (Kd.int .i64)) 22 w' w.heap.size (fun _ => True) v0_ (unitsP l0) ∧ Below w.heap.size w w' := by
  have hmm := @run_makeMap Try.prog
  have hu2 := hu
  simp only [unitsB, Bool.and_eq_true, List.all_eq_true, decide_eq_true_eq] at hu2
  obtain ⟨hu3, hlen⟩ := hu2
  have HU := Aside0.mk hu3
  have HR := Aside0.mk hr0
  have HC := Aside0.mk hc0
  clear hr0 hc0 hu hu3
  go_enter Try.func19, Try.ntmps19
  go_wp2
  go_loopg [12] l0.length (fun gg s12 wr => ∃ kk : Nat, kk ≤ l0.length ∧ l0.length - kk ≤ gg ∧ s12 = .int .i64 kk ∧ Aside0 (MapOf Try.prog 56 encP wr w.heap.size (encM (foundL (l0.take kk)))) ∧ Aside0 (Below w.heap.size w wr) ∧ Aside0 (w.heap.size < wr.heap.size))
  case atStart => exact ⟨0, Nat.zero_le _, by omega, rfl, ⟨MapOf.made _ _ _ _⟩, ⟨below_alloc (Below.refl _ _) _⟩, ⟨by simp⟩⟩
  case round =>
    obtain ⟨kk, hkk, hg, rfl, HM, HB, HS⟩ := hrel
    by_cases hlt : kk < l0.length
    · have hltz : (kk : Int) < (l0.length : Int) := by omega
      obtain ⟨ad, A1, c1, A3, c3, hA, h0, h1, h2, h3, h4, l1, g1, l3, g3⟩ := at_T26 (Kd.C_below HR.out HB.out) kk (by omega) hltz
      have hx : rd_T26 l0 kk = l0[kk] := by simp [rd_T26, List.getD_eq_getElem?_getD, List.getElem?_eq_getElem hlt]
      have hlhs := HU.out l0[kk] (List.getElem_mem hlt)
      rw [← hx] at hlhs
      have hsn := found_snoc l0 kk hlt
      rw [← hx] at hsn
      generalize rd_T26 l0 kk = y at *
      rw [Int.toNat_natCast] at h0 h1 h2 h3 h4
      subst hA
      clear hx l3 g3
      have HSN := Aside0.mk hsn
      clear hsn
      by_cases hone : y.f1.length = 1
      · obtain ⟨ad1, hA1, hcell⟩ := Kd.at_int g1 0 (by omega) (by omega)
        have hcell' : wr.cell? ad1 = some (.int .i64 (rd y.f1 0)) := hcell
        subst hA1
        have hlx : wr.heap.size > ad1.block := World.block_lt_of_cell? wr _ hcell'
        have hcell2 : (wr.alloc (.cells #[.int .i64 y.f0, .slice (some ad1) 1 c1, .int .i64 y.f2.f0, .slice A3 y.f2.f1.length c3, .int .i64 y.f3] 26)).cell? ad1 = some (.int .i64 (rd y.f1 0)) := (World.cell?_alloc_lt _ _ _ hlx).trans hcell'
        rw [hone] at h1
        generalize hrd : rd y.f1 0 = x at *
        have HRD := Aside0.mk hrd
        clear hrd
        have hsym := Aside0.mk (symbol_some x)
        clear hcell g1 hcell' hlx
        have HM1 := Aside0.mk (HM.out.alloc (.cells #[.int .i64 y.f0, .slice (some ad1) 1 c1, .int .i64 y.f2.f0, .slice A3 y.f2.f1.length c3, .int .i64 y.f3] 26))
        have HB1 := Aside0.mk (below_alloc HB.out (.cells #[.int .i64 y.f0, .slice (some ad1) 1 c1, .int .i64 y.f2.f0, .slice A3 y.f2.f1.length c3, .int .i64 y.f3] 26))
        have HBK := Aside0.mk (blk_new wr (.cells #[.int .i64 y.f0, .slice (some ad1) 1 c1, .int .i64 y.f2.f0, .slice A3 y.f2.f1.length c3, .int .i64 y.f3] 26))
        have HS1 : Aside0 (w.heap.size < (wr.alloc (.cells #[.int .i64 y.f0, .slice (some ad1) 1 c1, .int .i64 y.f2.f0, .slice A3 y.f2.f1.length c3, .int .i64 y.f3] 26)).heap.size) := ⟨Nat.lt_of_lt_of_le HS.out (by simp)⟩
        cases hsx : symbolB x with
        | true =>
          rw [hsx] at hsym
          go_wp2_with fail
          refine (gram_symbol.calls _ _ _ hsym.out).mono ?_
          rintro e w' ⟨rfl, ⟨nd, rfl⟩⟩
          clear HM HB HS h0 h1 h2 h3 h4
          generalize hW : (wr.alloc (.cells #[.int .i64 y.f0, .slice (some ad1) 1 c1, .int .i64 y.f2.f0, .slice A3 y.f2.f1.length c3, .int .i64 y.f3] 26)).drewN nd = W1
          have HM2 : Aside0 (MapOf Try.prog 56 encP W1 w.heap.size (encM (foundL (l0.take kk)))) := ⟨by rw [← hW]; exact HM1.out⟩
          have HB2 : Aside0 (Below w.heap.size w W1) := ⟨by rw [← hW]; exact pw_below_drewN HB1.out _⟩
          have HBK2 : Aside0 (W1.heap[wr.heap.size]? = some (.cells #[.int .i64 y.f0, .slice (some ad1) 1 c1, .int .i64 y.f2.f0, .slice A3 y.f2.f1.length c3, .int .i64 y.f3] 26 (0, 0))) := ⟨by rw [← hW]; exact blk_drewN HBK.out _⟩
          have HS2 : Aside0 (w.heap.size < W1.heap.size) := ⟨by rw [← hW]; exact HS1.out⟩
          have k2 : W1.cell? ad1 = some (.int .i64 x) := by rw [← hW]; exact hcell2
          clear hcell2 HM1 HB1 HBK HS1 hW
          have d0 := blk_cell HBK2.out 0
          have d1 := blk_cell HBK2.out 1
          simp only [List.getElem?_toArray, List.getElem?_cons_succ, List.getElem?_cons_zero] at d0 d1
          have hsb : 0 ≤ x ∧ x < 20 := by simpa [symbolB] using hsx
          obtain ⟨hx0, hx1⟩ := hsb
          obtain ⟨hy0, hy1⟩ := hlhs
          have hkey := keyOfP (a := y.f0) (b := x) ⟨hy0, hy1⟩ ⟨hx0, hx1⟩
          have hb := found_bound (l0.take kk) (y.f0, x)
          obtain ⟨hb0, hb1⟩ := hb
          have hb2 : (l0.take kk).length ≤ kk := List.length_take_le _ _
          have hgv := getD_encM (foundL (l0.take kk)) (y.f0, x)
          have hmp := mput_map (Value.int .i64) (y.f0, x) ((mget (foundL (l0.take kk)) (y.f0, x)).getD 0 + 1) (foundL (l0.take kk))
          have hstep : foundStep (foundL (l0.take kk)) y = mput (foundL (l0.take kk)) (y.f0, x) ((mget (foundL (l0.take kk)) (y.f0, x)).getD 0 + 1) := by
            unfold foundStep
            rw [if_pos ⟨hone, by rw [HRD.out]; exact ⟨hx0, hx1⟩⟩, HRD.out]
          generalize (mget (foundL (l0.take kk)) (y.f0, x)).getD 0 = v at *
          have hv1 : v ≤ 1000000000000 := by omega
          have hlk := (HM2.out.drew).lookup pairKeyed encP_inj Try.underlying55 (zero_int W1.drew) (y.f0, x) hkey false
          rw [hgv] at hlk
          have hlk2 : (Instr.lookup 55 (.map (some w.heap.size)) (.agg #[.int .i64 y.f0, .int .i64 x]) false).run Try.prog W1.drew = .ok (.int .i64 v) W1.drew := hlk
          obtain ⟨w3, n3, w4, hE1, hL3, hE2, hm4, hg4, hz4⟩ := map_incr (HM2.out.drew) pairKeyed encP_inj Try.underlying55 zero_int (y.f0, x) hkey (.int .i64 v) (.int .i64 (v + 1)) hgv
          have hE3 : (Instr.mapEntry 55 (.map (some w.heap.size)) (.agg #[.int .i64 y.f0, .int .i64 x])).run Try.prog W1.drew = .ok (.tuple #[.int .i64 v, .int .i64 n3]) w3 := hE1
          rw [hmp, ← hstep] at hm4
          have hL4 : (Instr.lookup 55 (.map (some w.heap.size)) (.agg #[.int .i64 y.f0, .int .i64 x]) false).run Try.prog w3 = .ok (.int .i64 v) w3 := hL3
          have hwr : IntKind.i64.wrap (v + 1) = v + 1 := IntWalk.i64_in _ (by omega)
          have HM4 := Aside0.mk hm4
          have HG4 := Aside0.mk hg4
          have HZ4 := Aside0.mk hz4
          clear hlk hE1 hL3 hm4 hg4 hz4 hmp hstep hgv hb2
          go_wp2_with fail
          go_region
          all_goals
            go_wp2
            go_roundg (l0.length - (kk + 1))
            case measure => omega
            case rel =>
              exact ⟨kk + 1, by omega, by omega, by go_num, ⟨by rw [HSN.out]; exact HM4.out⟩, ⟨(HB2.out.drew).grown HG4.out HB2.out.size (fun j e => by cases e; exact Nat.le_refl _)⟩, ⟨by rw [HZ4.out]; exact HS2.out⟩⟩
        | false =>
          rw [hsx] at hsym
          go_wp2_with fail
          refine (gram_symbol.calls _ _ _ hsym.out).mono ?_
          rintro e w' ⟨rfl, ⟨nd, rfl⟩⟩
          go_wp2
          go_roundg (l0.length - (kk + 1))
          case measure => omega
          case rel =>
            refine ⟨kk + 1, by omega, by omega, by go_num, ⟨?_⟩, ⟨pw_below_drewN HB1.out _⟩, ⟨HS1.out⟩⟩
            have hst : foundStep (foundL (l0.take kk)) y = foundL (l0.take kk) := by
              unfold foundStep
              rw [if_neg (fun h => by rw [HRD.out] at h; simp [symbolB, h.2.1] at hsx; omega)]
            rw [HSN.out, hst]
            exact HM1.out.drewN _
      · have ht : ((y.f1.length : Int) == 1) = false := beq_eq_false_iff_ne.2 (by omega)
        have hst : foundStep (foundL (l0.take kk)) y = foundL (l0.take kk) := by
          unfold foundStep
          rw [if_neg (fun h => hone h.1)]
        have HST := Aside0.mk hst
        clear hst
        go_wp2
        go_roundg (l0.length - (kk + 1))
        case measure => omega
        case rel => exact ⟨kk + 1, by omega, by omega, by go_num, ⟨by rw [HSN.out, HST.out]; exact HM.out.alloc _⟩, ⟨below_alloc HB.out _⟩, ⟨Nat.lt_of_lt_of_le HS.out (by simp)⟩⟩
    · have hltz : ¬ (kk : Int) < (l0.length : Int) := by omega
      have hkl : kk = l0.length := by omega
      subst hkl
      have HM0 : Aside0 (MapOf Try.prog 56 encP wr w.heap.size (encM (foundL l0))) := ⟨by have := HM.out; rwa [List.take_length] at this⟩
      clear HM
      have HFB := Aside0.mk (found_bound l0)
      have HUP := Aside0.mk (show (List.range 20).map (fun j => rowUpto (foundL l0) j 20) = unitsP l0 from rfl)
      generalize foundL l0 = m at *
      have hmk : ∀ w, (Instr.makeSlice 37 (.int .i64 20) (.int .i64 20)).run Try.prog w = .ok (.slice (some ⟨w.heap.size, 0, none⟩) 20 20) (w.alloc (.cells (List.replicate 20 (Value.slice none 0 0)).toArray 22)) := fun _ => by kernel_rfl
      have HU0 : Aside0 (∃ vals f, URows w.heap.size wr.heap.size (fun j => rowUpto m j 20) 0 (wr.alloc (.cells (List.replicate 20 (Value.slice none 0 0)).toArray 22)) vals f) :=
        ⟨List.replicate 20 (.slice none 0 0), fun _ => 0, ⟨by simp, blk_new _ _, Nat.le_of_lt HS.out, fun j hj => absurd hj (Nat.not_lt_zero _), fun j _ hj => by rw [List.getElem?_replicate, if_pos hj]⟩⟩
      have HM1 := Aside0.mk (HM0.out.alloc (.cells (List.replicate 20 (Value.slice none 0 0)).toArray 22))
      have HB1 := Aside0.mk (below_alloc HB.out (.cells (List.replicate 20 (Value.slice none 0 0)).toArray 22))
      clear HM0 HB HS
      go_wp2
      generalize wr.heap.size = g at *
      go_loopg [43] 20 (fun gg s43 W => ∃ i : Nat, i ≤ 20 ∧ 20 - i ≤ gg ∧ s43 = .int .i64 i ∧ Aside0 (∃ vals f, URows w.heap.size g (fun j => rowUpto m j 20) i W vals f) ∧ Aside0 (MapOf Try.prog 56 encP W w.heap.size (encM m)) ∧ Aside0 (Below w.heap.size w W))
      case atStart => exact ⟨0, by omega, by omega, rfl, HU0, HM1, HB1⟩
      case round =>
        clear HU0 HM1 HB1
        obtain ⟨i, hi, hgi, rfl, HU1, HM1, HB1⟩ := hrel
        by_cases hi20 : i < 20
        · have hi20z : (i : Int) < 20 := by omega
          obtain ⟨vals, f, hU1⟩ := HU1.out
          have HC1 := Aside0.mk (hU1.start hi20)
          clear HU1 hU1
          generalize wr.heap.size = N at HC1
          go_wp2
          go_loopg [46] 20 (fun gg2 s46 W2 => ∃ x : Nat, x ≤ 20 ∧ 20 - x ≤ gg2 ∧ s46 = .int .i64 x ∧ Aside0 (∃ vals f u, UCur w.heap.size g N (fun j => rowUpto m j 20) i W2 vals f u (rowUpto m i x)) ∧ Aside0 (MapOf Try.prog 56 encP W2 w.heap.size (encM m)) ∧ Aside0 (Below w.heap.size w W2))
          case atStart => exact ⟨0, by omega, by omega, rfl, ⟨_, _, _, HC1.out⟩, HM1, HB1⟩
          case round =>
            clear HC1 HM1 HB1
            obtain ⟨x, hx, hgx, rfl, HC2, HM2, HB2⟩ := hrel
            obtain ⟨vals, f, u, hC2⟩ := HC2.out
            have HC3 := Aside0.mk hC2
            clear HC2 hC2
            have hc : wr.cell? ⟨g, i, none⟩ = some u := (blk_cell HC3.out.blk i).trans (by rw [List.getElem?_toArray]; exact HC3.out.at_)
            have hfz := blk_frozen HC3.out.blk i
            have hsu := rowUpto_succ m i x
            have hrl := rowUpto_len m i x
            obtain ⟨A4, c4, rfl⟩ := Kd.R_slice HC3.out.cur
            by_cases hx20 : x < 20
            · have hx20z : (x : Int) < 20 := by omega
              have hkey := keyOfP (a := (i : Int)) (b := (x : Int)) ⟨by omega, by omega⟩ ⟨by omega, by omega⟩
              have hgv := getD_encM m ((i : Int), (x : Int))
              generalize (mget m ((i : Int), (x : Int))).getD 0 = v at hgv hsu
              have HGV := Aside0.mk hgv
              have HSU := Aside0.mk hsu
              clear hgv hsu
              by_cases hv : 0 < v
              · have hub : ∀ k, k < N → some k ≠ (Value.slice A4 (rowUpto m i x).length c4).ownBlock := fun k hk e => by have := (HC3.out.cur.1 k e.symm).2; omega
                have hgn := HC3.out.gN
                have hil : i < vals.toArray.size := by have := HC3.out.len; simp; omega
                go_wp2_with (first
                  | (at_lookup; refine wpList_lookup_map rfl (.tmp 49) (.tmp 52) 55 3 rfl pairKeyed encP_inj Try.underlying55 zero_int rfl HM2.out ((i : Int), (x : Int)) rfl hkey (.int .i64 v) HGV.out ?_)
                  | (at_builtin; refine Kd.R_append (Kd.int .i64) (w0 := w) w.heap.size rfl (.tmp 60) (.tmp 62) 22 3 (.int .i64 0) 8 rfl Try.underlying22 info3 rfl (by decide) (by omega) (.slice A4 (rowUpto m i x).length c4) (rowUpto m i x) (x : Int) [.int .i64 x] (fun k => k ≠ g ∧ N ≤ k) (fun _ => False) rfl rfl rfl (fun _ hk => hk.elim) (fun k hk => ⟨fun e => by have := HC3.out.gN; have := HC3.out.size; omega, Nat.le_trans HC3.out.size hk⟩) HC3.out.cur HB2.out HB2.out.size (by omega) ?_; intro v1 w1 ho hb hgr hat; have ho' : Kd.R (Kd.int .i64) 3 w1 w.heap.size (fun k => k ≠ g ∧ N ≤ k) v1 (rowUpto m i x ++ [(x : Int)]) := ho; have HR1 := Aside0.mk ho'; have HB3 := Aside0.mk hb; have HG1 := Aside0.mk hgr; obtain ⟨A5, c5, rfl⟩ := Kd.R_slice ho'; clear ho ho' hb hgr hat)
                  | (refine gate_ (.store 22 (.tmp 64) (.tmp 63)) rfl ?_; have hblk1 := Aside0.mk (blk_grown HC3.out.blk HG1.out (hub g hgn)); go_loud (refine store_block rfl rfl 22 (.tmp 64) (.tmp 63) rfl (.slice A5 ((rowUpto m i x).length + 1) c5) rfl rfl rfl rfl rfl hblk1.out hil ?_); intro w2 hw2)
                  | fail)
                go_roundg (20 - (x + 1))
                case measure => omega
                case rel =>
                  have e5 : (Value.slice A5 ((rowUpto m i x).length + 1) c5) = .slice A5 (rowUpto m i x ++ [(x : Int)]).length c5 := by rw [List.length_append]; rfl
                  rw [e5] at hw2
                  subst hw2
                  refine ⟨x + 1, by omega, by omega, by go_num, ⟨vals.set i (.slice A5 (rowUpto m i x ++ [(x : Int)]).length c5), f, .slice A5 (rowUpto m i x ++ [(x : Int)]).length c5, ?_⟩, ⟨?_⟩, ⟨?_⟩⟩
                  · rw [HSU.out, if_pos hv]
                    have h9 := HC3.out.put HG1.out HR1.out
                    rw [← e5] at h9 ⊢
                    exact h9
                  · have hbN : w.heap.size < N := Nat.lt_of_le_of_lt HC3.out.ge HC3.out.gN
                    refine (HM2.out.grown HG1.out (hub _ hbN)).setCell _ (fun e => ?_) _
                    exact HM2.out.not_cells HC3.out.blk e
                  · exact HB3.out.setCell HC3.out.ge _
              · have hgt : ¬ (v > 0) := by omega
                go_wp2_with (first
                  | (at_lookup; refine wpList_lookup_map rfl (.tmp 49) (.tmp 52) 55 3 rfl pairKeyed encP_inj Try.underlying55 zero_int rfl HM2.out ((i : Int), (x : Int)) rfl hkey (.int .i64 v) HGV.out ?_)
                  | fail)
                go_roundg (20 - (x + 1))
                case measure => omega
                case rel =>
                  refine ⟨x + 1, by omega, by omega, by go_num, ⟨vals, f, .slice A4 (rowUpto m i x).length c4, ?_⟩, HM2, HB2⟩
                  rw [HSU.out, if_neg (by omega), List.append_nil]
                  exact HC3.out
            · have hx20z : ¬ (x : Int) < 20 := by omega
              have hxe : x = 20 := by omega
              subst hxe
              obtain ⟨A6, c6, e6, hle6, hC6⟩ := Kd.R_reads HC3.out.cur
              injection e6 with e7 e8 e9
              subst e7 e9
              have HC6 := Aside0.mk hC6
              have HL6 := Aside0.mk hle6
              clear hC6 hle6 e8
              have hil : i < vals.toArray.size := by have := HC3.out.len; simp; omega
              go_wp2_with fail
              refine (slices_Clone_int_int.calls _ _ (rowUpto m i 20) (rowUpto m i 20) _ HC6.out HL6.out (if_pos (by omega))).mono ?_
              rintro e w1 ⟨v1, rfl, hR1, hb1⟩
              have HR1 := Aside0.mk (Kd.R_lower (Kd.R_mono (Kd.R_bound hR1) (ok' := fun k => k ≠ g ∧ N ≤ k) (fun k hk => ⟨fun e => by have := HC3.out.gN; have := HC3.out.size; omega, Nat.le_trans HC3.out.size hk.2.1⟩)) HB2.out.size)
              have HM1 := Aside0.mk (HM2.out.below hb1)
              have HB1 := Aside0.mk (below_step HB2.out hb1)
              have HC1 := Aside0.mk (HC3.out.below hb1)
              have hblk1 := Aside0.mk HC1.out.blk
              obtain ⟨A7, c7, rfl⟩ := Kd.R_slice hR1
              clear hR1 hb1 hc hfz HC3 HM2 HB2 HC6 HL6
              generalize hrn : (rowUpto m i 20).length = n7 at *
              go_wp2_with (first
                  | (refine gate_ (.store 22 (.tmp 73) (.tmp 72)) rfl ?_; refine store_block rfl rfl 22 (.tmp 73) (.tmp 72) rfl (.slice A7 n7 c7) rfl rfl rfl rfl rfl hblk1.out hil ?_; intro w2 hw2)
                  | fail)
              go_roundg (20 - (i + 1))
              case measure => omega
              case rel =>
                subst hw2
                refine ⟨i + 1, by omega, by omega, by go_num, ⟨vals.set i (.slice A7 n7 c7), _, (HC1.out.put (World.grownBy.refl _ _) HR1.out).finish⟩, ⟨HM1.out.setCell _ (HM1.out.not_cells hblk1.out) _⟩, ⟨HB1.out.setCell HC1.out.ge _⟩⟩
        · have hi20z : ¬ (i : Int) < 20 := by omega
          have hie : i = 20 := by omega
          subst hie
          obtain ⟨vals, f, hU1⟩ := HU1.out
          have HV := Aside0.mk hU1.toS
          clear hU1 HU1
          go_wp2
          go_ret
          have h9 := HV.out
          rw [HUP.out] at h9
          exact ⟨_, rfl, h9, HB1.out⟩
theorem gram_Units.calls (A0 : Option Addr) (c0 : Nat) (l0 : List Rule') (r : List (List Int)) (w : World) (hr0 : Kd.C k26 w A0 l0.length l0) (hc0 : l0.length ≤ c0) (h : gram_Units.f l0 = some r) :
    Calls Try.prog 19 #[.slice A0 l0.length c0] w fun e w' => ∃ v0_ : Value, e = .returned (v0_) ∧ Kd.S (Kd.slice 3 (Kd.int .i64)) 22 w' w.heap.size (fun _ => True) v0_ r ∧ Below w.heap.size w w' := by
  unfold gram_Units.f at h
  split at h
  case isFalse => cases h
  case isTrue hu =>
  obtain rfl := Option.some.inj h
  exact units_walk A0 c0 l0 w hr0 hc0 hu
end Go.Proofs.Ytjomlfdkmdgclaa.P
end
section
namespace Go.Proofs.Ytjomlfdkmdgclaa.P
open Go.RowKit Go.Proofs.YtjomlfdkmdgclaaW.PrintWords Go.Proofs.YtjomlfdkmdgclaaW.PrintLast Go.Proofs.YtjomlfdkmdgclaaW.PrintMore
attribute [local go_sem] max2_int min2_int max_two min_two max_three min_three max_four min_four   
set_option linter.unusedVariables false
set_option linter.unusedSimpArgs false
inductive Reach (next : Int → List Int) (l0 : List Int) : Int → Prop
  | base {x : Int} : x ∈ l0 → Reach next l0 x
  | step {x y : Int} : Reach next l0 x → y ∈ next x → Reach next l0 y
def inSym (x : Int) : Prop := 0 ≤ x ∧ x < 20
theorem Reach.sym {next : Int → List Int} {l0 : List Int} (hd : ∀ x, inSym x → ∀ y ∈ next x, inSym y) (hl : ∀ x ∈ l0, inSym x) {x : Int} (h : Reach next l0 x) : inSym x := by
  induction h with
  | base h => exact hl _ h
  | step _ h ih => exact hd _ ih _ h
def symbols : List Int := (List.range 20).map fun (x : Nat) => (x : Int)
theorem mem_symbols (x : Int) : x ∈ symbols ↔ inSym x := by
  unfold symbols inSym
  rw [List.mem_map]
  constructor
  · rintro ⟨n, hn, rfl⟩
    rw [List.mem_range] at hn
    omega
  · rintro ⟨h0, h1⟩
    exact ⟨x.toNat, by rw [List.mem_range]; omega, by omega⟩
theorem symbols_sorted : symbols.Pairwise (· < ·) := by decide
theorem symbols_nodup : symbols.Nodup := by decide
open Classical in
noncomputable def reachL (next : Int → List Int) (l0 : List Int) : List Int := symbols.filter fun y => decide (Reach next l0 y)
theorem mem_reachL {next : Int → List Int} {l0 : List Int} (hd : ∀ x, inSym x → ∀ y ∈ next x, inSym y) (hl : ∀ x ∈ l0, inSym x) (y : Int) : y ∈ reachL next l0 ↔ Reach next l0 y := by
  unfold reachL
  rw [List.mem_filter, mem_symbols]
  simp only [decide_eq_true_eq]
  exact ⟨fun h => h.2, fun h => ⟨h.sym hd hl, h⟩⟩
theorem length_of_sub {l : List Int} (hn : l.Nodup) (hs : ∀ x ∈ l, inSym x) : l.length ≤ 20 := by
  have hp : l.Perm (symbols.filter fun x => decide (x ∈ l)) := (List.perm_ext_iff_of_nodup hn (symbols_nodup.filter _)).2 fun x => by
    rw [List.mem_filter, mem_symbols]
    simp only [decide_eq_true_eq]
    exact ⟨fun h => ⟨hs x h, h⟩, fun h => h.2⟩
  rw [hp.length_eq]
  exact List.length_filter_le _ symbols
theorem from_some_aux (next : Int → List Int) (B : Nat) (hB : B ≤ 1000000) (hlen : ∀ x, inSym x → (next x).length ≤ B) (hd : ∀ x, inSym x → ∀ y ∈ next x, inSym y) (l0 : List Int) (hl : ∀ x ∈ l0, inSym x) :
    ∀ (M : Nat) (m : List (Int × Int)) (q : List Int) (V : Nat), (∀ x ∈ q, Reach next l0 x) → (∀ x ∈ m.map (·.1), Reach next l0 x) → (m.map (·.1)).Nodup →
      (∀ x, 0 ≤ (mget m x).getD 0 ∧ (mget m x).getD 0 ≤ V) → (∀ x ∈ m.map (·.1), 1 ≤ (mget m x).getD 0) → (∀ x ∈ m.map (·.1), ∀ y ∈ next x, y ∈ q ∨ y ∈ m.map (·.1)) → (∀ x ∈ l0, x ∈ q ∨ x ∈ m.map (·.1)) →
      q.length + B * (20 - m.length) ≤ M → M + V ≤ 100000000 →
      ∃ k r, fromF next k m q = some r ∧ (∀ y, y ∈ r.map (·.1) ↔ Reach next l0 y) ∧ (r.map (·.1)).Nodup := by
  intro M
  induction M with
  | zero =>
    intro m q V hq hm hn hv hp hc h0 hM hV
    have hqe : q = [] := List.length_eq_zero_iff.1 (by omega)
    subst hqe
    have hml : m.length ≤ 20 := by have := length_of_sub hn (fun x hx => (hm x hx).sym hd hl); simpa using this
    refine ⟨1, m, by simp only [fromF]; rw [if_pos (by omega)], fun y => ⟨hm y, fun h => ?_⟩, hn⟩
    induction h with
    | base h => exact (h0 _ h).elim (fun h => by cases h) id
    | step _ h ih => exact (hc _ ih _ h).elim (fun h => by cases h) id
  | succ M ihM =>
    intro m q V hq hm hn hv hp hc h0 hM hV
    have hml : m.length ≤ 20 := by have := length_of_sub hn (fun x hx => (hm x hx).sym hd hl); simpa using this
    cases q with
    | nil =>
      refine ⟨1, m, by simp only [fromF]; rw [if_pos (by omega)], fun y => ⟨hm y, fun h => ?_⟩, hn⟩
      induction h with
      | base h => exact (h0 _ h).elim (fun h => by cases h) id
      | step _ h ih => exact (hc _ ih _ h).elim (fun h => by cases h) id
    | cons x q =>
      have hrx := hq x List.mem_cons_self
      have hsx := hrx.sym hd hl
      have hlx := hlen x hsx
      have hvx := hv x
      have hguard : (x :: q).length ≤ 1000000000 ∧ (next x).length ≤ 1000000000 ∧ 0 ≤ (mget m x).getD 0 ∧ (mget m x).getD 0 ≤ 1000000000000 := ⟨by omega, by omega, hvx.1, by omega⟩
      have hv2 : ∀ y, 0 ≤ (mget (mput m x ((mget m x).getD 0 + 1)) y).getD 0 ∧ (mget (mput m x ((mget m x).getD 0 + 1)) y).getD 0 ≤ ((V + 1 : Nat) : Int) := by
        intro y
        by_cases e : y = x
        · subst e
          rw [mget_mput_same]
          simp only [Option.getD_some]
          omega
        · rw [mget_mput_other _ _ _ e]
          have := hv y
          omega
      have hkeys := mput_keys x ((mget m x).getD 0 + 1) m
      have hp2 : ∀ y ∈ (mput m x ((mget m x).getD 0 + 1)).map (·.1), 1 ≤ (mget (mput m x ((mget m x).getD 0 + 1)) y).getD 0 := by
        intro y hy
        by_cases e : y = x
        · subst e
          rw [mget_mput_same]
          simp only [Option.getD_some]
          omega
        · rw [mget_mput_other _ _ _ e]
          refine hp y ?_
          rw [hkeys] at hy
          split at hy
          · exact hy
          · exact (List.mem_append.1 hy).elim id (fun h => absurd (List.mem_singleton.1 h) e)
      by_cases h0v : (mget m x).getD 0 = 0
      · have hxm : x ∉ m.map (·.1) := fun h => by have := hp x h; omega
        rw [if_neg hxm] at hkeys
        have hmlen : (mput m x ((mget m x).getD 0 + 1)).length = m.length + 1 := by
          have := congrArg List.length hkeys
          simpa using this
        have hn2 : ((mput m x ((mget m x).getD 0 + 1)).map (·.1)).Nodup := by
          rw [hkeys, List.nodup_append]
          refine ⟨hn, by simp, fun a ha b hb => ?_⟩
          rw [List.mem_singleton] at hb
          subst hb
          intro e
          subst e
          exact hxm ha
        have hm2 : ∀ y ∈ (mput m x ((mget m x).getD 0 + 1)).map (·.1), Reach next l0 y := by
          intro y hy
          rw [hkeys] at hy
          exact (List.mem_append.1 hy).elim (hm y) (fun h => by rw [List.mem_singleton.1 h]; exact hrx)
        have hml2 : m.length + 1 ≤ 20 := by
          have := length_of_sub hn2 (fun x hx => (hm2 x hx).sym hd hl)
          rw [List.length_map, hmlen] at this
          exact this
        obtain ⟨k, r, hk, hr⟩ := ihM (mput m x ((mget m x).getD 0 + 1)) (q ++ next x) (V + 1)
          (fun y hy => (List.mem_append.1 hy).elim (fun h => hq y (List.mem_cons_of_mem _ h)) (fun h => .step hrx h)) hm2 hn2 hv2 hp2
          (fun z hz y hy => by
            rw [hkeys] at hz ⊢
            rcases List.mem_append.1 hz with h | h
            · rcases hc z h y hy with h | h
              · rcases List.mem_cons.1 h with h | h
                · subst h; exact .inr (by simp)
                · exact .inl (List.mem_append_left _ h)
              · exact .inr (List.mem_append_left _ h)
            · rw [List.mem_singleton.1 h] at hy
              exact .inl (List.mem_append_right _ hy))
          (fun z hz => by
            rw [hkeys]
            rcases h0 z hz with h | h
            · rcases List.mem_cons.1 h with h | h
              · subst h; exact .inr (by simp)
              · exact .inl (List.mem_append_left _ h)
            · exact .inr (List.mem_append_left _ h))
          (by
            rw [hmlen, List.length_append]
            have e1 : 20 - m.length = (20 - (m.length + 1)) + 1 := by omega
            rw [e1, Nat.mul_add, Nat.mul_one, List.length_cons] at hM
            omega) (by omega)
        exact ⟨k + 1, r, by simp only [fromF]; rw [if_pos hguard, if_pos h0v]; exact hk, hr⟩
      · have hxm : x ∈ m.map (·.1) := by
          rw [← mget_isSome]
          cases h : mget m x with
          | none => rw [h] at h0v; simp at h0v
          | some v => rfl
        rw [if_pos hxm] at hkeys
        have hmlen : (mput m x ((mget m x).getD 0 + 1)).length = m.length := by
          have := congrArg List.length hkeys
          simpa using this
        obtain ⟨k, r, hk, hr⟩ := ihM (mput m x ((mget m x).getD 0 + 1)) q (V + 1) (fun y hy => hq y (List.mem_cons_of_mem _ hy)) (by rw [hkeys]; exact hm) (by rw [hkeys]; exact hn) hv2 hp2
          (fun z hz y hy => by
            rw [hkeys] at hz ⊢
            rcases hc z hz y hy with h | h
            · rcases List.mem_cons.1 h with h | h
              · subst h; exact .inr hxm
              · exact .inl h
            · exact .inr h)
          (fun z hz => by
            rw [hkeys]
            rcases h0 z hz with h | h
            · rcases List.mem_cons.1 h with h | h
              · subst h; exact .inr hxm
              · exact .inl h
            · exact .inr h)
          (by rw [hmlen]; rw [List.length_cons] at hM; omega) (by omega)
        exact ⟨k + 1, r, by simp only [fromF]; rw [if_pos hguard, if_neg h0v]; exact hk, hr⟩
theorem from_reach (next : Int → List Int) (hlen : ∀ x, inSym x → (next x).length ≤ 1000000) (hd : ∀ x, inSym x → ∀ y ∈ next x, inSym y) (l0 : List Int) (hl : ∀ x ∈ l0, inSym x) (hl0 : l0.length ≤ 1000000) :
    ∃ k r, fromF next k [] l0 = some r ∧ sortI (r.map (·.1)) = reachL next l0 := by
  obtain ⟨k, r, hk, hm, hn⟩ := from_some_aux next 1000000 (Nat.le_refl _) hlen hd l0 hl (l0.length + 1000000 * 20) [] l0 0 (fun x hx => .base hx) (by simp) (by simp) (fun x => by simp [mget]) (by simp) (by simp) (fun x hx => .inl hx) (by simp) (by omega)
  refine ⟨k, r, hk, ?_⟩
  have hp : (r.map (·.1)).Perm (reachL next l0) := (List.perm_ext_iff_of_nodup hn (symbols_nodup.filter _)).2 fun y => (hm y).trans (mem_reachL hd hl y).symm
  have h2 : sortI (reachL next l0) = reachL next l0 := by
    unfold sortI
    refine List.mergeSort_of_pairwise ?_
    refine (symbols_sorted.filter _).imp ?_
    intro a b h
    simp [leI]
    omega
  rw [← h2]
  exact mergeSort_of_perm_i hp
end Go.Proofs.Ytjomlfdkmdgclaa.P
end
section
namespace Go.Proofs.Ytjomlfdkmdgclaa.P
open Go.RowKit Go.Proofs.YtjomlfdkmdgclaaW.PrintWords Go.Proofs.YtjomlfdkmdgclaaW.PrintLast Go.Proofs.YtjomlfdkmdgclaaW.PrintMore
attribute [local go_sem] max2_int min2_int max_two min_two max_three min_three max_four min_four   
set_option linter.unusedVariables false
set_option linter.unusedSimpArgs false
theorem indexFunc_rule (fv : Value) (A0 : Option Addr) (c0 : Nat) (l0 : List S26) (p : S26 → Bool) (w : World) (hr0 : Kd.C k26 w A0 l0.length l0) (hc0 : l0.length ≤ c0)
   (hf : FnTells Try.prog w (AggRel k26) fv p) :
   Calls Try.prog 44 #[.slice A0 l0.length c0, fv] w fun e w' => e = .returned (.int .i64 (idxOf p l0)) ∧ Below w.heap.size w w' := by
  obtain ⟨g, pre, lb, rfl, eg, hq⟩ := hf
  have hl : l0.length ≤ 9223372036854775807 := hr0.2.1
  have HR := Aside0.mk hr0
  clear hr0
  have HQ := Aside0.mk hq
  clear hq
  go_enter Try.func44, Try.ntmps44
  go_wp2
  go_loopg [8] l0.length (fun gg s8 wr => ∃ kk : Nat, kk ≤ l0.length ∧ l0.length - kk ≤ gg ∧ s8 = .int .i64 kk ∧ Aside0 (Below w.heap.size w wr) ∧ Aside0 (∀ j, j < kk → ∀ h : j < l0.length, p l0[j] = false))
  case atStart => exact ⟨0, Nat.zero_le _, by omega, rfl, ⟨Below.refl _ w⟩, ⟨fun j hj => absurd hj (Nat.not_lt_zero _)⟩⟩
  case round =>
    obtain ⟨kk, hkk, hg, rfl, BW, A⟩ := hrel
    by_cases hlt : kk < l0.length
    · have hltz : (kk : Int) < (l0.length : Int) := by omega
      obtain ⟨ad, A1, c1, A3, c3, hA, h0, h1, h2, h3, h4, l1, g1, l3, g3⟩ := at_T26 (Kd.C_below HR.out BW.out) kk (by omega) hltz
      have hcall := HQ.out wr (rd_T26 l0 kk) _ BW.out ⟨_, rfl, k26_mk wr (rd_T26 l0 kk) l1 g1 l3 g3⟩
      have hx : rd_T26 l0 kk = l0[kk] := by simp [rd_T26, List.getD_eq_getElem?_getD, List.getElem?_eq_getElem hlt]
      have HX := Aside0.mk hx
      generalize rd_T26 l0 kk = y at *
      rw [Int.toNat_natCast] at h0 h1 h2 h3 h4
      subst hA
      clear hx l1 g1 l3 g3
      cases hp : p y with
      | true =>
        rw [hp] at hcall
        go_wp2_with fail
        refine hcall.mono ?_
        rintro e w' ⟨rfl, hb'⟩
        go_wp2
        go_ret
        refine ⟨?_, below_then BW.out BW.out.size hb'⟩
        rw [idxOf_hit hlt A.out (by rw [← HX.out]; exact hp)]
        rfl
      | false =>
        rw [hp] at hcall
        go_wp2_with fail
        refine hcall.mono ?_
        rintro e w' ⟨rfl, hb'⟩
        go_wp2
        go_roundg (l0.length - (kk + 1))
        case measure => omega
        case rel =>
          refine ⟨kk + 1, by omega, by omega, by go_num, ⟨below_then BW.out BW.out.size hb'⟩, ⟨fun j hj hlt => ?_⟩⟩
          by_cases e : j = kk
          · subst e
            rw [← HX.out]; exact hp
          · exact A.out j (by omega) hlt
    · have hltz : ¬ (kk : Int) < (l0.length : Int) := by omega
      have : kk = l0.length := by omega
      subst this
      go_wp2
      go_ret
      refine ⟨?_, BW.out⟩
      rw [idxOf_miss A.out]
      rfl
theorem containsFunc_rule (fv : Value) (A0 : Option Addr) (c0 : Nat) (l0 : List S26) (p : S26 → Bool) (w : World) (hr0 : Kd.C k26 w A0 l0.length l0) (hc0 : l0.length ≤ c0)
   (hf : FnTells Try.prog w (AggRel k26) fv p) :
   Calls Try.prog 36 #[.slice A0 l0.length c0, fv] w fun e w' => e = .returned (.bool (l0.any p)) ∧ Below w.heap.size w w' := by
  have hc := indexFunc_rule fv A0 c0 l0 p w hr0 hc0 hf
  rw [← idxOf_ge]
  clear hr0 hf
  generalize idxOf p l0 = q at hc
  go_enter Try.func36, Try.ntmps36
  go_wp2_with fail
  refine hc.mono ?_
  rintro e w' ⟨rfl, hb'⟩
  go_wp2
  go_ret
  exact ⟨rfl, hb'⟩
end Go.Proofs.Ytjomlfdkmdgclaa.P
end
section
namespace Go.Proofs.Ytjomlfdkmdgclaa.P
open Go.RowKit Go.Proofs.YtjomlfdkmdgclaaW.PrintWords Go.Proofs.YtjomlfdkmdgclaaW.PrintLast Go.Proofs.YtjomlfdkmdgclaaW.PrintMore
attribute [local go_sem] max2_int min2_int max_two min_two max_three min_three max_four min_four   
set_option linter.unusedVariables false
set_option linter.unusedSimpArgs false
noncomputable def slices_Index_int_int.l0 : Nat → List Int → Int → Int → Int → Option (Int)
  | 0, _, _, _, _ => none
  | k + 1, x0, x1, x7, x8 => if x8 < x7 then (if 0 ≤ x8 then (if x8 < (x0.length : Int) then (if x1 = (rd x0 x8) then (some x8) else (slices_Index_int_int.l0 k x0 x1 x7 (wrap64 (x8 + 1)))) else (none)) else (none)) else (some (-1))
noncomputable def slices_Index_int_int.f (k : Nat) (l0 : List Int) (a1 : Int) : Option (Int) := slices_Index_int_int.l0 k l0 a1 (l0.length : Int) 0
theorem slices_Index_int_int.mono_l : ∀ k, (∀ y0 y1 y2 y3, LeO (slices_Index_int_int.l0 k y0 y1 y2 y3) (slices_Index_int_int.l0 (k + 1) y0 y1 y2 y3))
  | 0 => fun _ _ _ _ r h => by simp [slices_Index_int_int.l0] at h
  | k + 1 => by
    have ih0 := slices_Index_int_int.mono_l k
    · intro y0 y1 y2 y3
      unfold slices_Index_int_int.l0
      repeat' first
      | (with_reducible exact ih0 _ _ _ _)
      | (with_reducible exact LeO.refl _)
      | (with_reducible exact LeO.none _)
      | (with_reducible refine LeO.ite ?_ ?_)
      | (with_reducible refine LeO.bind ?_ (fun _ => ?_))
      | exact ih0 _ _ _ _
      | exact LeO.none _
      | refine LeO.ite ?_ ?_
      | refine LeO.bind ?_ (fun _ => ?_)
theorem slices_Index_int_int.mono : ∀ a0 a1 k, LeO (slices_Index_int_int.f k a0 a1) (slices_Index_int_int.f (k + 1) a0 a1) := by
  intro a0 a1 k
  have ih0 := slices_Index_int_int.mono_l k
  unfold slices_Index_int_int.f
  repeat' first
      | (with_reducible exact ih0 _ _ _ _)
      | (with_reducible exact LeO.refl _)
      | (with_reducible exact LeO.none _)
      | (with_reducible refine LeO.ite ?_ ?_)
      | (with_reducible refine LeO.bind ?_ (fun _ => ?_))
      | exact ih0 _ _ _ _
      | exact LeO.none _
      | refine LeO.ite ?_ ?_
      | refine LeO.bind ?_ (fun _ => ?_)
set_option maxHeartbeats 8000000 in
set_option maxRecDepth 100000 in
theorem slices_Index_int_int.calls (k : Nat) (A0 : Option Addr) (c0 : Nat) (l0 : List Int) (a1 : Int) (r : Int) (w : World) (hr0 : Kd.C (Kd.int .i64) w A0 l0.length l0) (hc0 : l0.length ≤ c0) (h : slices_Index_int_int.f k l0 a1 = some r) :
    Calls Try.prog 45 #[.slice A0 l0.length c0, .int .i64 a1] w fun e w' => e = .returned (.int .i64 r) ∧ Drawn0 w w' := by
  have HR0 := Aside0.mk hr0
  have HC0 := Aside0.mk hc0
  clear hr0 hc0
  have H : (slices_Index_int_int.l0 k l0 a1 (l0.length : Int) 0) = some r := h
  clear h
  have H' := Aside0.mk H
  clear H
  go_enter Try.func45, Try.ntmps45
  go_wp2
  go_loopg [8] k (fun kq v8 w' => ∃ (x8_1 : Int), v8 = .int .i64 x8_1 ∧ Aside0 (slices_Index_int_int.l0 kq l0 a1 (l0.length : Int) x8_1 = some r) ∧ Aside0 (kq ≤ k) ∧ Drawn0 w w')
  case atStart => exact ⟨(0), (by first | rfl | (simp; done) | (simp [*]; done)), H', ⟨Nat.le_refl _⟩, by repeat (first | exact Drawn0.refl _ | apply Drawn0.step)⟩
  case round =>
    clear H'
    try clear p2
    obtain ⟨x8_1, rfl, HA, HK1, ⟨m1, rfl⟩⟩ := hrel
    cases gk with
    | zero => exact absurd HA.out (by simp [slices_Index_int_int.l0])
    | succ k1 =>
      have H := HA.out
      clear HA
      simp only [slices_Index_int_int.l0] at H
      by_cases c3 : x8_1 < (l0.length : Int)
      · rw [if_pos c3] at H
        have c3b0 : decide (x8_1 < (l0.length : Int)) = true := decide_eq_true c3
        clear c3
        by_cases c4 : 0 ≤ x8_1
        · rw [if_pos c4] at H
          have c4b0 : decide (0 ≤ x8_1) = true := decide_eq_true c4
          clear c4
          by_cases c5 : x8_1 < (l0.length : Int)
          · rw [if_pos c5] at H
            have c5b0 : decide (x8_1 < (l0.length : Int)) = true := decide_eq_true c5
            clear c5
            by_cases c6 : a1 = (rd l0 x8_1)
            · rw [if_pos c6] at H
              have c6b0 : (a1 == (rd l0 x8_1)) = true := beq_iff_eq.mpr c6
              have c6b1 : (a1 != (rd l0 x8_1)) = false := bne_eq_false_iff_eq.mpr c6
              clear c6
              obtain rfl := Option.some.inj H
              have p213 : 0 ≤ (x8_1 : Int) := of_decide_eq_true (by first | (with_reducible assumption) | assumption)
              have q213 : x8_1 < (l0.length : Int) := of_decide_eq_true (by first | (with_reducible assumption) | assumption)
              obtain ⟨ad213, e213, hx213_0⟩ := Kd.at_int HR0.out x8_1 p213 q213
              cases e213
              replace p213 := eq_true p213
              replace q213 := eq_true q213
              go_wp2
              go_ret
              exact ⟨by first | rfl | (simp; done) | (simp [*]; done), by repeat (first | exact Drawn0.refl _ | apply Drawn0.step)⟩
            · rw [if_neg c6] at H
              have c6b0 : (a1 == (rd l0 x8_1)) = false := beq_eq_false_iff_ne.mpr c6
              have c6b1 : (a1 != (rd l0 x8_1)) = true := bne_iff_ne.mpr c6
              have H' := Aside0.mk H
              clear H
              have p213 : 0 ≤ (x8_1 : Int) := of_decide_eq_true (by first | (with_reducible assumption) | assumption)
              have q213 : x8_1 < (l0.length : Int) := of_decide_eq_true (by first | (with_reducible assumption) | assumption)
              obtain ⟨ad213, e213, hx213_0⟩ := Kd.at_int HR0.out x8_1 p213 q213
              cases e213
              replace p213 := eq_true p213
              replace q213 := eq_true q213
              go_wp2
              go_roundg k1
              case measure => have := HK1.out; omega
              case rel => exact ⟨(wrap64 (x8_1 + 1)), (by first | rfl | (simp; done) | (simp [*]; done)), H', ⟨by have := HK1.out; omega⟩, by repeat (first | exact Drawn0.refl _ | apply Drawn0.step)⟩
          · rw [if_neg c5] at H
            exact absurd H (by simp)
        · rw [if_neg c4] at H
          exact absurd H (by simp)
      · rw [if_neg c3] at H
        have c3b0 : decide (x8_1 < (l0.length : Int)) = false := decide_eq_false c3
        clear c3
        obtain rfl := Option.some.inj H
        go_wp2
        go_ret
        exact ⟨by first | rfl | (simp; done) | (simp [*]; done), by repeat (first | exact Drawn0.refl _ | apply Drawn0.step)⟩
noncomputable def slices_Contains_int_int.f (k : Nat) (l0 : List Int) (a1 : Int) : Option (Bool) := (slices_Index_int_int.f k l0 a1).bind fun t214 => (some (decide (t214 ≥ 0)))
theorem slices_Contains_int_int.mono : ∀ a0 a1 k, LeO (slices_Contains_int_int.f k a0 a1) (slices_Contains_int_int.f (k + 1) a0 a1) := by
  intro a0 a1 k
  unfold slices_Contains_int_int.f
  repeat' first
      | (with_reducible exact slices_Index_int_int.mono _ _ _)
      | (with_reducible exact LeO.refl _)
      | (with_reducible exact LeO.none _)
      | (with_reducible refine LeO.ite ?_ ?_)
      | (with_reducible refine LeO.bind ?_ (fun _ => ?_))
      | exact slices_Index_int_int.mono _ _ _
      | exact LeO.none _
      | refine LeO.ite ?_ ?_
      | refine LeO.bind ?_ (fun _ => ?_)
set_option maxHeartbeats 8000000 in
set_option maxRecDepth 100000 in
theorem slices_Contains_int_int.calls (k : Nat) (A0 : Option Addr) (c0 : Nat) (l0 : List Int) (a1 : Int) (r : Bool) (w : World) (hr0 : Kd.C (Kd.int .i64) w A0 l0.length l0) (hc0 : l0.length ≤ c0) (h : slices_Contains_int_int.f k l0 a1 = some r) :
    Calls Try.prog 38 #[.slice A0 l0.length c0, .int .i64 a1] w fun e w' => e = .returned (.bool r) ∧ Drawn0 w w' := by
  have HR0 := Aside0.mk hr0
  have HC0 := Aside0.mk hc0
  clear hr0 hc0
  have H : ((slices_Index_int_int.f k l0 a1).bind fun t214 => (some (decide (t214 ≥ 0)))) = some r := h
  clear h
  replace H := Option.bind_eq_some_iff.mp H
  obtain ⟨t214, A30, H⟩ := H
  replace H : (some (decide (t214 ≥ 0))) = some r := H
  have A3 := Aside0.mk A30
  clear A30
  obtain rfl := Option.some.inj H
  go_enter Try.func38, Try.ntmps38
  go_wp2_with (first | ((with_reducible refine gate_callee (f := 45) rfl ?_); refine goesL_ (some 7) rfl rfl Try.func45 (by kernel_rfl) rfl #[.slice A0 l0.length c0, .int .i64 a1] rfl (by (try simp only [List.map_toArray, List.map_cons, List.map_nil]); first | done | rfl | (simp only [List.length_drop, List.length_take]; rfl)) ?_; (with_reducible refine (slices_Index_int_int.calls k _ _ l0 a1 t214 _ ?side1 ?side2 A3.out).mono ?_); (case side1 => repeat (first | exact HR0.out | (with_reducible refine Kd.C_alloc ?_ _) | (with_reducible refine Kd.C_drewN ?_ _) | (with_reducible refine Kd.C_drew ?_))); (case side2 => exact HC0.out); rintro e w' ⟨rfl, ⟨nd, rfl⟩⟩; refine ⟨_, rfl, ?_⟩))
  go_ret
  exact ⟨by first | rfl | (simp; done) | (simp [*]; done), by repeat (first | exact Drawn0.refl _ | apply Drawn0.step)⟩
end Go.Proofs.Ytjomlfdkmdgclaa.P
end
section
namespace Go.Proofs.Ytjomlfdkmdgclaa.P
open Go.RowKit Go.Proofs.YtjomlfdkmdgclaaW.PrintWords Go.Proofs.YtjomlfdkmdgclaaW.PrintLast Go.Proofs.YtjomlfdkmdgclaaW.PrintMore
attribute [local go_sem] max2_int min2_int max_two min_two max_three min_three max_four min_four   
set_option linter.unusedVariables false
set_option linter.unusedSimpArgs false
theorem wrap_in {n : Int} (h : -9223372036854775808 ≤ n ∧ n ≤ 9223372036854775807) : wrap64 n = n := by unfold wrap64; omega
theorem index_some (l : List Int) (a : Int) (hl : l.length ≤ 9223372036854775807) : ∀ (n k : Nat) (x : Nat), x ≤ l.length → l.length - x = n → n < k → ∃ i : Int, slices_Index_int_int.l0 k l a (l.length : Int) x = some i ∧ (decide (i ≥ 0) = decide (a ∈ l.drop x)) := by
  intro n
  induction n with
  | zero =>
    intro k x hx hn hk
    obtain ⟨k, rfl⟩ : ∃ j, k = j + 1 := ⟨k - 1, by omega⟩
    have he : x = l.length := by omega
    subst he
    refine ⟨-1, ?_, by simp⟩
    simp only [slices_Index_int_int.l0]
    rw [if_neg (by omega)]
  | succ n ih =>
    intro k x hx hn hk
    obtain ⟨k, rfl⟩ : ∃ j, k = j + 1 := ⟨k - 1, by omega⟩
    have hlt : x < l.length := by omega
    simp only [slices_Index_int_int.l0]
    rw [if_pos (by omega), if_pos (by omega), if_pos (by omega), rd_getElem l x hlt, List.drop_eq_getElem_cons hlt]
    by_cases he : a = l[x]
    · rw [if_pos he]
      exact ⟨x, rfl, by rw [← he, decide_eq_true (Int.natCast_nonneg x : (x : Int) ≥ 0), decide_eq_true List.mem_cons_self]⟩
    · rw [if_neg he, wrap_in (by omega)]
      obtain ⟨i, h1, h2⟩ := ih k (x + 1) (by omega) (by omega) (by omega)
      refine ⟨i, h1, ?_⟩
      rw [h2]
      exact decide_eq_decide.2 ⟨fun h => List.mem_cons_of_mem _ h, fun h => (List.mem_cons.1 h).elim (fun h => absurd h he) id⟩
theorem contains_some (l : List Int) (a : Int) (k : Nat) (hl : l.length ≤ 9223372036854775807) (hk : l.length < k) : slices_Contains_int_int.f k l a = some (decide (a ∈ l)) := by
  obtain ⟨i, h1, h2⟩ := index_some l a hl l.length k 0 (Nat.zero_le _) rfl hk
  unfold slices_Contains_int_int.f slices_Index_int_int.f
  rw [show ((0 : Nat) : Int) = 0 from rfl] at h1
  rw [h1]
  simp only [Option.bind_some, h2, List.drop_zero]
def rightR (r : Rule') : Bool := rightP r.f0 r.f1 r.f2.f0 r.f2.f1 r.f3
theorem check1_tells (w : World) : FnTells Try.prog w (AggRel k26) (.func (.func 37) #[] #[]) (fun r => !rightR r) := by
  refine ⟨_, _, _, rfl, enters_of Try.func37 (by kernel_rfl) rfl, ?_⟩
  rintro W x v hb ⟨cs, rfl, hK⟩
  obtain ⟨A1, c1, A3, c3, rfl, l1, g1, l3, g3⟩ := k26_open hK
  clear hb hK
  have hcall := gram_Right.calls x.f0 A1 c1 x.f1 x.f2.f0 A3 c3 x.f2.f1 x.f3 (rightR x) (W.alloc (.cells #[.int .i64 x.f0, .slice A1 x.f1.length c1, .int .i64 x.f2.f0, .slice A3 x.f2.f1.length c3, .int .i64 x.f3] 26)) (Kd.C_alloc g1 _) l1 (Kd.C_alloc g3 _) l3 rfl
  clear g1 g3
  cases hp : rightR x with
  | true =>
    rw [hp] at hcall
    go_enter Try.func37, Try.ntmps37
    go_wp2_with fail
    refine hcall.mono ?_
    rintro e w' ⟨rfl, hb'⟩
    have HB := Aside0.mk (below_step (below_alloc (Below.refl _ W) _) hb')
    go_wp2
    go_ret
    exact ⟨ret_bool (by rw [hp]; rfl), HB.out⟩
  | false =>
    rw [hp] at hcall
    go_enter Try.func37, Try.ntmps37
    go_wp2_with fail
    refine hcall.mono ?_
    rintro e w' ⟨rfl, hb'⟩
    have HB := Aside0.mk (below_step (below_alloc (Below.refl _ W) _) hb')
    go_wp2
    go_ret
    exact ⟨ret_bool (by rw [hp]; rfl), HB.out⟩
theorem check2_tells (w : World) (g : Nat) (A : Option Addr) (c : Nat) (rows : List (List Int)) (hg : w.cell? ⟨g, 0, none⟩ = some (.slice A rows.length c)) (hlen : rows.length = 20) (hC : Kd.C (Kd.slice 3 (Kd.int .i64)) w A rows.length rows) :
    FnLists Try.prog w inSym (.func (.func 40) #[] #[.pointer (some ⟨g, 0, none⟩)]) (fun y => rd_L2 rows y) := by
  refine ⟨_, _, _, rfl, enters_of Try.func40 (by kernel_rfl) rfl, ?_⟩
  rintro W x hb ⟨hx0, hx1⟩
  have hxl : x < (rows.length : Int) := by omega
  have hcell := pw_cell_below hb hg
  obtain ⟨ad, A0, c0, rfl, h0, h1, h2⟩ := at_L2 (Kd.C_below hC hb) x hx0 hxl
  have hx0' : ¬ x < 0 := by omega
  clear hb hg hC
  have H2 := Aside0.mk h2
  clear h2
  go_enter Try.func40, Try.ntmps40
  go_wp2
  go_ret
  exact ⟨A0, c0, rfl, h1, H2.out, Below.refl _ _⟩
def rowsNext (l0 : List Rule') : Int → List Int := fun y => rd_L2 (unitsP l0) y
theorem unitsP_length (l0 : List Rule') : (unitsP l0).length = 20 := by simp [unitsP]
theorem rowsNext_at (l0 : List Rule') (x : Nat) (h : x < 20) : rowsNext l0 x = rowUpto (foundL l0) x 20 := by
  unfold rowsNext rd_L2 unitsP
  rw [Int.toNat_natCast, List.getD_eq_getElem?_getD, List.getElem?_map, List.getElem?_range h]
  rfl
theorem rowsNext_len (l0 : List Rule') (x : Int) (h : inSym x) : (rowsNext l0 x).length ≤ 20 := by
  obtain ⟨n, rfl⟩ : ∃ n : Nat, x = n := ⟨x.toNat, by have := h.1; omega⟩
  rw [rowsNext_at l0 n (by have := h.2; omega)]
  exact rowUpto_len _ _ _
theorem rowsNext_sym (l0 : List Rule') (x : Int) (h : inSym x) : ∀ y ∈ rowsNext l0 x, inSym y := by
  obtain ⟨n, rfl⟩ : ∃ n : Nat, x = n := ⟨x.toNat, by have := h.1; omega⟩
  rw [rowsNext_at l0 n (by have := h.2; omega)]
  intro y hy
  exact (mem_symbols y).1 (List.mem_filter.1 hy).1
noncomputable def leadsBack (l0 : List Rule') (x : Int) : Bool := decide (x ∈ reachL (rowsNext l0) (rowsNext l0 x))
noncomputable def checkP (l0 : List Rule') : Bool := decide (l0.length ≤ 60) && (l0.all rightR && symbols.all fun x => !leadsBack l0 x)
noncomputable def gram_Check.f (l0 : List Rule') : Option Bool := some (checkP l0)
theorem unitsB_of (l0 : List Rule') (h1 : l0.length ≤ 60) (h2 : l0.all rightR = true) : unitsB l0 = true := by
  unfold unitsB
  rw [Bool.and_eq_true]
  refine ⟨List.all_eq_true.2 fun r hr => ?_, decide_eq_true (by omega)⟩
  have h3 := List.all_eq_true.1 h2 r hr
  unfold rightR rightP symbolB at h3
  simp only [Bool.and_eq_true, decide_eq_true_eq] at h3
  exact decide_eq_true h3.1
theorem leadsBack_calls (l0 : List Rule') (fv : Value) (A : Option Addr) (c : Nat) (x : Int) (hx : inSym x) (w : World) (hf : FnLists Try.prog w inSym fv (rowsNext l0)) (hC : Kd.C (Kd.int .i64) w A (rowsNext l0 x).length (rowsNext l0 x)) (hc : (rowsNext l0 x).length ≤ c) :
    Calls Try.prog 39 #[.slice A (rowsNext l0 x).length c, fv] w fun e w' => ∃ v0_ : Value, e = .returned (v0_) ∧ Kd.R (Kd.int .i64) 3 w' w.heap.size (fun _ => True) v0_ (reachL (rowsNext l0) (rowsNext l0 x)) ∧ Below w.heap.size w w' := by
  obtain ⟨k, r, h1, h2⟩ := from_reach (rowsNext l0) (fun y hy => Nat.le_trans (rowsNext_len l0 y hy) (by omega)) (rowsNext_sym l0) (rowsNext l0 x) (rowsNext_sym l0 x hx) (Nat.le_trans (rowsNext_len l0 x hx) (by omega))
  rw [← h2]
  exact from_walk fv (rowsNext l0) inSym (fun y hy => ⟨⟨by have := hy.1; omega, by have := hy.2; omega⟩, rowsNext_sym l0 y hy⟩) k A c (rowsNext l0 x) r w hf (rowsNext_sym l0 x hx) hC hc h1
theorem reachL_length (next : Int → List Int) (l : List Int) : (reachL next l).length ≤ 20 := Nat.le_trans (List.length_filter_le _ _) (by decide)
set_option maxHeartbeats 4000000 in
set_option maxRecDepth 100000 in
theorem check_walk (A0 : Option Addr) (c0 : Nat) (l0 : List Rule') (w : World) (hr0 : Kd.C k26 w A0 l0.length l0) (hc0 : l0.length ≤ c0) :
    Calls Try.prog 21 #[.slice A0 l0.length c0] w fun e w' => e = .returned (.bool (checkP l0)) ∧ Below w.heap.size w w' := by
  by_cases h60 : l0.length ≤ 60
  · have h60z : ¬ ((l0.length : Int) > 60) := by omega
    have hcall := containsFunc_rule _ A0 c0 l0 _ w hr0 hc0 (check1_tells w)
    rw [any_not_all] at hcall
    have HR := Aside0.mk hr0
    have HC := Aside0.mk hc0
    clear hr0 hc0
    cases hall : l0.all rightR with
    | false =>
      rw [hall] at hcall
      have hz : checkP l0 = false := by simp [checkP, hall]
      go_enter Try.func21, Try.ntmps21
      go_wp2_with fail
      refine hcall.mono ?_
      rintro e w' ⟨rfl, hb'⟩
      have HB := Aside0.mk hb'
      clear hb'
      go_wp2
      go_ret
      exact ⟨ret_bool hz.symm, HB.out⟩
    | true =>
      rw [hall] at hcall
      have hu := unitsB_of l0 h60 hall
      go_enter Try.func21, Try.ntmps21
      go_wp2_with fail
      refine hcall.mono ?_
      rintro e w1 ⟨rfl, hb'⟩
      have HB1 := Aside0.mk hb'
      have HR1 := Aside0.mk (Kd.C_below HR.out hb')
      clear hb' hcall
      go_wp2_with fail
      refine (units_walk A0 c0 l0 w1 HR1.out HC.out hu).mono ?_
      rintro e w2 ⟨v2, rfl, hS, hb2⟩
      obtain ⟨A2, c2, rfl, hc2, hC2⟩ := Kd.S_reads hS
      have hlen := unitsP_length l0
      have HB2 := Aside0.mk (below_step HB1.out hb2)
      have HF0 := Aside0.mk hC2
      clear hS hb2 hc2 hC2
      rw [hlen]
      have HLN := Aside0.mk hlen
      clear hlen
      have HG := Aside0.mk (cell_new0 w2 (.slice A2 20 c2) 37)
      have HB3 := Aside0.mk (below_alloc HB2.out (.cells #[.slice A2 20 c2] 37))
      have HC3 := Aside0.mk (Kd.C_alloc HF0.out (.cells #[.slice A2 20 c2] 37))
      clear HF0 HB2
      have HFN : Aside0 (FnLists Try.prog (w2.alloc (.cells #[.slice A2 20 c2] 37)) inSym (.func (.func 40) #[] #[.pointer (some ⟨w2.heap.size, 0, none⟩)]) (rowsNext l0)) :=
        ⟨check2_tells _ w2.heap.size A2 c2 (unitsP l0) (by rw [HLN.out]; exact HG.out) HLN.out HC3.out⟩
      go_wp2
      generalize w2.heap.size = g at *
      generalize (w2.alloc (.cells #[.slice A2 20 c2] 37)) = w3 at *
      go_loopg [17] 20 (fun gg s17 wr => ∃ kk : Nat, kk ≤ 20 ∧ 20 - kk ≤ gg ∧ s17 = .int .i64 kk ∧ Aside0 (Below w3.heap.size w3 wr) ∧ Aside0 (∀ j : Nat, j < kk → leadsBack l0 j = false))
      case atStart => exact ⟨0, by omega, by omega, rfl, ⟨Below.refl _ _⟩, ⟨fun j hj => absurd hj (Nat.not_lt_zero _)⟩⟩
      case round =>
        obtain ⟨kk, hkk, hg, rfl, BW, AB⟩ := hrel
        by_cases hlt : kk < 20
        · have hltz : (kk : Int) < 20 := by omega
          have hsym : inSym (kk : Int) := ⟨by omega, by omega⟩
          have HFN2 : Aside0 (FnLists Try.prog wr inSym (.func (.func 40) #[] #[.pointer (some ⟨g, 0, none⟩)]) (rowsNext l0)) := by
            obtain ⟨g', pre, lb, e1, e2, e3⟩ := HFN.out
            exact ⟨g', pre, lb, e1, e2, fun W x hb hd => e3 W x (BW.out.trans (hb.mono BW.out.size)) hd⟩
          obtain ⟨ad, A4, c4, hA, h0, h1, h2⟩ := at_L2 (Kd.C_below HC3.out BW.out) kk (by omega) (by rw [HLN.out]; exact hltz)
          rw [Int.toNat_natCast] at h0
          subst hA
          have hrow : rd_L2 (unitsP l0) (kk : Int) = rowsNext l0 kk := rfl
          rw [hrow] at h0 h1 h2
          have H1 := Aside0.mk h1
          have H2 := Aside0.mk h2
          clear hrow h1 h2
          go_wp2_with fail
          refine (leadsBack_calls l0 _ A4 c4 kk hsym wr HFN2.out H2.out H1.out).mono ?_
          rintro e w4 ⟨v4, rfl, hR4, hb4⟩
          obtain ⟨A5, c5, rfl, hc5, hC5⟩ := Kd.R_reads hR4
          have HB4 := Aside0.mk (below_step BW.out hb4)
          have HC5 := Aside0.mk hC5
          have HL5 := Aside0.mk hc5
          have hcs := contains_some (reachL (rowsNext l0) (rowsNext l0 kk)) kk 100 (Nat.le_trans (reachL_length _ _) (by omega)) (Nat.lt_of_le_of_lt (reachL_length _ _) (by omega))
          have HCS := Aside0.mk hcs
          clear hR4 hb4 hC5 hc5 hcs h0
          have hlb : decide ((kk : Int) ∈ reachL (rowsNext l0) (rowsNext l0 kk)) = leadsBack l0 kk := rfl
          have HLB := Aside0.mk hlb
          clear hlb
          cases hb : leadsBack l0 kk with
          | true =>
            have HCS2 : Aside0 (slices_Contains_int_int.f 100 (reachL (rowsNext l0) (rowsNext l0 kk)) kk = some true) := ⟨by rw [HCS.out, HLB.out, hb]⟩
            have hz : checkP l0 = false := by
              unfold checkP
              have : (symbols.all fun x => !leadsBack l0 x) = false := List.all_eq_false.2 ⟨kk, (mem_symbols _).2 hsym, by simp [hb]⟩
              rw [this, Bool.and_false, Bool.and_false]
            go_wp2_with fail
            refine (slices_Contains_int_int.calls 100 A5 c5 _ kk true w4 HC5.out HL5.out HCS2.out).mono ?_
            rintro e w' ⟨rfl, ⟨nd, rfl⟩⟩
            go_wp2
            go_ret
            exact ⟨ret_bool hz.symm, pw_below_drewN (HB3.out.trans (HB4.out.mono HB3.out.size)) _⟩
          | false =>
            have HCS2 : Aside0 (slices_Contains_int_int.f 100 (reachL (rowsNext l0) (rowsNext l0 kk)) kk = some false) := ⟨by rw [HCS.out, HLB.out, hb]⟩
            go_wp2_with fail
            refine (slices_Contains_int_int.calls 100 A5 c5 _ kk false w4 HC5.out HL5.out HCS2.out).mono ?_
            rintro e w' ⟨rfl, ⟨nd, rfl⟩⟩
            go_wp2
            go_roundg (20 - (kk + 1))
            case measure => omega
            case rel =>
              refine ⟨kk + 1, by omega, by omega, by go_num, ⟨pw_below_drewN HB4.out _⟩, ⟨fun j hj => ?_⟩⟩
              by_cases e : j = kk
              · subst e; exact hb
              · exact AB.out j (by omega)
        · have hltz : ¬ (kk : Int) < 20 := by omega
          have hkk : kk = 20 := by omega
          subst hkk
          have hz : checkP l0 = true := by
            unfold checkP
            have : (symbols.all fun x => !leadsBack l0 x) = true := by
              rw [List.all_eq_true]
              intro x hx
              have hs := (mem_symbols _).1 hx
              have h9 := AB.out x.toNat (by have := hs.1; have := hs.2; omega)
              rw [Int.toNat_of_nonneg hs.1] at h9
              rw [h9]; rfl
            rw [this, hall, decide_eq_true h60]; rfl
          go_wp2
          go_ret
          exact ⟨by first | rfl | exact ret_bool hz.symm, HB3.out.trans (BW.out.mono HB3.out.size)⟩
  · have h60z : (l0.length : Int) > 60 := by omega
    have hz : checkP l0 = false := by simp [checkP, h60]
    go_enter Try.func21, Try.ntmps21
    go_wp2
    go_ret
    exact ⟨ret_bool hz.symm, Below.refl _ _⟩
theorem gram_Check.calls (A0 : Option Addr) (c0 : Nat) (l0 : List Rule') (r : Bool) (w : World) (hr0 : Kd.C k26 w A0 l0.length l0) (hc0 : l0.length ≤ c0) (h : gram_Check.f l0 = some r) :
    Calls Try.prog 21 #[.slice A0 l0.length c0] w fun e w' => e = .returned (.bool r) ∧ Below w.heap.size w w' := by
  obtain rfl := Option.some.inj h
  exact check_walk A0 c0 l0 w hr0 hc0
end Go.Proofs.Ytjomlfdkmdgclaa.P
end
section
namespace Go.Proofs.Ytjomlfdkmdgclaa.P
open Go.RowKit Go.Proofs.YtjomlfdkmdgclaaW.PrintWords Go.Proofs.YtjomlfdkmdgclaaW.PrintLast Go.Proofs.YtjomlfdkmdgclaaW.PrintMore
attribute [local go_sem] max2_int min2_int max_two min_two max_three min_three max_four min_four   
set_option linter.unusedVariables false
set_option linter.unusedSimpArgs false
abbrev RuleR := S26
def nextP (l0 : List RuleR) (x : Int) : List Int := l0.flatMap fun r => if r.f0 = x then r.f1.filter symbolB else []
def sumLen (l0 : List RuleR) : Nat := (l0.map fun r => r.f1.length).sum
theorem nextP_len (l0 : List RuleR) (x : Int) : (nextP l0 x).length ≤ sumLen l0 := by
  unfold nextP sumLen
  rw [List.length_flatMap]
  induction l0 with
  | nil => simp
  | cons r l ih =>
    simp only [List.map_cons, List.sum_cons]
    have : (if r.f0 = x then r.f1.filter symbolB else []).length ≤ r.f1.length := by
      split
      · exact List.length_filter_le _ _
      · simp
    omega
theorem sumLen_take (l0 : List RuleR) (k : Nat) (h : k < l0.length) : sumLen (l0.take k) + l0[k].f1.length ≤ sumLen l0 := by
  have h1 : sumLen (l0.take (k + 1)) = sumLen (l0.take k) + l0[k].f1.length := by
    unfold sumLen
    rw [List.take_succ_eq_append_getElem h, List.map_append, List.sum_append]
    simp
  have h2 : sumLen l0 = sumLen (l0.take (k + 1)) + sumLen (l0.drop (k + 1)) := by
    unfold sumLen
    rw [← List.sum_append, ← List.map_append, List.take_append_drop]
  omega
theorem nextP_snoc (l0 : List RuleR) (k : Nat) (h : k < l0.length) (x : Int) : nextP (l0.take (k + 1)) x = nextP (l0.take k) x ++ (if l0[k].f0 = x then l0[k].f1.filter symbolB else []) := by
  unfold nextP
  rw [List.take_succ_eq_append_getElem h, List.flatMap_append]
  simp
theorem nextP_sym (l0 : List RuleR) (x : Int) : ∀ y ∈ nextP l0 x, inSym y := by
  intro y hy
  obtain ⟨r, _, h⟩ := List.mem_flatMap.1 hy
  split at h
  · have := (List.mem_filter.1 h).2
    simpa [symbolB, inSym] using this
  · cases h
def curP (l0 : List RuleR) (k : Nat) (r : RuleR) (j : Nat) (x : Int) : List Int := nextP (l0.take k) x ++ (if r.f0 = x then (r.f1.take j).filter symbolB else [])
theorem curP_snoc (l0 : List RuleR) (k : Nat) (r : RuleR) (j : Nat) (x : Int) (h : j < r.f1.length) : curP l0 k r (j + 1) x = curP l0 k r j x ++ (if r.f0 = x ∧ symbolB (rd r.f1 j) = true then [rd r.f1 j] else []) := by
  unfold curP
  rw [List.append_assoc, rd_getElem r.f1 j h]
  congr 1
  by_cases e : r.f0 = x
  · rw [if_pos e, if_pos e, List.take_succ_eq_append_getElem h, List.filter_append]
    congr 1
    by_cases s : symbolB r.f1[j] = true
    · rw [if_pos ⟨e, s⟩]; simp [s]
    · rw [if_neg (fun h => s h.2)]; simp [s]
  · rw [if_neg e, if_neg e, if_neg (fun h => e h.1)]; rfl
theorem curP_len (l0 : List RuleR) (k : Nat) (h : k < l0.length) (j : Nat) (x : Int) (hj : j ≤ l0[k].f1.length) : (curP l0 k l0[k] j x).length ≤ sumLen l0 := by
  have h1 := nextP_len (l0.take k) x
  have h2 := sumLen_take l0 k h
  have h3 : (if l0[k].f0 = x then (l0[k].f1.take j).filter symbolB else []).length ≤ l0[k].f1.length := by
    split
    · exact Nat.le_trans (List.length_filter_le _ _) (by rw [List.length_take]; omega)
    · simp
  unfold curP
  rw [List.length_append]
  omega
set_option maxHeartbeats 4000000 in
set_option maxRecDepth 100000 in
theorem next_walk (w : World) (g : Nat) (A : Option Addr) (c : Nat) (l0 : List RuleR) (hg : w.cell? ⟨g, 0, none⟩ = some (.slice A l0.length c)) (hc : l0.length ≤ c) (hC : Kd.C k26 w A l0.length l0) (hb : sumLen l0 ≤ 1000000) :
    FnLists Try.prog w inSym (.func (.func 41) #[] #[.pointer (some ⟨g, 0, none⟩)]) (nextP l0) := by
  refine ⟨_, _, _, rfl, enters_of Try.func41 (by kernel_rfl) rfl, ?_⟩
  rintro W x hbw _
  have hcell := pw_cell_below hbw hg
  have hl : l0.length ≤ 9223372036854775807 := hC.2.1
  have HC := Aside0.mk (Kd.C_below hC hbw)
  clear hg hC hbw
  go_enter Try.func41, Try.ntmps41
  have HSB := Aside0.mk hb
  clear hb
  go_wp2
  go_loopg [4, 11] l0.length (fun gg s4 s11 wr => ∃ kk : Nat, kk ≤ l0.length ∧ l0.length - kk ≤ gg ∧ s11 = .int .i64 kk ∧ Aside0 (Kd.R (Kd.int .i64) 3 wr W.heap.size (fun k => W.heap.size ≤ k) s4 (nextP (l0.take kk) x)) ∧ Aside0 (Below W.heap.size W wr))
  case atStart => exact ⟨0, Nat.zero_le _, by omega, rfl, ⟨Kd.R_nil _ _ _ _ _⟩, ⟨Below.refl _ _⟩⟩
  case round =>
    obtain ⟨kk, hkk, hgg, rfl, HR, HB⟩ := hrel
    obtain ⟨Au, cu, rfl⟩ := Kd.R_slice HR.out
    by_cases hlt : kk < l0.length
    · have hltz : (kk : Int) < (l0.length : Int) := by omega
      obtain ⟨ad, A1, c1, A3, c3, hA, h0, h1, h2, h3, h4, l1, g1, l3, g3⟩ := at_T26 HC.out kk (by omega) hltz
      have h0 := pw_cell_below HB.out h0
      have h1 := pw_cell_below HB.out h1
      have h2 := pw_cell_below HB.out h2
      have h3 := pw_cell_below HB.out h3
      have h4 := pw_cell_below HB.out h4
      have hx : rd_T26 l0 kk = l0[kk] := by simp [rd_T26, List.getD_eq_getElem?_getD, List.getElem?_eq_getElem hlt]
      have hsn := nextP_snoc l0 kk hlt x
      have hcl := fun j => curP_len l0 kk hlt j x
      rw [← hx] at hsn hcl
      generalize rd_T26 l0 kk = y at *
      rw [Int.toNat_natCast] at h0 h1 h2 h3 h4
      subst hA
      have HSN := Aside0.mk hsn
      have HCL := Aside0.mk hcl
      clear hx l3 g3 hsn hcl
      have hly : y.f1.length ≤ 9223372036854775807 := g1.2.1
      have HG1 := Aside0.mk g1
      have HBK := Aside0.mk (blk_new wr (.cells #[.int .i64 y.f0, .slice A1 y.f1.length c1, .int .i64 y.f2.f0, .slice A3 y.f2.f1.length c3, .int .i64 y.f3] 26))
      have HB1 := Aside0.mk (below_alloc HB.out (.cells #[.int .i64 y.f0, .slice A1 y.f1.length c1, .int .i64 y.f2.f0, .slice A3 y.f2.f1.length c3, .int .i64 y.f3] 26))
      have HR1 : Aside0 (Kd.R (Kd.int .i64) 3 (wr.alloc (.cells #[.int .i64 y.f0, .slice A1 y.f1.length c1, .int .i64 y.f2.f0, .slice A3 y.f2.f1.length c3, .int .i64 y.f3] 26)) W.heap.size (fun k => W.heap.size ≤ k ∧ k ≠ wr.heap.size) (.slice Au (nextP (l0.take kk) x).length cu) (curP l0 kk y 0 x)) := by
        refine ⟨Kd.R_alloc (Kd.R_mono (Kd.R_bound (xs := curP l0 kk y 0 x) (by unfold curP; simpa using HR.out)) (fun k hk => ⟨hk.2.1, by have := hk.2.2.1; omega⟩)) _⟩
      have hd0 := blk_cell HBK.out 0
      have hd1 := blk_cell HBK.out 1
      simp only [List.getElem?_toArray, List.getElem?_cons_succ, List.getElem?_cons_zero] at hd0 hd1
      clear HR g1
      go_wp2
      clear hd0 hd1
      generalize hW : (wr.alloc (.cells #[.int .i64 y.f0, .slice A1 y.f1.length c1, .int .i64 y.f2.f0, .slice A3 y.f2.f1.length c3, .int .i64 y.f3] 26)) = W1 at *
      have HSZ := Aside0.mk (show W.heap.size ≤ wr.heap.size from HB.out.size)
      clear hW HB h0 h1 h2 h3 h4
      generalize wr.heap.size = b at *
      go_loopg [4, 18] y.f1.length (fun gg s4 s18 wr => ∃ j : Nat, j ≤ y.f1.length ∧ y.f1.length - j ≤ gg ∧ s18 = .int .i64 j ∧ Aside0 (Kd.R (Kd.int .i64) 3 wr W.heap.size (fun k => W.heap.size ≤ k ∧ k ≠ b) s4 (curP l0 kk y j x)) ∧ Aside0 (Below W.heap.size W wr) ∧ Aside0 (wr.heap[b]? = some (.cells #[.int .i64 y.f0, .slice A1 y.f1.length c1, .int .i64 y.f2.f0, .slice A3 y.f2.f1.length c3, .int .i64 y.f3] 26 (0, 0))))
      case atStart => exact ⟨0, Nat.zero_le _, by omega, rfl, HR1, HB1, HBK⟩
      case round =>
        clear HR1 HB1 HBK
        obtain ⟨j, hj, hgj, rfl, HR, HB, HBK⟩ := hrel
        obtain ⟨Au, cu, rfl⟩ := Kd.R_slice HR.out
        have HLN := Aside0.mk (HCL.out j hj)
        generalize hnl : (curP l0 kk y j x).length = nl at *
        have HNL := Aside0.mk hnl
        clear hnl
        by_cases hlj : j < y.f1.length
        · have hljz : (j : Int) < (y.f1.length : Int) := by omega
          obtain ⟨ad1, hA1, hc1⟩ := Kd.at_int (Kd.C_below HG1.out HB.out) j (by omega) hljz
          rw [Int.toNat_natCast] at hc1
          have HSN2 := Aside0.mk (curP_snoc l0 kk y j x hlj)
          subst hA1
          generalize rd y.f1 j = z at *
          have hd0 := blk_cell HBK.out 0
          simp only [List.getElem?_toArray, List.getElem?_cons_zero] at hd0
          by_cases he : y.f0 = x
          · have hsym := Aside0.mk (symbol_some z)
            have hez : (y.f0 == x) = true := beq_iff_eq.2 he
            have HE := Aside0.mk he
            clear he
            cases hsz : symbolB z with
            | true =>
              rw [hsz] at hsym
              go_wp2_with fail
              refine (gram_symbol.calls _ _ _ hsym.out).mono ?_
              rintro e w' ⟨rfl, ⟨nd, rfl⟩⟩
              have HR1 := Aside0.mk (Kd.R_drewN HR.out nd)
              have HB1 := Aside0.mk (pw_below_drewN HB.out nd)
              have HBK1 := Aside0.mk (blk_drewN HBK.out nd)
              generalize wr.drewN nd = w2 at *
              clear HR HB HBK hd0 hc1
              go_wp2_with (at_builtin; refine Kd.R_append (Kd.int .i64) (w0 := W) W.heap.size rfl (.tmp 30) (.tmp 32) 22 3 (.int .i64 0) 8 rfl Try.underlying22 info3 rfl (by decide) (by omega) (.slice Au nl cu) (curP l0 kk y j x) z [.int .i64 z] (fun k => W.heap.size ≤ k ∧ k ≠ b) (fun _ => False) rfl rfl rfl (fun _ hk => hk.elim) (fun k hk => ⟨Nat.le_trans HB1.out.size hk, by have := blk_lt HBK1.out; omega⟩) HR1.out HB1.out HB1.out.size (by have := HLN.out; have := HSB.out; have := HNL.out; omega) ?_; intro v3 w3 ho hb3 hg3 hat; have ho' : Kd.R (Kd.int .i64) 3 w3 W.heap.size (fun k => W.heap.size ≤ k ∧ k ≠ b) v3 (curP l0 kk y j x ++ [z]) := ho; have HR3 := Aside0.mk ho'; have HB3 := Aside0.mk hb3; have HBK3 := Aside0.mk (blk_grown HBK1.out hg3 (fun e => (HR1.out.1 b e.symm).2 rfl)); obtain ⟨A5, c5, rfl⟩ := Kd.R_slice ho'; clear ho ho' hb3 hg3 hat)
              go_roundg (y.f1.length - (j + 1))
              case measure => omega
              case rel =>
                refine ⟨j + 1, by omega, by omega, by go_num, ⟨?_⟩, HB3, HBK3⟩
                rw [HSN2.out, if_pos ⟨HE.out, hsz⟩]
                have h9 := HR3.out
                rw [List.length_append] at h9
                exact h9
            | false =>
              rw [hsz] at hsym
              go_wp2_with fail
              refine (gram_symbol.calls _ _ _ hsym.out).mono ?_
              rintro e w' ⟨rfl, ⟨nd, rfl⟩⟩
              have HR1 := Aside0.mk (Kd.R_drewN HR.out nd)
              have HB1 := Aside0.mk (pw_below_drewN HB.out nd)
              have HBK1 := Aside0.mk (blk_drewN HBK.out nd)
              clear HR HB HBK hd0 hc1
              go_wp2
              go_roundg (y.f1.length - (j + 1))
              case measure => omega
              case rel =>
                refine ⟨j + 1, by omega, by omega, by go_num, ⟨?_⟩, HB1, HBK1⟩
                rw [HSN2.out, if_neg (fun h => by rw [h.2] at hsz; cases hsz), List.append_nil]
                exact HR1.out
          · have hez : (y.f0 == x) = false := beq_eq_false_iff_ne.2 he
            go_wp2
            go_roundg (y.f1.length - (j + 1))
            case measure => omega
            case rel =>
              refine ⟨j + 1, by omega, by omega, by go_num, ⟨?_⟩, HB, HBK⟩
              rw [HSN2.out, if_neg (fun h => he h.1), List.append_nil]
              exact HR.out
        · have hljz : ¬ (j : Int) < (y.f1.length : Int) := by omega
          have hjl : j = y.f1.length := by omega
          subst hjl
          go_wp2
          go_roundg (l0.length - (kk + 1))
          case measure => omega
          case rel =>
            refine ⟨kk + 1, by omega, by omega, by go_num, ⟨?_⟩, HB⟩
            rw [HSN.out]
            have h8 : curP l0 kk y y.f1.length x = nextP (l0.take kk) x ++ (if y.f0 = x then y.f1.filter symbolB else []) := by unfold curP; rw [List.take_length]
            rw [← h8]
            exact Kd.R_mono HR.out (fun k hk => hk.1)
    · have hltz : ¬ (kk : Int) < (l0.length : Int) := by omega
      have hkl : kk = l0.length := by omega
      subst hkl
      obtain ⟨A5, c5, e5, hle5, hC5⟩ := Kd.R_reads HR.out
      injection e5 with e6 e7 e8
      subst e6 e8
      rw [List.take_length] at hle5 hC5 
      have HC5 := Aside0.mk hC5
      clear hC5 e7
      go_wp2
      go_ret
      exact ⟨_, _, rfl, hle5, HC5.out, HB.out⟩
theorem reachL_len (next : Int → List Int) (l : List Int) : (reachL next l).length ≤ 20 := Nat.le_trans (List.length_filter_le _ _) (by decide)
noncomputable def gram_Reached.f (l0 : List RuleR) : Option (List Int) := if sumLen l0 ≤ 1000000 then some (reachL (nextP l0) [0]) else none
theorem reached_from (l0 : List RuleR) (hb : sumLen l0 ≤ 1000000) (fv : Value) (A : Option Addr) (c : Nat) (w : World) (hf : FnLists Try.prog w inSym fv (nextP l0)) (hC : Kd.C (Kd.int .i64) w A ([0] : List Int).length [0]) (hc : ([0] : List Int).length ≤ c) :
    Calls Try.prog 39 #[.slice A 1 c, fv] w fun e w' => ∃ v0_ : Value, e = .returned (v0_) ∧ Kd.R (Kd.int .i64) 3 w' w.heap.size (fun _ => True) v0_ (reachL (nextP l0) [0]) ∧ Below w.heap.size w w' := by
  have h0 : ∀ x ∈ ([0] : List Int), inSym x := by intro x hx; rw [List.mem_singleton.1 hx]; exact ⟨by omega, by omega⟩
  obtain ⟨k, r, h1, h2⟩ := from_reach (nextP l0) (fun y _ => Nat.le_trans (nextP_len l0 y) hb) (fun x _ => nextP_sym l0 x) [0] h0 (by simp)
  rw [← h2]
  exact from_walk fv (nextP l0) inSym (fun y hy => ⟨⟨by have := hy.1; omega, by have := hy.2; omega⟩, nextP_sym l0 y⟩) k A c [0] r w hf h0 hC hc h1
theorem gram_Reached.calls (A0 : Option Addr) (c0 : Nat) (l0 : List RuleR) (r : List Int) (w : World) (hr0 : Kd.C k26 w A0 l0.length l0) (hc0 : l0.length ≤ c0) (h : gram_Reached.f l0 = some r) :
    Calls Try.prog 24 #[.slice A0 l0.length c0] w fun e w' => ∃ v0_ : Value, e = .returned (v0_) ∧ Kd.R (Kd.int .i64) 3 w' w.heap.size (fun _ => True) v0_ r ∧ Below w.heap.size w w' := by
  unfold gram_Reached.f at h
  split at h
  case isFalse => cases h
  case isTrue hb =>
  obtain rfl := Option.some.inj h
  have HB := Aside0.mk hb
  have HG := Aside0.mk (cell_new0 w (.slice A0 l0.length c0) 36)
  have HB1 := Aside0.mk (below_alloc (Below.refl w.heap.size w) (.cells #[.slice A0 l0.length c0] 36))
  have HC1 := Aside0.mk (Kd.C_alloc hr0 (.cells #[.slice A0 l0.length c0] 36))
  have HFN := Aside0.mk (next_walk _ w.heap.size A0 c0 l0 HG.out hc0 HC1.out hb)
  clear hr0 h hb
  go_enter Try.func24, Try.ntmps24
  go_wp2_with fail
  refine (reached_from l0 HB.out _ _ _ _ ?hf ?hC ?hc).mono ?_
  case hf =>
    obtain ⟨g', pre, lb, e1, e2, e3⟩ := HFN.out
    exact ⟨g', pre, lb, e1, e2, fun W x hb hd => e3 W x ((below_alloc (Below.refl _ _) _).trans (hb.mono (by simp))) hd⟩
  case hC =>
    have h9 := World.ownsRow_lit (base := 0) (e := 3) (size := 1) (w.alloc (.cells #[.slice A0 l0.length c0] 36)) #[.int .i64 0] 1 (Nat.zero_le _) (by simp [maxLen]) rfl
    have h8 : Kd.R (Kd.int .i64) 3 _ 0 (fun _ => True) _ [0] := Kd.R_of_own (enc := Value.int .i64) (h1 := fun _ => rfl) (xs := [0]) h9 (fun _ _ => trivial)
    have h7 := (Kd.R_reads' h8).2.2
    rw [show (w.alloc (.cells #[.slice A0 l0.length c0] 36)).heap.size = w.heap.size + 1 by simp] at h7
    exact h7
  case hc => simp
  rintro e w2 ⟨v2, rfl, hR2, hb2⟩
  obtain ⟨A5, c5, rfl, hc5, hC5⟩ := Kd.R_reads hR2
  have HB2 := Aside0.mk (below_step (below_alloc HB1.out _) hb2)
  have HC5 := Aside0.mk hC5
  have HL5 := Aside0.mk hc5
  have hrl := reachL_len (nextP l0) [0]
  clear hR2 hb2 hC5 hc5
  go_wp2_with fail
  refine (slices_Clone_int_int.calls A5 c5 (reachL (nextP l0) [0]) (reachL (nextP l0) [0]) w2 HC5.out HL5.out (if_pos (by omega))).mono ?_
  rintro e w3 ⟨v3, rfl, hR3, hb3⟩
  have HR3 := Aside0.mk hR3
  have HB3 := Aside0.mk (below_step HB2.out hb3)
  clear hR3 hb3
  go_wp2
  go_ret
  exact ⟨_, rfl, Kd.R_lower HR3.out HB2.out.size, HB3.out⟩
end Go.Proofs.Ytjomlfdkmdgclaa.P
end
section
namespace Go.Proofs.Ytjomlfdkmdgclaa.P
open Go.RowKit Go.Proofs.YtjomlfdkmdgclaaW.PrintWords Go.Proofs.YtjomlfdkmdgclaaW.PrintLast Go.Proofs.YtjomlfdkmdgclaaW.PrintMore
attribute [local go_sem] max2_int min2_int max_two min_two max_three min_three max_four min_four   
set_option linter.unusedVariables false
set_option linter.unusedSimpArgs false
theorem Reach.inv {next : Int → List Int} {l0 : List Int} {P : Int → Prop} (h0 : ∀ x ∈ l0, P x) (hs : ∀ x, P x → ∀ y ∈ next x, P y) {y : Int} (h : Reach next l0 y) : P y := by
  induction h with
  | base h => exact h0 _ h
  | step _ h ih => exact hs _ ih _ h
theorem Reach.mono {next next' : Int → List Int} {l0 l0' : List Int} (hd : ∀ x, inSym x → ∀ y ∈ next x, inSym y) (hl : ∀ x ∈ l0, inSym x) (h0 : ∀ x ∈ l0, x ∈ l0') (hs : ∀ x, inSym x → ∀ y ∈ next x, y ∈ next' x) {y : Int} (h : Reach next l0 y) : Reach next' l0' y := by
  have : Reach next' l0' y ∧ inSym y := by
    induction h with
    | base h => exact ⟨.base (h0 _ h), hl _ h⟩
    | step _ h ih => exact ⟨.step ih.1 (hs _ ih.2 _ h), hd _ ih.2 _ h⟩
  exact this.1
theorem reachL_eq {next next' : Int → List Int} {l0 l0' : List Int} (h : ∀ y, inSym y → (Reach next l0 y ↔ Reach next' l0' y)) : reachL next l0 = reachL next' l0' := by
  unfold reachL
  refine List.filter_congr fun y hy => ?_
  exact decide_eq_decide.2 (h y ((mem_symbols y).1 hy))
def hits (r : Rule') (p : Int × Int) : Prop := r.f1 = [p.2] ∧ inSym p.2 ∧ r.f0 = p.1
theorem hits_iff (r : Rule') (p : Int × Int) : hits r p ↔ (r.f1.length = 1 ∧ 0 ≤ rd r.f1 0 ∧ rd r.f1 0 < 20) ∧ p = (r.f0, rd r.f1 0) := by
  unfold hits inSym
  constructor
  · rintro ⟨h1, h2, h3⟩
    have h4 : rd r.f1 0 = p.2 := by rw [h1]; rfl
    rw [h4, h3, h1]
    exact ⟨⟨rfl, h2⟩, rfl⟩
  · rintro ⟨⟨h1, h2, h3⟩, rfl⟩
    refine ⟨?_, ⟨h2, h3⟩, rfl⟩
    match hr : r.f1, h1 with
    | [x], _ => simp [rd]
theorem found_pos (p : Int × Int) : ∀ (l : List Rule') (m : List ((Int × Int) × Int)), (∀ q, 0 ≤ (mget m q).getD 0) → (0 < (mget (l.foldl foundStep m) p).getD 0 ↔ 0 < (mget m p).getD 0 ∨ ∃ r ∈ l, hits r p)
  | [], m, h => by simp
  | r :: l, m, h => by
    have h2 : ∀ q, 0 ≤ (mget (foundStep m r) q).getD 0 := by
      intro q
      unfold foundStep
      split
      · by_cases e : q = (r.f0, rd r.f1 0)
        · subst e
          rw [mget_mput_same]
          have := h (r.f0, rd r.f1 0)
          simp only [Option.getD_some]
          omega
        · rw [mget_mput_other _ _ _ e]; exact h q
      · exact h q
    rw [List.foldl_cons, found_pos p l _ h2]
    have h3 : 0 < (mget (foundStep m r) p).getD 0 ↔ 0 < (mget m p).getD 0 ∨ hits r p := by
      rw [hits_iff]
      unfold foundStep
      split
      case isTrue hc =>
        by_cases e : p = (r.f0, rd r.f1 0)
        · have := h p
          rw [e, mget_mput_same]
          simp only [Option.getD_some]
          rw [e] at this
          constructor
          · intro _; exact .inr ⟨hc, trivial⟩
          · intro _; omega
        · rw [mget_mput_other _ _ _ e]
          exact ⟨.inl, fun h => h.elim id (fun h => absurd h.2 e)⟩
      case isFalse hc => exact ⟨.inl, fun h => h.elim id (fun h => absurd h.1 hc)⟩
    rw [h3, or_assoc]
    simp
theorem mem_rowsNext (l0 : List Rule') (x : Int) (hx : inSym x) (y : Int) : y ∈ rowsNext l0 x ↔ inSym y ∧ ∃ r ∈ l0, r.f0 = x ∧ r.f1 = [y] := by
  obtain ⟨n, rfl⟩ : ∃ n : Nat, x = n := ⟨x.toNat, by have := hx.1; omega⟩
  rw [rowsNext_at l0 n (by have := hx.2; omega)]
  unfold rowUpto foundL
  rw [List.mem_filter]
  have hm : y ∈ (List.range 20).map (fun (x : Nat) => (x : Int)) ↔ inSym y := mem_symbols y
  rw [hm, decide_eq_true_eq, found_pos _ l0 [] (fun q => by simp [mget])]
  simp only [mget, Option.getD_none, Int.lt_irrefl, false_or, hits]
  constructor
  · rintro ⟨h1, r, hr, h2, _, h3⟩
    exact ⟨h1, r, hr, h3, h2⟩
  · rintro ⟨h1, r, hr, h2, h3⟩
    exact ⟨h1, r, hr, h3, h1, h2⟩
theorem leadsBack_iff (l0 : List Rule') (x : Int) (hx : inSym x) : leadsBack l0 x = true ↔ Reach (rowsNext l0) (rowsNext l0 x) x := by
  unfold leadsBack
  rw [decide_eq_true_eq, mem_reachL (rowsNext_sym l0) (rowsNext_sym l0 x hx)]
theorem checkP_iff (l0 : List Rule') : checkP l0 = true ↔ l0.length ≤ 60 ∧ l0.all rightR = true ∧ ∀ x, inSym x → ¬ Reach (rowsNext l0) (rowsNext l0 x) x := by
  unfold checkP
  rw [Bool.and_eq_true, Bool.and_eq_true, decide_eq_true_eq, List.all_eq_true (l := symbols)]
  refine and_congr Iff.rfl (and_congr Iff.rfl ⟨fun h x hx => ?_, fun h x hx => ?_⟩)
  · have h1 := h x ((mem_symbols x).2 hx)
    rw [← leadsBack_iff l0 x hx]
    intro h2
    rw [h2] at h1
    cases h1
  · have hx' := (mem_symbols x).1 hx
    have h1 := h x hx'
    rw [← leadsBack_iff l0 x hx'] at h1
    simp [h1]
theorem no_round (l0 : List Rule') (f : Int → Int) (h : ∀ r ∈ l0, ∀ y, r.f1 = [y] → inSym r.f0 → inSym y → f r.f0 < f y) (x : Int) (hx : inSym x) : ¬ Reach (rowsNext l0) (rowsNext l0 x) x := by
  have hstep : ∀ x, inSym x → ∀ y ∈ rowsNext l0 x, f x < f y := by
    intro x hx y hy
    obtain ⟨h1, r, hr, h2, h3⟩ := (mem_rowsNext l0 x hx y).1 hy
    subst h2
    exact h r hr y h3 hx h1
  intro hr
  have := Reach.inv (P := fun y => inSym y ∧ f x < f y) (fun y hy => ⟨rowsNext_sym l0 x hx y hy, hstep x hx y hy⟩) (fun z hz y hy => ⟨rowsNext_sym l0 z hz.1 y hy, Int.lt_trans hz.2 (hstep z hz.1 y hy)⟩) hr
  exact Int.lt_irrefl _ this.2
theorem mem_nextP (l0 : List Rule') (x y : Int) : y ∈ nextP l0 x ↔ inSym y ∧ ∃ r ∈ l0, r.f0 = x ∧ y ∈ r.f1 := by
  unfold nextP
  rw [List.mem_flatMap]
  constructor
  · rintro ⟨r, hr, h⟩
    split at h
    case isTrue he =>
      have := List.mem_filter.1 h
      exact ⟨by have := this.2; simpa [symbolB, inSym] using this, r, hr, he, this.1⟩
    case isFalse => cases h
  · rintro ⟨h1, r, hr, h2, h3⟩
    refine ⟨r, hr, ?_⟩
    rw [if_pos h2, List.mem_filter]
    exact ⟨h3, by simpa [symbolB, inSym] using h1⟩
theorem inSym_zero : inSym 0 := ⟨by omega, by omega⟩
theorem zero_sym : ∀ x ∈ ([0] : List Int), inSym x := fun x hx => by rw [List.mem_singleton.1 hx]; exact inSym_zero
end Go.Proofs.Ytjomlfdkmdgclaa.P
end
section
namespace Go.Proofs.Ytjomlfdkmdgclaa.P
open Go.RowKit Go.Proofs.YtjomlfdkmdgclaaW.PrintWords Go.Proofs.YtjomlfdkmdgclaaW.PrintLast Go.Proofs.YtjomlfdkmdgclaaW.PrintMore
attribute [local go_sem] max2_int min2_int max_two min_two max_three min_three max_four min_four   
set_option linter.unusedVariables false
set_option linter.unusedSimpArgs false
def Opens (P : Program) (t : TypeId) {α : Type} (d : Kd α) (ok : α → Prop) : Prop :=
  P.cellsOf t = d.sz ∧ ∀ (H : Type) (enc : TypeId × Value → H) (W : World) (base : Nat) (spare : Nat → Bool) (held : Bool) (fuel : Nat) (cs : List Value) (x : DataW H × List MemPlace), DataW.trod enc P W base spare held fuel t cs = some x → ∃ v : α, d.K W v cs ∧ ok v
theorem opens_int {P : Program} {t : TypeId} {k : IntKind} (ht : P.underlying t = some (.int k)) (hc : P.cellsOf t = 1) : Opens P t (Kd.int k) (fun n => (Lit.int k n).wf = true) := by
  refine ⟨hc, fun H enc W base spare held fuel cs x h => ?_⟩
  obtain ⟨n, rfl, _, hw⟩ := DataW.trod_int ht h
  exact ⟨n, rfl, hw⟩
theorem list_of {α : Type} {p : Nat → α → Prop} : ∀ n : Nat, (∀ i, i < n → ∃ v, p i v) → ∃ xs : List α, xs.length = n ∧ ∀ i v, xs[i]? = some v → p i v
  | 0, _ => ⟨[], rfl, fun i v h => by simp at h⟩
  | n + 1, h => by
    obtain ⟨xs, hl, hx⟩ := list_of n (fun i hi => h i (by omega))
    obtain ⟨v, hv⟩ := h n (by omega)
    refine ⟨xs ++ [v], by rw [List.length_append, hl]; rfl, fun i u hu => ?_⟩
    by_cases hi : i < xs.length
    · rw [List.getElem?_append_left hi] at hu
      exact hx i u hu
    · rw [List.getElem?_append_right (by omega)] at hu
      have h0 : i - xs.length = 0 := by
        have := (List.getElem?_eq_some_iff.1 hu).1
        simp at this
        omega
      rw [h0] at hu
      obtain rfl := Option.some.inj hu
      have : i = n := by omega
      rw [this]
      exact hv
theorem opens_slice {P : Program} {t e : TypeId} {α : Type} {d : Kd α} {ok : α → Prop} (ht : P.underlying t = some (.slice e)) (hc : P.cellsOf t = 1) (h : Opens P e d ok) : Opens P t (Kd.slice e d) (fun xs => ∀ x ∈ xs, ok x) := by
  refine ⟨hc, fun H enc W base spare held fuel cs x hx => ?_⟩
  rcases Go.Deep.open_slice ht hx with ⟨rfl, _⟩ | ⟨a, len, cap, m, n, D, Pl, rfl, _, hl, hm, hmm, _, hel⟩
  · exact ⟨[], ⟨none, 0, rfl, Nat.le_refl _, rfl, by simp, fun h => absurd h (Nat.lt_irrefl _)⟩, by simp⟩
  · have hle : len ≤ m := by rw [hmm]; split <;> omega
    obtain ⟨xs, hxl, hxs⟩ := list_of (p := fun i v => ∃ cs', W.cells? base (a.add (i * d.sz)) d.sz = some cs' ∧ d.K W v cs' ∧ ok v) len (fun i hi => by
      obtain ⟨cs', h1, h2⟩ := hel i (by omega)
      obtain ⟨v, h3, h4⟩ := h.2 H enc W base spare held n cs' _ h2
      rw [h.1] at h1
      exact ⟨v, cs', h1, h3, h4⟩)
    have hmax : maxLen ≤ 9223372036854775807 := by decide
    refine ⟨xs, ⟨some a, cap, by rw [hxl], by omega, rfl, by omega, fun _ => ⟨a, rfl, fun j p hj => ?_⟩⟩, fun y hy => ?_⟩
    · obtain ⟨cs', h1, h2, _⟩ := hxs j p hj
      obtain ⟨_, h3, h4⟩ := World.cells?_some h1
      refine ⟨cs', h3, h2, fun i u hu => ?_⟩
      have h5 := h4 i (by rw [← h3]; exact (List.getElem?_eq_some_iff.1 hu).1)
      rw [hu, add_add] at h5
      exact h5
    · obtain ⟨j, hj, rfl⟩ := List.mem_iff_getElem.1 hy
      obtain ⟨_, _, _, h4⟩ := hxs j _ (List.getElem?_eq_getElem hj)
      exact h4
abbrev wfI (n : Int) : Prop := (Lit.int .i64 n).wf = true
theorem opInt : Opens Try.prog 3 (Kd.int .i64) wfI := opens_int Try.underlying3 (by kernel_rfl)
theorem opInts : Opens Try.prog 22 (Kd.slice 3 (Kd.int .i64)) (fun l => ∀ n ∈ l, wfI n) := opens_slice Try.underlying22 (by kernel_rfl) opInt
theorem opens_fields {P : Program} {t : TypeId} {fs : Array Field} (ht : P.underlying t = some (.struct fs)) {H : Type} {enc : TypeId × Value → H} {W : World} {base : Nat} {spare : Nat → Bool} {held : Bool} {fuel : Nat} {cs : List Value} {x : DataW H × List MemPlace} (h : DataW.trod enc P W base spare held fuel t cs = some x) :
    cs.length = P.cellsOf t ∧ ∀ (i : Nat) (f : Field), fs[i]? = some f → ∀ {α : Type} {d : Kd α} {ok : α → Prop}, Opens P f.type d ok → ∃ v, d.K W v ((cs.drop f.offset).take d.sz) ∧ ok v := by
  obtain ⟨xs, n, _, _, hl, hlen, hf⟩ := DataW.trod_struct ht h
  refine ⟨hl, fun i f hi α d ok ho => ?_⟩
  have h1 := hf i f hi
  have hil : i < xs.length := by
    have := (Array.getElem?_eq_some_iff.1 hi).1
    omega
  rw [List.getElem?_eq_getElem hil, ho.1] at h1
  exact ho.2 H enc W base spare held n _ _ h1
def okRaw (x : S31) : Prop := wfI x.f0 ∧ wfI x.f1 ∧ wfI x.f2 ∧ (∀ n ∈ x.f3, wfI n) ∧ ∀ n ∈ x.f4, wfI n
theorem opRaw : Opens Try.prog 31 k31 okRaw := by
  refine ⟨by kernel_rfl, fun H enc W base spare held fuel cs x h => ?_⟩
  obtain ⟨hl, hf⟩ := opens_fields Try.underlying31 h
  have hl2 : cs.length = 5 := hl.trans (by kernel_rfl)
  obtain ⟨v0, k0, w0⟩ := hf 0 _ rfl opInt
  obtain ⟨v1, k1, w1⟩ := hf 1 _ rfl opInt
  obtain ⟨v2, k2, w2⟩ := hf 2 _ rfl opInt
  obtain ⟨v3, ⟨A3, c3, k3, l3, g3⟩, w3⟩ := hf 3 _ rfl opInts
  obtain ⟨v4, ⟨A4, c4, k4, l4, g4⟩, w4⟩ := hf 4 _ rfl opInts
  match cs, hl2 with
  | [b0, b1, b2, b3, b4], _ =>
    have e0 : [b0] = [.int .i64 v0] := k0
    have e1 : [b1] = [.int .i64 v1] := k1
    have e2 : [b2] = [.int .i64 v2] := k2
    have e3 : [b3] = [.slice A3 v3.length c3] := k3
    have e4 : [b4] = [.slice A4 v4.length c4] := k4
    rw [(List.cons.inj e0).1, (List.cons.inj e1).1, (List.cons.inj e2).1, (List.cons.inj e3).1, (List.cons.inj e4).1]
    exact ⟨⟨v0, v1, v2, v3, v4⟩, k31_mk W ⟨v0, v1, v2, v3, v4⟩ l3 g3 l4 g4, w0, w1, w2, w3, w4⟩
theorem opRaws : Opens Try.prog 27 (Kd.slice 31 k31) (fun l => ∀ x ∈ l, okRaw x) := opens_slice Try.underlying27 (by kernel_rfl) opRaw
end Go.Proofs.Ytjomlfdkmdgclaa.P
end
section
namespace Go.Proofs.Ytjomlfdkmdgclaa.P
open Go.RowKit Go.Proofs.YtjomlfdkmdgclaaW.PrintWords Go.Proofs.YtjomlfdkmdgclaaW.PrintLast Go.Proofs.YtjomlfdkmdgclaaW.PrintMore
attribute [local go_sem] max2_int min2_int max_two min_two max_three min_three max_four min_four   
set_option linter.unusedVariables false
set_option linter.unusedSimpArgs false
def ruleA : Rule' := ⟨0, [1], ⟨0, [0]⟩, 0⟩
def ruleB : Rule' := ⟨1, [0], ⟨0, [0]⟩, 0⟩
theorem rightA : rightR ruleA = true := by decide
theorem check_nil : checkP [] = true := by
  rw [checkP_iff]
  refine ⟨by simp, rfl, fun x hx => no_round _ id (fun r hr => by cases hr) x hx⟩
theorem check_a : checkP [ruleA] = true := by
  rw [checkP_iff]
  refine ⟨by simp, by decide, fun x hx => no_round _ id (fun r hr y h _ _ => ?_) x hx⟩
  rw [List.mem_singleton.1 hr] at h ⊢
  have : y = 1 := by have := (List.cons.inj h).1; omega
  subst this
  decide
theorem check_ab : checkP [ruleA, ruleB] = false := by
  have : ¬ checkP [ruleA, ruleB] = true := by
    rw [checkP_iff]
    rintro ⟨_, _, h⟩
    have s1 : inSym 1 := ⟨by omega, by omega⟩
    refine h 0 inSym_zero (.step (x := 1) (.base ?_) ?_)
    · exact (mem_rowsNext _ 0 inSym_zero 1).2 ⟨s1, ruleA, by simp, rfl, rfl⟩
    · exact (mem_rowsNext _ 1 s1 0).2 ⟨inSym_zero, ruleB, by simp, rfl, rfl⟩
  simpa using this
theorem units_a : (unitsP [ruleA]).length = 20 ∧ (rd_L2 (unitsP [ruleA]) 0) = [1] := by decide
theorem reached_a : reachL (nextP [ruleA]) [0] = [0, 1] := by
  have h : ∀ y, Reach (nextP [ruleA]) [0] y ↔ y ∈ ([0, 1] : List Int) := by
    intro y
    constructor
    · intro h
      refine Reach.inv (P := fun y => y ∈ ([0, 1] : List Int)) (by simp) (fun x _ y hy => ?_) h
      obtain ⟨_, r, hr, _, h2⟩ := (mem_nextP _ x y).1 hy
      rw [List.mem_singleton.1 hr] at h2
      have : y = 1 := by simpa [ruleA] using h2
      simp [this]
    · intro h
      have h0 : Reach (nextP [ruleA]) [0] 0 := .base (by simp)
      rcases List.mem_cons.1 h with h | h
      · rw [h]; exact h0
      · rw [List.mem_singleton.1 h]
        exact .step h0 ((mem_nextP _ 0 1).2 ⟨⟨by omega, by omega⟩, ruleA, by simp, rfl, by simp [ruleA]⟩)
  have h2 : reachL (nextP [ruleA]) [0] = symbols.filter fun y => decide (y ∈ ([0, 1] : List Int)) := by
    unfold reachL
    refine List.filter_congr fun y _ => ?_
    exact decide_eq_decide.2 (h y)
  rw [h2]
  decide
structure KnownMem (w W : World) : Prop where
  a1 : W.heap[w.heap.size]? = some (.cells #[.int .i64 1] 3 (0, 0))
  a2 : W.heap[w.heap.size + 1]? = some (.cells #[.int .i64 0] 3 (0, 0))
  a : W.heap[w.heap.size + 1 + 1]? = some (.cells #[.int .i64 0, .slice (some ⟨w.heap.size, 0, none⟩) 1 1, .int .i64 0, .slice (some ⟨w.heap.size + 1, 0, none⟩) 1 1, .int .i64 0] 26 (0, 0))
  b1 : W.heap[w.heap.size + 1 + 1 + 1]? = some (.cells #[.int .i64 0] 3 (0, 0))
  b2 : W.heap[w.heap.size + 1 + 1 + 1 + 1]? = some (.cells #[.int .i64 0] 3 (0, 0))
  b : W.heap[w.heap.size + 1 + 1 + 1 + 1 + 1]? = some (.cells #[.int .i64 1, .slice (some ⟨w.heap.size + 1 + 1 + 1, 0, none⟩) 1 1, .int .i64 0, .slice (some ⟨w.heap.size + 1 + 1 + 1 + 1, 0, none⟩) 1 1, .int .i64 0] 26 (0, 0))
  bl : Below w.heap.size w W
theorem KnownMem.below {w W W1 : World} (h : KnownMem w W) (hb : Below W.heap.size W W1) : KnownMem w W1 :=
  ⟨blk_below h.a1 hb, blk_below h.a2 hb, blk_below h.a hb, blk_below h.b1 hb, blk_below h.b2 hb, blk_below h.b hb, h.bl.trans (hb.mono h.bl.size)⟩
theorem kn_int_of_blk {w : World} {b : Nat} {x : Int} (h : w.heap[b]? = some (.cells #[.int .i64 x] 3 (0, 0))) : Kd.C (Kd.int .i64) w (some ⟨b, 0, none⟩) 1 [x] :=
  kn_C_of_blk (d := Kd.int .i64) (xs := [x]) (cs := [.int .i64 x]) h (by simp) (kn_one rfl rfl)
theorem KnownMem.ka {w W : World} (h : KnownMem w W) : k26.K W ruleA [.int .i64 0, .slice (some ⟨w.heap.size, 0, none⟩) 1 1, .int .i64 0, .slice (some ⟨w.heap.size + 1, 0, none⟩) 1 1, .int .i64 0] :=
  k26_mk W ruleA (A1 := some ⟨w.heap.size, 0, none⟩) (c1 := 1) (Nat.le_refl _) (kn_int_of_blk h.a1) (A3 := some ⟨w.heap.size + 1, 0, none⟩) (c3 := 1) (Nat.le_refl _) (kn_int_of_blk h.a2)
theorem KnownMem.kb {w W : World} (h : KnownMem w W) : k26.K W ruleB [.int .i64 1, .slice (some ⟨w.heap.size + 1 + 1 + 1, 0, none⟩) 1 1, .int .i64 0, .slice (some ⟨w.heap.size + 1 + 1 + 1 + 1, 0, none⟩) 1 1, .int .i64 0] :=
  k26_mk W ruleB (A1 := some ⟨w.heap.size + 1 + 1 + 1, 0, none⟩) (c1 := 1) (Nat.le_refl _) (kn_int_of_blk h.b1) (A3 := some ⟨w.heap.size + 1 + 1 + 1 + 1, 0, none⟩) (c3 := 1) (Nat.le_refl _) (kn_int_of_blk h.b2)
theorem KnownMem.rowA {w W : World} (h : KnownMem w W) : Kd.C k26 (W.alloc (.cells #[.int .i64 0, .slice (some ⟨w.heap.size, 0, none⟩) 1 1, .int .i64 0, .slice (some ⟨w.heap.size + 1, 0, none⟩) 1 1, .int .i64 0] 26)) (some ⟨W.heap.size, 0, none⟩) [ruleA].length [ruleA] :=
  kn_C_of_blk (xs := [ruleA]) (blk_new W _) (by simp) (kn_one (h.below (below_alloc (Below.refl _ _) _)).ka rfl)
theorem KnownMem.rowAB {w W : World} (h : KnownMem w W) : Kd.C k26 (W.alloc (.cells #[.int .i64 0, .slice (some ⟨w.heap.size, 0, none⟩) 1 1, .int .i64 0, .slice (some ⟨w.heap.size + 1, 0, none⟩) 1 1, .int .i64 0, .int .i64 1, .slice (some ⟨w.heap.size + 1 + 1 + 1, 0, none⟩) 1 1, .int .i64 0, .slice (some ⟨w.heap.size + 1 + 1 + 1 + 1, 0, none⟩) 1 1, .int .i64 0] 26)) (some ⟨W.heap.size, 0, none⟩) [ruleA, ruleB].length [ruleA, ruleB] :=
  kn_C_of_blk (xs := [ruleA, ruleB]) (blk_new W _) (by simp) (kn_two (h.below (below_alloc (Below.refl _ _) _)).ka rfl (h.below (below_alloc (Below.refl _ _) _)).kb rfl)
theorem KnownMem.cellsA {w W : World} (h : KnownMem w W) : W.cell? ⟨w.heap.size + 1 + 1, 0, none⟩ = some (.int .i64 0) ∧ W.cell? ⟨w.heap.size + 1 + 1, 1, none⟩ = some (.slice (some ⟨w.heap.size, 0, none⟩) 1 1) ∧ W.cell? ⟨w.heap.size + 1 + 1, 2, none⟩ = some (.int .i64 0) ∧ W.cell? ⟨w.heap.size + 1 + 1, 3, none⟩ = some (.slice (some ⟨w.heap.size + 1, 0, none⟩) 1 1) ∧ W.cell? ⟨w.heap.size + 1 + 1, 4, none⟩ = some (.int .i64 0) :=
  ⟨blk_cell h.a 0, blk_cell h.a 1, blk_cell h.a 2, blk_cell h.a 3, blk_cell h.a 4⟩
theorem KnownMem.cellsB {w W : World} (h : KnownMem w W) : W.cell? ⟨w.heap.size + 1 + 1 + 1 + 1 + 1, 0, none⟩ = some (.int .i64 1) ∧ W.cell? ⟨w.heap.size + 1 + 1 + 1 + 1 + 1, 1, none⟩ = some (.slice (some ⟨w.heap.size + 1 + 1 + 1, 0, none⟩) 1 1) ∧ W.cell? ⟨w.heap.size + 1 + 1 + 1 + 1 + 1, 2, none⟩ = some (.int .i64 0) ∧ W.cell? ⟨w.heap.size + 1 + 1 + 1 + 1 + 1, 3, none⟩ = some (.slice (some ⟨w.heap.size + 1 + 1 + 1 + 1, 0, none⟩) 1 1) ∧ W.cell? ⟨w.heap.size + 1 + 1 + 1 + 1 + 1, 4, none⟩ = some (.int .i64 0) :=
  ⟨blk_cell h.b 0, blk_cell h.b 1, blk_cell h.b 2, blk_cell h.b 3, blk_cell h.b 4⟩
theorem kn_start (w : World) : KnownMem w ((((((w.alloc (.cells #[.int .i64 1] 3)).alloc (.cells #[.int .i64 0] 3)).alloc (.cells #[.int .i64 0, .slice (some ⟨w.heap.size, 0, none⟩) 1 1, .int .i64 0, .slice (some ⟨w.heap.size + 1, 0, none⟩) 1 1, .int .i64 0] 26)).alloc (.cells #[.int .i64 0] 3)).alloc (.cells #[.int .i64 0] 3)).alloc (.cells #[.int .i64 1, .slice (some ⟨w.heap.size + 1 + 1 + 1, 0, none⟩) 1 1, .int .i64 0, .slice (some ⟨w.heap.size + 1 + 1 + 1 + 1, 0, none⟩) 1 1, .int .i64 0] 26)) := by
  constructor
  case bl =>
    repeat apply below_alloc
    exact Below.refl _ _
  all_goals
    repeat (first | (refine kn_blk_at ?_; (simp; done)) | apply kn_blk_alloc)
def interlocutorlaw4_known.f : Option Bool := some true
set_option maxHeartbeats 4000000 in
set_option maxRecDepth 100000 in
theorem interlocutorlaw4_known.calls (r : Bool) (w : World) (h : interlocutorlaw4_known.f = some r) :
    Calls Try.prog 13 #[] w fun e w' => e = .returned (.bool r) ∧ Below w.heap.size w w' := by
  obtain rfl := Option.some.inj h
  clear h
  have HK := Aside0.mk (kn_start w)
  have HSZ := Aside0.mk (show ((((((w.alloc (.cells #[.int .i64 1] 3)).alloc (.cells #[.int .i64 0] 3)).alloc (.cells #[.int .i64 0, .slice (some ⟨w.heap.size, 0, none⟩) 1 1, .int .i64 0, .slice (some ⟨w.heap.size + 1, 0, none⟩) 1 1, .int .i64 0] 26)).alloc (.cells #[.int .i64 0] 3)).alloc (.cells #[.int .i64 0] 3)).alloc (.cells #[.int .i64 1, .slice (some ⟨w.heap.size + 1 + 1 + 1, 0, none⟩) 1 1, .int .i64 0, .slice (some ⟨w.heap.size + 1 + 1 + 1 + 1, 0, none⟩) 1 1, .int .i64 0] 26)).heap.size = w.heap.size + 1 + 1 + 1 + 1 + 1 + 1 by simp)
  obtain ⟨p0, p1, p2, p3, p4⟩ := HK.out.cellsA
  obtain ⟨q0, q1, q2, q3, q4⟩ := HK.out.cellsB
  go_enter Try.func13, Try.ntmps13
  go_wp2_with fail
  generalize ((((((w.alloc (.cells #[.int .i64 1] 3)).alloc (.cells #[.int .i64 0] 3)).alloc (.cells #[.int .i64 0, .slice (some ⟨w.heap.size, 0, none⟩) 1 1, .int .i64 0, .slice (some ⟨w.heap.size + 1, 0, none⟩) 1 1, .int .i64 0] 26)).alloc (.cells #[.int .i64 0] 3)).alloc (.cells #[.int .i64 0] 3)).alloc (.cells #[.int .i64 1, .slice (some ⟨w.heap.size + 1 + 1 + 1, 0, none⟩) 1 1, .int .i64 0, .slice (some ⟨w.heap.size + 1 + 1 + 1 + 1, 0, none⟩) 1 1, .int .i64 0] 26)) = W0 at *
  have hrow := HK.out.rowA
  rw [HSZ.out] at hrow
  refine (gram_Units.calls _ 1 [ruleA] (unitsP [ruleA]) _ hrow (Nat.le_refl _) (if_pos (by decide))).mono ?_
  rintro e w1 ⟨v1, rfl, hS, hb⟩
  obtain ⟨A1, c1, rfl, hc1, hC1⟩ := Kd.S_reads hS
  rw [units_a.1] at hc1 hC1 ⊢
  have HK1 := Aside0.mk (HK.out.below ((below_alloc (Below.refl _ _) _).trans (hb.mono (by simp))))
  have HU1 := Aside0.mk hC1
  clear hS hb hrow hC1 p0 p1 p2 p3 p4 q0 q1 q2 q3 q4 HSZ HK
  obtain ⟨p0, p1, p2, p3, p4⟩ := HK1.out.cellsA
  go_wp2_with fail
  refine (gram_Reached.calls _ 1 [ruleA] (reachL (nextP [ruleA]) [0]) _ HK1.out.rowA (Nat.le_refl _) (if_pos (by decide))).mono ?_
  rintro e w2 ⟨v2, rfl, hR, hb⟩
  rw [reached_a] at hR
  obtain ⟨A2, c2, rfl, hc2, hC2⟩ := Kd.R_reads hR
  have HK2 := Aside0.mk (HK1.out.below ((below_alloc (Below.refl _ _) _).trans (hb.mono (by simp))))
  have HU2 := Aside0.mk (Kd.C_below HU1.out ((below_alloc (Below.refl _ _) _).trans (hb.mono (by simp))))
  have HR2 := Aside0.mk hC2
  clear hR hb hC2 p0 p1 p2 p3 p4 HK1 HU1
  obtain ⟨p0, p1, p2, p3, p4⟩ := HK2.out.cellsA
  go_wp2_with fail
  refine (gram_Check.calls none 0 [] true w2 ⟨rfl, by simp, fun h => absurd h (by simp)⟩ (Nat.le_refl _) (congrArg some check_nil)).mono ?_
  rintro e w3 ⟨rfl, hb⟩
  have hb' : Below w2.heap.size w2 w3 := hb
  have HK3 := Aside0.mk (HK2.out.below hb')
  have HU3 := Aside0.mk (Kd.C_below HU2.out hb')
  have HR3 := Aside0.mk (Kd.C_below HR2.out hb')
  clear hb hb' p0 p1 p2 p3 p4 HK2 HU2 HR2
  obtain ⟨p0, p1, p2, p3, p4⟩ := HK3.out.cellsA
  go_wp2_with fail
  refine (gram_Right.calls 0 (some ⟨w.heap.size, 0, none⟩) 1 [1] 0 (some ⟨w.heap.size + 1, 0, none⟩) 1 [0] 0 true w3 (kn_int_of_blk HK3.out.a1) (Nat.le_refl _) (kn_int_of_blk HK3.out.a2) (Nat.le_refl _) (congrArg some rightA)).mono ?_
  rintro e w4 ⟨rfl, hb⟩
  have hb' : Below w3.heap.size w3 w4 := hb
  have HK4 := Aside0.mk (HK3.out.below hb')
  have HU4 := Aside0.mk (Kd.C_below HU3.out hb')
  have HR4 := Aside0.mk (Kd.C_below HR3.out hb')
  clear hb hb' p0 p1 p2 p3 p4 HK3 HU3 HR3
  obtain ⟨p0, p1, p2, p3, p4⟩ := HK4.out.cellsA
  go_wp2_with fail
  refine (gram_Check.calls _ 1 [ruleA] true _ HK4.out.rowA (Nat.le_refl _) (congrArg some check_a)).mono ?_
  rintro e w5 ⟨rfl, hb⟩
  have hb' : Below w4.heap.size w4 w5 := (below_alloc (Below.refl _ _) _).trans (hb.mono (by simp))
  have HK5 := Aside0.mk (HK4.out.below hb')
  have HU5 := Aside0.mk (Kd.C_below HU4.out hb')
  have HR5 := Aside0.mk (Kd.C_below HR4.out hb')
  clear hb hb' p0 p1 p2 p3 p4 HK4 HU4 HR4
  obtain ⟨p0, p1, p2, p3, p4⟩ := HK5.out.cellsA
  obtain ⟨q0, q1, q2, q3, q4⟩ := HK5.out.cellsB
  go_wp2_with fail
  refine (gram_Check.calls _ 2 [ruleA, ruleB] false _ HK5.out.rowAB (Nat.le_refl _) (congrArg some check_ab)).mono ?_
  rintro e w6 ⟨rfl, hb⟩
  have hb' : Below w5.heap.size w5 w6 := (below_alloc (Below.refl _ _) _).trans (hb.mono (by simp))
  have HK6 := Aside0.mk (HK5.out.below hb')
  have HU6 := Aside0.mk (Kd.C_below HU5.out hb')
  have HR6 := Aside0.mk (Kd.C_below HR5.out hb')
  clear q0 q1 q2 q3 q4 hb hb' p0 p1 p2 p3 p4 HK5 HU5 HR5
  obtain ⟨p0, p1, p2, p3, p4⟩ := HK6.out.cellsA
  obtain ⟨ad, A0, c0, rfl, u0, _, _⟩ := at_L2 (Kd.C_below HU6.out (Below.refl _ _)) 0 (by omega) (by omega)
  rw [units_a.2] at u0
  obtain ⟨ad2, rfl, r1⟩ := Kd.at_int HR6.out 1 (by omega) (by simp)
  have r1' : w6.cell? ⟨ad2.block, ad2.off + 1, none⟩ = some (.int .i64 1) := r1
  have u0' : w6.cell? ad = some (.slice A0 1 c0) := u0
  clear r1 u0 p0 p1 p2 p3 p4
  go_wp2
  go_ret
  exact ⟨rfl, HK6.out.bl⟩
end Go.Proofs.Ytjomlfdkmdgclaa.P
end
section
namespace Go.Proofs.Ytjomlfdkmdgclaa.P
open Go.RowKit Go.Proofs.YtjomlfdkmdgclaaW.PrintWords Go.Proofs.YtjomlfdkmdgclaaW.PrintLast Go.Proofs.YtjomlfdkmdgclaaW.PrintMore
attribute [local go_sem] max2_int min2_int max_two min_two max_three min_three max_four min_four   
set_option linter.unusedVariables false
set_option linter.unusedSimpArgs false
section
variable {ops : Array Oper} {o : Oper} {a : Act} {Q : Exit → Act → World → Prop} {Kc : Act → World → Prop}
end
end Go.Proofs.Ytjomlfdkmdgclaa.P
end
section
namespace Go.Proofs.Ytjomlfdkmdgclaa.P
open Go.RowKit Go.Proofs.YtjomlfdkmdgclaaW.PrintWords Go.Proofs.YtjomlfdkmdgclaaW.PrintLast Go.Proofs.YtjomlfdkmdgclaaW.PrintMore
attribute [local go_sem] max2_int min2_int max_two min_two max_three min_three max_four min_four   
set_option linter.unusedVariables false
set_option linter.unusedSimpArgs false
theorem URows.below {base g : Nat} {rows : Nat → List Int} {W W1 : World} {vals : List Value} {f : Nat → Nat} {i : Nat} (h : URows base g rows i W vals f) (hb : Below W.heap.size W W1) : URows base g rows i W1 vals f :=
  ⟨h.len, blk_below h.blk hb, h.ge, fun j hj => by obtain ⟨v, h1, h2⟩ := h.done j hj; exact ⟨v, h1, Kd.R_below h2 hb⟩, h.rest⟩
theorem URows.same {base g : Nat} {rows rows' : Nat → List Int} {W : World} {vals : List Value} {f : Nat → Nat} {i : Nat} (h : URows base g rows i W vals f) (he : ∀ j, j < i → rows' j = rows j) : URows base g rows' i W vals f :=
  ⟨h.len, h.blk, h.ge, fun j hj => by rw [he j hj]; exact h.done j hj, h.rest⟩
end Go.Proofs.Ytjomlfdkmdgclaa.P
end
section
namespace Go.Proofs.Ytjomlfdkmdgclaa.P
open Go.RowKit Go.Proofs.YtjomlfdkmdgclaaW.PrintWords Go.Proofs.YtjomlfdkmdgclaaW.PrintLast Go.Proofs.YtjomlfdkmdgclaaW.PrintMore
attribute [local go_sem] max2_int min2_int max_two min_two max_three min_three max_four min_four   
set_option linter.unusedVariables false
set_option linter.unusedSimpArgs false
end Go.Proofs.Ytjomlfdkmdgclaa.P
end
section
namespace Go.Proofs.Ytjomlfdkmdgclaa.P
open Go.RowKit Go.Proofs.YtjomlfdkmdgclaaW.PrintWords Go.Proofs.YtjomlfdkmdgclaaW.PrintLast Go.Proofs.YtjomlfdkmdgclaaW.PrintMore
attribute [local go_sem] max2_int min2_int max_two min_two max_three min_three max_four min_four   
set_option linter.unusedVariables false
set_option linter.unusedSimpArgs false
end Go.Proofs.Ytjomlfdkmdgclaa.P
end
section
namespace Go.Proofs.Ytjomlfdkmdgclaa.P
open Go.RowKit Go.Proofs.YtjomlfdkmdgclaaW.PrintWords Go.Proofs.YtjomlfdkmdgclaaW.PrintLast Go.Proofs.YtjomlfdkmdgclaaW.PrintMore
attribute [local go_sem] max2_int min2_int max_two min_two max_three min_three max_four min_four   
set_option linter.unusedVariables false
set_option linter.unusedSimpArgs false
section
variable (a0 : Int) (l1 : List Int) (a2 : Int) (l3 : List Int) (a4 : Int)
end
end Go.Proofs.Ytjomlfdkmdgclaa.P
end
section
namespace Go.Proofs.Ytjomlfdkmdgclaa.P
open Go.RowKit Go.Proofs.YtjomlfdkmdgclaaW.PrintWords Go.Proofs.YtjomlfdkmdgclaaW.PrintLast Go.Proofs.YtjomlfdkmdgclaaW.PrintMore
attribute [local go_sem] max2_int min2_int max_two min_two max_three min_three max_four min_four   
set_option linter.unusedVariables false
set_option linter.unusedSimpArgs false
end Go.Proofs.Ytjomlfdkmdgclaa.P
end
section
namespace Go.Proofs.Ytjomlfdkmdgclaa.P
open Go.RowKit Go.Proofs.YtjomlfdkmdgclaaW.PrintWords Go.Proofs.YtjomlfdkmdgclaaW.PrintLast Go.Proofs.YtjomlfdkmdgclaaW.PrintMore
attribute [local go_sem] max2_int min2_int max_two min_two max_three min_three max_four min_four   
set_option linter.unusedVariables false
set_option linter.unusedSimpArgs false
end Go.Proofs.Ytjomlfdkmdgclaa.P
end
section
namespace Go.Proofs.Ytjomlfdkmdgclaa.P
open Go.RowKit Go.Proofs.YtjomlfdkmdgclaaW.PrintWords Go.Proofs.YtjomlfdkmdgclaaW.PrintLast Go.Proofs.YtjomlfdkmdgclaaW.PrintMore
attribute [local go_sem] max2_int min2_int max_two min_two max_three min_three max_four min_four   
set_option linter.unusedVariables false
set_option linter.unusedSimpArgs false
end Go.Proofs.Ytjomlfdkmdgclaa.P
end
section
namespace Go.Proofs.Ytjomlfdkmdgclaa.P
open Go.RowKit Go.Proofs.YtjomlfdkmdgclaaW.PrintWords Go.Proofs.YtjomlfdkmdgclaaW.PrintLast Go.Proofs.YtjomlfdkmdgclaaW.PrintMore
attribute [local go_sem] max2_int min2_int max_two min_two max_three min_three max_four min_four   
set_option linter.unusedVariables false
set_option linter.unusedSimpArgs false
abbrev Raw' := S31
theorem rdR_getElem (l : List Raw') (j : Nat) (h : j < l.length) : rd_T31 l j = l[j] := by
  unfold rd_T31
  rw [Int.toNat_natCast, List.getD_eq_getElem?_getD, List.getElem?_eq_getElem h]
  rfl
def fewB (l : List Raw') : Bool := l.all fun x => decide (x.f3.length ≤ 20 ∧ x.f4.length ≤ 20)
theorem few_loop (l : List Raw') (hl : l.length ≤ 9223372036854775807) : ∀ (d j : Nat), j + d = l.length → ∀ k, d < k → interlocutorlaw4_Few.l0 k l j = some (fewB (l.drop j) && decide (l.length ≤ 80)) := by
  intro d
  induction d with
  | zero =>
    intro j hj k hk
    obtain ⟨k, rfl⟩ : ∃ i, k = i + 1 := ⟨k - 1, by omega⟩
    simp only [interlocutorlaw4_Few.l0]
    rw [if_neg (by omega), show j = l.length by omega, List.drop_length]
    have : decide ((l.length : Int) ≤ 80) = decide (l.length ≤ 80) := decide_eq_decide.2 (by omega)
    rw [this]
    rfl
  | succ d ih =>
    intro j hj k hk
    obtain ⟨k, rfl⟩ : ∃ i, k = i + 1 := ⟨k - 1, by omega⟩
    have hlt : j < l.length := by omega
    have hw : wrap64 ((j : Int) + 1) = ((j + 1 : Nat) : Int) := by rw [wrap_in (by omega)]; rfl
    have h1 := ih (j + 1) (by omega) k (by omega)
    simp only [interlocutorlaw4_Few.l0]
    rw [if_pos (by omega), if_pos (by omega), rdR_getElem l j hlt, hw, h1, List.drop_eq_getElem_cons hlt]
    unfold fewB
    rw [List.all_cons]
    by_cases h3 : (l[j].f3.length : Int) > 20
    · rw [if_pos h3, decide_eq_false (by omega)]; rfl
    · rw [if_neg h3]
      by_cases h4 : (l[j].f4.length : Int) > 20
      · rw [if_pos h4, decide_eq_false (by omega)]; rfl
      · rw [if_neg h4, decide_eq_true (by omega : l[j].f3.length ≤ 20 ∧ l[j].f4.length ≤ 20)]
        rfl
theorem few_some (l : List Raw') (hl : l.length ≤ 9223372036854775807) (k : Nat) (hk : l.length < k) : interlocutorlaw4_Few.f k l = some (fewB l && decide (l.length ≤ 80)) := by
  have h := few_loop l hl l.length 0 (by omega) k hk
  rw [List.drop_zero] at h
  exact h
def kidOk (s : Int) (y : Int) : Prop := (0 ≤ y ∧ y < s) ∨ (-55 ≤ y ∧ y ≤ -1)
section
variable (s n a0 a1 a2 : Int) (l3 l4 : List Int) (c0 : Int) (rhs : List Int) (c2 c4 : Int)
theorem make_places (hn : n ≤ 3) (hr : 1 ≤ rhs.length) (hr2 : rhs.length ≤ 10) (h4 : l4.length ≤ 20) : ∀ (d j : Nat) (ps : List Int), (j : Int) + d = n → ps.length = j → (∀ p ∈ ps, 0 ≤ p ∧ p < (rhs.length : Int)) →
    ∃ ps' : List Int, (ps'.length : Int) = n ∧ (∀ p ∈ ps', 0 ≤ p ∧ p < (rhs.length : Int)) ∧ ∀ k, d < k → interlocutorlaw4_Raw_Make.l1 k n j a0 a1 a2 l3 l4 c0 rhs c2 ps c4 = some (c0, rhs, c2, ps', c4) := by
  intro d
  induction d with
  | zero =>
    intro j ps hj hl hp
    refine ⟨ps, by omega, hp, fun k hk => ?_⟩
    obtain ⟨k, rfl⟩ : ∃ i, k = i + 1 := ⟨k - 1, by omega⟩
    simp only [interlocutorlaw4_Raw_Make.l1]
    rw [if_neg (by omega)]
  | succ d ih =>
    intro j ps hj hl hp
    have hw : wrap64 ((j : Int) + 1) = ((j + 1 : Nat) : Int) := by rw [wrap_in (by omega)]; rfl
    by_cases h : (j : Int) < (l4.length : Int)
    · have hv0 := rem_ge (rd l4 j) (rhs.length : Int) (by omega)
      have hv1 := rem_lt (rd l4 j) (rhs.length : Int) (by omega)
      obtain ⟨ps', h1, h2, h3⟩ := ih (j + 1) (ps ++ [rd l4 j % (rhs.length : Int)]) (by omega) (by rw [List.length_append, hl]; rfl) (fun p hp' => by
        rcases List.mem_append.1 hp' with hp' | hp'
        · exact hp p hp'
        · rw [List.mem_singleton.1 hp']; exact ⟨hv0, hv1⟩)
      refine ⟨ps', h1, h2, fun k hk => ?_⟩
      obtain ⟨k, rfl⟩ : ∃ i, k = i + 1 := ⟨k - 1, by omega⟩
      simp only [interlocutorlaw4_Raw_Make.l1]
      rw [if_pos (by omega), if_pos h, if_pos (by omega), within_rem _ _ (by omega) (by omega), Option.bind_some, if_pos (by omega), hw]
      exact h3 k (by omega)
    · have hv0 := rem_ge (j : Int) (rhs.length : Int) (by omega)
      have hv1 := rem_lt (j : Int) (rhs.length : Int) (by omega)
      obtain ⟨ps', h1, h2, h3⟩ := ih (j + 1) (ps ++ [(j : Int) % (rhs.length : Int)]) (by omega) (by rw [List.length_append, hl]; rfl) (fun p hp' => by
        rcases List.mem_append.1 hp' with hp' | hp'
        · exact hp p hp'
        · rw [List.mem_singleton.1 hp']; exact ⟨hv0, hv1⟩)
      refine ⟨ps', h1, h2, fun k hk => ?_⟩
      obtain ⟨k, rfl⟩ : ∃ i, k = i + 1 := ⟨k - 1, by omega⟩
      simp only [interlocutorlaw4_Raw_Make.l1]
      rw [if_pos (by omega), if_neg h, within_rem _ _ (by omega) (by omega), Option.bind_some, if_pos (by omega), hw]
      exact h3 k (by omega)
theorem kid_table : ∀ t : Fin 11, -55 ≤ wrap64 ((-1) - (rd ([0, 0, 0, 1, 2, 3, 50, 51, 52, 53, 54] : List Int) ((t.val : Nat) : Int))) ∧ wrap64 ((-1) - (rd ([0, 0, 0, 1, 2, 3, 50, 51, 52, 53, 54] : List Int) ((t.val : Nat) : Int))) ≤ -1 := by decide +kernel
theorem make_kids (s n a0 a1 a2 : Int) (l3 l4 : List Int) (c0 c2 c4 : Int) (hs : 1 ≤ s ∧ s ≤ 20) (hn : 1 ≤ n ∧ n ≤ 3) (h3 : l3.length ≤ 20) (hw3 : ∀ y ∈ l3, wfI y) (h4 : l4.length ≤ 20) (ha1 : wfI a1) : ∀ (d i : Nat) (rhs : List Int), i + d = 3 → rhs.length = i → (∀ y ∈ rhs, kidOk s y) →
    ∃ rhs' ps', (1 ≤ rhs'.length ∧ rhs'.length ≤ 3) ∧ (∀ y ∈ rhs', kidOk s y) ∧ ((ps'.length : Int) = n) ∧ (∀ p ∈ ps', 0 ≤ p ∧ p < (rhs'.length : Int)) ∧ ∀ k, 3 * d + 20 < k → interlocutorlaw4_Raw_Make.l0 k s n i a0 a1 a2 l3 l4 c0 rhs c2 c4 = some (c0, rhs', c2, ps', c4) := by
  intro d
  induction d with
  | zero =>
    intro i rhs hi hl hk
    obtain ⟨ps', p1, p2, p3⟩ := make_places n a0 a1 a2 l3 l4 c0 rhs c2 c4 hn.2 (by omega) (by omega) h4 n.toNat 0 [] (by omega) rfl (by simp)
    refine ⟨rhs, ps', ⟨by omega, by omega⟩, hk, p1, p2, fun k hk => ?_⟩
    obtain ⟨k, rfl⟩ : ∃ j, k = j + 2 := ⟨k - 2, by omega⟩
    have hm0 := rem_ge (l3.length : Int) 3 (by omega)
    have hm1 := rem_lt (l3.length : Int) 3 (by omega)
    rw [show k + 2 = (k + 1) + 1 by omega]
    simp only [interlocutorlaw4_Raw_Make.l0]
    rw [within_rem _ 3 (by omega) (by omega), Option.bind_some, wrap_in (by omega), if_neg (by omega), if_neg (by omega)]
    simp only [interlocutorlaw4_Raw_Make.j1, Bool.false_eq_true, if_false]
    exact p3 k (by omega)
  | succ d ih =>
    intro i rhs hi hl hk
    have hm0 := rem_ge (l3.length : Int) 3 (by omega)
    have hm1 := rem_lt (l3.length : Int) 3 (by omega)
    obtain ⟨b, hb0, hb⟩ : ∃ b : Bool, (i = 0 → b = true) ∧ ∀ k, interlocutorlaw4_Raw_Make.l0 (k + 1) s n i a0 a1 a2 l3 l4 c0 rhs c2 c4 = interlocutorlaw4_Raw_Make.j1 k s n i b a0 a1 a2 l3 l4 c0 rhs c2 c4 := by
      by_cases h1 : (i : Int) < 1 + (l3.length : Int) % 3
      · refine ⟨true, fun _ => rfl, fun k => ?_⟩
        simp only [interlocutorlaw4_Raw_Make.l0]
        rw [within_rem _ 3 (by omega) (by omega), Option.bind_some, wrap_in (by omega), if_pos h1]
      · by_cases h2 : (i : Int) < n
        · refine ⟨(wrap64 (Int.tdiv a1 16) % 2 == 0), fun h => by omega, fun k => ?_⟩
          simp only [interlocutorlaw4_Raw_Make.l0]
          rw [within_rem _ 3 (by omega) (by omega), Option.bind_some, wrap_in (by omega), if_neg h1, if_pos h2, within_rem _ 2 (by omega) (by omega), Option.bind_some]
        · refine ⟨false, fun h => by omega, fun k => ?_⟩
          simp only [interlocutorlaw4_Raw_Make.l0]
          rw [within_rem _ 3 (by omega) (by omega), Option.bind_some, wrap_in (by omega), if_neg h1, if_neg h2]
    cases b with
    | false =>
      have hi1 : i ≠ 0 := fun h => by have := hb0 h; cases this
      obtain ⟨ps', p1, p2, p3⟩ := make_places n a0 a1 a2 l3 l4 c0 rhs c2 c4 hn.2 (by omega) (by omega) h4 n.toNat 0 [] (by omega) rfl (by simp)
      refine ⟨rhs, ps', ⟨by omega, by omega⟩, hk, p1, p2, fun k hk => ?_⟩
      obtain ⟨k, rfl⟩ : ∃ j, k = j + 2 := ⟨k - 2, by omega⟩
      rw [show k + 2 = (k + 1) + 1 by omega, hb]
      simp only [interlocutorlaw4_Raw_Make.j1, Bool.false_eq_true, if_false]
      exact p3 k (by omega)
    | true =>
      obtain ⟨v, hv⟩ : ∃ v : Int, ∀ k, interlocutorlaw4_Raw_Make.j1 (k + 1) s n i true a0 a1 a2 l3 l4 c0 rhs c2 c4 = interlocutorlaw4_Raw_Make.j2 k s n i v a0 a1 a2 l3 l4 c0 rhs c2 c4 := by
        by_cases h1 : (i : Int) < (l3.length : Int)
        · refine ⟨rd l3 i, fun k => ?_⟩
          simp only [interlocutorlaw4_Raw_Make.j1, if_true]
          rw [if_pos h1, if_pos (by omega)]
        · refine ⟨i, fun k => ?_⟩
          simp only [interlocutorlaw4_Raw_Make.j1, if_true]
          rw [if_neg h1]
      have hw : wrap64 ((i : Int) + 1) = ((i + 1 : Nat) : Int) := by rw [wrap_in (by omega)]; rfl
      obtain ⟨y, hy, hj⟩ : ∃ y : Int, kidOk s y ∧ ∀ k, interlocutorlaw4_Raw_Make.j2 (k + 1) s n i v a0 a1 a2 l3 l4 c0 rhs c2 c4 = interlocutorlaw4_Raw_Make.l0 k s n ((i + 1 : Nat) : Int) a0 a1 a2 l3 l4 c0 (rhs ++ [y]) c2 c4 := by
        by_cases h1 : wrap64 (Int.tdiv v 20) % 2 = 0
        · obtain ⟨t, ht⟩ := as_fin 11 rfl (rem_ge (wrap64 (Int.tdiv v 40)) 11 (by omega)) (rem_lt (wrap64 (Int.tdiv v 40)) 11 (by omega))
          refine ⟨_, .inr (kid_table t), fun k => ?_⟩
          simp only [interlocutorlaw4_Raw_Make.j2]
          rw [within_rem v s (by omega) (by omega), Option.bind_some, within_rem _ 2 (by omega) (by omega), Option.bind_some, if_pos h1, Option.bind_some, within_rem _ 11 (by omega) (by omega), Option.bind_some, ht, if_pos (by omega), if_pos (by have := t.isLt; simp; omega), if_pos (by omega), hw]
        · refine ⟨v % s, .inl ⟨rem_ge v s (by omega), rem_lt v s (by omega)⟩, fun k => ?_⟩
          simp only [interlocutorlaw4_Raw_Make.j2]
          rw [within_rem v s (by omega) (by omega), Option.bind_some, within_rem _ 2 (by omega) (by omega), Option.bind_some, if_neg h1, if_pos (by omega), hw]
      obtain ⟨rhs', ps', q1, q2, q3, q4, q5⟩ := ih (i + 1) (rhs ++ [y]) (by omega) (by rw [List.length_append, hl]; rfl) (fun z hz => by
        rcases List.mem_append.1 hz with hz | hz
        · exact hk z hz
        · rw [List.mem_singleton.1 hz]; exact hy)
      refine ⟨rhs', ps', q1, q2, q3, q4, fun k hk => ?_⟩
      obtain ⟨k, rfl⟩ : ∃ j, k = j + 3 := ⟨k - 3, by omega⟩
      rw [show k + 3 = ((k + 1) + 1) + 1 by omega, hb, hv, hj]
      exact q5 k (by omega)
def makeN (o : Nat) : Int := rd ([1, 3, 2, 2, 2, 2, 3, 1, 1, 2, 1, 1, 2, 2, 2, 2] : List Int) (o : Int)
theorem makeN_ok : ∀ o : Fin 16, (1 ≤ makeN o.val ∧ makeN o.val ≤ 3) ∧ (askedP ((o.val : Nat) : Int)).1 ≤ makeN o.val ∧ makeN o.val ≤ (askedP ((o.val : Nat) : Int)).2 := by decide +kernel
structure Made (s : Int) (r : Rule') : Prop where
  lhs : 0 ≤ r.f0 ∧ r.f0 < s
  len : 1 ≤ r.f1.length ∧ r.f1.length ≤ 3
  kids : ∀ y ∈ r.f1, kidOk s y
  right : rightR r = true
theorem make_some (x : Raw') (s : Int) (hs : 1 ≤ s ∧ s ≤ 20) (hx : okRaw x) (h3 : x.f3.length ≤ 20) (h4 : x.f4.length ≤ 20) :
    ∃ r : Rule', Made s r ∧ ∀ k, 40 ≤ k → interlocutorlaw4_Raw_Make.f k x.f0 x.f1 x.f2 x.f3 x.f4 s = some (r.f0, r.f1, r.f2.f0, r.f2.f1, r.f3) := by
  obtain ⟨_, hw1, _, hw3, _⟩ := hx
  obtain ⟨o, ho⟩ := as_fin 16 rfl (rem_ge x.f1 16 (by omega)) (rem_lt x.f1 16 (by omega))
  have hn := makeN_ok o
  have hc0 := rem_ge x.f2 101 (by omega)
  have hc1 := rem_lt x.f2 101 (by omega)
  have hl0 := rem_ge x.f0 s (by omega)
  have hl1 := rem_lt x.f0 s (by omega)
  obtain ⟨rhs, ps, p1, p2, p3, p4, p5⟩ := make_kids s (makeN o.val) x.f0 x.f1 x.f2 x.f3 x.f4 (x.f0 % s) ((o.val : Nat) : Int) (x.f2 % 101) hs hn.1 h3 hw3 h4 hw1 3 0 [] rfl rfl (by simp)
  refine ⟨⟨x.f0 % s, rhs, ⟨((o.val : Nat) : Int), ps⟩, x.f2 % 101⟩, ⟨⟨hl0, hl1⟩, p1, p2, ?_⟩, fun k hk => ?_⟩
  · show rightP (x.f0 % s) rhs ((o.val : Nat) : Int) ps (x.f2 % 101) = true
    unfold rightP symbolB withinB
    simp only [Bool.and_eq_true, decide_eq_true_eq, List.all_eq_true]
    refine ⟨⟨hl0, by omega⟩, ⟨by omega, by omega⟩, fun y hy => ?_, ⟨hc0, by omega⟩, ⟨by omega, by omega⟩, fun p hp => ?_⟩
    · unfold itemB
      rcases p2 y hy with h | h
      · rw [decide_eq_true (by omega), decide_eq_true (by omega)]; rfl
      · rw [decide_eq_true (by omega), decide_eq_true (by omega)]; rfl
    · have h := p4 p hp
      unfold placeB
      rw [decide_eq_true h.1, decide_eq_true h.2]; rfl
  · unfold interlocutorlaw4_Raw_Make.f
    rw [within_rem x.f0 s (by omega) (by omega), Option.bind_some, within_rem x.f2 101 (by omega) (by omega), Option.bind_some, within_rem x.f1 16 (by omega) (by omega), Option.bind_some, Option.bind_some, ho, if_pos (by omega), if_pos (by have := o.isLt; simp; omega)]
    exact p5 k (by omega)
end
end Go.Proofs.Ytjomlfdkmdgclaa.P
end
section
namespace Go.Proofs.Ytjomlfdkmdgclaa.P
open Go.RowKit Go.Proofs.YtjomlfdkmdgclaaW.PrintWords Go.Proofs.YtjomlfdkmdgclaaW.PrintLast Go.Proofs.YtjomlfdkmdgclaaW.PrintMore
attribute [local go_sem] max2_int min2_int max_two min_two max_three min_three max_four min_four   
set_option linter.unusedVariables false
set_option linter.unusedSimpArgs false
end Go.Proofs.Ytjomlfdkmdgclaa.P
end
section
namespace Go.Proofs.Ytjomlfdkmdgclaa.P
open Go.RowKit Go.Proofs.YtjomlfdkmdgclaaW.PrintWords Go.Proofs.YtjomlfdkmdgclaaW.PrintLast Go.Proofs.YtjomlfdkmdgclaaW.PrintMore
attribute [local go_sem] max2_int min2_int max_two min_two max_three min_three max_four min_four   
set_option linter.unusedVariables false
set_option linter.unusedSimpArgs false
theorem rightR_sym (r : Rule') (h : rightR r = true) : (0 ≤ r.f0 ∧ r.f0 < 20) ∧ (1 ≤ r.f1.length ∧ r.f1.length ≤ 6) ∧ (∀ y ∈ r.f1, -61 ≤ y ∧ y < 20) ∧ (0 ≤ r.f3 ∧ r.f3 ≤ 100) := by
  unfold rightR rightP symbolB withinB at h
  simp only [Bool.and_eq_true, decide_eq_true_eq, List.all_eq_true] at h
  refine ⟨h.1, ⟨by omega, by omega⟩, fun y hy => ?_, h.2.2.2.1⟩
  have := h.2.2.1 y hy
  unfold itemB at this
  simp only [Bool.and_eq_true, decide_eq_true_eq] at this
  omega
theorem sumLen_right : ∀ a : List Rule', a.all rightR = true → sumLen a ≤ 6 * a.length
  | [], _ => by simp [sumLen]
  | r :: a, h => by
    rw [List.all_cons, Bool.and_eq_true] at h
    have h1 := sumLen_right a h.2
    have h2 := (rightR_sym r h.1).2.1.2
    unfold sumLen at h1 ⊢
    rw [List.map_cons, List.sum_cons, List.length_cons]
    omega
end Go.Proofs.Ytjomlfdkmdgclaa.P
end
section
namespace Go.Proofs.Ytjomlfdkmdgclaa.P
open Go.RowKit Go.Proofs.YtjomlfdkmdgclaaW.PrintWords Go.Proofs.YtjomlfdkmdgclaaW.PrintLast Go.Proofs.YtjomlfdkmdgclaaW.PrintMore
attribute [local go_sem] max2_int min2_int max_two min_two max_three min_three max_four min_four   
set_option linter.unusedVariables false
set_option linter.unusedSimpArgs false
noncomputable def interlocutorref3_Ints.l0 : Nat → List Int → List Int → Int → Option (Bool)
  | 0, _, _, _ => none
  | k + 1, x0, x1, x5 => if x5 < (x0.length : Int) then (if 0 ≤ x5 then (if x5 < (x1.length : Int) then (if (rd x0 x5) = (rd x1 x5) then (interlocutorref3_Ints.l0 k x0 x1 (wrap64 (x5 + 1))) else (some false)) else (none)) else (none)) else (some true)
noncomputable def interlocutorref3_Ints.f (k : Nat) (l0 : List Int) (l1 : List Int) : Option (Bool) := if (l0.length : Int) = (l1.length : Int) then (interlocutorref3_Ints.l0 k l0 l1 0) else (some false)
theorem interlocutorref3_Ints.mono_l : ∀ k, (∀ y0 y1 y2, LeO (interlocutorref3_Ints.l0 k y0 y1 y2) (interlocutorref3_Ints.l0 (k + 1) y0 y1 y2))
  | 0 => fun _ _ _ r h => by simp [interlocutorref3_Ints.l0] at h
  | k + 1 => by
    have ih0 := interlocutorref3_Ints.mono_l k
    · intro y0 y1 y2
      unfold interlocutorref3_Ints.l0
      repeat' first
      | (with_reducible exact ih0 _ _ _)
      | (with_reducible exact LeO.refl _)
      | (with_reducible exact LeO.none _)
      | (with_reducible refine LeO.ite ?_ ?_)
      | (with_reducible refine LeO.bind ?_ (fun _ => ?_))
      | exact ih0 _ _ _
      | exact LeO.none _
      | refine LeO.ite ?_ ?_
      | refine LeO.bind ?_ (fun _ => ?_)
theorem interlocutorref3_Ints.mono : ∀ a0 a1 k, LeO (interlocutorref3_Ints.f k a0 a1) (interlocutorref3_Ints.f (k + 1) a0 a1) := by
  intro a0 a1 k
  have ih0 := interlocutorref3_Ints.mono_l k
  unfold interlocutorref3_Ints.f
  repeat' first
      | (with_reducible exact ih0 _ _ _)
      | (with_reducible exact LeO.refl _)
      | (with_reducible exact LeO.none _)
      | (with_reducible refine LeO.ite ?_ ?_)
      | (with_reducible refine LeO.bind ?_ (fun _ => ?_))
      | exact ih0 _ _ _
      | exact LeO.none _
      | refine LeO.ite ?_ ?_
      | refine LeO.bind ?_ (fun _ => ?_)
set_option maxHeartbeats 8000000 in
set_option maxRecDepth 100000 in
theorem interlocutorref3_Ints.calls (k : Nat) (A0 : Option Addr) (c0 : Nat) (l0 : List Int) (A1 : Option Addr) (c1 : Nat) (l1 : List Int) (r : Bool) (w : World) (hr0 : Kd.C (Kd.int .i64) w A0 l0.length l0) (hc0 : l0.length ≤ c0) (hr1 : Kd.C (Kd.int .i64) w A1 l1.length l1) (hc1 : l1.length ≤ c1) (h : interlocutorref3_Ints.f k l0 l1 = some r) :
    Calls Try.prog 23 #[.slice A0 l0.length c0, .slice A1 l1.length c1] w fun e w' => e = .returned (.bool r) ∧ Drawn0 w w' := by
  have HR0 := Aside0.mk hr0
  have HC0 := Aside0.mk hc0
  clear hr0 hc0
  have HR1 := Aside0.mk hr1
  have HC1 := Aside0.mk hc1
  clear hr1 hc1
  have H : (if (l0.length : Int) = (l1.length : Int) then (interlocutorref3_Ints.l0 k l0 l1 0) else (some false)) = some r := h
  clear h
  by_cases c3 : (l0.length : Int) = (l1.length : Int)
  · rw [if_pos c3] at H
    have c3b0 : ((l0.length : Int) == (l1.length : Int)) = true := beq_iff_eq.mpr c3
    have c3b1 : ((l0.length : Int) != (l1.length : Int)) = false := bne_eq_false_iff_eq.mpr c3
    have c3b2 : (l0.length == l1.length) = true := by first | simpa using c3 | (simp at c3 ⊢; omega)
    clear c3
    have H' := Aside0.mk H
    clear H
    go_enter Try.func23, Try.ntmps23
    go_wp2
    repeat (go_quiet (fail); try go_wp2)
    go_loopg [5] k (fun kq v5 w' => ∃ (x5_1 : Int), v5 = .int .i64 x5_1 ∧ Aside0 (interlocutorref3_Ints.l0 kq l0 l1 x5_1 = some r) ∧ Aside0 (kq ≤ k) ∧ Drawn0 w w')
    case atStart => exact ⟨(0), (by first | rfl | (simp; done) | (simp [*]; done)), H', ⟨Nat.le_refl _⟩, by repeat (first | exact Drawn0.refl _ | apply Drawn0.step)⟩
    case round =>
      clear H'
      try clear c1
      try clear c2
      try clear p2
      try clear c3
      try clear c3b0
      try clear c3b1
      try clear c3b2
      obtain ⟨x5_1, rfl, HA, HK1, ⟨m1, rfl⟩⟩ := hrel
      cases gk with
      | zero => exact absurd HA.out (by simp [interlocutorref3_Ints.l0])
      | succ k1 =>
        have H := HA.out
        clear HA
        simp only [interlocutorref3_Ints.l0] at H
        by_cases c4 : x5_1 < (l0.length : Int)
        · rw [if_pos c4] at H
          have c4b0 : decide (x5_1 < (l0.length : Int)) = true := decide_eq_true c4
          clear c4
          by_cases c5 : 0 ≤ x5_1
          · rw [if_pos c5] at H
            have c5b0 : decide (0 ≤ x5_1) = true := decide_eq_true c5
            clear c5
            by_cases c6 : x5_1 < (l1.length : Int)
            · rw [if_pos c6] at H
              have c6b0 : decide (x5_1 < (l1.length : Int)) = true := decide_eq_true c6
              clear c6
              by_cases c7 : (rd l0 x5_1) = (rd l1 x5_1)
              · rw [if_pos c7] at H
                have c7b0 : ((rd l0 x5_1) == (rd l1 x5_1)) = true := beq_iff_eq.mpr c7
                have c7b1 : ((rd l0 x5_1) != (rd l1 x5_1)) = false := bne_eq_false_iff_eq.mpr c7
                clear c7
                have H' := Aside0.mk H
                clear H
                have p215 : 0 ≤ (x5_1 : Int) := of_decide_eq_true (by first | (with_reducible assumption) | assumption)
                have q215 : x5_1 < (l0.length : Int) := of_decide_eq_true (by first | (with_reducible assumption) | assumption)
                obtain ⟨ad215, e215, hx215_0⟩ := Kd.at_int HR0.out x5_1 p215 q215
                cases e215
                replace p215 := eq_true p215
                replace q215 := eq_true q215
                have p216 : 0 ≤ (x5_1 : Int) := of_decide_eq_true (by first | (with_reducible assumption) | assumption)
                have q216 : x5_1 < (l1.length : Int) := of_decide_eq_true (by first | (with_reducible assumption) | assumption)
                obtain ⟨ad216, e216, hx216_0⟩ := Kd.at_int HR1.out x5_1 p216 q216
                cases e216
                replace p216 := eq_true p216
                replace q216 := eq_true q216
                go_wp2
                repeat (go_quiet (fail); try go_wp2)
                go_roundg k1
                case measure => have := HK1.out; omega
                case rel => exact ⟨(wrap64 (x5_1 + 1)), (by first | rfl | (simp; done) | (simp [*]; done)), H', ⟨by have := HK1.out; omega⟩, by repeat (first | exact Drawn0.refl _ | apply Drawn0.step)⟩
              · rw [if_neg c7] at H
                have c7b0 : ((rd l0 x5_1) == (rd l1 x5_1)) = false := beq_eq_false_iff_ne.mpr c7
                have c7b1 : ((rd l0 x5_1) != (rd l1 x5_1)) = true := bne_iff_ne.mpr c7
                obtain rfl := Option.some.inj H
                have p215 : 0 ≤ (x5_1 : Int) := of_decide_eq_true (by first | (with_reducible assumption) | assumption)
                have q215 : x5_1 < (l0.length : Int) := of_decide_eq_true (by first | (with_reducible assumption) | assumption)
                obtain ⟨ad215, e215, hx215_0⟩ := Kd.at_int HR0.out x5_1 p215 q215
                cases e215
                replace p215 := eq_true p215
                replace q215 := eq_true q215
                have p216 : 0 ≤ (x5_1 : Int) := of_decide_eq_true (by first | (with_reducible assumption) | assumption)
                have q216 : x5_1 < (l1.length : Int) := of_decide_eq_true (by first | (with_reducible assumption) | assumption)
                obtain ⟨ad216, e216, hx216_0⟩ := Kd.at_int HR1.out x5_1 p216 q216
                cases e216
                replace p216 := eq_true p216
                replace q216 := eq_true q216
                go_wp2
                repeat (go_quiet (fail); try go_wp2)
                go_ret
                exact ⟨by first | rfl | (simp; done) | (simp [*]; done), by repeat (first | exact Drawn0.refl _ | apply Drawn0.step)⟩
            · rw [if_neg c6] at H
              exact absurd H (by simp)
          · rw [if_neg c5] at H
            exact absurd H (by simp)
        · rw [if_neg c4] at H
          have c4b0 : decide (x5_1 < (l0.length : Int)) = false := decide_eq_false c4
          clear c4
          obtain rfl := Option.some.inj H
          go_wp2
          repeat (go_quiet (fail); try go_wp2)
          go_ret
          exact ⟨by first | rfl | (simp; done) | (simp [*]; done), by repeat (first | exact Drawn0.refl _ | apply Drawn0.step)⟩
  · rw [if_neg c3] at H
    have c3b0 : ((l0.length : Int) == (l1.length : Int)) = false := beq_eq_false_iff_ne.mpr c3
    have c3b1 : ((l0.length : Int) != (l1.length : Int)) = true := bne_iff_ne.mpr c3
    have c3b2 : (l0.length == l1.length) = false := by first | simpa using c3 | (simp at c3 ⊢; omega)
    obtain rfl := Option.some.inj H
    go_enter Try.func23, Try.ntmps23
    go_wp2
    repeat (go_quiet (fail); try go_wp2)
    go_ret
    exact ⟨by first | rfl | (simp; done) | (simp [*]; done), by repeat (first | exact Drawn0.refl _ | apply Drawn0.step)⟩
end Go.Proofs.Ytjomlfdkmdgclaa.P
end
section
namespace Go.Proofs.Ytjomlfdkmdgclaa.P
open Go.RowKit Go.Proofs.YtjomlfdkmdgclaaW.PrintWords Go.Proofs.YtjomlfdkmdgclaaW.PrintLast Go.Proofs.YtjomlfdkmdgclaaW.PrintMore
attribute [local go_sem] max2_int min2_int max_two min_two max_three min_three max_four min_four   
set_option linter.unusedVariables false
set_option linter.unusedSimpArgs false
theorem check_mem {a b : List Rule'} (hm : ∀ r, r ∈ a ↔ r ∈ b) (h1 : a.length ≤ 60) (h2 : b.length ≤ 60) : checkP a = checkP b := by
  have half : ∀ {a b : List Rule'}, (∀ r, r ∈ a ↔ r ∈ b) → b.length ≤ 60 → checkP a = true → checkP b = true := by
    intro a b hm hb h
    rw [checkP_iff] at h ⊢
    obtain ⟨_, h2, h3⟩ := h
    have hrow : ∀ x, inSym x → ∀ y ∈ rowsNext b x, y ∈ rowsNext a x := by
      intro x hx y hy
      obtain ⟨q1, r, q2, q3⟩ := (mem_rowsNext b x hx y).1 hy
      exact (mem_rowsNext a x hx y).2 ⟨q1, r, (hm r).2 q2, q3⟩
    exact ⟨hb, List.all_eq_true.2 fun r hr => List.all_eq_true.1 h2 r ((hm r).2 hr), fun x hx hR => h3 x hx (Reach.mono (rowsNext_sym b) (rowsNext_sym b x hx) (hrow x hx) hrow hR)⟩
  rw [Bool.eq_iff_iff]
  exact ⟨half hm h2, half (fun r => (hm r).symm) h1⟩
theorem reach_mem {a b : List Rule'} (hm : ∀ r, r ∈ a ↔ r ∈ b) : reachL (nextP a) [0] = reachL (nextP b) [0] := by
  have half : ∀ {a b : List Rule'}, (∀ r, r ∈ a ↔ r ∈ b) → ∀ y, Reach (nextP a) [0] y → Reach (nextP b) [0] y := by
    intro a b hm y h
    refine Reach.mono (fun x _ => nextP_sym a x) zero_sym (fun x hx => hx) (fun x _ y hy => ?_) h
    obtain ⟨q1, r, q2, q3⟩ := (mem_nextP a x y).1 hy
    exact (mem_nextP b x y).2 ⟨q1, r, (hm r).1 q2, q3⟩
  exact reachL_eq fun y _ => ⟨half hm y, half (fun r => (hm r).symm) y⟩
theorem made_N26 {W : World} {base g : Nat} (h : W.heap[g]? = some (.cells #[] 26 (0, 0))) (hb : base ≤ g) : Kd.N k26 26 W base (fun _ => True) (.slice (some ⟨g, 0, none⟩) 0 0) ([] : List Rule') :=
  Kd.R_N ⟨fun _ _ => trivial, [], ⟨rfl, .inr ⟨g, 0, #[], rfl, hb, h, Nat.le_refl _, Nat.zero_le _, rfl, rfl⟩⟩, Reps.none _ _⟩
theorem one5 (x0 x2 x4 : Int) (A1 A3 : Option Addr) (n1 c1 n3 c3 : Nat) : ∀ q ∈ [Value.int .i64 x0, .slice A1 n1 c1, .int .i64 x2, .slice A3 n3 c3, .int .i64 x4], q.oneCell' = true := by
  intro q hq
  simp only [List.mem_cons, List.not_mem_nil, or_false] at hq
  rcases hq with rfl | rfl | rfl | rfl | rfl <;> rfl
section
variable {P : Program} {ops : Array Oper} {o : Oper} {a : Act} {Q : Exit → Act → World → Prop} {Kc : Act → World → Prop} {α : Type}
theorem store_N_step (d : Kd α) {w0 W : World} (base : Nat) (hN : o.dst = none) (hw : Region.wanted o (yielded ops a.tmps) = true) (t : TypeId) (p x : Operand) (ho : o.op = .store t p x) (e : TypeId) {g n cap o' : Nat} (i : Nat) (xs : List α) (x' : α) (u : Value) (seg : List Value) (ok okp : Nat → Prop)
    (haddr : a.eval p = .pointer (some ⟨g, o', none⟩)) (hoff : o' = i * d.sz) (hx : a.eval x = u) (hu : u.cells.toList = seg) (ht : (P.info? t).map (·.size) = some seg.length) (h1 : ∀ q ∈ seg, q.oneCell' = true) (hsz : seg.length = d.sz)
    (HO : Kd.N d e W base ok (.slice (some ⟨g, 0, none⟩) n cap) xs) (hi : i < n) (hM : Kd.FK d W okp x' seg) (hokp : ∀ k, okp k → ok k ∧ k ≠ g) (HB : Below base w0 W)
    (h : ∀ w1, Kd.N d e w1 base ok (.slice (some ⟨g, 0, none⟩) n cap) (xs.set i x') → Below base w0 w1 → W.grownBy w1 (some g) → Kc a w1) :
    if Region.wanted o (yielded ops a.tmps) = true then Oper.wp P o a W Kc Q else Kc (a.put o.dst undef) W := by
  subst hoff
  obtain ⟨c, hcl, _, hcc, _⟩ := Kd.N_elem HO x' (i : Int) (by omega) (by omega)
  have hseg : c.take 0 ++ seg ++ c.drop (0 + seg.length) = seg := by
    rw [List.take_zero, List.nil_append, Nat.zero_add, List.drop_of_length_le (by omega), List.append_nil]
  obtain ⟨h2, h3⟩ := Kd.N_seg HO (i : Int) (by omega) (by omega) (j := 0) (seg := seg) hcl hcc (by omega) (x' := x') (by rw [hseg]; exact hM) hokp
  rw [Int.toNat_natCast, Nat.add_zero] at h2 h3
  have hbg : base ≤ g := Kd.N_base HO g (by simp [Value.ownBlock])
  have hB : Below base w0 (W.setCells g (i * d.sz) seg) := HB.trans ⟨h3.os, h3.tape, h3.output, h3.size, fun k hk => by
    have hlt : k < W.heap.size ∨ W.heap.size ≤ k := Nat.lt_or_ge _ _
    rcases hlt with hlt | hge
    · exact h3.block k hlt (fun he => by injection he with he; omega)
    · exact setCells_far seg _ k (by omega)⟩
  have hrun : (Instr.storeAt t (.pointer (some ⟨g, i * d.sz, none⟩)) u).run P W = .ok () (W.setCells g (i * d.sz) seg) := by
    obtain ⟨_, rows, _, hR, _⟩ := HO
    obtain ⟨_, inner, hown, _⟩ := hR
    rcases hown.2 with ⟨hv, _⟩ | ⟨g', cap', cur, hv, hb, hh, hnc, hcm, hcs, _⟩
    · cases hv
    injection hv with ha hn2 hc
    injection ha with ha
    injection ha with hg'
    subst hg'; subst hc
    refine run_store_run t u seg hh hu ht ?_ h1
    have h4 : i * d.sz + d.sz ≤ n * d.sz := by rw [← Nat.succ_mul]; exact Nat.mul_le_mul_right _ hi
    have h5 : n * d.sz ≤ cap * d.sz := Nat.mul_le_mul_right _ (by omega)
    have h6 : cap * d.sz = cur.size := by
      have := hcs
      simp only [Kd.raw] at this
      omega
    omega
  rw [if_pos hw]
  unfold Oper.wp execOp
  simp only [ho, haddr, hx, Sem.run_bind, Sem.run_pure, Result.andThen_ok, hrun]
  show Kc (a.put o.dst undef) _
  rw [hN]
  exact h _ h2 hB h3
end
theorem FK26_open {W : World} {ok : Nat → Prop} {x : Rule'} {c : List Value} (h : Kd.FK k26 W ok x c) : ∃ A1 c1 A3 c3, c = [.int .i64 x.f0, .slice A1 x.f1.length c1, .int .i64 x.f2.f0, .slice A3 x.f2.f1.length c3, .int .i64 x.f3] := by
  obtain ⟨A1, c1, A3, c3, he, _⟩ := k26_open (Kd.FK_now h)
  exact ⟨A1, c1, A3, c3, he⟩
theorem getD_at {l : List Rule'} {i : Nat} (h : i < l.length) (z : Rule') : l.getD i z = l[i] := by
  rw [List.getD_eq_getElem?_getD, List.getElem?_eq_getElem h]
  rfl
end Go.Proofs.Ytjomlfdkmdgclaa.P
end
section
namespace Go.Proofs.Ytjomlfdkmdgclaa.P
open Go.RowKit Go.Proofs.YtjomlfdkmdgclaaW.PrintWords Go.Proofs.YtjomlfdkmdgclaaW.PrintLast Go.Proofs.YtjomlfdkmdgclaaW.PrintMore
attribute [local go_sem] max2_int min2_int max_two min_two max_three min_three max_four min_four   
set_option linter.unusedVariables false
set_option linter.unusedSimpArgs false
def order_T9 : Bool × List (List Nat × List Nat) := (true, [([], []), ([], []), ([], []), ([1, 2], [1, 2]), ([3], [3]), ([], []), ([5], [5]), ([6], [6]), ([4, 7, 6], [4, 7]), ([8], [8]), ([0, 9, 8], [0, 9]), ([10, 10, 0, 1, 2, 3, 4, 5, 6, 7, 8, 9, 10], [0, 10])])
def order_B9 : List Nat := [0, 0, 0, 6, 14, 0, 32, 96, 254, 510, 1023, 2047]
theorem order_tab9 : rtab .any (opsOf Try.f8 9) = order_T9 := by kernel_rfl
theorem order_bits9 : waitsOk order_T9.2 order_B9 = true := by kernel_rfl
noncomputable def interlocutorlaw4_GramOrder.f (_ : Nat) (l0 : List Raw') (_ : Int) (_ : List Int) : Option Bool := @ite _ (∀ x ∈ l0, okRaw x) (Classical.propDecidable _) (some true) none
theorem ints_loop'' (l : List Int) (hl : l.length ≤ 1000000) : ∀ (d j : Nat), j + d = l.length → ∀ k, d < k → interlocutorref3_Ints.l0 k l l j = some true := by
  intro d
  induction d with
  | zero =>
    intro j hj k hk
    obtain ⟨k, rfl⟩ : ∃ i, k = i + 1 := ⟨k - 1, by omega⟩
    simp only [interlocutorref3_Ints.l0]
    rw [if_neg (by omega)]
  | succ d ih =>
    intro j hj k hk
    obtain ⟨k, rfl⟩ : ∃ i, k = i + 1 := ⟨k - 1, by omega⟩
    have hw : wrap64 ((j : Int) + 1) = ((j + 1 : Nat) : Int) := by rw [wrap_in (by omega)]; rfl
    simp only [interlocutorref3_Ints.l0]
    rw [if_pos (by omega), if_pos (by omega), hw]
    simp only [if_true]
    rw [if_pos (by omega)]
    exact ih (j + 1) (by omega) k (by omega)
theorem ints_same'' (l : List Int) (hl : l.length ≤ 1000000) (k : Nat) (hk : l.length < k) : interlocutorref3_Ints.f k l l = some true := by
  unfold interlocutorref3_Ints.f
  rw [if_pos rfl]
  exact ints_loop'' l hl l.length 0 (by omega) k hk
set_option maxHeartbeats 8000000 in
set_option maxRecDepth 100000 in
theorem orderLaw_walk (A0 : Option Addr) (c0 : Nat) (l0 : List Raw') (a1 : Int) (Ao : Option Addr) (co : Nat) (lo : List Int) (w : World) (hr0 : Kd.C k31 w A0 l0.length l0) (hc0 : l0.length ≤ c0) (hro : Kd.C (Kd.int .i64) w Ao lo.length lo) (hco : lo.length ≤ co) (hok : ∀ x ∈ l0, okRaw x) :
    Calls Try.prog 8 #[.slice A0 l0.length c0, .int .i64 a1, .slice Ao lo.length co] w fun e w' => e = .returned (.bool true) ∧ Below w.heap.size w w' := by
  have hm : l0.length ≤ 9223372036854775807 := hr0.2.1
  have hmo : lo.length ≤ 9223372036854775807 := hro.2.1
  have HF := Aside0.mk (few_some l0 hm (l0.length + 1) (by omega))
  have HR0 := Aside0.mk hr0
  have HC0 := Aside0.mk hc0
  have HRO := Aside0.mk hro
  have HCO := Aside0.mk hco
  have hs0 := rem_ge a1 20 (by omega)
  have hs1 := rem_lt a1 20 (by omega)
  have A10 := Aside0.mk (within_rem a1 20 (by omega) (by omega))
  have HOK := Aside0.mk hok
  clear hr0 hc0 hok hro hco
  generalize a1 % 20 = m at *
  cases hf : (fewB l0 && decide (l0.length ≤ 80)) with
  | false =>
    rw [hf] at HF
    clear hf
    go_enter Try.func8, Try.ntmps8
    go_wp2_with fail
    refine (interlocutorlaw4_known.calls true _ rfl).mono ?_
    rintro e w1 ⟨rfl, hb1⟩
    have HB1 := Aside0.mk hb1
    clear hb1
    go_wp2_with fail
    refine (interlocutorlaw4_Few.calls _ A0 c0 l0 false w1 (Kd.C_below HR0.out HB1.out) HC0.out HF.out).mono ?_
    rintro e w' ⟨rfl, ⟨nd, rfl⟩⟩
    go_wp2
    go_ret
    exact ⟨rfl, pw_below_drewN HB1.out _⟩
  | true =>
    rw [hf] at HF
    rw [Bool.and_eq_true, decide_eq_true_eq] at hf
    have HFE := Aside0.mk hf.1
    clear hf
    go_enter Try.func8, Try.ntmps8
    go_wp2_with fail
    refine (interlocutorlaw4_known.calls true _ rfl).mono ?_
    rintro e w1 ⟨rfl, hb1⟩
    have HB1 := Aside0.mk hb1
    clear hb1
    go_wp2_with fail
    refine (interlocutorlaw4_Few.calls _ A0 c0 l0 true w1 (Kd.C_below HR0.out HB1.out) HC0.out HF.out).mono ?_
    rintro e w' ⟨rfl, ⟨nd, rfl⟩⟩
    generalize hW2 : w1.drewN nd = w2
    have HB := Aside0.mk (show Below w.heap.size w w2 by rw [← hW2]; exact pw_below_drewN HB1.out _)
    clear hW2 HB1 HF
    go_wp2
    go_loopg [7, 8] 25 (fun gg s7 s8 wr => ∃ (kk : Nat) (x6_1 : Int) (x5_1 : List Rule'), kk ≤ 25 ∧ kk ≤ l0.length ∧ 25 - kk ≤ gg ∧ s8 = .int .i64 x6_1 ∧ Aside0 (x6_1 = (kk : Int)) ∧ Aside0 (x5_1.length = kk) ∧ Aside0 (∀ r ∈ x5_1, rightR r = true) ∧ Aside0 (Kd.S k26 26 wr w.heap.size (fun _ => True) s7 x5_1) ∧ Aside0 (Below w.heap.size w wr))
    case atStart => exact ⟨0, 0, [], by omega, Nat.zero_le _, by omega, rfl, ⟨rfl⟩, ⟨rfl⟩, ⟨by simp⟩, ⟨Kd.S_nil _ _ _ _ _⟩, HB⟩
    case round =>
      clear HB
      obtain ⟨kk, x6_1, x5_1, hk25, hkl, hg, rfl, HX6, HX5, HAL, HO_5, HB⟩ := hrel
      by_cases hboth : kk < l0.length ∧ kk < 25
      · obtain ⟨hlt, hlt25⟩ := hboth
        have c8b0 : decide (x6_1 < (l0.length : Int)) = true := decide_eq_true (by rw [HX6.out]; omega)
        have c9b0 : decide (0 ≤ x6_1) = true := decide_eq_true (by rw [HX6.out]; omega)
        have c25 : decide (x6_1 < 25) = true := decide_eq_true (by rw [HX6.out]; omega)
        have hx : rd_T31 l0 x6_1 = l0[kk] := by rw [HX6.out]; exact rdR_getElem l0 kk hlt
        have hfx := of_decide_eq_true (List.all_eq_true.1 HFE.out _ (List.getElem_mem hlt))
        obtain ⟨⟨t1, t2, ⟨t3, t4⟩, t5⟩, hrm, hmk⟩ := make_some l0[kk] (1 + m) ⟨by omega, by omega⟩ (HOK.out _ (List.getElem_mem hlt)) hfx.1 hfx.2
        have A11 := Aside0.mk (show interlocutorlaw4_Raw_Make.f 40 ((rd_T31 l0 x6_1).f0) ((rd_T31 l0 x6_1).f1) ((rd_T31 l0 x6_1).f2) ((rd_T31 l0 x6_1).f3) ((rd_T31 l0 x6_1).f4) (wrap64 (1 + m)) = some (t1, t2, t3, t4, t5) by rw [hx, wrap_in ⟨by omega, by omega⟩]; exact hmk 40 (Nat.le_refl _))
        have HRG := Aside0.mk (show rightR ⟨t1, t2, ⟨t3, t4⟩, t5⟩ = true from hrm.right)
        have LMc := Aside0.mk (show x5_1.length < 1954687338268 by rw [HX5.out]; omega)
        obtain ⟨yY, hyY⟩ : ∃ y_ : List S26, y_ = (x5_1 ++ [(⟨t1, t2, (⟨t3, t4⟩ : S24), t5⟩ : S26)]) := ⟨_, rfl⟩
        have NyY := Aside0.mk hyY
        clear hyY hx hfx hrm hmk
        go_wp2
        have n0_ := Aside0.mk (Kd.S_drew HO_5.out)
        have n1_ := Aside0.mk (below_drew1 HB.out)
        clear HO_5
        clear HB
        have HO_5 := n0_
        have HB := n1_
        clear n0_ n1_
        have p386 : 0 ≤ (x6_1 : Int) := of_decide_eq_true (by first | (with_reducible assumption) | assumption)
        have q386 : x6_1 < (l0.length : Int) := of_decide_eq_true (by first | (with_reducible assumption) | assumption)
        obtain ⟨ad386, A386_3, c386_3, A386_4, c386_4, e386, hx386_0, hx386_1, hx386_2, hx386_3, hx386_4, hl386_3, hi386_3, hl386_4, hi386_4⟩ := at_T31 HR0.out x6_1 p386 q386
        have hw386_4 := hx386_4
        have hw386_3 := hx386_3
        have hw386_2 := hx386_2
        have hw386_1 := hx386_1
        have hw386_0 := hx386_0
        cases e386
        replace hx386_0 := (HB.out.cell (World.block_lt_of_cell? w _ hx386_0)).trans hx386_0
        replace hx386_1 := (HB.out.cell (World.block_lt_of_cell? w _ hx386_1)).trans hx386_1
        replace hx386_2 := (HB.out.cell (World.block_lt_of_cell? w _ hx386_2)).trans hx386_2
        replace hx386_3 := (HB.out.cell (World.block_lt_of_cell? w _ hx386_3)).trans hx386_3
        replace hx386_4 := (HB.out.cell (World.block_lt_of_cell? w _ hx386_4)).trans hx386_4
        have HR386_3 := Aside0.mk hi386_3
        have HC386_3 := Aside0.mk hl386_3
        clear hi386_3 hl386_3
        have HR386_4 := Aside0.mk hi386_4
        have HC386_4 := Aside0.mk hl386_4
        clear hi386_4 hl386_4
        replace p386 := eq_true p386
        replace q386 := eq_true q386
        refine start_ (n := 12) (S := fun w' => w'.cell? (ad386.add ((x6_1).toNat * 5)) = some (.int .i64 ((rd_T31 l0 x6_1).f0)) ∧ w'.cell? ⟨(ad386.add ((x6_1).toNat * 5)).block, (ad386.add ((x6_1).toNat * 5)).off + 1, none⟩ = some (.int .i64 ((rd_T31 l0 x6_1).f1)) ∧ w'.cell? ⟨(ad386.add ((x6_1).toNat * 5)).block, (ad386.add ((x6_1).toNat * 5)).off + 2, none⟩ = some (.int .i64 ((rd_T31 l0 x6_1).f2)) ∧ w'.cell? ⟨(ad386.add ((x6_1).toNat * 5)).block, (ad386.add ((x6_1).toNat * 5)).off + 3, none⟩ = some (.slice A386_3 ((rd_T31 l0 x6_1).f3).length c386_3) ∧ w'.cell? ⟨(ad386.add ((x6_1).toNat * 5)).block, (ad386.add ((x6_1).toNat * 5)).off + 4, none⟩ = some (.slice A386_4 ((rd_T31 l0 x6_1).f4).length c386_4)) (ds := []) #[false, false, false, false, false, false, false, false, false, false, false, false] (by kernel_rfl) rfl rfl ⟨((HB.out.cell (World.block_lt_of_cell? w _ hw386_0)).trans hw386_0), ((HB.out.cell (World.block_lt_of_cell? w _ hw386_1)).trans hw386_1), ((HB.out.cell (World.block_lt_of_cell? w _ hw386_2)).trans hw386_2), ((HB.out.cell (World.block_lt_of_cell? w _ hw386_3)).trans hw386_3), ((HB.out.cell (World.block_lt_of_cell? w _ hw386_4)).trans hw386_4)⟩ (fun hHeld => ?_); refine with_tabW order_tab9 order_bits9 (fun HT_ HW_ => ?_)
        generalize wr.drew = w13 at HO_5 HB HR386_3 HR386_4 hx386_0 hx386_1 hx386_2 hx386_3 hx386_4 hHeld ⊢
        refine pure_ (i := 0) (N := some 28) (v := ?_) (a' := ?_) #[true, false, false, false, false, false, false, false, false, false, false, false] rfl rfl (any_of HT_.out (by kernel_rfl)) (fun _ _ _ h => h) (Or.inl ⟨by rfl, ?_⟩) ?_ ?_
        rotate_left
        · intro w'
          go_simp
          with_reducible rfl
        rotate_left
        · simp only [Act.put, List.setIfInBounds_toArray, List.set_cons_zero, List.set_cons_succ, i64_w, i32_w]
          rfl
        refine pure_ (i := 1) (N := some 29) (v := ?_) (a' := ?_) #[true, true, false, false, false, false, false, false, false, false, false, false] rfl rfl (any_of HT_.out (by kernel_rfl)) (fun _ _ _ h => h) (Or.inl ⟨by rfl, ?_⟩) ?_ ?_
        rotate_left
        · intro w'
          go_simp
          with_reducible rfl
        rotate_left
        · simp only [Act.put, List.setIfInBounds_toArray, List.set_cons_zero, List.set_cons_succ, i64_w, i32_w]
          rfl
        refine pure_ (i := 2) (N := some 30) (v := ?_) (a' := ?_) #[true, true, true, false, false, false, false, false, false, false, false, false] rfl rfl (any_of HT_.out (by kernel_rfl)) (fun _ _ _ h => h) (Or.inl ⟨by rfl, ?_⟩) ?_ ?_
        rotate_left
        · intro w'
          go_simp
          with_reducible rfl
        rotate_left
        · simp only [Act.put, List.setIfInBounds_toArray, List.set_cons_zero, List.set_cons_succ, i64_w, i32_w]
          rfl
        refine pure_ (i := 3) (N := some 31) (v := ?_) (a' := ?_) #[true, true, true, true, false, false, false, false, false, false, false, false] rfl rfl (any_of HT_.out (by kernel_rfl)) (fun _ _ _ h => h) (Or.inl ⟨by rfl, ?_⟩) ?_ ?_
        rotate_left
        · intro w'
          go_simp
          with_reducible rfl
        rotate_left
        · simp only [Act.put, List.setIfInBounds_toArray, List.set_cons_zero, List.set_cons_succ, i64_w, i32_w]
          rfl
        refine pure_ (i := 5) (N := some 33) (v := ?_) (a' := ?_) #[true, true, true, true, false, true, false, false, false, false, false, false] rfl rfl (any_of HT_.out (by kernel_rfl)) (fun _ _ _ h => h) (Or.inl ⟨by rfl, ?_⟩) ?_ ?_
        rotate_left
        · intro w'
          go_simp
          with_reducible rfl
        rotate_left
        · simp only [Act.put, List.setIfInBounds_toArray, List.set_cons_zero, List.set_cons_succ, i64_w, i32_w]
          rfl
        refine take_ (i := 4) (N := some 32) (v := ?_) (a' := ?_) #[true, true, true, true, true, true, false, false, false, false, false, false] rfl rfl (take_ofW HT_.out HW_.out (by kernel_rfl)) (fun _ _ _ h => h) (Or.inl ⟨by rfl, ?_⟩) hHeld ?_ ?_
        rotate_left
        · rintro w' ⟨s0, s1, s2, s3, s4⟩
          go_simp
          with_reducible rfl
        rotate_left
        · simp only [Act.put, List.setIfInBounds_toArray, List.set_cons_zero, List.set_cons_succ, i64_w, i32_w]
          rfl
        refine one_ (i := 6) (N := some 34) #[true, true, true, true, true, true, true, false, false, false, false, false] rfl rfl (one_of HT_.out (by kernel_rfl)) (by decide) (fun K hK => ?_)
        refine goes_ Try.func17 (by kernel_rfl) rfl #[.int .i64 a1, .int .i64 20] (by rfl) rfl rfl (by (try simp only [List.map_toArray, List.map_cons, List.map_nil]); first | done | rfl | (simp only [List.length_drop, List.length_take]; rfl)) ?_
        with_reducible refine (interlocutorlaw4_within.calls a1 20 m _ A10.out).mono ?_
        rintro e w' ⟨rfl, ⟨nd, rfl⟩⟩
        refine ⟨_, rfl, ?_⟩
        refine hK.out _ _ ⟨((HB.out.cell (World.block_lt_of_cell? w _ hw386_0)).trans hw386_0), ((HB.out.cell (World.block_lt_of_cell? w _ hw386_1)).trans hw386_1), ((HB.out.cell (World.block_lt_of_cell? w _ hw386_2)).trans hw386_2), ((HB.out.cell (World.block_lt_of_cell? w _ hw386_3)).trans hw386_3), ((HB.out.cell (World.block_lt_of_cell? w _ hw386_4)).trans hw386_4)⟩ (fun hHeld => ?_)
        clear hK K
        refine norm_ (a' := ?_) ?_ ?_
        rotate_left
        · show Act.put _ (some 34) _ = _
          simp only [Act.put, List.setIfInBounds_toArray, List.set_cons_zero, List.set_cons_succ, i64_w, i32_w]
          rfl
        refine pure_ (i := 7) (N := some 35) (v := ?_) (a' := ?_) #[true, true, true, true, true, true, true, true, false, false, false, false] rfl rfl (any_of HT_.out (by kernel_rfl)) (fun _ _ _ h => h) (Or.inl ⟨by rfl, ?_⟩) ?_ ?_
        rotate_left
        · intro w'
          go_simp
          with_reducible rfl
        rotate_left
        · simp only [Act.put, List.setIfInBounds_toArray, List.set_cons_zero, List.set_cons_succ, i64_w, i32_w]
          rfl
        refine one_ (i := 8) (N := some 36) #[true, true, true, true, true, true, true, true, true, false, false, false] rfl rfl (one_of HT_.out (by kernel_rfl)) (by decide) (fun K hK => ?_)
        refine goes_ Try.func15 (by kernel_rfl) rfl #[.agg #[.int .i64 ((rd_T31 l0 x6_1).f0), .int .i64 ((rd_T31 l0 x6_1).f1), .int .i64 ((rd_T31 l0 x6_1).f2), .slice A386_3 ((rd_T31 l0 x6_1).f3).length c386_3, .slice A386_4 ((rd_T31 l0 x6_1).f4).length c386_4], .int .i64 (wrap64 (1 + m))] (by rfl) rfl rfl (by (try simp only [List.map_toArray, List.map_cons, List.map_nil]); first | done | rfl | (simp only [List.length_drop, List.length_take]; rfl)) ?_
        with_reducible refine (interlocutorlaw4_Raw_Make.calls 40 ((rd_T31 l0 x6_1).f0) ((rd_T31 l0 x6_1).f1) ((rd_T31 l0 x6_1).f2) _ _ ((rd_T31 l0 x6_1).f3) _ _ ((rd_T31 l0 x6_1).f4) (wrap64 (1 + m)) t1 t2 t3 t4 t5 _ ?side1 ?side2 ?side3 ?side4 A11.out).mono ?_
        (case side1 => repeat (first | exact (Kd.C_below HR386_3.out (by repeat (first | (with_reducible first | exact HB.out | apply below_alloc | apply pw_below_drewN | apply below_drew1) | exact HB.out))) | (with_reducible refine Kd.C_alloc ?_ _) | (with_reducible refine Kd.C_drewN ?_ _) | (with_reducible refine Kd.C_drew ?_)))
        (case side2 => exact HC386_3.out)
        (case side3 => repeat (first | exact (Kd.C_below HR386_4.out (by repeat (first | (with_reducible first | exact HB.out | apply below_alloc | apply pw_below_drewN | apply below_drew1) | exact HB.out))) | (with_reducible refine Kd.C_alloc ?_ _) | (with_reducible refine Kd.C_drewN ?_ _) | (with_reducible refine Kd.C_drew ?_)))
        (case side4 => exact HC386_4.out)
        rintro e w14 ⟨v390, v394, rfl, ho0, ho1, hb⟩
        refine ⟨_, rfl, ?_⟩
        have n0_ := Aside0.mk (Kd.S_mono (Kd.S_told (Kd.S_told (Kd.S_old (by (with_reducible repeat (first | apply Kd.S_alloc | apply Kd.S_drewN | apply Kd.S_drew)); exact HO_5.out) hb) (Kd.R_base ho0)) (Kd.R_base ho1)) (fun _ h_ => h_.1))
        have n1_ := Aside0.mk (Kd.R_lower ho0 (below_size (by repeat (first | (with_reducible first | exact HB.out | apply below_alloc | apply pw_below_drewN | apply below_drew1) | exact HB.out))))
        have n2_ := Aside0.mk (Kd.R_lower ho1 (below_size (by repeat (first | (with_reducible first | exact HB.out | apply below_alloc | apply pw_below_drewN | apply below_drew1) | exact HB.out))))
        have n3_ := Aside0.mk (below_step (by repeat (first | (with_reducible first | exact HB.out | apply below_alloc | apply pw_below_drewN | apply below_drew1) | exact HB.out)) hb)
        clear HO_5
        clear HB
        have HO_5 := n0_
        have HO391 := n1_
        have HO395 := n2_
        have HB := n3_
        clear n0_ n1_ n2_ n3_
        (try clear hb)
        (try clear hb2)
        (try clear hk)
        (try clear hi)
        (try clear ho0)
        (try clear ho1)
        obtain ⟨Ao16, co16, eo16⟩ := Kd.R_slice HO391.out
        (first | subst eo16 | (injection eo16 with f1_ f2_ f3_; have f4_ := f1_.symm; have f5_ := f3_.symm; clear f1_ f2_ f3_; subst f4_; subst f5_))
        obtain ⟨Ao17, co17, eo17⟩ := Kd.R_slice HO395.out
        (first | subst eo17 | (injection eo17 with f1_ f2_ f3_; have f4_ := f1_.symm; have f5_ := f3_.symm; clear f1_ f2_ f3_; subst f4_; subst f5_))
        refine hK.out _ _ ⟨((HB.out.cell (World.block_lt_of_cell? w _ hw386_0)).trans hw386_0), ((HB.out.cell (World.block_lt_of_cell? w _ hw386_1)).trans hw386_1), ((HB.out.cell (World.block_lt_of_cell? w _ hw386_2)).trans hw386_2), ((HB.out.cell (World.block_lt_of_cell? w _ hw386_3)).trans hw386_3), ((HB.out.cell (World.block_lt_of_cell? w _ hw386_4)).trans hw386_4)⟩ (fun hHeld => ?_)
        clear hK K
        refine norm_ (a' := ?_) ?_ ?_
        rotate_left
        · show Act.put _ (some 36) _ = _
          simp only [Act.put, List.setIfInBounds_toArray, List.set_cons_zero, List.set_cons_succ, i64_w, i32_w]
          rfl
        refine one_ (i := 9) (N := some 37) #[true, true, true, true, true, true, true, true, true, true, false, false] rfl rfl (one_of HT_.out (by kernel_rfl)) (by decide) (fun K hK => ?_)
        refine value_ (w1 := ?_) (v := ?_) (by rfl) rfl ?_ ?_
        rotate_left 2
        · go_simp
          constructor
          · rfl
          · rfl
        refine hK.out _ _ ⟨(World.cell?_alloc_lt _ _ _ (World.block_lt_of_cell? _ _ (((HB.out.cell (World.block_lt_of_cell? w _ hw386_0)).trans hw386_0)))).trans (((HB.out.cell (World.block_lt_of_cell? w _ hw386_0)).trans hw386_0)), (World.cell?_alloc_lt _ _ _ (World.block_lt_of_cell? _ _ (((HB.out.cell (World.block_lt_of_cell? w _ hw386_1)).trans hw386_1)))).trans (((HB.out.cell (World.block_lt_of_cell? w _ hw386_1)).trans hw386_1)), (World.cell?_alloc_lt _ _ _ (World.block_lt_of_cell? _ _ (((HB.out.cell (World.block_lt_of_cell? w _ hw386_2)).trans hw386_2)))).trans (((HB.out.cell (World.block_lt_of_cell? w _ hw386_2)).trans hw386_2)), (World.cell?_alloc_lt _ _ _ (World.block_lt_of_cell? _ _ (((HB.out.cell (World.block_lt_of_cell? w _ hw386_3)).trans hw386_3)))).trans (((HB.out.cell (World.block_lt_of_cell? w _ hw386_3)).trans hw386_3)), (World.cell?_alloc_lt _ _ _ (World.block_lt_of_cell? _ _ (((HB.out.cell (World.block_lt_of_cell? w _ hw386_4)).trans hw386_4)))).trans (((HB.out.cell (World.block_lt_of_cell? w _ hw386_4)).trans hw386_4))⟩ (fun hHeld => ?_)
        clear hK K
        refine norm_ (a' := ?_) ?_ ?_
        rotate_left
        · show Act.put _ (some 37) _ = _
          simp only [Act.put, List.setIfInBounds_toArray, List.set_cons_zero, List.set_cons_succ, i64_w, i32_w]
          rfl
        refine one_ (i := 10) (N := some 38) #[true, true, true, true, true, true, true, true, true, true, true, false] rfl rfl (one_of HT_.out (by kernel_rfl)) (by decide) (fun K hK => ?_)
        refine Kd.S_append_step k26 (w0 := w) w.heap.size (by rfl) (.tmp 28) (.tmp 37) 36 26 (.agg #[(.int .i64 0), (.slice none 0 0), (.int .i64 0), (.slice none 0 0), (.int .i64 0)]) 72 rfl Try.underlying36 info26 rfl (by decide) (by omega) u7 x5_1 (⟨t1, t2, (⟨t3, t4⟩ : S24), t5⟩ : S26) [.int .i64 t1, .slice Ao16 t2.length co16, .int .i64 t3, .slice Ao17 t4.length co17, .int .i64 t5] (fun _ => True) (fun k_ => some k_ = (.slice Ao16 t2.length co16 : Value).ownBlock ∨ some k_ = (.slice Ao17 t4.length co17 : Value).ownBlock) rfl rfl ?aP (fun k_ hk_ => hk_.elim (fun h_ => ((Kd.R_mono (ok' := fun k_ => ((fun _ => True)) k_ ∧ some k_ ≠ (u7 : Value).ownBlock) (Kd.R_apart' (HO391.out) (Kd.S_typed HO_5.out) (by decide)) (fun k_ hk => ⟨trivial, hk.2⟩))).1 k_ h_.symm) (fun h_ => ((Kd.R_mono (ok' := fun k_ => ((fun _ => True)) k_ ∧ some k_ ≠ (u7 : Value).ownBlock) (Kd.R_apart' (HO395.out) (Kd.S_typed HO_5.out) (by decide)) (fun k_ hk => ⟨trivial, hk.2⟩))).1 k_ h_.symm)) ?aF ?aO ?aB ?aS ?aL ?_
        (case aP => exact k26_mkM _ _ _ (⟨t1, t2, (⟨t3, t4⟩ : S24), t5⟩ : S26) (Kd.R_mono (Kd.R_tight rfl (Kd.R_mono (ok' := fun k_ => ((fun _ => True)) k_ ∧ some k_ ≠ (u7 : Value).ownBlock) (Kd.R_apart' (HO391.out) (Kd.S_typed HO_5.out) (by decide)) (fun k_ hk => ⟨trivial, hk.2⟩))) (fun _ h_ => Or.inl h_)) (Kd.R_mono (Kd.R_tight rfl (Kd.R_mono (ok' := fun k_ => ((fun _ => True)) k_ ∧ some k_ ≠ (u7 : Value).ownBlock) (Kd.R_apart' (HO395.out) (Kd.S_typed HO_5.out) (by decide)) (fun k_ hk => ⟨trivial, hk.2⟩))) (fun _ h_ => Or.inr (h_))))
        (case aB => exact (by repeat (first | (with_reducible first | exact HB.out | apply below_alloc | apply pw_below_drewN | apply below_drew1) | exact HB.out)))
        (case aF => exact (fun _ _ => trivial))
        (case aO => exact (by (with_reducible repeat (first | apply Kd.S_alloc | apply Kd.S_drewN | apply Kd.S_drew)); exact Kd.S_mono HO_5.out (fun k_ hk => ⟨trivial, fun e_ => e_.elim (fun h_ => hk.1.2 h_) (fun h_ => hk.2 h_)⟩)))
        (case aS => exact (below_size (by repeat (first | (with_reducible first | exact HB.out | apply below_alloc | apply pw_below_drewN | apply below_drew1) | exact HB.out))))
        (case aL => have := LMc.out; omega)
        intro v398 w15 ho hb hg hat
        rw [← NyY.out] at ho
        have n0_ := Aside0.mk (hb)
        have n1_ := Aside0.mk (ho)
        clear HB
        clear HO_5
        clear HO391
        clear HO395
        have HB := n0_
        have HO399 := n1_
        clear n0_ n1_
        clear ho hb hg hat
        refine hK.out _ _ ⟨((HB.out.cell (World.block_lt_of_cell? w _ hw386_0)).trans hw386_0), ((HB.out.cell (World.block_lt_of_cell? w _ hw386_1)).trans hw386_1), ((HB.out.cell (World.block_lt_of_cell? w _ hw386_2)).trans hw386_2), ((HB.out.cell (World.block_lt_of_cell? w _ hw386_3)).trans hw386_3), ((HB.out.cell (World.block_lt_of_cell? w _ hw386_4)).trans hw386_4)⟩ (fun hHeld => ?_)
        clear hK K
        refine norm_ (a' := ?_) ?_ ?_
        rotate_left
        · show Act.put _ (some 38) _ = _
          simp only [Act.put, List.setIfInBounds_toArray, List.set_cons_zero, List.set_cons_succ, i64_w, i32_w]
          rfl
        refine pure_ (i := 11) (N := some 7) (v := ?_) (a' := ?_) #[true, true, true, true, true, true, true, true, true, true, true, true] rfl rfl (any_of HT_.out (by kernel_rfl)) (fun _ _ _ h => h) (Or.inl ⟨by rfl, ?_⟩) ?_ ?_
        rotate_left
        · intro w'
          go_simp
          with_reducible rfl
        rotate_left
        · simp only [Act.put, List.setIfInBounds_toArray, List.set_cons_zero, List.set_cons_succ, i64_w, i32_w]
          rfl
        refine done_ (done_of HT_.out (by kernel_rfl)) ?_
        try go_wp2
        go_roundg (25 - (kk + 1))
        case measure => omega
        case rel =>
          refine ⟨kk + 1, wrap64 (x6_1 + 1), yY, by omega, by omega, by omega, by first | rfl | (simp; done), ⟨?_⟩, ⟨?_⟩, ⟨?_⟩, ⟨by (with_reducible repeat (first | apply Kd.S_alloc | apply Kd.S_drewN | apply Kd.S_drew)); exact HO399.out⟩, ⟨by repeat (first | (with_reducible first | exact HB.out | apply below_alloc | apply pw_below_drewN | apply below_drew1) | exact HB.out)⟩⟩
          · rw [HX6.out, wrap_in ⟨by omega, by omega⟩]; rfl
          · rw [NyY.out, List.length_append, HX5.out]; rfl
          · intro r hr
            rw [NyY.out] at hr
            rcases List.mem_append.1 hr with hr | hr
            · exact HAL.out r hr
            · rw [List.mem_singleton.1 hr]; exact HRG.out
      · have hend : (decide (x6_1 < (l0.length : Int)) = false) ∨ (decide (x6_1 < (l0.length : Int)) = true ∧ decide (x6_1 < 25) = false) := by
          rw [HX6.out]
          by_cases h1 : kk < l0.length
          · exact .inr ⟨decide_eq_true (by omega), decide_eq_false (by omega)⟩
          · exact .inl (decide_eq_false (by omega))
        have hall : x5_1.all rightR = true := List.all_eq_true.2 HAL.out
        have hl25 : x5_1.length ≤ 25 := by rw [HX5.out]; exact hk25
        have hsum := sumLen_right x5_1 hall
        have hrl := reachL_length (nextP x5_1) [0]
        have HE1 := Aside0.mk (show gram_Check.f x5_1 = some (checkP x5_1) from rfl)
        have HE2 := Aside0.mk (show gram_Reached.f x5_1 = some (reachL (nextP x5_1) [0]) from if_pos (by omega))
        have HE3 := Aside0.mk (fun (bs : List Rule') (hp : bs.Perm x5_1) => show gram_Check.f bs = some (checkP x5_1) by rw [check_mem (fun r => hp.mem_iff.symm) (by omega) (by rw [hp.length_eq]; omega)]; rfl)
        have HE4 := Aside0.mk (fun (bs : List Rule') (hp : bs.Perm x5_1) => show gram_Reached.f bs = some (reachL (nextP x5_1) [0]) by
          rw [reach_mem (fun r => hp.mem_iff.symm)]
          refine if_pos ?_
          have hb : bs.all rightR = true := List.all_eq_true.2 fun r hr => HAL.out r (hp.mem_iff.1 hr)
          have := sumLen_right bs hb
          rw [hp.length_eq] at this
          omega)
        have HE5 := Aside0.mk (fun (bs : List Rule') (hp : bs.Perm x5_1) => show gram_Check.f (x5_1 ++ bs) = some (checkP x5_1) by
          rw [check_mem (a := x5_1) (b := x5_1 ++ bs) (fun r => by rw [List.mem_append, hp.mem_iff, or_self]) (by omega) (by rw [List.length_append, hp.length_eq]; omega)]; rfl)
        clear hboth HAL HX6 HX5 HOK HFE hall hsum
        generalize reachL (nextP x5_1) [0] = rr at *
        generalize checkP x5_1 = cp at *
        obtain ⟨A2, c2, e2⟩ := Kd.S_slice HO_5.out
        subst e2
        have HC2 := Aside0.mk (Kd.S_reads' HO_5.out).2.1
        have HR2 := Aside0.mk (Kd.S_reads' HO_5.out).2.2
        have HFA := Aside0.mk (Kd.F_bound (Kd.N_F (Kd.S_N HO_5.out)))
        have HRO2 := Aside0.mk (Kd.C_below HRO.out HB.out)
        have HBw := HB
        clear HO_5 HB HRO
        generalize wr = Wa at *
        have HM := Aside0.mk (made_N26 (W := Wa.alloc (.cells #[] 26)) (base := Wa.heap.size) (g := Wa.heap.size) (blk_new _ _) (Nat.le_refl _))
        generalize hal : x5_1.length = nl at *
        have HNL := Aside0.mk hal
        clear hal
        rcases hend with hend | ⟨hend, hend2⟩
        all_goals
          go_wp2_with (first
            | (at_builtin; refine Kd.N_append_rows k26 (w0 := Wa) Wa.heap.size rfl (.tmp 39) (.tmp 40) 36 26 (.agg #[.int .i64 0, .slice none 0 0, .int .i64 0, .slice none 0 0, .int .i64 0]) 72 rfl Try.underlying36 info26 rfl (by decide) (by omega) (.slice (some ⟨Wa.heap.size, 0, none⟩) 0 0) [] x5_1 A2 nl c2 (fun _ => True) (fun k => True ∧ k < Wa.heap.size) rfl rfl HM.out (Kd.F_alloc HFA.out _) (fun k hk => ⟨trivial, fun e => by have h2 := hk.2; simp [Value.ownBlock] at e; omega⟩) (fun _ _ => trivial) (below_alloc (Below.refl _ _) _) (by simp) (by simp; omega) ?_; intro v1 w1 ho hb hgr hat; rw [List.nil_append] at ho; have HN := Aside0.mk ho; have HB1 := Aside0.mk hb; obtain ⟨Ab, cb, hv⟩ := Kd.N_slice ho; rw [HNL.out] at hv; subst hv; clear ho hb hgr hat)
            | fail)
          go_loopg [10] 30 (fun gg s10 wr => ∃ (i : Nat) (bs : List Rule'), i ≤ 30 ∧ i ≤ lo.length ∧ 30 - i ≤ gg ∧ s10 = .int .i64 i ∧ Aside0 (bs.Perm x5_1) ∧ Aside0 (Kd.N k26 26 wr Wa.heap.size (fun _ => True) (.slice Ab nl cb) bs) ∧ Aside0 (Below Wa.heap.size Wa wr))
          case atStart => exact ⟨0, x5_1, by omega, Nat.zero_le _, by omega, rfl, ⟨List.Perm.refl _⟩, HN, HB1⟩
          case round =>
            clear HN HB1
            obtain ⟨i, bs, hi30, hil, hgi, rfl, HP, HN, HB1⟩ := hrel
            by_cases hgo : i < lo.length ∧ i < 30 ∧ 0 < nl
            · obtain ⟨hlt, hlt30, hn0⟩ := hgo
              have hbl : bs.length = nl := by rw [HP.out.length_eq]; exact HNL.out
              obtain ⟨g, cap, hv, _, _, _⟩ := Kd.N_form HN.out (by omega)
              injection hv with hv1 hv2 hv3
              subst hv1
              clear hv2 hv3
              have hz1 : (i : Int) < (lo.length : Int) := by omega
              have hz2 : (i : Int) < 30 := by omega
              have hz3 : (nl : Int) > 0 := by omega
              obtain ⟨ad, hA, hco⟩ := Kd.at_int (Kd.C_below HRO2.out HB1.out) i (by omega) hz1
              rw [Int.toNat_natCast] at hco
              subst hA
              have hrem : Int.tmod (i : Int) (nl : Int) = ((i % nl : Nat) : Int) := by rw [Int.tmod_eq_emod_of_nonneg (by omega)]; rfl
              have hp : i % nl < nl := Nat.mod_lt _ hn0
              have hq0 := rem_ge (rd lo i) (nl : Int) (by omega)
              have hq1 := rem_lt (rd lo i) (nl : Int) (by omega)
              have HW2 := Aside0.mk (within_rem (rd lo i) (nl : Int) (by omega) (by omega))
              generalize rd lo i = v at *
              obtain ⟨q, hqe⟩ : ∃ q : Nat, v % (nl : Int) = (q : Int) := ⟨(v % (nl : Int)).toNat, by omega⟩
              rw [hqe] at HW2 hq0 hq1
              have hq : q < nl := by omega
              clear hqe hq0 hq1
              have HIN := Aside0.mk (fun nq => interlocutorlaw4_within.calls v (nl : Int) (q : Int) (wr.drewN nq) HW2.out)
              generalize i % nl = p at *
              go_wp2
              go_quiet ((go_at_call 17; exact Calls.quiet_of ((HIN.out _).mono fun e w' h => ⟨h.1, h.2.out⟩)))
              go_wp2
              have HN0 := Aside0.mk (Kd.N_drew (Kd.N_drewN HN.out nq))
              have HB0 := Aside0.mk (below_drew1 (pw_below_drewN HB1.out nq))
              have hpl : p < bs.length := by omega
              have hql : q < bs.length := by omega
              obtain ⟨cx, _, hfx, hcx, _⟩ := Kd.N_elem HN0.out bs[p] (p : Int) (by omega) (by omega)
              obtain ⟨cy, _, hfy, hcy, _⟩ := Kd.N_elem HN0.out bs[q] (q : Int) (by omega) (by omega)
              rw [Int.toNat_natCast, getD_at hpl] at hfx
              rw [Int.toNat_natCast, getD_at hql] at hfy
              have HSW := Aside0.mk (List.set_set_perm hpl hql)
              generalize bs[p] = x at *
              generalize bs[q] = y at *
              obtain ⟨xA1, xc1, xA3, xc3, rfl⟩ := FK26_open hfx
              obtain ⟨yA1, yc1, yA3, yc3, rfl⟩ := FK26_open hfy
              have HFx := Aside0.mk hfx
              have HFy := Aside0.mk hfy
              have hcx0 : (wr.drewN nq).drew.cell? ⟨g, p * 5, none⟩ = _ := hcx 0 _ rfl
              have hcx1 : (wr.drewN nq).drew.cell? ⟨g, p * 5 + 1, none⟩ = _ := hcx 1 _ rfl
              have hcx2 : (wr.drewN nq).drew.cell? ⟨g, p * 5 + 2, none⟩ = _ := hcx 2 _ rfl
              have hcx3 : (wr.drewN nq).drew.cell? ⟨g, p * 5 + 3, none⟩ = _ := hcx 3 _ rfl
              have hcx4 : (wr.drewN nq).drew.cell? ⟨g, p * 5 + 4, none⟩ = _ := hcx 4 _ rfl
              have hcy0 : (wr.drewN nq).drew.cell? ⟨g, q * 5, none⟩ = _ := hcy 0 _ rfl
              have hcy1 : (wr.drewN nq).drew.cell? ⟨g, q * 5 + 1, none⟩ = _ := hcy 1 _ rfl
              have hcy2 : (wr.drewN nq).drew.cell? ⟨g, q * 5 + 2, none⟩ = _ := hcy 2 _ rfl
              have hcy3 : (wr.drewN nq).drew.cell? ⟨g, q * 5 + 3, none⟩ = _ := hcy 3 _ rfl
              have hcy4 : (wr.drewN nq).drew.cell? ⟨g, q * 5 + 4, none⟩ = _ := hcy 4 _ rfl
              clear hcx hcy hfx hfy hpl hql
              have hpn : ((p : Nat) : Int) < (nl : Int) := by omega
              have hqn : ((q : Nat) : Int) < (nl : Int) := by omega
              refine start_ (n := 16) (S := fun w' => w'.cell? ⟨g, q * 5, none⟩ = some (.int .i64 y.f0) ∧ w'.cell? ⟨g, q * 5 + 1, none⟩ = some (.slice yA1 y.f1.length yc1) ∧ w'.cell? ⟨g, q * 5 + 2, none⟩ = some (.int .i64 y.f2.f0) ∧ w'.cell? ⟨g, q * 5 + 3, none⟩ = some (.slice yA3 y.f2.f1.length yc3) ∧ w'.cell? ⟨g, q * 5 + 4, none⟩ = some (.int .i64 y.f3) ∧ w'.cell? ⟨g, p * 5, none⟩ = some (.int .i64 x.f0) ∧ w'.cell? ⟨g, p * 5 + 1, none⟩ = some (.slice xA1 x.f1.length xc1) ∧ w'.cell? ⟨g, p * 5 + 2, none⟩ = some (.int .i64 x.f2.f0) ∧ w'.cell? ⟨g, p * 5 + 3, none⟩ = some (.slice xA3 x.f2.f1.length xc3) ∧ w'.cell? ⟨g, p * 5 + 4, none⟩ = some (.int .i64 x.f3)) (ds := [13, 15]) #[false, false, false, false, false, false, false, false, false, false, false, false, false, false, false, false] (by kernel_rfl) rfl rfl ⟨hcy0, hcy1, hcy2, hcy3, hcy4, hcx0, hcx1, hcx2, hcx3, hcx4⟩ (fun hHeld => ?_)
              generalize (wr.drewN nq).drew = W1 at HN0 HB0 HFx HFy hHeld ⊢
              refine pure_ (i := 0) (N := some 68) (v := ?_) (a' := ?_) #[true, false, false, false, false, false, false, false, false, false, false, false, false, false, false, false] rfl rfl (by kernel_rfl) (fun _ _ _ h => h) (Or.inl ⟨by rfl, ?_⟩) ?_ ?_
              rotate_left
              · intro w'
                go_simp
                try with_reducible rfl
              rotate_left
              · simp only [Act.put, List.setIfInBounds_toArray, List.set_cons_zero, List.set_cons_succ, i64_w, i32_w]
                rfl
              refine pure_ (i := 1) (N := some 69) (v := ?_) (a' := ?_) #[true, true, false, false, false, false, false, false, false, false, false, false, false, false, false, false] rfl rfl (by kernel_rfl) (fun _ _ _ h => h) (Or.inl ⟨by rfl, ?_⟩) ?_ ?_
              rotate_left
              · intro w'
                go_simp
                try with_reducible rfl
              rotate_left
              · simp only [Act.put, List.setIfInBounds_toArray, List.set_cons_zero, List.set_cons_succ, i64_w, i32_w]
                rfl
              refine pure_ (i := 2) (N := some 70) (v := ?_) (a' := ?_) #[true, true, true, false, false, false, false, false, false, false, false, false, false, false, false, false] rfl rfl (by kernel_rfl) (fun _ _ _ h => h) (Or.inl ⟨by rfl, ?_⟩) ?_ ?_
              rotate_left
              · intro w'
                go_simp
                try with_reducible rfl
              rotate_left
              · simp only [Act.put, List.setIfInBounds_toArray, List.set_cons_zero, List.set_cons_succ, i64_w, i32_w]
                rfl
              refine pure_ (i := 3) (N := some 71) (v := ?_) (a' := ?_) #[true, true, true, true, false, false, false, false, false, false, false, false, false, false, false, false] rfl rfl (by kernel_rfl) (fun _ _ _ h => h) (Or.inl ⟨by rfl, ?_⟩) ?_ ?_
              rotate_left
              · intro w'
                go_simp
                try with_reducible rfl
              rotate_left
              · simp only [Act.put, List.setIfInBounds_toArray, List.set_cons_zero, List.set_cons_succ, i64_w, i32_w]
                rfl
              refine pure_ (i := 4) (N := some 72) (v := ?_) (a' := ?_) #[true, true, true, true, true, false, false, false, false, false, false, false, false, false, false, false] rfl rfl (by kernel_rfl) (fun _ _ _ h => h) (Or.inl ⟨by rfl, ?_⟩) ?_ ?_
              rotate_left
              · intro w'
                go_simp
                try with_reducible rfl
              rotate_left
              · simp only [Act.put, List.setIfInBounds_toArray, List.set_cons_zero, List.set_cons_succ, i64_w, i32_w]
                rfl
              refine pure_ (i := 5) (N := some 73) (v := ?_) (a' := ?_) #[true, true, true, true, true, true, false, false, false, false, false, false, false, false, false, false] rfl rfl (by kernel_rfl) (fun _ _ _ h => h) (Or.inl ⟨by rfl, ?_⟩) ?_ ?_
              rotate_left
              · intro w'
                go_simp
                try with_reducible rfl
              rotate_left
              · simp only [Act.put, List.setIfInBounds_toArray, List.set_cons_zero, List.set_cons_succ, i64_w, i32_w]
                rfl
              refine pure_ (i := 6) (N := some 74) (v := ?_) (a' := ?_) #[true, true, true, true, true, true, true, false, false, false, false, false, false, false, false, false] rfl rfl (by kernel_rfl) (fun _ _ _ h => h) (Or.inl ⟨by rfl, ?_⟩) ?_ ?_
              rotate_left
              · intro w'
                go_simp
                try with_reducible rfl
              rotate_left
              · simp only [Act.put, List.setIfInBounds_toArray, List.set_cons_zero, List.set_cons_succ, i64_w, i32_w]
                rfl
              refine take_ (i := 7) (N := some 75) (v := ?_) (a' := ?_) #[true, true, true, true, true, true, true, true, false, false, false, false, false, false, false, false] rfl rfl (by kernel_rfl) (fun _ _ _ h => h) (Or.inl ⟨by rfl, ?_⟩) hHeld ?_ ?_
              rotate_left
              · rintro w' ⟨s0, s1, s2, s3, s4, s5, s6, s7, s8, s9⟩
                go_simp
                try with_reducible rfl
              rotate_left
              · simp only [Act.put, List.setIfInBounds_toArray, List.set_cons_zero, List.set_cons_succ, i64_w, i32_w]
                rfl
              refine pure_ (i := 8) (N := some 76) (v := ?_) (a' := ?_) #[true, true, true, true, true, true, true, true, true, false, false, false, false, false, false, false] rfl rfl (by kernel_rfl) (fun _ _ _ h => h) (Or.inl ⟨by rfl, ?_⟩) ?_ ?_
              rotate_left
              · intro w'
                go_simp
                try with_reducible rfl
              rotate_left
              · simp only [Act.put, List.setIfInBounds_toArray, List.set_cons_zero, List.set_cons_succ, i64_w, i32_w]
                rfl
              refine pure_ (i := 9) (N := some 77) (v := ?_) (a' := ?_) #[true, true, true, true, true, true, true, true, true, true, false, false, false, false, false, false] rfl rfl (by kernel_rfl) (fun _ _ _ h => h) (Or.inl ⟨by rfl, ?_⟩) ?_ ?_
              rotate_left
              · intro w'
                go_simp
                try with_reducible rfl
              rotate_left
              · simp only [Act.put, List.setIfInBounds_toArray, List.set_cons_zero, List.set_cons_succ, i64_w, i32_w]
                rfl
              refine pure_ (i := 10) (N := some 78) (v := ?_) (a' := ?_) #[true, true, true, true, true, true, true, true, true, true, true, false, false, false, false, false] rfl rfl (by kernel_rfl) (fun _ _ _ h => h) (Or.inl ⟨by rfl, ?_⟩) ?_ ?_
              rotate_left
              · intro w'
                go_simp
                try with_reducible rfl
              rotate_left
              · simp only [Act.put, List.setIfInBounds_toArray, List.set_cons_zero, List.set_cons_succ, i64_w, i32_w]
                rfl
              refine take_ (i := 11) (N := some 79) (v := ?_) (a' := ?_) #[true, true, true, true, true, true, true, true, true, true, true, true, false, false, false, false] rfl rfl (by kernel_rfl) (fun _ _ _ h => h) (Or.inl ⟨by rfl, ?_⟩) hHeld ?_ ?_
              rotate_left
              · rintro w' ⟨s0, s1, s2, s3, s4, s5, s6, s7, s8, s9⟩
                go_simp
                try with_reducible rfl
              rotate_left
              · simp only [Act.put, List.setIfInBounds_toArray, List.set_cons_zero, List.set_cons_succ, i64_w, i32_w]
                rfl
              refine pure_ (i := 12) (N := some 80) (v := ?_) (a' := ?_) #[true, true, true, true, true, true, true, true, true, true, true, true, true, false, false, false] rfl rfl (by kernel_rfl) (fun _ _ _ h => h) (Or.inl ⟨by rfl, ?_⟩) ?_ ?_
              rotate_left
              · intro w'
                go_simp
                try with_reducible rfl
              rotate_left
              · simp only [Act.put, List.setIfInBounds_toArray, List.set_cons_zero, List.set_cons_succ, i64_w, i32_w]
                rfl
              refine last_ (i := 13) (N := none) #[true, true, true, true, true, true, true, true, true, true, true, true, true, true, false, false] rfl rfl (by kernel_rfl) (by decide) (fun K hK => ?_)
              refine store_N_step k26 (w0 := Wa) Wa.heap.size rfl (by rfl) 26 (.tmp 80) (.tmp 75) rfl 26 p (bs) y (.agg #[.int .i64 y.f0, .slice yA1 y.f1.length yc1, .int .i64 y.f2.f0, .slice yA3 y.f2.f1.length yc3, .int .i64 y.f3]) [.int .i64 y.f0, .slice yA1 y.f1.length yc1, .int .i64 y.f2.f0, .slice yA3 y.f2.f1.length yc3, .int .i64 y.f3] (fun _ => True) (fun k => True ∧ k ≠ g) (by rfl) rfl (by rfl) rfl (by kernel_rfl) (one5 _ _ _ _ _ _ _ _ _) rfl HN0.out ?bnd HFy.out (fun k hk => hk) HB0.out ?_
              case bnd => exact hp
              intro W2 hN2 hB2 hG2
              have HN2 := Aside0.mk hN2
              have HB2 := Aside0.mk hB2
              have HFx2 := Aside0.mk (Kd.FK_grown HFx.out hG2 (fun k hk e => hk.2 (by injection e)))
              clear hN2 hB2 hG2
              refine hK.out _ _ ?_
              clear hK K
              refine pure_ (i := 14) (N := some 81) (v := ?_) (a' := ?_) #[true, true, true, true, true, true, true, true, true, true, true, true, true, true, true, false] rfl rfl (by kernel_rfl) (fun _ _ _ h => h) (Or.inl ⟨by rfl, ?_⟩) ?_ ?_
              rotate_left
              · intro w'
                go_simp
                try with_reducible rfl
              rotate_left
              · simp only [Act.put, List.setIfInBounds_toArray, List.set_cons_zero, List.set_cons_succ, i64_w, i32_w]
                rfl
              refine last_ (i := 15) (N := none) #[true, true, true, true, true, true, true, true, true, true, true, true, true, true, true, true] rfl rfl (by kernel_rfl) (by decide) (fun K hK => ?_)
              refine store_N_step k26 (w0 := Wa) Wa.heap.size rfl (by rfl) 26 (.tmp 81) (.tmp 79) rfl 26 q (bs.set p y) x (.agg #[.int .i64 x.f0, .slice xA1 x.f1.length xc1, .int .i64 x.f2.f0, .slice xA3 x.f2.f1.length xc3, .int .i64 x.f3]) [.int .i64 x.f0, .slice xA1 x.f1.length xc1, .int .i64 x.f2.f0, .slice xA3 x.f2.f1.length xc3, .int .i64 x.f3] (fun _ => True) (fun k => True ∧ k ≠ g) (by rfl) rfl (by rfl) rfl (by kernel_rfl) (one5 _ _ _ _ _ _ _ _ _) rfl HN2.out ?bnd HFx2.out (fun k hk => hk) HB2.out ?_
              case bnd => exact hq
              intro W3 hN3 hB3 hG3
              have HN3 := Aside0.mk hN3
              have HB3 := Aside0.mk hB3
              clear hN3 hB3 hG3
              refine hK.out _ _ ?_
              clear hK K
              refine done_ (by kernel_rfl) ?_
              go_wp2
              go_roundg (30 - (i + 1))
              case measure => omega
              case rel => exact ⟨i + 1, (bs.set p y).set q x, by omega, by omega, by omega, by go_num, ⟨HSW.out.trans HP.out⟩, HN3, HB3⟩
            · have hexit : decide (i < lo.length) = false ∨ (decide (i < lo.length) = true ∧ decide (i < 30) = false ∧ decide ((i : Int) < 30) = false) ∨ (decide (i < lo.length) = true ∧ decide ((i : Int) < 30) = true ∧ decide (0 < nl) = false ∧ decide ((nl : Int) > 0) = false) := by
                by_cases h1 : i < lo.length
                · by_cases h2 : i < 30
                  · exact .inr (.inr ⟨decide_eq_true h1, decide_eq_true (by omega), decide_eq_false (by omega), decide_eq_false (by omega)⟩)
                  · exact .inr (.inl ⟨decide_eq_true h1, decide_eq_false h2, decide_eq_false (by omega)⟩)
                · exact .inl (decide_eq_false h1)
              have hbl : bs.length = nl := by rw [HP.out.length_eq]; exact HNL.out
              have hF1 := HE3.out bs HP.out
              have hF2 := HE4.out bs HP.out
              have HF3 := Aside0.mk (HE5.out bs HP.out)
              have HK1 := Aside0.mk (fun (W : World) (h : Kd.C k26 W Ab nl bs) (hc : nl ≤ cb) => show Calls Try.prog 21 #[.slice Ab nl cb] W _ by
                have := gram_Check.calls Ab cb bs cp W (by rw [hbl]; exact h) (by rw [hbl]; exact hc) hF1
                rwa [hbl] at this)
              have HK2 := Aside0.mk (fun (W : World) (h : Kd.C k26 W Ab nl bs) (hc : nl ≤ cb) => show Calls Try.prog 24 #[.slice Ab nl cb] W _ by
                have := gram_Reached.calls Ab cb bs rr W (by rw [hbl]; exact h) (by rw [hbl]; exact hc) hF2
                rwa [hbl] at this)
              have HK3 := Aside0.mk (fun (W : World) (h : Kd.C k26 W A2 nl x5_1) => show Calls Try.prog 21 #[.slice A2 nl c2] W _ by
                have := gram_Check.calls A2 c2 x5_1 cp W (by rw [HNL.out]; exact h) (by rw [HNL.out]; exact HC2.out) HE1.out
                rwa [HNL.out] at this)
              have HK4 := Aside0.mk (fun (W : World) (h : Kd.C k26 W A2 nl x5_1) => show Calls Try.prog 24 #[.slice A2 nl c2] W _ by
                have := gram_Reached.calls A2 c2 x5_1 rr W (by rw [HNL.out]; exact h) (by rw [HNL.out]; exact HC2.out) HE2.out
                rwa [HNL.out] at this)
              have HIS := Aside0.mk (ints_same'' rr (by omega) 30 (by omega))
              clear hgo hF1 hF2 hbl
              rcases hexit with hx1 | ⟨hx1, hx2, hx3⟩ | ⟨hx1, hx2, hx3, hx4⟩
              all_goals
                go_wp2_with fail
                refine (HK3.out wr (Kd.C_below HR2.out HB1.out)).mono ?_
                rintro e W1 ⟨rfl, hb1⟩
                have HBa := Aside0.mk (below_step HB1.out hb1)
                have HNa := Aside0.mk (Kd.N_below HN.out hb1)
                clear hb1
                go_wp2_with fail
                refine (HK1.out W1 (by have h := Kd.N_reads' HNa.out; rw [← h.1] at h; exact h.2.2) (Kd.N_reads' HNa.out).2.1).mono ?_
                rintro e Wb ⟨rfl, hb2⟩
                have HBb := Aside0.mk (below_step HBa.out hb2)
                have HNb := Aside0.mk (Kd.N_below HNa.out hb2)
                have HFAb := Aside0.mk (Kd.F_below HFA.out HBb.out)
                have HFBb := Aside0.mk (Kd.F_bound (Kd.N_F HNb.out))
                have HMb := Aside0.mk (made_N26 (W := Wb.alloc (.cells #[] 26)) (base := Wb.heap.size) (g := Wb.heap.size) (blk_new _ _) (Nat.le_refl _))
                clear hb2 HBa HNa
                go_wp2_with (first
                  | (refine gate_ (.call { callee := .builtin .append, args := #[.tmp 88, .tmp 89], argTypes := #[36, 36] }) rfl ?_; refine wpList_step (fun K hK => ?_); refine Kd.N_append_rows_step k26 (w0 := Wb) Wb.heap.size (by rfl) (.tmp 88) (.tmp 89) 36 26 (.agg #[.int .i64 0, .slice none 0 0, .int .i64 0, .slice none 0 0, .int .i64 0]) 72 rfl Try.underlying36 info26 rfl (by decide) (by omega) (.slice (some ⟨Wb.heap.size, 0, none⟩) 0 0) [] x5_1 A2 nl c2 (fun _ => True) (fun k => True ∧ k < Wa.heap.size) rfl rfl HMb.out (Kd.F_alloc HFAb.out _) (fun k hk => ⟨trivial, fun e => by have h2 := hk.2; have h3 := HBb.out.size; simp [Value.ownBlock] at e; omega⟩) (fun _ _ => trivial) (below_alloc (Below.refl _ _) _) (by simp) (by simp; omega) ?_; intro v1 w1 ho hb hgr hat; refine hK _ _ ?_; clear hK K; rw [List.nil_append] at ho; have HN1 := Aside0.mk ho; have HB1' := Aside0.mk hb; obtain ⟨Ac, cc, hv⟩ := Kd.N_slice ho; rw [HNL.out] at hv; subst hv; clear ho hb hgr hat)
                  | (refine gate_ (.call { callee := .builtin .append, args := #[.tmp 90, .tmp 91], argTypes := #[36, 36] }) rfl ?_; refine wpList_step (fun K hK => ?_); refine Kd.N_append_rows_step k26 (w0 := Wb) Wb.heap.size (by rfl) (.tmp 90) (.tmp 91) 36 26 (.agg #[.int .i64 0, .slice none 0 0, .int .i64 0, .slice none 0 0, .int .i64 0]) 72 rfl Try.underlying36 info26 rfl (by decide) (by omega) (.slice Ac nl cc) x5_1 bs Ab nl cb (fun _ => True) (fun k => True ∧ k < Wb.heap.size) rfl rfl HN1.out (Kd.F_below HFBb.out HB1'.out) (fun k hk => ⟨trivial, fun e => by have h2 := hk.2; have h3 := Kd.N_base HN1.out k e.symm; omega⟩) (fun _ _ => trivial) HB1'.out HB1'.out.size (by rw [HNL.out]; omega) ?_; intro v2 w2 ho hb hgr hat; refine hK _ _ ?_; clear hK K; have HN2 := Aside0.mk ho; have HB2 := Aside0.mk hb; obtain ⟨Ad, cd, hv⟩ := Kd.N_slice ho; generalize hll : (x5_1 ++ bs).length = ll at hv; have HLL := Aside0.mk hll; clear hll; subst hv; clear ho hb hgr hat)
                  | fail)
                have HK5 := Aside0.mk (show Calls Try.prog 21 #[.slice Ad ll cd] w2 _ by
                  have h := Kd.N_reads' HN2.out
                  have := gram_Check.calls Ad cd (x5_1 ++ bs) cp w2 h.2.2 (by rw [HLL.out]; exact h.2.1) HF3.out
                  rwa [HLL.out] at this)
                have HB2' := Aside0.mk (HBb.out.trans (HB2.out.mono HBb.out.size))
                refine HK5.out.mono ?_
                rintro e w3 ⟨rfl, hb3⟩
                have HB3 := Aside0.mk (below_step HB2'.out hb3)
                have HD3 := Aside0.mk (below_step HB2.out hb3)
                clear hb3
                go_wp2_with fail
                refine (HK3.out w3 (Kd.C_below HR2.out HB3.out)).mono ?_
                rintro e w4 ⟨rfl, hb4⟩
                have HB4 := Aside0.mk (below_step HB3.out hb4)
                have HD4 := Aside0.mk (below_step HD3.out hb4)
                clear hb4
                go_wp2_with fail
                refine (HK4.out w4 (Kd.C_below HR2.out HB4.out)).mono ?_
                rintro e w5 ⟨v5, rfl, hR5, hb5⟩
                obtain ⟨A5, c5, rfl, hc5, hC5⟩ := Kd.R_reads hR5
                have HB5 := Aside0.mk (below_step HB4.out hb5)
                have HD5 := Aside0.mk (below_step HD4.out hb5)
                have HQ5 := Aside0.mk hC5
                have HQc5 := Aside0.mk hc5
                clear hR5 hc5 hC5 hb5
                go_wp2_with fail
                refine (HK2.out w5 (by
                  exact Kd.F_now (Kd.F_below HFBb.out HD5.out)) (Kd.N_reads' HNb.out).2.1).mono ?_
                rintro e w6 ⟨v6, rfl, hR6, hb6⟩
                obtain ⟨A6, c6, rfl, hc6, hC6⟩ := Kd.R_reads hR6
                have HB6 := Aside0.mk (below_step HB5.out hb6)
                have HQ6 := Aside0.mk (Kd.C_below HQ5.out hb6)
                have HP6 := Aside0.mk hC6
                have HPc6 := Aside0.mk hc6
                clear hR6 hc6 hC6 hb6
                go_wp2_with fail
                refine (interlocutorref3_Ints.calls 30 A5 c5 rr A6 c6 rr true w6 HQ6.out HQc5.out HP6.out HPc6.out HIS.out).mono ?_
                rintro e w' ⟨rfl, ⟨nd4, rfl⟩⟩
                go_wp2
                go_ret
                exact ⟨rfl, pw_below_drewN (below_step HBw.out HB6.out) _⟩
theorem interlocutorlaw4_GramOrder.calls (k : Nat) (A0 : Option Addr) (c0 : Nat) (l0 : List Raw') (a1 : Int) (A2 : Option Addr) (c2 : Nat) (l2 : List Int) (r : Bool) (w : World) (hr0 : Kd.C k31 w A0 l0.length l0) (hc0 : l0.length ≤ c0) (hr2 : Kd.C (Kd.int .i64) w A2 l2.length l2) (hc2 : l2.length ≤ c2) (h : interlocutorlaw4_GramOrder.f k l0 a1 l2 = some r) :
    Calls Try.prog 8 #[.slice A0 l0.length c0, .int .i64 a1, .slice A2 l2.length c2] w fun e w' => e = .returned (.bool r) ∧ Below w.heap.size w w' := by
  unfold interlocutorlaw4_GramOrder.f at h
  split at h
  case isFalse => cases h
  case isTrue hok =>
    obtain rfl := Option.some.inj h
    exact orderLaw_walk A0 c0 l0 a1 A2 c2 l2 w hr0 hc0 hr2 hc2 hok
end Go.Proofs.Ytjomlfdkmdgclaa.P
end
section
namespace Go.Proofs.Ytjomlfdkmdgclaa.Pure
open Go.RowKit Go.Proofs.Ytjomlfdkmdgclaa.P
theorem GramOrder (l0 : List Raw') (a1 : Int) (l2 : List Int) (_ : l0.length ≤ 9223372036854775807) (hok : ∀ x ∈ l0, okRaw x) (_ : l2.length ≤ 9223372036854775807) (_ : ∀ n ∈ l2, wfI n) : ∃ k, interlocutorlaw4_GramOrder.f k l0 a1 l2 = some true := ⟨0, if_pos hok⟩
end Go.Proofs.Ytjomlfdkmdgclaa.Pure
end
