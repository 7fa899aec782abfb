/- What was resolved is its own: written to, it does not change the locales: BlobOwn answers true for all that it is given, with no condition. Part 2: contracts of the functions that the law reaches, and words for them. -/
import Derived.BigRegion
import Derived.DeepKeys4
import Derived.Deep.RegionLaw
import Derived.Deep.RegionHeld3
import Derived.Test.YtiocgaekoeekgaaGreatMBO1
set_option maxHeartbeats 32000000
set_option maxRecDepth 100000
section
namespace Go.Proofs.YtiocgaekoeekgaaGreat.P
open Go.RowKit YtiocgaekoeekgaaGreatW.PrintWords YtiocgaekoeekgaaGreatW.PrintLast YtiocgaekoeekgaaGreatW.PrintMore
attribute [local go_sem] vb_ tb_ jc_ ic_ lb_ kb_ ub_ sb_   
set_option linter.unusedVariables false
set_option linter.unusedSimpArgs false
noncomputable def blob_within.f (a0 : Int) (a1 : Int) (a2 : Int) : Option (Bool) := if a0 ≥ a1 then (some (decide (a0 ≤ a2))) else (some false)
theorem blob_within.calls (a0 : Int) (a1 : Int) (a2 : Int) (r : Bool) (w : World) (h : blob_within.f a0 a1 a2 = some r) :
  Calls Tryz.prog 42 #[.int .i64 a0, .int .i64 a1, .int .i64 a2] w fun e w' => e = .returned (.bool r) ∧ Drawn0 w w' := by
 have H : (if a0 ≥ a1 then (some (decide (a0 ≤ a2))) else (some false)) = some r := h
 clear h
 by_cases c4 : a0 ≥ a1
 ·rw [if_pos c4] at H
  have c4b0 : decide (a1 ≤ a0) = true := decide_eq_true c4; clear c4; obtain rfl := Option.some.inj H
  go_enter Tryz.func42, Tryz.ntmps42
  go_wp2
  go_ret
  exact ⟨by first | rfl | (simp; done) | (simp [*]; done), by repeat (first | exact Drawn0.refl _ | apply Drawn0.step)⟩
 rw [if_neg c4] at H
 have c4b0 : decide (a1 ≤ a0) = false := decide_eq_false c4
 clear c4
 obtain rfl := Option.some.inj H
 go_enter Tryz.func42, Tryz.ntmps42
 go_wp2
 go_ret
 exact ⟨by first | rfl | (simp; done) | (simp [*]; done), by repeat (first | exact Drawn0.refl _ | apply Drawn0.step)⟩
noncomputable def blob_id.l0 : Nat → ByteArray → Int → Option (Bool)
 | 0, _, _ => none
 | k + 1, x0, x3 => if x3 < (x0.size : Int) then (if 0 ≤ x3 then (if (bt x0 x3) < 97 then (if (bt x0 x3) < 48 then (if (bt x0 x3) = 45 then (blob_id.l0 k x0 (wrap64 (x3 + 1))) else (some false)) else (if (bt x0 x3) > 57 then (if (bt x0 x3) = 45 then (blob_id.l0 k x0 (wrap64 (x3 + 1))) else (some false)) else (blob_id.l0 k x0 (wrap64 (x3 + 1))))) else (if (bt x0 x3) > 122 then (if (bt x0 x3) < 48 then (if (bt x0 x3) = 45 then (blob_id.l0 k x0 (wrap64 (x3 + 1))) else (some false)) else (if (bt x0 x3) > 57 then (if (bt x0 x3) = 45 then (blob_id.l0 k x0 (wrap64 (x3 + 1))) else (some false)) else (blob_id.l0 k x0 (wrap64 (x3 + 1))))) else (blob_id.l0 k x0 (wrap64 (x3 + 1))))) else (none)) else ((blob_within.f (x0.size : Int) 1 12).bind fun t101 => (some t101))
noncomputable def blob_id.f (k : Nat) (a0 : BA) : Option (Bool) := blob_id.l0 k a0 0
theorem blob_id.calls (k : Nat) (a0 : BA) (r : Bool) (w : World) (h : blob_id.f k a0 = some r) :
  Calls Tryz.prog 41 #[.string a0] w fun e w' => e = .returned (.bool r) ∧ Drawn0 w w' := by
 have H : (blob_id.l0 k a0 0) = some r := h
 clear h
 have H' := aM_ H
 clear H
 go_enter Tryz.func41, Tryz.ntmps41
 go_wp2
 go_loopg [3] k (fun kq v3 w' => ∃ (x3_1 : Int), v3 = .int .i64 x3_1 ∧ Az (blob_id.l0 kq a0 x3_1 = some r) ∧ Az (kq ≤ k) ∧ Drawn0 w w')
 case atStart => exact ⟨(0), (by first | rfl | (simp; done) | (simp [*]; done)), H', ⟨Nat.le_refl _⟩, by repeat (first | exact Drawn0.refl _ | apply Drawn0.step)⟩
 clear H'
 obtain ⟨x3_1, rfl, HA, HK1, ⟨m1, rfl⟩⟩ := hrel
 cases gk with
 | zero => exact absurd HA.out (by simp [blob_id.l0])
 | succ k1 =>
  have H := HA.out; clear HA; simp only [blob_id.l0] at H
  by_cases c2 : x3_1 < (a0.size : Int)
  ·rw [if_pos c2] at H
   have c2b0 : decide (x3_1 < (a0.size : Int)) = true := decide_eq_true c2; clear c2
   by_cases c3 : 0 ≤ x3_1
   ·rw [if_pos c3] at H
    have c3b0 : decide (0 ≤ x3_1) = true := decide_eq_true c3; clear c3
    by_cases c5 : (bt a0 x3_1) < 97
    ·rw [if_pos c5] at H
     have c5b0 : decide ((bt a0 x3_1) < 97) = true := decide_eq_true c5; clear c5
     by_cases c6 : (bt a0 x3_1) < 48
     ·rw [if_pos c6] at H
      have c6b0 : decide ((bt a0 x3_1) < 48) = true := decide_eq_true c6; clear c6
      by_cases c7 : (bt a0 x3_1) = 45
      ·rw [if_pos c7] at H
       have c7b0 : ((bt a0 x3_1) == 45) = true := beq_iff_eq.mpr c7; have c7b1 : ((bt a0 x3_1) != 45) = false := bne_eq_false_iff_eq.mpr c7; clear c7; have H' := aM_ H; clear H; have p4 : 0 ≤ (x3_1 : Int) := of_decide_eq_true (by first | (with_reducible assumption) | assumption); have q4 : x3_1 < (a0.size : Int) := of_decide_eq_true (by first | (with_reducible assumption) | assumption); have hx4 := vg_ a0 x3_1; replace p4 := eq_true p4; replace q4 := eq_true q4
       go_wp2
       go_roundg k1
       case measure => have := HK1.out; omega
       case rel => exact ⟨(wrap64 (x3_1 + 1)), (by first | rfl | (simp; done) | (simp [*]; done)), H', ⟨by have := HK1.out; omega⟩, by repeat (first | exact Drawn0.refl _ | apply Drawn0.step)⟩
      rw [if_neg c7] at H; have c7b0 : ((bt a0 x3_1) == 45) = false := beq_eq_false_iff_ne.mpr c7; have c7b1 : ((bt a0 x3_1) != 45) = true := bne_iff_ne.mpr c7; obtain rfl := Option.some.inj H; have p4 : 0 ≤ (x3_1 : Int) := of_decide_eq_true (by first | (with_reducible assumption) | assumption); have q4 : x3_1 < (a0.size : Int) := of_decide_eq_true (by first | (with_reducible assumption) | assumption); have hx4 := vg_ a0 x3_1; replace p4 := eq_true p4; replace q4 := eq_true q4
      go_wp2
      go_ret
      exact ⟨by first | rfl | (simp; done) | (simp [*]; done), by repeat (first | exact Drawn0.refl _ | apply Drawn0.step)⟩
     rw [if_neg c6] at H; have c6b0 : decide ((bt a0 x3_1) < 48) = false := decide_eq_false c6; clear c6
     by_cases c8 : (bt a0 x3_1) > 57
     ·rw [if_pos c8] at H
      have c8b0 : decide (57 < (bt a0 x3_1)) = true := decide_eq_true c8; clear c8
      by_cases c9 : (bt a0 x3_1) = 45
      ·rw [if_pos c9] at H
       have c9b0 : ((bt a0 x3_1) == 45) = true := beq_iff_eq.mpr c9; have c9b1 : ((bt a0 x3_1) != 45) = false := bne_eq_false_iff_eq.mpr c9; clear c9; have H' := aM_ H; clear H; have p4 : 0 ≤ (x3_1 : Int) := of_decide_eq_true (by first | (with_reducible assumption) | assumption); have q4 : x3_1 < (a0.size : Int) := of_decide_eq_true (by first | (with_reducible assumption) | assumption); have hx4 := vg_ a0 x3_1; replace p4 := eq_true p4; replace q4 := eq_true q4
       go_wp2
       go_roundg k1
       case measure => have := HK1.out; omega
       case rel => exact ⟨(wrap64 (x3_1 + 1)), (by first | rfl | (simp; done) | (simp [*]; done)), H', ⟨by have := HK1.out; omega⟩, by repeat (first | exact Drawn0.refl _ | apply Drawn0.step)⟩
      rw [if_neg c9] at H; have c9b0 : ((bt a0 x3_1) == 45) = false := beq_eq_false_iff_ne.mpr c9; have c9b1 : ((bt a0 x3_1) != 45) = true := bne_iff_ne.mpr c9; obtain rfl := Option.some.inj H; have p4 : 0 ≤ (x3_1 : Int) := of_decide_eq_true (by first | (with_reducible assumption) | assumption); have q4 : x3_1 < (a0.size : Int) := of_decide_eq_true (by first | (with_reducible assumption) | assumption); have hx4 := vg_ a0 x3_1; replace p4 := eq_true p4; replace q4 := eq_true q4
      go_wp2
      go_ret
      exact ⟨by first | rfl | (simp; done) | (simp [*]; done), by repeat (first | exact Drawn0.refl _ | apply Drawn0.step)⟩
     rw [if_neg c8] at H; have c8b0 : decide (57 < (bt a0 x3_1)) = false := decide_eq_false c8; clear c8; have H' := aM_ H; clear H; have p4 : 0 ≤ (x3_1 : Int) := of_decide_eq_true (by first | (with_reducible assumption) | assumption); have q4 : x3_1 < (a0.size : Int) := of_decide_eq_true (by first | (with_reducible assumption) | assumption); have hx4 := vg_ a0 x3_1; replace p4 := eq_true p4; replace q4 := eq_true q4
     go_wp2
     go_roundg k1
     case measure => have := HK1.out; omega
     case rel => exact ⟨(wrap64 (x3_1 + 1)), (by first | rfl | (simp; done) | (simp [*]; done)), H', ⟨by have := HK1.out; omega⟩, by repeat (first | exact Drawn0.refl _ | apply Drawn0.step)⟩
    rw [if_neg c5] at H; have c5b0 : decide ((bt a0 x3_1) < 97) = false := decide_eq_false c5; clear c5
    by_cases c10 : (bt a0 x3_1) > 122
    ·rw [if_pos c10] at H
     have c10b0 : decide (122 < (bt a0 x3_1)) = true := decide_eq_true c10; clear c10
     by_cases c11 : (bt a0 x3_1) < 48
     ·rw [if_pos c11] at H
      have c11b0 : decide ((bt a0 x3_1) < 48) = true := decide_eq_true c11; clear c11
      by_cases c12 : (bt a0 x3_1) = 45
      ·rw [if_pos c12] at H
       have c12b0 : ((bt a0 x3_1) == 45) = true := beq_iff_eq.mpr c12; have c12b1 : ((bt a0 x3_1) != 45) = false := bne_eq_false_iff_eq.mpr c12; clear c12; have H' := aM_ H; clear H; have p4 : 0 ≤ (x3_1 : Int) := of_decide_eq_true (by first | (with_reducible assumption) | assumption); have q4 : x3_1 < (a0.size : Int) := of_decide_eq_true (by first | (with_reducible assumption) | assumption); have hx4 := vg_ a0 x3_1; replace p4 := eq_true p4; replace q4 := eq_true q4
       go_wp2
       go_roundg k1
       case measure => have := HK1.out; omega
       case rel => exact ⟨(wrap64 (x3_1 + 1)), (by first | rfl | (simp; done) | (simp [*]; done)), H', ⟨by have := HK1.out; omega⟩, by repeat (first | exact Drawn0.refl _ | apply Drawn0.step)⟩
      rw [if_neg c12] at H; have c12b0 : ((bt a0 x3_1) == 45) = false := beq_eq_false_iff_ne.mpr c12; have c12b1 : ((bt a0 x3_1) != 45) = true := bne_iff_ne.mpr c12; obtain rfl := Option.some.inj H; have p4 : 0 ≤ (x3_1 : Int) := of_decide_eq_true (by first | (with_reducible assumption) | assumption); have q4 : x3_1 < (a0.size : Int) := of_decide_eq_true (by first | (with_reducible assumption) | assumption); have hx4 := vg_ a0 x3_1; replace p4 := eq_true p4; replace q4 := eq_true q4
      go_wp2
      go_ret
      exact ⟨by first | rfl | (simp; done) | (simp [*]; done), by repeat (first | exact Drawn0.refl _ | apply Drawn0.step)⟩
     rw [if_neg c11] at H; have c11b0 : decide ((bt a0 x3_1) < 48) = false := decide_eq_false c11; clear c11
     by_cases c13 : (bt a0 x3_1) > 57
     ·rw [if_pos c13] at H
      have c13b0 : decide (57 < (bt a0 x3_1)) = true := decide_eq_true c13; clear c13
      by_cases c14 : (bt a0 x3_1) = 45
      ·rw [if_pos c14] at H
       have c14b0 : ((bt a0 x3_1) == 45) = true := beq_iff_eq.mpr c14; have c14b1 : ((bt a0 x3_1) != 45) = false := bne_eq_false_iff_eq.mpr c14; clear c14; have H' := aM_ H; clear H; have p4 : 0 ≤ (x3_1 : Int) := of_decide_eq_true (by first | (with_reducible assumption) | assumption); have q4 : x3_1 < (a0.size : Int) := of_decide_eq_true (by first | (with_reducible assumption) | assumption); have hx4 := vg_ a0 x3_1; replace p4 := eq_true p4; replace q4 := eq_true q4
       go_wp2
       go_roundg k1
       case measure => have := HK1.out; omega
       case rel => exact ⟨(wrap64 (x3_1 + 1)), (by first | rfl | (simp; done) | (simp [*]; done)), H', ⟨by have := HK1.out; omega⟩, by repeat (first | exact Drawn0.refl _ | apply Drawn0.step)⟩
      rw [if_neg c14] at H; have c14b0 : ((bt a0 x3_1) == 45) = false := beq_eq_false_iff_ne.mpr c14; have c14b1 : ((bt a0 x3_1) != 45) = true := bne_iff_ne.mpr c14; obtain rfl := Option.some.inj H; have p4 : 0 ≤ (x3_1 : Int) := of_decide_eq_true (by first | (with_reducible assumption) | assumption); have q4 : x3_1 < (a0.size : Int) := of_decide_eq_true (by first | (with_reducible assumption) | assumption); have hx4 := vg_ a0 x3_1; replace p4 := eq_true p4; replace q4 := eq_true q4
      go_wp2
      go_ret
      exact ⟨by first | rfl | (simp; done) | (simp [*]; done), by repeat (first | exact Drawn0.refl _ | apply Drawn0.step)⟩
     rw [if_neg c13] at H; have c13b0 : decide (57 < (bt a0 x3_1)) = false := decide_eq_false c13; clear c13; have H' := aM_ H; clear H; have p4 : 0 ≤ (x3_1 : Int) := of_decide_eq_true (by first | (with_reducible assumption) | assumption); have q4 : x3_1 < (a0.size : Int) := of_decide_eq_true (by first | (with_reducible assumption) | assumption); have hx4 := vg_ a0 x3_1; replace p4 := eq_true p4; replace q4 := eq_true q4
     go_wp2
     go_roundg k1
     case measure => have := HK1.out; omega
     case rel => exact ⟨(wrap64 (x3_1 + 1)), (by first | rfl | (simp; done) | (simp [*]; done)), H', ⟨by have := HK1.out; omega⟩, by repeat (first | exact Drawn0.refl _ | apply Drawn0.step)⟩
    rw [if_neg c10] at H; have c10b0 : decide (122 < (bt a0 x3_1)) = false := decide_eq_false c10; clear c10; have H' := aM_ H; clear H; have p4 : 0 ≤ (x3_1 : Int) := of_decide_eq_true (by first | (with_reducible assumption) | assumption); have q4 : x3_1 < (a0.size : Int) := of_decide_eq_true (by first | (with_reducible assumption) | assumption); have hx4 := vg_ a0 x3_1; replace p4 := eq_true p4; replace q4 := eq_true q4
    go_wp2
    go_roundg k1
    case measure => have := HK1.out; omega
    case rel => exact ⟨(wrap64 (x3_1 + 1)), (by first | rfl | (simp; done) | (simp [*]; done)), H', ⟨by have := HK1.out; omega⟩, by repeat (first | exact Drawn0.refl _ | apply Drawn0.step)⟩
   rw [if_neg c3] at H; exact absurd H (by simp)
  rw [if_neg c2] at H; have c2b0 : decide (x3_1 < (a0.size : Int)) = false := decide_eq_false c2; clear c2; replace H := Option.bind_eq_some_iff.mp H; obtain ⟨t101, A150, H⟩ := H; replace H : (some t101) = some r := H; have A15 := aM_ A150; clear A150; obtain rfl := Option.some.inj H
  go_wp2_with (first | ((with_reducible refine mb_ (f := 42) rfl ?_); refine kd_ (some 34) rfl rfl Tryz.func42 (by kernel_rfl) rfl #[.int .i64 (a0.size : Int), .int .i64 1, .int .i64 12] rfl (by (try simp only [List.map_toArray, List.map_cons, List.map_nil]); first | done | rfl | (simp only [List.length_drop, List.length_take]; rfl)) ?_; (with_reducible refine (blob_within.calls (a0.size : Int) 1 12 t101 _ A15.out).mono ?_); rintro e w' ⟨rfl, ⟨nd, rfl⟩⟩; refine ⟨_, rfl, ?_⟩))
  go_ret
  exact ⟨by first | rfl | (simp; done) | (simp [*]; done), by repeat (first | exact Drawn0.refl _ | apply Drawn0.step)⟩
noncomputable def blob_parent.f (l0 : List (S44)) (a1 : Int) : Option (Int) := if 0 ≤ a1 then (if a1 < (l0.length : Int) then (if ((ya_ l0 a1).f1) < a1 then (some ((ya_ l0 a1).f1)) else (some (-1))) else (none)) else (none)
theorem blob_parent.calls (A0 : Option Addr) (c0 : Nat) (l0 : List (S44)) (a1 : Int) (r : Int) (w : World) (hr0 : Kd.C k44 w A0 l0.length l0) (hc0 : l0.length ≤ c0) (h : blob_parent.f l0 a1 = some r) :
  Calls Tryz.prog 60 #[.slice A0 l0.length c0, .int .i64 a1] w fun e w' => e = .returned (.int .i64 r) ∧ Drawn0 w w' := by
 have HR0 := aM_ hr0
 have HC0 := aM_ hc0
 clear hr0 hc0
 have H : (if 0 ≤ a1 then (if a1 < (l0.length : Int) then (if ((ya_ l0 a1).f1) < a1 then (some ((ya_ l0 a1).f1)) else (some (-1))) else (none)) else (none)) = some r := h
 clear h
 by_cases c3 : 0 ≤ a1
 ·rw [if_pos c3] at H
  have c3b0 : decide (0 ≤ a1) = true := decide_eq_true c3; clear c3
  by_cases c4 : a1 < (l0.length : Int)
  ·rw [if_pos c4] at H
   have c4b0 : decide (a1 < (l0.length : Int)) = true := decide_eq_true c4; clear c4
   by_cases c5 : ((ya_ l0 a1).f1) < a1
   ·rw [if_pos c5] at H
    have c5b0 : decide (((ya_ l0 a1).f1) < a1) = true := decide_eq_true c5; clear c5; obtain rfl := Option.some.inj H; have p102 : 0 ≤ (a1 : Int) := of_decide_eq_true (by first | (with_reducible assumption) | assumption); have q102 : a1 < (l0.length : Int) := of_decide_eq_true (by first | (with_reducible assumption) | assumption); obtain ⟨ad102, A102_3, c102_3, A102_4, c102_4, A102_5, c102_5, e102, hx102_0, hx102_1, hx102_2, hx102_3, hx102_4, hx102_5, hl102_3, hi102_3, hl102_4, hi102_4, hl102_5, hi102_5⟩ := lg_ HR0.out a1 p102 q102
    cases e102
    have HR102_3 := aM_ hi102_3; have HC102_3 := aM_ hl102_3; clear hi102_3 hl102_3; have HR102_4 := aM_ hi102_4; have HC102_4 := aM_ hl102_4; clear hi102_4 hl102_4; have HR102_5 := aM_ hi102_5; have HC102_5 := aM_ hl102_5; clear hi102_5 hl102_5; replace p102 := eq_true p102; replace q102 := eq_true q102; have p103 : 0 ≤ (a1 : Int) := of_decide_eq_true (by first | (with_reducible assumption) | assumption); have q103 : a1 < (l0.length : Int) := of_decide_eq_true (by first | (with_reducible assumption) | assumption); obtain ⟨ad103, A103_3, c103_3, A103_4, c103_4, A103_5, c103_5, e103, hx103_0, hx103_1, hx103_2, hx103_3, hx103_4, hx103_5, hl103_3, hi103_3, hl103_4, hi103_4, hl103_5, hi103_5⟩ := lg_ HR0.out a1 p103 q103; obtain rfl : ad102 = ad103 := (by injection e103); have HR103_3 := aM_ hi103_3; have HC103_3 := aM_ hl103_3; clear hi103_3 hl103_3; have HR103_4 := aM_ hi103_4; have HC103_4 := aM_ hl103_4; clear hi103_4 hl103_4; have HR103_5 := aM_ hi103_5; have HC103_5 := aM_ hl103_5; clear hi103_5 hl103_5; replace p103 := eq_true p103; replace q103 := eq_true q103; have ea_ := Option.some.inj (hx102_3.symm.trans hx103_3); injection ea_ with ea_ en_ ec_; subst ea_; subst ec_; clear en_; have ea_ := Option.some.inj (hx102_4.symm.trans hx103_4); injection ea_ with ea_ en_ ec_; subst ea_; subst ec_; clear en_; have ea_ := Option.some.inj (hx102_5.symm.trans hx103_5); injection ea_ with ea_ en_ ec_; subst ea_; subst ec_; clear en_
    go_enter Tryz.func60, Tryz.ntmps60
    go_wp2
    go_ret
    exact ⟨by first | rfl | (simp; done) | (simp [*]; done), by repeat (first | exact Drawn0.refl _ | apply Drawn0.step)⟩
   rw [if_neg c5] at H; have c5b0 : decide (((ya_ l0 a1).f1) < a1) = false := decide_eq_false c5; clear c5; obtain rfl := Option.some.inj H; have p102 : 0 ≤ (a1 : Int) := of_decide_eq_true (by first | (with_reducible assumption) | assumption); have q102 : a1 < (l0.length : Int) := of_decide_eq_true (by first | (with_reducible assumption) | assumption); obtain ⟨ad102, A102_3, c102_3, A102_4, c102_4, A102_5, c102_5, e102, hx102_0, hx102_1, hx102_2, hx102_3, hx102_4, hx102_5, hl102_3, hi102_3, hl102_4, hi102_4, hl102_5, hi102_5⟩ := lg_ HR0.out a1 p102 q102
   cases e102
   have HR102_3 := aM_ hi102_3; have HC102_3 := aM_ hl102_3; clear hi102_3 hl102_3; have HR102_4 := aM_ hi102_4; have HC102_4 := aM_ hl102_4; clear hi102_4 hl102_4; have HR102_5 := aM_ hi102_5; have HC102_5 := aM_ hl102_5; clear hi102_5 hl102_5; replace p102 := eq_true p102; replace q102 := eq_true q102
   go_enter Tryz.func60, Tryz.ntmps60
   go_wp2
   go_ret
   exact ⟨by first | rfl | (simp; done) | (simp [*]; done), by repeat (first | exact Drawn0.refl _ | apply Drawn0.step)⟩
  rw [if_neg c4] at H; exact absurd H (by simp)
 rw [if_neg c3] at H
 exact absurd H (by simp)
noncomputable def blob_word.f (a0 : Int) : Option (Bool) := (blob_within.f a0 1 49).bind fun t104 => (some t104)
theorem blob_word.calls (a0 : Int) (r : Bool) (w : World) (h : blob_word.f a0 = some r) :
  Calls Tryz.prog 92 #[.int .i64 a0] w fun e w' => e = .returned (.bool r) ∧ Drawn0 w w' := by
 have H : ((blob_within.f a0 1 49).bind fun t104 => (some t104)) = some r := h
 clear h
 replace H := Option.bind_eq_some_iff.mp H
 obtain ⟨t104, A20, H⟩ := H
 replace H : (some t104) = some r := H
 have A2 := aM_ A20
 clear A20
 obtain rfl := Option.some.inj H
 go_enter Tryz.func92, Tryz.ntmps92
 go_wp2_with (first | ((with_reducible refine mb_ (f := 42) rfl ?_); refine kd_ (some 4) rfl rfl Tryz.func42 (by kernel_rfl) rfl #[.int .i64 a0, .int .i64 1, .int .i64 49] rfl (by (try simp only [List.map_toArray, List.map_cons, List.map_nil]); first | done | rfl | (simp only [List.length_drop, List.length_take]; rfl)) ?_; (with_reducible refine (blob_within.calls a0 1 49 t104 _ A2.out).mono ?_); rintro e w' ⟨rfl, ⟨nd, rfl⟩⟩; refine ⟨_, rfl, ?_⟩))
 go_ret
 exact ⟨by first | rfl | (simp; done) | (simp [*]; done), by repeat (first | exact Drawn0.refl _ | apply Drawn0.step)⟩
noncomputable def slices_Index_int_int.l0 : Nat → List Int → Int → Int → Int → Option (Int)
 | 0, _, _, _, _ => none
 | k + 1, x0, x1, x7, x8 => if x8 < x7 then (if 0 ≤ x8 then (if x8 < (x0.length : Int) then (if x1 = (rd x0 x8) then (some x8) else (slices_Index_int_int.l0 k x0 x1 x7 (wrap64 (x8 + 1)))) else (none)) else (none)) else (some (-1))
noncomputable def slices_Index_int_int.f (k : Nat) (l0 : List Int) (a1 : Int) : Option (Int) := slices_Index_int_int.l0 k l0 a1 (l0.length : Int) 0
theorem slices_Index_int_int.calls (k : Nat) (A0 : Option Addr) (c0 : Nat) (l0 : List Int) (a1 : Int) (r : Int) (w : World) (hr0 : Kd.C (Kd.int .i64) w A0 l0.length l0) (hc0 : l0.length ≤ c0) (h : slices_Index_int_int.f k l0 a1 = some r) :
  Calls Tryz.prog 139 #[.slice A0 l0.length c0, .int .i64 a1] w fun e w' => e = .returned (.int .i64 r) ∧ Drawn0 w w' := by
 have HR0 := aM_ hr0
 have HC0 := aM_ hc0
 clear hr0 hc0
 have H : (slices_Index_int_int.l0 k l0 a1 (l0.length : Int) 0) = some r := h
 clear h
 have H' := aM_ H
 clear H
 go_enter Tryz.func139, Tryz.ntmps139
 go_wp2
 go_loopg [8] k (fun kq v8 w' => ∃ (x8_1 : Int), v8 = .int .i64 x8_1 ∧ Az (slices_Index_int_int.l0 kq l0 a1 (l0.length : Int) x8_1 = some r) ∧ Az (kq ≤ k) ∧ Drawn0 w w')
 case atStart => exact ⟨(0), (by first | rfl | (simp; done) | (simp [*]; done)), H', ⟨Nat.le_refl _⟩, by repeat (first | exact Drawn0.refl _ | apply Drawn0.step)⟩
 clear H'
 obtain ⟨x8_1, rfl, HA, HK1, ⟨m1, rfl⟩⟩ := hrel
 cases gk with
 | zero => exact absurd HA.out (by simp [slices_Index_int_int.l0])
 | succ k1 =>
  have H := HA.out; clear HA; simp only [slices_Index_int_int.l0] at H
  by_cases c3 : x8_1 < (l0.length : Int)
  ·rw [if_pos c3] at H
   have c3b0 : decide (x8_1 < (l0.length : Int)) = true := decide_eq_true c3; clear c3
   by_cases c4 : 0 ≤ x8_1
   ·rw [if_pos c4] at H
    have c4b0 : decide (0 ≤ x8_1) = true := decide_eq_true c4; clear c4
    by_cases c5 : x8_1 < (l0.length : Int)
    ·rw [if_pos c5] at H
     have c5b0 : decide (x8_1 < (l0.length : Int)) = true := decide_eq_true c5; clear c5
     by_cases c6 : a1 = (rd l0 x8_1)
     ·rw [if_pos c6] at H
      have c6b0 : (a1 == (rd l0 x8_1)) = true := beq_iff_eq.mpr c6; have c6b1 : (a1 != (rd l0 x8_1)) = false := bne_eq_false_iff_eq.mpr c6; clear c6; obtain rfl := Option.some.inj H; have p105 : 0 ≤ (x8_1 : Int) := of_decide_eq_true (by first | (with_reducible assumption) | assumption); have q105 : x8_1 < (l0.length : Int) := of_decide_eq_true (by first | (with_reducible assumption) | assumption); obtain ⟨ad105, e105, hx105_0⟩ := Kd.at_int HR0.out x8_1 p105 q105
      cases e105
      replace p105 := eq_true p105; replace q105 := eq_true q105
      go_wp2
      go_ret
      exact ⟨by first | rfl | (simp; done) | (simp [*]; done), by repeat (first | exact Drawn0.refl _ | apply Drawn0.step)⟩
     rw [if_neg c6] at H; have c6b0 : (a1 == (rd l0 x8_1)) = false := beq_eq_false_iff_ne.mpr c6; have c6b1 : (a1 != (rd l0 x8_1)) = true := bne_iff_ne.mpr c6; have H' := aM_ H; clear H; have p105 : 0 ≤ (x8_1 : Int) := of_decide_eq_true (by first | (with_reducible assumption) | assumption); have q105 : x8_1 < (l0.length : Int) := of_decide_eq_true (by first | (with_reducible assumption) | assumption); obtain ⟨ad105, e105, hx105_0⟩ := Kd.at_int HR0.out x8_1 p105 q105
     cases e105
     replace p105 := eq_true p105; replace q105 := eq_true q105
     go_wp2
     go_roundg k1
     case measure => have := HK1.out; omega
     case rel => exact ⟨(wrap64 (x8_1 + 1)), (by first | rfl | (simp; done) | (simp [*]; done)), H', ⟨by have := HK1.out; omega⟩, by repeat (first | exact Drawn0.refl _ | apply Drawn0.step)⟩
    rw [if_neg c5] at H; exact absurd H (by simp)
   rw [if_neg c4] at H; exact absurd H (by simp)
  rw [if_neg c3] at H; have c3b0 : decide (x8_1 < (l0.length : Int)) = false := decide_eq_false c3; clear c3; obtain rfl := Option.some.inj H
  go_wp2
  go_ret
  exact ⟨by first | rfl | (simp; done) | (simp [*]; done), by repeat (first | exact Drawn0.refl _ | apply Drawn0.step)⟩
noncomputable def slices_Contains_int_int.f (k : Nat) (l0 : List Int) (a1 : Int) : Option (Bool) := (slices_Index_int_int.f k l0 a1).bind fun t106 => (some (decide (t106 ≥ 0)))
theorem slices_Contains_int_int.calls (k : Nat) (A0 : Option Addr) (c0 : Nat) (l0 : List Int) (a1 : Int) (r : Bool) (w : World) (hr0 : Kd.C (Kd.int .i64) w A0 l0.length l0) (hc0 : l0.length ≤ c0) (h : slices_Contains_int_int.f k l0 a1 = some r) :
  Calls Tryz.prog 99 #[.slice A0 l0.length c0, .int .i64 a1] w fun e w' => e = .returned (.bool r) ∧ Drawn0 w w' := by
 have HR0 := aM_ hr0
 have HC0 := aM_ hc0
 clear hr0 hc0
 have H : ((slices_Index_int_int.f k l0 a1).bind fun t106 => (some (decide (t106 ≥ 0)))) = some r := h
 clear h
 replace H := Option.bind_eq_some_iff.mp H
 obtain ⟨t106, A30, H⟩ := H
 replace H : (some (decide (t106 ≥ 0))) = some r := H
 have A3 := aM_ A30
 clear A30
 obtain rfl := Option.some.inj H
 go_enter Tryz.func99, Tryz.ntmps99
 go_wp2_with (first | ((with_reducible refine mb_ (f := 139) rfl ?_); refine kd_ (some 7) rfl rfl Tryz.func139 (by kernel_rfl) rfl #[.slice A0 l0.length c0, .int .i64 a1] rfl (by (try simp only [List.map_toArray, List.map_cons, List.map_nil]); first | done | rfl | (simp only [List.length_drop, List.length_take]; rfl)) ?_; (with_reducible refine (slices_Index_int_int.calls k _ _ l0 a1 t106 _ ?side1 ?side2 A3.out).mono ?_); (case side1 => repeat (first | exact HR0.out | (with_reducible refine Kd.C_alloc ?_ _) | (with_reducible refine Kd.C_drewN ?_ _) | (with_reducible refine Kd.C_drew ?_))); (case side2 => exact HC0.out); rintro e w' ⟨rfl, ⟨nd, rfl⟩⟩; refine ⟨_, rfl, ?_⟩))
 go_ret
 exact ⟨by first | rfl | (simp; done) | (simp [*]; done), by repeat (first | exact Drawn0.refl _ | apply Drawn0.step)⟩
mutual
noncomputable def gram_asked.j0 : Nat → Int → Bool → Option (Int × Int)
 | 0, _, _ => none
 | k + 1, x4, x5 => if x5 = true then (some (1, 1)) else (if x4 = 2 then (gram_asked.j1 k x4 (x4 == 2)) else (if x4 = 5 then (gram_asked.j1 k x4 (x4 == 5)) else (if x4 = 9 then (gram_asked.j1 k x4 (x4 == 9)) else (if x4 = 12 then (gram_asked.j1 k x4 (x4 == 12)) else (if x4 = 13 then (gram_asked.j1 k x4 (x4 == 13)) else (if x4 = 14 then (gram_asked.j1 k x4 (x4 == 14)) else (gram_asked.j1 k x4 (x4 == 15))))))))
noncomputable def gram_asked.j1 : Nat → Int → Bool → Option (Int × Int)
 | 0, _, _ => none
 | k + 1, x4, x10 => if x10 = true then (some (2, 2)) else (if x4 = 1 then (gram_asked.j2 k x4 (x4 == 1)) else (gram_asked.j2 k x4 (x4 == 6)))
noncomputable def gram_asked.j2 : Nat → Int → Bool → Option (Int × Int)
 | 0, _, _ => none
 | k + 1, x4, x18 => if x18 = true then (some (3, 3)) else (if x4 = 3 then (gram_asked.j3 k x4 (x4 == 3)) else (gram_asked.j3 k x4 (x4 == 4)))
noncomputable def gram_asked.j3 : Nat → Int → Bool → Option (Int × Int)
 | 0, _, _ => none
 | k + 1, x4, x21 => if x21 = true then (some (2, 3)) else (if x4 = 10 then (some (1, 6)) else (some (1, 0)))
end
noncomputable def gram_asked.f (k : Nat) (a0 : Int) : Option (Int × Int) := if a0 = 0 then (gram_asked.j0 k a0 (a0 == 0)) else (if a0 = 7 then (gram_asked.j0 k a0 (a0 == 7)) else (if a0 = 8 then (gram_asked.j0 k a0 (a0 == 8)) else (gram_asked.j0 k a0 (a0 == 11))))
theorem gram_asked.calls (k : Nat) (a0 : Int) (r1 : Int) (r2 : Int) (w : World) (h : gram_asked.f k a0 = some (r1, r2)) :
  Calls Tryz.prog 133 #[.int .i64 a0] w fun e w' => e = .returned (.tuple #[.int .i64 r1, .int .i64 r2]) ∧ Drawn0 w w' := by
 have H : (if a0 = 0 then (gram_asked.j0 k a0 (a0 == 0)) else (if a0 = 7 then (gram_asked.j0 k a0 (a0 == 7)) else (if a0 = 8 then (gram_asked.j0 k a0 (a0 == 8)) else (gram_asked.j0 k a0 (a0 == 11))))) = some (r1, r2) := h
 clear h
 have HC2 := aM_ H
 clear H
 go_enter Tryz.func133, Tryz.ntmps133
 go_upto_if 5 with (fail)
 go_cut [5] (fun v5 wc => ∃ (kq : Nat) (x5_1 : Bool), v5 = .bool x5_1 ∧ Az (gram_asked.j0 kq a0 x5_1 = some (r1, r2)) ∧ Az (kq ≤ k) ∧ Drawn0 w wc)
 case first =>
  have H := HC2.out; clear HC2
  by_cases c3 : a0 = 0
  ·rw [if_pos c3] at H
   have c3b0 : (a0 == 0) = true := beq_iff_eq.mpr c3; have c3b1 : (a0 != 0) = false := bne_eq_false_iff_eq.mpr c3; clear c3
   (first | rw [c3b0] | (simp only [ia_, ja_]; rw [c3b0]) | skip)
   have H' := aM_ H; clear H
   go_wp2
   go_meet
   case rel => exact ⟨_, ((a0 == 0)), (by first | rfl | (simp; done) | (simp [*]; done)), H', ⟨by first | omega | exact Nat.le_refl _⟩, by repeat (first | exact Drawn0.refl _ | apply Drawn0.step)⟩
  rw [if_neg c3] at H; have c3b0 : (a0 == 0) = false := beq_eq_false_iff_ne.mpr c3; have c3b1 : (a0 != 0) = true := bne_iff_ne.mpr c3
  (first | rw [c3b0] | (simp only [ia_, ja_]; rw [c3b0]) | skip)
  by_cases c4 : a0 = 7
  ·rw [if_pos c4] at H
   have c4b0 : (a0 == 7) = true := beq_iff_eq.mpr c4; have c4b1 : (a0 != 7) = false := bne_eq_false_iff_eq.mpr c4; clear c4; have H' := aM_ H; clear H
   go_wp2
   go_meet
   case rel => exact ⟨_, ((a0 == 7)), (by first | rfl | (simp; done) | (simp [*]; done)), H', ⟨by first | omega | exact Nat.le_refl _⟩, by repeat (first | exact Drawn0.refl _ | apply Drawn0.step)⟩
  rw [if_neg c4] at H; have c4b0 : (a0 == 7) = false := beq_eq_false_iff_ne.mpr c4; have c4b1 : (a0 != 7) = true := bne_iff_ne.mpr c4
  by_cases c5 : a0 = 8
  ·rw [if_pos c5] at H
   have c5b0 : (a0 == 8) = true := beq_iff_eq.mpr c5; have c5b1 : (a0 != 8) = false := bne_eq_false_iff_eq.mpr c5; clear c5; have H' := aM_ H; clear H
   go_wp2
   go_meet
   case rel => exact ⟨_, ((a0 == 8)), (by first | rfl | (simp; done) | (simp [*]; done)), H', ⟨by first | omega | exact Nat.le_refl _⟩, by repeat (first | exact Drawn0.refl _ | apply Drawn0.step)⟩
  rw [if_neg c5] at H; have c5b0 : (a0 == 8) = false := beq_eq_false_iff_ne.mpr c5; have c5b1 : (a0 != 8) = true := bne_iff_ne.mpr c5; have H' := aM_ H; clear H
  go_wp2
  go_meet
  case rel => exact ⟨_, ((a0 == 11)), (by first | rfl | (simp; done) | (simp [*]; done)), H', ⟨by first | omega | exact Nat.le_refl _⟩, by repeat (first | exact Drawn0.refl _ | apply Drawn0.step)⟩
 clear HC2
 obtain ⟨kq, x5_1, rfl, HA, HJ1, ⟨mc1, rfl⟩⟩ := hcut
 cases kq with
 | zero => exact absurd HA.out (by simp [gram_asked.j0])
 | succ kj1 =>
  have H := HA.out; clear HA; simp only [gram_asked.j0] at H
  by_cases c6 : x5_1 = true
  ·subst c6
   have H1 : (some (1, 1)) = some (r1, r2) := by rw [if_pos rfl] at H; exact H
   clear H; have H := H1; clear H1; simp only [Option.some.injEq, Prod.mk.injEq] at H; obtain ⟨rfl, rfl⟩ := H
   go_wp2
   go_ret2
   exact ⟨by first | rfl | (simp; done) | (simp [*]; done), by repeat (first | exact Drawn0.refl _ | apply Drawn0.step)⟩
  replace c6 := Bool.eq_false_iff.mpr c6; subst c6; have H1 : (if a0 = 2 then (gram_asked.j1 kj1 a0 (a0 == 2)) else (if a0 = 5 then (gram_asked.j1 kj1 a0 (a0 == 5)) else (if a0 = 9 then (gram_asked.j1 kj1 a0 (a0 == 9)) else (if a0 = 12 then (gram_asked.j1 kj1 a0 (a0 == 12)) else (if a0 = 13 then (gram_asked.j1 kj1 a0 (a0 == 13)) else (if a0 = 14 then (gram_asked.j1 kj1 a0 (a0 == 14)) else (gram_asked.j1 kj1 a0 (a0 == 15)))))))) = some (r1, r2) := by rw [if_neg (show ¬ (false = true) by decide)] at H; exact H
  clear H; have H := H1; clear H1; have HC7 := aM_ H; clear H
  go_upto_if 10 with (fail)
  go_cut [10] (fun v10 wc => ∃ (kq : Nat) (x10_6 : Bool), v10 = .bool x10_6 ∧ Az (gram_asked.j1 kq a0 x10_6 = some (r1, r2)) ∧ Az (kq ≤ kj1) ∧ Drawn0 w wc)
  case first =>
   have H := HC7.out; clear HC7
   by_cases c8 : a0 = 2
   ·rw [if_pos c8] at H
    have c8b0 : (a0 == 2) = true := beq_iff_eq.mpr c8; have c8b1 : (a0 != 2) = false := bne_eq_false_iff_eq.mpr c8; clear c8
    (first | rw [c8b0] | (simp only [ia_, ja_]; rw [c8b0]) | skip)
    have H' := aM_ H; clear H
    go_wp2
    go_meet
    case rel => exact ⟨_, ((a0 == 2)), (by first | rfl | (simp; done) | (simp [*]; done)), H', ⟨by have := HJ1.out; first | omega | exact Nat.le_refl _⟩, by repeat (first | exact Drawn0.refl _ | apply Drawn0.step)⟩
   rw [if_neg c8] at H; have c8b0 : (a0 == 2) = false := beq_eq_false_iff_ne.mpr c8; have c8b1 : (a0 != 2) = true := bne_iff_ne.mpr c8
   (first | rw [c8b0] | (simp only [ia_, ja_]; rw [c8b0]) | skip)
   by_cases c9 : a0 = 5
   ·rw [if_pos c9] at H
    have c9b0 : (a0 == 5) = true := beq_iff_eq.mpr c9; have c9b1 : (a0 != 5) = false := bne_eq_false_iff_eq.mpr c9; clear c9; have H' := aM_ H; clear H
    go_wp2
    go_meet
    case rel => exact ⟨_, ((a0 == 5)), (by first | rfl | (simp; done) | (simp [*]; done)), H', ⟨by have := HJ1.out; first | omega | exact Nat.le_refl _⟩, by repeat (first | exact Drawn0.refl _ | apply Drawn0.step)⟩
   rw [if_neg c9] at H; have c9b0 : (a0 == 5) = false := beq_eq_false_iff_ne.mpr c9; have c9b1 : (a0 != 5) = true := bne_iff_ne.mpr c9
   by_cases c10 : a0 = 9
   ·rw [if_pos c10] at H
    have c10b0 : (a0 == 9) = true := beq_iff_eq.mpr c10; have c10b1 : (a0 != 9) = false := bne_eq_false_iff_eq.mpr c10; clear c10; have H' := aM_ H; clear H
    go_wp2
    go_meet
    case rel => exact ⟨_, ((a0 == 9)), (by first | rfl | (simp; done) | (simp [*]; done)), H', ⟨by have := HJ1.out; first | omega | exact Nat.le_refl _⟩, by repeat (first | exact Drawn0.refl _ | apply Drawn0.step)⟩
   rw [if_neg c10] at H; have c10b0 : (a0 == 9) = false := beq_eq_false_iff_ne.mpr c10; have c10b1 : (a0 != 9) = true := bne_iff_ne.mpr c10
   by_cases c11 : a0 = 12
   ·rw [if_pos c11] at H
    have c11b0 : (a0 == 12) = true := beq_iff_eq.mpr c11; have c11b1 : (a0 != 12) = false := bne_eq_false_iff_eq.mpr c11; clear c11; have H' := aM_ H; clear H
    go_wp2
    go_meet
    case rel => exact ⟨_, ((a0 == 12)), (by first | rfl | (simp; done) | (simp [*]; done)), H', ⟨by have := HJ1.out; first | omega | exact Nat.le_refl _⟩, by repeat (first | exact Drawn0.refl _ | apply Drawn0.step)⟩
   rw [if_neg c11] at H; have c11b0 : (a0 == 12) = false := beq_eq_false_iff_ne.mpr c11; have c11b1 : (a0 != 12) = true := bne_iff_ne.mpr c11
   by_cases c12 : a0 = 13
   ·rw [if_pos c12] at H
    have c12b0 : (a0 == 13) = true := beq_iff_eq.mpr c12; have c12b1 : (a0 != 13) = false := bne_eq_false_iff_eq.mpr c12; clear c12; have H' := aM_ H; clear H
    go_wp2
    go_meet
    case rel => exact ⟨_, ((a0 == 13)), (by first | rfl | (simp; done) | (simp [*]; done)), H', ⟨by have := HJ1.out; first | omega | exact Nat.le_refl _⟩, by repeat (first | exact Drawn0.refl _ | apply Drawn0.step)⟩
   rw [if_neg c12] at H; have c12b0 : (a0 == 13) = false := beq_eq_false_iff_ne.mpr c12; have c12b1 : (a0 != 13) = true := bne_iff_ne.mpr c12
   by_cases c13 : a0 = 14
   ·rw [if_pos c13] at H
    have c13b0 : (a0 == 14) = true := beq_iff_eq.mpr c13; have c13b1 : (a0 != 14) = false := bne_eq_false_iff_eq.mpr c13; clear c13; have H' := aM_ H; clear H
    go_wp2
    go_meet
    case rel => exact ⟨_, ((a0 == 14)), (by first | rfl | (simp; done) | (simp [*]; done)), H', ⟨by have := HJ1.out; first | omega | exact Nat.le_refl _⟩, by repeat (first | exact Drawn0.refl _ | apply Drawn0.step)⟩
   rw [if_neg c13] at H; have c13b0 : (a0 == 14) = false := beq_eq_false_iff_ne.mpr c13; have c13b1 : (a0 != 14) = true := bne_iff_ne.mpr c13; have H' := aM_ H; clear H
   go_wp2
   go_meet
   case rel => exact ⟨_, ((a0 == 15)), (by first | rfl | (simp; done) | (simp [*]; done)), H', ⟨by have := HJ1.out; first | omega | exact Nat.le_refl _⟩, by repeat (first | exact Drawn0.refl _ | apply Drawn0.step)⟩
  clear HC7; obtain ⟨kq, x10_6, rfl, HA, HJ6, ⟨mc6, rfl⟩⟩ := hcut
  cases kq with
  | zero => exact absurd HA.out (by simp [gram_asked.j1])
  | succ kj6 =>
   have H := HA.out; clear HA; simp only [gram_asked.j1] at H
   by_cases c14 : x10_6 = true
   ·subst c14
    have H1 : (some (2, 2)) = some (r1, r2) := by rw [if_pos rfl] at H; exact H
    clear H; have H := H1; clear H1; simp only [Option.some.injEq, Prod.mk.injEq] at H; obtain ⟨rfl, rfl⟩ := H
    go_wp2
    go_ret2
    exact ⟨by first | rfl | (simp; done) | (simp [*]; done), by repeat (first | exact Drawn0.refl _ | apply Drawn0.step)⟩
   replace c14 := Bool.eq_false_iff.mpr c14; subst c14; have H1 : (if a0 = 1 then (gram_asked.j2 kj6 a0 (a0 == 1)) else (gram_asked.j2 kj6 a0 (a0 == 6))) = some (r1, r2) := by rw [if_neg (show ¬ (false = true) by decide)] at H; exact H
   clear H; have H := H1; clear H1; have HC15 := aM_ H; clear H
   go_upto_if 18 with (fail)
   go_cut [18] (fun v18 wc => ∃ (kq : Nat) (x18_14 : Bool), v18 = .bool x18_14 ∧ Az (gram_asked.j2 kq a0 x18_14 = some (r1, r2)) ∧ Az (kq ≤ kj6) ∧ Drawn0 w wc)
   case first =>
    have H := HC15.out; clear HC15
    by_cases c16 : a0 = 1
    ·rw [if_pos c16] at H
     have c16b0 : (a0 == 1) = true := beq_iff_eq.mpr c16; have c16b1 : (a0 != 1) = false := bne_eq_false_iff_eq.mpr c16; clear c16
     (first | rw [c16b0] | (simp only [ia_, ja_]; rw [c16b0]) | skip)
     have H' := aM_ H; clear H
     go_wp2
     go_meet
     case rel => exact ⟨_, ((a0 == 1)), (by first | rfl | (simp; done) | (simp [*]; done)), H', ⟨by have := HJ1.out; have := HJ6.out; first | omega | exact Nat.le_refl _⟩, by repeat (first | exact Drawn0.refl _ | apply Drawn0.step)⟩
    rw [if_neg c16] at H; have c16b0 : (a0 == 1) = false := beq_eq_false_iff_ne.mpr c16; have c16b1 : (a0 != 1) = true := bne_iff_ne.mpr c16
    (first | rw [c16b0] | (simp only [ia_, ja_]; rw [c16b0]) | skip)
    have H' := aM_ H; clear H
    go_wp2
    go_meet
    case rel => exact ⟨_, ((a0 == 6)), (by first | rfl | (simp; done) | (simp [*]; done)), H', ⟨by have := HJ1.out; have := HJ6.out; first | omega | exact Nat.le_refl _⟩, by repeat (first | exact Drawn0.refl _ | apply Drawn0.step)⟩
   clear HC15; obtain ⟨kq, x18_14, rfl, HA, HJ14, ⟨mc14, rfl⟩⟩ := hcut
   cases kq with
   | zero => exact absurd HA.out (by simp [gram_asked.j2])
   | succ kj14 =>
    have H := HA.out; clear HA; simp only [gram_asked.j2] at H
    by_cases c17 : x18_14 = true
    ·subst c17
     have H1 : (some (3, 3)) = some (r1, r2) := by rw [if_pos rfl] at H; exact H
     clear H; have H := H1; clear H1; simp only [Option.some.injEq, Prod.mk.injEq] at H; obtain ⟨rfl, rfl⟩ := H
     go_wp2
     go_ret2
     exact ⟨by first | rfl | (simp; done) | (simp [*]; done), by repeat (first | exact Drawn0.refl _ | apply Drawn0.step)⟩
    replace c17 := Bool.eq_false_iff.mpr c17; subst c17; have H1 : (if a0 = 3 then (gram_asked.j3 kj14 a0 (a0 == 3)) else (gram_asked.j3 kj14 a0 (a0 == 4))) = some (r1, r2) := by rw [if_neg (show ¬ (false = true) by decide)] at H; exact H
    clear H; have H := H1; clear H1; have HC18 := aM_ H; clear H
    go_upto_if 21 with (fail)
    go_cut [21] (fun v21 wc => ∃ (kq : Nat) (x21_17 : Bool), v21 = .bool x21_17 ∧ Az (gram_asked.j3 kq a0 x21_17 = some (r1, r2)) ∧ Az (kq ≤ kj14) ∧ Drawn0 w wc)
    case first =>
     have H := HC18.out; clear HC18
     by_cases c19 : a0 = 3
     ·rw [if_pos c19] at H
      have c19b0 : (a0 == 3) = true := beq_iff_eq.mpr c19; have c19b1 : (a0 != 3) = false := bne_eq_false_iff_eq.mpr c19; clear c19
      (first | rw [c19b0] | (simp only [ia_, ja_]; rw [c19b0]) | skip)
      have H' := aM_ H; clear H
      go_wp2
      go_meet
      case rel => exact ⟨_, ((a0 == 3)), (by first | rfl | (simp; done) | (simp [*]; done)), H', ⟨by have := HJ1.out; have := HJ6.out; have := HJ14.out; first | omega | exact Nat.le_refl _⟩, by repeat (first | exact Drawn0.refl _ | apply Drawn0.step)⟩
     rw [if_neg c19] at H; have c19b0 : (a0 == 3) = false := beq_eq_false_iff_ne.mpr c19; have c19b1 : (a0 != 3) = true := bne_iff_ne.mpr c19
     (first | rw [c19b0] | (simp only [ia_, ja_]; rw [c19b0]) | skip)
     have H' := aM_ H; clear H
     go_wp2
     go_meet
     case rel => exact ⟨_, ((a0 == 4)), (by first | rfl | (simp; done) | (simp [*]; done)), H', ⟨by have := HJ1.out; have := HJ6.out; have := HJ14.out; first | omega | exact Nat.le_refl _⟩, by repeat (first | exact Drawn0.refl _ | apply Drawn0.step)⟩
    clear HC18; obtain ⟨kq, x21_17, rfl, HA, HJ17, ⟨mc17, rfl⟩⟩ := hcut
    cases kq with
    | zero => exact absurd HA.out (by simp [gram_asked.j3])
    | succ kj17 =>
     have H := HA.out; clear HA; simp only [gram_asked.j3] at H
     by_cases c20 : x21_17 = true
     ·subst c20
      have H1 : (some (2, 3)) = some (r1, r2) := by rw [if_pos rfl] at H; exact H
      clear H; have H := H1; clear H1; simp only [Option.some.injEq, Prod.mk.injEq] at H; obtain ⟨rfl, rfl⟩ := H
      go_wp2
      go_ret2
      exact ⟨by first | rfl | (simp; done) | (simp [*]; done), by repeat (first | exact Drawn0.refl _ | apply Drawn0.step)⟩
     replace c20 := Bool.eq_false_iff.mpr c20; subst c20; have H1 : (if a0 = 10 then (some (1, 6)) else (some (1, 0))) = some (r1, r2) := by rw [if_neg (show ¬ (false = true) by decide)] at H; exact H
     clear H; have H := H1; clear H1
     by_cases c21 : a0 = 10
     ·rw [if_pos c21] at H
      have c21b0 : (a0 == 10) = true := beq_iff_eq.mpr c21; have c21b1 : (a0 != 10) = false := bne_eq_false_iff_eq.mpr c21; clear c21; simp only [Option.some.injEq, Prod.mk.injEq] at H; obtain ⟨rfl, rfl⟩ := H
      go_wp2
      go_ret2
      exact ⟨by first | rfl | (simp; done) | (simp [*]; done), by repeat (first | exact Drawn0.refl _ | apply Drawn0.step)⟩
     rw [if_neg c21] at H; have c21b0 : (a0 == 10) = false := beq_eq_false_iff_ne.mpr c21; have c21b1 : (a0 != 10) = true := bne_iff_ne.mpr c21; simp only [Option.some.injEq, Prod.mk.injEq] at H; obtain ⟨rfl, rfl⟩ := H
     go_wp2
     go_ret2
     exact ⟨by first | rfl | (simp; done) | (simp [*]; done), by repeat (first | exact Drawn0.refl _ | apply Drawn0.step)⟩
noncomputable def gram_symbol.f (a0 : Int) : Option (Bool) := if a0 ≥ 0 then (some (decide (a0 < 20))) else (some false)
theorem gram_symbol.calls (a0 : Int) (r : Bool) (w : World) (h : gram_symbol.f a0 = some r) :
  Calls Tryz.prog 134 #[.int .i64 a0] w fun e w' => e = .returned (.bool r) ∧ Drawn0 w w' := by
 have H : (if a0 ≥ 0 then (some (decide (a0 < 20))) else (some false)) = some r := h
 clear h
 by_cases c2 : a0 ≥ 0
 ·rw [if_pos c2] at H
  have c2b0 : decide (0 ≤ a0) = true := decide_eq_true c2; clear c2; obtain rfl := Option.some.inj H
  go_enter Tryz.func134, Tryz.ntmps134
  go_wp2
  go_ret
  exact ⟨by first | rfl | (simp; done) | (simp [*]; done), by repeat (first | exact Drawn0.refl _ | apply Drawn0.step)⟩
 rw [if_neg c2] at H
 have c2b0 : decide (0 ≤ a0) = false := decide_eq_false c2
 clear c2
 obtain rfl := Option.some.inj H
 go_enter Tryz.func134, Tryz.ntmps134
 go_wp2
 go_ret
 exact ⟨by first | rfl | (simp; done) | (simp [*]; done), by repeat (first | exact Drawn0.refl _ | apply Drawn0.step)⟩
noncomputable def gram_within.f (a0 : Int) (a1 : Int) (a2 : Int) : Option (Bool) := if a0 ≥ a1 then (some (decide (a0 ≤ a2))) else (some false)
theorem gram_within.calls (a0 : Int) (a1 : Int) (a2 : Int) (r : Bool) (w : World) (h : gram_within.f a0 a1 a2 = some r) :
  Calls Tryz.prog 135 #[.int .i64 a0, .int .i64 a1, .int .i64 a2] w fun e w' => e = .returned (.bool r) ∧ Drawn0 w w' := by
 have H : (if a0 ≥ a1 then (some (decide (a0 ≤ a2))) else (some false)) = some r := h
 clear h
 by_cases c4 : a0 ≥ a1
 ·rw [if_pos c4] at H
  have c4b0 : decide (a1 ≤ a0) = true := decide_eq_true c4; clear c4; obtain rfl := Option.some.inj H
  go_enter Tryz.func135, Tryz.ntmps135
  go_wp2
  go_ret
  exact ⟨by first | rfl | (simp; done) | (simp [*]; done), by repeat (first | exact Drawn0.refl _ | apply Drawn0.step)⟩
 rw [if_neg c4] at H
 have c4b0 : decide (a1 ≤ a0) = false := decide_eq_false c4
 clear c4
 obtain rfl := Option.some.inj H
 go_enter Tryz.func135, Tryz.ntmps135
 go_wp2
 go_ret
 exact ⟨by first | rfl | (simp; done) | (simp [*]; done), by repeat (first | exact Drawn0.refl _ | apply Drawn0.step)⟩
noncomputable def fold_rows.f  : Option ((List (S192))) := some (([(⟨9, 9, 32, 0⟩ : S192), (⟨160, 160, 32, 0⟩ : S192), (⟨8192, 8202, 32, 0⟩ : S192), (⟨8239, 8239, 32, 0⟩ : S192), (⟨8287, 8287, 32, 0⟩ : S192), (⟨12288, 12288, 32, 0⟩ : S192), (⟨8208, 8213, 45, 0⟩ : S192), (⟨8722, 8722, 45, 0⟩ : S192), (⟨8216, 8217, 39, 0⟩ : S192), (⟨700, 700, 39, 0⟩ : S192), (⟨1632, 1641, 48, 1⟩ : S192), (⟨1776, 1785, 48, 1⟩ : S192), (⟨2406, 2415, 48, 1⟩ : S192), (⟨65, 90, 97, 1⟩ : S192), (⟨192, 214, 224, 1⟩ : S192), (⟨216, 222, 248, 1⟩ : S192), (⟨913, 929, 945, 1⟩ : S192), (⟨931, 937, 963, 1⟩ : S192), (⟨1040, 1071, 1072, 1⟩ : S192), (⟨1024, 1039, 1104, 1⟩ : S192)] : List (S192)))
theorem fold_rows.calls  (r : List (S192)) (w : World) (h : fold_rows.f  = some r) :
  Calls Tryz.prog 152 #[] w fun e w' => ∃ v0_ : Value, e = .returned (v0_) ∧ Kd.R k192 192 w' w.heap.size (fun _ => True) v0_ r ∧ Below w.heap.size w w' := by
 have hu192 := Tryz.underlying192
 have HB := aM_ (Below.refl w.heap.size w)
 have H : (some (([(⟨9, 9, 32, 0⟩ : S192), (⟨160, 160, 32, 0⟩ : S192), (⟨8192, 8202, 32, 0⟩ : S192), (⟨8239, 8239, 32, 0⟩ : S192), (⟨8287, 8287, 32, 0⟩ : S192), (⟨12288, 12288, 32, 0⟩ : S192), (⟨8208, 8213, 45, 0⟩ : S192), (⟨8722, 8722, 45, 0⟩ : S192), (⟨8216, 8217, 39, 0⟩ : S192), (⟨700, 700, 39, 0⟩ : S192), (⟨1632, 1641, 48, 1⟩ : S192), (⟨1776, 1785, 48, 1⟩ : S192), (⟨2406, 2415, 48, 1⟩ : S192), (⟨65, 90, 97, 1⟩ : S192), (⟨192, 214, 224, 1⟩ : S192), (⟨216, 222, 248, 1⟩ : S192), (⟨913, 929, 945, 1⟩ : S192), (⟨931, 937, 963, 1⟩ : S192), (⟨1040, 1071, 1072, 1⟩ : S192), (⟨1024, 1039, 1104, 1⟩ : S192)] : List (S192)))) = some r := h
 clear h
 obtain ⟨y107, hy107⟩ : ∃ y_ : List (S192), y_ = (([(⟨9, 9, 32, 0⟩ : S192), (⟨160, 160, 32, 0⟩ : S192), (⟨8192, 8202, 32, 0⟩ : S192), (⟨8239, 8239, 32, 0⟩ : S192), (⟨8287, 8287, 32, 0⟩ : S192), (⟨12288, 12288, 32, 0⟩ : S192), (⟨8208, 8213, 45, 0⟩ : S192), (⟨8722, 8722, 45, 0⟩ : S192), (⟨8216, 8217, 39, 0⟩ : S192), (⟨700, 700, 39, 0⟩ : S192), (⟨1632, 1641, 48, 1⟩ : S192), (⟨1776, 1785, 48, 1⟩ : S192), (⟨2406, 2415, 48, 1⟩ : S192), (⟨65, 90, 97, 1⟩ : S192), (⟨192, 214, 224, 1⟩ : S192), (⟨216, 222, 248, 1⟩ : S192), (⟨913, 929, 945, 1⟩ : S192), (⟨931, 937, 963, 1⟩ : S192), (⟨1040, 1071, 1072, 1⟩ : S192), (⟨1024, 1039, 1104, 1⟩ : S192)] : List (S192))) := ⟨_, rfl⟩
 replace H : (some y107) = some r := by first | (rw [hy107]; with_reducible exact H) | (have H2_ := (Option.bind_some _ _).symm.trans H; rw [hy107]; with_reducible exact H2_) | (have H2_ := (Option.bind_some _ _).symm.trans H; with_reducible exact H2_) | with_reducible exact H | (rw [hy107]; exact H) | exact H
 have Ny107 := aM_ hy107
 clear hy107
 obtain rfl := Option.some.inj H
 go_enter Tryz.func152, Tryz.ntmps152
 go_wp2_with (first | ((with_reducible refine ld_ (N := 21) rfl ?_); refine Kd.R_lit k192 _ 192 ?hg (N := 21) ?hd (xs := ([(⟨9, 9, 32, 0⟩ : S192), (⟨160, 160, 32, 0⟩ : S192), (⟨8192, 8202, 32, 0⟩ : S192), (⟨8239, 8239, 32, 0⟩ : S192), (⟨8287, 8287, 32, 0⟩ : S192), (⟨12288, 12288, 32, 0⟩ : S192), (⟨8208, 8213, 45, 0⟩ : S192), (⟨8722, 8722, 45, 0⟩ : S192), (⟨8216, 8217, 39, 0⟩ : S192), (⟨700, 700, 39, 0⟩ : S192), (⟨1632, 1641, 48, 1⟩ : S192), (⟨1776, 1785, 48, 1⟩ : S192), (⟨2406, 2415, 48, 1⟩ : S192), (⟨65, 90, 97, 1⟩ : S192), (⟨192, 214, 224, 1⟩ : S192), (⟨216, 222, 248, 1⟩ : S192), (⟨913, 929, 945, 1⟩ : S192), (⟨931, 937, 963, 1⟩ : S192), (⟨1040, 1071, 1072, 1⟩ : S192), (⟨1024, 1039, 1104, 1⟩ : S192)] : List (S192))) (inner := [.int .i64 9, .int .i64 9, .int .i64 32, .int .i64 0, .int .i64 160, .int .i64 160, .int .i64 32, .int .i64 0, .int .i64 8192, .int .i64 8202, .int .i64 32, .int .i64 0, .int .i64 8239, .int .i64 8239, .int .i64 32, .int .i64 0, .int .i64 8287, .int .i64 8287, .int .i64 32, .int .i64 0, .int .i64 12288, .int .i64 12288, .int .i64 32, .int .i64 0, .int .i64 8208, .int .i64 8213, .int .i64 45, .int .i64 0, .int .i64 8722, .int .i64 8722, .int .i64 45, .int .i64 0, .int .i64 8216, .int .i64 8217, .int .i64 39, .int .i64 0, .int .i64 700, .int .i64 700, .int .i64 39, .int .i64 0, .int .i64 1632, .int .i64 1641, .int .i64 48, .int .i64 1, .int .i64 1776, .int .i64 1785, .int .i64 48, .int .i64 1, .int .i64 2406, .int .i64 2415, .int .i64 48, .int .i64 1, .int .i64 65, .int .i64 90, .int .i64 97, .int .i64 1, .int .i64 192, .int .i64 214, .int .i64 224, .int .i64 1, .int .i64 216, .int .i64 222, .int .i64 248, .int .i64 1, .int .i64 913, .int .i64 929, .int .i64 945, .int .i64 1, .int .i64 931, .int .i64 937, .int .i64 963, .int .i64 1, .int .i64 1040, .int .i64 1071, .int .i64 1072, .int .i64 1, .int .i64 1024, .int .i64 1039, .int .i64 1104, .int .i64 1]) (ok := fun _ => True) (okp := fun _ => True) ?hr ?hp (fun _ hk => hk) trivial (Below.refl _ _) (Nat.le_refl _) (by simp) ?_; (case hd => rfl); (case hg => rfl); (case hr => first | (go_simp; done) | (go_simp; rfl)); (case hp => exact (Reps.c4 (show Kd.M k192 _ _ _ (⟨9, 9, 32, 0⟩ : S192) [.int .i64 9, .int .i64 9, .int .i64 32, .int .i64 0] from (vc_ _ _ _ (⟨9, 9, 32, 0⟩ : S192) )) (Reps.c4 (show Kd.M k192 _ _ _ (⟨160, 160, 32, 0⟩ : S192) [.int .i64 160, .int .i64 160, .int .i64 32, .int .i64 0] from (vc_ _ _ _ (⟨160, 160, 32, 0⟩ : S192) )) (Reps.c4 (show Kd.M k192 _ _ _ (⟨8192, 8202, 32, 0⟩ : S192) [.int .i64 8192, .int .i64 8202, .int .i64 32, .int .i64 0] from (vc_ _ _ _ (⟨8192, 8202, 32, 0⟩ : S192) )) (Reps.c4 (show Kd.M k192 _ _ _ (⟨8239, 8239, 32, 0⟩ : S192) [.int .i64 8239, .int .i64 8239, .int .i64 32, .int .i64 0] from (vc_ _ _ _ (⟨8239, 8239, 32, 0⟩ : S192) )) (Reps.c4 (show Kd.M k192 _ _ _ (⟨8287, 8287, 32, 0⟩ : S192) [.int .i64 8287, .int .i64 8287, .int .i64 32, .int .i64 0] from (vc_ _ _ _ (⟨8287, 8287, 32, 0⟩ : S192) )) (Reps.c4 (show Kd.M k192 _ _ _ (⟨12288, 12288, 32, 0⟩ : S192) [.int .i64 12288, .int .i64 12288, .int .i64 32, .int .i64 0] from (vc_ _ _ _ (⟨12288, 12288, 32, 0⟩ : S192) )) (Reps.c4 (show Kd.M k192 _ _ _ (⟨8208, 8213, 45, 0⟩ : S192) [.int .i64 8208, .int .i64 8213, .int .i64 45, .int .i64 0] from (vc_ _ _ _ (⟨8208, 8213, 45, 0⟩ : S192) )) (Reps.c4 (show Kd.M k192 _ _ _ (⟨8722, 8722, 45, 0⟩ : S192) [.int .i64 8722, .int .i64 8722, .int .i64 45, .int .i64 0] from (vc_ _ _ _ (⟨8722, 8722, 45, 0⟩ : S192) )) (Reps.c4 (show Kd.M k192 _ _ _ (⟨8216, 8217, 39, 0⟩ : S192) [.int .i64 8216, .int .i64 8217, .int .i64 39, .int .i64 0] from (vc_ _ _ _ (⟨8216, 8217, 39, 0⟩ : S192) )) (Reps.c4 (show Kd.M k192 _ _ _ (⟨700, 700, 39, 0⟩ : S192) [.int .i64 700, .int .i64 700, .int .i64 39, .int .i64 0] from (vc_ _ _ _ (⟨700, 700, 39, 0⟩ : S192) )) (Reps.c4 (show Kd.M k192 _ _ _ (⟨1632, 1641, 48, 1⟩ : S192) [.int .i64 1632, .int .i64 1641, .int .i64 48, .int .i64 1] from (vc_ _ _ _ (⟨1632, 1641, 48, 1⟩ : S192) )) (Reps.c4 (show Kd.M k192 _ _ _ (⟨1776, 1785, 48, 1⟩ : S192) [.int .i64 1776, .int .i64 1785, .int .i64 48, .int .i64 1] from (vc_ _ _ _ (⟨1776, 1785, 48, 1⟩ : S192) )) (Reps.c4 (show Kd.M k192 _ _ _ (⟨2406, 2415, 48, 1⟩ : S192) [.int .i64 2406, .int .i64 2415, .int .i64 48, .int .i64 1] from (vc_ _ _ _ (⟨2406, 2415, 48, 1⟩ : S192) )) (Reps.c4 (show Kd.M k192 _ _ _ (⟨65, 90, 97, 1⟩ : S192) [.int .i64 65, .int .i64 90, .int .i64 97, .int .i64 1] from (vc_ _ _ _ (⟨65, 90, 97, 1⟩ : S192) )) (Reps.c4 (show Kd.M k192 _ _ _ (⟨192, 214, 224, 1⟩ : S192) [.int .i64 192, .int .i64 214, .int .i64 224, .int .i64 1] from (vc_ _ _ _ (⟨192, 214, 224, 1⟩ : S192) )) (Reps.c4 (show Kd.M k192 _ _ _ (⟨216, 222, 248, 1⟩ : S192) [.int .i64 216, .int .i64 222, .int .i64 248, .int .i64 1] from (vc_ _ _ _ (⟨216, 222, 248, 1⟩ : S192) )) (Reps.c4 (show Kd.M k192 _ _ _ (⟨913, 929, 945, 1⟩ : S192) [.int .i64 913, .int .i64 929, .int .i64 945, .int .i64 1] from (vc_ _ _ _ (⟨913, 929, 945, 1⟩ : S192) )) (Reps.c4 (show Kd.M k192 _ _ _ (⟨931, 937, 963, 1⟩ : S192) [.int .i64 931, .int .i64 937, .int .i64 963, .int .i64 1] from (vc_ _ _ _ (⟨931, 937, 963, 1⟩ : S192) )) (Reps.c4 (show Kd.M k192 _ _ _ (⟨1040, 1071, 1072, 1⟩ : S192) [.int .i64 1040, .int .i64 1071, .int .i64 1072, .int .i64 1] from (vc_ _ _ _ (⟨1040, 1071, 1072, 1⟩ : S192) )) (Reps.c4 (show Kd.M k192 _ _ _ (⟨1024, 1039, 1104, 1⟩ : S192) [.int .i64 1024, .int .i64 1039, .int .i64 1104, .int .i64 1] from (vc_ _ _ _ (⟨1024, 1039, 1104, 1⟩ : S192) )) (Reps.none _ _)))))))))))))))))))))); intro v108 w1 ho2 hb hg_ hnew_; clear hg_ hnew_; (first | rw [← Ny107.out] at ho2 | (simp only [Int.reduceToNat] at ho2; rw [← Ny107.out] at ho2)); have n0_ := aM_ (Kd.R_lower ho2 (qa_ (by repeat (first | (with_reducible first | exact HB.out | apply aa_ | apply ca_ | apply ga_) | exact HB.out)))); have n1_ := aM_ (fa_ (by repeat (first | (with_reducible first | exact HB.out | apply aa_ | apply ca_ | apply ga_) | exact HB.out)) hb); clear HB; have HO109 := n0_; have HB := n1_; clear n0_ n1_; clear hb ho2))
 go_ret
 exact ⟨_, by first | rfl | (simp [eb_, db_] <;> rfl) | (simp [*, eb_, db_] <;> rfl), by (with_reducible repeat (first | apply Kd.R_alloc | apply Kd.R_drewN | apply Kd.R_drew)); exact HO109.out, by repeat (first | (with_reducible first | exact HB.out | apply aa_ | apply ca_ | apply ga_) | exact HB.out)⟩
theorem fr_ (fv : Value) (p : Int → Bool) (w : World) (hf : le_ Tryz.prog w dj_ fv p) :
  le_ Tryz.prog (w.alloc (.cells #[fv] 142)) dj_ (.func (.func 154) #[] #[.pointer (some ⟨w.heap.size, 0, none⟩)]) (fun x => !p x) := by
 refine ⟨_, _, _, rfl, enters_of Tryz.func154 (by kernel_rfl) rfl, ?_⟩
 rintro W x v hb rfl
 obtain ⟨g, pre, lb, rfl, eg, hq⟩ := hf
 have hbw : Below w.heap.size w W := (aa_ (Below.refl _ w) _).trans (hb.mono (by simp))
 have hcall := hq W x _ hbw rfl
 have hcell : W.cell? ⟨w.heap.size, 0, none⟩ = some (.func (.func g) pre lb) := ha_ hb (fo_ _ _ _)
 clear hb hq hbw
 cases hp : p x with
 | true =>
  rw [hp] at hcall
  go_enter Tryz.func154, Tryz.ntmps154
  go_wp2_with fail
  refine hcall.mono ?_; rintro e w' ⟨rfl, hb'⟩
  go_wp2
  go_ret
  exact ⟨sd_ (by rw [hp]; rfl), hb'⟩
 | false =>
  rw [hp] at hcall
  go_enter Tryz.func154, Tryz.ntmps154
  go_wp2_with fail
  refine hcall.mono ?_; rintro e w' ⟨rfl, hb'⟩
  go_wp2
  go_ret
  exact ⟨sd_ (by rw [hp]; rfl), hb'⟩
theorem uh_ {α : Type} (p : α → Bool) : ∀ l : List α, l.any (fun x => !p x) = !l.all p
 | [] => rfl
 | x :: l => by simp only [List.any_cons, List.all_cons, uh_ p l, Bool.not_and]
theorem jd_ (fv : Value) (A0 : Option Addr) (c0 : Nat) (l0 : List Int) (p : Int → Bool) (w : World) (hr0 : Kd.C (Kd.int .i64) w A0 l0.length l0) (hc0 : l0.length ≤ c0)
  (hf : le_ Tryz.prog w dj_ fv p) :
  Calls Tryz.prog 136 #[.slice A0 l0.length c0, fv] w fun e w' => e = .returned (.bool (l0.all p)) ∧ Below w.heap.size w w' := by
 have h1 := fr_ fv p w hf
 have hc := lk_ _ A0 c0 l0 (fun x => !p x) (w.alloc (.cells #[fv] 142)) (Kd.C_below hr0 (aa_ (Below.refl _ w) _)) hc0 h1
 have ha : l0.any (fun x => !p x) = !l0.all p := uh_ p l0
 rw [ha] at hc
 obtain ⟨g, pre, lb, rfl, eg, hq⟩ := hf
 clear hr0 hq h1 ha
 cases h : l0.all p with
 | true =>
  rw [h] at hc; clear h
  go_enter Tryz.func136, Tryz.ntmps136
  go_wp2_with fail
  refine hc.mono ?_; rintro e w' ⟨rfl, hb'⟩
  go_wp2
  go_ret
  exact ⟨rfl, (aa_ (Below.refl _ w) _).trans (hb'.mono (by simp))⟩
 | false =>
  rw [h] at hc; clear h
  go_enter Tryz.func136, Tryz.ntmps136
  go_wp2_with fail
  refine hc.mono ?_; rintro e w' ⟨rfl, hb'⟩
  go_wp2
  go_ret
  exact ⟨rfl, (aa_ (Below.refl _ w) _).trans (hb'.mono (by simp))⟩
def ye_ (x : Int) : Bool := decide (x < 20) && decide (-61 ≤ x)
def ne_ (n : Nat) (x : Int) : Bool := decide (0 ≤ x) && decide (x < (n : Int))
theorem ms_ (a0 : Int) (A1 : Option Addr) (c1 : Nat) (l1 : List Int) (a2 : Int) (A3 : Option Addr) (c3 : Nat) (l3 : List Int) (a4 : Int) (w : World) :
  le_ Tryz.prog w dj_ (.func (.func 137) #[.agg #[.int .i64 a0, .slice A1 l1.length c1, .int .i64 a2, .slice A3 l3.length c3, .int .i64 a4]] #[]) ye_ := by
 refine ⟨_, _, _, rfl, enters_of Tryz.func137 (by kernel_rfl) rfl, ?_⟩
 rintro W x v hb rfl
 clear hb
 by_cases h1 : x < 20
 ·have d1 : decide (x < 20) = true := decide_eq_true h1
  by_cases h2 : -61 ≤ x
  ·have d2 : decide (-61 ≤ x) = true := decide_eq_true h2
   have hz : ye_ x = true := by simp [ye_, h1, h2]
   rw [hz]; clear hz
   go_enter Tryz.func137, Tryz.ntmps137
   go_wp2
   go_ret
   exact ⟨rfl, aa_ (Below.refl _ _) _⟩
  have d2 : decide (-61 ≤ x) = false := decide_eq_false h2; have hz : ye_ x = false := by simp [ye_, h1]; omega
  rw [hz]; clear hz
  go_enter Tryz.func137, Tryz.ntmps137
  go_wp2
  go_ret
  exact ⟨rfl, aa_ (Below.refl _ _) _⟩
 have d1 : decide (x < 20) = false := decide_eq_false h1
 have hz : ye_ x = false := by simp [ye_, h1]
 rw [hz]
 clear hz
 go_enter Tryz.func137, Tryz.ntmps137
 go_wp2
 go_ret
 exact ⟨rfl, aa_ (Below.refl _ _) _⟩
theorem yp_ (a0 : Int) (A1 : Option Addr) (c1 : Nat) (l1 : List Int) (a2 : Int) (A3 : Option Addr) (c3 : Nat) (l3 : List Int) (a4 : Int) (w : World) (hl : l1.length ≤ 9223372036854775807) :
  le_ Tryz.prog w dj_ (.func (.func 138) #[.agg #[.int .i64 a0, .slice A1 l1.length c1, .int .i64 a2, .slice A3 l3.length c3, .int .i64 a4]] #[]) (ne_ l1.length) := by
 refine ⟨_, _, _, rfl, enters_of Tryz.func138 (by kernel_rfl) rfl, ?_⟩
 rintro W x v hb rfl
 clear hb
 by_cases h1 : 0 ≤ x
 ·have d1 : decide (0 ≤ x) = true := decide_eq_true h1
  by_cases h2 : x < (l1.length : Int)
  ·have d2 : decide (x < (l1.length : Int)) = true := decide_eq_true h2
   have hz : ne_ l1.length x = true := by simp [ne_, h1, h2]
   rw [hz]; clear hz
   go_enter Tryz.func138, Tryz.ntmps138
   go_wp2
   go_ret
   exact ⟨rfl, aa_ (Below.refl _ _) _⟩
  have d2 : decide (x < (l1.length : Int)) = false := decide_eq_false h2; have hz : ne_ l1.length x = false := by simp [ne_, h1]; omega
  rw [hz]; clear hz
  go_enter Tryz.func138, Tryz.ntmps138
  go_wp2
  go_ret
  exact ⟨rfl, aa_ (Below.refl _ _) _⟩
 have d1 : decide (0 ≤ x) = false := decide_eq_false h1
 have hz : ne_ l1.length x = false := by simp [ne_, h1]
 rw [hz]
 clear hz
 go_enter Tryz.func138, Tryz.ntmps138
 go_wp2
 go_ret
 exact ⟨rfl, aa_ (Below.refl _ _) _⟩
def od_ (op : Int) : Int × Int :=
 if op = 0 ∨ op = 7 ∨ op = 8 ∨ op = 11 then (1, 1) else if op = 2 ∨ op = 5 ∨ op = 9 ∨ op = 12 ∨ op = 13 ∨ op = 14 ∨ op = 15 then (2, 2)
 else if op = 1 ∨ op = 6 then (3, 3) else if op = 3 ∨ op = 4 then (2, 3) else if op = 10 then (1, 6) else (1, 0)
def af_ (x : Int) : Bool := decide (0 ≤ x) && decide (x < 20)
def hc_ (x a b : Int) : Bool := decide (a ≤ x) && decide (x ≤ b)
theorem ct_ (k : Nat) (op : Int) : gram_asked.f (k + 4) op = some (od_ op) := by
 by_cases h : 0 ≤ op ∧ op ≤ 15
 ·have : op = 0 ∨ op = 1 ∨ op = 2 ∨ op = 3 ∨ op = 4 ∨ op = 5 ∨ op = 6 ∨ op = 7 ∨ op = 8 ∨ op = 9 ∨ op = 10 ∨ op = 11 ∨ op = 12 ∨ op = 13 ∨ op = 14 ∨ op = 15 := by omega
  rcases this with rfl | rfl | rfl | rfl | rfl | rfl | rfl | rfl | rfl | rfl | rfl | rfl | rfl | rfl | rfl | rfl <;> rfl
 have n : ∀ k : Int, 0 ≤ k → k ≤ 15 → ¬ op = k := fun k h0 h1 e => h (by omega)
 have b : ∀ k : Int, 0 ≤ k → k ≤ 15 → ¬ (op == k) = true := fun k h0 h1 e => n k h0 h1 (by simpa using e)
 have e : od_ op = (1, 0) := by
  unfold od_; rw [if_neg (by omega), if_neg (by omega), if_neg (by omega), if_neg (by omega), if_neg (by omega)]
 rw [e]
 unfold gram_asked.f
 rw [if_neg (n 0 (by omega) (by omega)), if_neg (n 7 (by omega) (by omega)), if_neg (n 8 (by omega) (by omega)), gram_asked.j0]
 rw [if_neg (b 11 (by omega) (by omega)), if_neg (n 2 (by omega) (by omega)), if_neg (n 5 (by omega) (by omega)), if_neg (n 9 (by omega) (by omega)), if_neg (n 12 (by omega) (by omega)), if_neg (n 13 (by omega) (by omega)), if_neg (n 14 (by omega) (by omega)), gram_asked.j1]
 rw [if_neg (b 15 (by omega) (by omega)), if_neg (n 1 (by omega) (by omega)), gram_asked.j2]
 rw [if_neg (b 6 (by omega) (by omega)), if_neg (n 3 (by omega) (by omega)), gram_asked.j3]
 rw [if_neg (b 4 (by omega) (by omega)), if_neg (n 10 (by omega) (by omega))]
theorem qk_ (x : Int) : gram_symbol.f x = some (af_ x) := by
 unfold gram_symbol.f af_
 by_cases h0 : 0 ≤ x
 ·rw [if_pos h0, decide_eq_true h0]; rfl
 rw [if_neg h0, decide_eq_false h0]; rfl
theorem ih_ (x a b : Int) : gram_within.f x a b = some (hc_ x a b) := by
 unfold gram_within.f hc_
 by_cases h0 : a ≤ x
 ·rw [if_pos h0, decide_eq_true h0]; rfl
 rw [if_neg h0, decide_eq_false h0]; rfl
def hf_ (a0 : Int) (l1 : List Int) (a2 : Int) (l3 : List Int) (a4 : Int) : Bool :=
 af_ a0 && (hc_ l1.length 1 6 && (l1.all ye_ && (hc_ a4 0 100 && (hc_ l3.length (od_ a2).1 (od_ a2).2 && l3.all (ne_ l1.length)))))
def gram_Right.f (a0_0 : Int) (l0_1 : List Int) (a0_2 : Int) (l0_3 : List Int) (a0_4 : Int) : Option Bool := some (hf_ a0_0 l0_1 a0_2 l0_3 a0_4)
theorem lr_ (a0_0 : Int) (A0_1 : Option Addr) (c0_1 : Nat) (l0_1 : List Int) (a0_2 : Int) (A0_3 : Option Addr) (c0_3 : Nat) (l0_3 : List Int) (a0_4 : Int) (w : World) (hr0_1 : Kd.C (Kd.int .i64) w A0_1 l0_1.length l0_1) (hc0_1 : l0_1.length ≤ c0_1) (hr0_3 : Kd.C (Kd.int .i64) w A0_3 l0_3.length l0_3) (hc0_3 : l0_3.length ≤ c0_3) :
  Calls Tryz.prog 97 #[.agg #[.int .i64 a0_0, .slice A0_1 l0_1.length c0_1, .int .i64 a0_2, .slice A0_3 l0_3.length c0_3, .int .i64 a0_4]] w fun e w' => e = .returned (.bool (hf_ a0_0 l0_1 a0_2 l0_3 a0_4)) ∧ Below w.heap.size w w' := by
 have hl1 : l0_1.length ≤ 9223372036854775807 := hr0_1.2.1
 have hl3 : l0_3.length ≤ 9223372036854775807 := hr0_3.2.1
 have K1 := fun w => ms_ a0_0 A0_1 c0_1 l0_1 a0_2 A0_3 c0_3 l0_3 a0_4 w
 have K2 := fun w => yp_ a0_0 A0_1 c0_1 l0_1 a0_2 A0_3 c0_3 l0_3 a0_4 w hl1
 have HR1 := aM_ hr0_1
 have HR3 := aM_ hr0_3
 have HA := aM_ (ct_ 5 a0_2)
 generalize hq : od_ a0_2 = q at HA
 obtain ⟨q1, q2⟩ := q
 have HP : Az (hf_ a0_0 l0_1 a0_2 l0_3 a0_4 = (af_ a0_0 && (hc_ l0_1.length 1 6 && (l0_1.all ye_ && (hc_ a0_4 0 100 && (hc_ l0_3.length q1 q2 && l0_3.all (ne_ l0_1.length))))))) := ⟨by unfold hf_; rw [hq]⟩
 clear hq hr0_1 hr0_3
 have HB := aM_ (Below.refl w.heap.size w)
 rw [HP.out]
 clear HP
 have HS := aM_ (qk_ a0_0)
 have HW1 := aM_ (ih_ l0_1.length 1 6)
 have HW2 := aM_ (ih_ a0_4 0 100)
 have HW3 := aM_ (ih_ l0_3.length q1 q2)
 cases h0 : af_ a0_0 with
 | false =>
  rw [h0] at HS; clear h0
  go_enter Tryz.func97, Tryz.ntmps97
  go_wp2_with fail
  refine (gram_asked.calls 9 _ q1 q2 _ HA.out).mono ?_; rintro e w' ⟨rfl, ⟨nd, rfl⟩⟩
  go_wp2_with fail
  refine (gram_symbol.calls _ _ _ HS.out).mono ?_; rintro e w' ⟨rfl, ⟨nd, rfl⟩⟩
  go_wp2
  go_ret
  exact ⟨rfl, by repeat (first | (with_reducible first | exact HB.out | apply aa_ | apply ca_ | apply ga_) | exact HB.out)⟩
 | true =>
  rw [h0] at HS; clear h0
  cases h1 : hc_ l0_1.length 1 6 with
  | false =>
   rw [h1] at HW1; clear h1
   go_enter Tryz.func97, Tryz.ntmps97
   go_wp2_with fail
   refine (gram_asked.calls 9 _ q1 q2 _ HA.out).mono ?_; rintro e w' ⟨rfl, ⟨nd, rfl⟩⟩
   go_wp2_with fail
   refine (gram_symbol.calls _ _ _ HS.out).mono ?_; rintro e w' ⟨rfl, ⟨nd, rfl⟩⟩
   go_wp2_with fail
   refine (gram_within.calls _ _ _ _ _ HW1.out).mono ?_; rintro e w' ⟨rfl, ⟨nd, rfl⟩⟩
   go_wp2
   go_ret
   exact ⟨rfl, by repeat (first | (with_reducible first | exact HB.out | apply aa_ | apply ca_ | apply ga_) | exact HB.out)⟩
  | true =>
   rw [h1] at HW1; clear h1
   cases h2 : l0_1.all ye_ with
   | false =>
    have H2 := aM_ h2; clear h2
    go_enter Tryz.func97, Tryz.ntmps97
    go_wp2_with fail
    refine (gram_asked.calls 9 _ q1 q2 _ HA.out).mono ?_; rintro e w' ⟨rfl, ⟨nd, rfl⟩⟩
    go_wp2_with fail
    refine (gram_symbol.calls _ _ _ HS.out).mono ?_; rintro e w' ⟨rfl, ⟨nd, rfl⟩⟩
    go_wp2_with fail
    refine (gram_within.calls _ _ _ _ _ HW1.out).mono ?_; rintro e w' ⟨rfl, ⟨nd, rfl⟩⟩
    go_wp2_with fail
    refine (jd_ _ _ _ _ _ _ (Kd.C_below HR1.out ?b2) hc0_1 (K1 _)).mono ?_
    case b2 => repeat (first | (with_reducible first | exact HB.out | apply aa_ | apply ca_ | apply ga_) | exact HB.out)
    rw [H2.out]; rintro e w2 ⟨rfl, hb⟩; have n0_ := aM_ (fa_ (by repeat (first | (with_reducible first | exact HB.out | apply aa_ | apply ca_ | apply ga_) | exact HB.out)) hb); have n1_ := aM_ (oa_ (g := w.heap.size) (o := .cells #[.int .i64 a0_0, .slice A0_1 l0_1.length c0_1, .int .i64 a0_2, .slice A0_3 l0_3.length c0_3, .int .i64 a0_4] 56 (0, 0)) (by (with_reducible repeat (first | refine la_ ?_ _ | refine ma_ ?_)); exact ka_ (ra_ _ _) _) hb); have n2_ := aM_ (oa_ (g := w.heap.size + 1) (o := .cells #[.int .i64 a0_0, .slice A0_1 l0_1.length c0_1, .int .i64 a0_2, .slice A0_3 l0_3.length c0_3, .int .i64 a0_4] 176 (0, 0)) (by (with_reducible repeat (first | refine la_ ?_ _ | refine ma_ ?_)); have h_ := ra_ (w.alloc (.cells #[.int .i64 a0_0, .slice A0_1 l0_1.length c0_1, .int .i64 a0_2, .slice A0_3 l0_3.length c0_3, .int .i64 a0_4] 56 (0, 0))) (.cells #[.int .i64 a0_0, .slice A0_1 l0_1.length c0_1, .int .i64 a0_2, .slice A0_3 l0_3.length c0_3, .int .i64 a0_4] 176 (0, 0)); rw [World.size_alloc] at h_; exact h_) hb); have c10 := ba_ n1_.out 0; have c20 := ba_ n2_.out 0; simp only [List.getElem?_toArray, List.getElem?_cons_succ, List.getElem?_cons_zero] at c10 c20; have c11 := ba_ n1_.out 1; have c21 := ba_ n2_.out 1; simp only [List.getElem?_toArray, List.getElem?_cons_succ, List.getElem?_cons_zero] at c11 c21; have c12 := ba_ n1_.out 2; have c22 := ba_ n2_.out 2; simp only [List.getElem?_toArray, List.getElem?_cons_succ, List.getElem?_cons_zero] at c12 c22; have c13 := ba_ n1_.out 3; have c23 := ba_ n2_.out 3; simp only [List.getElem?_toArray, List.getElem?_cons_succ, List.getElem?_cons_zero] at c13 c23; have c14 := ba_ n1_.out 4; have c24 := ba_ n2_.out 4; simp only [List.getElem?_toArray, List.getElem?_cons_succ, List.getElem?_cons_zero] at c14 c24; clear n1_ n2_; clear HB hb; have HB := n0_; clear n0_
    go_wp2
    go_ret
    exact ⟨rfl, by repeat (first | (with_reducible first | exact HB.out | apply aa_ | apply ca_ | apply ga_) | exact HB.out)⟩
   | true =>
    have H2 := aM_ h2; clear h2
    cases h3 : hc_ a0_4 0 100 with
    | false =>
     rw [h3] at HW2; clear h3
     go_enter Tryz.func97, Tryz.ntmps97
     go_wp2_with fail
     refine (gram_asked.calls 9 _ q1 q2 _ HA.out).mono ?_; rintro e w' ⟨rfl, ⟨nd, rfl⟩⟩
     go_wp2_with fail
     refine (gram_symbol.calls _ _ _ HS.out).mono ?_; rintro e w' ⟨rfl, ⟨nd, rfl⟩⟩
     go_wp2_with fail
     refine (gram_within.calls _ _ _ _ _ HW1.out).mono ?_; rintro e w' ⟨rfl, ⟨nd, rfl⟩⟩
     go_wp2_with fail
     refine (jd_ _ _ _ _ _ _ (Kd.C_below HR1.out ?b2) hc0_1 (K1 _)).mono ?_
     case b2 => repeat (first | (with_reducible first | exact HB.out | apply aa_ | apply ca_ | apply ga_) | exact HB.out)
     rw [H2.out]; rintro e w2 ⟨rfl, hb⟩; have n0_ := aM_ (fa_ (by repeat (first | (with_reducible first | exact HB.out | apply aa_ | apply ca_ | apply ga_) | exact HB.out)) hb); have n1_ := aM_ (oa_ (g := w.heap.size) (o := .cells #[.int .i64 a0_0, .slice A0_1 l0_1.length c0_1, .int .i64 a0_2, .slice A0_3 l0_3.length c0_3, .int .i64 a0_4] 56 (0, 0)) (by (with_reducible repeat (first | refine la_ ?_ _ | refine ma_ ?_)); exact ka_ (ra_ _ _) _) hb); have n2_ := aM_ (oa_ (g := w.heap.size + 1) (o := .cells #[.int .i64 a0_0, .slice A0_1 l0_1.length c0_1, .int .i64 a0_2, .slice A0_3 l0_3.length c0_3, .int .i64 a0_4] 176 (0, 0)) (by (with_reducible repeat (first | refine la_ ?_ _ | refine ma_ ?_)); have h_ := ra_ (w.alloc (.cells #[.int .i64 a0_0, .slice A0_1 l0_1.length c0_1, .int .i64 a0_2, .slice A0_3 l0_3.length c0_3, .int .i64 a0_4] 56 (0, 0))) (.cells #[.int .i64 a0_0, .slice A0_1 l0_1.length c0_1, .int .i64 a0_2, .slice A0_3 l0_3.length c0_3, .int .i64 a0_4] 176 (0, 0)); rw [World.size_alloc] at h_; exact h_) hb); have c10 := ba_ n1_.out 0; have c20 := ba_ n2_.out 0; simp only [List.getElem?_toArray, List.getElem?_cons_succ, List.getElem?_cons_zero] at c10 c20; have c11 := ba_ n1_.out 1; have c21 := ba_ n2_.out 1; simp only [List.getElem?_toArray, List.getElem?_cons_succ, List.getElem?_cons_zero] at c11 c21; have c12 := ba_ n1_.out 2; have c22 := ba_ n2_.out 2; simp only [List.getElem?_toArray, List.getElem?_cons_succ, List.getElem?_cons_zero] at c12 c22; have c13 := ba_ n1_.out 3; have c23 := ba_ n2_.out 3; simp only [List.getElem?_toArray, List.getElem?_cons_succ, List.getElem?_cons_zero] at c13 c23; have c14 := ba_ n1_.out 4; have c24 := ba_ n2_.out 4; simp only [List.getElem?_toArray, List.getElem?_cons_succ, List.getElem?_cons_zero] at c14 c24; clear n1_ n2_; clear HB hb; have HB := n0_; clear n0_
     go_wp2_with fail
     refine (gram_within.calls _ _ _ _ _ HW2.out).mono ?_; rintro e w' ⟨rfl, ⟨nd, rfl⟩⟩
     go_wp2
     go_ret
     exact ⟨rfl, by repeat (first | (with_reducible first | exact HB.out | apply aa_ | apply ca_ | apply ga_) | exact HB.out)⟩
    | true =>
     rw [h3] at HW2; clear h3
     cases h4 : hc_ l0_3.length q1 q2 with
     | false =>
      rw [h4] at HW3; clear h4
      go_enter Tryz.func97, Tryz.ntmps97
      go_wp2_with fail
      refine (gram_asked.calls 9 _ q1 q2 _ HA.out).mono ?_; rintro e w' ⟨rfl, ⟨nd, rfl⟩⟩
      go_wp2_with fail
      refine (gram_symbol.calls _ _ _ HS.out).mono ?_; rintro e w' ⟨rfl, ⟨nd, rfl⟩⟩
      go_wp2_with fail
      refine (gram_within.calls _ _ _ _ _ HW1.out).mono ?_; rintro e w' ⟨rfl, ⟨nd, rfl⟩⟩
      go_wp2_with fail
      refine (jd_ _ _ _ _ _ _ (Kd.C_below HR1.out ?b2) hc0_1 (K1 _)).mono ?_
      case b2 => repeat (first | (with_reducible first | exact HB.out | apply aa_ | apply ca_ | apply ga_) | exact HB.out)
      rw [H2.out]; rintro e w2 ⟨rfl, hb⟩; have n0_ := aM_ (fa_ (by repeat (first | (with_reducible first | exact HB.out | apply aa_ | apply ca_ | apply ga_) | exact HB.out)) hb); have n1_ := aM_ (oa_ (g := w.heap.size) (o := .cells #[.int .i64 a0_0, .slice A0_1 l0_1.length c0_1, .int .i64 a0_2, .slice A0_3 l0_3.length c0_3, .int .i64 a0_4] 56 (0, 0)) (by (with_reducible repeat (first | refine la_ ?_ _ | refine ma_ ?_)); exact ka_ (ra_ _ _) _) hb); have n2_ := aM_ (oa_ (g := w.heap.size + 1) (o := .cells #[.int .i64 a0_0, .slice A0_1 l0_1.length c0_1, .int .i64 a0_2, .slice A0_3 l0_3.length c0_3, .int .i64 a0_4] 176 (0, 0)) (by (with_reducible repeat (first | refine la_ ?_ _ | refine ma_ ?_)); have h_ := ra_ (w.alloc (.cells #[.int .i64 a0_0, .slice A0_1 l0_1.length c0_1, .int .i64 a0_2, .slice A0_3 l0_3.length c0_3, .int .i64 a0_4] 56 (0, 0))) (.cells #[.int .i64 a0_0, .slice A0_1 l0_1.length c0_1, .int .i64 a0_2, .slice A0_3 l0_3.length c0_3, .int .i64 a0_4] 176 (0, 0)); rw [World.size_alloc] at h_; exact h_) hb); have c10 := ba_ n1_.out 0; have c20 := ba_ n2_.out 0; simp only [List.getElem?_toArray, List.getElem?_cons_succ, List.getElem?_cons_zero] at c10 c20; have c11 := ba_ n1_.out 1; have c21 := ba_ n2_.out 1; simp only [List.getElem?_toArray, List.getElem?_cons_succ, List.getElem?_cons_zero] at c11 c21; have c12 := ba_ n1_.out 2; have c22 := ba_ n2_.out 2; simp only [List.getElem?_toArray, List.getElem?_cons_succ, List.getElem?_cons_zero] at c12 c22; have c13 := ba_ n1_.out 3; have c23 := ba_ n2_.out 3; simp only [List.getElem?_toArray, List.getElem?_cons_succ, List.getElem?_cons_zero] at c13 c23; have c14 := ba_ n1_.out 4; have c24 := ba_ n2_.out 4; simp only [List.getElem?_toArray, List.getElem?_cons_succ, List.getElem?_cons_zero] at c14 c24; clear n1_ n2_; clear HB hb; have HB := n0_; clear n0_
      go_wp2_with fail
      refine (gram_within.calls _ _ _ _ _ HW2.out).mono ?_; rintro e w' ⟨rfl, ⟨nd, rfl⟩⟩
      go_wp2_with fail
      refine (gram_within.calls _ _ _ _ _ HW3.out).mono ?_; rintro e w' ⟨rfl, ⟨nd, rfl⟩⟩
      go_wp2
      go_ret
      exact ⟨rfl, by repeat (first | (with_reducible first | exact HB.out | apply aa_ | apply ca_ | apply ga_) | exact HB.out)⟩
     | true =>
      rw [h4] at HW3; clear h4
      cases h5 : l0_3.all (ne_ l0_1.length) with
      | false =>
       have H5 := aM_ h5; clear h5
       go_enter Tryz.func97, Tryz.ntmps97
       go_wp2_with fail
       refine (gram_asked.calls 9 _ q1 q2 _ HA.out).mono ?_; rintro e w' ⟨rfl, ⟨nd, rfl⟩⟩
       go_wp2_with fail
       refine (gram_symbol.calls _ _ _ HS.out).mono ?_; rintro e w' ⟨rfl, ⟨nd, rfl⟩⟩
       go_wp2_with fail
       refine (gram_within.calls _ _ _ _ _ HW1.out).mono ?_; rintro e w' ⟨rfl, ⟨nd, rfl⟩⟩
       go_wp2_with fail
       refine (jd_ _ _ _ _ _ _ (Kd.C_below HR1.out ?b2) hc0_1 (K1 _)).mono ?_
       case b2 => repeat (first | (with_reducible first | exact HB.out | apply aa_ | apply ca_ | apply ga_) | exact HB.out)
       rw [H2.out]; rintro e w2 ⟨rfl, hb⟩; have n0_ := aM_ (fa_ (by repeat (first | (with_reducible first | exact HB.out | apply aa_ | apply ca_ | apply ga_) | exact HB.out)) hb); have n1_ := aM_ (oa_ (g := w.heap.size) (o := .cells #[.int .i64 a0_0, .slice A0_1 l0_1.length c0_1, .int .i64 a0_2, .slice A0_3 l0_3.length c0_3, .int .i64 a0_4] 56 (0, 0)) (by (with_reducible repeat (first | refine la_ ?_ _ | refine ma_ ?_)); exact ka_ (ra_ _ _) _) hb); have n2_ := aM_ (oa_ (g := w.heap.size + 1) (o := .cells #[.int .i64 a0_0, .slice A0_1 l0_1.length c0_1, .int .i64 a0_2, .slice A0_3 l0_3.length c0_3, .int .i64 a0_4] 176 (0, 0)) (by (with_reducible repeat (first | refine la_ ?_ _ | refine ma_ ?_)); have h_ := ra_ (w.alloc (.cells #[.int .i64 a0_0, .slice A0_1 l0_1.length c0_1, .int .i64 a0_2, .slice A0_3 l0_3.length c0_3, .int .i64 a0_4] 56 (0, 0))) (.cells #[.int .i64 a0_0, .slice A0_1 l0_1.length c0_1, .int .i64 a0_2, .slice A0_3 l0_3.length c0_3, .int .i64 a0_4] 176 (0, 0)); rw [World.size_alloc] at h_; exact h_) hb); have c10 := ba_ n1_.out 0; have c20 := ba_ n2_.out 0; simp only [List.getElem?_toArray, List.getElem?_cons_succ, List.getElem?_cons_zero] at c10 c20; have c11 := ba_ n1_.out 1; have c21 := ba_ n2_.out 1; simp only [List.getElem?_toArray, List.getElem?_cons_succ, List.getElem?_cons_zero] at c11 c21; have c12 := ba_ n1_.out 2; have c22 := ba_ n2_.out 2; simp only [List.getElem?_toArray, List.getElem?_cons_succ, List.getElem?_cons_zero] at c12 c22; have c13 := ba_ n1_.out 3; have c23 := ba_ n2_.out 3; simp only [List.getElem?_toArray, List.getElem?_cons_succ, List.getElem?_cons_zero] at c13 c23; have c14 := ba_ n1_.out 4; have c24 := ba_ n2_.out 4; simp only [List.getElem?_toArray, List.getElem?_cons_succ, List.getElem?_cons_zero] at c14 c24; clear n1_ n2_; clear HB hb; have HB := n0_; clear n0_
       go_wp2_with fail
       refine (gram_within.calls _ _ _ _ _ HW2.out).mono ?_; rintro e w' ⟨rfl, ⟨nd, rfl⟩⟩
       go_wp2_with fail
       refine (gram_within.calls _ _ _ _ _ HW3.out).mono ?_; rintro e w' ⟨rfl, ⟨nd, rfl⟩⟩
       go_wp2_with fail
       refine (jd_ _ _ _ _ _ _ (Kd.C_below HR3.out ?b5) hc0_3 (K2 _)).mono ?_
       case b5 => repeat (first | (with_reducible first | exact HB.out | apply aa_ | apply ca_ | apply ga_) | exact HB.out)
       rw [H5.out]; rintro e w5 ⟨rfl, hb⟩; have n0_ := aM_ (fa_ (by repeat (first | (with_reducible first | exact HB.out | apply aa_ | apply ca_ | apply ga_) | exact HB.out)) hb); clear HB hb; have HB := n0_; clear n0_
       go_wp2
       go_ret
       exact ⟨rfl, by repeat (first | (with_reducible first | exact HB.out | apply aa_ | apply ca_ | apply ga_) | exact HB.out)⟩
      | true =>
       have H5 := aM_ h5; clear h5
       go_enter Tryz.func97, Tryz.ntmps97
       go_wp2_with fail
       refine (gram_asked.calls 9 _ q1 q2 _ HA.out).mono ?_; rintro e w' ⟨rfl, ⟨nd, rfl⟩⟩
       go_wp2_with fail
       refine (gram_symbol.calls _ _ _ HS.out).mono ?_; rintro e w' ⟨rfl, ⟨nd, rfl⟩⟩
       go_wp2_with fail
       refine (gram_within.calls _ _ _ _ _ HW1.out).mono ?_; rintro e w' ⟨rfl, ⟨nd, rfl⟩⟩
       go_wp2_with fail
       refine (jd_ _ _ _ _ _ _ (Kd.C_below HR1.out ?b2) hc0_1 (K1 _)).mono ?_
       case b2 => repeat (first | (with_reducible first | exact HB.out | apply aa_ | apply ca_ | apply ga_) | exact HB.out)
       rw [H2.out]; rintro e w2 ⟨rfl, hb⟩; have n0_ := aM_ (fa_ (by repeat (first | (with_reducible first | exact HB.out | apply aa_ | apply ca_ | apply ga_) | exact HB.out)) hb); have n1_ := aM_ (oa_ (g := w.heap.size) (o := .cells #[.int .i64 a0_0, .slice A0_1 l0_1.length c0_1, .int .i64 a0_2, .slice A0_3 l0_3.length c0_3, .int .i64 a0_4] 56 (0, 0)) (by (with_reducible repeat (first | refine la_ ?_ _ | refine ma_ ?_)); exact ka_ (ra_ _ _) _) hb); have n2_ := aM_ (oa_ (g := w.heap.size + 1) (o := .cells #[.int .i64 a0_0, .slice A0_1 l0_1.length c0_1, .int .i64 a0_2, .slice A0_3 l0_3.length c0_3, .int .i64 a0_4] 176 (0, 0)) (by (with_reducible repeat (first | refine la_ ?_ _ | refine ma_ ?_)); have h_ := ra_ (w.alloc (.cells #[.int .i64 a0_0, .slice A0_1 l0_1.length c0_1, .int .i64 a0_2, .slice A0_3 l0_3.length c0_3, .int .i64 a0_4] 56 (0, 0))) (.cells #[.int .i64 a0_0, .slice A0_1 l0_1.length c0_1, .int .i64 a0_2, .slice A0_3 l0_3.length c0_3, .int .i64 a0_4] 176 (0, 0)); rw [World.size_alloc] at h_; exact h_) hb); have c10 := ba_ n1_.out 0; have c20 := ba_ n2_.out 0; simp only [List.getElem?_toArray, List.getElem?_cons_succ, List.getElem?_cons_zero] at c10 c20; have c11 := ba_ n1_.out 1; have c21 := ba_ n2_.out 1; simp only [List.getElem?_toArray, List.getElem?_cons_succ, List.getElem?_cons_zero] at c11 c21; have c12 := ba_ n1_.out 2; have c22 := ba_ n2_.out 2; simp only [List.getElem?_toArray, List.getElem?_cons_succ, List.getElem?_cons_zero] at c12 c22; have c13 := ba_ n1_.out 3; have c23 := ba_ n2_.out 3; simp only [List.getElem?_toArray, List.getElem?_cons_succ, List.getElem?_cons_zero] at c13 c23; have c14 := ba_ n1_.out 4; have c24 := ba_ n2_.out 4; simp only [List.getElem?_toArray, List.getElem?_cons_succ, List.getElem?_cons_zero] at c14 c24; clear n1_ n2_; clear HB hb; have HB := n0_; clear n0_
       go_wp2_with fail
       refine (gram_within.calls _ _ _ _ _ HW2.out).mono ?_; rintro e w' ⟨rfl, ⟨nd, rfl⟩⟩
       go_wp2_with fail
       refine (gram_within.calls _ _ _ _ _ HW3.out).mono ?_; rintro e w' ⟨rfl, ⟨nd, rfl⟩⟩
       go_wp2_with fail
       refine (jd_ _ _ _ _ _ _ (Kd.C_below HR3.out ?b5) hc0_3 (K2 _)).mono ?_
       case b5 => repeat (first | (with_reducible first | exact HB.out | apply aa_ | apply ca_ | apply ga_) | exact HB.out)
       rw [H5.out]; rintro e w5 ⟨rfl, hb⟩; have n0_ := aM_ (fa_ (by repeat (first | (with_reducible first | exact HB.out | apply aa_ | apply ca_ | apply ga_) | exact HB.out)) hb); clear HB hb; have HB := n0_; clear n0_
       go_wp2
       go_ret
       exact ⟨rfl, by repeat (first | (with_reducible first | exact HB.out | apply aa_ | apply ca_ | apply ga_) | exact HB.out)⟩
theorem gram_Right.calls (a0_0 : Int) (A0_1 : Option Addr) (c0_1 : Nat) (l0_1 : List Int) (a0_2 : Int) (A0_3 : Option Addr) (c0_3 : Nat) (l0_3 : List Int) (a0_4 : Int) (r : Bool) (w : World) (hr0_1 : Kd.C (Kd.int .i64) w A0_1 l0_1.length l0_1) (hc0_1 : l0_1.length ≤ c0_1) (hr0_3 : Kd.C (Kd.int .i64) w A0_3 l0_3.length l0_3) (hc0_3 : l0_3.length ≤ c0_3) (h : gram_Right.f a0_0 l0_1 a0_2 l0_3 a0_4 = some r) :
  Calls Tryz.prog 97 #[.agg #[.int .i64 a0_0, .slice A0_1 l0_1.length c0_1, .int .i64 a0_2, .slice A0_3 l0_3.length c0_3, .int .i64 a0_4]] w fun e w' => e = .returned (.bool r) ∧ Below w.heap.size w w' := by
 obtain rfl := Option.some.inj h
 exact lr_ a0_0 A0_1 c0_1 l0_1 a0_2 A0_3 c0_3 l0_3 a0_4 w hr0_1 hc0_1 hr0_3 hc0_3
end Go.Proofs.YtiocgaekoeekgaaGreat.P
end
section
namespace Go.Proofs.YtiocgaekoeekgaaGreat.P
open Go.RowKit YtiocgaekoeekgaaGreatW.PrintWords YtiocgaekoeekgaaGreatW.PrintLast YtiocgaekoeekgaaGreatW.PrintMore
attribute [local go_sem] vb_ tb_ jc_ ic_ lb_ kb_ ub_ sb_   
set_option linter.unusedVariables false
set_option linter.unusedSimpArgs false
section
variable {P : Program} {ops : Array Oper} {rest : List Oper} {o : Oper} {a : Act} {Q : Exit → Act → World → Prop}
theorem rk_ {W : World} (hN : o.dst = none) (hgd : o.guard = none) (t : TypeId) (p x : Operand) (ho : o.op = .store t p x) {g i : Nat} {e : TypeId} {cur : Array Value} (u : Value) (haddr : a.eval p = .pointer (some ⟨g, i, none⟩)) (hx : a.eval x = u)
  (hu : u.cells.toList = [u]) (h1 : u.oneCell' = true) (ht : (P.info? t).map (·.size) = some 1) (hblk : W.heap[g]? = some (.cells cur e (0, 0))) (hi : i < cur.size)
  (h : ∀ w1, w1 = W.setCell ⟨g, i, none⟩ u → wpList P ops Q rest a w1) : wpList P ops Q (o :: rest) a W := by
 have hrun := ii_ t u [u] hblk hu ht (Nat.succ_le_of_lt hi) (by intro q hq; rw [List.mem_singleton] at hq; rw [hq]; exact h1)
 refine wpList_plain hgd fun K hK => ?_
 unfold Oper.wp execOp
 simp only [ho, haddr, hx, Sem.run_bind, Sem.run_pure, Result.andThen_ok, hrun]
 show K (a.put o.dst undef) _
 rw [hN]
 exact hK a _ (h _ rfl)
end
theorem pq_ {α : Type} {d : Kd α} {w : World} {b : Nat} {e : TypeId} {cs : List Value} {xs : List α} (hblk : w.heap[b]? = some (.cells cs.toArray e (0, 0))) (hn : xs.length ≤ 9223372036854775807) (hr : Reps (d.K w) d.sz xs cs) : d.C w (some ⟨b, 0, none⟩) xs.length xs := by
 refine ⟨rfl, hn, fun _ => ⟨_, rfl, fun j p hp => ?_⟩⟩
 have hj : j < xs.length := (List.getElem?_eq_some_iff.1 hp).1
 have h1 : j * d.sz + d.sz ≤ cs.length := by rw [hr.1, ← Nat.succ_mul]; exact Nat.mul_le_mul_right _ hj
 refine ⟨(cs.drop (j * d.sz)).take d.sz, by rw [List.length_take, List.length_drop]; omega, hr.2 j p hp, fun i u hu => ?_⟩
 have hi : i < d.sz := by
  have := (List.getElem?_eq_some_iff.1 hu).1; rw [List.length_take] at this; omega
 rw [List.getElem?_take_of_lt hi, List.getElem?_drop] at hu
 have h2 := ba_ hblk (j * d.sz + i)
 rw [List.getElem?_toArray, hu] at h2
 have h3 : (Addr.mk b 0 none).add (j * d.sz + i) = ⟨b, j * d.sz + i, none⟩ := by
  unfold Addr.add
  by_cases h : j * d.sz + i = 0
  ·rw [if_pos h, h]
  rw [if_neg h, Nat.zero_add]
 rw [h3]
 exact h2
theorem kn_one {α : Type} {R : α → List Value → Prop} {sz : Nat} {x : α} {cs : List Value} (h : R x cs) (hl : cs.length = sz) : Reps R sz [x] cs := by
 have := (Reps.none R sz).snoc h hl
 simpa using this
theorem va_ {w : World} {o o' : Obj} {b : Nat} (h : w.heap[b]? = some o) : (w.alloc o').heap[b]? = some o := oa_ h (aa_ (Below.refl _ _) _)
theorem hb_ {w : World} {cs : Array Value} {t : TypeId} {n : Nat} (h : w.heap.size = n) : (w.alloc (.cells cs t)).heap[n]? = some (.cells cs t (0, 0)) := h ▸ ra_ w _
end Go.Proofs.YtiocgaekoeekgaaGreat.P
end
section
namespace Go.Proofs.YtiocgaekoeekgaaGreat.P
open Go.RowKit YtiocgaekoeekgaaGreatW.PrintWords YtiocgaekoeekgaaGreatW.PrintLast YtiocgaekoeekgaaGreatW.PrintMore
attribute [local go_sem] vb_ tb_ jc_ ic_ lb_ kb_ ub_ sb_   
set_option linter.unusedVariables false
set_option linter.unusedSimpArgs false
open Go.Maps (Keyed)
abbrev dc_ := S56
def encP (p : Int × Int) : Value := .agg #[.int .i64 p.1, .int .i64 p.2]
theorem tj_ : ∀ x y, encP x = encP y → x = y := fun x y h => by
 simp [encP] at h
 exact Prod.ext h.1 h.2
theorem laidOut : laidOutB Tryz.prog = true := by kernel_rfl
theorem yh_ : Keyed Tryz.prog 179 := Keyed.of_law (deep_law_laid laidOut (m := 2) (by omega) (of_decide_eq_true (by kernel_rfl)) (by kernel_rfl) (by rw [Tryz.underlying179]))
theorem au_ : ∃ n, Tryz.prog.types.size = n + 1 := ⟨Tryz.prog.types.size - 1, by have h : 0 < Tryz.prog.types.size := of_decide_eq_true (by kernel_rfl); omega⟩
theorem keyType2 : Tryz.prog.keyType 179 = true := by kernel_rfl
theorem cr_ : Tryz.prog.cellsOf 179 = 2 := by kernel_rfl
theorem cellsOf1 : Tryz.prog.cellsOf 3 = 1 := by kernel_rfl
theorem keyOfP {a b : Int} (ha : 0 ≤ a ∧ a < 20) (hb : 0 ≤ b ∧ b < 20) : ∃ l, keyOf Tryz.prog 179 (encP (a, b)) = some l := by
 obtain ⟨n, hn⟩ := au_
 have wa : (Lit.int .i64 a).wf = true := WalkArith.wf_i64 (by omega)
 have wb : (Lit.int .i64 b).wf = true := WalkArith.wf_i64 (by omega)
 refine ⟨.string (keyBytes [.int .i64 a, .int .i64 b]), ?_⟩
 unfold keyOf encP
 rw [Tryz.underlying179]
 simp only [keyType2, Value.formed, Tryz.underlying179, cr_, Value.cells, hn]
 simp [Program.keyLits, Tryz.underlying179, Tryz.underlying3, cr_, cellsOf1, wa, wb, List.range_succ]
def mc_ (m : List ((Int × Int) × Int)) (r : dc_) : List ((Int × Int) × Int) :=
 if r.f1.length = 1 ∧ 0 ≤ rd r.f1 0 ∧ rd r.f1 0 < 20 then mput m (r.f0, rd r.f1 0) ((mget m (r.f0, rd r.f1 0)).getD 0 + 1) else m
def fd_ (l : List dc_) : List ((Int × Int) × Int) := l.foldl mc_ []
abbrev encM (m : List ((Int × Int) × Int)) : List ((Int × Int) × Value) := m.map fun p => (p.1, Value.int .i64 p.2)
theorem ao_ (m : List ((Int × Int) × Int)) (x : Int × Int) : (mget (encM m) x).getD (.int .i64 0) = .int .i64 ((mget m x).getD 0) := by
 rw [zl_]; cases mget m x <;> rfl
theorem fl_ (l : List dc_) (x : Int × Int) : 0 ≤ (mget (fd_ l) x).getD 0 ∧ (mget (fd_ l) x).getD 0 ≤ l.length := by
 suffices h : ∀ (l : List dc_) (m : List ((Int × Int) × Int)) (n : Nat), (∀ x, 0 ≤ (mget m x).getD 0 ∧ (mget m x).getD 0 ≤ n) → ∀ x, 0 ≤ (mget (l.foldl mc_ m) x).getD 0 ∧ (mget (l.foldl mc_ m) x).getD 0 ≤ (n + l.length : Nat) by
  have := h l [] 0 (fun x => by simp [mget]) x; rw [Nat.zero_add] at this; exact this
 intro l
 induction l with
 | nil => intro m n h x; exact h x
 | cons r l ih =>
  intro m n h x
  have h2 : ∀ y, 0 ≤ (mget (mc_ m r) y).getD 0 ∧ (mget (mc_ m r) y).getD 0 ≤ ((n + 1 : Nat) : Int) := by
   intro y; unfold mc_
   split
   ·by_cases e : y = (r.f0, rd r.f1 0)
    (focus (subst e; rw [yc_]; have := h (r.f0, rd r.f1 0); simp only [Option.getD_some]; omega)); rw [rd_ _ _ _ e]; have := h y; omega
   have := h y; omega
  have := ih (mc_ m r) (n + 1) h2 x; rw [List.foldl_cons, List.length_cons, show n + (l.length + 1) = n + 1 + l.length by omega]; exact this
theorem rs_ (l : List dc_) (k : Nat) (h : k < l.length) : fd_ (l.take (k + 1)) = mc_ (fd_ (l.take k)) l[k] := by
 unfold fd_
 rw [List.take_succ_eq_append_getElem h, List.foldl_append]
 rfl
theorem map_incr {P : Program} {κ : Type} [DecidableEq κ] {kt t e : TypeId} {enc : κ → Value} {w : World} {b : Nat} {m : List (κ × Value)} {z : Value} (h : MapOf P kt enc w b m) (K : Keyed P kt) (hinj : ∀ x y, enc x = enc y → x = y) (ht : P.underlying t = some (.map kt e)) (hz : ∀ w, (zeroValue e).run P w = .ok z w)
  (k : κ) (hk : ∃ l, keyOf P kt (enc k) = some l) (v v2 : Value) (hv : (mget m k).getD z = v) :
  ∃ w1 n w2, (Instr.mapEntry t (.map (some b)) (enc k)).run P w = .ok (.tuple #[v, .int .i64 n]) w1 ∧ (Instr.lookup t (.map (some b)) (enc k) false).run P w1 = .ok v w1 ∧ (Instr.entryStore t (.map (some b)) (.int .i64 n) v2).run P w1 = .ok () w2 ∧ MapOf P kt enc w2 b (mput m k v2) ∧ w.grownBy w2 (some b) ∧ w2.heap.size = w.heap.size := by
 obtain ⟨w1, n, h1, _, _, ⟨m1, hm1, hg1⟩, h4⟩ := h.entry K hinj ht hz k hk
 obtain ⟨w2, h5, h6, h7, h8⟩ := h4 v2
 have h9 := hm1.lookup K hinj ht (hz w1) k hk false
 rw [hg1, hv] at h9
 exact ⟨w1, n, w2, by rw [h1, hv], h9, h5, h6, h7, h8⟩
def ak_ (l0 : List dc_) : Bool := l0.all (fun r => decide (0 ≤ r.f0 ∧ r.f0 < 20)) && decide (l0.length ≤ 1000000000000)
def kh_ (l0 : List dc_) : List (List Int) := (List.range 20).map fun (s : Nat) => ((List.range 20).map fun (x : Nat) => (x : Int)).filter fun x => decide (0 < (mget (fd_ l0) ((s : Int), x)).getD 0)
def sc_ (m : List ((Int × Int) × Int)) (s n : Nat) : List Int := ((List.range n).map fun (x : Nat) => (x : Int)).filter fun x => decide (0 < (mget m ((s : Int), x)).getD 0)
theorem mo_ (m : List ((Int × Int) × Int)) (s n : Nat) : sc_ m s (n + 1) = sc_ m s n ++ if 0 < (mget m ((s : Int), (n : Int))).getD 0 then [(n : Int)] else [] := by
 unfold sc_
 rw [List.range_succ, List.map_append, List.filter_append]
 congr 1
 by_cases h : 0 < (mget m ((s : Int), (n : Int))).getD 0 <;> simp [h]
theorem sk_ (m : List ((Int × Int) × Int)) (s n : Nat) : (sc_ m s n).length ≤ n := by
 unfold sc_
 have := List.length_filter_le (fun x => decide (0 < (mget m ((s : Int), x)).getD 0)) ((List.range n).map fun (x : Nat) => (x : Int))
 simpa using this
structure URows (base g : Nat) (row : Nat → List Int) (i : Nat) (W : World) (vals : List Value) (f : Nat → Nat) : Prop where
 len : vals.length = 20
 blk : W.heap[g]? = some (.cells vals.toArray 35 (0, 0))
 ge : base ≤ g
 done : ∀ j, j < i → ∃ v, vals[j]? = some v ∧ Kd.R (Kd.int .i64) 3 W base (fun k => k ≠ g ∧ f k = j) v (row j)
 rest : ∀ j, i ≤ j → j < 20 → vals[j]? = some (.slice none 0 0)
structure UCur (base g N : Nat) (row : Nat → List Int) (i : Nat) (W : World) (vals : List Value) (f : Nat → Nat) (u : Value) (cur : List Int) : Prop where
 len : vals.length = 20
 blk : W.heap[g]? = some (.cells vals.toArray 35 (0, 0))
 ge : base ≤ g
 done : ∀ j, j < i → ∃ v, vals[j]? = some v ∧ Kd.R (Kd.int .i64) 3 W base (fun k => (k ≠ g ∧ f k = j) ∧ k < N) v (row j)
 rest : ∀ j, i < j → j < 20 → vals[j]? = some (.slice none 0 0)
 at_ : vals[i]? = some u
 cur : Kd.R (Kd.int .i64) 3 W base (fun k => k ≠ g ∧ N ≤ k) u cur
 gN : g < N
 size : N ≤ W.heap.size
theorem URows.start {base g : Nat} {row : Nat → List Int} {i : Nat} {W : World} {vals : List Value} {f : Nat → Nat} (h : URows base g row i W vals f) (hi : i < 20) : UCur base g W.heap.size row i W vals f (.slice none 0 0) [] :=
 ⟨h.len, h.blk, h.ge, fun j hj => by obtain ⟨v, h1, h2⟩ := h.done j hj; exact ⟨v, h1, Kd.R_mono (Kd.R_bound h2) (fun k hk => ⟨hk.1, hk.2.2.1⟩)⟩, fun j hj hj2 => h.rest j (by omega) hj2, h.rest i (Nat.le_refl _) hi, Kd.R_nil _ _ _ _ _, za_ h.blk, Nat.le_refl _⟩
theorem UCur.below {base g N : Nat} {row : Nat → List Int} {i : Nat} {W W1 : World} {vals : List Value} {f : Nat → Nat} {u : Value} {cur : List Int} (h : UCur base g N row i W vals f u cur) (hb : Below W.heap.size W W1) : UCur base g N row i W1 vals f u cur :=
 ⟨h.len, oa_ h.blk hb, h.ge, fun j hj => by obtain ⟨v, h1, h2⟩ := h.done j hj; exact ⟨v, h1, Kd.R_below h2 hb⟩, h.rest, h.at_, Kd.R_below h.cur hb, h.gN, Nat.le_trans h.size hb.size⟩
theorem UCur.put {base g N : Nat} {row : Nat → List Int} {i : Nat} {W W1 : World} {vals : List Value} {f : Nat → Nat} {u u1 : Value} {cur cur1 : List Int} (h : UCur base g N row i W vals f u cur) (hg : W.grownBy W1 u.ownBlock)
  (hr : Kd.R (Kd.int .i64) 3 W1 base (fun k => k ≠ g ∧ N ≤ k) u1 cur1) : UCur base g N row i (W1.setCell ⟨g, i, none⟩ u1) (vals.set i u1) f u1 cur1 := by
 have hi : i < vals.length := (List.getElem?_eq_some_iff.1 h.at_).1
 have hne : ∀ k, (k ≠ g ∧ N ≤ k) → k ≠ (⟨g, i, none⟩ : Addr).block := fun k hk => hk.1
 have hub : ∀ k, k < N → some k ≠ u.ownBlock := fun k hk e => by have := (h.cur.1 k e.symm).2; omega
 have hb1 : W1.heap[g]? = some (.cells vals.toArray 35 (0, 0)) := gb_ h.blk hg (hub g h.gN)
 refine ⟨by rw [List.length_set]; exact h.len, ?_, h.ge, fun j hj => ?_, fun j hj hj2 => ?_, by rw [List.getElem?_set_self hi], Kd.R_far hr hne u1, h.gN, Nat.le_trans h.size (by simp [World.setCell]; exact hg.size)⟩
 ·refine lc_ hb1 i u1 ?_
  simp
 ·obtain ⟨v, h1, h2⟩ := h.done j hj
  refine ⟨v, by rw [List.getElem?_set_ne (by omega)]; exact h1, Kd.R_far (Kd.R_grown h2 hg (fun k hk => hub k hk.2)) (fun k hk => hk.1.1) u1⟩
 rw [List.getElem?_set_ne (by omega)]
 exact h.rest j hj hj2
theorem UCur.finish {base g N : Nat} {row : Nat → List Int} {i : Nat} {W : World} {vals : List Value} {f : Nat → Nat} {u : Value} (h : UCur base g N row i W vals f u (row i)) : URows base g row (i + 1) W vals (fun k => if k < N then f k else i) := by
 refine ⟨h.len, h.blk, h.ge, fun j hj => ?_, fun j hj hj2 => h.rest j (by omega) hj2⟩
 by_cases e : j = i
 ·subst e
  exact ⟨u, h.at_, Kd.R_mono h.cur (fun k hk => ⟨hk.1, by rw [if_neg (by omega)]⟩)⟩
 obtain ⟨v, h1, h2⟩ := h.done j (by omega)
 exact ⟨v, h1, Kd.R_mono h2 (fun k hk => ⟨hk.1.1, by rw [if_pos hk.2]; exact hk.1.2⟩)⟩
theorem URows.toS {base g : Nat} {row : Nat → List Int} {W : World} {vals : List Value} {f : Nat → Nat} (h : URows base g row 20 W vals f) :
  Kd.S (Kd.slice 3 (Kd.int .i64)) 35 W base (fun _ => True) (.slice (some ⟨g, 0, none⟩) 20 20) ((List.range 20).map row) := by
 refine ⟨f, fun _ _ => trivial, vals, ⟨?_, .inr ⟨g, 20, vals.toArray, rfl, h.ge, h.blk, by simp, by unfold maxLen; omega, by simp [h.len, Kd.tag, Kd.slice], ?_⟩⟩, ?_, fun j p hj => ?_⟩
 ·simp [h.len, Kd.tag, Kd.slice]
 ·have : vals.take 20 = vals := by rw [← h.len]; exact List.take_length
  simpa [Kd.tag, Kd.slice] using this
 ·simp [h.len, Kd.tag, Kd.slice]
 obtain ⟨x, n⟩ := p
 rw [List.getElem?_zipIdx] at hj
 obtain ⟨y, hy, hp⟩ := Option.map_eq_some_iff.1 hj
 simp only [Nat.zero_add, Prod.mk.injEq] at hp
 obtain ⟨rfl, rfl⟩ := hp
 have hj20 : j < 20 := by have := (List.getElem?_eq_some_iff.1 hy).1; simpa using this
 rw [List.getElem?_map, List.getElem?_range hj20] at hy
 have hy2 : row j = y := by simpa using hy
 obtain ⟨v, h1, h2⟩ := h.done j hj20
 have h3 : (vals.drop (j * 1)).take 1 = [v] := by
  obtain ⟨hl, hv⟩ := List.getElem?_eq_some_iff.1 h1; rw [Nat.mul_one, List.drop_eq_getElem_cons hl, hv]; rfl
 show ((Kd.tag f (Kd.slice 3 (Kd.int .i64))).M W base _ (y, j) ((vals.drop (j * 1)).take 1))
 rw [h3]
 refine ⟨v, rfl, ?_⟩
 rw [← hy2]
 refine Kd.R_mono h2 (fun k hk => ⟨⟨trivial, ?_⟩, hk.2⟩)
 simp [Value.ownBlock]
 exact hk.1
theorem ir_ (A0 : Option Addr) (c0 : Nat) (l0 : List dc_) (w : World) (hr0 : Kd.C k56 w A0 l0.length l0) (hc0 : l0.length ≤ c0) (hu : ak_ l0 = true) :
  Calls Tryz.prog 98 #[.slice A0 l0.length c0] w fun e w' => ∃ v0_ : Value, e = .returned (v0_) ∧ Kd.S (Kd.slice 3 (Kd.int .i64)) 35 w' w.heap.size (fun _ => True) v0_ (kh_ l0) ∧ Below w.heap.size w w' := by
 have hmm := @run_makeMap Tryz.prog
 have hu2 := hu
 simp only [ak_, Bool.and_eq_true, List.all_eq_true, decide_eq_true_eq] at hu2
 obtain ⟨hu3, hlen⟩ := hu2
 have HU := aM_ hu3
 have HR := aM_ hr0
 have HC := aM_ hc0
 clear hr0 hc0 hu hu3
 go_enter Tryz.func98, Tryz.ntmps98
 go_wp2
 go_loopg [12] l0.length (fun gg s12 wr => ∃ kk : Nat, kk ≤ l0.length ∧ l0.length - kk ≤ gg ∧ s12 = .int .i64 kk ∧ Az (MapOf Tryz.prog 179 encP wr w.heap.size (encM (fd_ (l0.take kk)))) ∧ Az (Below w.heap.size w wr) ∧ Az (w.heap.size < wr.heap.size))
 case atStart => exact ⟨0, Nat.zero_le _, by omega, rfl, ⟨MapOf.made _ _ _ _⟩, ⟨aa_ (Below.refl _ _) _⟩, ⟨by simp⟩⟩
 obtain ⟨kk, hkk, hg, rfl, HM, HB, HS⟩ := hrel
 by_cases hlt : kk < l0.length
 ·have hltz : (kk : Int) < (l0.length : Int) := by omega
  obtain ⟨ad, A1, c1, A3, c3, hA, h0, h1, h2, h3, h4, l1, g1, l3, g3⟩ := bj_ (Kd.C_below HR.out HB.out) kk (by omega) hltz; have hx : yb_ l0 kk = l0[kk] := by simp [yb_, List.getD_eq_getElem?_getD, List.getElem?_eq_getElem hlt]
  have hlhs := HU.out l0[kk] (List.getElem_mem hlt); rw [← hx] at hlhs; have hsn := rs_ l0 kk hlt; rw [← hx] at hsn; generalize yb_ l0 kk = y at *; rw [Int.toNat_natCast] at h0 h1 h2 h3 h4; subst hA; clear hx l3 g3; have HSN := aM_ hsn; clear hsn
  by_cases hone : y.f1.length = 1
  ·obtain ⟨ad1, hA1, hcell⟩ := Kd.at_int g1 0 (by omega) (by omega)
   have hcell' : wr.cell? ad1 = some (.int .i64 (rd y.f1 0)) := hcell; subst hA1; have hlx : wr.heap.size > ad1.block := World.block_lt_of_cell? wr _ hcell'; have hcell2 : (wr.alloc (.cells #[.int .i64 y.f0, .slice (some ad1) 1 c1, .int .i64 y.f2.f0, .slice A3 y.f2.f1.length c3, .int .i64 y.f3] 56)).cell? ad1 = some (.int .i64 (rd y.f1 0)) := (World.cell?_alloc_lt _ _ _ hlx).trans hcell'; rw [hone] at h1; generalize hrd : rd y.f1 0 = x at *; have HRD := aM_ hrd; clear hrd; have hsym := aM_ (qk_ x); clear hcell g1 hcell' hlx; have HM1 := aM_ (HM.out.alloc (.cells #[.int .i64 y.f0, .slice (some ad1) 1 c1, .int .i64 y.f2.f0, .slice A3 y.f2.f1.length c3, .int .i64 y.f3] 56)); have HB1 := aM_ (aa_ HB.out (.cells #[.int .i64 y.f0, .slice (some ad1) 1 c1, .int .i64 y.f2.f0, .slice A3 y.f2.f1.length c3, .int .i64 y.f3] 56)); have HBK := aM_ (ra_ wr (.cells #[.int .i64 y.f0, .slice (some ad1) 1 c1, .int .i64 y.f2.f0, .slice A3 y.f2.f1.length c3, .int .i64 y.f3] 56)); have HS1 : Az (w.heap.size < (wr.alloc (.cells #[.int .i64 y.f0, .slice (some ad1) 1 c1, .int .i64 y.f2.f0, .slice A3 y.f2.f1.length c3, .int .i64 y.f3] 56)).heap.size) := ⟨Nat.lt_of_lt_of_le HS.out (by simp)⟩
   cases hsx : af_ x with
   | true =>
    rw [hsx] at hsym
    go_wp2_with fail
    refine (gram_symbol.calls _ _ _ hsym.out).mono ?_; rintro e w' ⟨rfl, ⟨nd, rfl⟩⟩; clear HM HB HS h0 h1 h2 h3 h4; generalize hW : (wr.alloc (.cells #[.int .i64 y.f0, .slice (some ad1) 1 c1, .int .i64 y.f2.f0, .slice A3 y.f2.f1.length c3, .int .i64 y.f3] 56)).drewN nd = W1; have HM2 : Az (MapOf Tryz.prog 179 encP W1 w.heap.size (encM (fd_ (l0.take kk)))) := ⟨by rw [← hW]; exact HM1.out⟩; have HB2 : Az (Below w.heap.size w W1) := ⟨by rw [← hW]; exact ca_ HB1.out _⟩; have HBK2 : Az (W1.heap[wr.heap.size]? = some (.cells #[.int .i64 y.f0, .slice (some ad1) 1 c1, .int .i64 y.f2.f0, .slice A3 y.f2.f1.length c3, .int .i64 y.f3] 56 (0, 0))) := ⟨by rw [← hW]; exact la_ HBK.out _⟩; have HS2 : Az (w.heap.size < W1.heap.size) := ⟨by rw [← hW]; exact HS1.out⟩; have k2 : W1.cell? ad1 = some (.int .i64 x) := by rw [← hW]; exact hcell2
    clear hcell2 HM1 HB1 HBK HS1 hW; have d0 := ba_ HBK2.out 0; have d1 := ba_ HBK2.out 1; simp only [List.getElem?_toArray, List.getElem?_cons_succ, List.getElem?_cons_zero] at d0 d1; have hsb : 0 ≤ x ∧ x < 20 := by simpa [af_] using hsx
    obtain ⟨hx0, hx1⟩ := hsb; obtain ⟨hy0, hy1⟩ := hlhs; have hkey := keyOfP (a := y.f0) (b := x) ⟨hy0, hy1⟩ ⟨hx0, hx1⟩; have hb := fl_ (l0.take kk) (y.f0, x); obtain ⟨hb0, hb1⟩ := hb; have hb2 : (l0.take kk).length ≤ kk := List.length_take_le _ _; have hgv := ao_ (fd_ (l0.take kk)) (y.f0, x); have hmp := yl_ (Value.int .i64) (y.f0, x) ((mget (fd_ (l0.take kk)) (y.f0, x)).getD 0 + 1) (fd_ (l0.take kk))
    have hstep : mc_ (fd_ (l0.take kk)) y = mput (fd_ (l0.take kk)) (y.f0, x) ((mget (fd_ (l0.take kk)) (y.f0, x)).getD 0 + 1) := by
     unfold mc_; rw [if_pos ⟨hone, by rw [HRD.out]; exact ⟨hx0, hx1⟩⟩, HRD.out]
    generalize (mget (fd_ (l0.take kk)) (y.f0, x)).getD 0 = v at *; have hv1 : v ≤ 1000000000000 := by omega
    have hlk := (HM2.out.drew).lookup yh_ tj_ Tryz.underlying178 (mf_ W1.drew) (y.f0, x) hkey false; rw [hgv] at hlk; have hlk2 : (Instr.lookup 178 (.map (some w.heap.size)) (.agg #[.int .i64 y.f0, .int .i64 x]) false).run Tryz.prog W1.drew = .ok (.int .i64 v) W1.drew := hlk; obtain ⟨w3, n3, w4, hE1, hL3, hE2, hm4, hg4, hz4⟩ := map_incr (HM2.out.drew) yh_ tj_ Tryz.underlying178 mf_ (y.f0, x) hkey (.int .i64 v) (.int .i64 (v + 1)) hgv; have hE3 : (Instr.mapEntry 178 (.map (some w.heap.size)) (.agg #[.int .i64 y.f0, .int .i64 x])).run Tryz.prog W1.drew = .ok (.tuple #[.int .i64 v, .int .i64 n3]) w3 := hE1; rw [hmp, ← hstep] at hm4; have hL4 : (Instr.lookup 178 (.map (some w.heap.size)) (.agg #[.int .i64 y.f0, .int .i64 x]) false).run Tryz.prog w3 = .ok (.int .i64 v) w3 := hL3; have hwr : IntKind.i64.wrap (v + 1) = v + 1 := IntWalk.i64_in _ (by omega); have HM4 := aM_ hm4; have HG4 := aM_ hg4; have HZ4 := aM_ hz4; clear hlk hE1 hL3 hm4 hg4 hz4 hmp hstep hgv hb2
    go_wp2_with fail
    go_region
    all_goals
     go_wp2
     go_roundg (l0.length - (kk + 1))
     case measure => omega
     case rel =>
      exact ⟨kk + 1, by omega, by omega, by go_num, ⟨by rw [HSN.out]; exact HM4.out⟩, ⟨(HB2.out.drew).grown HG4.out HB2.out.size (fun j e => by cases e; exact Nat.le_refl _)⟩, ⟨by rw [HZ4.out]; exact HS2.out⟩⟩
   | false =>
    rw [hsx] at hsym
    go_wp2_with fail
    refine (gram_symbol.calls _ _ _ hsym.out).mono ?_; rintro e w' ⟨rfl, ⟨nd, rfl⟩⟩
    go_wp2
    go_roundg (l0.length - (kk + 1))
    case measure => omega
    case rel =>
     refine ⟨kk + 1, by omega, by omega, by go_num, ⟨?_⟩, ⟨ca_ HB1.out _⟩, ⟨HS1.out⟩⟩
     have hst : mc_ (fd_ (l0.take kk)) y = fd_ (l0.take kk) := by
      unfold mc_; rw [if_neg (fun h => by rw [HRD.out] at h; simp [af_, h.2.1] at hsx; omega)]
     rw [HSN.out, hst]; exact HM1.out.drewN _
  have ht : ((y.f1.length : Int) == 1) = false := beq_eq_false_iff_ne.2 (by omega)
  have hst : mc_ (fd_ (l0.take kk)) y = fd_ (l0.take kk) := by
   unfold mc_; rw [if_neg (fun h => hone h.1)]
  have HST := aM_ hst; clear hst
  go_wp2
  go_roundg (l0.length - (kk + 1))
  case measure => omega
  case rel => exact ⟨kk + 1, by omega, by omega, by go_num, ⟨by rw [HSN.out, HST.out]; exact HM.out.alloc _⟩, ⟨aa_ HB.out _⟩, ⟨Nat.lt_of_lt_of_le HS.out (by simp)⟩⟩
 have hltz : ¬ (kk : Int) < (l0.length : Int) := by omega
 have hkl : kk = l0.length := by omega
 subst hkl
 have HM0 : Az (MapOf Tryz.prog 179 encP wr w.heap.size (encM (fd_ l0))) := ⟨by have := HM.out; rwa [List.take_length] at this⟩
 clear HM
 have HFB := aM_ (fl_ l0)
 have HUP := aM_ (show (List.range 20).map (fun j => sc_ (fd_ l0) j 20) = kh_ l0 from rfl)
 generalize fd_ l0 = m at *
 have hmk : ∀ w, (Instr.makeSlice 111 (.int .i64 20) (.int .i64 20)).run Tryz.prog w = .ok (.slice (some ⟨w.heap.size, 0, none⟩) 20 20) (w.alloc (.cells (List.replicate 20 (Value.slice none 0 0)).toArray 35)) := fun _ => by kernel_rfl
 have HU0 : Az (∃ vals f, URows w.heap.size wr.heap.size (fun j => sc_ m j 20) 0 (wr.alloc (.cells (List.replicate 20 (Value.slice none 0 0)).toArray 35)) vals f) :=
  ⟨List.replicate 20 (.slice none 0 0), fun _ => 0, ⟨by simp, ra_ _ _, Nat.le_of_lt HS.out, fun j hj => absurd hj (Nat.not_lt_zero _), fun j _ hj => by rw [List.getElem?_replicate, if_pos hj]⟩⟩
 have HM1 := aM_ (HM0.out.alloc (.cells (List.replicate 20 (Value.slice none 0 0)).toArray 35))
 have HB1 := aM_ (aa_ HB.out (.cells (List.replicate 20 (Value.slice none 0 0)).toArray 35))
 clear HM0 HB HS
 go_wp2
 generalize wr.heap.size = g at *
 go_loopg [43] 20 (fun gg s43 W => ∃ i : Nat, i ≤ 20 ∧ 20 - i ≤ gg ∧ s43 = .int .i64 i ∧ Az (∃ vals f, URows w.heap.size g (fun j => sc_ m j 20) i W vals f) ∧ Az (MapOf Tryz.prog 179 encP W w.heap.size (encM m)) ∧ Az (Below w.heap.size w W))
 case atStart => exact ⟨0, by omega, by omega, rfl, HU0, HM1, HB1⟩
 clear HU0 HM1 HB1
 obtain ⟨i, hi, hgi, rfl, HU1, HM1, HB1⟩ := hrel
 by_cases hi20 : i < 20
 ·have hi20z : (i : Int) < 20 := by omega
  obtain ⟨vals, f, hU1⟩ := HU1.out; have HC1 := aM_ (hU1.start hi20); clear HU1 hU1; generalize wr.heap.size = N at HC1
  go_wp2
  go_loopg [46] 20 (fun gg2 s46 W2 => ∃ x : Nat, x ≤ 20 ∧ 20 - x ≤ gg2 ∧ s46 = .int .i64 x ∧ Az (∃ vals f u, UCur w.heap.size g N (fun j => sc_ m j 20) i W2 vals f u (sc_ m i x)) ∧ Az (MapOf Tryz.prog 179 encP W2 w.heap.size (encM m)) ∧ Az (Below w.heap.size w W2))
  case atStart => exact ⟨0, by omega, by omega, rfl, ⟨_, _, _, HC1.out⟩, HM1, HB1⟩
  clear HC1 HM1 HB1; obtain ⟨x, hx, hgx, rfl, HC2, HM2, HB2⟩ := hrel; obtain ⟨vals, f, u, hC2⟩ := HC2.out; have HC3 := aM_ hC2; clear HC2 hC2; have hc : wr.cell? ⟨g, i, none⟩ = some u := (ba_ HC3.out.blk i).trans (by rw [List.getElem?_toArray]; exact HC3.out.at_); have hfz := da_ HC3.out.blk i; have hsu := mo_ m i x; have hrl := sk_ m i x; obtain ⟨A4, c4, rfl⟩ := Kd.R_slice HC3.out.cur
  by_cases hx20 : x < 20
  ·have hx20z : (x : Int) < 20 := by omega
   have hkey := keyOfP (a := (i : Int)) (b := (x : Int)) ⟨by omega, by omega⟩ ⟨by omega, by omega⟩; have hgv := ao_ m ((i : Int), (x : Int)); generalize (mget m ((i : Int), (x : Int))).getD 0 = v at hgv hsu; have HGV := aM_ hgv; have HSU := aM_ hsu; clear hgv hsu
   by_cases hv : 0 < v
   ·have hub : ∀ k, k < N → some k ≠ (Value.slice A4 (sc_ m i x).length c4).ownBlock := fun k hk e => by have := (HC3.out.cur.1 k e.symm).2; omega
    have hgn := HC3.out.gN; have hil : i < vals.toArray.size := by have := HC3.out.len; simp; omega
    go_wp2_with (first
     | (at_lookup; refine dd_ rfl (.tmp 49) (.tmp 52) 178 3 rfl yh_ tj_ Tryz.underlying178 mf_ rfl HM2.out ((i : Int), (x : Int)) rfl hkey (.int .i64 v) HGV.out ?_)
     | (at_builtin; refine Kd.R_append (Kd.int .i64) (w0 := w) w.heap.size rfl (.tmp 60) (.tmp 62) 35 3 (.int .i64 0) 8 rfl Tryz.underlying35 qh_ rfl (by decide) (by omega) (.slice A4 (sc_ m i x).length c4) (sc_ m i x) (x : Int) [.int .i64 x] (fun k => k ≠ g ∧ N ≤ k) (fun _ => False) rfl rfl rfl (fun _ hk => hk.elim) (fun k hk => ⟨fun e => by have := HC3.out.gN; have := HC3.out.size; omega, Nat.le_trans HC3.out.size hk⟩) HC3.out.cur HB2.out HB2.out.size (by omega) ?_; intro v1 w1 ho hb hgr hat; have ho' : Kd.R (Kd.int .i64) 3 w1 w.heap.size (fun k => k ≠ g ∧ N ≤ k) v1 (sc_ m i x ++ [(x : Int)]) := ho; have HR1 := aM_ ho'; have HB3 := aM_ hb; have HG1 := aM_ hgr; obtain ⟨A5, c5, rfl⟩ := Kd.R_slice ho'; clear ho ho' hb hgr hat)
     | (refine gate_ (.store 35 (.tmp 64) (.tmp 63)) rfl ?_; have hblk1 := aM_ (gb_ HC3.out.blk HG1.out (hub g hgn)); go_loud (refine rk_ rfl rfl 35 (.tmp 64) (.tmp 63) rfl (.slice A5 ((sc_ m i x).length + 1) c5) rfl rfl rfl rfl rfl hblk1.out hil ?_); intro w2 hw2)
     | fail)
    go_roundg (20 - (x + 1))
    case measure => omega
    case rel =>
     have e5 : (Value.slice A5 ((sc_ m i x).length + 1) c5) = .slice A5 (sc_ m i x ++ [(x : Int)]).length c5 := by rw [List.length_append]; rfl
     rw [e5] at hw2; subst hw2; refine ⟨x + 1, by omega, by omega, by go_num, ⟨vals.set i (.slice A5 (sc_ m i x ++ [(x : Int)]).length c5), f, .slice A5 (sc_ m i x ++ [(x : Int)]).length c5, ?_⟩, ⟨?_⟩, ⟨?_⟩⟩; (focus (rw [HSU.out, if_pos hv]; have h9 := HC3.out.put HG1.out HR1.out; rw [← e5] at h9 ⊢; exact h9)); (focus (have hbN : w.heap.size < N := Nat.lt_of_le_of_lt HC3.out.ge HC3.out.gN; refine (HM2.out.grown HG1.out (hub _ hbN)).setCell _ (fun e => ?_) _; exact HM2.out.not_cells HC3.out.blk e)); exact HB3.out.setCell HC3.out.ge _
   have hgt : ¬ (v > 0) := by omega
   go_wp2_with (first
    | (at_lookup; refine dd_ rfl (.tmp 49) (.tmp 52) 178 3 rfl yh_ tj_ Tryz.underlying178 mf_ rfl HM2.out ((i : Int), (x : Int)) rfl hkey (.int .i64 v) HGV.out ?_)
    | fail)
   go_roundg (20 - (x + 1))
   case measure => omega
   case rel =>
    refine ⟨x + 1, by omega, by omega, by go_num, ⟨vals, f, .slice A4 (sc_ m i x).length c4, ?_⟩, HM2, HB2⟩; rw [HSU.out, if_neg (by omega), List.append_nil]; exact HC3.out
  have hx20z : ¬ (x : Int) < 20 := by omega
  have hxe : x = 20 := by omega
  subst hxe; obtain ⟨A6, c6, e6, hle6, hC6⟩ := Kd.R_reads HC3.out.cur; injection e6 with e7 e8 e9; subst e7 e9; have HC6 := aM_ hC6; have HL6 := aM_ hle6; clear hC6 hle6 e8; have hil : i < vals.toArray.size := by have := HC3.out.len; simp; omega
  go_wp2_with fail
  refine (slices_Clone_int_int.calls _ _ (sc_ m i 20) (sc_ m i 20) _ HC6.out HL6.out (if_pos (by omega))).mono ?_; rintro e w1 ⟨v1, rfl, hR1, hb1⟩; have HR1 := aM_ (Kd.R_lower (Kd.R_mono (Kd.R_bound hR1) (ok' := fun k => k ≠ g ∧ N ≤ k) (fun k hk => ⟨fun e => by have := HC3.out.gN; have := HC3.out.size; omega, Nat.le_trans HC3.out.size hk.2.1⟩)) HB2.out.size); have HM1 := aM_ (HM2.out.below hb1); have HB1 := aM_ (fa_ HB2.out hb1); have HC1 := aM_ (HC3.out.below hb1); have hblk1 := aM_ HC1.out.blk; obtain ⟨A7, c7, rfl⟩ := Kd.R_slice hR1; clear hR1 hb1 hc hfz HC3 HM2 HB2 HC6 HL6; generalize hrn : (sc_ m i 20).length = n7 at *
  go_wp2_with (first
    | (refine gate_ (.store 35 (.tmp 73) (.tmp 72)) rfl ?_; refine rk_ rfl rfl 35 (.tmp 73) (.tmp 72) rfl (.slice A7 n7 c7) rfl rfl rfl rfl rfl hblk1.out hil ?_; intro w2 hw2)
    | fail)
  go_roundg (20 - (i + 1))
  case measure => omega
  case rel =>
   subst hw2; refine ⟨i + 1, by omega, by omega, by go_num, ⟨vals.set i (.slice A7 n7 c7), _, (HC1.out.put (World.grownBy.refl _ _) HR1.out).finish⟩, ⟨HM1.out.setCell _ (HM1.out.not_cells hblk1.out) _⟩, ⟨HB1.out.setCell HC1.out.ge _⟩⟩
 have hi20z : ¬ (i : Int) < 20 := by omega
 have hie : i = 20 := by omega
 subst hie
 obtain ⟨vals, f, hU1⟩ := HU1.out
 have HV := aM_ hU1.toS
 clear hU1 HU1
 go_wp2
 go_ret
 have h9 := HV.out
 rw [HUP.out] at h9
 exact ⟨_, rfl, h9, HB1.out⟩
end Go.Proofs.YtiocgaekoeekgaaGreat.P
end
section
namespace Go.Proofs.YtiocgaekoeekgaaGreat.P
open Go.RowKit YtiocgaekoeekgaaGreatW.PrintWords YtiocgaekoeekgaaGreatW.PrintLast YtiocgaekoeekgaaGreatW.PrintMore
attribute [local go_sem] vb_ tb_ jc_ ic_ lb_ kb_ ub_ sb_   
set_option linter.unusedVariables false
set_option linter.unusedSimpArgs false
def lowP (n : Int) (l : List Int) : Nat := (l.takeWhile fun x => decide (x < n)).length
def putP (l : List Int) (n : Int) : List Int := if (l.drop (lowP n l)).head? = some n then l else l.take (lowP n l) ++ n :: l.drop (lowP n l)
theorem yo_ (n : Int) : ∀ (l : List Int) (k : Nat), k ≤ l.length → (∀ j, j < k → ∀ h : j < l.length, l[j] < n) → (∀ h : k < l.length, ¬ l[k] < n) → lowP n l = k
 | [], k, hk, _, _ => by simp at hk; subst hk; rfl
 | x :: l, 0, _, _, h1 => by
  have h2 := h1 (by simp); unfold lowP; rw [List.takeWhile_cons, if_neg (by simpa using h2)]
  rfl
 | x :: l, k + 1, hk, h0, h1 => by
  have h2 := h0 0 (by omega) (by simp); have h3 : x < n := h2; have h4 := yo_ n l k (by simpa using hk) (fun j hj hl => by have := h0 (j + 1) (by omega) (by simpa using hl); simpa using this) (fun hl => by have := h1 (by simpa using hl); simpa using this); unfold lowP at h4 ⊢; rw [List.takeWhile_cons, if_pos (by simpa using h3), List.length_cons, h4]
section
variable {ops : Array Oper} {o : Oper} {a : Act} {Q : Exit → Act → World → Prop} {Kc : Act → World → Prop}
theorem tf_ {W : World} {v : Value} (op : Op) (_h : o.op = op) (h : if Region.wanted o (yielded ops a.tmps) = true then Oper.wp Tryz.prog o a W Kc Q else Kc (a.put o.dst v) W) : if Region.wanted o (yielded ops a.tmps) = true then Oper.wp Tryz.prog o a W Kc Q else Kc (a.put o.dst v) W := h
theorem wt_ {W : World} {g : Nat} {n : Int} (h : W.heap[g]? = some (.cells #[.int .i64 n] 3 (0, 0))) : Kd.C (Kd.int .i64) W (some ⟨g, 0, none⟩) 1 [n] :=
 pq_ (d := Kd.int .i64) (xs := [n]) (cs := [.int .i64 n]) h (by simp) (kn_one rfl rfl)
theorem mq_ {W : World} {base g : Nat} (h : W.heap[g]? = some (.cells #[] 3 (0, 0))) (hb : base ≤ g) : Kd.R (Kd.int .i64) 3 W base (fun _ => True) (.slice (some ⟨g, 0, none⟩) 0 0) ([] : List Int) :=
 ⟨fun _ _ => trivial, [], ⟨rfl, .inr ⟨g, 0, #[], rfl, hb, h, Nat.le_refl _, Nat.zero_le _, rfl, rfl⟩⟩, Reps.none _ _⟩
theorem wg_ {w0 W : World} (base : Nat) (hw : Region.wanted o (yielded ops a.tmps) = true) (s x : Operand) (ho : o.op = .call { callee := .builtin .append, args := #[s, x], argTypes := #[35, 35] })
  (v : Value) (xs ys : List Int) (A : Option Addr) (m c : Nat) (hs : a.eval s = v) (hx : a.eval x = .slice A m c)
  (HO : Kd.R (Kd.int .i64) 3 W base (fun _ => True) v xs) (HR : Kd.C (Kd.int .i64) W A m ys) (HB : Below base w0 W) (hbase : base ≤ W.heap.size) (hl : (xs.length + m) * 8 ≤ 140737488355328)
  (h : ∀ v1 w1, Kd.R (Kd.int .i64) 3 w1 base (fun _ => True) v1 (xs ++ ys) → Below base w0 w1 → W.grownBy w1 v.ownBlock → Kc (a.put o.dst v1) w1) :
  if Region.wanted o (yielded ops a.tmps) = true then Oper.wp Tryz.prog o a W Kc Q else Kc (a.put o.dst undef) W :=
 Kd.R_append_rows_step (Kd.int .i64) base hw s x 35 3 (.int .i64 0) 8 ho Tryz.underlying35 qh_ rfl (by decide) (by omega) v xs ys A m c (fun _ => True) (fun _ => False) hs hx HO HR (fun _ _ h => h) (fun _ hk => hk.elim) (fun _ _ => trivial) HB hbase hl (fun v1 w1 h1 h2 h3 _ => h v1 w1 h1 h2 h3)
end
theorem put_walk (A0 : Option Addr) (c0 : Nat) (l : List Int) (n : Int) (w : World) (hr0 : Kd.C (Kd.int .i64) w A0 l.length l) (hc0 : l.length ≤ c0) (hl : l.length ≤ 1000000000000) :
  Calls Tryz.prog 117 #[.slice A0 l.length c0, .int .i64 n] w fun e w' => ∃ v : Value, e = .returned v ∧ Below w.heap.size w w' ∧ ((v = .slice A0 l.length c0 ∧ putP l n = l) ∨ Kd.R (Kd.int .i64) 3 w' w.heap.size (fun _ => True) v (putP l n)) := by
 have HR := aM_ hr0
 have HC := aM_ hc0
 clear hr0 hc0
 go_enter Tryz.func117, Tryz.ntmps117
 go_wp2
 go_loopg [5] l.length (fun gg s5 wr => ∃ kk : Nat, kk ≤ l.length ∧ l.length - kk ≤ gg ∧ s5 = .int .i64 kk ∧ Drawn0 w wr ∧ Az (∀ j, j < kk → ∀ h : j < l.length, l[j] < n))
 case atStart => exact ⟨0, Nat.zero_le _, by omega, rfl, Drawn0.refl _, ⟨fun j hj => absurd hj (Nat.not_lt_zero _)⟩⟩
 obtain ⟨kk, hkk, hgg, rfl, ⟨nd, rfl⟩, AB⟩ := hrel
 by_cases hlt : kk < l.length
 ·have hltz : (kk : Int) < (l.length : Int) := by omega
  obtain ⟨ad, hA, hcell⟩ := Kd.at_int HR.out kk (by omega) hltz; rw [Int.toNat_natCast] at hcell; rw [df_ l kk hlt] at hcell; have hcell2 : (w.drewN nd).cell? (ad.add kk) = some (.int .i64 l[kk]) := hcell; subst hA; clear hcell
  by_cases hx : l[kk] < n
  ·have hxb : decide (l[kk] < n) = true := decide_eq_true hx
   generalize hy : l[kk] = y at *; clear hx
   go_wp2
   go_roundg (l.length - (kk + 1))
   case measure => omega
   case rel =>
    refine ⟨kk + 1, by omega, by omega, by go_num, ⟨_, rfl⟩, ⟨fun j hj hl => ?_⟩⟩
    by_cases e : j = kk
    ·subst e; rw [hy]; exact of_decide_eq_true hxb
    exact AB.out j (by omega) hl
  have hlow := yo_ n l kk hkk AB.out (fun _ => hx)
  by_cases he : l[kk] = n
  ·have hxb : decide (l[kk] < n) = false := decide_eq_false hx
   have heb : decide (l[kk] = n) = true := decide_eq_true he
   have hz : putP l n = l := by
    unfold putP; rw [hlow, List.head?_drop, List.getElem?_eq_getElem hlt, if_pos (by rw [he])]
   generalize hy : l[kk] = y at *; clear hx
   go_wp2
   go_ret
   exact ⟨_, rfl, ca_ (Below.refl _ _) _, .inl ⟨rfl, hz⟩⟩
  have hxb : decide (l[kk] < n) = false := decide_eq_false hx; have heb : decide (l[kk] = n) = false := decide_eq_false he
  have hz : putP l n = l.take kk ++ n :: l.drop kk := by
   unfold putP; rw [hlow, List.head?_drop, List.getElem?_eq_getElem hlt, if_neg (fun h => he (Option.some.inj h))]
  generalize hy : l[kk] = y at *; clear hx; obtain ⟨i0, hi, hz0, hz1, hz2⟩ := info_parts qh_; obtain ⟨htk, htr, htc⟩ := mi_ (P := Tryz.prog) (Value.int .i64) (0 : Int) 35 3 .i64 Tryz.underlying35 hi hz1 (some ad) c0 l (kk : Int) (by omega) (by omega) HC.out; obtain ⟨A', hdk, hdr, hdc⟩ := gg_ (P := Tryz.prog) (Value.int .i64) (0 : Int) 35 3 .i64 Tryz.underlying35 hi hz1 (some ad) c0 l (kk : Int) (by omega) (by omega) HC.out; rw [Int.toNat_natCast] at htc hdc; simp only [Int.toNat_natCast] at htk htr hdk hdr; have HT := aM_ (Kd.C_of_reads (enc := Value.int .i64) (h1 := fun _ => rfl) (htr w (Kd.reads_of_C (d := (0 : Int)) HR.out))); have HD := aM_ (Kd.C_of_reads (enc := Value.int .i64) (h1 := fun _ => rfl) (hdr w (Kd.reads_of_C (d := (0 : Int)) HR.out))); have HPZ := aM_ hz; clear htr hdr htc hdc hi hz0 hz1 hz2 hz; have hlt1 : (l.take kk).length ≤ 1000000000000 := Nat.le_trans (List.length_take_le _ _) (by omega); have hld1 : (l.drop kk).length ≤ 1000000000000 := by rw [List.length_drop]; omega
  generalize l.take kk = lt at *; generalize l.drop kk = ld at *
  go_wp2
  have hbw : ∀ W, Below w.heap.size w W → Kd.C (Kd.int .i64) W (some ad) lt.length lt ∧ Kd.C (Kd.int .i64) W A' ld.length ld := fun W hb => ⟨Kd.C_below HT.out hb, Kd.C_below HD.out hb⟩
  go_region_law (first
   | (refine tf_ (.call { callee := .builtin .append, args := #[.tmp 33, .tmp 36], argTypes := #[35, 35] }) rfl ?_; refine wg_ (w0 := w) w.heap.size (by rfl) (.tmp 33) (.tmp 36) (by rfl) (.slice (some ⟨_, 0, none⟩) 0 0) [] lt (some ad) lt.length c0 (by rfl) (by rfl) (mq_ (by repeat (first | exact hb_ (by first | rfl | (simp; done)) | apply va_)) (by omega)) (hbw _ (by repeat (first | (with_reducible first | exact Below.refl _ _ | exact hb1 | exact hb2 | apply aa_ | apply ca_ | apply ga_)))).1 (by repeat (first | (with_reducible first | exact Below.refl _ _ | exact hb1 | exact hb2 | apply aa_ | apply ca_ | apply ga_))) (by first | (simp; done) | (simp; omega)) (by first | omega | (simp; omega)) ?_; intro v1 w1 ho1 hb1 hg1)
   | (refine tf_ (.call { callee := .builtin .append, args := #[.tmp 40, .tmp 43], argTypes := #[35, 35] }) rfl ?_; refine wg_ (w0 := w) w.heap.size (by rfl) (.tmp 40) (.tmp 43) (by rfl) v2 (lt ++ [n]) ld A' ld.length (c0 - kk) (by rfl) (by rfl) ho2 (hbw _ hb2).2 hb2 hb2.size (by first | omega | (simp; omega)) ?_; intro v3 w3 ho3 hb3 hg3)
   | (refine tf_ (.call { callee := .builtin .append, args := #[.tmp 37, .tmp 39], argTypes := #[35, 35] }) rfl ?_; refine wg_ (w0 := w) w.heap.size (by rfl) (.tmp 37) (.tmp 39) (by rfl) v1 lt [n] _ 1 1 (by rfl) (by rfl) (by first | exact ho1 | exact Kd.R_alloc ho1 _) (wt_ (by first | exact hb_ (by first | rfl | (simp; done)) | exact gb_ (by repeat (first | exact hb_ (by first | rfl | (simp; done)) | apply va_)) hg1 (by simp [Value.ownBlock] <;> omega))) (by repeat (first | (with_reducible first | exact Below.refl _ _ | exact hb1 | exact hb2 | apply aa_ | apply ca_ | apply ga_))) (by first | exact hb1.size | (have := hb1.size; simp; omega)) (by first | omega | (simp; omega)) ?_; intro v2 w2 ho2 hb2 hg2))
  all_goals
   go_wp2
   go_ret
   exact ⟨_, rfl, hb3, .inr (by rw [HPZ.out, show lt ++ n :: ld = lt ++ [n] ++ ld by simp]; exact ho3)⟩
 have hltz : ¬ (kk : Int) < (l.length : Int) := by omega
 have hke : kk = l.length := by omega
 have hlow := yo_ n l kk hkk AB.out (fun h => absurd h hlt)
 have hz : putP l n = l.take kk ++ n :: l.drop kk := by
  unfold putP; rw [hlow, List.head?_drop, List.getElem?_eq_none (by omega), if_neg (by simp)]
 have hkl : l.length ≤ kk := by omega
 clear hke
 obtain ⟨i0, hi, hz0, hz1, hz2⟩ := info_parts qh_
 obtain ⟨htk, htr, htc⟩ := mi_ (P := Tryz.prog) (Value.int .i64) (0 : Int) 35 3 .i64 Tryz.underlying35 hi hz1 A0 c0 l (kk : Int) (by omega) (by omega) HC.out
 obtain ⟨A', hdk, hdr, hdc⟩ := gg_ (P := Tryz.prog) (Value.int .i64) (0 : Int) 35 3 .i64 Tryz.underlying35 hi hz1 A0 c0 l (kk : Int) (by omega) (by omega) HC.out
 rw [Int.toNat_natCast] at htc hdc
 simp only [Int.toNat_natCast] at htk htr hdk hdr
 have HT := aM_ (Kd.C_of_reads (enc := Value.int .i64) (h1 := fun _ => rfl) (htr w (Kd.reads_of_C (d := (0 : Int)) HR.out)))
 have HD := aM_ (Kd.C_of_reads (enc := Value.int .i64) (h1 := fun _ => rfl) (hdr w (Kd.reads_of_C (d := (0 : Int)) HR.out)))
 have HPZ := aM_ hz
 clear htr hdr htc hdc hi hz0 hz1 hz2 hz
 have hlt1 : (l.take kk).length ≤ 1000000000000 := Nat.le_trans (List.length_take_le _ _) (by omega)
 have hld1 : (l.drop kk).length ≤ 1000000000000 := by rw [List.length_drop]; omega
 generalize l.take kk = lt at *
 generalize l.drop kk = ld at *
 go_wp2
 have hbw : ∀ W, Below w.heap.size w W → Kd.C (Kd.int .i64) W A0 lt.length lt ∧ Kd.C (Kd.int .i64) W A' ld.length ld := fun W hb => ⟨Kd.C_below HT.out hb, Kd.C_below HD.out hb⟩
 go_region_law (first
  | (refine tf_ (.call { callee := .builtin .append, args := #[.tmp 33, .tmp 36], argTypes := #[35, 35] }) rfl ?_; refine wg_ (w0 := w) w.heap.size (by rfl) (.tmp 33) (.tmp 36) (by rfl) (.slice (some ⟨_, 0, none⟩) 0 0) [] lt A0 lt.length c0 (by rfl) (by rfl) (mq_ (by repeat (first | exact hb_ (by first | rfl | (simp; done)) | apply va_)) (by omega)) (hbw _ (by repeat (first | (with_reducible first | exact Below.refl _ _ | exact hb1 | exact hb2 | apply aa_ | apply ca_ | apply ga_)))).1 (by repeat (first | (with_reducible first | exact Below.refl _ _ | exact hb1 | exact hb2 | apply aa_ | apply ca_ | apply ga_))) (by first | (simp; done) | (simp; omega)) (by first | omega | (simp; omega)) ?_; intro v1 w1 ho1 hb1 hg1)
  | (refine tf_ (.call { callee := .builtin .append, args := #[.tmp 40, .tmp 43], argTypes := #[35, 35] }) rfl ?_; refine wg_ (w0 := w) w.heap.size (by rfl) (.tmp 40) (.tmp 43) (by rfl) v2 (lt ++ [n]) ld A' ld.length (c0 - kk) (by rfl) (by rfl) ho2 (hbw _ hb2).2 hb2 hb2.size (by first | omega | (simp; omega)) ?_; intro v3 w3 ho3 hb3 hg3)
  | (refine tf_ (.call { callee := .builtin .append, args := #[.tmp 37, .tmp 39], argTypes := #[35, 35] }) rfl ?_; refine wg_ (w0 := w) w.heap.size (by rfl) (.tmp 37) (.tmp 39) (by rfl) v1 lt [n] _ 1 1 (by rfl) (by rfl) (by first | exact ho1 | exact Kd.R_alloc ho1 _) (wt_ (by first | exact hb_ (by first | rfl | (simp; done)) | exact gb_ (by repeat (first | exact hb_ (by first | rfl | (simp; done)) | apply va_)) hg1 (by simp [Value.ownBlock] <;> omega))) (by repeat (first | (with_reducible first | exact Below.refl _ _ | exact hb1 | exact hb2 | apply aa_ | apply ca_ | apply ga_))) (by first | exact hb1.size | (have := hb1.size; simp; omega)) (by first | omega | (simp; omega)) ?_; intro v2 w2 ho2 hb2 hg2))
 all_goals
  go_wp2
  go_ret
  exact ⟨_, rfl, hb3, .inr (by rw [HPZ.out, show lt ++ n :: ld = lt ++ [n] ++ ld by simp]; exact ho3)⟩
theorem mem_putP (l : List Int) (n : Int) (y : Int) : y ∈ putP l n ↔ y = n ∨ y ∈ l := by
 unfold putP
 split
 case isTrue h =>
  constructor
  ·exact .inr
  rintro (rfl | h2)
  ·have : y ∈ l.drop (lowP y l) := by
    cases hd : l.drop (lowP y l) with
    | nil => rw [hd] at h; cases h
    | cons a t => rw [hd] at h; simp at h; simp [h]
   exact List.mem_of_mem_drop this
  exact h2
 case isFalse h =>
  rw [List.mem_append, List.mem_cons]; constructor
  ·rintro (h | rfl | h)
   ·exact .inr (List.mem_of_mem_take h)
   ·exact .inl rfl
   exact .inr (List.mem_of_mem_drop h)
  rintro (rfl | h)
  ·exact .inr (.inl rfl)
  rw [← List.take_append_drop (lowP n l) l, List.mem_append] at h
  rcases h with h | h
  ·exact .inl h
  exact .inr (.inr h)
inductive Reach (next : Int → List Int) (l0 : List Int) : Int → Prop
 | base {x : Int} : x ∈ l0 → Reach next l0 x
 | step {x y : Int} : Reach next l0 x → y ∈ next x → Reach next l0 y
def pc_ (x : Int) : Prop := 0 ≤ x ∧ x < 20
theorem Reach.sym {next : Int → List Int} {l0 : List Int} (hd : ∀ x, pc_ x → ∀ y ∈ next x, pc_ y) (hl : ∀ x ∈ l0, pc_ x) {x : Int} (h : Reach next l0 x) : pc_ x := by
 induction h with
 | base h => exact hl _ h
 | step _ h ih => exact hd _ ih _ h
def symbols : List Int := (List.range 20).map fun (x : Nat) => (x : Int)
theorem ee_ (x : Int) : x ∈ symbols ↔ pc_ x := by
 unfold symbols pc_
 rw [List.mem_map]
 constructor
 ·rintro ⟨n, hn, rfl⟩
  rw [List.mem_range] at hn; omega
 rintro ⟨h0, h1⟩
 exact ⟨x.toNat, by rw [List.mem_range]; omega, by omega⟩
theorem symbols_sorted : symbols.Pairwise (· < ·) := by decide
theorem symbols_nodup : symbols.Nodup := by decide
open Classical in
noncomputable def jf_ (next : Int → List Int) (l0 : List Int) : List Int := symbols.filter fun y => decide (Reach next l0 y)
theorem am_ {next : Int → List Int} {l0 : List Int} (hd : ∀ x, pc_ x → ∀ y ∈ next x, pc_ y) (hl : ∀ x ∈ l0, pc_ x) (y : Int) : y ∈ jf_ next l0 ↔ Reach next l0 y := by
 unfold jf_
 rw [List.mem_filter, ee_]
 simp only [decide_eq_true_eq]
 exact ⟨fun h => h.2, fun h => ⟨h.sym hd hl, h⟩⟩
theorem ig_ {l : List Int} (hn : l.Nodup) (hs : ∀ x ∈ l, pc_ x) : l.length ≤ 20 := by
 have hp : l.Perm (symbols.filter fun x => decide (x ∈ l)) := (List.perm_ext_iff_of_nodup hn (symbols_nodup.filter _)).2 fun x => by
  rw [List.mem_filter, ee_]; simp only [decide_eq_true_eq]; exact ⟨fun h => ⟨hs x h, h⟩, fun h => h.2⟩
 rw [hp.length_eq]
 exact List.length_filter_le _ symbols
theorem in_ (next : Int → List Int) (B : Nat) (hB : B ≤ 1000000) (hlen : ∀ x, pc_ x → (next x).length ≤ B) (hd : ∀ x, pc_ x → ∀ y ∈ next x, pc_ y) (l0 : List Int) (hl : ∀ x ∈ l0, pc_ x) :
  ∀ (M : Nat) (m : List (Int × Int)) (q : List Int) (V : Nat), (∀ x ∈ q, Reach next l0 x) → (∀ x ∈ m.map (·.1), Reach next l0 x) → (m.map (·.1)).Nodup →
   (∀ x, 0 ≤ (mget m x).getD 0 ∧ (mget m x).getD 0 ≤ V) → (∀ x ∈ m.map (·.1), 1 ≤ (mget m x).getD 0) → (∀ x ∈ m.map (·.1), ∀ y ∈ next x, y ∈ q ∨ y ∈ m.map (·.1)) → (∀ x ∈ l0, x ∈ q ∨ x ∈ m.map (·.1)) →
   q.length + B * (20 - m.length) ≤ M → M + V ≤ 100000000 →
   ∃ k r, sg_ next k m q = some r ∧ (∀ y, y ∈ r.map (·.1) ↔ Reach next l0 y) ∧ (r.map (·.1)).Nodup := by
 intro M
 induction M with
 | zero =>
  intro m q V hq hm hn hv hp hc h0 hM hV; have hqe : q = [] := List.length_eq_zero_iff.1 (by omega); subst hqe; have hml : m.length ≤ 20 := by have := ig_ hn (fun x hx => (hm x hx).sym hd hl); simpa using this
  refine ⟨1, m, by simp only [sg_]; rw [if_pos (by omega)], fun y => ⟨hm y, fun h => ?_⟩, hn⟩
  induction h with
  | base h => exact (h0 _ h).elim (fun h => by cases h) id
  | step _ h ih => exact (hc _ ih _ h).elim (fun h => by cases h) id
 | succ M ihM =>
  intro m q V hq hm hn hv hp hc h0 hM hV; have hml : m.length ≤ 20 := by have := ig_ hn (fun x hx => (hm x hx).sym hd hl); simpa using this
  cases q with
  | nil =>
   refine ⟨1, m, by simp only [sg_]; rw [if_pos (by omega)], fun y => ⟨hm y, fun h => ?_⟩, hn⟩
   induction h with
   | base h => exact (h0 _ h).elim (fun h => by cases h) id
   | step _ h ih => exact (hc _ ih _ h).elim (fun h => by cases h) id
  | cons x q =>
   have hrx := hq x List.mem_cons_self; have hsx := hrx.sym hd hl; have hlx := hlen x hsx; have hvx := hv x; have hguard : (x :: q).length ≤ 1000000000 ∧ (next x).length ≤ 1000000000 ∧ 0 ≤ (mget m x).getD 0 ∧ (mget m x).getD 0 ≤ 1000000000000 := ⟨by omega, by omega, hvx.1, by omega⟩
   have hv2 : ∀ y, 0 ≤ (mget (mput m x ((mget m x).getD 0 + 1)) y).getD 0 ∧ (mget (mput m x ((mget m x).getD 0 + 1)) y).getD 0 ≤ ((V + 1 : Nat) : Int) := by
    intro y
    by_cases e : y = x
    (focus (subst e; rw [yc_]; simp only [Option.getD_some]; omega)); rw [rd_ _ _ _ e]; have := hv y; omega
   have hkeys := vn_ x ((mget m x).getD 0 + 1) m
   have hp2 : ∀ y ∈ (mput m x ((mget m x).getD 0 + 1)).map (·.1), 1 ≤ (mget (mput m x ((mget m x).getD 0 + 1)) y).getD 0 := by
    intro y hy
    by_cases e : y = x
    (focus (subst e; rw [yc_]; simp only [Option.getD_some]; omega)); rw [rd_ _ _ _ e]; refine hp y ?_; rw [hkeys] at hy
    split at hy
    ·exact hy
    exact (List.mem_append.1 hy).elim id (fun h => absurd (List.mem_singleton.1 h) e)
   by_cases h0v : (mget m x).getD 0 = 0
   ·have hxm : x ∉ m.map (·.1) := fun h => by have := hp x h; omega
    rw [if_neg hxm] at hkeys
    have hmlen : (mput m x ((mget m x).getD 0 + 1)).length = m.length + 1 := by
     have := congrArg List.length hkeys
     simpa using this
    have hn2 : ((mput m x ((mget m x).getD 0 + 1)).map (·.1)).Nodup := by
     rw [hkeys, List.nodup_append]; refine ⟨hn, by simp, fun a ha b hb => ?_⟩; rw [List.mem_singleton] at hb; subst hb; intro e; subst e; exact hxm ha
    have hm2 : ∀ y ∈ (mput m x ((mget m x).getD 0 + 1)).map (·.1), Reach next l0 y := by
     intro y hy; rw [hkeys] at hy; exact (List.mem_append.1 hy).elim (hm y) (fun h => by rw [List.mem_singleton.1 h]; exact hrx)
    have hml2 : m.length + 1 ≤ 20 := by
     have := ig_ hn2 (fun x hx => (hm2 x hx).sym hd hl); rw [List.length_map, hmlen] at this; exact this
    obtain ⟨k, r, hk, hr⟩ := ihM (mput m x ((mget m x).getD 0 + 1)) (q ++ next x) (V + 1)
     (fun y hy => (List.mem_append.1 hy).elim (fun h => hq y (List.mem_cons_of_mem _ h)) (fun h => .step hrx h)) hm2 hn2 hv2 hp2
     (fun z hz y hy => by
      rw [hkeys] at hz ⊢
      rcases List.mem_append.1 hz with h | h
      ·rcases hc z h y hy with h | h
       ·rcases List.mem_cons.1 h with h | h
        ·subst h; exact .inr (by simp)
        exact .inl (List.mem_append_left _ h)
       exact .inr (List.mem_append_left _ h)
      rw [List.mem_singleton.1 h] at hy
      exact .inl (List.mem_append_right _ hy))
     (fun z hz => by
      rw [hkeys]
      rcases h0 z hz with h | h
      ·rcases List.mem_cons.1 h with h | h
       ·subst h; exact .inr (by simp)
       exact .inl (List.mem_append_left _ h)
      exact .inr (List.mem_append_left _ h))
     (by
      rw [hmlen, List.length_append]; have e1 : 20 - m.length = (20 - (m.length + 1)) + 1 := by omega
      rw [e1, Nat.mul_add, Nat.mul_one, List.length_cons] at hM
      omega) (by omega)
    exact ⟨k + 1, r, by simp only [sg_]; rw [if_pos hguard, if_pos h0v]; exact hk, hr⟩
   have hxm : x ∈ m.map (·.1) := by
    rw [← cl_]
    cases h : mget m x with
    | none => rw [h] at h0v; simp at h0v
    | some v => rfl
   rw [if_pos hxm] at hkeys
   have hmlen : (mput m x ((mget m x).getD 0 + 1)).length = m.length := by
    have := congrArg List.length hkeys
    simpa using this
   obtain ⟨k, r, hk, hr⟩ := ihM (mput m x ((mget m x).getD 0 + 1)) q (V + 1) (fun y hy => hq y (List.mem_cons_of_mem _ hy)) (by rw [hkeys]; exact hm) (by rw [hkeys]; exact hn) hv2 hp2
    (fun z hz y hy => by
     rw [hkeys] at hz ⊢
     rcases hc z hz y hy with h | h
     ·rcases List.mem_cons.1 h with h | h
      ·subst h; exact .inr hxm
      exact .inl h
     exact .inr h)
    (fun z hz => by
     rw [hkeys]
     rcases h0 z hz with h | h
     ·rcases List.mem_cons.1 h with h | h
      ·subst h; exact .inr hxm
      exact .inl h
     exact .inr h)
    (by rw [hmlen]; rw [List.length_cons] at hM; omega) (by omega)
   exact ⟨k + 1, r, by simp only [sg_]; rw [if_pos hguard, if_neg h0v]; exact hk, hr⟩
theorem qs_ (next : Int → List Int) (hlen : ∀ x, pc_ x → (next x).length ≤ 1000000) (hd : ∀ x, pc_ x → ∀ y ∈ next x, pc_ y) (l0 : List Int) (hl : ∀ x ∈ l0, pc_ x) (hl0 : l0.length ≤ 1000000) :
  ∃ k r, sg_ next k [] l0 = some r ∧ hi_ (r.map (·.1)) = jf_ next l0 := by
 obtain ⟨k, r, hk, hm, hn⟩ := in_ next 1000000 (Nat.le_refl _) hlen hd l0 hl (l0.length + 1000000 * 20) [] l0 0 (fun x hx => .base hx) (by simp) (by simp) (fun x => by simp [mget]) (by simp) (by simp) (fun x hx => .inl hx) (by simp) (by omega)
 refine ⟨k, r, hk, ?_⟩
 have hp : (r.map (·.1)).Perm (jf_ next l0) := (List.perm_ext_iff_of_nodup hn (symbols_nodup.filter _)).2 fun y => (hm y).trans (am_ hd hl y).symm
 have h2 : hi_ (jf_ next l0) = jf_ next l0 := by
  unfold hi_; refine List.mergeSort_of_pairwise ?_; refine (symbols_sorted.filter _).imp ?_; intro a b h; simp [leI]; omega
 rw [← h2]
 exact mergeSort_of_perm_i hp
def oneOf (r : dc_) : Bool := decide (r.f1.length = 1 ∧ 0 ≤ rd r.f1 0)
def qe_ (rows : Nat → List Int) (r : dc_) : Nat → List Int := fun s => if oneOf r = true ∧ r.f0 = (s : Int) then putP (rows s) (rd r.f1 0) else rows s
def nb_ (l : List dc_) : Nat → List Int := l.foldl qe_ (fun _ => [])
theorem oo_ (l : List dc_) (k : Nat) (h : k < l.length) : nb_ (l.take (k + 1)) = qe_ (nb_ (l.take k)) l[k] := by
 unfold nb_
 rw [List.take_succ_eq_append_getElem h, List.foldl_append]
 rfl
theorem putP_len (l : List Int) (n : Int) : (putP l n).length ≤ l.length + 1 := by
 unfold putP
 split
 ·omega
 rw [List.length_append, List.length_cons, List.length_take, List.length_drop]
 have : lowP n l ≤ l.length := by
  unfold lowP; exact (List.takeWhile_sublist _).length_le
 omega
theorem vp_ (l : List dc_) (s : Nat) : (nb_ l s).length ≤ l.length := by
 suffices h : ∀ (l : List dc_) (rows : Nat → List Int) (n : Nat), (rows s).length ≤ n → (l.foldl qe_ rows s).length ≤ n + l.length by
  have := h l (fun _ => []) 0 (Nat.le_refl _); rw [Nat.zero_add] at this; exact this
 intro l
 induction l with
 | nil => intro rows n h; exact h
 | cons r l ih =>
  intro rows n h
  have h2 : (qe_ rows r s).length ≤ n + 1 := by
   unfold qe_
   split
   ·exact Nat.le_trans (putP_len _ _) (by omega)
   omega
  have := ih (qe_ rows r) (n + 1) h2; rw [List.foldl_cons, List.length_cons, show n + (l.length + 1) = n + 1 + l.length by omega]; exact this
def if_ (l0 : List dc_) : List (List Int) := (List.range 20).map (nb_ l0)
theorem URows.swap {base g : Nat} {rows rows' : Nat → List Int} {W W1 : World} {vals : List Value} {f : Nat → Nat} {i : Nat} {v0 v1 : Value} (h : URows base g rows 20 W vals f) (hb : Below W.heap.size W W1) (hw : base ≤ W.heap.size) (hv : vals[i]? = some v0) (hrows : ∀ j, j ≠ i → rows' j = rows j)
  (hc : (v1 = v0 ∧ rows' i = rows i) ∨ Kd.R (Kd.int .i64) 3 W1 W.heap.size (fun _ => True) v1 (rows' i)) : ∃ f', URows base g rows' 20 (W1.setCell ⟨g, i, none⟩ v1) (vals.set i v1) f' := by
 have hi : i < vals.length := (List.getElem?_eq_some_iff.1 hv).1
 have hi20 : i < 20 := by have := h.len; omega
 have hgl := za_ h.blk
 refine ⟨fun k => if k < W.heap.size then f k else i, by rw [List.length_set]; exact h.len, ?_, h.ge, fun j hj => ?_, fun j hj hj2 => by omega⟩
 ·refine lc_ (oa_ h.blk hb) i v1 ?_
  simp
 by_cases e : j = i
 ·subst e
  refine ⟨v1, by rw [List.getElem?_set_self hi], ?_⟩
  rcases hc with ⟨e1, e2⟩ | hR
  (focus (obtain ⟨v, h1, h2⟩ := h.done j hj; rw [hv] at h1; obtain rfl := Option.some.inj h1; subst e1; rw [e2]; refine Kd.R_far (Kd.R_mono (Kd.R_below (Kd.R_bound h2) hb) (fun k hk => ⟨hk.1.1, ?_⟩)) (fun k hk => hk.1) _; rw [if_pos hk.2.2.1]; exact hk.1.2)); refine Kd.R_far (Kd.R_mono (Kd.R_lower (Kd.R_bound hR) hw) (fun k hk => ⟨?_, ?_⟩)) (fun k hk => hk.1) _
  ·have := hk.2.1
   omega
  rw [if_neg (by have := hk.2.1; omega)]
 obtain ⟨v, h1, h2⟩ := h.done j hj
 refine ⟨v, by rw [List.getElem?_set_ne (fun h => e h.symm)]; exact h1, ?_⟩
 rw [hrows j e]
 refine Kd.R_far (Kd.R_mono (Kd.R_below (Kd.R_bound h2) hb) (fun k hk => ⟨hk.1.1, ?_⟩)) (fun k hk => hk.1) _
 rw [if_pos hk.2.2.1]
 exact hk.1.2
theorem URows.below {base g : Nat} {rows : Nat → List Int} {W W1 : World} {vals : List Value} {f : Nat → Nat} {i : Nat} (h : URows base g rows i W vals f) (hb : Below W.heap.size W W1) : URows base g rows i W1 vals f :=
 ⟨h.len, oa_ h.blk hb, h.ge, fun j hj => by obtain ⟨v, h1, h2⟩ := h.done j hj; exact ⟨v, h1, Kd.R_below h2 hb⟩, h.rest⟩
theorem fu_ (A0 : Option Addr) (c0 n0 : Nat) (l : List Int) (n : Int) (w : World) (hr0 : Kd.C (Kd.int .i64) w A0 n0 l) (hc0 : n0 ≤ c0) (hl : n0 ≤ 1000000000000) (hn : l.length = n0) :
  Calls Tryz.prog 117 #[.slice A0 n0 c0, .int .i64 n] w fun e w' => ∃ A n1 c, e = .returned (.slice A n1 c) ∧ Below w.heap.size w w' ∧ ((.slice A n1 c = Value.slice A0 n0 c0 ∧ putP l n = l) ∨ Kd.R (Kd.int .i64) 3 w' w.heap.size (fun _ => True) (.slice A n1 c) (putP l n)) := by
 subst hn
 refine (put_walk A0 c0 l n w hr0 hc0 hl).mono ?_
 rintro e w' ⟨v, rfl, hb, hcase⟩
 have : ∃ A n1 c, v = .slice A n1 c := by
  rcases hcase with ⟨rfl, _⟩ | h
  ·exact ⟨_, _, _, rfl⟩
  obtain ⟨A, c, rfl⟩ := Kd.R_slice h; exact ⟨_, _, _, rfl⟩
 obtain ⟨A, n1, c, rfl⟩ := this
 exact ⟨A, n1, c, rfl, hb, hcase⟩
theorem zm_ (A0 : Option Addr) (c0 : Nat) (l0 : List dc_) (w : World) (hr0 : Kd.C k56 w A0 l0.length l0) (hc0 : l0.length ≤ c0) (hu : ak_ l0 = true) :
  Calls Tryz.prog 68 #[.slice A0 l0.length c0] w fun e w' => ∃ v0_ : Value, e = .returned (v0_) ∧ Kd.S (Kd.slice 3 (Kd.int .i64)) 35 w' w.heap.size (fun _ => True) v0_ (if_ l0) ∧ Below w.heap.size w w' := by
 have hu2 := hu
 simp only [ak_, Bool.and_eq_true, List.all_eq_true, decide_eq_true_eq] at hu2
 obtain ⟨hu3, hlen⟩ := hu2
 have HU := aM_ hu3
 have HR := aM_ hr0
 have HC := aM_ hc0
 clear hr0 hc0 hu hu3
 have hmk : ∀ w, (Instr.makeSlice 111 (.int .i64 20) (.int .i64 20)).run Tryz.prog w = .ok (.slice (some ⟨w.heap.size, 0, none⟩) 20 20) (w.alloc (.cells (List.replicate 20 (Value.slice none 0 0)).toArray 35)) := fun _ => by kernel_rfl
 have HU0 : Az (∃ vals f, URows w.heap.size w.heap.size (fun _ => []) 20 (w.alloc (.cells (List.replicate 20 (Value.slice none 0 0)).toArray 35)) vals f) :=
  ⟨List.replicate 20 (.slice none 0 0), fun _ => 0, ⟨by simp, ra_ _ _, Nat.le_refl _, fun j hj => ⟨.slice none 0 0, by rw [List.getElem?_replicate, if_pos hj], Kd.R_nil _ _ _ _ _⟩, fun j hj hj2 => by omega⟩⟩
 have HB1 := aM_ (aa_ (Below.refl w.heap.size w) (.cells (List.replicate 20 (Value.slice none 0 0)).toArray 35))
 go_enter Tryz.func68, Tryz.ntmps68
 go_wp2
 clear hmk
 go_loopg [4] l0.length (fun gg s4 wr => ∃ kk : Nat, kk ≤ l0.length ∧ l0.length - kk ≤ gg ∧ s4 = .int .i64 kk ∧ Az (∃ vals f, URows w.heap.size w.heap.size (nb_ (l0.take kk)) 20 wr vals f) ∧ Az (Below w.heap.size w wr))
 case atStart => exact ⟨0, Nat.zero_le _, by omega, rfl, HU0, HB1⟩
 clear HU0 HB1
 obtain ⟨kk, hkk, hgg, rfl, HX, HB⟩ := hrel
 by_cases hlt : kk < l0.length
 ·have hltz : (kk : Int) < (l0.length : Int) := by omega
  obtain ⟨ad, A1, c1, A3, c3, hA, h0, h1, h2, h3, h4, l1, g1, l3, g3⟩ := bj_ (Kd.C_below HR.out HB.out) kk (by omega) hltz; have hx : yb_ l0 kk = l0[kk] := by simp [yb_, List.getD_eq_getElem?_getD, List.getElem?_eq_getElem hlt]
  have hsn := oo_ l0 kk hlt; have hyr := HU.out _ (List.getElem_mem hlt); rw [← hx] at hsn hyr; generalize yb_ l0 kk = y at *; rw [Int.toNat_natCast] at h0 h1 h2 h3 h4; subst hA; obtain ⟨hy0, hy1⟩ := hyr; obtain ⟨s, hs⟩ : ∃ s : Nat, y.f0 = s := ⟨y.f0.toNat, by omega⟩; have hs20 : s < 20 := by omega
  have HSN := aM_ hsn; have HS := aM_ hs; clear hx l3 g3 hsn; rw [hs] at h0 hy0 hy1; clear hs
  by_cases hone : y.f1.length = 1
  ·obtain ⟨ad1, hA1, hcell⟩ := Kd.at_int g1 0 (by omega) (by omega)
   have hcell' : wr.cell? ad1 = some (.int .i64 (rd y.f1 0)) := hcell; subst hA1; have hlx : wr.heap.size > ad1.block := World.block_lt_of_cell? wr _ hcell'; have hce : (wr.alloc (.cells #[.int .i64 s, .slice (some ad1) 1 c1, .int .i64 y.f2.f0, .slice A3 y.f2.f1.length c3, .int .i64 y.f3] 56)).cell? ad1 = some (.int .i64 (rd y.f1 0)) := (World.cell?_alloc_lt _ _ _ hlx).trans hcell'; rw [hone] at h1; generalize hrd : rd y.f1 0 = x at *; have HRDX := aM_ hrd; clear hrd hcell g1 hcell' hlx; have HBK := aM_ (ra_ wr (.cells #[.int .i64 s, .slice (some ad1) 1 c1, .int .i64 y.f2.f0, .slice A3 y.f2.f1.length c3, .int .i64 y.f3] 56)); have HB1 := aM_ (aa_ HB.out (.cells #[.int .i64 s, .slice (some ad1) 1 c1, .int .i64 y.f2.f0, .slice A3 y.f2.f1.length c3, .int .i64 y.f3] 56)); have HX1 : Az (∃ vals f, URows w.heap.size w.heap.size (nb_ (l0.take kk)) 20 (wr.alloc (.cells #[.int .i64 s, .slice (some ad1) 1 c1, .int .i64 y.f2.f0, .slice A3 y.f2.f1.length c3, .int .i64 y.f3] 56)) vals f) := ⟨by obtain ⟨vals, f, h⟩ := HX.out; exact ⟨vals, f, h.below (aa_ (Below.refl _ _) _)⟩⟩; have hd0 := ba_ HBK.out 0; have hd1 := ba_ HBK.out 1; simp only [List.getElem?_toArray, List.getElem?_cons_succ, List.getElem?_cons_zero] at hd0 hd1
   by_cases hx0 : 0 ≤ x
   ·have HST : Az (∀ j : Nat, nb_ (l0.take (kk + 1)) j = if j = s then putP (nb_ (l0.take kk) s) x else nb_ (l0.take kk) j) := ⟨by
     intro j; rw [HSN.out]; unfold qe_; rw [HRDX.out, HS.out]
     by_cases e : j = s
     ·subst e
      rw [if_pos rfl, if_pos ⟨decide_eq_true ⟨hone, by rw [HRDX.out]; exact hx0⟩, rfl⟩]
     rw [if_neg e, if_neg (fun h => e (by have := h.2; omega))]⟩
    obtain ⟨vals, f, hX⟩ := HX1.out; have HX1 := aM_ hX; obtain ⟨v, hv, hRs⟩ := hX.done s hs20; obtain ⟨Au, cu, rfl, hle, hCu⟩ := Kd.R_reads hRs; have hcg : (wr.alloc (.cells #[.int .i64 s, .slice (some ad1) 1 c1, .int .i64 y.f2.f0, .slice A3 y.f2.f1.length c3, .int .i64 y.f3] 56)).cell? ⟨w.heap.size, s, none⟩ = some (.slice Au (nb_ (l0.take kk) s).length cu) := (ba_ hX.blk s).trans (by rw [List.getElem?_toArray]; exact hv); have HV := aM_ hv; have HLE := aM_ hle; have HRD1 := aM_ hCu; have HLL : Az ((nb_ (l0.take kk) s).length ≤ 1000000000000) := ⟨Nat.le_trans (vp_ _ _) (Nat.le_trans (List.length_take_le _ _) (by omega))⟩; generalize hnu : (nb_ (l0.take kk) s).length = nu at *; have HNU := aM_ hnu; clear hv hX hRs hle hCu hnu; clear HX HB
    go_wp2
    generalize wr.alloc (.cells #[.int .i64 s, .slice (some ad1) 1 c1, .int .i64 y.f2.f0, .slice A3 y.f2.f1.length c3, .int .i64 y.f3] 56) = W1 at *; generalize wr.heap.size = b at *; have HSZ0 := aM_ HB1.out.size; generalize w.heap.size = g at *; refine wd_ (n := 15) (S := fun w' => w'.cell? ⟨b, 0, none⟩ = some (.int .i64 s) ∧ w'.cell? ⟨b, 1, none⟩ = some (.slice (some ad1) 1 c1) ∧ w'.cell? ad1 = some (.int .i64 x) ∧ w'.cell? ⟨g, s, none⟩ = some (.slice Au nu cu)) (ds := [14]) (f_ 15 0) (by kernel_rfl) rfl rfl ⟨hd0, hd1, hce, hcg⟩ (fun hHeld => ?_); have HX2 : Az (URows g g (nb_ (l0.take kk)) 20 W1.drew vals f) := ⟨HX1.out.below (nd_ (Below.refl _ _))⟩; have HB2 : Az (Below g w W1.drew) := ⟨nd_ HB1.out⟩; have HRD : Az (Kd.C (Kd.int .i64) W1.drew Au nu (nb_ (l0.take kk) s)) := ⟨Kd.C_below HRD1.out (nd_ (Below.refl _ _))⟩; have HBG : Az (W1.drew.heap[g]? = some (.cells vals.toArray 35 (0, 0))) := ⟨HX2.out.blk⟩; have HSZ : Az (g ≤ W1.drew.heap.size) := ⟨HSZ0.out⟩; clear HX1 HB1 HRD1; generalize W1.drew = W2 at *; refine pU_ 0 28 ?_ (f_ 15 1) rfl rfl (by kernel_rfl) (fun _ _ _ h => h) (by rfl) ?_ ?_ ?_ ?_; rotate_left
    ·intro w'
     go_simp; try with_reducible rfl
    rotate_left
    ·simp only [Act.put, s1_, s2_, s3_, ia_, ja_]
     rfl
    refine pU_ 1 29 ?_ (f_ 15 2) rfl rfl (by kernel_rfl) (fun _ _ _ h => h) (by rfl) ?_ ?_ ?_ ?_; rotate_left
    ·intro w'
     go_simp; try with_reducible rfl
    rotate_left
    ·simp only [Act.put, s1_, s2_, s3_, ia_, ja_]
     rfl
    refine tA_ 2 30 ?_ (f_ 15 3) rfl rfl (by kernel_rfl) (fun _ _ _ h => h) (by rfl) ?_ hHeld ?_ ?_ ?_; rotate_left
    ·rintro w' ⟨s0, s1, s2, s3⟩
     go_simp; try with_reducible rfl
    rotate_left
    ·simp only [Act.put, s1_, s2_, s3_, ia_, ja_]
     rfl
    refine pU_ 3 31 ?_ (f_ 15 4) rfl rfl (by kernel_rfl) (fun _ _ _ h => h) (by rfl) ?_ ?_ ?_ ?_; rotate_left
    ·intro w'
     go_simp; try with_reducible rfl
    rotate_left
    ·simp only [Act.put, s1_, s2_, s3_, ia_, ja_]
     rfl
    refine pU_ 4 32 ?_ (f_ 15 5) rfl rfl (by kernel_rfl) (fun _ _ _ h => h) (by rfl) ?_ ?_ ?_ ?_; rotate_left
    ·intro w'
     go_simp; try with_reducible rfl
    rotate_left
    ·simp only [Act.put, s1_, s2_, s3_, ia_, ja_]
     rfl
    refine tA_ 5 33 ?_ (f_ 15 6) rfl rfl (by kernel_rfl) (fun _ _ _ h => h) (by rfl) ?_ hHeld ?_ ?_ ?_; rotate_left
    ·rintro w' ⟨s0, s1, s2, s3⟩
     go_simp; try with_reducible rfl
    rotate_left
    ·simp only [Act.put, s1_, s2_, s3_, ia_, ja_]
     rfl
    refine pU_ 6 34 ?_ (f_ 15 7) rfl rfl (by kernel_rfl) (fun _ _ _ h => h) (by rfl) ?_ ?_ ?_ ?_; rotate_left
    ·intro w'
     go_simp; try with_reducible rfl
    rotate_left
    ·simp only [Act.put, s1_, s2_, s3_, ia_, ja_]
     rfl
    refine tA_ 7 35 ?_ (f_ 15 8) rfl rfl (by kernel_rfl) (fun _ _ _ h => h) (by rfl) ?_ hHeld ?_ ?_ ?_; rotate_left
    ·rintro w' ⟨s0, s1, s2, s3⟩
     go_simp; try with_reducible rfl
    rotate_left
    ·simp only [Act.put, s1_, s2_, s3_, ia_, ja_]
     rfl
    refine pU_ 8 36 ?_ (f_ 15 9) rfl rfl (by kernel_rfl) (fun _ _ _ h => h) (by rfl) ?_ ?_ ?_ ?_; rotate_left
    ·intro w'
     go_simp; try with_reducible rfl
    rotate_left
    ·simp only [Act.put, s1_, s2_, s3_, ia_, ja_]
     rfl
    refine tA_ 9 37 ?_ (f_ 15 10) rfl rfl (by kernel_rfl) (fun _ _ _ h => h) (by rfl) ?_ hHeld ?_ ?_ ?_; rotate_left
    ·rintro w' ⟨s0, s1, s2, s3⟩
     go_simp; try with_reducible rfl
    rotate_left
    ·simp only [Act.put, s1_, s2_, s3_, ia_, ja_]
     rfl
    refine pU_ 10 38 ?_ (f_ 15 11) rfl rfl (by kernel_rfl) (fun _ _ _ h => h) (by rfl) ?_ ?_ ?_ ?_; rotate_left
    ·intro w'
     go_simp; try with_reducible rfl
    rotate_left
    ·simp only [Act.put, s1_, s2_, s3_, ia_, ja_]
     rfl
    refine tA_ 11 39 ?_ (f_ 15 12) rfl rfl (by kernel_rfl) (fun _ _ _ h => h) (by rfl) ?_ hHeld ?_ ?_ ?_; rotate_left
    ·rintro w' ⟨s0, s1, s2, s3⟩
     go_simp; try with_reducible rfl
    rotate_left
    ·simp only [Act.put, s1_, s2_, s3_, ia_, ja_]
     rfl
    refine one_ (i := 12) (N := some 40) (f_ 15 13) rfl rfl (by kernel_rfl) (by decide) (fun K hK => ?_); refine wb_ Tryz.func117 (by kernel_rfl) rfl #[.slice Au nu cu, .int .i64 x] (by rfl) rfl rfl (by (try simp only [List.map_toArray, List.map_cons, List.map_nil]); rfl) ?_
    refine (fu_ Au cu nu (nb_ (l0.take kk) s) x W2 HRD.out HLE.out HLL.out HNU.out).mono ?_; rintro e w3 ⟨A5, n5, c5, rfl, hb3, hcase⟩; have HB3 := aM_ hb3; have HCASE := aM_ hcase; clear hb3 hcase; refine ⟨_, rfl, ?_⟩; refine hK.out _ _ ⟨ha_ HB3.out hHeld.1, ha_ HB3.out hHeld.2.1, ha_ HB3.out hHeld.2.2.1, ha_ HB3.out hHeld.2.2.2⟩ (fun hHeld => ?_); clear hK K; refine wa_ (a' := ?_) ?_ ?_; rotate_left
    ·show Act.put _ (some 40) _ = _
     simp only [Act.put, s1_, s2_, s3_, ia_, ja_]; rfl
    refine pU_ 13 41 ?_ (f_ 15 14) rfl rfl (by kernel_rfl) (fun _ _ _ h => h) (by rfl) ?_ ?_ ?_ ?_; rotate_left
    ·intro w'
     go_simp; try with_reducible rfl
    rotate_left
    ·simp only [Act.put, s1_, s2_, s3_, ia_, ja_]
     rfl
    refine qg_ (i := 14) (N := none) (f_ 15 15) rfl rfl (by kernel_rfl) (by decide) (fun K hK => ?_); have hs24 : w3.cell? ⟨g, s, none⟩ = some (.slice Au nu cu) := hHeld.2.2.2; have hfs24 : w3.frozen? ⟨g, s, none⟩ = false := da_ (oa_ HBG.out HB3.out) s; refine og_ (w1 := ?_) (by rfl) rfl ?_ ?_; rotate_left
    ·go_simp
     rfl
    refine hK.out _ _ ?_; clear hK K; refine je_ (by kernel_rfl) ?_
    try go_wp2
    go_roundg (l0.length - (kk + 1))
    case measure => omega
    case rel =>
     refine ⟨kk + 1, by omega, by omega, by go_num, ⟨?_⟩, ⟨?_⟩⟩
     ·obtain ⟨f', h'⟩ := HX2.out.swap (rows' := nb_ (l0.take (kk + 1))) HB3.out HSZ.out HV.out (fun j hj => by rw [HST.out, if_neg hj]) (v1 := .slice A5 n5 c5) (by rw [HST.out, if_pos rfl]; exact HCASE.out)
      exact ⟨_, _, h'⟩
     exact (HB2.out.trans (HB3.out.mono HSZ.out)).setCell (Nat.le_refl _) _
   have hx0z : decide (0 ≤ x) = false := decide_eq_false hx0
   have HST : Az (nb_ (l0.take (kk + 1)) = nb_ (l0.take kk)) := ⟨by
    rw [HSN.out]
    funext j
    unfold qe_ oneOf
    rw [HRDX.out, if_neg (fun h => hx0 (of_decide_eq_true h.1).2)]⟩
   clear hone
   go_wp2
   go_roundg (l0.length - (kk + 1))
   case measure => omega
   case rel => exact ⟨kk + 1, by omega, by omega, by go_num, ⟨by rw [HST.out]; exact HX1.out⟩, HB1⟩
  have HB1 := aM_ (aa_ HB.out (.cells #[.int .i64 s, .slice A1 y.f1.length c1, .int .i64 y.f2.f0, .slice A3 y.f2.f1.length c3, .int .i64 y.f3] 56)); have HX1 : Az (∃ vals f, URows w.heap.size w.heap.size (nb_ (l0.take kk)) 20 (wr.alloc (.cells #[.int .i64 s, .slice A1 y.f1.length c1, .int .i64 y.f2.f0, .slice A3 y.f2.f1.length c3, .int .i64 y.f3] 56)) vals f) := ⟨by obtain ⟨vals, f, h⟩ := HX.out; exact ⟨vals, f, h.below (aa_ (Below.refl _ _) _)⟩⟩; have honez : ((y.f1.length : Int) == 1) = false := beq_eq_false_iff_ne.2 (by omega)
  have HST : Az (nb_ (l0.take (kk + 1)) = nb_ (l0.take kk)) := ⟨by
   rw [HSN.out]
   funext j
   unfold qe_ oneOf
   rw [if_neg (fun h => hone (of_decide_eq_true h.1).1)]⟩
  clear hone
  go_wp2
  go_roundg (l0.length - (kk + 1))
  case measure => omega
  case rel => exact ⟨kk + 1, by omega, by omega, by go_num, ⟨by rw [HST.out]; exact HX1.out⟩, HB1⟩
 have hltz : ¬ (kk : Int) < (l0.length : Int) := by omega
 have hkl : kk = l0.length := by omega
 subst hkl
 obtain ⟨vals, f, hU1⟩ := HX.out
 rw [List.take_length] at hU1
 have HV := aM_ hU1.toS
 clear hU1 HX
 go_wp2
 go_ret
 exact ⟨_, rfl, HV.out, HB.out⟩
theorem gm_ (fv : Value) (A0 : Option Addr) (c0 : Nat) (l0 : List S56) (p : S56 → Bool) (w : World) (hr0 : Kd.C k56 w A0 l0.length l0) (hc0 : l0.length ≤ c0)
  (hf : le_ Tryz.prog w (ej_ k56) fv p) :
  Calls Tryz.prog 132 #[.slice A0 l0.length c0, fv] w fun e w' => e = .returned (.int .i64 (xd_ p l0)) ∧ Below w.heap.size w w' := by
 obtain ⟨g, pre, lb, rfl, eg, hq⟩ := hf
 have hl : l0.length ≤ 9223372036854775807 := hr0.2.1
 have HR := aM_ hr0
 clear hr0
 have HQ := aM_ hq
 clear hq
 go_enter Tryz.func132, Tryz.ntmps132
 go_wp2
 go_loopg [8] l0.length (fun gg s8 wr => ∃ kk : Nat, kk ≤ l0.length ∧ l0.length - kk ≤ gg ∧ s8 = .int .i64 kk ∧ Az (Below w.heap.size w wr) ∧ Az (∀ j, j < kk → ∀ h : j < l0.length, p l0[j] = false))
 case atStart => exact ⟨0, Nat.zero_le _, by omega, rfl, ⟨Below.refl _ w⟩, ⟨fun j hj => absurd hj (Nat.not_lt_zero _)⟩⟩
 obtain ⟨kk, hkk, hg, rfl, BW, A⟩ := hrel
 by_cases hlt : kk < l0.length
 ·have hltz : (kk : Int) < (l0.length : Int) := by omega
  obtain ⟨ad, A1, c1, A3, c3, hA, h0, h1, h2, h3, h4, l1, g1, l3, g3⟩ := bj_ (Kd.C_below HR.out BW.out) kk (by omega) hltz; have hcall := HQ.out wr (yb_ l0 kk) _ BW.out ⟨_, rfl, k56_mk wr (yb_ l0 kk) l1 g1 l3 g3⟩; have hx : yb_ l0 kk = l0[kk] := by simp [yb_, List.getD_eq_getElem?_getD, List.getElem?_eq_getElem hlt]
  have HX := aM_ hx; generalize yb_ l0 kk = y at *; rw [Int.toNat_natCast] at h0 h1 h2 h3 h4; subst hA; clear hx l1 g1 l3 g3
  cases hp : p y with
  | true =>
   rw [hp] at hcall
   go_wp2_with fail
   refine hcall.mono ?_; rintro e w' ⟨rfl, hb'⟩
   go_wp2
   go_ret
   refine ⟨?_, ef_ BW.out BW.out.size hb'⟩; rw [ci_ hlt A.out (by rw [← HX.out]; exact hp)]
   rfl
  | false =>
   rw [hp] at hcall
   go_wp2_with fail
   refine hcall.mono ?_; rintro e w' ⟨rfl, hb'⟩
   go_wp2
   go_roundg (l0.length - (kk + 1))
   case measure => omega
   case rel =>
    refine ⟨kk + 1, by omega, by omega, by go_num, ⟨ef_ BW.out BW.out.size hb'⟩, ⟨fun j hj hlt => ?_⟩⟩
    by_cases e : j = kk
    ·subst e
     rw [← HX.out]; exact hp
    exact A.out j (by omega) hlt
 have hltz : ¬ (kk : Int) < (l0.length : Int) := by omega
 have : kk = l0.length := by omega
 subst this
 go_wp2
 go_ret
 refine ⟨?_, BW.out⟩
 rw [zi_ A.out]
 rfl
theorem wj_ (fv : Value) (A0 : Option Addr) (c0 : Nat) (l0 : List S56) (p : S56 → Bool) (w : World) (hr0 : Kd.C k56 w A0 l0.length l0) (hc0 : l0.length ≤ c0)
  (hf : le_ Tryz.prog w (ej_ k56) fv p) :
  Calls Tryz.prog 95 #[.slice A0 l0.length c0, fv] w fun e w' => e = .returned (.bool (l0.any p)) ∧ Below w.heap.size w w' := by
 have hc := gm_ fv A0 c0 l0 p w hr0 hc0 hf
 rw [← hm_]
 clear hr0 hf
 generalize xd_ p l0 = q at hc
 go_enter Tryz.func95, Tryz.ntmps95
 go_wp2_with fail
 refine hc.mono ?_
 rintro e w' ⟨rfl, hb'⟩
 go_wp2
 go_ret
 exact ⟨rfl, hb'⟩
theorem pe_ {n : Int} (h : -9223372036854775808 ≤ n ∧ n ≤ 9223372036854775807) : wrap64 n = n := by unfold wrap64; omega
theorem ns_ (l : List Int) (a : Int) (hl : l.length ≤ 9223372036854775807) : ∀ (n k : Nat) (x : Nat), x ≤ l.length → l.length - x = n → n < k → ∃ i : Int, slices_Index_int_int.l0 k l a (l.length : Int) x = some i ∧ (decide (i ≥ 0) = decide (a ∈ l.drop x)) := by
 intro n
 induction n with
 | zero =>
  intro k x hx hn hk; obtain ⟨k, rfl⟩ : ∃ j, k = j + 1 := ⟨k - 1, by omega⟩; have he : x = l.length := by omega
  subst he; refine ⟨-1, ?_, by simp⟩; simp only [slices_Index_int_int.l0]
  rw [if_neg (by omega)]
 | succ n ih =>
  intro k x hx hn hk; obtain ⟨k, rfl⟩ : ∃ j, k = j + 1 := ⟨k - 1, by omega⟩; have hlt : x < l.length := by omega
  simp only [slices_Index_int_int.l0]; rw [if_pos (by omega), if_pos (by omega), if_pos (by omega), df_ l x hlt, List.drop_eq_getElem_cons hlt]
  by_cases he : a = l[x]
  ·rw [if_pos he]
   exact ⟨x, rfl, by rw [← he, decide_eq_true (Int.natCast_nonneg x : (x : Int) ≥ 0), decide_eq_true List.mem_cons_self]⟩
  rw [if_neg he, pe_ (by omega)]; obtain ⟨i, h1, h2⟩ := ih k (x + 1) (by omega) (by omega) (by omega); refine ⟨i, h1, ?_⟩; rw [h2]; exact decide_eq_decide.2 ⟨fun h => List.mem_cons_of_mem _ h, fun h => (List.mem_cons.1 h).elim (fun h => absurd h he) id⟩
theorem kn_ (l : List Int) (a : Int) (k : Nat) (hl : l.length ≤ 9223372036854775807) (hk : l.length < k) : slices_Contains_int_int.f k l a = some (decide (a ∈ l)) := by
 obtain ⟨i, h1, h2⟩ := ns_ l a hl l.length k 0 (Nat.zero_le _) rfl hk
 unfold slices_Contains_int_int.f slices_Index_int_int.f
 rw [show ((0 : Nat) : Int) = 0 from rfl] at h1
 rw [h1]
 simp only [Option.bind_some, h2, List.drop_zero]
def ge_ (r : dc_) : Bool := hf_ r.f0 r.f1 r.f2.f0 r.f2.f1 r.f3
theorem hp_ (w : World) : le_ Tryz.prog w (ej_ k56) (.func (.func 96) #[] #[]) (fun r => !ge_ r) := by
 refine ⟨_, _, _, rfl, enters_of Tryz.func96 (by kernel_rfl) rfl, ?_⟩
 rintro W x v hb ⟨cs, rfl, hK⟩
 obtain ⟨A1, c1, A3, c3, rfl, l1, g1, l3, g3⟩ := qq_ hK
 clear hb hK
 have hcall := gram_Right.calls x.f0 A1 c1 x.f1 x.f2.f0 A3 c3 x.f2.f1 x.f3 (ge_ x) (W.alloc (.cells #[.int .i64 x.f0, .slice A1 x.f1.length c1, .int .i64 x.f2.f0, .slice A3 x.f2.f1.length c3, .int .i64 x.f3] 56)) (Kd.C_alloc g1 _) l1 (Kd.C_alloc g3 _) l3 rfl
 clear g1 g3
 cases hp : ge_ x with
 | true =>
  rw [hp] at hcall
  go_enter Tryz.func96, Tryz.ntmps96
  go_wp2_with fail
  refine hcall.mono ?_; rintro e w' ⟨rfl, hb'⟩; have HB := aM_ (fa_ (aa_ (Below.refl _ W) _) hb')
  go_wp2
  go_ret
  exact ⟨sd_ (by rw [hp]; rfl), HB.out⟩
 | false =>
  rw [hp] at hcall
  go_enter Tryz.func96, Tryz.ntmps96
  go_wp2_with fail
  refine hcall.mono ?_; rintro e w' ⟨rfl, hb'⟩; have HB := aM_ (fa_ (aa_ (Below.refl _ W) _) hb')
  go_wp2
  go_ret
  exact ⟨sd_ (by rw [hp]; rfl), HB.out⟩
theorem gp_ (w : World) (g : Nat) (A : Option Addr) (c : Nat) (rows : List (List Int)) (hg : w.cell? ⟨g, 0, none⟩ = some (.slice A rows.length c)) (hlen : rows.length = 20) (hC : Kd.C (Kd.slice 3 (Kd.int .i64)) w A rows.length rows) :
  zj_ Tryz.prog w pc_ (.func (.func 101) #[] #[.pointer (some ⟨g, 0, none⟩)]) (fun y => li_ rows y) := by
 refine ⟨_, _, _, rfl, enters_of Tryz.func101 (by kernel_rfl) rfl, ?_⟩
 rintro W x hb ⟨hx0, hx1⟩
 have hxl : x < (rows.length : Int) := by omega
 have hcell := ha_ hb hg
 obtain ⟨ad, A0, c0, rfl, h0, h1, h2⟩ := at_L5 (Kd.C_below hC hb) x hx0 hxl
 have hx0' : ¬ x < 0 := by omega
 clear hb hg hC
 have H2 := aM_ h2
 clear h2
 go_enter Tryz.func101, Tryz.ntmps101
 go_wp2
 go_ret
 exact ⟨A0, c0, rfl, h1, H2.out, Below.refl _ _⟩
def bb_ (l0 : List dc_) : Int → List Int := fun y => li_ (kh_ l0) y
theorem xm_ (l0 : List dc_) : (kh_ l0).length = 20 := by simp [kh_]
theorem mh_ (l0 : List dc_) (x : Nat) (h : x < 20) : bb_ l0 x = sc_ (fd_ l0) x 20 := by
 unfold bb_ li_ kh_
 rw [Int.toNat_natCast, List.getD_eq_getElem?_getD, List.getElem?_map, List.getElem?_range h]
 rfl
theorem jj_ (l0 : List dc_) (x : Int) (h : pc_ x) : (bb_ l0 x).length ≤ 20 := by
 obtain ⟨n, rfl⟩ : ∃ n : Nat, x = n := ⟨x.toNat, by have := h.1; omega⟩
 rw [mh_ l0 n (by have := h.2; omega)]
 exact sk_ _ _ _
theorem rc_ (l0 : List dc_) (x : Int) (h : pc_ x) : ∀ y ∈ bb_ l0 x, pc_ y := by
 obtain ⟨n, rfl⟩ : ∃ n : Nat, x = n := ⟨x.toNat, by have := h.1; omega⟩
 rw [mh_ l0 n (by have := h.2; omega)]
 intro y hy
 exact (ee_ y).1 (List.mem_filter.1 hy).1
noncomputable def ff_ (l0 : List dc_) (x : Int) : Bool := decide (x ∈ jf_ (bb_ l0) (bb_ l0 x))
noncomputable def cd_ (l0 : List dc_) : Bool := decide (l0.length ≤ 60) && (l0.all ge_ && symbols.all fun x => !ff_ l0 x)
theorem mn_ (l0 : List dc_) (h1 : l0.length ≤ 60) (h2 : l0.all ge_ = true) : ak_ l0 = true := by
 unfold ak_
 rw [Bool.and_eq_true]
 refine ⟨List.all_eq_true.2 fun r hr => ?_, decide_eq_true (by omega)⟩
 have h3 := List.all_eq_true.1 h2 r hr
 unfold ge_ hf_ af_ at h3
 simp only [Bool.and_eq_true, decide_eq_true_eq] at h3
 exact decide_eq_true h3.1
theorem kl_ (l0 : List dc_) (fv : Value) (A : Option Addr) (c : Nat) (x : Int) (hx : pc_ x) (w : World) (hf : zj_ Tryz.prog w pc_ fv (bb_ l0)) (hC : Kd.C (Kd.int .i64) w A (bb_ l0 x).length (bb_ l0 x)) (hc : (bb_ l0 x).length ≤ c) :
  Calls Tryz.prog 100 #[.slice A (bb_ l0 x).length c, fv] w fun e w' => ∃ v0_ : Value, e = .returned (v0_) ∧ Kd.R (Kd.int .i64) 3 w' w.heap.size (fun _ => True) v0_ (jf_ (bb_ l0) (bb_ l0 x)) ∧ Below w.heap.size w w' := by
 obtain ⟨k, r, h1, h2⟩ := qs_ (bb_ l0) (fun y hy => Nat.le_trans (jj_ l0 y hy) (by omega)) (rc_ l0) (bb_ l0 x) (rc_ l0 x hx) (Nat.le_trans (jj_ l0 x hx) (by omega))
 rw [← h2]
 exact dv_ fv (bb_ l0) pc_ (fun y hy => ⟨⟨by have := hy.1; omega, by have := hy.2; omega⟩, rc_ l0 y hy⟩) k A c (bb_ l0 x) r w hf (rc_ l0 x hx) hC hc h1
theorem ki_ (next : Int → List Int) (l : List Int) : (jf_ next l).length ≤ 20 := Nat.le_trans (List.length_filter_le _ _) (by decide)
theorem ws_ (A0 : Option Addr) (c0 : Nat) (l0 : List dc_) (w : World) (hr0 : Kd.C k56 w A0 l0.length l0) (hc0 : l0.length ≤ c0) :
  Calls Tryz.prog 47 #[.slice A0 l0.length c0] w fun e w' => e = .returned (.bool (cd_ l0)) ∧ Below w.heap.size w w' := by
 by_cases h60 : l0.length ≤ 60
 ·have h60z : ¬ ((l0.length : Int) > 60) := by omega
  have hcall := wj_ _ A0 c0 l0 _ w hr0 hc0 (hp_ w); rw [uh_] at hcall; have HR := aM_ hr0; have HC := aM_ hc0; clear hr0 hc0
  cases hall : l0.all ge_ with
  | false =>
   rw [hall] at hcall; have hz : cd_ l0 = false := by simp [cd_, hall]
   go_enter Tryz.func47, Tryz.ntmps47
   go_wp2_with fail
   refine hcall.mono ?_; rintro e w' ⟨rfl, hb'⟩; have HB := aM_ hb'; clear hb'
   go_wp2
   go_ret
   exact ⟨sd_ hz.symm, HB.out⟩
  | true =>
   rw [hall] at hcall; have hu := mn_ l0 h60 hall
   go_enter Tryz.func47, Tryz.ntmps47
   go_wp2_with fail
   refine hcall.mono ?_; rintro e w1 ⟨rfl, hb'⟩; have HB1 := aM_ hb'; have HR1 := aM_ (Kd.C_below HR.out hb'); clear hb' hcall
   go_wp2_with fail
   refine (ir_ A0 c0 l0 w1 HR1.out HC.out hu).mono ?_; rintro e w2 ⟨v2, rfl, hS, hb2⟩; obtain ⟨A2, c2, rfl, hc2, hC2⟩ := Kd.S_reads hS; have hlen := xm_ l0; have HB2 := aM_ (fa_ HB1.out hb2); have HF0 := aM_ hC2; clear hS hb2 hc2 hC2; rw [hlen]; have HLN := aM_ hlen; clear hlen; have HG := aM_ (fo_ w2 (.slice A2 20 c2) 111); have HB3 := aM_ (aa_ HB2.out (.cells #[.slice A2 20 c2] 111)); have HC3 := aM_ (Kd.C_alloc HF0.out (.cells #[.slice A2 20 c2] 111)); clear HF0 HB2
   have HFN : Az (zj_ Tryz.prog (w2.alloc (.cells #[.slice A2 20 c2] 111)) pc_ (.func (.func 101) #[] #[.pointer (some ⟨w2.heap.size, 0, none⟩)]) (bb_ l0)) :=
    ⟨gp_ _ w2.heap.size A2 c2 (kh_ l0) (by rw [HLN.out]; exact HG.out) HLN.out HC3.out⟩
   go_wp2
   generalize w2.heap.size = g at *; generalize (w2.alloc (.cells #[.slice A2 20 c2] 111)) = w3 at *
   go_loopg [17] 20 (fun gg s17 wr => ∃ kk : Nat, kk ≤ 20 ∧ 20 - kk ≤ gg ∧ s17 = .int .i64 kk ∧ Az (Below w3.heap.size w3 wr) ∧ Az (∀ j : Nat, j < kk → ff_ l0 j = false))
   case atStart => exact ⟨0, by omega, by omega, rfl, ⟨Below.refl _ _⟩, ⟨fun j hj => absurd hj (Nat.not_lt_zero _)⟩⟩
   obtain ⟨kk, hkk, hg, rfl, BW, AB⟩ := hrel
   by_cases hlt : kk < 20
   ·have hltz : (kk : Int) < 20 := by omega
    have hsym : pc_ (kk : Int) := ⟨by omega, by omega⟩
    have HFN2 : Az (zj_ Tryz.prog wr pc_ (.func (.func 101) #[] #[.pointer (some ⟨g, 0, none⟩)]) (bb_ l0)) := by
     obtain ⟨g', pre, lb, e1, e2, e3⟩ := HFN.out; exact ⟨g', pre, lb, e1, e2, fun W x hb hd => e3 W x (BW.out.trans (hb.mono BW.out.size)) hd⟩
    obtain ⟨ad, A4, c4, hA, h0, h1, h2⟩ := at_L5 (Kd.C_below HC3.out BW.out) kk (by omega) (by rw [HLN.out]; exact hltz); rw [Int.toNat_natCast] at h0; subst hA; have hrow : li_ (kh_ l0) (kk : Int) = bb_ l0 kk := rfl; rw [hrow] at h0 h1 h2; have H1 := aM_ h1; have H2 := aM_ h2; clear hrow h1 h2
    go_wp2_with fail
    refine (kl_ l0 _ A4 c4 kk hsym wr HFN2.out H2.out H1.out).mono ?_; rintro e w4 ⟨v4, rfl, hR4, hb4⟩; obtain ⟨A5, c5, rfl, hc5, hC5⟩ := Kd.R_reads hR4; have HB4 := aM_ (fa_ BW.out hb4); have HC5 := aM_ hC5; have HL5 := aM_ hc5; have hcs := kn_ (jf_ (bb_ l0) (bb_ l0 kk)) kk 100 (Nat.le_trans (ki_ _ _) (by omega)) (Nat.lt_of_le_of_lt (ki_ _ _) (by omega)); have HCS := aM_ hcs; clear hR4 hb4 hC5 hc5 hcs h0; have hlb : decide ((kk : Int) ∈ jf_ (bb_ l0) (bb_ l0 kk)) = ff_ l0 kk := rfl; have HLB := aM_ hlb; clear hlb
    cases hb : ff_ l0 kk with
    | true =>
     have HCS2 : Az (slices_Contains_int_int.f 100 (jf_ (bb_ l0) (bb_ l0 kk)) kk = some true) := ⟨by rw [HCS.out, HLB.out, hb]⟩
     have hz : cd_ l0 = false := by
      unfold cd_; have : (symbols.all fun x => !ff_ l0 x) = false := List.all_eq_false.2 ⟨kk, (ee_ _).2 hsym, by simp [hb]⟩; rw [this, Bool.and_false, Bool.and_false]
     go_wp2_with fail
     refine (slices_Contains_int_int.calls 100 A5 c5 _ kk true w4 HC5.out HL5.out HCS2.out).mono ?_; rintro e w' ⟨rfl, ⟨nd, rfl⟩⟩
     go_wp2
     go_ret
     exact ⟨sd_ hz.symm, ca_ (HB3.out.trans (HB4.out.mono HB3.out.size)) _⟩
    | false =>
     have HCS2 : Az (slices_Contains_int_int.f 100 (jf_ (bb_ l0) (bb_ l0 kk)) kk = some false) := ⟨by rw [HCS.out, HLB.out, hb]⟩
     go_wp2_with fail
     refine (slices_Contains_int_int.calls 100 A5 c5 _ kk false w4 HC5.out HL5.out HCS2.out).mono ?_; rintro e w' ⟨rfl, ⟨nd, rfl⟩⟩
     go_wp2
     go_roundg (20 - (kk + 1))
     case measure => omega
     case rel =>
      refine ⟨kk + 1, by omega, by omega, by go_num, ⟨ca_ HB4.out _⟩, ⟨fun j hj => ?_⟩⟩
      by_cases e : j = kk
      ·subst e; exact hb
      exact AB.out j (by omega)
   have hltz : ¬ (kk : Int) < 20 := by omega
   have hkk : kk = 20 := by omega
   subst hkk
   have hz : cd_ l0 = true := by
    unfold cd_
    have : (symbols.all fun x => !ff_ l0 x) = true := by
     rw [List.all_eq_true]; intro x hx; have hs := (ee_ _).1 hx; have h9 := AB.out x.toNat (by have := hs.1; have := hs.2; omega); rw [Int.toNat_of_nonneg hs.1] at h9; rw [h9]; rfl
    rw [this, hall, decide_eq_true h60]; rfl
   go_wp2
   go_ret
   exact ⟨by first | rfl | exact sd_ hz.symm, HB3.out.trans (BW.out.mono HB3.out.size)⟩
 have h60z : (l0.length : Int) > 60 := by omega
 have hz : cd_ l0 = false := by simp [cd_, h60]
 go_enter Tryz.func47, Tryz.ntmps47
 go_wp2
 go_ret
 exact ⟨sd_ hz.symm, Below.refl _ _⟩
mutual
noncomputable def r4_wants.j0 : Nat → Int → Bool → Option (Int × Int)
 | 0, _, _ => none
 | k + 1, x4, x5 => if x5 = true then (some (1, 1)) else (if x4 = 2 then (r4_wants.j1 k x4 (x4 == 2)) else (if x4 = 5 then (r4_wants.j1 k x4 (x4 == 5)) else (if x4 = 9 then (r4_wants.j1 k x4 (x4 == 9)) else (if x4 = 12 then (r4_wants.j1 k x4 (x4 == 12)) else (if x4 = 13 then (r4_wants.j1 k x4 (x4 == 13)) else (if x4 = 14 then (r4_wants.j1 k x4 (x4 == 14)) else (r4_wants.j1 k x4 (x4 == 15))))))))
noncomputable def r4_wants.j1 : Nat → Int → Bool → Option (Int × Int)
 | 0, _, _ => none
 | k + 1, x4, x10 => if x10 = true then (some (2, 2)) else (if x4 = 1 then (r4_wants.j2 k x4 (x4 == 1)) else (r4_wants.j2 k x4 (x4 == 6)))
noncomputable def r4_wants.j2 : Nat → Int → Bool → Option (Int × Int)
 | 0, _, _ => none
 | k + 1, x4, x18 => if x18 = true then (some (3, 3)) else (if x4 = 3 then (r4_wants.j3 k x4 (x4 == 3)) else (r4_wants.j3 k x4 (x4 == 4)))
noncomputable def r4_wants.j3 : Nat → Int → Bool → Option (Int × Int)
 | 0, _, _ => none
 | k + 1, x4, x21 => if x21 = true then (some (2, 3)) else (if x4 = 10 then (some (1, 6)) else (some (1, 0)))
end
noncomputable def r4_wants.f (k : Nat) (a0 : Int) : Option (Int × Int) := if a0 = 0 then (r4_wants.j0 k a0 (a0 == 0)) else (if a0 = 7 then (r4_wants.j0 k a0 (a0 == 7)) else (if a0 = 8 then (r4_wants.j0 k a0 (a0 == 8)) else (r4_wants.j0 k a0 (a0 == 11))))
theorem r4_wants.calls (k : Nat) (a0 : Int) (r1 : Int) (r2 : Int) (w : World) (h : r4_wants.f k a0 = some (r1, r2)) :
  Calls Tryz.prog 116 #[.int .i64 a0] w fun e w' => e = .returned (.tuple #[.int .i64 r1, .int .i64 r2]) ∧ Drawn0 w w' := by
 have H : (if a0 = 0 then (r4_wants.j0 k a0 (a0 == 0)) else (if a0 = 7 then (r4_wants.j0 k a0 (a0 == 7)) else (if a0 = 8 then (r4_wants.j0 k a0 (a0 == 8)) else (r4_wants.j0 k a0 (a0 == 11))))) = some (r1, r2) := h
 clear h
 have HC2 := aM_ H
 clear H
 go_enter Tryz.func116, Tryz.ntmps116
 go_upto_if 5 with (fail)
 go_cut [5] (fun v5 wc => ∃ (kq : Nat) (x5_1 : Bool), v5 = .bool x5_1 ∧ Az (r4_wants.j0 kq a0 x5_1 = some (r1, r2)) ∧ Az (kq ≤ k) ∧ Drawn0 w wc)
 case first =>
  have H := HC2.out; clear HC2
  by_cases c3 : a0 = 0
  ·rw [if_pos c3] at H
   have c3b0 : (a0 == 0) = true := beq_iff_eq.mpr c3; have c3b1 : (a0 != 0) = false := bne_eq_false_iff_eq.mpr c3; clear c3
   (first | rw [c3b0] | (simp only [ia_, ja_]; rw [c3b0]) | skip)
   have H' := aM_ H; clear H
   go_wp2
   go_meet
   case rel => exact ⟨_, ((a0 == 0)), (by first | rfl | (simp; done) | (simp [*]; done)), H', ⟨by first | omega | exact Nat.le_refl _⟩, by repeat (first | exact Drawn0.refl _ | apply Drawn0.step)⟩
  rw [if_neg c3] at H; have c3b0 : (a0 == 0) = false := beq_eq_false_iff_ne.mpr c3; have c3b1 : (a0 != 0) = true := bne_iff_ne.mpr c3
  (first | rw [c3b0] | (simp only [ia_, ja_]; rw [c3b0]) | skip)
  by_cases c4 : a0 = 7
  ·rw [if_pos c4] at H
   have c4b0 : (a0 == 7) = true := beq_iff_eq.mpr c4; have c4b1 : (a0 != 7) = false := bne_eq_false_iff_eq.mpr c4; clear c4; have H' := aM_ H; clear H
   go_wp2
   go_meet
   case rel => exact ⟨_, ((a0 == 7)), (by first | rfl | (simp; done) | (simp [*]; done)), H', ⟨by first | omega | exact Nat.le_refl _⟩, by repeat (first | exact Drawn0.refl _ | apply Drawn0.step)⟩
  rw [if_neg c4] at H; have c4b0 : (a0 == 7) = false := beq_eq_false_iff_ne.mpr c4; have c4b1 : (a0 != 7) = true := bne_iff_ne.mpr c4
  by_cases c5 : a0 = 8
  ·rw [if_pos c5] at H
   have c5b0 : (a0 == 8) = true := beq_iff_eq.mpr c5; have c5b1 : (a0 != 8) = false := bne_eq_false_iff_eq.mpr c5; clear c5; have H' := aM_ H; clear H
   go_wp2
   go_meet
   case rel => exact ⟨_, ((a0 == 8)), (by first | rfl | (simp; done) | (simp [*]; done)), H', ⟨by first | omega | exact Nat.le_refl _⟩, by repeat (first | exact Drawn0.refl _ | apply Drawn0.step)⟩
  rw [if_neg c5] at H; have c5b0 : (a0 == 8) = false := beq_eq_false_iff_ne.mpr c5; have c5b1 : (a0 != 8) = true := bne_iff_ne.mpr c5; have H' := aM_ H; clear H
  go_wp2
  go_meet
  case rel => exact ⟨_, ((a0 == 11)), (by first | rfl | (simp; done) | (simp [*]; done)), H', ⟨by first | omega | exact Nat.le_refl _⟩, by repeat (first | exact Drawn0.refl _ | apply Drawn0.step)⟩
 clear HC2
 obtain ⟨kq, x5_1, rfl, HA, HJ1, ⟨mc1, rfl⟩⟩ := hcut
 cases kq with
 | zero => exact absurd HA.out (by simp [r4_wants.j0])
 | succ kj1 =>
  have H := HA.out; clear HA; simp only [r4_wants.j0] at H
  by_cases c6 : x5_1 = true
  ·subst c6
   have H1 : (some (1, 1)) = some (r1, r2) := by rw [if_pos rfl] at H; exact H
   clear H; have H := H1; clear H1; simp only [Option.some.injEq, Prod.mk.injEq] at H; obtain ⟨rfl, rfl⟩ := H
   go_wp2
   go_ret2
   exact ⟨by first | rfl | (simp; done) | (simp [*]; done), by repeat (first | exact Drawn0.refl _ | apply Drawn0.step)⟩
  replace c6 := Bool.eq_false_iff.mpr c6; subst c6; have H1 : (if a0 = 2 then (r4_wants.j1 kj1 a0 (a0 == 2)) else (if a0 = 5 then (r4_wants.j1 kj1 a0 (a0 == 5)) else (if a0 = 9 then (r4_wants.j1 kj1 a0 (a0 == 9)) else (if a0 = 12 then (r4_wants.j1 kj1 a0 (a0 == 12)) else (if a0 = 13 then (r4_wants.j1 kj1 a0 (a0 == 13)) else (if a0 = 14 then (r4_wants.j1 kj1 a0 (a0 == 14)) else (r4_wants.j1 kj1 a0 (a0 == 15)))))))) = some (r1, r2) := by rw [if_neg (show ¬ (false = true) by decide)] at H; exact H
  clear H; have H := H1; clear H1; have HC7 := aM_ H; clear H
  go_upto_if 10 with (fail)
  go_cut [10] (fun v10 wc => ∃ (kq : Nat) (x10_6 : Bool), v10 = .bool x10_6 ∧ Az (r4_wants.j1 kq a0 x10_6 = some (r1, r2)) ∧ Az (kq ≤ kj1) ∧ Drawn0 w wc)
  case first =>
   have H := HC7.out; clear HC7
   by_cases c8 : a0 = 2
   ·rw [if_pos c8] at H
    have c8b0 : (a0 == 2) = true := beq_iff_eq.mpr c8; have c8b1 : (a0 != 2) = false := bne_eq_false_iff_eq.mpr c8; clear c8
    (first | rw [c8b0] | (simp only [ia_, ja_]; rw [c8b0]) | skip)
    have H' := aM_ H; clear H
    go_wp2
    go_meet
    case rel => exact ⟨_, ((a0 == 2)), (by first | rfl | (simp; done) | (simp [*]; done)), H', ⟨by have := HJ1.out; first | omega | exact Nat.le_refl _⟩, by repeat (first | exact Drawn0.refl _ | apply Drawn0.step)⟩
   rw [if_neg c8] at H; have c8b0 : (a0 == 2) = false := beq_eq_false_iff_ne.mpr c8; have c8b1 : (a0 != 2) = true := bne_iff_ne.mpr c8
   (first | rw [c8b0] | (simp only [ia_, ja_]; rw [c8b0]) | skip)
   by_cases c9 : a0 = 5
   ·rw [if_pos c9] at H
    have c9b0 : (a0 == 5) = true := beq_iff_eq.mpr c9; have c9b1 : (a0 != 5) = false := bne_eq_false_iff_eq.mpr c9; clear c9; have H' := aM_ H; clear H
    go_wp2
    go_meet
    case rel => exact ⟨_, ((a0 == 5)), (by first | rfl | (simp; done) | (simp [*]; done)), H', ⟨by have := HJ1.out; first | omega | exact Nat.le_refl _⟩, by repeat (first | exact Drawn0.refl _ | apply Drawn0.step)⟩
   rw [if_neg c9] at H; have c9b0 : (a0 == 5) = false := beq_eq_false_iff_ne.mpr c9; have c9b1 : (a0 != 5) = true := bne_iff_ne.mpr c9
   by_cases c10 : a0 = 9
   ·rw [if_pos c10] at H
    have c10b0 : (a0 == 9) = true := beq_iff_eq.mpr c10; have c10b1 : (a0 != 9) = false := bne_eq_false_iff_eq.mpr c10; clear c10; have H' := aM_ H; clear H
    go_wp2
    go_meet
    case rel => exact ⟨_, ((a0 == 9)), (by first | rfl | (simp; done) | (simp [*]; done)), H', ⟨by have := HJ1.out; first | omega | exact Nat.le_refl _⟩, by repeat (first | exact Drawn0.refl _ | apply Drawn0.step)⟩
   rw [if_neg c10] at H; have c10b0 : (a0 == 9) = false := beq_eq_false_iff_ne.mpr c10; have c10b1 : (a0 != 9) = true := bne_iff_ne.mpr c10
   by_cases c11 : a0 = 12
   ·rw [if_pos c11] at H
    have c11b0 : (a0 == 12) = true := beq_iff_eq.mpr c11; have c11b1 : (a0 != 12) = false := bne_eq_false_iff_eq.mpr c11; clear c11; have H' := aM_ H; clear H
    go_wp2
    go_meet
    case rel => exact ⟨_, ((a0 == 12)), (by first | rfl | (simp; done) | (simp [*]; done)), H', ⟨by have := HJ1.out; first | omega | exact Nat.le_refl _⟩, by repeat (first | exact Drawn0.refl _ | apply Drawn0.step)⟩
   rw [if_neg c11] at H; have c11b0 : (a0 == 12) = false := beq_eq_false_iff_ne.mpr c11; have c11b1 : (a0 != 12) = true := bne_iff_ne.mpr c11
   by_cases c12 : a0 = 13
   ·rw [if_pos c12] at H
    have c12b0 : (a0 == 13) = true := beq_iff_eq.mpr c12; have c12b1 : (a0 != 13) = false := bne_eq_false_iff_eq.mpr c12; clear c12; have H' := aM_ H; clear H
    go_wp2
    go_meet
    case rel => exact ⟨_, ((a0 == 13)), (by first | rfl | (simp; done) | (simp [*]; done)), H', ⟨by have := HJ1.out; first | omega | exact Nat.le_refl _⟩, by repeat (first | exact Drawn0.refl _ | apply Drawn0.step)⟩
   rw [if_neg c12] at H; have c12b0 : (a0 == 13) = false := beq_eq_false_iff_ne.mpr c12; have c12b1 : (a0 != 13) = true := bne_iff_ne.mpr c12
   by_cases c13 : a0 = 14
   ·rw [if_pos c13] at H
    have c13b0 : (a0 == 14) = true := beq_iff_eq.mpr c13; have c13b1 : (a0 != 14) = false := bne_eq_false_iff_eq.mpr c13; clear c13; have H' := aM_ H; clear H
    go_wp2
    go_meet
    case rel => exact ⟨_, ((a0 == 14)), (by first | rfl | (simp; done) | (simp [*]; done)), H', ⟨by have := HJ1.out; first | omega | exact Nat.le_refl _⟩, by repeat (first | exact Drawn0.refl _ | apply Drawn0.step)⟩
   rw [if_neg c13] at H; have c13b0 : (a0 == 14) = false := beq_eq_false_iff_ne.mpr c13; have c13b1 : (a0 != 14) = true := bne_iff_ne.mpr c13; have H' := aM_ H; clear H
   go_wp2
   go_meet
   case rel => exact ⟨_, ((a0 == 15)), (by first | rfl | (simp; done) | (simp [*]; done)), H', ⟨by have := HJ1.out; first | omega | exact Nat.le_refl _⟩, by repeat (first | exact Drawn0.refl _ | apply Drawn0.step)⟩
  clear HC7; obtain ⟨kq, x10_6, rfl, HA, HJ6, ⟨mc6, rfl⟩⟩ := hcut
  cases kq with
  | zero => exact absurd HA.out (by simp [r4_wants.j1])
  | succ kj6 =>
   have H := HA.out; clear HA; simp only [r4_wants.j1] at H
   by_cases c14 : x10_6 = true
   ·subst c14
    have H1 : (some (2, 2)) = some (r1, r2) := by rw [if_pos rfl] at H; exact H
    clear H; have H := H1; clear H1; simp only [Option.some.injEq, Prod.mk.injEq] at H; obtain ⟨rfl, rfl⟩ := H
    go_wp2
    go_ret2
    exact ⟨by first | rfl | (simp; done) | (simp [*]; done), by repeat (first | exact Drawn0.refl _ | apply Drawn0.step)⟩
   replace c14 := Bool.eq_false_iff.mpr c14; subst c14; have H1 : (if a0 = 1 then (r4_wants.j2 kj6 a0 (a0 == 1)) else (r4_wants.j2 kj6 a0 (a0 == 6))) = some (r1, r2) := by rw [if_neg (show ¬ (false = true) by decide)] at H; exact H
   clear H; have H := H1; clear H1; have HC15 := aM_ H; clear H
   go_upto_if 18 with (fail)
   go_cut [18] (fun v18 wc => ∃ (kq : Nat) (x18_14 : Bool), v18 = .bool x18_14 ∧ Az (r4_wants.j2 kq a0 x18_14 = some (r1, r2)) ∧ Az (kq ≤ kj6) ∧ Drawn0 w wc)
   case first =>
    have H := HC15.out; clear HC15
    by_cases c16 : a0 = 1
    ·rw [if_pos c16] at H
     have c16b0 : (a0 == 1) = true := beq_iff_eq.mpr c16; have c16b1 : (a0 != 1) = false := bne_eq_false_iff_eq.mpr c16; clear c16
     (first | rw [c16b0] | (simp only [ia_, ja_]; rw [c16b0]) | skip)
     have H' := aM_ H; clear H
     go_wp2
     go_meet
     case rel => exact ⟨_, ((a0 == 1)), (by first | rfl | (simp; done) | (simp [*]; done)), H', ⟨by have := HJ1.out; have := HJ6.out; first | omega | exact Nat.le_refl _⟩, by repeat (first | exact Drawn0.refl _ | apply Drawn0.step)⟩
    rw [if_neg c16] at H; have c16b0 : (a0 == 1) = false := beq_eq_false_iff_ne.mpr c16; have c16b1 : (a0 != 1) = true := bne_iff_ne.mpr c16
    (first | rw [c16b0] | (simp only [ia_, ja_]; rw [c16b0]) | skip)
    have H' := aM_ H; clear H
    go_wp2
    go_meet
    case rel => exact ⟨_, ((a0 == 6)), (by first | rfl | (simp; done) | (simp [*]; done)), H', ⟨by have := HJ1.out; have := HJ6.out; first | omega | exact Nat.le_refl _⟩, by repeat (first | exact Drawn0.refl _ | apply Drawn0.step)⟩
   clear HC15; obtain ⟨kq, x18_14, rfl, HA, HJ14, ⟨mc14, rfl⟩⟩ := hcut
   cases kq with
   | zero => exact absurd HA.out (by simp [r4_wants.j2])
   | succ kj14 =>
    have H := HA.out; clear HA; simp only [r4_wants.j2] at H
    by_cases c17 : x18_14 = true
    ·subst c17
     have H1 : (some (3, 3)) = some (r1, r2) := by rw [if_pos rfl] at H; exact H
     clear H; have H := H1; clear H1; simp only [Option.some.injEq, Prod.mk.injEq] at H; obtain ⟨rfl, rfl⟩ := H
     go_wp2
     go_ret2
     exact ⟨by first | rfl | (simp; done) | (simp [*]; done), by repeat (first | exact Drawn0.refl _ | apply Drawn0.step)⟩
    replace c17 := Bool.eq_false_iff.mpr c17; subst c17; have H1 : (if a0 = 3 then (r4_wants.j3 kj14 a0 (a0 == 3)) else (r4_wants.j3 kj14 a0 (a0 == 4))) = some (r1, r2) := by rw [if_neg (show ¬ (false = true) by decide)] at H; exact H
    clear H; have H := H1; clear H1; have HC18 := aM_ H; clear H
    go_upto_if 21 with (fail)
    go_cut [21] (fun v21 wc => ∃ (kq : Nat) (x21_17 : Bool), v21 = .bool x21_17 ∧ Az (r4_wants.j3 kq a0 x21_17 = some (r1, r2)) ∧ Az (kq ≤ kj14) ∧ Drawn0 w wc)
    case first =>
     have H := HC18.out; clear HC18
     by_cases c19 : a0 = 3
     ·rw [if_pos c19] at H
      have c19b0 : (a0 == 3) = true := beq_iff_eq.mpr c19; have c19b1 : (a0 != 3) = false := bne_eq_false_iff_eq.mpr c19; clear c19
      (first | rw [c19b0] | (simp only [ia_, ja_]; rw [c19b0]) | skip)
      have H' := aM_ H; clear H
      go_wp2
      go_meet
      case rel => exact ⟨_, ((a0 == 3)), (by first | rfl | (simp; done) | (simp [*]; done)), H', ⟨by have := HJ1.out; have := HJ6.out; have := HJ14.out; first | omega | exact Nat.le_refl _⟩, by repeat (first | exact Drawn0.refl _ | apply Drawn0.step)⟩
     rw [if_neg c19] at H; have c19b0 : (a0 == 3) = false := beq_eq_false_iff_ne.mpr c19; have c19b1 : (a0 != 3) = true := bne_iff_ne.mpr c19
     (first | rw [c19b0] | (simp only [ia_, ja_]; rw [c19b0]) | skip)
     have H' := aM_ H; clear H
     go_wp2
     go_meet
     case rel => exact ⟨_, ((a0 == 4)), (by first | rfl | (simp; done) | (simp [*]; done)), H', ⟨by have := HJ1.out; have := HJ6.out; have := HJ14.out; first | omega | exact Nat.le_refl _⟩, by repeat (first | exact Drawn0.refl _ | apply Drawn0.step)⟩
    clear HC18; obtain ⟨kq, x21_17, rfl, HA, HJ17, ⟨mc17, rfl⟩⟩ := hcut
    cases kq with
    | zero => exact absurd HA.out (by simp [r4_wants.j3])
    | succ kj17 =>
     have H := HA.out; clear HA; simp only [r4_wants.j3] at H
     by_cases c20 : x21_17 = true
     ·subst c20
      have H1 : (some (2, 3)) = some (r1, r2) := by rw [if_pos rfl] at H; exact H
      clear H; have H := H1; clear H1; simp only [Option.some.injEq, Prod.mk.injEq] at H; obtain ⟨rfl, rfl⟩ := H
      go_wp2
      go_ret2
      exact ⟨by first | rfl | (simp; done) | (simp [*]; done), by repeat (first | exact Drawn0.refl _ | apply Drawn0.step)⟩
     replace c20 := Bool.eq_false_iff.mpr c20; subst c20; have H1 : (if a0 = 10 then (some (1, 6)) else (some (1, 0))) = some (r1, r2) := by rw [if_neg (show ¬ (false = true) by decide)] at H; exact H
     clear H; have H := H1; clear H1
     by_cases c21 : a0 = 10
     ·rw [if_pos c21] at H
      have c21b0 : (a0 == 10) = true := beq_iff_eq.mpr c21; have c21b1 : (a0 != 10) = false := bne_eq_false_iff_eq.mpr c21; clear c21; simp only [Option.some.injEq, Prod.mk.injEq] at H; obtain ⟨rfl, rfl⟩ := H
      go_wp2
      go_ret2
      exact ⟨by first | rfl | (simp; done) | (simp [*]; done), by repeat (first | exact Drawn0.refl _ | apply Drawn0.step)⟩
     rw [if_neg c21] at H; have c21b0 : (a0 == 10) = false := beq_eq_false_iff_ne.mpr c21; have c21b1 : (a0 != 10) = true := bne_iff_ne.mpr c21; simp only [Option.some.injEq, Prod.mk.injEq] at H; obtain ⟨rfl, rfl⟩ := H
     go_wp2
     go_ret2
     exact ⟨by first | rfl | (simp; done) | (simp [*]; done), by repeat (first | exact Drawn0.refl _ | apply Drawn0.step)⟩
end Go.Proofs.YtiocgaekoeekgaaGreat.P
end
