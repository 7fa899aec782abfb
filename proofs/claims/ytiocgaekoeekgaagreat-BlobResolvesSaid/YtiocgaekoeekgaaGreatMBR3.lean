/- Any name is resolved as the document says: what the parent has stands ahead: BlobResolves answers true for all that it is given, with no condition. Part 3: contracts of the functions that the law reaches, and words for them. -/
import Derived.BigRegion
import Derived.Test.YtiocgaekoeekgaaGreatMBR2
set_option maxHeartbeats 32000000
set_option maxRecDepth 100000
section
namespace Go.Proofs.YtiocgaekoeekgaaGreat.P
open Go.RowKit YtiocgaekoeekgaaGreatW.PrintWords YtiocgaekoeekgaaGreatW.PrintLast YtiocgaekoeekgaaGreatW.PrintMore
attribute [local go_sem] ub_ rb_ cc_ bc_ kb_ jb_ tb_ qb_   
set_option linter.unusedVariables false
set_option linter.unusedSimpArgs false
mutual
noncomputable def interlocutorref3_size.j0 : Nat → Int → Bool → Option (Int)
 | 0, _, _ => none
 | k + 1, x0, x6 => if x6 = true then (some 2) else (if x0 ≥ 224 then (interlocutorref3_size.j1 k x0 (decide (x0 ≤ 239))) else (interlocutorref3_size.j1 k x0 false))
noncomputable def interlocutorref3_size.j1 : Nat → Int → Bool → Option (Int)
 | 0, _, _ => none
 | k + 1, x0, x13 => if x13 = true then (some 3) else (if x0 ≥ 240 then (if x0 ≤ 244 then (some 4) else (some 0)) else (some 0))
end
noncomputable def interlocutorref3_size.f (k : Nat) (a0 : Int) : Option (Int) := if a0 < 128 then (some 1) else (if a0 ≥ 194 then (interlocutorref3_size.j0 k a0 (decide (a0 ≤ 223))) else (interlocutorref3_size.j0 k a0 false))
theorem interlocutorref3_size.calls (k : Nat) (a0 : Int) (r : Int) (w : World) (h : interlocutorref3_size.f k a0 = some r) :
  Calls Tryz.prog 144 #[.int .u8 a0] w fun e w' => e = .returned (.int .i64 r) ∧ Drawn0 w w' := by
 have H : (if a0 < 128 then (some 1) else (if a0 ≥ 194 then (interlocutorref3_size.j0 k a0 (decide (a0 ≤ 223))) else (interlocutorref3_size.j0 k a0 false))) = some r := h
 clear h
 by_cases c2 : a0 < 128
 ·rw [if_pos c2] at H
  have c2b0 := decide_eq_true c2; clear c2; obtain rfl := Option.some.inj H
  go_enter Tryz.func144, Tryz.ntmps144
  go_wp2
  go_ret
  exact ⟨Tc_, Tb_⟩
 rw [if_neg c2] at H
 have c2b0 := decide_eq_false c2
 clear c2
 have HC3 := aM_ H
 clear H
 go_enter Tryz.func144, Tryz.ntmps144
 go_upto_region 3 with (fail)
 go_cut [6] (fun v6 wc => ∃ (kq : Nat) (x6_2 : Bool), v6 = .bool x6_2 ∧ Az (interlocutorref3_size.j0 kq a0 x6_2 = some r) ∧ Az (kq ≤ k) ∧ Drawn0 w wc)
 case first =>
  have H := HC3.out; clear HC3
  by_cases c4 : a0 ≥ 194
  ·rw [if_pos c4] at H
   have c4b0 := decide_eq_true c4; clear c4
   (first | rw [c4b0] | (simp only [ya_, za_]; rw [c4b0]) | skip)
   have H' := aM_ H; clear H
   go_wp2
   go_meet
   case rel => exact ⟨_, (decide (a0 ≤ 223)), Tc_, H', ⟨Uh_⟩, Tb_⟩
  rw [if_neg c4] at H; have c4b0 := decide_eq_false c4; clear c4
  (first | rw [c4b0] | (simp only [ya_, za_]; rw [c4b0]) | skip)
  have H' := aM_ H; clear H
  go_wp2
  go_meet
  case rel => exact ⟨_, (false), Tc_, H', ⟨Uh_⟩, Tb_⟩
 clear HC3
 obtain ⟨kq, x6_2, rfl, HA, HJ2, ⟨mc2, rfl⟩⟩ := hcut
 cases kq with
 | zero => exact absurd HA.out (by simp [interlocutorref3_size.j0])
 | succ kj2 =>
  have H := HA.out; clear HA; simp only [interlocutorref3_size.j0] at H
  by_cases c5 : x6_2 = true
  ·subst c5
   have H1 : (some 2) = some r := by rw [if_pos rfl] at H; exact H
   clear H; have H := H1; clear H1; obtain rfl := Option.some.inj H
   go_wp2
   go_ret
   exact ⟨Tc_, Tb_⟩
  replace c5 := Bool.eq_false_iff.mpr c5; subst c5; have H1 : (if a0 ≥ 224 then (interlocutorref3_size.j1 kj2 a0 (decide (a0 ≤ 239))) else (interlocutorref3_size.j1 kj2 a0 false)) = some r := by rw [if_neg (show ¬ (false = true) by decide)] at H; exact H
  clear H; have H := H1; clear H1; have HC6 := aM_ H; clear H
  go_upto_region 5 with (fail)
  go_cut [13] (fun v13 wc => ∃ (kq : Nat) (x13_5 : Bool), v13 = .bool x13_5 ∧ Az (interlocutorref3_size.j1 kq a0 x13_5 = some r) ∧ Az (kq ≤ kj2) ∧ Drawn0 w wc)
  case first =>
   have H := HC6.out; clear HC6
   by_cases c7 : a0 ≥ 224
   ·rw [if_pos c7] at H
    have c7b0 := decide_eq_true c7; clear c7
    (first | rw [c7b0] | (simp only [ya_, za_]; rw [c7b0]) | skip)
    have H' := aM_ H; clear H
    go_wp2
    go_meet
    case rel => exact ⟨_, (decide (a0 ≤ 239)), Tc_, H', ⟨Wb_⟩, Tb_⟩
   rw [if_neg c7] at H; have c7b0 := decide_eq_false c7; clear c7
   (first | rw [c7b0] | (simp only [ya_, za_]; rw [c7b0]) | skip)
   have H' := aM_ H; clear H
   go_wp2
   go_meet
   case rel => exact ⟨_, (false), Tc_, H', ⟨Wb_⟩, Tb_⟩
  clear HC6; obtain ⟨kq, x13_5, rfl, HA, HJ5, ⟨mc5, rfl⟩⟩ := hcut
  cases kq with
  | zero => exact absurd HA.out (by simp [interlocutorref3_size.j1])
  | succ kj5 =>
   have H := HA.out; clear HA; simp only [interlocutorref3_size.j1] at H
   by_cases c8 : x13_5 = true
   ·subst c8
    have H1 : (some 3) = some r := by rw [if_pos rfl] at H; exact H
    clear H; have H := H1; clear H1; obtain rfl := Option.some.inj H
    go_wp2
    go_ret
    exact ⟨Tc_, Tb_⟩
   replace c8 := Bool.eq_false_iff.mpr c8; subst c8; have H1 : (if a0 ≥ 240 then (if a0 ≤ 244 then (some 4) else (some 0)) else (some 0)) = some r := by rw [if_neg (show ¬ (false = true) by decide)] at H; exact H
   clear H; have H := H1; clear H1
   by_cases c9 : a0 ≥ 240
   ·rw [if_pos c9] at H
    have c9b0 := decide_eq_true c9; clear c9
    by_cases c10 : a0 ≤ 244
    ·rw [if_pos c10] at H
     have c10b0 := decide_eq_true c10; clear c10; obtain rfl := Option.some.inj H
     go_wp2
     go_ret
     exact ⟨Tc_, Tb_⟩
    rw [if_neg c10] at H; have c10b0 := decide_eq_false c10; clear c10; obtain rfl := Option.some.inj H
    go_wp2
    go_ret
    exact ⟨Tc_, Tb_⟩
   rw [if_neg c9] at H; have c9b0 := decide_eq_false c9; clear c9; obtain rfl := Option.some.inj H
   go_wp2
   go_ret
   exact ⟨Tc_, Tb_⟩
noncomputable def interlocutorref3_in.f (a0 : Int) (a1 : Int) (a2 : Int) : Option (Bool) := if a0 ≥ a1 then (some (decide (a0 ≤ a2))) else (some false)
theorem interlocutorref3_in.calls (a0 : Int) (a1 : Int) (a2 : Int) (r : Bool) (w : World) (h : interlocutorref3_in.f a0 a1 a2 = some r) :
  Calls Tryz.prog 145 #[.int .i64 a0, .int .i64 a1, .int .i64 a2] w fun e w' => e = .returned (.bool r) ∧ Drawn0 w w' := by
 have H : (if a0 ≥ a1 then (some (decide (a0 ≤ a2))) else (some false)) = some r := h
 clear h
 by_cases c4 : a0 ≥ a1
 ·rw [if_pos c4] at H
  have c4b0 := decide_eq_true c4; clear c4; obtain rfl := Option.some.inj H
  go_enter Tryz.func145, Tryz.ntmps145
  go_wp2
  go_ret
  exact ⟨Tc_, Tb_⟩
 rw [if_neg c4] at H
 have c4b0 := decide_eq_false c4
 clear c4
 obtain rfl := Option.some.inj H
 go_enter Tryz.func145, Tryz.ntmps145
 go_wp2
 go_ret
 exact ⟨Tc_, Tb_⟩
mutual
noncomputable def interlocutorref3_next.j0 : Nat → ByteArray → Int → Bool → Option (Int × Int)
 | 0, _, _, _ => none
 | k + 1, x0, x4, x22 => if x22 = true then (some (65533, 1)) else (if 0 < (x0.size : Int) then (if 0 ≤ (IntKind.u64.wrap (wrap64 (x4 + 1))) then (interlocutorref3_next.l0 k x0 x4 (Go.bits .and .i64 (wrap64 (bt x0 0)) (shr .i64 255 (IntKind.u64.wrap (wrap64 (x4 + 1))))) 1) else (none)) else (none))
noncomputable def interlocutorref3_next.l0 : Nat → ByteArray → Int → Int → Int → Option (Int × Int)
 | 0, _, _, _, _ => none
 | k + 1, x0, x4, x5, x6 => if x6 < x4 then (if 0 ≤ x6 then (if x6 < (x0.size : Int) then (if (bt x0 x6) < 128 then (some (65533, 1)) else (if (bt x0 x6) > 191 then (some (65533, 1)) else (interlocutorref3_next.l0 k x0 x4 (Go.bits .or .i64 (wrap64 (x5 * 64)) (Go.bits .and .i64 (wrap64 (bt x0 x6)) 63)) (wrap64 (x6 + 1))))) else (none)) else (none)) else (if x4 = 3 then (if x5 < 2048 then (some (65533, 1)) else ((interlocutorref3_in.f x5 55296 57343).bind fun t111 => (if t111 = true then (some (65533, 1)) else (if x4 = 4 then (if x5 < 65536 then (some (65533, 1)) else (if x5 > 1114111 then (some (65533, 1)) else (some (x5, x4)))) else (some (x5, x4)))))) else (if x4 = 4 then (if x5 < 65536 then (some (65533, 1)) else (if x5 > 1114111 then (some (65533, 1)) else (some (x5, x4)))) else (some (x5, x4))))
end
noncomputable def interlocutorref3_next.f (k : Nat) (a0 : BA) : Option (Int × Int) := if 0 < (a0.size : Int) then ((interlocutorref3_size.f k (bt a0 0)).bind fun t110 => (if t110 = 1 then (some (wrap64 (bt a0 0), 1)) else (if t110 = 0 then (interlocutorref3_next.j0 k a0 t110 true) else (interlocutorref3_next.j0 k a0 t110 (decide ((a0.size : Int) < t110)))))) else (none)
theorem interlocutorref3_next.calls (k : Nat) (a0 : BA) (r1 : Int) (r2 : Int) (w : World) (h : interlocutorref3_next.f k a0 = some (r1, r2)) :
  Calls Tryz.prog 118 #[.string a0] w fun e w' => e = .returned (.tuple #[.int .i64 r1, .int .i64 r2]) ∧ Drawn0 w w' := by
 have H : (if 0 < (a0.size : Int) then ((interlocutorref3_size.f k (bt a0 0)).bind fun t110 => (if t110 = 1 then (some (wrap64 (bt a0 0), 1)) else (if t110 = 0 then (interlocutorref3_next.j0 k a0 t110 true) else (interlocutorref3_next.j0 k a0 t110 (decide ((a0.size : Int) < t110)))))) else (none)) = some (r1, r2) := h
 clear h
 by_cases c2 : 0 < (a0.size : Int)
 ·rw [if_pos c2] at H
  have c2b0 := decide_eq_true c2; have c2b1 : decide (0 < a0.size) = true := decide_eq_true Td_; clear c2; replace H := bd_ H; obtain ⟨t110, A4, H⟩ := H
  by_cases c5 : t110 = 1
  ·rw [if_pos c5] at H
   have c5b0 : (t110 == 1) = true := beq_iff_eq.mpr c5; have c5b1 : (t110 != 1) = false := bne_eq_false_iff_eq.mpr c5; clear c5; simp only [Option.some.injEq, Prod.mk.injEq] at H; obtain ⟨rfl, rfl⟩ := H; have p3 : 0 ≤ (0 : Int) := Td_; have q3 : 0 < a0.size := Uy_; have hx3 : ∀ h : 0 < a0.size, ((a0[0]'h).toNat : Int) = bt a0 0 := oe_ a0 0; clear p3; have qi3 : (0 < (a0.size : Int)) = True := eq_true (of_decide_eq_true Te_); replace q3 := eq_true q3
   go_enter Tryz.func118, Tryz.ntmps118
   go_wp2_with (first | ((with_reducible refine gd_ 9 ?_); refine gQ_ Tryz.func144 (interlocutorref3_size.calls _ _ _ _ A4.out) fun nd => ?_; have p6 : 0 ≤ (0 : Int) := Td_; have q6 : 0 < a0.size := Uy_; have hx6 : ∀ h : 0 < a0.size, ((a0[0]'h).toNat : Int) = bt a0 0 := oe_ a0 0; clear p6; have qi6 : (0 < (a0.size : Int)) = True := eq_true (of_decide_eq_true Te_); replace q6 := eq_true q6))
   go_ret2
   exact ⟨Tc_, Tb_⟩
  rw [if_neg c5] at H; have c5b0 : (t110 == 1) = false := beq_eq_false_iff_ne.mpr c5; have c5b1 : (t110 != 1) = true := bne_iff_ne.mpr c5; have HC7 := aM_ H; clear H; have p3 : 0 ≤ (0 : Int) := Td_; have q3 : 0 < a0.size := Uy_; have hx3 : ∀ h : 0 < a0.size, ((a0[0]'h).toNat : Int) = bt a0 0 := oe_ a0 0; clear p3; have qi3 : (0 < (a0.size : Int)) = True := eq_true (of_decide_eq_true Te_); replace q3 := eq_true q3
  go_enter Tryz.func118, Tryz.ntmps118
  go_upto_region 4 with (first | ((with_reducible refine gd_ 9 ?_); refine gQ_ Tryz.func144 (interlocutorref3_size.calls _ _ _ _ A4.out) fun nd => ?_))
  (try simp only [Act.put, s1_, s2_, s3_])
  go_cut [22] (fun v22 wc => ∃ (kq : Nat) (x22_6 : Bool), v22 = .bool x22_6 ∧ Az (interlocutorref3_next.j0 kq a0 t110 x22_6 = some (r1, r2)) ∧ Az (kq ≤ k) ∧ Drawn0 w wc)
  case first =>
   have H := HC7.out; clear HC7
   by_cases c8 : t110 = 0
   ·rw [if_pos c8] at H
    have c8b0 : (t110 == 0) = true := beq_iff_eq.mpr c8; have c8b1 : (t110 != 0) = false := bne_eq_false_iff_eq.mpr c8; clear c8
    (first | rw [c8b0] | (simp only [ya_, za_]; rw [c8b0]) | skip)
    have H' := aM_ H; clear H
    go_wp2
    go_meet
    case rel => exact ⟨_, (true), Tc_, H', ⟨Uh_⟩, Tb_⟩
   rw [if_neg c8] at H; have c8b0 : (t110 == 0) = false := beq_eq_false_iff_ne.mpr c8; have c8b1 : (t110 != 0) = true := bne_iff_ne.mpr c8
   (first | rw [c8b0] | (simp only [ya_, za_]; rw [c8b0]) | skip)
   have H' := aM_ H; clear H
   go_wp2
   go_meet
   case rel => exact ⟨_, (decide ((a0.size : Int) < t110)), Tc_, H', ⟨Uh_⟩, Tb_⟩
  clear HC7; obtain ⟨kq, x22_6, rfl, HA, HJ6, ⟨mc6, rfl⟩⟩ := hcut
  cases kq with
  | zero => exact absurd HA.out (by simp [interlocutorref3_next.j0])
  | succ kj6 =>
   have H := HA.out; clear HA; simp only [interlocutorref3_next.j0] at H
   by_cases c9 : x22_6 = true
   ·subst c9
    have H1 : (some (65533, 1)) = some (r1, r2) := by rw [if_pos rfl] at H; exact H
    clear H; have H := H1; clear H1; simp only [Option.some.injEq, Prod.mk.injEq] at H; obtain ⟨rfl, rfl⟩ := H
    go_wp2
    go_ret2
    exact ⟨Tc_, Tb_⟩
   replace c9 := Bool.eq_false_iff.mpr c9; subst c9; have H1 : (if 0 < (a0.size : Int) then (if 0 ≤ (IntKind.u64.wrap (wrap64 (t110 + 1))) then (interlocutorref3_next.l0 kj6 a0 t110 (Go.bits .and .i64 (wrap64 (bt a0 0)) (shr .i64 255 (IntKind.u64.wrap (wrap64 (t110 + 1))))) 1) else (none)) else (none)) = some (r1, r2) := by rw [if_neg (show ¬ (false = true) by decide)] at H; exact H
   clear H; have H := H1; clear H1
   by_cases c10 : 0 < (a0.size : Int)
   ·rw [if_pos c10] at H
    have c10b0 := decide_eq_true c10; have c10b1 : decide (0 < a0.size) = true := decide_eq_true Td_; clear c10; obtain ⟨ji12, hji12⟩ : ∃ j_ : Int, (IntKind.u64.wrap (wrap64 (t110 + 1))) = j_ := ⟨_, rfl⟩; replace H : (if 0 ≤ (ji12) then (interlocutorref3_next.l0 kj6 a0 t110 (Go.bits .and .i64 (wrap64 (bt a0 0)) (shr .i64 255 (ji12))) 1) else (none)) = some (r1, r2) := by first | (rw [hji12] at H; exact H) | (simp only [hji12] at H ⊢; exact H)
    by_cases c13 : 0 ≤ (ji12)
    ·rw [if_pos c13] at H
     have c13b0 := eq_true c13; have c13b1 := decide_eq_true c13; clear c13; obtain ⟨ji14, hji14⟩ : ∃ j_ : Int, (shr .i64 255 (ji12)) = j_ := ⟨_, rfl⟩; replace H : (interlocutorref3_next.l0 kj6 a0 t110 (Go.bits .and .i64 (wrap64 (bt a0 0)) (ji14)) 1) = some (r1, r2) := by first | (rw [hji14] at H; exact H) | (simp only [hji14] at H ⊢; exact H)
     have hji14_ : (255 / 2 ^ min (ji12).toNat 64) = ji14 := hji14; have hji14z : (ji12) ≤ 64 → (255 / 2 ^ (ji12).toNat) = ji14 := un_ hji14; have H' := aM_ H; clear H; have p11 : 0 ≤ (0 : Int) := Td_; have q11 : 0 < a0.size := Uy_; have hx11 : ∀ h : 0 < a0.size, ((a0[0]'h).toNat : Int) = bt a0 0 := oe_ a0 0; clear p11; have qi11 : (0 < (a0.size : Int)) = True := eq_true (of_decide_eq_true Te_); replace q11 := eq_true q11
     go_wp2
     go_loopg [5, 6] kj6 (fun kq v5 v6 w' => ∃ (x5_2 : Int) (x6_2 : Int), v5 = .int .i64 x5_2 ∧ v6 = .int .i64 x6_2 ∧ Az (interlocutorref3_next.l0 kq a0 t110 x5_2 x6_2 = some (r1, r2)) ∧ Az (kq ≤ kj6) ∧ Drawn0 w w')
     case atStart => exact ⟨(Go.bits .and .i64 (wrap64 (bt a0 0)) (ji14)), (1), (by first | rfl | (simp; done) | (simp only [← hji14] <;> (first | rfl | simp)) | (simp [*]; done)), Tc_, H', ⟨Nat.le_refl _⟩, Tb_⟩
     clear H'; obtain ⟨x5_2, x6_2, rfl, rfl, HA, HK2, ⟨m2, rfl⟩⟩ := hrel
     cases gk with
     | zero => exact absurd HA.out (by simp [interlocutorref3_next.l0])
     | succ k2 =>
      have H := HA.out; clear HA; simp only [interlocutorref3_next.l0] at H
      by_cases c15 : x6_2 < t110
      ·rw [if_pos c15] at H
       have c15b0 := decide_eq_true c15; clear c15
       by_cases c16 : 0 ≤ x6_2
       ·rw [if_pos c16] at H
        have c16b0 := decide_eq_true c16; clear c16
        by_cases c17 : x6_2 < (a0.size : Int)
        ·rw [if_pos c17] at H
         have c17b0 := decide_eq_true c17; clear c17
         by_cases c19 : (bt a0 x6_2) < 128
         ·rw [if_pos c19] at H
          have c19b0 := decide_eq_true c19; clear c19; simp only [Option.some.injEq, Prod.mk.injEq] at H; obtain ⟨rfl, rfl⟩ := H; have p18 : 0 ≤ (x6_2 : Int) := of_decide_eq_true Te_; have q18 : x6_2 < (a0.size : Int) := of_decide_eq_true Te_; have hx18 := oe_ a0 x6_2; replace p18 := eq_true p18; replace q18 := eq_true q18
          go_wp2
          go_ret2
          exact ⟨Tq_, Tb_⟩
         rw [if_neg c19] at H; have c19b0 := decide_eq_false c19; clear c19
         by_cases c21 : (bt a0 x6_2) > 191
         ·rw [if_pos c21] at H
          have c21b0 := decide_eq_true c21; clear c21; simp only [Option.some.injEq, Prod.mk.injEq] at H; obtain ⟨rfl, rfl⟩ := H; have p18 : 0 ≤ (x6_2 : Int) := of_decide_eq_true Te_; have q18 : x6_2 < (a0.size : Int) := of_decide_eq_true Te_; have hx18 := oe_ a0 x6_2; replace p18 := eq_true p18; replace q18 := eq_true q18; have p20 : 0 ≤ (x6_2 : Int) := of_decide_eq_true Te_; have q20 : x6_2 < (a0.size : Int) := of_decide_eq_true Te_; have hx20 := oe_ a0 x6_2; replace p20 := eq_true p20; replace q20 := eq_true q20
          go_wp2
          go_ret2
          exact ⟨Tq_, Tb_⟩
         rw [if_neg c21] at H; have c21b0 := decide_eq_false c21; clear c21; have H' := aM_ H; clear H; have p18 : 0 ≤ (x6_2 : Int) := of_decide_eq_true Te_; have q18 : x6_2 < (a0.size : Int) := of_decide_eq_true Te_; have hx18 := oe_ a0 x6_2; replace p18 := eq_true p18; replace q18 := eq_true q18; have p20 : 0 ≤ (x6_2 : Int) := of_decide_eq_true Te_; have q20 : x6_2 < (a0.size : Int) := of_decide_eq_true Te_; have hx20 := oe_ a0 x6_2; replace p20 := eq_true p20; replace q20 := eq_true q20; have p22 : 0 ≤ (x6_2 : Int) := of_decide_eq_true Te_; have q22 : x6_2 < (a0.size : Int) := of_decide_eq_true Te_; have hx22 := oe_ a0 x6_2; replace p22 := eq_true p22; replace q22 := eq_true q22
         go_wp2
         go_roundg k2
         case measure => have := HJ6.out; have := HK2.out; omega
         case rel => exact ⟨(Go.bits .or .i64 (wrap64 (x5_2 * 64)) (Go.bits .and .i64 (wrap64 (bt a0 x6_2)) 63)), (wrap64 (x6_2 + 1)), Tc_, Tc_, H', ⟨by have := HJ6.out; have := HK2.out; omega⟩, Tb_⟩
        rw [if_neg c17] at H; exact absurd H Tt_
       rw [if_neg c16] at H; exact absurd H Tt_
      rw [if_neg c15] at H; have c15b0 := decide_eq_false c15; clear c15
      by_cases c23 : t110 = 3
      ·rw [if_pos c23] at H
       have c23b0 : (t110 == 3) = true := beq_iff_eq.mpr c23; have c23b1 : (t110 != 3) = false := bne_eq_false_iff_eq.mpr c23; clear c23
       by_cases c24 : x5_2 < 2048
       ·rw [if_pos c24] at H
        have c24b0 := decide_eq_true c24; clear c24; simp only [Option.some.injEq, Prod.mk.injEq] at H; obtain ⟨rfl, rfl⟩ := H
        go_wp2
        go_ret2
        exact ⟨Tq_, Tb_⟩
       rw [if_neg c24] at H; have c24b0 := decide_eq_false c24; clear c24; replace H := bd_ H; obtain ⟨t111, A25, H⟩ := H
       by_cases c26 : t111 = true
       ·subst c26
        have H1 : (some (65533, 1)) = some (r1, r2) := by rw [if_pos rfl] at H; exact H
        clear H; have H := H1; clear H1; simp only [Option.some.injEq, Prod.mk.injEq] at H; obtain ⟨rfl, rfl⟩ := H
        go_wp2_with (first | (go_at_call 145; (with_reducible refine (interlocutorref3_in.calls _ _ _ _ _ A25.out).mono ?_); rintro e w' ⟨rfl, ⟨nd, rfl⟩⟩))
        go_ret2
        exact ⟨Tq_, Tb_⟩
       replace c26 := Bool.eq_false_iff.mpr c26; subst c26; have H1 : (if t110 = 4 then (if x5_2 < 65536 then (some (65533, 1)) else (if x5_2 > 1114111 then (some (65533, 1)) else (some (x5_2, t110)))) else (some (x5_2, t110))) = some (r1, r2) := by rw [if_neg (show ¬ (false = true) by decide)] at H; exact H
       clear H; have H := H1; clear H1
       by_cases c27 : t110 = 4
       ·rw [if_pos c27] at H
        have c27b0 : (t110 == 4) = true := beq_iff_eq.mpr c27; have c27b1 : (t110 != 4) = false := bne_eq_false_iff_eq.mpr c27; clear c27
        by_cases c28 : x5_2 < 65536
        ·rw [if_pos c28] at H
         have c28b0 := decide_eq_true c28; clear c28; simp only [Option.some.injEq, Prod.mk.injEq] at H; obtain ⟨rfl, rfl⟩ := H
         go_wp2_with (first | (go_at_call 145; (with_reducible refine (interlocutorref3_in.calls _ _ _ _ _ A25.out).mono ?_); rintro e w' ⟨rfl, ⟨nd, rfl⟩⟩))
         go_ret2
         exact ⟨Tq_, Tb_⟩
        rw [if_neg c28] at H; have c28b0 := decide_eq_false c28; clear c28
        by_cases c29 : x5_2 > 1114111
        ·rw [if_pos c29] at H
         have c29b0 := decide_eq_true c29; clear c29; simp only [Option.some.injEq, Prod.mk.injEq] at H; obtain ⟨rfl, rfl⟩ := H
         go_wp2_with (first | (go_at_call 145; (with_reducible refine (interlocutorref3_in.calls _ _ _ _ _ A25.out).mono ?_); rintro e w' ⟨rfl, ⟨nd, rfl⟩⟩))
         go_ret2
         exact ⟨Tq_, Tb_⟩
        rw [if_neg c29] at H; have c29b0 := decide_eq_false c29; clear c29; simp only [Option.some.injEq, Prod.mk.injEq] at H; obtain ⟨rfl, rfl⟩ := H
        go_wp2_with (first | (go_at_call 145; (with_reducible refine (interlocutorref3_in.calls _ _ _ _ _ A25.out).mono ?_); rintro e w' ⟨rfl, ⟨nd, rfl⟩⟩))
        go_ret2
        exact ⟨Tq_, Tb_⟩
       rw [if_neg c27] at H; have c27b0 : (t110 == 4) = false := beq_eq_false_iff_ne.mpr c27; have c27b1 : (t110 != 4) = true := bne_iff_ne.mpr c27; simp only [Option.some.injEq, Prod.mk.injEq] at H; obtain ⟨rfl, rfl⟩ := H
       go_wp2_with (first | (go_at_call 145; (with_reducible refine (interlocutorref3_in.calls _ _ _ _ _ A25.out).mono ?_); rintro e w' ⟨rfl, ⟨nd, rfl⟩⟩))
       go_ret2
       exact ⟨Tq_, Tb_⟩
      rw [if_neg c23] at H; have c23b0 : (t110 == 3) = false := beq_eq_false_iff_ne.mpr c23; have c23b1 : (t110 != 3) = true := bne_iff_ne.mpr c23
      by_cases c30 : t110 = 4
      ·rw [if_pos c30] at H
       have c30b0 : (t110 == 4) = true := beq_iff_eq.mpr c30; have c30b1 : (t110 != 4) = false := bne_eq_false_iff_eq.mpr c30; clear c30
       by_cases c31 : x5_2 < 65536
       ·rw [if_pos c31] at H
        have c31b0 := decide_eq_true c31; clear c31; simp only [Option.some.injEq, Prod.mk.injEq] at H; obtain ⟨rfl, rfl⟩ := H
        go_wp2
        go_ret2
        exact ⟨Tq_, Tb_⟩
       rw [if_neg c31] at H; have c31b0 := decide_eq_false c31; clear c31
       by_cases c32 : x5_2 > 1114111
       ·rw [if_pos c32] at H
        have c32b0 := decide_eq_true c32; clear c32; simp only [Option.some.injEq, Prod.mk.injEq] at H; obtain ⟨rfl, rfl⟩ := H
        go_wp2
        go_ret2
        exact ⟨Tq_, Tb_⟩
       rw [if_neg c32] at H; have c32b0 := decide_eq_false c32; clear c32; simp only [Option.some.injEq, Prod.mk.injEq] at H; obtain ⟨rfl, rfl⟩ := H
       go_wp2
       go_ret2
       exact ⟨Tq_, Tb_⟩
      rw [if_neg c30] at H; have c30b0 : (t110 == 4) = false := beq_eq_false_iff_ne.mpr c30; have c30b1 : (t110 != 4) = true := bne_iff_ne.mpr c30; simp only [Option.some.injEq, Prod.mk.injEq] at H; obtain ⟨rfl, rfl⟩ := H
      go_wp2
      go_ret2
      exact ⟨Tq_, Tb_⟩
    rw [if_neg c13] at H; exact absurd H Tt_
   rw [if_neg c10] at H; exact absurd H Tt_
 rw [if_neg c2] at H
 exact absurd H Tt_
noncomputable def interlocutorref3_blank.f (a0 : Int) : Option (Bool) := if a0 = 9 then (some true) else (if a0 = 160 then (some true) else ((interlocutorref3_in.f a0 8192 8202).bind fun t112 => (if t112 = true then (some true) else (if a0 = 8239 then (some true) else (if a0 = 8287 then (some true) else (some (a0 == 12288)))))))
theorem interlocutorref3_blank.calls (a0 : Int) (r : Bool) (w : World) (h : interlocutorref3_blank.f a0 = some r) :
  Calls Tryz.prog 146 #[.int .i64 a0] w fun e w' => e = .returned (.bool r) ∧ Drawn0 w w' := by
 have H : (if a0 = 9 then (some true) else (if a0 = 160 then (some true) else ((interlocutorref3_in.f a0 8192 8202).bind fun t112 => (if t112 = true then (some true) else (if a0 = 8239 then (some true) else (if a0 = 8287 then (some true) else (some (a0 == 12288)))))))) = some r := h
 clear h
 by_cases c2 : a0 = 9
 ·rw [if_pos c2] at H
  have c2b0 : (a0 == 9) = true := beq_iff_eq.mpr c2; have c2b1 : (a0 != 9) = false := bne_eq_false_iff_eq.mpr c2; clear c2; obtain rfl := Option.some.inj H
  go_enter Tryz.func146, Tryz.ntmps146
  go_wp2
  go_ret
  exact ⟨Tc_, Tb_⟩
 rw [if_neg c2] at H
 have c2b0 : (a0 == 9) = false := beq_eq_false_iff_ne.mpr c2
 have c2b1 : (a0 != 9) = true := bne_iff_ne.mpr c2
 by_cases c3 : a0 = 160
 ·rw [if_pos c3] at H
  have c3b0 : (a0 == 160) = true := beq_iff_eq.mpr c3; have c3b1 : (a0 != 160) = false := bne_eq_false_iff_eq.mpr c3; clear c3; obtain rfl := Option.some.inj H
  go_enter Tryz.func146, Tryz.ntmps146
  go_wp2
  go_ret
  exact ⟨Tc_, Tb_⟩
 rw [if_neg c3] at H
 have c3b0 : (a0 == 160) = false := beq_eq_false_iff_ne.mpr c3
 have c3b1 : (a0 != 160) = true := bne_iff_ne.mpr c3
 replace H := bd_ H
 obtain ⟨t112, A4, H⟩ := H
 by_cases c5 : t112 = true
 ·subst c5
  have H1 : (some true) = some r := by rw [if_pos rfl] at H; exact H
  clear H; have H := H1; clear H1; obtain rfl := Option.some.inj H
  go_enter Tryz.func146, Tryz.ntmps146
  go_wp2_with (first | (go_at_call 145; (with_reducible refine (interlocutorref3_in.calls _ _ _ _ _ A4.out).mono ?_); rintro e w' ⟨rfl, ⟨nd, rfl⟩⟩))
  go_ret
  exact ⟨Tc_, Tb_⟩
 replace c5 := Bool.eq_false_iff.mpr c5
 subst c5
 have H1 : (if a0 = 8239 then (some true) else (if a0 = 8287 then (some true) else (some (a0 == 12288)))) = some r := by rw [if_neg (show ¬ (false = true) by decide)] at H; exact H
 clear H
 have H := H1
 clear H1
 by_cases c6 : a0 = 8239
 ·rw [if_pos c6] at H
  have c6b0 : (a0 == 8239) = true := beq_iff_eq.mpr c6; have c6b1 : (a0 != 8239) = false := bne_eq_false_iff_eq.mpr c6; clear c6; obtain rfl := Option.some.inj H
  go_enter Tryz.func146, Tryz.ntmps146
  go_wp2_with (first | (go_at_call 145; (with_reducible refine (interlocutorref3_in.calls _ _ _ _ _ A4.out).mono ?_); rintro e w' ⟨rfl, ⟨nd, rfl⟩⟩))
  go_ret
  exact ⟨Tc_, Tb_⟩
 rw [if_neg c6] at H
 have c6b0 : (a0 == 8239) = false := beq_eq_false_iff_ne.mpr c6
 have c6b1 : (a0 != 8239) = true := bne_iff_ne.mpr c6
 by_cases c7 : a0 = 8287
 ·rw [if_pos c7] at H
  have c7b0 : (a0 == 8287) = true := beq_iff_eq.mpr c7; have c7b1 : (a0 != 8287) = false := bne_eq_false_iff_eq.mpr c7; clear c7; obtain rfl := Option.some.inj H
  go_enter Tryz.func146, Tryz.ntmps146
  go_wp2_with (first | (go_at_call 145; (with_reducible refine (interlocutorref3_in.calls _ _ _ _ _ A4.out).mono ?_); rintro e w' ⟨rfl, ⟨nd, rfl⟩⟩))
  go_ret
  exact ⟨Tc_, Tb_⟩
 rw [if_neg c7] at H
 have c7b0 : (a0 == 8287) = false := beq_eq_false_iff_ne.mpr c7
 have c7b1 : (a0 != 8287) = true := bne_iff_ne.mpr c7
 obtain rfl := Option.some.inj H
 go_enter Tryz.func146, Tryz.ntmps146
 go_wp2_with (first | (go_at_call 145; (with_reducible refine (interlocutorref3_in.calls _ _ _ _ _ A4.out).mono ?_); rintro e w' ⟨rfl, ⟨nd, rfl⟩⟩))
 go_ret
 exact ⟨Tc_, Tb_⟩
noncomputable def interlocutorref3_dash.f (a0 : Int) : Option (Bool) := (interlocutorref3_in.f a0 8208 8213).bind fun t113 => (if t113 = true then (some true) else (some (a0 == 8722)))
theorem interlocutorref3_dash.calls (a0 : Int) (r : Bool) (w : World) (h : interlocutorref3_dash.f a0 = some r) :
  Calls Tryz.prog 147 #[.int .i64 a0] w fun e w' => e = .returned (.bool r) ∧ Drawn0 w w' := by
 have H : ((interlocutorref3_in.f a0 8208 8213).bind fun t113 => (if t113 = true then (some true) else (some (a0 == 8722)))) = some r := h
 clear h
 replace H := bd_ H
 obtain ⟨t113, A2, H⟩ := H
 by_cases c3 : t113 = true
 ·subst c3
  have H1 : (some true) = some r := by rw [if_pos rfl] at H; exact H
  clear H; have H := H1; clear H1; obtain rfl := Option.some.inj H
  go_enter Tryz.func147, Tryz.ntmps147
  go_wp2_with (first | ((with_reducible refine gd_ 4 ?_); refine gQ_ Tryz.func145 (interlocutorref3_in.calls _ _ _ _ _ A2.out) fun nd => ?_))
  go_ret
  exact ⟨Tc_, Tb_⟩
 replace c3 := Bool.eq_false_iff.mpr c3
 subst c3
 have H1 : (some (a0 == 8722)) = some r := by rw [if_neg (show ¬ (false = true) by decide)] at H; exact H
 clear H
 have H := H1
 clear H1
 obtain rfl := Option.some.inj H
 go_enter Tryz.func147, Tryz.ntmps147
 go_wp2_with (first | ((with_reducible refine gd_ 4 ?_); refine gQ_ Tryz.func145 (interlocutorref3_in.calls _ _ _ _ _ A2.out) fun nd => ?_))
 go_ret
 exact ⟨Tc_, Tb_⟩
noncomputable def interlocutorref3_quote.f (a0 : Int) : Option (Bool) := if a0 = 8216 then (some true) else (if a0 = 8217 then (some true) else (some (a0 == 700)))
theorem interlocutorref3_quote.calls (a0 : Int) (r : Bool) (w : World) (h : interlocutorref3_quote.f a0 = some r) :
  Calls Tryz.prog 148 #[.int .i64 a0] w fun e w' => e = .returned (.bool r) ∧ Drawn0 w w' := by
 have H : (if a0 = 8216 then (some true) else (if a0 = 8217 then (some true) else (some (a0 == 700)))) = some r := h
 clear h
 by_cases c2 : a0 = 8216
 ·rw [if_pos c2] at H
  have c2b0 : (a0 == 8216) = true := beq_iff_eq.mpr c2; have c2b1 : (a0 != 8216) = false := bne_eq_false_iff_eq.mpr c2; clear c2; obtain rfl := Option.some.inj H
  go_enter Tryz.func148, Tryz.ntmps148
  go_wp2
  go_ret
  exact ⟨Tc_, Tb_⟩
 rw [if_neg c2] at H
 have c2b0 : (a0 == 8216) = false := beq_eq_false_iff_ne.mpr c2
 have c2b1 : (a0 != 8216) = true := bne_iff_ne.mpr c2
 by_cases c3 : a0 = 8217
 ·rw [if_pos c3] at H
  have c3b0 : (a0 == 8217) = true := beq_iff_eq.mpr c3; have c3b1 : (a0 != 8217) = false := bne_eq_false_iff_eq.mpr c3; clear c3; obtain rfl := Option.some.inj H
  go_enter Tryz.func148, Tryz.ntmps148
  go_wp2
  go_ret
  exact ⟨Tc_, Tb_⟩
 rw [if_neg c3] at H
 have c3b0 : (a0 == 8217) = false := beq_eq_false_iff_ne.mpr c3
 have c3b1 : (a0 != 8217) = true := bne_iff_ne.mpr c3
 obtain rfl := Option.some.inj H
 go_enter Tryz.func148, Tryz.ntmps148
 go_wp2
 go_ret
 exact ⟨Tc_, Tb_⟩
noncomputable def interlocutorref3_digit.f (a0 : Int) : Option (Int) := (interlocutorref3_in.f a0 1632 1641).bind fun t114 => (if t114 = true then (some (wrap64 (a0 - 1632))) else ((interlocutorref3_in.f a0 1776 1785).bind fun t115 => (if t115 = true then (some (wrap64 (a0 - 1776))) else ((interlocutorref3_in.f a0 2406 2415).bind fun t116 => (if t116 = true then (some (wrap64 (a0 - 2406))) else (some (-1)))))))
theorem interlocutorref3_digit.calls (a0 : Int) (r : Int) (w : World) (h : interlocutorref3_digit.f a0 = some r) :
  Calls Tryz.prog 149 #[.int .i64 a0] w fun e w' => e = .returned (.int .i64 r) ∧ Drawn0 w w' := by
 have H : ((interlocutorref3_in.f a0 1632 1641).bind fun t114 => (if t114 = true then (some (wrap64 (a0 - 1632))) else ((interlocutorref3_in.f a0 1776 1785).bind fun t115 => (if t115 = true then (some (wrap64 (a0 - 1776))) else ((interlocutorref3_in.f a0 2406 2415).bind fun t116 => (if t116 = true then (some (wrap64 (a0 - 2406))) else (some (-1)))))))) = some r := h
 clear h
 replace H := bd_ H
 obtain ⟨t114, A2, H⟩ := H
 by_cases c3 : t114 = true
 ·subst c3
  have H1 : (some (wrap64 (a0 - 1632))) = some r := by rw [if_pos rfl] at H; exact H
  clear H; have H := H1; clear H1; obtain rfl := Option.some.inj H
  go_enter Tryz.func149, Tryz.ntmps149
  go_wp2_with (first | ((with_reducible refine gd_ 5 ?_); refine gQ_ Tryz.func145 (interlocutorref3_in.calls _ _ _ _ _ A2.out) fun nd => ?_))
  go_ret
  exact ⟨Tc_, Tb_⟩
 replace c3 := Bool.eq_false_iff.mpr c3
 subst c3
 have H1 : ((interlocutorref3_in.f a0 1776 1785).bind fun t115 => (if t115 = true then (some (wrap64 (a0 - 1776))) else ((interlocutorref3_in.f a0 2406 2415).bind fun t116 => (if t116 = true then (some (wrap64 (a0 - 2406))) else (some (-1)))))) = some r := by rw [if_neg (show ¬ (false = true) by decide)] at H; exact H
 clear H
 have H := H1
 clear H1
 replace H := bd_ H
 obtain ⟨t115, A4, H⟩ := H
 by_cases c5 : t115 = true
 ·subst c5
  have H1 : (some (wrap64 (a0 - 1776))) = some r := by rw [if_pos rfl] at H; exact H
  clear H; have H := H1; clear H1; obtain rfl := Option.some.inj H
  go_enter Tryz.func149, Tryz.ntmps149
  go_wp2_with (first | ((with_reducible refine gd_ 5 ?_); refine gQ_ Tryz.func145 (interlocutorref3_in.calls _ _ _ _ _ A2.out) fun nd => ?_) | ((with_reducible refine gd_ 10 ?_); refine gQ_ Tryz.func145 (interlocutorref3_in.calls _ _ _ _ _ A4.out) fun nd => ?_))
  go_ret
  exact ⟨Tc_, Tb_⟩
 replace c5 := Bool.eq_false_iff.mpr c5
 subst c5
 have H1 : ((interlocutorref3_in.f a0 2406 2415).bind fun t116 => (if t116 = true then (some (wrap64 (a0 - 2406))) else (some (-1)))) = some r := by rw [if_neg (show ¬ (false = true) by decide)] at H; exact H
 clear H
 have H := H1
 clear H1
 replace H := bd_ H
 obtain ⟨t116, A6, H⟩ := H
 by_cases c7 : t116 = true
 ·subst c7
  have H1 : (some (wrap64 (a0 - 2406))) = some r := by rw [if_pos rfl] at H; exact H
  clear H; have H := H1; clear H1; obtain rfl := Option.some.inj H
  go_enter Tryz.func149, Tryz.ntmps149
  go_wp2_with (first | ((with_reducible refine gd_ 5 ?_); refine gQ_ Tryz.func145 (interlocutorref3_in.calls _ _ _ _ _ A2.out) fun nd => ?_) | ((with_reducible refine gd_ 10 ?_); refine gQ_ Tryz.func145 (interlocutorref3_in.calls _ _ _ _ _ A4.out) fun nd => ?_) | ((with_reducible refine gd_ 15 ?_); refine gQ_ Tryz.func145 (interlocutorref3_in.calls _ _ _ _ _ A6.out) fun nd => ?_))
  go_ret
  exact ⟨Tc_, Tb_⟩
 replace c7 := Bool.eq_false_iff.mpr c7
 subst c7
 have H1 : (some (-1)) = some r := by rw [if_neg (show ¬ (false = true) by decide)] at H; exact H
 clear H
 have H := H1
 clear H1
 obtain rfl := Option.some.inj H
 go_enter Tryz.func149, Tryz.ntmps149
 go_wp2_with (first | ((with_reducible refine gd_ 5 ?_); refine gQ_ Tryz.func145 (interlocutorref3_in.calls _ _ _ _ _ A2.out) fun nd => ?_) | ((with_reducible refine gd_ 10 ?_); refine gQ_ Tryz.func145 (interlocutorref3_in.calls _ _ _ _ _ A4.out) fun nd => ?_) | ((with_reducible refine gd_ 15 ?_); refine gQ_ Tryz.func145 (interlocutorref3_in.calls _ _ _ _ _ A6.out) fun nd => ?_))
 go_ret
 exact ⟨Tc_, Tb_⟩
mutual
noncomputable def interlocutorref3_Rune.j0 : Nat → Int → Option (Int)
 | 0, _ => none
 | k + 1, x0 => (interlocutorref3_blank.f x0).bind fun t118 => (if t118 = true then (some 32) else ((interlocutorref3_dash.f x0).bind fun t119 => (if t119 = true then (some 45) else ((interlocutorref3_quote.f x0).bind fun t120 => (if t120 = true then (some 39) else ((interlocutorref3_digit.f x0).bind fun t121 => (if t121 ≥ 0 then ((interlocutorref3_digit.f x0).bind fun t122 => (some (wrap64 (48 + t122)))) else ((interlocutorref3_in.f x0 65 90).bind fun t123 => (if t123 = true then (interlocutorref3_Rune.j2 k x0 t123) else ((interlocutorref3_in.f x0 192 222).bind fun t124 => (if t124 = true then (interlocutorref3_Rune.j1 k x0 (x0 != 215)) else (interlocutorref3_Rune.j1 k x0 false))))))))))))
noncomputable def interlocutorref3_Rune.j2 : Nat → Int → Bool → Option (Int)
 | 0, _, _ => none
 | k + 1, x0, x23 => if x23 = true then (some (wrap64 (x0 + 32))) else ((interlocutorref3_in.f x0 1024 1039).bind fun t128 => (if t128 = true then (some (wrap64 (x0 + 80))) else (some x0)))
noncomputable def interlocutorref3_Rune.j1 : Nat → Int → Bool → Option (Int)
 | 0, _, _ => none
 | k + 1, x0, x23 => if x23 = true then (interlocutorref3_Rune.j2 k x0 x23) else ((interlocutorref3_in.f x0 913 937).bind fun t125 => (if t125 = true then (if x0 = 930 then ((interlocutorref3_in.f x0 1040 1071).bind fun t126 => (interlocutorref3_Rune.j2 k x0 t126)) else (interlocutorref3_Rune.j2 k x0 (x0 != 930))) else ((interlocutorref3_in.f x0 1040 1071).bind fun t127 => (interlocutorref3_Rune.j2 k x0 t127))))
end
noncomputable def interlocutorref3_Rune.f (k : Nat) (a0 : Int) : Option (Int) := (interlocutorref3_in.f a0 65281 65374).bind fun t117 => (if t117 = true then (interlocutorref3_Rune.j0 k (wrap64 (a0 - 65248))) else (interlocutorref3_Rune.j0 k a0))
theorem interlocutorref3_Rune.calls (k : Nat) (a0 : Int) (r : Int) (w : World) (h : interlocutorref3_Rune.f k a0 = some r) :
  Calls Tryz.prog 119 #[.int .i64 a0] w fun e w' => e = .returned (.int .i64 r) ∧ Drawn0 w w' := by
 have H : ((interlocutorref3_in.f a0 65281 65374).bind fun t117 => (if t117 = true then (interlocutorref3_Rune.j0 k (wrap64 (a0 - 65248))) else (interlocutorref3_Rune.j0 k a0))) = some r := h
 clear h
 replace H := bd_ H
 obtain ⟨t117, A2, H⟩ := H
 have HC3 := aM_ H
 clear H
 go_enter Tryz.func119, Tryz.ntmps119
 go_upto_if 4 with (first | ((with_reducible refine gd_ 4 ?_); refine gQ_ Tryz.func145 (interlocutorref3_in.calls _ _ _ _ _ A2.out) fun nd => ?_))
 (try simp only [Act.put, s1_, s2_, s3_])
 go_cut [0] (fun v0 wc => ∃ (kq : Nat) (x0_2 : Int), v0 = .int .i64 x0_2 ∧ Az (interlocutorref3_Rune.j0 kq x0_2 = some r) ∧ Az (kq ≤ k) ∧ Drawn0 w wc)
 case first =>
  have H := HC3.out; clear HC3
  by_cases c4 : t117 = true
  ·subst c4
   have H1 : (interlocutorref3_Rune.j0 k (wrap64 (a0 - 65248))) = some r := by rw [if_pos rfl] at H; exact H
   clear H; have H := H1; clear H1; have H' := aM_ H; clear H
   go_wp2
   go_meet
   case rel => exact ⟨_, (wrap64 (a0 - 65248)), Tc_, H', ⟨Uh_⟩, Tb_⟩
  replace c4 := Bool.eq_false_iff.mpr c4; subst c4; have H1 : (interlocutorref3_Rune.j0 k a0) = some r := by rw [if_neg (show ¬ (false = true) by decide)] at H; exact H
  clear H; have H := H1; clear H1; have H' := aM_ H; clear H
  go_wp2
  go_meet
  case rel => exact ⟨_, (a0), Tc_, H', ⟨Uh_⟩, Tb_⟩
 clear HC3
 obtain ⟨kq, x0_2, rfl, HA, HJ2, ⟨mc2, rfl⟩⟩ := hcut
 cases kq with
 | zero => exact absurd HA.out (by simp [interlocutorref3_Rune.j0])
 | succ kj2 =>
  have H := HA.out; clear HA; simp only [interlocutorref3_Rune.j0] at H; replace H := bd_ H; obtain ⟨t118, A5, H⟩ := H
  by_cases c6 : t118 = true
  ·subst c6
   have H1 : (some 32) = some r := by rw [if_pos rfl] at H; exact H
   clear H; have H := H1; clear H1; obtain rfl := Option.some.inj H
   go_wp2_with (first | ((with_reducible refine gd_ 9 ?_); refine gQ_ Tryz.func146 (interlocutorref3_blank.calls _ _ _ A5.out) fun nd => ?_))
   go_ret
   exact ⟨Tc_, Tb_⟩
  replace c6 := Bool.eq_false_iff.mpr c6; subst c6; have H1 : ((interlocutorref3_dash.f x0_2).bind fun t119 => (if t119 = true then (some 45) else ((interlocutorref3_quote.f x0_2).bind fun t120 => (if t120 = true then (some 39) else ((interlocutorref3_digit.f x0_2).bind fun t121 => (if t121 ≥ 0 then ((interlocutorref3_digit.f x0_2).bind fun t122 => (some (wrap64 (48 + t122)))) else ((interlocutorref3_in.f x0_2 65 90).bind fun t123 => (if t123 = true then (interlocutorref3_Rune.j2 kj2 x0_2 t123) else ((interlocutorref3_in.f x0_2 192 222).bind fun t124 => (if t124 = true then (interlocutorref3_Rune.j1 kj2 x0_2 (x0_2 != 215)) else (interlocutorref3_Rune.j1 kj2 x0_2 false))))))))))) = some r := by rw [if_neg (show ¬ (false = true) by decide)] at H; exact H
  clear H; have H := H1; clear H1; replace H := bd_ H; obtain ⟨t119, A7, H⟩ := H
  by_cases c8 : t119 = true
  ·subst c8
   have H1 : (some 45) = some r := by rw [if_pos rfl] at H; exact H
   clear H; have H := H1; clear H1; obtain rfl := Option.some.inj H
   go_wp2_with (first | ((with_reducible refine gd_ 9 ?_); refine gQ_ Tryz.func146 (interlocutorref3_blank.calls _ _ _ A5.out) fun nd => ?_) | ((with_reducible refine gd_ 12 ?_); refine gQ_ Tryz.func147 (interlocutorref3_dash.calls _ _ _ A7.out) fun nd => ?_))
   go_ret
   exact ⟨Tc_, Tb_⟩
  replace c8 := Bool.eq_false_iff.mpr c8; subst c8; have H1 : ((interlocutorref3_quote.f x0_2).bind fun t120 => (if t120 = true then (some 39) else ((interlocutorref3_digit.f x0_2).bind fun t121 => (if t121 ≥ 0 then ((interlocutorref3_digit.f x0_2).bind fun t122 => (some (wrap64 (48 + t122)))) else ((interlocutorref3_in.f x0_2 65 90).bind fun t123 => (if t123 = true then (interlocutorref3_Rune.j2 kj2 x0_2 t123) else ((interlocutorref3_in.f x0_2 192 222).bind fun t124 => (if t124 = true then (interlocutorref3_Rune.j1 kj2 x0_2 (x0_2 != 215)) else (interlocutorref3_Rune.j1 kj2 x0_2 false))))))))) = some r := by rw [if_neg (show ¬ (false = true) by decide)] at H; exact H
  clear H; have H := H1; clear H1; replace H := bd_ H; obtain ⟨t120, A9, H⟩ := H
  by_cases c10 : t120 = true
  ·subst c10
   have H1 : (some 39) = some r := by rw [if_pos rfl] at H; exact H
   clear H; have H := H1; clear H1; obtain rfl := Option.some.inj H
   go_wp2_with (first | ((with_reducible refine gd_ 9 ?_); refine gQ_ Tryz.func146 (interlocutorref3_blank.calls _ _ _ A5.out) fun nd => ?_) | ((with_reducible refine gd_ 12 ?_); refine gQ_ Tryz.func147 (interlocutorref3_dash.calls _ _ _ A7.out) fun nd => ?_) | ((with_reducible refine gd_ 15 ?_); refine gQ_ Tryz.func148 (interlocutorref3_quote.calls _ _ _ A9.out) fun nd => ?_))
   go_ret
   exact ⟨Tc_, Tb_⟩
  replace c10 := Bool.eq_false_iff.mpr c10; subst c10; have H1 : ((interlocutorref3_digit.f x0_2).bind fun t121 => (if t121 ≥ 0 then ((interlocutorref3_digit.f x0_2).bind fun t122 => (some (wrap64 (48 + t122)))) else ((interlocutorref3_in.f x0_2 65 90).bind fun t123 => (if t123 = true then (interlocutorref3_Rune.j2 kj2 x0_2 t123) else ((interlocutorref3_in.f x0_2 192 222).bind fun t124 => (if t124 = true then (interlocutorref3_Rune.j1 kj2 x0_2 (x0_2 != 215)) else (interlocutorref3_Rune.j1 kj2 x0_2 false))))))) = some r := by rw [if_neg (show ¬ (false = true) by decide)] at H; exact H
  clear H; have H := H1; clear H1; replace H := bd_ H; obtain ⟨t121, A11, H⟩ := H
  by_cases c12 : t121 ≥ 0
  ·rw [if_pos c12] at H
   have c12b0 := decide_eq_true c12; clear c12; replace H := bd_ H; obtain ⟨t122, A13, H⟩ := H; obtain rfl := Option.some.inj H
   go_wp2_with (first | ((with_reducible refine gd_ 9 ?_); refine gQ_ Tryz.func146 (interlocutorref3_blank.calls _ _ _ A5.out) fun nd => ?_) | ((with_reducible refine gd_ 12 ?_); refine gQ_ Tryz.func147 (interlocutorref3_dash.calls _ _ _ A7.out) fun nd => ?_) | ((with_reducible refine gd_ 15 ?_); refine gQ_ Tryz.func148 (interlocutorref3_quote.calls _ _ _ A9.out) fun nd => ?_) | ((with_reducible refine gd_ 18 ?_); refine gQ_ Tryz.func149 (interlocutorref3_digit.calls _ _ _ A11.out) fun nd => ?_) | ((with_reducible refine gd_ 21 ?_); refine gQ_ Tryz.func149 (interlocutorref3_digit.calls _ _ _ A13.out) fun nd => ?_))
   go_ret
   exact ⟨Tc_, Tb_⟩
  rw [if_neg c12] at H; have c12b0 := decide_eq_false c12; clear c12; replace H := bd_ H; obtain ⟨t123, A14, H⟩ := H; have HC15 := aM_ H; clear H
  go_upto_if 23 with (first | ((with_reducible refine gd_ 9 ?_); refine gQ_ Tryz.func146 (interlocutorref3_blank.calls _ _ _ A5.out) fun nd => ?_) | ((with_reducible refine gd_ 12 ?_); refine gQ_ Tryz.func147 (interlocutorref3_dash.calls _ _ _ A7.out) fun nd => ?_) | ((with_reducible refine gd_ 15 ?_); refine gQ_ Tryz.func148 (interlocutorref3_quote.calls _ _ _ A9.out) fun nd => ?_) | ((with_reducible refine gd_ 18 ?_); refine gQ_ Tryz.func149 (interlocutorref3_digit.calls _ _ _ A11.out) fun nd => ?_) | ((with_reducible refine gd_ 25 ?_); refine gQ_ Tryz.func145 (interlocutorref3_in.calls _ _ _ _ _ A14.out) fun nd => ?_))
  (try simp only [Act.put, s1_, s2_, s3_])
  go_cut [23] (fun v23 wc => ∃ (kq : Nat) (x23_14 : Bool), v23 = .bool x23_14 ∧ Az (interlocutorref3_Rune.j2 kq x0_2 x23_14 = some r) ∧ Az (kq ≤ kj2) ∧ Drawn0 w wc)
  case first =>
   have H := HC15.out; clear HC15
   by_cases c16 : t123 = true
   ·subst c16
    have H1 : (interlocutorref3_Rune.j2 kj2 x0_2 true) = some r := by rw [if_pos rfl] at H; exact H
    clear H; have H := H1; clear H1; have H' := aM_ H; clear H
    go_wp2
    go_meet
    case rel => exact ⟨_, (true), Tc_, H', ⟨Wb_⟩, Tb_⟩
   replace c16 := Bool.eq_false_iff.mpr c16; subst c16; have H1 : ((interlocutorref3_in.f x0_2 192 222).bind fun t124 => (if t124 = true then (interlocutorref3_Rune.j1 kj2 x0_2 (x0_2 != 215)) else (interlocutorref3_Rune.j1 kj2 x0_2 false))) = some r := by rw [if_neg (show ¬ (false = true) by decide)] at H; exact H
   clear H; have H := H1; clear H1; have HC17 := aM_ H; clear H
   go_upto_region 12 with (fail)
   go_cut [23] (fun v23 wc => ∃ (kq : Nat) (x23_16 : Bool), v23 = .bool x23_16 ∧ Az (interlocutorref3_Rune.j1 kq x0_2 x23_16 = some r) ∧ Az (kq ≤ kj2) ∧ Drawn0 w wc)
   case first =>
    have H := HC17.out; clear HC17; replace H := bd_ H; obtain ⟨t124, A18, H⟩ := H
    by_cases c19 : t124 = true
    ·subst c19
     have H1 : (interlocutorref3_Rune.j1 kj2 x0_2 (x0_2 != 215)) = some r := by rw [if_pos rfl] at H; exact H
     clear H; have H := H1; clear H1; have H' := aM_ H; clear H
     go_wp2_with (first | ((with_reducible refine gd_ 27 ?_); refine gQ_ Tryz.func145 (interlocutorref3_in.calls _ _ _ _ _ A18.out) fun nd => ?_))
     go_meet
     case rel => exact ⟨_, ((x0_2 != 215)), Tc_, H', ⟨Wb_⟩, Tb_⟩
    replace c19 := Bool.eq_false_iff.mpr c19; subst c19; have H1 : (interlocutorref3_Rune.j1 kj2 x0_2 false) = some r := by rw [if_neg (show ¬ (false = true) by decide)] at H; exact H
    clear H; have H := H1; clear H1; have H' := aM_ H; clear H
    go_wp2_with (first | ((with_reducible refine gd_ 27 ?_); refine gQ_ Tryz.func145 (interlocutorref3_in.calls _ _ _ _ _ A18.out) fun nd => ?_))
    go_meet
    case rel => exact ⟨_, (false), Tc_, H', ⟨Wb_⟩, Tb_⟩
   clear HC17; obtain ⟨kq, x23_16, rfl, HA, HJ16, ⟨mc16, rfl⟩⟩ := hcut
   cases kq with
   | zero => exact absurd HA.out (by simp [interlocutorref3_Rune.j1])
   | succ kj16 =>
    have H := HA.out; clear HA; simp only [interlocutorref3_Rune.j1] at H
    by_cases c20 : x23_16 = true
    ·subst c20
     have H1 : (interlocutorref3_Rune.j2 kj16 x0_2 true) = some r := by rw [if_pos rfl] at H; exact H
     clear H; have H := H1; clear H1; have H' := aM_ H; clear H
     go_wp2
     go_meet
     case rel => exact ⟨_, (true), Tc_, H', ⟨Vu_⟩, Tb_⟩
    replace c20 := Bool.eq_false_iff.mpr c20; subst c20; have H1 : ((interlocutorref3_in.f x0_2 913 937).bind fun t125 => (if t125 = true then (if x0_2 = 930 then ((interlocutorref3_in.f x0_2 1040 1071).bind fun t126 => (interlocutorref3_Rune.j2 kj16 x0_2 t126)) else (interlocutorref3_Rune.j2 kj16 x0_2 (x0_2 != 930))) else ((interlocutorref3_in.f x0_2 1040 1071).bind fun t127 => (interlocutorref3_Rune.j2 kj16 x0_2 t127)))) = some r := by rw [if_neg (show ¬ (false = true) by decide)] at H; exact H
    clear H; have H := H1; clear H1; replace H := bd_ H; obtain ⟨t125, A21, H⟩ := H
    by_cases c22 : t125 = true
    ·subst c22
     have H1 : (if x0_2 = 930 then ((interlocutorref3_in.f x0_2 1040 1071).bind fun t126 => (interlocutorref3_Rune.j2 kj16 x0_2 t126)) else (interlocutorref3_Rune.j2 kj16 x0_2 (x0_2 != 930))) = some r := by rw [if_pos rfl] at H; exact H
     clear H; have H := H1; clear H1
     by_cases c23 : x0_2 = 930
     ·rw [if_pos c23] at H
      have c23b0 : (x0_2 == 930) = true := beq_iff_eq.mpr c23; have c23b1 : (x0_2 != 930) = false := bne_eq_false_iff_eq.mpr c23; clear c23; replace H := bd_ H; obtain ⟨t126, A24, H⟩ := H; have H' := aM_ H; clear H
      go_wp2_with (first | ((with_reducible refine gd_ 33 ?_); refine gQ_ Tryz.func145 (interlocutorref3_in.calls _ _ _ _ _ A21.out) fun nd => ?_) | ((with_reducible refine gd_ 39 ?_); refine gQ_ Tryz.func145 (interlocutorref3_in.calls _ _ _ _ _ A24.out) fun nd => ?_))
      go_meet
      case rel => exact ⟨_, (t126), Tc_, H', ⟨Vu_⟩, Tb_⟩
     rw [if_neg c23] at H; have c23b0 : (x0_2 == 930) = false := beq_eq_false_iff_ne.mpr c23; have c23b1 : (x0_2 != 930) = true := bne_iff_ne.mpr c23; have H' := aM_ H; clear H
     go_wp2_with (first | ((with_reducible refine gd_ 33 ?_); refine gQ_ Tryz.func145 (interlocutorref3_in.calls _ _ _ _ _ A21.out) fun nd => ?_))
     go_meet
     case rel => exact ⟨_, ((x0_2 != 930)), Tc_, H', ⟨Vu_⟩, Tb_⟩
    replace c22 := Bool.eq_false_iff.mpr c22; subst c22; have H1 : ((interlocutorref3_in.f x0_2 1040 1071).bind fun t127 => (interlocutorref3_Rune.j2 kj16 x0_2 t127)) = some r := by rw [if_neg (show ¬ (false = true) by decide)] at H; exact H
    clear H; have H := H1; clear H1; replace H := bd_ H; obtain ⟨t127, A25, H⟩ := H; have H' := aM_ H; clear H
    go_wp2_with (first | ((with_reducible refine gd_ 33 ?_); refine gQ_ Tryz.func145 (interlocutorref3_in.calls _ _ _ _ _ A21.out) fun nd => ?_) | ((with_reducible refine gd_ 39 ?_); refine gQ_ Tryz.func145 (interlocutorref3_in.calls _ _ _ _ _ A25.out) fun nd => ?_))
    go_meet
    case rel => exact ⟨_, (t127), Tc_, H', ⟨Vu_⟩, Tb_⟩
  clear HC15; obtain ⟨kq, x23_14, rfl, HA, HJ14, ⟨mc14, rfl⟩⟩ := hcut
  cases kq with
  | zero => exact absurd HA.out (by simp [interlocutorref3_Rune.j2])
  | succ kj14 =>
   have H := HA.out; clear HA; simp only [interlocutorref3_Rune.j2] at H
   by_cases c26 : x23_14 = true
   ·subst c26
    have H1 : (some (wrap64 (x0_2 + 32))) = some r := by rw [if_pos rfl] at H; exact H
    clear H; have H := H1; clear H1; obtain rfl := Option.some.inj H
    go_wp2
    go_ret
    exact ⟨Tc_, Tb_⟩
   replace c26 := Bool.eq_false_iff.mpr c26; subst c26; have H1 : ((interlocutorref3_in.f x0_2 1024 1039).bind fun t128 => (if t128 = true then (some (wrap64 (x0_2 + 80))) else (some x0_2))) = some r := by rw [if_neg (show ¬ (false = true) by decide)] at H; exact H
   clear H; have H := H1; clear H1; replace H := bd_ H; obtain ⟨t128, A27, H⟩ := H
   by_cases c28 : t128 = true
   ·subst c28
    have H1 : (some (wrap64 (x0_2 + 80))) = some r := by rw [if_pos rfl] at H; exact H
    clear H; have H := H1; clear H1; obtain rfl := Option.some.inj H
    go_wp2_with (first | ((with_reducible refine gd_ 44 ?_); refine gQ_ Tryz.func145 (interlocutorref3_in.calls _ _ _ _ _ A27.out) fun nd => ?_))
    go_ret
    exact ⟨Tc_, Tb_⟩
   replace c28 := Bool.eq_false_iff.mpr c28; subst c28; have H1 : (some x0_2) = some r := by rw [if_neg (show ¬ (false = true) by decide)] at H; exact H
   clear H; have H := H1; clear H1; obtain rfl := Option.some.inj H
   go_wp2_with (first | ((with_reducible refine gd_ 44 ?_); refine gQ_ Tryz.func145 (interlocutorref3_in.calls _ _ _ _ _ A27.out) fun nd => ?_))
   go_ret
   exact ⟨Tc_, Tb_⟩
noncomputable def interlocutorref3_Fold.l0 : Nat → ByteArray → List Int → List Int → Int → Option (List Int × List Int)
 | 0, _, _, _, _ => none
 | k + 1, x0, x4, x5, x6 => if x6 < (x0.size : Int) then (if 0 ≤ x6 then (if x6 ≤ (x0.size : Int) then ((interlocutorref3_next.f k (x0.extract (x6 : Int).toNat x0.size)).bind fun bt129 => ((interlocutorref3_Rune.f k bt129.1).bind fun t131 => (if x4.length < 17592186044416 then (if x5.length < 17592186044416 then (interlocutorref3_Fold.l0 k x0 (x4 ++ [t131]) (x5 ++ [x6]) (wrap64 (x6 + bt129.2))) else (none)) else (none)))) else (none)) else (none)) else (if x5.length < 17592186044416 then (some (x4, (x5 ++ [(x0.size : Int)]))) else (none))
noncomputable def interlocutorref3_Fold.f (k : Nat) (a0 : BA) : Option (List Int × List Int) := interlocutorref3_Fold.l0 k a0 ([] : List Int) ([] : List Int) 0
theorem interlocutorref3_Fold.calls (k : Nat) (a0 : BA) (r1 : List Int) (r2 : List Int) (w : World) (h : interlocutorref3_Fold.f k a0 = some (r1, r2)) :
  Calls Tryz.prog 69 #[.string a0] w fun e w' => ∃ v0_ v1_ : Value, e = .returned (.tuple #[v0_, v1_]) ∧ Kd.R (Kd.int .i64) 3 w' w.heap.size (fun k_ => some k_ ≠ (v1_ : Value).ownBlock) v0_ r1 ∧ Kd.R (Kd.int .i64) 3 w' w.heap.size (fun k_ => some k_ ≠ (v0_ : Value).ownBlock) v1_ r2 ∧ Below w.heap.size w w' := by
 have HB := aM_ (Below.refl w.heap.size w)
 have H : (interlocutorref3_Fold.l0 k a0 ([] : List Int) ([] : List Int) 0) = some (r1, r2) := h
 clear h
 have H' := aM_ H
 clear H
 go_enter Tryz.func69, Tryz.ntmps69
 go_wp2
 go_loopg [4, 5, 6] k (fun kq v4 v5 v6 w' => ∃ (x4_1 : List Int) (x5_1 : List Int) (x6_1 : Int), v6 = .int .i64 x6_1 ∧ Az (interlocutorref3_Fold.l0 kq a0 x4_1 x5_1 x6_1 = some (r1, r2)) ∧ Az (kq ≤ k) ∧ Az (Kd.R (Kd.int .i64) 3 w' w.heap.size (fun k_ => some k_ ≠ (v5 : Value).ownBlock) v4 x4_1) ∧ Az (Kd.R (Kd.int .i64) 3 w' w.heap.size (fun k_ => some k_ ≠ (v4 : Value).ownBlock) v5 x5_1) ∧ Az (Below w.heap.size w w'))
 case atStart => exact ⟨(([] : List Int)), (([] : List Int)), (0), Tc_, H', ⟨Nat.le_refl _⟩, ⟨Ut_⟩, ⟨Ut_⟩, ⟨Ta_⟩⟩
 clear H'
 obtain ⟨x4_1, x5_1, x6_1, rfl, HA, HK1, HO_4, HO_5, HB⟩ := hrel
 cases gk with
 | zero => exact absurd HA.out (by simp [interlocutorref3_Fold.l0])
 | succ k1 =>
  have H := HA.out; clear HA; simp only [interlocutorref3_Fold.l0] at H
  by_cases c2 : x6_1 < (a0.size : Int)
  ·rw [if_pos c2] at H
   have c2b0 := decide_eq_true c2; clear c2
   by_cases c3 : 0 ≤ x6_1
   ·rw [if_pos c3] at H
    have c3b0 := eq_true c3; have c3b1 := decide_eq_true c3; clear c3
    by_cases c4 : x6_1 ≤ (a0.size : Int)
    ·rw [if_pos c4] at H
     have c4b0 := eq_true c4; have c4b1 := decide_eq_true c4; clear c4; replace H := Option.bind_eq_some_iff.mp H; obtain ⟨⟨t129, t130⟩, A50, H⟩ := H; replace H : ((interlocutorref3_Rune.f k1 t129).bind fun t131 => (if x4_1.length < 17592186044416 then (if x5_1.length < 17592186044416 then (interlocutorref3_Fold.l0 k1 a0 (x4_1 ++ [t131]) (x5_1 ++ [x6_1]) (wrap64 (x6_1 + t130))) else (none)) else (none))) = some (r1, r2) := H; have A5 := aM_ A50; clear A50; replace H := bd_ H; obtain ⟨t131, A6, H⟩ := H
     by_cases c7 : x4_1.length < 17592186044416
     ·rw [if_pos c7] at H
      have LMc7 := aM_ c7; clear c7; obtain ⟨y132, hy132⟩ : ∃ y_ : List Int, y_ = (x4_1 ++ [t131]) := ⟨_, rfl⟩; replace H : (if x5_1.length < 17592186044416 then (interlocutorref3_Fold.l0 k1 a0 y132 (x5_1 ++ [x6_1]) (wrap64 (x6_1 + t130))) else (none)) = some (r1, r2) := by first | (rw [hy132]; with_reducible exact H) | (have H2_ := (Option.bind_some _ _).symm.trans H; rw [hy132]; with_reducible exact H2_) | (have H2_ := (Option.bind_some _ _).symm.trans H; with_reducible exact H2_) | with_reducible exact H | (rw [hy132]; exact H) | exact H
      have Ny132 := aM_ hy132; clear hy132
      by_cases c8 : x5_1.length < 17592186044416
      ·rw [if_pos c8] at H
       have LMc8 := aM_ c8; clear c8; obtain ⟨y135, hy135⟩ : ∃ y_ : List Int, y_ = (x5_1 ++ [x6_1]) := ⟨_, rfl⟩; replace H : (interlocutorref3_Fold.l0 k1 a0 y132 y135 (wrap64 (x6_1 + t130))) = some (r1, r2) := by first | (rw [hy135]; with_reducible exact H) | (have H2_ := (Option.bind_some _ _).symm.trans H; rw [hy135]; with_reducible exact H2_) | (have H2_ := (Option.bind_some _ _).symm.trans H; with_reducible exact H2_) | with_reducible exact H | (rw [hy135]; exact H) | exact H
       have Ny135 := aM_ hy135; clear hy135; have H' := aM_ H; clear H
       go_wp2_with (first | ((with_reducible refine gd_ 17 ?_); refine gQ_ Tryz.func118 (interlocutorref3_next.calls _ _ _ _ _ A5.out) fun nd => ?_) | ((with_reducible refine gd_ 22 ?_); refine gQ_ Tryz.func119 (interlocutorref3_Rune.calls _ _ _ _ A6.out) fun nd => ?_) | ((with_reducible refine se_ (b := .append) (xs := #[.tmp 20, .tmp 23]) rfl ?_); at_builtin; refine Kd.R_append (Kd.int .i64) (w0 := w) w.heap.size rfl (.tmp 20) (.tmp 23) 35 3 (.int .i64 0) 8 rfl Tryz.underlying35 qg_ rfl Tm_ Td_ u4 x4_1 t131 [.int .i64 t131] (fun k_ => some k_ ≠ (u5 : Value).ownBlock) (fun _ => False) rfl rfl rfl (fun _ hk => hk.elim) ?aF (by (with_reducible repeat (first | apply Kd.R_alloc | apply Kd.R_drewN | apply Kd.R_drew)); exact HO_4.out) Ta_ Uw_ (by have := LMc7.out; omega) ?_; (case aF => exact (fun k_ hk => Kd.fresh' (Kd.R_lt (by (with_reducible repeat (first | apply Kd.R_alloc | apply Kd.R_drewN | apply Kd.R_drew)); exact HO_5.out)) k_ hk)); intro v133 w9 ho hb hg hat; rw [← Ny132.out] at ho; have n0_ := aM_ (Kd.R_after (ok := (fun _ => True)) (by (with_reducible repeat (first | apply Kd.R_alloc | apply Kd.R_drewN | apply Kd.R_drew)); exact Kd.R_mono HO_5.out (fun _ hk => ⟨trivial, hk⟩)) hg hat); have n1_ := aM_ (hb); have n2_ := aM_ (ho); clear HO_5; clear HB; clear HO_4; have HO_5 := n0_; have HB := n1_; have HO134 := n2_; clear n0_ n1_ n2_; clear ho hb hg hat) | ((with_reducible refine se_ (b := .append) (xs := #[.tmp 25, .tmp 27]) rfl ?_); at_builtin; refine Kd.R_append (Kd.int .i64) (w0 := w) w.heap.size rfl (.tmp 25) (.tmp 27) 35 3 (.int .i64 0) 8 rfl Tryz.underlying35 qg_ rfl Tm_ Td_ u5 x5_1 x6_1 [.int .i64 x6_1] (fun k_ => some k_ ≠ (v133 : Value).ownBlock) (fun _ => False) rfl rfl rfl (fun _ hk => hk.elim) ?aF (by (with_reducible repeat (first | apply Kd.R_alloc | apply Kd.R_drewN | apply Kd.R_drew)); (first | exact Kd.R_mono HO_5.out (fun _ hk => hk.2) | exact HO_5.out)) Ta_ Uw_ (by have := LMc8.out; omega) ?_; (case aF => exact (fun k_ hk => Kd.fresh' (Kd.R_lt (by (with_reducible repeat (first | apply Kd.R_alloc | apply Kd.R_drewN | apply Kd.R_drew)); exact HO134.out)) k_ hk)); intro v136 w10 ho hb hg hat; rw [← Ny135.out] at ho; have n0_ := aM_ (Kd.R_after (ok := (fun _ => True)) (by (with_reducible repeat (first | apply Kd.R_alloc | apply Kd.R_drewN | apply Kd.R_drew)); exact Kd.R_mono HO134.out (fun _ hk => ⟨trivial, hk⟩)) hg hat); have n1_ := aM_ (hb); have n2_ := aM_ (ho); clear HO134; clear HB; clear HO_5; have HO134 := n0_; have HB := n1_; have HO137 := n2_; clear n0_ n1_ n2_; clear ho hb hg hat))
       go_roundg k1
       case measure => have := HK1.out; omega
       case rel => exact ⟨(y132), (y135), (wrap64 (x6_1 + t130)), Tc_, H', ⟨Vs_⟩, ⟨by (with_reducible repeat (first | apply Kd.R_alloc | apply Kd.R_drewN | apply Kd.R_drew)); (first | exact Kd.R_mono HO134.out (fun _ hk => hk.2) | exact HO134.out)⟩, ⟨by (with_reducible repeat (first | apply Kd.R_alloc | apply Kd.R_drewN | apply Kd.R_drew)); exact HO137.out⟩, ⟨Ta_⟩⟩
      rw [if_neg c8] at H; exact absurd H Tt_
     rw [if_neg c7] at H; exact absurd H Tt_
    rw [if_neg c4] at H; exact absurd H Tt_
   rw [if_neg c3] at H; exact absurd H Tt_
  rw [if_neg c2] at H; have c2b0 := decide_eq_false c2; clear c2
  by_cases c11 : x5_1.length < 17592186044416
  ·rw [if_pos c11] at H
   have LMc11 := aM_ c11; clear c11; obtain ⟨y138, hy138⟩ : ∃ y_ : List Int, y_ = (x5_1 ++ [(a0.size : Int)]) := ⟨_, rfl⟩; replace H : (some (x4_1, y138)) = some (r1, r2) := by first | (rw [hy138]; with_reducible exact H) | (have H2_ := (Option.bind_some _ _).symm.trans H; rw [hy138]; with_reducible exact H2_) | (have H2_ := (Option.bind_some _ _).symm.trans H; with_reducible exact H2_) | with_reducible exact H | (rw [hy138]; exact H) | exact H
   have Ny138 := aM_ hy138; clear hy138; simp only [Option.some.injEq, Prod.mk.injEq] at H; obtain ⟨rfl, rfl⟩ := H
   go_wp2_with (first | ((with_reducible refine se_ (b := .append) (xs := #[.tmp 33, .tmp 36]) rfl ?_); at_builtin; refine Kd.R_append (Kd.int .i64) (w0 := w) w.heap.size rfl (.tmp 33) (.tmp 36) 35 3 (.int .i64 0) 8 rfl Tryz.underlying35 qg_ rfl Tm_ Td_ u5 x5_1 (a0.size : Int) [.int .i64 (a0.size : Int)] (fun k_ => some k_ ≠ (u4 : Value).ownBlock) (fun _ => False) rfl rfl rfl (fun _ hk => hk.elim) ?aF (by (with_reducible repeat (first | apply Kd.R_alloc | apply Kd.R_drewN | apply Kd.R_drew)); exact HO_5.out) Ta_ Uw_ (by have := LMc11.out; omega) ?_; (case aF => exact (fun k_ hk => Kd.fresh' (Kd.R_lt (by (with_reducible repeat (first | apply Kd.R_alloc | apply Kd.R_drewN | apply Kd.R_drew)); exact HO_4.out)) k_ hk)); intro v139 w12 ho hb hg hat; rw [← Ny138.out] at ho; have n0_ := aM_ (Kd.R_after (ok := (fun _ => True)) (by (with_reducible repeat (first | apply Kd.R_alloc | apply Kd.R_drewN | apply Kd.R_drew)); exact Kd.R_mono HO_4.out (fun _ hk => ⟨trivial, hk⟩)) hg hat); have n1_ := aM_ (hb); have n2_ := aM_ (ho); clear HO_4; clear HB; clear HO_5; have HO_4 := n0_; have HB := n1_; have HO140 := n2_; clear n0_ n1_ n2_; clear ho hb hg hat))
   go_ret2
   exact ⟨_, _, Tl_, by (with_reducible repeat (first | apply Kd.R_alloc | apply Kd.R_drewN | apply Kd.R_drew)); (first | exact Kd.R_mono HO_4.out (fun _ hk => hk.2) | exact HO_4.out), by (with_reducible repeat (first | apply Kd.R_alloc | apply Kd.R_drewN | apply Kd.R_drew)); exact HO140.out, Ta_⟩
  rw [if_neg c11] at H; exact absurd H Tt_
noncomputable def interlocutorref3_One.f (a0 : Int) : Option (ByteArray) := if a0 < 128 then (some (strOfNums (([(a0) % 256] : List Int)))) else (if a0 < 2048 then (some (strOfNums (([(Go.bits .or .i64 192 (a0 / 64)) % 256, (Go.bits .or .i64 128 (Go.bits .and .i64 a0 63)) % 256] : List Int)))) else (if a0 < 65536 then (some (strOfNums (([(Go.bits .or .i64 224 (a0 / 4096)) % 256, (Go.bits .or .i64 128 (Go.bits .and .i64 (a0 / 64) 63)) % 256, (Go.bits .or .i64 128 (Go.bits .and .i64 a0 63)) % 256] : List Int)))) else (some (strOfNums (([(Go.bits .or .i64 240 (a0 / 262144)) % 256, (Go.bits .or .i64 128 (Go.bits .and .i64 (a0 / 4096) 63)) % 256, (Go.bits .or .i64 128 (Go.bits .and .i64 (a0 / 64) 63)) % 256, (Go.bits .or .i64 128 (Go.bits .and .i64 a0 63)) % 256] : List Int))))))
theorem interlocutorref3_One.calls (a0 : Int) (r : BA) (w : World) (h : interlocutorref3_One.f a0 = some r) :
  Calls Tryz.prog 70 #[.int .i64 a0] w fun e w' => e = .returned (.string r) ∧ Below w.heap.size w w' := by
 have HB := aM_ (Below.refl w.heap.size w)
 have H : (if a0 < 128 then (some (strOfNums (([(a0) % 256] : List Int)))) else (if a0 < 2048 then (some (strOfNums (([(Go.bits .or .i64 192 (a0 / 64)) % 256, (Go.bits .or .i64 128 (Go.bits .and .i64 a0 63)) % 256] : List Int)))) else (if a0 < 65536 then (some (strOfNums (([(Go.bits .or .i64 224 (a0 / 4096)) % 256, (Go.bits .or .i64 128 (Go.bits .and .i64 (a0 / 64) 63)) % 256, (Go.bits .or .i64 128 (Go.bits .and .i64 a0 63)) % 256] : List Int)))) else (some (strOfNums (([(Go.bits .or .i64 240 (a0 / 262144)) % 256, (Go.bits .or .i64 128 (Go.bits .and .i64 (a0 / 4096) 63)) % 256, (Go.bits .or .i64 128 (Go.bits .and .i64 (a0 / 64) 63)) % 256, (Go.bits .or .i64 128 (Go.bits .and .i64 a0 63)) % 256] : List Int))))))) = some r := h
 clear h
 by_cases c2 : a0 < 128
 ·rw [if_pos c2] at H
  have c2b0 := decide_eq_true c2; clear c2; obtain ⟨y141, hy141⟩ : ∃ y_ : List Int, y_ = (([(a0) % 256] : List Int)) := ⟨_, rfl⟩; replace H : (some (strOfNums y141)) = some r := by first | (rw [hy141]; with_reducible exact H) | (have H2_ := (Option.bind_some _ _).symm.trans H; rw [hy141]; with_reducible exact H2_) | (have H2_ := (Option.bind_some _ _).symm.trans H; with_reducible exact H2_) | with_reducible exact H | (rw [hy141]; exact H) | exact H
  have Ny141 := aM_ hy141; clear hy141; obtain rfl := Option.some.inj H
  go_enter Tryz.func70, Tryz.ntmps70
  go_wp2_with (first | ((with_reducible refine gd_ 8 ?_); refine Kd.R_lit (Kd.int .u8) _ 5 rfl (N := 8) rfl (xs := ([(a0) % 256] : List Int)) (inner := [.int .u8 ((a0) % 256)]) (ok := fun _ => True) (okp := fun _ => True) Tx_ ?hp (fun _ hk => hk) trivial (Below.refl _ _) (Nat.le_refl _) Tt_ ?_; (case hp => exact (Reps.one (show Kd.M (Kd.int .u8) _ _ _ ((a0) % 256) [.int .u8 ((a0) % 256)] from rfl) (Reps.none _ _))); intro v142 w3 ho4 hb hg_ hnew_; clear hg_ hnew_; (first | rw [← Ny141.out] at ho4 | (simp only [Int.reduceToNat] at ho4; rw [← Ny141.out] at ho4)); have n0_ := aM_ (Kd.R_lower ho4 (na_ Ta_)); have n1_ := aM_ (da_ Ta_ hb); clear HB; have HO143 := n0_; have HB := n1_; clear n0_ n1_; clear hb ho4; have hcv5 := kh_ (P := Tryz.prog) Tryz.underlying28 Tryz.underlying5 Tryz.underlying9 (Kd.own_of_R HO143.out)))
  go_ret
  exact ⟨Tl_, Ta_⟩
 rw [if_neg c2] at H
 have c2b0 := decide_eq_false c2
 clear c2
 by_cases c6 : a0 < 2048
 ·rw [if_pos c6] at H
  have c6b0 := decide_eq_true c6; clear c6; obtain ⟨y144, hy144⟩ : ∃ y_ : List Int, y_ = (([(Go.bits .or .i64 192 (a0 / 64)) % 256, (Go.bits .or .i64 128 (Go.bits .and .i64 a0 63)) % 256] : List Int)) := ⟨_, rfl⟩; replace H : (some (strOfNums y144)) = some r := by first | (rw [hy144]; with_reducible exact H) | (have H2_ := (Option.bind_some _ _).symm.trans H; rw [hy144]; with_reducible exact H2_) | (have H2_ := (Option.bind_some _ _).symm.trans H; with_reducible exact H2_) | with_reducible exact H | (rw [hy144]; exact H) | exact H
  have Ny144 := aM_ hy144; clear hy144; obtain rfl := Option.some.inj H
  go_enter Tryz.func70, Tryz.ntmps70
  go_wp2_with (first | ((with_reducible refine gd_ 21 ?_); refine Kd.R_lit (Kd.int .u8) _ 5 rfl (N := 21) rfl (xs := ([(Go.bits .or .i64 192 (a0 / 64)) % 256, (Go.bits .or .i64 128 (Go.bits .and .i64 a0 63)) % 256] : List Int)) (inner := [.int .u8 ((Go.bits .or .i64 192 (a0 / 64)) % 256), .int .u8 ((Go.bits .or .i64 128 (Go.bits .and .i64 a0 63)) % 256)]) (ok := fun _ => True) (okp := fun _ => True) Tx_ ?hp (fun _ hk => hk) trivial (Below.refl _ _) (Nat.le_refl _) Tt_ ?_; (case hp => exact (Reps.one (show Kd.M (Kd.int .u8) _ _ _ ((Go.bits .or .i64 192 (a0 / 64)) % 256) [.int .u8 ((Go.bits .or .i64 192 (a0 / 64)) % 256)] from rfl) (Reps.one (show Kd.M (Kd.int .u8) _ _ _ ((Go.bits .or .i64 128 (Go.bits .and .i64 a0 63)) % 256) [.int .u8 ((Go.bits .or .i64 128 (Go.bits .and .i64 a0 63)) % 256)] from rfl) (Reps.none _ _)))); intro v145 w7 ho8 hb hg_ hnew_; clear hg_ hnew_; (first | rw [← Ny144.out] at ho8 | (simp only [Int.reduceToNat] at ho8; rw [← Ny144.out] at ho8)); have n0_ := aM_ (Kd.R_lower ho8 (na_ Ta_)); have n1_ := aM_ (da_ Ta_ hb); clear HB; have HO146 := n0_; have HB := n1_; clear n0_ n1_; clear hb ho8; have hcv9 := kh_ (P := Tryz.prog) Tryz.underlying28 Tryz.underlying5 Tryz.underlying9 (Kd.own_of_R HO146.out)))
  go_ret
  exact ⟨Tl_, Ta_⟩
 rw [if_neg c6] at H
 have c6b0 := decide_eq_false c6
 clear c6
 by_cases c10 : a0 < 65536
 ·rw [if_pos c10] at H
  have c10b0 := decide_eq_true c10; clear c10; obtain ⟨y147, hy147⟩ : ∃ y_ : List Int, y_ = (([(Go.bits .or .i64 224 (a0 / 4096)) % 256, (Go.bits .or .i64 128 (Go.bits .and .i64 (a0 / 64) 63)) % 256, (Go.bits .or .i64 128 (Go.bits .and .i64 a0 63)) % 256] : List Int)) := ⟨_, rfl⟩; replace H : (some (strOfNums y147)) = some r := by first | (rw [hy147]; with_reducible exact H) | (have H2_ := (Option.bind_some _ _).symm.trans H; rw [hy147]; with_reducible exact H2_) | (have H2_ := (Option.bind_some _ _).symm.trans H; with_reducible exact H2_) | with_reducible exact H | (rw [hy147]; exact H) | exact H
  have Ny147 := aM_ hy147; clear hy147; obtain rfl := Option.some.inj H
  go_enter Tryz.func70, Tryz.ntmps70
  go_wp2_with (first | ((with_reducible refine gd_ 39 ?_); refine Kd.R_lit (Kd.int .u8) _ 5 rfl (N := 39) rfl (xs := ([(Go.bits .or .i64 224 (a0 / 4096)) % 256, (Go.bits .or .i64 128 (Go.bits .and .i64 (a0 / 64) 63)) % 256, (Go.bits .or .i64 128 (Go.bits .and .i64 a0 63)) % 256] : List Int)) (inner := [.int .u8 ((Go.bits .or .i64 224 (a0 / 4096)) % 256), .int .u8 ((Go.bits .or .i64 128 (Go.bits .and .i64 (a0 / 64) 63)) % 256), .int .u8 ((Go.bits .or .i64 128 (Go.bits .and .i64 a0 63)) % 256)]) (ok := fun _ => True) (okp := fun _ => True) Tx_ ?hp (fun _ hk => hk) trivial (Below.refl _ _) (Nat.le_refl _) Tt_ ?_; (case hp => exact (Reps.one (show Kd.M (Kd.int .u8) _ _ _ ((Go.bits .or .i64 224 (a0 / 4096)) % 256) [.int .u8 ((Go.bits .or .i64 224 (a0 / 4096)) % 256)] from rfl) (Reps.one (show Kd.M (Kd.int .u8) _ _ _ ((Go.bits .or .i64 128 (Go.bits .and .i64 (a0 / 64) 63)) % 256) [.int .u8 ((Go.bits .or .i64 128 (Go.bits .and .i64 (a0 / 64) 63)) % 256)] from rfl) (Reps.one (show Kd.M (Kd.int .u8) _ _ _ ((Go.bits .or .i64 128 (Go.bits .and .i64 a0 63)) % 256) [.int .u8 ((Go.bits .or .i64 128 (Go.bits .and .i64 a0 63)) % 256)] from rfl) (Reps.none _ _))))); intro v148 w11 ho12 hb hg_ hnew_; clear hg_ hnew_; (first | rw [← Ny147.out] at ho12 | (simp only [Int.reduceToNat] at ho12; rw [← Ny147.out] at ho12)); have n0_ := aM_ (Kd.R_lower ho12 (na_ Ta_)); have n1_ := aM_ (da_ Ta_ hb); clear HB; have HO149 := n0_; have HB := n1_; clear n0_ n1_; clear hb ho12; have hcv13 := kh_ (P := Tryz.prog) Tryz.underlying28 Tryz.underlying5 Tryz.underlying9 (Kd.own_of_R HO149.out)))
  go_ret
  exact ⟨Tl_, Ta_⟩
 rw [if_neg c10] at H
 have c10b0 := decide_eq_false c10
 clear c10
 obtain ⟨y150, hy150⟩ : ∃ y_ : List Int, y_ = (([(Go.bits .or .i64 240 (a0 / 262144)) % 256, (Go.bits .or .i64 128 (Go.bits .and .i64 (a0 / 4096) 63)) % 256, (Go.bits .or .i64 128 (Go.bits .and .i64 (a0 / 64) 63)) % 256, (Go.bits .or .i64 128 (Go.bits .and .i64 a0 63)) % 256] : List Int)) := ⟨_, rfl⟩
 replace H : (some (strOfNums y150)) = some r := by first | (rw [hy150]; with_reducible exact H) | (have H2_ := (Option.bind_some _ _).symm.trans H; rw [hy150]; with_reducible exact H2_) | (have H2_ := (Option.bind_some _ _).symm.trans H; with_reducible exact H2_) | with_reducible exact H | (rw [hy150]; exact H) | exact H
 have Ny150 := aM_ hy150
 clear hy150
 obtain rfl := Option.some.inj H
 go_enter Tryz.func70, Tryz.ntmps70
 go_wp2_with (first | ((with_reducible refine gd_ 59 ?_); refine Kd.R_lit (Kd.int .u8) _ 5 rfl (N := 59) rfl (xs := ([(Go.bits .or .i64 240 (a0 / 262144)) % 256, (Go.bits .or .i64 128 (Go.bits .and .i64 (a0 / 4096) 63)) % 256, (Go.bits .or .i64 128 (Go.bits .and .i64 (a0 / 64) 63)) % 256, (Go.bits .or .i64 128 (Go.bits .and .i64 a0 63)) % 256] : List Int)) (inner := [.int .u8 ((Go.bits .or .i64 240 (a0 / 262144)) % 256), .int .u8 ((Go.bits .or .i64 128 (Go.bits .and .i64 (a0 / 4096) 63)) % 256), .int .u8 ((Go.bits .or .i64 128 (Go.bits .and .i64 (a0 / 64) 63)) % 256), .int .u8 ((Go.bits .or .i64 128 (Go.bits .and .i64 a0 63)) % 256)]) (ok := fun _ => True) (okp := fun _ => True) Tx_ ?hp (fun _ hk => hk) trivial (Below.refl _ _) (Nat.le_refl _) Tt_ ?_; (case hp => exact (Reps.one (show Kd.M (Kd.int .u8) _ _ _ ((Go.bits .or .i64 240 (a0 / 262144)) % 256) [.int .u8 ((Go.bits .or .i64 240 (a0 / 262144)) % 256)] from rfl) (Reps.one (show Kd.M (Kd.int .u8) _ _ _ ((Go.bits .or .i64 128 (Go.bits .and .i64 (a0 / 4096) 63)) % 256) [.int .u8 ((Go.bits .or .i64 128 (Go.bits .and .i64 (a0 / 4096) 63)) % 256)] from rfl) (Reps.one (show Kd.M (Kd.int .u8) _ _ _ ((Go.bits .or .i64 128 (Go.bits .and .i64 (a0 / 64) 63)) % 256) [.int .u8 ((Go.bits .or .i64 128 (Go.bits .and .i64 (a0 / 64) 63)) % 256)] from rfl) (Reps.one (show Kd.M (Kd.int .u8) _ _ _ ((Go.bits .or .i64 128 (Go.bits .and .i64 a0 63)) % 256) [.int .u8 ((Go.bits .or .i64 128 (Go.bits .and .i64 a0 63)) % 256)] from rfl) (Reps.none _ _)))))); intro v151 w14 ho15 hb hg_ hnew_; clear hg_ hnew_; (first | rw [← Ny150.out] at ho15 | (simp only [Int.reduceToNat] at ho15; rw [← Ny150.out] at ho15)); have n0_ := aM_ (Kd.R_lower ho15 (na_ Ta_)); have n1_ := aM_ (da_ Ta_ hb); clear HB; have HO152 := n0_; have HB := n1_; clear n0_ n1_; clear hb ho15; have hcv16 := kh_ (P := Tryz.prog) Tryz.underlying28 Tryz.underlying5 Tryz.underlying9 (Kd.own_of_R HO152.out)))
 go_ret
 exact ⟨Tl_, Ta_⟩
noncomputable def interlocutorref3_Text.l0 : Nat → List Int → ByteArray → Int → Option (ByteArray)
 | 0, _, _, _ => none
 | k + 1, x3, x5, x6 => if x6 < (x3.length : Int) then (if 0 ≤ x6 then ((interlocutorref3_One.f (rd x3 x6)).bind fun t160 => (if x5.size + t160.size ≤ 9223372036854775807 then (interlocutorref3_Text.l0 k x3 (x5 ++ t160) (wrap64 (x6 + 1))) else (none))) else (none)) else (some x5)
noncomputable def interlocutorref3_Text.f (k : Nat) (a0 : BA) : Option (ByteArray) := (interlocutorref3_Fold.f k a0).bind fun bt153 => (interlocutorref3_Text.l0 k bt153.1 (⟨#[]⟩ : BA) 0)
theorem interlocutorref3_Text.calls (k : Nat) (a0 : BA) (r : BA) (w : World) (h : interlocutorref3_Text.f k a0 = some r) :
  Calls Tryz.prog 29 #[.string a0] w fun e w' => e = .returned (.string r) ∧ Below w.heap.size w w' := by
 have HB := aM_ (Below.refl w.heap.size w)
 have H : ((interlocutorref3_Fold.f k a0).bind fun bt153 => (interlocutorref3_Text.l0 k bt153.1 (⟨#[]⟩ : BA) 0)) = some r := h
 clear h
 replace H := Option.bind_eq_some_iff.mp H
 obtain ⟨⟨t153, t154⟩, A20, H⟩ := H
 replace H : (interlocutorref3_Text.l0 k t153 (⟨#[]⟩ : BA) 0) = some r := H
 have A2 := aM_ A20
 clear A20
 have H' := aM_ H
 clear H
 go_enter Tryz.func29, Tryz.ntmps29
 go_wp2_with (first | ((with_reducible refine gd_ 9 ?_); refine gL_ Tryz.func69 #[.string a0] ?_; (with_reducible refine (interlocutorref3_Fold.calls _ _ _ _ _ A2.out).mono ?_); rintro e w3 ⟨v155, v157, rfl, ho0, ho1, hb⟩; refine ⟨_, rfl, ?_⟩; have n0_ := aM_ (Kd.R_lower ho0 (na_ Ta_)); have n1_ := aM_ (Kd.R_lower ho1 (na_ Ta_)); have n2_ := aM_ (da_ Ta_ hb); clear HB; have HO156 := n0_; have HO158 := n1_; have HB := n2_; clear n0_ n1_ n2_; (try clear hb); (try clear hb2); (try clear hk); (try clear hi); (try clear ho0); (try clear ho1)))
 go_loopg [5, 6] k (fun kq v5 v6 w' => ∃ (x5_1 : BA) (x6_1 : Int), v5 = .string x5_1 ∧ v6 = .int .i64 x6_1 ∧ Az (interlocutorref3_Text.l0 kq t153 x5_1 x6_1 = some r) ∧ Az (kq ≤ k) ∧ Az (Kd.R (Kd.int .i64) 3 w' w.heap.size (fun _ => True) v155 t153) ∧ Az (Below w.heap.size w w'))
 case atStart => exact ⟨((⟨#[]⟩ : BA)), (0), Tc_, Tc_, H', ⟨Nat.le_refl _⟩, ⟨by (with_reducible repeat (first | apply Kd.R_alloc | apply Kd.R_drewN | apply Kd.R_drew)); exact Kd.R_mono HO156.out (fun _ hk => trivial)⟩, ⟨Ta_⟩⟩
 clear H'
 obtain ⟨x5_1, x6_1, rfl, rfl, HA, HK1, HO_3, HB⟩ := hrel
 cases gk with
 | zero => exact absurd HA.out (by simp [interlocutorref3_Text.l0])
 | succ k1 =>
  have H := HA.out; clear HA; simp only [interlocutorref3_Text.l0] at H
  by_cases c4 : x6_1 < (t153.length : Int)
  ·rw [if_pos c4] at H
   have c4b0 := decide_eq_true c4; clear c4
   by_cases c5 : 0 ≤ x6_1
   ·rw [if_pos c5] at H
    have c5b0 := decide_eq_true c5; clear c5; replace H := bd_ H; obtain ⟨t160, A6, H⟩ := H
    by_cases c7 : x5_1.size + t160.size ≤ 9223372036854775807
    ·rw [if_pos c7] at H
     have c7b0 := eq_true c7; have c7b1 := decide_eq_true c7
     try have c7b2 : (9223372036854775807 < x5_1.size + t160.size) = False := eq_false (Nat.not_lt.2 c7)
     have H' := aM_ H; clear H; obtain ⟨Ao8, co8, eo8⟩ := Kd.R_slice HO_3.out; subst eo8; have p159 : 0 ≤ (x6_1 : Int) := of_decide_eq_true Te_; have q159 : x6_1 < (t153.length : Int) := of_decide_eq_true Te_; obtain ⟨ad159, e159, hx159_0⟩ := Kd.at_int (Kd.R_reads' HO_3.out).2.2 x6_1 p159 q159
     cases e159
     replace p159 := eq_true p159; replace q159 := eq_true q159
     go_wp2_with (first | ((with_reducible refine gd_ 23 ?_); refine gL_ Tryz.func70 #[.int .i64 (rd t153 x6_1)] ?_; (with_reducible refine (interlocutorref3_One.calls _ _ _ A6.out).mono ?_); rintro e w9 ⟨rfl, hb⟩; refine ⟨_, rfl, ?_⟩; have n0_ := aM_ (Kd.R_below (by (with_reducible repeat (first | apply Kd.R_alloc | apply Kd.R_drewN | apply Kd.R_drew)); exact HO_3.out) hb); have n1_ := aM_ (da_ Ta_ hb); clear HO_3; clear HB; have HO_3 := n0_; have HB := n1_; clear n0_ n1_; (try clear hb); (try clear hb2); (try clear hk); (try clear hi)))
     go_roundg k1
     case measure => have := HK1.out; omega
     case rel => exact ⟨(x5_1 ++ t160), (wrap64 (x6_1 + 1)), Tc_, Tc_, H', ⟨Vs_⟩, ⟨by (with_reducible repeat (first | apply Kd.R_alloc | apply Kd.R_drewN | apply Kd.R_drew)); exact HO_3.out⟩, ⟨Ta_⟩⟩
    rw [if_neg c7] at H; exact absurd H Tt_
   rw [if_neg c5] at H; exact absurd H Tt_
  rw [if_neg c4] at H; have c4b0 := decide_eq_false c4; clear c4; obtain rfl := Option.some.inj H; obtain ⟨Ao10, co10, eo10⟩ := Kd.R_slice HO_3.out; subst eo10
  go_wp2
  go_ret
  exact ⟨Tl_, Ta_⟩
mutual
noncomputable def r4_wants.j0 : Nat → Int → Bool → Option (Int × Int)
 | 0, _, _ => none
 | k + 1, x4, x5 => if x5 = true then (some (1, 1)) else (if x4 = 2 then (r4_wants.j1 k x4 (x4 == 2)) else (if x4 = 5 then (r4_wants.j1 k x4 (x4 == 5)) else (if x4 = 9 then (r4_wants.j1 k x4 (x4 == 9)) else (if x4 = 12 then (r4_wants.j1 k x4 (x4 == 12)) else (if x4 = 13 then (r4_wants.j1 k x4 (x4 == 13)) else (if x4 = 14 then (r4_wants.j1 k x4 (x4 == 14)) else (r4_wants.j1 k x4 (x4 == 15))))))))
noncomputable def r4_wants.j1 : Nat → Int → Bool → Option (Int × Int)
 | 0, _, _ => none
 | k + 1, x4, x10 => if x10 = true then (some (2, 2)) else (if x4 = 1 then (r4_wants.j2 k x4 (x4 == 1)) else (r4_wants.j2 k x4 (x4 == 6)))
noncomputable def r4_wants.j2 : Nat → Int → Bool → Option (Int × Int)
 | 0, _, _ => none
 | k + 1, x4, x18 => if x18 = true then (some (3, 3)) else (if x4 = 3 then (r4_wants.j3 k x4 (x4 == 3)) else (r4_wants.j3 k x4 (x4 == 4)))
noncomputable def r4_wants.j3 : Nat → Int → Bool → Option (Int × Int)
 | 0, _, _ => none
 | k + 1, x4, x21 => if x21 = true then (some (2, 3)) else (if x4 = 10 then (some (1, 6)) else (some (1, 0)))
end
noncomputable def r4_wants.f (k : Nat) (a0 : Int) : Option (Int × Int) := if a0 = 0 then (r4_wants.j0 k a0 (a0 == 0)) else (if a0 = 7 then (r4_wants.j0 k a0 (a0 == 7)) else (if a0 = 8 then (r4_wants.j0 k a0 (a0 == 8)) else (r4_wants.j0 k a0 (a0 == 11))))
theorem r4_wants.calls (k : Nat) (a0 : Int) (r1 : Int) (r2 : Int) (w : World) (h : r4_wants.f k a0 = some (r1, r2)) :
  Calls Tryz.prog 116 #[.int .i64 a0] w fun e w' => e = .returned (.tuple #[.int .i64 r1, .int .i64 r2]) ∧ Drawn0 w w' := by
 have H : (if a0 = 0 then (r4_wants.j0 k a0 (a0 == 0)) else (if a0 = 7 then (r4_wants.j0 k a0 (a0 == 7)) else (if a0 = 8 then (r4_wants.j0 k a0 (a0 == 8)) else (r4_wants.j0 k a0 (a0 == 11))))) = some (r1, r2) := h
 clear h
 have HC2 := aM_ H
 clear H
 go_enter Tryz.func116, Tryz.ntmps116
 go_upto_if 5 with (fail)
 go_cut [5] (fun v5 wc => ∃ (kq : Nat) (x5_1 : Bool), v5 = .bool x5_1 ∧ Az (r4_wants.j0 kq a0 x5_1 = some (r1, r2)) ∧ Az (kq ≤ k) ∧ Drawn0 w wc)
 case first =>
  have H := HC2.out; clear HC2
  by_cases c3 : a0 = 0
  ·rw [if_pos c3] at H
   have c3b0 : (a0 == 0) = true := beq_iff_eq.mpr c3; have c3b1 : (a0 != 0) = false := bne_eq_false_iff_eq.mpr c3; clear c3
   (first | rw [c3b0] | (simp only [ya_, za_]; rw [c3b0]) | skip)
   have H' := aM_ H; clear H
   go_wp2
   go_meet
   case rel => exact ⟨_, ((a0 == 0)), Tc_, H', ⟨Uh_⟩, Tb_⟩
  rw [if_neg c3] at H; have c3b0 : (a0 == 0) = false := beq_eq_false_iff_ne.mpr c3; have c3b1 : (a0 != 0) = true := bne_iff_ne.mpr c3
  (first | rw [c3b0] | (simp only [ya_, za_]; rw [c3b0]) | skip)
  by_cases c4 : a0 = 7
  ·rw [if_pos c4] at H
   have c4b0 : (a0 == 7) = true := beq_iff_eq.mpr c4; have c4b1 : (a0 != 7) = false := bne_eq_false_iff_eq.mpr c4; clear c4; have H' := aM_ H; clear H
   go_wp2
   go_meet
   case rel => exact ⟨_, ((a0 == 7)), Tc_, H', ⟨Uh_⟩, Tb_⟩
  rw [if_neg c4] at H; have c4b0 : (a0 == 7) = false := beq_eq_false_iff_ne.mpr c4; have c4b1 : (a0 != 7) = true := bne_iff_ne.mpr c4
  by_cases c5 : a0 = 8
  ·rw [if_pos c5] at H
   have c5b0 : (a0 == 8) = true := beq_iff_eq.mpr c5; have c5b1 : (a0 != 8) = false := bne_eq_false_iff_eq.mpr c5; clear c5; have H' := aM_ H; clear H
   go_wp2
   go_meet
   case rel => exact ⟨_, ((a0 == 8)), Tc_, H', ⟨Uh_⟩, Tb_⟩
  rw [if_neg c5] at H; have c5b0 : (a0 == 8) = false := beq_eq_false_iff_ne.mpr c5; have c5b1 : (a0 != 8) = true := bne_iff_ne.mpr c5; have H' := aM_ H; clear H
  go_wp2
  go_meet
  case rel => exact ⟨_, ((a0 == 11)), Tc_, H', ⟨Uh_⟩, Tb_⟩
 clear HC2
 obtain ⟨kq, x5_1, rfl, HA, HJ1, ⟨mc1, rfl⟩⟩ := hcut
 cases kq with
 | zero => exact absurd HA.out (by simp [r4_wants.j0])
 | succ kj1 =>
  have H := HA.out; clear HA; simp only [r4_wants.j0] at H
  by_cases c6 : x5_1 = true
  ·subst c6
   have H1 : (some (1, 1)) = some (r1, r2) := by rw [if_pos rfl] at H; exact H
   clear H; have H := H1; clear H1; simp only [Option.some.injEq, Prod.mk.injEq] at H; obtain ⟨rfl, rfl⟩ := H
   go_wp2
   go_ret2
   exact ⟨Tc_, Tb_⟩
  replace c6 := Bool.eq_false_iff.mpr c6; subst c6; have H1 : (if a0 = 2 then (r4_wants.j1 kj1 a0 (a0 == 2)) else (if a0 = 5 then (r4_wants.j1 kj1 a0 (a0 == 5)) else (if a0 = 9 then (r4_wants.j1 kj1 a0 (a0 == 9)) else (if a0 = 12 then (r4_wants.j1 kj1 a0 (a0 == 12)) else (if a0 = 13 then (r4_wants.j1 kj1 a0 (a0 == 13)) else (if a0 = 14 then (r4_wants.j1 kj1 a0 (a0 == 14)) else (r4_wants.j1 kj1 a0 (a0 == 15)))))))) = some (r1, r2) := by rw [if_neg (show ¬ (false = true) by decide)] at H; exact H
  clear H; have H := H1; clear H1; have HC7 := aM_ H; clear H
  go_upto_if 10 with (fail)
  go_cut [10] (fun v10 wc => ∃ (kq : Nat) (x10_6 : Bool), v10 = .bool x10_6 ∧ Az (r4_wants.j1 kq a0 x10_6 = some (r1, r2)) ∧ Az (kq ≤ kj1) ∧ Drawn0 w wc)
  case first =>
   have H := HC7.out; clear HC7
   by_cases c8 : a0 = 2
   ·rw [if_pos c8] at H
    have c8b0 : (a0 == 2) = true := beq_iff_eq.mpr c8; have c8b1 : (a0 != 2) = false := bne_eq_false_iff_eq.mpr c8; clear c8
    (first | rw [c8b0] | (simp only [ya_, za_]; rw [c8b0]) | skip)
    have H' := aM_ H; clear H
    go_wp2
    go_meet
    case rel => exact ⟨_, ((a0 == 2)), Tc_, H', ⟨Uf_⟩, Tb_⟩
   rw [if_neg c8] at H; have c8b0 : (a0 == 2) = false := beq_eq_false_iff_ne.mpr c8; have c8b1 : (a0 != 2) = true := bne_iff_ne.mpr c8
   (first | rw [c8b0] | (simp only [ya_, za_]; rw [c8b0]) | skip)
   by_cases c9 : a0 = 5
   ·rw [if_pos c9] at H
    have c9b0 : (a0 == 5) = true := beq_iff_eq.mpr c9; have c9b1 : (a0 != 5) = false := bne_eq_false_iff_eq.mpr c9; clear c9; have H' := aM_ H; clear H
    go_wp2
    go_meet
    case rel => exact ⟨_, ((a0 == 5)), Tc_, H', ⟨Uf_⟩, Tb_⟩
   rw [if_neg c9] at H; have c9b0 : (a0 == 5) = false := beq_eq_false_iff_ne.mpr c9; have c9b1 : (a0 != 5) = true := bne_iff_ne.mpr c9
   by_cases c10 : a0 = 9
   ·rw [if_pos c10] at H
    have c10b0 : (a0 == 9) = true := beq_iff_eq.mpr c10; have c10b1 : (a0 != 9) = false := bne_eq_false_iff_eq.mpr c10; clear c10; have H' := aM_ H; clear H
    go_wp2
    go_meet
    case rel => exact ⟨_, ((a0 == 9)), Tc_, H', ⟨Uf_⟩, Tb_⟩
   rw [if_neg c10] at H; have c10b0 : (a0 == 9) = false := beq_eq_false_iff_ne.mpr c10; have c10b1 : (a0 != 9) = true := bne_iff_ne.mpr c10
   by_cases c11 : a0 = 12
   ·rw [if_pos c11] at H
    have c11b0 : (a0 == 12) = true := beq_iff_eq.mpr c11; have c11b1 : (a0 != 12) = false := bne_eq_false_iff_eq.mpr c11; clear c11; have H' := aM_ H; clear H
    go_wp2
    go_meet
    case rel => exact ⟨_, ((a0 == 12)), Tc_, H', ⟨Uf_⟩, Tb_⟩
   rw [if_neg c11] at H; have c11b0 : (a0 == 12) = false := beq_eq_false_iff_ne.mpr c11; have c11b1 : (a0 != 12) = true := bne_iff_ne.mpr c11
   by_cases c12 : a0 = 13
   ·rw [if_pos c12] at H
    have c12b0 : (a0 == 13) = true := beq_iff_eq.mpr c12; have c12b1 : (a0 != 13) = false := bne_eq_false_iff_eq.mpr c12; clear c12; have H' := aM_ H; clear H
    go_wp2
    go_meet
    case rel => exact ⟨_, ((a0 == 13)), Tc_, H', ⟨Uf_⟩, Tb_⟩
   rw [if_neg c12] at H; have c12b0 : (a0 == 13) = false := beq_eq_false_iff_ne.mpr c12; have c12b1 : (a0 != 13) = true := bne_iff_ne.mpr c12
   by_cases c13 : a0 = 14
   ·rw [if_pos c13] at H
    have c13b0 : (a0 == 14) = true := beq_iff_eq.mpr c13; have c13b1 : (a0 != 14) = false := bne_eq_false_iff_eq.mpr c13; clear c13; have H' := aM_ H; clear H
    go_wp2
    go_meet
    case rel => exact ⟨_, ((a0 == 14)), Tc_, H', ⟨Uf_⟩, Tb_⟩
   rw [if_neg c13] at H; have c13b0 : (a0 == 14) = false := beq_eq_false_iff_ne.mpr c13; have c13b1 : (a0 != 14) = true := bne_iff_ne.mpr c13; have H' := aM_ H; clear H
   go_wp2
   go_meet
   case rel => exact ⟨_, ((a0 == 15)), Tc_, H', ⟨Uf_⟩, Tb_⟩
  clear HC7; obtain ⟨kq, x10_6, rfl, HA, HJ6, ⟨mc6, rfl⟩⟩ := hcut
  cases kq with
  | zero => exact absurd HA.out (by simp [r4_wants.j1])
  | succ kj6 =>
   have H := HA.out; clear HA; simp only [r4_wants.j1] at H
   by_cases c14 : x10_6 = true
   ·subst c14
    have H1 : (some (2, 2)) = some (r1, r2) := by rw [if_pos rfl] at H; exact H
    clear H; have H := H1; clear H1; simp only [Option.some.injEq, Prod.mk.injEq] at H; obtain ⟨rfl, rfl⟩ := H
    go_wp2
    go_ret2
    exact ⟨Tc_, Tb_⟩
   replace c14 := Bool.eq_false_iff.mpr c14; subst c14; have H1 : (if a0 = 1 then (r4_wants.j2 kj6 a0 (a0 == 1)) else (r4_wants.j2 kj6 a0 (a0 == 6))) = some (r1, r2) := by rw [if_neg (show ¬ (false = true) by decide)] at H; exact H
   clear H; have H := H1; clear H1; have HC15 := aM_ H; clear H
   go_upto_if 18 with (fail)
   go_cut [18] (fun v18 wc => ∃ (kq : Nat) (x18_14 : Bool), v18 = .bool x18_14 ∧ Az (r4_wants.j2 kq a0 x18_14 = some (r1, r2)) ∧ Az (kq ≤ kj6) ∧ Drawn0 w wc)
   case first =>
    have H := HC15.out; clear HC15
    by_cases c16 : a0 = 1
    ·rw [if_pos c16] at H
     have c16b0 : (a0 == 1) = true := beq_iff_eq.mpr c16; have c16b1 : (a0 != 1) = false := bne_eq_false_iff_eq.mpr c16; clear c16
     (first | rw [c16b0] | (simp only [ya_, za_]; rw [c16b0]) | skip)
     have H' := aM_ H; clear H
     go_wp2
     go_meet
     case rel => exact ⟨_, ((a0 == 1)), Tc_, H', ⟨Vv_⟩, Tb_⟩
    rw [if_neg c16] at H; have c16b0 : (a0 == 1) = false := beq_eq_false_iff_ne.mpr c16; have c16b1 : (a0 != 1) = true := bne_iff_ne.mpr c16
    (first | rw [c16b0] | (simp only [ya_, za_]; rw [c16b0]) | skip)
    have H' := aM_ H; clear H
    go_wp2
    go_meet
    case rel => exact ⟨_, ((a0 == 6)), Tc_, H', ⟨Vv_⟩, Tb_⟩
   clear HC15; obtain ⟨kq, x18_14, rfl, HA, HJ14, ⟨mc14, rfl⟩⟩ := hcut
   cases kq with
   | zero => exact absurd HA.out (by simp [r4_wants.j2])
   | succ kj14 =>
    have H := HA.out; clear HA; simp only [r4_wants.j2] at H
    by_cases c17 : x18_14 = true
    ·subst c17
     have H1 : (some (3, 3)) = some (r1, r2) := by rw [if_pos rfl] at H; exact H
     clear H; have H := H1; clear H1; simp only [Option.some.injEq, Prod.mk.injEq] at H; obtain ⟨rfl, rfl⟩ := H
     go_wp2
     go_ret2
     exact ⟨Tc_, Tb_⟩
    replace c17 := Bool.eq_false_iff.mpr c17; subst c17; have H1 : (if a0 = 3 then (r4_wants.j3 kj14 a0 (a0 == 3)) else (r4_wants.j3 kj14 a0 (a0 == 4))) = some (r1, r2) := by rw [if_neg (show ¬ (false = true) by decide)] at H; exact H
    clear H; have H := H1; clear H1; have HC18 := aM_ H; clear H
    go_upto_if 21 with (fail)
    go_cut [21] (fun v21 wc => ∃ (kq : Nat) (x21_17 : Bool), v21 = .bool x21_17 ∧ Az (r4_wants.j3 kq a0 x21_17 = some (r1, r2)) ∧ Az (kq ≤ kj14) ∧ Drawn0 w wc)
    case first =>
     have H := HC18.out; clear HC18
     by_cases c19 : a0 = 3
     ·rw [if_pos c19] at H
      have c19b0 : (a0 == 3) = true := beq_iff_eq.mpr c19; have c19b1 : (a0 != 3) = false := bne_eq_false_iff_eq.mpr c19; clear c19
      (first | rw [c19b0] | (simp only [ya_, za_]; rw [c19b0]) | skip)
      have H' := aM_ H; clear H
      go_wp2
      go_meet
      case rel => exact ⟨_, ((a0 == 3)), Tc_, H', ⟨Vi_⟩, Tb_⟩
     rw [if_neg c19] at H; have c19b0 : (a0 == 3) = false := beq_eq_false_iff_ne.mpr c19; have c19b1 : (a0 != 3) = true := bne_iff_ne.mpr c19
     (first | rw [c19b0] | (simp only [ya_, za_]; rw [c19b0]) | skip)
     have H' := aM_ H; clear H
     go_wp2
     go_meet
     case rel => exact ⟨_, ((a0 == 4)), Tc_, H', ⟨Vi_⟩, Tb_⟩
    clear HC18; obtain ⟨kq, x21_17, rfl, HA, HJ17, ⟨mc17, rfl⟩⟩ := hcut
    cases kq with
    | zero => exact absurd HA.out (by simp [r4_wants.j3])
    | succ kj17 =>
     have H := HA.out; clear HA; simp only [r4_wants.j3] at H
     by_cases c20 : x21_17 = true
     ·subst c20
      have H1 : (some (2, 3)) = some (r1, r2) := by rw [if_pos rfl] at H; exact H
      clear H; have H := H1; clear H1; simp only [Option.some.injEq, Prod.mk.injEq] at H; obtain ⟨rfl, rfl⟩ := H
      go_wp2
      go_ret2
      exact ⟨Tc_, Tb_⟩
     replace c20 := Bool.eq_false_iff.mpr c20; subst c20; have H1 : (if a0 = 10 then (some (1, 6)) else (some (1, 0))) = some (r1, r2) := by rw [if_neg (show ¬ (false = true) by decide)] at H; exact H
     clear H; have H := H1; clear H1
     by_cases c21 : a0 = 10
     ·rw [if_pos c21] at H
      have c21b0 : (a0 == 10) = true := beq_iff_eq.mpr c21; have c21b1 : (a0 != 10) = false := bne_eq_false_iff_eq.mpr c21; clear c21; simp only [Option.some.injEq, Prod.mk.injEq] at H; obtain ⟨rfl, rfl⟩ := H
      go_wp2
      go_ret2
      exact ⟨Tc_, Tb_⟩
     rw [if_neg c21] at H; have c21b0 : (a0 == 10) = false := beq_eq_false_iff_ne.mpr c21; have c21b1 : (a0 != 10) = true := bne_iff_ne.mpr c21; simp only [Option.some.injEq, Prod.mk.injEq] at H; obtain ⟨rfl, rfl⟩ := H
     go_wp2
     go_ret2
     exact ⟨Tc_, Tb_⟩
mutual
noncomputable def r4_Right.j0 : Nat → Bool → Int → List Int → Int → List Int → Int → Option (Bool)
 | 0, _, _, _, _, _, _ => none
 | k + 1, x36, x184000, x184001, x184002, x184003, x184004 => if x36 = true then (some false) else (r4_Right.l0 k 0 x184000 x184001 x184002 x184003 x184004)
noncomputable def r4_Right.l0 : Nat → Int → Int → List Int → Int → List Int → Int → Option (Bool)
 | 0, _, _, _, _, _, _ => none
 | k + 1, x3, x184000, x184001, x184002, x184003, x184004 => if x3 < (x184001.length : Int) then (if 0 ≤ x3 then (if (rd x184001 x3) ≥ 20 then (some false) else (if (rd x184001 x3) < (-61) then (some false) else (r4_Right.l0 k (wrap64 (x3 + 1)) x184000 x184001 x184002 x184003 x184004))) else (none)) else ((r4_wants.f k x184002).bind fun bt186 => (if (x184003.length : Int) < bt186.1 then (r4_Right.j2 k true x184000 x184001 x184002 x184003 x184004) else (r4_Right.j2 k (decide ((x184003.length : Int) > bt186.2)) x184000 x184001 x184002 x184003 x184004)))
noncomputable def r4_Right.j2 : Nat → Bool → Int → List Int → Int → List Int → Int → Option (Bool)
 | 0, _, _, _, _, _, _ => none
 | k + 1, x78, x184000, x184001, x184002, x184003, x184004 => if x78 = true then (some false) else (r4_Right.l1 k 0 x184000 x184001 x184002 x184003 x184004)
noncomputable def r4_Right.l1 : Nat → Int → Int → List Int → Int → List Int → Int → Option (Bool)
 | 0, _, _, _, _, _, _ => none
 | k + 1, x6, x184000, x184001, x184002, x184003, x184004 => if x6 < (x184003.length : Int) then (if 0 ≤ x6 then (if (rd x184003 x6) < 0 then (some false) else (if (rd x184003 x6) ≥ (x184001.length : Int) then (some false) else (r4_Right.l1 k (wrap64 (x6 + 1)) x184000 x184001 x184002 x184003 x184004))) else (none)) else (some true)
end
noncomputable def r4_Right.f (k : Nat) (a0_0 : Int) (l0_1 : List Int) (a0_2 : Int) (l0_3 : List Int) (a0_4 : Int) : Option (Bool) := if a0_0 < 0 then (r4_Right.j0 k true a0_0 l0_1 a0_2 l0_3 a0_4) else (if a0_0 ≥ 20 then (r4_Right.j0 k true a0_0 l0_1 a0_2 l0_3 a0_4) else (if (l0_1.length : Int) < 1 then (r4_Right.j0 k true a0_0 l0_1 a0_2 l0_3 a0_4) else (if (l0_1.length : Int) > 6 then (r4_Right.j0 k true a0_0 l0_1 a0_2 l0_3 a0_4) else (if a0_4 < 0 then (r4_Right.j0 k true a0_0 l0_1 a0_2 l0_3 a0_4) else (r4_Right.j0 k (decide (a0_4 > 100)) a0_0 l0_1 a0_2 l0_3 a0_4)))))
theorem r4_Right.calls (k : Nat) (a0_0 : Int) (A0_1 : Option Addr) (c0_1 : Nat) (l0_1 : List Int) (a0_2 : Int) (A0_3 : Option Addr) (c0_3 : Nat) (l0_3 : List Int) (a0_4 : Int) (r : Bool) (w : World) (hr0_1 : Kd.C (Kd.int .i64) w A0_1 l0_1.length l0_1) (hc0_1 : l0_1.length ≤ c0_1) (hr0_3 : Kd.C (Kd.int .i64) w A0_3 l0_3.length l0_3) (hc0_3 : l0_3.length ≤ c0_3) (h : r4_Right.f k a0_0 l0_1 a0_2 l0_3 a0_4 = some r) :
  Calls Tryz.prog 67 #[.agg #[.int .i64 a0_0, .slice A0_1 l0_1.length c0_1, .int .i64 a0_2, .slice A0_3 l0_3.length c0_3, .int .i64 a0_4]] w fun e w' => e = .returned (.bool r) ∧ Below w.heap.size w w' := by
 have hu56 := Tryz.underlying56
 have HR0_1 := aM_ hr0_1
 have HC0_1 := aM_ hc0_1
 clear hr0_1 hc0_1
 have HR0_3 := aM_ hr0_3
 have HC0_3 := aM_ hc0_3
 clear hr0_3 hc0_3
 have HB := aM_ (Below.refl w.heap.size w)
 have H : (if a0_0 < 0 then (r4_Right.j0 k true a0_0 l0_1 a0_2 l0_3 a0_4) else (if a0_0 ≥ 20 then (r4_Right.j0 k true a0_0 l0_1 a0_2 l0_3 a0_4) else (if (l0_1.length : Int) < 1 then (r4_Right.j0 k true a0_0 l0_1 a0_2 l0_3 a0_4) else (if (l0_1.length : Int) > 6 then (r4_Right.j0 k true a0_0 l0_1 a0_2 l0_3 a0_4) else (if a0_4 < 0 then (r4_Right.j0 k true a0_0 l0_1 a0_2 l0_3 a0_4) else (r4_Right.j0 k (decide (a0_4 > 100)) a0_0 l0_1 a0_2 l0_3 a0_4)))))) = some r := h
 clear h
 have HC2 := aM_ H
 clear H
 go_enter Tryz.func67, Tryz.ntmps67
 go_upto_region 1 with (first | ((with_reducible refine gd_ 1 ?_); (try (refine dg_ Vh_ ?_; dsimp only)); refine te_ rfl (N := 1) rfl (cs := #[.int .i64 a0_0, .slice A0_1 l0_1.length c0_1, .int .i64 a0_2, .slice A0_3 l0_3.length c0_3, .int .i64 a0_4]) (t := 56) Tx_ ?_; intro gb183 hg w3 hbox hb; have n0_ := aM_ (da_ Ta_ hb); have n1_ := aM_ (hbox); have n2_ := aM_ ((by rw [hg]; exact (na_ Ta_) : w.heap.size ≤ gb183)); have n3_ := aM_ ((by rw [hg]; exact (na_ Ta_) : w.heap.size ≤ gb183)); clear HB; have HB := n0_; have BK183 := n1_; have GW183 := n2_; have GE183 := n3_; clear n0_ n1_ n2_ n3_; clear hb hbox hg))
 repeat (go_quiet (first | ((with_reducible refine gd_ 1 ?_); (try (refine dg_ Vh_ ?_; dsimp only)); refine te_ rfl (N := 1) rfl (cs := #[.int .i64 a0_0, .slice A0_1 l0_1.length c0_1, .int .i64 a0_2, .slice A0_3 l0_3.length c0_3, .int .i64 a0_4]) (t := 56) Tx_ ?_; intro gb183 hg w3 hbox hb; have n0_ := aM_ (da_ Ta_ hb); have n1_ := aM_ (hbox); have n2_ := aM_ ((by rw [hg]; exact (na_ Ta_) : w.heap.size ≤ gb183)); have n3_ := aM_ ((by rw [hg]; exact (na_ Ta_) : w.heap.size ≤ gb183)); clear HB; have HB := n0_; have BK183 := n1_; have GW183 := n2_; have GE183 := n3_; clear n0_ n1_ n2_ n3_; clear hb hbox hg)); go_upto_region 1 with (first | ((with_reducible refine gd_ 1 ?_); (try (refine dg_ Vh_ ?_; dsimp only)); refine te_ rfl (N := 1) rfl (cs := #[.int .i64 a0_0, .slice A0_1 l0_1.length c0_1, .int .i64 a0_2, .slice A0_3 l0_3.length c0_3, .int .i64 a0_4]) (t := 56) Tx_ ?_; intro gb183 hg w3 hbox hb; have n0_ := aM_ (da_ Ta_ hb); have n1_ := aM_ (hbox); have n2_ := aM_ ((by rw [hg]; exact (na_ Ta_) : w.heap.size ≤ gb183)); have n3_ := aM_ ((by rw [hg]; exact (na_ Ta_) : w.heap.size ≤ gb183)); clear HB; have HB := n0_; have BK183 := n1_; have GW183 := n2_; have GE183 := n3_; clear n0_ n1_ n2_ n3_; clear hb hbox hg)))
 (try simp only [Act.put, s1_, s2_, s3_])
 go_cut [36] (fun v36 wc => ∃ (kq : Nat) (x36_1 : Bool), v36 = .bool x36_1 ∧ Az (r4_Right.j0 kq x36_1 a0_0 l0_1 a0_2 l0_3 a0_4 = some r) ∧ Az (kq ≤ k) ∧ Az (wc.heap[gb183]? = some (.cells #[.int .i64 a0_0, (.slice A0_1 l0_1.length c0_1), .int .i64 a0_2, (.slice A0_3 l0_3.length c0_3), .int .i64 a0_4] 56 (0, 0))) ∧ Az (Below w.heap.size w wc))
 case first =>
  have H := HC2.out; clear HC2
  by_cases c4 : a0_0 < 0
  ·rw [if_pos c4] at H
   have c4b0 := decide_eq_true c4; clear c4
   (first | rw [c4b0] | (simp only [ya_, za_]; rw [c4b0]) | skip)
   have H' := aM_ H; clear H; obtain ⟨_, _, _, _, _, _, _, _, _, _⟩ := cs5_ BK183.out
   go_wp2
   repeat (go_quiet (fail); try go_wp2)
   go_meet
   case rel => exact ⟨_, (true), Tc_, H', ⟨Uh_⟩, ⟨Tr_⟩, ⟨Th_⟩⟩
  rw [if_neg c4] at H; have c4b0 := decide_eq_false c4; clear c4
  (first | rw [c4b0] | (simp only [ya_, za_]; rw [c4b0]) | skip)
  by_cases c6 : a0_0 ≥ 20
  ·rw [if_pos c6] at H
   have c6b0 := decide_eq_true c6; clear c6; have H' := aM_ H; clear H; obtain ⟨_, _, _, _, _, _, _, _, _, _⟩ := cs5_ BK183.out
   go_wp2
   repeat (go_quiet (fail); try go_wp2)
   go_meet
   case rel => exact ⟨_, (true), Tc_, H', ⟨Uh_⟩, ⟨Tr_⟩, ⟨Th_⟩⟩
  rw [if_neg c6] at H; have c6b0 := decide_eq_false c6; clear c6
  by_cases c8 : (l0_1.length : Int) < 1
  ·rw [if_pos c8] at H
   have c8b0 := decide_eq_true c8; have c8b1 : decide (l0_1.length < 1) = true := decide_eq_true Td_; clear c8; have H' := aM_ H; clear H; obtain ⟨_, _, _, _, _, _, _, _, _, _⟩ := cs5_ BK183.out
   go_wp2
   repeat (go_quiet (fail); try go_wp2)
   go_meet
   case rel => exact ⟨_, (true), Tc_, H', ⟨Uh_⟩, ⟨Tr_⟩, ⟨Th_⟩⟩
  rw [if_neg c8] at H; have c8b0 := decide_eq_false c8; have c8b1 : decide (l0_1.length < 1) = false := decide_eq_false Td_; clear c8
  by_cases c10 : (l0_1.length : Int) > 6
  ·rw [if_pos c10] at H
   have c10b0 := decide_eq_true c10; have c10b1 : decide (6 < l0_1.length) = true := decide_eq_true Td_; clear c10; have H' := aM_ H; clear H; obtain ⟨_, _, _, _, _, _, _, _, _, _⟩ := cs5_ BK183.out
   go_wp2
   repeat (go_quiet (fail); try go_wp2)
   go_meet
   case rel => exact ⟨_, (true), Tc_, H', ⟨Uh_⟩, ⟨Tr_⟩, ⟨Th_⟩⟩
  rw [if_neg c10] at H; have c10b0 := decide_eq_false c10; have c10b1 : decide (6 < l0_1.length) = false := decide_eq_false Td_; clear c10
  by_cases c12 : a0_4 < 0
  ·rw [if_pos c12] at H
   have c12b0 := decide_eq_true c12; clear c12; have H' := aM_ H; clear H; obtain ⟨_, _, _, _, _, _, _, _, _, _⟩ := cs5_ BK183.out
   go_wp2
   repeat (go_quiet (fail); try go_wp2)
   go_meet
   case rel => exact ⟨_, (true), Tc_, H', ⟨Uh_⟩, ⟨Tr_⟩, ⟨Th_⟩⟩
  rw [if_neg c12] at H; have c12b0 := decide_eq_false c12; clear c12; have H' := aM_ H; clear H; obtain ⟨_, _, _, _, _, _, _, _, _, _⟩ := cs5_ BK183.out
  go_wp2
  repeat (go_quiet (fail); try go_wp2)
  go_meet
  case rel => exact ⟨_, (decide (a0_4 > 100)), Tc_, H', ⟨Uh_⟩, ⟨Tr_⟩, ⟨Th_⟩⟩
 clear HC2
 obtain ⟨kq, x36_1, rfl, HA, HJ1, BK183, HB⟩ := hcut
 cases kq with
 | zero => exact absurd HA.out (by simp [r4_Right.j0])
 | succ kj1 =>
  have H := HA.out; clear HA; simp only [r4_Right.j0] at H
  by_cases c15 : x36_1 = true
  ·subst c15
   have H1 : (some false) = some r := by rw [if_pos rfl] at H; exact H
   clear H; have H := H1; clear H1; obtain rfl := Option.some.inj H
   go_wp2
   repeat (go_quiet (fail); try go_wp2)
   go_ret
   exact ⟨Tl_, Th_⟩
  replace c15 := Bool.eq_false_iff.mpr c15; subst c15; have H1 : (r4_Right.l0 kj1 0 a0_0 l0_1 a0_2 l0_3 a0_4) = some r := by rw [if_neg (show ¬ (false = true) by decide)] at H; exact H
  clear H; have H := H1; clear H1; have H' := aM_ H; clear H
  go_wp2
  repeat (go_quiet (fail); try go_wp2)
  go_loopg [3] kj1 (fun kq v3 w' => ∃ (x3_2 : Int), v3 = .int .i64 x3_2 ∧ Az (r4_Right.l0 kq x3_2 a0_0 l0_1 a0_2 l0_3 a0_4 = some r) ∧ Az (kq ≤ kj1) ∧ Az (w'.heap[gb183]? = some (.cells #[.int .i64 a0_0, (.slice A0_1 l0_1.length c0_1), .int .i64 a0_2, (.slice A0_3 l0_3.length c0_3), .int .i64 a0_4] 56 (0, 0))) ∧ Az (Below w.heap.size w w'))
  case atStart => exact ⟨(0), Tc_, H', ⟨Nat.le_refl _⟩, ⟨Tr_⟩, ⟨Th_⟩⟩
  clear H'; obtain ⟨x3_2, rfl, HA, HK2, BK183, HB⟩ := hrel
  cases gk with
  | zero => exact absurd HA.out (by simp [r4_Right.l0])
  | succ k2 =>
   have H := HA.out; clear HA; simp only [r4_Right.l0] at H
   by_cases c16 : x3_2 < (l0_1.length : Int)
   ·rw [if_pos c16] at H
    have c16b0 := decide_eq_true c16; clear c16
    by_cases c17 : 0 ≤ x3_2
    ·rw [if_pos c17] at H
     have c17b0 := decide_eq_true c17; clear c17
     by_cases c18 : (rd l0_1 x3_2) ≥ 20
     ·rw [if_pos c18] at H
      have c18b0 := decide_eq_true c18; clear c18; obtain rfl := Option.some.inj H; obtain ⟨_, _, _, _, _, _, _, _, _, _⟩ := cs5_ BK183.out; have p184 : 0 ≤ (x3_2 : Int) := of_decide_eq_true Te_; have q184 : x3_2 < (l0_1.length : Int) := of_decide_eq_true Te_; obtain ⟨ad184, e184, hx184_0⟩ := Kd.at_int HR0_1.out x3_2 p184 q184
      cases e184
      replace hx184_0 := (HB.out.cell (World.block_lt_of_cell? w _ hx184_0)).trans hx184_0; replace p184 := eq_true p184; replace q184 := eq_true q184
      go_wp2
      repeat (go_quiet (fail); try go_wp2)
      go_ret
      exact ⟨Tl_, Th_⟩
     rw [if_neg c18] at H; have c18b0 := decide_eq_false c18; clear c18
     by_cases c20 : (rd l0_1 x3_2) < (-61)
     ·rw [if_pos c20] at H
      have c20b0 := decide_eq_true c20; clear c20; obtain rfl := Option.some.inj H; obtain ⟨_, _, _, _, _, _, _, _, _, _⟩ := cs5_ BK183.out; have p184 : 0 ≤ (x3_2 : Int) := of_decide_eq_true Te_; have q184 : x3_2 < (l0_1.length : Int) := of_decide_eq_true Te_; obtain ⟨ad184, e184, hx184_0⟩ := Kd.at_int HR0_1.out x3_2 p184 q184
      cases e184
      replace hx184_0 := (HB.out.cell (World.block_lt_of_cell? w _ hx184_0)).trans hx184_0; replace p184 := eq_true p184; replace q184 := eq_true q184; have p185 : 0 ≤ (x3_2 : Int) := of_decide_eq_true Te_; have q185 : x3_2 < (l0_1.length : Int) := of_decide_eq_true Te_; obtain ⟨ad185, e185, hx185_0⟩ := Kd.at_int HR0_1.out x3_2 p185 q185; obtain rfl : ad184 = ad185 := (by injection e185); replace hx185_0 := (HB.out.cell (World.block_lt_of_cell? w _ hx185_0)).trans hx185_0; replace p185 := eq_true p185; replace q185 := eq_true q185
      go_wp2
      repeat (go_quiet (fail); try go_wp2)
      go_ret
      exact ⟨Tl_, Th_⟩
     rw [if_neg c20] at H; have c20b0 := decide_eq_false c20; clear c20; have H' := aM_ H; clear H; obtain ⟨_, _, _, _, _, _, _, _, _, _⟩ := cs5_ BK183.out; have p184 : 0 ≤ (x3_2 : Int) := of_decide_eq_true Te_; have q184 : x3_2 < (l0_1.length : Int) := of_decide_eq_true Te_; obtain ⟨ad184, e184, hx184_0⟩ := Kd.at_int HR0_1.out x3_2 p184 q184
     cases e184
     replace hx184_0 := (HB.out.cell (World.block_lt_of_cell? w _ hx184_0)).trans hx184_0; replace p184 := eq_true p184; replace q184 := eq_true q184; have p185 : 0 ≤ (x3_2 : Int) := of_decide_eq_true Te_; have q185 : x3_2 < (l0_1.length : Int) := of_decide_eq_true Te_; obtain ⟨ad185, e185, hx185_0⟩ := Kd.at_int HR0_1.out x3_2 p185 q185; obtain rfl : ad184 = ad185 := (by injection e185); replace hx185_0 := (HB.out.cell (World.block_lt_of_cell? w _ hx185_0)).trans hx185_0; replace p185 := eq_true p185; replace q185 := eq_true q185
     go_wp2
     repeat (go_quiet (fail); try go_wp2)
     go_roundg k2
     case measure => have := HJ1.out; have := HK2.out; omega
     case rel => exact ⟨(wrap64 (x3_2 + 1)), Tc_, H', ⟨by have := HJ1.out; have := HK2.out; omega⟩, ⟨Tr_⟩, ⟨Th_⟩⟩
    rw [if_neg c17] at H; exact absurd H Tt_
   rw [if_neg c16] at H; have c16b0 := decide_eq_false c16; clear c16; replace H := Option.bind_eq_some_iff.mp H; obtain ⟨⟨t186, t187⟩, A230, H⟩ := H; replace H : (if (l0_3.length : Int) < t186 then (r4_Right.j2 k2 true a0_0 l0_1 a0_2 l0_3 a0_4) else (r4_Right.j2 k2 (decide ((l0_3.length : Int) > t187)) a0_0 l0_1 a0_2 l0_3 a0_4)) = some r := H; have A23 := aM_ A230; clear A230; have HC24 := aM_ H; clear H; obtain ⟨_, _, _, _, _, _, _, _, _, _⟩ := cs5_ BK183.out
   go_upto_region 9 with (first | (go_at_call 116; (with_reducible refine (r4_wants.calls _ _ _ _ _ A23.out).mono ?_); rintro e w' ⟨rfl, ⟨nd, rfl⟩⟩; (try first | exact ⟨rfl, _, World.drewN_drewN _ _ _⟩ | exact ⟨rfl, _, Eq.trans (World.drewN_drewN _ _ _) (congrArg (World.drewN _) (Nat.add_assoc _ _ _))⟩)))
   repeat (go_quiet (first | (go_at_call 116; (with_reducible refine (r4_wants.calls _ _ _ _ _ A23.out).mono ?_); rintro e w' ⟨rfl, ⟨nd, rfl⟩⟩; (try first | exact ⟨rfl, _, World.drewN_drewN _ _ _⟩ | exact ⟨rfl, _, Eq.trans (World.drewN_drewN _ _ _) (congrArg (World.drewN _) (Nat.add_assoc _ _ _))⟩))); go_upto_region 9 with (first | (go_at_call 116; (with_reducible refine (r4_wants.calls _ _ _ _ _ A23.out).mono ?_); rintro e w' ⟨rfl, ⟨nd, rfl⟩⟩; (try first | exact ⟨rfl, _, World.drewN_drewN _ _ _⟩ | exact ⟨rfl, _, Eq.trans (World.drewN_drewN _ _ _) (congrArg (World.drewN _) (Nat.add_assoc _ _ _))⟩))))
   (try simp only [Act.put, s1_, s2_, s3_])
   go_cut [78] (fun v78 wc => ∃ (kq : Nat) (x78_23 : Bool), v78 = .bool x78_23 ∧ Az (r4_Right.j2 kq x78_23 a0_0 l0_1 a0_2 l0_3 a0_4 = some r) ∧ Az (kq ≤ k2) ∧ Az (wc.heap[gb183]? = some (.cells #[.int .i64 a0_0, (.slice A0_1 l0_1.length c0_1), .int .i64 a0_2, (.slice A0_3 l0_3.length c0_3), .int .i64 a0_4] 56 (0, 0))) ∧ Az (Below w.heap.size w wc))
   case first =>
    have H := HC24.out; clear HC24
    by_cases c26 : (l0_3.length : Int) < t186
    ·rw [if_pos c26] at H
     have c26b0 := decide_eq_true c26; clear c26
     (first | rw [c26b0] | (simp only [ya_, za_]; rw [c26b0]) | skip)
     have H' := aM_ H; clear H; obtain ⟨_, _, _, _, _, _, _, _, _, _⟩ := cs5_ BK183.out
     go_wp2
     repeat (go_quiet (fail); try go_wp2)
     go_meet
     case rel => exact ⟨_, (true), Tc_, H', ⟨by have := HJ1.out; have := HK2.out; first | omega | exact Nat.le_refl _⟩, ⟨Tr_⟩, ⟨Th_⟩⟩
    rw [if_neg c26] at H; have c26b0 := decide_eq_false c26; clear c26
    (first | rw [c26b0] | (simp only [ya_, za_]; rw [c26b0]) | skip)
    have H' := aM_ H; clear H; obtain ⟨_, _, _, _, _, _, _, _, _, _⟩ := cs5_ BK183.out
    go_wp2
    repeat (go_quiet (fail); try go_wp2)
    go_meet
    case rel => exact ⟨_, (decide ((l0_3.length : Int) > t187)), Tc_, H', ⟨by have := HJ1.out; have := HK2.out; first | omega | exact Nat.le_refl _⟩, ⟨Tr_⟩, ⟨Th_⟩⟩
   clear HC24; obtain ⟨kq, x78_23, rfl, HA, HJ23, BK183, HB⟩ := hcut
   cases kq with
   | zero => exact absurd HA.out (by simp [r4_Right.j2])
   | succ kj23 =>
    have H := HA.out; clear HA; simp only [r4_Right.j2] at H
    by_cases c29 : x78_23 = true
    ·subst c29
     have H1 : (some false) = some r := by rw [if_pos rfl] at H; exact H
     clear H; have H := H1; clear H1; obtain rfl := Option.some.inj H
     go_wp2
     repeat (go_quiet (fail); try go_wp2)
     go_ret
     exact ⟨Tl_, Th_⟩
    replace c29 := Bool.eq_false_iff.mpr c29; subst c29; have H1 : (r4_Right.l1 kj23 0 a0_0 l0_1 a0_2 l0_3 a0_4) = some r := by rw [if_neg (show ¬ (false = true) by decide)] at H; exact H
    clear H; have H := H1; clear H1; have H' := aM_ H; clear H
    go_wp2
    repeat (go_quiet (fail); try go_wp2)
    go_loopg [6] kj23 (fun kq v6 w' => ∃ (x6_4 : Int), v6 = .int .i64 x6_4 ∧ Az (r4_Right.l1 kq x6_4 a0_0 l0_1 a0_2 l0_3 a0_4 = some r) ∧ Az (kq ≤ kj23) ∧ Az (w'.heap[gb183]? = some (.cells #[.int .i64 a0_0, (.slice A0_1 l0_1.length c0_1), .int .i64 a0_2, (.slice A0_3 l0_3.length c0_3), .int .i64 a0_4] 56 (0, 0))) ∧ Az (Below w.heap.size w w'))
    case atStart => exact ⟨(0), Tc_, H', ⟨Nat.le_refl _⟩, ⟨Tr_⟩, ⟨Th_⟩⟩
    clear H'; obtain ⟨x6_4, rfl, HA, HK4, BK183, HB⟩ := hrel
    cases gk with
    | zero => exact absurd HA.out (by simp [r4_Right.l1])
    | succ k4 =>
     have H := HA.out; clear HA; simp only [r4_Right.l1] at H
     by_cases c30 : x6_4 < (l0_3.length : Int)
     ·rw [if_pos c30] at H
      have c30b0 := decide_eq_true c30; clear c30
      by_cases c31 : 0 ≤ x6_4
      ·rw [if_pos c31] at H
       have c31b0 := decide_eq_true c31; clear c31
       by_cases c32 : (rd l0_3 x6_4) < 0
       ·rw [if_pos c32] at H
        have c32b0 := decide_eq_true c32; clear c32; obtain rfl := Option.some.inj H; obtain ⟨_, _, _, _, _, _, _, _, _, _⟩ := cs5_ BK183.out; have p188 : 0 ≤ (x6_4 : Int) := of_decide_eq_true Te_; have q188 : x6_4 < (l0_3.length : Int) := of_decide_eq_true Te_; obtain ⟨ad188, e188, hx188_0⟩ := Kd.at_int HR0_3.out x6_4 p188 q188
        cases e188
        replace hx188_0 := (HB.out.cell (World.block_lt_of_cell? w _ hx188_0)).trans hx188_0; replace p188 := eq_true p188; replace q188 := eq_true q188
        go_wp2
        repeat (go_quiet (fail); try go_wp2)
        go_ret
        exact ⟨Tl_, Th_⟩
       rw [if_neg c32] at H; have c32b0 := decide_eq_false c32; clear c32
       by_cases c34 : (rd l0_3 x6_4) ≥ (l0_1.length : Int)
       ·rw [if_pos c34] at H
        have c34b0 := decide_eq_true c34; clear c34; obtain rfl := Option.some.inj H; obtain ⟨_, _, _, _, _, _, _, _, _, _⟩ := cs5_ BK183.out; have p188 : 0 ≤ (x6_4 : Int) := of_decide_eq_true Te_; have q188 : x6_4 < (l0_3.length : Int) := of_decide_eq_true Te_; obtain ⟨ad188, e188, hx188_0⟩ := Kd.at_int HR0_3.out x6_4 p188 q188
        cases e188
        replace hx188_0 := (HB.out.cell (World.block_lt_of_cell? w _ hx188_0)).trans hx188_0; replace p188 := eq_true p188; replace q188 := eq_true q188; have p189 : 0 ≤ (x6_4 : Int) := of_decide_eq_true Te_; have q189 : x6_4 < (l0_3.length : Int) := of_decide_eq_true Te_; obtain ⟨ad189, e189, hx189_0⟩ := Kd.at_int HR0_3.out x6_4 p189 q189; obtain rfl : ad188 = ad189 := (by injection e189); replace hx189_0 := (HB.out.cell (World.block_lt_of_cell? w _ hx189_0)).trans hx189_0; replace p189 := eq_true p189; replace q189 := eq_true q189
        go_wp2
        repeat (go_quiet (fail); try go_wp2)
        go_ret
        exact ⟨Tl_, Th_⟩
       rw [if_neg c34] at H; have c34b0 := decide_eq_false c34; clear c34; have H' := aM_ H; clear H; obtain ⟨_, _, _, _, _, _, _, _, _, _⟩ := cs5_ BK183.out; have p188 : 0 ≤ (x6_4 : Int) := of_decide_eq_true Te_; have q188 : x6_4 < (l0_3.length : Int) := of_decide_eq_true Te_; obtain ⟨ad188, e188, hx188_0⟩ := Kd.at_int HR0_3.out x6_4 p188 q188
       cases e188
       replace hx188_0 := (HB.out.cell (World.block_lt_of_cell? w _ hx188_0)).trans hx188_0; replace p188 := eq_true p188; replace q188 := eq_true q188; have p189 : 0 ≤ (x6_4 : Int) := of_decide_eq_true Te_; have q189 : x6_4 < (l0_3.length : Int) := of_decide_eq_true Te_; obtain ⟨ad189, e189, hx189_0⟩ := Kd.at_int HR0_3.out x6_4 p189 q189; obtain rfl : ad188 = ad189 := (by injection e189); replace hx189_0 := (HB.out.cell (World.block_lt_of_cell? w _ hx189_0)).trans hx189_0; replace p189 := eq_true p189; replace q189 := eq_true q189
       go_wp2
       repeat (go_quiet (fail); try go_wp2)
       go_roundg k4
       case measure => have := HJ1.out; have := HK2.out; have := HJ23.out; have := HK4.out; omega
       case rel => exact ⟨(wrap64 (x6_4 + 1)), Tc_, H', ⟨by have := HJ1.out; have := HK2.out; have := HJ23.out; have := HK4.out; omega⟩, ⟨Tr_⟩, ⟨Th_⟩⟩
      rw [if_neg c31] at H; exact absurd H Tt_
     rw [if_neg c30] at H; have c30b0 := decide_eq_false c30; clear c30; obtain rfl := Option.some.inj H; obtain ⟨_, _, _, _, _, _, _, _, _, _⟩ := cs5_ BK183.out
     go_wp2
     repeat (go_quiet (fail); try go_wp2)
     go_ret
     exact ⟨Tl_, Th_⟩
theorem rr_ (k : Nat) (op : Int) : r4_wants.f (k + 4) op = some (nd_ op) := by
 by_cases h : 0 ≤ op ∧ op ≤ 15
 ·have : op = 0 ∨ op = 1 ∨ op = 2 ∨ op = 3 ∨ op = 4 ∨ op = 5 ∨ op = 6 ∨ op = 7 ∨ op = 8 ∨ op = 9 ∨ op = 10 ∨ op = 11 ∨ op = 12 ∨ op = 13 ∨ op = 14 ∨ op = 15 := by omega
  rcases this with rfl | rfl | rfl | rfl | rfl | rfl | rfl | rfl | rfl | rfl | rfl | rfl | rfl | rfl | rfl | rfl <;> rfl
 have n : ∀ k : Int, 0 ≤ k → k ≤ 15 → ¬ op = k := fun k h0 h1 e => h Td_
 have b : ∀ k : Int, 0 ≤ k → k ≤ 15 → ¬ (op == k) = true := fun k h0 h1 e => n k h0 h1 (by simpa using e)
 have e : nd_ op = (1, 0) := by
  unfold nd_; rw [if_neg Td_, if_neg Td_, if_neg Td_, if_neg Td_, if_neg Td_]
 rw [e]
 unfold r4_wants.f
 rw [if_neg (n 0 Td_ Td_), if_neg (n 7 Td_ Td_), if_neg (n 8 Td_ Td_), r4_wants.j0]
 rw [if_neg (b 11 Td_ Td_), if_neg (n 2 Td_ Td_), if_neg (n 5 Td_ Td_), if_neg (n 9 Td_ Td_), if_neg (n 12 Td_ Td_), if_neg (n 13 Td_ Td_), if_neg (n 14 Td_ Td_), r4_wants.j1]
 rw [if_neg (b 15 Td_ Td_), if_neg (n 1 Td_ Td_), r4_wants.j2]
 rw [if_neg (b 6 Td_ Td_), if_neg (n 3 Td_ Td_), r4_wants.j3]
 rw [if_neg (b 4 Td_ Td_), if_neg (n 10 Td_ Td_)]
section
variable (a0 : Int) (l1 : List Int) (a2 : Int) (l3 : List Int) (a4 : Int)
theorem nu_ (hl : l3.length ≤ 9223372036854775807) : ∀ (n k x : Nat), x ≤ l3.length → l3.length - x = n → n < k → r4_Right.l1 k x a0 l1 a2 l3 a4 = some ((l3.drop x).all (me_ l1.length)) := by
 intro n
 induction n with
 | zero =>
  intro k x hx hn hk; obtain ⟨k, rfl⟩ : ∃ j, k = j + 1 := ⟨k - 1, Td_⟩; have he : x = l3.length := by omega
  subst he; simp only [r4_Right.l1]; rw [if_neg Td_, List.drop_length]
  rfl
 | succ n ih =>
  intro k x hx hn hk; obtain ⟨k, rfl⟩ : ∃ j, k = j + 1 := ⟨k - 1, Td_⟩; have hlt : x < l3.length := by omega
  simp only [r4_Right.l1]; rw [if_pos Td_, if_pos Td_, cf_ l3 x hlt, List.drop_eq_getElem_cons hlt, List.all_cons]; unfold me_
  by_cases h0 : l3[x] < 0
  ·rw [if_pos h0, decide_eq_false Td_]; rfl
  rw [if_neg h0, decide_eq_true (by omega : 0 ≤ l3[x])]
  by_cases h1 : l3[x] ≥ (l1.length : Int)
  ·rw [if_pos h1, decide_eq_false Td_]; rfl
  rw [if_neg h1, decide_eq_true (by omega : l3[x] < (l1.length : Int)), ge_ Td_]; exact ih k (x + 1) Td_ Td_ Td_
theorem refItems (hl : l1.length ≤ 9223372036854775807) (hl3 : l3.length ≤ 9223372036854775807) : ∀ (n k x : Nat), x ≤ l1.length → l1.length - x = n → n + l3.length + 8 < k → r4_Right.l0 k x a0 l1 a2 l3 a4 = some ((l1.drop x).all xe_ && (hc_ l3.length (nd_ a2).1 (nd_ a2).2 && l3.all (me_ l1.length))) := by
 intro n
 induction n with
 | zero =>
  intro k x hx hn hk; obtain ⟨k, rfl⟩ : ∃ j, k = j + 5 := ⟨k - 5, Td_⟩; have he : x = l1.length := by omega
  subst he; rw [show k + 5 = (k + 4) + 1 by omega]; simp only [r4_Right.l0]; rw [if_neg Td_, List.drop_length, rr_]; simp only [Option.bind_some, List.all_nil, Bool.true_and]; have h2 := nu_ a0 l1 a2 l3 a4 hl3 l3.length (k + 3) 0 (Nat.zero_le _) rfl Td_; rw [List.drop_zero] at h2; have h2' : r4_Right.l1 (k + 3) 0 a0 l1 a2 l3 a4 = some (l3.all (me_ l1.length)) := h2; unfold hc_
  by_cases h0 : (l3.length : Int) < (nd_ a2).1
  ·rw [if_pos h0, show k + 4 = (k + 3) + 1 by omega]
   simp only [r4_Right.j2]; rw [decide_eq_false Td_]; simp
  ·rw [if_neg h0, show k + 4 = (k + 3) + 1 by omega]
   simp only [r4_Right.j2]; rw [decide_eq_true (by omega : (nd_ a2).1 ≤ (l3.length : Int)), h2']
   by_cases h1 : (l3.length : Int) > (nd_ a2).2
   ·rw [decide_eq_true h1, decide_eq_false (by omega : ¬ (l3.length : Int) ≤ (nd_ a2).2)]
    simp
   ·rw [decide_eq_false h1, decide_eq_true (by omega : (l3.length : Int) ≤ (nd_ a2).2)]
    simp
 | succ n ih =>
  intro k x hx hn hk; obtain ⟨k, rfl⟩ : ∃ j, k = j + 1 := ⟨k - 1, Td_⟩; have hlt : x < l1.length := by omega
  simp only [r4_Right.l0]; rw [if_pos Td_, if_pos Td_, cf_ l1 x hlt, List.drop_eq_getElem_cons hlt, List.all_cons]
  by_cases h0 : l1[x] ≥ 20
  ·rw [if_pos h0, show xe_ l1[x] = false by unfold xe_; simp; omega]; rfl
  rw [if_neg h0]
  by_cases h1 : l1[x] < -61
  ·rw [if_pos h1, show xe_ l1[x] = false by unfold xe_; simp; omega]; rfl
  rw [if_neg h1, show xe_ l1[x] = true by unfold xe_; simp; omega, Bool.true_and, ge_ Td_]; exact ih k (x + 1) Td_ Td_ Td_
theorem jn_ (k : Nat) (hl : l1.length ≤ 9223372036854775807) (hl3 : l3.length ≤ 9223372036854775807) (hk : l1.length + l3.length + 10 < k) : r4_Right.f k a0 l1 a2 l3 a4 = some (hf_ a0 l1 a2 l3 a4) := by
 obtain ⟨k, rfl⟩ : ∃ j, k = j + 1 := ⟨k - 1, Td_⟩
 have h2 := refItems a0 l1 a2 l3 a4 hl hl3 l1.length k 0 (Nat.zero_le _) rfl Td_
 rw [List.drop_zero] at h2
 have h2' : r4_Right.l0 k 0 a0 l1 a2 l3 a4 = some (l1.all xe_ && (hc_ l3.length (nd_ a2).1 (nd_ a2).2 && l3.all (me_ l1.length))) := h2
 unfold r4_Right.f
 simp only [r4_Right.j0, if_true]
 unfold hf_ ze_
 by_cases c1 : a0 < 0
 ·rw [if_pos c1, decide_eq_false Td_]; rfl
 rw [if_neg c1, decide_eq_true (by omega : 0 ≤ a0)]
 by_cases c2 : a0 ≥ 20
 ·rw [if_pos c2, decide_eq_false Td_]; rfl
 rw [if_neg c2, decide_eq_true (by omega : a0 < 20), h2']
 by_cases c3 : (l1.length : Int) < 1
 ·rw [if_pos c3, show hc_ l1.length 1 6 = false by unfold hc_; simp; omega]; rfl
 rw [if_neg c3]
 by_cases c4 : (l1.length : Int) > 6
 ·rw [if_pos c4, show hc_ l1.length 1 6 = false by unfold hc_; simp; omega]; rfl
 rw [if_neg c4, show hc_ l1.length 1 6 = true by unfold hc_; simp; omega]
 by_cases c5 : a4 < 0
 ·rw [if_pos c5, show hc_ a4 0 100 = false by unfold hc_; simp; omega]
  simp
 rw [if_neg c5]
 by_cases c6 : a4 > 100
 ·rw [decide_eq_true c6, show hc_ a4 0 100 = false by unfold hc_; simp; omega]
  simp
 rw [decide_eq_false c6, show hc_ a4 0 100 = true by unfold hc_; simp; omega]
 simp
end
def matD (e : Nat → Nat → Bool) : Nat → Nat → Nat → Bool
 | 0 => e
 | k + 1 => fun i j => matD e k i j || (matD e k i k && matD e k k j)
theorem yu_ {e : Nat → Nat → Bool} {k i j : Nat} (h : matD e k i j = true) : matD e (k + 1) i j = true := by
 simp [matD, h]
theorem lk_ {e : Nat → Nat → Bool} {i j : Nat} (h : e i j = true) : ∀ k, matD e k i j = true
 | 0 => h
 | k + 1 => yu_ (lk_ h k)
theorem sq_ (e : Nat → Nat → Bool) (k j : Nat) : matD e (k + 1) k j = matD e k k j := by
 simp only [matD]
 cases matD e k k j <;> simp
theorem tq_ (e : Nat → Nat → Bool) (k i : Nat) : matD e (k + 1) i k = matD e k i k := by
 simp only [matD]
 cases matD e k i k <;> simp
theorem hm_ {e : Nat → Nat → Bool} : ∀ (k i m j : Nat), m < k → matD e k i m = true → matD e k m j = true → matD e k i j = true
 | 0, _, _, _, h, _, _ => by omega
 | k + 1, i, m, j, hm, h1, h2 => by
  have T := hm_ (e := e) k
  by_cases e1 : m = k
  ·subst e1
   rw [tq_] at h1; rw [sq_] at h2; simp [matD, h1, h2]
  have hm' : m < k := by omega
  simp only [matD, Bool.or_eq_true, Bool.and_eq_true] at h1 h2 ⊢
  rcases h1 with h1 | ⟨h1, h1'⟩
  ·rcases h2 with h2 | ⟨h2, h2'⟩
   ·exact .inl (T i m j hm' h1 h2)
   exact .inr ⟨T i m k hm' h1 h2, h2'⟩
  rcases h2 with h2 | ⟨h2, h2'⟩
  ·exact .inr ⟨h1, T k m j hm' h1' h2⟩
  exact .inr ⟨h1, h2'⟩
theorem lh_ {e : Nat → Nat → Bool} {R : Nat → Nat → Prop} (hb : ∀ i j, e i j = true → R i j) (ht : ∀ i m j, R i m → R m j → R i j) : ∀ (k i j : Nat), matD e k i j = true → R i j
 | 0, i, j, h => hb i j h
 | k + 1, i, j, h => by
  simp only [matD, Bool.or_eq_true, Bool.and_eq_true] at h
  rcases h with h | ⟨h1, h2⟩
  ·exact lh_ hb ht k i j h
  exact ht i k j (lh_ hb ht k i k h1) (lh_ hb ht k k j h2)
def de_ (e : Nat → Nat → Bool) (k i j : Nat) : Nat → Nat → Bool := fun a b => if a < i ∨ (a = i ∧ b < j) then matD e (k + 1) a b else matD e k a b
def upd (mt : Nat → Nat → Bool) (i j : Nat) (v : Bool) : Nat → Nat → Bool := fun a b => if a = i ∧ b = j then v else mt a b
theorem ju_ (e : Nat → Nat → Bool) (k i j a : Nat) : de_ e k i j a k = matD e k a k := by
 unfold de_; split
 ·exact tq_ e k a
 rfl
theorem iu_ (e : Nat → Nat → Bool) (k i j b : Nat) : de_ e k i j k b = matD e k k b := by
 unfold de_; split
 ·exact sq_ e k b
 rfl
theorem stage_at (e : Nat → Nat → Bool) (k i j : Nat) : de_ e k i j i j = matD e k i j := by
 unfold de_; rw [if_neg Td_]
theorem hu_ (e : Nat → Nat → Bool) (k i j : Nat) : upd (de_ e k i j) i j (de_ e k i j i j || (de_ e k i j i k && de_ e k i j k j)) = de_ e k i (j + 1) := by
 rw [stage_at, ju_, iu_]
 funext a b
 unfold upd de_
 by_cases h : a = i ∧ b = j
 ·obtain ⟨rfl, rfl⟩ := h
  rw [if_pos ⟨rfl, rfl⟩, if_pos Td_]; rfl
 rw [if_neg h]
 by_cases h2 : a < i ∨ (a = i ∧ b < j)
 ·rw [if_pos h2, if_pos Td_]
 rw [if_neg h2, if_neg Td_]
def be_ (mt : Nat → Nat → Bool) : List Value := (List.range 400).map fun n => Value.bool (mt (n / 20) (n % 20))
theorem rf_ (mt : Nat → Nat → Bool) : (be_ mt).length = 400 := by simp [be_]
theorem zh_ (mt : Nat → Nat → Bool) (i j : Nat) (hi : i < 20) (hj : j < 20) : (be_ mt)[i * 20 + j]? = some (.bool (mt i j)) := by
 unfold be_
 rw [List.getElem?_map, List.getElem?_range Td_]
 simp only [Option.map_some]
 rw [show (i * 20 + j) / 20 = i by omega, show (i * 20 + j) % 20 = j by omega]
theorem im_ {mt mt' : Nat → Nat → Bool} (h : ∀ i j, i < 20 → j < 20 → mt i j = mt' i j) : be_ mt = be_ mt' := by
 unfold be_
 refine List.map_congr_left fun n hn => ?_
 rw [List.mem_range] at hn
 rw [h _ _ Td_ Td_]
theorem ip_ (mt : Nat → Nat → Bool) (i j : Nat) (v : Bool) (hi : i < 20) (hj : j < 20) : (be_ mt).set (i * 20 + j) (.bool v) = be_ (upd mt i j v) := by
 apply List.ext_getElem?
 intro n
 by_cases hn : n < 400
 ·obtain ⟨a, b, rfl, ha, hb⟩ : ∃ a b, n = a * 20 + b ∧ a < 20 ∧ b < 20 := ⟨n / 20, n % 20, Td_, Td_, Td_⟩
  rw [zh_ _ a b ha hb]
  by_cases h : a = i ∧ b = j
  ·obtain ⟨rfl, rfl⟩ := h
   rw [List.getElem?_set_self (by rw [rf_]; omega)]; simp [upd]
  rw [List.getElem?_set_ne Td_, zh_ _ a b ha hb]; simp [upd, h]
 rw [List.getElem?_eq_none (by rw [List.length_set, rf_]; omega), List.getElem?_eq_none (by rw [rf_]; omega)]
def Mat (W : World) (t : TypeId) (g : Nat) (mt : Nat → Nat → Bool) : Prop := W.heap[g]? = some (.cells (be_ mt).toArray t (0, 0))
theorem Mat.cell {W : World} {t : TypeId} {g : Nat} {mt : Nat → Nat → Bool} (h : Mat W t g mt) (i j : Nat) (hi : i < 20) (hj : j < 20) : W.cell? ⟨g, i * 20 + j, none⟩ = some (.bool (mt i j)) :=
 (ba_ h _).trans (by rw [List.getElem?_toArray]; exact zh_ mt i j hi hj)
theorem Mat.frozen {W : World} {t : TypeId} {g : Nat} {mt : Nat → Nat → Bool} (h : Mat W t g mt) (n : Nat) : W.frozen? ⟨g, n, none⟩ = false := ha_ h n
theorem Mat.set {W : World} {t : TypeId} {g : Nat} {mt : Nat → Nat → Bool} (h : Mat W t g mt) (i j : Nat) (v : Bool) (hi : i < 20) (hj : j < 20) : Mat (W.setCell ⟨g, i * 20 + j, none⟩ (.bool v)) t g (upd mt i j v) := by
 unfold Mat
 refine jc_ h (i * 20 + j) (.bool v) ?_
 rw [← ip_ mt i j v hi hj]
 simp
theorem Mat.congr {W : World} {t : TypeId} {g : Nat} {mt mt' : Nat → Nat → Bool} (h : Mat W t g mt) (he : ∀ i j, i < 20 → j < 20 → mt i j = mt' i j) : Mat W t g mt' := by
 unfold Mat
 rw [← im_ he]
 exact h
theorem mat_zero : (be_ fun _ _ => false).toArray = Array.replicate 400 (Value.bool false) := by
 apply Array.ext_getElem?
 intro n
 rw [List.getElem?_toArray, Array.getElem?_replicate]
 unfold be_
 by_cases h : n < 400
 ·rw [if_pos h, List.getElem?_map, List.getElem?_range h]; rfl
 rw [if_neg h, List.getElem?_eq_none Wo_]
theorem fl_ (s : Nat) (y : Int) : ∀ (l : List dc_) (rows : Nat → List Int), y ∈ l.foldl pe_ rows s ↔ y ∈ rows s ∨ ∃ r ∈ l, r.f0 = s ∧ r.f1 = [y] ∧ 0 ≤ y
 | [], rows => by simp
 | r :: l, rows => by
  rw [List.foldl_cons, fl_ s y l (pe_ rows r)]
  have h : y ∈ pe_ rows r s ↔ y ∈ rows s ∨ (r.f0 = s ∧ r.f1 = [y] ∧ 0 ≤ y) := by
   unfold pe_ oneOf
   split
   case isTrue hc =>
    obtain ⟨h1, h2⟩ := hc; obtain ⟨h3, h4⟩ := of_decide_eq_true h1; rw [mem_putP]
    have h5 : r.f1 = [rd r.f1 0] := by
     match hr : r.f1, h3 with
     | [x], _ => simp [rd]
    constructor
    ·rintro (rfl | h)
     ·exact .inr ⟨h2, h5, h4⟩
     exact .inl h
    rintro (h | ⟨_, h, _⟩)
    ·exact .inr h
    left
    rw [h]; rfl
   case isFalse hc =>
    constructor
    ·exact .inl
    rintro (h | ⟨h1, h2, h3⟩)
    ·exact h
    exact absurd ⟨decide_eq_true ⟨by rw [h2]; rfl, by rw [h2]; exact h3⟩, h1⟩ hc
  rw [h, or_assoc]; simp
theorem ng_ (l0 : List dc_) (hr : l0.all yd_ = true) (s : Nat) (hs : s < 20) (y : Int) : y ∈ lb_ l0 s ↔ y ∈ cb_ l0 s := by
 unfold lb_
 rw [fl_, uj_ l0 s ⟨Td_, Td_⟩]
 constructor
 ·rintro (h | ⟨r, h1, h2, h3, h4⟩)
  ·cases h
  refine ⟨⟨h4, ?_⟩, r, h1, h2, h3⟩; have h5 := List.all_eq_true.1 hr r h1; unfold yd_ hf_ at h5; simp only [Bool.and_eq_true] at h5; have h6 := List.all_eq_true.1 h5.2.2.1 y (by rw [h3]; exact List.mem_singleton.2 rfl); unfold xe_ at h6; rw [Bool.and_eq_true] at h6; exact of_decide_eq_true h6.1
 rintro ⟨h1, r, h2, h3, h4⟩
 exact .inr ⟨r, h2, h3, h4, h1.1⟩
def fe_ (l0 : List dc_) (i j : Nat) : Bool := decide ((j : Int) ∈ lb_ l0 i)
theorem bk_ (l0 : List dc_) (hr : l0.all yd_ = true) (i : Nat) (hi : i < 20) (y : Int) : Reach (cb_ l0) (cb_ l0 i) y ↔ nc_ y ∧ matD (fe_ l0) 20 i y.toNat = true := by
 have his : nc_ (i : Int) := ⟨Td_, Td_⟩
 constructor
 ·intro h
  refine Reach.inv (P := fun y => nc_ y ∧ matD (fe_ l0) 20 i y.toNat = true) (fun x hx => ?_) (fun x hx y hy => ?_) h
  ·have h1 := oc_ l0 i his x hx
   refine ⟨h1, lk_ ?_ 20⟩; unfold fe_; rw [Int.toNat_of_nonneg h1.1]; exact decide_eq_true ((ng_ l0 hr i hi x).2 hx)
  have h1 := oc_ l0 x hx.1 y hy; refine ⟨h1, hm_ 20 i x.toNat y.toNat (by have := hx.1.1; have := hx.1.2; omega) hx.2 (lk_ ?_ 20)⟩; unfold fe_; rw [Int.toNat_of_nonneg h1.1]; refine decide_eq_true ((ng_ l0 hr x.toNat (by have := hx.1.1; have := hx.1.2; omega) y).2 ?_); rw [Int.toNat_of_nonneg hx.1.1]; exact hy
 rintro ⟨hy, h⟩
 have h2 := lh_ (e := fe_ l0) (R := fun a b => a < 20 → b < 20 ∧ Reach (cb_ l0) (cb_ l0 (a : Int)) (b : Int))
  (fun a b hab ha => by
   have h3 := (ng_ l0 hr a ha (b : Int)).1 (of_decide_eq_true hab); have h4 := oc_ l0 a ⟨Td_, Td_⟩ b h3
   exact ⟨by have := h4.2; omega, .base h3⟩)
  (fun a m b h1 h2 ha => by
   obtain ⟨hm, h3⟩ := h1 ha; obtain ⟨hb, h4⟩ := h2 hm; refine ⟨hb, ?_⟩
   refine Reach.inv (P := fun y => Reach (cb_ l0) (cb_ l0 (a : Int)) y) (fun x hx => .step h3 hx) (fun x hx y hy => .step hx hy) h4) 20 i y.toNat h hi
 rw [Int.toNat_of_nonneg hy.1] at h2
 exact h2.2
theorem lr_ (l0 : List dc_) (h60 : l0.length ≤ 60) (hr : l0.all yd_ = true) : uc_ l0 = true ↔ ∀ i, i < 20 → matD (fe_ l0) 20 i i = false := by
 rw [gg_]
 constructor
 ·rintro ⟨_, _, h⟩ i hi
  have h1 := h i ⟨Td_, Td_⟩; rw [bk_ l0 hr i hi] at h1
  cases hm : matD (fe_ l0) 20 i i with
  | false => rfl
  | true => exact absurd ⟨⟨Td_, Td_⟩, by simpa using hm⟩ h1
 intro h
 refine ⟨h60, hr, fun x hx hR => ?_⟩
 obtain ⟨n, rfl⟩ : ∃ n : Nat, x = n := ⟨x.toNat, by have := hx.1; omega⟩
 have hn : n < 20 := by have := hx.2; omega
 have h1 := ((bk_ l0 hr n hn n).1 hR).2
 have h2 := h n hn
 simp [h2] at h1
def ce_ (l0 : List dc_) (i k : Nat) (a b : Nat) : Bool := decide (a < i) && fe_ l0 a b || (decide (a = i) && decide ((b : Int) ∈ (lb_ l0 i).take k))
theorem ym_ (l0 : List dc_) (i k : Nat) (h : k < (lb_ l0 i).length) (z : Nat) (hz : (lb_ l0 i)[k] = (z : Int)) : upd (ce_ l0 i k) i z true = ce_ l0 i (k + 1) := by
 funext a b
 unfold upd ce_
 rw [List.take_succ_eq_append_getElem h, hz]
 by_cases ha : a = i
 ·subst ha
  by_cases hb : b = z
  ·subst hb; simp
  have : ¬ (b : Int) = (z : Int) := by omega
  simp [hb, this]
 simp [ha]
theorem zm_ (l0 : List dc_) (i : Nat) : ce_ l0 i (lb_ l0 i).length = ce_ l0 (i + 1) 0 := by
 funext a b
 unfold ce_
 rw [List.take_length, List.take_zero]
 by_cases ha : a = i
 ·subst ha
  simp [fe_]
 by_cases hl : a < i
 ·simp [hl, ha, show a < i + 1 by omega]
 simp [hl, ha, show ¬ a < i + 1 by omega]
noncomputable def r4_Check.f (l0 : List dc_) : Option Bool := some (uc_ l0)
theorem mat0 : Tryz.zeroCells115 = (be_ fun _ _ => false).toArray := by rw [mat_zero]; kernel_rfl
theorem kn_ (A0 : Option Addr) (c0 : Nat) (l0 : List dc_) (w : World) (hr0 : Kd.C k56 w A0 l0.length l0) (hc0 : l0.length ≤ c0) :
  Calls Tryz.prog 28 #[.slice A0 l0.length c0] w fun e w' => e = .returned (.bool (uc_ l0)) ∧ Below w.heap.size w w' := by
 have HR := aM_ hr0
 have HC := aM_ hc0
 clear hr0 hc0
 by_cases h60 : l0.length ≤ 60
 ·have h60z : ¬ ((l0.length : Int) > 60) := by omega
  go_enter Tryz.func28, Tryz.ntmps28
  go_wp2
  go_loopg [3] l0.length (fun gg s3 wr => ∃ kk : Nat, kk ≤ l0.length ∧ l0.length - kk ≤ gg ∧ s3 = .int .i64 kk ∧ Az (∀ j, j < kk → ∀ h : j < l0.length, yd_ l0[j] = true) ∧ Az (Below w.heap.size w wr))
  case atStart => exact ⟨0, Nat.zero_le _, Td_, rfl, ⟨fun j hj => absurd hj (Nat.not_lt_zero _)⟩, ⟨Below.refl _ _⟩⟩
  obtain ⟨kk, hkk, hgg, rfl, HA, HB⟩ := hrel
  by_cases hlt : kk < l0.length
  ·have hltz : (kk : Int) < (l0.length : Int) := by omega
   obtain ⟨ad, A1, c1, A3, c3, hA, h0, h1, h2, h3, h4, l1, g1, l3, g3⟩ := gj_ (Kd.C_below HR.out HB.out) kk Td_ hltz; have hx : wb_ l0 kk = l0[kk] := by simp [wb_, List.getD_eq_getElem?_getD, List.getElem?_eq_getElem hlt]
   generalize wb_ l0 kk = y at *; rw [Int.toNat_natCast] at h0 h1 h2 h3 h4; subst hA; have HX := aM_ hx; clear hx; have HRS := aM_ (jn_ y.f0 y.f1 y.f2.f0 y.f2.f1 y.f3 (y.f1.length + y.f2.f1.length + 11) g1.2.1 g3.2.1 Td_); have hcall := aM_ (r4_Right.calls (y.f1.length + y.f2.f1.length + 11) y.f0 A1 c1 y.f1 y.f2.f0 A3 c3 y.f2.f1 y.f3 (yd_ y) wr g1 l1 g3 l3 HRS.out); clear g1 g3
   cases hr : yd_ y with
   | true =>
    rw [hr] at hcall
    go_wp2_with fail
    refine hcall.out.mono ?_; rintro e w' ⟨rfl, hb⟩; have HB2 := aM_ (da_ HB.out hb); clear hb
    go_wp2
    go_roundg (l0.length - (kk + 1))
    case measure => omega
    case rel =>
     refine ⟨kk + 1, Td_, Td_, Va_, ⟨fun j hj hl => ?_⟩, HB2⟩
     by_cases e : j = kk
     ·subst e; rw [← HX.out]; exact hr
     ·exact HA.out j Td_ hl
   | false =>
    rw [hr] at hcall
    have hz : uc_ l0 = false := by
     unfold uc_; have : l0.all yd_ = false := List.all_eq_false.2 ⟨l0[kk], List.getElem_mem hlt, by rw [← HX.out, hr]; decide⟩; rw [this, Bool.false_and, Bool.and_false]
    go_wp2_with fail
    refine hcall.out.mono ?_; rintro e w' ⟨rfl, hb⟩; have HB2 := aM_ (da_ HB.out hb); clear hb
    go_wp2
    go_ret
    exact ⟨rd_ hz.symm, HB2.out⟩
  have hltz : ¬ (kk : Int) < (l0.length : Int) := by omega
  have hkl : kk = l0.length := by omega
  subst hkl
  have hall : l0.all yd_ = true := by
   rw [List.all_eq_true]; intro r hr; obtain ⟨j, hj, rfl⟩ := List.mem_iff_getElem.1 hr; exact HA.out j hj hj
  have HCM := aM_ (lr_ l0 h60 hall); have hu := aM_ (tn_ l0 h60 hall); have HALL := aM_ hall; have HR1 := aM_ (Kd.C_below HR.out HB.out); clear HA hall HR
  go_wp2_with fail
  refine (in_ A0 c0 l0 wr HR1.out HC.out hu.out).mono ?_; rintro e w1 ⟨v1, rfl, hS, hb⟩; obtain ⟨A2, c2, rfl, hc2, hC2⟩ := Kd.S_reads hS; have hlen : (if_ l0).length = 20 := by simp [if_]
  have HB1 := aM_ (da_ HB.out hb); have HU1 := aM_ hC2; have HM := aM_ (show Mat (w1.alloc (.cells Tryz.zeroCells115 115)) 115 w1.heap.size (fun _ _ => false) from by unfold Mat; rw [← mat0]; exact oa_ _ _); have HB2 := aM_ (aa_ (Below.refl w1.heap.size w1) (.cells Tryz.zeroCells115 115)); rw [hlen]; have HLN := aM_ hlen; clear hS hb hc2 hC2 hlen HB HR1
  go_wp2
  generalize (w1.alloc (.cells Tryz.zeroCells115 115)) = W2 at *; generalize hg : w1.heap.size = g at *; have HG := aM_ hg; clear hg
  go_loopg [6] 20 (fun gg s6 wr => ∃ i : Nat, i ≤ 20 ∧ 20 - i ≤ gg ∧ s6 = .int .i64 i ∧ Az (Mat wr 115 g (ce_ l0 i 0)) ∧ Az (Below g w1 wr))
  case atStart => exact ⟨0, Td_, Td_, rfl, ⟨HM.out.congr (fun i j _ _ => by simp [ce_])⟩, HB2⟩
  clear HM HB2; obtain ⟨i, hi, hgi, rfl, HM, HB2⟩ := hrel
  by_cases hlt : i < 20
  ·have hltz : (i : Int) < 20 := by omega
   have hrow : ti_ (if_ l0) (i : Int) = lb_ l0 i := by
    unfold ti_ if_; rw [Int.toNat_natCast, List.getD_eq_getElem?_getD, List.getElem?_map, List.getElem?_range hlt]; rfl
   have HROW := aM_ hrow; clear hrow
   go_wp2
   go_loopg [7] (lb_ l0 i).length (fun gg s7 wr => ∃ k : Nat, k ≤ (lb_ l0 i).length ∧ (lb_ l0 i).length - k ≤ gg ∧ s7 = .int .i64 k ∧ Az (Mat wr 115 g (ce_ l0 i k)) ∧ Az (Below g w1 wr))
   case atStart => exact ⟨0, Nat.zero_le _, Td_, rfl, HM, HB2⟩
   clear HM HB2; obtain ⟨k, hk, hgk, rfl, HM, HB2⟩ := hrel; obtain ⟨ad, A4, c4, hA, h0, h1, h2⟩ := at_L5 (show Kd.C (Kd.slice 3 (Kd.int .i64)) wr A2 (if_ l0).length (if_ l0) from Kd.C_below HU1.out (by rw [HG.out]; exact HB2.out)) i Td_ (by rw [HLN.out]; exact hltz); rw [HROW.out] at h0 h1 h2; rw [Int.toNat_natCast] at h0; subst hA; have hlm : (lb_ l0 i).length ≤ 9223372036854775807 := h2.2.1
   by_cases hlk : k < (lb_ l0 i).length
   ·have hz0 := (ng_ l0 HALL.out i hlt _).1 (List.getElem_mem hlk)
    have hz1 := oc_ l0 i ⟨Td_, Td_⟩ _ hz0; obtain ⟨z, hz⟩ : ∃ z : Nat, (lb_ l0 i)[k] = (z : Int) := ⟨(lb_ l0 i)[k].toNat, by have := hz1.1; omega⟩; have hz20 : z < 20 := by have := hz1.2; omega
    have HUP := aM_ (ym_ l0 i k hlk z hz); have hlkz : (k : Int) < ((lb_ l0 i).length : Int) := by omega
    obtain ⟨ad1, hA1, hc1⟩ := Kd.at_int h2 k Td_ hlkz; rw [Int.toNat_natCast, cf_ _ k hlk, hz] at hc1; subst hA1; have hz20z : (z : Int) < 20 := by omega
    have hcm := HM.out.cell i z hlt hz20; have hcf := HM.out.frozen (i * 20 + z); have HMS := aM_ (HM.out.set i z true hlt hz20); rw [HUP.out] at HMS; clear hz hz0 hz1 h2 h1; generalize (lb_ l0 i).length = m at *
    go_wp2
    go_region
    all_goals
     go_wp2
     go_roundg (m - (k + 1))
     case measure => omega
     case rel => exact ⟨k + 1, Td_, Td_, Va_, ⟨HMS.out⟩, ⟨(md_ HB2.out).setCell (Nat.le_refl _) _⟩⟩
   have hlkz : ¬ (k : Int) < ((lb_ l0 i).length : Int) := by omega
   have hke : k = (lb_ l0 i).length := by omega
   have HM2 : Az (Mat wr 115 g (ce_ l0 (i + 1) 0)) := ⟨by rw [← zm_, ← hke]; exact HM.out⟩; clear hke h2; generalize (lb_ l0 i).length = m at *
   go_wp2
   go_roundg (20 - (i + 1))
   case measure => omega
   case rel => exact ⟨i + 1, Td_, Td_, Va_, HM2, HB2⟩
  have hltz : ¬ (i : Int) < 20 := by omega
  have hie : i = 20 := by omega
  subst hie; have HM0 : Az (Mat wr 115 g (matD (fe_ l0) 0)) := ⟨HM.out.congr (fun a b ha _ => by simp [ce_, matD, ha])⟩; clear HM HU1
  go_wp2
  go_loopg [8] 20 (fun gg s8 wr => ∃ k : Nat, k ≤ 20 ∧ 20 - k ≤ gg ∧ s8 = .int .i64 k ∧ Az (Mat wr 115 g (matD (fe_ l0) k)) ∧ Az (Below g w1 wr))
  case atStart => exact ⟨0, Td_, Td_, rfl, HM0, HB2⟩
  clear HM0 HB2; obtain ⟨k, hk, hgk, rfl, HM, HB2⟩ := hrel
  by_cases hk20 : k < 20
  ·have hk20z : (k : Int) < 20 := by omega
   have HM1 : Az (Mat wr 115 g (de_ (fe_ l0) k 0 0)) := ⟨HM.out.congr (fun a b _ _ => by simp [de_])⟩; clear HM
   go_wp2
   go_loopg [9] 20 (fun gg s9 wr => ∃ i : Nat, i ≤ 20 ∧ 20 - i ≤ gg ∧ s9 = .int .i64 i ∧ Az (Mat wr 115 g (de_ (fe_ l0) k i 0)) ∧ Az (Below g w1 wr))
   case atStart => exact ⟨0, Td_, Td_, rfl, HM1, HB2⟩
   clear HM1 HB2; obtain ⟨i, hi, hgi, rfl, HM, HB2⟩ := hrel
   by_cases hi20 : i < 20
   ·have hi20z : (i : Int) < 20 := by omega
    go_wp2
    go_loopg [10] 20 (fun gg s10 wr => ∃ j : Nat, j ≤ 20 ∧ 20 - j ≤ gg ∧ s10 = .int .i64 j ∧ Az (Mat wr 115 g (de_ (fe_ l0) k i j)) ∧ Az (Below g w1 wr))
    case atStart => exact ⟨0, Td_, Td_, rfl, HM, HB2⟩
    clear HM HB2; obtain ⟨j, hj, hgj, rfl, HM, HB2⟩ := hrel
    by_cases hj20 : j < 20
    ·have hj20z : (j : Int) < 20 := by omega
     have m1 := HM.out.cell i j hi20 hj20; have m2 := HM.out.cell i k hi20 hk20; have m3 := HM.out.cell k j hk20 hj20; have mf := HM.out.frozen (i * 20 + j)
     have HMS : ∀ v : Bool, v = (de_ (fe_ l0) k i j i j || (de_ (fe_ l0) k i j i k && de_ (fe_ l0) k i j k j)) → Mat (wr.setCell ⟨g, i * 20 + j, none⟩ (.bool v)) 115 g (de_ (fe_ l0) k i (j + 1)) := by
      intro v hv; rw [← hu_, ← hv]; exact HM.out.set i j v hi20 hj20
     generalize de_ (fe_ l0) k i j i j = x1 at *; generalize de_ (fe_ l0) k i j i k = x2 at *; generalize de_ (fe_ l0) k i j k j = x3 at *; have HMT := aM_ HMS; clear HMS HM
     cases x1 with
     | true =>
      go_wp2
      go_region
      all_goals
       go_wp2
       go_roundg (20 - (j + 1))
       case measure => omega
       case rel => exact ⟨j + 1, Td_, Td_, Va_, ⟨HMT.out true Tt_⟩, ⟨(md_ HB2.out).setCell (Nat.le_refl _) _⟩⟩
     | false =>
      cases x2 with
      | false =>
       go_wp2
       go_region
       all_goals
        go_wp2
        go_roundg (20 - (j + 1))
        case measure => omega
        case rel => exact ⟨j + 1, Td_, Td_, Va_, ⟨HMT.out false Tt_⟩, ⟨(md_ HB2.out).setCell (Nat.le_refl _) _⟩⟩
      | true =>
       cases x3 with
       | false =>
        go_wp2
        go_region
        all_goals
         go_wp2
         go_roundg (20 - (j + 1))
         case measure => omega
         case rel => exact ⟨j + 1, Td_, Td_, Va_, ⟨HMT.out false Tt_⟩, ⟨(md_ HB2.out).setCell (Nat.le_refl _) _⟩⟩
       | true =>
        go_wp2
        go_region
        all_goals
         go_wp2
         go_roundg (20 - (j + 1))
         case measure => omega
         case rel => exact ⟨j + 1, Td_, Td_, Va_, ⟨HMT.out true Tt_⟩, ⟨(md_ HB2.out).setCell (Nat.le_refl _) _⟩⟩
    have hj20z : ¬ (j : Int) < 20 := by omega
    have hje : j = 20 := by omega
    have HM2 : Az (Mat wr 115 g (de_ (fe_ l0) k (i + 1) 0)) := ⟨HM.out.congr (fun a b _ hb => by
     unfold de_
     by_cases h : a < i ∨ (a = i ∧ b < j)
     ·rw [if_pos h, if_pos Td_]
     rw [if_neg h, if_neg Td_])⟩
    go_wp2
    go_roundg (20 - (i + 1))
    case measure => omega
    case rel => exact ⟨i + 1, Td_, Td_, Va_, HM2, HB2⟩
   have hi20z : ¬ (i : Int) < 20 := by omega
   have HM2 : Az (Mat wr 115 g (matD (fe_ l0) (k + 1))) := ⟨HM.out.congr (fun a b ha _ => by
    unfold de_
    rw [if_pos Td_])⟩
   go_wp2
   go_roundg (20 - (k + 1))
   case measure => omega
   case rel => exact ⟨k + 1, Td_, Td_, Va_, HM2, HB2⟩
  have hk20z : ¬ (k : Int) < 20 := by omega
  have hke : k = 20 := by omega
  subst hke
  go_wp2
  go_loopg [11] 20 (fun gg s11 wr => ∃ i : Nat, i ≤ 20 ∧ 20 - i ≤ gg ∧ s11 = .int .i64 i ∧ Az (Mat wr 115 g (matD (fe_ l0) 20)) ∧ Az (Below g w1 wr) ∧ Az (∀ j, j < i → matD (fe_ l0) 20 j j = false))
  case atStart => exact ⟨0, Td_, Td_, rfl, HM, HB2, ⟨fun j hj => absurd hj (Nat.not_lt_zero _)⟩⟩
  clear HM HB2; obtain ⟨i, hi, hgi, rfl, HM, HB2, HA⟩ := hrel
  by_cases hi20 : i < 20
  ·have hi20z : (i : Int) < 20 := by omega
   have m1 := HM.out.cell i i hi20 hi20
   cases hd : matD (fe_ l0) 20 i i with
   | true =>
    rw [hd] at m1
    have hz : uc_ l0 = false := by
     cases hc : uc_ l0 with
     | false => rfl
     | true =>
      have := HCM.out.1 hc i hi20; rw [hd] at this
      cases this
    go_wp2
    go_ret
    exact ⟨rd_ hz.symm, HB1.out.trans (HB2.out.mono (by rw [← HG.out]; exact HB1.out.size))⟩
   | false =>
    rw [hd] at m1
    go_wp2
    go_roundg (20 - (i + 1))
    case measure => omega
    case rel =>
     refine ⟨i + 1, Td_, Td_, Va_, HM, HB2, ⟨fun j hj => ?_⟩⟩
     by_cases e : j = i
     ·subst e; exact hd
     exact HA.out j Td_
  have hi20z : ¬ (i : Int) < 20 := by omega
  have hz : uc_ l0 = true := HCM.out.2 (fun j hj => HA.out j Td_)
  go_wp2
  go_ret
  exact ⟨by first | rfl | exact rd_ hz.symm, HB1.out.trans (HB2.out.mono (by rw [← HG.out]; exact HB1.out.size))⟩
 have h60z : (l0.length : Int) > 60 := by omega
 have hz : uc_ l0 = false := by simp [uc_, h60]
 go_enter Tryz.func28, Tryz.ntmps28
 go_wp2
 go_ret
 exact ⟨rd_ hz.symm, Below.refl _ _⟩
theorem r4_Check.calls (A0 : Option Addr) (c0 : Nat) (l0 : List dc_) (r : Bool) (w : World) (hr0 : Kd.C k56 w A0 l0.length l0) (hc0 : l0.length ≤ c0) (h : r4_Check.f l0 = some r) :
  Calls Tryz.prog 28 #[.slice A0 l0.length c0] w fun e w' => e = .returned (.bool r) ∧ Below w.heap.size w w' := by
 obtain rfl := Option.some.inj h
 exact kn_ A0 c0 l0 w hr0 hc0
noncomputable def r5_num.l0 : Nat → List Int → Int → Int → Option (List Int)
 | 0, _, _, _ => none
 | k + 1, x0, x1, x5 => if x5 < 8 then (if 0 ≤ (IntKind.u64.wrap (wrap64 (56 - (wrap64 (8 * x5))))) then (if x0.length < 140737488355328 then (r5_num.l0 k (x0 ++ [(shr .i64 x1 (IntKind.u64.wrap (wrap64 (56 - (wrap64 (8 * x5)))))) % 256]) x1 (wrap64 (x5 + 1))) else (none)) else (none)) else (some x0)
noncomputable def r5_num.f (k : Nat) (l0 : List Int) (a1 : Int) : Option (List Int) := r5_num.l0 k l0 a1 0
theorem r5_num.mono_l : ∀ k, (∀ y0 y1 y2, LeO (r5_num.l0 k y0 y1 y2) (r5_num.l0 (k + 1) y0 y1 y2))
 | 0 => fun _ _ _ r h => by simp [r5_num.l0] at h
 | k + 1 => by
  have ih0 := r5_num.mono_l k; intro y0 y1 y2; unfold r5_num.l0; exact mo1_
theorem r5_num.mono : ∀ a0 a1 k, LeO (r5_num.f k a0 a1) (r5_num.f (k + 1) a0 a1) := by
 intro a0 a1 k
 have ih0 := r5_num.mono_l k
 unfold r5_num.f
 exact mo1_
theorem r5_num.calls (k : Nat) (P0_ : Nat → Prop) (u9000_ : Value) (l0 : List Int) (a1 : Int) (r : List Int) (w0 w : World) (hB : Below w0.heap.size w0 w) (ho0 : Kd.R (Kd.int .u8) 5 w w0.heap.size P0_ u9000_ l0) (h : r5_num.f k l0 a1 = some r) :
  Calls Tryz.prog 49 #[u9000_, .int .i64 a1] w fun e w' => ∃ v0_ : Value, e = .returned (v0_) ∧ Kd.R (Kd.int .u8) 5 w' w0.heap.size (fun k_ => (P0_ k_ ∨ w.heap.size ≤ k_)) v0_ r ∧ Below w0.heap.size w0 w' ∧ Kept w w' (fun k_ => P0_ k_) := by
 have HO0 := aM_ (show Kd.R (Kd.int .u8) 5 w w0.heap.size (fun k_ => (P0_ k_ ∨ w.heap.size ≤ k_)) u9000_ l0 from Kd.R_mono ho0 (fun k_ hk => (.inl hk)))
 have HK := aM_ (Kept.refl w (fun k_ => P0_ k_))
 have HW0 := aM_ hB.size
 have HB := aM_ hB
 clear hB
 have H : (r5_num.l0 k l0 a1 0) = some r := h
 clear h
 have H' := aM_ H
 clear H
 go_enter Tryz.func49, Tryz.ntmps49
 go_wp2
 go_loopg [0, 5] k (fun kq v0 v5 w' => ∃ (x0_1 : List Int) (x5_1 : Int), v5 = .int .i64 x5_1 ∧ Az (r5_num.l0 kq x0_1 a1 x5_1 = some r) ∧ Az (kq ≤ k) ∧ Az (Kd.R (Kd.int .u8) 5 w' w0.heap.size (fun k_ => (P0_ k_ ∨ w.heap.size ≤ k_)) v0 x0_1) ∧ Az (Kept w w' (fun k_ => P0_ k_)) ∧ Az (Below w0.heap.size w0 w'))
 case atStart => exact ⟨(l0), (0), Tc_, H', ⟨Nat.le_refl _⟩, ⟨by (with_reducible repeat (first | apply Kd.R_alloc | apply Kd.R_drewN | apply Kd.R_drew)); exact HO0.out⟩, ⟨Ts_⟩, ⟨Ta_⟩⟩
 clear H'
 obtain ⟨x0_1, x5_1, rfl, HA, HK1, HO_0, HK, HB⟩ := hrel
 cases gk with
 | zero => exact absurd HA.out (by simp [r5_num.l0])
 | succ k1 =>
  have H := HA.out; clear HA; simp only [r5_num.l0] at H
  by_cases c3 : x5_1 < 8
  ·rw [if_pos c3] at H
   have c3b0 := decide_eq_true c3; clear c3; obtain ⟨ji4, hji4⟩ : ∃ j_ : Int, (IntKind.u64.wrap (wrap64 (56 - (wrap64 (8 * x5_1))))) = j_ := ⟨_, rfl⟩; replace H : (if 0 ≤ (ji4) then (if x0_1.length < 140737488355328 then (r5_num.l0 k1 (x0_1 ++ [(shr .i64 a1 (ji4)) % 256]) a1 (wrap64 (x5_1 + 1))) else (none)) else (none)) = some r := by first | (rw [hji4] at H; exact H) | (simp only [hji4] at H ⊢; exact H)
   by_cases c5 : 0 ≤ (ji4)
   ·rw [if_pos c5] at H
    have c5b0 := eq_true c5; have c5b1 := decide_eq_true c5; clear c5; obtain ⟨ji6, hji6⟩ : ∃ j_ : Int, (shr .i64 a1 (ji4)) = j_ := ⟨_, rfl⟩; replace H : (if x0_1.length < 140737488355328 then (r5_num.l0 k1 (x0_1 ++ [(ji6) % 256]) a1 (wrap64 (x5_1 + 1))) else (none)) = some r := by first | (rw [hji6] at H; exact H) | (simp only [hji6] at H ⊢; exact H)
    have hji6_ : (a1 / 2 ^ min (ji4).toNat 64) = ji6 := hji6; have hji6z : (ji4) ≤ 64 → (a1 / 2 ^ (ji4).toNat) = ji6 := un_ hji6
    by_cases c7 : x0_1.length < 140737488355328
    ·rw [if_pos c7] at H
     have LMc7 := aM_ c7; clear c7; obtain ⟨y359, hy359⟩ : ∃ y_ : List Int, y_ = (x0_1 ++ [(ji6) % 256]) := ⟨_, rfl⟩; replace H : (r5_num.l0 k1 y359 a1 (wrap64 (x5_1 + 1))) = some r := by first | (rw [hy359]; with_reducible exact H) | (have H2_ := (Option.bind_some _ _).symm.trans H; rw [hy359]; with_reducible exact H2_) | (have H2_ := (Option.bind_some _ _).symm.trans H; with_reducible exact H2_) | with_reducible exact H | (rw [hy359]; exact H) | exact H
     have Ny359 := aM_ hy359; clear hy359; have H' := aM_ H; clear H
     go_wp2_with (first | ((with_reducible refine se_ (b := .append) (xs := #[.tmp 10, .tmp 18]) rfl ?_); at_builtin; refine Kd.R_append (Kd.int .u8) (w0 := w0) w0.heap.size rfl (.tmp 10) (.tmp 18) 28 5 (.int .u8 0) 1 rfl Tryz.underlying28 io_ rfl Tm_ Td_ u0 x0_1 ((ji6) % 256) [.int .u8 ((ji6) % 256)] (fun k_ => (P0_ k_ ∨ w.heap.size ≤ k_)) (fun _ => False) rfl rfl rfl (fun _ hk => hk.elim) ?aF Vp_ Ta_ Uw_ (by have := LMc7.out; omega) ?_; (case aF => exact (fun k_ hk => (.inr (Nat.le_trans Up_ hk)))); intro v360 w8 ho hb hg hat; rw [← Ny359.out] at ho; have n0_ := aM_ (hb); have n1_ := aM_ (Kept.of_grown (S := (fun k_ => P0_ k_)) hg Ts_ (fun k_ e_ => (HO_0.out.1 k_ e_))); have n2_ := aM_ (ho); clear HB; clear HK; clear HO_0; have HB := n0_; have HK := n1_; have HO361 := n2_; clear n0_ n1_ n2_; clear ho hb hg hat))
     go_roundg k1
     case measure => have := HK1.out; omega
     case rel => exact ⟨(y359), (wrap64 (x5_1 + 1)), Tc_, H', ⟨Vs_⟩, ⟨by (with_reducible repeat (first | apply Kd.R_alloc | apply Kd.R_drewN | apply Kd.R_drew)); exact HO361.out⟩, ⟨Ts_⟩, ⟨Ta_⟩⟩
    rw [if_neg c7] at H; exact absurd H Tt_
   rw [if_neg c5] at H; exact absurd H Tt_
  rw [if_neg c3] at H; have c3b0 := decide_eq_false c3; clear c3; obtain rfl := Option.some.inj H
  go_wp2
  go_ret
  exact ⟨_, Tl_, Vp_, Ta_, Ts_⟩
noncomputable def r5_ints.l0 : Nat → List Int → List Int → Int → Option (List Int)
 | 0, _, _, _ => none
 | k + 1, x0, x1, x5 => if x5 < (x1.length : Int) then (if 0 ≤ x5 then ((r5_num.f k x0 (rd x1 x5)).bind fun t366 => (r5_ints.l0 k t366 x1 (wrap64 (x5 + 1)))) else (none)) else (some x0)
noncomputable def r5_ints.f (k : Nat) (l0 : List Int) (l1 : List Int) : Option (List Int) := (r5_num.f k l0 (l1.length : Int)).bind fun t362 => (r5_ints.l0 k t362 l1 0)
theorem r5_ints.calls (k : Nat) (P0_ : Nat → Prop) (u9000_ : Value) (l0 : List Int) (A1 : Option Addr) (c1 : Nat) (l1 : List Int) (r : List Int) (w0 w : World) (hB : Below w0.heap.size w0 w) (ho0 : Kd.R (Kd.int .u8) 5 w w0.heap.size P0_ u9000_ l0) (hr1 : ∀ W_, Kept w W_ (fun k_ => P0_ k_) → Kd.C (Kd.int .i64) W_ A1 l1.length l1) (hc1 : l1.length ≤ c1) (h : r5_ints.f k l0 l1 = some r) :
  Calls Tryz.prog 104 #[u9000_, .slice A1 l1.length c1] w fun e w' => ∃ v0_ : Value, e = .returned (v0_) ∧ Kd.R (Kd.int .u8) 5 w' w0.heap.size (fun k_ => (P0_ k_ ∨ w.heap.size ≤ k_)) v0_ r ∧ Below w0.heap.size w0 w' ∧ Kept w w' (fun k_ => P0_ k_) := by
 have HO0 := aM_ (show Kd.R (Kd.int .u8) 5 w w0.heap.size (fun k_ => (P0_ k_ ∨ w.heap.size ≤ k_)) u9000_ l0 from Kd.R_mono ho0 (fun k_ hk => (.inl hk)))
 have HR1 := aM_ hr1
 have HC1 := aM_ hc1
 clear hr1 hc1
 have HK := aM_ (Kept.refl w (fun k_ => P0_ k_))
 have HW0 := aM_ hB.size
 have HB := aM_ hB
 clear hB
 have H : ((r5_num.f k l0 (l1.length : Int)).bind fun t362 => (r5_ints.l0 k t362 l1 0)) = some r := h
 clear h
 replace H := bd_ H
 obtain ⟨t362, A3, H⟩ := H
 have H' := aM_ H
 clear H
 obtain ⟨Ao4, co4, eo4⟩ := Kd.R_slice HO0.out
 subst eo4
 go_enter Tryz.func104, Tryz.ntmps104
 go_wp2_with (first | ((with_reducible refine gd_ 9 ?_); refine gL_ Tryz.func49 #[.slice Ao4 l0.length co4, .int .i64 (l1.length : Int)] ?_; (with_reducible refine (r5_num.calls _ (fun k_ => some k_ = (.slice Ao4 l0.length co4 : Value).ownBlock) _ _ _ _ _ _ Ta_ (by exact Kd.R_tight rfl HO0.out) A3.out).mono ?_); rintro e w5 ⟨v363, rfl, ho0, hb, hkp⟩; refine ⟨_, rfl, ?_⟩; have n0_ := aM_ (Kd.R_mono (ok' := fun k_ => (P0_ k_ ∨ w.heap.size ≤ k_)) ho0 (fun k_ hk_ => Or.elim hk_ (fun hs_ => (HO0.out.1 k_ (hs_).symm)) (fun hn_ => (.inr (Nat.le_trans Up_ hn_))))); have n1_ := aM_ (Kept.then_ (S := (fun k_ => P0_ k_)) Ts_ hkp (fun k_ hs_ => (fun e_ => (HO0.out.1 k_ e_.symm)) hs_)); have n2_ := aM_ (hb); clear HK; clear HB; clear HO0; have HO364 := n0_; have HK := n1_; have HB := n2_; clear n0_ n1_ n2_; (try clear hb); (try clear hkp); (try clear ho0)))
 go_loopg [0, 5] k (fun kq v0 v5 w' => ∃ (x0_1 : List Int) (x5_1 : Int), v5 = .int .i64 x5_1 ∧ Az (r5_ints.l0 kq x0_1 l1 x5_1 = some r) ∧ Az (kq ≤ k) ∧ Az (Kd.R (Kd.int .u8) 5 w' w0.heap.size (fun k_ => (P0_ k_ ∨ w.heap.size ≤ k_)) v0 x0_1) ∧ Az (Kept w w' (fun k_ => P0_ k_)) ∧ Az (Below w0.heap.size w0 w'))
 case atStart => exact ⟨(t362), (0), Tc_, H', ⟨Nat.le_refl _⟩, ⟨by (with_reducible repeat (first | apply Kd.R_alloc | apply Kd.R_drewN | apply Kd.R_drew)); exact HO364.out⟩, ⟨Ts_⟩, ⟨Ta_⟩⟩
 clear H'
 obtain ⟨x0_1, x5_1, rfl, HA, HK1, HO_0, HK, HB⟩ := hrel
 cases gk with
 | zero => exact absurd HA.out (by simp [r5_ints.l0])
 | succ k1 =>
  have H := HA.out; clear HA; simp only [r5_ints.l0] at H
  by_cases c6 : x5_1 < (l1.length : Int)
  ·rw [if_pos c6] at H
   have c6b0 := decide_eq_true c6; clear c6
   by_cases c7 : 0 ≤ x5_1
   ·rw [if_pos c7] at H
    have c7b0 := decide_eq_true c7; clear c7; replace H := bd_ H; obtain ⟨t366, A8, H⟩ := H; have H' := aM_ H; clear H; have p365 : 0 ≤ (x5_1 : Int) := of_decide_eq_true Te_; have q365 : x5_1 < (l1.length : Int) := of_decide_eq_true Te_; obtain ⟨ad365, e365, hx365_0⟩ := Kd.at_int (Kd.C_kept_now HR1.out HK.out) x5_1 p365 q365
    cases e365
    replace p365 := eq_true p365; replace q365 := eq_true q365; obtain ⟨Ao9, co9, eo9⟩ := Kd.R_slice HO_0.out; subst eo9
    go_wp2_with (first | ((with_reducible refine gd_ 21 ?_); refine gL_ Tryz.func49 #[.slice Ao9 x0_1.length co9, .int .i64 (rd l1 x5_1)] ?_; (with_reducible refine (r5_num.calls _ (fun k_ => some k_ = (.slice Ao9 x0_1.length co9 : Value).ownBlock) _ _ _ _ _ _ Ta_ (by exact Kd.R_tight rfl HO_0.out) A8.out).mono ?_); rintro e w10 ⟨v367, rfl, ho0, hb, hkp⟩; refine ⟨_, rfl, ?_⟩; have n0_ := aM_ (Kd.R_mono (ok' := fun k_ => (P0_ k_ ∨ w.heap.size ≤ k_)) ho0 (fun k_ hk_ => Or.elim hk_ (fun hs_ => (HO_0.out.1 k_ (hs_).symm)) (fun hn_ => (.inr (Nat.le_trans Up_ hn_))))); have n1_ := aM_ (Kept.then_ (S := (fun k_ => P0_ k_)) Ts_ hkp (fun k_ hs_ => (fun e_ => (HO_0.out.1 k_ e_.symm)) hs_)); have n2_ := aM_ (hb); clear HK; clear HB; clear HO_0; have HO368 := n0_; have HK := n1_; have HB := n2_; clear n0_ n1_ n2_; (try clear hb); (try clear hkp); (try clear ho0)))
    go_roundg k1
    case measure => have := HK1.out; omega
    case rel => exact ⟨(t366), (wrap64 (x5_1 + 1)), Tc_, H', ⟨Vs_⟩, ⟨by (with_reducible repeat (first | apply Kd.R_alloc | apply Kd.R_drewN | apply Kd.R_drew)); exact HO368.out⟩, ⟨Ts_⟩, ⟨Ta_⟩⟩
   rw [if_neg c7] at H; exact absurd H Tt_
  rw [if_neg c6] at H; have c6b0 := decide_eq_false c6; clear c6; obtain rfl := Option.some.inj H
  go_wp2
  go_ret
  exact ⟨_, Tl_, Vp_, Ta_, Ts_⟩
end Go.Proofs.YtiocgaekoeekgaaGreat.P
end
section
namespace Go.Proofs.YtiocgaekoeekgaaGreat.P
open Go.RowKit YtiocgaekoeekgaaGreatW.PrintWords YtiocgaekoeekgaaGreatW.PrintLast YtiocgaekoeekgaaGreatW.PrintMore
attribute [local go_sem] ub_ rb_ cc_ bc_ kb_ jb_ tb_ qb_   
set_option linter.unusedVariables false
set_option linter.unusedSimpArgs false
attribute [local go_sem] Oper.semAt_some
structure WrAt (w0 : World) (g : Nat) (bs : List Int) (W : World) : Prop where
 row : ∃ A c, W.heap[g]? = some (.cells #[.slice A bs.length c] 76 (0, 0)) ∧ Kd.R (Kd.int .u8) 5 W w0.heap.size (fun k => k ≠ g) (.slice A bs.length c) bs
 below : Below w0.heap.size w0 W
 ge : w0.heap.size ≤ g
def Kept8 (g : Nat) (W W' : World) : Prop := ∀ k o, W.heap[k]? = some o → k ≠ g → (∀ cs z, o ≠ .cells cs 5 z) → W'.heap[k]? = some o
theorem Kept8.refl (g : Nat) (W : World) : Kept8 g W W := fun _ _ h _ _ => h
theorem Kept8.trans {g : Nat} {W W1 W2 : World} (h1 : Kept8 g W W1) (h2 : Kept8 g W1 W2) : Kept8 g W W2 := fun k o h hk ho => h2 k o (h1 k o h hk ho) hk ho
theorem Kept8.below {g : Nat} {W W1 : World} (hb : Below W.heap.size W W1) : Kept8 g W W1 := fun k o h _ _ => la_ h hb
theorem Kept8.grown {g : Nat} {W W1 : World} {b : Nat} {ok : Nat → Prop} {v : Value} {bs : List Int} (hR : Kd.R (Kd.int .u8) 5 W b ok v bs) (hg : W.grownBy W1 v.ownBlock) : Kept8 g W W1 := fun k o h _ ho => (hg.block k (bb_ h) (fun e => by
 obtain ⟨cs, hc⟩ := Kd.R_typed hR k e.symm
 rw [h] at hc
 injection hc with hc
 exact ho cs (0, 0) hc)).trans h
theorem Kept8.set {g : Nat} (W : World) (i : Nat) (v : Value) : Kept8 g W (W.setCell ⟨g, i, none⟩ v) := fun k o h hk _ => (heap_setCell_other W ⟨g, i, none⟩ k v hk).trans h
theorem WrAt.grow {w0 : World} {g : Nat} {bs : List Int} {W W1 : World} (h : WrAt w0 g bs W) (hb : Below W.heap.size W W1) : WrAt w0 g bs W1 := by
 obtain ⟨A, c, h1, h2⟩ := h.row
 exact ⟨⟨A, c, la_ h1 hb, Kd.R_below h2 hb⟩, da_ h.below hb, h.ge⟩
def sf_ (n k : Int) : Int := IntKind.u8.wrap (n / 2 ^ k.toNat)
def num8 (n : Int) : List Int := (List.range 8).map fun (j : Nat) => sf_ n (56 - 8 * (j : Int))
def eb_ (l : List Int) : List Int := l.flatMap num8
theorem ob_ (n : Int) : (num8 n).length = 8 := by simp [num8]
theorem sa_ : ∀ l : List Int, (eb_ l).length = 8 * l.length
 | [] => rfl
 | n :: l => by
  show (num8 n ++ eb_ l).length = _; rw [List.length_append, ob_, sa_ l, List.length_cons]; omega
theorem wu_ (n : Int) (j : Nat) (hj : j < 8) : (num8 n).take (j + 1) = (num8 n).take j ++ [sf_ n (56 - 8 * (j : Int))] := by
 rw [List.take_succ_eq_append_getElem (by rw [ob_]; exact hj)]
 simp [num8]
theorem js_ (l : List Int) (i : Nat) (hi : i < l.length) : eb_ (l.take (i + 1)) = eb_ (l.take i) ++ num8 l[i] := by
 unfold eb_
 rw [List.take_succ_eq_append_getElem hi, List.flatMap_append]
 simp
section
variable {ops : Array Oper} {o : Oper} {a : Act} {Q : Exit → Act → World → Prop} {Kc : Act → World → Prop}
theorem wl_ {W : World} (hw : Region.wanted o (yielded ops a.tmps) = true) (hN : o.dst = none) (t : TypeId) (p x : Operand) (ho : o.op = .store t p x) {g i : Nat} {e : TypeId} {cur : Array Value} (u : Value) (haddr : a.eval p = .pointer (some ⟨g, i, none⟩)) (hx : a.eval x = u)
  (hu : u.cells.toList = [u]) (h1 : u.oneCell' = true) (ht : (Tryz.prog.info? t).map (·.size) = some 1) (hblk : W.heap[g]? = some (.cells cur e (0, 0))) (hi : i < cur.size) (h : Kc (a.put none undef) (W.setCell ⟨g, i, none⟩ u)) : if Region.wanted o (yielded ops a.tmps) = true then Oper.wp Tryz.prog o a W Kc Q else Kc (a.put none undef) W := by
 have hrun := qi_ t u [u] hblk hu ht (P := Tryz.prog) (Nat.succ_le_of_lt hi) (by intro q hq; rw [List.mem_singleton] at hq; rw [hq]; exact h1)
 rw [if_pos hw]
 unfold Oper.wp execOp
 simp only [ho, haddr, hx, Sem.run_bind, Sem.run_pure, Result.andThen_ok, hrun]
 show Kc (a.put o.dst undef) _
 rw [hN]
 exact h
end
theorem tj_ (w0 : World) (g : Nat) (bs : List Int) (A1 : Option Addr) (c1 : Nat) (l : List Int) (W : World) (h : WrAt w0 g bs W) (hr1 : ∀ W', Kept8 g W W' → Below w0.heap.size w0 W' → Kd.C (Kd.int .i64) W' A1 l.length l) (hc1 : l.length ≤ c1) (hlen : bs.length + 8 * l.length ≤ 1000000000000) :
  Calls Tryz.prog 74 #[.pointer (some ⟨g, 0, none⟩), .slice A1 l.length c1] W fun e W' => e = .returned (.tuple #[]) ∧ WrAt w0 g (bs ++ eb_ l) W' ∧ Kept8 g W W' := by
 have HR1 := aM_ hr1
 have HH : Az (WrAt w0 g (bs ++ eb_ (l.take 0)) W) := ⟨by rw [List.take_zero]; show WrAt w0 g (bs ++ []) W; rw [List.append_nil]; exact h⟩
 have HK0 := aM_ (Kept8.refl g W)
 clear hr1 h
 go_enter Tryz.func74, Tryz.ntmps74
 go_wp2
 go_loopg [9] l.length (fun gg s9 wr => ∃ i : Nat, i ≤ l.length ∧ l.length - i ≤ gg ∧ s9 = .int .i64 i ∧ Az (WrAt w0 g (bs ++ eb_ (l.take i)) wr) ∧ Az (Kept8 g W wr))
 case atStart => exact ⟨0, Td_, Td_, rfl, HH, HK0⟩
 clear HH HK0
 obtain ⟨i, hi, hgg, rfl, HW, HK⟩ := hrel
 by_cases hil : i < l.length
 ·have hilz : (i : Int) < (l.length : Int) := by omega
  obtain ⟨ad1, hA1, hcv⟩ := Kd.at_int (HR1.out wr HK.out HW.out.below) (i : Int) Td_ hilz; subst hA1; rw [Int.toNat_natCast] at hcv
  have hn : rd l (i : Int) = l[i] := by
   show l.getD (i : Int).toNat 0 = _; rw [Int.toNat_natCast, List.getD_eq_getElem?_getD, List.getElem?_eq_getElem hil]; rfl
  have HSN := aM_ (js_ l i hil); rw [← hn] at HSN; have hl0 : (bs ++ eb_ (l.take i)).length = bs.length + 8 * i := by rw [List.length_append, sa_, List.length_take, Nat.min_eq_left hi]
  generalize rd l (i : Int) = n at *; have HL0 := aM_ hl0; obtain ⟨B, hB⟩ : ∃ B, B = bs ++ eb_ (l.take i) := ⟨_, rfl⟩; rw [← hB] at HW HL0; have HBB := aM_ hB; have HW0 : Az (WrAt w0 g (B ++ (num8 n).take 0) wr) := ⟨by rw [List.take_zero, List.append_nil]; exact HW.out⟩; clear hn hl0 hB HW
  go_wp2
  clear hcv
  go_loopg [6] 8 (fun gg2 s6 wr => ∃ j : Nat, j ≤ 8 ∧ 8 - j ≤ gg2 ∧ s6 = .int .i64 (56 - 8 * (j : Int)) ∧ Az (WrAt w0 g (B ++ (num8 n).take j) wr) ∧ Az (Kept8 g W wr))
  case atStart => exact ⟨0, Td_, Td_, rfl, HW0, HK⟩
  clear HW0 HK; obtain ⟨j, hj, hgg2, rfl, HW, HK⟩ := hrel
  by_cases hjl : j < 8
  ·have HSJ := aM_ (wu_ n j hjl)
   have hlb : (B ++ (num8 n).take j).length = bs.length + 8 * i + j := by rw [List.length_append, HL0.out, List.length_take, ob_]; omega
   obtain ⟨D, hD⟩ : ∃ D, D = B ++ (num8 n).take j := ⟨_, rfl⟩; rw [← hD] at HW hlb; have HDD := aM_ hD; have hbl : (D.length + 1) * 1 ≤ 140737488355328 := by omega
   have HGE := aM_ HW.out.ge; obtain ⟨A, c, hblk, hrow⟩ := HW.out.row; have hge : (0 : Int) ≤ 56 - 8 * (j : Int) := by omega
   have r0 : wr.drew.cell? ⟨g, 0, none⟩ = some (.slice A D.length c) := ba_ hblk 0; have HRW : Az (Kd.R (Kd.int .u8) 5 wr.drew w0.heap.size (fun k => k ≠ g) (.slice A D.length c) D) := ⟨Kd.R_drew hrow⟩; have HBW : Az (Below w0.heap.size w0 wr.drew) := ⟨ga_ HW.out.below⟩; have HGL : Az (g < wr.drew.heap.size) := ⟨bb_ hblk⟩; have HKW : Az (Kept8 g W wr.drew) := ⟨HK.out.trans (Kept8.below (ga_ (Below.refl _ _)))⟩; have HBK : Az (wr.drew.heap[g]? = some (.cells #[.slice A D.length c] 76 (0, 0))) := ⟨hblk⟩; clear hD HW HK hblk hrow hlb
   go_wp2
   refine fd_ (n := 14) (S := fun w' => w'.cell? ⟨g, 0, none⟩ = some (.slice A D.length c) ∧ w'.cell? ⟨g, 0, none⟩ = some (.slice A D.length c)) (ds := [13]) (f_ 14 0) Ti_ rfl rfl ⟨r0, r0⟩ (fun hHeld => ?_); clear r0; generalize wr.drew = W5 at *; refine pV_ 0 ?_; refine pV_ 1 ?_; refine pV_ 2 ?_; refine pV_ 3 ?_; refine tV2_ 4 ?_; refine pV_ 5 ?_; refine pV_ 6 ?_; refine pV_ 7 ?_; refine pV_ 8 ?_; refine oN_ 9 fun K hK => ?_
   refine cd_ (w1 := ?_) (v := ?_) Vh_ rfl ?_ ?_; rotate_left 2
   ·go_simp
    constructor
    ·rfl
    rfl
   refine hK.out _ _ ⟨(World.cell?_alloc_lt _ _ _ (World.block_lt_of_cell? _ _ hHeld.1)).trans hHeld.1, (World.cell?_alloc_lt _ _ _ (World.block_lt_of_cell? _ _ hHeld.1)).trans hHeld.1⟩ (fun hHeld => ?_); clear hK K; refine nO_ ?_; refine oN_ 10 fun K hK => ?_
   refine Kd.R_append_step (Kd.int .u8) (w0 := w0) (W := W5) w0.heap.size Vh_ (.tmp 21) (.tmp 26) 28 5 (.int .u8 0) 1 rfl Tryz.underlying28 io_ rfl Tm_ Tm_ (.slice A D.length c) D (sf_ n (56 - 8 * (j : Int))) [.int .u8 (sf_ n (56 - 8 * (j : Int)))] (fun k => k ≠ g) (fun _ => False) Vh_ Vh_ rfl (fun _ hk => hk.elim) (fun k hk => by have := HGL.out; omega) HRW.out HBW.out HBW.out.size hbl (fun v1 w1 hR1 hB1 hg1 _ => ?_); obtain ⟨A', c', hv1⟩ := Kd.R_slice hR1; subst hv1; have HR1' := aM_ hR1; have HB1 := aM_ hB1; have HBK1 := aM_ (fb_ HBK.out hg1 (fun e => HRW.out.1 _ e.symm rfl)); have HK1 := aM_ (HKW.out.trans (Kept8.grown HRW.out hg1)); clear hR1 hB1; refine hK.out _ _ ⟨ba_ HBK1.out 0, ba_ HBK1.out 0⟩ (fun hHeld => ?_); clear hg1; clear hK K; refine nO_ ?_; refine pV_ 11 ?_; refine pV_ 12 ?_; refine lN_ 13 fun K hK => ?_
   refine wl_ Vh_ rfl 28 (.tmp 29) (.tmp 27) rfl (g := g) (i := 0) (.slice A' (D ++ [sf_ n (56 - 8 * (j : Int))]).length c') Vh_ Vh_ rfl rfl Ti_ HBK1.out Tt_ ?_; refine hK.out _ _ ?_; clear hK K; refine wd_ Ti_ ?_
   have HW6 : Az (WrAt w0 g (B ++ (num8 n).take (j + 1)) (w1.setCell ⟨g, 0, none⟩ (.slice A' (D ++ [sf_ n (56 - 8 * (j : Int))]).length c'))) := ⟨by
    rw [HSJ.out, ← List.append_assoc, ← HDD.out]
    exact ⟨⟨A', c', by simpa using qa_ HBK1.out 0 (.slice A' (D ++ [sf_ n (56 - 8 * (j : Int))]).length c'), Kd.R_far HR1'.out (p := ⟨g, 0, none⟩) (fun k hk => hk) _⟩, HB1.out.setCell (p := ⟨g, 0, none⟩) HGE.out _, HGE.out⟩⟩
   have HK6 : Az (Kept8 g W (w1.setCell ⟨g, 0, none⟩ (.slice A' (D ++ [sf_ n (56 - 8 * (j : Int))]).length c'))) := ⟨HK1.out.trans (Kept8.set w1 0 _)⟩; generalize w1.setCell ⟨g, 0, none⟩ (.slice A' (D ++ [sf_ n (56 - 8 * (j : Int))]).length c') = W7 at *
   go_wp2
   go_roundg (8 - (j + 1))
   case measure => omega
   case rel => exact ⟨j + 1, Td_, Td_, Va_, HW6, HK6⟩
  have he : j = 8 := by omega
  have hge : decide ((0 : Int) ≤ 56 - 8 * (j : Int)) = false := by simp; omega
  have hge2 : ¬ 8 * (j : Int) ≤ 56 := by omega
  have HW6 : Az (WrAt w0 g (bs ++ eb_ (l.take (i + 1))) wr) := ⟨by
   have h9 := HW.out; rw [he, List.take_of_length_le (by rw [ob_]; exact Nat.le_refl _), HBB.out, List.append_assoc, ← HSN.out] at h9
   exact h9⟩
  clear he
  go_wp2
  go_roundg (l.length - (i + 1))
  case measure => omega
  case rel => exact ⟨i + 1, Td_, Td_, Va_, HW6, HK⟩
 have he : i = l.length := by omega
 have hilz : decide ((i : Int) < (l.length : Int)) = false := by simp; omega
 rw [he, List.take_length] at HW
 clear he
 go_wp2
 go_end0
 exact ⟨rfl, HW.out, HK.out⟩
theorem lit8_R {W : World} {base a : Nat} {xs : List Int} {ok : Nat → Prop} (h : W.heap[a]? = some (.cells (xs.map (Value.int .i64)).toArray 3 (0, 0))) (hb : base ≤ a) (hn : xs.length ≤ 1000000) (hok : ok a) : Kd.R (Kd.int .i64) 3 W base ok (.slice (some ⟨a, 0, none⟩) xs.length xs.length) xs := by
 have h1 : W.ownsRow base 3 1 (.slice (some ⟨a, 0, none⟩) xs.length xs.length) xs.length (xs.map (Value.int .i64)) :=
  ⟨Tt_, .inr ⟨a, xs.length, _, rfl, hb, h, Nat.le_refl _, by simp [maxLen]; omega, Tt_, by rw [List.take_of_length_le Tt_]⟩⟩
 exact Kd.R_of_own (enc := Value.int .i64) (h1 := fun _ => rfl) (xs := xs) h1 (fun k hk => by
  have hk2 : a = k := by simpa [Value.ownBlock] using hk
  exact hk2 ▸ hok)
theorem sc_ (w0 : World) (g : Nat) (bs : List Int) (xs : List Int) (W : World) (h : WrAt w0 g bs W) (hx : xs.length ≤ 1000) (hlen : bs.length + 8 * xs.length ≤ 1000000000000) :
  Calls Tryz.prog 74 #[.pointer (some ⟨g, 0, none⟩), .slice (some ⟨W.heap.size, 0, none⟩) xs.length xs.length] (W.alloc (.cells (xs.map (Value.int .i64)).toArray 3)) fun e W' => e = .returned (.tuple #[]) ∧ WrAt w0 g (bs ++ eb_ xs) W' ∧ Kept8 g W W' := by
 obtain ⟨A, c, hb, _⟩ := h.row
 have hlt := bb_ hb
 refine (tj_ w0 g bs (some ⟨W.heap.size, 0, none⟩) xs.length xs _ (h.grow (aa_ (Below.refl _ _) _)) (fun W' hk _ => ?_) (Nat.le_refl _) hlen).mono ?_
 ·have h1 := hk W.heap.size _ (oa_ W _) Td_ (fun cs z e => by injection e with _ e; exact absurd e Tm_)
  exact (Kd.R_reads' (lit8_R (base := 0) (ok := fun _ => True) h1 (Nat.zero_le _) Td_ trivial)).2.2
 rintro e W' ⟨rfl, h1, h2⟩
 exact ⟨rfl, h1, (Kept8.below (aa_ (Below.refl _ _) _)).trans h2⟩
def txt8 (s : BA) : List Int := eb_ [(s.size : Int)] ++ td_ s
theorem ac_ (s : BA) : (txt8 s).length = 8 + s.size := by
 unfold txt8
 rw [List.length_append, sa_, ig_]
 rfl
theorem bj_ (w0 : World) (g : Nat) (bs : List Int) (s : BA) (W : World) (h : WrAt w0 g bs W) (hlen : bs.length + (8 + s.size) ≤ 1000000000000) :
  Calls Tryz.prog 75 #[.pointer (some ⟨g, 0, none⟩), .string s] W fun e W' => e = .returned (.tuple #[]) ∧ WrAt w0 g (bs ++ txt8 s) W' ∧ Kept8 g W W' := by
 have hnum := sc_ w0 g bs [(s.size : Int)] W h Tt_ Wo_
 have HN := aM_ hnum
 clear hnum h
 go_enter Tryz.func75, Tryz.ntmps75
 go_wp2_with fail
 refine HN.out.mono ?_
 rintro e w1 ⟨rfl, hW, hK⟩
 have HK := aM_ hK
 have HE : Az (bs ++ txt8 s = bs ++ eb_ [(s.size : Int)] ++ td_ s) := ⟨by unfold txt8; rw [List.append_assoc]⟩
 have hl : (bs ++ eb_ [(s.size : Int)]).length = bs.length + 8 := by rw [List.length_append, sa_]; rfl
 generalize bs ++ eb_ [(s.size : Int)] = D at *
 obtain ⟨A, c, hblk, hrow⟩ := hW.row
 have HGE := aM_ hW.ge
 have r0 : w1.cell? ⟨g, 0, none⟩ = some (.slice A D.length c) := ba_ hblk 0
 have HRW := aM_ hrow
 have HBW := aM_ hW.below
 have HBK := aM_ hblk
 have hbl : D.length + s.size ≤ 140737488355328 := by omega
 clear hW hK hblk hrow HN hl
 go_wp2_with (at_builtin; go_loud (refine jk_ (w0 := w0) w0.heap.size rfl (.tmp 13) (.tmp 14) 28 9 5 rfl Tryz.underlying28 Tryz.underlying9 io_ (.slice A D.length c) D s rfl rfl (Kd.own_of_R HRW.out) HBW.out HBW.out.size hbl ?_); intro v2 w2 ho2 hb2 hg2; have hR2 : Kd.R (Kd.int .u8) 5 w2 w0.heap.size (fun k => True) v2 (D ++ td_ s) := Kd.R_of_own (enc := Value.int .u8) (h1 := fun _ => rfl) ho2 (fun _ _ => trivial); have hbk2 := fb_ HBK.out hg2 (fun e => HRW.out.1 _ e.symm rfl); have hR3 := Kd.R_mono (Kd.R_types hR2 hbk2 Tm_) (fun k hk => hk.2); obtain ⟨A', c', hv2⟩ := Kd.R_slice hR3; subst hv2; generalize hD2 : D ++ td_ s = D2 at *; clear hD2; have HR2 := aM_ hR3; have HB2 := aM_ hb2; have HBK2 := aM_ hbk2; have HK2 := aM_ (HK.out.trans (Kept8.grown HRW.out hg2)); have hc2 := ba_ hbk2 0; have hf2 := ha_ hbk2 0; clear ho2 hb2 hg2 hR2 hR3 hbk2)
 have HW6 : Az (WrAt w0 g (bs ++ txt8 s) (w2.setCell ⟨g, 0, none⟩ (.slice A' D2.length c'))) := ⟨by
  rw [HE.out]
  exact ⟨⟨A', c', by simpa using qa_ HBK2.out 0 (.slice A' D2.length c'), Kd.R_far HR2.out (p := ⟨g, 0, none⟩) (fun k hk => hk) _⟩, HB2.out.setCell (p := ⟨g, 0, none⟩) HGE.out _, HGE.out⟩⟩
 have HK6 : Az (Kept8 g W (w2.setCell ⟨g, 0, none⟩ (.slice A' D2.length c'))) := ⟨HK2.out.trans (Kept8.set w2 0 _)⟩
 generalize w2.setCell ⟨g, 0, none⟩ (.slice A' D2.length c') = W7 at *
 go_wp2
 go_end0
 exact ⟨rfl, HW6.out, HK6.out⟩
theorem shift5 : ∀ j : Fin 8, IntKind.u64.wrap (wrap64 (56 - (wrap64 (8 * ((j : Nat) : Int))))) = 56 - 8 * ((j : Nat) : Int) := by decide +kernel
theorem byte5 (n : Int) (j : Nat) (hj : j < 8) : (shr .i64 n (56 - 8 * (j : Int))) % 256 = sf_ n (56 - 8 * (j : Int)) := by
 unfold shr sf_
 rw [IntKind.wrap_u8', Nat.min_eq_left (by show _ ≤ 64; omega)]
theorem num5_l0 (n : Int) : ∀ (m j : Nat) (x : List Int), j + m = 8 → x.length + m ≤ 1000000000000 → r5_num.l0 (m + 1) x n (j : Int) = some (x ++ (num8 n).drop j) := by
 intro m
 induction m with
 | zero =>
  intro j x hj hx
  rw [r5_num.l0, if_neg Td_, List.drop_eq_nil_of_le (by rw [ob_]; omega), List.append_nil]
 | succ m ih =>
  intro j x hj hx; have hs := shift5 ⟨j, Td_⟩; simp only at hs; rw [r5_num.l0, if_pos Td_, hs, if_pos Td_, if_pos Td_, byte5 n j Td_, show wrap64 ((j : Int) + 1) = ((j + 1 : Nat) : Int) from by rw [wrap64]; omega, ih (j + 1) _ Td_ (by rw [List.length_append]; simp; omega)]
  have hd : (num8 n).drop j = sf_ n (56 - 8 * (j : Int)) :: (num8 n).drop (j + 1) := by
   rw [List.drop_eq_getElem_cons (by rw [ob_]; omega)]
   congr 1
   simp [num8]
  rw [hd, List.append_assoc]; rfl
theorem ks_ (l : List Int) (n : Int) (hl : l.length + 8 ≤ 1000000000000) : r5_num.f 9 l n = some (l ++ num8 n) := num5_l0 n 8 0 l rfl hl
def Row5 (w0 : World) (v : Value) (bs : List Int) (W : World) : Prop := Kd.R (Kd.int .u8) 5 W w0.heap.size (fun _ => True) v bs ∧ Below w0.heap.size w0 W
def KeptT (W W' : World) : Prop := ∀ (g t : Nat) (cs : Array Value), 5 ≠ t → W.heap[g]? = some (.cells cs t (0, 0)) → W'.heap[g]? = some (.cells cs t (0, 0))
theorem KeptT.trans {W W1 W2 : World} (h1 : KeptT W W1) (h2 : KeptT W1 W2) : KeptT W W2 := fun g t cs ht h => h2 g t cs ht (h1 g t cs ht h)
theorem KeptT.below {W W1 : World} (hb : Below W.heap.size W W1) : KeptT W W1 := fun _ _ _ _ h => la_ h hb
theorem je_ (w0 : World) (v : Value) (bs : List Int) (n : Int) (W : World) (h : Row5 w0 v bs W) (hl : bs.length + 8 ≤ 1000000000000) :
  Calls Tryz.prog 49 #[v, .int .i64 n] W fun e W' => ∃ v', e = .returned v' ∧ Row5 w0 v' (bs ++ num8 n) W' ∧ KeptT W W' := by
 have h1 : Kd.R (Kd.int .u8) 5 W w0.heap.size (fun k => v.ownBlock = some k) v bs := ⟨fun k hk => hk, h.1.2.imp_ (fun _ _ hm => hm)⟩
 refine (r5_num.calls 9 _ v bs n _ w0 W h.2 h1 (ks_ bs n hl)).mono ?_
 rintro e W' ⟨v', rfl, hr, hb, hk⟩
 refine ⟨v', rfl, ⟨Kd.R_mono hr (fun _ _ => trivial), hb⟩, fun g t cs ht hg => ?_⟩
 exact (hk.2 g (bb_ hg) (fun he => Kd.R_ne h.1 hg ht he.symm)).trans hg
theorem uo_ (w0 : World) (v : Value) (bs : List Int) (s : BA) (W : World) (h : Row5 w0 v bs W) (hl : bs.length + (txt8 s).length ≤ 1000000000000) :
  Calls Tryz.prog 103 #[v, .string s] W fun e W' => ∃ v', e = .returned v' ∧ Row5 w0 v' (bs ++ txt8 s) W' ∧ KeptT W W' := by
 rw [ac_] at hl
 have HN := aM_ (je_ w0 v bs s.size W h Td_)
 have HL := aM_ hl
 have hkb := fun W => kq_ (P := Tryz.prog) 9 28 5 Tryz.underlying9 Tryz.underlying28 Tryz.underlying5 s W
 clear h hl
 go_enter Tryz.func103, Tryz.ntmps103
 go_wp2_with fail
 refine HN.out.mono ?_
 rintro e W1 ⟨v1, rfl, hr, hk⟩
 have HR := aM_ hr
 have HK := aM_ hk
 clear hr hk HN
 have hbb : Az (Below W1.heap.size W1 (Lib.bytesWorld W1 5 s)) := ⟨or_ (Below.refl _ _) (Nat.le_refl _) 5 s⟩
 have HC : Az (Kd.C (Kd.int .u8) (Lib.bytesWorld W1 5 s) (some ⟨W1.heap.size, 0, none⟩) s.size (td_ s)) := ⟨Kd.C_of_reads (h1 := fun _ => rfl) (nr_ W1 5 s (by have := HL.out; omega))⟩
 have hkb1 := hkb W1
 clear hkb
 have hE : Az (bs ++ txt8 s = (bs ++ num8 s.size) ++ td_ s) := ⟨by unfold txt8 eb_; simp⟩
 have HLL : Az ((bs ++ num8 (s.size : Int)).length + s.size ≤ 1000000000000) := ⟨by rw [List.length_append, ob_]; have := HL.out; omega⟩
 generalize bs ++ num8 (s.size : Int) = cs at *
 generalize grownCap W1 s.size 0 5 = cap at *
 generalize Lib.bytesWorld W1 5 s = W2 at *
 go_wp2_with (at_builtin; go_loud (refine Kd.R_append_row (Value.int .u8) 0 (h1 := fun _ => rfl) (w0 := w0) w0.heap.size rfl (.tmp 8) (.tmp 10) 28 5 (.int .u8 0) 1 rfl Tryz.underlying28 io_ rfl Tm_ v1 cs (td_ s) (some ⟨W1.heap.size, 0, none⟩) s.size cap (fun _ => True) rfl rfl (fun _ _ => trivial) (Kd.R_below HR.out.1 hbb.out) HC.out (da_ HR.out.2 hbb.out) (da_ HR.out.2 hbb.out).size (by have := HLL.out; omega) ?_); intro v3 W3 ho hb hg hat)
 have HO : Az (Row5 w0 v3 (cs ++ td_ s) W3) := ⟨⟨ho, hb⟩⟩
 have HK3 : Az (KeptT W W3) := ⟨fun g t c0 ht hgg => fb_ (la_ (HK.out g t c0 ht hgg) hbb.out) hg (Kd.R_ne (Kd.R_below HR.out.1 hbb.out) (la_ (HK.out g t c0 ht hgg) hbb.out) ht)⟩
 clear ho hb hg hat
 go_wp2
 go_ret
 rw [hE.out]
 exact ⟨_, rfl, HO.out, HK3.out⟩
def vc_ (l : List Int) : List Int := eb_ [(l.length : Int)] ++ eb_ l
def ent8 (e : S46) : List Int := txt8 e.f0 ++ eb_ [e.f1, e.f2]
def fc_ (r : S56) : List Int := eb_ [r.f0] ++ vc_ r.f1 ++ eb_ [r.f2.f0] ++ vc_ r.f2.f1 ++ eb_ [r.f3]
def lc_ (p : S48) : List Int := eb_ [p.f0] ++ txt8 p.f1 ++ eb_ [p.f2, p.f3, p.f4]
theorem xb_ (l : List Int) : (vc_ l).length = 8 + 8 * l.length := by
 unfold vc_
 rw [List.length_append, sa_, sa_]
 rfl
theorem numC (w0 : World) (A1 : Option Addr) (l : List Int) (g : Nat) (W : World) (h : Kd.C (Kd.int .i64) w0 A1 l.length l) : ∀ W', Kept8 g W W' → Below w0.heap.size w0 W' → Kd.C (Kd.int .i64) W' A1 l.length l := fun _ _ hb => Kd.C_below h hb
theorem wi_ (w0 : World) (g : Nat) (bs : List Int) (A1 : Option Addr) (c1 : Nat) (l : List Int) (W : World) (h : WrAt w0 g bs W) (hr1 : Kd.C (Kd.int .i64) w0 A1 l.length l) (hc1 : l.length ≤ c1) (hlen : bs.length + (vc_ l).length ≤ 1000000000000) :
  Calls Tryz.prog 123 #[.pointer (some ⟨g, 0, none⟩), .slice A1 l.length c1] W fun e W' => e = .returned (.tuple #[]) ∧ WrAt w0 g (bs ++ vc_ l) W' ∧ Kept8 g W W' := by
 have hl0 : (vc_ l).length = 8 + 8 * l.length := by exact xb_ l
 rw [hl0] at hlen
 obtain ⟨D0, hD0⟩ : ∃ D, D = bs := ⟨_, rfl⟩
 have HE : Az (bs ++ vc_ l = D0 ++ eb_ [(l.length : Int)] ++ eb_ l) := ⟨by rw [hD0]; unfold vc_; simp only [List.append_assoc]⟩
 have hd0 : D0.length = bs.length := by rw [hD0]
 rw [← hD0] at h
 have HW0 := aM_ h
 have HK0 := aM_ (Kept8.refl g W)
 have HLN := aM_ hlen
 have HD0 := aM_ hd0
 clear h hl0 hD0 hlen hd0
 go_enter Tryz.func123, Tryz.ntmps123
 go_wp2_with fail
 have hnum := sc_ w0 g D0 [(l.length : Int)] W HW0.out Tt_ Ud_
 refine hnum.mono ?_
 clear hnum
 rintro e w1 ⟨rfl, hW, hK⟩
 have HD1 : Az ((D0 ++ eb_ [(l.length : Int)]).length = bs.length + 8 * 1) := ⟨Uk_⟩
 generalize D0 ++ eb_ [(l.length : Int)] = D1 at *
 have HW1 := aM_ hW
 have HK1 := aM_ (HK0.out.trans hK)
 clear hW hK HW0 HK0
 go_wp2_with fail
 refine (tj_ w0 g D1 A1 c1 l w1 HW1.out (numC w0 _ _ g _ hr1) hc1 Uj_).mono ?_
 rintro e w2 ⟨rfl, hW, hK⟩
 have HD2 : Az ((D1 ++ eb_ l).length = bs.length + 8 * 1 + 8 * l.length) := ⟨Ul_⟩
 generalize D1 ++ eb_ l = D2 at *
 have HW2 := aM_ hW
 have HK2 := aM_ (HK1.out.trans hK)
 clear hW hK HW1 HK1
 go_wp2
 go_end0
 exact ⟨rfl, by rw [HE.out]; exact HW2.out, HK2.out⟩
theorem gr_ (w0 : World) (g : Nat) (bs : List Int) (x : S46) (W : World) (h : WrAt w0 g bs W)  (hlen : bs.length + (ent8 x).length ≤ 1000000000000) :
  Calls Tryz.prog 77 #[.pointer (some ⟨g, 0, none⟩), .agg #[.string x.f0, .int .i64 x.f1, .int .i64 x.f2]] W fun e W' => e = .returned (.tuple #[]) ∧ WrAt w0 g (bs ++ ent8 x) W' ∧ Kept8 g W W' := by
 have hl0 : (ent8 x).length = 8 + x.f0.size + 16 := by unfold ent8; rw [List.length_append, ac_, sa_]; rfl
 rw [hl0] at hlen
 obtain ⟨D0, hD0⟩ : ∃ D, D = bs := ⟨_, rfl⟩
 have HE : Az (bs ++ ent8 x = D0 ++ txt8 x.f0 ++ eb_ [x.f1, x.f2]) := ⟨by rw [hD0]; unfold ent8; simp only [List.append_assoc]⟩
 have hd0 : D0.length = bs.length := by rw [hD0]
 rw [← hD0] at h
 have HB0 : Az ((W.alloc (.cells #[.string x.f0, .int .i64 x.f1, .int .i64 x.f2] 46)).heap[W.heap.size]? = some (.cells #[.string x.f0, .int .i64 x.f1, .int .i64 x.f2] 46 (0, 0))) := ⟨oa_ W _⟩
 have HW0 : Az (WrAt w0 g D0 (W.alloc (.cells #[.string x.f0, .int .i64 x.f1, .int .i64 x.f2] 46))) := ⟨h.grow (aa_ (Below.refl _ _) _)⟩
 have HK0 : Az (Kept8 g W (W.alloc (.cells #[.string x.f0, .int .i64 x.f1, .int .i64 x.f2] 46))) := ⟨Kept8.below (aa_ (Below.refl _ _) _)⟩
 have hgb : W.heap.size ≠ g := by obtain ⟨_, _, hb, _⟩ := h.row; have := bb_ hb; omega
 have HGB := aM_ hgb
 clear hgb
 have HLN := aM_ hlen
 have HD0 := aM_ hd0
 clear h hl0 hD0 hlen hd0
 go_enter Tryz.func77, Tryz.ntmps77
 go_wp2_with fail
 refine (bj_ w0 g D0 x.f0 (W.alloc (.cells #[.string x.f0, .int .i64 x.f1, .int .i64 x.f2] 46)) HW0.out Ud_).mono ?_
 rintro e w1 ⟨rfl, hW, hK⟩
 have HD1 : Az ((D0 ++ txt8 x.f0).length = bs.length + (8 + x.f0.size)) := ⟨Uk_⟩
 generalize D0 ++ txt8 x.f0 = D1 at *
 have HW1 := aM_ hW
 have HK1 := aM_ (HK0.out.trans hK)
 have HB1 := aM_ (hK _ _ HB0.out HGB.out (fun cs z e => by injection e with _ e; exact absurd e Tm_))
 clear hW hK HW0 HK0 HB0
 have hc1_0 := ba_ HB1.out 0
 have hc1_1 := ba_ HB1.out 1
 have hc1_2 := ba_ HB1.out 2
 go_wp2_with fail
 have hnum := sc_ w0 g D1 [x.f1, x.f2] w1 HW1.out Tt_ Uj_
 refine hnum.mono ?_
 clear hnum
 rintro e w2 ⟨rfl, hW, hK⟩
 have HD2 : Az ((D1 ++ eb_ [x.f1, x.f2]).length = bs.length + (8 + x.f0.size) + 8 * 2) := ⟨Ul_⟩
 generalize D1 ++ eb_ [x.f1, x.f2] = D2 at *
 have HW2 := aM_ hW
 have HK2 := aM_ (HK1.out.trans hK)
 have HB2 := aM_ (hK _ _ HB1.out HGB.out (fun cs z e => by injection e with _ e; exact absurd e Tm_))
 clear hW hK HW1 HK1 HB1
 clear hc1_0 hc1_1 hc1_2
 go_wp2
 go_end0
 exact ⟨rfl, by rw [HE.out]; exact HW2.out, HK2.out⟩
theorem cq_ (w0 : World) (g : Nat) (bs : List Int) (x : S56) (A1 : Option Addr) (c1 : Nat) (A3 : Option Addr) (c3 : Nat) (W : World) (h : WrAt w0 g bs W) (hr1 : Kd.C (Kd.int .i64) w0 A1 x.f1.length x.f1) (hc1 : x.f1.length ≤ c1) (hr3 : Kd.C (Kd.int .i64) w0 A3 x.f2.f1.length x.f2.f1) (hc3 : x.f2.f1.length ≤ c3) (hlen : bs.length + (fc_ x).length ≤ 1000000000000) :
  Calls Tryz.prog 79 #[.pointer (some ⟨g, 0, none⟩), .agg #[.int .i64 x.f0, .slice A1 x.f1.length c1, .int .i64 x.f2.f0, .slice A3 x.f2.f1.length c3, .int .i64 x.f3]] W fun e W' => e = .returned (.tuple #[]) ∧ WrAt w0 g (bs ++ fc_ x) W' ∧ Kept8 g W W' := by
 have hl0 : (fc_ x).length = 8 + (8 + 8 * x.f1.length) + 8 + (8 + 8 * x.f2.f1.length) + 8 := by unfold fc_; simp only [List.length_append, xb_, sa_, List.length_cons, List.length_nil]
 rw [hl0] at hlen
 obtain ⟨D0, hD0⟩ : ∃ D, D = bs := ⟨_, rfl⟩
 have HE : Az (bs ++ fc_ x = D0 ++ eb_ [x.f0] ++ vc_ x.f1 ++ eb_ [x.f2.f0] ++ vc_ x.f2.f1 ++ eb_ [x.f3]) := ⟨by rw [hD0]; unfold fc_; simp only [List.append_assoc]⟩
 have hd0 : D0.length = bs.length := by rw [hD0]
 rw [← hD0] at h
 have HB0 : Az ((W.alloc (.cells #[.int .i64 x.f0, .slice A1 x.f1.length c1, .int .i64 x.f2.f0, .slice A3 x.f2.f1.length c3, .int .i64 x.f3] 56)).heap[W.heap.size]? = some (.cells #[.int .i64 x.f0, .slice A1 x.f1.length c1, .int .i64 x.f2.f0, .slice A3 x.f2.f1.length c3, .int .i64 x.f3] 56 (0, 0))) := ⟨oa_ W _⟩
 have HW0 : Az (WrAt w0 g D0 (W.alloc (.cells #[.int .i64 x.f0, .slice A1 x.f1.length c1, .int .i64 x.f2.f0, .slice A3 x.f2.f1.length c3, .int .i64 x.f3] 56))) := ⟨h.grow (aa_ (Below.refl _ _) _)⟩
 have HK0 : Az (Kept8 g W (W.alloc (.cells #[.int .i64 x.f0, .slice A1 x.f1.length c1, .int .i64 x.f2.f0, .slice A3 x.f2.f1.length c3, .int .i64 x.f3] 56))) := ⟨Kept8.below (aa_ (Below.refl _ _) _)⟩
 have hgb : W.heap.size ≠ g := by obtain ⟨_, _, hb, _⟩ := h.row; have := bb_ hb; omega
 have HGB := aM_ hgb
 clear hgb
 have HLN := aM_ hlen
 have HD0 := aM_ hd0
 clear h hl0 hD0 hlen hd0
 go_enter Tryz.func79, Tryz.ntmps79
 go_wp2_with fail
 have hnum := sc_ w0 g D0 [x.f0] (W.alloc (.cells #[.int .i64 x.f0, .slice A1 x.f1.length c1, .int .i64 x.f2.f0, .slice A3 x.f2.f1.length c3, .int .i64 x.f3] 56)) HW0.out Tt_ Ud_
 rw [show (W.alloc (.cells #[.int .i64 x.f0, .slice A1 x.f1.length c1, .int .i64 x.f2.f0, .slice A3 x.f2.f1.length c3, .int .i64 x.f3] 56)).heap.size = W.heap.size + 1 by simp] at hnum
 refine hnum.mono ?_
 clear hnum
 rintro e w1 ⟨rfl, hW, hK⟩
 have HD1 : Az ((D0 ++ eb_ [x.f0]).length = bs.length + 8 * 1) := ⟨Uk_⟩
 generalize D0 ++ eb_ [x.f0] = D1 at *
 have HW1 := aM_ hW
 have HK1 := aM_ (HK0.out.trans hK)
 have HB1 := aM_ (hK _ _ HB0.out HGB.out (fun cs z e => by injection e with _ e; exact absurd e Tm_))
 clear hW hK HW0 HK0 HB0
 have hc1_0 := ba_ HB1.out 0
 have hc1_1 := ba_ HB1.out 1
 have hc1_2 := ba_ HB1.out 2
 have hc1_3 := ba_ HB1.out 3
 have hc1_4 := ba_ HB1.out 4
 go_wp2_with fail
 refine (wi_ w0 g D1 A1 c1 x.f1 w1 HW1.out hr1 hc1 (by rw [xb_]; rw [HD1.out]; have := HLN.out; first | omega | (simp only [List.length_cons, List.length_nil, Nat.zero_add, Nat.reduceAdd]; omega))).mono ?_
 rintro e w2 ⟨rfl, hW, hK⟩
 have HD2 : Az ((D1 ++ vc_ x.f1).length = bs.length + 8 * 1 + (8 + 8 * x.f1.length)) := ⟨Ul_⟩
 generalize D1 ++ vc_ x.f1 = D2 at *
 have HW2 := aM_ hW
 have HK2 := aM_ (HK1.out.trans hK)
 have HB2 := aM_ (hK _ _ HB1.out HGB.out (fun cs z e => by injection e with _ e; exact absurd e Tm_))
 clear hW hK HW1 HK1 HB1
 clear hc1_0 hc1_1 hc1_2 hc1_3 hc1_4
 have hc2_0 := ba_ HB2.out 0
 have hc2_1 := ba_ HB2.out 1
 have hc2_2 := ba_ HB2.out 2
 have hc2_3 := ba_ HB2.out 3
 have hc2_4 := ba_ HB2.out 4
 go_wp2_with fail
 have hnum := sc_ w0 g D2 [x.f2.f0] w2 HW2.out Tt_ Vg_
 refine hnum.mono ?_
 clear hnum
 rintro e w3 ⟨rfl, hW, hK⟩
 have HD3 : Az ((D2 ++ eb_ [x.f2.f0]).length = bs.length + 8 * 1 + (8 + 8 * x.f1.length) + 8 * 1) := ⟨Vm_⟩
 generalize D2 ++ eb_ [x.f2.f0] = D3 at *
 have HW3 := aM_ hW
 have HK3 := aM_ (HK2.out.trans hK)
 have HB3 := aM_ (hK _ _ HB2.out HGB.out (fun cs z e => by injection e with _ e; exact absurd e Tm_))
 clear hW hK HW2 HK2 HB2
 clear hc2_0 hc2_1 hc2_2 hc2_3 hc2_4
 have hc3_0 := ba_ HB3.out 0
 have hc3_1 := ba_ HB3.out 1
 have hc3_2 := ba_ HB3.out 2
 have hc3_3 := ba_ HB3.out 3
 have hc3_4 := ba_ HB3.out 4
 go_wp2_with fail
 refine (wi_ w0 g D3 A3 c3 x.f2.f1 w3 HW3.out hr3 hc3 (by rw [xb_]; rw [HD3.out]; have := HLN.out; first | omega | (simp only [List.length_cons, List.length_nil, Nat.zero_add, Nat.reduceAdd]; omega))).mono ?_
 rintro e w4 ⟨rfl, hW, hK⟩
 have HD4 : Az ((D3 ++ vc_ x.f2.f1).length = bs.length + 8 * 1 + (8 + 8 * x.f1.length) + 8 * 1 + (8 + 8 * x.f2.f1.length)) := ⟨by first | (rw [List.length_append, HD3.out]; simp [sa_, ac_, xb_]; done) | rw [List.length_append, HD3.out]⟩
 generalize D3 ++ vc_ x.f2.f1 = D4 at *
 have HW4 := aM_ hW
 have HK4 := aM_ (HK3.out.trans hK)
 have HB4 := aM_ (hK _ _ HB3.out HGB.out (fun cs z e => by injection e with _ e; exact absurd e Tm_))
 clear hW hK HW3 HK3 HB3
 clear hc3_0 hc3_1 hc3_2 hc3_3 hc3_4
 have hc4_0 := ba_ HB4.out 0
 have hc4_1 := ba_ HB4.out 1
 have hc4_2 := ba_ HB4.out 2
 have hc4_3 := ba_ HB4.out 3
 have hc4_4 := ba_ HB4.out 4
 go_wp2_with fail
 have hnum := sc_ w0 g D4 [x.f3] w4 HW4.out Tt_ (by rw [HD4.out]; have := HLN.out; first | omega | (simp only [List.length_cons, List.length_nil, Nat.zero_add, Nat.reduceAdd]; omega))
 refine hnum.mono ?_
 clear hnum
 rintro e w5 ⟨rfl, hW, hK⟩
 have HD5 : Az ((D4 ++ eb_ [x.f3]).length = bs.length + 8 * 1 + (8 + 8 * x.f1.length) + 8 * 1 + (8 + 8 * x.f2.f1.length) + 8 * 1) := ⟨by first | (rw [List.length_append, HD4.out]; simp [sa_, ac_, xb_]; done) | rw [List.length_append, HD4.out]⟩
 generalize D4 ++ eb_ [x.f3] = D5 at *
 have HW5 := aM_ hW
 have HK5 := aM_ (HK4.out.trans hK)
 have HB5 := aM_ (hK _ _ HB4.out HGB.out (fun cs z e => by injection e with _ e; exact absurd e Tm_))
 clear hW hK HW4 HK4 HB4
 clear hc4_0 hc4_1 hc4_2 hc4_3 hc4_4
 go_wp2
 go_end0
 exact ⟨rfl, by rw [HE.out]; exact HW5.out, HK5.out⟩
theorem bs_ (w0 : World) (g : Nat) (bs : List Int) (x : S48) (W : World) (h : WrAt w0 g bs W)  (hlen : bs.length + (lc_ x).length ≤ 1000000000000) :
  Calls Tryz.prog 125 #[.pointer (some ⟨g, 0, none⟩), .agg #[.int .i64 x.f0, .string x.f1, .int .i64 x.f2, .int .i64 x.f3, .int .i64 x.f4]] W fun e W' => e = .returned (.tuple #[]) ∧ WrAt w0 g (bs ++ lc_ x) W' ∧ Kept8 g W W' := by
 have hl0 : (lc_ x).length = 8 + (8 + x.f1.size) + 24 := by unfold lc_; simp only [List.length_append, ac_, sa_, List.length_cons, List.length_nil]
 rw [hl0] at hlen
 obtain ⟨D0, hD0⟩ : ∃ D, D = bs := ⟨_, rfl⟩
 have HE : Az (bs ++ lc_ x = D0 ++ eb_ [x.f0] ++ txt8 x.f1 ++ eb_ [x.f2, x.f3, x.f4]) := ⟨by rw [hD0]; unfold lc_; simp only [List.append_assoc]⟩
 have hd0 : D0.length = bs.length := by rw [hD0]
 rw [← hD0] at h
 have HB0 : Az ((W.alloc (.cells #[.int .i64 x.f0, .string x.f1, .int .i64 x.f2, .int .i64 x.f3, .int .i64 x.f4] 48)).heap[W.heap.size]? = some (.cells #[.int .i64 x.f0, .string x.f1, .int .i64 x.f2, .int .i64 x.f3, .int .i64 x.f4] 48 (0, 0))) := ⟨oa_ W _⟩
 have HW0 : Az (WrAt w0 g D0 (W.alloc (.cells #[.int .i64 x.f0, .string x.f1, .int .i64 x.f2, .int .i64 x.f3, .int .i64 x.f4] 48))) := ⟨h.grow (aa_ (Below.refl _ _) _)⟩
 have HK0 : Az (Kept8 g W (W.alloc (.cells #[.int .i64 x.f0, .string x.f1, .int .i64 x.f2, .int .i64 x.f3, .int .i64 x.f4] 48))) := ⟨Kept8.below (aa_ (Below.refl _ _) _)⟩
 have hgb : W.heap.size ≠ g := by obtain ⟨_, _, hb, _⟩ := h.row; have := bb_ hb; omega
 have HGB := aM_ hgb
 clear hgb
 have HLN := aM_ hlen
 have HD0 := aM_ hd0
 clear h hl0 hD0 hlen hd0
 go_enter Tryz.func125, Tryz.ntmps125
 go_wp2_with fail
 have hnum := sc_ w0 g D0 [x.f0] (W.alloc (.cells #[.int .i64 x.f0, .string x.f1, .int .i64 x.f2, .int .i64 x.f3, .int .i64 x.f4] 48)) HW0.out Tt_ Ud_
 rw [show (W.alloc (.cells #[.int .i64 x.f0, .string x.f1, .int .i64 x.f2, .int .i64 x.f3, .int .i64 x.f4] 48)).heap.size = W.heap.size + 1 by simp] at hnum
 refine hnum.mono ?_
 clear hnum
 rintro e w1 ⟨rfl, hW, hK⟩
 have HD1 : Az ((D0 ++ eb_ [x.f0]).length = bs.length + 8 * 1) := ⟨Uk_⟩
 generalize D0 ++ eb_ [x.f0] = D1 at *
 have HW1 := aM_ hW
 have HK1 := aM_ (HK0.out.trans hK)
 have HB1 := aM_ (hK _ _ HB0.out HGB.out (fun cs z e => by injection e with _ e; exact absurd e Tm_))
 clear hW hK HW0 HK0 HB0
 have hc1_0 := ba_ HB1.out 0
 have hc1_1 := ba_ HB1.out 1
 have hc1_2 := ba_ HB1.out 2
 have hc1_3 := ba_ HB1.out 3
 have hc1_4 := ba_ HB1.out 4
 go_wp2_with fail
 refine (bj_ w0 g D1 x.f1 w1 HW1.out Uj_).mono ?_
 rintro e w2 ⟨rfl, hW, hK⟩
 have HD2 : Az ((D1 ++ txt8 x.f1).length = bs.length + 8 * 1 + (8 + x.f1.size)) := ⟨Ul_⟩
 generalize D1 ++ txt8 x.f1 = D2 at *
 have HW2 := aM_ hW
 have HK2 := aM_ (HK1.out.trans hK)
 have HB2 := aM_ (hK _ _ HB1.out HGB.out (fun cs z e => by injection e with _ e; exact absurd e Tm_))
 clear hW hK HW1 HK1 HB1
 clear hc1_0 hc1_1 hc1_2 hc1_3 hc1_4
 have hc2_0 := ba_ HB2.out 0
 have hc2_1 := ba_ HB2.out 1
 have hc2_2 := ba_ HB2.out 2
 have hc2_3 := ba_ HB2.out 3
 have hc2_4 := ba_ HB2.out 4
 go_wp2_with fail
 have hnum := sc_ w0 g D2 [x.f2, x.f3, x.f4] w2 HW2.out Tt_ Vg_
 refine hnum.mono ?_
 clear hnum
 rintro e w3 ⟨rfl, hW, hK⟩
 have HD3 : Az ((D2 ++ eb_ [x.f2, x.f3, x.f4]).length = bs.length + 8 * 1 + (8 + x.f1.size) + 8 * 3) := ⟨Vm_⟩
 generalize D2 ++ eb_ [x.f2, x.f3, x.f4] = D3 at *
 have HW3 := aM_ hW
 have HK3 := aM_ (HK2.out.trans hK)
 have HB3 := aM_ (hK _ _ HB2.out HGB.out (fun cs z e => by injection e with _ e; exact absurd e Tm_))
 clear hW hK HW2 HK2 HB2
 clear hc2_0 hc2_1 hc2_2 hc2_3 hc2_4
 go_wp2
 go_end0
 exact ⟨rfl, by rw [HE.out]; exact HW3.out, HK3.out⟩
def pb_ {α : Type} (f : α → List Int) (l : List α) : List Int := eb_ [(l.length : Int)] ++ l.flatMap f
theorem ld_ {α : Type} (f : α → List Int) (l : List α) (i : Nat) (hi : i < l.length) : (l.take (i + 1)).flatMap f = (l.take i).flatMap f ++ f l[i] := by
 rw [List.take_succ_eq_append_getElem hi, List.flatMap_append]
 simp
theorem ye_ {α : Type} (f : α → List Int) (l : List α) (i : Nat) (hi : i < l.length) : ((l.take i).flatMap f).length + (f l[i]).length ≤ (l.flatMap f).length := by
 have h1 := ld_ f l i hi
 have h2 : l.flatMap f = (l.take (i + 1)).flatMap f ++ (l.drop (i + 1)).flatMap f := by rw [← List.flatMap_append, List.take_append_drop]
 rw [h2, h1, List.length_append, List.length_append]
 omega
theorem ss_ (w0 : World) (g : Nat) (bs : List Int) (A : Option Addr) (c : Nat) (l : List S46) (W : World) (h : WrAt w0 g bs W) (hr : Kd.C k46 w0 A l.length l) (hc : l.length ≤ c) (hlen : bs.length + (pb_ ent8 l).length ≤ 1000000000000) :
  Calls Tryz.prog 76 #[.pointer (some ⟨g, 0, none⟩), .slice A l.length c, .func (.func 77) #[.pointer (some ⟨g, 0, none⟩)] #[]] W fun e W' => e = .returned (.tuple #[]) ∧ WrAt w0 g (bs ++ pb_ ent8 l) W' ∧ Kept8 g W W' := by
 have hl0 : (pb_ ent8 l).length = 8 + (l.flatMap ent8).length := by unfold pb_; rw [List.length_append, sa_]; rfl
 rw [hl0] at hlen
 have hnum := sc_ w0 g bs [(l.length : Int)] W h Tt_ Wo_
 have HN := aM_ hnum
 have HLN := aM_ hlen
 have HR := aM_ hr
 have hbn : l.length ≤ 9223372036854775807 := hr.2.1
 have HE : Az (bs ++ pb_ ent8 l = bs ++ eb_ [(l.length : Int)] ++ (l.take l.length).flatMap ent8) := ⟨Vt_⟩
 clear hnum h hlen hl0 hr
 go_enter Tryz.func76, Tryz.ntmps76
 go_wp2_with fail
 refine HN.out.mono ?_
 rintro e w1 ⟨rfl, hW, hK⟩
 have HD : Az ((bs ++ eb_ [(l.length : Int)]).length = bs.length + 8) := ⟨Wu_⟩
 generalize bs ++ eb_ [(l.length : Int)] = D at *
 have HW0 : Az (WrAt w0 g (D ++ (l.take 0).flatMap ent8) w1) := ⟨Vd_⟩
 have HK0 := aM_ hK
 clear hW hK HN
 go_wp2
 go_loopg [15] l.length (fun gg s15 wr => ∃ i : Nat, i ≤ l.length ∧ l.length - i ≤ gg ∧ s15 = .int .i64 i ∧ Az (WrAt w0 g (D ++ (l.take i).flatMap ent8) wr) ∧ Az (Kept8 g W wr))
 case atStart => exact ⟨0, Td_, Td_, rfl, HW0, HK0⟩
 clear HW0 HK0
 obtain ⟨i, hi, hgg, rfl, HW, HK⟩ := hrel
 by_cases hil : i < l.length
 ·have hilz : (i : Int) < (l.length : Int) := by omega
  obtain ⟨ad, hA, h0, h1, h2⟩ := tp_ HR.out (i : Int) Td_ hilz; subst hA
  have hy : le_ l (i : Int) = l[i] := by
   show l.getD (i : Int).toNat _ = _; rw [Int.toNat_natCast, List.getD_eq_getElem?_getD, List.getElem?_eq_getElem hil]; rfl
  have hsn := ld_ ent8 l i hil; have hle := ye_ ent8 l i hil; rw [← hy] at hsn hle; generalize le_ l (i : Int) = y at *; rw [Int.toNat_natCast] at h0 h1 h2; replace h0 := fa_ HW.out.below h0; replace h1 := fa_ HW.out.below h1; replace h2 := fa_ HW.out.below h2; have HSN := aM_ hsn; have hlb : (D ++ (l.take i).flatMap ent8).length + (ent8 y).length ≤ 1000000000000 := by rw [List.length_append, HD.out]; have := HLN.out; omega
  have HLB := aM_ hlb; have HW1 := aM_ (HW.out.grow (aa_ (Below.refl _ _) (.cells #[.string y.f0, .int .i64 y.f1, .int .i64 y.f2] 46))); have HK1 := aM_ (HK.out.trans (Kept8.below (g := g) (aa_ (Below.refl wr.heap.size wr) (.cells #[.string y.f0, .int .i64 y.f1, .int .i64 y.f2] 46)))); obtain ⟨E, hE⟩ : ∃ E, E = D ++ (l.take i).flatMap ent8 := ⟨_, rfl⟩; rw [← hE] at HW1 HLB; have HEE := aM_ hE; clear hy hsn hle hlb HW HK hE
  go_wp2_with fail
  refine (gr_ w0 g E y _ HW1.out HLB.out).mono ?_; rintro e w2 ⟨rfl, hW, hK⟩; have HW2 : Az (WrAt w0 g (D ++ (l.take (i + 1)).flatMap ent8) w2) := ⟨Vy_⟩; have HK2 := aM_ (HK1.out.trans hK); clear hW hK HW1 HK1 h0 h1 h2
  go_wp2
  go_roundg (l.length - (i + 1))
  case measure => omega
  case rel => exact ⟨i + 1, Td_, Td_, Va_, HW2, HK2⟩
 have he : i = l.length := by omega
 have hilz : decide ((i : Int) < (l.length : Int)) = false := by simp; omega
 rw [he] at HW
 clear he
 go_wp2
 go_end0
 exact ⟨rfl, Xe_, HK.out⟩
theorem ps_ (w0 : World) (g : Nat) (bs : List Int) (A : Option Addr) (c : Nat) (l : List S56) (W : World) (h : WrAt w0 g bs W) (hr : Kd.C k56 w0 A l.length l) (hc : l.length ≤ c) (hlen : bs.length + (pb_ fc_ l).length ≤ 1000000000000) :
  Calls Tryz.prog 78 #[.pointer (some ⟨g, 0, none⟩), .slice A l.length c, .func (.func 79) #[.pointer (some ⟨g, 0, none⟩)] #[]] W fun e W' => e = .returned (.tuple #[]) ∧ WrAt w0 g (bs ++ pb_ fc_ l) W' ∧ Kept8 g W W' := by
 have hl0 : (pb_ fc_ l).length = 8 + (l.flatMap fc_).length := by unfold pb_; rw [List.length_append, sa_]; rfl
 rw [hl0] at hlen
 have hnum := sc_ w0 g bs [(l.length : Int)] W h Tt_ Wo_
 have HN := aM_ hnum
 have HLN := aM_ hlen
 have HR := aM_ hr
 have hbn : l.length ≤ 9223372036854775807 := hr.2.1
 have HE : Az (bs ++ pb_ fc_ l = bs ++ eb_ [(l.length : Int)] ++ (l.take l.length).flatMap fc_) := ⟨Vt_⟩
 clear hnum h hlen hl0 hr
 go_enter Tryz.func78, Tryz.ntmps78
 go_wp2_with fail
 refine HN.out.mono ?_
 rintro e w1 ⟨rfl, hW, hK⟩
 have HD : Az ((bs ++ eb_ [(l.length : Int)]).length = bs.length + 8) := ⟨Wu_⟩
 generalize bs ++ eb_ [(l.length : Int)] = D at *
 have HW0 : Az (WrAt w0 g (D ++ (l.take 0).flatMap fc_) w1) := ⟨Vd_⟩
 have HK0 := aM_ hK
 clear hW hK HN
 go_wp2
 go_loopg [15] l.length (fun gg s15 wr => ∃ i : Nat, i ≤ l.length ∧ l.length - i ≤ gg ∧ s15 = .int .i64 i ∧ Az (WrAt w0 g (D ++ (l.take i).flatMap fc_) wr) ∧ Az (Kept8 g W wr))
 case atStart => exact ⟨0, Td_, Td_, rfl, HW0, HK0⟩
 clear HW0 HK0
 obtain ⟨i, hi, hgg, rfl, HW, HK⟩ := hrel
 by_cases hil : i < l.length
 ·have hilz : (i : Int) < (l.length : Int) := by omega
  obtain ⟨ad, A1, c1, A3, c3, hA, h0, h1, h2, h3, h4, l1, g1, l3, g3⟩ := gj_ HR.out (i : Int) Td_ hilz; subst hA
  have hy : wb_ l (i : Int) = l[i] := by
   show l.getD (i : Int).toNat _ = _; rw [Int.toNat_natCast, List.getD_eq_getElem?_getD, List.getElem?_eq_getElem hil]; rfl
  have hsn := ld_ fc_ l i hil; have hle := ye_ fc_ l i hil; rw [← hy] at hsn hle; generalize wb_ l (i : Int) = y at *; rw [Int.toNat_natCast] at h0 h1 h2 h3 h4; replace h0 := fa_ HW.out.below h0; replace h1 := fa_ HW.out.below h1; replace h2 := fa_ HW.out.below h2; replace h3 := fa_ HW.out.below h3; replace h4 := fa_ HW.out.below h4; have HSN := aM_ hsn; have hlb : (D ++ (l.take i).flatMap fc_).length + (fc_ y).length ≤ 1000000000000 := by rw [List.length_append, HD.out]; have := HLN.out; omega
  have HLB := aM_ hlb; have HW1 := aM_ (HW.out.grow (aa_ (Below.refl _ _) (.cells #[.int .i64 y.f0, .slice A1 y.f1.length c1, .int .i64 y.f2.f0, .slice A3 y.f2.f1.length c3, .int .i64 y.f3] 56))); have HK1 := aM_ (HK.out.trans (Kept8.below (g := g) (aa_ (Below.refl wr.heap.size wr) (.cells #[.int .i64 y.f0, .slice A1 y.f1.length c1, .int .i64 y.f2.f0, .slice A3 y.f2.f1.length c3, .int .i64 y.f3] 56)))); obtain ⟨E, hE⟩ : ∃ E, E = D ++ (l.take i).flatMap fc_ := ⟨_, rfl⟩; rw [← hE] at HW1 HLB; have HEE := aM_ hE; clear hy hsn hle hlb HW HK hE
  go_wp2_with fail
  refine (cq_ w0 g E y A1 c1 A3 c3 _ HW1.out g1 l1 g3 l3 HLB.out).mono ?_; rintro e w2 ⟨rfl, hW, hK⟩; have HW2 : Az (WrAt w0 g (D ++ (l.take (i + 1)).flatMap fc_) w2) := ⟨Vy_⟩; have HK2 := aM_ (HK1.out.trans hK); clear hW hK HW1 HK1 h0 h1 h2 h3 h4
  go_wp2
  go_roundg (l.length - (i + 1))
  case measure => omega
  case rel => exact ⟨i + 1, Td_, Td_, Va_, HW2, HK2⟩
 have he : i = l.length := by omega
 have hilz : decide ((i : Int) < (l.length : Int)) = false := by simp; omega
 rw [he] at HW
 clear he
 go_wp2
 go_end0
 exact ⟨rfl, Xe_, HK.out⟩
theorem qs_ (w0 : World) (g : Nat) (bs : List Int) (A : Option Addr) (c : Nat) (l : List S48) (W : World) (h : WrAt w0 g bs W) (hr : Kd.C k48 w0 A l.length l) (hc : l.length ≤ c) (hlen : bs.length + (pb_ lc_ l).length ≤ 1000000000000) :
  Calls Tryz.prog 124 #[.pointer (some ⟨g, 0, none⟩), .slice A l.length c, .func (.func 125) #[.pointer (some ⟨g, 0, none⟩)] #[]] W fun e W' => e = .returned (.tuple #[]) ∧ WrAt w0 g (bs ++ pb_ lc_ l) W' ∧ Kept8 g W W' := by
 have hl0 : (pb_ lc_ l).length = 8 + (l.flatMap lc_).length := by unfold pb_; rw [List.length_append, sa_]; rfl
 rw [hl0] at hlen
 have hnum := sc_ w0 g bs [(l.length : Int)] W h Tt_ Wo_
 have HN := aM_ hnum
 have HLN := aM_ hlen
 have HR := aM_ hr
 have hbn : l.length ≤ 9223372036854775807 := hr.2.1
 have HE : Az (bs ++ pb_ lc_ l = bs ++ eb_ [(l.length : Int)] ++ (l.take l.length).flatMap lc_) := ⟨Vt_⟩
 clear hnum h hlen hl0 hr
 go_enter Tryz.func124, Tryz.ntmps124
 go_wp2_with fail
 refine HN.out.mono ?_
 rintro e w1 ⟨rfl, hW, hK⟩
 have HD : Az ((bs ++ eb_ [(l.length : Int)]).length = bs.length + 8) := ⟨Wu_⟩
 generalize bs ++ eb_ [(l.length : Int)] = D at *
 have HW0 : Az (WrAt w0 g (D ++ (l.take 0).flatMap lc_) w1) := ⟨Vd_⟩
 have HK0 := aM_ hK
 clear hW hK HN
 go_wp2
 go_loopg [15] l.length (fun gg s15 wr => ∃ i : Nat, i ≤ l.length ∧ l.length - i ≤ gg ∧ s15 = .int .i64 i ∧ Az (WrAt w0 g (D ++ (l.take i).flatMap lc_) wr) ∧ Az (Kept8 g W wr))
 case atStart => exact ⟨0, Td_, Td_, rfl, HW0, HK0⟩
 clear HW0 HK0
 obtain ⟨i, hi, hgg, rfl, HW, HK⟩ := hrel
 by_cases hil : i < l.length
 ·have hilz : (i : Int) < (l.length : Int) := by omega
  obtain ⟨ad, hA, h0, h1, h2, h3, h4⟩ := kt_ HR.out (i : Int) Td_ hilz; subst hA
  have hy : pd_ l (i : Int) = l[i] := by
   show l.getD (i : Int).toNat _ = _; rw [Int.toNat_natCast, List.getD_eq_getElem?_getD, List.getElem?_eq_getElem hil]; rfl
  have hsn := ld_ lc_ l i hil; have hle := ye_ lc_ l i hil; rw [← hy] at hsn hle; generalize pd_ l (i : Int) = y at *; rw [Int.toNat_natCast] at h0 h1 h2 h3 h4; replace h0 := fa_ HW.out.below h0; replace h1 := fa_ HW.out.below h1; replace h2 := fa_ HW.out.below h2; replace h3 := fa_ HW.out.below h3; replace h4 := fa_ HW.out.below h4; have HSN := aM_ hsn; have hlb : (D ++ (l.take i).flatMap lc_).length + (lc_ y).length ≤ 1000000000000 := by rw [List.length_append, HD.out]; have := HLN.out; omega
  have HLB := aM_ hlb; have HW1 := aM_ (HW.out.grow (aa_ (Below.refl _ _) (.cells #[.int .i64 y.f0, .string y.f1, .int .i64 y.f2, .int .i64 y.f3, .int .i64 y.f4] 48))); have HK1 := aM_ (HK.out.trans (Kept8.below (g := g) (aa_ (Below.refl wr.heap.size wr) (.cells #[.int .i64 y.f0, .string y.f1, .int .i64 y.f2, .int .i64 y.f3, .int .i64 y.f4] 48)))); obtain ⟨E, hE⟩ : ∃ E, E = D ++ (l.take i).flatMap lc_ := ⟨_, rfl⟩; rw [← hE] at HW1 HLB; have HEE := aM_ hE; clear hy hsn hle hlb HW HK hE
  go_wp2_with fail
  refine (bs_ w0 g E y _ HW1.out HLB.out).mono ?_; rintro e w2 ⟨rfl, hW, hK⟩; have HW2 : Az (WrAt w0 g (D ++ (l.take (i + 1)).flatMap lc_) w2) := ⟨Vy_⟩; have HK2 := aM_ (HK1.out.trans hK); clear hW hK HW1 HK1 h0 h1 h2 h3 h4
  go_wp2
  go_roundg (l.length - (i + 1))
  case measure => omega
  case rel => exact ⟨i + 1, Td_, Td_, Va_, HW2, HK2⟩
 have he : i = l.length := by omega
 have hilz : decide ((i : Int) < (l.length : Int)) = false := by simp; omega
 rw [he] at HW
 clear he
 go_wp2
 go_end0
 exact ⟨rfl, Xe_, HK.out⟩
end Go.Proofs.YtiocgaekoeekgaaGreat.P
end
