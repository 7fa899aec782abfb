-- Written for this claim by gen.py, a program of this session, over the kit's print; not trusted: Lean checks it.
import Derived.Test.YtjomlfdkmdgclaaP0
import Derived.Test.YtjomlfdkmdgclaaP1
import Derived.Test.YtjomlfdkmdgclaaP10
import Derived.Test.YtjomlfdkmdgclaaHGramCheck
import Derived.Test.YtjomlfdkmdgclaaHGramReached
import Derived.Test.YtjomlfdkmdgclaaHKnown4
namespace Go.Proofs.Ytjomlfdkmdgclaa.P
open Go.RowKit Go.Proofs.YtjomlfdkmdgclaaW.PrintWords Go.Proofs.YtjomlfdkmdgclaaW.PrintLast Go.Proofs.YtjomlfdkmdgclaaW.PrintMore
attribute [local go_sem] max2_int min2_int max_two min_two max_three min_three max_four min_four   -- for this text's walks alone
set_option linter.unusedVariables false
set_option linter.unusedSimpArgs false

/-! ### interlocutorlaw4_GramFewer: function 9 -/
noncomputable def interlocutorlaw4_GramFewer.f (k : Nat) (l0 : List (S31)) (a1 : Int) (a2 : Int) : Option (Bool) := (interlocutorlaw4_known.f).bind fun t406 => (if t406 = true then ((interlocutorlaw4_Few.f k l0).bind fun t407 => (if t407 = true then ((interlocutorlaw4_within.f a1 20).bind fun t408 => ((interlocutorlaw4_Rules.f k l0 (wrap64 (1 + t408))).bind fun t409 => (if (t409.length : Int) = 0 then ((gram_Check.f t409).bind fun t412 => (some t412)) else ((interlocutorlaw4_within.f a2 (t409.length : Int)).bind fun t413 => ((some (([] : List (S26)) : List (S26))).bind fun y414 => (if 0 ≤ t413 then (if t413 ≤ (t409.length : Int) then ((some (t409.take (t413 : Int).toNat : List (S26))).bind fun y417 => (if y414.length + y417.length < 1954687338268 then ((some (y414 ++ y417 : List (S26))).bind fun y422 => (if 0 ≤ (wrap64 (t413 + 1)) then (if (wrap64 (t413 + 1)) ≤ (t409.length : Int) then ((some (t409.drop ((wrap64 (t413 + 1)) : Int).toNat : List (S26))).bind fun y425 => (if y422.length + y425.length < 1954687338268 then ((some (y422 ++ y425 : List (S26))).bind fun y430 => ((gram_Check.f t409).bind fun t433 => (if t433 = true then ((gram_Check.f y430).bind fun t434 => (if t434 = true then ((gram_Reached.f y430).bind fun t435 => ((gram_Reached.f t409).bind fun t438 => (some (decide ((t435.length : Int) ≤ (t438.length : Int)))))) else (some false))) else (some false)))) else (none))) else (none)) else (none))) else (none))) else (none)) else (none))))))) else (some true))) else (some false))
theorem interlocutorlaw4_GramFewer.mono : ∀ a0 a1 a2 k, LeO (interlocutorlaw4_GramFewer.f k a0 a1 a2) (interlocutorlaw4_GramFewer.f (k + 1) a0 a1 a2) := by
  intro a0 a1 a2 k
  unfold interlocutorlaw4_GramFewer.f
  repeat' first
      | (with_reducible exact interlocutorlaw4_Few.mono _ _)
      | (with_reducible exact interlocutorlaw4_Rules.mono _ _ _)
      | (with_reducible exact LeO.refl _)
      | (with_reducible exact LeO.none _)
      | (with_reducible refine LeO.ite ?_ ?_)
      | (with_reducible refine LeO.bind ?_ (fun _ => ?_))
      | exact interlocutorlaw4_Few.mono _ _
      | exact interlocutorlaw4_Rules.mono _ _ _
      | exact LeO.none _
      | refine LeO.ite ?_ ?_
      | refine LeO.bind ?_ (fun _ => ?_)
def interlocutorlaw4_GramFewer.T9 : Bool × List (List Nat × List Nat) := (true, [([], []), ([], []), ([], []), ([1, 2], [1, 2]), ([0, 3], [0, 3]), ([], []), ([], []), ([6], [6]), ([5, 7], [5, 7]), ([4, 8, 4], [4, 8]), ([9, 9, 0, 1, 2, 3, 4, 5, 6, 7, 8, 9], [9])])
def interlocutorlaw4_GramFewer.B9 : List Nat := [0, 0, 0, 6, 15, 0, 0, 64, 224, 511, 1023]
theorem interlocutorlaw4_GramFewer.tab9 : rtab .any (opsOf Try.f9 9) = interlocutorlaw4_GramFewer.T9 := by kernel_rfl
theorem interlocutorlaw4_GramFewer.bits9 : waitsOk interlocutorlaw4_GramFewer.T9.2 interlocutorlaw4_GramFewer.B9 = true := by kernel_rfl
set_option maxHeartbeats 8000000 in
set_option maxRecDepth 100000 in
theorem interlocutorlaw4_GramFewer.calls (k : Nat) (A0 : Option Addr) (c0 : Nat) (l0 : List (S31)) (a1 : Int) (a2 : Int) (r : Bool) (w : World) (hr0 : Kd.C k31 w A0 l0.length l0) (hc0 : l0.length ≤ c0) (h : interlocutorlaw4_GramFewer.f k l0 a1 a2 = some r) :
    Calls Try.prog 9 #[.slice A0 l0.length c0, .int .i64 a1, .int .i64 a2] w fun e w' => e = .returned (.bool r) ∧ Below w.heap.size w w' := by
  have HR0 := Aside0.mk hr0
  have HC0 := Aside0.mk hc0
  clear hr0 hc0
  have HB := Aside0.mk (Below.refl w.heap.size w)
  have H : ((interlocutorlaw4_known.f).bind fun t406 => (if t406 = true then ((interlocutorlaw4_Few.f k l0).bind fun t407 => (if t407 = true then ((interlocutorlaw4_within.f a1 20).bind fun t408 => ((interlocutorlaw4_Rules.f k l0 (wrap64 (1 + t408))).bind fun t409 => (if (t409.length : Int) = 0 then ((gram_Check.f t409).bind fun t412 => (some t412)) else ((interlocutorlaw4_within.f a2 (t409.length : Int)).bind fun t413 => ((some (([] : List (S26)) : List (S26))).bind fun y414 => (if 0 ≤ t413 then (if t413 ≤ (t409.length : Int) then ((some (t409.take (t413 : Int).toNat : List (S26))).bind fun y417 => (if y414.length + y417.length < 1954687338268 then ((some (y414 ++ y417 : List (S26))).bind fun y422 => (if 0 ≤ (wrap64 (t413 + 1)) then (if (wrap64 (t413 + 1)) ≤ (t409.length : Int) then ((some (t409.drop ((wrap64 (t413 + 1)) : Int).toNat : List (S26))).bind fun y425 => (if y422.length + y425.length < 1954687338268 then ((some (y422 ++ y425 : List (S26))).bind fun y430 => ((gram_Check.f t409).bind fun t433 => (if t433 = true then ((gram_Check.f y430).bind fun t434 => (if t434 = true then ((gram_Reached.f y430).bind fun t435 => ((gram_Reached.f t409).bind fun t438 => (some (decide ((t435.length : Int) ≤ (t438.length : Int)))))) else (some false))) else (some false)))) else (none))) else (none)) else (none))) else (none))) else (none)) else (none))))))) else (some true))) else (some false))) = some r := h
  clear h
  replace H := Option.bind_eq_some_iff.mp H
  obtain ⟨t406, A40, H⟩ := H
  replace H : (if t406 = true then ((interlocutorlaw4_Few.f k l0).bind fun t407 => (if t407 = true then ((interlocutorlaw4_within.f a1 20).bind fun t408 => ((interlocutorlaw4_Rules.f k l0 (wrap64 (1 + t408))).bind fun t409 => (if (t409.length : Int) = 0 then ((gram_Check.f t409).bind fun t412 => (some t412)) else ((interlocutorlaw4_within.f a2 (t409.length : Int)).bind fun t413 => ((some (([] : List (S26)) : List (S26))).bind fun y414 => (if 0 ≤ t413 then (if t413 ≤ (t409.length : Int) then ((some (t409.take (t413 : Int).toNat : List (S26))).bind fun y417 => (if y414.length + y417.length < 1954687338268 then ((some (y414 ++ y417 : List (S26))).bind fun y422 => (if 0 ≤ (wrap64 (t413 + 1)) then (if (wrap64 (t413 + 1)) ≤ (t409.length : Int) then ((some (t409.drop ((wrap64 (t413 + 1)) : Int).toNat : List (S26))).bind fun y425 => (if y422.length + y425.length < 1954687338268 then ((some (y422 ++ y425 : List (S26))).bind fun y430 => ((gram_Check.f t409).bind fun t433 => (if t433 = true then ((gram_Check.f y430).bind fun t434 => (if t434 = true then ((gram_Reached.f y430).bind fun t435 => ((gram_Reached.f t409).bind fun t438 => (some (decide ((t435.length : Int) ≤ (t438.length : Int)))))) else (some false))) else (some false)))) else (none))) else (none)) else (none))) else (none))) else (none)) else (none))))))) else (some true))) else (some false)) = some r := H
  have A4 := Aside0.mk A40
  clear A40
  by_cases c5 : t406 = true
  · subst c5
    have H1 : ((interlocutorlaw4_Few.f k l0).bind fun t407 => (if t407 = true then ((interlocutorlaw4_within.f a1 20).bind fun t408 => ((interlocutorlaw4_Rules.f k l0 (wrap64 (1 + t408))).bind fun t409 => (if (t409.length : Int) = 0 then ((gram_Check.f t409).bind fun t412 => (some t412)) else ((interlocutorlaw4_within.f a2 (t409.length : Int)).bind fun t413 => ((some (([] : List (S26)) : List (S26))).bind fun y414 => (if 0 ≤ t413 then (if t413 ≤ (t409.length : Int) then ((some (t409.take (t413 : Int).toNat : List (S26))).bind fun y417 => (if y414.length + y417.length < 1954687338268 then ((some (y414 ++ y417 : List (S26))).bind fun y422 => (if 0 ≤ (wrap64 (t413 + 1)) then (if (wrap64 (t413 + 1)) ≤ (t409.length : Int) then ((some (t409.drop ((wrap64 (t413 + 1)) : Int).toNat : List (S26))).bind fun y425 => (if y422.length + y425.length < 1954687338268 then ((some (y422 ++ y425 : List (S26))).bind fun y430 => ((gram_Check.f t409).bind fun t433 => (if t433 = true then ((gram_Check.f y430).bind fun t434 => (if t434 = true then ((gram_Reached.f y430).bind fun t435 => ((gram_Reached.f t409).bind fun t438 => (some (decide ((t435.length : Int) ≤ (t438.length : Int)))))) else (some false))) else (some false)))) else (none))) else (none)) else (none))) else (none))) else (none)) else (none))))))) else (some true))) = some r := by rw [if_pos rfl] at H; exact H
    clear H
    have H := H1
    clear H1
    replace H := Option.bind_eq_some_iff.mp H
    obtain ⟨t407, A60, H⟩ := H
    replace H : (if t407 = true then ((interlocutorlaw4_within.f a1 20).bind fun t408 => ((interlocutorlaw4_Rules.f k l0 (wrap64 (1 + t408))).bind fun t409 => (if (t409.length : Int) = 0 then ((gram_Check.f t409).bind fun t412 => (some t412)) else ((interlocutorlaw4_within.f a2 (t409.length : Int)).bind fun t413 => ((some (([] : List (S26)) : List (S26))).bind fun y414 => (if 0 ≤ t413 then (if t413 ≤ (t409.length : Int) then ((some (t409.take (t413 : Int).toNat : List (S26))).bind fun y417 => (if y414.length + y417.length < 1954687338268 then ((some (y414 ++ y417 : List (S26))).bind fun y422 => (if 0 ≤ (wrap64 (t413 + 1)) then (if (wrap64 (t413 + 1)) ≤ (t409.length : Int) then ((some (t409.drop ((wrap64 (t413 + 1)) : Int).toNat : List (S26))).bind fun y425 => (if y422.length + y425.length < 1954687338268 then ((some (y422 ++ y425 : List (S26))).bind fun y430 => ((gram_Check.f t409).bind fun t433 => (if t433 = true then ((gram_Check.f y430).bind fun t434 => (if t434 = true then ((gram_Reached.f y430).bind fun t435 => ((gram_Reached.f t409).bind fun t438 => (some (decide ((t435.length : Int) ≤ (t438.length : Int)))))) else (some false))) else (some false)))) else (none))) else (none)) else (none))) else (none))) else (none)) else (none))))))) else (some true)) = some r := H
    have A6 := Aside0.mk A60
    clear A60
    by_cases c7 : t407 = true
    · subst c7
      have H1 : ((interlocutorlaw4_within.f a1 20).bind fun t408 => ((interlocutorlaw4_Rules.f k l0 (wrap64 (1 + t408))).bind fun t409 => (if (t409.length : Int) = 0 then ((gram_Check.f t409).bind fun t412 => (some t412)) else ((interlocutorlaw4_within.f a2 (t409.length : Int)).bind fun t413 => ((some (([] : List (S26)) : List (S26))).bind fun y414 => (if 0 ≤ t413 then (if t413 ≤ (t409.length : Int) then ((some (t409.take (t413 : Int).toNat : List (S26))).bind fun y417 => (if y414.length + y417.length < 1954687338268 then ((some (y414 ++ y417 : List (S26))).bind fun y422 => (if 0 ≤ (wrap64 (t413 + 1)) then (if (wrap64 (t413 + 1)) ≤ (t409.length : Int) then ((some (t409.drop ((wrap64 (t413 + 1)) : Int).toNat : List (S26))).bind fun y425 => (if y422.length + y425.length < 1954687338268 then ((some (y422 ++ y425 : List (S26))).bind fun y430 => ((gram_Check.f t409).bind fun t433 => (if t433 = true then ((gram_Check.f y430).bind fun t434 => (if t434 = true then ((gram_Reached.f y430).bind fun t435 => ((gram_Reached.f t409).bind fun t438 => (some (decide ((t435.length : Int) ≤ (t438.length : Int)))))) else (some false))) else (some false)))) else (none))) else (none)) else (none))) else (none))) else (none)) else (none))))))) = some r := by rw [if_pos rfl] at H; exact H
      clear H
      have H := H1
      clear H1
      replace H := Option.bind_eq_some_iff.mp H
      obtain ⟨t408, A80, H⟩ := H
      replace H : ((interlocutorlaw4_Rules.f k l0 (wrap64 (1 + t408))).bind fun t409 => (if (t409.length : Int) = 0 then ((gram_Check.f t409).bind fun t412 => (some t412)) else ((interlocutorlaw4_within.f a2 (t409.length : Int)).bind fun t413 => ((some (([] : List (S26)) : List (S26))).bind fun y414 => (if 0 ≤ t413 then (if t413 ≤ (t409.length : Int) then ((some (t409.take (t413 : Int).toNat : List (S26))).bind fun y417 => (if y414.length + y417.length < 1954687338268 then ((some (y414 ++ y417 : List (S26))).bind fun y422 => (if 0 ≤ (wrap64 (t413 + 1)) then (if (wrap64 (t413 + 1)) ≤ (t409.length : Int) then ((some (t409.drop ((wrap64 (t413 + 1)) : Int).toNat : List (S26))).bind fun y425 => (if y422.length + y425.length < 1954687338268 then ((some (y422 ++ y425 : List (S26))).bind fun y430 => ((gram_Check.f t409).bind fun t433 => (if t433 = true then ((gram_Check.f y430).bind fun t434 => (if t434 = true then ((gram_Reached.f y430).bind fun t435 => ((gram_Reached.f t409).bind fun t438 => (some (decide ((t435.length : Int) ≤ (t438.length : Int)))))) else (some false))) else (some false)))) else (none))) else (none)) else (none))) else (none))) else (none)) else (none)))))) = some r := H
      have A8 := Aside0.mk A80
      clear A80
      replace H := Option.bind_eq_some_iff.mp H
      obtain ⟨t409, A90, H⟩ := H
      replace H : (if (t409.length : Int) = 0 then ((gram_Check.f t409).bind fun t412 => (some t412)) else ((interlocutorlaw4_within.f a2 (t409.length : Int)).bind fun t413 => ((some (([] : List (S26)) : List (S26))).bind fun y414 => (if 0 ≤ t413 then (if t413 ≤ (t409.length : Int) then ((some (t409.take (t413 : Int).toNat : List (S26))).bind fun y417 => (if y414.length + y417.length < 1954687338268 then ((some (y414 ++ y417 : List (S26))).bind fun y422 => (if 0 ≤ (wrap64 (t413 + 1)) then (if (wrap64 (t413 + 1)) ≤ (t409.length : Int) then ((some (t409.drop ((wrap64 (t413 + 1)) : Int).toNat : List (S26))).bind fun y425 => (if y422.length + y425.length < 1954687338268 then ((some (y422 ++ y425 : List (S26))).bind fun y430 => ((gram_Check.f t409).bind fun t433 => (if t433 = true then ((gram_Check.f y430).bind fun t434 => (if t434 = true then ((gram_Reached.f y430).bind fun t435 => ((gram_Reached.f t409).bind fun t438 => (some (decide ((t435.length : Int) ≤ (t438.length : Int)))))) else (some false))) else (some false)))) else (none))) else (none)) else (none))) else (none))) else (none)) else (none))))) = some r := H
      have A9 := Aside0.mk A90
      clear A90
      by_cases c10 : (t409.length : Int) = 0
      · rw [if_pos c10] at H
        have c10b0 : ((t409.length : Int) == 0) = true := beq_iff_eq.mpr c10
        have c10b1 : ((t409.length : Int) != 0) = false := bne_eq_false_iff_eq.mpr c10
        clear c10
        replace H := Option.bind_eq_some_iff.mp H
        obtain ⟨t412, A110, H⟩ := H
        replace H : (some t412) = some r := H
        have A11 := Aside0.mk A110
        clear A110
        obtain rfl := Option.some.inj H
        go_enter Try.func9, Try.ntmps9
        go_wp2_with (first | ((with_reducible refine gate_callee (f := 13) rfl ?_); refine goesL_ (some 10) rfl rfl Try.func13 (by kernel_rfl) rfl #[] rfl (by (try simp only [List.map_toArray, List.map_cons, List.map_nil]); first | done | rfl | (simp only [List.length_drop, List.length_take]; rfl)) ?_; (with_reducible refine (interlocutorlaw4_known.calls  true _ A4.out).mono ?_); rintro e w12 ⟨rfl, hb⟩; refine ⟨_, rfl, ?_⟩; have n0_ := Aside0.mk (below_step (by repeat (first | (with_reducible first | exact HB.out | apply below_alloc | apply pw_below_drewN | apply below_drew1) | exact HB.out)) hb); clear HB; have HB := n0_; clear n0_; (try clear hb); (try clear hb2); (try clear hk); (try clear hi)) | ((with_reducible refine gate_callee (f := 14) rfl ?_); refine goesL_ (some 13) rfl rfl Try.func14 (by kernel_rfl) rfl #[.slice A0 l0.length c0] rfl (by (try simp only [List.map_toArray, List.map_cons, List.map_nil]); first | done | rfl | (simp only [List.length_drop, List.length_take]; rfl)) ?_; (with_reducible refine (interlocutorlaw4_Few.calls k _ _ l0 true _ ?side1 ?side2 A6.out).mono ?_); (case side1 => repeat (first | exact (Kd.C_below HR0.out HB.out) | (with_reducible refine Kd.C_alloc ?_ _) | (with_reducible refine Kd.C_drewN ?_ _) | (with_reducible refine Kd.C_drew ?_))); (case side2 => exact HC0.out); rintro e w' ⟨rfl, ⟨nd, rfl⟩⟩; refine ⟨_, rfl, ?_⟩) | ((with_reducible refine gate_callee (f := 17) rfl ?_); refine goesL_ (some 17) rfl rfl Try.func17 (by kernel_rfl) rfl #[.int .i64 a1, .int .i64 20] rfl (by (try simp only [List.map_toArray, List.map_cons, List.map_nil]); first | done | rfl | (simp only [List.length_drop, List.length_take]; rfl)) ?_; (with_reducible refine (interlocutorlaw4_within.calls a1 20 t408 _ A8.out).mono ?_); rintro e w' ⟨rfl, ⟨nd, rfl⟩⟩; refine ⟨_, rfl, ?_⟩) | ((with_reducible refine gate_callee (f := 26) rfl ?_); refine goesL_ (some 19) rfl rfl Try.func26 (by kernel_rfl) rfl #[.slice A0 l0.length c0, .int .i64 (wrap64 (1 + t408))] rfl (by (try simp only [List.map_toArray, List.map_cons, List.map_nil]); first | done | rfl | (simp only [List.length_drop, List.length_take]; rfl)) ?_; (with_reducible refine (interlocutorlaw4_Rules.calls k _ _ l0 (wrap64 (1 + t408)) t409 _ ?side1 ?side2 A9.out).mono ?_); (case side1 => repeat (first | exact (Kd.C_below HR0.out (by repeat (first | (with_reducible first | exact HB.out | apply below_alloc | apply pw_below_drewN | apply below_drew1) | exact HB.out))) | (with_reducible refine Kd.C_alloc ?_ _) | (with_reducible refine Kd.C_drewN ?_ _) | (with_reducible refine Kd.C_drew ?_))); (case side2 => exact HC0.out); rintro e w13 ⟨v410, rfl, ho0, hb⟩; refine ⟨_, rfl, ?_⟩; have n0_ := Aside0.mk (Kd.N_lower (Kd.N_mono (ok' := fun k_ => True) ho0 (fun k_ hk_ => trivial)) (below_size (by repeat (first | (with_reducible first | exact HB.out | apply below_alloc | apply pw_below_drewN | apply below_drew1) | exact HB.out)))); have n1_ := Aside0.mk (below_step (by repeat (first | (with_reducible first | exact HB.out | apply below_alloc | apply pw_below_drewN | apply below_drew1) | exact HB.out)) hb); clear HB; have HO411 := n0_; have HB := n1_; clear n0_ n1_; (try clear hb); (try clear hb2); (try clear hk); (try clear hi); (try clear ho0); obtain ⟨Ao14, co14, eo14⟩ := Kd.N_slice HO411.out; subst eo14) | ((with_reducible refine gate_callee (f := 21) rfl ?_); refine goesL_ (some 24) rfl rfl Try.func21 (by kernel_rfl) rfl #[.slice Ao14 t409.length co14] rfl (by (try simp only [List.map_toArray, List.map_cons, List.map_nil]); first | done | rfl | (simp only [List.length_drop, List.length_take]; rfl)) ?_; (with_reducible refine (gram_Check.calls _ _ t409 t412 _ ?side1 ?side2 A11.out).mono ?_); (case side1 => repeat (first | exact (Kd.N_reads' HO411.out).2.2 | (with_reducible refine Kd.C_alloc ?_ _) | (with_reducible refine Kd.C_drewN ?_ _) | (with_reducible refine Kd.C_drew ?_))); (case side2 => exact (Kd.N_reads' HO411.out).2.1); rintro e w15 ⟨rfl, hb⟩; refine ⟨_, rfl, ?_⟩; have n0_ := Aside0.mk (Kd.N_below (by (with_reducible repeat (first | apply Kd.N_alloc | apply Kd.N_drewN | apply Kd.N_drew)); exact HO411.out) hb); have n1_ := Aside0.mk (below_step (by repeat (first | (with_reducible first | exact HB.out | apply below_alloc | apply pw_below_drewN | apply below_drew1) | exact HB.out)) hb); clear HO411; clear HB; have HO411 := n0_; have HB := n1_; clear n0_ n1_; (try clear hb); (try clear hb2); (try clear hk); (try clear hi)))
        go_ret
        exact ⟨by first | rfl | (simp [errW_none, errW_some] <;> rfl) | (simp [*, errW_none, errW_some] <;> rfl), by repeat (first | (with_reducible first | exact HB.out | apply below_alloc | apply pw_below_drewN | apply below_drew1) | exact HB.out)⟩
      · rw [if_neg c10] at H
        have c10b0 : ((t409.length : Int) == 0) = false := beq_eq_false_iff_ne.mpr c10
        have c10b1 : ((t409.length : Int) != 0) = true := bne_iff_ne.mpr c10
        have c10b2 : ¬ (t409 = []) := fun h_ => c10 (by rw [h_]; rfl)
        replace H := Option.bind_eq_some_iff.mp H
        obtain ⟨t413, A160, H⟩ := H
        replace H : ((some (([] : List (S26)) : List (S26))).bind fun y414 => (if 0 ≤ t413 then (if t413 ≤ (t409.length : Int) then ((some (t409.take (t413 : Int).toNat : List (S26))).bind fun y417 => (if y414.length + y417.length < 1954687338268 then ((some (y414 ++ y417 : List (S26))).bind fun y422 => (if 0 ≤ (wrap64 (t413 + 1)) then (if (wrap64 (t413 + 1)) ≤ (t409.length : Int) then ((some (t409.drop ((wrap64 (t413 + 1)) : Int).toNat : List (S26))).bind fun y425 => (if y422.length + y425.length < 1954687338268 then ((some (y422 ++ y425 : List (S26))).bind fun y430 => ((gram_Check.f t409).bind fun t433 => (if t433 = true then ((gram_Check.f y430).bind fun t434 => (if t434 = true then ((gram_Reached.f y430).bind fun t435 => ((gram_Reached.f t409).bind fun t438 => (some (decide ((t435.length : Int) ≤ (t438.length : Int)))))) else (some false))) else (some false)))) else (none))) else (none)) else (none))) else (none))) else (none)) else (none))) = some r := H
        have A16 := Aside0.mk A160
        clear A160
        obtain ⟨y414, hy414⟩ : ∃ y_ : List (S26), y_ = (([] : List (S26))) := ⟨_, rfl⟩
        replace H : (if 0 ≤ t413 then (if t413 ≤ (t409.length : Int) then ((some (t409.take (t413 : Int).toNat : List (S26))).bind fun y417 => (if y414.length + y417.length < 1954687338268 then ((some (y414 ++ y417 : List (S26))).bind fun y422 => (if 0 ≤ (wrap64 (t413 + 1)) then (if (wrap64 (t413 + 1)) ≤ (t409.length : Int) then ((some (t409.drop ((wrap64 (t413 + 1)) : Int).toNat : List (S26))).bind fun y425 => (if y422.length + y425.length < 1954687338268 then ((some (y422 ++ y425 : List (S26))).bind fun y430 => ((gram_Check.f t409).bind fun t433 => (if t433 = true then ((gram_Check.f y430).bind fun t434 => (if t434 = true then ((gram_Reached.f y430).bind fun t435 => ((gram_Reached.f t409).bind fun t438 => (some (decide ((t435.length : Int) ≤ (t438.length : Int)))))) else (some false))) else (some false)))) else (none))) else (none)) else (none))) else (none))) else (none)) else (none)) = some r := by first | (rw [hy414]; with_reducible exact H) | (have H2_ := (Option.bind_some _ _).symm.trans H; rw [hy414]; with_reducible exact H2_) | (have H2_ := (Option.bind_some _ _).symm.trans H; with_reducible exact H2_) | with_reducible exact H | (rw [hy414]; exact H) | exact H
        have Ny414 := Aside0.mk hy414
        clear hy414
        by_cases c17 : 0 ≤ t413
        · rw [if_pos c17] at H
          have c17b0 := eq_true c17
          have c17b1 : decide (0 ≤ t413) = true := decide_eq_true c17
          clear c17
          by_cases c18 : t413 ≤ (t409.length : Int)
          · rw [if_pos c18] at H
            have c18b0 := eq_true c18
            have c18b1 : decide (t413 ≤ (t409.length : Int)) = true := decide_eq_true c18
            clear c18
            obtain ⟨y417, hy417⟩ : ∃ y_ : List (S26), y_ = (t409.take (t413 : Int).toNat) := ⟨_, rfl⟩
            replace H : (if y414.length + y417.length < 1954687338268 then ((some (y414 ++ y417 : List (S26))).bind fun y422 => (if 0 ≤ (wrap64 (t413 + 1)) then (if (wrap64 (t413 + 1)) ≤ (t409.length : Int) then ((some (t409.drop ((wrap64 (t413 + 1)) : Int).toNat : List (S26))).bind fun y425 => (if y422.length + y425.length < 1954687338268 then ((some (y422 ++ y425 : List (S26))).bind fun y430 => ((gram_Check.f t409).bind fun t433 => (if t433 = true then ((gram_Check.f y430).bind fun t434 => (if t434 = true then ((gram_Reached.f y430).bind fun t435 => ((gram_Reached.f t409).bind fun t438 => (some (decide ((t435.length : Int) ≤ (t438.length : Int)))))) else (some false))) else (some false)))) else (none))) else (none)) else (none))) else (none)) = some r := by first | (rw [hy417]; with_reducible exact H) | (have H2_ := (Option.bind_some _ _).symm.trans H; rw [hy417]; with_reducible exact H2_) | (have H2_ := (Option.bind_some _ _).symm.trans H; with_reducible exact H2_) | with_reducible exact H | (rw [hy417]; exact H) | exact H
            have Ny417 := Aside0.mk hy417
            clear hy417
            by_cases c19 : y414.length + y417.length < 1954687338268
            · rw [if_pos c19] at H
              have LMc19 := Aside0.mk c19
              clear c19
              obtain ⟨y422, hy422⟩ : ∃ y_ : List (S26), y_ = (y414 ++ y417) := ⟨_, rfl⟩
              replace H : (if 0 ≤ (wrap64 (t413 + 1)) then (if (wrap64 (t413 + 1)) ≤ (t409.length : Int) then ((some (t409.drop ((wrap64 (t413 + 1)) : Int).toNat : List (S26))).bind fun y425 => (if y422.length + y425.length < 1954687338268 then ((some (y422 ++ y425 : List (S26))).bind fun y430 => ((gram_Check.f t409).bind fun t433 => (if t433 = true then ((gram_Check.f y430).bind fun t434 => (if t434 = true then ((gram_Reached.f y430).bind fun t435 => ((gram_Reached.f t409).bind fun t438 => (some (decide ((t435.length : Int) ≤ (t438.length : Int)))))) else (some false))) else (some false)))) else (none))) else (none)) else (none)) = some r := by first | (rw [hy422]; with_reducible exact H) | (have H2_ := (Option.bind_some _ _).symm.trans H; rw [hy422]; with_reducible exact H2_) | (have H2_ := (Option.bind_some _ _).symm.trans H; with_reducible exact H2_) | with_reducible exact H | (rw [hy422]; exact H) | exact H
              have Ny422 := Aside0.mk hy422
              clear hy422
              obtain ⟨ji20, hji20⟩ : ∃ j_ : Int, (wrap64 (t413 + 1)) = j_ := ⟨_, rfl⟩
              replace H : (if 0 ≤ (ji20) then (if (ji20) ≤ (t409.length : Int) then ((some (t409.drop ((ji20) : Int).toNat : List (S26))).bind fun y425 => (if y422.length + y425.length < 1954687338268 then ((some (y422 ++ y425 : List (S26))).bind fun y430 => ((gram_Check.f t409).bind fun t433 => (if t433 = true then ((gram_Check.f y430).bind fun t434 => (if t434 = true then ((gram_Reached.f y430).bind fun t435 => ((gram_Reached.f t409).bind fun t438 => (some (decide ((t435.length : Int) ≤ (t438.length : Int)))))) else (some false))) else (some false)))) else (none))) else (none)) else (none)) = some r := by first | (rw [hji20] at H; exact H) | (simp only [hji20] at H ⊢; exact H)
              (try rw [hji20] at A4)
              (try rw [hji20] at A6)
              (try rw [hji20] at A8)
              (try rw [hji20] at A9)
              (try rw [hji20] at A16)
              have hji20w : (IntKind.i64.wrap (t413 + 1)) = ji20 := (i64_w _).trans hji20
              by_cases c21 : 0 ≤ (ji20)
              · rw [if_pos c21] at H
                have c21b0 := eq_true c21
                have c21b1 : decide (0 ≤ (ji20)) = true := decide_eq_true c21
                clear c21
                by_cases c22 : (ji20) ≤ (t409.length : Int)
                · rw [if_pos c22] at H
                  have c22b0 := eq_true c22
                  have c22b1 : decide ((ji20) ≤ (t409.length : Int)) = true := decide_eq_true c22
                  clear c22
                  obtain ⟨y425, hy425⟩ : ∃ y_ : List (S26), y_ = (t409.drop ((ji20) : Int).toNat) := ⟨_, rfl⟩
                  replace H : (if y422.length + y425.length < 1954687338268 then ((some (y422 ++ y425 : List (S26))).bind fun y430 => ((gram_Check.f t409).bind fun t433 => (if t433 = true then ((gram_Check.f y430).bind fun t434 => (if t434 = true then ((gram_Reached.f y430).bind fun t435 => ((gram_Reached.f t409).bind fun t438 => (some (decide ((t435.length : Int) ≤ (t438.length : Int)))))) else (some false))) else (some false)))) else (none)) = some r := by first | (rw [hy425]; with_reducible exact H) | (have H2_ := (Option.bind_some _ _).symm.trans H; rw [hy425]; with_reducible exact H2_) | (have H2_ := (Option.bind_some _ _).symm.trans H; with_reducible exact H2_) | with_reducible exact H | (rw [hy425]; exact H) | exact H
                  have Ny425 := Aside0.mk hy425
                  clear hy425
                  by_cases c23 : y422.length + y425.length < 1954687338268
                  · rw [if_pos c23] at H
                    have LMc23 := Aside0.mk c23
                    clear c23
                    obtain ⟨y430, hy430⟩ : ∃ y_ : List (S26), y_ = (y422 ++ y425) := ⟨_, rfl⟩
                    replace H : ((gram_Check.f t409).bind fun t433 => (if t433 = true then ((gram_Check.f y430).bind fun t434 => (if t434 = true then ((gram_Reached.f y430).bind fun t435 => ((gram_Reached.f t409).bind fun t438 => (some (decide ((t435.length : Int) ≤ (t438.length : Int)))))) else (some false))) else (some false))) = some r := by first | (rw [hy430]; with_reducible exact H) | (have H2_ := (Option.bind_some _ _).symm.trans H; rw [hy430]; with_reducible exact H2_) | (have H2_ := (Option.bind_some _ _).symm.trans H; with_reducible exact H2_) | with_reducible exact H | (rw [hy430]; exact H) | exact H
                    have Ny430 := Aside0.mk hy430
                    clear hy430
                    replace H := Option.bind_eq_some_iff.mp H
                    obtain ⟨t433, A240, H⟩ := H
                    replace H : (if t433 = true then ((gram_Check.f y430).bind fun t434 => (if t434 = true then ((gram_Reached.f y430).bind fun t435 => ((gram_Reached.f t409).bind fun t438 => (some (decide ((t435.length : Int) ≤ (t438.length : Int)))))) else (some false))) else (some false)) = some r := H
                    have A24 := Aside0.mk A240
                    clear A240
                    by_cases c25 : t433 = true
                    · subst c25
                      have H1 : ((gram_Check.f y430).bind fun t434 => (if t434 = true then ((gram_Reached.f y430).bind fun t435 => ((gram_Reached.f t409).bind fun t438 => (some (decide ((t435.length : Int) ≤ (t438.length : Int)))))) else (some false))) = some r := by rw [if_pos rfl] at H; exact H
                      clear H
                      have H := H1
                      clear H1
                      replace H := Option.bind_eq_some_iff.mp H
                      obtain ⟨t434, A260, H⟩ := H
                      replace H : (if t434 = true then ((gram_Reached.f y430).bind fun t435 => ((gram_Reached.f t409).bind fun t438 => (some (decide ((t435.length : Int) ≤ (t438.length : Int)))))) else (some false)) = some r := H
                      have A26 := Aside0.mk A260
                      clear A260
                      by_cases c27 : t434 = true
                      · subst c27
                        have H1 : ((gram_Reached.f y430).bind fun t435 => ((gram_Reached.f t409).bind fun t438 => (some (decide ((t435.length : Int) ≤ (t438.length : Int)))))) = some r := by rw [if_pos rfl] at H; exact H
                        clear H
                        have H := H1
                        clear H1
                        replace H := Option.bind_eq_some_iff.mp H
                        obtain ⟨t435, A280, H⟩ := H
                        replace H : ((gram_Reached.f t409).bind fun t438 => (some (decide ((t435.length : Int) ≤ (t438.length : Int))))) = some r := H
                        have A28 := Aside0.mk A280
                        clear A280
                        replace H := Option.bind_eq_some_iff.mp H
                        obtain ⟨t438, A290, H⟩ := H
                        replace H : (some (decide ((t435.length : Int) ≤ (t438.length : Int)))) = some r := H
                        have A29 := Aside0.mk A290
                        clear A290
                        obtain rfl := Option.some.inj H
                        go_enter Try.func9, Try.ntmps9
                        try go_wp2_with (first | ((with_reducible refine gate_callee (f := 13) rfl ?_); refine goesL_ (some 10) rfl rfl Try.func13 (by kernel_rfl) rfl #[] rfl (by (try simp only [List.map_toArray, List.map_cons, List.map_nil]); first | done | rfl | (simp only [List.length_drop, List.length_take]; rfl)) ?_; (with_reducible refine (interlocutorlaw4_known.calls  true _ A4.out).mono ?_); rintro e w30 ⟨rfl, hb⟩; refine ⟨_, rfl, ?_⟩; have n0_ := Aside0.mk (below_step (by repeat (first | (with_reducible first | exact HB.out | apply below_alloc | apply pw_below_drewN | apply below_drew1) | exact HB.out)) hb); clear HB; have HB := n0_; clear n0_; (try clear hb); (try clear hb2); (try clear hk); (try clear hi)) | ((with_reducible refine gate_callee (f := 14) rfl ?_); refine goesL_ (some 13) rfl rfl Try.func14 (by kernel_rfl) rfl #[.slice A0 l0.length c0] rfl (by (try simp only [List.map_toArray, List.map_cons, List.map_nil]); first | done | rfl | (simp only [List.length_drop, List.length_take]; rfl)) ?_; (with_reducible refine (interlocutorlaw4_Few.calls k _ _ l0 true _ ?side1 ?side2 A6.out).mono ?_); (case side1 => repeat (first | exact (Kd.C_below HR0.out HB.out) | (with_reducible refine Kd.C_alloc ?_ _) | (with_reducible refine Kd.C_drewN ?_ _) | (with_reducible refine Kd.C_drew ?_))); (case side2 => exact HC0.out); rintro e w' ⟨rfl, ⟨nd, rfl⟩⟩; refine ⟨_, rfl, ?_⟩) | ((with_reducible refine gate_callee (f := 17) rfl ?_); refine goesL_ (some 17) rfl rfl Try.func17 (by kernel_rfl) rfl #[.int .i64 a1, .int .i64 20] rfl (by (try simp only [List.map_toArray, List.map_cons, List.map_nil]); first | done | rfl | (simp only [List.length_drop, List.length_take]; rfl)) ?_; (with_reducible refine (interlocutorlaw4_within.calls a1 20 t408 _ A8.out).mono ?_); rintro e w' ⟨rfl, ⟨nd, rfl⟩⟩; refine ⟨_, rfl, ?_⟩) | ((with_reducible refine gate_callee (f := 26) rfl ?_); refine goesL_ (some 19) rfl rfl Try.func26 (by kernel_rfl) rfl #[.slice A0 l0.length c0, .int .i64 (wrap64 (1 + t408))] rfl (by (try simp only [List.map_toArray, List.map_cons, List.map_nil]); first | done | rfl | (simp only [List.length_drop, List.length_take]; rfl)) ?_; (with_reducible refine (interlocutorlaw4_Rules.calls k _ _ l0 (wrap64 (1 + t408)) t409 _ ?side1 ?side2 A9.out).mono ?_); (case side1 => repeat (first | exact (Kd.C_below HR0.out (by repeat (first | (with_reducible first | exact HB.out | apply below_alloc | apply pw_below_drewN | apply below_drew1) | exact HB.out))) | (with_reducible refine Kd.C_alloc ?_ _) | (with_reducible refine Kd.C_drewN ?_ _) | (with_reducible refine Kd.C_drew ?_))); (case side2 => exact HC0.out); rintro e w31 ⟨v410, rfl, ho0, hb⟩; refine ⟨_, rfl, ?_⟩; have n0_ := Aside0.mk (Kd.N_lower (Kd.N_mono (ok' := fun k_ => True) ho0 (fun k_ hk_ => trivial)) (below_size (by repeat (first | (with_reducible first | exact HB.out | apply below_alloc | apply pw_below_drewN | apply below_drew1) | exact HB.out)))); have n1_ := Aside0.mk (below_step (by repeat (first | (with_reducible first | exact HB.out | apply below_alloc | apply pw_below_drewN | apply below_drew1) | exact HB.out)) hb); clear HB; have HO411 := n0_; have HB := n1_; clear n0_ n1_; (try clear hb); (try clear hb2); (try clear hk); (try clear hi); (try clear ho0); obtain ⟨Ao32, co32, eo32⟩ := Kd.N_slice HO411.out; subst eo32) | ((with_reducible refine gate_callee (f := 17) rfl ?_); refine goesL_ (some 28) rfl rfl Try.func17 (by kernel_rfl) rfl #[.int .i64 a2, .int .i64 (t409.length : Int)] rfl (by (try simp only [List.map_toArray, List.map_cons, List.map_nil]); first | done | rfl | (simp only [List.length_drop, List.length_take]; rfl)) ?_; (with_reducible refine (interlocutorlaw4_within.calls a2 (t409.length : Int) t413 _ A16.out).mono ?_); rintro e w' ⟨rfl, ⟨nd, rfl⟩⟩; refine ⟨_, rfl, ?_⟩))
                        (try (rw [drewN_self w31]; generalize hq_ : World.drewN w31 _ = w31; have n0_ : Aside0 (Kd.N k26 26 w31 w.heap.size (fun _ => True) (.slice Ao32 t409.length co32) t409) := ⟨by rw [← hq_]; exact (by (with_reducible repeat (first | apply Kd.N_alloc | apply Kd.N_drewN | apply Kd.N_drew)); exact HO411.out)⟩; have n1_ : Aside0 (Below w.heap.size w w31) := ⟨by rw [← hq_]; exact (by repeat (first | (with_reducible first | exact HB.out | apply below_alloc | apply pw_below_drewN | apply below_drew1) | exact HB.out))⟩; clear HO411 HB hq_; have HO411 := n0_; have HB := n1_; clear n0_ n1_))
                        have n0_ := Aside0.mk (Kd.N_drew HO411.out)
                        have n1_ := Aside0.mk (below_drew1 HB.out)
                        clear HO411
                        clear HB
                        have HO411 := n0_
                        have HB := n1_
                        clear n0_ n1_
                        have q34 : (t413 : Int) ≤ ((t409.length : Int) : Int) := of_decide_eq_true (by first | (with_reducible assumption) | assumption)
                        obtain ⟨i034, hi034, _, hsz34, _⟩ := info_parts info26
                        have hroom34 : t409.length ≤ co32 := (Kd.N_reads' HO411.out).2.1
                        have hC34 : Kd.F k26 _ _ Ao32 t409.length t409 := (Kd.V_at (base := w.heap.size) (Kd.N_V HO411.out)).2.2
                        have hcut34 := cut_to (P := Try.prog) 36 26 .i64 Try.underlying36 hi034 Ao32 t409.length co32 t413 (of_decide_eq_true (by first | (with_reducible assumption) | assumption)) q34 hroom34
                        have hr34 := Kd.F_take (m := (t413 : Int).toNat) hC34 (by omega)
                        have hy34 : y417.length = (t413 : Int).toNat := (by rw [Ny417.out, List.length_take]; omega)
                        rw [← Ny417.out] at hr34
                        rw [← hy34] at hcut34
                        have HO421 := Aside0.mk (show Kd.V k26 26 _ w.heap.size _ (.slice Ao32 y417.length co32) y417 from Kd.V_mk (by omega) hr34)
                        have HC421 := Aside0.mk (show y417.length ≤ co32 from by omega)
                        clear hr34 hC34 hroom34 hi034 hsz34
                        have KY34 := Aside0.mk hy34
                        clear hy34
                        replace q34 := eq_true q34
                        have q35 : ((ji20) : Int) ≤ ((t409.length : Int) : Int) := of_decide_eq_true (by first | (with_reducible assumption) | assumption)
                        obtain ⟨i035, hi035, _, hsz35, _⟩ := info_parts info26
                        have hroom35 : t409.length ≤ co32 := (Kd.N_reads' HO411.out).2.1
                        have hC35 : Kd.F k26 _ _ Ao32 t409.length t409 := (Kd.V_at (base := w.heap.size) (Kd.N_V HO411.out)).2.2
                        have q035 : (0 : Int) ≤ ((ji20) : Int) := of_decide_eq_true (by first | (with_reducible assumption) | assumption)
                        have hcut35 := cut_from (P := Try.prog) 36 26 .i64 Try.underlying36 hi035 5 hsz35 Ao32 t409.length co32 (ji20) q035 q35
                        have hr35 := Kd.F_cut (m := ((ji20) : Int).toNat) (c := co32) hC35 (by omega) hroom35
                        obtain ⟨A35, hA35⟩ : ∃ A1, A1 = (if co32 = ((ji20) : Int).toNat then Ao32 else (Ao32 : Option Addr).map (·.add (((ji20) : Int).toNat * 5))) := ⟨_, rfl⟩
                        obtain ⟨c35, hc35⟩ : ∃ c1, c1 = co32 - ((ji20) : Int).toNat := ⟨_, rfl⟩
                        have hy35 : y425.length = t409.length - ((ji20) : Int).toNat := (by rw [Ny425.out, List.length_drop] <;> omega)
                        rw [show (t409).drop ((ji20) : Int).toNat = y425 from Ny425.out.symm] at hr35
                        replace hr35 : Kd.F k26 _ _ A35 y425.length y425 := (by rw [hA35]; exact hr35)
                        rw [← hy35, ← hA35, ← hc35] at hcut35
                        have HO429 := Aside0.mk (show Kd.V k26 26 _ w.heap.size _ (.slice A35 y425.length c35) y425 from Kd.V_mk (by rw [hy35, hc35]; exact Nat.sub_le_sub_right hroom35 _) hr35)
                        have HC429 := Aside0.mk (show y425.length ≤ c35 from by rw [hy35, hc35]; exact Nat.sub_le_sub_right hroom35 _)
                        clear hr35 hC35 hroom35 hi035 hsz35 hc35
                        have KY35 := Aside0.mk hy35
                        have KA35 := Aside0.mk hA35
                        clear hy35 hA35
                        replace q35 := eq_true q35
                        refine start_ (n := 11) (S := fun w' => True) (ds := []) #[false, false, false, false, false, false, false, false, false, false, false] (by kernel_rfl) rfl rfl trivial (fun hHeld => ?_); refine with_tabW interlocutorlaw4_GramFewer.tab9 interlocutorlaw4_GramFewer.bits9 (fun HT_ HW_ => ?_)
                        generalize w31.drew = w33 at HO411 HB HO421 HO429 hHeld ⊢
                        refine pure_ (i := 1) (N := some 30) (v := ?_) (a' := ?_) #[false, true, false, false, false, false, false, false, false, false, false] rfl rfl (any_of HT_.out (by kernel_rfl)) (fun _ _ _ h => h) (Or.inl ⟨by rfl, ?_⟩) ?_ ?_
                        rotate_left
                        · intro w'
                          go_simp
                          with_reducible rfl
                        rotate_left
                        · simp only [Act.put, List.setIfInBounds_toArray, List.set_cons_zero, List.set_cons_succ, i64_w, i32_w]
                          rfl
                        refine pure_ (i := 2) (N := some 31) (v := ?_) (a' := ?_) #[false, true, true, false, false, false, false, false, false, false, false] rfl rfl (any_of HT_.out (by kernel_rfl)) (fun _ _ _ h => h) (Or.inl ⟨by rfl, ?_⟩) ?_ ?_
                        rotate_left
                        · intro w'
                          go_simp
                          with_reducible rfl
                        rotate_left
                        · simp only [Act.put, List.setIfInBounds_toArray, List.set_cons_zero, List.set_cons_succ, i64_w, i32_w]
                          rfl
                        refine pure_ (i := 3) (N := some 32) (v := ?_) (a' := ?_) #[false, true, true, true, false, false, false, false, false, false, false] rfl rfl (any_of HT_.out (by kernel_rfl)) (fun _ _ _ h => h) (Or.inl ⟨by rfl, ?_⟩) ?_ ?_
                        rotate_left
                        · intro w'
                          go_simp
                          with_reducible rfl
                        rotate_left
                        · simp only [Act.put, List.setIfInBounds_toArray, List.set_cons_zero, List.set_cons_succ, i64_w, i32_w]
                          rfl
                        refine pure_ (i := 5) (N := some 34) (v := ?_) (a' := ?_) #[false, true, true, true, false, true, false, false, false, false, false] rfl rfl (any_of HT_.out (by kernel_rfl)) (fun _ _ _ h => h) (Or.inl ⟨by rfl, ?_⟩) ?_ ?_
                        rotate_left
                        · intro w'
                          go_simp
                          with_reducible rfl
                        rotate_left
                        · simp only [Act.put, List.setIfInBounds_toArray, List.set_cons_zero, List.set_cons_succ, i64_w, i32_w]
                          rfl
                        refine pure_ (i := 6) (N := some 35) (v := ?_) (a' := ?_) #[false, true, true, true, false, true, true, false, false, false, false] rfl rfl (any_of HT_.out (by kernel_rfl)) (fun _ _ _ h => h) (Or.inl ⟨by rfl, ?_⟩) ?_ ?_
                        rotate_left
                        · intro w'
                          go_simp
                          with_reducible rfl
                        rotate_left
                        · simp only [Act.put, List.setIfInBounds_toArray, List.set_cons_zero, List.set_cons_succ, i64_w, i32_w]
                          rfl
                        refine pure_ (i := 7) (N := some 36) (v := ?_) (a' := ?_) #[false, true, true, true, false, true, true, true, false, false, false] rfl rfl (any_of HT_.out (by kernel_rfl)) (fun _ _ _ h => h) (Or.inl ⟨by rfl, ?_⟩) ?_ ?_
                        rotate_left
                        · intro w'
                          go_simp
                          with_reducible rfl
                        rotate_left
                        · simp only [Act.put, List.setIfInBounds_toArray, List.set_cons_zero, List.set_cons_succ, i64_w, i32_w]
                          rfl
                        refine pure_ (i := 8) (N := some 37) (v := ?_) (a' := ?_) #[false, true, true, true, false, true, true, true, true, false, false] rfl rfl (any_of HT_.out (by kernel_rfl)) (fun _ _ _ h => h) (Or.inl ⟨by rfl, ?_⟩) ?_ ?_
                        rotate_left
                        · intro w'
                          go_simp
                          with_reducible rfl
                        rotate_left
                        · simp only [Act.put, List.setIfInBounds_toArray, List.set_cons_zero, List.set_cons_succ, i64_w, i32_w]
                          rfl
                        refine one_ (i := 0) (N := some 29) #[true, true, true, true, false, true, true, true, true, false, false] rfl rfl (one_of HT_.out (by kernel_rfl)) (by decide) (fun K hK => ?_)
                        refine Kd.N_lit_step k26 _ 26 ?hg (N' := 29) ?hd (xs := ([] : List (S26))) (inner := []) (ok := (fun k_ => some k_ ≠ (.slice Ao32 t409.length co32 : Value).ownBlock)) (okp := (fun k_ => some k_ ≠ (.slice Ao32 t409.length co32 : Value).ownBlock)) ?hr ?hp (fun _ hk => hk) ((show ∀ k_, w33.heap.size ≤ k_ → (fun k_ => some k_ ≠ (.slice Ao32 t409.length co32 : Value).ownBlock) k_ from fun k_ hk => Kd.fresh' (Kd.N_lt (by (with_reducible repeat (first | apply Kd.N_alloc | apply Kd.N_drewN | apply Kd.N_drew)); exact HO411.out)) k_ hk) _ (Nat.le_refl _)) (Below.refl _ _) (Nat.le_refl _) (by simp) ?_; (case hd => rfl); (case hg => rfl); (case hr => first | (go_simp; done) | (go_simp; rfl)); (case hp => exact (Reps.none _ _))
                        intro v415 w36 ho37 hb hg_ hnew_
                        clear hg_ hnew_
                        (first | rw [← Ny414.out] at ho37 | (simp only [Int.reduceToNat] at ho37; rw [← Ny414.out] at ho37))
                        have n0_ := Aside0.mk (Kd.N_elder' (by (with_reducible repeat (first | apply Kd.N_alloc | apply Kd.N_drewN | apply Kd.N_drew)); exact HO411.out) (Kd.N_base ho37) hb)
                        have n1_ := Aside0.mk (Kd.V_elder' (by (with_reducible repeat (first | apply Kd.V_alloc | apply Kd.V_drewN | apply Kd.V_drew)); exact HO421.out) (Kd.N_base ho37) hb)
                        have n2_ := Aside0.mk (Kd.V_elder' (by (with_reducible repeat (first | apply Kd.V_alloc | apply Kd.V_drewN | apply Kd.V_drew)); exact HO429.out) (Kd.N_base ho37) hb)
                        have n3_ := Aside0.mk (Kd.N_lower ho37 (below_size (by repeat (first | (with_reducible first | exact HB.out | apply below_alloc | apply pw_below_drewN | apply below_drew1) | exact HB.out))))
                        have n4_ := Aside0.mk (below_step (by repeat (first | (with_reducible first | exact HB.out | apply below_alloc | apply pw_below_drewN | apply below_drew1) | exact HB.out)) hb)
                        clear HO411
                        clear HO421
                        clear HO429
                        clear HB
                        have HO411 := n0_
                        have HO421 := n1_
                        have HO429 := n2_
                        have HO416 := n3_
                        have HB := n4_
                        clear n0_ n1_ n2_ n3_ n4_
                        clear hb ho37
                        refine hK.out _ _ trivial (fun hHeld => ?_)
                        clear hK K
                        refine norm_ (a' := ?_) ?_ ?_
                        rotate_left
                        · show Act.put _ (some 29) _ = _
                          simp only [Act.put, List.setIfInBounds_toArray, List.set_cons_zero, List.set_cons_succ, i64_w, i32_w]
                          rfl
                        refine one_ (i := 4) (N := some 33) #[true, true, true, true, true, true, true, true, true, false, false] rfl rfl (one_of HT_.out (by kernel_rfl)) (by decide) (fun K hK => ?_)
                        refine Kd.N_append_rows_step k26 (w0 := w) w.heap.size (by rfl) (.tmp 29) (.tmp 32) 36 26 (.agg #[(.int .i64 0), (.slice none 0 0), (.int .i64 0), (.slice none 0 0), (.int .i64 0)]) 72 rfl Try.underlying36 info26 rfl (by decide) (by omega) v415 y414 y417 _ _ _ (fun _ => True) (fun k_ => ((fun _ => True)) k_ ∧ some k_ ≠ (v415 : Value).ownBlock) rfl rfl ?aO ?aR (fun _ hk => hk) ?aF ?aB ?aS ?aL ?_
                        (case aR => exact (by skip; exact Kd.V_F (Kd.V_mono (ok' := (fun k_ => ((fun _ => True)) k_ ∧ some k_ ≠ (v415 : Value).ownBlock)) (HO421.out) (fun k_ hk => ⟨trivial, hk.2⟩))))
                        (case aB => exact (by repeat (first | (with_reducible first | exact HB.out | apply below_alloc | apply pw_below_drewN | apply below_drew1) | exact HB.out)))
                        (case aF => exact (fun _ _ => trivial))
                        (case aO => exact (by (with_reducible repeat (first | apply Kd.N_alloc | apply Kd.N_drewN | apply Kd.N_drew)); exact Kd.N_mono HO416.out (fun _ hk => trivial)))
                        (case aS => exact (below_size (by repeat (first | (with_reducible first | exact HB.out | apply below_alloc | apply pw_below_drewN | apply below_drew1) | exact HB.out))))
                        (case aL => have := LMc19.out; omega)
                        intro v423 w38 ho hb hg hat
                        rw [← Ny422.out] at ho
                        have n0_ := Aside0.mk (Kd.N_afterv (ok := (fun _ => True)) (by (with_reducible repeat (first | apply Kd.N_alloc | apply Kd.N_drewN | apply Kd.N_drew)); exact HO411.out) hg hat)
                        have n1_ := Aside0.mk (Kd.V_afterv (ok := (fun _ => True)) (by (with_reducible repeat (first | apply Kd.V_alloc | apply Kd.V_drewN | apply Kd.V_drew)); exact HO421.out) hg hat)
                        have n2_ := Aside0.mk (Kd.V_afterv (ok := (fun _ => True)) (by (with_reducible repeat (first | apply Kd.V_alloc | apply Kd.V_drewN | apply Kd.V_drew)); exact HO429.out) hg hat)
                        have n3_ := Aside0.mk (hb)
                        have n4_ := Aside0.mk (ho)
                        clear HO411
                        clear HO421
                        clear HO429
                        clear HB
                        clear HO416
                        have HO411 := n0_
                        have HO421 := n1_
                        have HO429 := n2_
                        have HB := n3_
                        have HO424 := n4_
                        clear n0_ n1_ n2_ n3_ n4_
                        clear ho hb hg hat
                        refine hK.out _ _ trivial (fun hHeld => ?_)
                        clear hK K
                        refine norm_ (a' := ?_) ?_ ?_
                        rotate_left
                        · show Act.put _ (some 33) _ = _
                          simp only [Act.put, List.setIfInBounds_toArray, List.set_cons_zero, List.set_cons_succ, i64_w, i32_w]
                          rfl
                        refine one_ (i := 9) (N := some 38) #[true, true, true, true, true, true, true, true, true, true, false] rfl rfl (one_of HT_.out (by kernel_rfl)) (by decide) (fun K hK => ?_)
                        refine Kd.N_append_rows_step k26 (w0 := w) w.heap.size (by rfl) (.tmp 33) (.tmp 37) 36 26 (.agg #[(.int .i64 0), (.slice none 0 0), (.int .i64 0), (.slice none 0 0), (.int .i64 0)]) 72 rfl Try.underlying36 info26 rfl (by decide) (by omega) v423 y422 y425 _ _ _ (fun _ => True) (fun k_ => ((fun _ => True)) k_ ∧ some k_ ≠ (v423 : Value).ownBlock) rfl rfl ?aO ?aR (fun _ hk => hk) ?aF ?aB ?aS ?aL ?_
                        (case aR => exact (by skip; exact Kd.V_F (Kd.V_mono (ok' := (fun k_ => ((fun _ => True)) k_ ∧ some k_ ≠ (v423 : Value).ownBlock)) (HO429.out) (fun k_ hk => ⟨trivial, hk.2⟩))))
                        (case aB => exact (by repeat (first | (with_reducible first | exact HB.out | apply below_alloc | apply pw_below_drewN | apply below_drew1) | exact HB.out)))
                        (case aF => exact (fun _ _ => trivial))
                        (case aO => exact (by (with_reducible repeat (first | apply Kd.N_alloc | apply Kd.N_drewN | apply Kd.N_drew)); exact HO424.out))
                        (case aS => exact (below_size (by repeat (first | (with_reducible first | exact HB.out | apply below_alloc | apply pw_below_drewN | apply below_drew1) | exact HB.out))))
                        (case aL => have := LMc23.out; omega)
                        intro v431 w39 ho hb hg hat
                        rw [← Ny430.out] at ho
                        have n0_ := Aside0.mk (Kd.N_afterv (ok := (fun _ => True)) (by (with_reducible repeat (first | apply Kd.N_alloc | apply Kd.N_drewN | apply Kd.N_drew)); exact HO411.out) hg hat)
                        have n1_ := Aside0.mk (Kd.V_afterv (ok := (fun _ => True)) (by (with_reducible repeat (first | apply Kd.V_alloc | apply Kd.V_drewN | apply Kd.V_drew)); exact HO421.out) hg hat)
                        have n2_ := Aside0.mk (Kd.V_afterv (ok := (fun _ => True)) (by (with_reducible repeat (first | apply Kd.V_alloc | apply Kd.V_drewN | apply Kd.V_drew)); exact HO429.out) hg hat)
                        have n3_ := Aside0.mk (hb)
                        have n4_ := Aside0.mk (ho)
                        clear HO411
                        clear HO421
                        clear HO429
                        clear HB
                        clear HO424
                        have HO411 := n0_
                        have HO421 := n1_
                        have HO429 := n2_
                        have HB := n3_
                        have HO432 := n4_
                        clear n0_ n1_ n2_ n3_ n4_
                        clear ho hb hg hat
                        refine hK.out _ _ trivial (fun hHeld => ?_)
                        clear hK K
                        refine norm_ (a' := ?_) ?_ ?_
                        rotate_left
                        · show Act.put _ (some 38) _ = _
                          simp only [Act.put, List.setIfInBounds_toArray, List.set_cons_zero, List.set_cons_succ, i64_w, i32_w]
                          rfl
                        refine pure_ (i := 10) (N := some 9) (v := ?_) (a' := ?_) #[true, true, true, true, true, true, true, true, true, true, true] rfl rfl (any_of HT_.out (by kernel_rfl)) (fun _ _ _ h => h) (Or.inl ⟨by rfl, ?_⟩) ?_ ?_
                        rotate_left
                        · intro w'
                          go_simp
                          with_reducible rfl
                        rotate_left
                        · simp only [Act.put, List.setIfInBounds_toArray, List.set_cons_zero, List.set_cons_succ, i64_w, i32_w]
                          rfl
                        refine done_ (done_of HT_.out (by kernel_rfl)) ?_
                        try go_wp2_with (first | ((with_reducible refine gate_callee (f := 21) rfl ?_); refine goesL_ (some 40) rfl rfl Try.func21 (by kernel_rfl) rfl #[.slice Ao32 t409.length co32] rfl (by (try simp only [List.map_toArray, List.map_cons, List.map_nil]); first | done | rfl | (simp only [List.length_drop, List.length_take]; rfl)) ?_; (with_reducible refine (gram_Check.calls _ _ t409 true _ ?side1 ?side2 A24.out).mono ?_); (case side1 => repeat (first | exact (Kd.N_reads' HO411.out).2.2 | (with_reducible refine Kd.C_alloc ?_ _) | (with_reducible refine Kd.C_drewN ?_ _) | (with_reducible refine Kd.C_drew ?_))); (case side2 => exact (Kd.N_reads' HO411.out).2.1); rintro e w40 ⟨rfl, hb⟩; refine ⟨_, rfl, ?_⟩; have n0_ := Aside0.mk (Kd.N_below (by (with_reducible repeat (first | apply Kd.N_alloc | apply Kd.N_drewN | apply Kd.N_drew)); exact HO411.out) hb); have n1_ := Aside0.mk (Kd.V_below (by (with_reducible repeat (first | apply Kd.V_alloc | apply Kd.V_drewN | apply Kd.V_drew)); exact HO421.out) hb); have n2_ := Aside0.mk (Kd.V_below (by (with_reducible repeat (first | apply Kd.V_alloc | apply Kd.V_drewN | apply Kd.V_drew)); exact HO429.out) hb); have n3_ := Aside0.mk (Kd.N_below (by (with_reducible repeat (first | apply Kd.N_alloc | apply Kd.N_drewN | apply Kd.N_drew)); exact HO432.out) hb); have n4_ := Aside0.mk (below_step (by repeat (first | (with_reducible first | exact HB.out | apply below_alloc | apply pw_below_drewN | apply below_drew1) | exact HB.out)) hb); clear HO411; clear HO421; clear HO429; clear HO432; clear HB; have HO411 := n0_; have HO421 := n1_; have HO429 := n2_; have HO432 := n3_; have HB := n4_; clear n0_ n1_ n2_ n3_ n4_; (try clear hb); (try clear hb2); (try clear hk); (try clear hi); obtain ⟨Ao41, co41, eo41⟩ := Kd.N_slice HO432.out; subst eo41) | (go_at_call 21; (with_reducible refine (gram_Check.calls _ _ y430 true _ ?side1 ?side2 A26.out).mono ?_); (case side1 => repeat (first | exact (Kd.N_reads' HO432.out).2.2 | (with_reducible refine Kd.C_alloc ?_ _) | (with_reducible refine Kd.C_drewN ?_ _) | (with_reducible refine Kd.C_drew ?_))); (case side2 => exact (Kd.N_reads' HO432.out).2.1); rintro e w42 ⟨rfl, hb⟩; have n0_ := Aside0.mk (Kd.N_below (by (with_reducible repeat (first | apply Kd.N_alloc | apply Kd.N_drewN | apply Kd.N_drew)); exact HO411.out) hb); have n1_ := Aside0.mk (Kd.V_below (by (with_reducible repeat (first | apply Kd.V_alloc | apply Kd.V_drewN | apply Kd.V_drew)); exact HO421.out) hb); have n2_ := Aside0.mk (Kd.V_below (by (with_reducible repeat (first | apply Kd.V_alloc | apply Kd.V_drewN | apply Kd.V_drew)); exact HO429.out) hb); have n3_ := Aside0.mk (Kd.N_below (by (with_reducible repeat (first | apply Kd.N_alloc | apply Kd.N_drewN | apply Kd.N_drew)); exact HO432.out) hb); have n4_ := Aside0.mk (below_step (by repeat (first | (with_reducible first | exact HB.out | apply below_alloc | apply pw_below_drewN | apply below_drew1) | exact HB.out)) hb); clear HO411; clear HO421; clear HO429; clear HO432; clear HB; have HO411 := n0_; have HO421 := n1_; have HO429 := n2_; have HO432 := n3_; have HB := n4_; clear n0_ n1_ n2_ n3_ n4_; (try clear hb); (try clear hb2); (try clear hk); (try clear hi)) | (go_at_call 24; (with_reducible refine (gram_Reached.calls _ _ y430 t435 _ ?side1 ?side2 A28.out).mono ?_); (case side1 => repeat (first | exact (Kd.N_reads' HO432.out).2.2 | (with_reducible refine Kd.C_alloc ?_ _) | (with_reducible refine Kd.C_drewN ?_ _) | (with_reducible refine Kd.C_drew ?_))); (case side2 => exact (Kd.N_reads' HO432.out).2.1); rintro e w43 ⟨v436, rfl, ho0, hb⟩; have n0_ := Aside0.mk (Kd.N_elder' (by (with_reducible repeat (first | apply Kd.N_alloc | apply Kd.N_drewN | apply Kd.N_drew)); exact HO411.out) (Kd.R_base ho0) hb); have n1_ := Aside0.mk (Kd.V_elder' (by (with_reducible repeat (first | apply Kd.V_alloc | apply Kd.V_drewN | apply Kd.V_drew)); exact HO421.out) (Kd.R_base ho0) hb); have n2_ := Aside0.mk (Kd.V_elder' (by (with_reducible repeat (first | apply Kd.V_alloc | apply Kd.V_drewN | apply Kd.V_drew)); exact HO429.out) (Kd.R_base ho0) hb); have n3_ := Aside0.mk (Kd.N_elder' (by (with_reducible repeat (first | apply Kd.N_alloc | apply Kd.N_drewN | apply Kd.N_drew)); exact HO432.out) (Kd.R_base ho0) hb); have n4_ := Aside0.mk (Kd.R_lower ho0 (below_size (by repeat (first | (with_reducible first | exact HB.out | apply below_alloc | apply pw_below_drewN | apply below_drew1) | exact HB.out)))); have n5_ := Aside0.mk (below_step (by repeat (first | (with_reducible first | exact HB.out | apply below_alloc | apply pw_below_drewN | apply below_drew1) | exact HB.out)) hb); clear HO411; clear HO421; clear HO429; clear HO432; clear HB; have HO411 := n0_; have HO421 := n1_; have HO429 := n2_; have HO432 := n3_; have HO437 := n4_; have HB := n5_; clear n0_ n1_ n2_ n3_ n4_ n5_; (try clear hb); (try clear hb2); (try clear hk); (try clear hi); (try clear ho0); obtain ⟨Ao44, co44, eo44⟩ := Kd.R_slice HO437.out; subst eo44) | (go_at_call 24; (with_reducible refine (gram_Reached.calls _ _ t409 t438 _ ?side1 ?side2 A29.out).mono ?_); (case side1 => repeat (first | exact (Kd.N_reads' HO411.out).2.2 | (with_reducible refine Kd.C_alloc ?_ _) | (with_reducible refine Kd.C_drewN ?_ _) | (with_reducible refine Kd.C_drew ?_))); (case side2 => exact (Kd.N_reads' HO411.out).2.1); rintro e w45 ⟨v439, rfl, ho0, hb⟩; have n0_ := Aside0.mk (Kd.N_elder' (by (with_reducible repeat (first | apply Kd.N_alloc | apply Kd.N_drewN | apply Kd.N_drew)); exact HO411.out) (Kd.R_base ho0) hb); have n1_ := Aside0.mk (Kd.V_elder' (by (with_reducible repeat (first | apply Kd.V_alloc | apply Kd.V_drewN | apply Kd.V_drew)); exact HO421.out) (Kd.R_base ho0) hb); have n2_ := Aside0.mk (Kd.V_elder' (by (with_reducible repeat (first | apply Kd.V_alloc | apply Kd.V_drewN | apply Kd.V_drew)); exact HO429.out) (Kd.R_base ho0) hb); have n3_ := Aside0.mk (Kd.N_elder' (by (with_reducible repeat (first | apply Kd.N_alloc | apply Kd.N_drewN | apply Kd.N_drew)); exact HO432.out) (Kd.R_base ho0) hb); have n4_ := Aside0.mk (Kd.R_elder' (by (with_reducible repeat (first | apply Kd.R_alloc | apply Kd.R_drewN | apply Kd.R_drew)); exact HO437.out) (Kd.R_base ho0) hb); have n5_ := Aside0.mk (Kd.R_lower (Kd.R_new' ho0 (Kd.R_lt (by (with_reducible repeat (first | apply Kd.R_alloc | apply Kd.R_drewN | apply Kd.R_drew)); exact HO437.out))) (below_size (by repeat (first | (with_reducible first | exact HB.out | apply below_alloc | apply pw_below_drewN | apply below_drew1) | exact HB.out)))); have n6_ := Aside0.mk (below_step (by repeat (first | (with_reducible first | exact HB.out | apply below_alloc | apply pw_below_drewN | apply below_drew1) | exact HB.out)) hb); clear HO411; clear HO421; clear HO429; clear HO432; clear HO437; clear HB; have HO411 := n0_; have HO421 := n1_; have HO429 := n2_; have HO432 := n3_; have HO437 := n4_; have HO440 := n5_; have HB := n6_; clear n0_ n1_ n2_ n3_ n4_ n5_ n6_; (try clear hb); (try clear hb2); (try clear hk); (try clear hi); (try clear ho0); obtain ⟨Ao46, co46, eo46⟩ := Kd.R_slice HO440.out; subst eo46))
                        go_ret
                        exact ⟨by first | rfl | (simp [errW_none, errW_some] <;> rfl) | (simp only [← hji20]; first | rfl | (simp [errW_none, errW_some] <;> rfl)) | (simp [*, errW_none, errW_some] <;> rfl), by repeat (first | (with_reducible first | exact HB.out | apply below_alloc | apply pw_below_drewN | apply below_drew1) | exact HB.out)⟩
                      · replace c27 := Bool.eq_false_iff.mpr c27
                        subst c27
                        have H1 : (some false) = some r := by rw [if_neg (show ¬ (false = true) by decide)] at H; exact H
                        clear H
                        have H := H1
                        clear H1
                        obtain rfl := Option.some.inj H
                        go_enter Try.func9, Try.ntmps9
                        try go_wp2_with (first | ((with_reducible refine gate_callee (f := 13) rfl ?_); refine goesL_ (some 10) rfl rfl Try.func13 (by kernel_rfl) rfl #[] rfl (by (try simp only [List.map_toArray, List.map_cons, List.map_nil]); first | done | rfl | (simp only [List.length_drop, List.length_take]; rfl)) ?_; (with_reducible refine (interlocutorlaw4_known.calls  true _ A4.out).mono ?_); rintro e w47 ⟨rfl, hb⟩; refine ⟨_, rfl, ?_⟩; have n0_ := Aside0.mk (below_step (by repeat (first | (with_reducible first | exact HB.out | apply below_alloc | apply pw_below_drewN | apply below_drew1) | exact HB.out)) hb); clear HB; have HB := n0_; clear n0_; (try clear hb); (try clear hb2); (try clear hk); (try clear hi)) | ((with_reducible refine gate_callee (f := 14) rfl ?_); refine goesL_ (some 13) rfl rfl Try.func14 (by kernel_rfl) rfl #[.slice A0 l0.length c0] rfl (by (try simp only [List.map_toArray, List.map_cons, List.map_nil]); first | done | rfl | (simp only [List.length_drop, List.length_take]; rfl)) ?_; (with_reducible refine (interlocutorlaw4_Few.calls k _ _ l0 true _ ?side1 ?side2 A6.out).mono ?_); (case side1 => repeat (first | exact (Kd.C_below HR0.out HB.out) | (with_reducible refine Kd.C_alloc ?_ _) | (with_reducible refine Kd.C_drewN ?_ _) | (with_reducible refine Kd.C_drew ?_))); (case side2 => exact HC0.out); rintro e w' ⟨rfl, ⟨nd, rfl⟩⟩; refine ⟨_, rfl, ?_⟩) | ((with_reducible refine gate_callee (f := 17) rfl ?_); refine goesL_ (some 17) rfl rfl Try.func17 (by kernel_rfl) rfl #[.int .i64 a1, .int .i64 20] rfl (by (try simp only [List.map_toArray, List.map_cons, List.map_nil]); first | done | rfl | (simp only [List.length_drop, List.length_take]; rfl)) ?_; (with_reducible refine (interlocutorlaw4_within.calls a1 20 t408 _ A8.out).mono ?_); rintro e w' ⟨rfl, ⟨nd, rfl⟩⟩; refine ⟨_, rfl, ?_⟩) | ((with_reducible refine gate_callee (f := 26) rfl ?_); refine goesL_ (some 19) rfl rfl Try.func26 (by kernel_rfl) rfl #[.slice A0 l0.length c0, .int .i64 (wrap64 (1 + t408))] rfl (by (try simp only [List.map_toArray, List.map_cons, List.map_nil]); first | done | rfl | (simp only [List.length_drop, List.length_take]; rfl)) ?_; (with_reducible refine (interlocutorlaw4_Rules.calls k _ _ l0 (wrap64 (1 + t408)) t409 _ ?side1 ?side2 A9.out).mono ?_); (case side1 => repeat (first | exact (Kd.C_below HR0.out (by repeat (first | (with_reducible first | exact HB.out | apply below_alloc | apply pw_below_drewN | apply below_drew1) | exact HB.out))) | (with_reducible refine Kd.C_alloc ?_ _) | (with_reducible refine Kd.C_drewN ?_ _) | (with_reducible refine Kd.C_drew ?_))); (case side2 => exact HC0.out); rintro e w48 ⟨v410, rfl, ho0, hb⟩; refine ⟨_, rfl, ?_⟩; have n0_ := Aside0.mk (Kd.N_lower (Kd.N_mono (ok' := fun k_ => True) ho0 (fun k_ hk_ => trivial)) (below_size (by repeat (first | (with_reducible first | exact HB.out | apply below_alloc | apply pw_below_drewN | apply below_drew1) | exact HB.out)))); have n1_ := Aside0.mk (below_step (by repeat (first | (with_reducible first | exact HB.out | apply below_alloc | apply pw_below_drewN | apply below_drew1) | exact HB.out)) hb); clear HB; have HO411 := n0_; have HB := n1_; clear n0_ n1_; (try clear hb); (try clear hb2); (try clear hk); (try clear hi); (try clear ho0); obtain ⟨Ao49, co49, eo49⟩ := Kd.N_slice HO411.out; subst eo49) | ((with_reducible refine gate_callee (f := 17) rfl ?_); refine goesL_ (some 28) rfl rfl Try.func17 (by kernel_rfl) rfl #[.int .i64 a2, .int .i64 (t409.length : Int)] rfl (by (try simp only [List.map_toArray, List.map_cons, List.map_nil]); first | done | rfl | (simp only [List.length_drop, List.length_take]; rfl)) ?_; (with_reducible refine (interlocutorlaw4_within.calls a2 (t409.length : Int) t413 _ A16.out).mono ?_); rintro e w' ⟨rfl, ⟨nd, rfl⟩⟩; refine ⟨_, rfl, ?_⟩))
                        (try (rw [drewN_self w48]; generalize hq_ : World.drewN w48 _ = w48; have n0_ : Aside0 (Kd.N k26 26 w48 w.heap.size (fun _ => True) (.slice Ao49 t409.length co49) t409) := ⟨by rw [← hq_]; exact (by (with_reducible repeat (first | apply Kd.N_alloc | apply Kd.N_drewN | apply Kd.N_drew)); exact HO411.out)⟩; have n1_ : Aside0 (Below w.heap.size w w48) := ⟨by rw [← hq_]; exact (by repeat (first | (with_reducible first | exact HB.out | apply below_alloc | apply pw_below_drewN | apply below_drew1) | exact HB.out))⟩; clear HO411 HB hq_; have HO411 := n0_; have HB := n1_; clear n0_ n1_))
                        have n0_ := Aside0.mk (Kd.N_drew HO411.out)
                        have n1_ := Aside0.mk (below_drew1 HB.out)
                        clear HO411
                        clear HB
                        have HO411 := n0_
                        have HB := n1_
                        clear n0_ n1_
                        have q51 : (t413 : Int) ≤ ((t409.length : Int) : Int) := of_decide_eq_true (by first | (with_reducible assumption) | assumption)
                        obtain ⟨i051, hi051, _, hsz51, _⟩ := info_parts info26
                        have hroom51 : t409.length ≤ co49 := (Kd.N_reads' HO411.out).2.1
                        have hC51 : Kd.F k26 _ _ Ao49 t409.length t409 := (Kd.V_at (base := w.heap.size) (Kd.N_V HO411.out)).2.2
                        have hcut51 := cut_to (P := Try.prog) 36 26 .i64 Try.underlying36 hi051 Ao49 t409.length co49 t413 (of_decide_eq_true (by first | (with_reducible assumption) | assumption)) q51 hroom51
                        have hr51 := Kd.F_take (m := (t413 : Int).toNat) hC51 (by omega)
                        have hy51 : y417.length = (t413 : Int).toNat := (by rw [Ny417.out, List.length_take]; omega)
                        rw [← Ny417.out] at hr51
                        rw [← hy51] at hcut51
                        have HO421 := Aside0.mk (show Kd.V k26 26 _ w.heap.size _ (.slice Ao49 y417.length co49) y417 from Kd.V_mk (by omega) hr51)
                        have HC421 := Aside0.mk (show y417.length ≤ co49 from by omega)
                        clear hr51 hC51 hroom51 hi051 hsz51
                        have KY51 := Aside0.mk hy51
                        clear hy51
                        replace q51 := eq_true q51
                        have q52 : ((ji20) : Int) ≤ ((t409.length : Int) : Int) := of_decide_eq_true (by first | (with_reducible assumption) | assumption)
                        obtain ⟨i052, hi052, _, hsz52, _⟩ := info_parts info26
                        have hroom52 : t409.length ≤ co49 := (Kd.N_reads' HO411.out).2.1
                        have hC52 : Kd.F k26 _ _ Ao49 t409.length t409 := (Kd.V_at (base := w.heap.size) (Kd.N_V HO411.out)).2.2
                        have q052 : (0 : Int) ≤ ((ji20) : Int) := of_decide_eq_true (by first | (with_reducible assumption) | assumption)
                        have hcut52 := cut_from (P := Try.prog) 36 26 .i64 Try.underlying36 hi052 5 hsz52 Ao49 t409.length co49 (ji20) q052 q52
                        have hr52 := Kd.F_cut (m := ((ji20) : Int).toNat) (c := co49) hC52 (by omega) hroom52
                        obtain ⟨A52, hA52⟩ : ∃ A1, A1 = (if co49 = ((ji20) : Int).toNat then Ao49 else (Ao49 : Option Addr).map (·.add (((ji20) : Int).toNat * 5))) := ⟨_, rfl⟩
                        obtain ⟨c52, hc52⟩ : ∃ c1, c1 = co49 - ((ji20) : Int).toNat := ⟨_, rfl⟩
                        have hy52 : y425.length = t409.length - ((ji20) : Int).toNat := (by rw [Ny425.out, List.length_drop] <;> omega)
                        rw [show (t409).drop ((ji20) : Int).toNat = y425 from Ny425.out.symm] at hr52
                        replace hr52 : Kd.F k26 _ _ A52 y425.length y425 := (by rw [hA52]; exact hr52)
                        rw [← hy52, ← hA52, ← hc52] at hcut52
                        have HO429 := Aside0.mk (show Kd.V k26 26 _ w.heap.size _ (.slice A52 y425.length c52) y425 from Kd.V_mk (by rw [hy52, hc52]; exact Nat.sub_le_sub_right hroom52 _) hr52)
                        have HC429 := Aside0.mk (show y425.length ≤ c52 from by rw [hy52, hc52]; exact Nat.sub_le_sub_right hroom52 _)
                        clear hr52 hC52 hroom52 hi052 hsz52 hc52
                        have KY52 := Aside0.mk hy52
                        have KA52 := Aside0.mk hA52
                        clear hy52 hA52
                        replace q52 := eq_true q52
                        refine start_ (n := 11) (S := fun w' => True) (ds := []) #[false, false, false, false, false, false, false, false, false, false, false] (by kernel_rfl) rfl rfl trivial (fun hHeld => ?_); refine with_tabW interlocutorlaw4_GramFewer.tab9 interlocutorlaw4_GramFewer.bits9 (fun HT_ HW_ => ?_)
                        generalize w48.drew = w50 at HO411 HB HO421 HO429 hHeld ⊢
                        refine pure_ (i := 1) (N := some 30) (v := ?_) (a' := ?_) #[false, true, false, false, false, false, false, false, false, false, false] rfl rfl (any_of HT_.out (by kernel_rfl)) (fun _ _ _ h => h) (Or.inl ⟨by rfl, ?_⟩) ?_ ?_
                        rotate_left
                        · intro w'
                          go_simp
                          with_reducible rfl
                        rotate_left
                        · simp only [Act.put, List.setIfInBounds_toArray, List.set_cons_zero, List.set_cons_succ, i64_w, i32_w]
                          rfl
                        refine pure_ (i := 2) (N := some 31) (v := ?_) (a' := ?_) #[false, true, true, false, false, false, false, false, false, false, false] rfl rfl (any_of HT_.out (by kernel_rfl)) (fun _ _ _ h => h) (Or.inl ⟨by rfl, ?_⟩) ?_ ?_
                        rotate_left
                        · intro w'
                          go_simp
                          with_reducible rfl
                        rotate_left
                        · simp only [Act.put, List.setIfInBounds_toArray, List.set_cons_zero, List.set_cons_succ, i64_w, i32_w]
                          rfl
                        refine pure_ (i := 3) (N := some 32) (v := ?_) (a' := ?_) #[false, true, true, true, false, false, false, false, false, false, false] rfl rfl (any_of HT_.out (by kernel_rfl)) (fun _ _ _ h => h) (Or.inl ⟨by rfl, ?_⟩) ?_ ?_
                        rotate_left
                        · intro w'
                          go_simp
                          with_reducible rfl
                        rotate_left
                        · simp only [Act.put, List.setIfInBounds_toArray, List.set_cons_zero, List.set_cons_succ, i64_w, i32_w]
                          rfl
                        refine pure_ (i := 5) (N := some 34) (v := ?_) (a' := ?_) #[false, true, true, true, false, true, false, false, false, false, false] rfl rfl (any_of HT_.out (by kernel_rfl)) (fun _ _ _ h => h) (Or.inl ⟨by rfl, ?_⟩) ?_ ?_
                        rotate_left
                        · intro w'
                          go_simp
                          with_reducible rfl
                        rotate_left
                        · simp only [Act.put, List.setIfInBounds_toArray, List.set_cons_zero, List.set_cons_succ, i64_w, i32_w]
                          rfl
                        refine pure_ (i := 6) (N := some 35) (v := ?_) (a' := ?_) #[false, true, true, true, false, true, true, false, false, false, false] rfl rfl (any_of HT_.out (by kernel_rfl)) (fun _ _ _ h => h) (Or.inl ⟨by rfl, ?_⟩) ?_ ?_
                        rotate_left
                        · intro w'
                          go_simp
                          with_reducible rfl
                        rotate_left
                        · simp only [Act.put, List.setIfInBounds_toArray, List.set_cons_zero, List.set_cons_succ, i64_w, i32_w]
                          rfl
                        refine pure_ (i := 7) (N := some 36) (v := ?_) (a' := ?_) #[false, true, true, true, false, true, true, true, false, false, false] rfl rfl (any_of HT_.out (by kernel_rfl)) (fun _ _ _ h => h) (Or.inl ⟨by rfl, ?_⟩) ?_ ?_
                        rotate_left
                        · intro w'
                          go_simp
                          with_reducible rfl
                        rotate_left
                        · simp only [Act.put, List.setIfInBounds_toArray, List.set_cons_zero, List.set_cons_succ, i64_w, i32_w]
                          rfl
                        refine pure_ (i := 8) (N := some 37) (v := ?_) (a' := ?_) #[false, true, true, true, false, true, true, true, true, false, false] rfl rfl (any_of HT_.out (by kernel_rfl)) (fun _ _ _ h => h) (Or.inl ⟨by rfl, ?_⟩) ?_ ?_
                        rotate_left
                        · intro w'
                          go_simp
                          with_reducible rfl
                        rotate_left
                        · simp only [Act.put, List.setIfInBounds_toArray, List.set_cons_zero, List.set_cons_succ, i64_w, i32_w]
                          rfl
                        refine one_ (i := 0) (N := some 29) #[true, true, true, true, false, true, true, true, true, false, false] rfl rfl (one_of HT_.out (by kernel_rfl)) (by decide) (fun K hK => ?_)
                        refine Kd.N_lit_step k26 _ 26 ?hg (N' := 29) ?hd (xs := ([] : List (S26))) (inner := []) (ok := (fun k_ => some k_ ≠ (.slice Ao49 t409.length co49 : Value).ownBlock)) (okp := (fun k_ => some k_ ≠ (.slice Ao49 t409.length co49 : Value).ownBlock)) ?hr ?hp (fun _ hk => hk) ((show ∀ k_, w50.heap.size ≤ k_ → (fun k_ => some k_ ≠ (.slice Ao49 t409.length co49 : Value).ownBlock) k_ from fun k_ hk => Kd.fresh' (Kd.N_lt (by (with_reducible repeat (first | apply Kd.N_alloc | apply Kd.N_drewN | apply Kd.N_drew)); exact HO411.out)) k_ hk) _ (Nat.le_refl _)) (Below.refl _ _) (Nat.le_refl _) (by simp) ?_; (case hd => rfl); (case hg => rfl); (case hr => first | (go_simp; done) | (go_simp; rfl)); (case hp => exact (Reps.none _ _))
                        intro v415 w53 ho54 hb hg_ hnew_
                        clear hg_ hnew_
                        (first | rw [← Ny414.out] at ho54 | (simp only [Int.reduceToNat] at ho54; rw [← Ny414.out] at ho54))
                        have n0_ := Aside0.mk (Kd.N_elder' (by (with_reducible repeat (first | apply Kd.N_alloc | apply Kd.N_drewN | apply Kd.N_drew)); exact HO411.out) (Kd.N_base ho54) hb)
                        have n1_ := Aside0.mk (Kd.V_elder' (by (with_reducible repeat (first | apply Kd.V_alloc | apply Kd.V_drewN | apply Kd.V_drew)); exact HO421.out) (Kd.N_base ho54) hb)
                        have n2_ := Aside0.mk (Kd.V_elder' (by (with_reducible repeat (first | apply Kd.V_alloc | apply Kd.V_drewN | apply Kd.V_drew)); exact HO429.out) (Kd.N_base ho54) hb)
                        have n3_ := Aside0.mk (Kd.N_lower ho54 (below_size (by repeat (first | (with_reducible first | exact HB.out | apply below_alloc | apply pw_below_drewN | apply below_drew1) | exact HB.out))))
                        have n4_ := Aside0.mk (below_step (by repeat (first | (with_reducible first | exact HB.out | apply below_alloc | apply pw_below_drewN | apply below_drew1) | exact HB.out)) hb)
                        clear HO411
                        clear HO421
                        clear HO429
                        clear HB
                        have HO411 := n0_
                        have HO421 := n1_
                        have HO429 := n2_
                        have HO416 := n3_
                        have HB := n4_
                        clear n0_ n1_ n2_ n3_ n4_
                        clear hb ho54
                        refine hK.out _ _ trivial (fun hHeld => ?_)
                        clear hK K
                        refine norm_ (a' := ?_) ?_ ?_
                        rotate_left
                        · show Act.put _ (some 29) _ = _
                          simp only [Act.put, List.setIfInBounds_toArray, List.set_cons_zero, List.set_cons_succ, i64_w, i32_w]
                          rfl
                        refine one_ (i := 4) (N := some 33) #[true, true, true, true, true, true, true, true, true, false, false] rfl rfl (one_of HT_.out (by kernel_rfl)) (by decide) (fun K hK => ?_)
                        refine Kd.N_append_rows_step k26 (w0 := w) w.heap.size (by rfl) (.tmp 29) (.tmp 32) 36 26 (.agg #[(.int .i64 0), (.slice none 0 0), (.int .i64 0), (.slice none 0 0), (.int .i64 0)]) 72 rfl Try.underlying36 info26 rfl (by decide) (by omega) v415 y414 y417 _ _ _ (fun _ => True) (fun k_ => ((fun _ => True)) k_ ∧ some k_ ≠ (v415 : Value).ownBlock) rfl rfl ?aO ?aR (fun _ hk => hk) ?aF ?aB ?aS ?aL ?_
                        (case aR => exact (by skip; exact Kd.V_F (Kd.V_mono (ok' := (fun k_ => ((fun _ => True)) k_ ∧ some k_ ≠ (v415 : Value).ownBlock)) (HO421.out) (fun k_ hk => ⟨trivial, hk.2⟩))))
                        (case aB => exact (by repeat (first | (with_reducible first | exact HB.out | apply below_alloc | apply pw_below_drewN | apply below_drew1) | exact HB.out)))
                        (case aF => exact (fun _ _ => trivial))
                        (case aO => exact (by (with_reducible repeat (first | apply Kd.N_alloc | apply Kd.N_drewN | apply Kd.N_drew)); exact Kd.N_mono HO416.out (fun _ hk => trivial)))
                        (case aS => exact (below_size (by repeat (first | (with_reducible first | exact HB.out | apply below_alloc | apply pw_below_drewN | apply below_drew1) | exact HB.out))))
                        (case aL => have := LMc19.out; omega)
                        intro v423 w55 ho hb hg hat
                        rw [← Ny422.out] at ho
                        have n0_ := Aside0.mk (Kd.N_afterv (ok := (fun _ => True)) (by (with_reducible repeat (first | apply Kd.N_alloc | apply Kd.N_drewN | apply Kd.N_drew)); exact HO411.out) hg hat)
                        have n1_ := Aside0.mk (Kd.V_afterv (ok := (fun _ => True)) (by (with_reducible repeat (first | apply Kd.V_alloc | apply Kd.V_drewN | apply Kd.V_drew)); exact HO421.out) hg hat)
                        have n2_ := Aside0.mk (Kd.V_afterv (ok := (fun _ => True)) (by (with_reducible repeat (first | apply Kd.V_alloc | apply Kd.V_drewN | apply Kd.V_drew)); exact HO429.out) hg hat)
                        have n3_ := Aside0.mk (hb)
                        have n4_ := Aside0.mk (ho)
                        clear HO411
                        clear HO421
                        clear HO429
                        clear HB
                        clear HO416
                        have HO411 := n0_
                        have HO421 := n1_
                        have HO429 := n2_
                        have HB := n3_
                        have HO424 := n4_
                        clear n0_ n1_ n2_ n3_ n4_
                        clear ho hb hg hat
                        refine hK.out _ _ trivial (fun hHeld => ?_)
                        clear hK K
                        refine norm_ (a' := ?_) ?_ ?_
                        rotate_left
                        · show Act.put _ (some 33) _ = _
                          simp only [Act.put, List.setIfInBounds_toArray, List.set_cons_zero, List.set_cons_succ, i64_w, i32_w]
                          rfl
                        refine one_ (i := 9) (N := some 38) #[true, true, true, true, true, true, true, true, true, true, false] rfl rfl (one_of HT_.out (by kernel_rfl)) (by decide) (fun K hK => ?_)
                        refine Kd.N_append_rows_step k26 (w0 := w) w.heap.size (by rfl) (.tmp 33) (.tmp 37) 36 26 (.agg #[(.int .i64 0), (.slice none 0 0), (.int .i64 0), (.slice none 0 0), (.int .i64 0)]) 72 rfl Try.underlying36 info26 rfl (by decide) (by omega) v423 y422 y425 _ _ _ (fun _ => True) (fun k_ => ((fun _ => True)) k_ ∧ some k_ ≠ (v423 : Value).ownBlock) rfl rfl ?aO ?aR (fun _ hk => hk) ?aF ?aB ?aS ?aL ?_
                        (case aR => exact (by skip; exact Kd.V_F (Kd.V_mono (ok' := (fun k_ => ((fun _ => True)) k_ ∧ some k_ ≠ (v423 : Value).ownBlock)) (HO429.out) (fun k_ hk => ⟨trivial, hk.2⟩))))
                        (case aB => exact (by repeat (first | (with_reducible first | exact HB.out | apply below_alloc | apply pw_below_drewN | apply below_drew1) | exact HB.out)))
                        (case aF => exact (fun _ _ => trivial))
                        (case aO => exact (by (with_reducible repeat (first | apply Kd.N_alloc | apply Kd.N_drewN | apply Kd.N_drew)); exact HO424.out))
                        (case aS => exact (below_size (by repeat (first | (with_reducible first | exact HB.out | apply below_alloc | apply pw_below_drewN | apply below_drew1) | exact HB.out))))
                        (case aL => have := LMc23.out; omega)
                        intro v431 w56 ho hb hg hat
                        rw [← Ny430.out] at ho
                        have n0_ := Aside0.mk (Kd.N_afterv (ok := (fun _ => True)) (by (with_reducible repeat (first | apply Kd.N_alloc | apply Kd.N_drewN | apply Kd.N_drew)); exact HO411.out) hg hat)
                        have n1_ := Aside0.mk (Kd.V_afterv (ok := (fun _ => True)) (by (with_reducible repeat (first | apply Kd.V_alloc | apply Kd.V_drewN | apply Kd.V_drew)); exact HO421.out) hg hat)
                        have n2_ := Aside0.mk (Kd.V_afterv (ok := (fun _ => True)) (by (with_reducible repeat (first | apply Kd.V_alloc | apply Kd.V_drewN | apply Kd.V_drew)); exact HO429.out) hg hat)
                        have n3_ := Aside0.mk (hb)
                        have n4_ := Aside0.mk (ho)
                        clear HO411
                        clear HO421
                        clear HO429
                        clear HB
                        clear HO424
                        have HO411 := n0_
                        have HO421 := n1_
                        have HO429 := n2_
                        have HB := n3_
                        have HO432 := n4_
                        clear n0_ n1_ n2_ n3_ n4_
                        clear ho hb hg hat
                        refine hK.out _ _ trivial (fun hHeld => ?_)
                        clear hK K
                        refine norm_ (a' := ?_) ?_ ?_
                        rotate_left
                        · show Act.put _ (some 38) _ = _
                          simp only [Act.put, List.setIfInBounds_toArray, List.set_cons_zero, List.set_cons_succ, i64_w, i32_w]
                          rfl
                        refine pure_ (i := 10) (N := some 9) (v := ?_) (a' := ?_) #[true, true, true, true, true, true, true, true, true, true, true] rfl rfl (any_of HT_.out (by kernel_rfl)) (fun _ _ _ h => h) (Or.inl ⟨by rfl, ?_⟩) ?_ ?_
                        rotate_left
                        · intro w'
                          go_simp
                          with_reducible rfl
                        rotate_left
                        · simp only [Act.put, List.setIfInBounds_toArray, List.set_cons_zero, List.set_cons_succ, i64_w, i32_w]
                          rfl
                        refine done_ (done_of HT_.out (by kernel_rfl)) ?_
                        try go_wp2_with (first | ((with_reducible refine gate_callee (f := 21) rfl ?_); refine goesL_ (some 40) rfl rfl Try.func21 (by kernel_rfl) rfl #[.slice Ao49 t409.length co49] rfl (by (try simp only [List.map_toArray, List.map_cons, List.map_nil]); first | done | rfl | (simp only [List.length_drop, List.length_take]; rfl)) ?_; (with_reducible refine (gram_Check.calls _ _ t409 true _ ?side1 ?side2 A24.out).mono ?_); (case side1 => repeat (first | exact (Kd.N_reads' HO411.out).2.2 | (with_reducible refine Kd.C_alloc ?_ _) | (with_reducible refine Kd.C_drewN ?_ _) | (with_reducible refine Kd.C_drew ?_))); (case side2 => exact (Kd.N_reads' HO411.out).2.1); rintro e w57 ⟨rfl, hb⟩; refine ⟨_, rfl, ?_⟩; have n0_ := Aside0.mk (Kd.N_below (by (with_reducible repeat (first | apply Kd.N_alloc | apply Kd.N_drewN | apply Kd.N_drew)); exact HO411.out) hb); have n1_ := Aside0.mk (Kd.V_below (by (with_reducible repeat (first | apply Kd.V_alloc | apply Kd.V_drewN | apply Kd.V_drew)); exact HO421.out) hb); have n2_ := Aside0.mk (Kd.V_below (by (with_reducible repeat (first | apply Kd.V_alloc | apply Kd.V_drewN | apply Kd.V_drew)); exact HO429.out) hb); have n3_ := Aside0.mk (Kd.N_below (by (with_reducible repeat (first | apply Kd.N_alloc | apply Kd.N_drewN | apply Kd.N_drew)); exact HO432.out) hb); have n4_ := Aside0.mk (below_step (by repeat (first | (with_reducible first | exact HB.out | apply below_alloc | apply pw_below_drewN | apply below_drew1) | exact HB.out)) hb); clear HO411; clear HO421; clear HO429; clear HO432; clear HB; have HO411 := n0_; have HO421 := n1_; have HO429 := n2_; have HO432 := n3_; have HB := n4_; clear n0_ n1_ n2_ n3_ n4_; (try clear hb); (try clear hb2); (try clear hk); (try clear hi); obtain ⟨Ao58, co58, eo58⟩ := Kd.N_slice HO432.out; subst eo58) | (go_at_call 21; (with_reducible refine (gram_Check.calls _ _ y430 false _ ?side1 ?side2 A26.out).mono ?_); (case side1 => repeat (first | exact (Kd.N_reads' HO432.out).2.2 | (with_reducible refine Kd.C_alloc ?_ _) | (with_reducible refine Kd.C_drewN ?_ _) | (with_reducible refine Kd.C_drew ?_))); (case side2 => exact (Kd.N_reads' HO432.out).2.1); rintro e w59 ⟨rfl, hb⟩; have n0_ := Aside0.mk (Kd.N_below (by (with_reducible repeat (first | apply Kd.N_alloc | apply Kd.N_drewN | apply Kd.N_drew)); exact HO411.out) hb); have n1_ := Aside0.mk (Kd.V_below (by (with_reducible repeat (first | apply Kd.V_alloc | apply Kd.V_drewN | apply Kd.V_drew)); exact HO421.out) hb); have n2_ := Aside0.mk (Kd.V_below (by (with_reducible repeat (first | apply Kd.V_alloc | apply Kd.V_drewN | apply Kd.V_drew)); exact HO429.out) hb); have n3_ := Aside0.mk (Kd.N_below (by (with_reducible repeat (first | apply Kd.N_alloc | apply Kd.N_drewN | apply Kd.N_drew)); exact HO432.out) hb); have n4_ := Aside0.mk (below_step (by repeat (first | (with_reducible first | exact HB.out | apply below_alloc | apply pw_below_drewN | apply below_drew1) | exact HB.out)) hb); clear HO411; clear HO421; clear HO429; clear HO432; clear HB; have HO411 := n0_; have HO421 := n1_; have HO429 := n2_; have HO432 := n3_; have HB := n4_; clear n0_ n1_ n2_ n3_ n4_; (try clear hb); (try clear hb2); (try clear hk); (try clear hi)))
                        go_ret
                        exact ⟨by first | rfl | (simp [errW_none, errW_some] <;> rfl) | (simp only [← hji20]; first | rfl | (simp [errW_none, errW_some] <;> rfl)) | (simp [*, errW_none, errW_some] <;> rfl), by repeat (first | (with_reducible first | exact HB.out | apply below_alloc | apply pw_below_drewN | apply below_drew1) | exact HB.out)⟩
                    · replace c25 := Bool.eq_false_iff.mpr c25
                      subst c25
                      have H1 : (some false) = some r := by rw [if_neg (show ¬ (false = true) by decide)] at H; exact H
                      clear H
                      have H := H1
                      clear H1
                      obtain rfl := Option.some.inj H
                      go_enter Try.func9, Try.ntmps9
                      try go_wp2_with (first | ((with_reducible refine gate_callee (f := 13) rfl ?_); refine goesL_ (some 10) rfl rfl Try.func13 (by kernel_rfl) rfl #[] rfl (by (try simp only [List.map_toArray, List.map_cons, List.map_nil]); first | done | rfl | (simp only [List.length_drop, List.length_take]; rfl)) ?_; (with_reducible refine (interlocutorlaw4_known.calls  true _ A4.out).mono ?_); rintro e w60 ⟨rfl, hb⟩; refine ⟨_, rfl, ?_⟩; have n0_ := Aside0.mk (below_step (by repeat (first | (with_reducible first | exact HB.out | apply below_alloc | apply pw_below_drewN | apply below_drew1) | exact HB.out)) hb); clear HB; have HB := n0_; clear n0_; (try clear hb); (try clear hb2); (try clear hk); (try clear hi)) | ((with_reducible refine gate_callee (f := 14) rfl ?_); refine goesL_ (some 13) rfl rfl Try.func14 (by kernel_rfl) rfl #[.slice A0 l0.length c0] rfl (by (try simp only [List.map_toArray, List.map_cons, List.map_nil]); first | done | rfl | (simp only [List.length_drop, List.length_take]; rfl)) ?_; (with_reducible refine (interlocutorlaw4_Few.calls k _ _ l0 true _ ?side1 ?side2 A6.out).mono ?_); (case side1 => repeat (first | exact (Kd.C_below HR0.out HB.out) | (with_reducible refine Kd.C_alloc ?_ _) | (with_reducible refine Kd.C_drewN ?_ _) | (with_reducible refine Kd.C_drew ?_))); (case side2 => exact HC0.out); rintro e w' ⟨rfl, ⟨nd, rfl⟩⟩; refine ⟨_, rfl, ?_⟩) | ((with_reducible refine gate_callee (f := 17) rfl ?_); refine goesL_ (some 17) rfl rfl Try.func17 (by kernel_rfl) rfl #[.int .i64 a1, .int .i64 20] rfl (by (try simp only [List.map_toArray, List.map_cons, List.map_nil]); first | done | rfl | (simp only [List.length_drop, List.length_take]; rfl)) ?_; (with_reducible refine (interlocutorlaw4_within.calls a1 20 t408 _ A8.out).mono ?_); rintro e w' ⟨rfl, ⟨nd, rfl⟩⟩; refine ⟨_, rfl, ?_⟩) | ((with_reducible refine gate_callee (f := 26) rfl ?_); refine goesL_ (some 19) rfl rfl Try.func26 (by kernel_rfl) rfl #[.slice A0 l0.length c0, .int .i64 (wrap64 (1 + t408))] rfl (by (try simp only [List.map_toArray, List.map_cons, List.map_nil]); first | done | rfl | (simp only [List.length_drop, List.length_take]; rfl)) ?_; (with_reducible refine (interlocutorlaw4_Rules.calls k _ _ l0 (wrap64 (1 + t408)) t409 _ ?side1 ?side2 A9.out).mono ?_); (case side1 => repeat (first | exact (Kd.C_below HR0.out (by repeat (first | (with_reducible first | exact HB.out | apply below_alloc | apply pw_below_drewN | apply below_drew1) | exact HB.out))) | (with_reducible refine Kd.C_alloc ?_ _) | (with_reducible refine Kd.C_drewN ?_ _) | (with_reducible refine Kd.C_drew ?_))); (case side2 => exact HC0.out); rintro e w61 ⟨v410, rfl, ho0, hb⟩; refine ⟨_, rfl, ?_⟩; have n0_ := Aside0.mk (Kd.N_lower (Kd.N_mono (ok' := fun k_ => True) ho0 (fun k_ hk_ => trivial)) (below_size (by repeat (first | (with_reducible first | exact HB.out | apply below_alloc | apply pw_below_drewN | apply below_drew1) | exact HB.out)))); have n1_ := Aside0.mk (below_step (by repeat (first | (with_reducible first | exact HB.out | apply below_alloc | apply pw_below_drewN | apply below_drew1) | exact HB.out)) hb); clear HB; have HO411 := n0_; have HB := n1_; clear n0_ n1_; (try clear hb); (try clear hb2); (try clear hk); (try clear hi); (try clear ho0); obtain ⟨Ao62, co62, eo62⟩ := Kd.N_slice HO411.out; subst eo62) | ((with_reducible refine gate_callee (f := 17) rfl ?_); refine goesL_ (some 28) rfl rfl Try.func17 (by kernel_rfl) rfl #[.int .i64 a2, .int .i64 (t409.length : Int)] rfl (by (try simp only [List.map_toArray, List.map_cons, List.map_nil]); first | done | rfl | (simp only [List.length_drop, List.length_take]; rfl)) ?_; (with_reducible refine (interlocutorlaw4_within.calls a2 (t409.length : Int) t413 _ A16.out).mono ?_); rintro e w' ⟨rfl, ⟨nd, rfl⟩⟩; refine ⟨_, rfl, ?_⟩))
                      (try (rw [drewN_self w61]; generalize hq_ : World.drewN w61 _ = w61; have n0_ : Aside0 (Kd.N k26 26 w61 w.heap.size (fun _ => True) (.slice Ao62 t409.length co62) t409) := ⟨by rw [← hq_]; exact (by (with_reducible repeat (first | apply Kd.N_alloc | apply Kd.N_drewN | apply Kd.N_drew)); exact HO411.out)⟩; have n1_ : Aside0 (Below w.heap.size w w61) := ⟨by rw [← hq_]; exact (by repeat (first | (with_reducible first | exact HB.out | apply below_alloc | apply pw_below_drewN | apply below_drew1) | exact HB.out))⟩; clear HO411 HB hq_; have HO411 := n0_; have HB := n1_; clear n0_ n1_))
                      have n0_ := Aside0.mk (Kd.N_drew HO411.out)
                      have n1_ := Aside0.mk (below_drew1 HB.out)
                      clear HO411
                      clear HB
                      have HO411 := n0_
                      have HB := n1_
                      clear n0_ n1_
                      have q64 : (t413 : Int) ≤ ((t409.length : Int) : Int) := of_decide_eq_true (by first | (with_reducible assumption) | assumption)
                      obtain ⟨i064, hi064, _, hsz64, _⟩ := info_parts info26
                      have hroom64 : t409.length ≤ co62 := (Kd.N_reads' HO411.out).2.1
                      have hC64 : Kd.F k26 _ _ Ao62 t409.length t409 := (Kd.V_at (base := w.heap.size) (Kd.N_V HO411.out)).2.2
                      have hcut64 := cut_to (P := Try.prog) 36 26 .i64 Try.underlying36 hi064 Ao62 t409.length co62 t413 (of_decide_eq_true (by first | (with_reducible assumption) | assumption)) q64 hroom64
                      have hr64 := Kd.F_take (m := (t413 : Int).toNat) hC64 (by omega)
                      have hy64 : y417.length = (t413 : Int).toNat := (by rw [Ny417.out, List.length_take]; omega)
                      rw [← Ny417.out] at hr64
                      rw [← hy64] at hcut64
                      have HO421 := Aside0.mk (show Kd.V k26 26 _ w.heap.size _ (.slice Ao62 y417.length co62) y417 from Kd.V_mk (by omega) hr64)
                      have HC421 := Aside0.mk (show y417.length ≤ co62 from by omega)
                      clear hr64 hC64 hroom64 hi064 hsz64
                      have KY64 := Aside0.mk hy64
                      clear hy64
                      replace q64 := eq_true q64
                      have q65 : ((ji20) : Int) ≤ ((t409.length : Int) : Int) := of_decide_eq_true (by first | (with_reducible assumption) | assumption)
                      obtain ⟨i065, hi065, _, hsz65, _⟩ := info_parts info26
                      have hroom65 : t409.length ≤ co62 := (Kd.N_reads' HO411.out).2.1
                      have hC65 : Kd.F k26 _ _ Ao62 t409.length t409 := (Kd.V_at (base := w.heap.size) (Kd.N_V HO411.out)).2.2
                      have q065 : (0 : Int) ≤ ((ji20) : Int) := of_decide_eq_true (by first | (with_reducible assumption) | assumption)
                      have hcut65 := cut_from (P := Try.prog) 36 26 .i64 Try.underlying36 hi065 5 hsz65 Ao62 t409.length co62 (ji20) q065 q65
                      have hr65 := Kd.F_cut (m := ((ji20) : Int).toNat) (c := co62) hC65 (by omega) hroom65
                      obtain ⟨A65, hA65⟩ : ∃ A1, A1 = (if co62 = ((ji20) : Int).toNat then Ao62 else (Ao62 : Option Addr).map (·.add (((ji20) : Int).toNat * 5))) := ⟨_, rfl⟩
                      obtain ⟨c65, hc65⟩ : ∃ c1, c1 = co62 - ((ji20) : Int).toNat := ⟨_, rfl⟩
                      have hy65 : y425.length = t409.length - ((ji20) : Int).toNat := (by rw [Ny425.out, List.length_drop] <;> omega)
                      rw [show (t409).drop ((ji20) : Int).toNat = y425 from Ny425.out.symm] at hr65
                      replace hr65 : Kd.F k26 _ _ A65 y425.length y425 := (by rw [hA65]; exact hr65)
                      rw [← hy65, ← hA65, ← hc65] at hcut65
                      have HO429 := Aside0.mk (show Kd.V k26 26 _ w.heap.size _ (.slice A65 y425.length c65) y425 from Kd.V_mk (by rw [hy65, hc65]; exact Nat.sub_le_sub_right hroom65 _) hr65)
                      have HC429 := Aside0.mk (show y425.length ≤ c65 from by rw [hy65, hc65]; exact Nat.sub_le_sub_right hroom65 _)
                      clear hr65 hC65 hroom65 hi065 hsz65 hc65
                      have KY65 := Aside0.mk hy65
                      have KA65 := Aside0.mk hA65
                      clear hy65 hA65
                      replace q65 := eq_true q65
                      refine start_ (n := 11) (S := fun w' => True) (ds := []) #[false, false, false, false, false, false, false, false, false, false, false] (by kernel_rfl) rfl rfl trivial (fun hHeld => ?_); refine with_tabW interlocutorlaw4_GramFewer.tab9 interlocutorlaw4_GramFewer.bits9 (fun HT_ HW_ => ?_)
                      generalize w61.drew = w63 at HO411 HB HO421 HO429 hHeld ⊢
                      refine pure_ (i := 1) (N := some 30) (v := ?_) (a' := ?_) #[false, true, false, false, false, false, false, false, false, false, false] rfl rfl (any_of HT_.out (by kernel_rfl)) (fun _ _ _ h => h) (Or.inl ⟨by rfl, ?_⟩) ?_ ?_
                      rotate_left
                      · intro w'
                        go_simp
                        with_reducible rfl
                      rotate_left
                      · simp only [Act.put, List.setIfInBounds_toArray, List.set_cons_zero, List.set_cons_succ, i64_w, i32_w]
                        rfl
                      refine pure_ (i := 2) (N := some 31) (v := ?_) (a' := ?_) #[false, true, true, false, false, false, false, false, false, false, false] rfl rfl (any_of HT_.out (by kernel_rfl)) (fun _ _ _ h => h) (Or.inl ⟨by rfl, ?_⟩) ?_ ?_
                      rotate_left
                      · intro w'
                        go_simp
                        with_reducible rfl
                      rotate_left
                      · simp only [Act.put, List.setIfInBounds_toArray, List.set_cons_zero, List.set_cons_succ, i64_w, i32_w]
                        rfl
                      refine pure_ (i := 3) (N := some 32) (v := ?_) (a' := ?_) #[false, true, true, true, false, false, false, false, false, false, false] rfl rfl (any_of HT_.out (by kernel_rfl)) (fun _ _ _ h => h) (Or.inl ⟨by rfl, ?_⟩) ?_ ?_
                      rotate_left
                      · intro w'
                        go_simp
                        with_reducible rfl
                      rotate_left
                      · simp only [Act.put, List.setIfInBounds_toArray, List.set_cons_zero, List.set_cons_succ, i64_w, i32_w]
                        rfl
                      refine pure_ (i := 5) (N := some 34) (v := ?_) (a' := ?_) #[false, true, true, true, false, true, false, false, false, false, false] rfl rfl (any_of HT_.out (by kernel_rfl)) (fun _ _ _ h => h) (Or.inl ⟨by rfl, ?_⟩) ?_ ?_
                      rotate_left
                      · intro w'
                        go_simp
                        with_reducible rfl
                      rotate_left
                      · simp only [Act.put, List.setIfInBounds_toArray, List.set_cons_zero, List.set_cons_succ, i64_w, i32_w]
                        rfl
                      refine pure_ (i := 6) (N := some 35) (v := ?_) (a' := ?_) #[false, true, true, true, false, true, true, false, false, false, false] rfl rfl (any_of HT_.out (by kernel_rfl)) (fun _ _ _ h => h) (Or.inl ⟨by rfl, ?_⟩) ?_ ?_
                      rotate_left
                      · intro w'
                        go_simp
                        with_reducible rfl
                      rotate_left
                      · simp only [Act.put, List.setIfInBounds_toArray, List.set_cons_zero, List.set_cons_succ, i64_w, i32_w]
                        rfl
                      refine pure_ (i := 7) (N := some 36) (v := ?_) (a' := ?_) #[false, true, true, true, false, true, true, true, false, false, false] rfl rfl (any_of HT_.out (by kernel_rfl)) (fun _ _ _ h => h) (Or.inl ⟨by rfl, ?_⟩) ?_ ?_
                      rotate_left
                      · intro w'
                        go_simp
                        with_reducible rfl
                      rotate_left
                      · simp only [Act.put, List.setIfInBounds_toArray, List.set_cons_zero, List.set_cons_succ, i64_w, i32_w]
                        rfl
                      refine pure_ (i := 8) (N := some 37) (v := ?_) (a' := ?_) #[false, true, true, true, false, true, true, true, true, false, false] rfl rfl (any_of HT_.out (by kernel_rfl)) (fun _ _ _ h => h) (Or.inl ⟨by rfl, ?_⟩) ?_ ?_
                      rotate_left
                      · intro w'
                        go_simp
                        with_reducible rfl
                      rotate_left
                      · simp only [Act.put, List.setIfInBounds_toArray, List.set_cons_zero, List.set_cons_succ, i64_w, i32_w]
                        rfl
                      refine one_ (i := 0) (N := some 29) #[true, true, true, true, false, true, true, true, true, false, false] rfl rfl (one_of HT_.out (by kernel_rfl)) (by decide) (fun K hK => ?_)
                      refine Kd.N_lit_step k26 _ 26 ?hg (N' := 29) ?hd (xs := ([] : List (S26))) (inner := []) (ok := (fun k_ => some k_ ≠ (.slice Ao62 t409.length co62 : Value).ownBlock)) (okp := (fun k_ => some k_ ≠ (.slice Ao62 t409.length co62 : Value).ownBlock)) ?hr ?hp (fun _ hk => hk) ((show ∀ k_, w63.heap.size ≤ k_ → (fun k_ => some k_ ≠ (.slice Ao62 t409.length co62 : Value).ownBlock) k_ from fun k_ hk => Kd.fresh' (Kd.N_lt (by (with_reducible repeat (first | apply Kd.N_alloc | apply Kd.N_drewN | apply Kd.N_drew)); exact HO411.out)) k_ hk) _ (Nat.le_refl _)) (Below.refl _ _) (Nat.le_refl _) (by simp) ?_; (case hd => rfl); (case hg => rfl); (case hr => first | (go_simp; done) | (go_simp; rfl)); (case hp => exact (Reps.none _ _))
                      intro v415 w66 ho67 hb hg_ hnew_
                      clear hg_ hnew_
                      (first | rw [← Ny414.out] at ho67 | (simp only [Int.reduceToNat] at ho67; rw [← Ny414.out] at ho67))
                      have n0_ := Aside0.mk (Kd.N_elder' (by (with_reducible repeat (first | apply Kd.N_alloc | apply Kd.N_drewN | apply Kd.N_drew)); exact HO411.out) (Kd.N_base ho67) hb)
                      have n1_ := Aside0.mk (Kd.V_elder' (by (with_reducible repeat (first | apply Kd.V_alloc | apply Kd.V_drewN | apply Kd.V_drew)); exact HO421.out) (Kd.N_base ho67) hb)
                      have n2_ := Aside0.mk (Kd.V_elder' (by (with_reducible repeat (first | apply Kd.V_alloc | apply Kd.V_drewN | apply Kd.V_drew)); exact HO429.out) (Kd.N_base ho67) hb)
                      have n3_ := Aside0.mk (Kd.N_lower ho67 (below_size (by repeat (first | (with_reducible first | exact HB.out | apply below_alloc | apply pw_below_drewN | apply below_drew1) | exact HB.out))))
                      have n4_ := Aside0.mk (below_step (by repeat (first | (with_reducible first | exact HB.out | apply below_alloc | apply pw_below_drewN | apply below_drew1) | exact HB.out)) hb)
                      clear HO411
                      clear HO421
                      clear HO429
                      clear HB
                      have HO411 := n0_
                      have HO421 := n1_
                      have HO429 := n2_
                      have HO416 := n3_
                      have HB := n4_
                      clear n0_ n1_ n2_ n3_ n4_
                      clear hb ho67
                      refine hK.out _ _ trivial (fun hHeld => ?_)
                      clear hK K
                      refine norm_ (a' := ?_) ?_ ?_
                      rotate_left
                      · show Act.put _ (some 29) _ = _
                        simp only [Act.put, List.setIfInBounds_toArray, List.set_cons_zero, List.set_cons_succ, i64_w, i32_w]
                        rfl
                      refine one_ (i := 4) (N := some 33) #[true, true, true, true, true, true, true, true, true, false, false] rfl rfl (one_of HT_.out (by kernel_rfl)) (by decide) (fun K hK => ?_)
                      refine Kd.N_append_rows_step k26 (w0 := w) w.heap.size (by rfl) (.tmp 29) (.tmp 32) 36 26 (.agg #[(.int .i64 0), (.slice none 0 0), (.int .i64 0), (.slice none 0 0), (.int .i64 0)]) 72 rfl Try.underlying36 info26 rfl (by decide) (by omega) v415 y414 y417 _ _ _ (fun _ => True) (fun k_ => ((fun _ => True)) k_ ∧ some k_ ≠ (v415 : Value).ownBlock) rfl rfl ?aO ?aR (fun _ hk => hk) ?aF ?aB ?aS ?aL ?_
                      (case aR => exact (by skip; exact Kd.V_F (Kd.V_mono (ok' := (fun k_ => ((fun _ => True)) k_ ∧ some k_ ≠ (v415 : Value).ownBlock)) (HO421.out) (fun k_ hk => ⟨trivial, hk.2⟩))))
                      (case aB => exact (by repeat (first | (with_reducible first | exact HB.out | apply below_alloc | apply pw_below_drewN | apply below_drew1) | exact HB.out)))
                      (case aF => exact (fun _ _ => trivial))
                      (case aO => exact (by (with_reducible repeat (first | apply Kd.N_alloc | apply Kd.N_drewN | apply Kd.N_drew)); exact Kd.N_mono HO416.out (fun _ hk => trivial)))
                      (case aS => exact (below_size (by repeat (first | (with_reducible first | exact HB.out | apply below_alloc | apply pw_below_drewN | apply below_drew1) | exact HB.out))))
                      (case aL => have := LMc19.out; omega)
                      intro v423 w68 ho hb hg hat
                      rw [← Ny422.out] at ho
                      have n0_ := Aside0.mk (Kd.N_afterv (ok := (fun _ => True)) (by (with_reducible repeat (first | apply Kd.N_alloc | apply Kd.N_drewN | apply Kd.N_drew)); exact HO411.out) hg hat)
                      have n1_ := Aside0.mk (Kd.V_afterv (ok := (fun _ => True)) (by (with_reducible repeat (first | apply Kd.V_alloc | apply Kd.V_drewN | apply Kd.V_drew)); exact HO421.out) hg hat)
                      have n2_ := Aside0.mk (Kd.V_afterv (ok := (fun _ => True)) (by (with_reducible repeat (first | apply Kd.V_alloc | apply Kd.V_drewN | apply Kd.V_drew)); exact HO429.out) hg hat)
                      have n3_ := Aside0.mk (hb)
                      have n4_ := Aside0.mk (ho)
                      clear HO411
                      clear HO421
                      clear HO429
                      clear HB
                      clear HO416
                      have HO411 := n0_
                      have HO421 := n1_
                      have HO429 := n2_
                      have HB := n3_
                      have HO424 := n4_
                      clear n0_ n1_ n2_ n3_ n4_
                      clear ho hb hg hat
                      refine hK.out _ _ trivial (fun hHeld => ?_)
                      clear hK K
                      refine norm_ (a' := ?_) ?_ ?_
                      rotate_left
                      · show Act.put _ (some 33) _ = _
                        simp only [Act.put, List.setIfInBounds_toArray, List.set_cons_zero, List.set_cons_succ, i64_w, i32_w]
                        rfl
                      refine one_ (i := 9) (N := some 38) #[true, true, true, true, true, true, true, true, true, true, false] rfl rfl (one_of HT_.out (by kernel_rfl)) (by decide) (fun K hK => ?_)
                      refine Kd.N_append_rows_step k26 (w0 := w) w.heap.size (by rfl) (.tmp 33) (.tmp 37) 36 26 (.agg #[(.int .i64 0), (.slice none 0 0), (.int .i64 0), (.slice none 0 0), (.int .i64 0)]) 72 rfl Try.underlying36 info26 rfl (by decide) (by omega) v423 y422 y425 _ _ _ (fun _ => True) (fun k_ => ((fun _ => True)) k_ ∧ some k_ ≠ (v423 : Value).ownBlock) rfl rfl ?aO ?aR (fun _ hk => hk) ?aF ?aB ?aS ?aL ?_
                      (case aR => exact (by skip; exact Kd.V_F (Kd.V_mono (ok' := (fun k_ => ((fun _ => True)) k_ ∧ some k_ ≠ (v423 : Value).ownBlock)) (HO429.out) (fun k_ hk => ⟨trivial, hk.2⟩))))
                      (case aB => exact (by repeat (first | (with_reducible first | exact HB.out | apply below_alloc | apply pw_below_drewN | apply below_drew1) | exact HB.out)))
                      (case aF => exact (fun _ _ => trivial))
                      (case aO => exact (by (with_reducible repeat (first | apply Kd.N_alloc | apply Kd.N_drewN | apply Kd.N_drew)); exact HO424.out))
                      (case aS => exact (below_size (by repeat (first | (with_reducible first | exact HB.out | apply below_alloc | apply pw_below_drewN | apply below_drew1) | exact HB.out))))
                      (case aL => have := LMc23.out; omega)
                      intro v431 w69 ho hb hg hat
                      rw [← Ny430.out] at ho
                      have n0_ := Aside0.mk (Kd.N_afterv (ok := (fun _ => True)) (by (with_reducible repeat (first | apply Kd.N_alloc | apply Kd.N_drewN | apply Kd.N_drew)); exact HO411.out) hg hat)
                      have n1_ := Aside0.mk (Kd.V_afterv (ok := (fun _ => True)) (by (with_reducible repeat (first | apply Kd.V_alloc | apply Kd.V_drewN | apply Kd.V_drew)); exact HO421.out) hg hat)
                      have n2_ := Aside0.mk (Kd.V_afterv (ok := (fun _ => True)) (by (with_reducible repeat (first | apply Kd.V_alloc | apply Kd.V_drewN | apply Kd.V_drew)); exact HO429.out) hg hat)
                      have n3_ := Aside0.mk (hb)
                      have n4_ := Aside0.mk (ho)
                      clear HO411
                      clear HO421
                      clear HO429
                      clear HB
                      clear HO424
                      have HO411 := n0_
                      have HO421 := n1_
                      have HO429 := n2_
                      have HB := n3_
                      have HO432 := n4_
                      clear n0_ n1_ n2_ n3_ n4_
                      clear ho hb hg hat
                      refine hK.out _ _ trivial (fun hHeld => ?_)
                      clear hK K
                      refine norm_ (a' := ?_) ?_ ?_
                      rotate_left
                      · show Act.put _ (some 38) _ = _
                        simp only [Act.put, List.setIfInBounds_toArray, List.set_cons_zero, List.set_cons_succ, i64_w, i32_w]
                        rfl
                      refine pure_ (i := 10) (N := some 9) (v := ?_) (a' := ?_) #[true, true, true, true, true, true, true, true, true, true, true] rfl rfl (any_of HT_.out (by kernel_rfl)) (fun _ _ _ h => h) (Or.inl ⟨by rfl, ?_⟩) ?_ ?_
                      rotate_left
                      · intro w'
                        go_simp
                        with_reducible rfl
                      rotate_left
                      · simp only [Act.put, List.setIfInBounds_toArray, List.set_cons_zero, List.set_cons_succ, i64_w, i32_w]
                        rfl
                      refine done_ (done_of HT_.out (by kernel_rfl)) ?_
                      try go_wp2_with (first | ((with_reducible refine gate_callee (f := 21) rfl ?_); refine goesL_ (some 40) rfl rfl Try.func21 (by kernel_rfl) rfl #[.slice Ao62 t409.length co62] rfl (by (try simp only [List.map_toArray, List.map_cons, List.map_nil]); first | done | rfl | (simp only [List.length_drop, List.length_take]; rfl)) ?_; (with_reducible refine (gram_Check.calls _ _ t409 false _ ?side1 ?side2 A24.out).mono ?_); (case side1 => repeat (first | exact (Kd.N_reads' HO411.out).2.2 | (with_reducible refine Kd.C_alloc ?_ _) | (with_reducible refine Kd.C_drewN ?_ _) | (with_reducible refine Kd.C_drew ?_))); (case side2 => exact (Kd.N_reads' HO411.out).2.1); rintro e w70 ⟨rfl, hb⟩; refine ⟨_, rfl, ?_⟩; have n0_ := Aside0.mk (Kd.N_below (by (with_reducible repeat (first | apply Kd.N_alloc | apply Kd.N_drewN | apply Kd.N_drew)); exact HO411.out) hb); have n1_ := Aside0.mk (Kd.V_below (by (with_reducible repeat (first | apply Kd.V_alloc | apply Kd.V_drewN | apply Kd.V_drew)); exact HO421.out) hb); have n2_ := Aside0.mk (Kd.V_below (by (with_reducible repeat (first | apply Kd.V_alloc | apply Kd.V_drewN | apply Kd.V_drew)); exact HO429.out) hb); have n3_ := Aside0.mk (Kd.N_below (by (with_reducible repeat (first | apply Kd.N_alloc | apply Kd.N_drewN | apply Kd.N_drew)); exact HO432.out) hb); have n4_ := Aside0.mk (below_step (by repeat (first | (with_reducible first | exact HB.out | apply below_alloc | apply pw_below_drewN | apply below_drew1) | exact HB.out)) hb); clear HO411; clear HO421; clear HO429; clear HO432; clear HB; have HO411 := n0_; have HO421 := n1_; have HO429 := n2_; have HO432 := n3_; have HB := n4_; clear n0_ n1_ n2_ n3_ n4_; (try clear hb); (try clear hb2); (try clear hk); (try clear hi)))
                      go_ret
                      exact ⟨by first | rfl | (simp [errW_none, errW_some] <;> rfl) | (simp only [← hji20]; first | rfl | (simp [errW_none, errW_some] <;> rfl)) | (simp [*, errW_none, errW_some] <;> rfl), by repeat (first | (with_reducible first | exact HB.out | apply below_alloc | apply pw_below_drewN | apply below_drew1) | exact HB.out)⟩
                  · rw [if_neg c23] at H
                    exact absurd H (by simp)
                · rw [if_neg c22] at H
                  exact absurd H (by simp)
              · rw [if_neg c21] at H
                exact absurd H (by simp)
            · rw [if_neg c19] at H
              exact absurd H (by simp)
          · rw [if_neg c18] at H
            exact absurd H (by simp)
        · rw [if_neg c17] at H
          exact absurd H (by simp)
    · replace c7 := Bool.eq_false_iff.mpr c7
      subst c7
      have H1 : (some true) = some r := by rw [if_neg (show ¬ (false = true) by decide)] at H; exact H
      clear H
      have H := H1
      clear H1
      obtain rfl := Option.some.inj H
      go_enter Try.func9, Try.ntmps9
      go_wp2_with (first | ((with_reducible refine gate_callee (f := 13) rfl ?_); refine goesL_ (some 10) rfl rfl Try.func13 (by kernel_rfl) rfl #[] rfl (by (try simp only [List.map_toArray, List.map_cons, List.map_nil]); first | done | rfl | (simp only [List.length_drop, List.length_take]; rfl)) ?_; (with_reducible refine (interlocutorlaw4_known.calls  true _ A4.out).mono ?_); rintro e w71 ⟨rfl, hb⟩; refine ⟨_, rfl, ?_⟩; have n0_ := Aside0.mk (below_step (by repeat (first | (with_reducible first | exact HB.out | apply below_alloc | apply pw_below_drewN | apply below_drew1) | exact HB.out)) hb); clear HB; have HB := n0_; clear n0_; (try clear hb); (try clear hb2); (try clear hk); (try clear hi)) | ((with_reducible refine gate_callee (f := 14) rfl ?_); refine goesL_ (some 13) rfl rfl Try.func14 (by kernel_rfl) rfl #[.slice A0 l0.length c0] rfl (by (try simp only [List.map_toArray, List.map_cons, List.map_nil]); first | done | rfl | (simp only [List.length_drop, List.length_take]; rfl)) ?_; (with_reducible refine (interlocutorlaw4_Few.calls k _ _ l0 false _ ?side1 ?side2 A6.out).mono ?_); (case side1 => repeat (first | exact (Kd.C_below HR0.out HB.out) | (with_reducible refine Kd.C_alloc ?_ _) | (with_reducible refine Kd.C_drewN ?_ _) | (with_reducible refine Kd.C_drew ?_))); (case side2 => exact HC0.out); rintro e w' ⟨rfl, ⟨nd, rfl⟩⟩; refine ⟨_, rfl, ?_⟩))
      go_ret
      exact ⟨by first | rfl | (simp [errW_none, errW_some] <;> rfl) | (simp [*, errW_none, errW_some] <;> rfl), by repeat (first | (with_reducible first | exact HB.out | apply below_alloc | apply pw_below_drewN | apply below_drew1) | exact HB.out)⟩
  · replace c5 := Bool.eq_false_iff.mpr c5
    subst c5
    have H1 : (some false) = some r := by rw [if_neg (show ¬ (false = true) by decide)] at H; exact H
    clear H
    have H := H1
    clear H1
    obtain rfl := Option.some.inj H
    go_enter Try.func9, Try.ntmps9
    go_wp2_with (first | ((with_reducible refine gate_callee (f := 13) rfl ?_); refine goesL_ (some 10) rfl rfl Try.func13 (by kernel_rfl) rfl #[] rfl (by (try simp only [List.map_toArray, List.map_cons, List.map_nil]); first | done | rfl | (simp only [List.length_drop, List.length_take]; rfl)) ?_; (with_reducible refine (interlocutorlaw4_known.calls  false _ A4.out).mono ?_); rintro e w72 ⟨rfl, hb⟩; refine ⟨_, rfl, ?_⟩; have n0_ := Aside0.mk (below_step (by repeat (first | (with_reducible first | exact HB.out | apply below_alloc | apply pw_below_drewN | apply below_drew1) | exact HB.out)) hb); clear HB; have HB := n0_; clear n0_; (try clear hb); (try clear hb2); (try clear hk); (try clear hi)))
    go_ret
    exact ⟨by first | rfl | (simp [errW_none, errW_some] <;> rfl) | (simp [*, errW_none, errW_some] <;> rfl), by repeat (first | (with_reducible first | exact HB.out | apply below_alloc | apply pw_below_drewN | apply below_drew1) | exact HB.out)⟩

end Go.Proofs.Ytjomlfdkmdgclaa.P
