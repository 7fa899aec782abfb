/- Parents are ahead: a chain of up to ten languages is right and is resolved whole, each with what is ahead. Part 4: contracts of the functions that the law reaches, and words for them. -/
import Derived.Test.YtiocgaekoeekgaaGreatMBP3
section
namespace Go.Proofs.YtiocgaekoeekgaaGreat.P
open Go.RowKit Go.Proofs.YtiocgaekoeekgaaGreatW.PrintWords Go.Proofs.YtiocgaekoeekgaaGreatW.PrintLast Go.Proofs.YtiocgaekoeekgaaGreatW.PrintMore
attribute [local go_sem] max2_int min2_int max_two min_two max_three min_three max_four min_four   
set_option linter.unusedVariables false
set_option linter.unusedSimpArgs false
mutual
noncomputable def l5_BlobParents.l0 : Nat → Int → Int → List (S44) → Int → Option (Bool)
 | 0, _, _, _, _ => none
 | k + 1, x1, x5, x6, x7 => if x7 < x5 then (if 0 ≤ x7 then (if x7 ≤ (wrap64 (x7 + 1)) then (if (wrap64 (x7 + 1)) ≤ 12 then (if 1 + ((⟨#[97, 98, 99, 100, 101, 102, 103, 104, 105, 106, 107, 108]⟩ : ByteArray).extract (x7 : Int).toNat ((wrap64 (x7 + 1)) : Int).toNat).size ≤ 9223372036854775807 then ((some (([(⟨(⟨#[97, 98, 99, 100, 101, 102, 103, 104, 105, 106, 107, 108]⟩ : ByteArray).extract (x7 : Int).toNat ((wrap64 (x7 + 1)) : Int).toNat, 1, x7⟩ : S46)] : List (S46)) : List (S46))).bind fun y281 => (if x7 > 1 then ((l5_within.f x1 3).bind fun t285 => (if t285 = 0 then (if x6.length < 1353245080339 then (l5_BlobParents.l0 k x1 x5 (x6 ++ [(⟨(⟨#[108]⟩ : ByteArray) ++ ((⟨#[97, 98, 99, 100, 101, 102, 103, 104, 105, 106, 107, 108]⟩ : ByteArray).extract (x7 : Int).toNat ((wrap64 (x7 + 1)) : Int).toNat), wrap64 (x7 - 2), 0, y281, ([] : List (S56)), ([] : List (S52))⟩ : S44)]) (wrap64 (x7 + 1))) else (none)) else (if x6.length < 1353245080339 then (l5_BlobParents.l0 k x1 x5 (x6 ++ [(⟨(⟨#[108]⟩ : ByteArray) ++ ((⟨#[97, 98, 99, 100, 101, 102, 103, 104, 105, 106, 107, 108]⟩ : ByteArray).extract (x7 : Int).toNat ((wrap64 (x7 + 1)) : Int).toNat), wrap64 (x7 - 1), 0, y281, ([] : List (S56)), ([] : List (S52))⟩ : S44)]) (wrap64 (x7 + 1))) else (none)))) else (if x6.length < 1353245080339 then (l5_BlobParents.l0 k x1 x5 (x6 ++ [(⟨(⟨#[108]⟩ : ByteArray) ++ ((⟨#[97, 98, 99, 100, 101, 102, 103, 104, 105, 106, 107, 108]⟩ : ByteArray).extract (x7 : Int).toNat ((wrap64 (x7 + 1)) : Int).toNat), wrap64 (x7 - 1), 0, y281, ([] : List (S56)), ([] : List (S52))⟩ : S44)]) (wrap64 (x7 + 1))) else (none)))) else (none)) else (none)) else (none)) else (none)) else ((blob_Right.f x6).bind fun t295 => (if (t295 != (decide (x5 ≤ 10))) = true then (some false) else (if x5 > 10 then (some true) else (if 0 ≤ (wrap64 (x5 - 1)) then (if (wrap64 (x5 - 1)) < (x6.length : Int) then ((blob_Resolve.f x6 ((rd_T44 x6 (wrap64 (x5 - 1))).f0)).bind fun bt297 => (if bt297.2.2.2.2.2.2 = true then (l5_BlobParents.j1 k x1 x5 ((bt297.2.2.2.1.length : Int) == 0) bt297.1 bt297.2.1 bt297.2.2.1 bt297.2.2.2.1 bt297.2.2.2.2.1 bt297.2.2.2.2.2.1) else (l5_BlobParents.j1 k x1 x5 true bt297.1 bt297.2.1 bt297.2.2.1 bt297.2.2.2.1 bt297.2.2.2.2.1 bt297.2.2.2.2.2.1))) else (none)) else (none)))))
noncomputable def l5_BlobParents.j1 : Nat → Int → Int → Bool → ByteArray → Int → Int → List (S46) → List (S56) → List (S52) → Option (Bool)
 | 0, _, _, _, _, _, _, _, _, _ => none
 | k + 1, x1, x5, x77, x311000, x311001, x311002, x311003, x311004, x311005 => if x77 = true then (some false) else (l5_BlobParents.l1 k x1 x5 1 x311000 x311001 x311002 x311003 x311004 x311005)
noncomputable def l5_BlobParents.l1 : Nat → Int → Int → Int → ByteArray → Int → Int → List (S46) → List (S56) → List (S52) → Option (Bool)
 | 0, _, _, _, _, _, _, _, _, _ => none
 | k + 1, x1, x5, x11, x311000, x311001, x311002, x311003, x311004, x311005 => if x11 < (x311003.length : Int) then (if 0 ≤ x11 then (if 0 ≤ (wrap64 (x11 - 1)) then (if (wrap64 (x11 - 1)) < (x311003.length : Int) then (if ((rd_T46 x311003 x11).f2) ≤ ((rd_T46 x311003 (wrap64 (x11 - 1))).f2) then (some false) else (l5_BlobParents.l1 k x1 x5 (wrap64 (x11 + 1)) x311000 x311001 x311002 x311003 x311004 x311005)) else (none)) else (none)) else (none)) else ((l5_within.f x1 3).bind fun t313 => (if t313 = 0 then (l5_BlobParents.j3 k x5 x5 (decide (x5 > 1)) x311000 x311001 x311002 x311003 x311004 x311005) else (l5_BlobParents.j3 k x5 x5 false x311000 x311001 x311002 x311003 x311004 x311005)))
noncomputable def l5_BlobParents.j3 : Nat → Int → Int → Bool → ByteArray → Int → Int → List (S46) → List (S56) → List (S52) → Option (Bool)
 | 0, _, _, _, _, _, _, _, _, _ => none
 | k + 1, x5, x12, x106, x311000, x311001, x311002, x311003, x311004, x311005 => if x106 = true then (if (Int.tmod x5 2) = 0 then (if (x311003.length : Int) = (wrap64 ((wrap64 (Int.tdiv x5 2)) + 1)) then (if 0 ≤ (wrap64 ((x311003.length : Int) - 1)) then (if (wrap64 ((x311003.length : Int) - 1)) < (x311003.length : Int) then (some (((rd_T46 x311003 (wrap64 ((x311003.length : Int) - 1))).f2) == (wrap64 (x5 - 1)))) else (none)) else (none)) else (some false)) else (if (x311003.length : Int) = (wrap64 (Int.tdiv (wrap64 (x5 + 1)) 2)) then (if 0 ≤ (wrap64 ((x311003.length : Int) - 1)) then (if (wrap64 ((x311003.length : Int) - 1)) < (x311003.length : Int) then (some (((rd_T46 x311003 (wrap64 ((x311003.length : Int) - 1))).f2) == (wrap64 (x5 - 1)))) else (none)) else (none)) else (some false))) else (if (x311003.length : Int) = x12 then (if 0 ≤ (wrap64 ((x311003.length : Int) - 1)) then (if (wrap64 ((x311003.length : Int) - 1)) < (x311003.length : Int) then (some (((rd_T46 x311003 (wrap64 ((x311003.length : Int) - 1))).f2) == (wrap64 (x5 - 1)))) else (none)) else (none)) else (some false))
end
noncomputable def l5_BlobParents.f (k : Nat) (a0 : Int) (a1 : Int) : Option (Bool) := (l5_known.f).bind fun t279 => (if t279 = true then ((l5_within.f a0 12).bind fun t280 => (l5_BlobParents.l0 k a1 (wrap64 (1 + t280)) ([] : List (S44)) 0)) else (some false))
theorem l5_BlobParents.mono_l : ∀ k, (∀ y0 y1 y2 y3, LeO (l5_BlobParents.l0 k y0 y1 y2 y3) (l5_BlobParents.l0 (k + 1) y0 y1 y2 y3)) ∧ (∀ y0 y1 y2 y3 y4 y5 y6 y7 y8, LeO (l5_BlobParents.j1 k y0 y1 y2 y3 y4 y5 y6 y7 y8) (l5_BlobParents.j1 (k + 1) y0 y1 y2 y3 y4 y5 y6 y7 y8)) ∧ (∀ y0 y1 y2 y3 y4 y5 y6 y7 y8, LeO (l5_BlobParents.l1 k y0 y1 y2 y3 y4 y5 y6 y7 y8) (l5_BlobParents.l1 (k + 1) y0 y1 y2 y3 y4 y5 y6 y7 y8)) ∧ (∀ y0 y1 y2 y3 y4 y5 y6 y7 y8, LeO (l5_BlobParents.j3 k y0 y1 y2 y3 y4 y5 y6 y7 y8) (l5_BlobParents.j3 (k + 1) y0 y1 y2 y3 y4 y5 y6 y7 y8))
 | 0 => ⟨fun _ _ _ _ r h => by simp [l5_BlobParents.l0] at h, fun _ _ _ _ _ _ _ _ _ r h => by simp [l5_BlobParents.j1] at h, fun _ _ _ _ _ _ _ _ _ r h => by simp [l5_BlobParents.l1] at h, fun _ _ _ _ _ _ _ _ _ r h => by simp [l5_BlobParents.j3] at h⟩
 | k + 1 => by
  obtain ⟨ih0, ih1, ih2, ih3⟩ := l5_BlobParents.mono_l k
  refine ⟨?_, ?_, ?_, ?_⟩
  ·intro y0 y1 y2 y3
   unfold l5_BlobParents.l0
   repeat' first
   | (with_reducible exact ih0 _ _ _ _)
   | (with_reducible exact ih1 _ _ _ _ _ _ _ _ _)
   | (with_reducible exact ih2 _ _ _ _ _ _ _ _ _)
   | (with_reducible exact ih3 _ _ _ _ _ _ _ _ _)
   | (with_reducible exact LeO.refl _)
   | (with_reducible exact LeO.none _)
   | (with_reducible refine LeO.ite ?_ ?_)
   | (with_reducible refine LeO.bind ?_ (fun _ => ?_))
   | exact ih0 _ _ _ _
   | exact ih1 _ _ _ _ _ _ _ _ _
   | exact ih2 _ _ _ _ _ _ _ _ _
   | exact ih3 _ _ _ _ _ _ _ _ _
   | exact LeO.none _
   | refine LeO.ite ?_ ?_
   | refine LeO.bind ?_ (fun _ => ?_)
  ·intro y0 y1 y2 y3 y4 y5 y6 y7 y8
   unfold l5_BlobParents.j1
   repeat' first
   | (with_reducible exact ih0 _ _ _ _)
   | (with_reducible exact ih1 _ _ _ _ _ _ _ _ _)
   | (with_reducible exact ih2 _ _ _ _ _ _ _ _ _)
   | (with_reducible exact ih3 _ _ _ _ _ _ _ _ _)
   | (with_reducible exact LeO.refl _)
   | (with_reducible exact LeO.none _)
   | (with_reducible refine LeO.ite ?_ ?_)
   | (with_reducible refine LeO.bind ?_ (fun _ => ?_))
   | exact ih0 _ _ _ _
   | exact ih1 _ _ _ _ _ _ _ _ _
   | exact ih2 _ _ _ _ _ _ _ _ _
   | exact ih3 _ _ _ _ _ _ _ _ _
   | exact LeO.none _
   | refine LeO.ite ?_ ?_
   | refine LeO.bind ?_ (fun _ => ?_)
  ·intro y0 y1 y2 y3 y4 y5 y6 y7 y8
   unfold l5_BlobParents.l1
   repeat' first
   | (with_reducible exact ih0 _ _ _ _)
   | (with_reducible exact ih1 _ _ _ _ _ _ _ _ _)
   | (with_reducible exact ih2 _ _ _ _ _ _ _ _ _)
   | (with_reducible exact ih3 _ _ _ _ _ _ _ _ _)
   | (with_reducible exact LeO.refl _)
   | (with_reducible exact LeO.none _)
   | (with_reducible refine LeO.ite ?_ ?_)
   | (with_reducible refine LeO.bind ?_ (fun _ => ?_))
   | exact ih0 _ _ _ _
   | exact ih1 _ _ _ _ _ _ _ _ _
   | exact ih2 _ _ _ _ _ _ _ _ _
   | exact ih3 _ _ _ _ _ _ _ _ _
   | exact LeO.none _
   | refine LeO.ite ?_ ?_
   | refine LeO.bind ?_ (fun _ => ?_)
  ·intro y0 y1 y2 y3 y4 y5 y6 y7 y8
   unfold l5_BlobParents.j3
   repeat' first
   | (with_reducible exact ih0 _ _ _ _)
   | (with_reducible exact ih1 _ _ _ _ _ _ _ _ _)
   | (with_reducible exact ih2 _ _ _ _ _ _ _ _ _)
   | (with_reducible exact ih3 _ _ _ _ _ _ _ _ _)
   | (with_reducible exact LeO.refl _)
   | (with_reducible exact LeO.none _)
   | (with_reducible refine LeO.ite ?_ ?_)
   | (with_reducible refine LeO.bind ?_ (fun _ => ?_))
   | exact ih0 _ _ _ _
   | exact ih1 _ _ _ _ _ _ _ _ _
   | exact ih2 _ _ _ _ _ _ _ _ _
   | exact ih3 _ _ _ _ _ _ _ _ _
   | exact LeO.none _
   | refine LeO.ite ?_ ?_
   | refine LeO.bind ?_ (fun _ => ?_)
theorem l5_BlobParents.mono : ∀ a0 a1 k, LeO (l5_BlobParents.f k a0 a1) (l5_BlobParents.f (k + 1) a0 a1) := by
 intro a0 a1 k
 obtain ⟨ih0, ih1, ih2, ih3⟩ := l5_BlobParents.mono_l k
 unfold l5_BlobParents.f
 repeat' first
   | (with_reducible exact ih0 _ _ _ _)
   | (with_reducible exact ih1 _ _ _ _ _ _ _ _ _)
   | (with_reducible exact ih2 _ _ _ _ _ _ _ _ _)
   | (with_reducible exact ih3 _ _ _ _ _ _ _ _ _)
   | (with_reducible exact LeO.refl _)
   | (with_reducible exact LeO.none _)
   | (with_reducible refine LeO.ite ?_ ?_)
   | (with_reducible refine LeO.bind ?_ (fun _ => ?_))
   | exact ih0 _ _ _ _
   | exact ih1 _ _ _ _ _ _ _ _ _
   | exact ih2 _ _ _ _ _ _ _ _ _
   | exact ih3 _ _ _ _ _ _ _ _ _
   | exact LeO.none _
   | refine LeO.ite ?_ ?_
   | refine LeO.bind ?_ (fun _ => ?_)
def l5_BlobParents.T8 : Bool × List (List Nat × List Nat) := (true, [([], []), ([], []), ([1], [1]), ([0, 2], [0, 2]), ([3], [3]), ([], []), ([5], [5]), ([], []), ([], []), ([8], [8]), ([7, 9], [7, 9]), ([], []), ([10, 11], [10, 11]), ([12], [12]), ([4, 6, 13], [4, 6, 13]), ([], []), ([15, 14, 0, 1, 2, 3, 4, 5, 6, 7, 8, 9, 10, 11, 12, 13, 14, 15], [14, 15])])
def l5_BlobParents.B8 : List Nat := [0, 0, 2, 7, 15, 0, 32, 0, 0, 256, 896, 0, 3968, 8064, 16383, 0, 65535]
theorem l5_BlobParents.tab8 : rtab .any (opsOf Tryz.f9 8) = l5_BlobParents.T8 := by kernel_rfl
theorem l5_BlobParents.bits8 : waitsOk l5_BlobParents.T8.2 l5_BlobParents.B8 = true := by kernel_rfl
def l5_BlobParents.T22 : Bool × List (List Nat × List Nat) := (true, [([], []), ([0], [0]), ([], []), ([1, 2], [1, 2]), ([3], [3]), ([4], [4]), ([], []), ([6], [6]), ([], []), ([8], [8]), ([7, 9], [7, 9]), ([10], [10]), ([11], [11]), ([5, 12], [5, 12])])
def l5_BlobParents.B22 : List Nat := [0, 1, 0, 7, 15, 31, 0, 64, 0, 256, 960, 1984, 4032, 8191]
theorem l5_BlobParents.tab22 : rtab .any (opsOf Tryz.f9 22) = l5_BlobParents.T22 := by kernel_rfl
theorem l5_BlobParents.bits22 : waitsOk l5_BlobParents.T22.2 l5_BlobParents.B22 = true := by kernel_rfl
set_option maxHeartbeats 8000000 in
set_option maxRecDepth 100000 in
theorem l5_BlobParents.calls (k : Nat) (a0 : Int) (a1 : Int) (r : Bool) (w : World) (h : l5_BlobParents.f k a0 a1 = some r) :
  Calls Tryz.prog 9 #[.int .i64 a0, .int .i64 a1] w fun e w' => e = .returned (.bool r) ∧ Below w.heap.size w w' := by
 have hu46 := Tryz.underlying46
 have hu44 := Tryz.underlying44
 have HB := Aside0.mk (Below.refl w.heap.size w)
 have H : ((l5_known.f).bind fun t279 => (if t279 = true then ((l5_within.f a0 12).bind fun t280 => (l5_BlobParents.l0 k a1 (wrap64 (1 + t280)) ([] : List (S44)) 0)) else (some false))) = some r := h
 clear h
 replace H := Option.bind_eq_some_iff.mp H
 obtain ⟨t279, A30, H⟩ := H
 replace H : (if t279 = true then ((l5_within.f a0 12).bind fun t280 => (l5_BlobParents.l0 k a1 (wrap64 (1 + t280)) ([] : List (S44)) 0)) else (some false)) = some r := H
 have A3 := Aside0.mk A30
 clear A30
 by_cases c4 : t279 = true
 ·subst c4
  have H1 : ((l5_within.f a0 12).bind fun t280 => (l5_BlobParents.l0 k a1 (wrap64 (1 + t280)) ([] : List (S44)) 0)) = some r := by rw [if_pos rfl] at H; exact H
  clear H
  have H := H1
  clear H1
  replace H := Option.bind_eq_some_iff.mp H
  obtain ⟨t280, A50, H⟩ := H
  replace H : (l5_BlobParents.l0 k a1 (wrap64 (1 + t280)) ([] : List (S44)) 0) = some r := H
  have A5 := Aside0.mk A50
  clear A50
  have H' := Aside0.mk H
  clear H
  go_enter Tryz.func9, Tryz.ntmps9
  go_wp2_with (first | ((with_reducible refine gate_callee (f := 11) rfl ?_); refine goesL_ (some 13) rfl rfl Tryz.func11 (by kernel_rfl) rfl #[] rfl (by (try simp only [List.map_toArray, List.map_cons, List.map_nil]); first | done | rfl | (simp only [List.length_drop, List.length_take]; rfl)) ?_; (with_reducible refine (l5_known.calls  true _ A3.out).mono ?_); rintro e w6 ⟨rfl, hb⟩; refine ⟨_, rfl, ?_⟩; have n0_ := Aside0.mk (below_step (by repeat (first | (with_reducible first | exact HB.out | apply below_alloc | apply pw_below_drewN | apply below_drew1) | exact HB.out)) hb); clear HB; have HB := n0_; clear n0_; (try clear hb); (try clear hb2); (try clear hk); (try clear hi)) | ((with_reducible refine gate_callee (f := 19) rfl ?_); refine goesL_ (some 16) rfl rfl Tryz.func19 (by kernel_rfl) rfl #[.int .i64 a0, .int .i64 12] rfl (by (try simp only [List.map_toArray, List.map_cons, List.map_nil]); first | done | rfl | (simp only [List.length_drop, List.length_take]; rfl)) ?_; (with_reducible refine (l5_within.calls a0 12 t280 _ A5.out).mono ?_); rintro e w' ⟨rfl, ⟨nd, rfl⟩⟩; refine ⟨_, rfl, ?_⟩))
  go_loopg [6, 7] k (fun kq v6 v7 w' => ∃ (x6_1 : List (S44)) (x7_1 : Int), v7 = .int .i64 x7_1 ∧ Aside0 (l5_BlobParents.l0 kq a1 (wrap64 (1 + t280)) x6_1 x7_1 = some r) ∧ Aside0 (kq ≤ k) ∧ Aside0 (Kd.R k44 44 w' w.heap.size (fun _ => True) v6 x6_1) ∧ Aside0 (Below w.heap.size w w'))
  case atStart => exact ⟨(([] : List (S44))), (0), (by first | rfl | (simp; done) | (simp [*]; done)), H', ⟨Nat.le_refl _⟩, ⟨by first | exact Kd.R_nil _ _ _ _ _ | exact Kd.N_nil _ _ _ _ _ | exact Kd.V_nil _ _ _ _ _ | exact Kd.Q_nil _ _ _ _ _ | exact Kd.S_nil _ _ _ _ _⟩, ⟨by repeat (first | (with_reducible first | exact HB.out | apply below_alloc | apply pw_below_drewN | apply below_drew1) | exact HB.out)⟩⟩
  case round =>
   clear H'
   try clear c1
   try clear p2
   try clear c4
   try clear p6
   obtain ⟨x6_1, x7_1, rfl, HA, HK1, HO_6, HB⟩ := hrel
   cases gk with
   | zero => exact absurd HA.out (by simp [l5_BlobParents.l0])
   | succ k1 =>
    have H := HA.out
    clear HA
    simp only [l5_BlobParents.l0] at H
    by_cases c7 : x7_1 < (wrap64 (1 + t280))
    ·rw [if_pos c7] at H
     have c7b0 : decide (x7_1 < (wrap64 (1 + t280))) = true := decide_eq_true c7
     clear c7
     by_cases c8 : 0 ≤ x7_1
     ·rw [if_pos c8] at H
      have c8b0 := eq_true c8
      have c8b1 : decide (0 ≤ x7_1) = true := decide_eq_true c8
      clear c8
      by_cases c9 : x7_1 ≤ (wrap64 (x7_1 + 1))
      ·rw [if_pos c9] at H
       have c9b0 := eq_true c9
       have c9b1 : decide (x7_1 ≤ (wrap64 (x7_1 + 1))) = true := decide_eq_true c9
       by_cases c10 : (wrap64 (x7_1 + 1)) ≤ 12
       ·rw [if_pos c10] at H
        have c10b0 := eq_true c10
        have c10b1 : decide ((wrap64 (x7_1 + 1)) ≤ 12) = true := decide_eq_true c10
        by_cases c11 : 1 + ((⟨#[97, 98, 99, 100, 101, 102, 103, 104, 105, 106, 107, 108]⟩ : ByteArray).extract (x7_1 : Int).toNat ((wrap64 (x7_1 + 1)) : Int).toNat).size ≤ 9223372036854775807
        ·rw [if_pos c11] at H
         have c11b0 := eq_true c11
         have c11b1 : decide (1 + ((⟨#[97, 98, 99, 100, 101, 102, 103, 104, 105, 106, 107, 108]⟩ : ByteArray).extract (x7_1 : Int).toNat ((wrap64 (x7_1 + 1)) : Int).toNat).size ≤ 9223372036854775807) = true := decide_eq_true c11
         try have c11b2 : (9223372036854775807 < 1 + ((⟨#[97, 98, 99, 100, 101, 102, 103, 104, 105, 106, 107, 108]⟩ : ByteArray).extract (x7_1 : Int).toNat ((wrap64 (x7_1 + 1)) : Int).toNat).size) = False := eq_false (Nat.not_lt.2 c11)
         have c12b0 := eq_true (of_decide_eq_true (by first | (with_reducible assumption) | assumption) : 0 ≤ x7_1)
         have c13b0 := eq_true (of_decide_eq_true (by first | (with_reducible assumption) | assumption) : x7_1 ≤ (wrap64 (x7_1 + 1)))
         have c14b0 := eq_true (of_decide_eq_true (by first | (with_reducible assumption) | assumption) : (wrap64 (x7_1 + 1)) ≤ 12)
         obtain ⟨y281, hy281⟩ : ∃ y_ : List (S46), y_ = (([(⟨(⟨#[97, 98, 99, 100, 101, 102, 103, 104, 105, 106, 107, 108]⟩ : ByteArray).extract (x7_1 : Int).toNat ((wrap64 (x7_1 + 1)) : Int).toNat, 1, x7_1⟩ : S46)] : List (S46))) := ⟨_, rfl⟩
         replace H : (if x7_1 > 1 then ((l5_within.f a1 3).bind fun t285 => (if t285 = 0 then (if x6_1.length < 1353245080339 then (l5_BlobParents.l0 k1 a1 (wrap64 (1 + t280)) (x6_1 ++ [(⟨(⟨#[108]⟩ : ByteArray) ++ ((⟨#[97, 98, 99, 100, 101, 102, 103, 104, 105, 106, 107, 108]⟩ : ByteArray).extract (x7_1 : Int).toNat ((wrap64 (x7_1 + 1)) : Int).toNat), wrap64 (x7_1 - 2), 0, y281, ([] : List (S56)), ([] : List (S52))⟩ : S44)]) (wrap64 (x7_1 + 1))) else (none)) else (if x6_1.length < 1353245080339 then (l5_BlobParents.l0 k1 a1 (wrap64 (1 + t280)) (x6_1 ++ [(⟨(⟨#[108]⟩ : ByteArray) ++ ((⟨#[97, 98, 99, 100, 101, 102, 103, 104, 105, 106, 107, 108]⟩ : ByteArray).extract (x7_1 : Int).toNat ((wrap64 (x7_1 + 1)) : Int).toNat), wrap64 (x7_1 - 1), 0, y281, ([] : List (S56)), ([] : List (S52))⟩ : S44)]) (wrap64 (x7_1 + 1))) else (none)))) else (if x6_1.length < 1353245080339 then (l5_BlobParents.l0 k1 a1 (wrap64 (1 + t280)) (x6_1 ++ [(⟨(⟨#[108]⟩ : ByteArray) ++ ((⟨#[97, 98, 99, 100, 101, 102, 103, 104, 105, 106, 107, 108]⟩ : ByteArray).extract (x7_1 : Int).toNat ((wrap64 (x7_1 + 1)) : Int).toNat), wrap64 (x7_1 - 1), 0, y281, ([] : List (S56)), ([] : List (S52))⟩ : S44)]) (wrap64 (x7_1 + 1))) else (none))) = some r := by first | (rw [hy281]; with_reducible exact H) | (have H2_ := (Option.bind_some _ _).symm.trans H; rw [hy281]; with_reducible exact H2_) | (have H2_ := (Option.bind_some _ _).symm.trans H; with_reducible exact H2_) | with_reducible exact H | (rw [hy281]; exact H) | exact H
         have Ny281 := Aside0.mk hy281
         clear hy281
         by_cases c15 : x7_1 > 1
         ·rw [if_pos c15] at H
          have c15b0 : decide (1 < x7_1) = true := decide_eq_true c15
          clear c15
          replace H := Option.bind_eq_some_iff.mp H
          obtain ⟨t285, A160, H⟩ := H
          replace H : (if t285 = 0 then (if x6_1.length < 1353245080339 then (l5_BlobParents.l0 k1 a1 (wrap64 (1 + t280)) (x6_1 ++ [(⟨(⟨#[108]⟩ : ByteArray) ++ ((⟨#[97, 98, 99, 100, 101, 102, 103, 104, 105, 106, 107, 108]⟩ : ByteArray).extract (x7_1 : Int).toNat ((wrap64 (x7_1 + 1)) : Int).toNat), wrap64 (x7_1 - 2), 0, y281, ([] : List (S56)), ([] : List (S52))⟩ : S44)]) (wrap64 (x7_1 + 1))) else (none)) else (if x6_1.length < 1353245080339 then (l5_BlobParents.l0 k1 a1 (wrap64 (1 + t280)) (x6_1 ++ [(⟨(⟨#[108]⟩ : ByteArray) ++ ((⟨#[97, 98, 99, 100, 101, 102, 103, 104, 105, 106, 107, 108]⟩ : ByteArray).extract (x7_1 : Int).toNat ((wrap64 (x7_1 + 1)) : Int).toNat), wrap64 (x7_1 - 1), 0, y281, ([] : List (S56)), ([] : List (S52))⟩ : S44)]) (wrap64 (x7_1 + 1))) else (none))) = some r := H
          have A16 := Aside0.mk A160
          clear A160
          by_cases c17 : t285 = 0
          ·rw [if_pos c17] at H
           have c17b0 : (t285 == 0) = true := beq_iff_eq.mpr c17
           have c17b1 : (t285 != 0) = false := bne_eq_false_iff_eq.mpr c17
           clear c17
           by_cases c18 : x6_1.length < 1353245080339
           ·rw [if_pos c18] at H
            have LMc18 := Aside0.mk c18
            clear c18
            obtain ⟨y286, hy286⟩ : ∃ y_ : List (S44), y_ = (x6_1 ++ [(⟨(⟨#[108]⟩ : ByteArray) ++ ((⟨#[97, 98, 99, 100, 101, 102, 103, 104, 105, 106, 107, 108]⟩ : ByteArray).extract (x7_1 : Int).toNat ((wrap64 (x7_1 + 1)) : Int).toNat), wrap64 (x7_1 - 2), 0, y281, ([] : List (S56)), ([] : List (S52))⟩ : S44)]) := ⟨_, rfl⟩
            replace H : (l5_BlobParents.l0 k1 a1 (wrap64 (1 + t280)) y286 (wrap64 (x7_1 + 1))) = some r := by first | (rw [hy286]; with_reducible exact H) | (have H2_ := (Option.bind_some _ _).symm.trans H; rw [hy286]; with_reducible exact H2_) | (have H2_ := (Option.bind_some _ _).symm.trans H; with_reducible exact H2_) | with_reducible exact H | (rw [hy286]; exact H) | exact H
            have Ny286 := Aside0.mk hy286
            clear hy286
            have H' := Aside0.mk H
            clear H
            try go_wp2
            have n0_ := Aside0.mk (Kd.R_drew HO_6.out)
            have n1_ := Aside0.mk (below_drew1 HB.out)
            clear HO_6
            clear HB
            have HO_6 := n0_
            have HB := n1_
            clear n0_ n1_
            refine start_ (n := 17) (S := fun w' => True) (ds := []) #[false, false, false, false, false, false, false, false, false, false, false, false, false, false, false, false, false] (by kernel_rfl) rfl rfl trivial (fun hHeld => ?_); refine with_tabW l5_BlobParents.tab8 l5_BlobParents.bits8 (fun HT_ HW_ => ?_)
            generalize wr.drew = w19 at HO_6 HB hHeld ⊢
            refine pure_ (i := 0) (N := some 23) (v := ?_) (a' := ?_) #[true, false, false, false, false, false, false, false, false, false, false, false, false, false, false, false, false] rfl rfl (any_of HT_.out (by kernel_rfl)) (fun _ _ _ h => h) (Or.inl ⟨by rfl, ?_⟩) ?_ ?_
            rotate_left
            ·intro w'
             go_simp
             with_reducible rfl
            rotate_left
            ·simp only [Act.put, List.setIfInBounds_toArray, List.set_cons_zero, List.set_cons_succ, i64_w, i32_w]
             rfl
            refine pure_ (i := 1) (N := some 24) (v := ?_) (a' := ?_) #[true, true, false, false, false, false, false, false, false, false, false, false, false, false, false, false, false] rfl rfl (any_of HT_.out (by kernel_rfl)) (fun _ _ _ h => h) (Or.inl ⟨by rfl, ?_⟩) ?_ ?_
            rotate_left
            ·intro w'
             go_simp
             with_reducible rfl
            rotate_left
            ·simp only [Act.put, List.setIfInBounds_toArray, List.set_cons_zero, List.set_cons_succ, i64_w, i32_w]
             rfl
            refine pure_ (i := 2) (N := some 25) (v := ?_) (a' := ?_) #[true, true, true, false, false, false, false, false, false, false, false, false, false, false, false, false, false] rfl rfl (any_of HT_.out (by kernel_rfl)) (fun _ _ _ h => h) (Or.inl ⟨by rfl, ?_⟩) ?_ ?_
            rotate_left
            ·intro w'
             go_simp
             with_reducible rfl
            rotate_left
            ·simp only [Act.put, List.setIfInBounds_toArray, List.set_cons_zero, List.set_cons_succ, i64_w, i32_w]
             rfl
            refine pure_ (i := 3) (N := some 26) (v := ?_) (a' := ?_) #[true, true, true, true, false, false, false, false, false, false, false, false, false, false, false, false, false] rfl rfl (any_of HT_.out (by kernel_rfl)) (fun _ _ _ h => h) (Or.inl ⟨by rfl, ?_⟩) ?_ ?_
            rotate_left
            ·intro w'
             go_simp
             with_reducible rfl
            rotate_left
            ·simp only [Act.put, List.setIfInBounds_toArray, List.set_cons_zero, List.set_cons_succ, i64_w, i32_w]
             rfl
            refine pure_ (i := 4) (N := some 27) (v := ?_) (a' := ?_) #[true, true, true, true, true, false, false, false, false, false, false, false, false, false, false, false, false] rfl rfl (any_of HT_.out (by kernel_rfl)) (fun _ _ _ h => h) (Or.inl ⟨by rfl, ?_⟩) ?_ ?_
            rotate_left
            ·intro w'
             have hq_ : ¬ (9223372036854775807 < 1 + ((wrap64 (x7_1 + 1)).toNat - x7_1.toNat)) := by
              have h_ : wrap64 (x7_1 + 1) ≤ 12 := by assumption
              generalize wrap64 (x7_1 + 1) = q_ at h_ ⊢
              omega
             go_simp
             with_reducible rfl
            rotate_left
            ·simp only [Act.put, List.setIfInBounds_toArray, List.set_cons_zero, List.set_cons_succ, i64_w, i32_w]
             rfl
            refine pure_ (i := 5) (N := some 28) (v := ?_) (a' := ?_) #[true, true, true, true, true, true, false, false, false, false, false, false, false, false, false, false, false] rfl rfl (any_of HT_.out (by kernel_rfl)) (fun _ _ _ h => h) (Or.inl ⟨by rfl, ?_⟩) ?_ ?_
            rotate_left
            ·intro w'
             go_simp
             with_reducible rfl
            rotate_left
            ·simp only [Act.put, List.setIfInBounds_toArray, List.set_cons_zero, List.set_cons_succ, i64_w, i32_w]
             rfl
            refine pure_ (i := 6) (N := some 29) (v := ?_) (a' := ?_) #[true, true, true, true, true, true, true, false, false, false, false, false, false, false, false, false, false] rfl rfl (any_of HT_.out (by kernel_rfl)) (fun _ _ _ h => h) (Or.inl ⟨by rfl, ?_⟩) ?_ ?_
            rotate_left
            ·intro w'
             go_simp
             with_reducible rfl
            rotate_left
            ·simp only [Act.put, List.setIfInBounds_toArray, List.set_cons_zero, List.set_cons_succ, i64_w, i32_w]
             rfl
            refine pure_ (i := 7) (N := some 30) (v := ?_) (a' := ?_) #[true, true, true, true, true, true, true, true, false, false, false, false, false, false, false, false, false] rfl rfl (any_of HT_.out (by kernel_rfl)) (fun _ _ _ h => h) (Or.inl ⟨by rfl, ?_⟩) ?_ ?_
            rotate_left
            ·intro w'
             go_simp
             with_reducible rfl
            rotate_left
            ·simp only [Act.put, List.setIfInBounds_toArray, List.set_cons_zero, List.set_cons_succ, i64_w, i32_w]
             rfl
            refine pure_ (i := 8) (N := some 31) (v := ?_) (a' := ?_) #[true, true, true, true, true, true, true, true, true, false, false, false, false, false, false, false, false] rfl rfl (any_of HT_.out (by kernel_rfl)) (fun _ _ _ h => h) (Or.inl ⟨by rfl, ?_⟩) ?_ ?_
            rotate_left
            ·intro w'
             go_simp
             with_reducible rfl
            rotate_left
            ·simp only [Act.put, List.setIfInBounds_toArray, List.set_cons_zero, List.set_cons_succ, i64_w, i32_w]
             rfl
            refine pure_ (i := 9) (N := some 32) (v := ?_) (a' := ?_) #[true, true, true, true, true, true, true, true, true, true, false, false, false, false, false, false, false] rfl rfl (any_of HT_.out (by kernel_rfl)) (fun _ _ _ h => h) (Or.inl ⟨by rfl, ?_⟩) ?_ ?_
            rotate_left
            ·intro w'
             go_simp
             with_reducible rfl
            rotate_left
            ·simp only [Act.put, List.setIfInBounds_toArray, List.set_cons_zero, List.set_cons_succ, i64_w, i32_w]
             rfl
            refine pure_ (i := 10) (N := some 33) (v := ?_) (a' := ?_) #[true, true, true, true, true, true, true, true, true, true, true, false, false, false, false, false, false] rfl rfl (any_of HT_.out (by kernel_rfl)) (fun _ _ _ h => h) (Or.inl ⟨by rfl, ?_⟩) ?_ ?_
            rotate_left
            ·intro w'
             go_simp
             with_reducible rfl
            rotate_left
            ·simp only [Act.put, List.setIfInBounds_toArray, List.set_cons_zero, List.set_cons_succ, i64_w, i32_w]
             rfl
            refine pure_ (i := 11) (N := some 34) (v := ?_) (a' := ?_) #[true, true, true, true, true, true, true, true, true, true, true, true, false, false, false, false, false] rfl rfl (any_of HT_.out (by kernel_rfl)) (fun _ _ _ h => h) (Or.inl ⟨by rfl, ?_⟩) ?_ ?_
            rotate_left
            ·intro w'
             go_simp
             with_reducible rfl
            rotate_left
            ·simp only [Act.put, List.setIfInBounds_toArray, List.set_cons_zero, List.set_cons_succ, i64_w, i32_w]
             rfl
            refine pure_ (i := 12) (N := some 35) (v := ?_) (a' := ?_) #[true, true, true, true, true, true, true, true, true, true, true, true, true, false, false, false, false] rfl rfl (any_of HT_.out (by kernel_rfl)) (fun _ _ _ h => h) (Or.inl ⟨by rfl, ?_⟩) ?_ ?_
            rotate_left
            ·intro w'
             go_simp
             with_reducible rfl
            rotate_left
            ·simp only [Act.put, List.setIfInBounds_toArray, List.set_cons_zero, List.set_cons_succ, i64_w, i32_w]
             rfl
            refine join_ (σ := Value × Nat) 1 #[true, true, true, true, true, true, true, true, true, true, true, true, true, true, true, true, false] (fun s_ => [(36, s_.1), (8, .pointer (some ⟨s_.2, 0, none⟩)), (37, .agg #[.string ((⟨#[108]⟩ : ByteArray) ++ ((⟨#[97, 98, 99, 100, 101, 102, 103, 104, 105, 106, 107, 108]⟩ : ByteArray).extract (x7_1 : Int).toNat ((wrap64 (x7_1 + 1)) : Int).toNat)), .int .i64 (wrap64 (x7_1 - 1)), .int .i64 0, s_.1, .slice none 0 0, .slice none 0 0])]) (fun s_ w' => (Kd.R k46 46 w' w.heap.size (fun _ => True) s_.1 y281) ∧ (Kd.R k44 44 w' w.heap.size (fun k_ => some k_ ≠ (s_.1 : Value).ownBlock ∧ k_ ≠ s_.2) u6 x6_1) ∧ (w'.heap[s_.2]? = some (.cells #[.string (⟨#[]⟩ : ByteArray), .int .i64 0, .int .i64 0, .slice none 0 0, .slice none 0 0, .slice none 0 0] 44 (0, 0))) ∧ (w.heap.size ≤ s_.2) ∧ (w.heap.size ≤ s_.2) ∧ (Below w.heap.size w w')) ?_ ?_
            rotate_left
            ·intro hCont
             refine two_ (i := 13) (j := 15) (Ni := some 36) (Nj := some 8) #[true, true, true, true, true, true, true, true, true, true, true, true, true, true, false, false, false] #[true, true, true, true, true, true, true, true, true, true, true, true, true, false, false, true, false] rfl rfl rfl rfl (two_of HT_.out (by kernel_rfl)) (by decide) (by decide) (fun K hK => ?_) (fun K hK => ?_)
             ·skip
              refine Kd.R_lit_step k46 _ 46 ?hg (N := 36) ?hd (xs := ([(⟨(⟨#[97, 98, 99, 100, 101, 102, 103, 104, 105, 106, 107, 108]⟩ : ByteArray).extract (x7_1 : Int).toNat ((wrap64 (x7_1 + 1)) : Int).toNat, 1, x7_1⟩ : S46)] : List (S46))) (inner := [.string ((⟨#[97, 98, 99, 100, 101, 102, 103, 104, 105, 106, 107, 108]⟩ : ByteArray).extract (x7_1 : Int).toNat ((wrap64 (x7_1 + 1)) : Int).toNat), .int .i64 1, .int .i64 x7_1]) (ok := fun _ => True) (okp := fun _ => True) ?hr ?hp (fun _ hk => hk) trivial (Below.refl _ _) (Nat.le_refl _) (by simp) ?_; (case hd => rfl); (case hg => rfl); (case hr => first | (go_simp; done) | (go_simp; rfl)); (case hp => exact (Reps.c3 (show Kd.M k46 _ _ _ (⟨(⟨#[97, 98, 99, 100, 101, 102, 103, 104, 105, 106, 107, 108]⟩ : ByteArray).extract (x7_1 : Int).toNat ((wrap64 (x7_1 + 1)) : Int).toNat, 1, x7_1⟩ : S46) [.string ((⟨#[97, 98, 99, 100, 101, 102, 103, 104, 105, 106, 107, 108]⟩ : ByteArray).extract (x7_1 : Int).toNat ((wrap64 (x7_1 + 1)) : Int).toNat), .int .i64 1, .int .i64 x7_1] from (k46_mkM _ _ _ (⟨(⟨#[97, 98, 99, 100, 101, 102, 103, 104, 105, 106, 107, 108]⟩ : ByteArray).extract (x7_1 : Int).toNat ((wrap64 (x7_1 + 1)) : Int).toNat, 1, x7_1⟩ : S46) )) (Reps.none _ _)))
              intro v282 w20 ho21 hb hg_ hnew_
              clear hg_ hnew_
              (first | rw [← Ny281.out] at ho21 | (simp only [Int.reduceToNat] at ho21; rw [← Ny281.out] at ho21))
              have n0_ := Aside0.mk (Kd.R_elder' (by (with_reducible repeat (first | apply Kd.R_alloc | apply Kd.R_drewN | apply Kd.R_drew)); exact HO_6.out) (Kd.R_base ho21) hb)
              have n1_ := Aside0.mk (Kd.R_lower ho21 (below_size (by repeat (first | (with_reducible first | exact HB.out | apply below_alloc | apply pw_below_drewN | apply below_drew1) | exact HB.out))))
              have n2_ := Aside0.mk (below_step (by repeat (first | (with_reducible first | exact HB.out | apply below_alloc | apply pw_below_drewN | apply below_drew1) | exact HB.out)) hb)
              clear HO_6
              clear HB
              have HO_6 := n0_
              have HO283 := n1_
              have HB := n2_
              clear n0_ n1_ n2_
              clear hb ho21
              obtain ⟨Ao22, co22, eo22⟩ := Kd.R_slice HO283.out
              (first | subst eo22 | (injection eo22 with f1_ f2_ f3_; have f4_ := f1_.symm; have f5_ := f3_.symm; clear f1_ f2_ f3_; subst f4_; subst f5_))
              refine hK.out _ _ trivial (fun hHeld => ?_)
              clear hK K
              refine norm_ (a' := ?_) ?_ ?_
              rotate_left
              ·show Act.put _ (some 36) _ = _
               simp only [Act.put, List.setIfInBounds_toArray, List.set_cons_zero, List.set_cons_succ, i64_w, i32_w]
               rfl
              refine pure_ (i := 14) (N := some 37) (v := ?_) (a' := ?_) #[true, true, true, true, true, true, true, true, true, true, true, true, true, true, true, false, false] rfl rfl (any_of HT_.out (by kernel_rfl)) (fun _ _ _ h => h) (Or.inl ⟨by rfl, ?_⟩) ?_ ?_
              rotate_left
              ·intro w'
               go_simp
               with_reducible rfl
              rotate_left
              ·simp only [Act.put, List.setIfInBounds_toArray, List.set_cons_zero, List.set_cons_succ, i64_w, i32_w]
               rfl
              refine one_ (i := 15) (N := some 8) #[true, true, true, true, true, true, true, true, true, true, true, true, true, true, true, true, false] rfl rfl (one_of HT_.out (by kernel_rfl)) (by decide) (fun K hK => ?_)
              refine box_step ?hg (N := 8) ?hd (cs := #[.string (⟨#[]⟩ : ByteArray), .int .i64 0, .int .i64 0, .slice none 0 0, .slice none 0 0, .slice none 0 0]) (t := 44) ?hr ?_; (case hd => rfl); (case hg => rfl); (case hr => first | (go_simp; done) | (go_simp; rfl))
              intro gb284 hg w23 hbox hb
              have n0_ := Aside0.mk (Kd.R_below (Kd.R_elderB (by (with_reducible repeat (first | apply Kd.R_alloc | apply Kd.R_drewN | apply Kd.R_drew)); exact HO_6.out) gb284 (Nat.le_of_eq hg.symm)) hb)
              have n1_ := Aside0.mk (Kd.R_below (by (with_reducible repeat (first | apply Kd.R_alloc | apply Kd.R_drewN | apply Kd.R_drew)); exact HO283.out) hb)
              have n2_ := Aside0.mk (below_step (by repeat (first | (with_reducible first | exact HB.out | apply below_alloc | apply pw_below_drewN | apply below_drew1) | exact HB.out)) hb)
              have n3_ := Aside0.mk (hbox)
              have n4_ := Aside0.mk ((by rw [hg]; exact (below_size (by repeat (first | (with_reducible first | exact HB.out | apply below_alloc | apply pw_below_drewN | apply below_drew1) | exact HB.out))) : w.heap.size ≤ gb284))
              have n5_ := Aside0.mk ((by rw [hg]; exact (below_size (by repeat (first | (with_reducible first | exact HB.out | apply below_alloc | apply pw_below_drewN | apply below_drew1) | exact HB.out))) : w.heap.size ≤ gb284))
              clear HO_6
              clear HO283
              clear HB
              have HO_6 := n0_
              have HO283 := n1_
              have HB := n2_
              have BK284 := n3_
              have GW284 := n4_
              have GE284 := n5_
              clear n0_ n1_ n2_ n3_ n4_ n5_
              clear hb hbox hg
              refine hK.out _ _ trivial (fun hHeld => ?_)
              clear hK K
              refine norm_ (a' := ?_) ?_ ?_
              rotate_left
              ·show Act.put _ (some 8) _ = _
               simp only [Act.put, List.setIfInBounds_toArray, List.set_cons_zero, List.set_cons_succ, i64_w, i32_w]
               rfl
              exact norm_ (by simp only [putAll, Act.put, List.setIfInBounds_toArray, List.set_cons_zero, List.set_cons_succ]) (hCont (.slice Ao22 y281.length co22, gb284) _ ⟨(by (with_reducible repeat (first | apply Kd.R_alloc | apply Kd.R_drewN | apply Kd.R_drew)); exact HO283.out), (by (with_reducible repeat (first | apply Kd.R_alloc | apply Kd.R_drewN | apply Kd.R_drew)); exact Kd.R_mono HO_6.out (fun _ hk => ⟨hk.1.2, hk.2⟩)), (by (with_reducible repeat (first | refine blk_drewN ?_ _ | refine blk_drew ?_ | refine blk_alloc ?_ _)); exact BK284.out), GW284.out, GE284.out, (by repeat (first | (with_reducible first | exact HB.out | apply below_alloc | apply pw_below_drewN | apply below_drew1 | refine below_set ?_ GE284.out) | exact HB.out))⟩)
             ·skip
              refine box_step ?hg (N := 8) ?hd (cs := #[.string (⟨#[]⟩ : ByteArray), .int .i64 0, .int .i64 0, .slice none 0 0, .slice none 0 0, .slice none 0 0]) (t := 44) ?hr ?_; (case hd => rfl); (case hg => rfl); (case hr => first | (go_simp; done) | (go_simp; rfl))
              intro gb284 hg w20 hbox hb
              have n0_ := Aside0.mk (Kd.R_below (Kd.R_elderB (by (with_reducible repeat (first | apply Kd.R_alloc | apply Kd.R_drewN | apply Kd.R_drew)); exact HO_6.out) gb284 (Nat.le_of_eq hg.symm)) hb)
              have n1_ := Aside0.mk (below_step (by repeat (first | (with_reducible first | exact HB.out | apply below_alloc | apply pw_below_drewN | apply below_drew1) | exact HB.out)) hb)
              have n2_ := Aside0.mk (hbox)
              have n3_ := Aside0.mk ((by rw [hg]; exact (below_size (by repeat (first | (with_reducible first | exact HB.out | apply below_alloc | apply pw_below_drewN | apply below_drew1) | exact HB.out))) : w.heap.size ≤ gb284))
              have n4_ := Aside0.mk ((by rw [hg]; exact (below_size (by repeat (first | (with_reducible first | exact HB.out | apply below_alloc | apply pw_below_drewN | apply below_drew1) | exact HB.out))) : w.heap.size ≤ gb284))
              clear HO_6
              clear HB
              have HO_6 := n0_
              have HB := n1_
              have BK284 := n2_
              have GW284 := n3_
              have GE284 := n4_
              clear n0_ n1_ n2_ n3_ n4_
              clear hb hbox hg
              refine hK.out _ _ trivial (fun hHeld => ?_)
              clear hK K
              refine norm_ (a' := ?_) ?_ ?_
              rotate_left
              ·show Act.put _ (some 8) _ = _
               simp only [Act.put, List.setIfInBounds_toArray, List.set_cons_zero, List.set_cons_succ, i64_w, i32_w]
               rfl
              refine one_ (i := 13) (N := some 36) #[true, true, true, true, true, true, true, true, true, true, true, true, true, true, false, true, false] rfl rfl (one_of HT_.out (by kernel_rfl)) (by decide) (fun K hK => ?_)
              refine Kd.R_lit_step k46 _ 46 ?hg (N := 36) ?hd (xs := ([(⟨(⟨#[97, 98, 99, 100, 101, 102, 103, 104, 105, 106, 107, 108]⟩ : ByteArray).extract (x7_1 : Int).toNat ((wrap64 (x7_1 + 1)) : Int).toNat, 1, x7_1⟩ : S46)] : List (S46))) (inner := [.string ((⟨#[97, 98, 99, 100, 101, 102, 103, 104, 105, 106, 107, 108]⟩ : ByteArray).extract (x7_1 : Int).toNat ((wrap64 (x7_1 + 1)) : Int).toNat), .int .i64 1, .int .i64 x7_1]) (ok := fun _ => True) (okp := fun _ => True) ?hr ?hp (fun _ hk => hk) trivial (Below.refl _ _) (Nat.le_refl _) (by simp) ?_; (case hd => rfl); (case hg => rfl); (case hr => first | (go_simp; done) | (go_simp; rfl)); (case hp => exact (Reps.c3 (show Kd.M k46 _ _ _ (⟨(⟨#[97, 98, 99, 100, 101, 102, 103, 104, 105, 106, 107, 108]⟩ : ByteArray).extract (x7_1 : Int).toNat ((wrap64 (x7_1 + 1)) : Int).toNat, 1, x7_1⟩ : S46) [.string ((⟨#[97, 98, 99, 100, 101, 102, 103, 104, 105, 106, 107, 108]⟩ : ByteArray).extract (x7_1 : Int).toNat ((wrap64 (x7_1 + 1)) : Int).toNat), .int .i64 1, .int .i64 x7_1] from (k46_mkM _ _ _ (⟨(⟨#[97, 98, 99, 100, 101, 102, 103, 104, 105, 106, 107, 108]⟩ : ByteArray).extract (x7_1 : Int).toNat ((wrap64 (x7_1 + 1)) : Int).toNat, 1, x7_1⟩ : S46) )) (Reps.none _ _)))
              intro v282 w21 ho22 hb hg_ hnew_
              clear hg_ hnew_
              (first | rw [← Ny281.out] at ho22 | (simp only [Int.reduceToNat] at ho22; rw [← Ny281.out] at ho22))
              have n0_ := Aside0.mk (Kd.R_elder' (by (with_reducible repeat (first | apply Kd.R_alloc | apply Kd.R_drewN | apply Kd.R_drew)); exact HO_6.out) (Kd.R_base ho22) hb)
              have n1_ := Aside0.mk (Kd.R_lower ho22 (below_size (by repeat (first | (with_reducible first | exact HB.out | apply below_alloc | apply pw_below_drewN | apply below_drew1 | refine below_set ?_ GE284.out) | exact HB.out))))
              have n2_ := Aside0.mk (blk_below (g := gb284) (o := .cells #[.string (⟨#[]⟩ : ByteArray), .int .i64 0, .int .i64 0, .slice none 0 0, .slice none 0 0, .slice none 0 0] 44 (0, 0)) (by (with_reducible repeat (first | refine blk_drewN ?_ _ | refine blk_drew ?_ | refine blk_alloc ?_ _)); exact BK284.out) hb)
              have n3_ := Aside0.mk (below_step (by repeat (first | (with_reducible first | exact HB.out | apply below_alloc | apply pw_below_drewN | apply below_drew1 | refine below_set ?_ GE284.out) | exact HB.out)) hb)
              clear HO_6
              clear BK284
              clear HB
              have HO_6 := n0_
              have HO283 := n1_
              have BK284 := n2_
              have HB := n3_
              clear n0_ n1_ n2_ n3_
              clear hb ho22
              obtain ⟨Ao23, co23, eo23⟩ := Kd.R_slice HO283.out
              (first | subst eo23 | (injection eo23 with f1_ f2_ f3_; have f4_ := f1_.symm; have f5_ := f3_.symm; clear f1_ f2_ f3_; subst f4_; subst f5_))
              refine hK.out _ _ trivial (fun hHeld => ?_)
              clear hK K
              refine norm_ (a' := ?_) ?_ ?_
              rotate_left
              ·show Act.put _ (some 36) _ = _
               simp only [Act.put, List.setIfInBounds_toArray, List.set_cons_zero, List.set_cons_succ, i64_w, i32_w]
               rfl
              refine pure_ (i := 14) (N := some 37) (v := ?_) (a' := ?_) #[true, true, true, true, true, true, true, true, true, true, true, true, true, true, true, true, false] rfl rfl (any_of HT_.out (by kernel_rfl)) (fun _ _ _ h => h) (Or.inl ⟨by rfl, ?_⟩) ?_ ?_
              rotate_left
              ·intro w'
               go_simp
               with_reducible rfl
              rotate_left
              ·simp only [Act.put, List.setIfInBounds_toArray, List.set_cons_zero, List.set_cons_succ, i64_w, i32_w]
               rfl
              exact norm_ (by simp only [putAll, Act.put, List.setIfInBounds_toArray, List.set_cons_zero, List.set_cons_succ]) (hCont (.slice Ao23 y281.length co23, gb284) _ ⟨(by (with_reducible repeat (first | apply Kd.R_alloc | apply Kd.R_drewN | apply Kd.R_drew)); exact HO283.out), (by (with_reducible repeat (first | apply Kd.R_alloc | apply Kd.R_drewN | apply Kd.R_drew)); exact Kd.R_mono HO_6.out (fun _ hk => ⟨hk.2, hk.1.2⟩)), (by (with_reducible repeat (first | refine blk_drewN ?_ _ | refine blk_drew ?_ | refine blk_alloc ?_ _)); exact BK284.out), GW284.out, GE284.out, (by repeat (first | (with_reducible first | exact HB.out | apply below_alloc | apply pw_below_drewN | apply below_drew1 | refine below_set ?_ GE284.out) | exact HB.out))⟩)
            rintro ⟨v282, gb284⟩ w24 ⟨h0_, h1_, h2_, h3_, h4_, h5_⟩
            have n0_ : Aside0 (Kd.R k46 46 w24 w.heap.size (fun _ => True) v282 y281) := ⟨h0_⟩
            have n1_ : Aside0 (Kd.R k44 44 w24 w.heap.size (fun k_ => some k_ ≠ (v282 : Value).ownBlock ∧ k_ ≠ gb284) u6 x6_1) := ⟨h1_⟩
            have n2_ : Aside0 (w24.heap[gb284]? = some (.cells #[.string (⟨#[]⟩ : ByteArray), .int .i64 0, .int .i64 0, .slice none 0 0, .slice none 0 0, .slice none 0 0] 44 (0, 0))) := ⟨h2_⟩
            have n3_ : Aside0 (w.heap.size ≤ gb284) := ⟨h3_⟩
            have n4_ : Aside0 (w.heap.size ≤ gb284) := ⟨h4_⟩
            have n5_ : Aside0 (Below w.heap.size w w24) := ⟨h5_⟩
            clear HO_6
            clear HB
            clear h0_ h1_ h2_ h3_ h4_ h5_
            have HO283 := n0_
            have HO_6 := n1_
            have BK284 := n2_
            have GW284 := n3_
            have GE284 := n4_
            have HB := n5_
            clear n0_ n1_ n2_ n3_ n4_ n5_
            have hHeld := trivial
            obtain ⟨Ao25, co25, eo25⟩ := Kd.R_slice HO283.out
            (first | subst eo25 | (injection eo25 with f1_ f2_ f3_; have f4_ := f1_.symm; have f5_ := f3_.symm; clear f1_ f2_ f3_; subst f4_; subst f5_))
            refine norm_ (a' := ?_) ?_ ?_
            rotate_left
            ·simp only [putAll, Act.put, List.setIfInBounds_toArray, List.set_cons_zero, List.set_cons_succ]
             rfl
            refine one_ (i := 16) (N := none) #[true, true, true, true, true, true, true, true, true, true, true, true, true, true, true, true, true] rfl rfl (one_of HT_.out (by kernel_rfl)) (by decide) (fun K hK => ?_)
            have hs26 : w24.cell? ⟨gb284, 0, none⟩ = some (.string (⟨#[]⟩ : ByteArray)) := (blk_cell BK284.out 0).trans rfl
            have hfs26 := blk_frozen BK284.out 0
            have hs27 : w24.cell? ⟨gb284, 1, none⟩ = some (.int .i64 0) := (blk_cell BK284.out 1).trans rfl
            have hfs27 := blk_frozen BK284.out 1
            have hs28 : w24.cell? ⟨gb284, 2, none⟩ = some (.int .i64 0) := (blk_cell BK284.out 2).trans rfl
            have hfs28 := blk_frozen BK284.out 2
            have hs29 : w24.cell? ⟨gb284, 3, none⟩ = some (.slice none 0 0) := (blk_cell BK284.out 3).trans rfl
            have hfs29 := blk_frozen BK284.out 3
            have hs30 : w24.cell? ⟨gb284, 4, none⟩ = some (.slice none 0 0) := (blk_cell BK284.out 4).trans rfl
            have hfs30 := blk_frozen BK284.out 4
            have hs31 : w24.cell? ⟨gb284, 5, none⟩ = some (.slice none 0 0) := (blk_cell BK284.out 5).trans rfl
            have hfs31 := blk_frozen BK284.out 5
            refine skip_ (w1 := ?_) (by rfl) rfl ?_ ?_
            rotate_left
            ·go_simp
             rfl
            refine hK.out _ _ trivial (fun hHeld => ?_)
            clear hK K
            refine done_ (done_of HT_.out (by kernel_rfl)) ?_
            have n0_ : Aside0 (Kd.R k44 44 ((((((w24.setCell ⟨gb284, 0, none⟩ (.string ((⟨#[108]⟩ : ByteArray) ++ ((⟨#[97, 98, 99, 100, 101, 102, 103, 104, 105, 106, 107, 108]⟩ : ByteArray).extract (x7_1 : Int).toNat ((wrap64 (x7_1 + 1)) : Int).toNat)))).setCell ⟨gb284, 1, none⟩ (.int .i64 (wrap64 (x7_1 - 1)))).setCell ⟨gb284, 2, none⟩ (.int .i64 0)).setCell ⟨gb284, 3, none⟩ (.slice Ao25 y281.length co25)).setCell ⟨gb284, 4, none⟩ (.slice none 0 0)).setCell ⟨gb284, 5, none⟩ (.slice none 0 0)) w.heap.size (fun k_ => some k_ ≠ (.slice Ao25 y281.length co25 : Value).ownBlock ∧ k_ ≠ gb284) u6 x6_1) := ⟨by (with_reducible repeat (first | apply Kd.R_alloc | apply Kd.R_drewN | apply Kd.R_drew)); exact Kd.R_mono (Kd.R_far (p := ⟨gb284, 5, none⟩) (Kd.R_far (p := ⟨gb284, 4, none⟩) (Kd.R_far (p := ⟨gb284, 3, none⟩) (Kd.R_far (p := ⟨gb284, 2, none⟩) (Kd.R_far (p := ⟨gb284, 1, none⟩) (Kd.R_far (p := ⟨gb284, 0, none⟩) (Kd.R_mono HO_6.out (fun k_ hk => (⟨hk, hk.2⟩ : _ ∧ k_ ≠ gb284))) (fun _ hk => hk.2) (.string ((⟨#[108]⟩ : ByteArray) ++ ((⟨#[97, 98, 99, 100, 101, 102, 103, 104, 105, 106, 107, 108]⟩ : ByteArray).extract (x7_1 : Int).toNat ((wrap64 (x7_1 + 1)) : Int).toNat)))) (fun _ hk => hk.2) (.int .i64 (wrap64 (x7_1 - 1)))) (fun _ hk => hk.2) (.int .i64 0)) (fun _ hk => hk.2) (.slice Ao25 y281.length co25)) (fun _ hk => hk.2) (.slice none 0 0)) (fun _ hk => hk.2) (.slice none 0 0)) (fun _ hk => ⟨hk.1.1, hk.1.2⟩)⟩
            have n1_ : Aside0 (Kd.R k46 46 ((((((w24.setCell ⟨gb284, 0, none⟩ (.string ((⟨#[108]⟩ : ByteArray) ++ ((⟨#[97, 98, 99, 100, 101, 102, 103, 104, 105, 106, 107, 108]⟩ : ByteArray).extract (x7_1 : Int).toNat ((wrap64 (x7_1 + 1)) : Int).toNat)))).setCell ⟨gb284, 1, none⟩ (.int .i64 (wrap64 (x7_1 - 1)))).setCell ⟨gb284, 2, none⟩ (.int .i64 0)).setCell ⟨gb284, 3, none⟩ (.slice Ao25 y281.length co25)).setCell ⟨gb284, 4, none⟩ (.slice none 0 0)).setCell ⟨gb284, 5, none⟩ (.slice none 0 0)) w.heap.size (fun _ => True) (.slice Ao25 y281.length co25) y281) := ⟨by (with_reducible repeat (first | apply Kd.R_alloc | apply Kd.R_drewN | apply Kd.R_drew)); exact Kd.R_mono (Kd.R_far (p := ⟨gb284, 5, none⟩) (Kd.R_far (p := ⟨gb284, 4, none⟩) (Kd.R_far (p := ⟨gb284, 3, none⟩) (Kd.R_far (p := ⟨gb284, 2, none⟩) (Kd.R_far (p := ⟨gb284, 1, none⟩) (Kd.R_far (p := ⟨gb284, 0, none⟩) (Kd.R_types HO283.out BK284.out (by decide)) (fun _ hk => hk.2) (.string ((⟨#[108]⟩ : ByteArray) ++ ((⟨#[97, 98, 99, 100, 101, 102, 103, 104, 105, 106, 107, 108]⟩ : ByteArray).extract (x7_1 : Int).toNat ((wrap64 (x7_1 + 1)) : Int).toNat)))) (fun _ hk => hk.2) (.int .i64 (wrap64 (x7_1 - 1)))) (fun _ hk => hk.2) (.int .i64 0)) (fun _ hk => hk.2) (.slice Ao25 y281.length co25)) (fun _ hk => hk.2) (.slice none 0 0)) (fun _ hk => hk.2) (.slice none 0 0)) (fun _ hk => trivial)⟩
            have n2_ : Aside0 (((((((w24.setCell ⟨gb284, 0, none⟩ (.string ((⟨#[108]⟩ : ByteArray) ++ ((⟨#[97, 98, 99, 100, 101, 102, 103, 104, 105, 106, 107, 108]⟩ : ByteArray).extract (x7_1 : Int).toNat ((wrap64 (x7_1 + 1)) : Int).toNat)))).setCell ⟨gb284, 1, none⟩ (.int .i64 (wrap64 (x7_1 - 1)))).setCell ⟨gb284, 2, none⟩ (.int .i64 0)).setCell ⟨gb284, 3, none⟩ (.slice Ao25 y281.length co25)).setCell ⟨gb284, 4, none⟩ (.slice none 0 0)).setCell ⟨gb284, 5, none⟩ (.slice none 0 0)).heap[gb284]? = some (.cells #[.string ((⟨#[108]⟩ : ByteArray) ++ ((⟨#[97, 98, 99, 100, 101, 102, 103, 104, 105, 106, 107, 108]⟩ : ByteArray).extract (x7_1 : Int).toNat ((wrap64 (x7_1 + 1)) : Int).toNat)), .int .i64 (wrap64 (x7_1 - 1)), .int .i64 0, .slice Ao25 y281.length co25, .slice none 0 0, .slice none 0 0] 44 (0, 0))) := ⟨by (with_reducible repeat (first | refine blk_drewN ?_ _ | refine blk_drew ?_ | refine blk_alloc ?_ _)); refine blk_put (cs := #[.string ((⟨#[108]⟩ : ByteArray) ++ ((⟨#[97, 98, 99, 100, 101, 102, 103, 104, 105, 106, 107, 108]⟩ : ByteArray).extract (x7_1 : Int).toNat ((wrap64 (x7_1 + 1)) : Int).toNat)), .int .i64 (wrap64 (x7_1 - 1)), .int .i64 0, .slice Ao25 y281.length co25, .slice none 0 0, .slice none 0 0]) ?_ 5 _ rfl; (with_reducible repeat (first | refine blk_drewN ?_ _ | refine blk_drew ?_ | refine blk_alloc ?_ _)); refine blk_put (cs := #[.string ((⟨#[108]⟩ : ByteArray) ++ ((⟨#[97, 98, 99, 100, 101, 102, 103, 104, 105, 106, 107, 108]⟩ : ByteArray).extract (x7_1 : Int).toNat ((wrap64 (x7_1 + 1)) : Int).toNat)), .int .i64 (wrap64 (x7_1 - 1)), .int .i64 0, .slice Ao25 y281.length co25, .slice none 0 0, .slice none 0 0]) ?_ 4 _ rfl; (with_reducible repeat (first | refine blk_drewN ?_ _ | refine blk_drew ?_ | refine blk_alloc ?_ _)); refine blk_put (cs := #[.string ((⟨#[108]⟩ : ByteArray) ++ ((⟨#[97, 98, 99, 100, 101, 102, 103, 104, 105, 106, 107, 108]⟩ : ByteArray).extract (x7_1 : Int).toNat ((wrap64 (x7_1 + 1)) : Int).toNat)), .int .i64 (wrap64 (x7_1 - 1)), .int .i64 0, .slice none 0 0, .slice none 0 0, .slice none 0 0]) ?_ 3 _ rfl; (with_reducible repeat (first | refine blk_drewN ?_ _ | refine blk_drew ?_ | refine blk_alloc ?_ _)); refine blk_put (cs := #[.string ((⟨#[108]⟩ : ByteArray) ++ ((⟨#[97, 98, 99, 100, 101, 102, 103, 104, 105, 106, 107, 108]⟩ : ByteArray).extract (x7_1 : Int).toNat ((wrap64 (x7_1 + 1)) : Int).toNat)), .int .i64 (wrap64 (x7_1 - 1)), .int .i64 0, .slice none 0 0, .slice none 0 0, .slice none 0 0]) ?_ 2 _ rfl; (with_reducible repeat (first | refine blk_drewN ?_ _ | refine blk_drew ?_ | refine blk_alloc ?_ _)); refine blk_put (cs := #[.string ((⟨#[108]⟩ : ByteArray) ++ ((⟨#[97, 98, 99, 100, 101, 102, 103, 104, 105, 106, 107, 108]⟩ : ByteArray).extract (x7_1 : Int).toNat ((wrap64 (x7_1 + 1)) : Int).toNat)), .int .i64 0, .int .i64 0, .slice none 0 0, .slice none 0 0, .slice none 0 0]) ?_ 1 _ rfl; (with_reducible repeat (first | refine blk_drewN ?_ _ | refine blk_drew ?_ | refine blk_alloc ?_ _)); refine blk_put (cs := #[.string (⟨#[]⟩ : ByteArray), .int .i64 0, .int .i64 0, .slice none 0 0, .slice none 0 0, .slice none 0 0]) ?_ 0 _ rfl; (with_reducible repeat (first | refine blk_drewN ?_ _ | refine blk_drew ?_ | refine blk_alloc ?_ _)); exact BK284.out⟩
            have n3_ : Aside0 (Below w.heap.size w ((((((w24.setCell ⟨gb284, 0, none⟩ (.string ((⟨#[108]⟩ : ByteArray) ++ ((⟨#[97, 98, 99, 100, 101, 102, 103, 104, 105, 106, 107, 108]⟩ : ByteArray).extract (x7_1 : Int).toNat ((wrap64 (x7_1 + 1)) : Int).toNat)))).setCell ⟨gb284, 1, none⟩ (.int .i64 (wrap64 (x7_1 - 1)))).setCell ⟨gb284, 2, none⟩ (.int .i64 0)).setCell ⟨gb284, 3, none⟩ (.slice Ao25 y281.length co25)).setCell ⟨gb284, 4, none⟩ (.slice none 0 0)).setCell ⟨gb284, 5, none⟩ (.slice none 0 0))) := ⟨by repeat (first | (with_reducible first | exact HB.out | apply below_alloc | apply pw_below_drewN | apply below_drew1 | refine below_set ?_ GE284.out) | exact HB.out)⟩
            (try clear HO_6)
            (try clear HO283)
            (try clear BK284)
            (try clear HB)
            generalize ((((((w24.setCell ⟨gb284, 0, none⟩ (.string ((⟨#[108]⟩ : ByteArray) ++ ((⟨#[97, 98, 99, 100, 101, 102, 103, 104, 105, 106, 107, 108]⟩ : ByteArray).extract (x7_1 : Int).toNat ((wrap64 (x7_1 + 1)) : Int).toNat)))).setCell ⟨gb284, 1, none⟩ (.int .i64 (wrap64 (x7_1 - 1)))).setCell ⟨gb284, 2, none⟩ (.int .i64 0)).setCell ⟨gb284, 3, none⟩ (.slice Ao25 y281.length co25)).setCell ⟨gb284, 4, none⟩ (.slice none 0 0)).setCell ⟨gb284, 5, none⟩ (.slice none 0 0)) = w32 at n0_ n1_ n2_ n3_ ⊢
            have HO_6 := n0_
            have HO283 := n1_
            have BK284 := n2_
            have HB := n3_
            clear n0_ n1_ n2_ n3_
            try go_wp2_with (first | (go_at_call 19; (with_reducible refine (l5_within.calls a1 3 t285 _ A16.out).mono ?_); rintro e w' ⟨rfl, ⟨nd, rfl⟩⟩; (try (rw [drewN_self w32]; generalize hq_ : World.drewN w32 _ = w32; have n0_ : Aside0 (Kd.R k46 46 w32 w.heap.size (fun _ => True) (.slice Ao25 y281.length co25) y281) := ⟨by rw [← hq_]; exact (by (with_reducible repeat (first | apply Kd.R_alloc | apply Kd.R_drewN | apply Kd.R_drew)); exact HO283.out)⟩; have n1_ : Aside0 (Kd.R k44 44 w32 w.heap.size (fun k_ => some k_ ≠ (.slice Ao25 y281.length co25 : Value).ownBlock ∧ k_ ≠ gb284) u6 x6_1) := ⟨by rw [← hq_]; exact (by (with_reducible repeat (first | apply Kd.R_alloc | apply Kd.R_drewN | apply Kd.R_drew)); exact HO_6.out)⟩; have n2_ : Aside0 (w32.heap[gb284]? = some (.cells #[.string ((⟨#[108]⟩ : ByteArray) ++ ((⟨#[97, 98, 99, 100, 101, 102, 103, 104, 105, 106, 107, 108]⟩ : ByteArray).extract (x7_1 : Int).toNat ((wrap64 (x7_1 + 1)) : Int).toNat)), .int .i64 (wrap64 (x7_1 - 1)), .int .i64 0, .slice Ao25 y281.length co25, .slice none 0 0, .slice none 0 0] 44 (0, 0))) := ⟨by rw [← hq_]; exact (by (with_reducible repeat (first | refine blk_drewN ?_ _ | refine blk_drew ?_ | refine blk_alloc ?_ _)); exact BK284.out)⟩; have n3_ : Aside0 (Below w.heap.size w w32) := ⟨by rw [← hq_]; exact (by repeat (first | (with_reducible first | exact HB.out | apply below_alloc | apply pw_below_drewN | apply below_drew1 | refine below_set ?_ GE284.out) | exact HB.out))⟩; clear HO283 HO_6 BK284 HB hq_; have HO283 := n0_; have HO_6 := n1_; have BK284 := n2_; have HB := n3_; clear n0_ n1_ n2_ n3_)); have hcz33_0 : w32.cell? ⟨gb284, 0, none⟩ = some (.string ((⟨#[108]⟩ : ByteArray) ++ ((⟨#[97, 98, 99, 100, 101, 102, 103, 104, 105, 106, 107, 108]⟩ : ByteArray).extract (x7_1 : Int).toNat ((wrap64 (x7_1 + 1)) : Int).toNat))) := (blk_cell BK284.out 0).trans rfl; have hcz33_1 : w32.cell? ⟨gb284, 1, none⟩ = some (.int .i64 (wrap64 (x7_1 - 1))) := (blk_cell BK284.out 1).trans rfl; have hcz33_2 : w32.cell? ⟨gb284, 2, none⟩ = some (.int .i64 0) := (blk_cell BK284.out 2).trans rfl; have hcz33_3 : w32.cell? ⟨gb284, 3, none⟩ = some (.slice Ao25 y281.length co25) := (blk_cell BK284.out 3).trans rfl; have hcz33_4 : w32.cell? ⟨gb284, 4, none⟩ = some (.slice none 0 0) := (blk_cell BK284.out 4).trans rfl; have hcz33_5 : w32.cell? ⟨gb284, 5, none⟩ = some (.slice none 0 0) := (blk_cell BK284.out 5).trans rfl; have hfz33_0 := blk_frozen BK284.out 0; have hfz33_1 := blk_frozen BK284.out 1; have hfz33_2 := blk_frozen BK284.out 2; have hfz33_3 := blk_frozen BK284.out 3; have hfz33_4 := blk_frozen BK284.out 4; have hfz33_5 := blk_frozen BK284.out 5) | ((with_reducible refine gate_store (t := 3) (p := 47) rfl ?_); refine store_event (t := 3) (p := 47) (v := ?vo_w34) (w1 := (w32.setCell ⟨gb284, 1, none⟩ (.int .i64 (wrap64 (x7_1 - 2))))) ?hg ?ho ?hn ?hr ?_; (case ho => rfl); (case hg => rfl); (case hn => rfl); (case hr => first | (go_simp; done) | (go_simp; rfl)); intro w34 hw; have n0_ : Aside0 (Kd.R k44 44 w34 w.heap.size (fun k_ => some k_ ≠ (.slice Ao25 y281.length co25 : Value).ownBlock ∧ k_ ≠ gb284) u6 x6_1) := ⟨(by rw [hw]; exact (by (with_reducible repeat (first | apply Kd.R_alloc | apply Kd.R_drewN | apply Kd.R_drew)); exact Kd.R_mono (Kd.R_far (p := ⟨gb284, 1, none⟩) (Kd.R_mono HO_6.out (fun k_ hk => (⟨hk, hk.2⟩ : _ ∧ k_ ≠ gb284))) (fun _ hk => hk.2) (.int .i64 (wrap64 (x7_1 - 2)))) (fun _ hk => ⟨hk.1.1, hk.1.2⟩)))⟩; have n1_ : Aside0 (Kd.R k46 46 w34 w.heap.size (fun _ => True) (.slice Ao25 y281.length co25) y281) := ⟨(by rw [hw]; exact (by (with_reducible repeat (first | apply Kd.R_alloc | apply Kd.R_drewN | apply Kd.R_drew)); exact Kd.R_mono (Kd.R_far (p := ⟨gb284, 1, none⟩) (Kd.R_types HO283.out BK284.out (by decide)) (fun _ hk => hk.2) (.int .i64 (wrap64 (x7_1 - 2)))) (fun _ hk => trivial)))⟩; have n2_ : Aside0 (w34.heap[gb284]? = some (.cells #[.string ((⟨#[108]⟩ : ByteArray) ++ ((⟨#[97, 98, 99, 100, 101, 102, 103, 104, 105, 106, 107, 108]⟩ : ByteArray).extract (x7_1 : Int).toNat ((wrap64 (x7_1 + 1)) : Int).toNat)), .int .i64 (wrap64 (x7_1 - 2)), .int .i64 0, .slice Ao25 y281.length co25, .slice none 0 0, .slice none 0 0] 44 (0, 0))) := ⟨(by rw [hw]; exact (by (with_reducible repeat (first | refine blk_drewN ?_ _ | refine blk_drew ?_ | refine blk_alloc ?_ _)); refine blk_put (cs := #[.string ((⟨#[108]⟩ : ByteArray) ++ ((⟨#[97, 98, 99, 100, 101, 102, 103, 104, 105, 106, 107, 108]⟩ : ByteArray).extract (x7_1 : Int).toNat ((wrap64 (x7_1 + 1)) : Int).toNat)), .int .i64 (wrap64 (x7_1 - 1)), .int .i64 0, .slice Ao25 y281.length co25, .slice none 0 0, .slice none 0 0]) ?_ 1 _ rfl; (with_reducible repeat (first | refine blk_drewN ?_ _ | refine blk_drew ?_ | refine blk_alloc ?_ _)); exact BK284.out))⟩; have n3_ : Aside0 (Below w.heap.size w w34) := ⟨(by rw [hw]; exact (by repeat (first | (with_reducible first | exact HB.out | apply below_alloc | apply pw_below_drewN | apply below_drew1 | refine below_set ?_ GE284.out) | exact HB.out)))⟩; clear hw; clear HO_6; clear HO283; clear BK284; clear HB; have HO_6 := n0_; have HO283 := n1_; have BK284 := n2_; have HB := n3_; clear n0_ n1_ n2_ n3_; have hcz35_0 : w34.cell? ⟨gb284, 0, none⟩ = some (.string ((⟨#[108]⟩ : ByteArray) ++ ((⟨#[97, 98, 99, 100, 101, 102, 103, 104, 105, 106, 107, 108]⟩ : ByteArray).extract (x7_1 : Int).toNat ((wrap64 (x7_1 + 1)) : Int).toNat))) := (blk_cell BK284.out 0).trans rfl; have hcz35_1 : w34.cell? ⟨gb284, 1, none⟩ = some (.int .i64 (wrap64 (x7_1 - 2))) := (blk_cell BK284.out 1).trans rfl; have hcz35_2 : w34.cell? ⟨gb284, 2, none⟩ = some (.int .i64 0) := (blk_cell BK284.out 2).trans rfl; have hcz35_3 : w34.cell? ⟨gb284, 3, none⟩ = some (.slice Ao25 y281.length co25) := (blk_cell BK284.out 3).trans rfl; have hcz35_4 : w34.cell? ⟨gb284, 4, none⟩ = some (.slice none 0 0) := (blk_cell BK284.out 4).trans rfl; have hcz35_5 : w34.cell? ⟨gb284, 5, none⟩ = some (.slice none 0 0) := (blk_cell BK284.out 5).trans rfl; have hfz35_0 := blk_frozen BK284.out 0; have hfz35_1 := blk_frozen BK284.out 1; have hfz35_2 := blk_frozen BK284.out 2; have hfz35_3 := blk_frozen BK284.out 3; have hfz35_4 := blk_frozen BK284.out 4; have hfz35_5 := blk_frozen BK284.out 5) | ((with_reducible refine gate_builtin (b := .append) (xs := #[.tmp 48, .tmp 50]) rfl ?_); (try (refine gate_guard (by rfl) ?_; dsimp only)); at_builtin; refine Kd.R_append k44 (w0 := w) w.heap.size rfl (.tmp 48) (.tmp 50) 26 44 (.agg #[(.string ⟨#[]⟩), (.int .i64 0), (.int .i64 0), (.slice none 0 0), (.slice none 0 0), (.slice none 0 0)]) 104 rfl Tryz.underlying26 info44 rfl (by decide) (by omega) u6 x6_1 (⟨(⟨#[108]⟩ : ByteArray) ++ ((⟨#[97, 98, 99, 100, 101, 102, 103, 104, 105, 106, 107, 108]⟩ : ByteArray).extract (x7_1 : Int).toNat ((wrap64 (x7_1 + 1)) : Int).toNat), wrap64 (x7_1 - 2), 0, y281, ([] : List (S56)), ([] : List (S52))⟩ : S44) [.string ((⟨#[108]⟩ : ByteArray) ++ ((⟨#[97, 98, 99, 100, 101, 102, 103, 104, 105, 106, 107, 108]⟩ : ByteArray).extract (x7_1 : Int).toNat ((wrap64 (x7_1 + 1)) : Int).toNat)), .int .i64 (wrap64 (x7_1 - 2)), .int .i64 0, .slice Ao25 y281.length co25, .slice none 0 0, .slice none 0 0] (fun k_ => k_ ≠ gb284) (fun k_ => ((fun k_ => k_ ≠ gb284)) k_ ∧ some k_ ≠ (u6 : Value).ownBlock) rfl rfl ?aP (fun _ hk => hk) ?aF ?aO ?aB ?aS ?aL ?_; (case aP => exact k44_mkM _ _ _ (⟨(⟨#[108]⟩ : ByteArray) ++ ((⟨#[97, 98, 99, 100, 101, 102, 103, 104, 105, 106, 107, 108]⟩ : ByteArray).extract (x7_1 : Int).toNat ((wrap64 (x7_1 + 1)) : Int).toNat), wrap64 (x7_1 - 2), 0, y281, ([] : List (S56)), ([] : List (S52))⟩ : S44) (Kd.R_mono (Kd.R_types (Kd.R_apart' (HO283.out) (Kd.R_typed HO_6.out) (by decide)) BK284.out (by decide)) (fun k_ hk => ⟨hk.2, hk.1.2⟩)) (Kd.R_nil _ _ _ _ _) (Kd.R_nil _ _ _ _ _)); (case aB => exact (by repeat (first | (with_reducible first | exact HB.out | apply below_alloc | apply pw_below_drewN | apply below_drew1 | refine below_set ?_ GE284.out) | exact HB.out))); (case aF => exact (fun k_ hk => Kd.freshB (g := gb284) (o := .cells #[.string ((⟨#[108]⟩ : ByteArray) ++ ((⟨#[97, 98, 99, 100, 101, 102, 103, 104, 105, 106, 107, 108]⟩ : ByteArray).extract (x7_1 : Int).toNat ((wrap64 (x7_1 + 1)) : Int).toNat)), .int .i64 (wrap64 (x7_1 - 2)), .int .i64 0, .slice Ao25 y281.length co25, .slice none 0 0, .slice none 0 0] 44 (0, 0)) (by (with_reducible repeat (first | refine blk_drewN ?_ _ | refine blk_drew ?_ | refine blk_alloc ?_ _)); exact BK284.out) k_ hk)); (case aO => exact (by (with_reducible repeat (first | apply Kd.R_alloc | apply Kd.R_drewN | apply Kd.R_drew)); (first | exact Kd.R_mono HO_6.out (fun _ hk => hk.2) | exact HO_6.out))); (case aS => exact (below_size (by repeat (first | (with_reducible first | exact HB.out | apply below_alloc | apply pw_below_drewN | apply below_drew1 | refine below_set ?_ GE284.out) | exact HB.out)))); (case aL => have := LMc18.out; omega); intro v287 w36 ho hb hg hat; rw [← Ny286.out] at ho; have n0_ := Aside0.mk (blk_grown (g := gb284) (o := .cells #[.string ((⟨#[108]⟩ : ByteArray) ++ ((⟨#[97, 98, 99, 100, 101, 102, 103, 104, 105, 106, 107, 108]⟩ : ByteArray).extract (x7_1 : Int).toNat ((wrap64 (x7_1 + 1)) : Int).toNat)), .int .i64 (wrap64 (x7_1 - 2)), .int .i64 0, .slice Ao25 y281.length co25, .slice none 0 0, .slice none 0 0] 44 (0, 0)) (by (with_reducible repeat (first | refine blk_drewN ?_ _ | refine blk_drew ?_ | refine blk_alloc ?_ _)); exact BK284.out) hg (Kd.R_away HO_6.out (fun _ hk => hk.2))); have n1_ := Aside0.mk (hb); have n2_ := Aside0.mk (ho); clear BK284; clear HB; clear HO_6; clear HO283; have BK284 := n0_; have HB := n1_; have HO288 := n2_; clear n0_ n1_ n2_; clear ho hb hg hat))
            go_roundg k1
            case measure => have := HK1.out; omega
            case rel => exact ⟨(y286), (wrap64 (x7_1 + 1)), (by first | rfl | (simp; done) | (simp [*]; done)), H', ⟨by have := HK1.out; omega⟩, ⟨by (with_reducible repeat (first | apply Kd.R_alloc | apply Kd.R_drewN | apply Kd.R_drew)); exact Kd.R_mono HO288.out (fun _ hk => trivial)⟩, ⟨by repeat (first | (with_reducible first | exact HB.out | apply below_alloc | apply pw_below_drewN | apply below_drew1 | refine below_set ?_ GE284.out) | exact HB.out)⟩⟩
           ·rw [if_neg c18] at H
            exact absurd H (by simp)
          ·rw [if_neg c17] at H
           have c17b0 : (t285 == 0) = false := beq_eq_false_iff_ne.mpr c17
           have c17b1 : (t285 != 0) = true := bne_iff_ne.mpr c17
           by_cases c37 : x6_1.length < 1353245080339
           ·rw [if_pos c37] at H
            have LMc37 := Aside0.mk c37
            clear c37
            obtain ⟨y289, hy289⟩ : ∃ y_ : List (S44), y_ = (x6_1 ++ [(⟨(⟨#[108]⟩ : ByteArray) ++ ((⟨#[97, 98, 99, 100, 101, 102, 103, 104, 105, 106, 107, 108]⟩ : ByteArray).extract (x7_1 : Int).toNat ((wrap64 (x7_1 + 1)) : Int).toNat), wrap64 (x7_1 - 1), 0, y281, ([] : List (S56)), ([] : List (S52))⟩ : S44)]) := ⟨_, rfl⟩
            replace H : (l5_BlobParents.l0 k1 a1 (wrap64 (1 + t280)) y289 (wrap64 (x7_1 + 1))) = some r := by first | (rw [hy289]; with_reducible exact H) | (have H2_ := (Option.bind_some _ _).symm.trans H; rw [hy289]; with_reducible exact H2_) | (have H2_ := (Option.bind_some _ _).symm.trans H; with_reducible exact H2_) | with_reducible exact H | (rw [hy289]; exact H) | exact H
            have Ny289 := Aside0.mk hy289
            clear hy289
            have H' := Aside0.mk H
            clear H
            try go_wp2
            have n0_ := Aside0.mk (Kd.R_drew HO_6.out)
            have n1_ := Aside0.mk (below_drew1 HB.out)
            clear HO_6
            clear HB
            have HO_6 := n0_
            have HB := n1_
            clear n0_ n1_
            refine start_ (n := 17) (S := fun w' => True) (ds := []) #[false, false, false, false, false, false, false, false, false, false, false, false, false, false, false, false, false] (by kernel_rfl) rfl rfl trivial (fun hHeld => ?_); refine with_tabW l5_BlobParents.tab8 l5_BlobParents.bits8 (fun HT_ HW_ => ?_)
            generalize wr.drew = w38 at HO_6 HB hHeld ⊢
            refine pure_ (i := 0) (N := some 23) (v := ?_) (a' := ?_) #[true, false, false, false, false, false, false, false, false, false, false, false, false, false, false, false, false] rfl rfl (any_of HT_.out (by kernel_rfl)) (fun _ _ _ h => h) (Or.inl ⟨by rfl, ?_⟩) ?_ ?_
            rotate_left
            ·intro w'
             go_simp
             with_reducible rfl
            rotate_left
            ·simp only [Act.put, List.setIfInBounds_toArray, List.set_cons_zero, List.set_cons_succ, i64_w, i32_w]
             rfl
            refine pure_ (i := 1) (N := some 24) (v := ?_) (a' := ?_) #[true, true, false, false, false, false, false, false, false, false, false, false, false, false, false, false, false] rfl rfl (any_of HT_.out (by kernel_rfl)) (fun _ _ _ h => h) (Or.inl ⟨by rfl, ?_⟩) ?_ ?_
            rotate_left
            ·intro w'
             go_simp
             with_reducible rfl
            rotate_left
            ·simp only [Act.put, List.setIfInBounds_toArray, List.set_cons_zero, List.set_cons_succ, i64_w, i32_w]
             rfl
            refine pure_ (i := 2) (N := some 25) (v := ?_) (a' := ?_) #[true, true, true, false, false, false, false, false, false, false, false, false, false, false, false, false, false] rfl rfl (any_of HT_.out (by kernel_rfl)) (fun _ _ _ h => h) (Or.inl ⟨by rfl, ?_⟩) ?_ ?_
            rotate_left
            ·intro w'
             go_simp
             with_reducible rfl
            rotate_left
            ·simp only [Act.put, List.setIfInBounds_toArray, List.set_cons_zero, List.set_cons_succ, i64_w, i32_w]
             rfl
            refine pure_ (i := 3) (N := some 26) (v := ?_) (a' := ?_) #[true, true, true, true, false, false, false, false, false, false, false, false, false, false, false, false, false] rfl rfl (any_of HT_.out (by kernel_rfl)) (fun _ _ _ h => h) (Or.inl ⟨by rfl, ?_⟩) ?_ ?_
            rotate_left
            ·intro w'
             go_simp
             with_reducible rfl
            rotate_left
            ·simp only [Act.put, List.setIfInBounds_toArray, List.set_cons_zero, List.set_cons_succ, i64_w, i32_w]
             rfl
            refine pure_ (i := 4) (N := some 27) (v := ?_) (a' := ?_) #[true, true, true, true, true, false, false, false, false, false, false, false, false, false, false, false, false] rfl rfl (any_of HT_.out (by kernel_rfl)) (fun _ _ _ h => h) (Or.inl ⟨by rfl, ?_⟩) ?_ ?_
            rotate_left
            ·intro w'
             have hq_ : ¬ (9223372036854775807 < 1 + ((wrap64 (x7_1 + 1)).toNat - x7_1.toNat)) := by
              have h_ : wrap64 (x7_1 + 1) ≤ 12 := by assumption
              generalize wrap64 (x7_1 + 1) = q_ at h_ ⊢
              omega
             go_simp
             with_reducible rfl
            rotate_left
            ·simp only [Act.put, List.setIfInBounds_toArray, List.set_cons_zero, List.set_cons_succ, i64_w, i32_w]
             rfl
            refine pure_ (i := 5) (N := some 28) (v := ?_) (a' := ?_) #[true, true, true, true, true, true, false, false, false, false, false, false, false, false, false, false, false] rfl rfl (any_of HT_.out (by kernel_rfl)) (fun _ _ _ h => h) (Or.inl ⟨by rfl, ?_⟩) ?_ ?_
            rotate_left
            ·intro w'
             go_simp
             with_reducible rfl
            rotate_left
            ·simp only [Act.put, List.setIfInBounds_toArray, List.set_cons_zero, List.set_cons_succ, i64_w, i32_w]
             rfl
            refine pure_ (i := 6) (N := some 29) (v := ?_) (a' := ?_) #[true, true, true, true, true, true, true, false, false, false, false, false, false, false, false, false, false] rfl rfl (any_of HT_.out (by kernel_rfl)) (fun _ _ _ h => h) (Or.inl ⟨by rfl, ?_⟩) ?_ ?_
            rotate_left
            ·intro w'
             go_simp
             with_reducible rfl
            rotate_left
            ·simp only [Act.put, List.setIfInBounds_toArray, List.set_cons_zero, List.set_cons_succ, i64_w, i32_w]
             rfl
            refine pure_ (i := 7) (N := some 30) (v := ?_) (a' := ?_) #[true, true, true, true, true, true, true, true, false, false, false, false, false, false, false, false, false] rfl rfl (any_of HT_.out (by kernel_rfl)) (fun _ _ _ h => h) (Or.inl ⟨by rfl, ?_⟩) ?_ ?_
            rotate_left
            ·intro w'
             go_simp
             with_reducible rfl
            rotate_left
            ·simp only [Act.put, List.setIfInBounds_toArray, List.set_cons_zero, List.set_cons_succ, i64_w, i32_w]
             rfl
            refine pure_ (i := 8) (N := some 31) (v := ?_) (a' := ?_) #[true, true, true, true, true, true, true, true, true, false, false, false, false, false, false, false, false] rfl rfl (any_of HT_.out (by kernel_rfl)) (fun _ _ _ h => h) (Or.inl ⟨by rfl, ?_⟩) ?_ ?_
            rotate_left
            ·intro w'
             go_simp
             with_reducible rfl
            rotate_left
            ·simp only [Act.put, List.setIfInBounds_toArray, List.set_cons_zero, List.set_cons_succ, i64_w, i32_w]
             rfl
            refine pure_ (i := 9) (N := some 32) (v := ?_) (a' := ?_) #[true, true, true, true, true, true, true, true, true, true, false, false, false, false, false, false, false] rfl rfl (any_of HT_.out (by kernel_rfl)) (fun _ _ _ h => h) (Or.inl ⟨by rfl, ?_⟩) ?_ ?_
            rotate_left
            ·intro w'
             go_simp
             with_reducible rfl
            rotate_left
            ·simp only [Act.put, List.setIfInBounds_toArray, List.set_cons_zero, List.set_cons_succ, i64_w, i32_w]
             rfl
            refine pure_ (i := 10) (N := some 33) (v := ?_) (a' := ?_) #[true, true, true, true, true, true, true, true, true, true, true, false, false, false, false, false, false] rfl rfl (any_of HT_.out (by kernel_rfl)) (fun _ _ _ h => h) (Or.inl ⟨by rfl, ?_⟩) ?_ ?_
            rotate_left
            ·intro w'
             go_simp
             with_reducible rfl
            rotate_left
            ·simp only [Act.put, List.setIfInBounds_toArray, List.set_cons_zero, List.set_cons_succ, i64_w, i32_w]
             rfl
            refine pure_ (i := 11) (N := some 34) (v := ?_) (a' := ?_) #[true, true, true, true, true, true, true, true, true, true, true, true, false, false, false, false, false] rfl rfl (any_of HT_.out (by kernel_rfl)) (fun _ _ _ h => h) (Or.inl ⟨by rfl, ?_⟩) ?_ ?_
            rotate_left
            ·intro w'
             go_simp
             with_reducible rfl
            rotate_left
            ·simp only [Act.put, List.setIfInBounds_toArray, List.set_cons_zero, List.set_cons_succ, i64_w, i32_w]
             rfl
            refine pure_ (i := 12) (N := some 35) (v := ?_) (a' := ?_) #[true, true, true, true, true, true, true, true, true, true, true, true, true, false, false, false, false] rfl rfl (any_of HT_.out (by kernel_rfl)) (fun _ _ _ h => h) (Or.inl ⟨by rfl, ?_⟩) ?_ ?_
            rotate_left
            ·intro w'
             go_simp
             with_reducible rfl
            rotate_left
            ·simp only [Act.put, List.setIfInBounds_toArray, List.set_cons_zero, List.set_cons_succ, i64_w, i32_w]
             rfl
            refine join_ (σ := Value × Nat) 1 #[true, true, true, true, true, true, true, true, true, true, true, true, true, true, true, true, false] (fun s_ => [(36, s_.1), (8, .pointer (some ⟨s_.2, 0, none⟩)), (37, .agg #[.string ((⟨#[108]⟩ : ByteArray) ++ ((⟨#[97, 98, 99, 100, 101, 102, 103, 104, 105, 106, 107, 108]⟩ : ByteArray).extract (x7_1 : Int).toNat ((wrap64 (x7_1 + 1)) : Int).toNat)), .int .i64 (wrap64 (x7_1 - 1)), .int .i64 0, s_.1, .slice none 0 0, .slice none 0 0])]) (fun s_ w' => (Kd.R k46 46 w' w.heap.size (fun _ => True) s_.1 y281) ∧ (Kd.R k44 44 w' w.heap.size (fun k_ => some k_ ≠ (s_.1 : Value).ownBlock ∧ k_ ≠ s_.2) u6 x6_1) ∧ (w'.heap[s_.2]? = some (.cells #[.string (⟨#[]⟩ : ByteArray), .int .i64 0, .int .i64 0, .slice none 0 0, .slice none 0 0, .slice none 0 0] 44 (0, 0))) ∧ (w.heap.size ≤ s_.2) ∧ (w.heap.size ≤ s_.2) ∧ (Below w.heap.size w w')) ?_ ?_
            rotate_left
            ·intro hCont
             refine two_ (i := 13) (j := 15) (Ni := some 36) (Nj := some 8) #[true, true, true, true, true, true, true, true, true, true, true, true, true, true, false, false, false] #[true, true, true, true, true, true, true, true, true, true, true, true, true, false, false, true, false] rfl rfl rfl rfl (two_of HT_.out (by kernel_rfl)) (by decide) (by decide) (fun K hK => ?_) (fun K hK => ?_)
             ·skip
              refine Kd.R_lit_step k46 _ 46 ?hg (N := 36) ?hd (xs := ([(⟨(⟨#[97, 98, 99, 100, 101, 102, 103, 104, 105, 106, 107, 108]⟩ : ByteArray).extract (x7_1 : Int).toNat ((wrap64 (x7_1 + 1)) : Int).toNat, 1, x7_1⟩ : S46)] : List (S46))) (inner := [.string ((⟨#[97, 98, 99, 100, 101, 102, 103, 104, 105, 106, 107, 108]⟩ : ByteArray).extract (x7_1 : Int).toNat ((wrap64 (x7_1 + 1)) : Int).toNat), .int .i64 1, .int .i64 x7_1]) (ok := fun _ => True) (okp := fun _ => True) ?hr ?hp (fun _ hk => hk) trivial (Below.refl _ _) (Nat.le_refl _) (by simp) ?_; (case hd => rfl); (case hg => rfl); (case hr => first | (go_simp; done) | (go_simp; rfl)); (case hp => exact (Reps.c3 (show Kd.M k46 _ _ _ (⟨(⟨#[97, 98, 99, 100, 101, 102, 103, 104, 105, 106, 107, 108]⟩ : ByteArray).extract (x7_1 : Int).toNat ((wrap64 (x7_1 + 1)) : Int).toNat, 1, x7_1⟩ : S46) [.string ((⟨#[97, 98, 99, 100, 101, 102, 103, 104, 105, 106, 107, 108]⟩ : ByteArray).extract (x7_1 : Int).toNat ((wrap64 (x7_1 + 1)) : Int).toNat), .int .i64 1, .int .i64 x7_1] from (k46_mkM _ _ _ (⟨(⟨#[97, 98, 99, 100, 101, 102, 103, 104, 105, 106, 107, 108]⟩ : ByteArray).extract (x7_1 : Int).toNat ((wrap64 (x7_1 + 1)) : Int).toNat, 1, x7_1⟩ : S46) )) (Reps.none _ _)))
              intro v282 w39 ho40 hb hg_ hnew_
              clear hg_ hnew_
              (first | rw [← Ny281.out] at ho40 | (simp only [Int.reduceToNat] at ho40; rw [← Ny281.out] at ho40))
              have n0_ := Aside0.mk (Kd.R_elder' (by (with_reducible repeat (first | apply Kd.R_alloc | apply Kd.R_drewN | apply Kd.R_drew)); exact HO_6.out) (Kd.R_base ho40) hb)
              have n1_ := Aside0.mk (Kd.R_lower ho40 (below_size (by repeat (first | (with_reducible first | exact HB.out | apply below_alloc | apply pw_below_drewN | apply below_drew1) | exact HB.out))))
              have n2_ := Aside0.mk (below_step (by repeat (first | (with_reducible first | exact HB.out | apply below_alloc | apply pw_below_drewN | apply below_drew1) | exact HB.out)) hb)
              clear HO_6
              clear HB
              have HO_6 := n0_
              have HO283 := n1_
              have HB := n2_
              clear n0_ n1_ n2_
              clear hb ho40
              obtain ⟨Ao41, co41, eo41⟩ := Kd.R_slice HO283.out
              (first | subst eo41 | (injection eo41 with f1_ f2_ f3_; have f4_ := f1_.symm; have f5_ := f3_.symm; clear f1_ f2_ f3_; subst f4_; subst f5_))
              refine hK.out _ _ trivial (fun hHeld => ?_)
              clear hK K
              refine norm_ (a' := ?_) ?_ ?_
              rotate_left
              ·show Act.put _ (some 36) _ = _
               simp only [Act.put, List.setIfInBounds_toArray, List.set_cons_zero, List.set_cons_succ, i64_w, i32_w]
               rfl
              refine pure_ (i := 14) (N := some 37) (v := ?_) (a' := ?_) #[true, true, true, true, true, true, true, true, true, true, true, true, true, true, true, false, false] rfl rfl (any_of HT_.out (by kernel_rfl)) (fun _ _ _ h => h) (Or.inl ⟨by rfl, ?_⟩) ?_ ?_
              rotate_left
              ·intro w'
               go_simp
               with_reducible rfl
              rotate_left
              ·simp only [Act.put, List.setIfInBounds_toArray, List.set_cons_zero, List.set_cons_succ, i64_w, i32_w]
               rfl
              refine one_ (i := 15) (N := some 8) #[true, true, true, true, true, true, true, true, true, true, true, true, true, true, true, true, false] rfl rfl (one_of HT_.out (by kernel_rfl)) (by decide) (fun K hK => ?_)
              refine box_step ?hg (N := 8) ?hd (cs := #[.string (⟨#[]⟩ : ByteArray), .int .i64 0, .int .i64 0, .slice none 0 0, .slice none 0 0, .slice none 0 0]) (t := 44) ?hr ?_; (case hd => rfl); (case hg => rfl); (case hr => first | (go_simp; done) | (go_simp; rfl))
              intro gb284 hg w42 hbox hb
              have n0_ := Aside0.mk (Kd.R_below (Kd.R_elderB (by (with_reducible repeat (first | apply Kd.R_alloc | apply Kd.R_drewN | apply Kd.R_drew)); exact HO_6.out) gb284 (Nat.le_of_eq hg.symm)) hb)
              have n1_ := Aside0.mk (Kd.R_below (by (with_reducible repeat (first | apply Kd.R_alloc | apply Kd.R_drewN | apply Kd.R_drew)); exact HO283.out) hb)
              have n2_ := Aside0.mk (below_step (by repeat (first | (with_reducible first | exact HB.out | apply below_alloc | apply pw_below_drewN | apply below_drew1) | exact HB.out)) hb)
              have n3_ := Aside0.mk (hbox)
              have n4_ := Aside0.mk ((by rw [hg]; exact (below_size (by repeat (first | (with_reducible first | exact HB.out | apply below_alloc | apply pw_below_drewN | apply below_drew1) | exact HB.out))) : w.heap.size ≤ gb284))
              have n5_ := Aside0.mk ((by rw [hg]; exact (below_size (by repeat (first | (with_reducible first | exact HB.out | apply below_alloc | apply pw_below_drewN | apply below_drew1) | exact HB.out))) : w.heap.size ≤ gb284))
              clear HO_6
              clear HO283
              clear HB
              have HO_6 := n0_
              have HO283 := n1_
              have HB := n2_
              have BK284 := n3_
              have GW284 := n4_
              have GE284 := n5_
              clear n0_ n1_ n2_ n3_ n4_ n5_
              clear hb hbox hg
              refine hK.out _ _ trivial (fun hHeld => ?_)
              clear hK K
              refine norm_ (a' := ?_) ?_ ?_
              rotate_left
              ·show Act.put _ (some 8) _ = _
               simp only [Act.put, List.setIfInBounds_toArray, List.set_cons_zero, List.set_cons_succ, i64_w, i32_w]
               rfl
              exact norm_ (by simp only [putAll, Act.put, List.setIfInBounds_toArray, List.set_cons_zero, List.set_cons_succ]) (hCont (.slice Ao41 y281.length co41, gb284) _ ⟨(by (with_reducible repeat (first | apply Kd.R_alloc | apply Kd.R_drewN | apply Kd.R_drew)); exact HO283.out), (by (with_reducible repeat (first | apply Kd.R_alloc | apply Kd.R_drewN | apply Kd.R_drew)); exact Kd.R_mono HO_6.out (fun _ hk => ⟨hk.1.2, hk.2⟩)), (by (with_reducible repeat (first | refine blk_drewN ?_ _ | refine blk_drew ?_ | refine blk_alloc ?_ _)); exact BK284.out), GW284.out, GE284.out, (by repeat (first | (with_reducible first | exact HB.out | apply below_alloc | apply pw_below_drewN | apply below_drew1 | refine below_set ?_ GE284.out) | exact HB.out))⟩)
             ·skip
              refine box_step ?hg (N := 8) ?hd (cs := #[.string (⟨#[]⟩ : ByteArray), .int .i64 0, .int .i64 0, .slice none 0 0, .slice none 0 0, .slice none 0 0]) (t := 44) ?hr ?_; (case hd => rfl); (case hg => rfl); (case hr => first | (go_simp; done) | (go_simp; rfl))
              intro gb284 hg w39 hbox hb
              have n0_ := Aside0.mk (Kd.R_below (Kd.R_elderB (by (with_reducible repeat (first | apply Kd.R_alloc | apply Kd.R_drewN | apply Kd.R_drew)); exact HO_6.out) gb284 (Nat.le_of_eq hg.symm)) hb)
              have n1_ := Aside0.mk (below_step (by repeat (first | (with_reducible first | exact HB.out | apply below_alloc | apply pw_below_drewN | apply below_drew1) | exact HB.out)) hb)
              have n2_ := Aside0.mk (hbox)
              have n3_ := Aside0.mk ((by rw [hg]; exact (below_size (by repeat (first | (with_reducible first | exact HB.out | apply below_alloc | apply pw_below_drewN | apply below_drew1) | exact HB.out))) : w.heap.size ≤ gb284))
              have n4_ := Aside0.mk ((by rw [hg]; exact (below_size (by repeat (first | (with_reducible first | exact HB.out | apply below_alloc | apply pw_below_drewN | apply below_drew1) | exact HB.out))) : w.heap.size ≤ gb284))
              clear HO_6
              clear HB
              have HO_6 := n0_
              have HB := n1_
              have BK284 := n2_
              have GW284 := n3_
              have GE284 := n4_
              clear n0_ n1_ n2_ n3_ n4_
              clear hb hbox hg
              refine hK.out _ _ trivial (fun hHeld => ?_)
              clear hK K
              refine norm_ (a' := ?_) ?_ ?_
              rotate_left
              ·show Act.put _ (some 8) _ = _
               simp only [Act.put, List.setIfInBounds_toArray, List.set_cons_zero, List.set_cons_succ, i64_w, i32_w]
               rfl
              refine one_ (i := 13) (N := some 36) #[true, true, true, true, true, true, true, true, true, true, true, true, true, true, false, true, false] rfl rfl (one_of HT_.out (by kernel_rfl)) (by decide) (fun K hK => ?_)
              refine Kd.R_lit_step k46 _ 46 ?hg (N := 36) ?hd (xs := ([(⟨(⟨#[97, 98, 99, 100, 101, 102, 103, 104, 105, 106, 107, 108]⟩ : ByteArray).extract (x7_1 : Int).toNat ((wrap64 (x7_1 + 1)) : Int).toNat, 1, x7_1⟩ : S46)] : List (S46))) (inner := [.string ((⟨#[97, 98, 99, 100, 101, 102, 103, 104, 105, 106, 107, 108]⟩ : ByteArray).extract (x7_1 : Int).toNat ((wrap64 (x7_1 + 1)) : Int).toNat), .int .i64 1, .int .i64 x7_1]) (ok := fun _ => True) (okp := fun _ => True) ?hr ?hp (fun _ hk => hk) trivial (Below.refl _ _) (Nat.le_refl _) (by simp) ?_; (case hd => rfl); (case hg => rfl); (case hr => first | (go_simp; done) | (go_simp; rfl)); (case hp => exact (Reps.c3 (show Kd.M k46 _ _ _ (⟨(⟨#[97, 98, 99, 100, 101, 102, 103, 104, 105, 106, 107, 108]⟩ : ByteArray).extract (x7_1 : Int).toNat ((wrap64 (x7_1 + 1)) : Int).toNat, 1, x7_1⟩ : S46) [.string ((⟨#[97, 98, 99, 100, 101, 102, 103, 104, 105, 106, 107, 108]⟩ : ByteArray).extract (x7_1 : Int).toNat ((wrap64 (x7_1 + 1)) : Int).toNat), .int .i64 1, .int .i64 x7_1] from (k46_mkM _ _ _ (⟨(⟨#[97, 98, 99, 100, 101, 102, 103, 104, 105, 106, 107, 108]⟩ : ByteArray).extract (x7_1 : Int).toNat ((wrap64 (x7_1 + 1)) : Int).toNat, 1, x7_1⟩ : S46) )) (Reps.none _ _)))
              intro v282 w40 ho41 hb hg_ hnew_
              clear hg_ hnew_
              (first | rw [← Ny281.out] at ho41 | (simp only [Int.reduceToNat] at ho41; rw [← Ny281.out] at ho41))
              have n0_ := Aside0.mk (Kd.R_elder' (by (with_reducible repeat (first | apply Kd.R_alloc | apply Kd.R_drewN | apply Kd.R_drew)); exact HO_6.out) (Kd.R_base ho41) hb)
              have n1_ := Aside0.mk (Kd.R_lower ho41 (below_size (by repeat (first | (with_reducible first | exact HB.out | apply below_alloc | apply pw_below_drewN | apply below_drew1 | refine below_set ?_ GE284.out) | exact HB.out))))
              have n2_ := Aside0.mk (blk_below (g := gb284) (o := .cells #[.string (⟨#[]⟩ : ByteArray), .int .i64 0, .int .i64 0, .slice none 0 0, .slice none 0 0, .slice none 0 0] 44 (0, 0)) (by (with_reducible repeat (first | refine blk_drewN ?_ _ | refine blk_drew ?_ | refine blk_alloc ?_ _)); exact BK284.out) hb)
              have n3_ := Aside0.mk (below_step (by repeat (first | (with_reducible first | exact HB.out | apply below_alloc | apply pw_below_drewN | apply below_drew1 | refine below_set ?_ GE284.out) | exact HB.out)) hb)
              clear HO_6
              clear BK284
              clear HB
              have HO_6 := n0_
              have HO283 := n1_
              have BK284 := n2_
              have HB := n3_
              clear n0_ n1_ n2_ n3_
              clear hb ho41
              obtain ⟨Ao42, co42, eo42⟩ := Kd.R_slice HO283.out
              (first | subst eo42 | (injection eo42 with f1_ f2_ f3_; have f4_ := f1_.symm; have f5_ := f3_.symm; clear f1_ f2_ f3_; subst f4_; subst f5_))
              refine hK.out _ _ trivial (fun hHeld => ?_)
              clear hK K
              refine norm_ (a' := ?_) ?_ ?_
              rotate_left
              ·show Act.put _ (some 36) _ = _
               simp only [Act.put, List.setIfInBounds_toArray, List.set_cons_zero, List.set_cons_succ, i64_w, i32_w]
               rfl
              refine pure_ (i := 14) (N := some 37) (v := ?_) (a' := ?_) #[true, true, true, true, true, true, true, true, true, true, true, true, true, true, true, true, false] rfl rfl (any_of HT_.out (by kernel_rfl)) (fun _ _ _ h => h) (Or.inl ⟨by rfl, ?_⟩) ?_ ?_
              rotate_left
              ·intro w'
               go_simp
               with_reducible rfl
              rotate_left
              ·simp only [Act.put, List.setIfInBounds_toArray, List.set_cons_zero, List.set_cons_succ, i64_w, i32_w]
               rfl
              exact norm_ (by simp only [putAll, Act.put, List.setIfInBounds_toArray, List.set_cons_zero, List.set_cons_succ]) (hCont (.slice Ao42 y281.length co42, gb284) _ ⟨(by (with_reducible repeat (first | apply Kd.R_alloc | apply Kd.R_drewN | apply Kd.R_drew)); exact HO283.out), (by (with_reducible repeat (first | apply Kd.R_alloc | apply Kd.R_drewN | apply Kd.R_drew)); exact Kd.R_mono HO_6.out (fun _ hk => ⟨hk.2, hk.1.2⟩)), (by (with_reducible repeat (first | refine blk_drewN ?_ _ | refine blk_drew ?_ | refine blk_alloc ?_ _)); exact BK284.out), GW284.out, GE284.out, (by repeat (first | (with_reducible first | exact HB.out | apply below_alloc | apply pw_below_drewN | apply below_drew1 | refine below_set ?_ GE284.out) | exact HB.out))⟩)
            rintro ⟨v282, gb284⟩ w43 ⟨h0_, h1_, h2_, h3_, h4_, h5_⟩
            have n0_ : Aside0 (Kd.R k46 46 w43 w.heap.size (fun _ => True) v282 y281) := ⟨h0_⟩
            have n1_ : Aside0 (Kd.R k44 44 w43 w.heap.size (fun k_ => some k_ ≠ (v282 : Value).ownBlock ∧ k_ ≠ gb284) u6 x6_1) := ⟨h1_⟩
            have n2_ : Aside0 (w43.heap[gb284]? = some (.cells #[.string (⟨#[]⟩ : ByteArray), .int .i64 0, .int .i64 0, .slice none 0 0, .slice none 0 0, .slice none 0 0] 44 (0, 0))) := ⟨h2_⟩
            have n3_ : Aside0 (w.heap.size ≤ gb284) := ⟨h3_⟩
            have n4_ : Aside0 (w.heap.size ≤ gb284) := ⟨h4_⟩
            have n5_ : Aside0 (Below w.heap.size w w43) := ⟨h5_⟩
            clear HO_6
            clear HB
            clear h0_ h1_ h2_ h3_ h4_ h5_
            have HO283 := n0_
            have HO_6 := n1_
            have BK284 := n2_
            have GW284 := n3_
            have GE284 := n4_
            have HB := n5_
            clear n0_ n1_ n2_ n3_ n4_ n5_
            have hHeld := trivial
            obtain ⟨Ao44, co44, eo44⟩ := Kd.R_slice HO283.out
            (first | subst eo44 | (injection eo44 with f1_ f2_ f3_; have f4_ := f1_.symm; have f5_ := f3_.symm; clear f1_ f2_ f3_; subst f4_; subst f5_))
            refine norm_ (a' := ?_) ?_ ?_
            rotate_left
            ·simp only [putAll, Act.put, List.setIfInBounds_toArray, List.set_cons_zero, List.set_cons_succ]
             rfl
            refine one_ (i := 16) (N := none) #[true, true, true, true, true, true, true, true, true, true, true, true, true, true, true, true, true] rfl rfl (one_of HT_.out (by kernel_rfl)) (by decide) (fun K hK => ?_)
            have hs45 : w43.cell? ⟨gb284, 0, none⟩ = some (.string (⟨#[]⟩ : ByteArray)) := (blk_cell BK284.out 0).trans rfl
            have hfs45 := blk_frozen BK284.out 0
            have hs46 : w43.cell? ⟨gb284, 1, none⟩ = some (.int .i64 0) := (blk_cell BK284.out 1).trans rfl
            have hfs46 := blk_frozen BK284.out 1
            have hs47 : w43.cell? ⟨gb284, 2, none⟩ = some (.int .i64 0) := (blk_cell BK284.out 2).trans rfl
            have hfs47 := blk_frozen BK284.out 2
            have hs48 : w43.cell? ⟨gb284, 3, none⟩ = some (.slice none 0 0) := (blk_cell BK284.out 3).trans rfl
            have hfs48 := blk_frozen BK284.out 3
            have hs49 : w43.cell? ⟨gb284, 4, none⟩ = some (.slice none 0 0) := (blk_cell BK284.out 4).trans rfl
            have hfs49 := blk_frozen BK284.out 4
            have hs50 : w43.cell? ⟨gb284, 5, none⟩ = some (.slice none 0 0) := (blk_cell BK284.out 5).trans rfl
            have hfs50 := blk_frozen BK284.out 5
            refine skip_ (w1 := ?_) (by rfl) rfl ?_ ?_
            rotate_left
            ·go_simp
             rfl
            refine hK.out _ _ trivial (fun hHeld => ?_)
            clear hK K
            refine done_ (done_of HT_.out (by kernel_rfl)) ?_
            have n0_ : Aside0 (Kd.R k44 44 ((((((w43.setCell ⟨gb284, 0, none⟩ (.string ((⟨#[108]⟩ : ByteArray) ++ ((⟨#[97, 98, 99, 100, 101, 102, 103, 104, 105, 106, 107, 108]⟩ : ByteArray).extract (x7_1 : Int).toNat ((wrap64 (x7_1 + 1)) : Int).toNat)))).setCell ⟨gb284, 1, none⟩ (.int .i64 (wrap64 (x7_1 - 1)))).setCell ⟨gb284, 2, none⟩ (.int .i64 0)).setCell ⟨gb284, 3, none⟩ (.slice Ao44 y281.length co44)).setCell ⟨gb284, 4, none⟩ (.slice none 0 0)).setCell ⟨gb284, 5, none⟩ (.slice none 0 0)) w.heap.size (fun k_ => some k_ ≠ (.slice Ao44 y281.length co44 : Value).ownBlock ∧ k_ ≠ gb284) u6 x6_1) := ⟨by (with_reducible repeat (first | apply Kd.R_alloc | apply Kd.R_drewN | apply Kd.R_drew)); exact Kd.R_mono (Kd.R_far (p := ⟨gb284, 5, none⟩) (Kd.R_far (p := ⟨gb284, 4, none⟩) (Kd.R_far (p := ⟨gb284, 3, none⟩) (Kd.R_far (p := ⟨gb284, 2, none⟩) (Kd.R_far (p := ⟨gb284, 1, none⟩) (Kd.R_far (p := ⟨gb284, 0, none⟩) (Kd.R_mono HO_6.out (fun k_ hk => (⟨hk, hk.2⟩ : _ ∧ k_ ≠ gb284))) (fun _ hk => hk.2) (.string ((⟨#[108]⟩ : ByteArray) ++ ((⟨#[97, 98, 99, 100, 101, 102, 103, 104, 105, 106, 107, 108]⟩ : ByteArray).extract (x7_1 : Int).toNat ((wrap64 (x7_1 + 1)) : Int).toNat)))) (fun _ hk => hk.2) (.int .i64 (wrap64 (x7_1 - 1)))) (fun _ hk => hk.2) (.int .i64 0)) (fun _ hk => hk.2) (.slice Ao44 y281.length co44)) (fun _ hk => hk.2) (.slice none 0 0)) (fun _ hk => hk.2) (.slice none 0 0)) (fun _ hk => ⟨hk.1.1, hk.1.2⟩)⟩
            have n1_ : Aside0 (Kd.R k46 46 ((((((w43.setCell ⟨gb284, 0, none⟩ (.string ((⟨#[108]⟩ : ByteArray) ++ ((⟨#[97, 98, 99, 100, 101, 102, 103, 104, 105, 106, 107, 108]⟩ : ByteArray).extract (x7_1 : Int).toNat ((wrap64 (x7_1 + 1)) : Int).toNat)))).setCell ⟨gb284, 1, none⟩ (.int .i64 (wrap64 (x7_1 - 1)))).setCell ⟨gb284, 2, none⟩ (.int .i64 0)).setCell ⟨gb284, 3, none⟩ (.slice Ao44 y281.length co44)).setCell ⟨gb284, 4, none⟩ (.slice none 0 0)).setCell ⟨gb284, 5, none⟩ (.slice none 0 0)) w.heap.size (fun _ => True) (.slice Ao44 y281.length co44) y281) := ⟨by (with_reducible repeat (first | apply Kd.R_alloc | apply Kd.R_drewN | apply Kd.R_drew)); exact Kd.R_mono (Kd.R_far (p := ⟨gb284, 5, none⟩) (Kd.R_far (p := ⟨gb284, 4, none⟩) (Kd.R_far (p := ⟨gb284, 3, none⟩) (Kd.R_far (p := ⟨gb284, 2, none⟩) (Kd.R_far (p := ⟨gb284, 1, none⟩) (Kd.R_far (p := ⟨gb284, 0, none⟩) (Kd.R_types HO283.out BK284.out (by decide)) (fun _ hk => hk.2) (.string ((⟨#[108]⟩ : ByteArray) ++ ((⟨#[97, 98, 99, 100, 101, 102, 103, 104, 105, 106, 107, 108]⟩ : ByteArray).extract (x7_1 : Int).toNat ((wrap64 (x7_1 + 1)) : Int).toNat)))) (fun _ hk => hk.2) (.int .i64 (wrap64 (x7_1 - 1)))) (fun _ hk => hk.2) (.int .i64 0)) (fun _ hk => hk.2) (.slice Ao44 y281.length co44)) (fun _ hk => hk.2) (.slice none 0 0)) (fun _ hk => hk.2) (.slice none 0 0)) (fun _ hk => trivial)⟩
            have n2_ : Aside0 (((((((w43.setCell ⟨gb284, 0, none⟩ (.string ((⟨#[108]⟩ : ByteArray) ++ ((⟨#[97, 98, 99, 100, 101, 102, 103, 104, 105, 106, 107, 108]⟩ : ByteArray).extract (x7_1 : Int).toNat ((wrap64 (x7_1 + 1)) : Int).toNat)))).setCell ⟨gb284, 1, none⟩ (.int .i64 (wrap64 (x7_1 - 1)))).setCell ⟨gb284, 2, none⟩ (.int .i64 0)).setCell ⟨gb284, 3, none⟩ (.slice Ao44 y281.length co44)).setCell ⟨gb284, 4, none⟩ (.slice none 0 0)).setCell ⟨gb284, 5, none⟩ (.slice none 0 0)).heap[gb284]? = some (.cells #[.string ((⟨#[108]⟩ : ByteArray) ++ ((⟨#[97, 98, 99, 100, 101, 102, 103, 104, 105, 106, 107, 108]⟩ : ByteArray).extract (x7_1 : Int).toNat ((wrap64 (x7_1 + 1)) : Int).toNat)), .int .i64 (wrap64 (x7_1 - 1)), .int .i64 0, .slice Ao44 y281.length co44, .slice none 0 0, .slice none 0 0] 44 (0, 0))) := ⟨by (with_reducible repeat (first | refine blk_drewN ?_ _ | refine blk_drew ?_ | refine blk_alloc ?_ _)); refine blk_put (cs := #[.string ((⟨#[108]⟩ : ByteArray) ++ ((⟨#[97, 98, 99, 100, 101, 102, 103, 104, 105, 106, 107, 108]⟩ : ByteArray).extract (x7_1 : Int).toNat ((wrap64 (x7_1 + 1)) : Int).toNat)), .int .i64 (wrap64 (x7_1 - 1)), .int .i64 0, .slice Ao44 y281.length co44, .slice none 0 0, .slice none 0 0]) ?_ 5 _ rfl; (with_reducible repeat (first | refine blk_drewN ?_ _ | refine blk_drew ?_ | refine blk_alloc ?_ _)); refine blk_put (cs := #[.string ((⟨#[108]⟩ : ByteArray) ++ ((⟨#[97, 98, 99, 100, 101, 102, 103, 104, 105, 106, 107, 108]⟩ : ByteArray).extract (x7_1 : Int).toNat ((wrap64 (x7_1 + 1)) : Int).toNat)), .int .i64 (wrap64 (x7_1 - 1)), .int .i64 0, .slice Ao44 y281.length co44, .slice none 0 0, .slice none 0 0]) ?_ 4 _ rfl; (with_reducible repeat (first | refine blk_drewN ?_ _ | refine blk_drew ?_ | refine blk_alloc ?_ _)); refine blk_put (cs := #[.string ((⟨#[108]⟩ : ByteArray) ++ ((⟨#[97, 98, 99, 100, 101, 102, 103, 104, 105, 106, 107, 108]⟩ : ByteArray).extract (x7_1 : Int).toNat ((wrap64 (x7_1 + 1)) : Int).toNat)), .int .i64 (wrap64 (x7_1 - 1)), .int .i64 0, .slice none 0 0, .slice none 0 0, .slice none 0 0]) ?_ 3 _ rfl; (with_reducible repeat (first | refine blk_drewN ?_ _ | refine blk_drew ?_ | refine blk_alloc ?_ _)); refine blk_put (cs := #[.string ((⟨#[108]⟩ : ByteArray) ++ ((⟨#[97, 98, 99, 100, 101, 102, 103, 104, 105, 106, 107, 108]⟩ : ByteArray).extract (x7_1 : Int).toNat ((wrap64 (x7_1 + 1)) : Int).toNat)), .int .i64 (wrap64 (x7_1 - 1)), .int .i64 0, .slice none 0 0, .slice none 0 0, .slice none 0 0]) ?_ 2 _ rfl; (with_reducible repeat (first | refine blk_drewN ?_ _ | refine blk_drew ?_ | refine blk_alloc ?_ _)); refine blk_put (cs := #[.string ((⟨#[108]⟩ : ByteArray) ++ ((⟨#[97, 98, 99, 100, 101, 102, 103, 104, 105, 106, 107, 108]⟩ : ByteArray).extract (x7_1 : Int).toNat ((wrap64 (x7_1 + 1)) : Int).toNat)), .int .i64 0, .int .i64 0, .slice none 0 0, .slice none 0 0, .slice none 0 0]) ?_ 1 _ rfl; (with_reducible repeat (first | refine blk_drewN ?_ _ | refine blk_drew ?_ | refine blk_alloc ?_ _)); refine blk_put (cs := #[.string (⟨#[]⟩ : ByteArray), .int .i64 0, .int .i64 0, .slice none 0 0, .slice none 0 0, .slice none 0 0]) ?_ 0 _ rfl; (with_reducible repeat (first | refine blk_drewN ?_ _ | refine blk_drew ?_ | refine blk_alloc ?_ _)); exact BK284.out⟩
            have n3_ : Aside0 (Below w.heap.size w ((((((w43.setCell ⟨gb284, 0, none⟩ (.string ((⟨#[108]⟩ : ByteArray) ++ ((⟨#[97, 98, 99, 100, 101, 102, 103, 104, 105, 106, 107, 108]⟩ : ByteArray).extract (x7_1 : Int).toNat ((wrap64 (x7_1 + 1)) : Int).toNat)))).setCell ⟨gb284, 1, none⟩ (.int .i64 (wrap64 (x7_1 - 1)))).setCell ⟨gb284, 2, none⟩ (.int .i64 0)).setCell ⟨gb284, 3, none⟩ (.slice Ao44 y281.length co44)).setCell ⟨gb284, 4, none⟩ (.slice none 0 0)).setCell ⟨gb284, 5, none⟩ (.slice none 0 0))) := ⟨by repeat (first | (with_reducible first | exact HB.out | apply below_alloc | apply pw_below_drewN | apply below_drew1 | refine below_set ?_ GE284.out) | exact HB.out)⟩
            (try clear HO_6)
            (try clear HO283)
            (try clear BK284)
            (try clear HB)
            generalize ((((((w43.setCell ⟨gb284, 0, none⟩ (.string ((⟨#[108]⟩ : ByteArray) ++ ((⟨#[97, 98, 99, 100, 101, 102, 103, 104, 105, 106, 107, 108]⟩ : ByteArray).extract (x7_1 : Int).toNat ((wrap64 (x7_1 + 1)) : Int).toNat)))).setCell ⟨gb284, 1, none⟩ (.int .i64 (wrap64 (x7_1 - 1)))).setCell ⟨gb284, 2, none⟩ (.int .i64 0)).setCell ⟨gb284, 3, none⟩ (.slice Ao44 y281.length co44)).setCell ⟨gb284, 4, none⟩ (.slice none 0 0)).setCell ⟨gb284, 5, none⟩ (.slice none 0 0)) = w51 at n0_ n1_ n2_ n3_ ⊢
            have HO_6 := n0_
            have HO283 := n1_
            have BK284 := n2_
            have HB := n3_
            clear n0_ n1_ n2_ n3_
            try go_wp2_with (first | (go_at_call 19; (with_reducible refine (l5_within.calls a1 3 t285 _ A16.out).mono ?_); rintro e w' ⟨rfl, ⟨nd, rfl⟩⟩; have hcz52_0 : w51.cell? ⟨gb284, 0, none⟩ = some (.string ((⟨#[108]⟩ : ByteArray) ++ ((⟨#[97, 98, 99, 100, 101, 102, 103, 104, 105, 106, 107, 108]⟩ : ByteArray).extract (x7_1 : Int).toNat ((wrap64 (x7_1 + 1)) : Int).toNat))) := (blk_cell BK284.out 0).trans rfl; have hcz52_1 : w51.cell? ⟨gb284, 1, none⟩ = some (.int .i64 (wrap64 (x7_1 - 1))) := (blk_cell BK284.out 1).trans rfl; have hcz52_2 : w51.cell? ⟨gb284, 2, none⟩ = some (.int .i64 0) := (blk_cell BK284.out 2).trans rfl; have hcz52_3 : w51.cell? ⟨gb284, 3, none⟩ = some (.slice Ao44 y281.length co44) := (blk_cell BK284.out 3).trans rfl; have hcz52_4 : w51.cell? ⟨gb284, 4, none⟩ = some (.slice none 0 0) := (blk_cell BK284.out 4).trans rfl; have hcz52_5 : w51.cell? ⟨gb284, 5, none⟩ = some (.slice none 0 0) := (blk_cell BK284.out 5).trans rfl; have hfz52_0 := blk_frozen BK284.out 0; have hfz52_1 := blk_frozen BK284.out 1; have hfz52_2 := blk_frozen BK284.out 2; have hfz52_3 := blk_frozen BK284.out 3; have hfz52_4 := blk_frozen BK284.out 4; have hfz52_5 := blk_frozen BK284.out 5) | ((with_reducible refine gate_builtin (b := .append) (xs := #[.tmp 48, .tmp 50]) rfl ?_); (try (refine gate_guard (by rfl) ?_; dsimp only)); at_builtin; refine Kd.R_append k44 (w0 := w) w.heap.size rfl (.tmp 48) (.tmp 50) 26 44 (.agg #[(.string ⟨#[]⟩), (.int .i64 0), (.int .i64 0), (.slice none 0 0), (.slice none 0 0), (.slice none 0 0)]) 104 rfl Tryz.underlying26 info44 rfl (by decide) (by omega) u6 x6_1 (⟨(⟨#[108]⟩ : ByteArray) ++ ((⟨#[97, 98, 99, 100, 101, 102, 103, 104, 105, 106, 107, 108]⟩ : ByteArray).extract (x7_1 : Int).toNat ((wrap64 (x7_1 + 1)) : Int).toNat), wrap64 (x7_1 - 1), 0, y281, ([] : List (S56)), ([] : List (S52))⟩ : S44) [.string ((⟨#[108]⟩ : ByteArray) ++ ((⟨#[97, 98, 99, 100, 101, 102, 103, 104, 105, 106, 107, 108]⟩ : ByteArray).extract (x7_1 : Int).toNat ((wrap64 (x7_1 + 1)) : Int).toNat)), .int .i64 (wrap64 (x7_1 - 1)), .int .i64 0, .slice Ao44 y281.length co44, .slice none 0 0, .slice none 0 0] (fun k_ => k_ ≠ gb284) (fun k_ => ((fun k_ => k_ ≠ gb284)) k_ ∧ some k_ ≠ (u6 : Value).ownBlock) rfl rfl ?aP (fun _ hk => hk) ?aF ?aO ?aB ?aS ?aL ?_; (case aP => exact k44_mkM _ _ _ (⟨(⟨#[108]⟩ : ByteArray) ++ ((⟨#[97, 98, 99, 100, 101, 102, 103, 104, 105, 106, 107, 108]⟩ : ByteArray).extract (x7_1 : Int).toNat ((wrap64 (x7_1 + 1)) : Int).toNat), wrap64 (x7_1 - 1), 0, y281, ([] : List (S56)), ([] : List (S52))⟩ : S44) (Kd.R_mono (Kd.R_types (Kd.R_apart' (HO283.out) (Kd.R_typed HO_6.out) (by decide)) BK284.out (by decide)) (fun k_ hk => ⟨hk.2, hk.1.2⟩)) (Kd.R_nil _ _ _ _ _) (Kd.R_nil _ _ _ _ _)); (case aB => exact (by repeat (first | (with_reducible first | exact HB.out | apply below_alloc | apply pw_below_drewN | apply below_drew1 | refine below_set ?_ GE284.out) | exact HB.out))); (case aF => exact (fun k_ hk => Kd.freshB (g := gb284) (o := .cells #[.string ((⟨#[108]⟩ : ByteArray) ++ ((⟨#[97, 98, 99, 100, 101, 102, 103, 104, 105, 106, 107, 108]⟩ : ByteArray).extract (x7_1 : Int).toNat ((wrap64 (x7_1 + 1)) : Int).toNat)), .int .i64 (wrap64 (x7_1 - 1)), .int .i64 0, .slice Ao44 y281.length co44, .slice none 0 0, .slice none 0 0] 44 (0, 0)) (by (with_reducible repeat (first | refine blk_drewN ?_ _ | refine blk_drew ?_ | refine blk_alloc ?_ _)); exact BK284.out) k_ hk)); (case aO => exact (by (with_reducible repeat (first | apply Kd.R_alloc | apply Kd.R_drewN | apply Kd.R_drew)); (first | exact Kd.R_mono HO_6.out (fun _ hk => hk.2) | exact HO_6.out))); (case aS => exact (below_size (by repeat (first | (with_reducible first | exact HB.out | apply below_alloc | apply pw_below_drewN | apply below_drew1 | refine below_set ?_ GE284.out) | exact HB.out)))); (case aL => have := LMc37.out; omega); intro v290 w53 ho hb hg hat; rw [← Ny289.out] at ho; have n0_ := Aside0.mk (blk_grown (g := gb284) (o := .cells #[.string ((⟨#[108]⟩ : ByteArray) ++ ((⟨#[97, 98, 99, 100, 101, 102, 103, 104, 105, 106, 107, 108]⟩ : ByteArray).extract (x7_1 : Int).toNat ((wrap64 (x7_1 + 1)) : Int).toNat)), .int .i64 (wrap64 (x7_1 - 1)), .int .i64 0, .slice Ao44 y281.length co44, .slice none 0 0, .slice none 0 0] 44 (0, 0)) (by (with_reducible repeat (first | refine blk_drewN ?_ _ | refine blk_drew ?_ | refine blk_alloc ?_ _)); exact BK284.out) hg (Kd.R_away HO_6.out (fun _ hk => hk.2))); have n1_ := Aside0.mk (hb); have n2_ := Aside0.mk (ho); clear BK284; clear HB; clear HO_6; clear HO283; have BK284 := n0_; have HB := n1_; have HO291 := n2_; clear n0_ n1_ n2_; clear ho hb hg hat))
            go_roundg k1
            case measure => have := HK1.out; omega
            case rel => exact ⟨(y289), (wrap64 (x7_1 + 1)), (by first | rfl | (simp; done) | (simp [*]; done)), H', ⟨by have := HK1.out; omega⟩, ⟨by (with_reducible repeat (first | apply Kd.R_alloc | apply Kd.R_drewN | apply Kd.R_drew)); exact Kd.R_mono HO291.out (fun _ hk => trivial)⟩, ⟨by repeat (first | (with_reducible first | exact HB.out | apply below_alloc | apply pw_below_drewN | apply below_drew1 | refine below_set ?_ GE284.out) | exact HB.out)⟩⟩
           ·rw [if_neg c37] at H
            exact absurd H (by simp)
         ·rw [if_neg c15] at H
          have c15b0 : decide (1 < x7_1) = false := decide_eq_false c15
          clear c15
          by_cases c54 : x6_1.length < 1353245080339
          ·rw [if_pos c54] at H
           have LMc54 := Aside0.mk c54
           clear c54
           obtain ⟨y292, hy292⟩ : ∃ y_ : List (S44), y_ = (x6_1 ++ [(⟨(⟨#[108]⟩ : ByteArray) ++ ((⟨#[97, 98, 99, 100, 101, 102, 103, 104, 105, 106, 107, 108]⟩ : ByteArray).extract (x7_1 : Int).toNat ((wrap64 (x7_1 + 1)) : Int).toNat), wrap64 (x7_1 - 1), 0, y281, ([] : List (S56)), ([] : List (S52))⟩ : S44)]) := ⟨_, rfl⟩
           replace H : (l5_BlobParents.l0 k1 a1 (wrap64 (1 + t280)) y292 (wrap64 (x7_1 + 1))) = some r := by first | (rw [hy292]; with_reducible exact H) | (have H2_ := (Option.bind_some _ _).symm.trans H; rw [hy292]; with_reducible exact H2_) | (have H2_ := (Option.bind_some _ _).symm.trans H; with_reducible exact H2_) | with_reducible exact H | (rw [hy292]; exact H) | exact H
           have Ny292 := Aside0.mk hy292
           clear hy292
           have H' := Aside0.mk H
           clear H
           try go_wp2
           have n0_ := Aside0.mk (Kd.R_drew HO_6.out)
           have n1_ := Aside0.mk (below_drew1 HB.out)
           clear HO_6
           clear HB
           have HO_6 := n0_
           have HB := n1_
           clear n0_ n1_
           refine start_ (n := 17) (S := fun w' => True) (ds := []) #[false, false, false, false, false, false, false, false, false, false, false, false, false, false, false, false, false] (by kernel_rfl) rfl rfl trivial (fun hHeld => ?_); refine with_tabW l5_BlobParents.tab8 l5_BlobParents.bits8 (fun HT_ HW_ => ?_)
           generalize wr.drew = w55 at HO_6 HB hHeld ⊢
           refine pure_ (i := 0) (N := some 23) (v := ?_) (a' := ?_) #[true, false, false, false, false, false, false, false, false, false, false, false, false, false, false, false, false] rfl rfl (any_of HT_.out (by kernel_rfl)) (fun _ _ _ h => h) (Or.inl ⟨by rfl, ?_⟩) ?_ ?_
           rotate_left
           ·intro w'
            go_simp
            with_reducible rfl
           rotate_left
           ·simp only [Act.put, List.setIfInBounds_toArray, List.set_cons_zero, List.set_cons_succ, i64_w, i32_w]
            rfl
           refine pure_ (i := 1) (N := some 24) (v := ?_) (a' := ?_) #[true, true, false, false, false, false, false, false, false, false, false, false, false, false, false, false, false] rfl rfl (any_of HT_.out (by kernel_rfl)) (fun _ _ _ h => h) (Or.inl ⟨by rfl, ?_⟩) ?_ ?_
           rotate_left
           ·intro w'
            go_simp
            with_reducible rfl
           rotate_left
           ·simp only [Act.put, List.setIfInBounds_toArray, List.set_cons_zero, List.set_cons_succ, i64_w, i32_w]
            rfl
           refine pure_ (i := 2) (N := some 25) (v := ?_) (a' := ?_) #[true, true, true, false, false, false, false, false, false, false, false, false, false, false, false, false, false] rfl rfl (any_of HT_.out (by kernel_rfl)) (fun _ _ _ h => h) (Or.inl ⟨by rfl, ?_⟩) ?_ ?_
           rotate_left
           ·intro w'
            go_simp
            with_reducible rfl
           rotate_left
           ·simp only [Act.put, List.setIfInBounds_toArray, List.set_cons_zero, List.set_cons_succ, i64_w, i32_w]
            rfl
           refine pure_ (i := 3) (N := some 26) (v := ?_) (a' := ?_) #[true, true, true, true, false, false, false, false, false, false, false, false, false, false, false, false, false] rfl rfl (any_of HT_.out (by kernel_rfl)) (fun _ _ _ h => h) (Or.inl ⟨by rfl, ?_⟩) ?_ ?_
           rotate_left
           ·intro w'
            go_simp
            with_reducible rfl
           rotate_left
           ·simp only [Act.put, List.setIfInBounds_toArray, List.set_cons_zero, List.set_cons_succ, i64_w, i32_w]
            rfl
           refine pure_ (i := 4) (N := some 27) (v := ?_) (a' := ?_) #[true, true, true, true, true, false, false, false, false, false, false, false, false, false, false, false, false] rfl rfl (any_of HT_.out (by kernel_rfl)) (fun _ _ _ h => h) (Or.inl ⟨by rfl, ?_⟩) ?_ ?_
           rotate_left
           ·intro w'
            have hq_ : ¬ (9223372036854775807 < 1 + ((wrap64 (x7_1 + 1)).toNat - x7_1.toNat)) := by
             have h_ : wrap64 (x7_1 + 1) ≤ 12 := by assumption
             generalize wrap64 (x7_1 + 1) = q_ at h_ ⊢
             omega
            go_simp
            with_reducible rfl
           rotate_left
           ·simp only [Act.put, List.setIfInBounds_toArray, List.set_cons_zero, List.set_cons_succ, i64_w, i32_w]
            rfl
           refine pure_ (i := 5) (N := some 28) (v := ?_) (a' := ?_) #[true, true, true, true, true, true, false, false, false, false, false, false, false, false, false, false, false] rfl rfl (any_of HT_.out (by kernel_rfl)) (fun _ _ _ h => h) (Or.inl ⟨by rfl, ?_⟩) ?_ ?_
           rotate_left
           ·intro w'
            go_simp
            with_reducible rfl
           rotate_left
           ·simp only [Act.put, List.setIfInBounds_toArray, List.set_cons_zero, List.set_cons_succ, i64_w, i32_w]
            rfl
           refine pure_ (i := 6) (N := some 29) (v := ?_) (a' := ?_) #[true, true, true, true, true, true, true, false, false, false, false, false, false, false, false, false, false] rfl rfl (any_of HT_.out (by kernel_rfl)) (fun _ _ _ h => h) (Or.inl ⟨by rfl, ?_⟩) ?_ ?_
           rotate_left
           ·intro w'
            go_simp
            with_reducible rfl
           rotate_left
           ·simp only [Act.put, List.setIfInBounds_toArray, List.set_cons_zero, List.set_cons_succ, i64_w, i32_w]
            rfl
           refine pure_ (i := 7) (N := some 30) (v := ?_) (a' := ?_) #[true, true, true, true, true, true, true, true, false, false, false, false, false, false, false, false, false] rfl rfl (any_of HT_.out (by kernel_rfl)) (fun _ _ _ h => h) (Or.inl ⟨by rfl, ?_⟩) ?_ ?_
           rotate_left
           ·intro w'
            go_simp
            with_reducible rfl
           rotate_left
           ·simp only [Act.put, List.setIfInBounds_toArray, List.set_cons_zero, List.set_cons_succ, i64_w, i32_w]
            rfl
           refine pure_ (i := 8) (N := some 31) (v := ?_) (a' := ?_) #[true, true, true, true, true, true, true, true, true, false, false, false, false, false, false, false, false] rfl rfl (any_of HT_.out (by kernel_rfl)) (fun _ _ _ h => h) (Or.inl ⟨by rfl, ?_⟩) ?_ ?_
           rotate_left
           ·intro w'
            go_simp
            with_reducible rfl
           rotate_left
           ·simp only [Act.put, List.setIfInBounds_toArray, List.set_cons_zero, List.set_cons_succ, i64_w, i32_w]
            rfl
           refine pure_ (i := 9) (N := some 32) (v := ?_) (a' := ?_) #[true, true, true, true, true, true, true, true, true, true, false, false, false, false, false, false, false] rfl rfl (any_of HT_.out (by kernel_rfl)) (fun _ _ _ h => h) (Or.inl ⟨by rfl, ?_⟩) ?_ ?_
           rotate_left
           ·intro w'
            go_simp
            with_reducible rfl
           rotate_left
           ·simp only [Act.put, List.setIfInBounds_toArray, List.set_cons_zero, List.set_cons_succ, i64_w, i32_w]
            rfl
           refine pure_ (i := 10) (N := some 33) (v := ?_) (a' := ?_) #[true, true, true, true, true, true, true, true, true, true, true, false, false, false, false, false, false] rfl rfl (any_of HT_.out (by kernel_rfl)) (fun _ _ _ h => h) (Or.inl ⟨by rfl, ?_⟩) ?_ ?_
           rotate_left
           ·intro w'
            go_simp
            with_reducible rfl
           rotate_left
           ·simp only [Act.put, List.setIfInBounds_toArray, List.set_cons_zero, List.set_cons_succ, i64_w, i32_w]
            rfl
           refine pure_ (i := 11) (N := some 34) (v := ?_) (a' := ?_) #[true, true, true, true, true, true, true, true, true, true, true, true, false, false, false, false, false] rfl rfl (any_of HT_.out (by kernel_rfl)) (fun _ _ _ h => h) (Or.inl ⟨by rfl, ?_⟩) ?_ ?_
           rotate_left
           ·intro w'
            go_simp
            with_reducible rfl
           rotate_left
           ·simp only [Act.put, List.setIfInBounds_toArray, List.set_cons_zero, List.set_cons_succ, i64_w, i32_w]
            rfl
           refine pure_ (i := 12) (N := some 35) (v := ?_) (a' := ?_) #[true, true, true, true, true, true, true, true, true, true, true, true, true, false, false, false, false] rfl rfl (any_of HT_.out (by kernel_rfl)) (fun _ _ _ h => h) (Or.inl ⟨by rfl, ?_⟩) ?_ ?_
           rotate_left
           ·intro w'
            go_simp
            with_reducible rfl
           rotate_left
           ·simp only [Act.put, List.setIfInBounds_toArray, List.set_cons_zero, List.set_cons_succ, i64_w, i32_w]
            rfl
           refine join_ (σ := Value × Nat) 1 #[true, true, true, true, true, true, true, true, true, true, true, true, true, true, true, true, false] (fun s_ => [(36, s_.1), (8, .pointer (some ⟨s_.2, 0, none⟩)), (37, .agg #[.string ((⟨#[108]⟩ : ByteArray) ++ ((⟨#[97, 98, 99, 100, 101, 102, 103, 104, 105, 106, 107, 108]⟩ : ByteArray).extract (x7_1 : Int).toNat ((wrap64 (x7_1 + 1)) : Int).toNat)), .int .i64 (wrap64 (x7_1 - 1)), .int .i64 0, s_.1, .slice none 0 0, .slice none 0 0])]) (fun s_ w' => (Kd.R k46 46 w' w.heap.size (fun _ => True) s_.1 y281) ∧ (Kd.R k44 44 w' w.heap.size (fun k_ => some k_ ≠ (s_.1 : Value).ownBlock ∧ k_ ≠ s_.2) u6 x6_1) ∧ (w'.heap[s_.2]? = some (.cells #[.string (⟨#[]⟩ : ByteArray), .int .i64 0, .int .i64 0, .slice none 0 0, .slice none 0 0, .slice none 0 0] 44 (0, 0))) ∧ (w.heap.size ≤ s_.2) ∧ (w.heap.size ≤ s_.2) ∧ (Below w.heap.size w w')) ?_ ?_
           rotate_left
           ·intro hCont
            refine two_ (i := 13) (j := 15) (Ni := some 36) (Nj := some 8) #[true, true, true, true, true, true, true, true, true, true, true, true, true, true, false, false, false] #[true, true, true, true, true, true, true, true, true, true, true, true, true, false, false, true, false] rfl rfl rfl rfl (two_of HT_.out (by kernel_rfl)) (by decide) (by decide) (fun K hK => ?_) (fun K hK => ?_)
            ·skip
             refine Kd.R_lit_step k46 _ 46 ?hg (N := 36) ?hd (xs := ([(⟨(⟨#[97, 98, 99, 100, 101, 102, 103, 104, 105, 106, 107, 108]⟩ : ByteArray).extract (x7_1 : Int).toNat ((wrap64 (x7_1 + 1)) : Int).toNat, 1, x7_1⟩ : S46)] : List (S46))) (inner := [.string ((⟨#[97, 98, 99, 100, 101, 102, 103, 104, 105, 106, 107, 108]⟩ : ByteArray).extract (x7_1 : Int).toNat ((wrap64 (x7_1 + 1)) : Int).toNat), .int .i64 1, .int .i64 x7_1]) (ok := fun _ => True) (okp := fun _ => True) ?hr ?hp (fun _ hk => hk) trivial (Below.refl _ _) (Nat.le_refl _) (by simp) ?_; (case hd => rfl); (case hg => rfl); (case hr => first | (go_simp; done) | (go_simp; rfl)); (case hp => exact (Reps.c3 (show Kd.M k46 _ _ _ (⟨(⟨#[97, 98, 99, 100, 101, 102, 103, 104, 105, 106, 107, 108]⟩ : ByteArray).extract (x7_1 : Int).toNat ((wrap64 (x7_1 + 1)) : Int).toNat, 1, x7_1⟩ : S46) [.string ((⟨#[97, 98, 99, 100, 101, 102, 103, 104, 105, 106, 107, 108]⟩ : ByteArray).extract (x7_1 : Int).toNat ((wrap64 (x7_1 + 1)) : Int).toNat), .int .i64 1, .int .i64 x7_1] from (k46_mkM _ _ _ (⟨(⟨#[97, 98, 99, 100, 101, 102, 103, 104, 105, 106, 107, 108]⟩ : ByteArray).extract (x7_1 : Int).toNat ((wrap64 (x7_1 + 1)) : Int).toNat, 1, x7_1⟩ : S46) )) (Reps.none _ _)))
             intro v282 w56 ho57 hb hg_ hnew_
             clear hg_ hnew_
             (first | rw [← Ny281.out] at ho57 | (simp only [Int.reduceToNat] at ho57; rw [← Ny281.out] at ho57))
             have n0_ := Aside0.mk (Kd.R_elder' (by (with_reducible repeat (first | apply Kd.R_alloc | apply Kd.R_drewN | apply Kd.R_drew)); exact HO_6.out) (Kd.R_base ho57) hb)
             have n1_ := Aside0.mk (Kd.R_lower ho57 (below_size (by repeat (first | (with_reducible first | exact HB.out | apply below_alloc | apply pw_below_drewN | apply below_drew1) | exact HB.out))))
             have n2_ := Aside0.mk (below_step (by repeat (first | (with_reducible first | exact HB.out | apply below_alloc | apply pw_below_drewN | apply below_drew1) | exact HB.out)) hb)
             clear HO_6
             clear HB
             have HO_6 := n0_
             have HO283 := n1_
             have HB := n2_
             clear n0_ n1_ n2_
             clear hb ho57
             obtain ⟨Ao58, co58, eo58⟩ := Kd.R_slice HO283.out
             (first | subst eo58 | (injection eo58 with f1_ f2_ f3_; have f4_ := f1_.symm; have f5_ := f3_.symm; clear f1_ f2_ f3_; subst f4_; subst f5_))
             refine hK.out _ _ trivial (fun hHeld => ?_)
             clear hK K
             refine norm_ (a' := ?_) ?_ ?_
             rotate_left
             ·show Act.put _ (some 36) _ = _
              simp only [Act.put, List.setIfInBounds_toArray, List.set_cons_zero, List.set_cons_succ, i64_w, i32_w]
              rfl
             refine pure_ (i := 14) (N := some 37) (v := ?_) (a' := ?_) #[true, true, true, true, true, true, true, true, true, true, true, true, true, true, true, false, false] rfl rfl (any_of HT_.out (by kernel_rfl)) (fun _ _ _ h => h) (Or.inl ⟨by rfl, ?_⟩) ?_ ?_
             rotate_left
             ·intro w'
              go_simp
              with_reducible rfl
             rotate_left
             ·simp only [Act.put, List.setIfInBounds_toArray, List.set_cons_zero, List.set_cons_succ, i64_w, i32_w]
              rfl
             refine one_ (i := 15) (N := some 8) #[true, true, true, true, true, true, true, true, true, true, true, true, true, true, true, true, false] rfl rfl (one_of HT_.out (by kernel_rfl)) (by decide) (fun K hK => ?_)
             refine box_step ?hg (N := 8) ?hd (cs := #[.string (⟨#[]⟩ : ByteArray), .int .i64 0, .int .i64 0, .slice none 0 0, .slice none 0 0, .slice none 0 0]) (t := 44) ?hr ?_; (case hd => rfl); (case hg => rfl); (case hr => first | (go_simp; done) | (go_simp; rfl))
             intro gb284 hg w59 hbox hb
             have n0_ := Aside0.mk (Kd.R_below (Kd.R_elderB (by (with_reducible repeat (first | apply Kd.R_alloc | apply Kd.R_drewN | apply Kd.R_drew)); exact HO_6.out) gb284 (Nat.le_of_eq hg.symm)) hb)
             have n1_ := Aside0.mk (Kd.R_below (by (with_reducible repeat (first | apply Kd.R_alloc | apply Kd.R_drewN | apply Kd.R_drew)); exact HO283.out) hb)
             have n2_ := Aside0.mk (below_step (by repeat (first | (with_reducible first | exact HB.out | apply below_alloc | apply pw_below_drewN | apply below_drew1) | exact HB.out)) hb)
             have n3_ := Aside0.mk (hbox)
             have n4_ := Aside0.mk ((by rw [hg]; exact (below_size (by repeat (first | (with_reducible first | exact HB.out | apply below_alloc | apply pw_below_drewN | apply below_drew1) | exact HB.out))) : w.heap.size ≤ gb284))
             have n5_ := Aside0.mk ((by rw [hg]; exact (below_size (by repeat (first | (with_reducible first | exact HB.out | apply below_alloc | apply pw_below_drewN | apply below_drew1) | exact HB.out))) : w.heap.size ≤ gb284))
             clear HO_6
             clear HO283
             clear HB
             have HO_6 := n0_
             have HO283 := n1_
             have HB := n2_
             have BK284 := n3_
             have GW284 := n4_
             have GE284 := n5_
             clear n0_ n1_ n2_ n3_ n4_ n5_
             clear hb hbox hg
             refine hK.out _ _ trivial (fun hHeld => ?_)
             clear hK K
             refine norm_ (a' := ?_) ?_ ?_
             rotate_left
             ·show Act.put _ (some 8) _ = _
              simp only [Act.put, List.setIfInBounds_toArray, List.set_cons_zero, List.set_cons_succ, i64_w, i32_w]
              rfl
             exact norm_ (by simp only [putAll, Act.put, List.setIfInBounds_toArray, List.set_cons_zero, List.set_cons_succ]) (hCont (.slice Ao58 y281.length co58, gb284) _ ⟨(by (with_reducible repeat (first | apply Kd.R_alloc | apply Kd.R_drewN | apply Kd.R_drew)); exact HO283.out), (by (with_reducible repeat (first | apply Kd.R_alloc | apply Kd.R_drewN | apply Kd.R_drew)); exact Kd.R_mono HO_6.out (fun _ hk => ⟨hk.1.2, hk.2⟩)), (by (with_reducible repeat (first | refine blk_drewN ?_ _ | refine blk_drew ?_ | refine blk_alloc ?_ _)); exact BK284.out), GW284.out, GE284.out, (by repeat (first | (with_reducible first | exact HB.out | apply below_alloc | apply pw_below_drewN | apply below_drew1 | refine below_set ?_ GE284.out) | exact HB.out))⟩)
            ·skip
             refine box_step ?hg (N := 8) ?hd (cs := #[.string (⟨#[]⟩ : ByteArray), .int .i64 0, .int .i64 0, .slice none 0 0, .slice none 0 0, .slice none 0 0]) (t := 44) ?hr ?_; (case hd => rfl); (case hg => rfl); (case hr => first | (go_simp; done) | (go_simp; rfl))
             intro gb284 hg w56 hbox hb
             have n0_ := Aside0.mk (Kd.R_below (Kd.R_elderB (by (with_reducible repeat (first | apply Kd.R_alloc | apply Kd.R_drewN | apply Kd.R_drew)); exact HO_6.out) gb284 (Nat.le_of_eq hg.symm)) hb)
             have n1_ := Aside0.mk (below_step (by repeat (first | (with_reducible first | exact HB.out | apply below_alloc | apply pw_below_drewN | apply below_drew1) | exact HB.out)) hb)
             have n2_ := Aside0.mk (hbox)
             have n3_ := Aside0.mk ((by rw [hg]; exact (below_size (by repeat (first | (with_reducible first | exact HB.out | apply below_alloc | apply pw_below_drewN | apply below_drew1) | exact HB.out))) : w.heap.size ≤ gb284))
             have n4_ := Aside0.mk ((by rw [hg]; exact (below_size (by repeat (first | (with_reducible first | exact HB.out | apply below_alloc | apply pw_below_drewN | apply below_drew1) | exact HB.out))) : w.heap.size ≤ gb284))
             clear HO_6
             clear HB
             have HO_6 := n0_
             have HB := n1_
             have BK284 := n2_
             have GW284 := n3_
             have GE284 := n4_
             clear n0_ n1_ n2_ n3_ n4_
             clear hb hbox hg
             refine hK.out _ _ trivial (fun hHeld => ?_)
             clear hK K
             refine norm_ (a' := ?_) ?_ ?_
             rotate_left
             ·show Act.put _ (some 8) _ = _
              simp only [Act.put, List.setIfInBounds_toArray, List.set_cons_zero, List.set_cons_succ, i64_w, i32_w]
              rfl
             refine one_ (i := 13) (N := some 36) #[true, true, true, true, true, true, true, true, true, true, true, true, true, true, false, true, false] rfl rfl (one_of HT_.out (by kernel_rfl)) (by decide) (fun K hK => ?_)
             refine Kd.R_lit_step k46 _ 46 ?hg (N := 36) ?hd (xs := ([(⟨(⟨#[97, 98, 99, 100, 101, 102, 103, 104, 105, 106, 107, 108]⟩ : ByteArray).extract (x7_1 : Int).toNat ((wrap64 (x7_1 + 1)) : Int).toNat, 1, x7_1⟩ : S46)] : List (S46))) (inner := [.string ((⟨#[97, 98, 99, 100, 101, 102, 103, 104, 105, 106, 107, 108]⟩ : ByteArray).extract (x7_1 : Int).toNat ((wrap64 (x7_1 + 1)) : Int).toNat), .int .i64 1, .int .i64 x7_1]) (ok := fun _ => True) (okp := fun _ => True) ?hr ?hp (fun _ hk => hk) trivial (Below.refl _ _) (Nat.le_refl _) (by simp) ?_; (case hd => rfl); (case hg => rfl); (case hr => first | (go_simp; done) | (go_simp; rfl)); (case hp => exact (Reps.c3 (show Kd.M k46 _ _ _ (⟨(⟨#[97, 98, 99, 100, 101, 102, 103, 104, 105, 106, 107, 108]⟩ : ByteArray).extract (x7_1 : Int).toNat ((wrap64 (x7_1 + 1)) : Int).toNat, 1, x7_1⟩ : S46) [.string ((⟨#[97, 98, 99, 100, 101, 102, 103, 104, 105, 106, 107, 108]⟩ : ByteArray).extract (x7_1 : Int).toNat ((wrap64 (x7_1 + 1)) : Int).toNat), .int .i64 1, .int .i64 x7_1] from (k46_mkM _ _ _ (⟨(⟨#[97, 98, 99, 100, 101, 102, 103, 104, 105, 106, 107, 108]⟩ : ByteArray).extract (x7_1 : Int).toNat ((wrap64 (x7_1 + 1)) : Int).toNat, 1, x7_1⟩ : S46) )) (Reps.none _ _)))
             intro v282 w57 ho58 hb hg_ hnew_
             clear hg_ hnew_
             (first | rw [← Ny281.out] at ho58 | (simp only [Int.reduceToNat] at ho58; rw [← Ny281.out] at ho58))
             have n0_ := Aside0.mk (Kd.R_elder' (by (with_reducible repeat (first | apply Kd.R_alloc | apply Kd.R_drewN | apply Kd.R_drew)); exact HO_6.out) (Kd.R_base ho58) hb)
             have n1_ := Aside0.mk (Kd.R_lower ho58 (below_size (by repeat (first | (with_reducible first | exact HB.out | apply below_alloc | apply pw_below_drewN | apply below_drew1 | refine below_set ?_ GE284.out) | exact HB.out))))
             have n2_ := Aside0.mk (blk_below (g := gb284) (o := .cells #[.string (⟨#[]⟩ : ByteArray), .int .i64 0, .int .i64 0, .slice none 0 0, .slice none 0 0, .slice none 0 0] 44 (0, 0)) (by (with_reducible repeat (first | refine blk_drewN ?_ _ | refine blk_drew ?_ | refine blk_alloc ?_ _)); exact BK284.out) hb)
             have n3_ := Aside0.mk (below_step (by repeat (first | (with_reducible first | exact HB.out | apply below_alloc | apply pw_below_drewN | apply below_drew1 | refine below_set ?_ GE284.out) | exact HB.out)) hb)
             clear HO_6
             clear BK284
             clear HB
             have HO_6 := n0_
             have HO283 := n1_
             have BK284 := n2_
             have HB := n3_
             clear n0_ n1_ n2_ n3_
             clear hb ho58
             obtain ⟨Ao59, co59, eo59⟩ := Kd.R_slice HO283.out
             (first | subst eo59 | (injection eo59 with f1_ f2_ f3_; have f4_ := f1_.symm; have f5_ := f3_.symm; clear f1_ f2_ f3_; subst f4_; subst f5_))
             refine hK.out _ _ trivial (fun hHeld => ?_)
             clear hK K
             refine norm_ (a' := ?_) ?_ ?_
             rotate_left
             ·show Act.put _ (some 36) _ = _
              simp only [Act.put, List.setIfInBounds_toArray, List.set_cons_zero, List.set_cons_succ, i64_w, i32_w]
              rfl
             refine pure_ (i := 14) (N := some 37) (v := ?_) (a' := ?_) #[true, true, true, true, true, true, true, true, true, true, true, true, true, true, true, true, false] rfl rfl (any_of HT_.out (by kernel_rfl)) (fun _ _ _ h => h) (Or.inl ⟨by rfl, ?_⟩) ?_ ?_
             rotate_left
             ·intro w'
              go_simp
              with_reducible rfl
             rotate_left
             ·simp only [Act.put, List.setIfInBounds_toArray, List.set_cons_zero, List.set_cons_succ, i64_w, i32_w]
              rfl
             exact norm_ (by simp only [putAll, Act.put, List.setIfInBounds_toArray, List.set_cons_zero, List.set_cons_succ]) (hCont (.slice Ao59 y281.length co59, gb284) _ ⟨(by (with_reducible repeat (first | apply Kd.R_alloc | apply Kd.R_drewN | apply Kd.R_drew)); exact HO283.out), (by (with_reducible repeat (first | apply Kd.R_alloc | apply Kd.R_drewN | apply Kd.R_drew)); exact Kd.R_mono HO_6.out (fun _ hk => ⟨hk.2, hk.1.2⟩)), (by (with_reducible repeat (first | refine blk_drewN ?_ _ | refine blk_drew ?_ | refine blk_alloc ?_ _)); exact BK284.out), GW284.out, GE284.out, (by repeat (first | (with_reducible first | exact HB.out | apply below_alloc | apply pw_below_drewN | apply below_drew1 | refine below_set ?_ GE284.out) | exact HB.out))⟩)
           rintro ⟨v282, gb284⟩ w60 ⟨h0_, h1_, h2_, h3_, h4_, h5_⟩
           have n0_ : Aside0 (Kd.R k46 46 w60 w.heap.size (fun _ => True) v282 y281) := ⟨h0_⟩
           have n1_ : Aside0 (Kd.R k44 44 w60 w.heap.size (fun k_ => some k_ ≠ (v282 : Value).ownBlock ∧ k_ ≠ gb284) u6 x6_1) := ⟨h1_⟩
           have n2_ : Aside0 (w60.heap[gb284]? = some (.cells #[.string (⟨#[]⟩ : ByteArray), .int .i64 0, .int .i64 0, .slice none 0 0, .slice none 0 0, .slice none 0 0] 44 (0, 0))) := ⟨h2_⟩
           have n3_ : Aside0 (w.heap.size ≤ gb284) := ⟨h3_⟩
           have n4_ : Aside0 (w.heap.size ≤ gb284) := ⟨h4_⟩
           have n5_ : Aside0 (Below w.heap.size w w60) := ⟨h5_⟩
           clear HO_6
           clear HB
           clear h0_ h1_ h2_ h3_ h4_ h5_
           have HO283 := n0_
           have HO_6 := n1_
           have BK284 := n2_
           have GW284 := n3_
           have GE284 := n4_
           have HB := n5_
           clear n0_ n1_ n2_ n3_ n4_ n5_
           have hHeld := trivial
           obtain ⟨Ao61, co61, eo61⟩ := Kd.R_slice HO283.out
           (first | subst eo61 | (injection eo61 with f1_ f2_ f3_; have f4_ := f1_.symm; have f5_ := f3_.symm; clear f1_ f2_ f3_; subst f4_; subst f5_))
           refine norm_ (a' := ?_) ?_ ?_
           rotate_left
           ·simp only [putAll, Act.put, List.setIfInBounds_toArray, List.set_cons_zero, List.set_cons_succ]
            rfl
           refine one_ (i := 16) (N := none) #[true, true, true, true, true, true, true, true, true, true, true, true, true, true, true, true, true] rfl rfl (one_of HT_.out (by kernel_rfl)) (by decide) (fun K hK => ?_)
           have hs62 : w60.cell? ⟨gb284, 0, none⟩ = some (.string (⟨#[]⟩ : ByteArray)) := (blk_cell BK284.out 0).trans rfl
           have hfs62 := blk_frozen BK284.out 0
           have hs63 : w60.cell? ⟨gb284, 1, none⟩ = some (.int .i64 0) := (blk_cell BK284.out 1).trans rfl
           have hfs63 := blk_frozen BK284.out 1
           have hs64 : w60.cell? ⟨gb284, 2, none⟩ = some (.int .i64 0) := (blk_cell BK284.out 2).trans rfl
           have hfs64 := blk_frozen BK284.out 2
           have hs65 : w60.cell? ⟨gb284, 3, none⟩ = some (.slice none 0 0) := (blk_cell BK284.out 3).trans rfl
           have hfs65 := blk_frozen BK284.out 3
           have hs66 : w60.cell? ⟨gb284, 4, none⟩ = some (.slice none 0 0) := (blk_cell BK284.out 4).trans rfl
           have hfs66 := blk_frozen BK284.out 4
           have hs67 : w60.cell? ⟨gb284, 5, none⟩ = some (.slice none 0 0) := (blk_cell BK284.out 5).trans rfl
           have hfs67 := blk_frozen BK284.out 5
           refine skip_ (w1 := ?_) (by rfl) rfl ?_ ?_
           rotate_left
           ·go_simp
            rfl
           refine hK.out _ _ trivial (fun hHeld => ?_)
           clear hK K
           refine done_ (done_of HT_.out (by kernel_rfl)) ?_
           have n0_ : Aside0 (Kd.R k44 44 ((((((w60.setCell ⟨gb284, 0, none⟩ (.string ((⟨#[108]⟩ : ByteArray) ++ ((⟨#[97, 98, 99, 100, 101, 102, 103, 104, 105, 106, 107, 108]⟩ : ByteArray).extract (x7_1 : Int).toNat ((wrap64 (x7_1 + 1)) : Int).toNat)))).setCell ⟨gb284, 1, none⟩ (.int .i64 (wrap64 (x7_1 - 1)))).setCell ⟨gb284, 2, none⟩ (.int .i64 0)).setCell ⟨gb284, 3, none⟩ (.slice Ao61 y281.length co61)).setCell ⟨gb284, 4, none⟩ (.slice none 0 0)).setCell ⟨gb284, 5, none⟩ (.slice none 0 0)) w.heap.size (fun k_ => some k_ ≠ (.slice Ao61 y281.length co61 : Value).ownBlock ∧ k_ ≠ gb284) u6 x6_1) := ⟨by (with_reducible repeat (first | apply Kd.R_alloc | apply Kd.R_drewN | apply Kd.R_drew)); exact Kd.R_mono (Kd.R_far (p := ⟨gb284, 5, none⟩) (Kd.R_far (p := ⟨gb284, 4, none⟩) (Kd.R_far (p := ⟨gb284, 3, none⟩) (Kd.R_far (p := ⟨gb284, 2, none⟩) (Kd.R_far (p := ⟨gb284, 1, none⟩) (Kd.R_far (p := ⟨gb284, 0, none⟩) (Kd.R_mono HO_6.out (fun k_ hk => (⟨hk, hk.2⟩ : _ ∧ k_ ≠ gb284))) (fun _ hk => hk.2) (.string ((⟨#[108]⟩ : ByteArray) ++ ((⟨#[97, 98, 99, 100, 101, 102, 103, 104, 105, 106, 107, 108]⟩ : ByteArray).extract (x7_1 : Int).toNat ((wrap64 (x7_1 + 1)) : Int).toNat)))) (fun _ hk => hk.2) (.int .i64 (wrap64 (x7_1 - 1)))) (fun _ hk => hk.2) (.int .i64 0)) (fun _ hk => hk.2) (.slice Ao61 y281.length co61)) (fun _ hk => hk.2) (.slice none 0 0)) (fun _ hk => hk.2) (.slice none 0 0)) (fun _ hk => ⟨hk.1.1, hk.1.2⟩)⟩
           have n1_ : Aside0 (Kd.R k46 46 ((((((w60.setCell ⟨gb284, 0, none⟩ (.string ((⟨#[108]⟩ : ByteArray) ++ ((⟨#[97, 98, 99, 100, 101, 102, 103, 104, 105, 106, 107, 108]⟩ : ByteArray).extract (x7_1 : Int).toNat ((wrap64 (x7_1 + 1)) : Int).toNat)))).setCell ⟨gb284, 1, none⟩ (.int .i64 (wrap64 (x7_1 - 1)))).setCell ⟨gb284, 2, none⟩ (.int .i64 0)).setCell ⟨gb284, 3, none⟩ (.slice Ao61 y281.length co61)).setCell ⟨gb284, 4, none⟩ (.slice none 0 0)).setCell ⟨gb284, 5, none⟩ (.slice none 0 0)) w.heap.size (fun _ => True) (.slice Ao61 y281.length co61) y281) := ⟨by (with_reducible repeat (first | apply Kd.R_alloc | apply Kd.R_drewN | apply Kd.R_drew)); exact Kd.R_mono (Kd.R_far (p := ⟨gb284, 5, none⟩) (Kd.R_far (p := ⟨gb284, 4, none⟩) (Kd.R_far (p := ⟨gb284, 3, none⟩) (Kd.R_far (p := ⟨gb284, 2, none⟩) (Kd.R_far (p := ⟨gb284, 1, none⟩) (Kd.R_far (p := ⟨gb284, 0, none⟩) (Kd.R_types HO283.out BK284.out (by decide)) (fun _ hk => hk.2) (.string ((⟨#[108]⟩ : ByteArray) ++ ((⟨#[97, 98, 99, 100, 101, 102, 103, 104, 105, 106, 107, 108]⟩ : ByteArray).extract (x7_1 : Int).toNat ((wrap64 (x7_1 + 1)) : Int).toNat)))) (fun _ hk => hk.2) (.int .i64 (wrap64 (x7_1 - 1)))) (fun _ hk => hk.2) (.int .i64 0)) (fun _ hk => hk.2) (.slice Ao61 y281.length co61)) (fun _ hk => hk.2) (.slice none 0 0)) (fun _ hk => hk.2) (.slice none 0 0)) (fun _ hk => trivial)⟩
           have n2_ : Aside0 (((((((w60.setCell ⟨gb284, 0, none⟩ (.string ((⟨#[108]⟩ : ByteArray) ++ ((⟨#[97, 98, 99, 100, 101, 102, 103, 104, 105, 106, 107, 108]⟩ : ByteArray).extract (x7_1 : Int).toNat ((wrap64 (x7_1 + 1)) : Int).toNat)))).setCell ⟨gb284, 1, none⟩ (.int .i64 (wrap64 (x7_1 - 1)))).setCell ⟨gb284, 2, none⟩ (.int .i64 0)).setCell ⟨gb284, 3, none⟩ (.slice Ao61 y281.length co61)).setCell ⟨gb284, 4, none⟩ (.slice none 0 0)).setCell ⟨gb284, 5, none⟩ (.slice none 0 0)).heap[gb284]? = some (.cells #[.string ((⟨#[108]⟩ : ByteArray) ++ ((⟨#[97, 98, 99, 100, 101, 102, 103, 104, 105, 106, 107, 108]⟩ : ByteArray).extract (x7_1 : Int).toNat ((wrap64 (x7_1 + 1)) : Int).toNat)), .int .i64 (wrap64 (x7_1 - 1)), .int .i64 0, .slice Ao61 y281.length co61, .slice none 0 0, .slice none 0 0] 44 (0, 0))) := ⟨by (with_reducible repeat (first | refine blk_drewN ?_ _ | refine blk_drew ?_ | refine blk_alloc ?_ _)); refine blk_put (cs := #[.string ((⟨#[108]⟩ : ByteArray) ++ ((⟨#[97, 98, 99, 100, 101, 102, 103, 104, 105, 106, 107, 108]⟩ : ByteArray).extract (x7_1 : Int).toNat ((wrap64 (x7_1 + 1)) : Int).toNat)), .int .i64 (wrap64 (x7_1 - 1)), .int .i64 0, .slice Ao61 y281.length co61, .slice none 0 0, .slice none 0 0]) ?_ 5 _ rfl; (with_reducible repeat (first | refine blk_drewN ?_ _ | refine blk_drew ?_ | refine blk_alloc ?_ _)); refine blk_put (cs := #[.string ((⟨#[108]⟩ : ByteArray) ++ ((⟨#[97, 98, 99, 100, 101, 102, 103, 104, 105, 106, 107, 108]⟩ : ByteArray).extract (x7_1 : Int).toNat ((wrap64 (x7_1 + 1)) : Int).toNat)), .int .i64 (wrap64 (x7_1 - 1)), .int .i64 0, .slice Ao61 y281.length co61, .slice none 0 0, .slice none 0 0]) ?_ 4 _ rfl; (with_reducible repeat (first | refine blk_drewN ?_ _ | refine blk_drew ?_ | refine blk_alloc ?_ _)); refine blk_put (cs := #[.string ((⟨#[108]⟩ : ByteArray) ++ ((⟨#[97, 98, 99, 100, 101, 102, 103, 104, 105, 106, 107, 108]⟩ : ByteArray).extract (x7_1 : Int).toNat ((wrap64 (x7_1 + 1)) : Int).toNat)), .int .i64 (wrap64 (x7_1 - 1)), .int .i64 0, .slice none 0 0, .slice none 0 0, .slice none 0 0]) ?_ 3 _ rfl; (with_reducible repeat (first | refine blk_drewN ?_ _ | refine blk_drew ?_ | refine blk_alloc ?_ _)); refine blk_put (cs := #[.string ((⟨#[108]⟩ : ByteArray) ++ ((⟨#[97, 98, 99, 100, 101, 102, 103, 104, 105, 106, 107, 108]⟩ : ByteArray).extract (x7_1 : Int).toNat ((wrap64 (x7_1 + 1)) : Int).toNat)), .int .i64 (wrap64 (x7_1 - 1)), .int .i64 0, .slice none 0 0, .slice none 0 0, .slice none 0 0]) ?_ 2 _ rfl; (with_reducible repeat (first | refine blk_drewN ?_ _ | refine blk_drew ?_ | refine blk_alloc ?_ _)); refine blk_put (cs := #[.string ((⟨#[108]⟩ : ByteArray) ++ ((⟨#[97, 98, 99, 100, 101, 102, 103, 104, 105, 106, 107, 108]⟩ : ByteArray).extract (x7_1 : Int).toNat ((wrap64 (x7_1 + 1)) : Int).toNat)), .int .i64 0, .int .i64 0, .slice none 0 0, .slice none 0 0, .slice none 0 0]) ?_ 1 _ rfl; (with_reducible repeat (first | refine blk_drewN ?_ _ | refine blk_drew ?_ | refine blk_alloc ?_ _)); refine blk_put (cs := #[.string (⟨#[]⟩ : ByteArray), .int .i64 0, .int .i64 0, .slice none 0 0, .slice none 0 0, .slice none 0 0]) ?_ 0 _ rfl; (with_reducible repeat (first | refine blk_drewN ?_ _ | refine blk_drew ?_ | refine blk_alloc ?_ _)); exact BK284.out⟩
           have n3_ : Aside0 (Below w.heap.size w ((((((w60.setCell ⟨gb284, 0, none⟩ (.string ((⟨#[108]⟩ : ByteArray) ++ ((⟨#[97, 98, 99, 100, 101, 102, 103, 104, 105, 106, 107, 108]⟩ : ByteArray).extract (x7_1 : Int).toNat ((wrap64 (x7_1 + 1)) : Int).toNat)))).setCell ⟨gb284, 1, none⟩ (.int .i64 (wrap64 (x7_1 - 1)))).setCell ⟨gb284, 2, none⟩ (.int .i64 0)).setCell ⟨gb284, 3, none⟩ (.slice Ao61 y281.length co61)).setCell ⟨gb284, 4, none⟩ (.slice none 0 0)).setCell ⟨gb284, 5, none⟩ (.slice none 0 0))) := ⟨by repeat (first | (with_reducible first | exact HB.out | apply below_alloc | apply pw_below_drewN | apply below_drew1 | refine below_set ?_ GE284.out) | exact HB.out)⟩
           (try clear HO_6)
           (try clear HO283)
           (try clear BK284)
           (try clear HB)
           generalize ((((((w60.setCell ⟨gb284, 0, none⟩ (.string ((⟨#[108]⟩ : ByteArray) ++ ((⟨#[97, 98, 99, 100, 101, 102, 103, 104, 105, 106, 107, 108]⟩ : ByteArray).extract (x7_1 : Int).toNat ((wrap64 (x7_1 + 1)) : Int).toNat)))).setCell ⟨gb284, 1, none⟩ (.int .i64 (wrap64 (x7_1 - 1)))).setCell ⟨gb284, 2, none⟩ (.int .i64 0)).setCell ⟨gb284, 3, none⟩ (.slice Ao61 y281.length co61)).setCell ⟨gb284, 4, none⟩ (.slice none 0 0)).setCell ⟨gb284, 5, none⟩ (.slice none 0 0)) = w68 at n0_ n1_ n2_ n3_ ⊢
           have HO_6 := n0_
           have HO283 := n1_
           have BK284 := n2_
           have HB := n3_
           clear n0_ n1_ n2_ n3_
           have hcz69_0 : w68.cell? ⟨gb284, 0, none⟩ = some (.string ((⟨#[108]⟩ : ByteArray) ++ ((⟨#[97, 98, 99, 100, 101, 102, 103, 104, 105, 106, 107, 108]⟩ : ByteArray).extract (x7_1 : Int).toNat ((wrap64 (x7_1 + 1)) : Int).toNat))) := (blk_cell BK284.out 0).trans rfl
           have hcz69_1 : w68.cell? ⟨gb284, 1, none⟩ = some (.int .i64 (wrap64 (x7_1 - 1))) := (blk_cell BK284.out 1).trans rfl
           have hcz69_2 : w68.cell? ⟨gb284, 2, none⟩ = some (.int .i64 0) := (blk_cell BK284.out 2).trans rfl
           have hcz69_3 : w68.cell? ⟨gb284, 3, none⟩ = some (.slice Ao61 y281.length co61) := (blk_cell BK284.out 3).trans rfl
           have hcz69_4 : w68.cell? ⟨gb284, 4, none⟩ = some (.slice none 0 0) := (blk_cell BK284.out 4).trans rfl
           have hcz69_5 : w68.cell? ⟨gb284, 5, none⟩ = some (.slice none 0 0) := (blk_cell BK284.out 5).trans rfl
           have hfz69_0 := blk_frozen BK284.out 0
           have hfz69_1 := blk_frozen BK284.out 1
           have hfz69_2 := blk_frozen BK284.out 2
           have hfz69_3 := blk_frozen BK284.out 3
           have hfz69_4 := blk_frozen BK284.out 4
           have hfz69_5 := blk_frozen BK284.out 5
           try go_wp2_with (first | ((with_reducible refine gate_builtin (b := .append) (xs := #[.tmp 48, .tmp 50]) rfl ?_); (try (refine gate_guard (by rfl) ?_; dsimp only)); at_builtin; refine Kd.R_append k44 (w0 := w) w.heap.size rfl (.tmp 48) (.tmp 50) 26 44 (.agg #[(.string ⟨#[]⟩), (.int .i64 0), (.int .i64 0), (.slice none 0 0), (.slice none 0 0), (.slice none 0 0)]) 104 rfl Tryz.underlying26 info44 rfl (by decide) (by omega) u6 x6_1 (⟨(⟨#[108]⟩ : ByteArray) ++ ((⟨#[97, 98, 99, 100, 101, 102, 103, 104, 105, 106, 107, 108]⟩ : ByteArray).extract (x7_1 : Int).toNat ((wrap64 (x7_1 + 1)) : Int).toNat), wrap64 (x7_1 - 1), 0, y281, ([] : List (S56)), ([] : List (S52))⟩ : S44) [.string ((⟨#[108]⟩ : ByteArray) ++ ((⟨#[97, 98, 99, 100, 101, 102, 103, 104, 105, 106, 107, 108]⟩ : ByteArray).extract (x7_1 : Int).toNat ((wrap64 (x7_1 + 1)) : Int).toNat)), .int .i64 (wrap64 (x7_1 - 1)), .int .i64 0, .slice Ao61 y281.length co61, .slice none 0 0, .slice none 0 0] (fun k_ => k_ ≠ gb284) (fun k_ => ((fun k_ => k_ ≠ gb284)) k_ ∧ some k_ ≠ (u6 : Value).ownBlock) rfl rfl ?aP (fun _ hk => hk) ?aF ?aO ?aB ?aS ?aL ?_; (case aP => exact k44_mkM _ _ _ (⟨(⟨#[108]⟩ : ByteArray) ++ ((⟨#[97, 98, 99, 100, 101, 102, 103, 104, 105, 106, 107, 108]⟩ : ByteArray).extract (x7_1 : Int).toNat ((wrap64 (x7_1 + 1)) : Int).toNat), wrap64 (x7_1 - 1), 0, y281, ([] : List (S56)), ([] : List (S52))⟩ : S44) (Kd.R_mono (Kd.R_types (Kd.R_apart' (HO283.out) (Kd.R_typed HO_6.out) (by decide)) BK284.out (by decide)) (fun k_ hk => ⟨hk.2, hk.1.2⟩)) (Kd.R_nil _ _ _ _ _) (Kd.R_nil _ _ _ _ _)); (case aB => exact (by repeat (first | (with_reducible first | exact HB.out | apply below_alloc | apply pw_below_drewN | apply below_drew1 | refine below_set ?_ GE284.out) | exact HB.out))); (case aF => exact (fun k_ hk => Kd.freshB (g := gb284) (o := .cells #[.string ((⟨#[108]⟩ : ByteArray) ++ ((⟨#[97, 98, 99, 100, 101, 102, 103, 104, 105, 106, 107, 108]⟩ : ByteArray).extract (x7_1 : Int).toNat ((wrap64 (x7_1 + 1)) : Int).toNat)), .int .i64 (wrap64 (x7_1 - 1)), .int .i64 0, .slice Ao61 y281.length co61, .slice none 0 0, .slice none 0 0] 44 (0, 0)) (by (with_reducible repeat (first | refine blk_drewN ?_ _ | refine blk_drew ?_ | refine blk_alloc ?_ _)); exact BK284.out) k_ hk)); (case aO => exact (by (with_reducible repeat (first | apply Kd.R_alloc | apply Kd.R_drewN | apply Kd.R_drew)); (first | exact Kd.R_mono HO_6.out (fun _ hk => hk.2) | exact HO_6.out))); (case aS => exact (below_size (by repeat (first | (with_reducible first | exact HB.out | apply below_alloc | apply pw_below_drewN | apply below_drew1 | refine below_set ?_ GE284.out) | exact HB.out)))); (case aL => have := LMc54.out; omega); intro v293 w70 ho hb hg hat; rw [← Ny292.out] at ho; have n0_ := Aside0.mk (blk_grown (g := gb284) (o := .cells #[.string ((⟨#[108]⟩ : ByteArray) ++ ((⟨#[97, 98, 99, 100, 101, 102, 103, 104, 105, 106, 107, 108]⟩ : ByteArray).extract (x7_1 : Int).toNat ((wrap64 (x7_1 + 1)) : Int).toNat)), .int .i64 (wrap64 (x7_1 - 1)), .int .i64 0, .slice Ao61 y281.length co61, .slice none 0 0, .slice none 0 0] 44 (0, 0)) (by (with_reducible repeat (first | refine blk_drewN ?_ _ | refine blk_drew ?_ | refine blk_alloc ?_ _)); exact BK284.out) hg (Kd.R_away HO_6.out (fun _ hk => hk.2))); have n1_ := Aside0.mk (hb); have n2_ := Aside0.mk (ho); clear BK284; clear HB; clear HO_6; clear HO283; have BK284 := n0_; have HB := n1_; have HO294 := n2_; clear n0_ n1_ n2_; clear ho hb hg hat))
           go_roundg k1
           case measure => have := HK1.out; omega
           case rel => exact ⟨(y292), (wrap64 (x7_1 + 1)), (by first | rfl | (simp; done) | (simp [*]; done)), H', ⟨by have := HK1.out; omega⟩, ⟨by (with_reducible repeat (first | apply Kd.R_alloc | apply Kd.R_drewN | apply Kd.R_drew)); exact Kd.R_mono HO294.out (fun _ hk => trivial)⟩, ⟨by repeat (first | (with_reducible first | exact HB.out | apply below_alloc | apply pw_below_drewN | apply below_drew1 | refine below_set ?_ GE284.out) | exact HB.out)⟩⟩
          ·rw [if_neg c54] at H
           exact absurd H (by simp)
        ·rw [if_neg c11] at H
         exact absurd H (by simp)
       ·rw [if_neg c10] at H
        exact absurd H (by simp)
      ·rw [if_neg c9] at H
       exact absurd H (by simp)
     ·rw [if_neg c8] at H
      exact absurd H (by simp)
    ·rw [if_neg c7] at H
     have c7b0 : decide (x7_1 < (wrap64 (1 + t280))) = false := decide_eq_false c7
     clear c7
     replace H := Option.bind_eq_some_iff.mp H
     obtain ⟨t295, A710, H⟩ := H
     replace H : (if (t295 != (decide ((wrap64 (1 + t280)) ≤ 10))) = true then (some false) else (if (wrap64 (1 + t280)) > 10 then (some true) else (if 0 ≤ (wrap64 ((wrap64 (1 + t280)) - 1)) then (if (wrap64 ((wrap64 (1 + t280)) - 1)) < (x6_1.length : Int) then ((blob_Resolve.f x6_1 ((rd_T44 x6_1 (wrap64 ((wrap64 (1 + t280)) - 1))).f0)).bind fun bt297 => (if bt297.2.2.2.2.2.2 = true then (l5_BlobParents.j1 k1 a1 (wrap64 (1 + t280)) ((bt297.2.2.2.1.length : Int) == 0) bt297.1 bt297.2.1 bt297.2.2.1 bt297.2.2.2.1 bt297.2.2.2.2.1 bt297.2.2.2.2.2.1) else (l5_BlobParents.j1 k1 a1 (wrap64 (1 + t280)) true bt297.1 bt297.2.1 bt297.2.2.1 bt297.2.2.2.1 bt297.2.2.2.2.1 bt297.2.2.2.2.2.1))) else (none)) else (none)))) = some r := H
     have A71 := Aside0.mk A710
     clear A710
     by_cases c72 : (t295 != (decide ((wrap64 (1 + t280)) ≤ 10))) = true
     ·rw [if_pos c72] at H
      have c72b0 : (t295 != (decide ((wrap64 (1 + t280)) ≤ 10))) = true := c72
      (try (have c72b1 : decide (t295 = (decide ((wrap64 (1 + t280)) ≤ 10))) = false := by simpa using c72))
      (try (have c72b2 : (t295 == (decide ((wrap64 (1 + t280)) ≤ 10))) = false := by simpa using c72))
      (try (have c72b3 : ¬ (t295 = (decide ((wrap64 (1 + t280)) ≤ 10))) := by simpa using c72))
      clear c72
      obtain rfl := Option.some.inj H
      obtain ⟨Ao73, co73, eo73⟩ := Kd.R_slice HO_6.out
      subst eo73
      go_wp2_with (first | ((with_reducible refine gate_callee (f := 16) rfl ?_); refine goesL_ (some 53) rfl rfl Tryz.func16 (by kernel_rfl) rfl #[.slice Ao73 x6_1.length co73] rfl (by (try simp only [List.map_toArray, List.map_cons, List.map_nil]); first | done | rfl | (simp only [List.length_drop, List.length_take]; rfl)) ?_; (with_reducible refine (blob_Right.calls _ _ x6_1 t295 _ ?side1 ?side2 A71.out).mono ?_); (case side1 => repeat (first | exact (Kd.R_reads' HO_6.out).2.2 | (with_reducible refine Kd.C_alloc ?_ _) | (with_reducible refine Kd.C_drewN ?_ _) | (with_reducible refine Kd.C_drew ?_))); (case side2 => exact (Kd.R_reads' HO_6.out).2.1); rintro e w74 ⟨rfl, hb⟩; refine ⟨_, rfl, ?_⟩; have n0_ := Aside0.mk (Kd.R_below (by (with_reducible repeat (first | apply Kd.R_alloc | apply Kd.R_drewN | apply Kd.R_drew)); exact HO_6.out) hb); have n1_ := Aside0.mk (below_step (by repeat (first | (with_reducible first | exact HB.out | apply below_alloc | apply pw_below_drewN | apply below_drew1) | exact HB.out)) hb); clear HO_6; clear HB; have HO_6 := n0_; have HB := n1_; clear n0_ n1_; (try clear hb); (try clear hb2); (try clear hk); (try clear hi)))
      go_ret
      exact ⟨by first | rfl | (simp [errW_none, errW_some] <;> rfl) | (simp [*, errW_none, errW_some] <;> rfl), by repeat (first | (with_reducible first | exact HB.out | apply below_alloc | apply pw_below_drewN | apply below_drew1) | exact HB.out)⟩
     ·rw [if_neg c72] at H
      have c72b0 : (t295 != (decide ((wrap64 (1 + t280)) ≤ 10))) = false := by simpa using c72
      (try (have c72b1 : decide (t295 = (decide ((wrap64 (1 + t280)) ≤ 10))) = true := by simpa using c72))
      (try (have c72b2 : (t295 == (decide ((wrap64 (1 + t280)) ≤ 10))) = true := by simpa using c72))
      clear c72
      by_cases c75 : (wrap64 (1 + t280)) > 10
      ·rw [if_pos c75] at H
       have c75b0 : decide (10 < (wrap64 (1 + t280))) = true := decide_eq_true c75
       clear c75
       obtain rfl := Option.some.inj H
       obtain ⟨Ao76, co76, eo76⟩ := Kd.R_slice HO_6.out
       subst eo76
       go_wp2_with (first | ((with_reducible refine gate_callee (f := 16) rfl ?_); refine goesL_ (some 53) rfl rfl Tryz.func16 (by kernel_rfl) rfl #[.slice Ao76 x6_1.length co76] rfl (by (try simp only [List.map_toArray, List.map_cons, List.map_nil]); first | done | rfl | (simp only [List.length_drop, List.length_take]; rfl)) ?_; (with_reducible refine (blob_Right.calls _ _ x6_1 t295 _ ?side1 ?side2 A71.out).mono ?_); (case side1 => repeat (first | exact (Kd.R_reads' HO_6.out).2.2 | (with_reducible refine Kd.C_alloc ?_ _) | (with_reducible refine Kd.C_drewN ?_ _) | (with_reducible refine Kd.C_drew ?_))); (case side2 => exact (Kd.R_reads' HO_6.out).2.1); rintro e w77 ⟨rfl, hb⟩; refine ⟨_, rfl, ?_⟩; have n0_ := Aside0.mk (Kd.R_below (by (with_reducible repeat (first | apply Kd.R_alloc | apply Kd.R_drewN | apply Kd.R_drew)); exact HO_6.out) hb); have n1_ := Aside0.mk (below_step (by repeat (first | (with_reducible first | exact HB.out | apply below_alloc | apply pw_below_drewN | apply below_drew1) | exact HB.out)) hb); clear HO_6; clear HB; have HO_6 := n0_; have HB := n1_; clear n0_ n1_; (try clear hb); (try clear hb2); (try clear hk); (try clear hi)))
       go_ret
       exact ⟨by first | rfl | (simp [errW_none, errW_some] <;> rfl) | (simp [*, errW_none, errW_some] <;> rfl), by repeat (first | (with_reducible first | exact HB.out | apply below_alloc | apply pw_below_drewN | apply below_drew1) | exact HB.out)⟩
      ·rw [if_neg c75] at H
       have c75b0 : decide (10 < (wrap64 (1 + t280))) = false := decide_eq_false c75
       clear c75
       obtain ⟨ji78, hji78⟩ : ∃ j_ : Int, (wrap64 ((wrap64 (1 + t280)) - 1)) = j_ := ⟨_, rfl⟩
       replace H : (if 0 ≤ (ji78) then (if (ji78) < (x6_1.length : Int) then ((blob_Resolve.f x6_1 ((rd_T44 x6_1 (ji78)).f0)).bind fun bt297 => (if bt297.2.2.2.2.2.2 = true then (l5_BlobParents.j1 k1 a1 (wrap64 (1 + t280)) ((bt297.2.2.2.1.length : Int) == 0) bt297.1 bt297.2.1 bt297.2.2.1 bt297.2.2.2.1 bt297.2.2.2.2.1 bt297.2.2.2.2.2.1) else (l5_BlobParents.j1 k1 a1 (wrap64 (1 + t280)) true bt297.1 bt297.2.1 bt297.2.2.1 bt297.2.2.2.1 bt297.2.2.2.2.1 bt297.2.2.2.2.2.1))) else (none)) else (none)) = some r := by first | (rw [hji78] at H; exact H) | (simp only [hji78] at H ⊢; exact H)
       (try rw [hji78] at A71)
       have hji78w : (IntKind.i64.wrap ((wrap64 (1 + t280)) - 1)) = ji78 := (i64_w _).trans hji78
       by_cases c79 : 0 ≤ (ji78)
       ·rw [if_pos c79] at H
        have c79b0 : decide (0 ≤ (ji78)) = true := decide_eq_true c79
        clear c79
        by_cases c80 : (ji78) < (x6_1.length : Int)
        ·rw [if_pos c80] at H
         have c80b0 : decide ((ji78) < (x6_1.length : Int)) = true := decide_eq_true c80
         clear c80
         replace H := Option.bind_eq_some_iff.mp H
         obtain ⟨⟨t297, t298, t299, t300, t303, t306, t309⟩, A810, H⟩ := H
         replace H : (if t309 = true then (l5_BlobParents.j1 k1 a1 (wrap64 (1 + t280)) ((t300.length : Int) == 0) t297 t298 t299 t300 t303 t306) else (l5_BlobParents.j1 k1 a1 (wrap64 (1 + t280)) true t297 t298 t299 t300 t303 t306)) = some r := H
         have A81 := Aside0.mk A810
         clear A810
         have HC82 := Aside0.mk H
         clear H
         obtain ⟨Ao83, co83, eo83⟩ := Kd.R_slice HO_6.out
         subst eo83
         go_upto_region 17 with (first | ((with_reducible refine gate_callee (f := 16) rfl ?_); refine goesL_ (some 53) rfl rfl Tryz.func16 (by kernel_rfl) rfl #[.slice Ao83 x6_1.length co83] rfl (by (try simp only [List.map_toArray, List.map_cons, List.map_nil]); first | done | rfl | (simp only [List.length_drop, List.length_take]; rfl)) ?_; (with_reducible refine (blob_Right.calls _ _ x6_1 t295 _ ?side1 ?side2 A71.out).mono ?_); (case side1 => repeat (first | exact (Kd.R_reads' HO_6.out).2.2 | (with_reducible refine Kd.C_alloc ?_ _) | (with_reducible refine Kd.C_drewN ?_ _) | (with_reducible refine Kd.C_drew ?_))); (case side2 => exact (Kd.R_reads' HO_6.out).2.1); rintro e w84 ⟨rfl, hb⟩; refine ⟨_, rfl, ?_⟩; have n0_ := Aside0.mk (Kd.R_below (by (with_reducible repeat (first | apply Kd.R_alloc | apply Kd.R_drewN | apply Kd.R_drew)); exact HO_6.out) hb); have n1_ := Aside0.mk (below_step (by repeat (first | (with_reducible first | exact HB.out | apply below_alloc | apply pw_below_drewN | apply below_drew1) | exact HB.out)) hb); clear HO_6; clear HB; have HO_6 := n0_; have HB := n1_; clear n0_ n1_; (try clear hb); (try clear hb2); (try clear hk); (try clear hi); have p296 : 0 ≤ ((ji78) : Int) := of_decide_eq_true (by first | (with_reducible assumption) | assumption); have q296 : (ji78) < (x6_1.length : Int) := of_decide_eq_true (by first | (with_reducible assumption) | assumption); obtain ⟨ad296, A296_3, c296_3, A296_4, c296_4, A296_5, c296_5, e296, hx296_0, hx296_1, hx296_2, hx296_3, hx296_4, hx296_5, hl296_3, hi296_3, hl296_4, hi296_4, hl296_5, hi296_5⟩ := at_T44 (Kd.R_reads' HO_6.out).2.2 (ji78) p296 q296; cases e296; obtain ⟨ce296, hce296, hMe296, hcc296⟩ := Kd.R_get HO_6.out z44 (ji78) p296 (by first | exact q296 | exact of_decide_eq_true (by first | (with_reducible assumption) | assumption) | (have e_ := (Kd.R_reads' HO_6.out).1; omega)); obtain ⟨ve296_3, ve296_4, ve296_5, rfl, ge296_3, ge296_4, ge296_5⟩ := k44_openM hMe296; have hv296_3 := hcc296 3 _ rfl; rw [add_field _ _ 3 (by omega)] at hv296_3; replace hv296_3 := Option.some.inj (hv296_3.symm.trans hx296_3); rw [hv296_3] at ge296_3; have HL296_3 := Aside0.mk (show Kd.R k46 46 _ _ _ _ ((rd_T44 x6_1 (ji78)).f3) from ge296_3); clear hv296_3 ge296_3; have hv296_4 := hcc296 4 _ rfl; rw [add_field _ _ 4 (by omega)] at hv296_4; replace hv296_4 := Option.some.inj (hv296_4.symm.trans hx296_4); rw [hv296_4] at ge296_4; have HL296_4 := Aside0.mk (show Kd.R k56 56 _ _ _ _ ((rd_T44 x6_1 (ji78)).f4) from ge296_4); clear hv296_4 ge296_4; have hv296_5 := hcc296 5 _ rfl; rw [add_field _ _ 5 (by omega)] at hv296_5; replace hv296_5 := Option.some.inj (hv296_5.symm.trans hx296_5); rw [hv296_5] at ge296_5; have HL296_5 := Aside0.mk (show Kd.R k52 52 _ _ _ _ ((rd_T44 x6_1 (ji78)).f5) from ge296_5); clear hv296_5 ge296_5; clear hcc296 hce296; have HR296_3 := Aside0.mk hi296_3; have HC296_3 := Aside0.mk hl296_3; clear hi296_3 hl296_3; have HR296_4 := Aside0.mk hi296_4; have HC296_4 := Aside0.mk hl296_4; clear hi296_4 hl296_4; have HR296_5 := Aside0.mk hi296_5; have HC296_5 := Aside0.mk hl296_5; clear hi296_5 hl296_5; replace p296 := eq_true p296; replace q296 := eq_true q296) | ((with_reducible refine gate_callee (f := 23) rfl ?_); refine goesL_ (some 67) rfl rfl Tryz.func23 (by kernel_rfl) rfl #[.slice (some ad296) x6_1.length co83, .string ((rd_T44 x6_1 (ji78)).f0)] rfl (by (try simp only [List.map_toArray, List.map_cons, List.map_nil]); first | done | (simp only [hji78]; rfl) | rfl | (simp only [List.length_drop, List.length_take]; rfl)) ?_; (with_reducible refine (blob_Resolve.calls _ _ x6_1 ((rd_T44 x6_1 (ji78)).f0) t297 t298 t299 t300 t303 t306 t309 _ ?side1 ?side2 A81.out).mono ?_); (case side1 => repeat (first | exact (Kd.R_reads' HO_6.out).2.2 | (with_reducible refine Kd.C_alloc ?_ _) | (with_reducible refine Kd.C_drewN ?_ _) | (with_reducible refine Kd.C_drew ?_))); (case side2 => exact (Kd.R_reads' HO_6.out).2.1); rintro e w85 ⟨v301, v304, v307, rfl, ho0, ho1, ho2, hb⟩; refine ⟨_, rfl, ?_⟩; have n0_ := Aside0.mk (Kd.R_mono (Kd.R_told (Kd.R_told (Kd.R_told (Kd.R_old (by (with_reducible repeat (first | apply Kd.R_alloc | apply Kd.R_drewN | apply Kd.R_drew)); exact HO_6.out) hb) (Kd.R_base ho0)) (Kd.S_base ho1)) (Kd.S_base ho2)) (fun _ h_ => h_.1)); have n1_ := Aside0.mk (Kd.R_elder' (by (with_reducible repeat (first | apply Kd.R_alloc | apply Kd.R_drewN | apply Kd.R_drew)); exact HL296_3.out) (Kd.R_base ho0) hb); have n2_ := Aside0.mk (Kd.R_elder' (by (with_reducible repeat (first | apply Kd.R_alloc | apply Kd.R_drewN | apply Kd.R_drew)); exact HL296_4.out) (Kd.S_base ho1) hb); have n3_ := Aside0.mk (Kd.R_elder' (by (with_reducible repeat (first | apply Kd.R_alloc | apply Kd.R_drewN | apply Kd.R_drew)); exact HL296_5.out) (Kd.S_base ho2) hb); have n4_ := Aside0.mk (Kd.R_lower (Kd.R_new' ho0 (Kd.R_lt (by (with_reducible repeat (first | apply Kd.R_alloc | apply Kd.R_drewN | apply Kd.R_drew)); exact HL296_3.out))) (below_size (by repeat (first | (with_reducible first | exact HB.out | apply below_alloc | apply pw_below_drewN | apply below_drew1) | exact HB.out)))); have n5_ := Aside0.mk (Kd.S_lower (Kd.S_new' ho1 (Kd.R_lt (by (with_reducible repeat (first | apply Kd.R_alloc | apply Kd.R_drewN | apply Kd.R_drew)); exact HL296_4.out))) (below_size (by repeat (first | (with_reducible first | exact HB.out | apply below_alloc | apply pw_below_drewN | apply below_drew1) | exact HB.out)))); have n6_ := Aside0.mk (Kd.S_lower (Kd.S_new' ho2 (Kd.R_lt (by (with_reducible repeat (first | apply Kd.R_alloc | apply Kd.R_drewN | apply Kd.R_drew)); exact HL296_5.out))) (below_size (by repeat (first | (with_reducible first | exact HB.out | apply below_alloc | apply pw_below_drewN | apply below_drew1) | exact HB.out)))); have n7_ := Aside0.mk (Kd.C_below (by repeat (first | (with_reducible exact HR296_3.out) | (with_reducible refine Kd.C_alloc ?_ _) | (with_reducible refine Kd.C_drewN ?_ _) | (with_reducible refine Kd.C_drew ?_) | exact HR296_3.out)) hb); have n8_ := Aside0.mk (Kd.C_below (by repeat (first | (with_reducible exact HR296_4.out) | (with_reducible refine Kd.C_alloc ?_ _) | (with_reducible refine Kd.C_drewN ?_ _) | (with_reducible refine Kd.C_drew ?_) | exact HR296_4.out)) hb); have n9_ := Aside0.mk (Kd.C_below (by repeat (first | (with_reducible exact HR296_5.out) | (with_reducible refine Kd.C_alloc ?_ _) | (with_reducible refine Kd.C_drewN ?_ _) | (with_reducible refine Kd.C_drew ?_) | exact HR296_5.out)) hb); have n10_ := Aside0.mk (below_step (by repeat (first | (with_reducible first | exact HB.out | apply below_alloc | apply pw_below_drewN | apply below_drew1) | exact HB.out)) hb); clear HO_6; clear HL296_3; clear HL296_4; clear HL296_5; clear HR296_3; clear HR296_4; clear HR296_5; clear HB; have HO_6 := n0_; have HL296_3 := n1_; have HL296_4 := n2_; have HL296_5 := n3_; have HO302 := n4_; have HO305 := n5_; have HO308 := n6_; have HR296_3 := n7_; have HR296_4 := n8_; have HR296_5 := n9_; have HB := n10_; clear n0_ n1_ n2_ n3_ n4_ n5_ n6_ n7_ n8_ n9_ n10_; (try clear hb); (try clear hb2); (try clear hk); (try clear hi); (try clear ho0); (try clear ho1); (try clear ho2)) | ((with_reducible refine gate_dst (N := 9) rfl ?_); (try (refine gate_guard (by rfl) ?_; dsimp only)); refine box_event ?hg (N := 9) ?hd (cs := #[.string (⟨#[]⟩ : ByteArray), .int .i64 0, .int .i64 0, .slice none 0 0, .slice none 0 0, .slice none 0 0]) (t := 44) ?hr ?_; (case hd => rfl); (case hg => rfl); (case hr => first | (go_simp; done) | (go_simp; rfl)); intro gb310 hg w86 hbox hb; have n0_ := Aside0.mk (Kd.R_below (Kd.R_elderB (by (with_reducible repeat (first | apply Kd.R_alloc | apply Kd.R_drewN | apply Kd.R_drew)); exact HO_6.out) gb310 (Nat.le_of_eq hg.symm)) hb); have n1_ := Aside0.mk (Kd.R_below (by (with_reducible repeat (first | apply Kd.R_alloc | apply Kd.R_drewN | apply Kd.R_drew)); exact HL296_3.out) hb); have n2_ := Aside0.mk (Kd.R_below (by (with_reducible repeat (first | apply Kd.R_alloc | apply Kd.R_drewN | apply Kd.R_drew)); exact HL296_4.out) hb); have n3_ := Aside0.mk (Kd.R_below (by (with_reducible repeat (first | apply Kd.R_alloc | apply Kd.R_drewN | apply Kd.R_drew)); exact HL296_5.out) hb); have n4_ := Aside0.mk (Kd.R_below (by (with_reducible repeat (first | apply Kd.R_alloc | apply Kd.R_drewN | apply Kd.R_drew)); exact HO302.out) hb); have n5_ := Aside0.mk (Kd.S_below (by (with_reducible repeat (first | apply Kd.S_alloc | apply Kd.S_drewN | apply Kd.S_drew)); exact HO305.out) hb); have n6_ := Aside0.mk (Kd.S_below (by (with_reducible repeat (first | apply Kd.S_alloc | apply Kd.S_drewN | apply Kd.S_drew)); exact HO308.out) hb); have n7_ := Aside0.mk (Kd.C_below (by repeat (first | (with_reducible exact HR296_3.out) | (with_reducible refine Kd.C_alloc ?_ _) | (with_reducible refine Kd.C_drewN ?_ _) | (with_reducible refine Kd.C_drew ?_) | exact HR296_3.out)) hb); have n8_ := Aside0.mk (Kd.C_below (by repeat (first | (with_reducible exact HR296_4.out) | (with_reducible refine Kd.C_alloc ?_ _) | (with_reducible refine Kd.C_drewN ?_ _) | (with_reducible refine Kd.C_drew ?_) | exact HR296_4.out)) hb); have n9_ := Aside0.mk (Kd.C_below (by repeat (first | (with_reducible exact HR296_5.out) | (with_reducible refine Kd.C_alloc ?_ _) | (with_reducible refine Kd.C_drewN ?_ _) | (with_reducible refine Kd.C_drew ?_) | exact HR296_5.out)) hb); have n10_ := Aside0.mk (below_step (by repeat (first | (with_reducible first | exact HB.out | apply below_alloc | apply pw_below_drewN | apply below_drew1) | exact HB.out)) hb); have n11_ := Aside0.mk (hbox); have n12_ := Aside0.mk ((by rw [hg]; exact (below_size (by repeat (first | (with_reducible first | exact HB.out | apply below_alloc | apply pw_below_drewN | apply below_drew1) | exact HB.out))) : w.heap.size ≤ gb310)); have n13_ := Aside0.mk ((by rw [hg]; exact (below_size (by repeat (first | (with_reducible first | exact HB.out | apply below_alloc | apply pw_below_drewN | apply below_drew1) | exact HB.out))) : w.heap.size ≤ gb310)); clear HO_6; clear HL296_3; clear HL296_4; clear HL296_5; clear HO302; clear HO305; clear HO308; clear HR296_3; clear HR296_4; clear HR296_5; clear HB; have HO_6 := n0_; have HL296_3 := n1_; have HL296_4 := n2_; have HL296_5 := n3_; have HO302 := n4_; have HO305 := n5_; have HO308 := n6_; have HR296_3 := n7_; have HR296_4 := n8_; have HR296_5 := n9_; have HB := n10_; have BK310 := n11_; have GW310 := n12_; have GE310 := n13_; clear n0_ n1_ n2_ n3_ n4_ n5_ n6_ n7_ n8_ n9_ n10_ n11_ n12_ n13_; clear hb hbox hg; have hcz87_0 : w86.cell? ⟨gb310, 0, none⟩ = some (.string (⟨#[]⟩ : ByteArray)) := (blk_cell BK310.out 0).trans rfl; have hcz87_1 : w86.cell? ⟨gb310, 1, none⟩ = some (.int .i64 0) := (blk_cell BK310.out 1).trans rfl; have hcz87_2 : w86.cell? ⟨gb310, 2, none⟩ = some (.int .i64 0) := (blk_cell BK310.out 2).trans rfl; have hcz87_3 : w86.cell? ⟨gb310, 3, none⟩ = some (.slice none 0 0) := (blk_cell BK310.out 3).trans rfl; have hcz87_4 : w86.cell? ⟨gb310, 4, none⟩ = some (.slice none 0 0) := (blk_cell BK310.out 4).trans rfl; have hcz87_5 : w86.cell? ⟨gb310, 5, none⟩ = some (.slice none 0 0) := (blk_cell BK310.out 5).trans rfl; have hfz87_0 := blk_frozen BK310.out 0; have hfz87_1 := blk_frozen BK310.out 1; have hfz87_2 := blk_frozen BK310.out 2; have hfz87_3 := blk_frozen BK310.out 3; have hfz87_4 := blk_frozen BK310.out 4; have hfz87_5 := blk_frozen BK310.out 5; obtain ⟨Ao88, co88, eo88⟩ := Kd.R_slice HO302.out; subst eo88; obtain ⟨Ao89, co89, eo89⟩ := Kd.S_slice HO305.out; subst eo89; obtain ⟨Ao90, co90, eo90⟩ := Kd.S_slice HO308.out; subst eo90))
         (try simp only [Act.put, List.setIfInBounds_toArray, List.set_cons_zero, List.set_cons_succ])
         go_cut [77] (fun v77 wc => ∃ (kq : Nat) (x77_81 : Bool), v77 = .bool x77_81 ∧ Aside0 (l5_BlobParents.j1 kq a1 (wrap64 (1 + t280)) x77_81 t297 t298 t299 t300 t303 t306 = some r) ∧ Aside0 (kq ≤ k1) ∧ Aside0 (Kd.R k46 46 wc w.heap.size (fun _ => True) (.slice Ao88 t300.length co88) t300) ∧ Aside0 (Kd.S k56 56 wc w.heap.size (fun _ => True) (.slice Ao89 t303.length co89) t303) ∧ Aside0 (Kd.S k52 52 wc w.heap.size (fun _ => True) (.slice Ao90 t306.length co90) t306) ∧ Aside0 (wc.heap[gb310]? = some (.cells #[.string t297, .int .i64 t298, .int .i64 t299, (.slice Ao88 t300.length co88), (.slice Ao89 t303.length co89), (.slice Ao90 t306.length co90)] 44 (0, 0))) ∧ Aside0 (Kd.C k46 wc A296_3 ((rd_T44 x6_1 (ji78)).f3).length ((rd_T44 x6_1 (ji78)).f3)) ∧ Aside0 (Kd.C k56 wc A296_4 ((rd_T44 x6_1 (ji78)).f4).length ((rd_T44 x6_1 (ji78)).f4)) ∧ Aside0 (Kd.C k52 wc A296_5 ((rd_T44 x6_1 (ji78)).f5).length ((rd_T44 x6_1 (ji78)).f5)) ∧ Aside0 (Below w.heap.size w wc))
         case first =>
          have H := HC82.out
          clear HC82
          by_cases c91 : t309 = true
          ·subst c91
           have H1 : (l5_BlobParents.j1 k1 a1 (wrap64 (1 + t280)) ((t300.length : Int) == 0) t297 t298 t299 t300 t303 t306) = some r := by rw [if_pos rfl] at H; exact H
           clear H
           have H := H1
           clear H1
           have H' := Aside0.mk H
           clear H
           have hcz92_0 : w86.cell? ⟨gb310, 0, none⟩ = some (.string (⟨#[]⟩ : ByteArray)) := (blk_cell BK310.out 0).trans rfl
           have hcz92_1 : w86.cell? ⟨gb310, 1, none⟩ = some (.int .i64 0) := (blk_cell BK310.out 1).trans rfl
           have hcz92_2 : w86.cell? ⟨gb310, 2, none⟩ = some (.int .i64 0) := (blk_cell BK310.out 2).trans rfl
           have hcz92_3 : w86.cell? ⟨gb310, 3, none⟩ = some (.slice none 0 0) := (blk_cell BK310.out 3).trans rfl
           have hcz92_4 : w86.cell? ⟨gb310, 4, none⟩ = some (.slice none 0 0) := (blk_cell BK310.out 4).trans rfl
           have hcz92_5 : w86.cell? ⟨gb310, 5, none⟩ = some (.slice none 0 0) := (blk_cell BK310.out 5).trans rfl
           have hfz92_0 := blk_frozen BK310.out 0
           have hfz92_1 := blk_frozen BK310.out 1
           have hfz92_2 := blk_frozen BK310.out 2
           have hfz92_3 := blk_frozen BK310.out 3
           have hfz92_4 := blk_frozen BK310.out 4
           have hfz92_5 := blk_frozen BK310.out 5
           go_wp2
           go_meet
           case rel => exact ⟨_, (((t300.length : Int) == 0)), (by first | rfl | (simp; done) | (simp [*]; done)), H', ⟨by have := HK1.out; first | omega | exact Nat.le_refl _⟩, ⟨by (with_reducible repeat (first | apply Kd.R_alloc | apply Kd.R_drewN | apply Kd.R_drew)); exact Kd.R_mono (Kd.R_far (p := ⟨gb310, 5, none⟩) (Kd.R_far (p := ⟨gb310, 4, none⟩) (Kd.R_far (p := ⟨gb310, 3, none⟩) (Kd.R_far (p := ⟨gb310, 2, none⟩) (Kd.R_far (p := ⟨gb310, 1, none⟩) (Kd.R_far (p := ⟨gb310, 0, none⟩) (Kd.R_types HO302.out BK310.out (by decide)) (fun _ hk => hk.2) (.string t297)) (fun _ hk => hk.2) (.int .i64 t298)) (fun _ hk => hk.2) (.int .i64 t299)) (fun _ hk => hk.2) (.slice Ao88 t300.length co88)) (fun _ hk => hk.2) (.slice Ao89 t303.length co89)) (fun _ hk => hk.2) (.slice Ao90 t306.length co90)) (fun _ hk => trivial)⟩, ⟨by (with_reducible repeat (first | apply Kd.S_alloc | apply Kd.S_drewN | apply Kd.S_drew)); exact Kd.S_mono (Kd.S_far (p := ⟨gb310, 5, none⟩) (Kd.S_far (p := ⟨gb310, 4, none⟩) (Kd.S_far (p := ⟨gb310, 3, none⟩) (Kd.S_far (p := ⟨gb310, 2, none⟩) (Kd.S_far (p := ⟨gb310, 1, none⟩) (Kd.S_far (p := ⟨gb310, 0, none⟩) (Kd.S_types HO305.out BK310.out (by decide)) (fun _ hk => hk.2) (.string t297)) (fun _ hk => hk.2) (.int .i64 t298)) (fun _ hk => hk.2) (.int .i64 t299)) (fun _ hk => hk.2) (.slice Ao88 t300.length co88)) (fun _ hk => hk.2) (.slice Ao89 t303.length co89)) (fun _ hk => hk.2) (.slice Ao90 t306.length co90)) (fun _ hk => trivial)⟩, ⟨by (with_reducible repeat (first | apply Kd.S_alloc | apply Kd.S_drewN | apply Kd.S_drew)); exact Kd.S_mono (Kd.S_far (p := ⟨gb310, 5, none⟩) (Kd.S_far (p := ⟨gb310, 4, none⟩) (Kd.S_far (p := ⟨gb310, 3, none⟩) (Kd.S_far (p := ⟨gb310, 2, none⟩) (Kd.S_far (p := ⟨gb310, 1, none⟩) (Kd.S_far (p := ⟨gb310, 0, none⟩) (Kd.S_types HO308.out BK310.out (by decide)) (fun _ hk => hk.2) (.string t297)) (fun _ hk => hk.2) (.int .i64 t298)) (fun _ hk => hk.2) (.int .i64 t299)) (fun _ hk => hk.2) (.slice Ao88 t300.length co88)) (fun _ hk => hk.2) (.slice Ao89 t303.length co89)) (fun _ hk => hk.2) (.slice Ao90 t306.length co90)) (fun _ hk => trivial)⟩, ⟨by (with_reducible repeat (first | refine blk_drewN ?_ _ | refine blk_drew ?_ | refine blk_alloc ?_ _)); refine blk_put (cs := #[.string t297, .int .i64 t298, .int .i64 t299, .slice Ao88 t300.length co88, .slice Ao89 t303.length co89, .slice none 0 0]) ?_ 5 _ rfl; (with_reducible repeat (first | refine blk_drewN ?_ _ | refine blk_drew ?_ | refine blk_alloc ?_ _)); refine blk_put (cs := #[.string t297, .int .i64 t298, .int .i64 t299, .slice Ao88 t300.length co88, .slice none 0 0, .slice none 0 0]) ?_ 4 _ rfl; (with_reducible repeat (first | refine blk_drewN ?_ _ | refine blk_drew ?_ | refine blk_alloc ?_ _)); refine blk_put (cs := #[.string t297, .int .i64 t298, .int .i64 t299, .slice none 0 0, .slice none 0 0, .slice none 0 0]) ?_ 3 _ rfl; (with_reducible repeat (first | refine blk_drewN ?_ _ | refine blk_drew ?_ | refine blk_alloc ?_ _)); refine blk_put (cs := #[.string t297, .int .i64 t298, .int .i64 0, .slice none 0 0, .slice none 0 0, .slice none 0 0]) ?_ 2 _ rfl; (with_reducible repeat (first | refine blk_drewN ?_ _ | refine blk_drew ?_ | refine blk_alloc ?_ _)); refine blk_put (cs := #[.string t297, .int .i64 0, .int .i64 0, .slice none 0 0, .slice none 0 0, .slice none 0 0]) ?_ 1 _ rfl; (with_reducible repeat (first | refine blk_drewN ?_ _ | refine blk_drew ?_ | refine blk_alloc ?_ _)); refine blk_put (cs := #[.string (⟨#[]⟩ : ByteArray), .int .i64 0, .int .i64 0, .slice none 0 0, .slice none 0 0, .slice none 0 0]) ?_ 0 _ rfl; (with_reducible repeat (first | refine blk_drewN ?_ _ | refine blk_drew ?_ | refine blk_alloc ?_ _)); exact BK310.out⟩, ⟨(Kd.R_reads' (by (with_reducible repeat (first | apply Kd.R_alloc | apply Kd.R_drewN | apply Kd.R_drew)); exact (Kd.R_mono (Kd.R_far (p := ⟨gb310, 5, none⟩) (Kd.R_far (p := ⟨gb310, 4, none⟩) (Kd.R_far (p := ⟨gb310, 3, none⟩) (Kd.R_far (p := ⟨gb310, 2, none⟩) (Kd.R_far (p := ⟨gb310, 1, none⟩) (Kd.R_far (p := ⟨gb310, 0, none⟩) (Kd.R_types HL296_3.out BK310.out (by decide)) (fun _ hk => hk.2) (.string t297)) (fun _ hk => hk.2) (.int .i64 t298)) (fun _ hk => hk.2) (.int .i64 t299)) (fun _ hk => hk.2) (.slice Ao88 t300.length co88)) (fun _ hk => hk.2) (.slice Ao89 t303.length co89)) (fun _ hk => hk.2) (.slice Ao90 t306.length co90)) (fun _ h_ => h_.1)))).2.2⟩, ⟨(Kd.R_reads' (by (with_reducible repeat (first | apply Kd.R_alloc | apply Kd.R_drewN | apply Kd.R_drew)); exact (Kd.R_mono (Kd.R_far (p := ⟨gb310, 5, none⟩) (Kd.R_far (p := ⟨gb310, 4, none⟩) (Kd.R_far (p := ⟨gb310, 3, none⟩) (Kd.R_far (p := ⟨gb310, 2, none⟩) (Kd.R_far (p := ⟨gb310, 1, none⟩) (Kd.R_far (p := ⟨gb310, 0, none⟩) (Kd.R_types HL296_4.out BK310.out (by decide)) (fun _ hk => hk.2) (.string t297)) (fun _ hk => hk.2) (.int .i64 t298)) (fun _ hk => hk.2) (.int .i64 t299)) (fun _ hk => hk.2) (.slice Ao88 t300.length co88)) (fun _ hk => hk.2) (.slice Ao89 t303.length co89)) (fun _ hk => hk.2) (.slice Ao90 t306.length co90)) (fun _ h_ => h_.1)))).2.2⟩, ⟨(Kd.R_reads' (by (with_reducible repeat (first | apply Kd.R_alloc | apply Kd.R_drewN | apply Kd.R_drew)); exact (Kd.R_mono (Kd.R_far (p := ⟨gb310, 5, none⟩) (Kd.R_far (p := ⟨gb310, 4, none⟩) (Kd.R_far (p := ⟨gb310, 3, none⟩) (Kd.R_far (p := ⟨gb310, 2, none⟩) (Kd.R_far (p := ⟨gb310, 1, none⟩) (Kd.R_far (p := ⟨gb310, 0, none⟩) (Kd.R_types HL296_5.out BK310.out (by decide)) (fun _ hk => hk.2) (.string t297)) (fun _ hk => hk.2) (.int .i64 t298)) (fun _ hk => hk.2) (.int .i64 t299)) (fun _ hk => hk.2) (.slice Ao88 t300.length co88)) (fun _ hk => hk.2) (.slice Ao89 t303.length co89)) (fun _ hk => hk.2) (.slice Ao90 t306.length co90)) (fun _ h_ => h_.1)))).2.2⟩, ⟨by repeat (first | (with_reducible first | exact HB.out | apply below_alloc | apply pw_below_drewN | apply below_drew1 | refine below_set ?_ GE310.out) | exact HB.out)⟩⟩
          ·replace c91 := Bool.eq_false_iff.mpr c91
           subst c91
           have H1 : (l5_BlobParents.j1 k1 a1 (wrap64 (1 + t280)) true t297 t298 t299 t300 t303 t306) = some r := by rw [if_neg (show ¬ (false = true) by decide)] at H; exact H
           clear H
           have H := H1
           clear H1
           have H' := Aside0.mk H
           clear H
           go_wp2
           go_meet
           case rel => exact ⟨_, (true), (by first | rfl | (simp; done) | (simp [*]; done)), H', ⟨by have := HK1.out; first | omega | exact Nat.le_refl _⟩, ⟨by (with_reducible repeat (first | apply Kd.R_alloc | apply Kd.R_drewN | apply Kd.R_drew)); exact Kd.R_mono (Kd.R_far (p := ⟨gb310, 5, none⟩) (Kd.R_far (p := ⟨gb310, 4, none⟩) (Kd.R_far (p := ⟨gb310, 3, none⟩) (Kd.R_far (p := ⟨gb310, 2, none⟩) (Kd.R_far (p := ⟨gb310, 1, none⟩) (Kd.R_far (p := ⟨gb310, 0, none⟩) (Kd.R_types HO302.out BK310.out (by decide)) (fun _ hk => hk.2) (.string t297)) (fun _ hk => hk.2) (.int .i64 t298)) (fun _ hk => hk.2) (.int .i64 t299)) (fun _ hk => hk.2) (.slice Ao88 t300.length co88)) (fun _ hk => hk.2) (.slice Ao89 t303.length co89)) (fun _ hk => hk.2) (.slice Ao90 t306.length co90)) (fun _ hk => trivial)⟩, ⟨by (with_reducible repeat (first | apply Kd.S_alloc | apply Kd.S_drewN | apply Kd.S_drew)); exact Kd.S_mono (Kd.S_far (p := ⟨gb310, 5, none⟩) (Kd.S_far (p := ⟨gb310, 4, none⟩) (Kd.S_far (p := ⟨gb310, 3, none⟩) (Kd.S_far (p := ⟨gb310, 2, none⟩) (Kd.S_far (p := ⟨gb310, 1, none⟩) (Kd.S_far (p := ⟨gb310, 0, none⟩) (Kd.S_types HO305.out BK310.out (by decide)) (fun _ hk => hk.2) (.string t297)) (fun _ hk => hk.2) (.int .i64 t298)) (fun _ hk => hk.2) (.int .i64 t299)) (fun _ hk => hk.2) (.slice Ao88 t300.length co88)) (fun _ hk => hk.2) (.slice Ao89 t303.length co89)) (fun _ hk => hk.2) (.slice Ao90 t306.length co90)) (fun _ hk => trivial)⟩, ⟨by (with_reducible repeat (first | apply Kd.S_alloc | apply Kd.S_drewN | apply Kd.S_drew)); exact Kd.S_mono (Kd.S_far (p := ⟨gb310, 5, none⟩) (Kd.S_far (p := ⟨gb310, 4, none⟩) (Kd.S_far (p := ⟨gb310, 3, none⟩) (Kd.S_far (p := ⟨gb310, 2, none⟩) (Kd.S_far (p := ⟨gb310, 1, none⟩) (Kd.S_far (p := ⟨gb310, 0, none⟩) (Kd.S_types HO308.out BK310.out (by decide)) (fun _ hk => hk.2) (.string t297)) (fun _ hk => hk.2) (.int .i64 t298)) (fun _ hk => hk.2) (.int .i64 t299)) (fun _ hk => hk.2) (.slice Ao88 t300.length co88)) (fun _ hk => hk.2) (.slice Ao89 t303.length co89)) (fun _ hk => hk.2) (.slice Ao90 t306.length co90)) (fun _ hk => trivial)⟩, ⟨by (with_reducible repeat (first | refine blk_drewN ?_ _ | refine blk_drew ?_ | refine blk_alloc ?_ _)); refine blk_put (cs := #[.string t297, .int .i64 t298, .int .i64 t299, .slice Ao88 t300.length co88, .slice Ao89 t303.length co89, .slice none 0 0]) ?_ 5 _ rfl; (with_reducible repeat (first | refine blk_drewN ?_ _ | refine blk_drew ?_ | refine blk_alloc ?_ _)); refine blk_put (cs := #[.string t297, .int .i64 t298, .int .i64 t299, .slice Ao88 t300.length co88, .slice none 0 0, .slice none 0 0]) ?_ 4 _ rfl; (with_reducible repeat (first | refine blk_drewN ?_ _ | refine blk_drew ?_ | refine blk_alloc ?_ _)); refine blk_put (cs := #[.string t297, .int .i64 t298, .int .i64 t299, .slice none 0 0, .slice none 0 0, .slice none 0 0]) ?_ 3 _ rfl; (with_reducible repeat (first | refine blk_drewN ?_ _ | refine blk_drew ?_ | refine blk_alloc ?_ _)); refine blk_put (cs := #[.string t297, .int .i64 t298, .int .i64 0, .slice none 0 0, .slice none 0 0, .slice none 0 0]) ?_ 2 _ rfl; (with_reducible repeat (first | refine blk_drewN ?_ _ | refine blk_drew ?_ | refine blk_alloc ?_ _)); refine blk_put (cs := #[.string t297, .int .i64 0, .int .i64 0, .slice none 0 0, .slice none 0 0, .slice none 0 0]) ?_ 1 _ rfl; (with_reducible repeat (first | refine blk_drewN ?_ _ | refine blk_drew ?_ | refine blk_alloc ?_ _)); refine blk_put (cs := #[.string (⟨#[]⟩ : ByteArray), .int .i64 0, .int .i64 0, .slice none 0 0, .slice none 0 0, .slice none 0 0]) ?_ 0 _ rfl; (with_reducible repeat (first | refine blk_drewN ?_ _ | refine blk_drew ?_ | refine blk_alloc ?_ _)); exact BK310.out⟩, ⟨(Kd.R_reads' (by (with_reducible repeat (first | apply Kd.R_alloc | apply Kd.R_drewN | apply Kd.R_drew)); exact (Kd.R_mono (Kd.R_far (p := ⟨gb310, 5, none⟩) (Kd.R_far (p := ⟨gb310, 4, none⟩) (Kd.R_far (p := ⟨gb310, 3, none⟩) (Kd.R_far (p := ⟨gb310, 2, none⟩) (Kd.R_far (p := ⟨gb310, 1, none⟩) (Kd.R_far (p := ⟨gb310, 0, none⟩) (Kd.R_types HL296_3.out BK310.out (by decide)) (fun _ hk => hk.2) (.string t297)) (fun _ hk => hk.2) (.int .i64 t298)) (fun _ hk => hk.2) (.int .i64 t299)) (fun _ hk => hk.2) (.slice Ao88 t300.length co88)) (fun _ hk => hk.2) (.slice Ao89 t303.length co89)) (fun _ hk => hk.2) (.slice Ao90 t306.length co90)) (fun _ h_ => h_.1)))).2.2⟩, ⟨(Kd.R_reads' (by (with_reducible repeat (first | apply Kd.R_alloc | apply Kd.R_drewN | apply Kd.R_drew)); exact (Kd.R_mono (Kd.R_far (p := ⟨gb310, 5, none⟩) (Kd.R_far (p := ⟨gb310, 4, none⟩) (Kd.R_far (p := ⟨gb310, 3, none⟩) (Kd.R_far (p := ⟨gb310, 2, none⟩) (Kd.R_far (p := ⟨gb310, 1, none⟩) (Kd.R_far (p := ⟨gb310, 0, none⟩) (Kd.R_types HL296_4.out BK310.out (by decide)) (fun _ hk => hk.2) (.string t297)) (fun _ hk => hk.2) (.int .i64 t298)) (fun _ hk => hk.2) (.int .i64 t299)) (fun _ hk => hk.2) (.slice Ao88 t300.length co88)) (fun _ hk => hk.2) (.slice Ao89 t303.length co89)) (fun _ hk => hk.2) (.slice Ao90 t306.length co90)) (fun _ h_ => h_.1)))).2.2⟩, ⟨(Kd.R_reads' (by (with_reducible repeat (first | apply Kd.R_alloc | apply Kd.R_drewN | apply Kd.R_drew)); exact (Kd.R_mono (Kd.R_far (p := ⟨gb310, 5, none⟩) (Kd.R_far (p := ⟨gb310, 4, none⟩) (Kd.R_far (p := ⟨gb310, 3, none⟩) (Kd.R_far (p := ⟨gb310, 2, none⟩) (Kd.R_far (p := ⟨gb310, 1, none⟩) (Kd.R_far (p := ⟨gb310, 0, none⟩) (Kd.R_types HL296_5.out BK310.out (by decide)) (fun _ hk => hk.2) (.string t297)) (fun _ hk => hk.2) (.int .i64 t298)) (fun _ hk => hk.2) (.int .i64 t299)) (fun _ hk => hk.2) (.slice Ao88 t300.length co88)) (fun _ hk => hk.2) (.slice Ao89 t303.length co89)) (fun _ hk => hk.2) (.slice Ao90 t306.length co90)) (fun _ h_ => h_.1)))).2.2⟩, ⟨by repeat (first | (with_reducible first | exact HB.out | apply below_alloc | apply pw_below_drewN | apply below_drew1 | refine below_set ?_ GE310.out) | exact HB.out)⟩⟩
         case rest =>
          clear HC82
          try clear c1
          try clear c2
          try clear p2
          try clear q2
          try clear hx2
          try clear c3
          try clear c5
          try clear p6
          try clear c7
          try clear c7b0
          try clear c8
          try clear c9
          try clear c10
          try clear c11
          try clear c15
          try clear c15b0
          try clear c16
          try clear c23
          try clear c29
          try clear p29
          try clear q29
          try clear hx29
          try clear c37
          try clear c54
          try clear p64
          try clear c72
          try clear c72b0
          try clear c72b1
          try clear c72b2
          try clear c75
          try clear c75b0
          try clear c79
          try clear c79b0
          try clear c80
          try clear c80b0
          try clear c91
          try clear hcz52_0
          try clear hcz52_1
          try clear hcz52_2
          try clear hcz52_3
          try clear hcz52_4
          try clear hcz52_5
          try clear hcz69_0
          try clear hcz69_1
          try clear hcz69_2
          try clear hcz69_3
          try clear hcz69_4
          try clear hcz69_5
          try clear hcz87_0
          try clear hcz87_1
          try clear hcz87_2
          try clear hcz87_3
          try clear hcz87_4
          try clear hcz87_5
          try clear hcz92_0
          try clear hcz92_1
          try clear hcz92_2
          try clear hcz92_3
          try clear hcz92_4
          try clear hcz92_5
          try clear hfz52_0
          try clear hfz52_1
          try clear hfz52_2
          try clear hfz52_3
          try clear hfz52_4
          try clear hfz52_5
          try clear hfz69_0
          try clear hfz69_1
          try clear hfz69_2
          try clear hfz69_3
          try clear hfz69_4
          try clear hfz69_5
          try clear hfz87_0
          try clear hfz87_1
          try clear hfz87_2
          try clear hfz87_3
          try clear hfz87_4
          try clear hfz87_5
          try clear hfz92_0
          try clear hfz92_1
          try clear hfz92_2
          try clear hfz92_3
          try clear hfz92_4
          try clear hfz92_5
          try clear hx296_0
          try clear hx296_1
          try clear hx296_2
          try clear hx296_3
          try clear hx296_4
          try clear hx296_5
          try clear p296
          try clear q296
          obtain ⟨kq, x77_81, rfl, HA, HJ81, HO_311003, HO_311004, HO_311005, BK310, HR296_3, HR296_4, HR296_5, HB⟩ := hcut
          cases kq with
          | zero => exact absurd HA.out (by simp [l5_BlobParents.j1])
          | succ kj81 =>
           have H := HA.out
           clear HA
           simp only [l5_BlobParents.j1] at H
           by_cases c93 : x77_81 = true
           ·subst c93
            have H1 : (some false) = some r := by rw [if_pos rfl] at H; exact H
            clear H
            have H := H1
            clear H1
            obtain rfl := Option.some.inj H
            go_wp2
            go_ret
            exact ⟨by first | rfl | (simp [errW_none, errW_some] <;> rfl) | (simp only [← hji78]; first | rfl | (simp [errW_none, errW_some] <;> rfl)) | (simp [*, errW_none, errW_some] <;> rfl), by repeat (first | (with_reducible first | exact HB.out | apply below_alloc | apply pw_below_drewN | apply below_drew1 | refine below_set ?_ GE310.out) | exact HB.out)⟩
           ·replace c93 := Bool.eq_false_iff.mpr c93
            subst c93
            have H1 : (l5_BlobParents.l1 kj81 a1 (wrap64 (1 + t280)) 1 t297 t298 t299 t300 t303 t306) = some r := by rw [if_neg (show ¬ (false = true) by decide)] at H; exact H
            clear H
            have H := H1
            clear H1
            have H' := Aside0.mk H
            clear H
            go_wp2
            go_loopg [11] kj81 (fun kq v11 w' => ∃ (x11_3 : Int), v11 = .int .i64 x11_3 ∧ Aside0 (l5_BlobParents.l1 kq a1 (wrap64 (1 + t280)) x11_3 t297 t298 t299 t300 t303 t306 = some r) ∧ Aside0 (kq ≤ kj81) ∧ Aside0 (Kd.R k46 46 w' w.heap.size (fun _ => True) (.slice Ao88 t300.length co88) t300) ∧ Aside0 (Kd.S k56 56 w' w.heap.size (fun _ => True) (.slice Ao89 t303.length co89) t303) ∧ Aside0 (Kd.S k52 52 w' w.heap.size (fun _ => True) (.slice Ao90 t306.length co90) t306) ∧ Aside0 (w'.heap[gb310]? = some (.cells #[.string t297, .int .i64 t298, .int .i64 t299, (.slice Ao88 t300.length co88), (.slice Ao89 t303.length co89), (.slice Ao90 t306.length co90)] 44 (0, 0))) ∧ Aside0 (Kd.C k46 w' A296_3 ((rd_T44 x6_1 (ji78)).f3).length ((rd_T44 x6_1 (ji78)).f3)) ∧ Aside0 (Kd.C k56 w' A296_4 ((rd_T44 x6_1 (ji78)).f4).length ((rd_T44 x6_1 (ji78)).f4)) ∧ Aside0 (Kd.C k52 w' A296_5 ((rd_T44 x6_1 (ji78)).f5).length ((rd_T44 x6_1 (ji78)).f5)) ∧ Aside0 (Below w.heap.size w w'))
            case atStart => exact ⟨(1), (by first | rfl | (simp; done) | (simp [*]; done)), H', ⟨Nat.le_refl _⟩, ⟨by (with_reducible repeat (first | apply Kd.R_alloc | apply Kd.R_drewN | apply Kd.R_drew)); exact HO_311003.out⟩, ⟨by (with_reducible repeat (first | apply Kd.S_alloc | apply Kd.S_drewN | apply Kd.S_drew)); exact HO_311004.out⟩, ⟨by (with_reducible repeat (first | apply Kd.S_alloc | apply Kd.S_drewN | apply Kd.S_drew)); exact HO_311005.out⟩, ⟨by (with_reducible repeat (first | refine blk_drewN ?_ _ | refine blk_drew ?_ | refine blk_alloc ?_ _)); exact BK310.out⟩, ⟨by repeat (first | (with_reducible exact HR296_3.out) | (with_reducible refine Kd.C_alloc ?_ _) | (with_reducible refine Kd.C_drewN ?_ _) | (with_reducible refine Kd.C_drew ?_) | exact HR296_3.out)⟩, ⟨by repeat (first | (with_reducible exact HR296_4.out) | (with_reducible refine Kd.C_alloc ?_ _) | (with_reducible refine Kd.C_drewN ?_ _) | (with_reducible refine Kd.C_drew ?_) | exact HR296_4.out)⟩, ⟨by repeat (first | (with_reducible exact HR296_5.out) | (with_reducible refine Kd.C_alloc ?_ _) | (with_reducible refine Kd.C_drewN ?_ _) | (with_reducible refine Kd.C_drew ?_) | exact HR296_5.out)⟩, ⟨by repeat (first | (with_reducible first | exact HB.out | apply below_alloc | apply pw_below_drewN | apply below_drew1 | refine below_set ?_ GE310.out) | exact HB.out)⟩⟩
            case round =>
             clear H'
             try clear c1
             try clear c2
             try clear p2
             try clear q2
             try clear hx2
             try clear c3
             try clear c5
             try clear p6
             try clear c7
             try clear c7b0
             try clear c8
             try clear c9
             try clear c10
             try clear c11
             try clear c15
             try clear c15b0
             try clear c16
             try clear c23
             try clear c29
             try clear p29
             try clear q29
             try clear hx29
             try clear c37
             try clear c54
             try clear p64
             try clear c72
             try clear c72b0
             try clear c72b1
             try clear c72b2
             try clear c75
             try clear c75b0
             try clear c79
             try clear c79b0
             try clear c80
             try clear c80b0
             try clear c91
             try clear c93
             try clear hcz52_0
             try clear hcz52_1
             try clear hcz52_2
             try clear hcz52_3
             try clear hcz52_4
             try clear hcz52_5
             try clear hcz69_0
             try clear hcz69_1
             try clear hcz69_2
             try clear hcz69_3
             try clear hcz69_4
             try clear hcz69_5
             try clear hcz87_0
             try clear hcz87_1
             try clear hcz87_2
             try clear hcz87_3
             try clear hcz87_4
             try clear hcz87_5
             try clear hcz92_0
             try clear hcz92_1
             try clear hcz92_2
             try clear hcz92_3
             try clear hcz92_4
             try clear hcz92_5
             try clear hfz52_0
             try clear hfz52_1
             try clear hfz52_2
             try clear hfz52_3
             try clear hfz52_4
             try clear hfz52_5
             try clear hfz69_0
             try clear hfz69_1
             try clear hfz69_2
             try clear hfz69_3
             try clear hfz69_4
             try clear hfz69_5
             try clear hfz87_0
             try clear hfz87_1
             try clear hfz87_2
             try clear hfz87_3
             try clear hfz87_4
             try clear hfz87_5
             try clear hfz92_0
             try clear hfz92_1
             try clear hfz92_2
             try clear hfz92_3
             try clear hfz92_4
             try clear hfz92_5
             try clear hx296_0
             try clear hx296_1
             try clear hx296_2
             try clear hx296_3
             try clear hx296_4
             try clear hx296_5
             try clear p2
             try clear p29
             try clear p296
             try clear p6
             try clear p64
             try clear q2
             try clear q29
             try clear q296
             obtain ⟨x11_3, rfl, HA, HK3, HO_311003, HO_311004, HO_311005, BK310, HR296_3, HR296_4, HR296_5, HB⟩ := hrel
             cases gk with
             | zero => exact absurd HA.out (by simp [l5_BlobParents.l1])
             | succ k3 =>
              have H := HA.out
              clear HA
              simp only [l5_BlobParents.l1] at H
              by_cases c94 : x11_3 < (t300.length : Int)
              ·rw [if_pos c94] at H
               have c94b0 : decide (x11_3 < (t300.length : Int)) = true := decide_eq_true c94
               clear c94
               by_cases c95 : 0 ≤ x11_3
               ·rw [if_pos c95] at H
                have c95b0 : decide (0 ≤ x11_3) = true := decide_eq_true c95
                clear c95
                obtain ⟨ji96, hji96⟩ : ∃ j_ : Int, (wrap64 (x11_3 - 1)) = j_ := ⟨_, rfl⟩
                replace H : (if 0 ≤ (ji96) then (if (ji96) < (t300.length : Int) then (if ((rd_T46 t300 x11_3).f2) ≤ ((rd_T46 t300 (ji96)).f2) then (some false) else (l5_BlobParents.l1 k3 a1 (wrap64 (1 + t280)) (wrap64 (x11_3 + 1)) t297 t298 t299 t300 t303 t306)) else (none)) else (none)) = some r := by first | (rw [hji96] at H; exact H) | (simp only [hji96] at H ⊢; exact H)
                have hji96w : (IntKind.i64.wrap (x11_3 - 1)) = ji96 := (i64_w _).trans hji96
                by_cases c97 : 0 ≤ (ji96)
                ·rw [if_pos c97] at H
                 have c97b0 : decide (0 ≤ (ji96)) = true := decide_eq_true c97
                 clear c97
                 by_cases c98 : (ji96) < (t300.length : Int)
                 ·rw [if_pos c98] at H
                  have c98b0 : decide ((ji96) < (t300.length : Int)) = true := decide_eq_true c98
                  clear c98
                  by_cases c99 : ((rd_T46 t300 x11_3).f2) ≤ ((rd_T46 t300 (ji96)).f2)
                  ·rw [if_pos c99] at H
                   have c99b0 : decide (((rd_T46 t300 x11_3).f2) ≤ ((rd_T46 t300 (ji96)).f2)) = true := decide_eq_true c99
                   clear c99
                   obtain rfl := Option.some.inj H
                   have hcz100_0 : wr.cell? ⟨gb310, 0, none⟩ = some (.string t297) := (blk_cell BK310.out 0).trans rfl
                   have hcz100_1 : wr.cell? ⟨gb310, 1, none⟩ = some (.int .i64 t298) := (blk_cell BK310.out 1).trans rfl
                   have hcz100_2 : wr.cell? ⟨gb310, 2, none⟩ = some (.int .i64 t299) := (blk_cell BK310.out 2).trans rfl
                   have hcz100_3 : wr.cell? ⟨gb310, 3, none⟩ = some (.slice Ao88 t300.length co88) := (blk_cell BK310.out 3).trans rfl
                   have hcz100_4 : wr.cell? ⟨gb310, 4, none⟩ = some (.slice Ao89 t303.length co89) := (blk_cell BK310.out 4).trans rfl
                   have hcz100_5 : wr.cell? ⟨gb310, 5, none⟩ = some (.slice Ao90 t306.length co90) := (blk_cell BK310.out 5).trans rfl
                   have hfz100_0 := blk_frozen BK310.out 0
                   have hfz100_1 := blk_frozen BK310.out 1
                   have hfz100_2 := blk_frozen BK310.out 2
                   have hfz100_3 := blk_frozen BK310.out 3
                   have hfz100_4 := blk_frozen BK310.out 4
                   have hfz100_5 := blk_frozen BK310.out 5
                   try go_wp2
                   have n0_ := Aside0.mk (Kd.R_drew HO_311003.out)
                   have n1_ := Aside0.mk (Kd.S_drew HO_311004.out)
                   have n2_ := Aside0.mk (Kd.S_drew HO_311005.out)
                   have n3_ := Aside0.mk (blk_drew BK310.out)
                   have n4_ := Aside0.mk (Kd.C_drew HR296_3.out)
                   have n5_ := Aside0.mk (Kd.C_drew HR296_4.out)
                   have n6_ := Aside0.mk (Kd.C_drew HR296_5.out)
                   have n7_ := Aside0.mk (below_drew1 HB.out)
                   clear HO_311003
                   clear HO_311004
                   clear HO_311005
                   clear BK310
                   clear HR296_3
                   clear HR296_4
                   clear HR296_5
                   clear HB
                   have HO_311003 := n0_
                   have HO_311004 := n1_
                   have HO_311005 := n2_
                   have BK310 := n3_
                   have HR296_3 := n4_
                   have HR296_4 := n5_
                   have HR296_5 := n6_
                   have HB := n7_
                   clear n0_ n1_ n2_ n3_ n4_ n5_ n6_ n7_
                   have p311 : 0 ≤ (x11_3 : Int) := of_decide_eq_true (by first | (with_reducible assumption) | assumption)
                   have q311 : x11_3 < (t300.length : Int) := of_decide_eq_true (by first | (with_reducible assumption) | assumption)
                   obtain ⟨ad311, e311, hx311_0, hx311_1, hx311_2⟩ := at_T46 (Kd.R_reads' HO_311003.out).2.2 x11_3 p311 q311
                   cases e311
                   replace p311 := eq_true p311
                   replace q311 := eq_true q311
                   have p312 : 0 ≤ ((ji96) : Int) := of_decide_eq_true (by first | (with_reducible assumption) | assumption)
                   have q312 : (ji96) < (t300.length : Int) := of_decide_eq_true (by first | (with_reducible assumption) | assumption)
                   obtain ⟨ad312, e312, hx312_0, hx312_1, hx312_2⟩ := at_T46 (Kd.R_reads' HO_311003.out).2.2 (ji96) p312 q312
                   obtain rfl : ad311 = ad312 := (by injection e312)
                   replace p312 := eq_true p312
                   replace q312 := eq_true q312
                   refine start_ (n := 14) (S := fun w' => w'.cell? ⟨gb310, 0, none⟩ = some (.string t297) ∧ w'.cell? ⟨gb310, 1, none⟩ = some (.int .i64 t298) ∧ w'.cell? ⟨gb310, 2, none⟩ = some (.int .i64 t299) ∧ w'.cell? ⟨gb310, 3, none⟩ = some (.slice (some ad311) t300.length co88) ∧ w'.cell? ⟨gb310, 4, none⟩ = some (.slice Ao89 t303.length co89) ∧ w'.cell? ⟨gb310, 5, none⟩ = some (.slice Ao90 t306.length co90) ∧ w'.cell? (ad311.add ((x11_3).toNat * 3)) = some (.string ((rd_T46 t300 x11_3).f0)) ∧ w'.cell? ⟨(ad311.add ((x11_3).toNat * 3)).block, (ad311.add ((x11_3).toNat * 3)).off + 1, none⟩ = some (.int .i64 ((rd_T46 t300 x11_3).f1)) ∧ w'.cell? ⟨(ad311.add ((x11_3).toNat * 3)).block, (ad311.add ((x11_3).toNat * 3)).off + 2, none⟩ = some (.int .i64 ((rd_T46 t300 x11_3).f2)) ∧ w'.cell? (ad311.add (((ji96)).toNat * 3)) = some (.string ((rd_T46 t300 (ji96)).f0)) ∧ w'.cell? ⟨(ad311.add (((ji96)).toNat * 3)).block, (ad311.add (((ji96)).toNat * 3)).off + 1, none⟩ = some (.int .i64 ((rd_T46 t300 (ji96)).f1)) ∧ w'.cell? ⟨(ad311.add (((ji96)).toNat * 3)).block, (ad311.add (((ji96)).toNat * 3)).off + 2, none⟩ = some (.int .i64 ((rd_T46 t300 (ji96)).f2))) (ds := []) #[false, false, false, false, false, false, false, false, false, false, false, false, false, false] (by kernel_rfl) rfl rfl ⟨(blk_cell BK310.out 0).trans rfl, (blk_cell BK310.out 1).trans rfl, (blk_cell BK310.out 2).trans rfl, (blk_cell BK310.out 3).trans rfl, (blk_cell BK310.out 4).trans rfl, (blk_cell BK310.out 5).trans rfl, hx311_0, hx311_1, hx311_2, hx312_0, hx312_1, hx312_2⟩ (fun hHeld => ?_); refine with_tabW l5_BlobParents.tab22 l5_BlobParents.bits22 (fun HT_ HW_ => ?_)
                   generalize wr.drew = w101 at HO_311003 HO_311004 HO_311005 BK310 HR296_3 HR296_4 HR296_5 HB hx311_0 hx311_1 hx311_2 hx312_0 hx312_1 hx312_2 hHeld ⊢
                   refine pure_ (i := 0) (N := some 85) (v := ?_) (a' := ?_) #[true, false, false, false, false, false, false, false, false, false, false, false, false, false] rfl rfl (any_of HT_.out (by kernel_rfl)) (fun _ _ _ h => h) (Or.inl ⟨by rfl, ?_⟩) ?_ ?_
                   rotate_left
                   ·intro w'
                    go_simp
                    with_reducible rfl
                   rotate_left
                   ·simp only [Act.put, List.setIfInBounds_toArray, List.set_cons_zero, List.set_cons_succ, i64_w, i32_w]
                    rfl
                   refine pure_ (i := 2) (N := some 87) (v := ?_) (a' := ?_) #[true, false, true, false, false, false, false, false, false, false, false, false, false, false] rfl rfl (any_of HT_.out (by kernel_rfl)) (fun _ _ _ h => h) (Or.inl ⟨by rfl, ?_⟩) ?_ ?_
                   rotate_left
                   ·intro w'
                    go_simp
                    with_reducible rfl
                   rotate_left
                   ·simp only [Act.put, List.setIfInBounds_toArray, List.set_cons_zero, List.set_cons_succ, i64_w, i32_w]
                    rfl
                   refine pure_ (i := 6) (N := some 91) (v := ?_) (a' := ?_) #[true, false, true, false, false, false, true, false, false, false, false, false, false, false] rfl rfl (any_of HT_.out (by kernel_rfl)) (fun _ _ _ h => h) (Or.inl ⟨by rfl, ?_⟩) ?_ ?_
                   rotate_left
                   ·intro w'
                    go_simp
                    with_reducible rfl
                   rotate_left
                   ·simp only [Act.put, List.setIfInBounds_toArray, List.set_cons_zero, List.set_cons_succ, i64_w, i32_w]
                    rfl
                   refine pure_ (i := 8) (N := some 93) (v := ?_) (a' := ?_) #[true, false, true, false, false, false, true, false, true, false, false, false, false, false] rfl rfl (any_of HT_.out (by kernel_rfl)) (fun _ _ _ h => h) (Or.inl ⟨by rfl, ?_⟩) ?_ ?_
                   rotate_left
                   ·intro w'
                    go_simp
                    with_reducible rfl
                   rotate_left
                   ·simp only [Act.put, List.setIfInBounds_toArray, List.set_cons_zero, List.set_cons_succ, i64_w, i32_w]
                    rfl
                   refine pure_ (i := 9) (N := some 94) (v := ?_) (a' := ?_) #[true, false, true, false, false, false, true, false, true, true, false, false, false, false] rfl rfl (any_of HT_.out (by kernel_rfl)) (fun _ _ _ h => h) (Or.inl ⟨by rfl, ?_⟩) ?_ ?_
                   rotate_left
                   ·intro w'
                    go_simp
                    with_reducible rfl
                   rotate_left
                   ·simp only [Act.put, List.setIfInBounds_toArray, List.set_cons_zero, List.set_cons_succ, i64_w, i32_w]
                    rfl
                   refine take_ (i := 1) (N := some 86) (v := ?_) (a' := ?_) #[true, true, true, false, false, false, true, false, true, true, false, false, false, false] rfl rfl (take_ofW HT_.out HW_.out (by kernel_rfl)) (fun _ _ _ h => h) (Or.inl ⟨by rfl, ?_⟩) hHeld ?_ ?_
                   rotate_left
                   ·rintro w' ⟨s0, s1, s2, s3, s4, s5, s6, s7, s8, s9, s10, s11⟩
                    go_simp
                    with_reducible rfl
                   rotate_left
                   ·simp only [Act.put, List.setIfInBounds_toArray, List.set_cons_zero, List.set_cons_succ, i64_w, i32_w]
                    rfl
                   refine pure_ (i := 3) (N := some 88) (v := ?_) (a' := ?_) #[true, true, true, true, false, false, true, false, true, true, false, false, false, false] rfl rfl (any_of HT_.out (by kernel_rfl)) (fun _ _ _ h => h) (Or.inl ⟨by rfl, ?_⟩) ?_ ?_
                   rotate_left
                   ·intro w'
                    go_simp
                    with_reducible rfl
                   rotate_left
                   ·simp only [Act.put, List.setIfInBounds_toArray, List.set_cons_zero, List.set_cons_succ, i64_w, i32_w]
                    rfl
                   refine pure_ (i := 4) (N := some 89) (v := ?_) (a' := ?_) #[true, true, true, true, true, false, true, false, true, true, false, false, false, false] rfl rfl (any_of HT_.out (by kernel_rfl)) (fun _ _ _ h => h) (Or.inl ⟨by rfl, ?_⟩) ?_ ?_
                   rotate_left
                   ·intro w'
                    go_simp
                    with_reducible rfl
                   rotate_left
                   ·simp only [Act.put, List.setIfInBounds_toArray, List.set_cons_zero, List.set_cons_succ, i64_w, i32_w]
                    rfl
                   refine take_ (i := 5) (N := some 90) (v := ?_) (a' := ?_) #[true, true, true, true, true, true, true, false, true, true, false, false, false, false] rfl rfl (take_ofW HT_.out HW_.out (by kernel_rfl)) (fun _ _ _ h => h) (Or.inl ⟨by rfl, ?_⟩) hHeld ?_ ?_
                   rotate_left
                   ·rintro w' ⟨s0, s1, s2, s3, s4, s5, s6, s7, s8, s9, s10, s11⟩
                    go_simp
                    with_reducible rfl
                   rotate_left
                   ·simp only [Act.put, List.setIfInBounds_toArray, List.set_cons_zero, List.set_cons_succ, i64_w, i32_w]
                    rfl
                   refine take_ (i := 7) (N := some 92) (v := ?_) (a' := ?_) #[true, true, true, true, true, true, true, true, true, true, false, false, false, false] rfl rfl (take_ofW HT_.out HW_.out (by kernel_rfl)) (fun _ _ _ h => h) (Or.inl ⟨by rfl, ?_⟩) hHeld ?_ ?_
                   rotate_left
                   ·rintro w' ⟨s0, s1, s2, s3, s4, s5, s6, s7, s8, s9, s10, s11⟩
                    go_simp
                    with_reducible rfl
                   rotate_left
                   ·simp only [Act.put, List.setIfInBounds_toArray, List.set_cons_zero, List.set_cons_succ, i64_w, i32_w]
                    rfl
                   refine pure_ (i := 10) (N := some 95) (v := ?_) (a' := ?_) #[true, true, true, true, true, true, true, true, true, true, true, false, false, false] rfl rfl (any_of HT_.out (by kernel_rfl)) (fun _ _ _ h => h) (Or.inl ⟨by rfl, ?_⟩) ?_ ?_
                   rotate_left
                   ·intro w'
                    go_simp
                    with_reducible rfl
                   rotate_left
                   ·simp only [Act.put, List.setIfInBounds_toArray, List.set_cons_zero, List.set_cons_succ, i64_w, i32_w]
                    rfl
                   refine pure_ (i := 11) (N := some 96) (v := ?_) (a' := ?_) #[true, true, true, true, true, true, true, true, true, true, true, true, false, false] rfl rfl (any_of HT_.out (by kernel_rfl)) (fun _ _ _ h => h) (Or.inl ⟨by rfl, ?_⟩) ?_ ?_
                   rotate_left
                   ·intro w'
                    go_simp
                    with_reducible rfl
                   rotate_left
                   ·simp only [Act.put, List.setIfInBounds_toArray, List.set_cons_zero, List.set_cons_succ, i64_w, i32_w]
                    rfl
                   refine take_ (i := 12) (N := some 97) (v := ?_) (a' := ?_) #[true, true, true, true, true, true, true, true, true, true, true, true, true, false] rfl rfl (take_ofW HT_.out HW_.out (by kernel_rfl)) (fun _ _ _ h => h) (Or.inl ⟨by rfl, ?_⟩) hHeld ?_ ?_
                   rotate_left
                   ·rintro w' ⟨s0, s1, s2, s3, s4, s5, s6, s7, s8, s9, s10, s11⟩
                    go_simp
                    with_reducible rfl
                   rotate_left
                   ·simp only [Act.put, List.setIfInBounds_toArray, List.set_cons_zero, List.set_cons_succ, i64_w, i32_w]
                    rfl
                   refine pure_ (i := 13) (N := some 98) (v := ?_) (a' := ?_) #[true, true, true, true, true, true, true, true, true, true, true, true, true, true] rfl rfl (any_of HT_.out (by kernel_rfl)) (fun _ _ _ h => h) (Or.inl ⟨by rfl, ?_⟩) ?_ ?_
                   rotate_left
                   ·intro w'
                    go_simp
                    with_reducible rfl
                   rotate_left
                   ·simp only [Act.put, List.setIfInBounds_toArray, List.set_cons_zero, List.set_cons_succ, i64_w, i32_w]
                    rfl
                   refine done_ (done_of HT_.out (by kernel_rfl)) ?_
                   try go_wp2
                   go_ret
                   exact ⟨by first | rfl | (simp [errW_none, errW_some] <;> rfl) | (simp only [← hji78, ← hji96]; first | rfl | (simp [errW_none, errW_some] <;> rfl)) | (simp [*, errW_none, errW_some] <;> rfl), by repeat (first | (with_reducible first | exact HB.out | apply below_alloc | apply pw_below_drewN | apply below_drew1 | refine below_set ?_ GE310.out) | exact HB.out)⟩
                  ·rw [if_neg c99] at H
                   have c99b0 : decide (((rd_T46 t300 x11_3).f2) ≤ ((rd_T46 t300 (ji96)).f2)) = false := decide_eq_false c99
                   clear c99
                   have H' := Aside0.mk H
                   clear H
                   have hcz102_0 : wr.cell? ⟨gb310, 0, none⟩ = some (.string t297) := (blk_cell BK310.out 0).trans rfl
                   have hcz102_1 : wr.cell? ⟨gb310, 1, none⟩ = some (.int .i64 t298) := (blk_cell BK310.out 1).trans rfl
                   have hcz102_2 : wr.cell? ⟨gb310, 2, none⟩ = some (.int .i64 t299) := (blk_cell BK310.out 2).trans rfl
                   have hcz102_3 : wr.cell? ⟨gb310, 3, none⟩ = some (.slice Ao88 t300.length co88) := (blk_cell BK310.out 3).trans rfl
                   have hcz102_4 : wr.cell? ⟨gb310, 4, none⟩ = some (.slice Ao89 t303.length co89) := (blk_cell BK310.out 4).trans rfl
                   have hcz102_5 : wr.cell? ⟨gb310, 5, none⟩ = some (.slice Ao90 t306.length co90) := (blk_cell BK310.out 5).trans rfl
                   have hfz102_0 := blk_frozen BK310.out 0
                   have hfz102_1 := blk_frozen BK310.out 1
                   have hfz102_2 := blk_frozen BK310.out 2
                   have hfz102_3 := blk_frozen BK310.out 3
                   have hfz102_4 := blk_frozen BK310.out 4
                   have hfz102_5 := blk_frozen BK310.out 5
                   try go_wp2
                   have n0_ := Aside0.mk (Kd.R_drew HO_311003.out)
                   have n1_ := Aside0.mk (Kd.S_drew HO_311004.out)
                   have n2_ := Aside0.mk (Kd.S_drew HO_311005.out)
                   have n3_ := Aside0.mk (blk_drew BK310.out)
                   have n4_ := Aside0.mk (Kd.C_drew HR296_3.out)
                   have n5_ := Aside0.mk (Kd.C_drew HR296_4.out)
                   have n6_ := Aside0.mk (Kd.C_drew HR296_5.out)
                   have n7_ := Aside0.mk (below_drew1 HB.out)
                   clear HO_311003
                   clear HO_311004
                   clear HO_311005
                   clear BK310
                   clear HR296_3
                   clear HR296_4
                   clear HR296_5
                   clear HB
                   have HO_311003 := n0_
                   have HO_311004 := n1_
                   have HO_311005 := n2_
                   have BK310 := n3_
                   have HR296_3 := n4_
                   have HR296_4 := n5_
                   have HR296_5 := n6_
                   have HB := n7_
                   clear n0_ n1_ n2_ n3_ n4_ n5_ n6_ n7_
                   have p311 : 0 ≤ (x11_3 : Int) := of_decide_eq_true (by first | (with_reducible assumption) | assumption)
                   have q311 : x11_3 < (t300.length : Int) := of_decide_eq_true (by first | (with_reducible assumption) | assumption)
                   obtain ⟨ad311, e311, hx311_0, hx311_1, hx311_2⟩ := at_T46 (Kd.R_reads' HO_311003.out).2.2 x11_3 p311 q311
                   cases e311
                   replace p311 := eq_true p311
                   replace q311 := eq_true q311
                   have p312 : 0 ≤ ((ji96) : Int) := of_decide_eq_true (by first | (with_reducible assumption) | assumption)
                   have q312 : (ji96) < (t300.length : Int) := of_decide_eq_true (by first | (with_reducible assumption) | assumption)
                   obtain ⟨ad312, e312, hx312_0, hx312_1, hx312_2⟩ := at_T46 (Kd.R_reads' HO_311003.out).2.2 (ji96) p312 q312
                   obtain rfl : ad311 = ad312 := (by injection e312)
                   replace p312 := eq_true p312
                   replace q312 := eq_true q312
                   refine start_ (n := 14) (S := fun w' => w'.cell? ⟨gb310, 0, none⟩ = some (.string t297) ∧ w'.cell? ⟨gb310, 1, none⟩ = some (.int .i64 t298) ∧ w'.cell? ⟨gb310, 2, none⟩ = some (.int .i64 t299) ∧ w'.cell? ⟨gb310, 3, none⟩ = some (.slice (some ad311) t300.length co88) ∧ w'.cell? ⟨gb310, 4, none⟩ = some (.slice Ao89 t303.length co89) ∧ w'.cell? ⟨gb310, 5, none⟩ = some (.slice Ao90 t306.length co90) ∧ w'.cell? (ad311.add ((x11_3).toNat * 3)) = some (.string ((rd_T46 t300 x11_3).f0)) ∧ w'.cell? ⟨(ad311.add ((x11_3).toNat * 3)).block, (ad311.add ((x11_3).toNat * 3)).off + 1, none⟩ = some (.int .i64 ((rd_T46 t300 x11_3).f1)) ∧ w'.cell? ⟨(ad311.add ((x11_3).toNat * 3)).block, (ad311.add ((x11_3).toNat * 3)).off + 2, none⟩ = some (.int .i64 ((rd_T46 t300 x11_3).f2)) ∧ w'.cell? (ad311.add (((ji96)).toNat * 3)) = some (.string ((rd_T46 t300 (ji96)).f0)) ∧ w'.cell? ⟨(ad311.add (((ji96)).toNat * 3)).block, (ad311.add (((ji96)).toNat * 3)).off + 1, none⟩ = some (.int .i64 ((rd_T46 t300 (ji96)).f1)) ∧ w'.cell? ⟨(ad311.add (((ji96)).toNat * 3)).block, (ad311.add (((ji96)).toNat * 3)).off + 2, none⟩ = some (.int .i64 ((rd_T46 t300 (ji96)).f2))) (ds := []) #[false, false, false, false, false, false, false, false, false, false, false, false, false, false] (by kernel_rfl) rfl rfl ⟨(blk_cell BK310.out 0).trans rfl, (blk_cell BK310.out 1).trans rfl, (blk_cell BK310.out 2).trans rfl, (blk_cell BK310.out 3).trans rfl, (blk_cell BK310.out 4).trans rfl, (blk_cell BK310.out 5).trans rfl, hx311_0, hx311_1, hx311_2, hx312_0, hx312_1, hx312_2⟩ (fun hHeld => ?_); refine with_tabW l5_BlobParents.tab22 l5_BlobParents.bits22 (fun HT_ HW_ => ?_)
                   generalize wr.drew = w103 at HO_311003 HO_311004 HO_311005 BK310 HR296_3 HR296_4 HR296_5 HB hx311_0 hx311_1 hx311_2 hx312_0 hx312_1 hx312_2 hHeld ⊢
                   refine pure_ (i := 0) (N := some 85) (v := ?_) (a' := ?_) #[true, false, false, false, false, false, false, false, false, false, false, false, false, false] rfl rfl (any_of HT_.out (by kernel_rfl)) (fun _ _ _ h => h) (Or.inl ⟨by rfl, ?_⟩) ?_ ?_
                   rotate_left
                   ·intro w'
                    go_simp
                    with_reducible rfl
                   rotate_left
                   ·simp only [Act.put, List.setIfInBounds_toArray, List.set_cons_zero, List.set_cons_succ, i64_w, i32_w]
                    rfl
                   refine pure_ (i := 2) (N := some 87) (v := ?_) (a' := ?_) #[true, false, true, false, false, false, false, false, false, false, false, false, false, false] rfl rfl (any_of HT_.out (by kernel_rfl)) (fun _ _ _ h => h) (Or.inl ⟨by rfl, ?_⟩) ?_ ?_
                   rotate_left
                   ·intro w'
                    go_simp
                    with_reducible rfl
                   rotate_left
                   ·simp only [Act.put, List.setIfInBounds_toArray, List.set_cons_zero, List.set_cons_succ, i64_w, i32_w]
                    rfl
                   refine pure_ (i := 6) (N := some 91) (v := ?_) (a' := ?_) #[true, false, true, false, false, false, true, false, false, false, false, false, false, false] rfl rfl (any_of HT_.out (by kernel_rfl)) (fun _ _ _ h => h) (Or.inl ⟨by rfl, ?_⟩) ?_ ?_
                   rotate_left
                   ·intro w'
                    go_simp
                    with_reducible rfl
                   rotate_left
                   ·simp only [Act.put, List.setIfInBounds_toArray, List.set_cons_zero, List.set_cons_succ, i64_w, i32_w]
                    rfl
                   refine pure_ (i := 8) (N := some 93) (v := ?_) (a' := ?_) #[true, false, true, false, false, false, true, false, true, false, false, false, false, false] rfl rfl (any_of HT_.out (by kernel_rfl)) (fun _ _ _ h => h) (Or.inl ⟨by rfl, ?_⟩) ?_ ?_
                   rotate_left
                   ·intro w'
                    go_simp
                    with_reducible rfl
                   rotate_left
                   ·simp only [Act.put, List.setIfInBounds_toArray, List.set_cons_zero, List.set_cons_succ, i64_w, i32_w]
                    rfl
                   refine pure_ (i := 9) (N := some 94) (v := ?_) (a' := ?_) #[true, false, true, false, false, false, true, false, true, true, false, false, false, false] rfl rfl (any_of HT_.out (by kernel_rfl)) (fun _ _ _ h => h) (Or.inl ⟨by rfl, ?_⟩) ?_ ?_
                   rotate_left
                   ·intro w'
                    go_simp
                    with_reducible rfl
                   rotate_left
                   ·simp only [Act.put, List.setIfInBounds_toArray, List.set_cons_zero, List.set_cons_succ, i64_w, i32_w]
                    rfl
                   refine take_ (i := 1) (N := some 86) (v := ?_) (a' := ?_) #[true, true, true, false, false, false, true, false, true, true, false, false, false, false] rfl rfl (take_ofW HT_.out HW_.out (by kernel_rfl)) (fun _ _ _ h => h) (Or.inl ⟨by rfl, ?_⟩) hHeld ?_ ?_
                   rotate_left
                   ·rintro w' ⟨s0, s1, s2, s3, s4, s5, s6, s7, s8, s9, s10, s11⟩
                    go_simp
                    with_reducible rfl
                   rotate_left
                   ·simp only [Act.put, List.setIfInBounds_toArray, List.set_cons_zero, List.set_cons_succ, i64_w, i32_w]
                    rfl
                   refine pure_ (i := 3) (N := some 88) (v := ?_) (a' := ?_) #[true, true, true, true, false, false, true, false, true, true, false, false, false, false] rfl rfl (any_of HT_.out (by kernel_rfl)) (fun _ _ _ h => h) (Or.inl ⟨by rfl, ?_⟩) ?_ ?_
                   rotate_left
                   ·intro w'
                    go_simp
                    with_reducible rfl
                   rotate_left
                   ·simp only [Act.put, List.setIfInBounds_toArray, List.set_cons_zero, List.set_cons_succ, i64_w, i32_w]
                    rfl
                   refine pure_ (i := 4) (N := some 89) (v := ?_) (a' := ?_) #[true, true, true, true, true, false, true, false, true, true, false, false, false, false] rfl rfl (any_of HT_.out (by kernel_rfl)) (fun _ _ _ h => h) (Or.inl ⟨by rfl, ?_⟩) ?_ ?_
                   rotate_left
                   ·intro w'
                    go_simp
                    with_reducible rfl
                   rotate_left
                   ·simp only [Act.put, List.setIfInBounds_toArray, List.set_cons_zero, List.set_cons_succ, i64_w, i32_w]
                    rfl
                   refine take_ (i := 5) (N := some 90) (v := ?_) (a' := ?_) #[true, true, true, true, true, true, true, false, true, true, false, false, false, false] rfl rfl (take_ofW HT_.out HW_.out (by kernel_rfl)) (fun _ _ _ h => h) (Or.inl ⟨by rfl, ?_⟩) hHeld ?_ ?_
                   rotate_left
                   ·rintro w' ⟨s0, s1, s2, s3, s4, s5, s6, s7, s8, s9, s10, s11⟩
                    go_simp
                    with_reducible rfl
                   rotate_left
                   ·simp only [Act.put, List.setIfInBounds_toArray, List.set_cons_zero, List.set_cons_succ, i64_w, i32_w]
                    rfl
                   refine take_ (i := 7) (N := some 92) (v := ?_) (a' := ?_) #[true, true, true, true, true, true, true, true, true, true, false, false, false, false] rfl rfl (take_ofW HT_.out HW_.out (by kernel_rfl)) (fun _ _ _ h => h) (Or.inl ⟨by rfl, ?_⟩) hHeld ?_ ?_
                   rotate_left
                   ·rintro w' ⟨s0, s1, s2, s3, s4, s5, s6, s7, s8, s9, s10, s11⟩
                    go_simp
                    with_reducible rfl
                   rotate_left
                   ·simp only [Act.put, List.setIfInBounds_toArray, List.set_cons_zero, List.set_cons_succ, i64_w, i32_w]
                    rfl
                   refine pure_ (i := 10) (N := some 95) (v := ?_) (a' := ?_) #[true, true, true, true, true, true, true, true, true, true, true, false, false, false] rfl rfl (any_of HT_.out (by kernel_rfl)) (fun _ _ _ h => h) (Or.inl ⟨by rfl, ?_⟩) ?_ ?_
                   rotate_left
                   ·intro w'
                    go_simp
                    with_reducible rfl
                   rotate_left
                   ·simp only [Act.put, List.setIfInBounds_toArray, List.set_cons_zero, List.set_cons_succ, i64_w, i32_w]
                    rfl
                   refine pure_ (i := 11) (N := some 96) (v := ?_) (a' := ?_) #[true, true, true, true, true, true, true, true, true, true, true, true, false, false] rfl rfl (any_of HT_.out (by kernel_rfl)) (fun _ _ _ h => h) (Or.inl ⟨by rfl, ?_⟩) ?_ ?_
                   rotate_left
                   ·intro w'
                    go_simp
                    with_reducible rfl
                   rotate_left
                   ·simp only [Act.put, List.setIfInBounds_toArray, List.set_cons_zero, List.set_cons_succ, i64_w, i32_w]
                    rfl
                   refine take_ (i := 12) (N := some 97) (v := ?_) (a' := ?_) #[true, true, true, true, true, true, true, true, true, true, true, true, true, false] rfl rfl (take_ofW HT_.out HW_.out (by kernel_rfl)) (fun _ _ _ h => h) (Or.inl ⟨by rfl, ?_⟩) hHeld ?_ ?_
                   rotate_left
                   ·rintro w' ⟨s0, s1, s2, s3, s4, s5, s6, s7, s8, s9, s10, s11⟩
                    go_simp
                    with_reducible rfl
                   rotate_left
                   ·simp only [Act.put, List.setIfInBounds_toArray, List.set_cons_zero, List.set_cons_succ, i64_w, i32_w]
                    rfl
                   refine pure_ (i := 13) (N := some 98) (v := ?_) (a' := ?_) #[true, true, true, true, true, true, true, true, true, true, true, true, true, true] rfl rfl (any_of HT_.out (by kernel_rfl)) (fun _ _ _ h => h) (Or.inl ⟨by rfl, ?_⟩) ?_ ?_
                   rotate_left
                   ·intro w'
                    go_simp
                    with_reducible rfl
                   rotate_left
                   ·simp only [Act.put, List.setIfInBounds_toArray, List.set_cons_zero, List.set_cons_succ, i64_w, i32_w]
                    rfl
                   refine done_ (done_of HT_.out (by kernel_rfl)) ?_
                   try go_wp2
                   go_roundg k3
                   case measure => have := HK1.out; have := HJ81.out; have := HK3.out; omega
                   case rel => exact ⟨(wrap64 (x11_3 + 1)), (by first | rfl | (simp; done) | (simp [*]; done)), H', ⟨by have := HK1.out; have := HJ81.out; have := HK3.out; omega⟩, ⟨by (with_reducible repeat (first | apply Kd.R_alloc | apply Kd.R_drewN | apply Kd.R_drew)); exact HO_311003.out⟩, ⟨by (with_reducible repeat (first | apply Kd.S_alloc | apply Kd.S_drewN | apply Kd.S_drew)); exact HO_311004.out⟩, ⟨by (with_reducible repeat (first | apply Kd.S_alloc | apply Kd.S_drewN | apply Kd.S_drew)); exact HO_311005.out⟩, ⟨by (with_reducible repeat (first | refine blk_drewN ?_ _ | refine blk_drew ?_ | refine blk_alloc ?_ _)); exact BK310.out⟩, ⟨by repeat (first | (with_reducible exact HR296_3.out) | (with_reducible refine Kd.C_alloc ?_ _) | (with_reducible refine Kd.C_drewN ?_ _) | (with_reducible refine Kd.C_drew ?_) | exact HR296_3.out)⟩, ⟨by repeat (first | (with_reducible exact HR296_4.out) | (with_reducible refine Kd.C_alloc ?_ _) | (with_reducible refine Kd.C_drewN ?_ _) | (with_reducible refine Kd.C_drew ?_) | exact HR296_4.out)⟩, ⟨by repeat (first | (with_reducible exact HR296_5.out) | (with_reducible refine Kd.C_alloc ?_ _) | (with_reducible refine Kd.C_drewN ?_ _) | (with_reducible refine Kd.C_drew ?_) | exact HR296_5.out)⟩, ⟨by repeat (first | (with_reducible first | exact HB.out | apply below_alloc | apply pw_below_drewN | apply below_drew1 | refine below_set ?_ GE310.out) | exact HB.out)⟩⟩
                 ·rw [if_neg c98] at H
                  exact absurd H (by simp)
                ·rw [if_neg c97] at H
                 exact absurd H (by simp)
               ·rw [if_neg c95] at H
                exact absurd H (by simp)
              ·rw [if_neg c94] at H
               have c94b0 : decide (x11_3 < (t300.length : Int)) = false := decide_eq_false c94
               clear c94
               have HC104 := Aside0.mk H
               clear H
               have hcz105_0 : wr.cell? ⟨gb310, 0, none⟩ = some (.string t297) := (blk_cell BK310.out 0).trans rfl
               have hcz105_1 : wr.cell? ⟨gb310, 1, none⟩ = some (.int .i64 t298) := (blk_cell BK310.out 1).trans rfl
               have hcz105_2 : wr.cell? ⟨gb310, 2, none⟩ = some (.int .i64 t299) := (blk_cell BK310.out 2).trans rfl
               have hcz105_3 : wr.cell? ⟨gb310, 3, none⟩ = some (.slice Ao88 t300.length co88) := (blk_cell BK310.out 3).trans rfl
               have hcz105_4 : wr.cell? ⟨gb310, 4, none⟩ = some (.slice Ao89 t303.length co89) := (blk_cell BK310.out 4).trans rfl
               have hcz105_5 : wr.cell? ⟨gb310, 5, none⟩ = some (.slice Ao90 t306.length co90) := (blk_cell BK310.out 5).trans rfl
               have hfz105_0 := blk_frozen BK310.out 0
               have hfz105_1 := blk_frozen BK310.out 1
               have hfz105_2 := blk_frozen BK310.out 2
               have hfz105_3 := blk_frozen BK310.out 3
               have hfz105_4 := blk_frozen BK310.out 4
               have hfz105_5 := blk_frozen BK310.out 5
               go_upto_region 25 with (fail)
               go_cut [106] (fun v106 wc => ∃ (kq : Nat) (x106_103 : Bool), v106 = .bool x106_103 ∧ Aside0 (l5_BlobParents.j3 kq (wrap64 (1 + t280)) (wrap64 (1 + t280)) x106_103 t297 t298 t299 t300 t303 t306 = some r) ∧ Aside0 (kq ≤ k3) ∧ Aside0 (Kd.R k46 46 wc w.heap.size (fun _ => True) (.slice Ao88 t300.length co88) t300) ∧ Aside0 (Kd.S k56 56 wc w.heap.size (fun _ => True) (.slice Ao89 t303.length co89) t303) ∧ Aside0 (Kd.S k52 52 wc w.heap.size (fun _ => True) (.slice Ao90 t306.length co90) t306) ∧ Aside0 (wc.heap[gb310]? = some (.cells #[.string t297, .int .i64 t298, .int .i64 t299, (.slice Ao88 t300.length co88), (.slice Ao89 t303.length co89), (.slice Ao90 t306.length co90)] 44 (0, 0))) ∧ Aside0 (Kd.C k46 wc A296_3 ((rd_T44 x6_1 (ji78)).f3).length ((rd_T44 x6_1 (ji78)).f3)) ∧ Aside0 (Kd.C k56 wc A296_4 ((rd_T44 x6_1 (ji78)).f4).length ((rd_T44 x6_1 (ji78)).f4)) ∧ Aside0 (Kd.C k52 wc A296_5 ((rd_T44 x6_1 (ji78)).f5).length ((rd_T44 x6_1 (ji78)).f5)) ∧ Aside0 (Below w.heap.size w wc))
               case first =>
                have H := HC104.out
                clear HC104
                replace H := Option.bind_eq_some_iff.mp H
                obtain ⟨t313, A1060, H⟩ := H
                replace H : (if t313 = 0 then (l5_BlobParents.j3 k3 (wrap64 (1 + t280)) (wrap64 (1 + t280)) (decide ((wrap64 (1 + t280)) > 1)) t297 t298 t299 t300 t303 t306) else (l5_BlobParents.j3 k3 (wrap64 (1 + t280)) (wrap64 (1 + t280)) false t297 t298 t299 t300 t303 t306)) = some r := H
                have A106 := Aside0.mk A1060
                clear A1060
                by_cases c107 : t313 = 0
                ·rw [if_pos c107] at H
                 have c107b0 : (t313 == 0) = true := beq_iff_eq.mpr c107
                 have c107b1 : (t313 != 0) = false := bne_eq_false_iff_eq.mpr c107
                 clear c107
                 (first | rw [c107b0] | (simp only [i64_w, i32_w]; rw [c107b0]) | skip)
                 have H' := Aside0.mk H
                 clear H
                 go_wp2_with (first | ((with_reducible refine gate_callee (f := 19) rfl ?_); refine goesL_ (some 101) rfl rfl Tryz.func19 (by kernel_rfl) rfl #[.int .i64 a1, .int .i64 3] rfl (by (try simp only [List.map_toArray, List.map_cons, List.map_nil]); first | done | rfl | (simp only [List.length_drop, List.length_take]; rfl)) ?_; (with_reducible refine (l5_within.calls a1 3 t313 _ A106.out).mono ?_); rintro e w' ⟨rfl, ⟨nd, rfl⟩⟩; refine ⟨_, rfl, ?_⟩))
                 go_meet
                 case rel => exact ⟨_, (decide ((wrap64 (1 + t280)) > 1)), (by first | rfl | (simp; done) | (simp [*]; done)), H', ⟨by have := HK1.out; have := HJ81.out; have := HK3.out; first | omega | exact Nat.le_refl _⟩, ⟨by (with_reducible repeat (first | apply Kd.R_alloc | apply Kd.R_drewN | apply Kd.R_drew)); exact HO_311003.out⟩, ⟨by (with_reducible repeat (first | apply Kd.S_alloc | apply Kd.S_drewN | apply Kd.S_drew)); exact HO_311004.out⟩, ⟨by (with_reducible repeat (first | apply Kd.S_alloc | apply Kd.S_drewN | apply Kd.S_drew)); exact HO_311005.out⟩, ⟨by (with_reducible repeat (first | refine blk_drewN ?_ _ | refine blk_drew ?_ | refine blk_alloc ?_ _)); exact BK310.out⟩, ⟨by repeat (first | (with_reducible exact HR296_3.out) | (with_reducible refine Kd.C_alloc ?_ _) | (with_reducible refine Kd.C_drewN ?_ _) | (with_reducible refine Kd.C_drew ?_) | exact HR296_3.out)⟩, ⟨by repeat (first | (with_reducible exact HR296_4.out) | (with_reducible refine Kd.C_alloc ?_ _) | (with_reducible refine Kd.C_drewN ?_ _) | (with_reducible refine Kd.C_drew ?_) | exact HR296_4.out)⟩, ⟨by repeat (first | (with_reducible exact HR296_5.out) | (with_reducible refine Kd.C_alloc ?_ _) | (with_reducible refine Kd.C_drewN ?_ _) | (with_reducible refine Kd.C_drew ?_) | exact HR296_5.out)⟩, ⟨by repeat (first | (with_reducible first | exact HB.out | apply below_alloc | apply pw_below_drewN | apply below_drew1 | refine below_set ?_ GE310.out) | exact HB.out)⟩⟩
                ·rw [if_neg c107] at H
                 have c107b0 : (t313 == 0) = false := beq_eq_false_iff_ne.mpr c107
                 have c107b1 : (t313 != 0) = true := bne_iff_ne.mpr c107
                 (first | rw [c107b0] | (simp only [i64_w, i32_w]; rw [c107b0]) | skip)
                 have H' := Aside0.mk H
                 clear H
                 go_wp2_with (first | ((with_reducible refine gate_callee (f := 19) rfl ?_); refine goesL_ (some 101) rfl rfl Tryz.func19 (by kernel_rfl) rfl #[.int .i64 a1, .int .i64 3] rfl (by (try simp only [List.map_toArray, List.map_cons, List.map_nil]); first | done | rfl | (simp only [List.length_drop, List.length_take]; rfl)) ?_; (with_reducible refine (l5_within.calls a1 3 t313 _ A106.out).mono ?_); rintro e w' ⟨rfl, ⟨nd, rfl⟩⟩; refine ⟨_, rfl, ?_⟩))
                 go_meet
                 case rel => exact ⟨_, (false), (by first | rfl | (simp; done) | (simp [*]; done)), H', ⟨by have := HK1.out; have := HJ81.out; have := HK3.out; first | omega | exact Nat.le_refl _⟩, ⟨by (with_reducible repeat (first | apply Kd.R_alloc | apply Kd.R_drewN | apply Kd.R_drew)); exact HO_311003.out⟩, ⟨by (with_reducible repeat (first | apply Kd.S_alloc | apply Kd.S_drewN | apply Kd.S_drew)); exact HO_311004.out⟩, ⟨by (with_reducible repeat (first | apply Kd.S_alloc | apply Kd.S_drewN | apply Kd.S_drew)); exact HO_311005.out⟩, ⟨by (with_reducible repeat (first | refine blk_drewN ?_ _ | refine blk_drew ?_ | refine blk_alloc ?_ _)); exact BK310.out⟩, ⟨by repeat (first | (with_reducible exact HR296_3.out) | (with_reducible refine Kd.C_alloc ?_ _) | (with_reducible refine Kd.C_drewN ?_ _) | (with_reducible refine Kd.C_drew ?_) | exact HR296_3.out)⟩, ⟨by repeat (first | (with_reducible exact HR296_4.out) | (with_reducible refine Kd.C_alloc ?_ _) | (with_reducible refine Kd.C_drewN ?_ _) | (with_reducible refine Kd.C_drew ?_) | exact HR296_4.out)⟩, ⟨by repeat (first | (with_reducible exact HR296_5.out) | (with_reducible refine Kd.C_alloc ?_ _) | (with_reducible refine Kd.C_drewN ?_ _) | (with_reducible refine Kd.C_drew ?_) | exact HR296_5.out)⟩, ⟨by repeat (first | (with_reducible first | exact HB.out | apply below_alloc | apply pw_below_drewN | apply below_drew1 | refine below_set ?_ GE310.out) | exact HB.out)⟩⟩
               case rest =>
                clear HC104
                try clear c1
                try clear c2
                try clear p2
                try clear q2
                try clear hx2
                try clear c3
                try clear p3
                try clear q3
                try clear hx3
                try clear c5
                try clear p6
                try clear c7
                try clear c7b0
                try clear c8
                try clear c9
                try clear c10
                try clear c11
                try clear c15
                try clear c15b0
                try clear c16
                try clear c19
                try clear c23
                try clear c29
                try clear p29
                try clear q29
                try clear hx29
                try clear p31
                try clear q31
                try clear hx31
                try clear c37
                try clear c54
                try clear p64
                try clear c72
                try clear c72b0
                try clear c72b1
                try clear c72b2
                try clear c75
                try clear c75b0
                try clear c79
                try clear c79b0
                try clear c80
                try clear c80b0
                try clear c91
                try clear c93
                try clear c94
                try clear c94b0
                try clear c95
                try clear c95b0
                try clear c97
                try clear c97b0
                try clear c98
                try clear c98b0
                try clear c99
                try clear c99b0
                try clear c107
                try clear c107b0
                try clear c107b1
                try clear hcz100_0
                try clear hcz100_1
                try clear hcz100_2
                try clear hcz100_3
                try clear hcz100_4
                try clear hcz100_5
                try clear hcz102_0
                try clear hcz102_1
                try clear hcz102_2
                try clear hcz102_3
                try clear hcz102_4
                try clear hcz102_5
                try clear hcz105_0
                try clear hcz105_1
                try clear hcz105_2
                try clear hcz105_3
                try clear hcz105_4
                try clear hcz105_5
                try clear hcz52_0
                try clear hcz52_1
                try clear hcz52_2
                try clear hcz52_3
                try clear hcz52_4
                try clear hcz52_5
                try clear hcz69_0
                try clear hcz69_1
                try clear hcz69_2
                try clear hcz69_3
                try clear hcz69_4
                try clear hcz69_5
                try clear hcz87_0
                try clear hcz87_1
                try clear hcz87_2
                try clear hcz87_3
                try clear hcz87_4
                try clear hcz87_5
                try clear hcz92_0
                try clear hcz92_1
                try clear hcz92_2
                try clear hcz92_3
                try clear hcz92_4
                try clear hcz92_5
                try clear hfz100_0
                try clear hfz100_1
                try clear hfz100_2
                try clear hfz100_3
                try clear hfz100_4
                try clear hfz100_5
                try clear hfz102_0
                try clear hfz102_1
                try clear hfz102_2
                try clear hfz102_3
                try clear hfz102_4
                try clear hfz102_5
                try clear hfz105_0
                try clear hfz105_1
                try clear hfz105_2
                try clear hfz105_3
                try clear hfz105_4
                try clear hfz105_5
                try clear hfz52_0
                try clear hfz52_1
                try clear hfz52_2
                try clear hfz52_3
                try clear hfz52_4
                try clear hfz52_5
                try clear hfz69_0
                try clear hfz69_1
                try clear hfz69_2
                try clear hfz69_3
                try clear hfz69_4
                try clear hfz69_5
                try clear hfz87_0
                try clear hfz87_1
                try clear hfz87_2
                try clear hfz87_3
                try clear hfz87_4
                try clear hfz87_5
                try clear hfz92_0
                try clear hfz92_1
                try clear hfz92_2
                try clear hfz92_3
                try clear hfz92_4
                try clear hfz92_5
                try clear hx296_0
                try clear hx296_1
                try clear hx296_2
                try clear hx296_3
                try clear hx296_4
                try clear hx296_5
                try clear hx311_0
                try clear hx311_1
                try clear hx311_2
                try clear hx312_0
                try clear hx312_1
                try clear hx312_2
                try clear p2
                try clear p29
                try clear p296
                try clear p311
                try clear p312
                try clear p6
                try clear p64
                try clear q2
                try clear q29
                try clear q296
                try clear q311
                try clear q312
                obtain ⟨kq, x106_103, rfl, HA, HJ103, HO_311003, HO_311004, HO_311005, BK310, HR296_3, HR296_4, HR296_5, HB⟩ := hcut
                cases kq with
                | zero => exact absurd HA.out (by simp [l5_BlobParents.j3])
                | succ kj103 =>
                 have H := HA.out
                 clear HA
                 simp only [l5_BlobParents.j3] at H
                 by_cases c108 : x106_103 = true
                 ·subst c108
                  have H1 : (if (Int.tmod (wrap64 (1 + t280)) 2) = 0 then (if (t300.length : Int) = (wrap64 ((wrap64 (Int.tdiv (wrap64 (1 + t280)) 2)) + 1)) then (if 0 ≤ (wrap64 ((t300.length : Int) - 1)) then (if (wrap64 ((t300.length : Int) - 1)) < (t300.length : Int) then (some (((rd_T46 t300 (wrap64 ((t300.length : Int) - 1))).f2) == (wrap64 ((wrap64 (1 + t280)) - 1)))) else (none)) else (none)) else (some false)) else (if (t300.length : Int) = (wrap64 (Int.tdiv (wrap64 ((wrap64 (1 + t280)) + 1)) 2)) then (if 0 ≤ (wrap64 ((t300.length : Int) - 1)) then (if (wrap64 ((t300.length : Int) - 1)) < (t300.length : Int) then (some (((rd_T46 t300 (wrap64 ((t300.length : Int) - 1))).f2) == (wrap64 ((wrap64 (1 + t280)) - 1)))) else (none)) else (none)) else (some false))) = some r := by rw [if_pos rfl] at H; exact H
                  clear H
                  have H := H1
                  clear H1
                  by_cases c109 : (Int.tmod (wrap64 (1 + t280)) 2) = 0
                  ·rw [if_pos c109] at H
                   have c109b0 : ((Int.tmod (wrap64 (1 + t280)) 2) == 0) = true := beq_iff_eq.mpr c109
                   have c109b1 : ((Int.tmod (wrap64 (1 + t280)) 2) != 0) = false := bne_eq_false_iff_eq.mpr c109
                   clear c109
                   by_cases c110 : (t300.length : Int) = (wrap64 ((wrap64 (Int.tdiv (wrap64 (1 + t280)) 2)) + 1))
                   ·rw [if_pos c110] at H
                    have c110b0 : ((t300.length : Int) == (wrap64 ((wrap64 (Int.tdiv (wrap64 (1 + t280)) 2)) + 1))) = true := beq_iff_eq.mpr c110
                    have c110b1 : ((t300.length : Int) != (wrap64 ((wrap64 (Int.tdiv (wrap64 (1 + t280)) 2)) + 1))) = false := bne_eq_false_iff_eq.mpr c110
                    clear c110
                    obtain ⟨ji111, hji111⟩ : ∃ j_ : Int, (wrap64 ((t300.length : Int) - 1)) = j_ := ⟨_, rfl⟩
                    replace H : (if 0 ≤ (ji111) then (if (ji111) < (t300.length : Int) then (some (((rd_T46 t300 (ji111)).f2) == (wrap64 ((wrap64 (1 + t280)) - 1)))) else (none)) else (none)) = some r := by first | (rw [hji111] at H; exact H) | (simp only [hji111] at H ⊢; exact H)
                    have hji111w : (IntKind.i64.wrap ((t300.length : Int) - 1)) = ji111 := (i64_w _).trans hji111
                    by_cases c112 : 0 ≤ (ji111)
                    ·rw [if_pos c112] at H
                     have c112b0 : decide (0 ≤ (ji111)) = true := decide_eq_true c112
                     clear c112
                     by_cases c113 : (ji111) < (t300.length : Int)
                     ·rw [if_pos c113] at H
                      have c113b0 : decide ((ji111) < (t300.length : Int)) = true := decide_eq_true c113
                      clear c113
                      obtain rfl := Option.some.inj H
                      have hcz114_0 : wc.cell? ⟨gb310, 0, none⟩ = some (.string t297) := (blk_cell BK310.out 0).trans rfl
                      have hcz114_1 : wc.cell? ⟨gb310, 1, none⟩ = some (.int .i64 t298) := (blk_cell BK310.out 1).trans rfl
                      have hcz114_2 : wc.cell? ⟨gb310, 2, none⟩ = some (.int .i64 t299) := (blk_cell BK310.out 2).trans rfl
                      have hcz114_3 : wc.cell? ⟨gb310, 3, none⟩ = some (.slice Ao88 t300.length co88) := (blk_cell BK310.out 3).trans rfl
                      have hcz114_4 : wc.cell? ⟨gb310, 4, none⟩ = some (.slice Ao89 t303.length co89) := (blk_cell BK310.out 4).trans rfl
                      have hcz114_5 : wc.cell? ⟨gb310, 5, none⟩ = some (.slice Ao90 t306.length co90) := (blk_cell BK310.out 5).trans rfl
                      have hfz114_0 := blk_frozen BK310.out 0
                      have hfz114_1 := blk_frozen BK310.out 1
                      have hfz114_2 := blk_frozen BK310.out 2
                      have hfz114_3 := blk_frozen BK310.out 3
                      have hfz114_4 := blk_frozen BK310.out 4
                      have hfz114_5 := blk_frozen BK310.out 5
                      have p314 : 0 ≤ ((ji111) : Int) := of_decide_eq_true (by first | (with_reducible assumption) | assumption)
                      have q314 : (ji111) < (t300.length : Int) := of_decide_eq_true (by first | (with_reducible assumption) | assumption)
                      obtain ⟨ad314, e314, hx314_0, hx314_1, hx314_2⟩ := at_T46 (Kd.R_reads' HO_311003.out).2.2 (ji111) p314 q314
                      cases e314
                      replace p314 := eq_true p314
                      replace q314 := eq_true q314
                      go_wp2
                      go_ret
                      exact ⟨by first | rfl | (simp [errW_none, errW_some] <;> rfl) | (simp only [← hji78, ← hji111]; first | rfl | (simp [errW_none, errW_some] <;> rfl)) | (simp [*, errW_none, errW_some] <;> rfl), by repeat (first | (with_reducible first | exact HB.out | apply below_alloc | apply pw_below_drewN | apply below_drew1 | refine below_set ?_ GE310.out) | exact HB.out)⟩
                     ·rw [if_neg c113] at H
                      exact absurd H (by simp)
                    ·rw [if_neg c112] at H
                     exact absurd H (by simp)
                   ·rw [if_neg c110] at H
                    have c110b0 : ((t300.length : Int) == (wrap64 ((wrap64 (Int.tdiv (wrap64 (1 + t280)) 2)) + 1))) = false := beq_eq_false_iff_ne.mpr c110
                    have c110b1 : ((t300.length : Int) != (wrap64 ((wrap64 (Int.tdiv (wrap64 (1 + t280)) 2)) + 1))) = true := bne_iff_ne.mpr c110
                    obtain rfl := Option.some.inj H
                    have hcz115_0 : wc.cell? ⟨gb310, 0, none⟩ = some (.string t297) := (blk_cell BK310.out 0).trans rfl
                    have hcz115_1 : wc.cell? ⟨gb310, 1, none⟩ = some (.int .i64 t298) := (blk_cell BK310.out 1).trans rfl
                    have hcz115_2 : wc.cell? ⟨gb310, 2, none⟩ = some (.int .i64 t299) := (blk_cell BK310.out 2).trans rfl
                    have hcz115_3 : wc.cell? ⟨gb310, 3, none⟩ = some (.slice Ao88 t300.length co88) := (blk_cell BK310.out 3).trans rfl
                    have hcz115_4 : wc.cell? ⟨gb310, 4, none⟩ = some (.slice Ao89 t303.length co89) := (blk_cell BK310.out 4).trans rfl
                    have hcz115_5 : wc.cell? ⟨gb310, 5, none⟩ = some (.slice Ao90 t306.length co90) := (blk_cell BK310.out 5).trans rfl
                    have hfz115_0 := blk_frozen BK310.out 0
                    have hfz115_1 := blk_frozen BK310.out 1
                    have hfz115_2 := blk_frozen BK310.out 2
                    have hfz115_3 := blk_frozen BK310.out 3
                    have hfz115_4 := blk_frozen BK310.out 4
                    have hfz115_5 := blk_frozen BK310.out 5
                    go_wp2
                    go_ret
                    exact ⟨by first | rfl | (simp [errW_none, errW_some] <;> rfl) | (simp only [← hji78]; first | rfl | (simp [errW_none, errW_some] <;> rfl)) | (simp [*, errW_none, errW_some] <;> rfl), by repeat (first | (with_reducible first | exact HB.out | apply below_alloc | apply pw_below_drewN | apply below_drew1 | refine below_set ?_ GE310.out) | exact HB.out)⟩
                  ·rw [if_neg c109] at H
                   have c109b0 : ((Int.tmod (wrap64 (1 + t280)) 2) == 0) = false := beq_eq_false_iff_ne.mpr c109
                   have c109b1 : ((Int.tmod (wrap64 (1 + t280)) 2) != 0) = true := bne_iff_ne.mpr c109
                   by_cases c116 : (t300.length : Int) = (wrap64 (Int.tdiv (wrap64 ((wrap64 (1 + t280)) + 1)) 2))
                   ·rw [if_pos c116] at H
                    have c116b0 : ((t300.length : Int) == (wrap64 (Int.tdiv (wrap64 ((wrap64 (1 + t280)) + 1)) 2))) = true := beq_iff_eq.mpr c116
                    have c116b1 : ((t300.length : Int) != (wrap64 (Int.tdiv (wrap64 ((wrap64 (1 + t280)) + 1)) 2))) = false := bne_eq_false_iff_eq.mpr c116
                    clear c116
                    obtain ⟨ji117, hji117⟩ : ∃ j_ : Int, (wrap64 ((t300.length : Int) - 1)) = j_ := ⟨_, rfl⟩
                    replace H : (if 0 ≤ (ji117) then (if (ji117) < (t300.length : Int) then (some (((rd_T46 t300 (ji117)).f2) == (wrap64 ((wrap64 (1 + t280)) - 1)))) else (none)) else (none)) = some r := by first | (rw [hji117] at H; exact H) | (simp only [hji117] at H ⊢; exact H)
                    have hji117w : (IntKind.i64.wrap ((t300.length : Int) - 1)) = ji117 := (i64_w _).trans hji117
                    by_cases c118 : 0 ≤ (ji117)
                    ·rw [if_pos c118] at H
                     have c118b0 : decide (0 ≤ (ji117)) = true := decide_eq_true c118
                     clear c118
                     by_cases c119 : (ji117) < (t300.length : Int)
                     ·rw [if_pos c119] at H
                      have c119b0 : decide ((ji117) < (t300.length : Int)) = true := decide_eq_true c119
                      clear c119
                      obtain rfl := Option.some.inj H
                      have hcz120_0 : wc.cell? ⟨gb310, 0, none⟩ = some (.string t297) := (blk_cell BK310.out 0).trans rfl
                      have hcz120_1 : wc.cell? ⟨gb310, 1, none⟩ = some (.int .i64 t298) := (blk_cell BK310.out 1).trans rfl
                      have hcz120_2 : wc.cell? ⟨gb310, 2, none⟩ = some (.int .i64 t299) := (blk_cell BK310.out 2).trans rfl
                      have hcz120_3 : wc.cell? ⟨gb310, 3, none⟩ = some (.slice Ao88 t300.length co88) := (blk_cell BK310.out 3).trans rfl
                      have hcz120_4 : wc.cell? ⟨gb310, 4, none⟩ = some (.slice Ao89 t303.length co89) := (blk_cell BK310.out 4).trans rfl
                      have hcz120_5 : wc.cell? ⟨gb310, 5, none⟩ = some (.slice Ao90 t306.length co90) := (blk_cell BK310.out 5).trans rfl
                      have hfz120_0 := blk_frozen BK310.out 0
                      have hfz120_1 := blk_frozen BK310.out 1
                      have hfz120_2 := blk_frozen BK310.out 2
                      have hfz120_3 := blk_frozen BK310.out 3
                      have hfz120_4 := blk_frozen BK310.out 4
                      have hfz120_5 := blk_frozen BK310.out 5
                      have p315 : 0 ≤ ((ji117) : Int) := of_decide_eq_true (by first | (with_reducible assumption) | assumption)
                      have q315 : (ji117) < (t300.length : Int) := of_decide_eq_true (by first | (with_reducible assumption) | assumption)
                      obtain ⟨ad315, e315, hx315_0, hx315_1, hx315_2⟩ := at_T46 (Kd.R_reads' HO_311003.out).2.2 (ji117) p315 q315
                      cases e315
                      replace p315 := eq_true p315
                      replace q315 := eq_true q315
                      go_wp2
                      go_ret
                      exact ⟨by first | rfl | (simp [errW_none, errW_some] <;> rfl) | (simp only [← hji78, ← hji117]; first | rfl | (simp [errW_none, errW_some] <;> rfl)) | (simp [*, errW_none, errW_some] <;> rfl), by repeat (first | (with_reducible first | exact HB.out | apply below_alloc | apply pw_below_drewN | apply below_drew1 | refine below_set ?_ GE310.out) | exact HB.out)⟩
                     ·rw [if_neg c119] at H
                      exact absurd H (by simp)
                    ·rw [if_neg c118] at H
                     exact absurd H (by simp)
                   ·rw [if_neg c116] at H
                    have c116b0 : ((t300.length : Int) == (wrap64 (Int.tdiv (wrap64 ((wrap64 (1 + t280)) + 1)) 2))) = false := beq_eq_false_iff_ne.mpr c116
                    have c116b1 : ((t300.length : Int) != (wrap64 (Int.tdiv (wrap64 ((wrap64 (1 + t280)) + 1)) 2))) = true := bne_iff_ne.mpr c116
                    obtain rfl := Option.some.inj H
                    have hcz121_0 : wc.cell? ⟨gb310, 0, none⟩ = some (.string t297) := (blk_cell BK310.out 0).trans rfl
                    have hcz121_1 : wc.cell? ⟨gb310, 1, none⟩ = some (.int .i64 t298) := (blk_cell BK310.out 1).trans rfl
                    have hcz121_2 : wc.cell? ⟨gb310, 2, none⟩ = some (.int .i64 t299) := (blk_cell BK310.out 2).trans rfl
                    have hcz121_3 : wc.cell? ⟨gb310, 3, none⟩ = some (.slice Ao88 t300.length co88) := (blk_cell BK310.out 3).trans rfl
                    have hcz121_4 : wc.cell? ⟨gb310, 4, none⟩ = some (.slice Ao89 t303.length co89) := (blk_cell BK310.out 4).trans rfl
                    have hcz121_5 : wc.cell? ⟨gb310, 5, none⟩ = some (.slice Ao90 t306.length co90) := (blk_cell BK310.out 5).trans rfl
                    have hfz121_0 := blk_frozen BK310.out 0
                    have hfz121_1 := blk_frozen BK310.out 1
                    have hfz121_2 := blk_frozen BK310.out 2
                    have hfz121_3 := blk_frozen BK310.out 3
                    have hfz121_4 := blk_frozen BK310.out 4
                    have hfz121_5 := blk_frozen BK310.out 5
                    go_wp2
                    go_ret
                    exact ⟨by first | rfl | (simp [errW_none, errW_some] <;> rfl) | (simp only [← hji78]; first | rfl | (simp [errW_none, errW_some] <;> rfl)) | (simp [*, errW_none, errW_some] <;> rfl), by repeat (first | (with_reducible first | exact HB.out | apply below_alloc | apply pw_below_drewN | apply below_drew1 | refine below_set ?_ GE310.out) | exact HB.out)⟩
                 ·replace c108 := Bool.eq_false_iff.mpr c108
                  subst c108
                  have H1 : (if (t300.length : Int) = (wrap64 (1 + t280)) then (if 0 ≤ (wrap64 ((t300.length : Int) - 1)) then (if (wrap64 ((t300.length : Int) - 1)) < (t300.length : Int) then (some (((rd_T46 t300 (wrap64 ((t300.length : Int) - 1))).f2) == (wrap64 ((wrap64 (1 + t280)) - 1)))) else (none)) else (none)) else (some false)) = some r := by rw [if_neg (show ¬ (false = true) by decide)] at H; exact H
                  clear H
                  have H := H1
                  clear H1
                  by_cases c122 : (t300.length : Int) = (wrap64 (1 + t280))
                  ·rw [if_pos c122] at H
                   have c122b0 : ((t300.length : Int) == (wrap64 (1 + t280))) = true := beq_iff_eq.mpr c122
                   have c122b1 : ((t300.length : Int) != (wrap64 (1 + t280))) = false := bne_eq_false_iff_eq.mpr c122
                   clear c122
                   obtain ⟨ji123, hji123⟩ : ∃ j_ : Int, (wrap64 ((t300.length : Int) - 1)) = j_ := ⟨_, rfl⟩
                   replace H : (if 0 ≤ (ji123) then (if (ji123) < (t300.length : Int) then (some (((rd_T46 t300 (ji123)).f2) == (wrap64 ((wrap64 (1 + t280)) - 1)))) else (none)) else (none)) = some r := by first | (rw [hji123] at H; exact H) | (simp only [hji123] at H ⊢; exact H)
                   have hji123w : (IntKind.i64.wrap ((t300.length : Int) - 1)) = ji123 := (i64_w _).trans hji123
                   by_cases c124 : 0 ≤ (ji123)
                   ·rw [if_pos c124] at H
                    have c124b0 : decide (0 ≤ (ji123)) = true := decide_eq_true c124
                    clear c124
                    by_cases c125 : (ji123) < (t300.length : Int)
                    ·rw [if_pos c125] at H
                     have c125b0 : decide ((ji123) < (t300.length : Int)) = true := decide_eq_true c125
                     clear c125
                     obtain rfl := Option.some.inj H
                     have hcz126_0 : wc.cell? ⟨gb310, 0, none⟩ = some (.string t297) := (blk_cell BK310.out 0).trans rfl
                     have hcz126_1 : wc.cell? ⟨gb310, 1, none⟩ = some (.int .i64 t298) := (blk_cell BK310.out 1).trans rfl
                     have hcz126_2 : wc.cell? ⟨gb310, 2, none⟩ = some (.int .i64 t299) := (blk_cell BK310.out 2).trans rfl
                     have hcz126_3 : wc.cell? ⟨gb310, 3, none⟩ = some (.slice Ao88 t300.length co88) := (blk_cell BK310.out 3).trans rfl
                     have hcz126_4 : wc.cell? ⟨gb310, 4, none⟩ = some (.slice Ao89 t303.length co89) := (blk_cell BK310.out 4).trans rfl
                     have hcz126_5 : wc.cell? ⟨gb310, 5, none⟩ = some (.slice Ao90 t306.length co90) := (blk_cell BK310.out 5).trans rfl
                     have hfz126_0 := blk_frozen BK310.out 0
                     have hfz126_1 := blk_frozen BK310.out 1
                     have hfz126_2 := blk_frozen BK310.out 2
                     have hfz126_3 := blk_frozen BK310.out 3
                     have hfz126_4 := blk_frozen BK310.out 4
                     have hfz126_5 := blk_frozen BK310.out 5
                     have p316 : 0 ≤ ((ji123) : Int) := of_decide_eq_true (by first | (with_reducible assumption) | assumption)
                     have q316 : (ji123) < (t300.length : Int) := of_decide_eq_true (by first | (with_reducible assumption) | assumption)
                     obtain ⟨ad316, e316, hx316_0, hx316_1, hx316_2⟩ := at_T46 (Kd.R_reads' HO_311003.out).2.2 (ji123) p316 q316
                     cases e316
                     replace p316 := eq_true p316
                     replace q316 := eq_true q316
                     go_wp2
                     go_ret
                     exact ⟨by first | rfl | (simp [errW_none, errW_some] <;> rfl) | (simp only [← hji78, ← hji123]; first | rfl | (simp [errW_none, errW_some] <;> rfl)) | (simp [*, errW_none, errW_some] <;> rfl), by repeat (first | (with_reducible first | exact HB.out | apply below_alloc | apply pw_below_drewN | apply below_drew1 | refine below_set ?_ GE310.out) | exact HB.out)⟩
                    ·rw [if_neg c125] at H
                     exact absurd H (by simp)
                   ·rw [if_neg c124] at H
                    exact absurd H (by simp)
                  ·rw [if_neg c122] at H
                   have c122b0 : ((t300.length : Int) == (wrap64 (1 + t280))) = false := beq_eq_false_iff_ne.mpr c122
                   have c122b1 : ((t300.length : Int) != (wrap64 (1 + t280))) = true := bne_iff_ne.mpr c122
                   obtain rfl := Option.some.inj H
                   have hcz127_0 : wc.cell? ⟨gb310, 0, none⟩ = some (.string t297) := (blk_cell BK310.out 0).trans rfl
                   have hcz127_1 : wc.cell? ⟨gb310, 1, none⟩ = some (.int .i64 t298) := (blk_cell BK310.out 1).trans rfl
                   have hcz127_2 : wc.cell? ⟨gb310, 2, none⟩ = some (.int .i64 t299) := (blk_cell BK310.out 2).trans rfl
                   have hcz127_3 : wc.cell? ⟨gb310, 3, none⟩ = some (.slice Ao88 t300.length co88) := (blk_cell BK310.out 3).trans rfl
                   have hcz127_4 : wc.cell? ⟨gb310, 4, none⟩ = some (.slice Ao89 t303.length co89) := (blk_cell BK310.out 4).trans rfl
                   have hcz127_5 : wc.cell? ⟨gb310, 5, none⟩ = some (.slice Ao90 t306.length co90) := (blk_cell BK310.out 5).trans rfl
                   have hfz127_0 := blk_frozen BK310.out 0
                   have hfz127_1 := blk_frozen BK310.out 1
                   have hfz127_2 := blk_frozen BK310.out 2
                   have hfz127_3 := blk_frozen BK310.out 3
                   have hfz127_4 := blk_frozen BK310.out 4
                   have hfz127_5 := blk_frozen BK310.out 5
                   go_wp2
                   go_ret
                   exact ⟨by first | rfl | (simp [errW_none, errW_some] <;> rfl) | (simp only [← hji78]; first | rfl | (simp [errW_none, errW_some] <;> rfl)) | (simp [*, errW_none, errW_some] <;> rfl), by repeat (first | (with_reducible first | exact HB.out | apply below_alloc | apply pw_below_drewN | apply below_drew1 | refine below_set ?_ GE310.out) | exact HB.out)⟩
        ·rw [if_neg c80] at H
         exact absurd H (by simp)
       ·rw [if_neg c79] at H
        exact absurd H (by simp)
 ·replace c4 := Bool.eq_false_iff.mpr c4
  subst c4
  have H1 : (some false) = some r := by rw [if_neg (show ¬ (false = true) by decide)] at H; exact H
  clear H
  have H := H1
  clear H1
  obtain rfl := Option.some.inj H
  go_enter Tryz.func9, Tryz.ntmps9
  go_wp2_with (first | ((with_reducible refine gate_callee (f := 11) rfl ?_); refine goesL_ (some 13) rfl rfl Tryz.func11 (by kernel_rfl) rfl #[] rfl (by (try simp only [List.map_toArray, List.map_cons, List.map_nil]); first | done | rfl | (simp only [List.length_drop, List.length_take]; rfl)) ?_; (with_reducible refine (l5_known.calls  false _ A3.out).mono ?_); rintro e w128 ⟨rfl, hb⟩; refine ⟨_, rfl, ?_⟩; have n0_ := Aside0.mk (below_step (by repeat (first | (with_reducible first | exact HB.out | apply below_alloc | apply pw_below_drewN | apply below_drew1) | exact HB.out)) hb); clear HB; have HB := n0_; clear n0_; (try clear hb); (try clear hb2); (try clear hk); (try clear hi)))
  go_ret
  exact ⟨by first | rfl | (simp [errW_none, errW_some] <;> rfl) | (simp [*, errW_none, errW_some] <;> rfl), by repeat (first | (with_reducible first | exact HB.out | apply below_alloc | apply pw_below_drewN | apply below_drew1) | exact HB.out)⟩
def l5_BlobParents.Pure : Prop := ∀ (a0 : Int) (a1 : Int), (Lit.int .i64 a0).wf = true → (Lit.int .i64 a1).wf = true → ∃ k, l5_BlobParents.f k a0 a1 = some true
theorem l5_BlobParents.walk (P : l5_BlobParents.Pure) (a0 : Int) (a1 : Int) (w : World) (w0 : (Lit.int .i64 a0).wf = true) (w1 : (Lit.int .i64 a1).wf = true) :
  Calls Tryz.prog 9 #[.int .i64 a0, .int .i64 a1] w fun e w' => e = .returned (.bool true) ∧ Below w.heap.size w w' := by
 obtain ⟨k, h⟩ := P a0 a1 w0 w1
 refine (l5_BlobParents.calls k a0 a1 true w h).mono ?_
 rintro e w' ⟨rfl, hd⟩
 exact ⟨rfl, hd⟩
end Go.Proofs.YtiocgaekoeekgaaGreat.P
end
