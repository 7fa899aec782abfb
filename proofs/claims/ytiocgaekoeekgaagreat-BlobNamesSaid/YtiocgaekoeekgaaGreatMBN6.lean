/- Names are of small letters, digits and dashes, and no two are one: the program and the document tell alike of any two names. Part 6: contracts of the functions that the law reaches, and words for them. -/
import Derived.Test.YtiocgaekoeekgaaGreatMBN5
section
namespace Go.Proofs.YtiocgaekoeekgaaGreat.P
open Go.RowKit Go.Proofs.YtiocgaekoeekgaaGreatW.PrintWords Go.Proofs.YtiocgaekoeekgaaGreatW.PrintLast Go.Proofs.YtiocgaekoeekgaaGreatW.PrintMore
attribute [local go_sem] max2_int min2_int max_two min_two max_three min_three max_four min_four   
set_option linter.unusedVariables false
set_option linter.unusedSimpArgs false
noncomputable def l5_BlobNames.j0 : Nat → ByteArray → ByteArray → Bool → Option (Bool)
 | 0, _, _, _ => none
 | k + 1, x0, x1, x15 => if x15 = true then (some true) else ((some (([(⟨x0, (-1), 0, ([] : List (S46)), ([] : List (S56)), ([] : List (S52))⟩ : S44), (⟨x1, (-1), 0, ([] : List (S46)), ([] : List (S56)), ([] : List (S52))⟩ : S44)] : List (S44)) : List (S44))).bind fun y191 => ((blob_Right.f y191).bind fun t194 => ((r5_Right.f y191).bind fun t195 => (if (t194 == t195) = true then (if x0.toList = x1.toList then ((blob_Right.f y191).bind fun t196 => (if t196 = true then (some false) else (if 1 ≤ (y191.length : Int) then ((blob_Right.f (y191.take 1)).bind fun t201 => ((r5_Right.f (y191.take 1)).bind fun t206 => (some (t201 == t206)))) else (none)))) else (if 1 ≤ (y191.length : Int) then ((blob_Right.f (y191.take 1)).bind fun t211 => ((r5_Right.f (y191.take 1)).bind fun t216 => (some (t211 == t216)))) else (none))) else (some false)))))
noncomputable def l5_BlobNames.f (k : Nat) (a0 : ByteArray) (a1 : ByteArray) : Option (Bool) := (l5_known.f).bind fun t190 => (if t190 = true then (if (a0.size : Int) > 60 then (l5_BlobNames.j0 k a0 a1 true) else (l5_BlobNames.j0 k a0 a1 (decide ((a1.size : Int) > 60)))) else (some false))
theorem l5_BlobNames.mono_l : ∀ k, (∀ y0 y1 y2, LeO (l5_BlobNames.j0 k y0 y1 y2) (l5_BlobNames.j0 (k + 1) y0 y1 y2))
 | 0 => fun _ _ _ r h => by simp [l5_BlobNames.j0] at h
 | k + 1 => by
  have ih0 := l5_BlobNames.mono_l k
  ·intro y0 y1 y2
   unfold l5_BlobNames.j0
   repeat' first
   | (with_reducible exact ih0 _ _ _)
   | (with_reducible exact LeO.refl _)
   | (with_reducible exact LeO.none _)
   | (with_reducible refine LeO.ite ?_ ?_)
   | (with_reducible refine LeO.bind ?_ (fun _ => ?_))
   | exact ih0 _ _ _
   | exact LeO.none _
   | refine LeO.ite ?_ ?_
   | refine LeO.bind ?_ (fun _ => ?_)
theorem l5_BlobNames.mono : ∀ a0 a1 k, LeO (l5_BlobNames.f k a0 a1) (l5_BlobNames.f (k + 1) a0 a1) := by
 intro a0 a1 k
 have ih0 := l5_BlobNames.mono_l k
 unfold l5_BlobNames.f
 repeat' first
   | (with_reducible exact ih0 _ _ _)
   | (with_reducible exact LeO.refl _)
   | (with_reducible exact LeO.none _)
   | (with_reducible refine LeO.ite ?_ ?_)
   | (with_reducible refine LeO.bind ?_ (fun _ => ?_))
   | exact ih0 _ _ _
   | exact LeO.none _
   | refine LeO.ite ?_ ?_
   | refine LeO.bind ?_ (fun _ => ?_)
def l5_BlobNames.T6 : Bool × List (List Nat × List Nat) := (true, [([], []), ([0], [0]), ([], []), ([2, 1], [2]), ([1, 3], [1, 3]), ([4, 3], [4]), ([5], [5]), ([5], [5]), ([6, 7, 5], [5, 6, 7]), ([8, 5, 5], [5, 8]), ([9], [9]), ([10, 9, 9], [9, 10]), ([11, 9], [9, 11]), ([9, 12, 5], [5, 9, 12]), ([5, 13], [5, 13]), ([14, 11], [14]), ([15], [15]), ([16, 15], [15, 16]), ([17, 15, 15], [15, 17]), ([15], [15]), ([19, 15], [15, 19]), ([20, 18, 15], [15, 20]), ([18, 21, 15], [15, 18, 21]), ([15, 22], [15, 22]), ([23, 21, 0, 1, 2, 3, 4, 5, 6, 7, 8, 9, 10, 11, 12, 13, 14, 15, 16, 17, 18, 19, 20, 21, 22, 23], [23])])
def l5_BlobNames.B6 : List Nat := [0, 1, 0, 7, 15, 31, 63, 63, 255, 511, 1023, 2047, 4095, 8191, 16383, 32767, 65535, 131071, 262143, 65535, 589823, 2097151, 4194303, 8388607, 16777215]
theorem l5_BlobNames.tab6 : rtab .any (opsOf Tryz.f8 6) = l5_BlobNames.T6 := by kernel_rfl
theorem l5_BlobNames.bits6 : waitsOk l5_BlobNames.T6.2 l5_BlobNames.B6 = true := by kernel_rfl
set_option maxHeartbeats 8000000 in
set_option maxRecDepth 100000 in
theorem l5_BlobNames.calls (k : Nat) (a0 : ByteArray) (a1 : ByteArray) (r : Bool) (w : World) (h : l5_BlobNames.f k a0 a1 = some r) :
  Calls Tryz.prog 8 #[.string a0, .string a1] w fun e w' => e = .returned (.bool r) ∧ Below w.heap.size w w' := by
 have hu44 := Tryz.underlying44
 have HB := Aside0.mk (Below.refl w.heap.size w)
 have H : ((l5_known.f).bind fun t190 => (if t190 = true then (if (a0.size : Int) > 60 then (l5_BlobNames.j0 k a0 a1 true) else (l5_BlobNames.j0 k a0 a1 (decide ((a1.size : Int) > 60)))) else (some false))) = some r := h
 clear h
 replace H := Option.bind_eq_some_iff.mp H
 obtain ⟨t190, A30, H⟩ := H
 replace H : (if t190 = true then (if (a0.size : Int) > 60 then (l5_BlobNames.j0 k a0 a1 true) else (l5_BlobNames.j0 k a0 a1 (decide ((a1.size : Int) > 60)))) else (some false)) = some r := H
 have A3 := Aside0.mk A30
 clear A30
 by_cases c4 : t190 = true
 ·subst c4
  have H1 : (if (a0.size : Int) > 60 then (l5_BlobNames.j0 k a0 a1 true) else (l5_BlobNames.j0 k a0 a1 (decide ((a1.size : Int) > 60)))) = some r := by rw [if_pos rfl] at H; exact H
  clear H
  have H := H1
  clear H1
  have HC5 := Aside0.mk H
  clear H
  go_enter Tryz.func8, Tryz.ntmps8
  go_upto_region 3 with (first | ((with_reducible refine gate_callee (f := 11) rfl ?_); refine goesL_ (some 6) rfl rfl Tryz.func11 (by kernel_rfl) rfl #[] rfl (by (try simp only [List.map_toArray, List.map_cons, List.map_nil]); first | done | rfl | (simp only [List.length_drop, List.length_take]; rfl)) ?_; (with_reducible refine (l5_known.calls  true _ A3.out).mono ?_); rintro e w6 ⟨rfl, hb⟩; refine ⟨_, rfl, ?_⟩; have n0_ := Aside0.mk (below_step (by repeat (first | (with_reducible first | exact HB.out | apply below_alloc | apply pw_below_drewN | apply below_drew1) | exact HB.out)) hb); clear HB; have HB := n0_; clear n0_; (try clear hb); (try clear hb2); (try clear hk); (try clear hi)))
  (try simp only [Act.put, s1_, s2_, s3_])
  go_cut [15] (fun v15 wc => ∃ (kq : Nat) (x15_4 : Bool), v15 = .bool x15_4 ∧ Aside0 (l5_BlobNames.j0 kq a0 a1 x15_4 = some r) ∧ Aside0 (kq ≤ k) ∧ Aside0 (Below w.heap.size w wc))
  case first =>
   have H := HC5.out
   clear HC5
   by_cases c7 : (a0.size : Int) > 60
   ·rw [if_pos c7] at H
    have c7b0 : decide (60 < (a0.size : Int)) = true := decide_eq_true c7
    have c7b1 : decide (60 < a0.size) = true := decide_eq_true (by omega)
    clear c7
    (first | rw [c7b0] | (simp only [i64_w, i32_w]; rw [c7b0]) | skip)
    have H' := Aside0.mk H
    clear H
    go_wp2
    go_meet
    case rel => exact ⟨_, (true), (by first | rfl | (simp; done) | (simp [*]; done)), H', ⟨by first | omega | exact Nat.le_refl _⟩, ⟨by repeat (first | (with_reducible first | exact HB.out | apply below_alloc | apply pw_below_drewN | apply below_drew1) | exact HB.out)⟩⟩
   ·rw [if_neg c7] at H
    have c7b0 : decide (60 < (a0.size : Int)) = false := decide_eq_false c7
    have c7b1 : decide (60 < a0.size) = false := decide_eq_false (by omega)
    clear c7
    (first | rw [c7b0] | (simp only [i64_w, i32_w]; rw [c7b0]) | skip)
    have H' := Aside0.mk H
    clear H
    go_wp2
    go_meet
    case rel => exact ⟨_, (decide ((a1.size : Int) > 60)), (by first | rfl | (simp; done) | (simp [*]; done)), H', ⟨by first | omega | exact Nat.le_refl _⟩, ⟨by repeat (first | (with_reducible first | exact HB.out | apply below_alloc | apply pw_below_drewN | apply below_drew1) | exact HB.out)⟩⟩
  case rest =>
   clear HC5
   try clear c1
   try clear p2
   try clear c4
   try clear c7
   try clear c7b0
   try clear c7b1
   obtain ⟨kq, x15_4, rfl, HA, HJ4, HB⟩ := hcut
   cases kq with
   | zero => exact absurd HA.out (by simp [l5_BlobNames.j0])
   | succ kj4 =>
    have H := HA.out
    clear HA
    simp only [l5_BlobNames.j0] at H
    by_cases c8 : x15_4 = true
    ·subst c8
     have H1 : (some true) = some r := by rw [if_pos rfl] at H; exact H
     clear H
     have H := H1
     clear H1
     obtain rfl := Option.some.inj H
     go_wp2
     go_ret
     exact ⟨by first | rfl | (simp [errW_none, errW_some] <;> rfl) | (simp [*, errW_none, errW_some] <;> rfl), by repeat (first | (with_reducible first | exact HB.out | apply below_alloc | apply pw_below_drewN | apply below_drew1) | exact HB.out)⟩
    ·replace c8 := Bool.eq_false_iff.mpr c8
     subst c8
     have H1 : ((some (([(⟨a0, (-1), 0, ([] : List (S46)), ([] : List (S56)), ([] : List (S52))⟩ : S44), (⟨a1, (-1), 0, ([] : List (S46)), ([] : List (S56)), ([] : List (S52))⟩ : S44)] : List (S44)) : List (S44))).bind fun y191 => ((blob_Right.f y191).bind fun t194 => ((r5_Right.f y191).bind fun t195 => (if (t194 == t195) = true then (if a0.toList = a1.toList then ((blob_Right.f y191).bind fun t196 => (if t196 = true then (some false) else (if 1 ≤ (y191.length : Int) then ((blob_Right.f (y191.take 1)).bind fun t201 => ((r5_Right.f (y191.take 1)).bind fun t206 => (some (t201 == t206)))) else (none)))) else (if 1 ≤ (y191.length : Int) then ((blob_Right.f (y191.take 1)).bind fun t211 => ((r5_Right.f (y191.take 1)).bind fun t216 => (some (t211 == t216)))) else (none))) else (some false))))) = some r := by rw [if_neg (show ¬ (false = true) by decide)] at H; exact H
     clear H
     have H := H1
     clear H1
     obtain ⟨y191, hy191⟩ : ∃ y_ : List (S44), y_ = (([(⟨a0, (-1), 0, ([] : List (S46)), ([] : List (S56)), ([] : List (S52))⟩ : S44), (⟨a1, (-1), 0, ([] : List (S46)), ([] : List (S56)), ([] : List (S52))⟩ : S44)] : List (S44))) := ⟨_, rfl⟩
     replace H : ((blob_Right.f y191).bind fun t194 => ((r5_Right.f y191).bind fun t195 => (if (t194 == t195) = true then (if a0.toList = a1.toList then ((blob_Right.f y191).bind fun t196 => (if t196 = true then (some false) else (if 1 ≤ (y191.length : Int) then ((blob_Right.f (y191.take 1)).bind fun t201 => ((r5_Right.f (y191.take 1)).bind fun t206 => (some (t201 == t206)))) else (none)))) else (if 1 ≤ (y191.length : Int) then ((blob_Right.f (y191.take 1)).bind fun t211 => ((r5_Right.f (y191.take 1)).bind fun t216 => (some (t211 == t216)))) else (none))) else (some false)))) = some r := by first | (rw [hy191]; with_reducible exact H) | (have H2_ := (Option.bind_some _ _).symm.trans H; rw [hy191]; with_reducible exact H2_) | (have H2_ := (Option.bind_some _ _).symm.trans H; with_reducible exact H2_) | with_reducible exact H | (rw [hy191]; exact H) | exact H
     have Ny191 := Aside0.mk hy191
     clear hy191
     replace H := Option.bind_eq_some_iff.mp H
     obtain ⟨t194, A90, H⟩ := H
     replace H : ((r5_Right.f y191).bind fun t195 => (if (t194 == t195) = true then (if a0.toList = a1.toList then ((blob_Right.f y191).bind fun t196 => (if t196 = true then (some false) else (if 1 ≤ (y191.length : Int) then ((blob_Right.f (y191.take 1)).bind fun t201 => ((r5_Right.f (y191.take 1)).bind fun t206 => (some (t201 == t206)))) else (none)))) else (if 1 ≤ (y191.length : Int) then ((blob_Right.f (y191.take 1)).bind fun t211 => ((r5_Right.f (y191.take 1)).bind fun t216 => (some (t211 == t216)))) else (none))) else (some false))) = some r := H
     have A9 := Aside0.mk A90
     clear A90
     replace H := Option.bind_eq_some_iff.mp H
     obtain ⟨t195, A100, H⟩ := H
     replace H : (if (t194 == t195) = true then (if a0.toList = a1.toList then ((blob_Right.f y191).bind fun t196 => (if t196 = true then (some false) else (if 1 ≤ (y191.length : Int) then ((blob_Right.f (y191.take 1)).bind fun t201 => ((r5_Right.f (y191.take 1)).bind fun t206 => (some (t201 == t206)))) else (none)))) else (if 1 ≤ (y191.length : Int) then ((blob_Right.f (y191.take 1)).bind fun t211 => ((r5_Right.f (y191.take 1)).bind fun t216 => (some (t211 == t216)))) else (none))) else (some false)) = some r := H
     have A10 := Aside0.mk A100
     clear A100
     by_cases c11 : (t194 == t195) = true
     ·rw [if_pos c11] at H
      have c11b0 : (t194 == t195) = true := c11
      (try (have c11b1 : decide (t194 = t195) = true := by simpa using c11))
      (try (have c11b2 : (t194 == t195) = true := by simpa using c11))
      clear c11
      by_cases c12 : a0.toList = a1.toList
      ·rw [if_pos c12] at H
       have c12b0 : (a0.toList == a1.toList) = true := beq_iff_eq.mpr c12
       have c12b1 : (a0.toList != a1.toList) = false := bne_eq_false_iff_eq.mpr c12
       clear c12
       replace H := Option.bind_eq_some_iff.mp H
       obtain ⟨t196, A130, H⟩ := H
       replace H : (if t196 = true then (some false) else (if 1 ≤ (y191.length : Int) then ((blob_Right.f (y191.take 1)).bind fun t201 => ((r5_Right.f (y191.take 1)).bind fun t206 => (some (t201 == t206)))) else (none))) = some r := H
       have A13 := Aside0.mk A130
       clear A130
       by_cases c14 : t196 = true
       ·subst c14
        have H1 : (some false) = some r := by rw [if_pos rfl] at H; exact H
        clear H
        have H := H1
        clear H1
        obtain rfl := Option.some.inj H
        try go_wp2_with (first | ((with_reducible refine gate_dst (N := 20) rfl ?_); (try (refine gate_guard (by rfl) ?_; dsimp only)); refine Kd.R_lit k44 _ 44 ?hg (N := 20) ?hd (xs := ([(⟨a0, (-1), 0, ([] : List (S46)), ([] : List (S56)), ([] : List (S52))⟩ : S44), (⟨a1, (-1), 0, ([] : List (S46)), ([] : List (S56)), ([] : List (S52))⟩ : S44)] : List (S44))) (inner := [.string a0, .int .i64 (-1), .int .i64 0, .slice none 0 0, .slice none 0 0, .slice none 0 0, .string a1, .int .i64 (-1), .int .i64 0, .slice none 0 0, .slice none 0 0, .slice none 0 0]) (ok := fun _ => True) (okp := fun _ => True) ?hr ?hp (fun _ hk => hk) trivial (Below.refl _ _) (Nat.le_refl _) (by simp) ?_; (case hd => rfl); (case hg => rfl); (case hr => first | (go_simp; done) | (go_simp; rfl)); (case hp => exact (Reps.c6 (show Kd.M k44 _ _ _ (⟨a0, (-1), 0, ([] : List (S46)), ([] : List (S56)), ([] : List (S52))⟩ : S44) [.string a0, .int .i64 (-1), .int .i64 0, .slice none 0 0, .slice none 0 0, .slice none 0 0] from (k44_mkM _ _ _ (⟨a0, (-1), 0, ([] : List (S46)), ([] : List (S56)), ([] : List (S52))⟩ : S44) (Kd.R_nil _ _ _ _ _) (Kd.R_nil _ _ _ _ _) (Kd.R_nil _ _ _ _ _))) (Reps.c6 (show Kd.M k44 _ _ _ (⟨a1, (-1), 0, ([] : List (S46)), ([] : List (S56)), ([] : List (S52))⟩ : S44) [.string a1, .int .i64 (-1), .int .i64 0, .slice none 0 0, .slice none 0 0, .slice none 0 0] from (k44_mkM _ _ _ (⟨a1, (-1), 0, ([] : List (S46)), ([] : List (S56)), ([] : List (S52))⟩ : S44) (Kd.R_nil _ _ _ _ _) (Kd.R_nil _ _ _ _ _) (Kd.R_nil _ _ _ _ _))) (Reps.none _ _)))); intro v192 w15 ho16 hb hg_ hnew_; clear hg_ hnew_; (first | rw [← Ny191.out] at ho16 | (simp only [Int.reduceToNat] at ho16; rw [← Ny191.out] at ho16)); have n0_ := Aside0.mk (Kd.R_lower ho16 (below_size (by repeat (first | (with_reducible first | exact HB.out | apply below_alloc | apply pw_below_drewN | apply below_drew1) | exact HB.out)))); have n1_ := Aside0.mk (below_step (by repeat (first | (with_reducible first | exact HB.out | apply below_alloc | apply pw_below_drewN | apply below_drew1) | exact HB.out)) hb); clear HB; have HO193 := n0_; have HB := n1_; clear n0_ n1_; clear hb ho16))
        have n0_ := Aside0.mk (Kd.R_drew HO193.out)
        have n1_ := Aside0.mk (below_drew1 HB.out)
        clear HO193
        clear HB
        have HO193 := n0_
        have HB := n1_
        clear n0_ n1_
        obtain ⟨Ao18, co18, eo18⟩ := Kd.R_slice HO193.out
        (first | subst eo18 | (injection eo18 with f1_ f2_ f3_; have f4_ := f1_.symm; have f5_ := f3_.symm; clear f1_ f2_ f3_; subst f4_; subst f5_))
        refine start_ (n := 25) (S := fun w' => True) (ds := []) (f_ 25 0) (by kernel_rfl) rfl rfl trivial (fun hHeld => ?_); refine with_tabW l5_BlobNames.tab6 l5_BlobNames.bits6 (fun HT_ HW_ => ?_)
        generalize w15.drew = w17 at HO193 HB hHeld ⊢
        refine pure_ (i := 0) (N := some 21) (v := ?_) (a' := ?_) (f_ 25 1) rfl rfl (any_of HT_.out (by kernel_rfl)) (fun _ _ _ h => h) (Or.inl ⟨by rfl, ?_⟩) ?_ ?_
        rotate_left
        ·intro w'
         go_simp
         with_reducible rfl
        rotate_left
        ·simp only [Act.put, s1_, s2_, s3_, i64_w, i32_w]
         rfl
        refine pure_ (i := 2) (N := some 23) (v := ?_) (a' := ?_) #[true, false, true, false, false, false, false, false, false, false, false, false, false, false, false, false, false, false, false, false, false, false, false, false, false] rfl rfl (any_of HT_.out (by kernel_rfl)) (fun _ _ _ h => h) (Or.inl ⟨by rfl, ?_⟩) ?_ ?_
        rotate_left
        ·intro w'
         go_simp
         with_reducible rfl
        rotate_left
        ·simp only [Act.put, s1_, s2_, s3_, i64_w, i32_w]
         rfl
        refine one_ (i := 1) (N := some 22) (f_ 25 3) rfl rfl (one_of HT_.out (by kernel_rfl)) (by decide) (fun K hK => ?_)
        refine goes_ Tryz.func16 (by kernel_rfl) rfl #[.slice Ao18 y191.length co18] (by rfl) rfl rfl (by (try simp only [List.map_toArray, List.map_cons, List.map_nil]); first | done | rfl | (simp only [List.length_drop, List.length_take]; rfl)) ?_
        with_reducible refine (blob_Right.calls _ _ y191 t194 _ ?side1 ?side2 A9.out).mono ?_
        (case side1 => repeat (first | exact (Kd.R_reads' HO193.out).2.2 | (with_reducible refine Kd.C_alloc ?_ _) | (with_reducible refine Kd.C_drewN ?_ _) | (with_reducible refine Kd.C_drew ?_)))
        (case side2 => exact (Kd.R_reads' HO193.out).2.1)
        rintro e w19 ⟨rfl, hb⟩
        refine ⟨_, rfl, ?_⟩
        have n0_ := Aside0.mk (Kd.R_below (by (with_reducible repeat (first | apply Kd.R_alloc | apply Kd.R_drewN | apply Kd.R_drew)); exact HO193.out) hb)
        have n1_ := Aside0.mk (below_step (by repeat (first | (with_reducible first | exact HB.out | apply below_alloc | apply pw_below_drewN | apply below_drew1) | exact HB.out)) hb)
        clear HO193
        clear HB
        have HO193 := n0_
        have HB := n1_
        clear n0_ n1_
        (try clear hb)
        (try clear hb2)
        (try clear hk)
        (try clear hi)
        refine hK.out _ _ trivial (fun hHeld => ?_)
        clear hK K
        refine norm_ (a' := ?_) ?_ ?_
        rotate_left
        ·show Act.put _ (some 22) _ = _
         simp only [Act.put, s1_, s2_, s3_, i64_w, i32_w]
         rfl
        refine one_ (i := 3) (N := some 24) (f_ 25 4) rfl rfl (one_of HT_.out (by kernel_rfl)) (by decide) (fun K hK => ?_)
        refine goes_ Tryz.func22 (by kernel_rfl) rfl #[.slice Ao18 y191.length co18] (by rfl) rfl rfl (by (try simp only [List.map_toArray, List.map_cons, List.map_nil]); first | done | rfl | (simp only [List.length_drop, List.length_take]; rfl)) ?_
        with_reducible refine (r5_Right.calls _ _ y191 t195 _ ?side1 ?side2 A10.out).mono ?_
        (case side1 => repeat (first | exact (Kd.R_reads' HO193.out).2.2 | (with_reducible refine Kd.C_alloc ?_ _) | (with_reducible refine Kd.C_drewN ?_ _) | (with_reducible refine Kd.C_drew ?_)))
        (case side2 => exact (Kd.R_reads' HO193.out).2.1)
        rintro e w20 ⟨rfl, hb⟩
        refine ⟨_, rfl, ?_⟩
        have n0_ := Aside0.mk (Kd.R_below (by (with_reducible repeat (first | apply Kd.R_alloc | apply Kd.R_drewN | apply Kd.R_drew)); exact HO193.out) hb)
        have n1_ := Aside0.mk (below_step (by repeat (first | (with_reducible first | exact HB.out | apply below_alloc | apply pw_below_drewN | apply below_drew1) | exact HB.out)) hb)
        clear HO193
        clear HB
        have HO193 := n0_
        have HB := n1_
        clear n0_ n1_
        (try clear hb)
        (try clear hb2)
        (try clear hk)
        (try clear hi)
        refine hK.out _ _ trivial (fun hHeld => ?_)
        clear hK K
        refine norm_ (a' := ?_) ?_ ?_
        rotate_left
        ·show Act.put _ (some 24) _ = _
         simp only [Act.put, s1_, s2_, s3_, i64_w, i32_w]
         rfl
        refine pure_ (i := 4) (N := some 25) (v := ?_) (a' := ?_) (f_ 25 5) rfl rfl (any_of HT_.out (by kernel_rfl)) (fun _ _ _ h => h) (Or.inl ⟨by rfl, ?_⟩) ?_ ?_
        rotate_left
        ·intro w'
         go_simp
         with_reducible rfl
        rotate_left
        ·simp only [Act.put, s1_, s2_, s3_, i64_w, i32_w]
         rfl
        refine pure_ (i := 5) (N := some 26) (v := ?_) (a' := ?_) (f_ 25 6) rfl rfl (any_of HT_.out (by kernel_rfl)) (fun _ _ _ h => h) (Or.inl ⟨by rfl, ?_⟩) ?_ ?_
        rotate_left
        ·intro w'
         go_simp
         with_reducible rfl
        rotate_left
        ·simp only [Act.put, s1_, s2_, s3_, i64_w, i32_w]
         rfl
        refine pure_ (i := 6) (N := some 27) (v := ?_) (a' := ?_) (f_ 25 7) rfl rfl (any_of HT_.out (by kernel_rfl)) (fun _ _ _ h => h) (Or.inl ⟨by rfl, ?_⟩) ?_ ?_
        rotate_left
        ·intro w'
         go_simp
         with_reducible rfl
        rotate_left
        ·simp only [Act.put, s1_, s2_, s3_, i64_w, i32_w]
         rfl
        refine pure_ (i := 7) (N := some 28) (v := ?_) (a' := ?_) (f_ 25 8) rfl rfl (any_of HT_.out (by kernel_rfl)) (fun _ _ _ h => h) (Or.inl ⟨by rfl, ?_⟩) ?_ ?_
        rotate_left
        ·intro w'
         go_simp
         with_reducible rfl
        rotate_left
        ·simp only [Act.put, s1_, s2_, s3_, i64_w, i32_w]
         rfl
        refine pure_ (i := 8) (N := some 29) (v := ?_) (a' := ?_) (f_ 25 9) rfl rfl (any_of HT_.out (by kernel_rfl)) (fun _ _ _ h => h) (Or.inl ⟨by rfl, ?_⟩) ?_ ?_
        rotate_left
        ·intro w'
         go_simp
         with_reducible rfl
        rotate_left
        ·simp only [Act.put, s1_, s2_, s3_, i64_w, i32_w]
         rfl
        refine pure_ (i := 9) (N := some 30) (v := ?_) (a' := ?_) (f_ 25 10) rfl rfl (any_of HT_.out (by kernel_rfl)) (fun _ _ _ h => h) (Or.inl ⟨by rfl, ?_⟩) ?_ ?_
        rotate_left
        ·intro w'
         go_simp
         with_reducible rfl
        rotate_left
        ·simp only [Act.put, s1_, s2_, s3_, i64_w, i32_w]
         rfl
        refine pure_ (i := 10) (N := some 31) (v := ?_) (a' := ?_) (f_ 25 11) rfl rfl (any_of HT_.out (by kernel_rfl)) (fun _ _ _ h => h) (Or.inl ⟨by rfl, ?_⟩) ?_ ?_
        rotate_left
        ·intro w'
         go_simp
         with_reducible rfl
        rotate_left
        ·simp only [Act.put, s1_, s2_, s3_, i64_w, i32_w]
         rfl
        refine one_ (i := 11) (N := some 32) (f_ 25 12) rfl rfl (one_of HT_.out (by kernel_rfl)) (by decide) (fun K hK => ?_)
        refine goes_ Tryz.func16 (by kernel_rfl) rfl #[.slice Ao18 y191.length co18] (by rfl) rfl rfl (by (try simp only [List.map_toArray, List.map_cons, List.map_nil]); first | done | rfl | (simp only [List.length_drop, List.length_take]; rfl)) ?_
        with_reducible refine (blob_Right.calls _ _ y191 true _ ?side1 ?side2 A13.out).mono ?_
        (case side1 => repeat (first | exact (Kd.R_reads' HO193.out).2.2 | (with_reducible refine Kd.C_alloc ?_ _) | (with_reducible refine Kd.C_drewN ?_ _) | (with_reducible refine Kd.C_drew ?_)))
        (case side2 => exact (Kd.R_reads' HO193.out).2.1)
        rintro e w21 ⟨rfl, hb⟩
        refine ⟨_, rfl, ?_⟩
        have n0_ := Aside0.mk (Kd.R_below (by (with_reducible repeat (first | apply Kd.R_alloc | apply Kd.R_drewN | apply Kd.R_drew)); exact HO193.out) hb)
        have n1_ := Aside0.mk (below_step (by repeat (first | (with_reducible first | exact HB.out | apply below_alloc | apply pw_below_drewN | apply below_drew1) | exact HB.out)) hb)
        clear HO193
        clear HB
        have HO193 := n0_
        have HB := n1_
        clear n0_ n1_
        (try clear hb)
        (try clear hb2)
        (try clear hk)
        (try clear hi)
        refine hK.out _ _ trivial (fun hHeld => ?_)
        clear hK K
        refine norm_ (a' := ?_) ?_ ?_
        rotate_left
        ·show Act.put _ (some 32) _ = _
         simp only [Act.put, s1_, s2_, s3_, i64_w, i32_w]
         rfl
        refine pure_ (i := 12) (N := some 33) (v := ?_) (a' := ?_) (f_ 25 13) rfl rfl (any_of HT_.out (by kernel_rfl)) (fun _ _ _ h => h) (Or.inl ⟨by rfl, ?_⟩) ?_ ?_
        rotate_left
        ·intro w'
         go_simp
         with_reducible rfl
        rotate_left
        ·simp only [Act.put, s1_, s2_, s3_, i64_w, i32_w]
         rfl
        refine pure_ (i := 13) (N := some 34) (v := ?_) (a' := ?_) (f_ 25 14) rfl rfl (any_of HT_.out (by kernel_rfl)) (fun _ _ _ h => h) (Or.inl ⟨by rfl, ?_⟩) ?_ ?_
        rotate_left
        ·intro w'
         go_simp
         with_reducible rfl
        rotate_left
        ·simp only [Act.put, s1_, s2_, s3_, i64_w, i32_w]
         rfl
        refine pure_ (i := 14) (N := some 35) (v := ?_) (a' := ?_) (f_ 25 15) rfl rfl (any_of HT_.out (by kernel_rfl)) (fun _ _ _ h => h) (Or.inl ⟨by rfl, ?_⟩) ?_ ?_
        rotate_left
        ·intro w'
         go_simp
         with_reducible rfl
        rotate_left
        ·simp only [Act.put, s1_, s2_, s3_, i64_w, i32_w]
         rfl
        refine pure_ (i := 15) (N := some 36) (v := ?_) (a' := ?_) (f_ 25 16) rfl rfl (any_of HT_.out (by kernel_rfl)) (fun _ _ _ h => h) (Or.inl ⟨by rfl, ?_⟩) ?_ ?_
        rotate_left
        ·intro w'
         go_simp
         with_reducible rfl
        rotate_left
        ·simp only [Act.put, s1_, s2_, s3_, i64_w, i32_w]
         rfl
        refine pure_ (i := 16) (N := some 37) (v := undef) (a' := ?_) (f_ 25 17) rfl rfl (any_of HT_.out (by kernel_rfl)) (fun _ _ _ h => h) (Or.inr ⟨by rfl, rfl⟩) ?_ ?_
        rotate_left
        ·simp only [Act.put, s1_, s2_, s3_, i64_w, i32_w]
         rfl
        refine pure_ (i := 17) (N := some 38) (v := undef) (a' := ?_) (f_ 25 18) rfl rfl (any_of HT_.out (by kernel_rfl)) (fun _ _ _ h => h) (Or.inr ⟨by rfl, rfl⟩) ?_ ?_
        rotate_left
        ·simp only [Act.put, s1_, s2_, s3_, i64_w, i32_w]
         rfl
        refine pure_ (i := 18) (N := some 39) (v := undef) (a' := ?_) (f_ 25 19) rfl rfl (any_of HT_.out (by kernel_rfl)) (fun _ _ _ h => h) (Or.inr ⟨by rfl, rfl⟩) ?_ ?_
        rotate_left
        ·simp only [Act.put, s1_, s2_, s3_, i64_w, i32_w]
         rfl
        refine pure_ (i := 19) (N := some 40) (v := undef) (a' := ?_) (f_ 25 20) rfl rfl (any_of HT_.out (by kernel_rfl)) (fun _ _ _ h => h) (Or.inr ⟨by rfl, rfl⟩) ?_ ?_
        rotate_left
        ·simp only [Act.put, s1_, s2_, s3_, i64_w, i32_w]
         rfl
        refine pure_ (i := 20) (N := some 41) (v := undef) (a' := ?_) (f_ 25 21) rfl rfl (any_of HT_.out (by kernel_rfl)) (fun _ _ _ h => h) (Or.inr ⟨by rfl, rfl⟩) ?_ ?_
        rotate_left
        ·simp only [Act.put, s1_, s2_, s3_, i64_w, i32_w]
         rfl
        refine pure_ (i := 21) (N := some 42) (v := undef) (a' := ?_) (f_ 25 22) rfl rfl (any_of HT_.out (by kernel_rfl)) (fun _ _ _ h => h) (Or.inr ⟨by rfl, rfl⟩) ?_ ?_
        rotate_left
        ·simp only [Act.put, s1_, s2_, s3_, i64_w, i32_w]
         rfl
        refine pure_ (i := 22) (N := some 43) (v := undef) (a' := ?_) (f_ 25 23) rfl rfl (any_of HT_.out (by kernel_rfl)) (fun _ _ _ h => h) (Or.inr ⟨by rfl, rfl⟩) ?_ ?_
        rotate_left
        ·simp only [Act.put, s1_, s2_, s3_, i64_w, i32_w]
         rfl
        refine pure_ (i := 23) (N := some 44) (v := ?_) (a' := ?_) (f_ 25 24) rfl rfl (any_of HT_.out (by kernel_rfl)) (fun _ _ _ h => h) (Or.inl ⟨by rfl, ?_⟩) ?_ ?_
        rotate_left
        ·intro w'
         go_simp
         with_reducible rfl
        rotate_left
        ·simp only [Act.put, s1_, s2_, s3_, i64_w, i32_w]
         rfl
        refine pure_ (i := 24) (N := some 4) (v := ?_) (a' := ?_) (f_ 25 25) rfl rfl (any_of HT_.out (by kernel_rfl)) (fun _ _ _ h => h) (Or.inl ⟨by rfl, ?_⟩) ?_ ?_
        rotate_left
        ·intro w'
         go_simp
         with_reducible rfl
        rotate_left
        ·simp only [Act.put, s1_, s2_, s3_, i64_w, i32_w]
         rfl
        refine done_ (done_of HT_.out (by kernel_rfl)) ?_
        try go_wp2
        go_ret
        exact ⟨by first | rfl | (simp [errW_none, errW_some] <;> rfl) | (simp [*, errW_none, errW_some] <;> rfl), by repeat (first | (with_reducible first | exact HB.out | apply below_alloc | apply pw_below_drewN | apply below_drew1) | exact HB.out)⟩
       ·replace c14 := Bool.eq_false_iff.mpr c14
        subst c14
        have H1 : (if 1 ≤ (y191.length : Int) then ((blob_Right.f (y191.take 1)).bind fun t201 => ((r5_Right.f (y191.take 1)).bind fun t206 => (some (t201 == t206)))) else (none)) = some r := by rw [if_neg (show ¬ (false = true) by decide)] at H; exact H
        clear H
        have H := H1
        clear H1
        by_cases c22 : 1 ≤ (y191.length : Int)
        ·rw [if_pos c22] at H
         have c22b0 := eq_true c22
         have c22b1 : decide (1 ≤ (y191.length : Int)) = true := decide_eq_true c22
         clear c22
         obtain ⟨y197, hy197⟩ : ∃ y_ : List (S44), y_ = (y191.take 1) := ⟨_, rfl⟩
         replace H : ((blob_Right.f y197).bind fun t201 => ((r5_Right.f (y191.take 1)).bind fun t206 => (some (t201 == t206)))) = some r := by first | (rw [hy197]; with_reducible exact H) | (have H2_ := (Option.bind_some _ _).symm.trans H; rw [hy197]; with_reducible exact H2_) | (have H2_ := (Option.bind_some _ _).symm.trans H; with_reducible exact H2_) | with_reducible exact H | (rw [hy197]; exact H) | exact H
         have Ny197 := Aside0.mk hy197
         clear hy197
         replace H := Option.bind_eq_some_iff.mp H
         obtain ⟨t201, A230, H⟩ := H
         replace H : ((r5_Right.f (y191.take 1)).bind fun t206 => (some (t201 == t206))) = some r := H
         have A23 := Aside0.mk A230
         clear A230
         have c24b0 := eq_true (of_decide_eq_true (by first | (with_reducible assumption) | assumption) : 1 ≤ (y191.length : Int))
         obtain ⟨y202, hy202⟩ : ∃ y_ : List (S44), y_ = (y191.take 1) := ⟨_, rfl⟩
         replace H : ((r5_Right.f y202).bind fun t206 => (some (t201 == t206))) = some r := by first | (rw [hy202]; with_reducible exact H) | (have H2_ := (Option.bind_some _ _).symm.trans H; rw [hy202]; with_reducible exact H2_) | (have H2_ := (Option.bind_some _ _).symm.trans H; with_reducible exact H2_) | with_reducible exact H | (rw [hy202]; exact H) | exact H
         have Ny202 := Aside0.mk hy202
         clear hy202
         replace H := Option.bind_eq_some_iff.mp H
         obtain ⟨t206, A250, H⟩ := H
         replace H : (some (t201 == t206)) = some r := H
         have A25 := Aside0.mk A250
         clear A250
         obtain rfl := Option.some.inj H
         try go_wp2_with (first | ((with_reducible refine gate_dst (N := 20) rfl ?_); (try (refine gate_guard (by rfl) ?_; dsimp only)); refine Kd.R_lit k44 _ 44 ?hg (N := 20) ?hd (xs := ([(⟨a0, (-1), 0, ([] : List (S46)), ([] : List (S56)), ([] : List (S52))⟩ : S44), (⟨a1, (-1), 0, ([] : List (S46)), ([] : List (S56)), ([] : List (S52))⟩ : S44)] : List (S44))) (inner := [.string a0, .int .i64 (-1), .int .i64 0, .slice none 0 0, .slice none 0 0, .slice none 0 0, .string a1, .int .i64 (-1), .int .i64 0, .slice none 0 0, .slice none 0 0, .slice none 0 0]) (ok := fun _ => True) (okp := fun _ => True) ?hr ?hp (fun _ hk => hk) trivial (Below.refl _ _) (Nat.le_refl _) (by simp) ?_; (case hd => rfl); (case hg => rfl); (case hr => first | (go_simp; done) | (go_simp; rfl)); (case hp => exact (Reps.c6 (show Kd.M k44 _ _ _ (⟨a0, (-1), 0, ([] : List (S46)), ([] : List (S56)), ([] : List (S52))⟩ : S44) [.string a0, .int .i64 (-1), .int .i64 0, .slice none 0 0, .slice none 0 0, .slice none 0 0] from (k44_mkM _ _ _ (⟨a0, (-1), 0, ([] : List (S46)), ([] : List (S56)), ([] : List (S52))⟩ : S44) (Kd.R_nil _ _ _ _ _) (Kd.R_nil _ _ _ _ _) (Kd.R_nil _ _ _ _ _))) (Reps.c6 (show Kd.M k44 _ _ _ (⟨a1, (-1), 0, ([] : List (S46)), ([] : List (S56)), ([] : List (S52))⟩ : S44) [.string a1, .int .i64 (-1), .int .i64 0, .slice none 0 0, .slice none 0 0, .slice none 0 0] from (k44_mkM _ _ _ (⟨a1, (-1), 0, ([] : List (S46)), ([] : List (S56)), ([] : List (S52))⟩ : S44) (Kd.R_nil _ _ _ _ _) (Kd.R_nil _ _ _ _ _) (Kd.R_nil _ _ _ _ _))) (Reps.none _ _)))); intro v192 w26 ho27 hb hg_ hnew_; clear hg_ hnew_; (first | rw [← Ny191.out] at ho27 | (simp only [Int.reduceToNat] at ho27; rw [← Ny191.out] at ho27)); have n0_ := Aside0.mk (Kd.R_lower ho27 (below_size (by repeat (first | (with_reducible first | exact HB.out | apply below_alloc | apply pw_below_drewN | apply below_drew1) | exact HB.out)))); have n1_ := Aside0.mk (below_step (by repeat (first | (with_reducible first | exact HB.out | apply below_alloc | apply pw_below_drewN | apply below_drew1) | exact HB.out)) hb); clear HB; have HO193 := n0_; have HB := n1_; clear n0_ n1_; clear hb ho27))
         have n0_ := Aside0.mk (Kd.R_drew HO193.out)
         have n1_ := Aside0.mk (below_drew1 HB.out)
         clear HO193
         clear HB
         have HO193 := n0_
         have HB := n1_
         clear n0_ n1_
         obtain ⟨Ao29, co29, eo29⟩ := Kd.R_slice HO193.out
         (first | subst eo29 | (injection eo29 with f1_ f2_ f3_; have f4_ := f1_.symm; have f5_ := f3_.symm; clear f1_ f2_ f3_; subst f4_; subst f5_))
         refine start_ (n := 25) (S := fun w' => True) (ds := []) (f_ 25 0) (by kernel_rfl) rfl rfl trivial (fun hHeld => ?_); refine with_tabW l5_BlobNames.tab6 l5_BlobNames.bits6 (fun HT_ HW_ => ?_)
         generalize w26.drew = w28 at HO193 HB hHeld ⊢
         refine pure_ (i := 0) (N := some 21) (v := ?_) (a' := ?_) (f_ 25 1) rfl rfl (any_of HT_.out (by kernel_rfl)) (fun _ _ _ h => h) (Or.inl ⟨by rfl, ?_⟩) ?_ ?_
         rotate_left
         ·intro w'
          go_simp
          with_reducible rfl
         rotate_left
         ·simp only [Act.put, s1_, s2_, s3_, i64_w, i32_w]
          rfl
         refine pure_ (i := 2) (N := some 23) (v := ?_) (a' := ?_) #[true, false, true, false, false, false, false, false, false, false, false, false, false, false, false, false, false, false, false, false, false, false, false, false, false] rfl rfl (any_of HT_.out (by kernel_rfl)) (fun _ _ _ h => h) (Or.inl ⟨by rfl, ?_⟩) ?_ ?_
         rotate_left
         ·intro w'
          go_simp
          with_reducible rfl
         rotate_left
         ·simp only [Act.put, s1_, s2_, s3_, i64_w, i32_w]
          rfl
         refine one_ (i := 1) (N := some 22) (f_ 25 3) rfl rfl (one_of HT_.out (by kernel_rfl)) (by decide) (fun K hK => ?_)
         refine goes_ Tryz.func16 (by kernel_rfl) rfl #[.slice Ao29 y191.length co29] (by rfl) rfl rfl (by (try simp only [List.map_toArray, List.map_cons, List.map_nil]); first | done | rfl | (simp only [List.length_drop, List.length_take]; rfl)) ?_
         with_reducible refine (blob_Right.calls _ _ y191 t194 _ ?side1 ?side2 A9.out).mono ?_
         (case side1 => repeat (first | exact (Kd.R_reads' HO193.out).2.2 | (with_reducible refine Kd.C_alloc ?_ _) | (with_reducible refine Kd.C_drewN ?_ _) | (with_reducible refine Kd.C_drew ?_)))
         (case side2 => exact (Kd.R_reads' HO193.out).2.1)
         rintro e w30 ⟨rfl, hb⟩
         refine ⟨_, rfl, ?_⟩
         have n0_ := Aside0.mk (Kd.R_below (by (with_reducible repeat (first | apply Kd.R_alloc | apply Kd.R_drewN | apply Kd.R_drew)); exact HO193.out) hb)
         have n1_ := Aside0.mk (below_step (by repeat (first | (with_reducible first | exact HB.out | apply below_alloc | apply pw_below_drewN | apply below_drew1) | exact HB.out)) hb)
         clear HO193
         clear HB
         have HO193 := n0_
         have HB := n1_
         clear n0_ n1_
         (try clear hb)
         (try clear hb2)
         (try clear hk)
         (try clear hi)
         refine hK.out _ _ trivial (fun hHeld => ?_)
         clear hK K
         refine norm_ (a' := ?_) ?_ ?_
         rotate_left
         ·show Act.put _ (some 22) _ = _
          simp only [Act.put, s1_, s2_, s3_, i64_w, i32_w]
          rfl
         refine one_ (i := 3) (N := some 24) (f_ 25 4) rfl rfl (one_of HT_.out (by kernel_rfl)) (by decide) (fun K hK => ?_)
         refine goes_ Tryz.func22 (by kernel_rfl) rfl #[.slice Ao29 y191.length co29] (by rfl) rfl rfl (by (try simp only [List.map_toArray, List.map_cons, List.map_nil]); first | done | rfl | (simp only [List.length_drop, List.length_take]; rfl)) ?_
         with_reducible refine (r5_Right.calls _ _ y191 t195 _ ?side1 ?side2 A10.out).mono ?_
         (case side1 => repeat (first | exact (Kd.R_reads' HO193.out).2.2 | (with_reducible refine Kd.C_alloc ?_ _) | (with_reducible refine Kd.C_drewN ?_ _) | (with_reducible refine Kd.C_drew ?_)))
         (case side2 => exact (Kd.R_reads' HO193.out).2.1)
         rintro e w31 ⟨rfl, hb⟩
         refine ⟨_, rfl, ?_⟩
         have n0_ := Aside0.mk (Kd.R_below (by (with_reducible repeat (first | apply Kd.R_alloc | apply Kd.R_drewN | apply Kd.R_drew)); exact HO193.out) hb)
         have n1_ := Aside0.mk (below_step (by repeat (first | (with_reducible first | exact HB.out | apply below_alloc | apply pw_below_drewN | apply below_drew1) | exact HB.out)) hb)
         clear HO193
         clear HB
         have HO193 := n0_
         have HB := n1_
         clear n0_ n1_
         (try clear hb)
         (try clear hb2)
         (try clear hk)
         (try clear hi)
         refine hK.out _ _ trivial (fun hHeld => ?_)
         clear hK K
         refine norm_ (a' := ?_) ?_ ?_
         rotate_left
         ·show Act.put _ (some 24) _ = _
          simp only [Act.put, s1_, s2_, s3_, i64_w, i32_w]
          rfl
         refine pure_ (i := 4) (N := some 25) (v := ?_) (a' := ?_) (f_ 25 5) rfl rfl (any_of HT_.out (by kernel_rfl)) (fun _ _ _ h => h) (Or.inl ⟨by rfl, ?_⟩) ?_ ?_
         rotate_left
         ·intro w'
          go_simp
          with_reducible rfl
         rotate_left
         ·simp only [Act.put, s1_, s2_, s3_, i64_w, i32_w]
          rfl
         refine pure_ (i := 5) (N := some 26) (v := ?_) (a' := ?_) (f_ 25 6) rfl rfl (any_of HT_.out (by kernel_rfl)) (fun _ _ _ h => h) (Or.inl ⟨by rfl, ?_⟩) ?_ ?_
         rotate_left
         ·intro w'
          go_simp
          with_reducible rfl
         rotate_left
         ·simp only [Act.put, s1_, s2_, s3_, i64_w, i32_w]
          rfl
         refine pure_ (i := 6) (N := some 27) (v := ?_) (a' := ?_) (f_ 25 7) rfl rfl (any_of HT_.out (by kernel_rfl)) (fun _ _ _ h => h) (Or.inl ⟨by rfl, ?_⟩) ?_ ?_
         rotate_left
         ·intro w'
          go_simp
          with_reducible rfl
         rotate_left
         ·simp only [Act.put, s1_, s2_, s3_, i64_w, i32_w]
          rfl
         refine pure_ (i := 7) (N := some 28) (v := ?_) (a' := ?_) (f_ 25 8) rfl rfl (any_of HT_.out (by kernel_rfl)) (fun _ _ _ h => h) (Or.inl ⟨by rfl, ?_⟩) ?_ ?_
         rotate_left
         ·intro w'
          go_simp
          with_reducible rfl
         rotate_left
         ·simp only [Act.put, s1_, s2_, s3_, i64_w, i32_w]
          rfl
         refine pure_ (i := 8) (N := some 29) (v := ?_) (a' := ?_) (f_ 25 9) rfl rfl (any_of HT_.out (by kernel_rfl)) (fun _ _ _ h => h) (Or.inl ⟨by rfl, ?_⟩) ?_ ?_
         rotate_left
         ·intro w'
          go_simp
          with_reducible rfl
         rotate_left
         ·simp only [Act.put, s1_, s2_, s3_, i64_w, i32_w]
          rfl
         refine pure_ (i := 9) (N := some 30) (v := ?_) (a' := ?_) (f_ 25 10) rfl rfl (any_of HT_.out (by kernel_rfl)) (fun _ _ _ h => h) (Or.inl ⟨by rfl, ?_⟩) ?_ ?_
         rotate_left
         ·intro w'
          go_simp
          with_reducible rfl
         rotate_left
         ·simp only [Act.put, s1_, s2_, s3_, i64_w, i32_w]
          rfl
         refine pure_ (i := 10) (N := some 31) (v := ?_) (a' := ?_) (f_ 25 11) rfl rfl (any_of HT_.out (by kernel_rfl)) (fun _ _ _ h => h) (Or.inl ⟨by rfl, ?_⟩) ?_ ?_
         rotate_left
         ·intro w'
          go_simp
          with_reducible rfl
         rotate_left
         ·simp only [Act.put, s1_, s2_, s3_, i64_w, i32_w]
          rfl
         refine one_ (i := 11) (N := some 32) (f_ 25 12) rfl rfl (one_of HT_.out (by kernel_rfl)) (by decide) (fun K hK => ?_)
         refine goes_ Tryz.func16 (by kernel_rfl) rfl #[.slice Ao29 y191.length co29] (by rfl) rfl rfl (by (try simp only [List.map_toArray, List.map_cons, List.map_nil]); first | done | rfl | (simp only [List.length_drop, List.length_take]; rfl)) ?_
         with_reducible refine (blob_Right.calls _ _ y191 false _ ?side1 ?side2 A13.out).mono ?_
         (case side1 => repeat (first | exact (Kd.R_reads' HO193.out).2.2 | (with_reducible refine Kd.C_alloc ?_ _) | (with_reducible refine Kd.C_drewN ?_ _) | (with_reducible refine Kd.C_drew ?_)))
         (case side2 => exact (Kd.R_reads' HO193.out).2.1)
         rintro e w32 ⟨rfl, hb⟩
         refine ⟨_, rfl, ?_⟩
         have n0_ := Aside0.mk (Kd.R_below (by (with_reducible repeat (first | apply Kd.R_alloc | apply Kd.R_drewN | apply Kd.R_drew)); exact HO193.out) hb)
         have n1_ := Aside0.mk (below_step (by repeat (first | (with_reducible first | exact HB.out | apply below_alloc | apply pw_below_drewN | apply below_drew1) | exact HB.out)) hb)
         clear HO193
         clear HB
         have HO193 := n0_
         have HB := n1_
         clear n0_ n1_
         (try clear hb)
         (try clear hb2)
         (try clear hk)
         (try clear hi)
         have q33 : (1 : Int) ≤ ((y191.length : Int) : Int) := of_decide_eq_true (by first | (with_reducible assumption) | assumption)
         obtain ⟨i033, hi033, _, hsz33, _⟩ := info_parts info44
         have hroom33 : y191.length ≤ co29 := (Kd.R_reads' HO193.out).2.1
         have hC33 : Kd.C k44 _ Ao29 y191.length y191 := (Kd.R_reads' HO193.out).2.2
         have hcut33 := cut_to (P := Tryz.prog) 26 44 .i64 Tryz.underlying26 hi033 Ao29 y191.length co29 1 (by omega) q33 hroom33
         have hr33 := Kd.C_take (m := 1) hC33 (by omega)
         have hy33 : y197.length = (1 : Int).toNat := (by rw [Ny197.out, List.length_take]; omega)
         rw [← Ny197.out] at hr33
         rw [← hy33] at hcut33
         have HR200 := Aside0.mk hr33
         have HC200 := Aside0.mk (show y197.length ≤ co29 from by omega)
         clear hr33 hC33 hroom33 hi033 hsz33
         have KY33 := Aside0.mk hy33
         clear hy33
         have KL33 := Aside0.mk (show 1 ≤ y191.length from by omega)
         replace q33 := eq_true q33
         refine hK.out _ _ trivial (fun hHeld => ?_)
         clear hK K
         refine norm_ (a' := ?_) ?_ ?_
         rotate_left
         ·show Act.put _ (some 32) _ = _
          simp only [Act.put, s1_, s2_, s3_, i64_w, i32_w]
          rfl
         refine pure_ (i := 12) (N := some 33) (v := ?_) (a' := ?_) (f_ 25 13) rfl rfl (any_of HT_.out (by kernel_rfl)) (fun _ _ _ h => h) (Or.inl ⟨by rfl, ?_⟩) ?_ ?_
         rotate_left
         ·intro w'
          go_simp
          with_reducible rfl
         rotate_left
         ·simp only [Act.put, s1_, s2_, s3_, i64_w, i32_w]
          rfl
         refine pure_ (i := 13) (N := some 34) (v := ?_) (a' := ?_) (f_ 25 14) rfl rfl (any_of HT_.out (by kernel_rfl)) (fun _ _ _ h => h) (Or.inl ⟨by rfl, ?_⟩) ?_ ?_
         rotate_left
         ·intro w'
          go_simp
          with_reducible rfl
         rotate_left
         ·simp only [Act.put, s1_, s2_, s3_, i64_w, i32_w]
          rfl
         refine pure_ (i := 14) (N := some 35) (v := ?_) (a' := ?_) (f_ 25 15) rfl rfl (any_of HT_.out (by kernel_rfl)) (fun _ _ _ h => h) (Or.inl ⟨by rfl, ?_⟩) ?_ ?_
         rotate_left
         ·intro w'
          go_simp
          with_reducible rfl
         rotate_left
         ·simp only [Act.put, s1_, s2_, s3_, i64_w, i32_w]
          rfl
         refine pure_ (i := 15) (N := some 36) (v := ?_) (a' := ?_) (f_ 25 16) rfl rfl (any_of HT_.out (by kernel_rfl)) (fun _ _ _ h => h) (Or.inl ⟨by rfl, ?_⟩) ?_ ?_
         rotate_left
         ·intro w'
          go_simp
          with_reducible rfl
         rotate_left
         ·simp only [Act.put, s1_, s2_, s3_, i64_w, i32_w]
          rfl
         refine pure_ (i := 16) (N := some 37) (v := ?_) (a' := ?_) (f_ 25 17) rfl rfl (any_of HT_.out (by kernel_rfl)) (fun _ _ _ h => h) (Or.inl ⟨by rfl, ?_⟩) ?_ ?_
         rotate_left
         ·intro w'
          go_simp
          with_reducible rfl
         rotate_left
         ·simp only [Act.put, s1_, s2_, s3_, i64_w, i32_w]
          rfl
         refine pure_ (i := 17) (N := some 38) (v := ?_) (a' := ?_) (f_ 25 18) rfl rfl (any_of HT_.out (by kernel_rfl)) (fun _ _ _ h => h) (Or.inl ⟨by rfl, ?_⟩) ?_ ?_
         rotate_left
         ·intro w'
          go_simp
          with_reducible rfl
         rotate_left
         ·simp only [Act.put, s1_, s2_, s3_, i64_w, i32_w]
          rfl
         refine pure_ (i := 19) (N := some 40) (v := ?_) (a' := ?_) #[true, true, true, true, true, true, true, true, true, true, true, true, true, true, true, true, true, true, false, true, false, false, false, false, false] rfl rfl (any_of HT_.out (by kernel_rfl)) (fun _ _ _ h => h) (Or.inl ⟨by rfl, ?_⟩) ?_ ?_
         rotate_left
         ·intro w'
          go_simp
          with_reducible rfl
         rotate_left
         ·simp only [Act.put, s1_, s2_, s3_, i64_w, i32_w]
          rfl
         refine pure_ (i := 20) (N := some 41) (v := ?_) (a' := ?_) #[true, true, true, true, true, true, true, true, true, true, true, true, true, true, true, true, true, true, false, true, true, false, false, false, false] rfl rfl (any_of HT_.out (by kernel_rfl)) (fun _ _ _ h => h) (Or.inl ⟨by rfl, ?_⟩) ?_ ?_
         rotate_left
         ·intro w'
          go_simp
          with_reducible rfl
         rotate_left
         ·simp only [Act.put, s1_, s2_, s3_, i64_w, i32_w]
          rfl
         refine one_ (i := 18) (N := some 39) (f_ 25 21) rfl rfl (one_of HT_.out (by kernel_rfl)) (by decide) (fun K hK => ?_)
         refine goes_ Tryz.func16 (by kernel_rfl) rfl #[.slice Ao29 y197.length co29] (by rfl) rfl rfl (by (try simp only [List.map_toArray, List.map_cons, List.map_nil]); first | done | rfl | (simp only [List.length_drop, List.length_take]; rfl)) ?_
         with_reducible refine (blob_Right.calls _ _ y197 t201 _ ?side1 ?side2 A23.out).mono ?_
         (case side1 => repeat (first | exact (by repeat (first | (with_reducible exact HR200.out) | (with_reducible refine Kd.C_alloc ?_ _) | (with_reducible refine Kd.C_drewN ?_ _) | (with_reducible refine Kd.C_drew ?_) | exact HR200.out)) | (with_reducible refine Kd.C_alloc ?_ _) | (with_reducible refine Kd.C_drewN ?_ _) | (with_reducible refine Kd.C_drew ?_)))
         (case side2 => exact HC200.out)
         rintro e w34 ⟨rfl, hb⟩
         refine ⟨_, rfl, ?_⟩
         have n0_ := Aside0.mk (Kd.R_below (by (with_reducible repeat (first | apply Kd.R_alloc | apply Kd.R_drewN | apply Kd.R_drew)); exact HO193.out) hb)
         have n1_ := Aside0.mk (Kd.C_below (by repeat (first | (with_reducible exact HR200.out) | (with_reducible refine Kd.C_alloc ?_ _) | (with_reducible refine Kd.C_drewN ?_ _) | (with_reducible refine Kd.C_drew ?_) | exact HR200.out)) hb)
         have n2_ := Aside0.mk (below_step (by repeat (first | (with_reducible first | exact HB.out | apply below_alloc | apply pw_below_drewN | apply below_drew1) | exact HB.out)) hb)
         clear HO193
         clear HR200
         clear HB
         have HO193 := n0_
         have HR200 := n1_
         have HB := n2_
         clear n0_ n1_ n2_
         (try clear hb)
         (try clear hb2)
         (try clear hk)
         (try clear hi)
         have q35 : (1 : Int) ≤ ((y191.length : Int) : Int) := of_decide_eq_true (by first | (with_reducible assumption) | assumption)
         obtain ⟨i035, hi035, _, hsz35, _⟩ := info_parts info44
         have hroom35 : y191.length ≤ co29 := (Kd.R_reads' HO193.out).2.1
         have hC35 : Kd.C k44 _ Ao29 y191.length y191 := (Kd.R_reads' HO193.out).2.2
         have hcut35 := cut_to (P := Tryz.prog) 26 44 .i64 Tryz.underlying26 hi035 Ao29 y191.length co29 1 (by omega) q35 hroom35
         have hr35 := Kd.C_take (m := 1) hC35 (by omega)
         have hy35 : y202.length = (1 : Int).toNat := (by rw [Ny202.out, List.length_take]; omega)
         rw [← Ny202.out] at hr35
         rw [← hy35] at hcut35
         have HR205 := Aside0.mk hr35
         have HC205 := Aside0.mk (show y202.length ≤ co29 from by omega)
         clear hr35 hC35 hroom35 hi035 hsz35
         have KY35 := Aside0.mk hy35
         clear hy35
         have KL35 := Aside0.mk (show 1 ≤ y191.length from by omega)
         replace q35 := eq_true q35
         refine hK.out _ _ trivial (fun hHeld => ?_)
         clear hK K
         refine norm_ (a' := ?_) ?_ ?_
         rotate_left
         ·show Act.put _ (some 39) _ = _
          simp only [Act.put, s1_, s2_, s3_, i64_w, i32_w]
          rfl
         refine one_ (i := 21) (N := some 42) (f_ 25 22) rfl rfl (one_of HT_.out (by kernel_rfl)) (by decide) (fun K hK => ?_)
         refine goes_ Tryz.func22 (by kernel_rfl) rfl #[.slice Ao29 y202.length co29] (by rfl) rfl rfl (by (try simp only [List.map_toArray, List.map_cons, List.map_nil]); first | done | rfl | (rw [show y202.length = y197.length from by rw [Ny202.out, Ny197.out]]; rfl) | (simp only [List.length_drop, List.length_take]; rfl)) ?_
         with_reducible refine (r5_Right.calls _ _ y202 t206 _ ?side1 ?side2 A25.out).mono ?_
         (case side1 => repeat (first | exact (by repeat (first | (with_reducible exact HR205.out) | (with_reducible refine Kd.C_alloc ?_ _) | (with_reducible refine Kd.C_drewN ?_ _) | (with_reducible refine Kd.C_drew ?_) | exact HR205.out)) | (with_reducible refine Kd.C_alloc ?_ _) | (with_reducible refine Kd.C_drewN ?_ _) | (with_reducible refine Kd.C_drew ?_)))
         (case side2 => exact HC205.out)
         rintro e w36 ⟨rfl, hb⟩
         refine ⟨_, rfl, ?_⟩
         have n0_ := Aside0.mk (Kd.R_below (by (with_reducible repeat (first | apply Kd.R_alloc | apply Kd.R_drewN | apply Kd.R_drew)); exact HO193.out) hb)
         have n1_ := Aside0.mk (Kd.C_below (by repeat (first | (with_reducible exact HR200.out) | (with_reducible refine Kd.C_alloc ?_ _) | (with_reducible refine Kd.C_drewN ?_ _) | (with_reducible refine Kd.C_drew ?_) | exact HR200.out)) hb)
         have n2_ := Aside0.mk (Kd.C_below (by repeat (first | (with_reducible exact HR205.out) | (with_reducible refine Kd.C_alloc ?_ _) | (with_reducible refine Kd.C_drewN ?_ _) | (with_reducible refine Kd.C_drew ?_) | exact HR205.out)) hb)
         have n3_ := Aside0.mk (below_step (by repeat (first | (with_reducible first | exact HB.out | apply below_alloc | apply pw_below_drewN | apply below_drew1) | exact HB.out)) hb)
         clear HO193
         clear HR200
         clear HR205
         clear HB
         have HO193 := n0_
         have HR200 := n1_
         have HR205 := n2_
         have HB := n3_
         clear n0_ n1_ n2_ n3_
         (try clear hb)
         (try clear hb2)
         (try clear hk)
         (try clear hi)
         refine hK.out _ _ trivial (fun hHeld => ?_)
         clear hK K
         refine norm_ (a' := ?_) ?_ ?_
         rotate_left
         ·show Act.put _ (some 42) _ = _
          simp only [Act.put, s1_, s2_, s3_, i64_w, i32_w]
          rfl
         refine pure_ (i := 22) (N := some 43) (v := ?_) (a' := ?_) (f_ 25 23) rfl rfl (any_of HT_.out (by kernel_rfl)) (fun _ _ _ h => h) (Or.inl ⟨by rfl, ?_⟩) ?_ ?_
         rotate_left
         ·intro w'
          go_simp
          with_reducible rfl
         rotate_left
         ·simp only [Act.put, s1_, s2_, s3_, i64_w, i32_w]
          rfl
         refine pure_ (i := 23) (N := some 44) (v := ?_) (a' := ?_) (f_ 25 24) rfl rfl (any_of HT_.out (by kernel_rfl)) (fun _ _ _ h => h) (Or.inl ⟨by rfl, ?_⟩) ?_ ?_
         rotate_left
         ·intro w'
          go_simp
          with_reducible rfl
         rotate_left
         ·simp only [Act.put, s1_, s2_, s3_, i64_w, i32_w]
          rfl
         refine pure_ (i := 24) (N := some 4) (v := ?_) (a' := ?_) (f_ 25 25) rfl rfl (any_of HT_.out (by kernel_rfl)) (fun _ _ _ h => h) (Or.inl ⟨by rfl, ?_⟩) ?_ ?_
         rotate_left
         ·intro w'
          go_simp
          with_reducible rfl
         rotate_left
         ·simp only [Act.put, s1_, s2_, s3_, i64_w, i32_w]
          rfl
         refine done_ (done_of HT_.out (by kernel_rfl)) ?_
         try go_wp2
         go_ret
         exact ⟨by first | rfl | (simp [errW_none, errW_some] <;> rfl) | (simp [*, errW_none, errW_some] <;> rfl), by repeat (first | (with_reducible first | exact HB.out | apply below_alloc | apply pw_below_drewN | apply below_drew1) | exact HB.out)⟩
        ·rw [if_neg c22] at H
         exact absurd H (by simp)
      ·rw [if_neg c12] at H
       have c12b0 : (a0.toList == a1.toList) = false := beq_eq_false_iff_ne.mpr c12
       have c12b1 : (a0.toList != a1.toList) = true := bne_iff_ne.mpr c12
       by_cases c37 : 1 ≤ (y191.length : Int)
       ·rw [if_pos c37] at H
        have c37b0 := eq_true c37
        have c37b1 : decide (1 ≤ (y191.length : Int)) = true := decide_eq_true c37
        clear c37
        obtain ⟨y207, hy207⟩ : ∃ y_ : List (S44), y_ = (y191.take 1) := ⟨_, rfl⟩
        replace H : ((blob_Right.f y207).bind fun t211 => ((r5_Right.f (y191.take 1)).bind fun t216 => (some (t211 == t216)))) = some r := by first | (rw [hy207]; with_reducible exact H) | (have H2_ := (Option.bind_some _ _).symm.trans H; rw [hy207]; with_reducible exact H2_) | (have H2_ := (Option.bind_some _ _).symm.trans H; with_reducible exact H2_) | with_reducible exact H | (rw [hy207]; exact H) | exact H
        have Ny207 := Aside0.mk hy207
        clear hy207
        replace H := Option.bind_eq_some_iff.mp H
        obtain ⟨t211, A380, H⟩ := H
        replace H : ((r5_Right.f (y191.take 1)).bind fun t216 => (some (t211 == t216))) = some r := H
        have A38 := Aside0.mk A380
        clear A380
        have c39b0 := eq_true (of_decide_eq_true (by first | (with_reducible assumption) | assumption) : 1 ≤ (y191.length : Int))
        obtain ⟨y212, hy212⟩ : ∃ y_ : List (S44), y_ = (y191.take 1) := ⟨_, rfl⟩
        replace H : ((r5_Right.f y212).bind fun t216 => (some (t211 == t216))) = some r := by first | (rw [hy212]; with_reducible exact H) | (have H2_ := (Option.bind_some _ _).symm.trans H; rw [hy212]; with_reducible exact H2_) | (have H2_ := (Option.bind_some _ _).symm.trans H; with_reducible exact H2_) | with_reducible exact H | (rw [hy212]; exact H) | exact H
        have Ny212 := Aside0.mk hy212
        clear hy212
        replace H := Option.bind_eq_some_iff.mp H
        obtain ⟨t216, A400, H⟩ := H
        replace H : (some (t211 == t216)) = some r := H
        have A40 := Aside0.mk A400
        clear A400
        obtain rfl := Option.some.inj H
        try go_wp2_with (first | ((with_reducible refine gate_dst (N := 20) rfl ?_); (try (refine gate_guard (by rfl) ?_; dsimp only)); refine Kd.R_lit k44 _ 44 ?hg (N := 20) ?hd (xs := ([(⟨a0, (-1), 0, ([] : List (S46)), ([] : List (S56)), ([] : List (S52))⟩ : S44), (⟨a1, (-1), 0, ([] : List (S46)), ([] : List (S56)), ([] : List (S52))⟩ : S44)] : List (S44))) (inner := [.string a0, .int .i64 (-1), .int .i64 0, .slice none 0 0, .slice none 0 0, .slice none 0 0, .string a1, .int .i64 (-1), .int .i64 0, .slice none 0 0, .slice none 0 0, .slice none 0 0]) (ok := fun _ => True) (okp := fun _ => True) ?hr ?hp (fun _ hk => hk) trivial (Below.refl _ _) (Nat.le_refl _) (by simp) ?_; (case hd => rfl); (case hg => rfl); (case hr => first | (go_simp; done) | (go_simp; rfl)); (case hp => exact (Reps.c6 (show Kd.M k44 _ _ _ (⟨a0, (-1), 0, ([] : List (S46)), ([] : List (S56)), ([] : List (S52))⟩ : S44) [.string a0, .int .i64 (-1), .int .i64 0, .slice none 0 0, .slice none 0 0, .slice none 0 0] from (k44_mkM _ _ _ (⟨a0, (-1), 0, ([] : List (S46)), ([] : List (S56)), ([] : List (S52))⟩ : S44) (Kd.R_nil _ _ _ _ _) (Kd.R_nil _ _ _ _ _) (Kd.R_nil _ _ _ _ _))) (Reps.c6 (show Kd.M k44 _ _ _ (⟨a1, (-1), 0, ([] : List (S46)), ([] : List (S56)), ([] : List (S52))⟩ : S44) [.string a1, .int .i64 (-1), .int .i64 0, .slice none 0 0, .slice none 0 0, .slice none 0 0] from (k44_mkM _ _ _ (⟨a1, (-1), 0, ([] : List (S46)), ([] : List (S56)), ([] : List (S52))⟩ : S44) (Kd.R_nil _ _ _ _ _) (Kd.R_nil _ _ _ _ _) (Kd.R_nil _ _ _ _ _))) (Reps.none _ _)))); intro v192 w41 ho42 hb hg_ hnew_; clear hg_ hnew_; (first | rw [← Ny191.out] at ho42 | (simp only [Int.reduceToNat] at ho42; rw [← Ny191.out] at ho42)); have n0_ := Aside0.mk (Kd.R_lower ho42 (below_size (by repeat (first | (with_reducible first | exact HB.out | apply below_alloc | apply pw_below_drewN | apply below_drew1) | exact HB.out)))); have n1_ := Aside0.mk (below_step (by repeat (first | (with_reducible first | exact HB.out | apply below_alloc | apply pw_below_drewN | apply below_drew1) | exact HB.out)) hb); clear HB; have HO193 := n0_; have HB := n1_; clear n0_ n1_; clear hb ho42))
        have n0_ := Aside0.mk (Kd.R_drew HO193.out)
        have n1_ := Aside0.mk (below_drew1 HB.out)
        clear HO193
        clear HB
        have HO193 := n0_
        have HB := n1_
        clear n0_ n1_
        obtain ⟨Ao44, co44, eo44⟩ := Kd.R_slice HO193.out
        (first | subst eo44 | (injection eo44 with f1_ f2_ f3_; have f4_ := f1_.symm; have f5_ := f3_.symm; clear f1_ f2_ f3_; subst f4_; subst f5_))
        refine start_ (n := 25) (S := fun w' => True) (ds := []) (f_ 25 0) (by kernel_rfl) rfl rfl trivial (fun hHeld => ?_); refine with_tabW l5_BlobNames.tab6 l5_BlobNames.bits6 (fun HT_ HW_ => ?_)
        generalize w41.drew = w43 at HO193 HB hHeld ⊢
        refine pure_ (i := 0) (N := some 21) (v := ?_) (a' := ?_) (f_ 25 1) rfl rfl (any_of HT_.out (by kernel_rfl)) (fun _ _ _ h => h) (Or.inl ⟨by rfl, ?_⟩) ?_ ?_
        rotate_left
        ·intro w'
         go_simp
         with_reducible rfl
        rotate_left
        ·simp only [Act.put, s1_, s2_, s3_, i64_w, i32_w]
         rfl
        refine pure_ (i := 2) (N := some 23) (v := ?_) (a' := ?_) #[true, false, true, false, false, false, false, false, false, false, false, false, false, false, false, false, false, false, false, false, false, false, false, false, false] rfl rfl (any_of HT_.out (by kernel_rfl)) (fun _ _ _ h => h) (Or.inl ⟨by rfl, ?_⟩) ?_ ?_
        rotate_left
        ·intro w'
         go_simp
         with_reducible rfl
        rotate_left
        ·simp only [Act.put, s1_, s2_, s3_, i64_w, i32_w]
         rfl
        refine one_ (i := 1) (N := some 22) (f_ 25 3) rfl rfl (one_of HT_.out (by kernel_rfl)) (by decide) (fun K hK => ?_)
        refine goes_ Tryz.func16 (by kernel_rfl) rfl #[.slice Ao44 y191.length co44] (by rfl) rfl rfl (by (try simp only [List.map_toArray, List.map_cons, List.map_nil]); first | done | rfl | (simp only [List.length_drop, List.length_take]; rfl)) ?_
        with_reducible refine (blob_Right.calls _ _ y191 t194 _ ?side1 ?side2 A9.out).mono ?_
        (case side1 => repeat (first | exact (Kd.R_reads' HO193.out).2.2 | (with_reducible refine Kd.C_alloc ?_ _) | (with_reducible refine Kd.C_drewN ?_ _) | (with_reducible refine Kd.C_drew ?_)))
        (case side2 => exact (Kd.R_reads' HO193.out).2.1)
        rintro e w45 ⟨rfl, hb⟩
        refine ⟨_, rfl, ?_⟩
        have n0_ := Aside0.mk (Kd.R_below (by (with_reducible repeat (first | apply Kd.R_alloc | apply Kd.R_drewN | apply Kd.R_drew)); exact HO193.out) hb)
        have n1_ := Aside0.mk (below_step (by repeat (first | (with_reducible first | exact HB.out | apply below_alloc | apply pw_below_drewN | apply below_drew1) | exact HB.out)) hb)
        clear HO193
        clear HB
        have HO193 := n0_
        have HB := n1_
        clear n0_ n1_
        (try clear hb)
        (try clear hb2)
        (try clear hk)
        (try clear hi)
        refine hK.out _ _ trivial (fun hHeld => ?_)
        clear hK K
        refine norm_ (a' := ?_) ?_ ?_
        rotate_left
        ·show Act.put _ (some 22) _ = _
         simp only [Act.put, s1_, s2_, s3_, i64_w, i32_w]
         rfl
        refine one_ (i := 3) (N := some 24) (f_ 25 4) rfl rfl (one_of HT_.out (by kernel_rfl)) (by decide) (fun K hK => ?_)
        refine goes_ Tryz.func22 (by kernel_rfl) rfl #[.slice Ao44 y191.length co44] (by rfl) rfl rfl (by (try simp only [List.map_toArray, List.map_cons, List.map_nil]); first | done | rfl | (simp only [List.length_drop, List.length_take]; rfl)) ?_
        with_reducible refine (r5_Right.calls _ _ y191 t195 _ ?side1 ?side2 A10.out).mono ?_
        (case side1 => repeat (first | exact (Kd.R_reads' HO193.out).2.2 | (with_reducible refine Kd.C_alloc ?_ _) | (with_reducible refine Kd.C_drewN ?_ _) | (with_reducible refine Kd.C_drew ?_)))
        (case side2 => exact (Kd.R_reads' HO193.out).2.1)
        rintro e w46 ⟨rfl, hb⟩
        refine ⟨_, rfl, ?_⟩
        have n0_ := Aside0.mk (Kd.R_below (by (with_reducible repeat (first | apply Kd.R_alloc | apply Kd.R_drewN | apply Kd.R_drew)); exact HO193.out) hb)
        have n1_ := Aside0.mk (below_step (by repeat (first | (with_reducible first | exact HB.out | apply below_alloc | apply pw_below_drewN | apply below_drew1) | exact HB.out)) hb)
        clear HO193
        clear HB
        have HO193 := n0_
        have HB := n1_
        clear n0_ n1_
        (try clear hb)
        (try clear hb2)
        (try clear hk)
        (try clear hi)
        have q47 : (1 : Int) ≤ ((y191.length : Int) : Int) := of_decide_eq_true (by first | (with_reducible assumption) | assumption)
        obtain ⟨i047, hi047, _, hsz47, _⟩ := info_parts info44
        have hroom47 : y191.length ≤ co44 := (Kd.R_reads' HO193.out).2.1
        have hC47 : Kd.C k44 _ Ao44 y191.length y191 := (Kd.R_reads' HO193.out).2.2
        have hcut47 := cut_to (P := Tryz.prog) 26 44 .i64 Tryz.underlying26 hi047 Ao44 y191.length co44 1 (by omega) q47 hroom47
        have hr47 := Kd.C_take (m := 1) hC47 (by omega)
        have hy47 : y207.length = (1 : Int).toNat := (by rw [Ny207.out, List.length_take]; omega)
        rw [← Ny207.out] at hr47
        rw [← hy47] at hcut47
        have HR210 := Aside0.mk hr47
        have HC210 := Aside0.mk (show y207.length ≤ co44 from by omega)
        clear hr47 hC47 hroom47 hi047 hsz47
        have KY47 := Aside0.mk hy47
        clear hy47
        have KL47 := Aside0.mk (show 1 ≤ y191.length from by omega)
        replace q47 := eq_true q47
        refine hK.out _ _ trivial (fun hHeld => ?_)
        clear hK K
        refine norm_ (a' := ?_) ?_ ?_
        rotate_left
        ·show Act.put _ (some 24) _ = _
         simp only [Act.put, s1_, s2_, s3_, i64_w, i32_w]
         rfl
        refine pure_ (i := 4) (N := some 25) (v := ?_) (a' := ?_) (f_ 25 5) rfl rfl (any_of HT_.out (by kernel_rfl)) (fun _ _ _ h => h) (Or.inl ⟨by rfl, ?_⟩) ?_ ?_
        rotate_left
        ·intro w'
         go_simp
         with_reducible rfl
        rotate_left
        ·simp only [Act.put, s1_, s2_, s3_, i64_w, i32_w]
         rfl
        refine pure_ (i := 5) (N := some 26) (v := ?_) (a' := ?_) (f_ 25 6) rfl rfl (any_of HT_.out (by kernel_rfl)) (fun _ _ _ h => h) (Or.inl ⟨by rfl, ?_⟩) ?_ ?_
        rotate_left
        ·intro w'
         go_simp
         with_reducible rfl
        rotate_left
        ·simp only [Act.put, s1_, s2_, s3_, i64_w, i32_w]
         rfl
        refine pure_ (i := 6) (N := some 27) (v := ?_) (a' := ?_) (f_ 25 7) rfl rfl (any_of HT_.out (by kernel_rfl)) (fun _ _ _ h => h) (Or.inl ⟨by rfl, ?_⟩) ?_ ?_
        rotate_left
        ·intro w'
         go_simp
         with_reducible rfl
        rotate_left
        ·simp only [Act.put, s1_, s2_, s3_, i64_w, i32_w]
         rfl
        refine pure_ (i := 7) (N := some 28) (v := ?_) (a' := ?_) (f_ 25 8) rfl rfl (any_of HT_.out (by kernel_rfl)) (fun _ _ _ h => h) (Or.inl ⟨by rfl, ?_⟩) ?_ ?_
        rotate_left
        ·intro w'
         go_simp
         with_reducible rfl
        rotate_left
        ·simp only [Act.put, s1_, s2_, s3_, i64_w, i32_w]
         rfl
        refine pure_ (i := 8) (N := some 29) (v := ?_) (a' := ?_) (f_ 25 9) rfl rfl (any_of HT_.out (by kernel_rfl)) (fun _ _ _ h => h) (Or.inl ⟨by rfl, ?_⟩) ?_ ?_
        rotate_left
        ·intro w'
         go_simp
         with_reducible rfl
        rotate_left
        ·simp only [Act.put, s1_, s2_, s3_, i64_w, i32_w]
         rfl
        refine pure_ (i := 9) (N := some 30) (v := ?_) (a' := ?_) (f_ 25 10) rfl rfl (any_of HT_.out (by kernel_rfl)) (fun _ _ _ h => h) (Or.inl ⟨by rfl, ?_⟩) ?_ ?_
        rotate_left
        ·intro w'
         go_simp
         with_reducible rfl
        rotate_left
        ·simp only [Act.put, s1_, s2_, s3_, i64_w, i32_w]
         rfl
        refine pure_ (i := 10) (N := some 31) (v := undef) (a' := ?_) (f_ 25 11) rfl rfl (any_of HT_.out (by kernel_rfl)) (fun _ _ _ h => h) (Or.inr ⟨by rfl, rfl⟩) ?_ ?_
        rotate_left
        ·simp only [Act.put, s1_, s2_, s3_, i64_w, i32_w]
         rfl
        refine pure_ (i := 11) (N := some 32) (v := undef) (a' := ?_) (f_ 25 12) rfl rfl (any_of HT_.out (by kernel_rfl)) (fun _ _ _ h => h) (Or.inr ⟨by rfl, rfl⟩) ?_ ?_
        rotate_left
        ·simp only [Act.put, s1_, s2_, s3_, i64_w, i32_w]
         rfl
        refine pure_ (i := 12) (N := some 33) (v := undef) (a' := ?_) (f_ 25 13) rfl rfl (any_of HT_.out (by kernel_rfl)) (fun _ _ _ h => h) (Or.inr ⟨by rfl, rfl⟩) ?_ ?_
        rotate_left
        ·simp only [Act.put, s1_, s2_, s3_, i64_w, i32_w]
         rfl
        refine pure_ (i := 13) (N := some 34) (v := ?_) (a' := ?_) (f_ 25 14) rfl rfl (any_of HT_.out (by kernel_rfl)) (fun _ _ _ h => h) (Or.inl ⟨by rfl, ?_⟩) ?_ ?_
        rotate_left
        ·intro w'
         go_simp
         with_reducible rfl
        rotate_left
        ·simp only [Act.put, s1_, s2_, s3_, i64_w, i32_w]
         rfl
        refine pure_ (i := 14) (N := some 35) (v := ?_) (a' := ?_) (f_ 25 15) rfl rfl (any_of HT_.out (by kernel_rfl)) (fun _ _ _ h => h) (Or.inl ⟨by rfl, ?_⟩) ?_ ?_
        rotate_left
        ·intro w'
         go_simp
         with_reducible rfl
        rotate_left
        ·simp only [Act.put, s1_, s2_, s3_, i64_w, i32_w]
         rfl
        refine pure_ (i := 15) (N := some 36) (v := ?_) (a' := ?_) (f_ 25 16) rfl rfl (any_of HT_.out (by kernel_rfl)) (fun _ _ _ h => h) (Or.inl ⟨by rfl, ?_⟩) ?_ ?_
        rotate_left
        ·intro w'
         go_simp
         with_reducible rfl
        rotate_left
        ·simp only [Act.put, s1_, s2_, s3_, i64_w, i32_w]
         rfl
        refine pure_ (i := 16) (N := some 37) (v := ?_) (a' := ?_) (f_ 25 17) rfl rfl (any_of HT_.out (by kernel_rfl)) (fun _ _ _ h => h) (Or.inl ⟨by rfl, ?_⟩) ?_ ?_
        rotate_left
        ·intro w'
         go_simp
         with_reducible rfl
        rotate_left
        ·simp only [Act.put, s1_, s2_, s3_, i64_w, i32_w]
         rfl
        refine pure_ (i := 17) (N := some 38) (v := ?_) (a' := ?_) (f_ 25 18) rfl rfl (any_of HT_.out (by kernel_rfl)) (fun _ _ _ h => h) (Or.inl ⟨by rfl, ?_⟩) ?_ ?_
        rotate_left
        ·intro w'
         go_simp
         with_reducible rfl
        rotate_left
        ·simp only [Act.put, s1_, s2_, s3_, i64_w, i32_w]
         rfl
        refine pure_ (i := 19) (N := some 40) (v := ?_) (a' := ?_) #[true, true, true, true, true, true, true, true, true, true, true, true, true, true, true, true, true, true, false, true, false, false, false, false, false] rfl rfl (any_of HT_.out (by kernel_rfl)) (fun _ _ _ h => h) (Or.inl ⟨by rfl, ?_⟩) ?_ ?_
        rotate_left
        ·intro w'
         go_simp
         with_reducible rfl
        rotate_left
        ·simp only [Act.put, s1_, s2_, s3_, i64_w, i32_w]
         rfl
        refine pure_ (i := 20) (N := some 41) (v := ?_) (a' := ?_) #[true, true, true, true, true, true, true, true, true, true, true, true, true, true, true, true, true, true, false, true, true, false, false, false, false] rfl rfl (any_of HT_.out (by kernel_rfl)) (fun _ _ _ h => h) (Or.inl ⟨by rfl, ?_⟩) ?_ ?_
        rotate_left
        ·intro w'
         go_simp
         with_reducible rfl
        rotate_left
        ·simp only [Act.put, s1_, s2_, s3_, i64_w, i32_w]
         rfl
        refine one_ (i := 18) (N := some 39) (f_ 25 21) rfl rfl (one_of HT_.out (by kernel_rfl)) (by decide) (fun K hK => ?_)
        refine goes_ Tryz.func16 (by kernel_rfl) rfl #[.slice Ao44 y207.length co44] (by rfl) rfl rfl (by (try simp only [List.map_toArray, List.map_cons, List.map_nil]); first | done | rfl | (simp only [List.length_drop, List.length_take]; rfl)) ?_
        with_reducible refine (blob_Right.calls _ _ y207 t211 _ ?side1 ?side2 A38.out).mono ?_
        (case side1 => repeat (first | exact (by repeat (first | (with_reducible exact HR210.out) | (with_reducible refine Kd.C_alloc ?_ _) | (with_reducible refine Kd.C_drewN ?_ _) | (with_reducible refine Kd.C_drew ?_) | exact HR210.out)) | (with_reducible refine Kd.C_alloc ?_ _) | (with_reducible refine Kd.C_drewN ?_ _) | (with_reducible refine Kd.C_drew ?_)))
        (case side2 => exact HC210.out)
        rintro e w48 ⟨rfl, hb⟩
        refine ⟨_, rfl, ?_⟩
        have n0_ := Aside0.mk (Kd.R_below (by (with_reducible repeat (first | apply Kd.R_alloc | apply Kd.R_drewN | apply Kd.R_drew)); exact HO193.out) hb)
        have n1_ := Aside0.mk (Kd.C_below (by repeat (first | (with_reducible exact HR210.out) | (with_reducible refine Kd.C_alloc ?_ _) | (with_reducible refine Kd.C_drewN ?_ _) | (with_reducible refine Kd.C_drew ?_) | exact HR210.out)) hb)
        have n2_ := Aside0.mk (below_step (by repeat (first | (with_reducible first | exact HB.out | apply below_alloc | apply pw_below_drewN | apply below_drew1) | exact HB.out)) hb)
        clear HO193
        clear HR210
        clear HB
        have HO193 := n0_
        have HR210 := n1_
        have HB := n2_
        clear n0_ n1_ n2_
        (try clear hb)
        (try clear hb2)
        (try clear hk)
        (try clear hi)
        have q49 : (1 : Int) ≤ ((y191.length : Int) : Int) := of_decide_eq_true (by first | (with_reducible assumption) | assumption)
        obtain ⟨i049, hi049, _, hsz49, _⟩ := info_parts info44
        have hroom49 : y191.length ≤ co44 := (Kd.R_reads' HO193.out).2.1
        have hC49 : Kd.C k44 _ Ao44 y191.length y191 := (Kd.R_reads' HO193.out).2.2
        have hcut49 := cut_to (P := Tryz.prog) 26 44 .i64 Tryz.underlying26 hi049 Ao44 y191.length co44 1 (by omega) q49 hroom49
        have hr49 := Kd.C_take (m := 1) hC49 (by omega)
        have hy49 : y212.length = (1 : Int).toNat := (by rw [Ny212.out, List.length_take]; omega)
        rw [← Ny212.out] at hr49
        rw [← hy49] at hcut49
        have HR215 := Aside0.mk hr49
        have HC215 := Aside0.mk (show y212.length ≤ co44 from by omega)
        clear hr49 hC49 hroom49 hi049 hsz49
        have KY49 := Aside0.mk hy49
        clear hy49
        have KL49 := Aside0.mk (show 1 ≤ y191.length from by omega)
        replace q49 := eq_true q49
        refine hK.out _ _ trivial (fun hHeld => ?_)
        clear hK K
        refine norm_ (a' := ?_) ?_ ?_
        rotate_left
        ·show Act.put _ (some 39) _ = _
         simp only [Act.put, s1_, s2_, s3_, i64_w, i32_w]
         rfl
        refine one_ (i := 21) (N := some 42) (f_ 25 22) rfl rfl (one_of HT_.out (by kernel_rfl)) (by decide) (fun K hK => ?_)
        refine goes_ Tryz.func22 (by kernel_rfl) rfl #[.slice Ao44 y212.length co44] (by rfl) rfl rfl (by (try simp only [List.map_toArray, List.map_cons, List.map_nil]); first | done | rfl | (rw [show y212.length = y207.length from by rw [Ny212.out, Ny207.out]]; rfl) | (simp only [List.length_drop, List.length_take]; rfl)) ?_
        with_reducible refine (r5_Right.calls _ _ y212 t216 _ ?side1 ?side2 A40.out).mono ?_
        (case side1 => repeat (first | exact (by repeat (first | (with_reducible exact HR215.out) | (with_reducible refine Kd.C_alloc ?_ _) | (with_reducible refine Kd.C_drewN ?_ _) | (with_reducible refine Kd.C_drew ?_) | exact HR215.out)) | (with_reducible refine Kd.C_alloc ?_ _) | (with_reducible refine Kd.C_drewN ?_ _) | (with_reducible refine Kd.C_drew ?_)))
        (case side2 => exact HC215.out)
        rintro e w50 ⟨rfl, hb⟩
        refine ⟨_, rfl, ?_⟩
        have n0_ := Aside0.mk (Kd.R_below (by (with_reducible repeat (first | apply Kd.R_alloc | apply Kd.R_drewN | apply Kd.R_drew)); exact HO193.out) hb)
        have n1_ := Aside0.mk (Kd.C_below (by repeat (first | (with_reducible exact HR210.out) | (with_reducible refine Kd.C_alloc ?_ _) | (with_reducible refine Kd.C_drewN ?_ _) | (with_reducible refine Kd.C_drew ?_) | exact HR210.out)) hb)
        have n2_ := Aside0.mk (Kd.C_below (by repeat (first | (with_reducible exact HR215.out) | (with_reducible refine Kd.C_alloc ?_ _) | (with_reducible refine Kd.C_drewN ?_ _) | (with_reducible refine Kd.C_drew ?_) | exact HR215.out)) hb)
        have n3_ := Aside0.mk (below_step (by repeat (first | (with_reducible first | exact HB.out | apply below_alloc | apply pw_below_drewN | apply below_drew1) | exact HB.out)) hb)
        clear HO193
        clear HR210
        clear HR215
        clear HB
        have HO193 := n0_
        have HR210 := n1_
        have HR215 := n2_
        have HB := n3_
        clear n0_ n1_ n2_ n3_
        (try clear hb)
        (try clear hb2)
        (try clear hk)
        (try clear hi)
        refine hK.out _ _ trivial (fun hHeld => ?_)
        clear hK K
        refine norm_ (a' := ?_) ?_ ?_
        rotate_left
        ·show Act.put _ (some 42) _ = _
         simp only [Act.put, s1_, s2_, s3_, i64_w, i32_w]
         rfl
        refine pure_ (i := 22) (N := some 43) (v := ?_) (a' := ?_) (f_ 25 23) rfl rfl (any_of HT_.out (by kernel_rfl)) (fun _ _ _ h => h) (Or.inl ⟨by rfl, ?_⟩) ?_ ?_
        rotate_left
        ·intro w'
         go_simp
         with_reducible rfl
        rotate_left
        ·simp only [Act.put, s1_, s2_, s3_, i64_w, i32_w]
         rfl
        refine pure_ (i := 23) (N := some 44) (v := ?_) (a' := ?_) (f_ 25 24) rfl rfl (any_of HT_.out (by kernel_rfl)) (fun _ _ _ h => h) (Or.inl ⟨by rfl, ?_⟩) ?_ ?_
        rotate_left
        ·intro w'
         go_simp
         with_reducible rfl
        rotate_left
        ·simp only [Act.put, s1_, s2_, s3_, i64_w, i32_w]
         rfl
        refine pure_ (i := 24) (N := some 4) (v := ?_) (a' := ?_) (f_ 25 25) rfl rfl (any_of HT_.out (by kernel_rfl)) (fun _ _ _ h => h) (Or.inl ⟨by rfl, ?_⟩) ?_ ?_
        rotate_left
        ·intro w'
         go_simp
         with_reducible rfl
        rotate_left
        ·simp only [Act.put, s1_, s2_, s3_, i64_w, i32_w]
         rfl
        refine done_ (done_of HT_.out (by kernel_rfl)) ?_
        try go_wp2
        go_ret
        exact ⟨by first | rfl | (simp [errW_none, errW_some] <;> rfl) | (simp [*, errW_none, errW_some] <;> rfl), by repeat (first | (with_reducible first | exact HB.out | apply below_alloc | apply pw_below_drewN | apply below_drew1) | exact HB.out)⟩
       ·rw [if_neg c37] at H
        exact absurd H (by simp)
     ·rw [if_neg c11] at H
      have c11b0 : (t194 == t195) = false := by simpa using c11
      (try (have c11b1 : decide (t194 = t195) = false := by simpa using c11))
      (try (have c11b2 : (t194 == t195) = false := by simpa using c11))
      (try (have c11b3 : ¬ (t194 = t195) := by simpa using c11))
      clear c11
      obtain rfl := Option.some.inj H
      try go_wp2_with (first | ((with_reducible refine gate_dst (N := 20) rfl ?_); (try (refine gate_guard (by rfl) ?_; dsimp only)); refine Kd.R_lit k44 _ 44 ?hg (N := 20) ?hd (xs := ([(⟨a0, (-1), 0, ([] : List (S46)), ([] : List (S56)), ([] : List (S52))⟩ : S44), (⟨a1, (-1), 0, ([] : List (S46)), ([] : List (S56)), ([] : List (S52))⟩ : S44)] : List (S44))) (inner := [.string a0, .int .i64 (-1), .int .i64 0, .slice none 0 0, .slice none 0 0, .slice none 0 0, .string a1, .int .i64 (-1), .int .i64 0, .slice none 0 0, .slice none 0 0, .slice none 0 0]) (ok := fun _ => True) (okp := fun _ => True) ?hr ?hp (fun _ hk => hk) trivial (Below.refl _ _) (Nat.le_refl _) (by simp) ?_; (case hd => rfl); (case hg => rfl); (case hr => first | (go_simp; done) | (go_simp; rfl)); (case hp => exact (Reps.c6 (show Kd.M k44 _ _ _ (⟨a0, (-1), 0, ([] : List (S46)), ([] : List (S56)), ([] : List (S52))⟩ : S44) [.string a0, .int .i64 (-1), .int .i64 0, .slice none 0 0, .slice none 0 0, .slice none 0 0] from (k44_mkM _ _ _ (⟨a0, (-1), 0, ([] : List (S46)), ([] : List (S56)), ([] : List (S52))⟩ : S44) (Kd.R_nil _ _ _ _ _) (Kd.R_nil _ _ _ _ _) (Kd.R_nil _ _ _ _ _))) (Reps.c6 (show Kd.M k44 _ _ _ (⟨a1, (-1), 0, ([] : List (S46)), ([] : List (S56)), ([] : List (S52))⟩ : S44) [.string a1, .int .i64 (-1), .int .i64 0, .slice none 0 0, .slice none 0 0, .slice none 0 0] from (k44_mkM _ _ _ (⟨a1, (-1), 0, ([] : List (S46)), ([] : List (S56)), ([] : List (S52))⟩ : S44) (Kd.R_nil _ _ _ _ _) (Kd.R_nil _ _ _ _ _) (Kd.R_nil _ _ _ _ _))) (Reps.none _ _)))); intro v192 w51 ho52 hb hg_ hnew_; clear hg_ hnew_; (first | rw [← Ny191.out] at ho52 | (simp only [Int.reduceToNat] at ho52; rw [← Ny191.out] at ho52)); have n0_ := Aside0.mk (Kd.R_lower ho52 (below_size (by repeat (first | (with_reducible first | exact HB.out | apply below_alloc | apply pw_below_drewN | apply below_drew1) | exact HB.out)))); have n1_ := Aside0.mk (below_step (by repeat (first | (with_reducible first | exact HB.out | apply below_alloc | apply pw_below_drewN | apply below_drew1) | exact HB.out)) hb); clear HB; have HO193 := n0_; have HB := n1_; clear n0_ n1_; clear hb ho52))
      have n0_ := Aside0.mk (Kd.R_drew HO193.out)
      have n1_ := Aside0.mk (below_drew1 HB.out)
      clear HO193
      clear HB
      have HO193 := n0_
      have HB := n1_
      clear n0_ n1_
      obtain ⟨Ao54, co54, eo54⟩ := Kd.R_slice HO193.out
      (first | subst eo54 | (injection eo54 with f1_ f2_ f3_; have f4_ := f1_.symm; have f5_ := f3_.symm; clear f1_ f2_ f3_; subst f4_; subst f5_))
      refine start_ (n := 25) (S := fun w' => True) (ds := []) (f_ 25 0) (by kernel_rfl) rfl rfl trivial (fun hHeld => ?_); refine with_tabW l5_BlobNames.tab6 l5_BlobNames.bits6 (fun HT_ HW_ => ?_)
      generalize w51.drew = w53 at HO193 HB hHeld ⊢
      refine pure_ (i := 0) (N := some 21) (v := ?_) (a' := ?_) (f_ 25 1) rfl rfl (any_of HT_.out (by kernel_rfl)) (fun _ _ _ h => h) (Or.inl ⟨by rfl, ?_⟩) ?_ ?_
      rotate_left
      ·intro w'
       go_simp
       with_reducible rfl
      rotate_left
      ·simp only [Act.put, s1_, s2_, s3_, i64_w, i32_w]
       rfl
      refine pure_ (i := 2) (N := some 23) (v := ?_) (a' := ?_) #[true, false, true, false, false, false, false, false, false, false, false, false, false, false, false, false, false, false, false, false, false, false, false, false, false] rfl rfl (any_of HT_.out (by kernel_rfl)) (fun _ _ _ h => h) (Or.inl ⟨by rfl, ?_⟩) ?_ ?_
      rotate_left
      ·intro w'
       go_simp
       with_reducible rfl
      rotate_left
      ·simp only [Act.put, s1_, s2_, s3_, i64_w, i32_w]
       rfl
      refine one_ (i := 1) (N := some 22) (f_ 25 3) rfl rfl (one_of HT_.out (by kernel_rfl)) (by decide) (fun K hK => ?_)
      refine goes_ Tryz.func16 (by kernel_rfl) rfl #[.slice Ao54 y191.length co54] (by rfl) rfl rfl (by (try simp only [List.map_toArray, List.map_cons, List.map_nil]); first | done | rfl | (simp only [List.length_drop, List.length_take]; rfl)) ?_
      with_reducible refine (blob_Right.calls _ _ y191 t194 _ ?side1 ?side2 A9.out).mono ?_
      (case side1 => repeat (first | exact (Kd.R_reads' HO193.out).2.2 | (with_reducible refine Kd.C_alloc ?_ _) | (with_reducible refine Kd.C_drewN ?_ _) | (with_reducible refine Kd.C_drew ?_)))
      (case side2 => exact (Kd.R_reads' HO193.out).2.1)
      rintro e w55 ⟨rfl, hb⟩
      refine ⟨_, rfl, ?_⟩
      have n0_ := Aside0.mk (Kd.R_below (by (with_reducible repeat (first | apply Kd.R_alloc | apply Kd.R_drewN | apply Kd.R_drew)); exact HO193.out) hb)
      have n1_ := Aside0.mk (below_step (by repeat (first | (with_reducible first | exact HB.out | apply below_alloc | apply pw_below_drewN | apply below_drew1) | exact HB.out)) hb)
      clear HO193
      clear HB
      have HO193 := n0_
      have HB := n1_
      clear n0_ n1_
      (try clear hb)
      (try clear hb2)
      (try clear hk)
      (try clear hi)
      refine hK.out _ _ trivial (fun hHeld => ?_)
      clear hK K
      refine norm_ (a' := ?_) ?_ ?_
      rotate_left
      ·show Act.put _ (some 22) _ = _
       simp only [Act.put, s1_, s2_, s3_, i64_w, i32_w]
       rfl
      refine one_ (i := 3) (N := some 24) (f_ 25 4) rfl rfl (one_of HT_.out (by kernel_rfl)) (by decide) (fun K hK => ?_)
      refine goes_ Tryz.func22 (by kernel_rfl) rfl #[.slice Ao54 y191.length co54] (by rfl) rfl rfl (by (try simp only [List.map_toArray, List.map_cons, List.map_nil]); first | done | rfl | (simp only [List.length_drop, List.length_take]; rfl)) ?_
      with_reducible refine (r5_Right.calls _ _ y191 t195 _ ?side1 ?side2 A10.out).mono ?_
      (case side1 => repeat (first | exact (Kd.R_reads' HO193.out).2.2 | (with_reducible refine Kd.C_alloc ?_ _) | (with_reducible refine Kd.C_drewN ?_ _) | (with_reducible refine Kd.C_drew ?_)))
      (case side2 => exact (Kd.R_reads' HO193.out).2.1)
      rintro e w56 ⟨rfl, hb⟩
      refine ⟨_, rfl, ?_⟩
      have n0_ := Aside0.mk (Kd.R_below (by (with_reducible repeat (first | apply Kd.R_alloc | apply Kd.R_drewN | apply Kd.R_drew)); exact HO193.out) hb)
      have n1_ := Aside0.mk (below_step (by repeat (first | (with_reducible first | exact HB.out | apply below_alloc | apply pw_below_drewN | apply below_drew1) | exact HB.out)) hb)
      clear HO193
      clear HB
      have HO193 := n0_
      have HB := n1_
      clear n0_ n1_
      (try clear hb)
      (try clear hb2)
      (try clear hk)
      (try clear hi)
      refine hK.out _ _ trivial (fun hHeld => ?_)
      clear hK K
      refine norm_ (a' := ?_) ?_ ?_
      rotate_left
      ·show Act.put _ (some 24) _ = _
       simp only [Act.put, s1_, s2_, s3_, i64_w, i32_w]
       rfl
      refine pure_ (i := 4) (N := some 25) (v := ?_) (a' := ?_) (f_ 25 5) rfl rfl (any_of HT_.out (by kernel_rfl)) (fun _ _ _ h => h) (Or.inl ⟨by rfl, ?_⟩) ?_ ?_
      rotate_left
      ·intro w'
       go_simp
       with_reducible rfl
      rotate_left
      ·simp only [Act.put, s1_, s2_, s3_, i64_w, i32_w]
       rfl
      refine pure_ (i := 5) (N := some 26) (v := ?_) (a' := ?_) (f_ 25 6) rfl rfl (any_of HT_.out (by kernel_rfl)) (fun _ _ _ h => h) (Or.inl ⟨by rfl, ?_⟩) ?_ ?_
      rotate_left
      ·intro w'
       go_simp
       with_reducible rfl
      rotate_left
      ·simp only [Act.put, s1_, s2_, s3_, i64_w, i32_w]
       rfl
      refine pure_ (i := 6) (N := some 27) (v := undef) (a' := ?_) (f_ 25 7) rfl rfl (any_of HT_.out (by kernel_rfl)) (fun _ _ _ h => h) (Or.inr ⟨by rfl, rfl⟩) ?_ ?_
      rotate_left
      ·simp only [Act.put, s1_, s2_, s3_, i64_w, i32_w]
       rfl
      refine pure_ (i := 7) (N := some 28) (v := undef) (a' := ?_) (f_ 25 8) rfl rfl (any_of HT_.out (by kernel_rfl)) (fun _ _ _ h => h) (Or.inr ⟨by rfl, rfl⟩) ?_ ?_
      rotate_left
      ·simp only [Act.put, s1_, s2_, s3_, i64_w, i32_w]
       rfl
      refine pure_ (i := 8) (N := some 29) (v := undef) (a' := ?_) (f_ 25 9) rfl rfl (any_of HT_.out (by kernel_rfl)) (fun _ _ _ h => h) (Or.inr ⟨by rfl, rfl⟩) ?_ ?_
      rotate_left
      ·simp only [Act.put, s1_, s2_, s3_, i64_w, i32_w]
       rfl
      refine pure_ (i := 9) (N := some 30) (v := undef) (a' := ?_) (f_ 25 10) rfl rfl (any_of HT_.out (by kernel_rfl)) (fun _ _ _ h => h) (Or.inr ⟨by rfl, rfl⟩) ?_ ?_
      rotate_left
      ·simp only [Act.put, s1_, s2_, s3_, i64_w, i32_w]
       rfl
      refine pure_ (i := 10) (N := some 31) (v := undef) (a' := ?_) (f_ 25 11) rfl rfl (any_of HT_.out (by kernel_rfl)) (fun _ _ _ h => h) (Or.inr ⟨by rfl, rfl⟩) ?_ ?_
      rotate_left
      ·simp only [Act.put, s1_, s2_, s3_, i64_w, i32_w]
       rfl
      refine pure_ (i := 11) (N := some 32) (v := undef) (a' := ?_) (f_ 25 12) rfl rfl (any_of HT_.out (by kernel_rfl)) (fun _ _ _ h => h) (Or.inr ⟨by rfl, rfl⟩) ?_ ?_
      rotate_left
      ·simp only [Act.put, s1_, s2_, s3_, i64_w, i32_w]
       rfl
      refine pure_ (i := 12) (N := some 33) (v := undef) (a' := ?_) (f_ 25 13) rfl rfl (any_of HT_.out (by kernel_rfl)) (fun _ _ _ h => h) (Or.inr ⟨by rfl, rfl⟩) ?_ ?_
      rotate_left
      ·simp only [Act.put, s1_, s2_, s3_, i64_w, i32_w]
       rfl
      refine pure_ (i := 13) (N := some 34) (v := undef) (a' := ?_) (f_ 25 14) rfl rfl (any_of HT_.out (by kernel_rfl)) (fun _ _ _ h => h) (Or.inr ⟨by rfl, rfl⟩) ?_ ?_
      rotate_left
      ·simp only [Act.put, s1_, s2_, s3_, i64_w, i32_w]
       rfl
      refine pure_ (i := 14) (N := some 35) (v := ?_) (a' := ?_) (f_ 25 15) rfl rfl (any_of HT_.out (by kernel_rfl)) (fun _ _ _ h => h) (Or.inl ⟨by rfl, ?_⟩) ?_ ?_
      rotate_left
      ·intro w'
       go_simp
       with_reducible rfl
      rotate_left
      ·simp only [Act.put, s1_, s2_, s3_, i64_w, i32_w]
       rfl
      refine pure_ (i := 15) (N := some 36) (v := ?_) (a' := ?_) (f_ 25 16) rfl rfl (any_of HT_.out (by kernel_rfl)) (fun _ _ _ h => h) (Or.inl ⟨by rfl, ?_⟩) ?_ ?_
      rotate_left
      ·intro w'
       go_simp
       with_reducible rfl
      rotate_left
      ·simp only [Act.put, s1_, s2_, s3_, i64_w, i32_w]
       rfl
      refine pure_ (i := 16) (N := some 37) (v := undef) (a' := ?_) (f_ 25 17) rfl rfl (any_of HT_.out (by kernel_rfl)) (fun _ _ _ h => h) (Or.inr ⟨by rfl, rfl⟩) ?_ ?_
      rotate_left
      ·simp only [Act.put, s1_, s2_, s3_, i64_w, i32_w]
       rfl
      refine pure_ (i := 17) (N := some 38) (v := undef) (a' := ?_) (f_ 25 18) rfl rfl (any_of HT_.out (by kernel_rfl)) (fun _ _ _ h => h) (Or.inr ⟨by rfl, rfl⟩) ?_ ?_
      rotate_left
      ·simp only [Act.put, s1_, s2_, s3_, i64_w, i32_w]
       rfl
      refine pure_ (i := 18) (N := some 39) (v := undef) (a' := ?_) (f_ 25 19) rfl rfl (any_of HT_.out (by kernel_rfl)) (fun _ _ _ h => h) (Or.inr ⟨by rfl, rfl⟩) ?_ ?_
      rotate_left
      ·simp only [Act.put, s1_, s2_, s3_, i64_w, i32_w]
       rfl
      refine pure_ (i := 19) (N := some 40) (v := undef) (a' := ?_) (f_ 25 20) rfl rfl (any_of HT_.out (by kernel_rfl)) (fun _ _ _ h => h) (Or.inr ⟨by rfl, rfl⟩) ?_ ?_
      rotate_left
      ·simp only [Act.put, s1_, s2_, s3_, i64_w, i32_w]
       rfl
      refine pure_ (i := 20) (N := some 41) (v := undef) (a' := ?_) (f_ 25 21) rfl rfl (any_of HT_.out (by kernel_rfl)) (fun _ _ _ h => h) (Or.inr ⟨by rfl, rfl⟩) ?_ ?_
      rotate_left
      ·simp only [Act.put, s1_, s2_, s3_, i64_w, i32_w]
       rfl
      refine pure_ (i := 21) (N := some 42) (v := undef) (a' := ?_) (f_ 25 22) rfl rfl (any_of HT_.out (by kernel_rfl)) (fun _ _ _ h => h) (Or.inr ⟨by rfl, rfl⟩) ?_ ?_
      rotate_left
      ·simp only [Act.put, s1_, s2_, s3_, i64_w, i32_w]
       rfl
      refine pure_ (i := 22) (N := some 43) (v := undef) (a' := ?_) (f_ 25 23) rfl rfl (any_of HT_.out (by kernel_rfl)) (fun _ _ _ h => h) (Or.inr ⟨by rfl, rfl⟩) ?_ ?_
      rotate_left
      ·simp only [Act.put, s1_, s2_, s3_, i64_w, i32_w]
       rfl
      refine pure_ (i := 23) (N := some 44) (v := ?_) (a' := ?_) (f_ 25 24) rfl rfl (any_of HT_.out (by kernel_rfl)) (fun _ _ _ h => h) (Or.inl ⟨by rfl, ?_⟩) ?_ ?_
      rotate_left
      ·intro w'
       go_simp
       with_reducible rfl
      rotate_left
      ·simp only [Act.put, s1_, s2_, s3_, i64_w, i32_w]
       rfl
      refine pure_ (i := 24) (N := some 4) (v := ?_) (a' := ?_) (f_ 25 25) rfl rfl (any_of HT_.out (by kernel_rfl)) (fun _ _ _ h => h) (Or.inl ⟨by rfl, ?_⟩) ?_ ?_
      rotate_left
      ·intro w'
       go_simp
       with_reducible rfl
      rotate_left
      ·simp only [Act.put, s1_, s2_, s3_, i64_w, i32_w]
       rfl
      refine done_ (done_of HT_.out (by kernel_rfl)) ?_
      try go_wp2
      go_ret
      exact ⟨by first | rfl | (simp [errW_none, errW_some] <;> rfl) | (simp [*, errW_none, errW_some] <;> rfl), by repeat (first | (with_reducible first | exact HB.out | apply below_alloc | apply pw_below_drewN | apply below_drew1) | exact HB.out)⟩
 ·replace c4 := Bool.eq_false_iff.mpr c4
  subst c4
  have H1 : (some false) = some r := by rw [if_neg (show ¬ (false = true) by decide)] at H; exact H
  clear H
  have H := H1
  clear H1
  obtain rfl := Option.some.inj H
  go_enter Tryz.func8, Tryz.ntmps8
  go_wp2_with (first | ((with_reducible refine gate_callee (f := 11) rfl ?_); refine goesL_ (some 6) rfl rfl Tryz.func11 (by kernel_rfl) rfl #[] rfl (by (try simp only [List.map_toArray, List.map_cons, List.map_nil]); first | done | rfl | (simp only [List.length_drop, List.length_take]; rfl)) ?_; (with_reducible refine (l5_known.calls  false _ A3.out).mono ?_); rintro e w57 ⟨rfl, hb⟩; refine ⟨_, rfl, ?_⟩; have n0_ := Aside0.mk (below_step (by repeat (first | (with_reducible first | exact HB.out | apply below_alloc | apply pw_below_drewN | apply below_drew1) | exact HB.out)) hb); clear HB; have HB := n0_; clear n0_; (try clear hb); (try clear hb2); (try clear hk); (try clear hi)))
  go_ret
  exact ⟨by first | rfl | (simp [errW_none, errW_some] <;> rfl) | (simp [*, errW_none, errW_some] <;> rfl), by repeat (first | (with_reducible first | exact HB.out | apply below_alloc | apply pw_below_drewN | apply below_drew1) | exact HB.out)⟩
def l5_BlobNames.Pure : Prop := ∀ (a0 : ByteArray) (a1 : ByteArray), a0.size ≤ 140737488351232 → a1.size ≤ 140737488351232 → ∃ k, l5_BlobNames.f k a0 a1 = some true
theorem l5_BlobNames.walk (P : l5_BlobNames.Pure) (a0 : ByteArray) (a1 : ByteArray) (w : World) (w0 : a0.size ≤ 140737488351232) (w1 : a1.size ≤ 140737488351232) :
  Calls Tryz.prog 8 #[.string a0, .string a1] w fun e w' => e = .returned (.bool true) ∧ Below w.heap.size w w' := by
 obtain ⟨k, h⟩ := P a0 a1 w0 w1
 refine (l5_BlobNames.calls k a0 a1 true w h).mono ?_
 rintro e w' ⟨rfl, hd⟩
 exact ⟨rfl, hd⟩
end Go.Proofs.YtiocgaekoeekgaaGreat.P
end
section
namespace Go.Proofs.YtiocgaekoeekgaaGreat.Pure
open Go.RowKit Go.Proofs.YtiocgaekoeekgaaGreat.P Go.Proofs.YtiocgaekoeekgaaGreatW.PrintWords Go.Proofs.YtiocgaekoeekgaaGreatW.PrintLast
def nameL (s : ByteArray) : S44 := ⟨s, -1, 0, [], [], []⟩
theorem nameB_L (s : ByteArray) (h : s.size ≤ 60) : nameB (nameL s) = true := by
 unfold nameB nameL
 simp [h]
theorem okB_L (s : ByteArray) (h : s.size ≤ 60) : (decide ((nameL s).f0.size ≤ 1000000000000) && decide ((nameL s).f4.length ≤ 1000000)) = true := by
 unfold nameL
 simp
 omega
theorem both_tell (l : List ByteArray) (hl : l.length ≤ 2) (h : ∀ s ∈ l, s.size ≤ 60) : blob_Right.f (l.map nameL) = some (rightPl (l.map nameL)) ∧ r5_Right.f (l.map nameL) = some (rightPl (l.map nameL)) := by
 have h1 : okLocsB (l.map nameL) = true := by
  unfold okLocsB
  rw [List.all_eq_true]
  intro x hx
  obtain ⟨s, hs, rfl⟩ := List.mem_map.1 hx
  exact okB_L s (h s hs)
 have h2 : plainB (l.map nameL) = true := by
  unfold plainB
  rw [List.all_eq_true]
  intro x hx
  obtain ⟨s, hs, rfl⟩ := List.mem_map.1 hx
  rfl
 have h3 : namesB (l.map nameL) = true := by
  unfold namesB
  rw [Bool.and_eq_true, List.all_eq_true, decide_eq_true_eq, List.length_map]
  refine ⟨fun x hx => ?_, by omega⟩
  obtain ⟨s, hs, rfl⟩ := List.mem_map.1 hx
  exact nameB_L s (h s hs)
 refine ⟨?_, ?_⟩
 ·unfold blob_Right.f
  rw [if_pos h1, if_pos h2]
 ·unfold r5_Right.f
  rw [if_pos h3]
theorem twice_wrong (a b : ByteArray) (h : a.toList = b.toList) : rightPl [nameL a, nameL b] = false := by
 have h1 : locPl [nameL a, nameL b] 1 (nameL b) = false := by
  unfold locPl
  have h2 : (([nameL a, nameL b].take 1).any fun y => y.f0.toList == (nameL b).f0.toList) = true := by
   show ((a.toList == b.toList) || false) = true
   rw [h, beq_self_eq_true]
   rfl
  rw [h2]
  simp
 show (if locPl [nameL a, nameL b] 0 (nameL a) = true then (if locPl [nameL a, nameL b] 1 (nameL b) = true then true else false) else false) = false
 rw [h1]
 split <;> rfl
theorem BlobNames : l5_BlobNames.Pure := by
 intro a b _ _
 refine ⟨1, ?_⟩
 unfold l5_BlobNames.f
 show (some true).bind _ = some true
 rw [Option.bind_some, if_pos rfl]
 by_cases ha : (a.size : Int) > 60
 ·rw [if_pos ha, l5_BlobNames.j0, if_pos rfl]
 ·rw [if_neg ha]
  by_cases hb : (b.size : Int) > 60
  ·rw [decide_eq_true hb, l5_BlobNames.j0, if_pos rfl]
  ·have h2 := both_tell [a, b] (Nat.le_refl _) (by intro s hs; simp at hs; rcases hs with rfl | rfl <;> omega)
   have h1 := both_tell [a] (by simp) (by intro s hs; simp at hs; subst hs; omega)
   rw [decide_eq_false hb, l5_BlobNames.j0, if_neg (by decide), Option.bind_some]
   show ((blob_Right.f ([a, b].map nameL)).bind fun t187 => ((r5_Right.f ([a, b].map nameL)).bind fun t188 => (if (t187 == t188) = true then (if a.toList = b.toList then ((blob_Right.f ([a, b].map nameL)).bind fun t189 => (if t189 = true then (some false) else (if 1 ≤ ((([a, b].map nameL).length : Nat) : Int) then ((blob_Right.f ([a].map nameL)).bind fun t194 => ((r5_Right.f ([a].map nameL)).bind fun t199 => (some (t194 == t199)))) else (none)))) else (if 1 ≤ ((([a, b].map nameL).length : Nat) : Int) then ((blob_Right.f ([a].map nameL)).bind fun t204 => ((r5_Right.f ([a].map nameL)).bind fun t209 => (some (t204 == t209)))) else (none))) else (some false)))) = some true
   rw [h2.1, h2.2, h1.1, h1.2]
   simp only [Option.bind_some, beq_self_eq_true, if_true]
   have hlen : (1 : Int) ≤ ((([a, b].map nameL).length : Nat) : Int) := by simp
   by_cases hq : a.toList = b.toList
   ·rw [if_pos hq, show rightPl ([a, b].map nameL) = false from twice_wrong a b hq, if_neg (by decide), if_pos hlen]
   ·rw [if_neg hq, if_pos hlen]
end Go.Proofs.YtiocgaekoeekgaaGreat.Pure
end
