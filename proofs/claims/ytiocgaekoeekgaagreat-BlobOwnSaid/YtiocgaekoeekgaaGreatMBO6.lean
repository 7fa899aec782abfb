/- What was resolved is its own: written to, it does not change the locales: BlobOwn answers true for all that it is given, with no condition. Part 6: contracts of the functions that the law reaches, and words for them. -/
import Derived.Deep.Slices
import Derived.ChangeArms
import Derived.ChangeSame
import Derived.Test.YtiocgaekoeekgaaGreatMBO5
set_option maxHeartbeats 32000000
set_option maxRecDepth 100000
section
namespace Go.Proofs.YtiocgaekoeekgaaGreat.P
open Go.RowKit YtiocgaekoeekgaaGreatW.PrintWords YtiocgaekoeekgaaGreatW.PrintLast YtiocgaekoeekgaaGreatW.PrintMore
attribute [local go_sem] vb_ tb_ jc_ ic_ lb_ kb_ ub_ sb_   
set_option linter.unusedVariables false
set_option linter.unusedSimpArgs false
noncomputable def l5_words.f  : Option ((List (S46))) := some (([(⟨(⟨#[106, 97, 110]⟩ : BA), 1, 1⟩ : S46), (⟨(⟨#[102, 101, 98, 114, 117, 97, 114, 121]⟩ : BA), 1, 2⟩ : S46), (⟨(⟨#[109, 97, 121]⟩ : BA), 1, 5⟩ : S46), (⟨(⟨#[100, 101, 99]⟩ : BA), 1, 12⟩ : S46), (⟨(⟨#[109, 111, 110, 100, 97, 121]⟩ : BA), 2, 0⟩ : S46), (⟨(⟨#[102, 114, 105, 100, 97, 121]⟩ : BA), 2, 4⟩ : S46), (⟨(⟨#[100, 97, 121]⟩ : BA), 3, 1⟩ : S46), (⟨(⟨#[100, 97, 121, 115]⟩ : BA), 3, 1⟩ : S46), (⟨(⟨#[119, 101, 101, 107]⟩ : BA), 3, 2⟩ : S46), (⟨(⟨#[109, 111, 110, 116, 104, 115]⟩ : BA), 3, 3⟩ : S46), (⟨(⟨#[97, 103, 111]⟩ : BA), 4, (-1)⟩ : S46), (⟨(⟨#[104, 101, 110, 99, 101]⟩ : BA), 4, 1⟩ : S46), (⟨(⟨#[97, 109]⟩ : BA), 5, 0⟩ : S46), (⟨(⟨#[112, 109]⟩ : BA), 5, 1⟩ : S46), (⟨(⟨#[101, 117, 114]⟩ : BA), 6, 9782⟩ : S46), (⟨(⟨#[226, 130, 172]⟩ : BA), 6, 9782⟩ : S46), (⟨(⟨#[121, 101, 110]⟩ : BA), 6, 3920⟩ : S46), (⟨(⟨#[115]⟩ : BA), 7, 1⟩ : S46), (⟨(⟨#[109, 105, 110]⟩ : BA), 7, 60⟩ : S46), (⟨(⟨#[104]⟩ : BA), 7, 3600⟩ : S46), (⟨(⟨#[116, 111]⟩ : BA), 8, 0⟩ : S46), (⟨(⟨#[97]⟩ : BA), 9, 1⟩ : S46)] : List (S46)))
theorem l5_words.calls  (r : List (S46)) (w : World) (h : l5_words.f  = some r) :
  Calls Tryz.prog 71 #[] w fun e w' => ∃ v0_ : Value, e = .returned (v0_) ∧ Kd.R k46 46 w' w.heap.size (fun _ => True) v0_ r ∧ Below w.heap.size w w' := by
 have hu46 := Tryz.underlying46
 have HB := aM_ (Below.refl w.heap.size w)
 have H : (some (([(⟨(⟨#[106, 97, 110]⟩ : BA), 1, 1⟩ : S46), (⟨(⟨#[102, 101, 98, 114, 117, 97, 114, 121]⟩ : BA), 1, 2⟩ : S46), (⟨(⟨#[109, 97, 121]⟩ : BA), 1, 5⟩ : S46), (⟨(⟨#[100, 101, 99]⟩ : BA), 1, 12⟩ : S46), (⟨(⟨#[109, 111, 110, 100, 97, 121]⟩ : BA), 2, 0⟩ : S46), (⟨(⟨#[102, 114, 105, 100, 97, 121]⟩ : BA), 2, 4⟩ : S46), (⟨(⟨#[100, 97, 121]⟩ : BA), 3, 1⟩ : S46), (⟨(⟨#[100, 97, 121, 115]⟩ : BA), 3, 1⟩ : S46), (⟨(⟨#[119, 101, 101, 107]⟩ : BA), 3, 2⟩ : S46), (⟨(⟨#[109, 111, 110, 116, 104, 115]⟩ : BA), 3, 3⟩ : S46), (⟨(⟨#[97, 103, 111]⟩ : BA), 4, (-1)⟩ : S46), (⟨(⟨#[104, 101, 110, 99, 101]⟩ : BA), 4, 1⟩ : S46), (⟨(⟨#[97, 109]⟩ : BA), 5, 0⟩ : S46), (⟨(⟨#[112, 109]⟩ : BA), 5, 1⟩ : S46), (⟨(⟨#[101, 117, 114]⟩ : BA), 6, 9782⟩ : S46), (⟨(⟨#[226, 130, 172]⟩ : BA), 6, 9782⟩ : S46), (⟨(⟨#[121, 101, 110]⟩ : BA), 6, 3920⟩ : S46), (⟨(⟨#[115]⟩ : BA), 7, 1⟩ : S46), (⟨(⟨#[109, 105, 110]⟩ : BA), 7, 60⟩ : S46), (⟨(⟨#[104]⟩ : BA), 7, 3600⟩ : S46), (⟨(⟨#[116, 111]⟩ : BA), 8, 0⟩ : S46), (⟨(⟨#[97]⟩ : BA), 9, 1⟩ : S46)] : List (S46)))) = some r := h
 clear h
 obtain ⟨y259, hy259⟩ : ∃ y_ : List (S46), y_ = (([(⟨(⟨#[106, 97, 110]⟩ : BA), 1, 1⟩ : S46), (⟨(⟨#[102, 101, 98, 114, 117, 97, 114, 121]⟩ : BA), 1, 2⟩ : S46), (⟨(⟨#[109, 97, 121]⟩ : BA), 1, 5⟩ : S46), (⟨(⟨#[100, 101, 99]⟩ : BA), 1, 12⟩ : S46), (⟨(⟨#[109, 111, 110, 100, 97, 121]⟩ : BA), 2, 0⟩ : S46), (⟨(⟨#[102, 114, 105, 100, 97, 121]⟩ : BA), 2, 4⟩ : S46), (⟨(⟨#[100, 97, 121]⟩ : BA), 3, 1⟩ : S46), (⟨(⟨#[100, 97, 121, 115]⟩ : BA), 3, 1⟩ : S46), (⟨(⟨#[119, 101, 101, 107]⟩ : BA), 3, 2⟩ : S46), (⟨(⟨#[109, 111, 110, 116, 104, 115]⟩ : BA), 3, 3⟩ : S46), (⟨(⟨#[97, 103, 111]⟩ : BA), 4, (-1)⟩ : S46), (⟨(⟨#[104, 101, 110, 99, 101]⟩ : BA), 4, 1⟩ : S46), (⟨(⟨#[97, 109]⟩ : BA), 5, 0⟩ : S46), (⟨(⟨#[112, 109]⟩ : BA), 5, 1⟩ : S46), (⟨(⟨#[101, 117, 114]⟩ : BA), 6, 9782⟩ : S46), (⟨(⟨#[226, 130, 172]⟩ : BA), 6, 9782⟩ : S46), (⟨(⟨#[121, 101, 110]⟩ : BA), 6, 3920⟩ : S46), (⟨(⟨#[115]⟩ : BA), 7, 1⟩ : S46), (⟨(⟨#[109, 105, 110]⟩ : BA), 7, 60⟩ : S46), (⟨(⟨#[104]⟩ : BA), 7, 3600⟩ : S46), (⟨(⟨#[116, 111]⟩ : BA), 8, 0⟩ : S46), (⟨(⟨#[97]⟩ : BA), 9, 1⟩ : S46)] : List (S46))) := ⟨_, rfl⟩
 replace H : (some y259) = some r := by first | (rw [hy259]; with_reducible exact H) | (have H2_ := (Option.bind_some _ _).symm.trans H; rw [hy259]; with_reducible exact H2_) | (have H2_ := (Option.bind_some _ _).symm.trans H; with_reducible exact H2_) | with_reducible exact H | (rw [hy259]; exact H) | exact H
 have Ny259 := aM_ hy259
 clear hy259
 obtain rfl := Option.some.inj H
 go_enter Tryz.func71, Tryz.ntmps71
 go_wp2_with (first | ((with_reducible refine ld_ (N := 23) rfl ?_); refine Kd.R_lit k46 _ 46 ?hg (N := 23) ?hd (xs := ([(⟨(⟨#[106, 97, 110]⟩ : BA), 1, 1⟩ : S46), (⟨(⟨#[102, 101, 98, 114, 117, 97, 114, 121]⟩ : BA), 1, 2⟩ : S46), (⟨(⟨#[109, 97, 121]⟩ : BA), 1, 5⟩ : S46), (⟨(⟨#[100, 101, 99]⟩ : BA), 1, 12⟩ : S46), (⟨(⟨#[109, 111, 110, 100, 97, 121]⟩ : BA), 2, 0⟩ : S46), (⟨(⟨#[102, 114, 105, 100, 97, 121]⟩ : BA), 2, 4⟩ : S46), (⟨(⟨#[100, 97, 121]⟩ : BA), 3, 1⟩ : S46), (⟨(⟨#[100, 97, 121, 115]⟩ : BA), 3, 1⟩ : S46), (⟨(⟨#[119, 101, 101, 107]⟩ : BA), 3, 2⟩ : S46), (⟨(⟨#[109, 111, 110, 116, 104, 115]⟩ : BA), 3, 3⟩ : S46), (⟨(⟨#[97, 103, 111]⟩ : BA), 4, (-1)⟩ : S46), (⟨(⟨#[104, 101, 110, 99, 101]⟩ : BA), 4, 1⟩ : S46), (⟨(⟨#[97, 109]⟩ : BA), 5, 0⟩ : S46), (⟨(⟨#[112, 109]⟩ : BA), 5, 1⟩ : S46), (⟨(⟨#[101, 117, 114]⟩ : BA), 6, 9782⟩ : S46), (⟨(⟨#[226, 130, 172]⟩ : BA), 6, 9782⟩ : S46), (⟨(⟨#[121, 101, 110]⟩ : BA), 6, 3920⟩ : S46), (⟨(⟨#[115]⟩ : BA), 7, 1⟩ : S46), (⟨(⟨#[109, 105, 110]⟩ : BA), 7, 60⟩ : S46), (⟨(⟨#[104]⟩ : BA), 7, 3600⟩ : S46), (⟨(⟨#[116, 111]⟩ : BA), 8, 0⟩ : S46), (⟨(⟨#[97]⟩ : BA), 9, 1⟩ : S46)] : List (S46))) (inner := [.string (⟨#[106, 97, 110]⟩ : BA), .int .i64 1, .int .i64 1, .string (⟨#[102, 101, 98, 114, 117, 97, 114, 121]⟩ : BA), .int .i64 1, .int .i64 2, .string (⟨#[109, 97, 121]⟩ : BA), .int .i64 1, .int .i64 5, .string (⟨#[100, 101, 99]⟩ : BA), .int .i64 1, .int .i64 12, .string (⟨#[109, 111, 110, 100, 97, 121]⟩ : BA), .int .i64 2, .int .i64 0, .string (⟨#[102, 114, 105, 100, 97, 121]⟩ : BA), .int .i64 2, .int .i64 4, .string (⟨#[100, 97, 121]⟩ : BA), .int .i64 3, .int .i64 1, .string (⟨#[100, 97, 121, 115]⟩ : BA), .int .i64 3, .int .i64 1, .string (⟨#[119, 101, 101, 107]⟩ : BA), .int .i64 3, .int .i64 2, .string (⟨#[109, 111, 110, 116, 104, 115]⟩ : BA), .int .i64 3, .int .i64 3, .string (⟨#[97, 103, 111]⟩ : BA), .int .i64 4, .int .i64 (-1), .string (⟨#[104, 101, 110, 99, 101]⟩ : BA), .int .i64 4, .int .i64 1, .string (⟨#[97, 109]⟩ : BA), .int .i64 5, .int .i64 0, .string (⟨#[112, 109]⟩ : BA), .int .i64 5, .int .i64 1, .string (⟨#[101, 117, 114]⟩ : BA), .int .i64 6, .int .i64 9782, .string (⟨#[226, 130, 172]⟩ : BA), .int .i64 6, .int .i64 9782, .string (⟨#[121, 101, 110]⟩ : BA), .int .i64 6, .int .i64 3920, .string (⟨#[115]⟩ : BA), .int .i64 7, .int .i64 1, .string (⟨#[109, 105, 110]⟩ : BA), .int .i64 7, .int .i64 60, .string (⟨#[104]⟩ : BA), .int .i64 7, .int .i64 3600, .string (⟨#[116, 111]⟩ : BA), .int .i64 8, .int .i64 0, .string (⟨#[97]⟩ : BA), .int .i64 9, .int .i64 1]) (ok := fun _ => True) (okp := fun _ => True) ?hr ?hp (fun _ hk => hk) trivial (Below.refl _ _) (Nat.le_refl _) (by simp) ?_; (case hd => rfl); (case hg => rfl); (case hr => first | (go_simp; done) | (go_simp; rfl)); (case hp => exact (Reps.c3 (show Kd.M k46 _ _ _ (⟨(⟨#[106, 97, 110]⟩ : BA), 1, 1⟩ : S46) [.string (⟨#[106, 97, 110]⟩ : BA), .int .i64 1, .int .i64 1] from (oc_ _ _ _ (⟨(⟨#[106, 97, 110]⟩ : BA), 1, 1⟩ : S46) )) (Reps.c3 (show Kd.M k46 _ _ _ (⟨(⟨#[102, 101, 98, 114, 117, 97, 114, 121]⟩ : BA), 1, 2⟩ : S46) [.string (⟨#[102, 101, 98, 114, 117, 97, 114, 121]⟩ : BA), .int .i64 1, .int .i64 2] from (oc_ _ _ _ (⟨(⟨#[102, 101, 98, 114, 117, 97, 114, 121]⟩ : BA), 1, 2⟩ : S46) )) (Reps.c3 (show Kd.M k46 _ _ _ (⟨(⟨#[109, 97, 121]⟩ : BA), 1, 5⟩ : S46) [.string (⟨#[109, 97, 121]⟩ : BA), .int .i64 1, .int .i64 5] from (oc_ _ _ _ (⟨(⟨#[109, 97, 121]⟩ : BA), 1, 5⟩ : S46) )) (Reps.c3 (show Kd.M k46 _ _ _ (⟨(⟨#[100, 101, 99]⟩ : BA), 1, 12⟩ : S46) [.string (⟨#[100, 101, 99]⟩ : BA), .int .i64 1, .int .i64 12] from (oc_ _ _ _ (⟨(⟨#[100, 101, 99]⟩ : BA), 1, 12⟩ : S46) )) (Reps.c3 (show Kd.M k46 _ _ _ (⟨(⟨#[109, 111, 110, 100, 97, 121]⟩ : BA), 2, 0⟩ : S46) [.string (⟨#[109, 111, 110, 100, 97, 121]⟩ : BA), .int .i64 2, .int .i64 0] from (oc_ _ _ _ (⟨(⟨#[109, 111, 110, 100, 97, 121]⟩ : BA), 2, 0⟩ : S46) )) (Reps.c3 (show Kd.M k46 _ _ _ (⟨(⟨#[102, 114, 105, 100, 97, 121]⟩ : BA), 2, 4⟩ : S46) [.string (⟨#[102, 114, 105, 100, 97, 121]⟩ : BA), .int .i64 2, .int .i64 4] from (oc_ _ _ _ (⟨(⟨#[102, 114, 105, 100, 97, 121]⟩ : BA), 2, 4⟩ : S46) )) (Reps.c3 (show Kd.M k46 _ _ _ (⟨(⟨#[100, 97, 121]⟩ : BA), 3, 1⟩ : S46) [.string (⟨#[100, 97, 121]⟩ : BA), .int .i64 3, .int .i64 1] from (oc_ _ _ _ (⟨(⟨#[100, 97, 121]⟩ : BA), 3, 1⟩ : S46) )) (Reps.c3 (show Kd.M k46 _ _ _ (⟨(⟨#[100, 97, 121, 115]⟩ : BA), 3, 1⟩ : S46) [.string (⟨#[100, 97, 121, 115]⟩ : BA), .int .i64 3, .int .i64 1] from (oc_ _ _ _ (⟨(⟨#[100, 97, 121, 115]⟩ : BA), 3, 1⟩ : S46) )) (Reps.c3 (show Kd.M k46 _ _ _ (⟨(⟨#[119, 101, 101, 107]⟩ : BA), 3, 2⟩ : S46) [.string (⟨#[119, 101, 101, 107]⟩ : BA), .int .i64 3, .int .i64 2] from (oc_ _ _ _ (⟨(⟨#[119, 101, 101, 107]⟩ : BA), 3, 2⟩ : S46) )) (Reps.c3 (show Kd.M k46 _ _ _ (⟨(⟨#[109, 111, 110, 116, 104, 115]⟩ : BA), 3, 3⟩ : S46) [.string (⟨#[109, 111, 110, 116, 104, 115]⟩ : BA), .int .i64 3, .int .i64 3] from (oc_ _ _ _ (⟨(⟨#[109, 111, 110, 116, 104, 115]⟩ : BA), 3, 3⟩ : S46) )) (Reps.c3 (show Kd.M k46 _ _ _ (⟨(⟨#[97, 103, 111]⟩ : BA), 4, (-1)⟩ : S46) [.string (⟨#[97, 103, 111]⟩ : BA), .int .i64 4, .int .i64 (-1)] from (oc_ _ _ _ (⟨(⟨#[97, 103, 111]⟩ : BA), 4, (-1)⟩ : S46) )) (Reps.c3 (show Kd.M k46 _ _ _ (⟨(⟨#[104, 101, 110, 99, 101]⟩ : BA), 4, 1⟩ : S46) [.string (⟨#[104, 101, 110, 99, 101]⟩ : BA), .int .i64 4, .int .i64 1] from (oc_ _ _ _ (⟨(⟨#[104, 101, 110, 99, 101]⟩ : BA), 4, 1⟩ : S46) )) (Reps.c3 (show Kd.M k46 _ _ _ (⟨(⟨#[97, 109]⟩ : BA), 5, 0⟩ : S46) [.string (⟨#[97, 109]⟩ : BA), .int .i64 5, .int .i64 0] from (oc_ _ _ _ (⟨(⟨#[97, 109]⟩ : BA), 5, 0⟩ : S46) )) (Reps.c3 (show Kd.M k46 _ _ _ (⟨(⟨#[112, 109]⟩ : BA), 5, 1⟩ : S46) [.string (⟨#[112, 109]⟩ : BA), .int .i64 5, .int .i64 1] from (oc_ _ _ _ (⟨(⟨#[112, 109]⟩ : BA), 5, 1⟩ : S46) )) (Reps.c3 (show Kd.M k46 _ _ _ (⟨(⟨#[101, 117, 114]⟩ : BA), 6, 9782⟩ : S46) [.string (⟨#[101, 117, 114]⟩ : BA), .int .i64 6, .int .i64 9782] from (oc_ _ _ _ (⟨(⟨#[101, 117, 114]⟩ : BA), 6, 9782⟩ : S46) )) (Reps.c3 (show Kd.M k46 _ _ _ (⟨(⟨#[226, 130, 172]⟩ : BA), 6, 9782⟩ : S46) [.string (⟨#[226, 130, 172]⟩ : BA), .int .i64 6, .int .i64 9782] from (oc_ _ _ _ (⟨(⟨#[226, 130, 172]⟩ : BA), 6, 9782⟩ : S46) )) (Reps.c3 (show Kd.M k46 _ _ _ (⟨(⟨#[121, 101, 110]⟩ : BA), 6, 3920⟩ : S46) [.string (⟨#[121, 101, 110]⟩ : BA), .int .i64 6, .int .i64 3920] from (oc_ _ _ _ (⟨(⟨#[121, 101, 110]⟩ : BA), 6, 3920⟩ : S46) )) (Reps.c3 (show Kd.M k46 _ _ _ (⟨(⟨#[115]⟩ : BA), 7, 1⟩ : S46) [.string (⟨#[115]⟩ : BA), .int .i64 7, .int .i64 1] from (oc_ _ _ _ (⟨(⟨#[115]⟩ : BA), 7, 1⟩ : S46) )) (Reps.c3 (show Kd.M k46 _ _ _ (⟨(⟨#[109, 105, 110]⟩ : BA), 7, 60⟩ : S46) [.string (⟨#[109, 105, 110]⟩ : BA), .int .i64 7, .int .i64 60] from (oc_ _ _ _ (⟨(⟨#[109, 105, 110]⟩ : BA), 7, 60⟩ : S46) )) (Reps.c3 (show Kd.M k46 _ _ _ (⟨(⟨#[104]⟩ : BA), 7, 3600⟩ : S46) [.string (⟨#[104]⟩ : BA), .int .i64 7, .int .i64 3600] from (oc_ _ _ _ (⟨(⟨#[104]⟩ : BA), 7, 3600⟩ : S46) )) (Reps.c3 (show Kd.M k46 _ _ _ (⟨(⟨#[116, 111]⟩ : BA), 8, 0⟩ : S46) [.string (⟨#[116, 111]⟩ : BA), .int .i64 8, .int .i64 0] from (oc_ _ _ _ (⟨(⟨#[116, 111]⟩ : BA), 8, 0⟩ : S46) )) (Reps.c3 (show Kd.M k46 _ _ _ (⟨(⟨#[97]⟩ : BA), 9, 1⟩ : S46) [.string (⟨#[97]⟩ : BA), .int .i64 9, .int .i64 1] from (oc_ _ _ _ (⟨(⟨#[97]⟩ : BA), 9, 1⟩ : S46) )) (Reps.none _ _)))))))))))))))))))))))); intro v260 w1 ho2 hb hg_ hnew_; clear hg_ hnew_; (first | rw [← Ny259.out] at ho2 | (simp only [Int.reduceToNat] at ho2; rw [← Ny259.out] at ho2)); have n0_ := aM_ (Kd.R_lower ho2 (qa_ (by repeat (first | (with_reducible first | exact HB.out | apply aa_ | apply ca_ | apply ga_) | exact HB.out)))); have n1_ := aM_ (fa_ (by repeat (first | (with_reducible first | exact HB.out | apply aa_ | apply ca_ | apply ga_) | exact HB.out)) hb); clear HB; have HO261 := n0_; have HB := n1_; clear n0_ n1_; clear hb ho2))
 go_ret
 exact ⟨_, by first | rfl | (simp [eb_, db_] <;> rfl) | (simp [*, eb_, db_] <;> rfl), by (with_reducible repeat (first | apply Kd.R_alloc | apply Kd.R_drewN | apply Kd.R_drew)); exact HO261.out, by repeat (first | (with_reducible first | exact HB.out | apply aa_ | apply ca_ | apply ga_) | exact HB.out)⟩
noncomputable def l5_number.f (a0 : Int) (a1 : Int) : Option (Int × ByteArray × Int × Int × Int) := some (1, (⟨#[]⟩ : BA), a0, a1, 0)
theorem l5_number.calls (a0 : Int) (a1 : Int) (r1 : Int) (r2 : BA) (r3 : Int) (r4 : Int) (r5 : Int) (w : World) (h : l5_number.f a0 a1 = some (r1, r2, r3, r4, r5)) :
  Calls Tryz.prog 120 #[.int .i64 a0, .int .i64 a1] w fun e w' => e = .returned (.agg #[.int .i64 r1, .string r2, .int .i64 r3, .int .i64 r4, .int .i64 r5]) ∧ Below w.heap.size w w' := by
 have hu48 := Tryz.underlying48
 have HB := aM_ (Below.refl w.heap.size w)
 have H : (some (1, (⟨#[]⟩ : BA), a0, a1, 0)) = some (r1, r2, r3, r4, r5) := h
 clear h
 simp only [Option.some.injEq, Prod.mk.injEq] at H
 obtain ⟨rfl, rfl, rfl, rfl, rfl⟩ := H
 go_enter Tryz.func120, Tryz.ntmps120
 go_wp2_with (first | ((with_reducible refine ld_ (N := 4) rfl ?_); refine te_ ?hg (N := 4) ?hd (cs := #[.int .i64 0, .string (⟨#[]⟩ : BA), .int .i64 0, .int .i64 0, .int .i64 0]) (t := 48) ?hr ?_; (case hd => rfl); (case hg => rfl); (case hr => first | (go_simp; done) | (go_simp; rfl)); intro gb262 hg w3 hbox hb; have n0_ := aM_ (fa_ (by repeat (first | (with_reducible first | exact HB.out | apply aa_ | apply ca_ | apply ga_) | exact HB.out)) hb); have n1_ := aM_ (hbox); have n2_ := aM_ ((by rw [hg]; exact (qa_ (by repeat (first | (with_reducible first | exact HB.out | apply aa_ | apply ca_ | apply ga_) | exact HB.out))) : w.heap.size ≤ gb262)); have n3_ := aM_ ((by rw [hg]; exact (qa_ (by repeat (first | (with_reducible first | exact HB.out | apply aa_ | apply ca_ | apply ga_) | exact HB.out))) : w.heap.size ≤ gb262)); clear HB; have HB := n0_; have BK262 := n1_; have GW262 := n2_; have GE262 := n3_; clear n0_ n1_ n2_ n3_; clear hb hbox hg; have hcz4_0 : w3.cell? ⟨gb262, 0, none⟩ = some (.int .i64 0) := (ba_ BK262.out 0).trans rfl; have hcz4_1 : w3.cell? ⟨gb262, 1, none⟩ = some (.string (⟨#[]⟩ : BA)) := (ba_ BK262.out 1).trans rfl; have hcz4_2 : w3.cell? ⟨gb262, 2, none⟩ = some (.int .i64 0) := (ba_ BK262.out 2).trans rfl; have hcz4_3 : w3.cell? ⟨gb262, 3, none⟩ = some (.int .i64 0) := (ba_ BK262.out 3).trans rfl; have hcz4_4 : w3.cell? ⟨gb262, 4, none⟩ = some (.int .i64 0) := (ba_ BK262.out 4).trans rfl; have hfz4_0 := da_ BK262.out 0; have hfz4_1 := da_ BK262.out 1; have hfz4_2 := da_ BK262.out 2; have hfz4_3 := da_ BK262.out 3; have hfz4_4 := da_ BK262.out 4))
 refine bodyPost_ret (results_cell_row rfl _ _ gb262 48 #[.int .i64 1, .string (⟨#[]⟩ : BA), .int .i64 a0, .int .i64 a1, .int .i64 0] (0, 0) _ rfl (by (with_reducible repeat (first | refine la_ ?_ _ | refine ma_ ?_ | refine ka_ ?_ _)); refine lc_ (cs := #[.int .i64 1, .string (⟨#[]⟩ : BA), .int .i64 a0, .int .i64 a1, .int .i64 0]) ?_ 4 _ rfl; (with_reducible repeat (first | refine la_ ?_ _ | refine ma_ ?_ | refine ka_ ?_ _)); refine lc_ (cs := #[.int .i64 1, .string (⟨#[]⟩ : BA), .int .i64 a0, .int .i64 0, .int .i64 0]) ?_ 3 _ rfl; (with_reducible repeat (first | refine la_ ?_ _ | refine ma_ ?_ | refine ka_ ?_ _)); refine lc_ (cs := #[.int .i64 1, .string (⟨#[]⟩ : BA), .int .i64 0, .int .i64 0, .int .i64 0]) ?_ 2 _ rfl; (with_reducible repeat (first | refine la_ ?_ _ | refine ma_ ?_ | refine ka_ ?_ _)); refine lc_ (cs := #[.int .i64 1, .string (⟨#[]⟩ : BA), .int .i64 0, .int .i64 0, .int .i64 0]) ?_ 1 _ rfl; (with_reducible repeat (first | refine la_ ?_ _ | refine ma_ ?_ | refine ka_ ?_ _)); refine lc_ (cs := #[.int .i64 0, .string (⟨#[]⟩ : BA), .int .i64 0, .int .i64 0, .int .i64 0]) ?_ 0 _ rfl; (with_reducible repeat (first | refine la_ ?_ _ | refine ma_ ?_ | refine ka_ ?_ _)); exact BK262.out) Tryz.underlying48 rfl (by kernel_rfl)) rfl ?_
 exact ⟨by first | rfl | (simp [eb_, db_] <;> rfl) | (simp [*, eb_, db_] <;> rfl), by repeat (first | (with_reducible first | exact HB.out | apply aa_ | apply ca_ | apply ga_ | refine na_ ?_ GE262.out) | exact HB.out)⟩
noncomputable def l5_text.f (a0 : BA) : Option (Int × ByteArray × Int × Int × Int) := some (0, a0, 0, 0, 0)
theorem l5_text.calls (a0 : BA) (r1 : Int) (r2 : BA) (r3 : Int) (r4 : Int) (r5 : Int) (w : World) (h : l5_text.f a0 = some (r1, r2, r3, r4, r5)) :
  Calls Tryz.prog 121 #[.string a0] w fun e w' => e = .returned (.agg #[.int .i64 r1, .string r2, .int .i64 r3, .int .i64 r4, .int .i64 r5]) ∧ Below w.heap.size w w' := by
 have hu48 := Tryz.underlying48
 have HB := aM_ (Below.refl w.heap.size w)
 have H : (some (0, a0, 0, 0, 0)) = some (r1, r2, r3, r4, r5) := h
 clear h
 simp only [Option.some.injEq, Prod.mk.injEq] at H
 obtain ⟨rfl, rfl, rfl, rfl, rfl⟩ := H
 go_enter Tryz.func121, Tryz.ntmps121
 go_wp2_with (first | ((with_reducible refine ld_ (N := 2) rfl ?_); refine te_ ?hg (N := 2) ?hd (cs := #[.int .i64 0, .string (⟨#[]⟩ : BA), .int .i64 0, .int .i64 0, .int .i64 0]) (t := 48) ?hr ?_; (case hd => rfl); (case hg => rfl); (case hr => first | (go_simp; done) | (go_simp; rfl)); intro gb263 hg w2 hbox hb; have n0_ := aM_ (fa_ (by repeat (first | (with_reducible first | exact HB.out | apply aa_ | apply ca_ | apply ga_) | exact HB.out)) hb); have n1_ := aM_ (hbox); have n2_ := aM_ ((by rw [hg]; exact (qa_ (by repeat (first | (with_reducible first | exact HB.out | apply aa_ | apply ca_ | apply ga_) | exact HB.out))) : w.heap.size ≤ gb263)); have n3_ := aM_ ((by rw [hg]; exact (qa_ (by repeat (first | (with_reducible first | exact HB.out | apply aa_ | apply ca_ | apply ga_) | exact HB.out))) : w.heap.size ≤ gb263)); clear HB; have HB := n0_; have BK263 := n1_; have GW263 := n2_; have GE263 := n3_; clear n0_ n1_ n2_ n3_; clear hb hbox hg; have hcz3_0 : w2.cell? ⟨gb263, 0, none⟩ = some (.int .i64 0) := (ba_ BK263.out 0).trans rfl; have hcz3_1 : w2.cell? ⟨gb263, 1, none⟩ = some (.string (⟨#[]⟩ : BA)) := (ba_ BK263.out 1).trans rfl; have hcz3_2 : w2.cell? ⟨gb263, 2, none⟩ = some (.int .i64 0) := (ba_ BK263.out 2).trans rfl; have hcz3_3 : w2.cell? ⟨gb263, 3, none⟩ = some (.int .i64 0) := (ba_ BK263.out 3).trans rfl; have hcz3_4 : w2.cell? ⟨gb263, 4, none⟩ = some (.int .i64 0) := (ba_ BK263.out 4).trans rfl; have hfz3_0 := da_ BK263.out 0; have hfz3_1 := da_ BK263.out 1; have hfz3_2 := da_ BK263.out 2; have hfz3_3 := da_ BK263.out 3; have hfz3_4 := da_ BK263.out 4))
 refine bodyPost_ret (results_cell_row rfl _ _ gb263 48 #[.int .i64 0, .string a0, .int .i64 0, .int .i64 0, .int .i64 0] (0, 0) _ rfl (by (with_reducible repeat (first | refine la_ ?_ _ | refine ma_ ?_ | refine ka_ ?_ _)); refine lc_ (cs := #[.int .i64 0, .string a0, .int .i64 0, .int .i64 0, .int .i64 0]) ?_ 4 _ rfl; (with_reducible repeat (first | refine la_ ?_ _ | refine ma_ ?_ | refine ka_ ?_ _)); refine lc_ (cs := #[.int .i64 0, .string a0, .int .i64 0, .int .i64 0, .int .i64 0]) ?_ 3 _ rfl; (with_reducible repeat (first | refine la_ ?_ _ | refine ma_ ?_ | refine ka_ ?_ _)); refine lc_ (cs := #[.int .i64 0, .string a0, .int .i64 0, .int .i64 0, .int .i64 0]) ?_ 2 _ rfl; (with_reducible repeat (first | refine la_ ?_ _ | refine ma_ ?_ | refine ka_ ?_ _)); refine lc_ (cs := #[.int .i64 0, .string (⟨#[]⟩ : BA), .int .i64 0, .int .i64 0, .int .i64 0]) ?_ 1 _ rfl; (with_reducible repeat (first | refine la_ ?_ _ | refine ma_ ?_ | refine ka_ ?_ _)); refine lc_ (cs := #[.int .i64 0, .string (⟨#[]⟩ : BA), .int .i64 0, .int .i64 0, .int .i64 0]) ?_ 0 _ rfl; (with_reducible repeat (first | refine la_ ?_ _ | refine ma_ ?_ | refine ka_ ?_ _)); exact BK263.out) Tryz.underlying48 rfl (by kernel_rfl)) rfl ?_
 exact ⟨by first | rfl | (simp [eb_, db_] <;> rfl) | (simp [*, eb_, db_] <;> rfl), by repeat (first | (with_reducible first | exact HB.out | apply aa_ | apply ca_ | apply ga_ | refine na_ ?_ GE263.out) | exact HB.out)⟩
end Go.Proofs.YtiocgaekoeekgaaGreat.P
end
section
namespace Go.Proofs.YtiocgaekoeekgaaGreat.P
open Go.RowKit YtiocgaekoeekgaaGreatW.PrintWords YtiocgaekoeekgaaGreatW.PrintLast YtiocgaekoeekgaaGreatW.PrintMore
attribute [local go_sem] vb_ tb_ jc_ ic_ lb_ kb_ ub_ sb_   
set_option linter.unusedVariables false
set_option linter.unusedSimpArgs false
attribute [local go_sem] Oper.semAt_some
abbrev cb_ := S56
theorem lit_R {W : World} {base a : Nat} {xs : List Int} {ok : Nat → Prop} (h : W.heap[a]? = some (.cells (xs.map (Value.int .i64)).toArray 3 (0, 0))) (hb : base ≤ a) (hn : xs.length ≤ 1000000) (hok : ok a) : Kd.R (Kd.int .i64) 3 W base ok (.slice (some ⟨a, 0, none⟩) xs.length xs.length) xs := by
 have h1 : W.ownsRow base 3 1 (.slice (some ⟨a, 0, none⟩) xs.length xs.length) xs.length (xs.map (Value.int .i64)) :=
  ⟨by simp, .inr ⟨a, xs.length, _, rfl, hb, h, Nat.le_refl _, by simp [maxLen]; omega, by simp, by rw [List.take_of_length_le (by simp)]⟩⟩
 exact Kd.R_of_own (enc := Value.int .i64) (h1 := fun _ => rfl) (xs := xs) h1 (fun k hk => by
  have hk2 : a = k := by simpa [Value.ownBlock] using hk
  exact hk2 ▸ hok)
def encR (r : cb_ × Nat × Nat) : List Value := [.int .i64 r.1.f0, .slice (some ⟨r.2.1, 0, none⟩) r.1.f1.length r.1.f1.length, .int .i64 r.1.f2.f0, .slice (some ⟨r.2.2, 0, none⟩) r.1.f2.f1.length r.1.f2.f1.length, .int .i64 r.1.f3]
structure RLits (W : World) (base : Nat) (Rs : List (cb_ × Nat × Nat)) : Prop where
 blk : ∀ r ∈ Rs, (W.heap[r.2.1]? = some (.cells (r.1.f1.map (Value.int .i64)).toArray 3 (0, 0)) ∧ W.heap[r.2.2]? = some (.cells (r.1.f2.f1.map (Value.int .i64)).toArray 3 (0, 0))) ∧ base ≤ r.2.1 ∧ base ≤ r.2.2
 up : Rs.Pairwise fun x y => x.2.1 < y.2.1 ∧ x.2.1 < y.2.2 ∧ x.2.2 < y.2.1 ∧ x.2.2 < y.2.2
theorem RLits.nil (W : World) (base : Nat) : RLits W base [] := ⟨by simp, List.Pairwise.nil⟩
theorem RLits.below {W W1 : World} {base : Nat} {Rs : List (cb_ × Nat × Nat)} (h : RLits W base Rs) (hb : Below W.heap.size W W1) : RLits W1 base Rs := ⟨fun r hr => ⟨⟨oa_ (h.blk r hr).1.1 hb, oa_ (h.blk r hr).1.2 hb⟩, (h.blk r hr).2⟩, h.up⟩
theorem RLits.snoc {W W1 : World} {base : Nat} {Rs : List (cb_ × Nat × Nat)} (h : RLits W base Rs) (hb : Below W.heap.size W W1) (x : cb_) (a1 a3 : Nat) (h1 : W1.heap[a1]? = some (.cells (x.f1.map (Value.int .i64)).toArray 3 (0, 0))) (h3 : W1.heap[a3]? = some (.cells (x.f2.f1.map (Value.int .i64)).toArray 3 (0, 0)))
  (hg : base ≤ a1 ∧ base ≤ a3) (hs : Rs = [] ∨ (W.heap.size ≤ a1 ∧ W.heap.size ≤ a3)) : RLits W1 base (Rs ++ [(x, a1, a3)]) := by
 refine ⟨fun r hr => ?_, List.pairwise_append.2 ⟨h.up, List.pairwise_singleton _ _, fun r hr q hq => ?_⟩⟩
 ·rcases List.mem_append.1 hr with hr | hr
  ·exact (h.below hb).blk r hr
  rw [List.mem_singleton.1 hr]; exact ⟨⟨h1, h3⟩, hg⟩
 rw [List.mem_singleton.1 hq]
 rcases hs with rfl | hs
 ·simp at hr
 have b1 := za_ (h.blk r hr).1.1
 have b2 := za_ (h.blk r hr).1.2
 show r.2.1 < a1 ∧ r.2.1 < a3 ∧ r.2.2 < a1 ∧ r.2.2 < a3
 omega
theorem nl_ {α β : Type} (f : α → List β) (n : Nat) (hf : ∀ x, (f x).length = n) : ∀ (l : List α) (j : Nat) (x : α), l[j]? = some x → ((l.flatMap f).drop (j * n)).take n = f x
 | [], j, x, h => by simp at h
 | y :: l, 0, x, h => by
  injection h with h; subst h; rw [Nat.zero_mul, List.drop_zero, List.flatMap_cons]; rw [← hf y]
  exact List.take_left
 | y :: l, j + 1, x, h => by
  rw [List.flatMap_cons, Nat.succ_mul, Nat.add_comm, ← List.drop_drop, ← hf y, List.drop_left, hf y]; exact nl_ f n hf l j x h
theorem xf_ {α β : Type} (f : α → List β) (n : Nat) (hf : ∀ x, (f x).length = n) : ∀ l : List α, (l.flatMap f).length = l.length * n
 | [] => by simp
 | y :: l => by rw [List.flatMap_cons, List.length_append, xf_ f n hf l, hf y, List.length_cons, Nat.succ_mul, Nat.add_comm]
theorem ds_ {Rs : List (cb_ × Nat × Nat)} (h : Rs.Pairwise fun x y => x.2.1 < y.2.1 ∧ x.2.1 < y.2.2 ∧ x.2.2 < y.2.1 ∧ x.2.2 < y.2.2) (i j : Nat) (x y : cb_ × Nat × Nat) (hx : Rs[i]? = some x) (hy : Rs[j]? = some y) (k : Nat) (h1 : k = x.2.1 ∨ k = x.2.2) (h2 : k = y.2.1 ∨ k = y.2.2) : i = j := by
 obtain ⟨hi, ei⟩ := List.getElem?_eq_some_iff.1 hx
 obtain ⟨hj, ej⟩ := List.getElem?_eq_some_iff.1 hy
 rcases Nat.lt_trichotomy i j with hij | hij | hij
 ·have := List.pairwise_iff_getElem.1 h i j hi hj hij
  rw [ei, ej] at this; omega
 ·exact hij
 have := List.pairwise_iff_getElem.1 h j i hj hi hij
 rw [ei, ej] at this
 omega
theorem ht_ {W : World} {base : Nat} (Rs : List (cb_ × Nat × Nat)) (h : RLits W base Rs) (hb : base ≤ W.heap.size) (hs : ∀ r ∈ Rs, r.1.f1.length ≤ 1000000 ∧ r.1.f2.f1.length ≤ 1000000) (hn : Rs.length ≤ 1000000) :
  Kd.S k56 56 (W.alloc (.cells (Rs.flatMap encR).toArray 56)) base (fun _ => True) (.slice (some ⟨W.heap.size, 0, none⟩) Rs.length Rs.length) (Rs.map (·.1)) := by
 obtain ⟨f, hrep⟩ := Kd.reps_tag (d := k56) (w := W) (base := base) (ok := fun k => k < W.heap.size) (xs := Rs.map (·.1)) (inner := Rs.flatMap encR) (fun j k => ∃ x, Rs[j]? = some x ∧ (k = x.2.1 ∨ k = x.2.2))
  (fun i j k ⟨x, hx, h1⟩ ⟨y, hy, h2⟩ => ds_ h.up i j x y hx hy k h1 h2)
  (fun j k ⟨x, hx, h1⟩ => by
   have hm := h.blk x (List.mem_of_getElem? hx)
   rcases h1 with rfl | rfl
   ·exact za_ hm.1.1
   exact za_ hm.1.2)
  (by rw [List.length_map]; exact xf_ encR 5 (fun _ => rfl) Rs)
  (fun j x hx => by
   rw [List.getElem?_map] at hx; obtain ⟨r, hr, rfl⟩ := Option.map_eq_some_iff.1 hx; have hm := h.blk r (List.mem_of_getElem? hr); have hs' := hs r (List.mem_of_getElem? hr); show k56.M W base _ r.1 (((Rs.flatMap encR).drop (j * 5)).take 5); rw [nl_ encR 5 (fun _ => rfl) Rs j r hr]
   exact ll_ W base _ r.1 (lit_R hm.1.1 hm.2.1 hs'.1 ⟨r, hr, .inl rfl⟩) (lit_R hm.1.2 hm.2.2 hs'.2 ⟨r, hr, .inr rfl⟩))
 refine ⟨f, fun k _ => trivial, Rs.flatMap encR, ?_, ?_⟩
 ·have h2 := World.ownsRow_lit (base := base) (e := 56) (size := 5) W (Rs.flatMap encR).toArray Rs.length hb (by simp [maxLen]; omega) (by simpa using xf_ encR 5 (fun _ => rfl) Rs)
  have h3 : (Rs.map (·.1)).zipIdx.length = Rs.length := by simp
  rw [h3]; show (W.alloc (.cells (Rs.flatMap encR).toArray 56)).ownsRow base 56 5 _ _ _
  simpa using h2
 refine hrep.imp_ (fun p c hp => (Kd.tag f k56).M_mono (fun k hk => ⟨trivial, fun he => ?_⟩) (Kd.M_below ((Kd.tag f k56).M_bound hp) (aa_ (Below.refl _ _) _)))
 have h3 : k = W.heap.size := by simpa [Value.ownBlock] using he
 have := hk.2.2.1
 omega
theorem qb_ (a0 : Int) (A1 : Option Addr) (n1 c1 : Nat) (a2 : Int) (A3 : Option Addr) (n3 c3 : Nat) (a4 : Int) (w : World) :
  Calls Tryz.prog 21 #[.int .i64 a0, .slice A1 n1 c1, .int .i64 a2, .slice A3 n3 c3, .int .i64 a4] w fun e w' => e = .returned (.agg #[.int .i64 a0, .slice A1 n1 c1, .int .i64 a2, .slice A3 n3 c3, .int .i64 a4]) ∧ Below w.heap.size w w' := by
 have hu1 := Tryz.underlying56
 have hu2 := Tryz.underlying54
 go_enter Tryz.func21, Tryz.ntmps21
 go_wp2
 refine bodyPost_ret (results_cell_row rfl _ _ w.heap.size 56 #[.int .i64 a0, .slice A1 n1 c1, .int .i64 a2, .slice A3 n3 c3, .int .i64 a4] (0, 0) _ rfl (ra_ w _) Tryz.underlying56 rfl (by kernel_rfl)) rfl ?_
 exact ⟨rfl, aa_ (Below.refl _ _) _⟩
def nm_ (o : Int) : List Int := if o = 0 then [4, 2, 0] else if o = 1 then [4, 0, 2] else [0, 2, 4]
def aj_ (a : Int) : List cb_ := [
 (⟨1, [(-1), (-51), (-1), (-51), (-1)], ⟨1, (nm_ a)⟩, 1⟩ : cb_),
 (⟨1, [(-1), (-52), (-1), (-52), (-1)], ⟨1, [0, 2, 4]⟩, 0⟩ : cb_),
 (⟨1, [(-1), (-2), (-1)], ⟨1, [2, 1, 0]⟩, 0⟩ : cb_),
 (⟨1, [(-2), (-1)], ⟨2, [0, 1]⟩, 2⟩ : cb_),
 (⟨1, [8, (-4), (-5)], ⟨6, [0, 1, 2]⟩, 1⟩ : cb_),
 (⟨1, [(-3)], ⟨7, [0]⟩, 1⟩ : cb_),
 (⟨8, [(-1)], ⟨0, [0]⟩, 0⟩ : cb_),
 (⟨8, [(-10)], ⟨0, [0]⟩, 0⟩ : cb_)]
theorem jh_ (a n : Int) (hn : 0 < n) (hn2 : n ≤ 4611686018427387904) : l5_within.f a n = some (a % n) := by
 unfold l5_within.f
 have h1 := Int.emod_nonneg a (by omega : n ≠ 0)
 have h2 := Int.emod_lt_of_pos a hn
 have h4 : (n.natAbs : Int) = n := by omega
 rw [if_neg (by omega)]
 have h3 := @Int.tmod_eq_emod a n
 by_cases hd : 0 ≤ a ∨ n ∣ a
 ·rw [if_pos hd] at h3
  rw [if_neg (by omega), h3]
  congr 1
  omega
 rw [if_neg hd, h4] at h3
 rw [if_pos (by omega), h3]
 congr 1
 unfold wrap64
 omega
theorem xq_ (a : Int) (w : World) : Calls Tryz.prog 27 #[.int .i64 a] w fun e w' => ∃ v : Value, e = .returned v ∧ Kd.S k56 56 w' w.heap.size (fun _ => True) v (aj_ (a % 3)) ∧ Below w.heap.size w w' := by
 have hw := jh_ a 3 (by decide) (by decide)
 have h0 := Int.emod_nonneg a (by decide : (3 : Int) ≠ 0)
 have h1 := Int.emod_lt_of_pos a (by decide : (0 : Int) < 3)
 obtain ⟨o, ho⟩ : ∃ o : Nat, a % 3 = (o : Int) := ⟨(a % 3).toNat, by omega⟩
 rw [ho] at hw ⊢
 have ho3 : o < 3 := by omega
 have hoz : (o : Int) < 3 := by omega
 have HW := aM_ hw
 clear hw h0 h1 ho
 go_enter Tryz.func27, Tryz.ntmps27
 go_wp2_with fail
 refine (l5_within.calls a 3 (o : Int) _ HW.out).mono ?_
 rintro e W0 ⟨rfl, ⟨⟨nd, rfl⟩⟩⟩
 have hp0 : ((((w.alloc (.cells #[.int .i64 4, .int .i64 2, .int .i64 0] 3)).alloc (.cells #[.int .i64 4, .int .i64 0, .int .i64 2] 3)).alloc (.cells #[.int .i64 0, .int .i64 2, .int .i64 4] 3)).alloc (.cells #[.slice (some ⟨w.heap.size, 0, none⟩) 3 3, .slice (some ⟨w.heap.size + 1, 0, none⟩) 3 3, .slice (some ⟨w.heap.size + 1 + 1, 0, none⟩) 3 3] 35)).heap[w.heap.size + o]? = some (.cells ((nm_ (o : Int)).map (Value.int .i64)).toArray 3 (0, 0)) := by
  rcases (by omega : o = 0 ∨ o = 1 ∨ o = 2) with rfl | rfl | rfl
  ·exact va_ (va_ (va_ (ra_ w _)))
  ·exact va_ (va_ (hb_ (by simp)))
  exact va_ (hb_ (by simp))
 have hb0 : ((((w.alloc (.cells #[.int .i64 4, .int .i64 2, .int .i64 0] 3)).alloc (.cells #[.int .i64 4, .int .i64 0, .int .i64 2] 3)).alloc (.cells #[.int .i64 0, .int .i64 2, .int .i64 4] 3)).alloc (.cells #[.slice (some ⟨w.heap.size, 0, none⟩) 3 3, .slice (some ⟨w.heap.size + 1, 0, none⟩) 3 3, .slice (some ⟨w.heap.size + 1 + 1, 0, none⟩) 3 3] 35)).heap[w.heap.size + 1 + 1 + 1]? = _ := hb_ (by simp)
 have HB0 := aM_ (aa_ (aa_ (aa_ (aa_ (Below.refl w.heap.size w) (.cells #[.int .i64 4, .int .i64 2, .int .i64 0] 3)) (.cells #[.int .i64 4, .int .i64 0, .int .i64 2] 3)) (.cells #[.int .i64 0, .int .i64 2, .int .i64 4] 3)) (.cells #[.slice (some ⟨w.heap.size, 0, none⟩) 3 3, .slice (some ⟨w.heap.size + 1, 0, none⟩) 3 3, .slice (some ⟨w.heap.size + 1 + 1, 0, none⟩) 3 3] 35))
 generalize (((w.alloc (.cells #[.int .i64 4, .int .i64 2, .int .i64 0] 3)).alloc (.cells #[.int .i64 4, .int .i64 0, .int .i64 2] 3)).alloc (.cells #[.int .i64 0, .int .i64 2, .int .i64 4] 3)).alloc (.cells #[.slice (some ⟨w.heap.size, 0, none⟩) 3 3, .slice (some ⟨w.heap.size + 1, 0, none⟩) 3 3, .slice (some ⟨w.heap.size + 1 + 1, 0, none⟩) 3 3] 35) = WL at *
 have hcp : (WL.drewN nd).cell? ⟨w.heap.size + 1 + 1 + 1, o, none⟩ = some (.slice (some ⟨w.heap.size + o, 0, none⟩) 3 3) := by
  rcases (by omega : o = 0 ∨ o = 1 ∨ o = 2) with rfl | rfl | rfl
  ·exact (ba_ hb0 0).trans rfl
  ·exact (ba_ hb0 1).trans rfl
  exact (ba_ hb0 2).trans rfl
 have HPB : Az ((WL.drewN nd).heap[w.heap.size + o]? = some (.cells ((nm_ (o : Int)).map (Value.int .i64)).toArray 3 (0, 0))) := ⟨hp0⟩
 replace HB0 := aM_ (ca_ HB0.out nd)
 have hdl : (nm_ (o : Int)).length = 3 := by
  rcases (by omega : o = 0 ∨ o = 1 ∨ o = 2) with rfl | rfl | rfl <;> rfl
 have HDL := aM_ hdl
 have RL0 := aM_ (RLits.nil (WL.drewN nd) w.heap.size)
 clear hp0 hb0 hdl
 generalize WL.drewN nd = W0 at *
 obtain ⟨pa, hpa⟩ : ∃ pa, pa = w.heap.size + o := ⟨_, rfl⟩
 rw [← hpa] at HPB hcp
 have hpa2 : w.heap.size ≤ pa := by omega
 clear hpa
 have HP1 : Az ((W0.alloc (.cells #[.int .i64 (-1), .int .i64 (-51), .int .i64 (-1), .int .i64 (-51), .int .i64 (-1)] 3)).heap[pa]? = some (.cells ((nm_ (o : Int)).map (Value.int .i64)).toArray 3 (0, 0))) := ⟨va_ HPB.out⟩
 have hg0 := HB0.out.size
 have RA0 : Az (RLits (W0.alloc (.cells #[.int .i64 (-1), .int .i64 (-51), .int .i64 (-1), .int .i64 (-51), .int .i64 (-1)] 3)) w.heap.size _) := ⟨RL0.out.snoc (aa_ (Below.refl _ _) _) (⟨1, [(-1), (-51), (-1), (-51), (-1)], ⟨1, (nm_ (o : Int))⟩, 1⟩ : cb_) W0.heap.size pa (ra_ W0 _) (HP1.out) ⟨by omega, by omega⟩ (.inl rfl)⟩
 have BA0 : Az (Below w.heap.size w (W0.alloc (.cells #[.int .i64 (-1), .int .i64 (-51), .int .i64 (-1), .int .i64 (-51), .int .i64 (-1)] 3))) := ⟨fa_ HB0.out (aa_ (Below.refl _ _) _)⟩
 clear hg0
 go_wp2_with fail
 refine (qb_ 1 (some ⟨W0.heap.size, 0, none⟩) 5 5 1 (some ⟨pa, 0, none⟩) 3 3 1 (W0.alloc (.cells #[.int .i64 (-1), .int .i64 (-51), .int .i64 (-1), .int .i64 (-51), .int .i64 (-1)] 3))).mono ?_
 rintro e W1 ⟨rfl, hb⟩
 have RL1 := aM_ (RA0.out.below hb)
 have HB1 := aM_ (fa_ BA0.out hb)
 clear hb RA0 BA0 RL0 HB0
 generalize W0.heap.size = s0 at *
 have hg1 := HB1.out.size
 have RA1 : Az (RLits ((W1.alloc (.cells #[.int .i64 (-1), .int .i64 (-52), .int .i64 (-1), .int .i64 (-52), .int .i64 (-1)] 3)).alloc (.cells #[.int .i64 0, .int .i64 2, .int .i64 4] 3)) w.heap.size _) := ⟨RL1.out.snoc (aa_ (aa_ (Below.refl _ _) _) _) (⟨1, [(-1), (-52), (-1), (-52), (-1)], ⟨1, [0, 2, 4]⟩, 0⟩ : cb_) W1.heap.size (W1.heap.size + 1) (va_ (ra_ W1 _)) (hb_ (by simp)) ⟨by omega, by omega⟩ (.inr ⟨Nat.le_refl _, Nat.le_succ _⟩)⟩
 have BA1 : Az (Below w.heap.size w ((W1.alloc (.cells #[.int .i64 (-1), .int .i64 (-52), .int .i64 (-1), .int .i64 (-52), .int .i64 (-1)] 3)).alloc (.cells #[.int .i64 0, .int .i64 2, .int .i64 4] 3))) := ⟨fa_ HB1.out (aa_ (aa_ (Below.refl _ _) _) _)⟩
 clear hg1
 go_wp2_with fail
 refine (qb_ 1 (some ⟨W1.heap.size, 0, none⟩) 5 5 1 (some ⟨W1.heap.size + 1, 0, none⟩) 3 3 0 ((W1.alloc (.cells #[.int .i64 (-1), .int .i64 (-52), .int .i64 (-1), .int .i64 (-52), .int .i64 (-1)] 3)).alloc (.cells #[.int .i64 0, .int .i64 2, .int .i64 4] 3))).mono ?_
 rintro e W2 ⟨rfl, hb⟩
 have RL2 := aM_ (RA1.out.below hb)
 have HB2 := aM_ (fa_ BA1.out hb)
 clear hb RA1 BA1 RL1 HB1
 generalize W1.heap.size = s1 at *
 have hg2 := HB2.out.size
 have RA2 : Az (RLits ((W2.alloc (.cells #[.int .i64 (-1), .int .i64 (-2), .int .i64 (-1)] 3)).alloc (.cells #[.int .i64 2, .int .i64 1, .int .i64 0] 3)) w.heap.size _) := ⟨RL2.out.snoc (aa_ (aa_ (Below.refl _ _) _) _) (⟨1, [(-1), (-2), (-1)], ⟨1, [2, 1, 0]⟩, 0⟩ : cb_) W2.heap.size (W2.heap.size + 1) (va_ (ra_ W2 _)) (hb_ (by simp)) ⟨by omega, by omega⟩ (.inr ⟨Nat.le_refl _, Nat.le_succ _⟩)⟩
 have BA2 : Az (Below w.heap.size w ((W2.alloc (.cells #[.int .i64 (-1), .int .i64 (-2), .int .i64 (-1)] 3)).alloc (.cells #[.int .i64 2, .int .i64 1, .int .i64 0] 3))) := ⟨fa_ HB2.out (aa_ (aa_ (Below.refl _ _) _) _)⟩
 clear hg2
 go_wp2_with fail
 refine (qb_ 1 (some ⟨W2.heap.size, 0, none⟩) 3 3 1 (some ⟨W2.heap.size + 1, 0, none⟩) 3 3 0 ((W2.alloc (.cells #[.int .i64 (-1), .int .i64 (-2), .int .i64 (-1)] 3)).alloc (.cells #[.int .i64 2, .int .i64 1, .int .i64 0] 3))).mono ?_
 rintro e W3 ⟨rfl, hb⟩
 have RL3 := aM_ (RA2.out.below hb)
 have HB3 := aM_ (fa_ BA2.out hb)
 clear hb RA2 BA2 RL2 HB2
 generalize W2.heap.size = s2 at *
 have hg3 := HB3.out.size
 have RA3 : Az (RLits ((W3.alloc (.cells #[.int .i64 (-2), .int .i64 (-1)] 3)).alloc (.cells #[.int .i64 0, .int .i64 1] 3)) w.heap.size _) := ⟨RL3.out.snoc (aa_ (aa_ (Below.refl _ _) _) _) (⟨1, [(-2), (-1)], ⟨2, [0, 1]⟩, 2⟩ : cb_) W3.heap.size (W3.heap.size + 1) (va_ (ra_ W3 _)) (hb_ (by simp)) ⟨by omega, by omega⟩ (.inr ⟨Nat.le_refl _, Nat.le_succ _⟩)⟩
 have BA3 : Az (Below w.heap.size w ((W3.alloc (.cells #[.int .i64 (-2), .int .i64 (-1)] 3)).alloc (.cells #[.int .i64 0, .int .i64 1] 3))) := ⟨fa_ HB3.out (aa_ (aa_ (Below.refl _ _) _) _)⟩
 clear hg3
 go_wp2_with fail
 refine (qb_ 1 (some ⟨W3.heap.size, 0, none⟩) 2 2 2 (some ⟨W3.heap.size + 1, 0, none⟩) 2 2 2 ((W3.alloc (.cells #[.int .i64 (-2), .int .i64 (-1)] 3)).alloc (.cells #[.int .i64 0, .int .i64 1] 3))).mono ?_
 rintro e W4 ⟨rfl, hb⟩
 have RL4 := aM_ (RA3.out.below hb)
 have HB4 := aM_ (fa_ BA3.out hb)
 clear hb RA3 BA3 RL3 HB3
 generalize W3.heap.size = s3 at *
 have hg4 := HB4.out.size
 have RA4 : Az (RLits ((W4.alloc (.cells #[.int .i64 8, .int .i64 (-4), .int .i64 (-5)] 3)).alloc (.cells #[.int .i64 0, .int .i64 1, .int .i64 2] 3)) w.heap.size _) := ⟨RL4.out.snoc (aa_ (aa_ (Below.refl _ _) _) _) (⟨1, [8, (-4), (-5)], ⟨6, [0, 1, 2]⟩, 1⟩ : cb_) W4.heap.size (W4.heap.size + 1) (va_ (ra_ W4 _)) (hb_ (by simp)) ⟨by omega, by omega⟩ (.inr ⟨Nat.le_refl _, Nat.le_succ _⟩)⟩
 have BA4 : Az (Below w.heap.size w ((W4.alloc (.cells #[.int .i64 8, .int .i64 (-4), .int .i64 (-5)] 3)).alloc (.cells #[.int .i64 0, .int .i64 1, .int .i64 2] 3))) := ⟨fa_ HB4.out (aa_ (aa_ (Below.refl _ _) _) _)⟩
 clear hg4
 go_wp2_with fail
 refine (qb_ 1 (some ⟨W4.heap.size, 0, none⟩) 3 3 6 (some ⟨W4.heap.size + 1, 0, none⟩) 3 3 1 ((W4.alloc (.cells #[.int .i64 8, .int .i64 (-4), .int .i64 (-5)] 3)).alloc (.cells #[.int .i64 0, .int .i64 1, .int .i64 2] 3))).mono ?_
 rintro e W5 ⟨rfl, hb⟩
 have RL5 := aM_ (RA4.out.below hb)
 have HB5 := aM_ (fa_ BA4.out hb)
 clear hb RA4 BA4 RL4 HB4
 generalize W4.heap.size = s4 at *
 have hg5 := HB5.out.size
 have RA5 : Az (RLits ((W5.alloc (.cells #[.int .i64 (-3)] 3)).alloc (.cells #[.int .i64 0] 3)) w.heap.size _) := ⟨RL5.out.snoc (aa_ (aa_ (Below.refl _ _) _) _) (⟨1, [(-3)], ⟨7, [0]⟩, 1⟩ : cb_) W5.heap.size (W5.heap.size + 1) (va_ (ra_ W5 _)) (hb_ (by simp)) ⟨by omega, by omega⟩ (.inr ⟨Nat.le_refl _, Nat.le_succ _⟩)⟩
 have BA5 : Az (Below w.heap.size w ((W5.alloc (.cells #[.int .i64 (-3)] 3)).alloc (.cells #[.int .i64 0] 3))) := ⟨fa_ HB5.out (aa_ (aa_ (Below.refl _ _) _) _)⟩
 clear hg5
 go_wp2_with fail
 refine (qb_ 1 (some ⟨W5.heap.size, 0, none⟩) 1 1 7 (some ⟨W5.heap.size + 1, 0, none⟩) 1 1 1 ((W5.alloc (.cells #[.int .i64 (-3)] 3)).alloc (.cells #[.int .i64 0] 3))).mono ?_
 rintro e W6 ⟨rfl, hb⟩
 have RL6 := aM_ (RA5.out.below hb)
 have HB6 := aM_ (fa_ BA5.out hb)
 clear hb RA5 BA5 RL5 HB5
 generalize W5.heap.size = s5 at *
 have hg6 := HB6.out.size
 have RA6 : Az (RLits ((W6.alloc (.cells #[.int .i64 (-1)] 3)).alloc (.cells #[.int .i64 0] 3)) w.heap.size _) := ⟨RL6.out.snoc (aa_ (aa_ (Below.refl _ _) _) _) (⟨8, [(-1)], ⟨0, [0]⟩, 0⟩ : cb_) W6.heap.size (W6.heap.size + 1) (va_ (ra_ W6 _)) (hb_ (by simp)) ⟨by omega, by omega⟩ (.inr ⟨Nat.le_refl _, Nat.le_succ _⟩)⟩
 have BA6 : Az (Below w.heap.size w ((W6.alloc (.cells #[.int .i64 (-1)] 3)).alloc (.cells #[.int .i64 0] 3))) := ⟨fa_ HB6.out (aa_ (aa_ (Below.refl _ _) _) _)⟩
 clear hg6
 go_wp2_with fail
 refine (qb_ 8 (some ⟨W6.heap.size, 0, none⟩) 1 1 0 (some ⟨W6.heap.size + 1, 0, none⟩) 1 1 0 ((W6.alloc (.cells #[.int .i64 (-1)] 3)).alloc (.cells #[.int .i64 0] 3))).mono ?_
 rintro e W7 ⟨rfl, hb⟩
 have RL7 := aM_ (RA6.out.below hb)
 have HB7 := aM_ (fa_ BA6.out hb)
 clear hb RA6 BA6 RL6 HB6
 generalize W6.heap.size = s6 at *
 have hg7 := HB7.out.size
 have RA7 : Az (RLits ((W7.alloc (.cells #[.int .i64 (-10)] 3)).alloc (.cells #[.int .i64 0] 3)) w.heap.size _) := ⟨RL7.out.snoc (aa_ (aa_ (Below.refl _ _) _) _) (⟨8, [(-10)], ⟨0, [0]⟩, 0⟩ : cb_) W7.heap.size (W7.heap.size + 1) (va_ (ra_ W7 _)) (hb_ (by simp)) ⟨by omega, by omega⟩ (.inr ⟨Nat.le_refl _, Nat.le_succ _⟩)⟩
 have BA7 : Az (Below w.heap.size w ((W7.alloc (.cells #[.int .i64 (-10)] 3)).alloc (.cells #[.int .i64 0] 3))) := ⟨fa_ HB7.out (aa_ (aa_ (Below.refl _ _) _) _)⟩
 clear hg7
 go_wp2_with fail
 refine (qb_ 8 (some ⟨W7.heap.size, 0, none⟩) 1 1 0 (some ⟨W7.heap.size + 1, 0, none⟩) 1 1 0 ((W7.alloc (.cells #[.int .i64 (-10)] 3)).alloc (.cells #[.int .i64 0] 3))).mono ?_
 rintro e W8 ⟨rfl, hb⟩
 have RL8 := aM_ (RA7.out.below hb)
 have HB8 := aM_ (fa_ BA7.out hb)
 clear hb RA7 BA7 RL7 HB7
 generalize W7.heap.size = s7 at *
 have h8 : RLits W8 w.heap.size [((⟨1, [(-1), (-51), (-1), (-51), (-1)], ⟨1, (nm_ (o : Int))⟩, 1⟩ : cb_), s0, pa), ((⟨1, [(-1), (-52), (-1), (-52), (-1)], ⟨1, [0, 2, 4]⟩, 0⟩ : cb_), s1, s1 + 1), ((⟨1, [(-1), (-2), (-1)], ⟨1, [2, 1, 0]⟩, 0⟩ : cb_), s2, s2 + 1), ((⟨1, [(-2), (-1)], ⟨2, [0, 1]⟩, 2⟩ : cb_), s3, s3 + 1), ((⟨1, [8, (-4), (-5)], ⟨6, [0, 1, 2]⟩, 1⟩ : cb_), s4, s4 + 1), ((⟨1, [(-3)], ⟨7, [0]⟩, 1⟩ : cb_), s5, s5 + 1), ((⟨8, [(-1)], ⟨0, [0]⟩, 0⟩ : cb_), s6, s6 + 1), ((⟨8, [(-10)], ⟨0, [0]⟩, 0⟩ : cb_), s7, s7 + 1)] := RL8.out
 have hS := ht_ _ h8 HB8.out.size (by simp [HDL.out]) (by simp)
 simp only [List.flatMap_cons, List.flatMap_nil, encR, List.cons_append, List.nil_append, List.append_nil, HDL.out, List.length_cons, List.length_nil, Nat.zero_add, Nat.reduceAdd, List.map_cons, List.map_nil] at hS
 have HS := aM_ hS
 have HB9 := aM_ (aa_ HB8.out (.cells #[] 3))
 clear hS h8
 go_wp2
 go_ret
 exact ⟨_, rfl, HS.out, aa_ HB8.out _⟩
noncomputable def l5_dates.f (a : Int) : Option (List cb_) := some (aj_ (a % 3))
theorem l5_dates.calls (a : Int) (r : List cb_) (w : World) (h : l5_dates.f a = some r) : Calls Tryz.prog 27 #[.int .i64 a] w fun e w' => ∃ v0_ : Value, e = .returned (v0_) ∧ Kd.S k56 56 w' w.heap.size (fun _ => True) v0_ r ∧ Below w.heap.size w w' := by
 obtain rfl := Option.some.inj h
 exact xq_ a w
def others15 : List cb_ := [
 (⟨2, [(-1), (-55), (-1)], ⟨3, [0, 2]⟩, 0⟩ : cb_),
 (⟨2, [(-1), (-55), (-1), (-55), (-1)], ⟨3, [0, 2, 4]⟩, 0⟩ : cb_),
 (⟨2, [(-1), (-6)], ⟨4, [0, 1]⟩, 1⟩ : cb_),
 (⟨2, [(-1), (-55), (-1), (-6)], ⟨4, [0, 2, 3]⟩, 0⟩ : cb_),
 (⟨3, [1, 2], ⟨5, [0, 1]⟩, 0⟩ : cb_),
 (⟨4, [(-1)], ⟨8, [0]⟩, 0⟩ : cb_),
 (⟨4, [(-1), (-53), (-1)], ⟨9, [0, 2]⟩, 0⟩ : cb_),
 (⟨4, [(-1), (-54), (-1)], ⟨10, [0, 2]⟩, 1⟩ : cb_),
 (⟨4, [(-52), 4], ⟨11, [1]⟩, 1⟩ : cb_),
 (⟨5, [(-7), 4], ⟨12, [0, 1]⟩, 0⟩ : cb_),
 (⟨5, [4, (-7)], ⟨12, [1, 0]⟩, 0⟩ : cb_),
 (⟨9, [(-1), (-8)], ⟨13, [0, 1]⟩, 0⟩ : cb_),
 (⟨6, [9], ⟨0, [0]⟩, 0⟩ : cb_),
 (⟨6, [6, 9], ⟨14, [0, 1]⟩, 1⟩ : cb_),
 (⟨7, [1, (-9), 1], ⟨15, [0, 2]⟩, 0⟩ : cb_)]
def zp_ (i : Int) : cb_ := ⟨0, [i], ⟨0, [0]⟩, i % 3⟩
def ae_ (i : Nat) : List cb_ := others15 ++ (List.range i).map fun (j : Nat) => zp_ ((j : Int) + 1)
theorem fn_ (i : Nat) : ae_ (i + 1) = ae_ i ++ [zp_ ((i : Int) + 1)] := by
 unfold ae_
 rw [List.range_succ, List.map_append, List.append_assoc]
 rfl
theorem to_ (i : Nat) : (ae_ i).length = 15 + i := by
 unfold ae_
 rw [List.length_append, List.length_map, List.length_range]
 rfl
def nj_ : List cb_ := ae_ 7
theorem uo_ (w : World) : Calls Tryz.prog 26 #[] w fun e w' => ∃ v : Value, e = .returned v ∧ Kd.S k56 56 w' w.heap.size (fun _ => True) v nj_ ∧ Below w.heap.size w w' := by
 obtain ⟨W0, hW0⟩ : ∃ W0, W0 = w := ⟨_, rfl⟩
 have HB0 : Az (Below w.heap.size w W0) := ⟨by rw [hW0]; exact Below.refl _ _⟩
 have RL0 := aM_ (RLits.nil W0 w.heap.size)
 have HW0 := aM_ hW0
 go_enter Tryz.func26, Tryz.ntmps26
 rw [← HW0.out]
 have hb00 : w.heap.size ≤ W0.heap.size := HB0.out.size
 clear hW0 hb00
 have hg0 := HB0.out.size
 have RA0 : Az (RLits ((W0.alloc (.cells #[.int .i64 (-1), .int .i64 (-55), .int .i64 (-1)] 3)).alloc (.cells #[.int .i64 0, .int .i64 2] 3)) w.heap.size _) := ⟨RL0.out.snoc (aa_ (aa_ (Below.refl _ _) _) _) (⟨2, [(-1), (-55), (-1)], ⟨3, [0, 2]⟩, 0⟩ : cb_) W0.heap.size (W0.heap.size + 1) (va_ (ra_ W0 _)) (hb_ (by simp)) ⟨by omega, by omega⟩ (.inr ⟨Nat.le_refl _, Nat.le_succ _⟩)⟩
 have BA0 : Az (Below w.heap.size w ((W0.alloc (.cells #[.int .i64 (-1), .int .i64 (-55), .int .i64 (-1)] 3)).alloc (.cells #[.int .i64 0, .int .i64 2] 3))) := ⟨fa_ HB0.out (aa_ (aa_ (Below.refl _ _) _) _)⟩
 clear hg0
 go_wp2_with fail
 refine (qb_ 2 (some ⟨W0.heap.size, 0, none⟩) 3 3 3 (some ⟨W0.heap.size + 1, 0, none⟩) 2 2 0 ((W0.alloc (.cells #[.int .i64 (-1), .int .i64 (-55), .int .i64 (-1)] 3)).alloc (.cells #[.int .i64 0, .int .i64 2] 3))).mono ?_
 rintro e W1 ⟨rfl, hb⟩
 have RL1 := aM_ (RA0.out.below hb)
 have HB1 := aM_ (fa_ BA0.out hb)
 clear hb RA0 BA0 RL0 HB0
 generalize W0.heap.size = s0 at *
 have hg1 := HB1.out.size
 have RA1 : Az (RLits ((W1.alloc (.cells #[.int .i64 (-1), .int .i64 (-55), .int .i64 (-1), .int .i64 (-55), .int .i64 (-1)] 3)).alloc (.cells #[.int .i64 0, .int .i64 2, .int .i64 4] 3)) w.heap.size _) := ⟨RL1.out.snoc (aa_ (aa_ (Below.refl _ _) _) _) (⟨2, [(-1), (-55), (-1), (-55), (-1)], ⟨3, [0, 2, 4]⟩, 0⟩ : cb_) W1.heap.size (W1.heap.size + 1) (va_ (ra_ W1 _)) (hb_ (by simp)) ⟨by omega, by omega⟩ (.inr ⟨Nat.le_refl _, Nat.le_succ _⟩)⟩
 have BA1 : Az (Below w.heap.size w ((W1.alloc (.cells #[.int .i64 (-1), .int .i64 (-55), .int .i64 (-1), .int .i64 (-55), .int .i64 (-1)] 3)).alloc (.cells #[.int .i64 0, .int .i64 2, .int .i64 4] 3))) := ⟨fa_ HB1.out (aa_ (aa_ (Below.refl _ _) _) _)⟩
 clear hg1
 go_wp2_with fail
 refine (qb_ 2 (some ⟨W1.heap.size, 0, none⟩) 5 5 3 (some ⟨W1.heap.size + 1, 0, none⟩) 3 3 0 ((W1.alloc (.cells #[.int .i64 (-1), .int .i64 (-55), .int .i64 (-1), .int .i64 (-55), .int .i64 (-1)] 3)).alloc (.cells #[.int .i64 0, .int .i64 2, .int .i64 4] 3))).mono ?_
 rintro e W2 ⟨rfl, hb⟩
 have RL2 := aM_ (RA1.out.below hb)
 have HB2 := aM_ (fa_ BA1.out hb)
 clear hb RA1 BA1 RL1 HB1
 generalize W1.heap.size = s1 at *
 have hg2 := HB2.out.size
 have RA2 : Az (RLits ((W2.alloc (.cells #[.int .i64 (-1), .int .i64 (-6)] 3)).alloc (.cells #[.int .i64 0, .int .i64 1] 3)) w.heap.size _) := ⟨RL2.out.snoc (aa_ (aa_ (Below.refl _ _) _) _) (⟨2, [(-1), (-6)], ⟨4, [0, 1]⟩, 1⟩ : cb_) W2.heap.size (W2.heap.size + 1) (va_ (ra_ W2 _)) (hb_ (by simp)) ⟨by omega, by omega⟩ (.inr ⟨Nat.le_refl _, Nat.le_succ _⟩)⟩
 have BA2 : Az (Below w.heap.size w ((W2.alloc (.cells #[.int .i64 (-1), .int .i64 (-6)] 3)).alloc (.cells #[.int .i64 0, .int .i64 1] 3))) := ⟨fa_ HB2.out (aa_ (aa_ (Below.refl _ _) _) _)⟩
 clear hg2
 go_wp2_with fail
 refine (qb_ 2 (some ⟨W2.heap.size, 0, none⟩) 2 2 4 (some ⟨W2.heap.size + 1, 0, none⟩) 2 2 1 ((W2.alloc (.cells #[.int .i64 (-1), .int .i64 (-6)] 3)).alloc (.cells #[.int .i64 0, .int .i64 1] 3))).mono ?_
 rintro e W3 ⟨rfl, hb⟩
 have RL3 := aM_ (RA2.out.below hb)
 have HB3 := aM_ (fa_ BA2.out hb)
 clear hb RA2 BA2 RL2 HB2
 generalize W2.heap.size = s2 at *
 have hg3 := HB3.out.size
 have RA3 : Az (RLits ((W3.alloc (.cells #[.int .i64 (-1), .int .i64 (-55), .int .i64 (-1), .int .i64 (-6)] 3)).alloc (.cells #[.int .i64 0, .int .i64 2, .int .i64 3] 3)) w.heap.size _) := ⟨RL3.out.snoc (aa_ (aa_ (Below.refl _ _) _) _) (⟨2, [(-1), (-55), (-1), (-6)], ⟨4, [0, 2, 3]⟩, 0⟩ : cb_) W3.heap.size (W3.heap.size + 1) (va_ (ra_ W3 _)) (hb_ (by simp)) ⟨by omega, by omega⟩ (.inr ⟨Nat.le_refl _, Nat.le_succ _⟩)⟩
 have BA3 : Az (Below w.heap.size w ((W3.alloc (.cells #[.int .i64 (-1), .int .i64 (-55), .int .i64 (-1), .int .i64 (-6)] 3)).alloc (.cells #[.int .i64 0, .int .i64 2, .int .i64 3] 3))) := ⟨fa_ HB3.out (aa_ (aa_ (Below.refl _ _) _) _)⟩
 clear hg3
 go_wp2_with fail
 refine (qb_ 2 (some ⟨W3.heap.size, 0, none⟩) 4 4 4 (some ⟨W3.heap.size + 1, 0, none⟩) 3 3 0 ((W3.alloc (.cells #[.int .i64 (-1), .int .i64 (-55), .int .i64 (-1), .int .i64 (-6)] 3)).alloc (.cells #[.int .i64 0, .int .i64 2, .int .i64 3] 3))).mono ?_
 rintro e W4 ⟨rfl, hb⟩
 have RL4 := aM_ (RA3.out.below hb)
 have HB4 := aM_ (fa_ BA3.out hb)
 clear hb RA3 BA3 RL3 HB3
 generalize W3.heap.size = s3 at *
 have hg4 := HB4.out.size
 have RA4 : Az (RLits ((W4.alloc (.cells #[.int .i64 1, .int .i64 2] 3)).alloc (.cells #[.int .i64 0, .int .i64 1] 3)) w.heap.size _) := ⟨RL4.out.snoc (aa_ (aa_ (Below.refl _ _) _) _) (⟨3, [1, 2], ⟨5, [0, 1]⟩, 0⟩ : cb_) W4.heap.size (W4.heap.size + 1) (va_ (ra_ W4 _)) (hb_ (by simp)) ⟨by omega, by omega⟩ (.inr ⟨Nat.le_refl _, Nat.le_succ _⟩)⟩
 have BA4 : Az (Below w.heap.size w ((W4.alloc (.cells #[.int .i64 1, .int .i64 2] 3)).alloc (.cells #[.int .i64 0, .int .i64 1] 3))) := ⟨fa_ HB4.out (aa_ (aa_ (Below.refl _ _) _) _)⟩
 clear hg4
 go_wp2_with fail
 refine (qb_ 3 (some ⟨W4.heap.size, 0, none⟩) 2 2 5 (some ⟨W4.heap.size + 1, 0, none⟩) 2 2 0 ((W4.alloc (.cells #[.int .i64 1, .int .i64 2] 3)).alloc (.cells #[.int .i64 0, .int .i64 1] 3))).mono ?_
 rintro e W5 ⟨rfl, hb⟩
 have RL5 := aM_ (RA4.out.below hb)
 have HB5 := aM_ (fa_ BA4.out hb)
 clear hb RA4 BA4 RL4 HB4
 generalize W4.heap.size = s4 at *
 have hg5 := HB5.out.size
 have RA5 : Az (RLits ((W5.alloc (.cells #[.int .i64 (-1)] 3)).alloc (.cells #[.int .i64 0] 3)) w.heap.size _) := ⟨RL5.out.snoc (aa_ (aa_ (Below.refl _ _) _) _) (⟨4, [(-1)], ⟨8, [0]⟩, 0⟩ : cb_) W5.heap.size (W5.heap.size + 1) (va_ (ra_ W5 _)) (hb_ (by simp)) ⟨by omega, by omega⟩ (.inr ⟨Nat.le_refl _, Nat.le_succ _⟩)⟩
 have BA5 : Az (Below w.heap.size w ((W5.alloc (.cells #[.int .i64 (-1)] 3)).alloc (.cells #[.int .i64 0] 3))) := ⟨fa_ HB5.out (aa_ (aa_ (Below.refl _ _) _) _)⟩
 clear hg5
 go_wp2_with fail
 refine (qb_ 4 (some ⟨W5.heap.size, 0, none⟩) 1 1 8 (some ⟨W5.heap.size + 1, 0, none⟩) 1 1 0 ((W5.alloc (.cells #[.int .i64 (-1)] 3)).alloc (.cells #[.int .i64 0] 3))).mono ?_
 rintro e W6 ⟨rfl, hb⟩
 have RL6 := aM_ (RA5.out.below hb)
 have HB6 := aM_ (fa_ BA5.out hb)
 clear hb RA5 BA5 RL5 HB5
 generalize W5.heap.size = s5 at *
 have hg6 := HB6.out.size
 have RA6 : Az (RLits ((W6.alloc (.cells #[.int .i64 (-1), .int .i64 (-53), .int .i64 (-1)] 3)).alloc (.cells #[.int .i64 0, .int .i64 2] 3)) w.heap.size _) := ⟨RL6.out.snoc (aa_ (aa_ (Below.refl _ _) _) _) (⟨4, [(-1), (-53), (-1)], ⟨9, [0, 2]⟩, 0⟩ : cb_) W6.heap.size (W6.heap.size + 1) (va_ (ra_ W6 _)) (hb_ (by simp)) ⟨by omega, by omega⟩ (.inr ⟨Nat.le_refl _, Nat.le_succ _⟩)⟩
 have BA6 : Az (Below w.heap.size w ((W6.alloc (.cells #[.int .i64 (-1), .int .i64 (-53), .int .i64 (-1)] 3)).alloc (.cells #[.int .i64 0, .int .i64 2] 3))) := ⟨fa_ HB6.out (aa_ (aa_ (Below.refl _ _) _) _)⟩
 clear hg6
 go_wp2_with fail
 refine (qb_ 4 (some ⟨W6.heap.size, 0, none⟩) 3 3 9 (some ⟨W6.heap.size + 1, 0, none⟩) 2 2 0 ((W6.alloc (.cells #[.int .i64 (-1), .int .i64 (-53), .int .i64 (-1)] 3)).alloc (.cells #[.int .i64 0, .int .i64 2] 3))).mono ?_
 rintro e W7 ⟨rfl, hb⟩
 have RL7 := aM_ (RA6.out.below hb)
 have HB7 := aM_ (fa_ BA6.out hb)
 clear hb RA6 BA6 RL6 HB6
 generalize W6.heap.size = s6 at *
 have hg7 := HB7.out.size
 have RA7 : Az (RLits ((W7.alloc (.cells #[.int .i64 (-1), .int .i64 (-54), .int .i64 (-1)] 3)).alloc (.cells #[.int .i64 0, .int .i64 2] 3)) w.heap.size _) := ⟨RL7.out.snoc (aa_ (aa_ (Below.refl _ _) _) _) (⟨4, [(-1), (-54), (-1)], ⟨10, [0, 2]⟩, 1⟩ : cb_) W7.heap.size (W7.heap.size + 1) (va_ (ra_ W7 _)) (hb_ (by simp)) ⟨by omega, by omega⟩ (.inr ⟨Nat.le_refl _, Nat.le_succ _⟩)⟩
 have BA7 : Az (Below w.heap.size w ((W7.alloc (.cells #[.int .i64 (-1), .int .i64 (-54), .int .i64 (-1)] 3)).alloc (.cells #[.int .i64 0, .int .i64 2] 3))) := ⟨fa_ HB7.out (aa_ (aa_ (Below.refl _ _) _) _)⟩
 clear hg7
 go_wp2_with fail
 refine (qb_ 4 (some ⟨W7.heap.size, 0, none⟩) 3 3 10 (some ⟨W7.heap.size + 1, 0, none⟩) 2 2 1 ((W7.alloc (.cells #[.int .i64 (-1), .int .i64 (-54), .int .i64 (-1)] 3)).alloc (.cells #[.int .i64 0, .int .i64 2] 3))).mono ?_
 rintro e W8 ⟨rfl, hb⟩
 have RL8 := aM_ (RA7.out.below hb)
 have HB8 := aM_ (fa_ BA7.out hb)
 clear hb RA7 BA7 RL7 HB7
 generalize W7.heap.size = s7 at *
 have hg8 := HB8.out.size
 have RA8 : Az (RLits ((W8.alloc (.cells #[.int .i64 (-52), .int .i64 4] 3)).alloc (.cells #[.int .i64 1] 3)) w.heap.size _) := ⟨RL8.out.snoc (aa_ (aa_ (Below.refl _ _) _) _) (⟨4, [(-52), 4], ⟨11, [1]⟩, 1⟩ : cb_) W8.heap.size (W8.heap.size + 1) (va_ (ra_ W8 _)) (hb_ (by simp)) ⟨by omega, by omega⟩ (.inr ⟨Nat.le_refl _, Nat.le_succ _⟩)⟩
 have BA8 : Az (Below w.heap.size w ((W8.alloc (.cells #[.int .i64 (-52), .int .i64 4] 3)).alloc (.cells #[.int .i64 1] 3))) := ⟨fa_ HB8.out (aa_ (aa_ (Below.refl _ _) _) _)⟩
 clear hg8
 go_wp2_with fail
 refine (qb_ 4 (some ⟨W8.heap.size, 0, none⟩) 2 2 11 (some ⟨W8.heap.size + 1, 0, none⟩) 1 1 1 ((W8.alloc (.cells #[.int .i64 (-52), .int .i64 4] 3)).alloc (.cells #[.int .i64 1] 3))).mono ?_
 rintro e W9 ⟨rfl, hb⟩
 have RL9 := aM_ (RA8.out.below hb)
 have HB9 := aM_ (fa_ BA8.out hb)
 clear hb RA8 BA8 RL8 HB8
 generalize W8.heap.size = s8 at *
 have hg9 := HB9.out.size
 have RA9 : Az (RLits ((W9.alloc (.cells #[.int .i64 (-7), .int .i64 4] 3)).alloc (.cells #[.int .i64 0, .int .i64 1] 3)) w.heap.size _) := ⟨RL9.out.snoc (aa_ (aa_ (Below.refl _ _) _) _) (⟨5, [(-7), 4], ⟨12, [0, 1]⟩, 0⟩ : cb_) W9.heap.size (W9.heap.size + 1) (va_ (ra_ W9 _)) (hb_ (by simp)) ⟨by omega, by omega⟩ (.inr ⟨Nat.le_refl _, Nat.le_succ _⟩)⟩
 have BA9 : Az (Below w.heap.size w ((W9.alloc (.cells #[.int .i64 (-7), .int .i64 4] 3)).alloc (.cells #[.int .i64 0, .int .i64 1] 3))) := ⟨fa_ HB9.out (aa_ (aa_ (Below.refl _ _) _) _)⟩
 clear hg9
 go_wp2_with fail
 refine (qb_ 5 (some ⟨W9.heap.size, 0, none⟩) 2 2 12 (some ⟨W9.heap.size + 1, 0, none⟩) 2 2 0 ((W9.alloc (.cells #[.int .i64 (-7), .int .i64 4] 3)).alloc (.cells #[.int .i64 0, .int .i64 1] 3))).mono ?_
 rintro e W10 ⟨rfl, hb⟩
 have RL10 := aM_ (RA9.out.below hb)
 have HB10 := aM_ (fa_ BA9.out hb)
 clear hb RA9 BA9 RL9 HB9
 generalize W9.heap.size = s9 at *
 have hg10 := HB10.out.size
 have RA10 : Az (RLits ((W10.alloc (.cells #[.int .i64 4, .int .i64 (-7)] 3)).alloc (.cells #[.int .i64 1, .int .i64 0] 3)) w.heap.size _) := ⟨RL10.out.snoc (aa_ (aa_ (Below.refl _ _) _) _) (⟨5, [4, (-7)], ⟨12, [1, 0]⟩, 0⟩ : cb_) W10.heap.size (W10.heap.size + 1) (va_ (ra_ W10 _)) (hb_ (by simp)) ⟨by omega, by omega⟩ (.inr ⟨Nat.le_refl _, Nat.le_succ _⟩)⟩
 have BA10 : Az (Below w.heap.size w ((W10.alloc (.cells #[.int .i64 4, .int .i64 (-7)] 3)).alloc (.cells #[.int .i64 1, .int .i64 0] 3))) := ⟨fa_ HB10.out (aa_ (aa_ (Below.refl _ _) _) _)⟩
 clear hg10
 go_wp2_with fail
 refine (qb_ 5 (some ⟨W10.heap.size, 0, none⟩) 2 2 12 (some ⟨W10.heap.size + 1, 0, none⟩) 2 2 0 ((W10.alloc (.cells #[.int .i64 4, .int .i64 (-7)] 3)).alloc (.cells #[.int .i64 1, .int .i64 0] 3))).mono ?_
 rintro e W11 ⟨rfl, hb⟩
 have RL11 := aM_ (RA10.out.below hb)
 have HB11 := aM_ (fa_ BA10.out hb)
 clear hb RA10 BA10 RL10 HB10
 generalize W10.heap.size = s10 at *
 have hg11 := HB11.out.size
 have RA11 : Az (RLits ((W11.alloc (.cells #[.int .i64 (-1), .int .i64 (-8)] 3)).alloc (.cells #[.int .i64 0, .int .i64 1] 3)) w.heap.size _) := ⟨RL11.out.snoc (aa_ (aa_ (Below.refl _ _) _) _) (⟨9, [(-1), (-8)], ⟨13, [0, 1]⟩, 0⟩ : cb_) W11.heap.size (W11.heap.size + 1) (va_ (ra_ W11 _)) (hb_ (by simp)) ⟨by omega, by omega⟩ (.inr ⟨Nat.le_refl _, Nat.le_succ _⟩)⟩
 have BA11 : Az (Below w.heap.size w ((W11.alloc (.cells #[.int .i64 (-1), .int .i64 (-8)] 3)).alloc (.cells #[.int .i64 0, .int .i64 1] 3))) := ⟨fa_ HB11.out (aa_ (aa_ (Below.refl _ _) _) _)⟩
 clear hg11
 go_wp2_with fail
 refine (qb_ 9 (some ⟨W11.heap.size, 0, none⟩) 2 2 13 (some ⟨W11.heap.size + 1, 0, none⟩) 2 2 0 ((W11.alloc (.cells #[.int .i64 (-1), .int .i64 (-8)] 3)).alloc (.cells #[.int .i64 0, .int .i64 1] 3))).mono ?_
 rintro e W12 ⟨rfl, hb⟩
 have RL12 := aM_ (RA11.out.below hb)
 have HB12 := aM_ (fa_ BA11.out hb)
 clear hb RA11 BA11 RL11 HB11
 generalize W11.heap.size = s11 at *
 have hg12 := HB12.out.size
 have RA12 : Az (RLits ((W12.alloc (.cells #[.int .i64 9] 3)).alloc (.cells #[.int .i64 0] 3)) w.heap.size _) := ⟨RL12.out.snoc (aa_ (aa_ (Below.refl _ _) _) _) (⟨6, [9], ⟨0, [0]⟩, 0⟩ : cb_) W12.heap.size (W12.heap.size + 1) (va_ (ra_ W12 _)) (hb_ (by simp)) ⟨by omega, by omega⟩ (.inr ⟨Nat.le_refl _, Nat.le_succ _⟩)⟩
 have BA12 : Az (Below w.heap.size w ((W12.alloc (.cells #[.int .i64 9] 3)).alloc (.cells #[.int .i64 0] 3))) := ⟨fa_ HB12.out (aa_ (aa_ (Below.refl _ _) _) _)⟩
 clear hg12
 go_wp2_with fail
 refine (qb_ 6 (some ⟨W12.heap.size, 0, none⟩) 1 1 0 (some ⟨W12.heap.size + 1, 0, none⟩) 1 1 0 ((W12.alloc (.cells #[.int .i64 9] 3)).alloc (.cells #[.int .i64 0] 3))).mono ?_
 rintro e W13 ⟨rfl, hb⟩
 have RL13 := aM_ (RA12.out.below hb)
 have HB13 := aM_ (fa_ BA12.out hb)
 clear hb RA12 BA12 RL12 HB12
 generalize W12.heap.size = s12 at *
 have hg13 := HB13.out.size
 have RA13 : Az (RLits ((W13.alloc (.cells #[.int .i64 6, .int .i64 9] 3)).alloc (.cells #[.int .i64 0, .int .i64 1] 3)) w.heap.size _) := ⟨RL13.out.snoc (aa_ (aa_ (Below.refl _ _) _) _) (⟨6, [6, 9], ⟨14, [0, 1]⟩, 1⟩ : cb_) W13.heap.size (W13.heap.size + 1) (va_ (ra_ W13 _)) (hb_ (by simp)) ⟨by omega, by omega⟩ (.inr ⟨Nat.le_refl _, Nat.le_succ _⟩)⟩
 have BA13 : Az (Below w.heap.size w ((W13.alloc (.cells #[.int .i64 6, .int .i64 9] 3)).alloc (.cells #[.int .i64 0, .int .i64 1] 3))) := ⟨fa_ HB13.out (aa_ (aa_ (Below.refl _ _) _) _)⟩
 clear hg13
 go_wp2_with fail
 refine (qb_ 6 (some ⟨W13.heap.size, 0, none⟩) 2 2 14 (some ⟨W13.heap.size + 1, 0, none⟩) 2 2 1 ((W13.alloc (.cells #[.int .i64 6, .int .i64 9] 3)).alloc (.cells #[.int .i64 0, .int .i64 1] 3))).mono ?_
 rintro e W14 ⟨rfl, hb⟩
 have RL14 := aM_ (RA13.out.below hb)
 have HB14 := aM_ (fa_ BA13.out hb)
 clear hb RA13 BA13 RL13 HB13
 generalize W13.heap.size = s13 at *
 have hg14 := HB14.out.size
 have RA14 : Az (RLits ((W14.alloc (.cells #[.int .i64 1, .int .i64 (-9), .int .i64 1] 3)).alloc (.cells #[.int .i64 0, .int .i64 2] 3)) w.heap.size _) := ⟨RL14.out.snoc (aa_ (aa_ (Below.refl _ _) _) _) (⟨7, [1, (-9), 1], ⟨15, [0, 2]⟩, 0⟩ : cb_) W14.heap.size (W14.heap.size + 1) (va_ (ra_ W14 _)) (hb_ (by simp)) ⟨by omega, by omega⟩ (.inr ⟨Nat.le_refl _, Nat.le_succ _⟩)⟩
 have BA14 : Az (Below w.heap.size w ((W14.alloc (.cells #[.int .i64 1, .int .i64 (-9), .int .i64 1] 3)).alloc (.cells #[.int .i64 0, .int .i64 2] 3))) := ⟨fa_ HB14.out (aa_ (aa_ (Below.refl _ _) _) _)⟩
 clear hg14
 go_wp2_with fail
 refine (qb_ 7 (some ⟨W14.heap.size, 0, none⟩) 3 3 15 (some ⟨W14.heap.size + 1, 0, none⟩) 2 2 0 ((W14.alloc (.cells #[.int .i64 1, .int .i64 (-9), .int .i64 1] 3)).alloc (.cells #[.int .i64 0, .int .i64 2] 3))).mono ?_
 rintro e W15 ⟨rfl, hb⟩
 have RL15 := aM_ (RA14.out.below hb)
 have HB15 := aM_ (fa_ BA14.out hb)
 clear hb RA14 BA14 RL14 HB14
 generalize W14.heap.size = s14 at *
 have h15 : RLits W15 w.heap.size [((⟨2, [(-1), (-55), (-1)], ⟨3, [0, 2]⟩, 0⟩ : cb_), s0, s0 + 1), ((⟨2, [(-1), (-55), (-1), (-55), (-1)], ⟨3, [0, 2, 4]⟩, 0⟩ : cb_), s1, s1 + 1), ((⟨2, [(-1), (-6)], ⟨4, [0, 1]⟩, 1⟩ : cb_), s2, s2 + 1), ((⟨2, [(-1), (-55), (-1), (-6)], ⟨4, [0, 2, 3]⟩, 0⟩ : cb_), s3, s3 + 1), ((⟨3, [1, 2], ⟨5, [0, 1]⟩, 0⟩ : cb_), s4, s4 + 1), ((⟨4, [(-1)], ⟨8, [0]⟩, 0⟩ : cb_), s5, s5 + 1), ((⟨4, [(-1), (-53), (-1)], ⟨9, [0, 2]⟩, 0⟩ : cb_), s6, s6 + 1), ((⟨4, [(-1), (-54), (-1)], ⟨10, [0, 2]⟩, 1⟩ : cb_), s7, s7 + 1), ((⟨4, [(-52), 4], ⟨11, [1]⟩, 1⟩ : cb_), s8, s8 + 1), ((⟨5, [(-7), 4], ⟨12, [0, 1]⟩, 0⟩ : cb_), s9, s9 + 1), ((⟨5, [4, (-7)], ⟨12, [1, 0]⟩, 0⟩ : cb_), s10, s10 + 1), ((⟨9, [(-1), (-8)], ⟨13, [0, 1]⟩, 0⟩ : cb_), s11, s11 + 1), ((⟨6, [9], ⟨0, [0]⟩, 0⟩ : cb_), s12, s12 + 1), ((⟨6, [6, 9], ⟨14, [0, 1]⟩, 1⟩ : cb_), s13, s13 + 1), ((⟨7, [1, (-9), 1], ⟨15, [0, 2]⟩, 0⟩ : cb_), s14, s14 + 1)] := RL15.out
 have hS := ht_ _ h15 HB15.out.size (by simp) (by simp)
 simp only [List.flatMap_cons, List.flatMap_nil, encR, List.cons_append, List.nil_append, List.append_nil, List.length_cons, List.length_nil, Nat.zero_add, Nat.reduceAdd, List.map_cons, List.map_nil] at hS
 have HS := aM_ hS
 clear hS h15
 have HSU : Az (Kd.S k56 56 _ w.heap.size (fun _ => True) _ (ae_ 0)) := ⟨HS.out⟩
 have HBU : Az (∀ cs : Array Value, Below w.heap.size w (W15.alloc (.cells cs 56))) := ⟨fun cs => aa_ HB15.out _⟩
 go_wp2
 go_loopg [1, 2] 7 (fun gg s1 s2 wr => ∃ i : Nat, i ≤ 7 ∧ 7 - i ≤ gg ∧ s2 = .int .i64 ((i : Int) + 1) ∧ Az (Kd.S k56 56 wr w.heap.size (fun _ => True) s1 (ae_ i)) ∧ Az (Below w.heap.size w wr))
 case atStart => exact ⟨0, by omega, by omega, rfl, HSU, ⟨HBU.out _⟩⟩
 clear HSU HBU HS RL15 HB15
 obtain ⟨i, hi, hgg, rfl, HS, HB⟩ := hrel
 obtain ⟨Ao, co, rfl⟩ := Kd.S_slice HS.out
 by_cases hil : i < 7
 ·have hilz : (i : Int) + 1 < 8 := by omega
  have hbs := HB.out.size; obtain ⟨s, hs⟩ : ∃ s, wr.heap.size = s := ⟨_, rfl⟩; have HSS := aM_ hs; have hl1 : ((wr.alloc (.cells #[.int .i64 ((i : Int) + 1)] 3)).alloc (.cells #[.int .i64 0] 3)).heap[s]? = some (.cells ([(i : Int) + 1].map (Value.int .i64)).toArray 3 (0, 0)) := va_ (hb_ hs); have hl2 : ((wr.alloc (.cells #[.int .i64 ((i : Int) + 1)] 3)).alloc (.cells #[.int .i64 0] 3)).heap[s + 1]? = some (.cells ([0].map (Value.int .i64)).toArray 3 (0, 0)) := hb_ (by simp [hs]); have HL1 := aM_ hl1; have HL2 := aM_ hl2; have HB1 := aM_ (aa_ (aa_ (Below.refl wr.heap.size wr) (.cells #[.int .i64 ((i : Int) + 1)] 3)) (.cells #[.int .i64 0] 3)); have hsz : ((wr.alloc (.cells #[.int .i64 ((i : Int) + 1)] 3)).alloc (.cells #[.int .i64 0] 3)).heap.size = s + 2 := by simp [hs]
  clear hl1 hl2
  go_wp2_with fail
  refine (qb_ 0 (some ⟨s, 0, none⟩) 1 1 0 (some ⟨s + 1, 0, none⟩) 1 1 (((i : Int) + 1) % 3) _).mono ?_; rintro e W2 ⟨rfl, hb⟩; have hbw := fa_ HB1.out hb; have HS2 : Az (Kd.S k56 56 W2 w.heap.size (fun k => True ∧ ¬ s ≤ k) (.slice Ao (ae_ i).length co) (ae_ i)) := ⟨Kd.S_below (Kd.S_mono (Kd.S_bound HS.out) (fun k hk => ⟨trivial, by have := hk.2.2.1; omega⟩)) hbw⟩
  have HP2 : Az (k56.M W2 w.heap.size (fun k => s ≤ k) (zp_ ((i : Int) + 1)) [.int .i64 0, .slice (some ⟨s, 0, none⟩) 1 1, .int .i64 0, .slice (some ⟨s + 1, 0, none⟩) 1 1, .int .i64 (((i : Int) + 1) % 3)]) :=
   ⟨ll_ W2 w.heap.size _ (zp_ ((i : Int) + 1)) (lit_R (xs := [(i : Int) + 1]) (oa_ HL1.out hb) (by omega) (by simp) (Nat.le_refl _)) (lit_R (xs := [0]) (oa_ HL2.out hb) (by omega) (by decide) (Nat.le_succ _))⟩
  have HB2 := aM_ (fa_ HB.out hbw); have hown : ∀ k, s ≤ k → True ∧ some k ≠ (Value.slice Ao (ae_ i).length co).ownBlock := fun k hk => ⟨trivial, fun e => by have := Kd.S_lt HS.out k e.symm; omega⟩
  have HOWN := aM_ hown; have hlen := to_ i; have HSN := aM_ (fn_ i); have HLL := aM_ hlen; generalize ae_ i = ou at *; clear hb hbw HB1 HL1 HL2 hown hsz HB HS hlen; have hlen : ou.length ≤ 30 := by have := HLL.out; omega
  go_wp2_with (at_builtin; go_loud (refine Kd.S_append k56 (w0 := w) w.heap.size rfl (.tmp 53) (.tmp 60) 41 56 (.agg #[.int .i64 0, .slice none 0 0, .int .i64 0, .slice none 0 0, .int .i64 0]) 72 rfl Tryz.underlying41 fm_ rfl (by show 0 < 5; decide) (by decide) (.slice Ao ou.length co) ou (zp_ ((i : Int) + 1)) [.int .i64 0, .slice (some ⟨s, 0, none⟩) 1 1, .int .i64 0, .slice (some ⟨s + 1, 0, none⟩) 1 1, .int .i64 (((i : Int) + 1) % 3)] (fun _ => True) (fun k => s ≤ k) rfl rfl HP2.out HOWN.out (fun _ _ => trivial) HS2.out HB2.out HB2.out.size (by omega) ?_); intro v1 w5 ho hb5 hg hat; have HO5 := aM_ ho; have HB5 := aM_ hb5; clear ho hb5 hg hat)
  go_roundg (7 - (i + 1))
  case measure => omega
  case rel => exact ⟨i + 1, by omega, by omega, by go_num, ⟨by rw [HSN.out]; exact HO5.out⟩, HB5⟩
 have hilz : decide ((i : Int) + 1 < 8) = false := by simp; omega
 have he : nj_ = ae_ i := by rw [show i = 7 by omega]; rfl
 have HE := aM_ he
 clear he
 go_wp2
 go_ret
 rw [HW0.out]
 exact ⟨_, rfl, by rw [HE.out]; exact HS.out, HB.out⟩
noncomputable def l5_others.f : Option (List cb_) := some nj_
theorem l5_others.calls (r : List cb_) (w : World) (h : l5_others.f = some r) : Calls Tryz.prog 26 #[] w fun e w' => ∃ v0_ : Value, e = .returned (v0_) ∧ Kd.S k56 56 w' w.heap.size (fun _ => True) v0_ r ∧ Below w.heap.size w w' := by
 obtain rfl := Option.some.inj h
 exact uo_ w
def num5 (f w : Int) : S48 := ⟨1, ⟨#[]⟩, f, w, 0⟩
def txt5 (s : BA) : S48 := ⟨0, s, 0, 0, 0⟩
def wrd5 (f c : Int) : S48 := ⟨2, ⟨#[]⟩, f, 0, c⟩
def dayP : List S48 := [num5 0 4, txt5 ⟨#[45]⟩, num5 1 2, txt5 ⟨#[45]⟩, num5 2 2]
def fh_ : List S48 := [num5 0 2, txt5 ⟨#[58]⟩, num5 1 2, txt5 ⟨#[58]⟩, num5 2 2]
def th_ : List S48 := [txt5 ⟨#[32]⟩, num5 3 2, txt5 ⟨#[58]⟩, num5 4 2, txt5 ⟨#[58]⟩, num5 5 2]
def lh_ : List S48 := [txt5 ⟨#[32, 116, 111, 32]⟩, num5 3 4, txt5 ⟨#[45]⟩, num5 4 2, txt5 ⟨#[45]⟩, num5 5 2]
def fk_ : List S48 := [num5 1 0, txt5 ⟨#[46]⟩, num5 2 0, txt5 ⟨#[32]⟩, wrd5 0 6]
def eo_ : List S48 := [num5 0 0, txt5 ⟨#[46]⟩, num5 1 1]
def durP : List S48 := [num5 0 0, txt5 ⟨#[32, 115]⟩]
def dm_ : List S48 := [num5 2 0, txt5 ⟨#[32]⟩, wrd5 1 1, txt5 ⟨#[32]⟩, num5 0 4]
def fj_ : List S52 := [⟨4, dayP⟩, ⟨5, fh_⟩, ⟨6, dayP ++ th_⟩, ⟨7, eo_⟩, ⟨8, fk_⟩, ⟨9, durP⟩, ⟨10, dayP ++ lh_⟩, ⟨4, dm_⟩]
def yd_ (x : S48) : List Value := [.int .i64 x.f0, .string x.f1, .int .i64 x.f2, .int .i64 x.f3, .int .i64 x.f4]
theorem part_any {W W' : World} {b' : Nat} {ok' : Nat → Prop} {x : S48} {cs : List Value} (h : k48.K W x cs) : k48.M W' b' ok' x cs := (rq_ h) ▸ bp_ W' b' ok' x
theorem or_ (W : World) (b : Nat) (ok : Nat → Prop) (xs : List S48) : Reps (k48.M W b ok) k48.sz xs (xs.flatMap yd_) :=
 ⟨xf_ yd_ 5 (fun _ => rfl) xs, fun j x hx => by
  show k48.M W b ok x (((xs.flatMap yd_).drop (j * 5)).take 5); rw [nl_ yd_ 5 (fun _ => rfl) xs j x hx]
  exact bp_ W b ok x⟩
theorem oh_ {W : World} {base : Nat} (xs : List S48) (hb : base ≤ W.heap.size) (hn : xs.length ≤ 1000) : Kd.R k48 48 (W.alloc (.cells (xs.flatMap yd_).toArray 48)) base (fun k => W.heap.size ≤ k) (.slice (some ⟨W.heap.size, 0, none⟩) xs.length xs.length) xs := by
 refine ⟨fun k hk => ?_, xs.flatMap yd_, ?_, or_ _ _ _ xs⟩
 ·have h : W.heap.size = k := by simpa [Value.ownBlock] using hk
  omega
 have h2 := World.ownsRow_lit (base := base) (e := 48) (size := 5) W (xs.flatMap yd_).toArray xs.length hb (by simp [maxLen]; omega) (by simpa using xf_ yd_ 5 (fun _ => rfl) xs)
 show World.ownsRow _ _ _ 5 _ _ _
 simpa using h2
structure StW (w W : World) (Rs : List (List S48 × Value × Nat × Nat)) : Prop where
 below : Below w.heap.size w W
 rows : ∀ r ∈ Rs, Kd.R k48 48 W w.heap.size (fun k => r.2.2.1 ≤ k ∧ k < r.2.2.2) r.2.1 r.1
 up : Rs.Pairwise fun x y => x.2.2.2 ≤ y.2.2.1
 top : ∀ r ∈ Rs, r.2.2.2 ≤ W.heap.size
theorem StW.base {w W : World} {Rs : List (List S48 × Value × Nat × Nat)} (h : StW w W Rs) : w.heap.size ≤ W.heap.size := h.below.size
theorem StW.nil (w : World) : StW w w [] := ⟨Below.refl _ _, by simp, List.Pairwise.nil, by simp⟩
theorem StW.step {w W W1 : World} {Rs : List (List S48 × Value × Nat × Nat)} (h : StW w W Rs) (hb : Below W.heap.size W W1) : StW w W1 Rs :=
 ⟨fa_ h.below hb, fun r hr => Kd.R_below (h.rows r hr) hb, h.up, fun r hr => Nat.le_trans (h.top r hr) hb.size⟩
theorem StW.snoc {w W : World} {Rs : List (List S48 × Value × Nat × Nat)} (h : StW w W Rs) {xs : List S48} {v : Value} {lo : Nat} (ht : ∀ r ∈ Rs, r.2.2.2 ≤ lo) (hv : Kd.R k48 48 W w.heap.size (fun k => lo ≤ k) v xs) : StW w W (Rs ++ [(xs, v, lo, W.heap.size)]) := by
 refine ⟨h.below, fun r hr => ?_, List.pairwise_append.2 ⟨h.up, List.pairwise_singleton _ _, fun r hr q hq => ?_⟩, fun r hr => ?_⟩
 ·rcases List.mem_append.1 hr with hr | hr
  ·exact h.rows r hr
  rw [List.mem_singleton.1 hr]; exact Kd.R_mono (Kd.R_bound hv) (fun k hk => ⟨hk.1, hk.2.2.1⟩)
 ·rw [List.mem_singleton.1 hq]
  exact ht r hr
 rcases List.mem_append.1 hr with hr | hr
 ·exact h.top r hr
 rw [List.mem_singleton.1 hr]
 exact Nat.le_refl _
theorem StW.lit {w W : World} {Rs : List (List S48 × Value × Nat × Nat)} (h : StW w W Rs) (xs : List S48) (hn : xs.length ≤ 1000) :
  StW w (W.alloc (.cells (xs.flatMap yd_).toArray 48)) (Rs ++ [(xs, .slice (some ⟨W.heap.size, 0, none⟩) xs.length xs.length, W.heap.size, (W.alloc (.cells (xs.flatMap yd_).toArray 48)).heap.size)]) :=
 (h.step (aa_ (Below.refl _ _) _)).snoc h.top (oh_ xs h.base hn)
section
variable {ops : Array Oper} {rest : List Oper} {o : Oper} {a : Act} {Q : Exit → Act → World → Prop}
theorem mj_ {w W : World} (lo : Nat) (Rs : List (List S48 × Value × Nat × Nat)) (ys : List S48) (A : Option Addr) (m c : Nat) {okr : Nat → Prop} (hgd : o.guard = none) (s x : Operand) (ho : o.op = .call { callee := .builtin .append, args := #[s, x], argTypes := #[50, 50] })
  {v : Value} {xs : List S48} (hs : a.eval s = v) (hx : a.eval x = .slice A m c) (HS : StW w W Rs) (HT : ∀ r ∈ Rs, r.2.2.2 ≤ lo) (hb0 : w.heap.size ≤ lo) (hlo : lo ≤ W.heap.size) (HO : Kd.R k48 48 W w.heap.size (fun k => lo ≤ k) v xs)
  (HR : Kd.R k48 48 W w.heap.size okr (.slice A m c) ys) (hl : xs.length + ys.length ≤ 1000)
  (h : ∀ v1 w1, Kd.R k48 48 w1 w.heap.size (fun k => lo ≤ k) v1 (xs ++ ys) → StW w w1 Rs → lo ≤ w1.heap.size → wpList Tryz.prog ops Q rest (a.put o.dst v1) w1) : wpList Tryz.prog ops Q (o :: rest) a W := by
 obtain ⟨A1, c1, e1, hc, hrr⟩ := Kd.R_reads HR
 injection e1 with e1 e2 e3
 subst e1
 subst e2
 subst e3
 refine Kd.R_append_rows k48 (w0 := w) w.heap.size hgd s x 50 48 (.agg #[.int .i64 0, .string ⟨#[]⟩, .int .i64 0, .int .i64 0, .int .i64 0]) 48 ho Tryz.underlying50 (by kernel_rfl) rfl (by show 0 < 5; decide) (by decide) v xs ys A ys.length c (fun k => lo ≤ k) (fun _ => False) hs hx HO hrr (fun x cs h => part_any h) (fun _ h => h.elim) (fun k hk => Nat.le_trans hlo hk) HS.below HS.base (by omega) ?_
 intro v1 w1 ho1 hb1 hg hat
 refine h v1 w1 ho1 ⟨hb1, fun r hr => Kd.R_grown (HS.rows r hr) hg (fun k hk he => ?_), HS.up, fun r hr => Nat.le_trans (HS.top r hr) hg.size⟩ (Nat.le_trans hlo hg.size)
 have h1 := HO.1 k he.symm
 have h2 := HT r hr
 have h3 := hk.2
 simp only at h1
 omega
end
def ri_ (r : S52 × Value × Nat × Nat) : List Value := [.int .i64 r.1.f0, r.2.1]
theorem perm5 {α : Type} (x m u s l : α) : [x, m, u, s, l].Perm [s, m, x, u, l] := ((List.perm_append_comm (l₁ := [x, m, u]) (l₂ := [s])).append_right [l]).trans ((List.Perm.swap m x [u, l]).cons s)
theorem apart_of {Rs Ss : List (List S48 × Value × Nat × Nat)} (h : Rs.Pairwise fun x y => x.2.2.2 ≤ y.2.2.1) (hp : Ss.Perm Rs) (i j : Nat) (x y : List S48 × Value × Nat × Nat) (hx : Ss[i]? = some x) (hy : Ss[j]? = some y) (k : Nat) (h1 : x.2.2.1 ≤ k ∧ k < x.2.2.2) (h2 : y.2.2.1 ≤ k ∧ k < y.2.2.2) : i = j := by
 have h3 : Rs.Pairwise fun x y : List S48 × Value × Nat × Nat => ∀ k, ¬ ((x.2.2.1 ≤ k ∧ k < x.2.2.2) ∧ (y.2.2.1 ≤ k ∧ k < y.2.2.2)) := h.imp (fun hxy k hk => by omega)
 have h4 := (hp.pairwise_iff (fun {x y} hxy k hk => hxy k ⟨hk.2, hk.1⟩)).2 h3
 obtain ⟨hi, ei⟩ := List.getElem?_eq_some_iff.1 hx
 obtain ⟨hj, ej⟩ := List.getElem?_eq_some_iff.1 hy
 rcases Nat.lt_trichotomy i j with hij | hij | hij
 ·have := List.pairwise_iff_getElem.1 h4 i j hi hj hij k
  rw [ei, ej] at this; exact absurd ⟨h1, h2⟩ this
 ·exact hij
 have := List.pairwise_iff_getElem.1 h4 j i hj hi hij k
 rw [ei, ej] at this
 exact absurd ⟨h2, h1⟩ this
theorem styles_S {w W : World} {Rs : List (List S48 × Value × Nat × Nat)} (h : StW w W Rs) (Ss : List (S52 × Value × Nat × Nat)) (hp : (Ss.map fun r => (r.1.f1, r.2)).Perm Rs) (hn : Ss.length ≤ 1000) :
  Kd.S k52 52 (W.alloc (.cells (Ss.flatMap ri_).toArray 52)) w.heap.size (fun _ => True) (.slice (some ⟨W.heap.size, 0, none⟩) Ss.length Ss.length) (Ss.map (·.1)) := by
 have hm : ∀ r ∈ Ss, (r.1.f1, r.2) ∈ Rs := fun r hr => hp.mem_iff.1 (List.mem_map.2 ⟨r, hr, rfl⟩)
 obtain ⟨f, hrep⟩ := Kd.reps_tag (d := k52) (w := W) (base := w.heap.size) (ok := fun k => k < W.heap.size) (xs := Ss.map (·.1)) (inner := Ss.flatMap ri_) (fun j k => ∃ x, Ss[j]? = some x ∧ x.2.2.1 ≤ k ∧ k < x.2.2.2)
  (fun i j k ⟨x, hx, h1⟩ ⟨y, hy, h2⟩ => apart_of h.up hp i j (x.1.f1, x.2) (y.1.f1, y.2) (by rw [List.getElem?_map, hx]; rfl) (by rw [List.getElem?_map, hy]; rfl) k h1 h2)
  (fun j k ⟨x, hx, h1⟩ => Nat.lt_of_lt_of_le h1.2 (h.top _ (hm x (List.mem_of_getElem? hx))))
  (by rw [List.length_map]; exact xf_ ri_ 2 (fun _ => rfl) Ss)
  (fun j x hx => by
   rw [List.getElem?_map] at hx; obtain ⟨r, hr, rfl⟩ := Option.map_eq_some_iff.1 hx; show k52.M W w.heap.size _ r.1 (((Ss.flatMap ri_).drop (j * 2)).take 2); rw [nl_ ri_ 2 (fun _ => rfl) Ss j r hr]
   exact ap_ W w.heap.size _ r.1 (Kd.R_mono (h.rows _ (hm r (List.mem_of_getElem? hr))) (fun k hk => ⟨r, hr, hk⟩)))
 refine ⟨f, fun k _ => trivial, Ss.flatMap ri_, ?_, ?_⟩
 ·have h2 := World.ownsRow_lit (base := w.heap.size) (e := 52) (size := 2) W (Ss.flatMap ri_).toArray Ss.length h.base (by simp [maxLen]; omega) (by simpa using xf_ ri_ 2 (fun _ => rfl) Ss)
  have h3 : (Ss.map (·.1)).zipIdx.length = Ss.length := by simp
  rw [h3]; show (W.alloc (.cells (Ss.flatMap ri_).toArray 52)).ownsRow w.heap.size 52 2 _ _ _
  simpa using h2
 refine hrep.imp_ (fun p c hp => (Kd.tag f k52).M_mono (fun k hk => ⟨trivial, fun he => ?_⟩) (Kd.M_below ((Kd.tag f k52).M_bound hp) (aa_ (Below.refl _ _) _)))
 have h3 : k = W.heap.size := by simpa [Value.ownBlock] using he
 have := hk.2.2.1
 omega
theorem xb_ (a b : Int) (w : World) : Calls Tryz.prog 120 #[.int .i64 a, .int .i64 b] w fun e w' => e = .returned (.agg #[.int .i64 1, .string (⟨#[]⟩ : BA), .int .i64 a, .int .i64 b, .int .i64 0]) ∧ Below w.heap.size w w' := l5_number.calls a b 1 ⟨#[]⟩ a b 0 w rfl
theorem zc_ (a : BA) (w : World) : Calls Tryz.prog 121 #[.string a] w fun e w' => e = .returned (.agg #[.int .i64 0, .string a, .int .i64 0, .int .i64 0, .int .i64 0]) ∧ Below w.heap.size w w' := l5_text.calls a 0 a 0 0 0 w rfl
theorem jo_ (w : World) : Calls Tryz.prog 72 #[] w fun e w' => ∃ v : Value, e = .returned v ∧ Kd.S k52 52 w' w.heap.size (fun _ => True) v fj_ ∧ Below w.heap.size w w' := by
 obtain ⟨W0, hW0⟩ : ∃ W0, W0 = w := ⟨_, rfl⟩
 have ST : Az (StW w W0 []) := ⟨by rw [hW0]; exact StW.nil w⟩
 have HW0 := aM_ hW0
 go_enter Tryz.func72, Tryz.ntmps72
 rw [← HW0.out]
 clear hW0
 go_wp2_with fail
 refine (xb_ 0 4 _).mono ?_
 rintro e W1 ⟨rfl, hb⟩
 have ST1 := aM_ (ST.out.step hb)
 clear ST
 have ST := ST1
 clear ST1
 clear hb
 go_wp2_with fail
 refine (zc_ ⟨#[45]⟩ _).mono ?_
 rintro e W2 ⟨rfl, hb⟩
 have ST1 := aM_ (ST.out.step hb)
 clear ST
 have ST := ST1
 clear ST1
 clear hb
 go_wp2_with fail
 refine (xb_ 1 2 _).mono ?_
 rintro e W3 ⟨rfl, hb⟩
 have ST1 := aM_ (ST.out.step hb)
 clear ST
 have ST := ST1
 clear ST1
 clear hb
 go_wp2_with fail
 refine (zc_ ⟨#[45]⟩ _).mono ?_
 rintro e W4 ⟨rfl, hb⟩
 have ST1 := aM_ (ST.out.step hb)
 clear ST
 have ST := ST1
 clear ST1
 clear hb
 go_wp2_with fail
 refine (xb_ 2 2 _).mono ?_
 rintro e W5 ⟨rfl, hb⟩
 have ST1 := aM_ (ST.out.step hb)
 clear ST
 have ST := ST1
 clear ST1
 clear hb
 have ST1 : Az (∃ hi, StW w (W5.alloc (.cells (List.flatMap yd_ dayP).toArray 48)) (_ ++ [(dayP, .slice (some ⟨W5.heap.size, 0, none⟩) 5 5, W5.heap.size, hi)])) := ⟨_, ST.out.lit dayP (by decide)⟩
 clear ST
 obtain ⟨q1, hq⟩ := ST1.out
 have ST := aM_ hq
 clear ST1 hq
 go_wp2_with fail
 refine (xb_ 0 2 _).mono ?_
 rintro e W6 ⟨rfl, hb⟩
 have ST1 := aM_ (ST.out.step hb)
 clear ST
 have ST := ST1
 clear ST1
 clear hb
 generalize W5.heap.size = z6 at *
 go_wp2_with fail
 refine (zc_ ⟨#[58]⟩ _).mono ?_
 rintro e W7 ⟨rfl, hb⟩
 have ST1 := aM_ (ST.out.step hb)
 clear ST
 have ST := ST1
 clear ST1
 clear hb
 go_wp2_with fail
 refine (xb_ 1 2 _).mono ?_
 rintro e W8 ⟨rfl, hb⟩
 have ST1 := aM_ (ST.out.step hb)
 clear ST
 have ST := ST1
 clear ST1
 clear hb
 go_wp2_with fail
 refine (zc_ ⟨#[58]⟩ _).mono ?_
 rintro e W9 ⟨rfl, hb⟩
 have ST1 := aM_ (ST.out.step hb)
 clear ST
 have ST := ST1
 clear ST1
 clear hb
 go_wp2_with fail
 refine (xb_ 2 2 _).mono ?_
 rintro e W10 ⟨rfl, hb⟩
 have ST1 := aM_ (ST.out.step hb)
 clear ST
 have ST := ST1
 clear ST1
 clear hb
 have ST1 : Az (∃ hi, StW w (W10.alloc (.cells (List.flatMap yd_ fh_).toArray 48)) (_ ++ [(fh_, .slice (some ⟨W10.heap.size, 0, none⟩) 5 5, W10.heap.size, hi)])) := ⟨_, ST.out.lit fh_ (by decide)⟩
 clear ST
 obtain ⟨q2, hq⟩ := ST1.out
 have ST := aM_ hq
 clear ST1 hq
 have hs : (W10.alloc (.cells (List.flatMap yd_ fh_).toArray 48)).heap.size = W10.heap.size + 1 := (by simp)
 have HT := aM_ (hs ▸ ST.out.top)
 have HL : Az (w.heap.size ≤ W10.heap.size + 1) := ⟨hs ▸ ST.out.base⟩
 have HV : Az (Kd.R k48 48 ((W10.alloc (.cells (List.flatMap yd_ fh_).toArray 48)).alloc (.cells #[] 48)) w.heap.size (fun k => W10.heap.size + 1 ≤ k) (.slice (some ⟨W10.heap.size + 1, 0, none⟩) 0 0) []) := ⟨hs ▸ oh_ [] ST.out.base (by decide)⟩
 have ST1 := aM_ (ST.out.step (aa_ (Below.refl _ _) (.cells #[] 48)))
 clear ST
 have ST := ST1
 clear ST1
 have HZ : Az (W10.heap.size + 1 ≤ ((W10.alloc (.cells (List.flatMap yd_ fh_).toArray 48)).alloc (.cells #[] 48)).heap.size) := ⟨by rw [← hs]; simp⟩
 have HD := aM_ (ST.out.rows (dayP, _, _, _) (by simp only [List.nil_append, List.cons_append, List.mem_cons]; exact Or.inl rfl))
 clear hs
 go_wp2_with (at_builtin; (refine mj_ (w := w) (W10.heap.size + 1) _ dayP _ _ _ rfl (.tmp 18) (.tmp 19) rfl rfl rfl ST.out HT.out HL.out HZ.out (by have := HV.out; exact this) HD.out (by decide) ?_); intro v20 W11 hv hst hlo; have HV1 := aM_ hv; have ST1 := aM_ hst; have HZ1 := aM_ hlo; clear hv hst hlo HV ST HZ HD; have HV := HV1; have ST := ST1; have HZ := HZ1; clear HV1 ST1 HZ1)
 refine (zc_ ⟨#[32]⟩ _).mono ?_
 rintro e W12 ⟨rfl, hb⟩
 have ST1 := aM_ (ST.out.step hb)
 clear ST
 have ST := ST1
 clear ST1
 have HV1 := aM_ (Kd.R_below HV.out hb)
 clear HV
 have HV := HV1
 clear HV1
 have HZ1 := aM_ (Nat.le_trans HZ.out hb.size)
 clear HZ
 have HZ := HZ1
 clear HZ1
 clear hb
 go_wp2_with fail
 refine (xb_ 3 2 _).mono ?_
 rintro e W13 ⟨rfl, hb⟩
 have ST1 := aM_ (ST.out.step hb)
 clear ST
 have ST := ST1
 clear ST1
 have HV1 := aM_ (Kd.R_below HV.out hb)
 clear HV
 have HV := HV1
 clear HV1
 have HZ1 := aM_ (Nat.le_trans HZ.out hb.size)
 clear HZ
 have HZ := HZ1
 clear HZ1
 clear hb
 go_wp2_with fail
 refine (zc_ ⟨#[58]⟩ _).mono ?_
 rintro e W14 ⟨rfl, hb⟩
 have ST1 := aM_ (ST.out.step hb)
 clear ST
 have ST := ST1
 clear ST1
 have HV1 := aM_ (Kd.R_below HV.out hb)
 clear HV
 have HV := HV1
 clear HV1
 have HZ1 := aM_ (Nat.le_trans HZ.out hb.size)
 clear HZ
 have HZ := HZ1
 clear HZ1
 clear hb
 go_wp2_with fail
 refine (xb_ 4 2 _).mono ?_
 rintro e W15 ⟨rfl, hb⟩
 have ST1 := aM_ (ST.out.step hb)
 clear ST
 have ST := ST1
 clear ST1
 have HV1 := aM_ (Kd.R_below HV.out hb)
 clear HV
 have HV := HV1
 clear HV1
 have HZ1 := aM_ (Nat.le_trans HZ.out hb.size)
 clear HZ
 have HZ := HZ1
 clear HZ1
 clear hb
 go_wp2_with fail
 refine (zc_ ⟨#[58]⟩ _).mono ?_
 rintro e W16 ⟨rfl, hb⟩
 have ST1 := aM_ (ST.out.step hb)
 clear ST
 have ST := ST1
 clear ST1
 have HV1 := aM_ (Kd.R_below HV.out hb)
 clear HV
 have HV := HV1
 clear HV1
 have HZ1 := aM_ (Nat.le_trans HZ.out hb.size)
 clear HZ
 have HZ := HZ1
 clear HZ1
 clear hb
 go_wp2_with fail
 refine (xb_ 5 2 _).mono ?_
 rintro e W17 ⟨rfl, hb⟩
 have ST1 := aM_ (ST.out.step hb)
 clear ST
 have ST := ST1
 clear ST1
 have HV1 := aM_ (Kd.R_below HV.out hb)
 clear HV
 have HV := HV1
 clear HV1
 have HZ1 := aM_ (Nat.le_trans HZ.out hb.size)
 clear HZ
 have HZ := HZ1
 clear HZ1
 clear hb
 have HR : Az (Kd.R k48 48 (W17.alloc (.cells (List.flatMap yd_ th_).toArray 48)) w.heap.size (fun k => W17.heap.size ≤ k) (.slice (some ⟨W17.heap.size, 0, none⟩) 6 6) th_) := ⟨oh_ th_ ST.out.base (by decide)⟩
 have ST1 := aM_ (ST.out.step (aa_ (Below.refl _ _) (.cells (List.flatMap yd_ th_).toArray 48)))
 clear ST
 have ST := ST1
 clear ST1
 have HV1 := aM_ (Kd.R_alloc HV.out (.cells (List.flatMap yd_ th_).toArray 48))
 clear HV
 have HV := HV1
 clear HV1
 have HZ1 := aM_ (Nat.le_trans HZ.out (qa_ (aa_ (Below.refl _ W17) (.cells (List.flatMap yd_ th_).toArray 48))))
 clear HZ
 have HZ := HZ1
 clear HZ1
 go_wp2_with (first | (at_builtin; (refine mj_ (w := w) (W10.heap.size + 1) _ th_ _ _ _ rfl (.tmp 20) (.tmp 27) rfl rfl rfl ST.out HT.out HL.out HZ.out HV.out HR.out (by decide) ?_); intro v18 W18 hv hst hlo; (obtain ⟨A18, c18, e1, _⟩ : ∃ A c, v18 = .slice A 11 c ∧ True := (by obtain ⟨A, c, e, _⟩ := Kd.R_reads hv; exact ⟨A, c, e, trivial⟩)); subst e1; (obtain ⟨q3, hq⟩ : ∃ hi, StW w W18 (_ ++ [(dayP ++ th_, (.slice A18 11 c18), (W10.heap.size + 1), hi)]) := ⟨_, hst.snoc HT.out hv⟩); have ST1 := aM_ hq; clear hv hst hlo hq HV ST HZ HR HT HL; have ST := ST1; clear ST1) | (at_builtin; have hs : W18.heap.size = W18.heap.size := (by rfl); have HT := aM_ (hs ▸ ST.out.top); have HL : Az (w.heap.size ≤ W18.heap.size) := ⟨hs ▸ ST.out.base⟩; have HV : Az (Kd.R k48 48 (W18.alloc (.cells #[] 48)) w.heap.size (fun k => W18.heap.size ≤ k) (.slice (some ⟨W18.heap.size, 0, none⟩) 0 0) []) := ⟨hs ▸ oh_ [] ST.out.base (by decide)⟩; have ST1 := aM_ (ST.out.step (aa_ (Below.refl _ _) (.cells #[] 48))); clear ST; have ST := ST1; clear ST1; have HZ : Az (W18.heap.size ≤ (W18.alloc (.cells #[] 48)).heap.size) := ⟨by rw [← hs]; simp⟩; have HD := aM_ (ST.out.rows (dayP, _, _, _) (by simp only [List.nil_append, List.cons_append, List.mem_cons]; exact Or.inl rfl)); clear hs; (refine mj_ (w := w) (W18.heap.size) _ dayP _ _ _ rfl (.tmp 29) (.tmp 30) rfl rfl rfl ST.out HT.out HL.out HZ.out (by have := HV.out; exact this) HD.out (by decide) ?_); intro v31 W19 hv hst hlo; have HV1 := aM_ hv; have ST1 := aM_ hst; have HZ1 := aM_ hlo; clear hv hst hlo HV ST HZ HD; have HV := HV1; have ST := ST1; have HZ := HZ1; clear HV1 ST1 HZ1))
 refine (zc_ ⟨#[32, 116, 111, 32]⟩ _).mono ?_
 rintro e W20 ⟨rfl, hb⟩
 have ST1 := aM_ (ST.out.step hb)
 clear ST
 have ST := ST1
 clear ST1
 have HV1 := aM_ (Kd.R_below HV.out hb)
 clear HV
 have HV := HV1
 clear HV1
 have HZ1 := aM_ (Nat.le_trans HZ.out hb.size)
 clear HZ
 have HZ := HZ1
 clear HZ1
 clear hb
 go_wp2_with fail
 refine (xb_ 3 4 _).mono ?_
 rintro e W21 ⟨rfl, hb⟩
 have ST1 := aM_ (ST.out.step hb)
 clear ST
 have ST := ST1
 clear ST1
 have HV1 := aM_ (Kd.R_below HV.out hb)
 clear HV
 have HV := HV1
 clear HV1
 have HZ1 := aM_ (Nat.le_trans HZ.out hb.size)
 clear HZ
 have HZ := HZ1
 clear HZ1
 clear hb
 go_wp2_with fail
 refine (zc_ ⟨#[45]⟩ _).mono ?_
 rintro e W22 ⟨rfl, hb⟩
 have ST1 := aM_ (ST.out.step hb)
 clear ST
 have ST := ST1
 clear ST1
 have HV1 := aM_ (Kd.R_below HV.out hb)
 clear HV
 have HV := HV1
 clear HV1
 have HZ1 := aM_ (Nat.le_trans HZ.out hb.size)
 clear HZ
 have HZ := HZ1
 clear HZ1
 clear hb
 go_wp2_with fail
 refine (xb_ 4 2 _).mono ?_
 rintro e W23 ⟨rfl, hb⟩
 have ST1 := aM_ (ST.out.step hb)
 clear ST
 have ST := ST1
 clear ST1
 have HV1 := aM_ (Kd.R_below HV.out hb)
 clear HV
 have HV := HV1
 clear HV1
 have HZ1 := aM_ (Nat.le_trans HZ.out hb.size)
 clear HZ
 have HZ := HZ1
 clear HZ1
 clear hb
 go_wp2_with fail
 refine (zc_ ⟨#[45]⟩ _).mono ?_
 rintro e W24 ⟨rfl, hb⟩
 have ST1 := aM_ (ST.out.step hb)
 clear ST
 have ST := ST1
 clear ST1
 have HV1 := aM_ (Kd.R_below HV.out hb)
 clear HV
 have HV := HV1
 clear HV1
 have HZ1 := aM_ (Nat.le_trans HZ.out hb.size)
 clear HZ
 have HZ := HZ1
 clear HZ1
 clear hb
 go_wp2_with fail
 refine (xb_ 5 2 _).mono ?_
 rintro e W25 ⟨rfl, hb⟩
 have ST1 := aM_ (ST.out.step hb)
 clear ST
 have ST := ST1
 clear ST1
 have HV1 := aM_ (Kd.R_below HV.out hb)
 clear HV
 have HV := HV1
 clear HV1
 have HZ1 := aM_ (Nat.le_trans HZ.out hb.size)
 clear HZ
 have HZ := HZ1
 clear HZ1
 clear hb
 have HR : Az (Kd.R k48 48 (W25.alloc (.cells (List.flatMap yd_ lh_).toArray 48)) w.heap.size (fun k => W25.heap.size ≤ k) (.slice (some ⟨W25.heap.size, 0, none⟩) 6 6) lh_) := ⟨oh_ lh_ ST.out.base (by decide)⟩
 have ST1 := aM_ (ST.out.step (aa_ (Below.refl _ _) (.cells (List.flatMap yd_ lh_).toArray 48)))
 clear ST
 have ST := ST1
 clear ST1
 have HV1 := aM_ (Kd.R_alloc HV.out (.cells (List.flatMap yd_ lh_).toArray 48))
 clear HV
 have HV := HV1
 clear HV1
 have HZ1 := aM_ (Nat.le_trans HZ.out (qa_ (aa_ (Below.refl _ W25) (.cells (List.flatMap yd_ lh_).toArray 48))))
 clear HZ
 have HZ := HZ1
 clear HZ1
 go_wp2_with (at_builtin; (refine mj_ (w := w) (W18.heap.size) _ lh_ _ _ _ rfl (.tmp 31) (.tmp 38) rfl rfl rfl ST.out HT.out HL.out HZ.out HV.out HR.out (by decide) ?_); intro v26 W26 hv hst hlo; (obtain ⟨A26, c26, e1, _⟩ : ∃ A c, v26 = .slice A 11 c ∧ True := (by obtain ⟨A, c, e, _⟩ := Kd.R_reads hv; exact ⟨A, c, e, trivial⟩)); subst e1; (obtain ⟨q4, hq⟩ : ∃ hi, StW w W26 (_ ++ [(dayP ++ lh_, (.slice A26 11 c26), (W18.heap.size), hi)]) := ⟨_, hst.snoc HT.out hv⟩); have ST1 := aM_ hq; clear hv hst hlo hq HV ST HZ HR HT HL; have ST := ST1; clear ST1)
 refine (xb_ 1 0 _).mono ?_
 rintro e W27 ⟨rfl, hb⟩
 have ST1 := aM_ (ST.out.step hb)
 clear ST
 have ST := ST1
 clear ST1
 clear hb
 go_wp2_with fail
 refine (zc_ ⟨#[46]⟩ _).mono ?_
 rintro e W28 ⟨rfl, hb⟩
 have ST1 := aM_ (ST.out.step hb)
 clear ST
 have ST := ST1
 clear ST1
 clear hb
 go_wp2_with fail
 refine (xb_ 2 0 _).mono ?_
 rintro e W29 ⟨rfl, hb⟩
 have ST1 := aM_ (ST.out.step hb)
 clear ST
 have ST := ST1
 clear ST1
 clear hb
 go_wp2_with fail
 refine (zc_ ⟨#[32]⟩ _).mono ?_
 rintro e W30 ⟨rfl, hb⟩
 have ST1 := aM_ (ST.out.step hb)
 clear ST
 have ST := ST1
 clear ST1
 clear hb
 have ST1 : Az (∃ hi, StW w (W30.alloc (.cells (List.flatMap yd_ fk_).toArray 48)) (_ ++ [(fk_, .slice (some ⟨W30.heap.size, 0, none⟩) 5 5, W30.heap.size, hi)])) := ⟨_, ST.out.lit fk_ (by decide)⟩
 clear ST
 obtain ⟨q5, hq⟩ := ST1.out
 have ST := aM_ hq
 clear ST1 hq
 go_wp2_with fail
 refine (xb_ 0 0 _).mono ?_
 rintro e W31 ⟨rfl, hb⟩
 have ST1 := aM_ (ST.out.step hb)
 clear ST
 have ST := ST1
 clear ST1
 clear hb
 generalize W30.heap.size = z31 at *
 go_wp2_with fail
 refine (zc_ ⟨#[46]⟩ _).mono ?_
 rintro e W32 ⟨rfl, hb⟩
 have ST1 := aM_ (ST.out.step hb)
 clear ST
 have ST := ST1
 clear ST1
 clear hb
 go_wp2_with fail
 refine (xb_ 1 1 _).mono ?_
 rintro e W33 ⟨rfl, hb⟩
 have ST1 := aM_ (ST.out.step hb)
 clear ST
 have ST := ST1
 clear ST1
 clear hb
 have ST1 : Az (∃ hi, StW w (W33.alloc (.cells (List.flatMap yd_ eo_).toArray 48)) (_ ++ [(eo_, .slice (some ⟨W33.heap.size, 0, none⟩) 3 3, W33.heap.size, hi)])) := ⟨_, ST.out.lit eo_ (by decide)⟩
 clear ST
 obtain ⟨q6, hq⟩ := ST1.out
 have ST := aM_ hq
 clear ST1 hq
 go_wp2_with fail
 refine (xb_ 0 0 _).mono ?_
 rintro e W34 ⟨rfl, hb⟩
 have ST1 := aM_ (ST.out.step hb)
 clear ST
 have ST := ST1
 clear ST1
 clear hb
 generalize W33.heap.size = z34 at *
 go_wp2_with fail
 refine (zc_ ⟨#[32, 115]⟩ _).mono ?_
 rintro e W35 ⟨rfl, hb⟩
 have ST1 := aM_ (ST.out.step hb)
 clear ST
 have ST := ST1
 clear ST1
 clear hb
 have ST1 : Az (∃ hi, StW w (W35.alloc (.cells (List.flatMap yd_ durP).toArray 48)) (_ ++ [(durP, .slice (some ⟨W35.heap.size, 0, none⟩) 2 2, W35.heap.size, hi)])) := ⟨_, ST.out.lit durP (by decide)⟩
 clear ST
 obtain ⟨q7, hq⟩ := ST1.out
 have ST := aM_ hq
 clear ST1 hq
 go_wp2_with fail
 refine (xb_ 2 0 _).mono ?_
 rintro e W36 ⟨rfl, hb⟩
 have ST1 := aM_ (ST.out.step hb)
 clear ST
 have ST := ST1
 clear ST1
 clear hb
 generalize W35.heap.size = z36 at *
 go_wp2_with fail
 refine (zc_ ⟨#[32]⟩ _).mono ?_
 rintro e W37 ⟨rfl, hb⟩
 have ST1 := aM_ (ST.out.step hb)
 clear ST
 have ST := ST1
 clear ST1
 clear hb
 go_wp2_with fail
 refine (zc_ ⟨#[32]⟩ _).mono ?_
 rintro e W38 ⟨rfl, hb⟩
 have ST1 := aM_ (ST.out.step hb)
 clear ST
 have ST := ST1
 clear ST1
 clear hb
 go_wp2_with fail
 refine (xb_ 0 4 _).mono ?_
 rintro e W39 ⟨rfl, hb⟩
 have ST1 := aM_ (ST.out.step hb)
 clear ST
 have ST := ST1
 clear ST1
 clear hb
 have ST1 : Az (∃ hi, StW w (W39.alloc (.cells (List.flatMap yd_ dm_).toArray 48)) (_ ++ [(dm_, .slice (some ⟨W39.heap.size, 0, none⟩) 5 5, W39.heap.size, hi)])) := ⟨_, ST.out.lit dm_ (by decide)⟩
 clear ST
 obtain ⟨q8, hq⟩ := ST1.out
 have ST := aM_ hq
 clear ST1 hq
 have hS := styles_S ST.out [(⟨4, dayP⟩, .slice (some ⟨z6, 0, none⟩) 5 5, z6, q1), (⟨5, fh_⟩, .slice (some ⟨W10.heap.size, 0, none⟩) 5 5, W10.heap.size, q2), (⟨6, dayP ++ th_⟩, .slice A18 11 c18, W10.heap.size + 1, q3), (⟨7, eo_⟩, .slice (some ⟨z34, 0, none⟩) 3 3, z34, q6), (⟨8, fk_⟩, .slice (some ⟨z31, 0, none⟩) 5 5, z31, q5), (⟨9, durP⟩, .slice (some ⟨z36, 0, none⟩) 2 2, z36, q7), (⟨10, dayP ++ lh_⟩, .slice A26 11 c26, W18.heap.size, q4), (⟨4, dm_⟩, .slice (some ⟨W39.heap.size, 0, none⟩) 5 5, W39.heap.size, q8)] ((((perm5 _ _ _ _ _).cons _).cons _).cons _) (Nat.le_of_ble_eq_true rfl)
 have hB := aa_ ST.out.below (.cells (List.flatMap ri_ [(⟨4, dayP⟩, .slice (some ⟨z6, 0, none⟩) 5 5, z6, q1), (⟨5, fh_⟩, .slice (some ⟨W10.heap.size, 0, none⟩) 5 5, W10.heap.size, q2), (⟨6, dayP ++ th_⟩, .slice A18 11 c18, W10.heap.size + 1, q3), (⟨7, eo_⟩, .slice (some ⟨z34, 0, none⟩) 3 3, z34, q6), (⟨8, fk_⟩, .slice (some ⟨z31, 0, none⟩) 5 5, z31, q5), (⟨9, durP⟩, .slice (some ⟨z36, 0, none⟩) 2 2, z36, q7), (⟨10, dayP ++ lh_⟩, .slice A26 11 c26, W18.heap.size, q4), (⟨4, dm_⟩, .slice (some ⟨W39.heap.size, 0, none⟩) 5 5, W39.heap.size, q8)]).toArray 52)
 have hz : (W39.alloc (.cells (List.flatMap yd_ dm_).toArray 48)).heap.size = W39.heap.size + 1 := by simp
 rw [hz] at hS
 have HS := aM_ hS
 have HB := aM_ hB
 clear hS hB hz
 go_wp2
 go_ret
 rw [HW0.out]
 exact ⟨_, rfl, HS.out, HB.out⟩
noncomputable def l5_styles.f : Option (List S52) := some fj_
theorem l5_styles.calls (r : List S52) (w : World) (h : l5_styles.f = some r) : Calls Tryz.prog 72 #[] w fun e w' => ∃ v0_ : Value, e = .returned (v0_) ∧ Kd.S k52 52 w' w.heap.size (fun _ => True) v0_ r ∧ Below w.heap.size w w' := by
 obtain rfl := Option.some.inj h
 exact jo_ w
end Go.Proofs.YtiocgaekoeekgaaGreat.P
end
section
namespace Go.Proofs.YtiocgaekoeekgaaGreat.P
open Go.RowKit YtiocgaekoeekgaaGreatW.PrintWords YtiocgaekoeekgaaGreatW.PrintLast YtiocgaekoeekgaaGreatW.PrintMore
attribute [local go_sem] vb_ tb_ jc_ ic_ lb_ kb_ ub_ sb_   
set_option linter.unusedVariables false
set_option linter.unusedSimpArgs false
noncomputable def l5_Sample.f (a0 : Int) (a1 : Int) : Option ((List (S44))) := (l5_words.f).bind fun t264 => ((l5_others.f).bind fun t267 => ((l5_styles.f).bind fun t270 => ((l5_dates.f a0).bind fun t273 => ((l5_within.f a1 4).bind fun t276 => (some (([(⟨(⟨#[98, 97, 115, 101]⟩ : BA), (-1), 0, t264, t267, t270⟩ : S44), (⟨(⟨#[101, 110]⟩ : BA), 0, 0, ([] : List (S46)), t273, ([] : List (S52))⟩ : S44), (⟨(⟨#[97, 114, 45, 49]⟩ : BA), 1, t276, (([(⟨(⟨#[109, 97, 105]⟩ : BA), 1, 5⟩ : S46)] : List (S46))), ([] : List (S56)), ([] : List (S52))⟩ : S44)] : List (S44))))))))
theorem l5_Sample.calls (a0 : Int) (a1 : Int) (r : List (S44)) (w : World) (h : l5_Sample.f a0 a1 = some r) :
  Calls Tryz.prog 31 #[.int .i64 a0, .int .i64 a1] w fun e w' => ∃ v0_ : Value, e = .returned (v0_) ∧ Kd.N k44 44 w' w.heap.size (fun k_ => (w.heap.size ≤ k_)) v0_ r ∧ Below w.heap.size w w' := by
 have hu44 := Tryz.underlying44
 have hu46 := Tryz.underlying46
 have HB := aM_ (Below.refl w.heap.size w)
 have H : ((l5_words.f).bind fun t264 => ((l5_others.f).bind fun t267 => ((l5_styles.f).bind fun t270 => ((l5_dates.f a0).bind fun t273 => ((l5_within.f a1 4).bind fun t276 => (some (([(⟨(⟨#[98, 97, 115, 101]⟩ : BA), (-1), 0, t264, t267, t270⟩ : S44), (⟨(⟨#[101, 110]⟩ : BA), 0, 0, ([] : List (S46)), t273, ([] : List (S52))⟩ : S44), (⟨(⟨#[97, 114, 45, 49]⟩ : BA), 1, t276, (([(⟨(⟨#[109, 97, 105]⟩ : BA), 1, 5⟩ : S46)] : List (S46))), ([] : List (S56)), ([] : List (S52))⟩ : S44)] : List (S44))))))))) = some r := h
 clear h
 replace H := Option.bind_eq_some_iff.mp H
 obtain ⟨t264, A30, H⟩ := H
 replace H : ((l5_others.f).bind fun t267 => ((l5_styles.f).bind fun t270 => ((l5_dates.f a0).bind fun t273 => ((l5_within.f a1 4).bind fun t276 => (some (([(⟨(⟨#[98, 97, 115, 101]⟩ : BA), (-1), 0, t264, t267, t270⟩ : S44), (⟨(⟨#[101, 110]⟩ : BA), 0, 0, ([] : List (S46)), t273, ([] : List (S52))⟩ : S44), (⟨(⟨#[97, 114, 45, 49]⟩ : BA), 1, t276, (([(⟨(⟨#[109, 97, 105]⟩ : BA), 1, 5⟩ : S46)] : List (S46))), ([] : List (S56)), ([] : List (S52))⟩ : S44)] : List (S44)))))))) = some r := H
 have A3 := aM_ A30
 clear A30
 replace H := Option.bind_eq_some_iff.mp H
 obtain ⟨t267, A40, H⟩ := H
 replace H : ((l5_styles.f).bind fun t270 => ((l5_dates.f a0).bind fun t273 => ((l5_within.f a1 4).bind fun t276 => (some (([(⟨(⟨#[98, 97, 115, 101]⟩ : BA), (-1), 0, t264, t267, t270⟩ : S44), (⟨(⟨#[101, 110]⟩ : BA), 0, 0, ([] : List (S46)), t273, ([] : List (S52))⟩ : S44), (⟨(⟨#[97, 114, 45, 49]⟩ : BA), 1, t276, (([(⟨(⟨#[109, 97, 105]⟩ : BA), 1, 5⟩ : S46)] : List (S46))), ([] : List (S56)), ([] : List (S52))⟩ : S44)] : List (S44))))))) = some r := H
 have A4 := aM_ A40
 clear A40
 replace H := Option.bind_eq_some_iff.mp H
 obtain ⟨t270, A50, H⟩ := H
 replace H : ((l5_dates.f a0).bind fun t273 => ((l5_within.f a1 4).bind fun t276 => (some (([(⟨(⟨#[98, 97, 115, 101]⟩ : BA), (-1), 0, t264, t267, t270⟩ : S44), (⟨(⟨#[101, 110]⟩ : BA), 0, 0, ([] : List (S46)), t273, ([] : List (S52))⟩ : S44), (⟨(⟨#[97, 114, 45, 49]⟩ : BA), 1, t276, (([(⟨(⟨#[109, 97, 105]⟩ : BA), 1, 5⟩ : S46)] : List (S46))), ([] : List (S56)), ([] : List (S52))⟩ : S44)] : List (S44)))))) = some r := H
 have A5 := aM_ A50
 clear A50
 replace H := Option.bind_eq_some_iff.mp H
 obtain ⟨t273, A60, H⟩ := H
 replace H : ((l5_within.f a1 4).bind fun t276 => (some (([(⟨(⟨#[98, 97, 115, 101]⟩ : BA), (-1), 0, t264, t267, t270⟩ : S44), (⟨(⟨#[101, 110]⟩ : BA), 0, 0, ([] : List (S46)), t273, ([] : List (S52))⟩ : S44), (⟨(⟨#[97, 114, 45, 49]⟩ : BA), 1, t276, (([(⟨(⟨#[109, 97, 105]⟩ : BA), 1, 5⟩ : S46)] : List (S46))), ([] : List (S56)), ([] : List (S52))⟩ : S44)] : List (S44))))) = some r := H
 have A6 := aM_ A60
 clear A60
 replace H := Option.bind_eq_some_iff.mp H
 obtain ⟨t276, A70, H⟩ := H
 replace H : (some (([(⟨(⟨#[98, 97, 115, 101]⟩ : BA), (-1), 0, t264, t267, t270⟩ : S44), (⟨(⟨#[101, 110]⟩ : BA), 0, 0, ([] : List (S46)), t273, ([] : List (S52))⟩ : S44), (⟨(⟨#[97, 114, 45, 49]⟩ : BA), 1, t276, (([(⟨(⟨#[109, 97, 105]⟩ : BA), 1, 5⟩ : S46)] : List (S46))), ([] : List (S56)), ([] : List (S52))⟩ : S44)] : List (S44)))) = some r := H
 have A7 := aM_ A70
 clear A70
 obtain ⟨y277, hy277⟩ : ∃ y_ : List (S46), y_ = (([(⟨(⟨#[109, 97, 105]⟩ : BA), 1, 5⟩ : S46)] : List (S46))) := ⟨_, rfl⟩
 replace H : (some (([(⟨(⟨#[98, 97, 115, 101]⟩ : BA), (-1), 0, t264, t267, t270⟩ : S44), (⟨(⟨#[101, 110]⟩ : BA), 0, 0, ([] : List (S46)), t273, ([] : List (S52))⟩ : S44), (⟨(⟨#[97, 114, 45, 49]⟩ : BA), 1, t276, y277, ([] : List (S56)), ([] : List (S52))⟩ : S44)] : List (S44)))) = some r := by first | (rw [hy277]; with_reducible exact H) | (have H2_ := (Option.bind_some _ _).symm.trans H; rw [hy277]; with_reducible exact H2_) | (have H2_ := (Option.bind_some _ _).symm.trans H; with_reducible exact H2_) | with_reducible exact H | (rw [hy277]; exact H) | exact H
 have Ny277 := aM_ hy277
 clear hy277
 obtain ⟨y280, hy280⟩ : ∃ y_ : List (S44), y_ = (([(⟨(⟨#[98, 97, 115, 101]⟩ : BA), (-1), 0, t264, t267, t270⟩ : S44), (⟨(⟨#[101, 110]⟩ : BA), 0, 0, ([] : List (S46)), t273, ([] : List (S52))⟩ : S44), (⟨(⟨#[97, 114, 45, 49]⟩ : BA), 1, t276, y277, ([] : List (S56)), ([] : List (S52))⟩ : S44)] : List (S44))) := ⟨_, rfl⟩
 replace H : (some y280) = some r := by first | (rw [hy280]; with_reducible exact H) | (have H2_ := (Option.bind_some _ _).symm.trans H; rw [hy280]; with_reducible exact H2_) | (have H2_ := (Option.bind_some _ _).symm.trans H; with_reducible exact H2_) | with_reducible exact H | (rw [hy280]; exact H) | exact H
 have Ny280 := aM_ hy280
 clear hy280
 obtain rfl := Option.some.inj H
 go_enter Tryz.func31, Tryz.ntmps31
 go_wp2_with (first | ((with_reducible refine mb_ (f := 71) rfl ?_); refine kd_ (some 5) rfl rfl Tryz.func71 (by kernel_rfl) rfl #[] rfl (by (try simp only [List.map_toArray, List.map_cons, List.map_nil]); first | done | rfl | (simp only [List.length_drop, List.length_take]; rfl)) ?_; (with_reducible refine (l5_words.calls  t264 _ A3.out).mono ?_); rintro e w8 ⟨v265, rfl, ho0, hb⟩; refine ⟨_, rfl, ?_⟩; have n0_ := aM_ (Kd.R_lower (Kd.R_newM (M := fun k_ => (w.heap.size ≤ k_)) ho0 (qa_ (by repeat (first | (with_reducible first | exact HB.out | apply aa_ | apply ca_ | apply ga_) | exact HB.out))) (fun k_ h_ => h_)) (qa_ (by repeat (first | (with_reducible first | exact HB.out | apply aa_ | apply ca_ | apply ga_) | exact HB.out)))); have n1_ := aM_ (fa_ (by repeat (first | (with_reducible first | exact HB.out | apply aa_ | apply ca_ | apply ga_) | exact HB.out)) hb); clear HB; have HO266 := n0_; have HB := n1_; clear n0_ n1_; (try clear hb); (try clear hb2); (try clear hk); (try clear hi); (try clear ho0)) | ((with_reducible refine mb_ (f := 26) rfl ?_); refine kd_ (some 6) rfl rfl Tryz.func26 (by kernel_rfl) rfl #[] rfl (by (try simp only [List.map_toArray, List.map_cons, List.map_nil]); first | done | rfl | (simp only [List.length_drop, List.length_take]; rfl)) ?_; (with_reducible refine (l5_others.calls  t267 _ A4.out).mono ?_); rintro e w9 ⟨v268, rfl, ho0, hb⟩; refine ⟨_, rfl, ?_⟩; have n0_ := aM_ (Kd.R_below (by (with_reducible repeat (first | apply Kd.R_alloc | apply Kd.R_drewN | apply Kd.R_drew)); exact HO266.out) hb); have n1_ := aM_ (Kd.N_lower (Kd.N_mono (ok' := fun k_ => (w.heap.size ≤ k_) ∧ some k_ ≠ (v265 : Value).ownBlock) (Kd.S_N (Kd.S_bound ho0)) (fun k_ hk_ => ⟨(Nat.le_trans (qa_ (by repeat (first | (with_reducible first | exact HB.out | apply aa_ | apply ca_ | apply ga_) | exact HB.out))) hk_.2.1), (Kd.fresh' (Kd.R_lt (by (with_reducible repeat (first | apply Kd.R_alloc | apply Kd.R_drewN | apply Kd.R_drew)); exact HO266.out)) k_ hk_.2.1)⟩)) (qa_ (by repeat (first | (with_reducible first | exact HB.out | apply aa_ | apply ca_ | apply ga_) | exact HB.out)))); have n2_ := aM_ (fa_ (by repeat (first | (with_reducible first | exact HB.out | apply aa_ | apply ca_ | apply ga_) | exact HB.out)) hb); clear HO266; clear HB; have HO266 := n0_; have HO269 := n1_; have HB := n2_; clear n0_ n1_ n2_; (try clear hb); (try clear hb2); (try clear hk); (try clear hi); (try clear ho0)) | ((with_reducible refine mb_ (f := 72) rfl ?_); refine kd_ (some 7) rfl rfl Tryz.func72 (by kernel_rfl) rfl #[] rfl (by (try simp only [List.map_toArray, List.map_cons, List.map_nil]); first | done | rfl | (simp only [List.length_drop, List.length_take]; rfl)) ?_; (with_reducible refine (l5_styles.calls  t270 _ A5.out).mono ?_); rintro e w10 ⟨v271, rfl, ho0, hb⟩; refine ⟨_, rfl, ?_⟩; have n0_ := aM_ (Kd.R_below (by (with_reducible repeat (first | apply Kd.R_alloc | apply Kd.R_drewN | apply Kd.R_drew)); exact HO266.out) hb); have n1_ := aM_ (Kd.N_elder' (by (with_reducible repeat (first | apply Kd.N_alloc | apply Kd.N_drewN | apply Kd.N_drew)); exact HO269.out) (by first | exact Kd.N_base ho0 | exact Kd.N_base (Kd.S_N ho0) | exact Kd.R_base ho0) hb); have n2_ := aM_ (Kd.N_lower (Kd.N_mono (ok' := fun k_ => (w.heap.size ≤ k_) ∧ some k_ ≠ (v265 : Value).ownBlock ∧ some k_ ≠ (v268 : Value).ownBlock) (Kd.S_N (Kd.S_bound ho0)) (fun k_ hk_ => ⟨(Nat.le_trans (qa_ (by repeat (first | (with_reducible first | exact HB.out | apply aa_ | apply ca_ | apply ga_) | exact HB.out))) hk_.2.1), (Kd.fresh' (Kd.R_lt (by (with_reducible repeat (first | apply Kd.R_alloc | apply Kd.R_drewN | apply Kd.R_drew)); exact HO266.out)) k_ hk_.2.1), (Kd.fresh' (Kd.N_lt (by (with_reducible repeat (first | apply Kd.N_alloc | apply Kd.N_drewN | apply Kd.N_drew)); exact HO269.out)) k_ hk_.2.1)⟩)) (qa_ (by repeat (first | (with_reducible first | exact HB.out | apply aa_ | apply ca_ | apply ga_) | exact HB.out)))); have n3_ := aM_ (fa_ (by repeat (first | (with_reducible first | exact HB.out | apply aa_ | apply ca_ | apply ga_) | exact HB.out)) hb); clear HO266; clear HO269; clear HB; have HO266 := n0_; have HO269 := n1_; have HO272 := n2_; have HB := n3_; clear n0_ n1_ n2_ n3_; (try clear hb); (try clear hb2); (try clear hk); (try clear hi); (try clear ho0); obtain ⟨Ao11, co11, eo11⟩ := Kd.N_slice HO272.out; subst eo11; obtain ⟨Ao12, co12, eo12⟩ := Kd.N_slice HO269.out; subst eo12; obtain ⟨Ao13, co13, eo13⟩ := Kd.R_slice HO266.out; subst eo13) | ((with_reducible refine mb_ (f := 27) rfl ?_); refine kd_ (some 10) rfl rfl Tryz.func27 (by kernel_rfl) rfl #[.int .i64 a0] rfl (by (try simp only [List.map_toArray, List.map_cons, List.map_nil]); first | done | rfl | (simp only [List.length_drop, List.length_take]; rfl)) ?_; (with_reducible refine (l5_dates.calls a0 t273 _ A6.out).mono ?_); rintro e w14 ⟨v274, rfl, ho0, hb⟩; refine ⟨_, rfl, ?_⟩; have n0_ := aM_ (Kd.R_below (by (with_reducible repeat (first | apply Kd.R_alloc | apply Kd.R_drewN | apply Kd.R_drew)); exact HO266.out) hb); have n1_ := aM_ (Kd.N_elder' (by (with_reducible repeat (first | apply Kd.N_alloc | apply Kd.N_drewN | apply Kd.N_drew)); exact HO269.out) (by first | exact Kd.N_base ho0 | exact Kd.N_base (Kd.S_N ho0) | exact Kd.R_base ho0) hb); have n2_ := aM_ (Kd.N_elder' (by (with_reducible repeat (first | apply Kd.N_alloc | apply Kd.N_drewN | apply Kd.N_drew)); exact HO272.out) (by first | exact Kd.N_base ho0 | exact Kd.N_base (Kd.S_N ho0) | exact Kd.R_base ho0) hb); have n3_ := aM_ (Kd.N_lower (Kd.N_mono (ok' := fun k_ => (w.heap.size ≤ k_) ∧ some k_ ≠ (.slice Ao13 t264.length co13 : Value).ownBlock ∧ some k_ ≠ (.slice Ao12 t267.length co12 : Value).ownBlock ∧ some k_ ≠ (.slice Ao11 t270.length co11 : Value).ownBlock) (Kd.S_N (Kd.S_bound ho0)) (fun k_ hk_ => ⟨(Nat.le_trans (qa_ (by repeat (first | (with_reducible first | exact HB.out | apply aa_ | apply ca_ | apply ga_) | exact HB.out))) hk_.2.1), (Kd.fresh' (Kd.R_lt (by (with_reducible repeat (first | apply Kd.R_alloc | apply Kd.R_drewN | apply Kd.R_drew)); exact HO266.out)) k_ hk_.2.1), (Kd.fresh' (Kd.N_lt (by (with_reducible repeat (first | apply Kd.N_alloc | apply Kd.N_drewN | apply Kd.N_drew)); exact HO269.out)) k_ hk_.2.1), (Kd.fresh' (Kd.N_lt (by (with_reducible repeat (first | apply Kd.N_alloc | apply Kd.N_drewN | apply Kd.N_drew)); exact HO272.out)) k_ hk_.2.1)⟩)) (qa_ (by repeat (first | (with_reducible first | exact HB.out | apply aa_ | apply ca_ | apply ga_) | exact HB.out)))); have n4_ := aM_ (fa_ (by repeat (first | (with_reducible first | exact HB.out | apply aa_ | apply ca_ | apply ga_) | exact HB.out)) hb); clear HO266; clear HO269; clear HO272; clear HB; have HO266 := n0_; have HO269 := n1_; have HO272 := n2_; have HO275 := n3_; have HB := n4_; clear n0_ n1_ n2_ n3_ n4_; (try clear hb); (try clear hb2); (try clear hk); (try clear hi); (try clear ho0); obtain ⟨Ao15, co15, eo15⟩ := Kd.N_slice HO275.out; subst eo15) | ((with_reducible refine mb_ (f := 19) rfl ?_); refine kd_ (some 13) rfl rfl Tryz.func19 (by kernel_rfl) rfl #[.int .i64 a1, .int .i64 4] rfl (by (try simp only [List.map_toArray, List.map_cons, List.map_nil]); first | done | rfl | (simp only [List.length_drop, List.length_take]; rfl)) ?_; (with_reducible refine (l5_within.calls a1 4 t276 _ A7.out).mono ?_); rintro e w' ⟨rfl, ⟨nd, rfl⟩⟩; refine ⟨_, rfl, ?_⟩) | ((with_reducible refine ld_ (N := 15) rfl ?_); refine Kd.R_lit k46 _ 46 ?hg (N := 15) ?hd (xs := ([(⟨(⟨#[109, 97, 105]⟩ : BA), 1, 5⟩ : S46)] : List (S46))) (inner := [.string (⟨#[109, 97, 105]⟩ : BA), .int .i64 1, .int .i64 5]) (ok := fun _ => True) (okp := fun _ => True) ?hr ?hp (fun _ hk => hk) trivial (Below.refl _ _) (Nat.le_refl _) (by simp) ?_; (case hd => rfl); (case hg => rfl); (case hr => first | (go_simp; done) | (go_simp; rfl)); (case hp => exact (Reps.c3 (show Kd.M k46 _ _ _ (⟨(⟨#[109, 97, 105]⟩ : BA), 1, 5⟩ : S46) [.string (⟨#[109, 97, 105]⟩ : BA), .int .i64 1, .int .i64 5] from (oc_ _ _ _ (⟨(⟨#[109, 97, 105]⟩ : BA), 1, 5⟩ : S46) )) (Reps.none _ _))); intro v278 w16 ho17 hb hg_ hnew_; clear hg_ hnew_; (first | rw [← Ny277.out] at ho17 | (simp only [Int.reduceToNat] at ho17; rw [← Ny277.out] at ho17)); have n0_ := aM_ (Kd.R_elder' (by (with_reducible repeat (first | apply Kd.R_alloc | apply Kd.R_drewN | apply Kd.R_drew)); exact HO266.out) (Kd.R_base ho17) hb); have n1_ := aM_ (Kd.N_elder' (by (with_reducible repeat (first | apply Kd.N_alloc | apply Kd.N_drewN | apply Kd.N_drew)); exact HO269.out) (Kd.R_base ho17) hb); have n2_ := aM_ (Kd.N_elder' (by (with_reducible repeat (first | apply Kd.N_alloc | apply Kd.N_drewN | apply Kd.N_drew)); exact HO272.out) (Kd.R_base ho17) hb); have n3_ := aM_ (Kd.N_elder' (by (with_reducible repeat (first | apply Kd.N_alloc | apply Kd.N_drewN | apply Kd.N_drew)); exact HO275.out) (Kd.R_base ho17) hb); have n4_ := aM_ (Kd.R_lower (Kd.R_new' (Kd.R_newM (M := fun k_ => (w.heap.size ≤ k_)) ho17 (qa_ (by repeat (first | (with_reducible first | exact HB.out | apply aa_ | apply ca_ | apply ga_) | exact HB.out))) (fun k_ h_ => h_)) (Kd.R_lt (by (with_reducible repeat (first | apply Kd.R_alloc | apply Kd.R_drewN | apply Kd.R_drew)); exact HO266.out))) (qa_ (by repeat (first | (with_reducible first | exact HB.out | apply aa_ | apply ca_ | apply ga_) | exact HB.out)))); have n5_ := aM_ (fa_ (by repeat (first | (with_reducible first | exact HB.out | apply aa_ | apply ca_ | apply ga_) | exact HB.out)) hb); clear HO266; clear HO269; clear HO272; clear HO275; clear HB; have HO266 := n0_; have HO269 := n1_; have HO272 := n2_; have HO275 := n3_; have HO279 := n4_; have HB := n5_; clear n0_ n1_ n2_ n3_ n4_ n5_; clear hb ho17; obtain ⟨Ao18, co18, eo18⟩ := Kd.R_slice HO279.out; subst eo18) | ((with_reducible refine ld_ (N := 17) rfl ?_); refine Kd.N_lit k44 _ 44 ?hg (N' := 17) ?hd (xs := ([(⟨(⟨#[98, 97, 115, 101]⟩ : BA), (-1), 0, t264, t267, t270⟩ : S44), (⟨(⟨#[101, 110]⟩ : BA), 0, 0, ([] : List (S46)), t273, ([] : List (S52))⟩ : S44), (⟨(⟨#[97, 114, 45, 49]⟩ : BA), 1, t276, y277, ([] : List (S56)), ([] : List (S52))⟩ : S44)] : List (S44))) (inner := [.string (⟨#[98, 97, 115, 101]⟩ : BA), .int .i64 (-1), .int .i64 0, .slice Ao13 t264.length co13, .slice Ao12 t267.length co12, .slice Ao11 t270.length co11, .string (⟨#[101, 110]⟩ : BA), .int .i64 0, .int .i64 0, .slice none 0 0, .slice Ao15 t273.length co15, .slice none 0 0, .string (⟨#[97, 114, 45, 49]⟩ : BA), .int .i64 1, .int .i64 t276, .slice Ao18 y277.length co18, .slice none 0 0, .slice none 0 0]) (ok := (fun k_ => (w.heap.size ≤ k_))) (okp := (fun k_ => (w.heap.size ≤ k_))) ?hr ?hp (fun _ hk => hk) ((show ∀ k_, w16.heap.size ≤ k_ → (fun k_ => (w.heap.size ≤ k_)) k_ from fun k_ hk => (Nat.le_trans (qa_ (by repeat (first | (with_reducible first | exact HB.out | apply aa_ | apply ca_ | apply ga_) | exact HB.out))) hk)) _ (Nat.le_refl _)) (Below.refl _ _) (Nat.le_refl _) (by simp) ?_; (case hd => rfl); (case hg => rfl); (case hr => first | (go_simp; done) | (go_simp; rfl)); (case hp => exact (Reps.c6 (show Kd.FK k44 _ _ (⟨(⟨#[98, 97, 115, 101]⟩ : BA), (-1), 0, t264, t267, t270⟩ : S44) [.string (⟨#[98, 97, 115, 101]⟩ : BA), .int .i64 (-1), .int .i64 0, .slice Ao13 t264.length co13, .slice Ao12 t267.length co12, .slice Ao11 t270.length co11] from (ml_ _ _ (⟨(⟨#[98, 97, 115, 101]⟩ : BA), (-1), 0, t264, t267, t270⟩ : S44) (Kd.R_reads' (Kd.R_mono (ok' := (fun k_ => (w.heap.size ≤ k_))) (HO266.out) (fun k_ hk => hk.1.1))).2.1 (Kd.R_F (Kd.R_mono (ok' := (fun k_ => (w.heap.size ≤ k_))) (HO266.out) (fun k_ hk => hk.1.1))) (Kd.N_reads' (Kd.N_mono (ok' := (fun k_ => (w.heap.size ≤ k_))) (HO269.out) (fun k_ hk => hk.1.1.1.1))).2.1 (Kd.N_F (Kd.N_mono (ok' := (fun k_ => (w.heap.size ≤ k_))) (HO269.out) (fun k_ hk => hk.1.1.1.1))) (Kd.N_reads' (Kd.N_mono (ok' := (fun k_ => (w.heap.size ≤ k_))) (HO272.out) (fun k_ hk => hk.1.1.1))).2.1 (Kd.N_F (Kd.N_mono (ok' := (fun k_ => (w.heap.size ≤ k_))) (HO272.out) (fun k_ hk => hk.1.1.1))))) (Reps.c6 (show Kd.FK k44 _ _ (⟨(⟨#[101, 110]⟩ : BA), 0, 0, ([] : List (S46)), t273, ([] : List (S52))⟩ : S44) [.string (⟨#[101, 110]⟩ : BA), .int .i64 0, .int .i64 0, .slice none 0 0, .slice Ao15 t273.length co15, .slice none 0 0] from (ml_ _ _ (⟨(⟨#[101, 110]⟩ : BA), 0, 0, ([] : List (S46)), t273, ([] : List (S52))⟩ : S44) (Nat.le_refl _) (Kd.F_nil _ _ _) (Kd.N_reads' (Kd.N_mono (ok' := (fun k_ => (w.heap.size ≤ k_))) (HO275.out) (fun k_ hk => hk.1.1))).2.1 (Kd.N_F (Kd.N_mono (ok' := (fun k_ => (w.heap.size ≤ k_))) (HO275.out) (fun k_ hk => hk.1.1))) (Nat.le_refl _) (Kd.F_nil _ _ _))) (Reps.c6 (show Kd.FK k44 _ _ (⟨(⟨#[97, 114, 45, 49]⟩ : BA), 1, t276, y277, ([] : List (S56)), ([] : List (S52))⟩ : S44) [.string (⟨#[97, 114, 45, 49]⟩ : BA), .int .i64 1, .int .i64 t276, .slice Ao18 y277.length co18, .slice none 0 0, .slice none 0 0] from (ml_ _ _ (⟨(⟨#[97, 114, 45, 49]⟩ : BA), 1, t276, y277, ([] : List (S56)), ([] : List (S52))⟩ : S44) (Kd.R_reads' (Kd.R_mono (ok' := (fun k_ => (w.heap.size ≤ k_))) (HO279.out) (fun k_ hk => hk.1.1))).2.1 (Kd.R_F (Kd.R_mono (ok' := (fun k_ => (w.heap.size ≤ k_))) (HO279.out) (fun k_ hk => hk.1.1))) (Nat.le_refl _) (Kd.F_nil _ _ _) (Nat.le_refl _) (Kd.F_nil _ _ _))) (Reps.none _ _))))); intro v281 w19 ho20 hb hg_ hnew_; clear hg_ hnew_; (first | rw [← Ny280.out] at ho20 | (simp only [Int.reduceToNat] at ho20; rw [← Ny280.out] at ho20)); have n0_ := aM_ (Kd.N_lower ho20 (qa_ (by repeat (first | (with_reducible first | exact HB.out | apply aa_ | apply ca_ | apply ga_) | exact HB.out)))); have n1_ := aM_ (fa_ (by repeat (first | (with_reducible first | exact HB.out | apply aa_ | apply ca_ | apply ga_) | exact HB.out)) hb); clear HB; clear HO266; clear HO269; clear HO272; clear HO275; clear HO279; have HO282 := n0_; have HB := n1_; clear n0_ n1_; clear hb ho20))
 go_ret
 exact ⟨_, by first | rfl | (simp [eb_, db_] <;> rfl) | (simp [*, eb_, db_] <;> rfl), by (with_reducible repeat (first | apply Kd.N_alloc | apply Kd.N_drewN | apply Kd.N_drew)); exact HO282.out, by repeat (first | (with_reducible first | exact HB.out | apply aa_ | apply ca_ | apply ga_) | exact HB.out)⟩
noncomputable def l4_Few.l0 : Nat → List (S120) → Int → Option (Bool)
 | 0, _, _ => none
 | k + 1, x0, x3 => if x3 < (x0.length : Int) then (if 0 ≤ x3 then (if (((ta_ x0 x3).f3).length : Int) > 20 then (some false) else (if (((ta_ x0 x3).f4).length : Int) > 20 then (some false) else (l4_Few.l0 k x0 (wrap64 (x3 + 1))))) else (none)) else (some (decide ((x0.length : Int) ≤ 80)))
noncomputable def l4_Few.f (k : Nat) (l0 : List (S120)) : Option (Bool) := l4_Few.l0 k l0 0
theorem l4_Few.calls (k : Nat) (A0 : Option Addr) (c0 : Nat) (l0 : List (S120)) (r : Bool) (w : World) (hr0 : Kd.C k120 w A0 l0.length l0) (hc0 : l0.length ≤ c0) (h : l4_Few.f k l0 = some r) :
  Calls Tryz.prog 30 #[.slice A0 l0.length c0] w fun e w' => e = .returned (.bool r) ∧ Drawn0 w w' := by
 have HR0 := aM_ hr0
 have HC0 := aM_ hc0
 clear hr0 hc0
 have H : (l4_Few.l0 k l0 0) = some r := h
 clear h
 have H' := aM_ H
 clear H
 go_enter Tryz.func30, Tryz.ntmps30
 go_wp2
 go_loopg [3] k (fun kq v3 w' => ∃ (x3_1 : Int), v3 = .int .i64 x3_1 ∧ Az (l4_Few.l0 kq l0 x3_1 = some r) ∧ Az (kq ≤ k) ∧ Drawn0 w w')
 case atStart => exact ⟨(0), (by first | rfl | (simp; done) | (simp [*]; done)), H', ⟨Nat.le_refl _⟩, by repeat (first | exact Drawn0.refl _ | apply Drawn0.step)⟩
 clear H'
 obtain ⟨x3_1, rfl, HA, HK1, ⟨m1, rfl⟩⟩ := hrel
 cases gk with
 | zero => exact absurd HA.out (by simp [l4_Few.l0])
 | succ k1 =>
  have H := HA.out; clear HA; simp only [l4_Few.l0] at H
  by_cases c2 : x3_1 < (l0.length : Int)
  ·rw [if_pos c2] at H
   have c2b0 : decide (x3_1 < (l0.length : Int)) = true := decide_eq_true c2; clear c2
   by_cases c3 : 0 ≤ x3_1
   ·rw [if_pos c3] at H
    have c3b0 : decide (0 ≤ x3_1) = true := decide_eq_true c3; clear c3
    by_cases c4 : (((ta_ l0 x3_1).f3).length : Int) > 20
    ·rw [if_pos c4] at H
     have c4b0 : decide (20 < (((ta_ l0 x3_1).f3).length : Int)) = true := decide_eq_true c4; have c4b1 : decide (20 < ((ta_ l0 x3_1).f3).length) = true := decide_eq_true (by omega); clear c4; obtain rfl := Option.some.inj H; have p255 : 0 ≤ (x3_1 : Int) := of_decide_eq_true (by first | (with_reducible assumption) | assumption); have q255 : x3_1 < (l0.length : Int) := of_decide_eq_true (by first | (with_reducible assumption) | assumption); obtain ⟨ad255, A255_3, c255_3, A255_4, c255_4, e255, hx255_0, hx255_1, hx255_2, hx255_3, hx255_4, hl255_3, hi255_3, hl255_4, hi255_4⟩ := hh_ HR0.out x3_1 p255 q255
     cases e255
     have HR255_3 := aM_ hi255_3; have HC255_3 := aM_ hl255_3; clear hi255_3 hl255_3; have HR255_4 := aM_ hi255_4; have HC255_4 := aM_ hl255_4; clear hi255_4 hl255_4; replace p255 := eq_true p255; replace q255 := eq_true q255
     go_wp2
     go_ret
     exact ⟨by first | rfl | (simp; done) | (simp [*]; done), by repeat (first | exact Drawn0.refl _ | apply Drawn0.step)⟩
    rw [if_neg c4] at H; have c4b0 : decide (20 < (((ta_ l0 x3_1).f3).length : Int)) = false := decide_eq_false c4; have c4b1 : decide (20 < ((ta_ l0 x3_1).f3).length) = false := decide_eq_false (by omega); clear c4
    by_cases c5 : (((ta_ l0 x3_1).f4).length : Int) > 20
    ·rw [if_pos c5] at H
     have c5b0 : decide (20 < (((ta_ l0 x3_1).f4).length : Int)) = true := decide_eq_true c5; have c5b1 : decide (20 < ((ta_ l0 x3_1).f4).length) = true := decide_eq_true (by omega); clear c5; obtain rfl := Option.some.inj H; have p255 : 0 ≤ (x3_1 : Int) := of_decide_eq_true (by first | (with_reducible assumption) | assumption); have q255 : x3_1 < (l0.length : Int) := of_decide_eq_true (by first | (with_reducible assumption) | assumption); obtain ⟨ad255, A255_3, c255_3, A255_4, c255_4, e255, hx255_0, hx255_1, hx255_2, hx255_3, hx255_4, hl255_3, hi255_3, hl255_4, hi255_4⟩ := hh_ HR0.out x3_1 p255 q255
     cases e255
     have HR255_3 := aM_ hi255_3; have HC255_3 := aM_ hl255_3; clear hi255_3 hl255_3; have HR255_4 := aM_ hi255_4; have HC255_4 := aM_ hl255_4; clear hi255_4 hl255_4; replace p255 := eq_true p255; replace q255 := eq_true q255; have p256 : 0 ≤ (x3_1 : Int) := of_decide_eq_true (by first | (with_reducible assumption) | assumption); have q256 : x3_1 < (l0.length : Int) := of_decide_eq_true (by first | (with_reducible assumption) | assumption); obtain ⟨ad256, A256_3, c256_3, A256_4, c256_4, e256, hx256_0, hx256_1, hx256_2, hx256_3, hx256_4, hl256_3, hi256_3, hl256_4, hi256_4⟩ := hh_ HR0.out x3_1 p256 q256; obtain rfl : ad255 = ad256 := (by injection e256); have HR256_3 := aM_ hi256_3; have HC256_3 := aM_ hl256_3; clear hi256_3 hl256_3; have HR256_4 := aM_ hi256_4; have HC256_4 := aM_ hl256_4; clear hi256_4 hl256_4; replace p256 := eq_true p256; replace q256 := eq_true q256; have ea_ := Option.some.inj (hx255_3.symm.trans hx256_3); injection ea_ with ea_ en_ ec_; subst ea_; subst ec_; clear en_; have ea_ := Option.some.inj (hx255_4.symm.trans hx256_4); injection ea_ with ea_ en_ ec_; subst ea_; subst ec_; clear en_
     go_wp2
     go_ret
     exact ⟨by first | rfl | (simp; done) | (simp [*]; done), by repeat (first | exact Drawn0.refl _ | apply Drawn0.step)⟩
    rw [if_neg c5] at H; have c5b0 : decide (20 < (((ta_ l0 x3_1).f4).length : Int)) = false := decide_eq_false c5; have c5b1 : decide (20 < ((ta_ l0 x3_1).f4).length) = false := decide_eq_false (by omega); clear c5; have H' := aM_ H; clear H; have p255 : 0 ≤ (x3_1 : Int) := of_decide_eq_true (by first | (with_reducible assumption) | assumption); have q255 : x3_1 < (l0.length : Int) := of_decide_eq_true (by first | (with_reducible assumption) | assumption); obtain ⟨ad255, A255_3, c255_3, A255_4, c255_4, e255, hx255_0, hx255_1, hx255_2, hx255_3, hx255_4, hl255_3, hi255_3, hl255_4, hi255_4⟩ := hh_ HR0.out x3_1 p255 q255
    cases e255
    have HR255_3 := aM_ hi255_3; have HC255_3 := aM_ hl255_3; clear hi255_3 hl255_3; have HR255_4 := aM_ hi255_4; have HC255_4 := aM_ hl255_4; clear hi255_4 hl255_4; replace p255 := eq_true p255; replace q255 := eq_true q255; have p256 : 0 ≤ (x3_1 : Int) := of_decide_eq_true (by first | (with_reducible assumption) | assumption); have q256 : x3_1 < (l0.length : Int) := of_decide_eq_true (by first | (with_reducible assumption) | assumption); obtain ⟨ad256, A256_3, c256_3, A256_4, c256_4, e256, hx256_0, hx256_1, hx256_2, hx256_3, hx256_4, hl256_3, hi256_3, hl256_4, hi256_4⟩ := hh_ HR0.out x3_1 p256 q256; obtain rfl : ad255 = ad256 := (by injection e256); have HR256_3 := aM_ hi256_3; have HC256_3 := aM_ hl256_3; clear hi256_3 hl256_3; have HR256_4 := aM_ hi256_4; have HC256_4 := aM_ hl256_4; clear hi256_4 hl256_4; replace p256 := eq_true p256; replace q256 := eq_true q256; have ea_ := Option.some.inj (hx255_3.symm.trans hx256_3); injection ea_ with ea_ en_ ec_; subst ea_; subst ec_; clear en_; have ea_ := Option.some.inj (hx255_4.symm.trans hx256_4); injection ea_ with ea_ en_ ec_; subst ea_; subst ec_; clear en_
    go_wp2
    go_roundg k1
    case measure => have := HK1.out; omega
    case rel => exact ⟨(wrap64 (x3_1 + 1)), (by first | rfl | (simp; done) | (simp [*]; done)), H', ⟨by have := HK1.out; omega⟩, by repeat (first | exact Drawn0.refl _ | apply Drawn0.step)⟩
   rw [if_neg c3] at H; exact absurd H (by simp)
  rw [if_neg c2] at H; have c2b0 : decide (x3_1 < (l0.length : Int)) = false := decide_eq_false c2; clear c2; obtain rfl := Option.some.inj H
  go_wp2
  go_ret
  exact ⟨by first | rfl | (simp; done) | (simp [*]; done), by repeat (first | exact Drawn0.refl _ | apply Drawn0.step)⟩
noncomputable def l5_Shape_Few.f (k : Nat) (a0_0 : Int) (a0_1 : Int) (a0_2 : Int) (a0_3 : Int) (l0_4 : List (S120)) (a0_5 : Bool) : Option (Bool) := (l4_Few.f k l0_4).bind fun t258 => (if t258 = true then (some (decide ((l0_4.length : Int) ≤ 12))) else (some false))
theorem l5_Shape_Few.calls (k : Nat) (a0_0 : Int) (a0_1 : Int) (a0_2 : Int) (a0_3 : Int) (A0_4 : Option Addr) (c0_4 : Nat) (l0_4 : List (S120)) (a0_5 : Bool) (r : Bool) (w : World) (hr0_4 : Kd.C k120 w A0_4 l0_4.length l0_4) (hc0_4 : l0_4.length ≤ c0_4) (h : l5_Shape_Few.f k a0_0 a0_1 a0_2 a0_3 l0_4 a0_5 = some r) :
  Calls Tryz.prog 12 #[.agg #[.int .i64 a0_0, .int .i64 a0_1, .int .i64 a0_2, .int .i64 a0_3, .slice A0_4 l0_4.length c0_4, .bool a0_5]] w fun e w' => e = .returned (.bool r) ∧ Below w.heap.size w w' := by
 have hu24 := Tryz.underlying24
 have HR0_4 := aM_ hr0_4
 have HC0_4 := aM_ hc0_4
 clear hr0_4 hc0_4
 have HB := aM_ (Below.refl w.heap.size w)
 have H : ((l4_Few.f k l0_4).bind fun t258 => (if t258 = true then (some (decide ((l0_4.length : Int) ≤ 12))) else (some false))) = some r := h
 clear h
 replace H := Option.bind_eq_some_iff.mp H
 obtain ⟨t258, A20, H⟩ := H
 replace H : (if t258 = true then (some (decide ((l0_4.length : Int) ≤ 12))) else (some false)) = some r := H
 have A2 := aM_ A20
 clear A20
 by_cases c3 : t258 = true
 ·subst c3
  have H1 : (some (decide ((l0_4.length : Int) ≤ 12))) = some r := by rw [if_pos rfl] at H; exact H
  clear H; have H := H1; clear H1; obtain rfl := Option.some.inj H
  go_enter Tryz.func12, Tryz.ntmps12
  go_wp2_with (first | ((with_reducible refine ld_ (N := 1) rfl ?_); (try (refine wf_ (by rfl) ?_; dsimp only)); refine te_ ?hg (N := 1) ?hd (cs := #[.int .i64 a0_0, .int .i64 a0_1, .int .i64 a0_2, .int .i64 a0_3, .slice A0_4 l0_4.length c0_4, .bool a0_5]) (t := 24) ?hr ?_; (case hd => rfl); (case hg => rfl); (case hr => first | (go_simp; done) | (go_simp; rfl)); intro gb257 hg w4 hbox hb; have n0_ := aM_ (fa_ (by repeat (first | (with_reducible first | exact HB.out | apply aa_ | apply ca_ | apply ga_) | exact HB.out)) hb); have n1_ := aM_ (hbox); have n2_ := aM_ ((by rw [hg]; exact (qa_ (by repeat (first | (with_reducible first | exact HB.out | apply aa_ | apply ca_ | apply ga_) | exact HB.out))) : w.heap.size ≤ gb257)); have n3_ := aM_ ((by rw [hg]; exact (qa_ (by repeat (first | (with_reducible first | exact HB.out | apply aa_ | apply ca_ | apply ga_) | exact HB.out))) : w.heap.size ≤ gb257)); clear HB; have HB := n0_; have BK257 := n1_; have GW257 := n2_; have GE257 := n3_; clear n0_ n1_ n2_ n3_; clear hb hbox hg; have hcz5_0 : w4.cell? ⟨gb257, 0, none⟩ = some (.int .i64 a0_0) := (ba_ BK257.out 0).trans rfl; have hcz5_1 : w4.cell? ⟨gb257, 1, none⟩ = some (.int .i64 a0_1) := (ba_ BK257.out 1).trans rfl; have hcz5_2 : w4.cell? ⟨gb257, 2, none⟩ = some (.int .i64 a0_2) := (ba_ BK257.out 2).trans rfl; have hcz5_3 : w4.cell? ⟨gb257, 3, none⟩ = some (.int .i64 a0_3) := (ba_ BK257.out 3).trans rfl; have hcz5_4 : w4.cell? ⟨gb257, 4, none⟩ = some (.slice A0_4 l0_4.length c0_4) := (ba_ BK257.out 4).trans rfl; have hcz5_5 : w4.cell? ⟨gb257, 5, none⟩ = some (.bool a0_5) := (ba_ BK257.out 5).trans rfl; have hfz5_0 := da_ BK257.out 0; have hfz5_1 := da_ BK257.out 1; have hfz5_2 := da_ BK257.out 2; have hfz5_3 := da_ BK257.out 3; have hfz5_4 := da_ BK257.out 4; have hfz5_5 := da_ BK257.out 5) | ((with_reducible refine mb_ (f := 30) rfl ?_); refine kd_ (some 5) rfl rfl Tryz.func30 (by kernel_rfl) rfl #[.slice A0_4 l0_4.length c0_4] rfl (by (try simp only [List.map_toArray, List.map_cons, List.map_nil]); first | done | rfl | (simp only [List.length_drop, List.length_take]; rfl)) ?_; (with_reducible refine (l4_Few.calls k _ _ l0_4 true _ ?side1 ?side2 A2.out).mono ?_); (case side1 => repeat (first | exact (Kd.C_below HR0_4.out HB.out) | (with_reducible refine Kd.C_alloc ?_ _) | (with_reducible refine Kd.C_drewN ?_ _) | (with_reducible refine Kd.C_drew ?_))); (case side2 => exact HC0_4.out); rintro e w' ⟨rfl, ⟨nd, rfl⟩⟩; refine ⟨_, rfl, ?_⟩))
  go_ret
  exact ⟨by first | rfl | (simp [eb_, db_] <;> rfl) | (simp [*, eb_, db_] <;> rfl), by repeat (first | (with_reducible first | exact HB.out | apply aa_ | apply ca_ | apply ga_ | refine na_ ?_ GE257.out) | exact HB.out)⟩
 replace c3 := Bool.eq_false_iff.mpr c3
 subst c3
 have H1 : (some false) = some r := by rw [if_neg (show ¬ (false = true) by decide)] at H; exact H
 clear H
 have H := H1
 clear H1
 obtain rfl := Option.some.inj H
 go_enter Tryz.func12, Tryz.ntmps12
 go_wp2_with (first | ((with_reducible refine ld_ (N := 1) rfl ?_); (try (refine wf_ (by rfl) ?_; dsimp only)); refine te_ ?hg (N := 1) ?hd (cs := #[.int .i64 a0_0, .int .i64 a0_1, .int .i64 a0_2, .int .i64 a0_3, .slice A0_4 l0_4.length c0_4, .bool a0_5]) (t := 24) ?hr ?_; (case hd => rfl); (case hg => rfl); (case hr => first | (go_simp; done) | (go_simp; rfl)); intro gb257 hg w6 hbox hb; have n0_ := aM_ (fa_ (by repeat (first | (with_reducible first | exact HB.out | apply aa_ | apply ca_ | apply ga_) | exact HB.out)) hb); have n1_ := aM_ (hbox); have n2_ := aM_ ((by rw [hg]; exact (qa_ (by repeat (first | (with_reducible first | exact HB.out | apply aa_ | apply ca_ | apply ga_) | exact HB.out))) : w.heap.size ≤ gb257)); have n3_ := aM_ ((by rw [hg]; exact (qa_ (by repeat (first | (with_reducible first | exact HB.out | apply aa_ | apply ca_ | apply ga_) | exact HB.out))) : w.heap.size ≤ gb257)); clear HB; have HB := n0_; have BK257 := n1_; have GW257 := n2_; have GE257 := n3_; clear n0_ n1_ n2_ n3_; clear hb hbox hg; have hcz7_0 : w6.cell? ⟨gb257, 0, none⟩ = some (.int .i64 a0_0) := (ba_ BK257.out 0).trans rfl; have hcz7_1 : w6.cell? ⟨gb257, 1, none⟩ = some (.int .i64 a0_1) := (ba_ BK257.out 1).trans rfl; have hcz7_2 : w6.cell? ⟨gb257, 2, none⟩ = some (.int .i64 a0_2) := (ba_ BK257.out 2).trans rfl; have hcz7_3 : w6.cell? ⟨gb257, 3, none⟩ = some (.int .i64 a0_3) := (ba_ BK257.out 3).trans rfl; have hcz7_4 : w6.cell? ⟨gb257, 4, none⟩ = some (.slice A0_4 l0_4.length c0_4) := (ba_ BK257.out 4).trans rfl; have hcz7_5 : w6.cell? ⟨gb257, 5, none⟩ = some (.bool a0_5) := (ba_ BK257.out 5).trans rfl; have hfz7_0 := da_ BK257.out 0; have hfz7_1 := da_ BK257.out 1; have hfz7_2 := da_ BK257.out 2; have hfz7_3 := da_ BK257.out 3; have hfz7_4 := da_ BK257.out 4; have hfz7_5 := da_ BK257.out 5) | ((with_reducible refine mb_ (f := 30) rfl ?_); refine kd_ (some 5) rfl rfl Tryz.func30 (by kernel_rfl) rfl #[.slice A0_4 l0_4.length c0_4] rfl (by (try simp only [List.map_toArray, List.map_cons, List.map_nil]); first | done | rfl | (simp only [List.length_drop, List.length_take]; rfl)) ?_; (with_reducible refine (l4_Few.calls k _ _ l0_4 false _ ?side1 ?side2 A2.out).mono ?_); (case side1 => repeat (first | exact (Kd.C_below HR0_4.out HB.out) | (with_reducible refine Kd.C_alloc ?_ _) | (with_reducible refine Kd.C_drewN ?_ _) | (with_reducible refine Kd.C_drew ?_))); (case side2 => exact HC0_4.out); rintro e w' ⟨rfl, ⟨nd, rfl⟩⟩; refine ⟨_, rfl, ?_⟩))
 go_ret
 exact ⟨by first | rfl | (simp [eb_, db_] <;> rfl) | (simp [*, eb_, db_] <;> rfl), by repeat (first | (with_reducible first | exact HB.out | apply aa_ | apply ca_ | apply ga_ | refine na_ ?_ GE257.out) | exact HB.out)⟩
def okI (n : Int) : Prop := -9223372036854775808 ≤ n ∧ n ≤ 9223372036854775807
def okEnt (e : S46) : Prop := e.f0.size ≤ 9223372036854775807 ∧ okI e.f1 ∧ okI e.f2
def okPart (x : S48) : Prop := okI x.f0 ∧ x.f1.size ≤ 9223372036854775807 ∧ okI x.f2 ∧ okI x.f3 ∧ okI x.f4
def xr_ (l : List Int) : Prop := l.length ≤ 9223372036854775807 ∧ ∀ n ∈ l, okI n
def okRule (x : S56) : Prop := okI x.f0 ∧ xr_ x.f1 ∧ okI x.f2.f0 ∧ xr_ x.f2.f1 ∧ okI x.f3
def lt_ (x : S52) : Prop := okI x.f0 ∧ x.f1.length ≤ 9223372036854775807 ∧ ∀ y ∈ x.f1, okPart y
def okLoc8 (x : S44) : Prop := x.f0.size ≤ 9223372036854775807 ∧ okI x.f1 ∧ okI x.f2 ∧ (x.f3.length ≤ 9223372036854775807 ∧ ∀ y ∈ x.f3, okEnt y) ∧ (x.f4.length ≤ 9223372036854775807 ∧ ∀ y ∈ x.f4, okRule y) ∧ (x.f5.length ≤ 9223372036854775807 ∧ ∀ y ∈ x.f5, lt_ y)
theorem tc_ (a n : Int) (hn : 0 < n) (hn2 : n ≤ 4611686018427387904) : l4_within.f a n = some (a % n) := by
 unfold l4_within.f
 have h1 := Int.emod_nonneg a (by omega : n ≠ 0)
 have h2 := Int.emod_lt_of_pos a hn
 have h4 : (n.natAbs : Int) = n := by omega
 rw [if_neg (by omega)]
 have h3 := @Int.tmod_eq_emod a n
 by_cases hd : 0 ≤ a ∨ n ∣ a
 ·rw [if_pos hd] at h3
  rw [if_neg (by omega), h3]
  congr 1
  omega
 rw [if_neg hd, h4] at h3
 rw [if_pos (by omega), h3]
 congr 1
 unfold wrap64
 omega
theorem bh_ (a n : Int) (hn : 0 < n) : 0 ≤ a % n := Int.emod_nonneg a (by omega)
theorem ah_ (a n : Int) (hn : 0 < n) : a % n < n := Int.emod_lt_of_pos a hn
theorem as_fin {x n : Int} (m : Nat) (hm : n = m) (h0 : 0 ≤ x) (h1 : x < n) : ∃ i : Fin m, x = ((i.val : Nat) : Int) := ⟨⟨x.toNat, by omega⟩, by simp; omega⟩
def si_ (P : Program) (t : TypeId) {α : Type} (d : Kd α) (ok : α → Prop) : Prop :=
 P.cellsOf t = d.sz ∧ ∀ (H : Type) (enc : TypeId × Value → H) (W : World) (base : Nat) (spare : Nat → Bool) (held : Bool) (fuel : Nat) (cs : List Value) (x : DataW H × List MemPlace), DataW.trod enc P W base spare held fuel t cs = some x → ∃ v : α, d.K W v cs ∧ ok v
theorem ku_ {P : Program} {t : TypeId} {k : IntKind} (ht : P.underlying t = some (.int k)) (hc : P.cellsOf t = 1) : si_ P t (Kd.int k) (fun n => (Lit.int k n).wf = true) := by
 refine ⟨hc, fun H enc W base spare held fuel cs x h => ?_⟩
 obtain ⟨n, rfl, _, hw⟩ := DataW.trod_int ht h
 exact ⟨n, rfl, hw⟩
theorem nt_ {α : Type} {p : Nat → α → Prop} : ∀ n : Nat, (∀ i, i < n → ∃ v, p i v) → ∃ xs : List α, xs.length = n ∧ ∀ i v, xs[i]? = some v → p i v
 | 0, _ => ⟨[], rfl, fun i v h => by simp at h⟩
 | n + 1, h => by
  obtain ⟨xs, hl, hx⟩ := nt_ n (fun i hi => h i (by omega)); obtain ⟨v, hv⟩ := h n (by omega); refine ⟨xs ++ [v], by rw [List.length_append, hl]; rfl, fun i u hu => ?_⟩
  by_cases hi : i < xs.length
  ·rw [List.getElem?_append_left hi] at hu
   exact hx i u hu
  rw [List.getElem?_append_right (by omega)] at hu
  have h0 : i - xs.length = 0 := by
   have := (List.getElem?_eq_some_iff.1 hu).1; simp at this; omega
  rw [h0] at hu; obtain rfl := Option.some.inj hu; have : i = n := by omega
  rw [this]; exact hv
theorem zk_ {P : Program} {t e : TypeId} {α : Type} {d : Kd α} {ok : α → Prop} (ht : P.underlying t = some (.slice e)) (hc : P.cellsOf t = 1) (h : si_ P e d ok) : si_ P t (Kd.slice e d) (fun xs => ∀ x ∈ xs, ok x) := by
 refine ⟨hc, fun H enc W base spare held fuel cs x hx => ?_⟩
 rcases Go.Deep.open_slice ht hx with ⟨rfl, _⟩ | ⟨a, len, cap, m, n, D, Pl, rfl, _, hl, hm, hmm, _, hel⟩
 ·exact ⟨[], ⟨none, 0, rfl, Nat.le_refl _, rfl, by simp, fun h => absurd h (Nat.lt_irrefl _)⟩, by simp⟩
 have hle : len ≤ m := by rw [hmm]; split <;> omega
 obtain ⟨xs, hxl, hxs⟩ := nt_ (p := fun i v => ∃ cs', W.cells? base (a.add (i * d.sz)) d.sz = some cs' ∧ d.K W v cs' ∧ ok v) len (fun i hi => by
  obtain ⟨cs', h1, h2⟩ := hel i (by omega); obtain ⟨v, h3, h4⟩ := h.2 H enc W base spare held n cs' _ h2; rw [h.1] at h1
  exact ⟨v, cs', h1, h3, h4⟩)
 have hmax : maxLen ≤ 9223372036854775807 := by decide
 refine ⟨xs, ⟨some a, cap, by rw [hxl], by omega, rfl, by omega, fun _ => ⟨a, rfl, fun j p hj => ?_⟩⟩, fun y hy => ?_⟩
 ·obtain ⟨cs', h1, h2, _⟩ := hxs j p hj
  obtain ⟨_, h3, h4⟩ := World.cells?_some h1; refine ⟨cs', h3, h2, fun i u hu => ?_⟩; have h5 := h4 i (by rw [← h3]; exact (List.getElem?_eq_some_iff.1 hu).1); rw [hu, add_add] at h5; exact h5
 obtain ⟨j, hj, rfl⟩ := List.mem_iff_getElem.1 hy
 obtain ⟨_, _, _, h4⟩ := hxs j _ (List.getElem?_eq_getElem hj)
 exact h4
abbrev wfI (n : Int) : Prop := (Lit.int .i64 n).wf = true
theorem al_ : si_ Tryz.prog 3 (Kd.int .i64) wfI := ku_ Tryz.underlying3 (by kernel_rfl)
theorem opInts : si_ Tryz.prog 35 (Kd.slice 3 (Kd.int .i64)) (fun l => ∀ n ∈ l, wfI n) := zk_ Tryz.underlying35 (by kernel_rfl) al_
theorem oj_ {P : Program} {t : TypeId} {fs : Array Field} (ht : P.underlying t = some (.struct fs)) {H : Type} {enc : TypeId × Value → H} {W : World} {base : Nat} {spare : Nat → Bool} {held : Bool} {fuel : Nat} {cs : List Value} {x : DataW H × List MemPlace} (h : DataW.trod enc P W base spare held fuel t cs = some x) :
  cs.length = P.cellsOf t ∧ ∀ (i : Nat) (f : Field), fs[i]? = some f → ∀ {α : Type} {d : Kd α} {ok : α → Prop}, si_ P f.type d ok → ∃ v, d.K W v ((cs.drop f.offset).take d.sz) ∧ ok v := by
 obtain ⟨xs, n, _, _, hl, hlen, hf⟩ := DataW.trod_struct ht h
 refine ⟨hl, fun i f hi α d ok ho => ?_⟩
 have h1 := hf i f hi
 have hil : i < xs.length := by
  have := (Array.getElem?_eq_some_iff.1 hi).1; omega
 rw [List.getElem?_eq_getElem hil, ho.1] at h1
 exact ho.2 H enc W base spare held n _ _ h1
def bl_ (x : S120) : Prop := wfI x.f0 ∧ wfI x.f1 ∧ wfI x.f2 ∧ (∀ n ∈ x.f3, wfI n) ∧ ∀ n ∈ x.f4, wfI n
theorem opRaw : si_ Tryz.prog 120 k120 bl_ := by
 refine ⟨by kernel_rfl, fun H enc W base spare held fuel cs x h => ?_⟩
 obtain ⟨hl, hf⟩ := oj_ Tryz.underlying120 h
 have hl2 : cs.length = 5 := hl.trans (by kernel_rfl)
 obtain ⟨v0, k0, w0⟩ := hf 0 _ rfl al_
 obtain ⟨v1, k1, w1⟩ := hf 1 _ rfl al_
 obtain ⟨v2, k2, w2⟩ := hf 2 _ rfl al_
 obtain ⟨v3, ⟨A3, c3, k3, l3, g3⟩, w3⟩ := hf 3 _ rfl opInts
 obtain ⟨v4, ⟨A4, c4, k4, l4, g4⟩, w4⟩ := hf 4 _ rfl opInts
 match cs, hl2 with
 | [b0, b1, b2, b3, b4], _ =>
  have e0 : [b0] = [.int .i64 v0] := k0; have e1 : [b1] = [.int .i64 v1] := k1; have e2 : [b2] = [.int .i64 v2] := k2; have e3 : [b3] = [.slice A3 v3.length c3] := k3; have e4 : [b4] = [.slice A4 v4.length c4] := k4; rw [(List.cons.inj e0).1, (List.cons.inj e1).1, (List.cons.inj e2).1, (List.cons.inj e3).1, (List.cons.inj e4).1]; exact ⟨⟨v0, v1, v2, v3, v4⟩, k120_mk W ⟨v0, v1, v2, v3, v4⟩ l3 g3 l4 g4, w0, w1, w2, w3, w4⟩
theorem opRaws : si_ Tryz.prog 22 (Kd.slice 120 k120) (fun l => ∀ x ∈ l, bl_ x) := zk_ Tryz.underlying22 (by kernel_rfl) opRaw
abbrev Raw' := S120
theorem xk_ (l : List Raw') (j : Nat) (h : j < l.length) : ta_ l j = l[j] := by
 unfold ta_
 rw [Int.toNat_natCast, List.getD_eq_getElem?_getD, List.getElem?_eq_getElem h]
 rfl
def fewB (l : List Raw') : Bool := l.all fun x => decide (x.f3.length ≤ 20 ∧ x.f4.length ≤ 20)
theorem few_loop (l : List Raw') (hl : l.length ≤ 9223372036854775807) : ∀ (d j : Nat), j + d = l.length → ∀ k, d < k → l4_Few.l0 k l j = some (fewB (l.drop j) && decide (l.length ≤ 80)) := by
 intro d
 induction d with
 | zero =>
  intro j hj k hk; obtain ⟨k, rfl⟩ : ∃ i, k = i + 1 := ⟨k - 1, by omega⟩; simp only [l4_Few.l0]; rw [if_neg (by omega), show j = l.length by omega, List.drop_length]; have : decide ((l.length : Int) ≤ 80) = decide (l.length ≤ 80) := decide_eq_decide.2 (by omega); rw [this]
  rfl
 | succ d ih =>
  intro j hj k hk; obtain ⟨k, rfl⟩ : ∃ i, k = i + 1 := ⟨k - 1, by omega⟩; have hlt : j < l.length := by omega
  have hw : wrap64 ((j : Int) + 1) = ((j + 1 : Nat) : Int) := by rw [pe_ (by omega)]; rfl
  have h1 := ih (j + 1) (by omega) k (by omega); simp only [l4_Few.l0]; rw [if_pos (by omega), if_pos (by omega), xk_ l j hlt, hw, h1, List.drop_eq_getElem_cons hlt]; unfold fewB; rw [List.all_cons]
  by_cases h3 : (l[j].f3.length : Int) > 20
  ·rw [if_pos h3, decide_eq_false (by omega)]; rfl
  rw [if_neg h3]
  by_cases h4 : (l[j].f4.length : Int) > 20
  ·rw [if_pos h4, decide_eq_false (by omega)]; rfl
  rw [if_neg h4, decide_eq_true (by omega : l[j].f3.length ≤ 20 ∧ l[j].f4.length ≤ 20)]; rfl
theorem few_some (l : List Raw') (hl : l.length ≤ 9223372036854775807) (k : Nat) (hk : l.length < k) : l4_Few.f k l = some (fewB l && decide (l.length ≤ 80)) := by
 have h := few_loop l hl l.length 0 (by omega) k hk
 rw [List.drop_zero] at h
 exact h
def kidOk (s : Int) (y : Int) : Prop := (0 ≤ y ∧ y < s) ∨ (-55 ≤ y ∧ y ≤ -1)
section
variable (s n a0 a1 a2 : Int) (l3 l4 : List Int) (c0 : Int) (rhs : List Int) (c2 c4 : Int)
theorem el_ (hn : n ≤ 3) (hr : 1 ≤ rhs.length) (hr2 : rhs.length ≤ 10) (h4 : l4.length ≤ 20) : ∀ (d j : Nat) (ps : List Int), (j : Int) + d = n → ps.length = j → (∀ p ∈ ps, 0 ≤ p ∧ p < (rhs.length : Int)) →
  ∃ ps' : List Int, (ps'.length : Int) = n ∧ (∀ p ∈ ps', 0 ≤ p ∧ p < (rhs.length : Int)) ∧ ∀ k, d < k → l4_Raw_Make.l1 k n j a0 a1 a2 l3 l4 c0 rhs c2 ps c4 = some (c0, rhs, c2, ps', c4) := by
 intro d
 induction d with
 | zero =>
  intro j ps hj hl hp; refine ⟨ps, by omega, hp, fun k hk => ?_⟩; obtain ⟨k, rfl⟩ : ∃ i, k = i + 1 := ⟨k - 1, by omega⟩; simp only [l4_Raw_Make.l1]
  rw [if_neg (by omega)]
 | succ d ih =>
  intro j ps hj hl hp; have hw : wrap64 ((j : Int) + 1) = ((j + 1 : Nat) : Int) := by rw [pe_ (by omega)]; rfl
  by_cases h : (j : Int) < (l4.length : Int)
  ·have hv0 := bh_ (rd l4 j) (rhs.length : Int) (by omega)
   have hv1 := ah_ (rd l4 j) (rhs.length : Int) (by omega)
   obtain ⟨ps', h1, h2, h3⟩ := ih (j + 1) (ps ++ [rd l4 j % (rhs.length : Int)]) (by omega) (by rw [List.length_append, hl]; rfl) (fun p hp' => by
    rcases List.mem_append.1 hp' with hp' | hp'
    ·exact hp p hp'
    rw [List.mem_singleton.1 hp']; exact ⟨hv0, hv1⟩)
   refine ⟨ps', h1, h2, fun k hk => ?_⟩; obtain ⟨k, rfl⟩ : ∃ i, k = i + 1 := ⟨k - 1, by omega⟩; simp only [l4_Raw_Make.l1]; rw [if_pos (by omega), if_pos h, if_pos (by omega), tc_ _ _ (by omega) (by omega), Option.bind_some, if_pos (by omega), hw]; exact h3 k (by omega)
  have hv0 := bh_ (j : Int) (rhs.length : Int) (by omega); have hv1 := ah_ (j : Int) (rhs.length : Int) (by omega)
  obtain ⟨ps', h1, h2, h3⟩ := ih (j + 1) (ps ++ [(j : Int) % (rhs.length : Int)]) (by omega) (by rw [List.length_append, hl]; rfl) (fun p hp' => by
   rcases List.mem_append.1 hp' with hp' | hp'
   ·exact hp p hp'
   rw [List.mem_singleton.1 hp']; exact ⟨hv0, hv1⟩)
  refine ⟨ps', h1, h2, fun k hk => ?_⟩; obtain ⟨k, rfl⟩ : ∃ i, k = i + 1 := ⟨k - 1, by omega⟩; simp only [l4_Raw_Make.l1]; rw [if_pos (by omega), if_neg h, tc_ _ _ (by omega) (by omega), Option.bind_some, if_pos (by omega), hw]; exact h3 k (by omega)
theorem vu_ : ∀ t : Fin 11, -55 ≤ wrap64 ((-1) - (rd ([0, 0, 0, 1, 2, 3, 50, 51, 52, 53, 54] : List Int) ((t.val : Nat) : Int))) ∧ wrap64 ((-1) - (rd ([0, 0, 0, 1, 2, 3, 50, 51, 52, 53, 54] : List Int) ((t.val : Nat) : Int))) ≤ -1 := by decide +kernel
theorem tu_ (s n a0 a1 a2 : Int) (l3 l4 : List Int) (c0 c2 c4 : Int) (hs : 1 ≤ s ∧ s ≤ 20) (hn : 1 ≤ n ∧ n ≤ 3) (h3 : l3.length ≤ 20) (hw3 : ∀ y ∈ l3, wfI y) (h4 : l4.length ≤ 20) (ha1 : wfI a1) : ∀ (d i : Nat) (rhs : List Int), i + d = 3 → rhs.length = i → (∀ y ∈ rhs, kidOk s y) →
  ∃ rhs' ps', (1 ≤ rhs'.length ∧ rhs'.length ≤ 3) ∧ (∀ y ∈ rhs', kidOk s y) ∧ ((ps'.length : Int) = n) ∧ (∀ p ∈ ps', 0 ≤ p ∧ p < (rhs'.length : Int)) ∧ ∀ k, 3 * d + 20 < k → l4_Raw_Make.l0 k s n i a0 a1 a2 l3 l4 c0 rhs c2 c4 = some (c0, rhs', c2, ps', c4) := by
 intro d
 induction d with
 | zero =>
  intro i rhs hi hl hk; obtain ⟨ps', p1, p2, p3⟩ := el_ n a0 a1 a2 l3 l4 c0 rhs c2 c4 hn.2 (by omega) (by omega) h4 n.toNat 0 [] (by omega) rfl (by simp); refine ⟨rhs, ps', ⟨by omega, by omega⟩, hk, p1, p2, fun k hk => ?_⟩; obtain ⟨k, rfl⟩ : ∃ j, k = j + 2 := ⟨k - 2, by omega⟩; have hm0 := bh_ (l3.length : Int) 3 (by omega); have hm1 := ah_ (l3.length : Int) 3 (by omega); rw [show k + 2 = (k + 1) + 1 by omega]; simp only [l4_Raw_Make.l0]; rw [tc_ _ 3 (by omega) (by omega), Option.bind_some, pe_ (by omega), if_neg (by omega), if_neg (by omega)]; simp only [l4_Raw_Make.j1, Bool.false_eq_true, if_false]
  exact p3 k (by omega)
 | succ d ih =>
  intro i rhs hi hl hk; have hm0 := bh_ (l3.length : Int) 3 (by omega); have hm1 := ah_ (l3.length : Int) 3 (by omega)
  obtain ⟨b, hb0, hb⟩ : ∃ b : Bool, (i = 0 → b = true) ∧ ∀ k, l4_Raw_Make.l0 (k + 1) s n i a0 a1 a2 l3 l4 c0 rhs c2 c4 = l4_Raw_Make.j1 k s n i b a0 a1 a2 l3 l4 c0 rhs c2 c4 := by
   by_cases h1 : (i : Int) < 1 + (l3.length : Int) % 3
   ·refine ⟨true, fun _ => rfl, fun k => ?_⟩
    simp only [l4_Raw_Make.l0]; rw [tc_ _ 3 (by omega) (by omega), Option.bind_some, pe_ (by omega), if_pos h1]
   by_cases h2 : (i : Int) < n
   ·refine ⟨(wrap64 (Int.tdiv a1 16) % 2 == 0), fun h => by omega, fun k => ?_⟩
    simp only [l4_Raw_Make.l0]; rw [tc_ _ 3 (by omega) (by omega), Option.bind_some, pe_ (by omega), if_neg h1, if_pos h2, tc_ _ 2 (by omega) (by omega), Option.bind_some]
   refine ⟨false, fun h => by omega, fun k => ?_⟩; simp only [l4_Raw_Make.l0]; rw [tc_ _ 3 (by omega) (by omega), Option.bind_some, pe_ (by omega), if_neg h1, if_neg h2]
  cases b with
  | false =>
   have hi1 : i ≠ 0 := fun h => by have := hb0 h; cases this
   obtain ⟨ps', p1, p2, p3⟩ := el_ n a0 a1 a2 l3 l4 c0 rhs c2 c4 hn.2 (by omega) (by omega) h4 n.toNat 0 [] (by omega) rfl (by simp); refine ⟨rhs, ps', ⟨by omega, by omega⟩, hk, p1, p2, fun k hk => ?_⟩; obtain ⟨k, rfl⟩ : ∃ j, k = j + 2 := ⟨k - 2, by omega⟩; rw [show k + 2 = (k + 1) + 1 by omega, hb]; simp only [l4_Raw_Make.j1, Bool.false_eq_true, if_false]
   exact p3 k (by omega)
  | true =>
   obtain ⟨v, hv⟩ : ∃ v : Int, ∀ k, l4_Raw_Make.j1 (k + 1) s n i true a0 a1 a2 l3 l4 c0 rhs c2 c4 = l4_Raw_Make.j2 k s n i v a0 a1 a2 l3 l4 c0 rhs c2 c4 := by
    by_cases h1 : (i : Int) < (l3.length : Int)
    ·refine ⟨rd l3 i, fun k => ?_⟩
     simp only [l4_Raw_Make.j1, if_true]; rw [if_pos h1, if_pos (by omega)]
    refine ⟨i, fun k => ?_⟩; simp only [l4_Raw_Make.j1, if_true]; rw [if_neg h1]
   have hw : wrap64 ((i : Int) + 1) = ((i + 1 : Nat) : Int) := by rw [pe_ (by omega)]; rfl
   obtain ⟨y, hy, hj⟩ : ∃ y : Int, kidOk s y ∧ ∀ k, l4_Raw_Make.j2 (k + 1) s n i v a0 a1 a2 l3 l4 c0 rhs c2 c4 = l4_Raw_Make.l0 k s n ((i + 1 : Nat) : Int) a0 a1 a2 l3 l4 c0 (rhs ++ [y]) c2 c4 := by
    by_cases h1 : wrap64 (Int.tdiv v 20) % 2 = 0
    (focus (obtain ⟨t, ht⟩ := as_fin 11 rfl (bh_ (wrap64 (Int.tdiv v 40)) 11 (by omega)) (ah_ (wrap64 (Int.tdiv v 40)) 11 (by omega)); refine ⟨_, .inr (vu_ t), fun k => ?_⟩; simp only [l4_Raw_Make.j2]; rw [tc_ v s (by omega) (by omega), Option.bind_some, tc_ _ 2 (by omega) (by omega), Option.bind_some, if_pos h1, Option.bind_some, tc_ _ 11 (by omega) (by omega), Option.bind_some, ht, if_pos (by omega), if_pos (by have := t.isLt; simp; omega), if_pos (by omega), hw])); refine ⟨v % s, .inl ⟨bh_ v s (by omega), ah_ v s (by omega)⟩, fun k => ?_⟩; simp only [l4_Raw_Make.j2]; rw [tc_ v s (by omega) (by omega), Option.bind_some, tc_ _ 2 (by omega) (by omega), Option.bind_some, if_neg h1, if_pos (by omega), hw]
   obtain ⟨rhs', ps', q1, q2, q3, q4, q5⟩ := ih (i + 1) (rhs ++ [y]) (by omega) (by rw [List.length_append, hl]; rfl) (fun z hz => by
    rcases List.mem_append.1 hz with hz | hz
    ·exact hk z hz
    rw [List.mem_singleton.1 hz]; exact hy)
   refine ⟨rhs', ps', q1, q2, q3, q4, fun k hk => ?_⟩; obtain ⟨k, rfl⟩ : ∃ j, k = j + 3 := ⟨k - 3, by omega⟩; rw [show k + 3 = ((k + 1) + 1) + 1 by omega, hb, hv, hj]; exact q5 k (by omega)
def kq_ (o : Nat) : Int := rd ([1, 3, 2, 2, 2, 2, 3, 1, 1, 2, 1, 1, 2, 2, 2, 2] : List Int) (o : Int)
theorem makeN_ok : ∀ o : Fin 16, (1 ≤ kq_ o.val ∧ kq_ o.val ≤ 3) ∧ (od_ ((o.val : Nat) : Int)).1 ≤ kq_ o.val ∧ kq_ o.val ≤ (od_ ((o.val : Nat) : Int)).2 := by decide +kernel
structure Made (s : Int) (r : dc_) : Prop where
 lhs : 0 ≤ r.f0 ∧ r.f0 < s
 len : 1 ≤ r.f1.length ∧ r.f1.length ≤ 3
 kids : ∀ y ∈ r.f1, kidOk s y
 right : ge_ r = true
theorem su_ (x : Raw') (s : Int) (hs : 1 ≤ s ∧ s ≤ 20) (hx : bl_ x) (h3 : x.f3.length ≤ 20) (h4 : x.f4.length ≤ 20) :
  ∃ r : dc_, Made s r ∧ ∀ k, 40 ≤ k → l4_Raw_Make.f k x.f0 x.f1 x.f2 x.f3 x.f4 s = some (r.f0, r.f1, r.f2.f0, r.f2.f1, r.f3) := by
 obtain ⟨_, hw1, _, hw3, _⟩ := hx
 obtain ⟨o, ho⟩ := as_fin 16 rfl (bh_ x.f1 16 (by omega)) (ah_ x.f1 16 (by omega))
 have hn := makeN_ok o
 have hc0 := bh_ x.f2 101 (by omega)
 have hc1 := ah_ x.f2 101 (by omega)
 have hl0 := bh_ x.f0 s (by omega)
 have hl1 := ah_ x.f0 s (by omega)
 obtain ⟨rhs, ps, p1, p2, p3, p4, p5⟩ := tu_ s (kq_ o.val) x.f0 x.f1 x.f2 x.f3 x.f4 (x.f0 % s) ((o.val : Nat) : Int) (x.f2 % 101) hs hn.1 h3 hw3 h4 hw1 3 0 [] rfl rfl (by simp)
 refine ⟨⟨x.f0 % s, rhs, ⟨((o.val : Nat) : Int), ps⟩, x.f2 % 101⟩, ⟨⟨hl0, hl1⟩, p1, p2, ?_⟩, fun k hk => ?_⟩
 ·show hf_ (x.f0 % s) rhs ((o.val : Nat) : Int) ps (x.f2 % 101) = true
  unfold hf_ af_ hc_; simp only [Bool.and_eq_true, decide_eq_true_eq, List.all_eq_true]; refine ⟨⟨hl0, by omega⟩, ⟨by omega, by omega⟩, fun y hy => ?_, ⟨hc0, by omega⟩, ⟨by omega, by omega⟩, fun p hp => ?_⟩
  ·unfold ye_
   rcases p2 y hy with h | h
   ·rw [decide_eq_true (by omega), decide_eq_true (by omega)]; rfl
   rw [decide_eq_true (by omega), decide_eq_true (by omega)]; rfl
  have h := p4 p hp; unfold ne_; rw [decide_eq_true h.1, decide_eq_true h.2]; rfl
 unfold l4_Raw_Make.f
 rw [tc_ x.f0 s (by omega) (by omega), Option.bind_some, tc_ x.f2 101 (by omega) (by omega), Option.bind_some, tc_ x.f1 16 (by omega) (by omega), Option.bind_some, Option.bind_some, ho, if_pos (by omega), if_pos (by have := o.isLt; simp; omega)]
 exact p5 k (by omega)
end
structure Told (s : Int) (out : List dc_) : Prop where
 made : ∀ r ∈ out, Made s r
 check : cd_ out = true
theorem rule_eta (r : dc_) : (⟨r.f0, r.f1, (⟨r.f2.f0, r.f2.f1⟩ : S54), r.f3⟩ : dc_) = r := rfl
theorem kr_ (l : List Raw') (s : Int) (hs : 1 ≤ s ∧ s ≤ 20) (hl : l.length ≤ 80) (hok : ∀ x ∈ l, bl_ x) (hf : ∀ x ∈ l, x.f3.length ≤ 20 ∧ x.f4.length ≤ 20) : ∀ (d i : Nat) (out : List dc_), i + d = l.length → out.length ≤ i → Told s out →
  ∃ res, Told s res ∧ ∀ k, 2 * d + 45 < k → l4_Rules.l0 k l s out i = some res := by
 intro d
 induction d with
 | zero =>
  intro i out hi ho ht; refine ⟨out, ht, fun k hk => ?_⟩; obtain ⟨k, rfl⟩ : ∃ j, k = j + 2 := ⟨k - 2, by omega⟩; rw [show k + 2 = (k + 1) + 1 by omega]; simp only [l4_Rules.l0]; rw [if_neg (by omega)]
  simp only [l4_Rules.j1, Bool.false_eq_true, if_false]
 | succ d ih =>
  intro i out hi ho ht; have hlt : i < l.length := by omega
  by_cases h20 : (i : Int) < 20
  ·obtain ⟨r, hr, hm⟩ := su_ l[i] s hs (hok _ (List.getElem_mem hlt)) (hf _ (List.getElem_mem hlt)).1 (hf _ (List.getElem_mem hlt)).2
   have hw : wrap64 ((i : Int) + 1) = ((i + 1 : Nat) : Int) := by rw [pe_ (by omega)]; rfl
   have hmade : ∀ q ∈ out ++ [r], Made s q := by
    intro q hq
    rcases List.mem_append.1 hq with hq | hq
    ·exact ht.made q hq
    rw [List.mem_singleton.1 hq]; exact hr
   have hstep : ∀ k, 45 < k → l4_Rules.l0 (k + 2) l s out i = if cd_ (out ++ [r]) = true then l4_Rules.l0 k l s (out ++ [r]) ((i + 1 : Nat) : Int) else l4_Rules.l0 k l s out ((i + 1 : Nat) : Int) := by
    intro k hk; rw [show k + 2 = (k + 1) + 1 by omega]; simp only [l4_Rules.l0]; rw [if_pos (by omega), decide_eq_true h20]; simp only [l4_Rules.j1, if_true, Option.bind_some, List.nil_append, List.length_nil, Nat.zero_add]; rw [if_pos (by omega), if_pos (by omega), if_pos (by omega), xk_ l i hlt, hm k (by omega), Option.bind_some]; simp only [rule_eta]; rw [if_pos (by omega), hw]; rfl
   cases hc : cd_ (out ++ [r]) with
   | true =>
    obtain ⟨res, h1, h2⟩ := ih (i + 1) (out ++ [r]) (by omega) (by rw [List.length_append]; simp; omega) ⟨hmade, hc⟩; refine ⟨res, h1, fun k hk => ?_⟩; obtain ⟨k, rfl⟩ : ∃ j, k = j + 2 := ⟨k - 2, by omega⟩; rw [hstep k (by omega), hc, if_pos rfl]
    exact h2 k (by omega)
   | false =>
    obtain ⟨res, h1, h2⟩ := ih (i + 1) out (by omega) (by omega) ht; refine ⟨res, h1, fun k hk => ?_⟩; obtain ⟨k, rfl⟩ : ∃ j, k = j + 2 := ⟨k - 2, by omega⟩; rw [hstep k (by omega), hc, if_neg (by simp)]; exact h2 k (by omega)
  refine ⟨out, ht, fun k hk => ?_⟩; obtain ⟨k, rfl⟩ : ∃ j, k = j + 2 := ⟨k - 2, by omega⟩; rw [show k + 2 = (k + 1) + 1 by omega]; simp only [l4_Rules.l0]; rw [if_pos (by omega), decide_eq_false h20]; simp only [l4_Rules.j1, Bool.false_eq_true, if_false]
theorem xs_ : cd_ [] = true := by
 rw [gh_]
 exact ⟨by simp, rfl, fun x hx => eq_ _ id (fun r hr => by cases hr) x hx⟩
theorem jr_ (l : List Raw') (s : Int) (hs : 1 ≤ s ∧ s ≤ 20) (hl : l.length ≤ 80) (hok : ∀ x ∈ l, bl_ x) (hf : fewB l = true) : ∃ res, Told s res ∧ ∀ k, 300 ≤ k → l4_Rules.f k l s = some res := by
 obtain ⟨res, h1, h2⟩ := kr_ l s hs hl hok (fun x hx => of_decide_eq_true (List.all_eq_true.1 hf x hx)) l.length 0 [] (by omega) (Nat.le_refl _) ⟨fun r hr => (by cases hr), xs_⟩
 exact ⟨res, h1, fun k hk => h2 k (by omega)⟩
abbrev Loc5 := S44
abbrev Ent5 := S46
def wordsP : List Ent5 := [(⟨(⟨#[106, 97, 110]⟩ : BA), 1, 1⟩ : Ent5), (⟨(⟨#[102, 101, 98, 114, 117, 97, 114, 121]⟩ : BA), 1, 2⟩ : Ent5), (⟨(⟨#[109, 97, 121]⟩ : BA), 1, 5⟩ : Ent5), (⟨(⟨#[100, 101, 99]⟩ : BA), 1, 12⟩ : Ent5), (⟨(⟨#[109, 111, 110, 100, 97, 121]⟩ : BA), 2, 0⟩ : Ent5), (⟨(⟨#[102, 114, 105, 100, 97, 121]⟩ : BA), 2, 4⟩ : Ent5), (⟨(⟨#[100, 97, 121]⟩ : BA), 3, 1⟩ : Ent5), (⟨(⟨#[100, 97, 121, 115]⟩ : BA), 3, 1⟩ : Ent5), (⟨(⟨#[119, 101, 101, 107]⟩ : BA), 3, 2⟩ : Ent5), (⟨(⟨#[109, 111, 110, 116, 104, 115]⟩ : BA), 3, 3⟩ : Ent5), (⟨(⟨#[97, 103, 111]⟩ : BA), 4, (-1)⟩ : Ent5), (⟨(⟨#[104, 101, 110, 99, 101]⟩ : BA), 4, 1⟩ : Ent5), (⟨(⟨#[97, 109]⟩ : BA), 5, 0⟩ : Ent5), (⟨(⟨#[112, 109]⟩ : BA), 5, 1⟩ : Ent5), (⟨(⟨#[101, 117, 114]⟩ : BA), 6, 9782⟩ : Ent5), (⟨(⟨#[226, 130, 172]⟩ : BA), 6, 9782⟩ : Ent5), (⟨(⟨#[121, 101, 110]⟩ : BA), 6, 3920⟩ : Ent5), (⟨(⟨#[115]⟩ : BA), 7, 1⟩ : Ent5), (⟨(⟨#[109, 105, 110]⟩ : BA), 7, 60⟩ : Ent5), (⟨(⟨#[104]⟩ : BA), 7, 3600⟩ : Ent5), (⟨(⟨#[116, 111]⟩ : BA), 8, 0⟩ : Ent5), (⟨(⟨#[97]⟩ : BA), 9, 1⟩ : Ent5)]
def maiP : Ent5 := ⟨⟨#[109, 97, 105]⟩, 1, 5⟩
def baseL : Loc5 := ⟨⟨#[98, 97, 115, 101]⟩, -1, 0, wordsP, nj_, fj_⟩
def enL (o : Int) : Loc5 := ⟨⟨#[101, 110]⟩, 0, 0, [], aj_ o, []⟩
def arL (d : Int) : Loc5 := ⟨⟨#[97, 114, 45, 49]⟩, 1, d, [maiP], [], []⟩
def vd_ : List ByteArray := [⟨#[111, 110, 101]⟩, ⟨#[120, 32, 121]⟩, ⟨#[195, 164]⟩, ⟨#[55, 117, 112]⟩, ⟨#[45]⟩]
def xL (d : Int) (s : BA) (c v : Int) (R : List S56) : Loc5 := ⟨⟨#[120]⟩, -1, d, [⟨s, c, v⟩, ⟨⟨#[116, 119, 111]⟩, 2, 2⟩], R, []⟩
def wc_ (o d : Int) : List Loc5 := [baseL, enL o, arL d]
theorem texts_ok : ∀ i : Fin 5, ie_ (⟨rdOf ByteArray.empty vd_ ((i : Nat) : Int), 1, 1⟩ : Ent5) = true := by decide +kernel
structure XOk (o d : Int) (m : List Loc5) : Prop where
 ord : 0 ≤ o ∧ o < 3
 dig : 0 ≤ d ∧ d < 4
 tail : m = [] ∨ ∃ s c v R, m = [xL d s c v R] ∧ ie_ (⟨s, 1, 1⟩ : Ent5) = true ∧ (1 ≤ c ∧ c ≤ 3) ∧ (-5 ≤ v ∧ v ≤ 94) ∧ Told 6 R
abbrev OneAt (m : List Loc5) : Prop := m = [] ∨ ∃ x, m = [x]
theorem r1 (o d : Int) (m : List Loc5) (hm : OneAt m) : me_ (wc_ o d ++ m) 1 = nj_ ++ (aj_ o ++ []) := by rcases hm with rfl | ⟨x, rfl⟩ <;> rfl
theorem XOk.one {o d : Int} {m : List Loc5} (h : XOk o d m) : OneAt m := by
 rcases h.tail with rfl | ⟨s, c, v, R, rfl, _⟩
 ·exact .inl rfl
 exact .inr ⟨_, rfl⟩
theorem ne_ids : ((⟨#[98, 97, 115, 101]⟩ : BA).toList == (⟨#[101, 110]⟩ : BA).toList) = false ∧ ((⟨#[98, 97, 115, 101]⟩ : BA).toList == (⟨#[97, 114, 45, 49]⟩ : BA).toList) = false ∧ ((⟨#[101, 110]⟩ : BA).toList == (⟨#[97, 114, 45, 49]⟩ : BA).toList) = false ∧ ((⟨#[98, 97, 115, 101]⟩ : BA).toList == (⟨#[120]⟩ : BA).toList) = false ∧ ((⟨#[101, 110]⟩ : BA).toList == (⟨#[120]⟩ : BA).toList) = false ∧ ((⟨#[97, 114, 45, 49]⟩ : BA).toList == (⟨#[120]⟩ : BA).toList) = false := by decide +kernel
theorem hv_ (o : Int) : (aj_ o).length ≤ 60 := by
 unfold aj_
 simp
def okIB (n : Int) : Bool := decide (-9223372036854775808 ≤ n) && decide (n ≤ 9223372036854775807)
def entB (e : Ent5) : Bool := decide (e.f0.size ≤ 1000) && (okIB e.f1 && okIB e.f2)
def yn_ (l : List Int) : Bool := decide (l.length ≤ 1000) && l.all okIB
def nn_ (r : S56) : Bool := okIB r.f0 && (yn_ r.f1 && (okIB r.f2.f0 && (yn_ r.f2.f1 && okIB r.f3)))
def prtB (x : S48) : Bool := okIB x.f0 && (decide (x.f1.size ≤ 1000) && (okIB x.f2 && (okIB x.f3 && okIB x.f4)))
def styB (x : S52) : Bool := okIB x.f0 && (decide (x.f1.length ≤ 1000) && x.f1.all prtB)
def locB (x : Loc5) : Bool := decide (x.f0.size ≤ 1000000) && (okIB x.f1 && (okIB x.f2 && (decide (x.f3.length ≤ 1000) && (x.f3.all entB && (decide (x.f4.length ≤ 1000) && (x.f4.all nn_ && (decide (x.f5.length ≤ 1000) && x.f5.all styB)))))))
theorem se_ {n : Int} (h : okIB n = true) : okI n := by
 unfold okIB at h
 simp only [Bool.and_eq_true, decide_eq_true_eq] at h
 exact h
theorem tt_ {α : Type} {enc : α → List Int} {b : Nat} : ∀ (l : List α), (∀ x ∈ l, (enc x).length ≤ b) → (l.flatMap enc).length ≤ b * l.length
 | [], _ => Nat.zero_le _
 | x :: l, h => by
  have h1 := h x List.mem_cons_self; have h2 := tt_ l (fun y hy => h y (List.mem_cons_of_mem _ hy)); rw [List.flatMap_cons, List.length_append, List.length_cons, Nat.mul_add]; omega
theorem rj_ {α : Type} {enc : α → List Int} {b n : Nat} (l : List α) (hl : l.length ≤ n) (h : ∀ x ∈ l, (enc x).length ≤ b) : (pb_ enc l).length ≤ 8 + b * n := by
 have h1 := tt_ l h
 have h2 : b * l.length ≤ b * n := Nat.mul_le_mul_left b hl
 unfold pb_
 rw [List.length_append, ua_]
 show 8 * 1 + _ ≤ _
 omega
theorem vt_ {e : Ent5} (h : entB e = true) : okEnt e ∧ (ent8 e).length ≤ 1024 := by
 unfold entB at h
 simp only [Bool.and_eq_true, decide_eq_true_eq] at h
 refine ⟨⟨by omega, se_ h.2.1, se_ h.2.2⟩, ?_⟩
 unfold ent8
 rw [List.length_append, cc_, ua_]
 show _ + 8 * 2 ≤ _
 omega
theorem sq_ {l : List Int} (h : yn_ l = true) : xr_ l ∧ (xc_ l).length ≤ 8008 := by
 unfold yn_ at h
 simp only [Bool.and_eq_true, decide_eq_true_eq, List.all_eq_true] at h
 refine ⟨⟨by omega, fun n hn => se_ (h.2 n hn)⟩, ?_⟩
 unfold xc_
 rw [List.length_append, ua_, ua_]
 show 8 * 1 + _ ≤ _
 omega
theorem rp_ {r : S56} (h : nn_ r = true) : okRule r ∧ (fc_ r).length ≤ 20000 := by
 unfold nn_ at h
 simp only [Bool.and_eq_true] at h
 have h1 := sq_ h.2.1
 have h2 := sq_ h.2.2.2.1
 refine ⟨⟨se_ h.1, h1.1, se_ h.2.2.1, h2.1, se_ h.2.2.2.2⟩, ?_⟩
 unfold fc_
 simp only [List.length_append, ua_]
 show 8 * 1 + _ + 8 * 1 + _ + 8 * 1 ≤ _
 omega
theorem jt_ {x : S48} (h : prtB x = true) : okPart x ∧ (nc_ x).length ≤ 2000 := by
 unfold prtB at h
 simp only [Bool.and_eq_true, decide_eq_true_eq] at h
 refine ⟨⟨se_ h.1, by omega, se_ h.2.2.1, se_ h.2.2.2.1, se_ h.2.2.2.2⟩, ?_⟩
 unfold nc_
 simp only [List.length_append, ua_, cc_]
 show 8 * 1 + _ + 8 * 3 ≤ _
 omega
theorem ft_ {x : S52} (h : styB x = true) : lt_ x ∧ (ob_ x).length ≤ 2000016 := by
 unfold styB at h
 simp only [Bool.and_eq_true, decide_eq_true_eq, List.all_eq_true] at h
 refine ⟨⟨se_ h.1, by omega, fun y hy => (jt_ (h.2.2 y hy)).1⟩, ?_⟩
 have h1 := rj_ (enc := nc_) x.f1 h.2.1 (fun y hy => (jt_ (h.2.2 y hy)).2)
 unfold ob_
 rw [List.length_append, ua_]
 show 8 * 1 + _ ≤ _
 omega
theorem locB_ok {x : Loc5} (h : locB x = true) : okLoc8 x ∧ (loc8 x).length ≤ 3000000000 ∧ x.f0.size ≤ 1000000000000 ∧ x.f4.length ≤ 1000000 := by
 unfold locB at h
 simp only [Bool.and_eq_true, decide_eq_true_eq] at h
 obtain ⟨h0, h1, h2, h3, h4, h5, h6, h7, h8⟩ := h
 rw [List.all_eq_true] at h4 h6 h8
 refine ⟨⟨by omega, se_ h1, se_ h2, ⟨by omega, fun y hy => (vt_ (h4 y hy)).1⟩, ⟨by omega, fun y hy => (rp_ (h6 y hy)).1⟩, ⟨by omega, fun y hy => (ft_ (h8 y hy)).1⟩⟩, ?_, by omega, by omega⟩
 have e3 := rj_ (enc := ent8) x.f3 h3 (fun y hy => (vt_ (h4 y hy)).2)
 have e4 := rj_ (enc := fc_) x.f4 h5 (fun y hy => (rp_ (h6 y hy)).2)
 have e5 := rj_ (enc := ob_) x.f5 h7 (fun y hy => (ft_ (h8 y hy)).2)
 unfold loc8
 simp only [List.length_append, ua_, cc_]
 show _ + 8 * 2 + _ + _ + _ ≤ _
 omega
theorem asked_le {op : Int} {n : Nat} (h : hc_ (n : Int) (od_ op).1 (od_ op).2 = true) : 0 ≤ op ∧ op ≤ 15 ∧ n ≤ 6 := by
 unfold hc_ at h
 rw [Bool.and_eq_true, decide_eq_true_eq, decide_eq_true_eq] at h
 revert h
 unfold od_
 repeat' split
 all_goals (intro h; simp only at h; omega)
theorem tp_ {r : dc_} (h : ge_ r = true) : nn_ r = true := by
 have h' : hf_ r.f0 r.f1 r.f2.f0 r.f2.f1 r.f3 = true := h
 unfold hf_ at h'
 simp only [Bool.and_eq_true, List.all_eq_true] at h'
 obtain ⟨h0, h1, h2, h3, h4, h5⟩ := h'
 have ha := asked_le h4
 unfold af_ at h0
 unfold hc_ at h1 h3
 simp only [Bool.and_eq_true, decide_eq_true_eq] at h0 h1 h3
 unfold nn_ yn_ okIB
 simp only [Bool.and_eq_true, decide_eq_true_eq, List.all_eq_true]
 refine ⟨⟨by omega, by omega⟩, ⟨by omega, fun y hy => ?_⟩, ⟨by omega, by omega⟩, ⟨by omega, fun y hy => ?_⟩, ⟨by omega, by omega⟩⟩
 ·have h := h2 y hy
  unfold ye_ at h; simp only [Bool.and_eq_true, decide_eq_true_eq] at h; exact ⟨by omega, by omega⟩
 have h := h5 y hy
 unfold ne_ at h
 simp only [Bool.and_eq_true, decide_eq_true_eq] at h
 exact ⟨by omega, by omega⟩
theorem base_B : locB baseL = true := by decide +kernel
theorem en_B : ∀ o : Fin 3, locB (enL ((o : Nat) : Int)) = true := by decide +kernel
theorem ar_B : ∀ d : Fin 4, locB (arL ((d : Nat) : Int)) = true := by decide +kernel
theorem ent_size {s : ByteArray} (h : ie_ (⟨s, 1, 1⟩ : Ent5) = true) : s.size ≤ 20 := by
 unfold ie_ at h
 rw [Bool.and_eq_true] at h
 have h := h.1
 unfold jb_ at h
 simp only [Bool.and_eq_true, decide_eq_true_eq] at h
 omega
theorem all_B {o d : Int} {m : List Loc5} (h : XOk o d m) : ∀ x ∈ wc_ o d ++ m, locB x = true := by
 intro x hx
 rcases List.mem_append.1 hx with hx | hx
 ·rcases List.mem_cons.1 hx with rfl | hx
  ·exact base_B
  rcases List.mem_cons.1 hx with rfl | hx
  ·obtain ⟨n, rfl⟩ := Int.eq_ofNat_of_zero_le h.ord.1
   exact en_B ⟨n, by have := h.ord.2; omega⟩
  rcases List.mem_cons.1 hx with rfl | hx
  ·obtain ⟨n, rfl⟩ := Int.eq_ofNat_of_zero_le h.dig.1
   exact ar_B ⟨n, by have := h.dig.2; omega⟩
  cases hx
 rcases h.tail with rfl | ⟨s, c, v, R, rfl, he, hc, hv, ht⟩
 ·cases hx
 rw [List.mem_singleton] at hx
 subst hx
 have hle := (gh_ R).1 ht.check
 have hs := ent_size he
 have hd := h.dig
 unfold locB xL entB okIB
 simp only [Bool.and_eq_true, decide_eq_true_eq, List.all_cons, List.all_nil, List.length_cons, List.length_nil]
 refine ⟨by show 1 ≤ _; omega, ⟨by omega, by omega⟩, ⟨by omega, by omega⟩, by omega, ⟨⟨by omega, ⟨by omega, by omega⟩, ⟨by omega, by omega⟩⟩, ⟨by show 3 ≤ _; omega, ⟨by omega, by omega⟩, ⟨by omega, by omega⟩⟩, trivial⟩, by omega, ?_, by omega, trivial⟩
 rw [List.all_eq_true]
 exact fun r hr => tp_ (ht.made r hr).right
theorem as_ {o d : Int} {m : List Loc5} (h : XOk o d m) : (wc_ o d ++ m).length ≤ 4 := by
 rcases h.tail with rfl | ⟨s, c, v, R, rfl, he, hc, hv, ht⟩
 ·show 3 ≤ 4
  omega
 show 4 ≤ 4
 omega
theorem mk_enc {o d : Int} {m : List Loc5} (h : XOk o d m) : 8 ≤ (enc8 (wc_ o d ++ m)).length ∧ (enc8 (wc_ o d ++ m)).length ≤ 20000000000 := by
 have h1 := rj_ (enc := loc8) (wc_ o d ++ m) (as_ h) (fun x hx => (locB_ok (all_B h x hx)).2.1)
 refine ⟨?_, by
  show (pb_ loc8 (wc_ o d ++ m)).length ≤ _
  omega⟩
 show 8 ≤ (pb_ loc8 (wc_ o d ++ m)).length
 unfold pb_
 rw [List.length_append, ua_]
 show 8 ≤ 8 * 1 + _
 omega
theorem op_ (o d : Int) : l5_Sample.f o d = some (wc_ (o % 3) (d % 4)) := by
 unfold l5_Sample.f
 rw [jh_ d 4 (by omega) (by omega)]
 rfl
theorem ev_ (a0 a1 a2 a3 : Int) (l : List Raw') (b : Bool) (hl : l.length ≤ 9223372036854775807) (k : Nat) (hk : l.length < k) : l5_Shape_Few.f k a0 a1 a2 a3 l b = some (fewB l && decide (l.length ≤ 12)) := by
 unfold l5_Shape_Few.f
 rw [few_some l hl k hk, Option.bind_some]
 have e : decide ((l.length : Int) ≤ 12) = decide (l.length ≤ 12) := decide_eq_decide.2 (by omega)
 rw [e]
 cases fewB l with
 | false => rfl
 | true =>
  by_cases h : l.length ≤ 12
  ·rw [decide_eq_true h, decide_eq_true (by omega : l.length ≤ 80)]; rfl
  rw [decide_eq_false h]
  split <;> rfl
end Go.Proofs.YtiocgaekoeekgaaGreat.P
end
section
namespace Go.Proofs.YtiocgaekoeekgaaGreat.P
open Go.RowKit YtiocgaekoeekgaaGreatW.PrintWords YtiocgaekoeekgaaGreatW.PrintLast YtiocgaekoeekgaaGreatW.PrintMore
attribute [local go_sem] vb_ tb_ jc_ ic_ lb_ kb_ ub_ sb_   
set_option linter.unusedVariables false
set_option linter.unusedSimpArgs false
attribute [local go_sem] Oper.semAt_some
theorem oe_ {P : Program} {md : Region.Mode} {ops : Array Oper} {Q : Exit → Act → World → Prop} {S S' : World → Prop} (hs : ∀ w, S' w → S w) : ∀ (fuel : Nat) (l : Array Bool) (a : Act) (w : World), S' w → ab_ P md ops Q S' [] fuel l a w → ab_ P md ops Q S [] fuel l a w
 | 0, _, _, _, _, h => h
 | fuel + 1, l, a, w, hw, h => ⟨h.1, fun i hi => wpOp_mono (fun a' w' h' => ⟨fun _ _ => hs _ (h'.1 (by simp) hw), oe_ hs fuel _ _ _ (h'.1 (by simp) hw) h'.2⟩) (h.2 i hi)⟩
theorem vh_ (a n : Int) (w : World) (hn : 0 < n) (hn2 : n ≤ 4611686018427387904) : Calls Tryz.prog 19 #[.int .i64 a, .int .i64 n] w fun e w' => e = .returned (.int .i64 (a % n)) ∧ Below w.heap.size w w' :=
 Calls.mono (l5_within.calls a n _ w (jh_ a n hn hn2)) (by rintro e w' ⟨rfl, hd⟩; exact ⟨rfl, hd.below⟩)
abbrev okF (w : World) (g k : Nat) : Prop := w.heap.size ≤ k ∧ k ≠ g
structure MkF (w : World) (g : Nat) (C : Array Value) (v : Value) (t : List S44) (W : World) : Prop where
 row : Kd.N k44 44 W w.heap.size (okF w g) v t
 blk : W.heap[g]? = some (.cells C 24 (0, 0))
 old : Below w.heap.size w W
theorem MkF.step {w : World} {g : Nat} {C : Array Value} {v : Value} {t : List S44} {W W' : World} (h : MkF w g C v t W) (hb : Below W.heap.size W W') : MkF w g C v t W' := ⟨Kd.N_below h.row hb, oa_ h.blk hb, fa_ h.old hb⟩
def RuF (w : World) (g : Nat) (v : Value) (A : Option Addr) (c : Nat) (res : List S56) (W : World) : Prop := Kd.F k56 W (fun k => okF w g k ∧ some k ≠ v.ownBlock) A res.length res ∧ res.length ≤ c
theorem RuF.step {w : World} {g : Nat} {v : Value} {A : Option Addr} {c : Nat} {res : List S56} {W W' : World} (h : RuF w g v A c res W) (hb : Below W.heap.size W W') : RuF w g v A c res W' := ⟨Kd.F_below h.1 hb, h.2⟩
theorem RuF.of {w : World} {g : Nat} {C : Array Value} {v : Value} {t : List S44} {W W' : World} {A : Option Addr} {c : Nat} {res : List S56} (h : MkF w g C v t W) (hN : Kd.N k56 56 W' W.heap.size (fun k => W.heap.size ≤ k) (.slice A res.length c) res) : RuF w g v A c res W' :=
 ⟨Kd.N_F (Kd.N_mono hN (fun k hk => ⟨⟨Nat.le_trans h.old.size hk, by have := za_ h.blk; omega⟩, fun he => by have := Kd.N_lt h.row k he.symm; omega⟩)), (Kd.N_reads' hN).2.1⟩
def nq_ (t x3 xh : Int) : List S46 := [⟨rdOf ByteArray.empty vd_ t, wrap64 (1 + x3), wrap64 (xh - 5)⟩, ⟨⟨#[116, 119, 111]⟩, 2, 2⟩]
theorem LexF.of {w : World} {g : Nat} {C : Array Value} {v : Value} {t : List S44} {W W' : World} {A : Option Addr} {c n : Nat} {ys : List S46} (h : MkF w g C v t W) (ho : Kd.R k46 46 W' W.heap.size (fun _ => True) (.slice A n c) ys) : Kd.F k46 W' (fun k => okF w g k ∧ some k ≠ v.ownBlock) A ys.length ys ∧ ys.length ≤ c := by
 have h2 := Kd.R_reads' ho
 have h3 := Kd.R_F (Kd.R_mono (Kd.R_bound ho) (ok' := fun k => okF w g k ∧ some k ≠ v.ownBlock) (fun k hk => ⟨⟨Nat.le_trans h.old.size hk.2.1, by have := za_ h.blk; have := hk.2.1; omega⟩, fun he => by have := Kd.N_lt h.row k he.symm; have := hk.2.1; omega⟩))
 rw [h2.1] at h3
 exact ⟨h3, by omega⟩
theorem ng_ (b : Nat) (t : Int) (h : 0 ≤ t ∧ t < 5) (W : World) (hb : W.heap[b]? = some (.cells #[.string (⟨#[111, 110, 101]⟩ : BA), .string (⟨#[120, 32, 121]⟩ : BA), .string (⟨#[195, 164]⟩ : BA), .string (⟨#[55, 117, 112]⟩ : BA), .string (⟨#[45]⟩ : BA)] 9 (0, 0))) : W.cell? ((⟨b, 0, none⟩ : Addr).add t.toNat) = some (.string (rdOf ByteArray.empty vd_ t)) := by
 have h5 : t = 0 ∨ t = 1 ∨ t = 2 ∨ t = 3 ∨ t = 4 := by omega
 rcases h5 with rfl | rfl | rfl | rfl | rfl
 ·exact ba_ hb 0
 ·exact ba_ hb 1
 ·exact ba_ hb 2
 ·exact ba_ hb 3
 exact ba_ hb 4
theorem bs_ (a0 a1 a2 a3 d4 t x3 xh : Int) (A4 : Option Addr) (c4 : Nat) (l : List Raw') (S : List S44) (res : List S56) (w : World) (hr : Kd.C k120 w A4 l.length l) (hc : l.length ≤ c4)
  (hS : l5_Sample.f a0 a1 = some S) (hSL : S.length = 3) (hres : l4_Rules.f 300 l 6 = some res) (h0 : a1 % 4 = d4) (h1 : a2 % 5 = t) (h2 : a3 % 3 = x3) (h3 : a3 % 100 = xh) :
  Calls Tryz.prog 13 #[.agg #[.int .i64 a0, .int .i64 a1, .int .i64 a2, .int .i64 a3, .slice A4 l.length c4, .bool true]] w fun e w' => ∃ v, e = .returned v ∧ Kd.N k44 44 w' w.heap.size (fun k => w.heap.size ≤ k) v (S ++ [⟨⟨#[120]⟩, -1, d4, nq_ t x3 xh, res, []⟩]) ∧ Below w.heap.size w w' := by
 have HW0 : Az (∀ W, Calls Tryz.prog 19 #[.int .i64 a1, .int .i64 4] W fun e w' => e = .returned (.int .i64 d4) ∧ Below W.heap.size W w') := ⟨fun W => h0 ▸ vh_ a1 4 W (by omega) (by omega)⟩
 have HW1 : Az (∀ W, Calls Tryz.prog 19 #[.int .i64 a2, .int .i64 5] W fun e w' => e = .returned (.int .i64 t) ∧ Below W.heap.size W w') := ⟨fun W => h1 ▸ vh_ a2 5 W (by omega) (by omega)⟩
 have HW2 : Az (∀ W, Calls Tryz.prog 19 #[.int .i64 a3, .int .i64 3] W fun e w' => e = .returned (.int .i64 x3) ∧ Below W.heap.size W w') := ⟨fun W => h2 ▸ vh_ a3 3 W (by omega) (by omega)⟩
 have HW3 : Az (∀ W, Calls Tryz.prog 19 #[.int .i64 a3, .int .i64 100] W fun e w' => e = .returned (.int .i64 xh) ∧ Below W.heap.size W w') := ⟨fun W => h3 ▸ vh_ a3 100 W (by omega) (by omega)⟩
 have HTB : Az (0 ≤ t ∧ t < 5) := ⟨by omega⟩
 have ht0 : 0 ≤ t := HTB.out.1
 have ht5 : t < 5 := HTB.out.2
 have HC := aM_ hr
 have HLC := aM_ hc
 have HRES := aM_ hres
 have HSS := aM_ hS
 have HSL := aM_ hSL
 have hu1 := Tryz.underlying24
 have hu2 := Tryz.underlying46
 have hu3 := Tryz.underlying44
 clear hr hc hS hSL hres h0 h1 h2 h3
 have HBK : Az ((w.alloc (.cells #[.int .i64 a0, .int .i64 a1, .int .i64 a2, .int .i64 a3, .slice A4 l.length c4, .bool true] 24)).heap[w.heap.size]? = some (.cells #[.int .i64 a0, .int .i64 a1, .int .i64 a2, .int .i64 a3, .slice A4 l.length c4, .bool true] 24 (0, 0))) := ⟨ra_ w _⟩
 have HB1 : Az (Below w.heap.size w (w.alloc (.cells #[.int .i64 a0, .int .i64 a1, .int .i64 a2, .int .i64 a3, .slice A4 l.length c4, .bool true] 24))) := ⟨aa_ (Below.refl _ _) _⟩
 go_enter Tryz.func13, Tryz.ntmps13
 go_wp2_with fail
 generalize w.alloc (.cells #[.int .i64 a0, .int .i64 a1, .int .i64 a2, .int .i64 a3, .slice A4 l.length c4, .bool true] 24) = W1 at *
 generalize hgg : w.heap.size = g at *
 have hc0 : W1.cell? ⟨g, 0, none⟩ = some (.int .i64 a0) := ba_ HBK.out 0
 have hc1 : W1.cell? ⟨g, 1, none⟩ = some (.int .i64 a1) := ba_ HBK.out 1
 go_wp2_with fail
 have HGG := aM_ hgg
 clear hgg
 refine (l5_Sample.calls a0 a1 S W1 HSS.out).mono ?_
 rintro e W2 ⟨vs, rfl, hN, hb⟩
 obtain ⟨As, cs, hvs⟩ := Kd.N_slice hN
 subst hvs
 have hBw : Below w.heap.size w W1 := by rw [HGG.out]; exact HB1.out
 have hgW := za_ HBK.out
 have HF : Az (MkF w g #[.int .i64 a0, .int .i64 a1, .int .i64 a2, .int .i64 a3, .slice A4 l.length c4, .bool true] (.slice As S.length cs) S W2) := ⟨⟨Kd.N_mono (Kd.N_lower hN hBw.size) (fun k hk => ⟨Nat.le_trans hBw.size hk, by omega⟩), oa_ HBK.out hb, fa_ hBw hb⟩⟩
 clear hBw hgW
 have hc5 : W2.cell? ⟨g, 5, none⟩ = some (.bool true) := ba_ HF.out.blk 5
 clear hN hb HBK HB1 hc0 hc1
 go_wp2_with fail
 generalize W2 = W5 at *
 refine wd_ (n := 28) (S := fun w' => w'.heap[g]? = some (.cells #[.int .i64 a0, .int .i64 a1, .int .i64 a2, .int .i64 a3, .slice A4 l.length c4, .bool true] 24 (0, 0)) ∧ w'.heap[g]? = some (.cells #[.int .i64 a0, .int .i64 a1, .int .i64 a2, .int .i64 a3, .slice A4 l.length c4, .bool true] 24 (0, 0))) (ds := []) (f_ 28 0) (by kernel_rfl) rfl rfl ⟨HF.out.blk, HF.out.blk⟩ (fun hHeld => ?_)
 replace HF := aM_ (MkF.step HF.out (ga_ (Below.refl W5.heap.size W5)))
 generalize W5.drew = W9 at *
 refine pU_ 0 11 ?_ (f_ 28 1) rfl rfl (by kernel_rfl) (fun _ _ _ h => h) (by rfl) ?_ ?_ ?_ ?_
 rotate_left
 ·intro w'
  go_simp; try with_reducible rfl
 rotate_left
 ·simp only [Act.put, s1_, s2_, s3_, ia_, ja_]
  rfl
 refine pU_ 1 12 ?_ (f_ 28 2) rfl rfl (by kernel_rfl) (fun _ _ _ h => h) (by rfl) ?_ ?_ ?_ ?_
 rotate_left
 ·intro w'
  go_simp; try with_reducible rfl
 rotate_left
 ·simp only [Act.put, s1_, s2_, s3_, ia_, ja_]
  rfl
 refine tA_ 2 13 ?_ (f_ 28 3) rfl rfl (by kernel_rfl) (fun _ _ _ h => h) (by rfl) ?_ hHeld ?_ ?_ ?_
 rotate_left
 ·rintro w' ⟨s0, s1⟩
  have c0 := ba_ s0 0; have c1 := ba_ s0 1; have c2 := ba_ s0 2; have c3 := ba_ s0 3; have c4 := ba_ s0 4; go_simp; try with_reducible rfl
 rotate_left
 ·simp only [Act.put, s1_, s2_, s3_, ia_, ja_]
  rfl
 refine pU_ 4 15 ?_ #[true, true, true, false, true, false, false, false, false, false, false, false, false, false, false, false, false, false, false, false, false, false, false, false, false, false, false, false] rfl rfl (by kernel_rfl) (fun _ _ _ h => h) (by rfl) ?_ ?_ ?_ ?_
 rotate_left
 ·intro w'
  go_simp; try with_reducible rfl
 rotate_left
 ·simp only [Act.put, s1_, s2_, s3_, ia_, ja_]
  rfl
 refine tA_ 5 16 ?_ #[true, true, true, false, true, true, false, false, false, false, false, false, false, false, false, false, false, false, false, false, false, false, false, false, false, false, false, false] rfl rfl (by kernel_rfl) (fun _ _ _ h => h) (by rfl) ?_ hHeld ?_ ?_ ?_
 rotate_left
 ·rintro w' ⟨s0, s1⟩
  have c0 := ba_ s0 0; have c1 := ba_ s0 1; have c2 := ba_ s0 2; have c3 := ba_ s0 3; have c4 := ba_ s0 4; go_simp; try with_reducible rfl
 rotate_left
 ·simp only [Act.put, s1_, s2_, s3_, ia_, ja_]
  rfl
 refine pU_ 8 19 ?_ #[true, true, true, false, true, true, false, false, true, false, false, false, false, false, false, false, false, false, false, false, false, false, false, false, false, false, false, false] rfl rfl (by kernel_rfl) (fun _ _ _ h => h) (by rfl) ?_ ?_ ?_ ?_
 rotate_left
 ·intro w'
  go_simp; try with_reducible rfl
 rotate_left
 ·simp only [Act.put, s1_, s2_, s3_, ia_, ja_]
  rfl
 refine tA_ 9 20 ?_ #[true, true, true, false, true, true, false, false, true, true, false, false, false, false, false, false, false, false, false, false, false, false, false, false, false, false, false, false] rfl rfl (by kernel_rfl) (fun _ _ _ h => h) (by rfl) ?_ hHeld ?_ ?_ ?_
 rotate_left
 ·rintro w' ⟨s0, s1⟩
  have c0 := ba_ s0 0; have c1 := ba_ s0 1; have c2 := ba_ s0 2; have c3 := ba_ s0 3; have c4 := ba_ s0 4; go_simp; try with_reducible rfl
 rotate_left
 ·simp only [Act.put, s1_, s2_, s3_, ia_, ja_]
  rfl
 refine pU_ 13 24 ?_ #[true, true, true, false, true, true, false, false, true, true, false, false, false, true, false, false, false, false, false, false, false, false, false, false, false, false, false, false] rfl rfl (by kernel_rfl) (fun _ _ _ h => h) (by rfl) ?_ ?_ ?_ ?_
 rotate_left
 ·intro w'
  go_simp; try with_reducible rfl
 rotate_left
 ·simp only [Act.put, s1_, s2_, s3_, ia_, ja_]
  rfl
 refine tA_ 14 25 ?_ #[true, true, true, false, true, true, false, false, true, true, false, false, false, true, true, false, false, false, false, false, false, false, false, false, false, false, false, false] rfl rfl (by kernel_rfl) (fun _ _ _ h => h) (by rfl) ?_ hHeld ?_ ?_ ?_
 rotate_left
 ·rintro w' ⟨s0, s1⟩
  have c0 := ba_ s0 0; have c1 := ba_ s0 1; have c2 := ba_ s0 2; have c3 := ba_ s0 3; have c4 := ba_ s0 4; go_simp; try with_reducible rfl
 rotate_left
 ·simp only [Act.put, s1_, s2_, s3_, ia_, ja_]
  rfl
 refine pU_ 17 28 ?_ #[true, true, true, false, true, true, false, false, true, true, false, false, false, true, true, false, false, true, false, false, false, false, false, false, false, false, false, false] rfl rfl (by kernel_rfl) (fun _ _ _ h => h) (by rfl) ?_ ?_ ?_ ?_
 rotate_left
 ·intro w'
  go_simp; try with_reducible rfl
 rotate_left
 ·simp only [Act.put, s1_, s2_, s3_, ia_, ja_]
  rfl
 refine tA_ 18 29 ?_ #[true, true, true, false, true, true, false, false, true, true, false, false, false, true, true, false, false, true, true, false, false, false, false, false, false, false, false, false] rfl rfl (by kernel_rfl) (fun _ _ _ h => h) (by rfl) ?_ hHeld ?_ ?_ ?_
 rotate_left
 ·rintro w' ⟨s0, s1⟩
  have c0 := ba_ s0 0; have c1 := ba_ s0 1; have c2 := ba_ s0 2; have c3 := ba_ s0 3; have c4 := ba_ s0 4; go_simp; try with_reducible rfl
 rotate_left
 ·simp only [Act.put, s1_, s2_, s3_, ia_, ja_]
  rfl
 refine pU_ 22 33 ?_ #[true, true, true, false, true, true, false, false, true, true, false, false, false, true, true, false, false, true, true, false, false, false, true, false, false, false, false, false] rfl rfl (by kernel_rfl) (fun _ _ _ h => h) (by rfl) ?_ ?_ ?_ ?_
 rotate_left
 ·intro w'
  go_simp; try with_reducible rfl
 rotate_left
 ·simp only [Act.put, s1_, s2_, s3_, ia_, ja_]
  rfl
 focus
  refine two_ (i := 3) (j := 7) (Ni := some 14) (Nj := some 18) #[true, true, true, true, true, true, false, false, true, true, false, false, false, true, true, false, false, true, true, false, false, false, true, false, false, false, false, false] #[true, true, true, false, true, true, false, true, true, true, false, false, false, true, true, false, false, true, true, false, false, false, true, false, false, false, false, false] rfl rfl rfl rfl (by kernel_rfl) (by decide) (by decide) (fun K hK => ?_) (fun K hK => ?_); rotate_left
  focus
   refine hd_ (w1 := ?_) (v := ?_) (by rfl) rfl ?_ ?_; rotate_left 2
   ·go_simp
    constructor
    ·rfl
    rfl
   have HT := aM_ (ra_ W9 (.cells #[.string (⟨#[111, 110, 101]⟩ : BA), .string (⟨#[120, 32, 121]⟩ : BA), .string (⟨#[195, 164]⟩ : BA), .string (⟨#[55, 117, 112]⟩ : BA), .string (⟨#[45]⟩ : BA)] 9)); replace HF := aM_ (MkF.step HF.out (aa_ (Below.refl W9.heap.size W9) (.cells #[.string (⟨#[111, 110, 101]⟩ : BA), .string (⟨#[120, 32, 121]⟩ : BA), .string (⟨#[195, 164]⟩ : BA), .string (⟨#[55, 117, 112]⟩ : BA), .string (⟨#[45]⟩ : BA)] 9))); refine hK.out _ _ ⟨HF.out.blk, HF.out.blk⟩ (fun hHeld => ?_); clear hK K hHeld; refine wa_ (a' := ?_) ?_ ?_; rotate_left
   ·show Act.put _ (some 18) _ = _
    simp only [Act.put, s1_, s2_, s3_, ia_, ja_]; rfl
   generalize W9.alloc (.cells #[.string (⟨#[111, 110, 101]⟩ : BA), .string (⟨#[120, 32, 121]⟩ : BA), .string (⟨#[195, 164]⟩ : BA), .string (⟨#[55, 117, 112]⟩ : BA), .string (⟨#[45]⟩ : BA)] 9) = W8 at *; generalize hbn : W9.heap.size = b at *; have HSC := ng_ b t HTB.out; generalize (⟨b, 0, none⟩ : Addr) = ad at *; have hHeld : W8.heap[g]? = some (.cells #[.int .i64 a0, .int .i64 a1, .int .i64 a2, .int .i64 a3, .slice A4 l.length c4, .bool true] 24 (0, 0)) ∧ W8.cell? (ad.add t.toNat) = some (.string (rdOf ByteArray.empty vd_ t)) := ⟨HF.out.blk, HSC _ HT.out⟩; refine oe_ (S' := fun w' => w'.heap[g]? = some (.cells #[.int .i64 a0, .int .i64 a1, .int .i64 a2, .int .i64 a3, .slice A4 l.length c4, .bool true] 24 (0, 0)) ∧ w'.cell? (ad.add t.toNat) = some (.string (rdOf ByteArray.empty vd_ t))) (fun _ h => ⟨h.1, h.1⟩) _ _ _ _ hHeld ?_; clear hbn
  rotate_left
  focus
   refine wb_ Tryz.func19 (by kernel_rfl) rfl #[.int .i64 a1, .int .i64 4] (by rfl) rfl rfl (by (try simp only [List.map_toArray, List.map_cons, List.map_nil]); rfl) ?_
   refine (HW0.out _).mono ?_; rintro e W9 ⟨rfl, hb⟩; replace HF := aM_ (MkF.step HF.out hb); clear hb; refine ⟨_, rfl, ?_⟩; refine hK.out _ _ ⟨HF.out.blk, HF.out.blk⟩ (fun hHeld => ?_); clear hK K; refine wa_ (a' := ?_) ?_ ?_; rotate_left; show Act.put _ (some 14) _ = _; simp only [Act.put, s1_, s2_, s3_, ia_, ja_]; rfl
 all_goals try
  refine one_ (i := 3) (N := some 14) #[true, true, true, true, true, true, false, true, true, true, false, false, false, true, true, false, false, true, true, false, false, false, true, false, false, false, false, false] rfl rfl (by kernel_rfl) (by decide) (fun K hK => ?_); refine wb_ Tryz.func19 (by kernel_rfl) rfl #[.int .i64 a1, .int .i64 4] (by rfl) rfl rfl (by (try simp only [List.map_toArray, List.map_cons, List.map_nil]); rfl) ?_
  refine (HW0.out _).mono ?_; rintro e W9 ⟨rfl, hb⟩; replace HF := aM_ (MkF.step HF.out hb); replace HT := aM_ (oa_ HT.out hb); clear hb; refine ⟨_, rfl, ?_⟩; refine hK.out _ _ ⟨HF.out.blk, HSC _ HT.out⟩ (fun hHeld => ?_); clear hK K; refine wa_ (a' := ?_) ?_ ?_; rotate_left; show Act.put _ (some 14) _ = _; simp only [Act.put, s1_, s2_, s3_, ia_, ja_]; rfl
 focus
  refine two_ (i := 6) (j := 7) (Ni := some 17) (Nj := some 18) #[true, true, true, true, true, true, true, false, true, true, false, false, false, true, true, false, false, true, true, false, false, false, true, false, false, false, false, false] #[true, true, true, true, true, true, false, true, true, true, false, false, false, true, true, false, false, true, true, false, false, false, true, false, false, false, false, false] rfl rfl rfl rfl (by kernel_rfl) (by decide) (by decide) (fun K hK => ?_) (fun K hK => ?_); rotate_left
  focus
   refine hd_ (w1 := ?_) (v := ?_) (by rfl) rfl ?_ ?_; rotate_left 2
   ·go_simp
    constructor
    ·rfl
    rfl
   have HT := aM_ (ra_ W9 (.cells #[.string (⟨#[111, 110, 101]⟩ : BA), .string (⟨#[120, 32, 121]⟩ : BA), .string (⟨#[195, 164]⟩ : BA), .string (⟨#[55, 117, 112]⟩ : BA), .string (⟨#[45]⟩ : BA)] 9)); replace HF := aM_ (MkF.step HF.out (aa_ (Below.refl W9.heap.size W9) (.cells #[.string (⟨#[111, 110, 101]⟩ : BA), .string (⟨#[120, 32, 121]⟩ : BA), .string (⟨#[195, 164]⟩ : BA), .string (⟨#[55, 117, 112]⟩ : BA), .string (⟨#[45]⟩ : BA)] 9))); refine hK.out _ _ ⟨HF.out.blk, HF.out.blk⟩ (fun hHeld => ?_); clear hK K hHeld; refine wa_ (a' := ?_) ?_ ?_; rotate_left
   ·show Act.put _ (some 18) _ = _
    simp only [Act.put, s1_, s2_, s3_, ia_, ja_]; rfl
   generalize W9.alloc (.cells #[.string (⟨#[111, 110, 101]⟩ : BA), .string (⟨#[120, 32, 121]⟩ : BA), .string (⟨#[195, 164]⟩ : BA), .string (⟨#[55, 117, 112]⟩ : BA), .string (⟨#[45]⟩ : BA)] 9) = W8 at *; generalize hbn : W9.heap.size = b at *; have HSC := ng_ b t HTB.out; generalize (⟨b, 0, none⟩ : Addr) = ad at *; have hHeld : W8.heap[g]? = some (.cells #[.int .i64 a0, .int .i64 a1, .int .i64 a2, .int .i64 a3, .slice A4 l.length c4, .bool true] 24 (0, 0)) ∧ W8.cell? (ad.add t.toNat) = some (.string (rdOf ByteArray.empty vd_ t)) := ⟨HF.out.blk, HSC _ HT.out⟩; refine oe_ (S' := fun w' => w'.heap[g]? = some (.cells #[.int .i64 a0, .int .i64 a1, .int .i64 a2, .int .i64 a3, .slice A4 l.length c4, .bool true] 24 (0, 0)) ∧ w'.cell? (ad.add t.toNat) = some (.string (rdOf ByteArray.empty vd_ t))) (fun _ h => ⟨h.1, h.1⟩) _ _ _ _ hHeld ?_; clear hbn
  rotate_left
  focus
   refine wb_ Tryz.func32 (by kernel_rfl) rfl #[.slice A4 l.length c4, .int .i64 6] (by rfl) rfl rfl (by (try simp only [List.map_toArray, List.map_cons, List.map_nil]); rfl) ?_
   refine (l4_Rules.calls 300 A4 c4 l 6 res _ (Kd.C_below HC.out HF.out.old) HLC.out HRES.out).mono ?_; rintro e W9 ⟨vr, rfl, hN, hb⟩; obtain ⟨A7, c7, hvr⟩ := Kd.N_slice hN; subst hvr; have HU := aM_ (RuF.of HF.out hN); clear hN; replace HF := aM_ (MkF.step HF.out hb); clear hb; refine ⟨_, rfl, ?_⟩; refine hK.out _ _ ⟨HF.out.blk, HF.out.blk⟩ (fun hHeld => ?_); clear hK K; refine wa_ (a' := ?_) ?_ ?_; rotate_left; show Act.put _ (some 17) _ = _; simp only [Act.put, s1_, s2_, s3_, ia_, ja_]; rfl
 all_goals try
  refine one_ (i := 6) (N := some 17) #[true, true, true, true, true, true, true, true, true, true, false, false, false, true, true, false, false, true, true, false, false, false, true, false, false, false, false, false] rfl rfl (by kernel_rfl) (by decide) (fun K hK => ?_); refine wb_ Tryz.func32 (by kernel_rfl) rfl #[.slice A4 l.length c4, .int .i64 6] (by rfl) rfl rfl (by (try simp only [List.map_toArray, List.map_cons, List.map_nil]); rfl) ?_
  refine (l4_Rules.calls 300 A4 c4 l 6 res _ (Kd.C_below HC.out HF.out.old) HLC.out HRES.out).mono ?_; rintro e W9 ⟨vr, rfl, hN, hb⟩; obtain ⟨A7, c7, hvr⟩ := Kd.N_slice hN; subst hvr; have HU := aM_ (RuF.of HF.out hN); clear hN; replace HF := aM_ (MkF.step HF.out hb); replace HT := aM_ (oa_ HT.out hb); clear hb; refine ⟨_, rfl, ?_⟩; refine hK.out _ _ ⟨HF.out.blk, HSC _ HT.out⟩ (fun hHeld => ?_); clear hK K; refine wa_ (a' := ?_) ?_ ?_; rotate_left; show Act.put _ (some 17) _ = _; simp only [Act.put, s1_, s2_, s3_, ia_, ja_]; rfl
 focus
  refine two_ (i := 7) (j := 10) (Ni := some 18) (Nj := some 21) #[true, true, true, true, true, true, true, true, true, true, false, false, false, true, true, false, false, true, true, false, false, false, true, false, false, false, false, false] #[true, true, true, true, true, true, true, false, true, true, true, false, false, true, true, false, false, true, true, false, false, false, true, false, false, false, false, false] rfl rfl rfl rfl (by kernel_rfl) (by decide) (by decide) (fun K hK => ?_) (fun K hK => ?_)
  focus
   refine hd_ (w1 := ?_) (v := ?_) (by rfl) rfl ?_ ?_; rotate_left 2
   ·go_simp
    constructor
    ·rfl
    rfl
   have HT := aM_ (ra_ W9 (.cells #[.string (⟨#[111, 110, 101]⟩ : BA), .string (⟨#[120, 32, 121]⟩ : BA), .string (⟨#[195, 164]⟩ : BA), .string (⟨#[55, 117, 112]⟩ : BA), .string (⟨#[45]⟩ : BA)] 9)); replace HF := aM_ (MkF.step HF.out (aa_ (Below.refl W9.heap.size W9) (.cells #[.string (⟨#[111, 110, 101]⟩ : BA), .string (⟨#[120, 32, 121]⟩ : BA), .string (⟨#[195, 164]⟩ : BA), .string (⟨#[55, 117, 112]⟩ : BA), .string (⟨#[45]⟩ : BA)] 9))); replace HU := aM_ (RuF.step HU.out (aa_ (Below.refl W9.heap.size W9) (.cells #[.string (⟨#[111, 110, 101]⟩ : BA), .string (⟨#[120, 32, 121]⟩ : BA), .string (⟨#[195, 164]⟩ : BA), .string (⟨#[55, 117, 112]⟩ : BA), .string (⟨#[45]⟩ : BA)] 9))); refine hK.out _ _ ⟨HF.out.blk, HF.out.blk⟩ (fun hHeld => ?_); clear hK K hHeld; refine wa_ (a' := ?_) ?_ ?_; rotate_left
   ·show Act.put _ (some 18) _ = _
    simp only [Act.put, s1_, s2_, s3_, ia_, ja_]; rfl
   generalize W9.alloc (.cells #[.string (⟨#[111, 110, 101]⟩ : BA), .string (⟨#[120, 32, 121]⟩ : BA), .string (⟨#[195, 164]⟩ : BA), .string (⟨#[55, 117, 112]⟩ : BA), .string (⟨#[45]⟩ : BA)] 9) = W8 at *; generalize hbn : W9.heap.size = b at *; have HSC := ng_ b t HTB.out; generalize (⟨b, 0, none⟩ : Addr) = ad at *; have hHeld : W8.heap[g]? = some (.cells #[.int .i64 a0, .int .i64 a1, .int .i64 a2, .int .i64 a3, .slice A4 l.length c4, .bool true] 24 (0, 0)) ∧ W8.cell? (ad.add t.toNat) = some (.string (rdOf ByteArray.empty vd_ t)) := ⟨HF.out.blk, HSC _ HT.out⟩; refine oe_ (S' := fun w' => w'.heap[g]? = some (.cells #[.int .i64 a0, .int .i64 a1, .int .i64 a2, .int .i64 a3, .slice A4 l.length c4, .bool true] 24 (0, 0)) ∧ w'.cell? (ad.add t.toNat) = some (.string (rdOf ByteArray.empty vd_ t))) (fun _ h => ⟨h.1, h.1⟩) _ _ _ _ hHeld ?_; clear hbn
  rotate_left
  focus
   refine wb_ Tryz.func19 (by kernel_rfl) rfl #[.int .i64 a2, .int .i64 5] (by rfl) rfl rfl (by (try simp only [List.map_toArray, List.map_cons, List.map_nil]); rfl) ?_
   refine (HW1.out _).mono ?_; rintro e W9 ⟨rfl, hb⟩; replace HU := aM_ (RuF.step HU.out hb); replace HF := aM_ (MkF.step HF.out hb); clear hb; refine ⟨_, rfl, ?_⟩; refine hK.out _ _ ⟨HF.out.blk, HF.out.blk⟩ (fun hHeld => ?_); clear hK K; refine wa_ (a' := ?_) ?_ ?_; rotate_left; show Act.put _ (some 21) _ = _; simp only [Act.put, s1_, s2_, s3_, ia_, ja_]; rfl
 all_goals try
  refine one_ (i := 10) (N := some 21) #[true, true, true, true, true, true, true, true, true, true, true, false, false, true, true, false, false, true, true, false, false, false, true, false, false, false, false, false] rfl rfl (by kernel_rfl) (by decide) (fun K hK => ?_); refine wb_ Tryz.func19 (by kernel_rfl) rfl #[.int .i64 a2, .int .i64 5] (by rfl) rfl rfl (by (try simp only [List.map_toArray, List.map_cons, List.map_nil]); rfl) ?_
  refine (HW1.out _).mono ?_; rintro e W9 ⟨rfl, hb⟩; replace HU := aM_ (RuF.step HU.out hb); replace HF := aM_ (MkF.step HF.out hb); replace HT := aM_ (oa_ HT.out hb); clear hb; refine ⟨_, rfl, ?_⟩; refine hK.out _ _ ⟨HF.out.blk, HSC _ HT.out⟩ (fun hHeld => ?_); clear hK K; refine wa_ (a' := ?_) ?_ ?_; rotate_left
  ·show Act.put _ (some 21) _ = _
   simp only [Act.put, s1_, s2_, s3_, ia_, ja_]; rfl
  refine pU_ 11 22 ?_ #[true, true, true, true, true, true, true, true, true, true, true, true, false, true, true, false, false, true, true, false, false, false, true, false, false, false, false, false] rfl rfl (by kernel_rfl) (fun _ _ _ h => h) (by rfl) ?_ ?_ ?_ ?_; rotate_left
  ·intro w'
   go_simp; try with_reducible rfl
  rotate_left
  ·simp only [Act.put, s1_, s2_, s3_, ia_, ja_]
   rfl
  refine tA_ 12 23 ?_ #[true, true, true, true, true, true, true, true, true, true, true, true, true, true, true, false, false, true, true, false, false, false, true, false, false, false, false, false] rfl rfl (by kernel_rfl) (fun _ _ _ h => h) (by rfl) ?_ hHeld ?_ ?_ ?_; rotate_left
  ·rintro w' ⟨s0, s1⟩
   go_simp; try with_reducible rfl
  rotate_left; simp only [Act.put, s1_, s2_, s3_, ia_, ja_]; rfl
 focus
  refine two_ (i := 7) (j := 15) (Ni := some 18) (Nj := some 26) #[true, true, true, true, true, true, true, true, true, true, true, false, false, true, true, false, false, true, true, false, false, false, true, false, false, false, false, false] #[true, true, true, true, true, true, true, false, true, true, true, false, false, true, true, true, false, true, true, false, false, false, true, false, false, false, false, false] rfl rfl rfl rfl (by kernel_rfl) (by decide) (by decide) (fun K hK => ?_) (fun K hK => ?_)
  focus
   refine hd_ (w1 := ?_) (v := ?_) (by rfl) rfl ?_ ?_; rotate_left 2
   ·go_simp
    constructor
    ·rfl
    rfl
   have HT := aM_ (ra_ W9 (.cells #[.string (⟨#[111, 110, 101]⟩ : BA), .string (⟨#[120, 32, 121]⟩ : BA), .string (⟨#[195, 164]⟩ : BA), .string (⟨#[55, 117, 112]⟩ : BA), .string (⟨#[45]⟩ : BA)] 9)); replace HF := aM_ (MkF.step HF.out (aa_ (Below.refl W9.heap.size W9) (.cells #[.string (⟨#[111, 110, 101]⟩ : BA), .string (⟨#[120, 32, 121]⟩ : BA), .string (⟨#[195, 164]⟩ : BA), .string (⟨#[55, 117, 112]⟩ : BA), .string (⟨#[45]⟩ : BA)] 9))); replace HU := aM_ (RuF.step HU.out (aa_ (Below.refl W9.heap.size W9) (.cells #[.string (⟨#[111, 110, 101]⟩ : BA), .string (⟨#[120, 32, 121]⟩ : BA), .string (⟨#[195, 164]⟩ : BA), .string (⟨#[55, 117, 112]⟩ : BA), .string (⟨#[45]⟩ : BA)] 9))); refine hK.out _ _ ⟨HF.out.blk, HF.out.blk⟩ (fun hHeld => ?_); clear hK K hHeld; refine wa_ (a' := ?_) ?_ ?_; rotate_left
   ·show Act.put _ (some 18) _ = _
    simp only [Act.put, s1_, s2_, s3_, ia_, ja_]; rfl
   generalize W9.alloc (.cells #[.string (⟨#[111, 110, 101]⟩ : BA), .string (⟨#[120, 32, 121]⟩ : BA), .string (⟨#[195, 164]⟩ : BA), .string (⟨#[55, 117, 112]⟩ : BA), .string (⟨#[45]⟩ : BA)] 9) = W8 at *; generalize hbn : W9.heap.size = b at *; have HSC := ng_ b t HTB.out; generalize (⟨b, 0, none⟩ : Addr) = ad at *; have hHeld : W8.heap[g]? = some (.cells #[.int .i64 a0, .int .i64 a1, .int .i64 a2, .int .i64 a3, .slice A4 l.length c4, .bool true] 24 (0, 0)) ∧ W8.cell? (ad.add t.toNat) = some (.string (rdOf ByteArray.empty vd_ t)) := ⟨HF.out.blk, HSC _ HT.out⟩; refine oe_ (S' := fun w' => w'.heap[g]? = some (.cells #[.int .i64 a0, .int .i64 a1, .int .i64 a2, .int .i64 a3, .slice A4 l.length c4, .bool true] 24 (0, 0)) ∧ w'.cell? (ad.add t.toNat) = some (.string (rdOf ByteArray.empty vd_ t))) (fun _ h => ⟨h.1, h.1⟩) _ _ _ _ hHeld ?_; clear hbn; refine pU_ 11 22 ?_ #[true, true, true, true, true, true, true, true, true, true, true, true, false, true, true, false, false, true, true, false, false, false, true, false, false, false, false, false] rfl rfl (by kernel_rfl) (fun _ _ _ h => h) (by rfl) ?_ ?_ ?_ ?_; rotate_left
   ·intro w'
    go_simp; try with_reducible rfl
   rotate_left
   ·simp only [Act.put, s1_, s2_, s3_, ia_, ja_]
    rfl
   refine tA_ 12 23 ?_ #[true, true, true, true, true, true, true, true, true, true, true, true, true, true, true, false, false, true, true, false, false, false, true, false, false, false, false, false] rfl rfl (by kernel_rfl) (fun _ _ _ h => h) (by rfl) ?_ hHeld ?_ ?_ ?_; rotate_left
   ·rintro w' ⟨s0, s1⟩
    go_simp; try with_reducible rfl
   rotate_left; simp only [Act.put, s1_, s2_, s3_, ia_, ja_]; rfl
  rotate_left
  focus
   refine wb_ Tryz.func19 (by kernel_rfl) rfl #[.int .i64 a3, .int .i64 3] (by rfl) rfl rfl (by (try simp only [List.map_toArray, List.map_cons, List.map_nil]); rfl) ?_
   refine (HW2.out _).mono ?_; rintro e W9 ⟨rfl, hb⟩; replace HU := aM_ (RuF.step HU.out hb); replace HF := aM_ (MkF.step HF.out hb); clear hb; refine ⟨_, rfl, ?_⟩; refine hK.out _ _ ⟨HF.out.blk, HF.out.blk⟩ (fun hHeld => ?_); clear hK K; refine wa_ (a' := ?_) ?_ ?_; rotate_left
   ·show Act.put _ (some 26) _ = _
    simp only [Act.put, s1_, s2_, s3_, ia_, ja_]; rfl
   refine pU_ 16 27 ?_ #[true, true, true, true, true, true, true, false, true, true, true, false, false, true, true, true, true, true, true, false, false, false, true, false, false, false, false, false] rfl rfl (by kernel_rfl) (fun _ _ _ h => h) (by rfl) ?_ ?_ ?_ ?_; rotate_left
   ·intro w'
    go_simp; try with_reducible rfl
   rotate_left; simp only [Act.put, s1_, s2_, s3_, ia_, ja_]; rfl
 all_goals try
  refine one_ (i := 15) (N := some 26) #[true, true, true, true, true, true, true, true, true, true, true, true, true, true, true, true, false, true, true, false, false, false, true, false, false, false, false, false] rfl rfl (by kernel_rfl) (by decide) (fun K hK => ?_); refine wb_ Tryz.func19 (by kernel_rfl) rfl #[.int .i64 a3, .int .i64 3] (by rfl) rfl rfl (by (try simp only [List.map_toArray, List.map_cons, List.map_nil]); rfl) ?_
  refine (HW2.out _).mono ?_; rintro e W9 ⟨rfl, hb⟩; replace HU := aM_ (RuF.step HU.out hb); replace HF := aM_ (MkF.step HF.out hb); replace HT := aM_ (oa_ HT.out hb); clear hb; refine ⟨_, rfl, ?_⟩; refine hK.out _ _ ⟨HF.out.blk, HSC _ HT.out⟩ (fun hHeld => ?_); clear hK K; refine wa_ (a' := ?_) ?_ ?_; rotate_left
  ·show Act.put _ (some 26) _ = _
   simp only [Act.put, s1_, s2_, s3_, ia_, ja_]; rfl
  refine pU_ 16 27 ?_ #[true, true, true, true, true, true, true, true, true, true, true, true, true, true, true, true, true, true, true, false, false, false, true, false, false, false, false, false] rfl rfl (by kernel_rfl) (fun _ _ _ h => h) (by rfl) ?_ ?_ ?_ ?_; rotate_left
  ·intro w'
   go_simp; try with_reducible rfl
  rotate_left; simp only [Act.put, s1_, s2_, s3_, ia_, ja_]; rfl
 focus
  refine two_ (i := 7) (j := 19) (Ni := some 18) (Nj := some 30) #[true, true, true, true, true, true, true, true, true, true, true, false, false, true, true, true, true, true, true, false, false, false, true, false, false, false, false, false] #[true, true, true, true, true, true, true, false, true, true, true, false, false, true, true, true, true, true, true, true, false, false, true, false, false, false, false, false] rfl rfl rfl rfl (by kernel_rfl) (by decide) (by decide) (fun K hK => ?_) (fun K hK => ?_)
  focus
   refine hd_ (w1 := ?_) (v := ?_) (by rfl) rfl ?_ ?_; rotate_left 2
   ·go_simp
    constructor
    ·rfl
    rfl
   have HT := aM_ (ra_ W9 (.cells #[.string (⟨#[111, 110, 101]⟩ : BA), .string (⟨#[120, 32, 121]⟩ : BA), .string (⟨#[195, 164]⟩ : BA), .string (⟨#[55, 117, 112]⟩ : BA), .string (⟨#[45]⟩ : BA)] 9)); replace HF := aM_ (MkF.step HF.out (aa_ (Below.refl W9.heap.size W9) (.cells #[.string (⟨#[111, 110, 101]⟩ : BA), .string (⟨#[120, 32, 121]⟩ : BA), .string (⟨#[195, 164]⟩ : BA), .string (⟨#[55, 117, 112]⟩ : BA), .string (⟨#[45]⟩ : BA)] 9))); replace HU := aM_ (RuF.step HU.out (aa_ (Below.refl W9.heap.size W9) (.cells #[.string (⟨#[111, 110, 101]⟩ : BA), .string (⟨#[120, 32, 121]⟩ : BA), .string (⟨#[195, 164]⟩ : BA), .string (⟨#[55, 117, 112]⟩ : BA), .string (⟨#[45]⟩ : BA)] 9))); refine hK.out _ _ ⟨HF.out.blk, HF.out.blk⟩ (fun hHeld => ?_); clear hK K hHeld; refine wa_ (a' := ?_) ?_ ?_; rotate_left
   ·show Act.put _ (some 18) _ = _
    simp only [Act.put, s1_, s2_, s3_, ia_, ja_]; rfl
   generalize W9.alloc (.cells #[.string (⟨#[111, 110, 101]⟩ : BA), .string (⟨#[120, 32, 121]⟩ : BA), .string (⟨#[195, 164]⟩ : BA), .string (⟨#[55, 117, 112]⟩ : BA), .string (⟨#[45]⟩ : BA)] 9) = W8 at *; generalize hbn : W9.heap.size = b at *; have HSC := ng_ b t HTB.out; generalize (⟨b, 0, none⟩ : Addr) = ad at *; have hHeld : W8.heap[g]? = some (.cells #[.int .i64 a0, .int .i64 a1, .int .i64 a2, .int .i64 a3, .slice A4 l.length c4, .bool true] 24 (0, 0)) ∧ W8.cell? (ad.add t.toNat) = some (.string (rdOf ByteArray.empty vd_ t)) := ⟨HF.out.blk, HSC _ HT.out⟩; refine oe_ (S' := fun w' => w'.heap[g]? = some (.cells #[.int .i64 a0, .int .i64 a1, .int .i64 a2, .int .i64 a3, .slice A4 l.length c4, .bool true] 24 (0, 0)) ∧ w'.cell? (ad.add t.toNat) = some (.string (rdOf ByteArray.empty vd_ t))) (fun _ h => ⟨h.1, h.1⟩) _ _ _ _ hHeld ?_; clear hbn; refine pU_ 11 22 ?_ #[true, true, true, true, true, true, true, true, true, true, true, true, false, true, true, true, true, true, true, false, false, false, true, false, false, false, false, false] rfl rfl (by kernel_rfl) (fun _ _ _ h => h) (by rfl) ?_ ?_ ?_ ?_; rotate_left
   ·intro w'
    go_simp; try with_reducible rfl
   rotate_left
   ·simp only [Act.put, s1_, s2_, s3_, ia_, ja_]
    rfl
   refine tA_ 12 23 ?_ #[true, true, true, true, true, true, true, true, true, true, true, true, true, true, true, true, true, true, true, false, false, false, true, false, false, false, false, false] rfl rfl (by kernel_rfl) (fun _ _ _ h => h) (by rfl) ?_ hHeld ?_ ?_ ?_; rotate_left
   ·rintro w' ⟨s0, s1⟩
    go_simp; try with_reducible rfl
   rotate_left; simp only [Act.put, s1_, s2_, s3_, ia_, ja_]; rfl
  rotate_left
  focus
   refine wb_ Tryz.func19 (by kernel_rfl) rfl #[.int .i64 a3, .int .i64 100] (by rfl) rfl rfl (by (try simp only [List.map_toArray, List.map_cons, List.map_nil]); rfl) ?_
   refine (HW3.out _).mono ?_; rintro e W9 ⟨rfl, hb⟩; replace HU := aM_ (RuF.step HU.out hb); replace HF := aM_ (MkF.step HF.out hb); clear hb; refine ⟨_, rfl, ?_⟩; refine hK.out _ _ ⟨HF.out.blk, HF.out.blk⟩ (fun hHeld => ?_); clear hK K; refine wa_ (a' := ?_) ?_ ?_; rotate_left
   ·show Act.put _ (some 30) _ = _
    simp only [Act.put, s1_, s2_, s3_, ia_, ja_]; rfl
   refine pU_ 20 31 ?_ #[true, true, true, true, true, true, true, false, true, true, true, false, false, true, true, true, true, true, true, true, true, false, true, false, false, false, false, false] rfl rfl (by kernel_rfl) (fun _ _ _ h => h) (by rfl) ?_ ?_ ?_ ?_; rotate_left
   ·intro w'
    go_simp; try with_reducible rfl
   rotate_left; simp only [Act.put, s1_, s2_, s3_, ia_, ja_]; rfl
 all_goals try
  refine one_ (i := 19) (N := some 30) #[true, true, true, true, true, true, true, true, true, true, true, true, true, true, true, true, true, true, true, true, false, false, true, false, false, false, false, false] rfl rfl (by kernel_rfl) (by decide) (fun K hK => ?_); refine wb_ Tryz.func19 (by kernel_rfl) rfl #[.int .i64 a3, .int .i64 100] (by rfl) rfl rfl (by (try simp only [List.map_toArray, List.map_cons, List.map_nil]); rfl) ?_
  refine (HW3.out _).mono ?_; rintro e W9 ⟨rfl, hb⟩; replace HU := aM_ (RuF.step HU.out hb); replace HF := aM_ (MkF.step HF.out hb); replace HT := aM_ (oa_ HT.out hb); clear hb; refine ⟨_, rfl, ?_⟩; refine hK.out _ _ ⟨HF.out.blk, HSC _ HT.out⟩ (fun hHeld => ?_); clear hK K; refine wa_ (a' := ?_) ?_ ?_; rotate_left
  ·show Act.put _ (some 30) _ = _
   simp only [Act.put, s1_, s2_, s3_, ia_, ja_]; rfl
  refine pU_ 20 31 ?_ #[true, true, true, true, true, true, true, true, true, true, true, true, true, true, true, true, true, true, true, true, true, false, true, false, false, false, false, false] rfl rfl (by kernel_rfl) (fun _ _ _ h => h) (by rfl) ?_ ?_ ?_ ?_; rotate_left
  ·intro w'
   go_simp; try with_reducible rfl
  rotate_left
  ·simp only [Act.put, s1_, s2_, s3_, ia_, ja_]
   rfl
  refine pU_ 21 32 ?_ (f_ 28 23) rfl rfl (by kernel_rfl) (fun _ _ _ h => h) (by rfl) ?_ ?_ ?_ ?_; rotate_left
  ·intro w'
   go_simp; try with_reducible rfl
  rotate_left; simp only [Act.put, s1_, s2_, s3_, ia_, ja_]; rfl
 focus
  refine one_ (i := 7) (N := some 18) #[true, true, true, true, true, true, true, true, true, true, true, false, false, true, true, true, true, true, true, true, true, false, true, false, false, false, false, false] rfl rfl (by kernel_rfl) (by decide) (fun K hK => ?_); refine hd_ (w1 := ?_) (v := ?_) (by rfl) rfl ?_ ?_; rotate_left 2
  ·go_simp
   constructor
   ·rfl
   rfl
  have HT := aM_ (ra_ W9 (.cells #[.string (⟨#[111, 110, 101]⟩ : BA), .string (⟨#[120, 32, 121]⟩ : BA), .string (⟨#[195, 164]⟩ : BA), .string (⟨#[55, 117, 112]⟩ : BA), .string (⟨#[45]⟩ : BA)] 9)); replace HF := aM_ (MkF.step HF.out (aa_ (Below.refl W9.heap.size W9) (.cells #[.string (⟨#[111, 110, 101]⟩ : BA), .string (⟨#[120, 32, 121]⟩ : BA), .string (⟨#[195, 164]⟩ : BA), .string (⟨#[55, 117, 112]⟩ : BA), .string (⟨#[45]⟩ : BA)] 9))); replace HU := aM_ (RuF.step HU.out (aa_ (Below.refl W9.heap.size W9) (.cells #[.string (⟨#[111, 110, 101]⟩ : BA), .string (⟨#[120, 32, 121]⟩ : BA), .string (⟨#[195, 164]⟩ : BA), .string (⟨#[55, 117, 112]⟩ : BA), .string (⟨#[45]⟩ : BA)] 9))); refine hK.out _ _ ⟨HF.out.blk, HF.out.blk⟩ (fun hHeld => ?_); clear hK K hHeld; refine wa_ (a' := ?_) ?_ ?_; rotate_left
  ·show Act.put _ (some 18) _ = _
   simp only [Act.put, s1_, s2_, s3_, ia_, ja_]; rfl
  generalize W9.alloc (.cells #[.string (⟨#[111, 110, 101]⟩ : BA), .string (⟨#[120, 32, 121]⟩ : BA), .string (⟨#[195, 164]⟩ : BA), .string (⟨#[55, 117, 112]⟩ : BA), .string (⟨#[45]⟩ : BA)] 9) = W8 at *; generalize hbn : W9.heap.size = b at *; have HSC := ng_ b t HTB.out; generalize (⟨b, 0, none⟩ : Addr) = ad at *; have hHeld : W8.heap[g]? = some (.cells #[.int .i64 a0, .int .i64 a1, .int .i64 a2, .int .i64 a3, .slice A4 l.length c4, .bool true] 24 (0, 0)) ∧ W8.cell? (ad.add t.toNat) = some (.string (rdOf ByteArray.empty vd_ t)) := ⟨HF.out.blk, HSC _ HT.out⟩; refine oe_ (S' := fun w' => w'.heap[g]? = some (.cells #[.int .i64 a0, .int .i64 a1, .int .i64 a2, .int .i64 a3, .slice A4 l.length c4, .bool true] 24 (0, 0)) ∧ w'.cell? (ad.add t.toNat) = some (.string (rdOf ByteArray.empty vd_ t))) (fun _ h => ⟨h.1, h.1⟩) _ _ _ _ hHeld ?_; clear hbn; refine pU_ 11 22 ?_ #[true, true, true, true, true, true, true, true, true, true, true, true, false, true, true, true, true, true, true, true, true, false, true, false, false, false, false, false] rfl rfl (by kernel_rfl) (fun _ _ _ h => h) (by rfl) ?_ ?_ ?_ ?_; rotate_left
  ·intro w'
   go_simp; try with_reducible rfl
  rotate_left
  ·simp only [Act.put, s1_, s2_, s3_, ia_, ja_]
   rfl
  refine tA_ 12 23 ?_ #[true, true, true, true, true, true, true, true, true, true, true, true, true, true, true, true, true, true, true, true, true, false, true, false, false, false, false, false] rfl rfl (by kernel_rfl) (fun _ _ _ h => h) (by rfl) ?_ hHeld ?_ ?_ ?_; rotate_left
  ·rintro w' ⟨s0, s1⟩
   go_simp; try with_reducible rfl
  rotate_left
  ·simp only [Act.put, s1_, s2_, s3_, ia_, ja_]
   rfl
  refine pU_ 21 32 ?_ (f_ 28 23) rfl rfl (by kernel_rfl) (fun _ _ _ h => h) (by rfl) ?_ ?_ ?_ ?_; rotate_left
  ·intro w'
   go_simp; try with_reducible rfl
  rotate_left; simp only [Act.put, s1_, s2_, s3_, ia_, ja_]; rfl
 all_goals
 all_goals
  refine one_ (i := 23) (N := some 34) (f_ 28 24) rfl rfl (by kernel_rfl) (by decide) (fun K hK => ?_); refine Kd.R_lit_step k46 _ 46 ?hg (N := 34) ?hd (xs := ([(⟨rdOf ByteArray.empty vd_ t, wrap64 (1 + x3), wrap64 (xh - 5)⟩ : S46), (⟨(⟨#[116, 119, 111]⟩ : BA), 2, 2⟩ : S46)] : List S46)) (inner := [.string (rdOf ByteArray.empty vd_ t), .int .i64 (wrap64 (1 + x3)), .int .i64 (wrap64 (xh - 5)), .string (⟨#[116, 119, 111]⟩ : BA), .int .i64 2, .int .i64 2]) (ok := fun _ => True) (okp := fun _ => True) ?hr ?hp (fun _ hk => hk) trivial (Below.refl _ _) (Nat.le_refl _) (by simp) ?_; (case hd => rfl); (case hg => rfl); (case hr => first | (go_simp; done) | (go_simp; rfl)); (case hp => exact (Reps.c3 (show Kd.M k46 _ _ _ (⟨rdOf ByteArray.empty vd_ t, wrap64 (1 + x3), wrap64 (xh - 5)⟩ : S46) [.string (rdOf ByteArray.empty vd_ t), .int .i64 (wrap64 (1 + x3)), .int .i64 (wrap64 (xh - 5))] from (oc_ _ _ _ (⟨rdOf ByteArray.empty vd_ t, wrap64 (1 + x3), wrap64 (xh - 5)⟩ : S46))) (Reps.c3 (show Kd.M k46 _ _ _ (⟨(⟨#[116, 119, 111]⟩ : BA), 2, 2⟩ : S46) [.string (⟨#[116, 119, 111]⟩ : BA), .int .i64 2, .int .i64 2] from (oc_ _ _ _ (⟨(⟨#[116, 119, 111]⟩ : BA), 2, 2⟩ : S46))) (Reps.none _ _)))); intro vx WX ho hb hg_ hnew_; clear hg_ hnew_; replace ho : Kd.R k46 46 WX _ _ vx (nq_ t x3 xh) := ho; obtain ⟨AX, cX, hvx⟩ := Kd.R_slice ho; subst hvx; have HX := aM_ (LexF.of HF.out ho); replace HF := aM_ (MkF.step HF.out hb); replace HU := aM_ (RuF.step HU.out hb); replace HT := aM_ (oa_ HT.out hb); clear hb ho; refine hK.out _ _ ⟨HF.out.blk, HSC _ HT.out⟩ (fun hHeld => ?_); clear hK K; refine wa_ (a' := ?_) ?_ ?_; rotate_left
  ·show Act.put _ (some 34) _ = _
   simp only [Act.put, s1_, s2_, s3_, ia_, ja_]; rfl
  refine pU_ 24 35 ?_ (f_ 28 25) rfl rfl (by kernel_rfl) (fun _ _ _ h => h) (by rfl) ?_ ?_ ?_ ?_; rotate_left
  ·intro w'
   go_simp; try with_reducible rfl
  rotate_left; simp only [Act.put, s1_, s2_, s3_, ia_, ja_]; rfl
 all_goals
  refine one_ (i := 25) (N := some 36) (f_ 28 26) rfl rfl (by kernel_rfl) (by decide) (fun K hK => ?_); refine hd_ (w1 := ?_) (v := ?_) (by rfl) rfl ?_ ?_; rotate_left 2
  ·go_simp
   constructor
   ·rfl
   rfl
  refine hK.out _ _ ⟨oa_ HF.out.blk (aa_ (Below.refl _ _) _), HSC _ (oa_ HT.out (aa_ (Below.refl _ _) _))⟩ (fun hHeld => ?_); clear hK K; refine wa_ (a' := ?_) ?_ ?_; rotate_left; show Act.put _ (some 36) _ = _; simp only [Act.put, s1_, s2_, s3_, ia_, ja_]; rfl
 all_goals
  refine one_ (i := 26) (N := some 37) (f_ 28 27) rfl rfl (by kernel_rfl) (by decide) (fun K hK => ?_); refine Kd.N_append_step k44 (w0 := w) w.heap.size (by rfl) (.tmp 11) (.tmp 36) 26 44 (.agg #[(.string ⟨#[]⟩), (.int .i64 0), (.int .i64 0), (.slice none 0 0), (.slice none 0 0), (.slice none 0 0)]) 104 rfl Tryz.underlying26 info44 rfl (by decide) (by omega) (.slice As S.length cs) S (⟨(⟨#[120]⟩ : BA), (-1), d4, nq_ t x3 xh, res, []⟩ : S44) [.string (⟨#[120]⟩ : BA), .int .i64 (-1), .int .i64 d4, .slice AX 2 cX, .slice A7 res.length c7, .slice none 0 0] (okF w g) (fun k => okF w g k ∧ some k ≠ (.slice As S.length cs : Value).ownBlock) rfl rfl (ml_ _ _ (⟨(⟨#[120]⟩ : BA), (-1), d4, nq_ t x3 xh, res, []⟩ : S44) HX.out.2 HX.out.1 HU.out.2 HU.out.1 (Nat.le_refl _) (Kd.F_nil _ _ _)) (fun _ hk => hk) (fun k hk => ⟨Nat.le_trans HF.out.old.size hk, by have := za_ HF.out.blk; omega⟩) HF.out.row HF.out.old HF.out.old.size (by rw [HSL.out]; omega) ?_; intro vo WO ho hb hg hat; have HO := aM_ ho; have HOB := aM_ hb; have HZ := aM_ (gb_ HF.out.blk hg (Kd.N_ne HF.out.row HF.out.blk (by decide))); have HZT := aM_ (gb_ HT.out hg (Kd.N_ne HF.out.row HT.out (by decide))); clear ho hb hg hat; refine hK.out _ _ ⟨HZ.out, HSC _ HZT.out⟩ (fun hHeld => ?_); clear hK K; refine wa_ (a' := ?_) ?_ ?_; rotate_left
  ·show Act.put _ (some 37) _ = _
   simp only [Act.put, s1_, s2_, s3_, ia_, ja_]; rfl
  refine pU_ 27 3 ?_ (f_ 28 28) rfl rfl (by kernel_rfl) (fun _ _ _ h => h) (by rfl) ?_ ?_ ?_ ?_; rotate_left
  ·intro w'
   go_simp; try with_reducible rfl
  rotate_left
  ·simp only [Act.put, s1_, s2_, s3_, ia_, ja_]
   rfl
  refine je_ (by kernel_rfl) ?_; clear HF HU HT HX HZ HZT
  go_wp2
  go_ret
  exact ⟨_, rfl, Kd.N_mono HO.out (fun _ hk => hk.1), HOB.out⟩
theorem lq_ (a0 a1 a2 a3 : Int) (A4 : Option Addr) (c4 : Nat) (l : List Raw') (S : List S44) (w : World) (hS : l5_Sample.f a0 a1 = some S) :
  Calls Tryz.prog 13 #[.agg #[.int .i64 a0, .int .i64 a1, .int .i64 a2, .int .i64 a3, .slice A4 l.length c4, .bool false]] w fun e w' => ∃ v, e = .returned v ∧ Kd.N k44 44 w' w.heap.size (fun k => w.heap.size ≤ k) v S ∧ Below w.heap.size w w' := by
 have HSS := aM_ hS
 have hu1 := Tryz.underlying24
 clear hS
 have HBK : Az ((w.alloc (.cells #[.int .i64 a0, .int .i64 a1, .int .i64 a2, .int .i64 a3, .slice A4 l.length c4, .bool false] 24)).heap[w.heap.size]? = some (.cells #[.int .i64 a0, .int .i64 a1, .int .i64 a2, .int .i64 a3, .slice A4 l.length c4, .bool false] 24 (0, 0))) := ⟨ra_ w _⟩
 have HB1 : Az (Below w.heap.size w (w.alloc (.cells #[.int .i64 a0, .int .i64 a1, .int .i64 a2, .int .i64 a3, .slice A4 l.length c4, .bool false] 24))) := ⟨aa_ (Below.refl _ _) _⟩
 go_enter Tryz.func13, Tryz.ntmps13
 go_wp2_with fail
 generalize w.alloc (.cells #[.int .i64 a0, .int .i64 a1, .int .i64 a2, .int .i64 a3, .slice A4 l.length c4, .bool false] 24) = W1 at *
 generalize hgg : w.heap.size = g at *
 have hc0 : W1.cell? ⟨g, 0, none⟩ = some (.int .i64 a0) := ba_ HBK.out 0
 have hc1 : W1.cell? ⟨g, 1, none⟩ = some (.int .i64 a1) := ba_ HBK.out 1
 go_wp2_with fail
 refine (l5_Sample.calls a0 a1 S W1 HSS.out).mono ?_
 rintro e W2 ⟨vs, rfl, hN, hb⟩
 have hBw : Below w.heap.size w W1 := by rw [hgg]; exact HB1.out
 have HN := aM_ (Kd.N_mono (Kd.N_lower hN hBw.size) (fun k hk => Nat.le_trans hBw.size hk))
 have HB2 := aM_ (fa_ hBw hb)
 have hc5 : W2.cell? ⟨g, 5, none⟩ = some (.bool false) := ba_ (oa_ HBK.out hb) 5
 clear hN hb HBK HB1 hc0 hc1 hBw hgg
 go_wp2
 go_ret
 exact ⟨_, rfl, HN.out, HB2.out⟩
theorem make5_w (a0 a1 a2 a3 : Int) (A4 : Option Addr) (c4 : Nat) (l : List Raw') (b : Bool) (hc : l.length ≤ c4) (hl : l.length ≤ 12) (hok : ∀ x ∈ l, bl_ x) (hf : fewB l = true) :
  ∃ m, XOk (a0 % 3) (a1 % 4) m ∧ ∀ w, Kd.C k120 w A4 l.length l → Calls Tryz.prog 13 #[.agg #[.int .i64 a0, .int .i64 a1, .int .i64 a2, .int .i64 a3, .slice A4 l.length c4, .bool b]] w fun e w' => ∃ v, e = .returned v ∧ Kd.N k44 44 w' w.heap.size (fun k => w.heap.size ≤ k) v (wc_ (a0 % 3) (a1 % 4) ++ m) ∧ Below w.heap.size w w' := by
 have ho : 0 ≤ a0 % 3 ∧ a0 % 3 < 3 := by omega
 have hd : 0 ≤ a1 % 4 ∧ a1 % 4 < 4 := by omega
 have hSm := op_ a0 a1
 cases b with
 | false =>
  refine ⟨[], ⟨ho, hd, .inl rfl⟩, fun w _ => ?_⟩; rw [List.append_nil]
  exact lq_ a0 a1 a2 a3 A4 c4 l _ w hSm
 | true =>
  obtain ⟨res, ht, hr⟩ := jr_ l 6 (by omega) (by omega) hok hf; obtain ⟨n, hn⟩ := Int.eq_ofNat_of_zero_le (show 0 ≤ a2 % 5 by omega); have he := texts_ok ⟨n, by omega⟩; have hw1 : wrap64 (1 + a3 % 3) = 1 + a3 % 3 := pe_ (by omega); have hw2 : wrap64 (a3 % 100 - 5) = a3 % 100 - 5 := pe_ (by omega); refine ⟨[xL (a1 % 4) (rdOf ByteArray.empty vd_ (n : Int)) (1 + a3 % 3) (a3 % 100 - 5) res], ⟨ho, hd, .inr ⟨_, _, _, _, rfl, he, by omega, by omega, ht⟩⟩, fun w hC => ?_⟩; have h := bs_ a0 a1 a2 a3 (a1 % 4) (n : Int) (a3 % 3) (a3 % 100) A4 c4 l _ res w hC hc hSm rfl (hr 300 (by omega)) rfl hn rfl rfl; unfold nq_ at h; rw [hw1, hw2] at h; exact h
end Go.Proofs.YtiocgaekoeekgaaGreat.P
end
section
namespace Go.Proofs.YtiocgaekoeekgaaGreat.P
open Go.RowKit YtiocgaekoeekgaaGreatW.PrintWords YtiocgaekoeekgaaGreatW.PrintLast YtiocgaekoeekgaaGreatW.PrintMore
attribute [local go_sem] vb_ tb_ jc_ ic_ lb_ kb_ ub_ sb_   
set_option linter.unusedVariables false
set_option linter.unusedSimpArgs false
def InW (W : World) (base g b4 b5 : Nat) (A : Option Addr) (n z q : Nat) : Prop := ∀ k, k < n → ∃ b, A = some ⟨b, 0, none⟩ ∧ base ≤ b ∧ b ≠ g ∧ b ≠ b4 ∧ b ≠ b5 ∧ (∃ x, W.cell? ⟨b, k * z + q, none⟩ = some x) ∧ W.frozen? ⟨b, k * z + q, none⟩ = false
theorem InW.set {W : World} {base g b4 b5 : Nat} {A : Option Addr} {n z q : Nat} (h : InW W base g b4 b5 A n z q) (p : Addr) (u : Value) : InW (W.setCell p u) base g b4 b5 A n z q := by
 intro k hk
 obtain ⟨b, h1, h2, h3, h4, h5, ⟨x, h6⟩, h7⟩ := h k hk
 obtain ⟨v', h8⟩ := cell?_setCell_some (w := W) (p := p) (x := u) (q := ⟨b, k * z + q, none⟩) (v := x) h6
 exact ⟨b, h1, h2, h3, h4, h5, ⟨v', h8⟩, (World.frozen?_setCell _ _ _ _).trans h7⟩
structure OwI (w0 : World) (g : Nat) (C : Array Value) (A3 : Option Addr) (n3 b4 n4 b5 n5 : Nat) (F G : Nat → Option Addr × Nat × Nat) (W : World) : Prop where
 box : W.heap[g]? = some (.cells C 44 (0, 0))
 lex : InW W w0.heap.size g b4 b5 A3 n3 3 2
 cost : ∀ i, i < n4 → (∃ x, W.cell? ⟨b4, i * 5 + 4, none⟩ = some x) ∧ W.frozen? ⟨b4, i * 5 + 4, none⟩ = false
 rhs : ∀ i, i < n4 → W.cell? ⟨b4, i * 5 + 1, none⟩ = some (.slice (F i).1 (F i).2.1 (F i).2.2) ∧ InW W w0.heap.size g b4 b5 (F i).1 (F i).2.1 1 0
 prt : ∀ i, i < n5 → W.cell? ⟨b5, i * 2 + 1, none⟩ = some (.slice (G i).1 (G i).2.1 (G i).2.2) ∧ InW W w0.heap.size g b4 b5 (G i).1 (G i).2.1 5 2
 ge : w0.heap.size ≤ b4 ∧ b4 ≠ g ∧ b5 ≠ g ∧ b4 ≠ b5
 old : Below w0.heap.size w0 W
theorem OwI.set {w0 W : World} {g : Nat} {C : Array Value} {A3 : Option Addr} {n3 b4 n4 b5 n5 : Nat} {F G : Nat → Option Addr × Nat × Nat} (h : OwI w0 g C A3 n3 b4 n4 b5 n5 F G W) (p : Addr) (u : Value) (hb : w0.heap.size ≤ p.block) (hg : p.block ≠ g) (h4 : p.block ≠ b4 ∨ ∃ i, p.off = i * 5 + 4) (h5 : p.block ≠ b5) : OwI w0 g C A3 n3 b4 n4 b5 n5 F G (W.setCell p u) where
 box := (Below.heap_setCell W p u g (fun e => hg e.symm)).trans h.box
 lex := h.lex.set p u
 cost i hi := by
  obtain ⟨⟨x, h1⟩, h2⟩ := h.cost i hi; obtain ⟨v', h8⟩ := cell?_setCell_some (w := W) (p := p) (x := u) h1; exact ⟨⟨v', h8⟩, (World.frozen?_setCell _ _ _ _).trans h2⟩
 rhs i hi := by
  obtain ⟨h1, h2⟩ := h.rhs i hi; refine ⟨(World.cell?_setCell_other _ _ _ _ (fun e => ?_)).trans h1, h2.set p u⟩; rw [e] at h4
  rcases h4 with h4 | ⟨j, hj⟩
  ·exact h4 rfl
  have hj' : i * 5 + 1 = j * 5 + 4 := hj; omega
 prt i hi := by
  obtain ⟨h1, h2⟩ := h.prt i hi; exact ⟨(World.cell?_setCell_other _ _ _ _ (fun e => by rw [e] at h5; exact h5 rfl)).trans h1, h2.set p u⟩
 ge := h.ge
 old := h.old.setCell hb u
theorem yj_ (b k : Nat) : (⟨b, 0, none⟩ : Addr).add k = ⟨b, k, none⟩ := by
 unfold Addr.add
 split <;> simp_all
theorem cp_ {α : Type} {d : Kd α} {e : TypeId} {W : World} {base base' g b4 b5 : Nat} {ok : Nat → Prop} {A : Option Addr} {n c : Nat} {xs : List α} (h : d.R e W base' ok (.slice A n c) xs) (hb : base ≤ base') {cg c4 c5 : Array Value} {tg t4 t5 : TypeId} (h0 : W.heap[g]? = some (.cells cg tg (0, 0))) (hg : tg ≠ e) (h4 : W.heap[b4]? = some (.cells c4 t4 (0, 0))) (h4' : t4 ≠ e) (h5 : W.heap[b5]? = some (.cells c5 t5 (0, 0))) (h5' : t5 ≠ e) (q : Nat) (hq : q < d.sz) (z : α) : n = xs.length ∧ InW W base g b4 b5 A n d.sz q := by
 obtain ⟨hn, hc, hC⟩ := Kd.R_reads' h
 refine ⟨hn, fun k hk => ?_⟩
 obtain ⟨b, cap, he, h1, h2, cs, h3⟩ := Kd.R_form h (by omega)
 injection he with he1 he2 he3
 subst he1
 obtain ⟨ad, cells, hA, hl, _, hcell⟩ := Kd.C_get hC z (k : Int) (by omega) (by omega)
 obtain rfl := Option.some.inj hA
 rw [Int.toNat_natCast] at hcell
 obtain ⟨x, hx⟩ : ∃ x, cells[q]? = some x := ⟨_, List.getElem?_eq_getElem (by rw [hl]; exact hq)⟩
 have hx2 := hcell q x hx
 rw [yj_] at hx2
 exact ⟨b, rfl, by omega, fun e1 => by rw [e1, h0] at h3; injection (Option.some.inj h3) with _ e2; exact hg e2, fun e1 => by rw [e1, h4] at h3; injection (Option.some.inj h3) with _ e2; exact h4' e2, fun e1 => by rw [e1, h5] at h3; injection (Option.some.inj h3) with _ e2; exact h5' e2, ⟨x, hx2⟩, da_ h3 _⟩
theorem owI_of {w0 W : World} {lx : List S46} {rr : List S56} {ss : List S52} {v3 v4 v5 : Value} (h3 : Kd.R k46 46 W w0.heap.size (fun q => w0.heap.size ≤ q) v3 lx) (h4 : Kd.R k56 56 W w0.heap.size (fun q => w0.heap.size ≤ q) v4 rr) (h5 : Kd.R k52 52 W w0.heap.size (fun q => w0.heap.size ≤ q) v5 ss) (l4 : 0 < rr.length) (l5 : 0 < ss.length) (hb : Below w0.heap.size w0 W) (id : BA) (p5 d5 : Int) :
  ∃ A3 c3 b4 c4 b5 c5 F G, v3 = .slice A3 lx.length c3 ∧ v4 = .slice (some ⟨b4, 0, none⟩) rr.length c4 ∧ v5 = .slice (some ⟨b5, 0, none⟩) ss.length c5 ∧ (∀ i, i < rr.length → (F i).2.1 ≤ 9223372036854775807) ∧ (∀ i, i < ss.length → (G i).2.1 ≤ 9223372036854775807) ∧ OwI w0 W.heap.size #[.string id, .int .i64 p5, .int .i64 d5, v3, v4, v5] A3 lx.length b4 rr.length b5 ss.length F G (W.alloc (.cells #[.string id, .int .i64 p5, .int .i64 d5, v3, v4, v5] 44)) := by
 obtain ⟨A3, c3, rfl⟩ := Kd.R_slice h3
 obtain ⟨b4, c4, rfl, g4, u4, cs4, k4⟩ := Kd.R_form h4 l4
 obtain ⟨b5, c5, rfl, g5, u5, cs5, k5⟩ := Kd.R_form h5 l5
 generalize hC : (#[.string id, .int .i64 p5, .int .i64 d5, .slice A3 lx.length c3, .slice (some ⟨b4, 0, none⟩) rr.length c4, .slice (some ⟨b5, 0, none⟩) ss.length c5] : Array Value) = C
 have hba := aa_ (Below.refl W.heap.size W) (.cells C 44)
 have hg := ra_ W (.cells C 44)
 have h3' := Kd.R_below h3 hba
 have h4' := Kd.R_below h4 hba
 have h5' := Kd.R_below h5 hba
 have k4' := oa_ k4 hba
 have k5' := oa_ k5 hba
 have hgs : W.heap.size < (W.alloc (.cells C 44)).heap.size := za_ hg
 generalize W.alloc (.cells C 44) = V at *
 have hg' : V.heap[W.heap.size]? = some (.cells C 44 (0, 0)) := hg
 generalize hG : W.heap.size = g at *
 have hF : ∀ i, ∃ f : Option Addr × Nat × Nat, i < rr.length → f.2.1 ≤ 9223372036854775807 ∧ V.cell? ⟨b4, i * 5 + 1, none⟩ = some (.slice f.1 f.2.1 f.2.2) ∧ InW V w0.heap.size g b4 b5 f.1 f.2.1 1 0 := by
  intro i
  by_cases hi : i < rr.length
  (focus (obtain ⟨c, hl, hM, hcell⟩ := Kd.R_getA h4' rr[i] (i : Int) (by omega) (by omega); obtain ⟨v1, v3, rfl, g1, _⟩ := jk_ hM; obtain ⟨A1, d1, rfl⟩ := Kd.R_slice g1; refine ⟨(A1, _, d1), fun _ => ⟨(Kd.R_reads' g1).2.2.2.1, ?_, (cp_ (d := Kd.int .i64) g1 (Nat.le_refl _) hg' (by decide) k4' (by decide) k5' (by decide) 0 (by decide) 0).2⟩⟩; have h1 := hcell 1 _ rfl; rw [yj_, Int.toNat_natCast] at h1; exact h1)); exact ⟨(none, 0, 0), fun h => absurd h hi⟩
 have hGG : ∀ i, ∃ f : Option Addr × Nat × Nat, i < ss.length → f.2.1 ≤ 9223372036854775807 ∧ V.cell? ⟨b5, i * 2 + 1, none⟩ = some (.slice f.1 f.2.1 f.2.2) ∧ InW V w0.heap.size g b4 b5 f.1 f.2.1 5 2 := by
  intro i
  by_cases hi : i < ss.length
  (focus (obtain ⟨c, hl, hM, hcell⟩ := Kd.R_getA h5' ss[i] (i : Int) (by omega) (by omega); obtain ⟨v1, rfl, g1⟩ := xn_ hM; obtain ⟨A1, d1, rfl⟩ := Kd.R_slice g1; refine ⟨(A1, _, d1), fun _ => ⟨(Kd.R_reads' g1).2.2.2.1, ?_, (cp_ (d := k48) g1 (Nat.le_refl _) hg' (by decide) k4' (by decide) k5' (by decide) 2 (by decide) ⟨0, ⟨#[]⟩, 0, 0, 0⟩).2⟩⟩; have h1 := hcell 1 _ rfl; rw [yj_, Int.toNat_natCast] at h1; exact h1)); exact ⟨(none, 0, 0), fun h => absurd h hi⟩
 obtain ⟨F, hF⟩ := Classical.axiomOfChoice hF
 obtain ⟨G, hGG⟩ := Classical.axiomOfChoice hGG
 refine ⟨A3, c3, b4, c4, b5, c5, F, G, rfl, rfl, rfl, fun i hi => (hF i hi).1, fun i hi => (hGG i hi).1, ?_⟩
 exact {
  box := hg'
  lex := (cp_ (d := k46) h3' (Nat.le_refl _) hg' (by decide) k4' (by decide) k5' (by decide) 2 (by decide) ⟨⟨#[]⟩, 0, 0⟩).2
  cost := fun i hi => by
   obtain ⟨c, hl, hM, hcell⟩ := Kd.R_getA h4' rr[i] (i : Int) (by omega) (by omega); obtain ⟨v1, v3, rfl, g1, _⟩ := jk_ hM; have h1 := hcell 4 _ rfl; rw [yj_, Int.toNat_natCast] at h1; exact ⟨⟨_, h1⟩, da_ k4' _⟩
  rhs := fun i hi => (hF i hi).2
  prt := fun i hi => (hGG i hi).2
  ge := ⟨g4, by omega, by omega, fun e => by rw [e, k5'] at k4'; injection (Option.some.inj k4') with _ e2; exact absurd e2 (by decide)⟩
  old := fa_ hb (by rw [hG]; exact hba) }
end Go.Proofs.YtiocgaekoeekgaaGreat.P
end
section
namespace Go.Proofs.YtiocgaekoeekgaaGreat.P
open Go.RowKit YtiocgaekoeekgaaGreatW.PrintWords YtiocgaekoeekgaaGreatW.PrintLast YtiocgaekoeekgaaGreatW.PrintMore
attribute [local go_sem] vb_ tb_ jc_ ic_ lb_ kb_ ub_ sb_   
set_option linter.unusedVariables false
set_option linter.unusedSimpArgs false
attribute [local go_sem] Oper.semAt_some
theorem en_idx (o d : Int) (m : List Loc5) : xd_ (hitL (⟨#[101, 110]⟩ : BA)) (wc_ o d ++ m) = 1 := by
 have hl : (wc_ o d ++ m).length = 3 + m.length := List.length_append
 refine ci_ (k := 1) (by omega) (fun j hj h => ?_) ?_
 ·obtain rfl : j = 0 := by omega
  exact ne_ids.1
 exact beq_self_eq_true ((⟨#[101, 110]⟩ : BA).toList)
theorem pu_ {o d : Int} {m : List Loc5} (h : XOk o d m) : wr_ (wc_ o d ++ m) := by
 have hl := as_ h
 refine ⟨by omega, fun x hx => ?_⟩
 have hB := all_B h x hx
 unfold locB at hB
 simp only [Bool.and_eq_true, decide_eq_true_eq] at hB
 obtain ⟨h0, h1, h2, h3, h4, h5, h6, h7, h8⟩ := hB
 rw [List.all_eq_true] at h6 h8
 refine ⟨h3, ⟨h5, fun r hr => ?_⟩, h7, fun t ht => ?_⟩
 ·have h := h6 r hr
  unfold nn_ yn_ at h; simp only [Bool.and_eq_true, decide_eq_true_eq] at h; omega
 have h := h8 t ht
 unfold styB at h
 simp only [Bool.and_eq_true, decide_eq_true_eq] at h
 omega
theorem en_rules {o d : Int} {m : List Loc5} (h : XOk o d m) : 0 < (me_ (wc_ o d ++ m) 1).length := by
 rw [r1 o d m h.one, List.length_append]
 show 0 < 22 + _
 omega
theorem fv_ {o d : Int} {m : List Loc5} (h : XOk o d m) : 0 < (styP (wc_ o d ++ m) 1).length := by
 have e : styP (wc_ o d ++ m) 1 = fj_ ++ ([] ++ []) := by rcases h.one with rfl | ⟨x, rfl⟩ <;> rfl
 rw [e]
 show 0 < 8
 omega
theorem en_lens {o d : Int} {m : List Loc5} (h : XOk o d m) : (lexP (wc_ o d ++ m) 1).length ≤ 100 ∧ (me_ (wc_ o d ++ m) 1).length ≤ 100 ∧ (styP (wc_ o d ++ m) 1).length ≤ 100 := by
 have e : styP (wc_ o d ++ m) 1 = fj_ ++ ([] ++ []) := by rcases h.one with rfl | ⟨x, rfl⟩ <;> rfl
 have e2 : lexP (wc_ o d ++ m) 1 = wordsP ++ ([] ++ []) := by rcases h.one with rfl | ⟨x, rfl⟩ <;> rfl
 have h2 := hv_ o
 rw [e, e2, r1 o d m h.one, List.length_append, List.length_append]
 refine ⟨by show 22 ≤ 100; omega, ?_, by show 8 ≤ 100; omega⟩
 show 22 + ((aj_ o).length + 0) ≤ 100
 omega
theorem blobown_walk (x0 x1 x2 x3 : Int) (A : Option Addr) (c : Nat) (l : List Raw') (b : Bool) (by5 : Int) (w : World) (hr : Kd.C k120 w A l.length l) (hc : l.length ≤ c) (hok : ∀ x ∈ l, bl_ x) :
  Calls Tryz.prog 10 #[.agg #[.int .i64 x0, .int .i64 x1, .int .i64 x2, .int .i64 x3, .slice A l.length c, .bool b], .int .i64 by5] w fun e w' => e = .returned (.bool true) ∧ Below w.heap.size w w' := by
 have HR := aM_ hr
 have HC := aM_ hc
 have hbn := hr.2.1
 have hf := ev_ x0 x1 x2 x3 l b hr.2.1 (l.length + 1) (by omega)
 have HMK : Az ((fewB l && decide (l.length ≤ 12)) = true → ∃ m, XOk (x0 % 3) (x1 % 4) m ∧ ∀ w, Kd.C k120 w A l.length l → Calls Tryz.prog 13 #[.agg #[.int .i64 x0, .int .i64 x1, .int .i64 x2, .int .i64 x3, .slice A l.length c, .bool b]] w fun e w' => ∃ v, e = .returned v ∧ Kd.N k44 44 w' w.heap.size (fun k => w.heap.size ≤ k) v (wc_ (x0 % 3) (x1 % 4) ++ m) ∧ Below w.heap.size w w') := ⟨fun h => by
  rw [Bool.and_eq_true, decide_eq_true_eq] at h
  exact make5_w x0 x1 x2 x3 A c l b hc h.2 hok h.1⟩
 have hu1 := Tryz.underlying24
 have HBK : Az ((w.alloc (.cells #[.int .i64 x0, .int .i64 x1, .int .i64 x2, .int .i64 x3, .slice A l.length c, .bool b] 24)).heap[w.heap.size]? = some (.cells #[.int .i64 x0, .int .i64 x1, .int .i64 x2, .int .i64 x3, .slice A l.length c, .bool b] 24 (0, 0))) := ⟨ra_ w _⟩
 have HB1 : Az (Below w.heap.size w (w.alloc (.cells #[.int .i64 x0, .int .i64 x1, .int .i64 x2, .int .i64 x3, .slice A l.length c, .bool b] 24))) := ⟨aa_ (Below.refl _ _) _⟩
 generalize (fewB l && decide (l.length ≤ 12)) = q at *
 have HF := aM_ hf
 clear hr hc hok hf
 go_enter Tryz.func10, Tryz.ntmps10
 go_wp2_with fail
 generalize w.alloc (.cells #[.int .i64 x0, .int .i64 x1, .int .i64 x2, .int .i64 x3, .slice A l.length c, .bool b] 24) = W1 at *
 generalize hgg : w.heap.size = g at *
 refine (oq_ W1).mono ?_
 rintro e W2 ⟨rfl, hb⟩
 have HBK2 := aM_ (oa_ HBK.out hb)
 have HB2 : Az (Below w.heap.size w W2) := ⟨fa_ (by rw [hgg]; exact HB1.out) hb⟩
 have HGG := aM_ hgg
 clear hb HBK HB1 hgg
 have h0 : W2.cell? ⟨g, 0, none⟩ = some (.int .i64 x0) := ba_ HBK2.out 0
 have h1 : W2.cell? ⟨g, 1, none⟩ = some (.int .i64 x1) := ba_ HBK2.out 1
 have h2 : W2.cell? ⟨g, 2, none⟩ = some (.int .i64 x2) := ba_ HBK2.out 2
 have h3 : W2.cell? ⟨g, 3, none⟩ = some (.int .i64 x3) := ba_ HBK2.out 3
 have h4 : W2.cell? ⟨g, 4, none⟩ = some (.slice A l.length c) := ba_ HBK2.out 4
 have h5 : W2.cell? ⟨g, 5, none⟩ = some (.bool b) := ba_ HBK2.out 5
 go_wp2_with fail
 refine (l5_Shape_Few.calls (l.length + 1) x0 x1 x2 x3 A c l b q W2 (Kd.C_below HR.out HB2.out) HC.out HF.out).mono ?_
 rintro e W3 ⟨rfl, hb⟩
 have HBK3 := aM_ (oa_ HBK2.out hb)
 have HB3 : Az (Below w.heap.size w W3) := ⟨fa_ HB2.out hb⟩
 clear hb HBK2 HB2 h0 h1 h2 h3 h4 h5
 cases q with
 | false =>
  go_wp2
  go_ret
  exact ⟨rfl, HB3.out⟩
 | true =>
  obtain ⟨m, hx, hmk⟩ := HMK.out rfl; have hE := mk_enc hx; have hix := en_idx (x0 % 3) (x1 % 4) m; have hor := pu_ hx; have her := en_rules hx; have hes := fv_ hx; have hel := en_lens hx; have hll := as_ hx
  have hl3 : 1 < (wc_ (x0 % 3) (x1 % 4) ++ m).length := by
   rw [List.length_append]; show 1 < 3 + m.length; omega
  generalize wc_ (x0 % 3) (x1 % 4) ++ m = L at *; have HM := aM_ hmk; have HIX := aM_ hix; have HOR := aM_ hor; have HER := aM_ her; have HES := aM_ hes; have HEL := aM_ hel; have HL3 := aM_ hl3; have HLE : Az ((enc8 L).length ≤ 1000000000000) := ⟨by omega⟩; have h0 : W3.cell? ⟨g, 0, none⟩ = some (.int .i64 x0) := ba_ HBK3.out 0; have h1 : W3.cell? ⟨g, 1, none⟩ = some (.int .i64 x1) := ba_ HBK3.out 1; have h2 : W3.cell? ⟨g, 2, none⟩ = some (.int .i64 x2) := ba_ HBK3.out 2; have h3 : W3.cell? ⟨g, 3, none⟩ = some (.int .i64 x3) := ba_ HBK3.out 3; have h4 : W3.cell? ⟨g, 4, none⟩ = some (.slice A l.length c) := ba_ HBK3.out 4; have h5 : W3.cell? ⟨g, 5, none⟩ = some (.bool b) := ba_ HBK3.out 5; clear hmk hx HMK HF hE hix hor her hes hel hl3
  go_wp2_with fail
  refine wd_ (n := 6) (S := fun w' => w'.cell? ⟨g, 0, none⟩ = some (.int .i64 x0) ∧ w'.cell? ⟨g, 1, none⟩ = some (.int .i64 x1) ∧ w'.cell? ⟨g, 2, none⟩ = some (.int .i64 x2) ∧ w'.cell? ⟨g, 3, none⟩ = some (.int .i64 x3) ∧ w'.cell? ⟨g, 4, none⟩ = some (.slice A l.length c) ∧ w'.cell? ⟨g, 5, none⟩ = some (.bool b) ∧ Az (Below w.heap.size w w')) (ds := []) (f_ 6 0) (by kernel_rfl) rfl rfl ⟨h0, h1, h2, h3, h4, h5, ⟨ga_ HB3.out⟩⟩ (fun hHeld => ?_); generalize W3.drew = w3 at *; refine tA_ 0 19 ?_ (f_ 6 1) rfl rfl (by kernel_rfl) (fun _ _ _ h => h) (by rfl) ?_ hHeld ?_ ?_ ?_; rotate_left
  ·rintro w' ⟨s0, s1, s2, s3, s4, s5, s6⟩
   go_simp; try with_reducible rfl
  rotate_left
  ·simp only [Act.put, s1_, s2_, s3_, ia_, ja_]
   rfl
  refine tA_ 2 21 ?_ #[true, false, true, false, false, false] rfl rfl (by kernel_rfl) (fun _ _ _ h => h) (by rfl) ?_ hHeld ?_ ?_ ?_; rotate_left
  ·rintro w' ⟨s0, s1, s2, s3, s4, s5, s6⟩
   go_simp; try with_reducible rfl
  rotate_left
  ·simp only [Act.put, s1_, s2_, s3_, ia_, ja_]
   rfl
  refine one_ (i := 1) (N := some 20) (f_ 6 3) rfl rfl (by kernel_rfl) (by decide) (fun K hK => ?_); refine wb_ Tryz.func13 (by kernel_rfl) rfl #[.agg #[.int .i64 x0, .int .i64 x1, .int .i64 x2, .int .i64 x3, .slice A l.length c, .bool b]] (by rfl) rfl rfl (by (try simp only [List.map_toArray, List.map_cons, List.map_nil]); rfl) ?_
  refine (HM.out _ (Kd.C_below HR.out hHeld.2.2.2.2.2.2.out)).mono ?_; rintro e w4 ⟨vm4, rfl, hN, hB⟩; obtain ⟨AM4, cM4, rfl⟩ := Kd.N_slice hN; have hN2 := Kd.N_reads' hN; have HCL4 := aM_ hN2.2.2; have HLL4 := aM_ hN2.2.1; clear hN hN2; refine ⟨_, rfl, ?_⟩; refine hK.out _ _ ⟨ha_ hB hHeld.1, ha_ hB hHeld.2.1, ha_ hB hHeld.2.2.1, ha_ hB hHeld.2.2.2.1, ha_ hB hHeld.2.2.2.2.1, ha_ hB hHeld.2.2.2.2.2.1, ⟨fa_ hHeld.2.2.2.2.2.2.out hB⟩⟩ (fun hHeld => ?_); clear hK K; refine wa_ (a' := ?_) ?_ ?_; rotate_left
  ·show Act.put _ (some 20) _ = _
   simp only [Act.put, s1_, s2_, s3_, ia_, ja_]; rfl
  refine one_ (i := 3) (N := some 22) (f_ 6 4) rfl rfl (by kernel_rfl) (by decide) (fun K hK => ?_); refine wb_ Tryz.func13 (by kernel_rfl) rfl #[.agg #[.int .i64 x0, .int .i64 x1, .int .i64 x2, .int .i64 x3, .slice A l.length c, .bool b]] (by rfl) rfl rfl (by (try simp only [List.map_toArray, List.map_cons, List.map_nil]); rfl) ?_
  refine (HM.out _ (Kd.C_below HR.out hHeld.2.2.2.2.2.2.out)).mono ?_; rintro e w5 ⟨vm5, rfl, hN, hB⟩; obtain ⟨AM5, cM5, rfl⟩ := Kd.N_slice hN; have hN2 := Kd.N_reads' hN; have HCL5 := aM_ hN2.2.2; have HLL5 := aM_ hN2.2.1; clear hN hN2; replace HCL4 := aM_ (Kd.C_below HCL4.out hB); refine ⟨_, rfl, ?_⟩; refine hK.out _ _ ⟨ha_ hB hHeld.1, ha_ hB hHeld.2.1, ha_ hB hHeld.2.2.1, ha_ hB hHeld.2.2.2.1, ha_ hB hHeld.2.2.2.2.1, ha_ hB hHeld.2.2.2.2.2.1, ⟨fa_ hHeld.2.2.2.2.2.2.out hB⟩⟩ (fun hHeld => ?_); clear hK K; refine wa_ (a' := ?_) ?_ ?_; rotate_left
  ·show Act.put _ (some 22) _ = _
   simp only [Act.put, s1_, s2_, s3_, ia_, ja_]; rfl
  refine pU_ 4 5 ?_ (f_ 6 5) rfl rfl (by kernel_rfl) (fun _ _ _ h => h) (by rfl) ?_ ?_ ?_ ?_; rotate_left
  ·intro w'
   go_simp; try with_reducible rfl
  rotate_left
  ·simp only [Act.put, s1_, s2_, s3_, ia_, ja_]
   rfl
  refine pU_ 5 6 ?_ (f_ 6 6) rfl rfl (by kernel_rfl) (fun _ _ _ h => h) (by rfl) ?_ ?_ ?_ ?_; rotate_left
  ·intro w'
   go_simp; try with_reducible rfl
  rotate_left
  ·simp only [Act.put, s1_, s2_, s3_, ia_, ja_]
   rfl
  refine je_ (by kernel_rfl) ?_; have HB5 := hHeld.2.2.2.2.2.2; clear hHeld HBK3 HB3 h0 h1 h2 h3 h4 h5 HM
  go_wp2_with fail
  refine (ji_ AM4 cM4 L _ 1 w5 HCL4.out HLL4.out HOR.out HIX.out HL3.out).mono ?_; rintro e W6 ⟨v3, v4, v5, rfl, hR3, hR4, hR5, hB⟩; generalize (ya_ L ((1 : Nat) : Int)).f1 = p5 at *; generalize (ya_ L ((1 : Nat) : Int)).f2 = d5 at *; obtain ⟨A3, c3, b4, c4, b5, c5, F, G, rfl, rfl, rfl, hF, hG, hOW⟩ := owI_of hR3 hR4 hR5 HER.out HES.out hB (⟨#[101, 110]⟩ : BA) p5 d5; have HOW := aM_ hOW; have HFF := aM_ hF; have HGN := aM_ hG; have hn3 : (lexP L 1).length ≤ 100 := HEL.out.1; have hn4 : (me_ L 1).length ≤ 100 := HEL.out.2.1; have hn5 : (styP L 1).length ≤ 100 := HEL.out.2.2; generalize (lexP L 1).length = n3 at *; generalize (me_ L 1).length = n4 at *; generalize (styP L 1).length = n5 at *; clear hR3 hR4 hR5 hB hOW hF hG HER HES HEL HIX HOR HL3; have hu3 := Tryz.underlying44; have hu4 := Tryz.underlying46; have hu5 := Tryz.underlying56; have hu6 := Tryz.underlying52; have hu7 := Tryz.underlying48
  go_wp2_with fail
  generalize W6.alloc (.cells #[.string (⟨#[101, 110]⟩ : BA), .int .i64 p5, .int .i64 d5, .slice A3 n3 c3, .slice (some ⟨b4, 0, none⟩) n4 c4, .slice (some ⟨b5, 0, none⟩) n5 c5] 44) = W7 at *; generalize W6.heap.size = gx at *
  go_loopg [9] n3 (fun gg s9 wr => ∃ i : Nat, i ≤ n3 ∧ n3 - i ≤ gg ∧ s9 = .int .i64 i ∧ Az (OwI w5 gx #[.string (⟨#[101, 110]⟩ : BA), .int .i64 p5, .int .i64 d5, .slice A3 n3 c3, .slice (some ⟨b4, 0, none⟩) n4 c4, .slice (some ⟨b5, 0, none⟩) n5 c5] A3 n3 b4 n4 b5 n5 F G wr))
  case atStart => exact ⟨0, by omega, by omega, rfl, HOW⟩
  clear HOW; obtain ⟨i, hi, hgg, rfl, HOW⟩ := hrel; have hx3 : wr.cell? ⟨gx, 3, none⟩ = some (.slice A3 n3 c3) := ba_ HOW.out.box 3
  by_cases hil : i < n3
  ·have hilz : (i : Int) < (n3 : Int) := by omega
   obtain ⟨b, hA, q1, q2, q3, q4, ⟨x, hc⟩, hfz⟩ := HOW.out.lex i hil; subst hA; have HX := aM_ (HOW.out.set ⟨b, i * 3 + 2, none⟩ (.int .i64 by5) q1 q2 (.inl q3) q4); clear HOW
   go_wp2
   go_roundg (n3 - (i + 1))
   case measure => omega
   case rel => exact ⟨i + 1, by omega, by omega, by go_num, HX⟩
  have hilz : decide ((i : Int) < (n3 : Int)) = false := by simp; omega
  have hilz' : decide (i < n3) = false := by simp; omega
  have hx4 : wr.cell? ⟨gx, 4, none⟩ = some (.slice (some ⟨b4, 0, none⟩) n4 c4) := ba_ HOW.out.box 4
  go_wp2_with fail
  clear hilz hilz' hil hi hgg hx3 hx4
  go_loopg [10] n4 (fun gg s10 wr => ∃ i : Nat, i ≤ n4 ∧ n4 - i ≤ gg ∧ s10 = .int .i64 i ∧ Az (OwI w5 gx #[.string (⟨#[101, 110]⟩ : BA), .int .i64 p5, .int .i64 d5, .slice A3 n3 c3, .slice (some ⟨b4, 0, none⟩) n4 c4, .slice (some ⟨b5, 0, none⟩) n5 c5] A3 n3 b4 n4 b5 n5 F G wr))
  case atStart => exact ⟨0, by omega, by omega, rfl, HOW⟩
  clear HOW; obtain ⟨j, hj, hgg, rfl, HOW⟩ := hrel; have hx4 : wr.cell? ⟨gx, 4, none⟩ = some (.slice (some ⟨b4, 0, none⟩) n4 c4) := ba_ HOW.out.box 4
  by_cases hil : j < n4
  ·have hilz : (j : Int) < (n4 : Int) := by omega
   obtain ⟨⟨x, hc⟩, hfz⟩ := HOW.out.cost j hil; have HX := aM_ (HOW.out.set ⟨b4, j * 5 + 4, none⟩ (.int .i64 by5) HOW.out.ge.1 HOW.out.ge.2.1 (.inr ⟨j, rfl⟩) HOW.out.ge.2.2.2); have hfb := HFF.out j hil; clear HOW
   go_wp2_with fail
   generalize wr.setCell ⟨b4, j * 5 + 4, none⟩ (.int .i64 by5) = wq at *; have HOW := HX; clear HX hx4 hc hfz
   go_loopg [11] (F j).2.1 (fun gg s11 wr => ∃ k : Nat, k ≤ (F j).2.1 ∧ (F j).2.1 - k ≤ gg ∧ s11 = .int .i64 k ∧ Az (OwI w5 gx #[.string (⟨#[101, 110]⟩ : BA), .int .i64 p5, .int .i64 d5, .slice A3 n3 c3, .slice (some ⟨b4, 0, none⟩) n4 c4, .slice (some ⟨b5, 0, none⟩) n5 c5] A3 n3 b4 n4 b5 n5 F G wr))
   case atStart => exact ⟨0, by omega, by omega, rfl, HOW⟩
   clear HOW; obtain ⟨k, hk, hgk, rfl, HOW⟩ := hrel; have hx4 : wr.cell? ⟨gx, 4, none⟩ = some (.slice (some ⟨b4, 0, none⟩) n4 c4) := ba_ HOW.out.box 4; obtain ⟨hv, hin⟩ := HOW.out.rhs j hil
   by_cases hkn : k < (F j).2.1
   ·obtain ⟨b, hA, q1, q2, q3, q4, ⟨x, hc⟩, hfz⟩ := hin k hkn
    rw [hA] at hv; have hknz : (k : Int) < ((F j).2.1 : Int) := by omega
    rw [Nat.mul_one, Nat.add_zero] at hc hfz; have HX := aM_ (HOW.out.set ⟨b, k, none⟩ (.int .i64 by5) q1 q2 (.inl q3) q4); clear hin hA HOW
    go_wp2
    go_roundg ((F j).2.1 - (k + 1))
    case measure => omega
    case rel => exact ⟨k + 1, by omega, by omega, by go_num, HX⟩
   have hknz : decide ((k : Int) < ((F j).2.1 : Int)) = false := by simp; omega
   have hknz' : decide (k < (F j).2.1) = false := by simp; omega
   clear hin
   go_wp2
   go_roundg (n4 - (j + 1))
   case measure => omega
   case rel => exact ⟨j + 1, by omega, by omega, by go_num, HOW⟩
  have hilz : decide ((j : Int) < (n4 : Int)) = false := by simp; omega
  have hilz' : decide (j < n4) = false := by simp; omega
  have hx5 : wr.cell? ⟨gx, 5, none⟩ = some (.slice (some ⟨b5, 0, none⟩) n5 c5) := ba_ HOW.out.box 5
  go_wp2_with fail
  clear hilz hilz' hil hj hgg hx4 hx5
  go_loopg [12] n5 (fun gg s12 wr => ∃ i : Nat, i ≤ n5 ∧ n5 - i ≤ gg ∧ s12 = .int .i64 i ∧ Az (OwI w5 gx #[.string (⟨#[101, 110]⟩ : BA), .int .i64 p5, .int .i64 d5, .slice A3 n3 c3, .slice (some ⟨b4, 0, none⟩) n4 c4, .slice (some ⟨b5, 0, none⟩) n5 c5] A3 n3 b4 n4 b5 n5 F G wr))
  case atStart => exact ⟨0, by omega, by omega, rfl, HOW⟩
  clear HOW; obtain ⟨j, hj, hgg, rfl, HOW⟩ := hrel; have hx5 : wr.cell? ⟨gx, 5, none⟩ = some (.slice (some ⟨b5, 0, none⟩) n5 c5) := ba_ HOW.out.box 5
  by_cases hil : j < n5
  ·have hilz : (j : Int) < (n5 : Int) := by omega
   have hfb := HGN.out j hil
   go_wp2_with fail
   clear hx5
   go_loopg [13] (G j).2.1 (fun gg s13 wr => ∃ k : Nat, k ≤ (G j).2.1 ∧ (G j).2.1 - k ≤ gg ∧ s13 = .int .i64 k ∧ Az (OwI w5 gx #[.string (⟨#[101, 110]⟩ : BA), .int .i64 p5, .int .i64 d5, .slice A3 n3 c3, .slice (some ⟨b4, 0, none⟩) n4 c4, .slice (some ⟨b5, 0, none⟩) n5 c5] A3 n3 b4 n4 b5 n5 F G wr))
   case atStart => exact ⟨0, by omega, by omega, rfl, HOW⟩
   clear HOW; obtain ⟨k, hk, hgk, rfl, HOW⟩ := hrel; have hx5 : wr.cell? ⟨gx, 5, none⟩ = some (.slice (some ⟨b5, 0, none⟩) n5 c5) := ba_ HOW.out.box 5; obtain ⟨hv, hin⟩ := HOW.out.prt j hil
   by_cases hkn : k < (G j).2.1
   ·obtain ⟨b, hA, q1, q2, q3, q4, ⟨x, hc⟩, hfz⟩ := hin k hkn
    rw [hA] at hv; have hknz : (k : Int) < ((G j).2.1 : Int) := by omega
    have HX := aM_ (HOW.out.set ⟨b, k * 5 + 2, none⟩ (.int .i64 by5) q1 q2 (.inl q3) q4); clear hin hA HOW
    go_wp2
    go_roundg ((G j).2.1 - (k + 1))
    case measure => omega
    case rel => exact ⟨k + 1, by omega, by omega, by go_num, HX⟩
   have hknz : decide ((k : Int) < ((G j).2.1 : Int)) = false := by simp; omega
   have hknz' : decide (k < (G j).2.1) = false := by simp; omega
   clear hin
   go_wp2
   go_roundg (n5 - (j + 1))
   case measure => omega
   case rel => exact ⟨j + 1, by omega, by omega, by go_num, HOW⟩
  have hilz : decide ((j : Int) < (n5 : Int)) = false := by simp; omega
  have hilz' : decide (j < n5) = false := by simp; omega
  have HSA : Az (Calls Tryz.prog 18 #[.slice AM4 L.length cM4, .slice AM5 L.length cM5] wr fun e w' => e = .returned (.bool true) ∧ Below wr.heap.size wr w') := ⟨by
   have h := gt_ AM4 AM5 cM4 cM5 L L wr (Kd.C_below HCL4.out HOW.out.old) HLL4.out HLE.out (Kd.C_below HCL5.out HOW.out.old) HLL5.out HLE.out; have hs : vi_ L L = true := by unfold vi_; rw [beq_self_eq_true]
   rw [hs] at h
   exact h⟩
  have HBW : Az (Below w.heap.size w wr) := ⟨fa_ HB5.out HOW.out.old⟩; clear HOW
  go_wp2_with fail
  refine HSA.out.mono ?_; rintro e w9 ⟨rfl, hb⟩; have HBF : Az (Below w.heap.size w w9) := ⟨fa_ HBW.out hb⟩; clear hb HSA
  go_wp2
  go_ret
  exact ⟨rfl, HBF.out⟩
end Go.Proofs.YtiocgaekoeekgaaGreat.P
end
section
namespace Go.Proofs.YtiocgaekoeekgaaGreat.P
open Go.RowKit YtiocgaekoeekgaaGreatW.PrintWords YtiocgaekoeekgaaGreatW.PrintLast YtiocgaekoeekgaaGreatW.PrintMore
attribute [local go_sem] vb_ tb_ jc_ ic_ lb_ kb_ ub_ sb_   
set_option linter.unusedVariables false
set_option linter.unusedSimpArgs false
theorem vr_ {P : Program} {t : TypeId} (ht : P.underlying t = some .bool) (hc : P.cellsOf t = 1) : si_ P t Kd.bool (fun _ => True) := by
 refine ⟨hc, fun H enc W base spare held fuel cs x h => ?_⟩
 obtain ⟨b, rfl, _⟩ := DataW.trod_bool ht h
 exact ⟨b, rfl, trivial⟩
theorem opBool : si_ Tryz.prog 4 Kd.bool (fun _ => True) := vr_ Tryz.underlying4 (by kernel_rfl)
theorem open_shape {H : Type} {enc : TypeId × Value → H} {W : World} {base : Nat} {spare : Nat → Bool} {held : Bool} {fuel : Nat} {cs : List Value} {x : DataW H × List MemPlace} (h : DataW.trod enc Tryz.prog W base spare held fuel 24 cs = some x) :
  ∃ (a0 a1 a2 a3 : Int) (l : List S120) (b : Bool) (A : Option Addr) (c : Nat), cs = [.int .i64 a0, .int .i64 a1, .int .i64 a2, .int .i64 a3, .slice A l.length c, .bool b] ∧ (wfI a0 ∧ wfI a1 ∧ wfI a2 ∧ wfI a3) ∧ (∀ x ∈ l, bl_ x) ∧ l.length ≤ c ∧ Kd.C k120 W A l.length l := by
 obtain ⟨hl, hf⟩ := oj_ Tryz.underlying24 h
 have hl2 : cs.length = 6 := hl.trans (by kernel_rfl)
 obtain ⟨v0, k0, w0⟩ := hf 0 _ rfl al_
 obtain ⟨v1, k1, w1⟩ := hf 1 _ rfl al_
 obtain ⟨v2, k2, w2⟩ := hf 2 _ rfl al_
 obtain ⟨v3, k3, w3⟩ := hf 3 _ rfl al_
 obtain ⟨v4, ⟨A4, c4, k4, l4, g4⟩, w4⟩ := hf 4 _ rfl opRaws
 obtain ⟨v5, k5, w5⟩ := hf 5 _ rfl opBool
 match cs, hl2 with
 | [b0, b1, b2, b3, b4, b5], _ =>
  have e0 : [b0] = [.int .i64 v0] := k0; have e1 : [b1] = [.int .i64 v1] := k1; have e2 : [b2] = [.int .i64 v2] := k2; have e3 : [b3] = [.int .i64 v3] := k3; have e4 : [b4] = [.slice A4 v4.length c4] := k4; have e5 : [b5] = [.bool v5] := k5; rw [(List.cons.inj e0).1, (List.cons.inj e1).1, (List.cons.inj e2).1, (List.cons.inj e3).1, (List.cons.inj e4).1, (List.cons.inj e5).1]; exact ⟨v0, v1, v2, v3, v4, v5, A4, c4, rfl, ⟨w0, w1, w2, w3⟩, w4, l4, g4⟩
end Go.Proofs.YtiocgaekoeekgaaGreat.P
end
