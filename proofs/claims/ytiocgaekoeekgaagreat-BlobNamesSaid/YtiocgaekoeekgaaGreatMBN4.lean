/- Names are of small letters, digits and dashes, and no two are one: the program and the document tell alike of any two names. Part 4: contracts of the functions that the law reaches, and words for them. -/
import Derived.BigRegion
import Derived.Test.YtiocgaekoeekgaaGreatMBN3
section
namespace Go.Proofs.YtiocgaekoeekgaaGreat.P
open Go.RowKit Go.Proofs.YtiocgaekoeekgaaGreatW.PrintWords Go.Proofs.YtiocgaekoeekgaaGreatW.PrintLast Go.Proofs.YtiocgaekoeekgaaGreatW.PrintMore
attribute [local go_sem] max2_int min2_int max_two min_two max_three min_three max_four min_four   
set_option linter.unusedVariables false
set_option linter.unusedSimpArgs false
mutual
noncomputable def r5_own.j0 : Nat → Bool → ByteArray → Int → Int → List (S46) → List (S56) → List (S52) → Option (Bool)
 | 0, _, _, _, _, _, _, _ => none
 | k + 1, x26, x177000, x177001, x177002, x177003, x177004, x177005 => if x26 = true then (some false) else (r5_own.l0 k 0 x177000 x177001 x177002 x177003 x177004 x177005)
noncomputable def r5_own.l0 : Nat → Int → ByteArray → Int → Int → List (S46) → List (S56) → List (S52) → Option (Bool)
 | 0, _, _, _, _, _, _, _ => none
 | k + 1, x3, x177000, x177001, x177002, x177003, x177004, x177005 => if x3 < (x177003.length : Int) then (if 0 ≤ x3 then ((r5_word.f k ((rd_T46 x177003 x3).f0) ((rd_T46 x177003 x3).f1) ((rd_T46 x177003 x3).f2)).bind fun t180 => (if t180 = true then (r5_own.l0 k (wrap64 (x3 + 1)) x177000 x177001 x177002 x177003 x177004 x177005) else (some false))) else (none)) else (r5_own.l1 k 0 x177000 x177001 x177002 x177003 x177004 x177005)
noncomputable def r5_own.l1 : Nat → Int → ByteArray → Int → Int → List (S46) → List (S56) → List (S52) → Option (Bool)
 | 0, _, _, _, _, _, _, _ => none
 | k + 1, x4, x177000, x177001, x177002, x177003, x177004, x177005 => if x4 < (x177005.length : Int) then (if 0 ≤ x4 then ((r5_style.f k ((rd_T52 x177005 x4).f0) ((rd_T52 x177005 x4).f1)).bind fun t182 => (if t182 = true then (r5_own.l1 k (wrap64 (x4 + 1)) x177000 x177001 x177002 x177003 x177004 x177005) else (some false))) else (none)) else (some true)
end
noncomputable def r5_own.f (k : Nat) (a0_0 : ByteArray) (a0_1 : Int) (a0_2 : Int) (l0_3 : List (S46)) (l0_4 : List (S56)) (l0_5 : List (S52)) : Option (Bool) := (r5_id.f k a0_0).bind fun t177 => (if t177 = true then ((r5_in.f a0_2 0 3).bind fun t178 => (if t178 = true then (if (l0_3.length : Int) > 30 then (r5_own.j0 k true a0_0 a0_1 a0_2 l0_3 l0_4 l0_5) else (r5_own.j0 k (decide ((l0_5.length : Int) > 20)) a0_0 a0_1 a0_2 l0_3 l0_4 l0_5)) else (r5_own.j0 k true a0_0 a0_1 a0_2 l0_3 l0_4 l0_5))) else (r5_own.j0 k true a0_0 a0_1 a0_2 l0_3 l0_4 l0_5))
theorem r5_own.mono_l : ∀ k, (∀ y0 y1 y2 y3 y4 y5 y6, LeO (r5_own.j0 k y0 y1 y2 y3 y4 y5 y6) (r5_own.j0 (k + 1) y0 y1 y2 y3 y4 y5 y6)) ∧ (∀ y0 y1 y2 y3 y4 y5 y6, LeO (r5_own.l0 k y0 y1 y2 y3 y4 y5 y6) (r5_own.l0 (k + 1) y0 y1 y2 y3 y4 y5 y6)) ∧ (∀ y0 y1 y2 y3 y4 y5 y6, LeO (r5_own.l1 k y0 y1 y2 y3 y4 y5 y6) (r5_own.l1 (k + 1) y0 y1 y2 y3 y4 y5 y6))
 | 0 => ⟨fun _ _ _ _ _ _ _ r h => by simp [r5_own.j0] at h, fun _ _ _ _ _ _ _ r h => by simp [r5_own.l0] at h, fun _ _ _ _ _ _ _ r h => by simp [r5_own.l1] at h⟩
 | k + 1 => by
  obtain ⟨ih0, ih1, ih2⟩ := r5_own.mono_l k
  refine ⟨?_, ?_, ?_⟩
  ·intro y0 y1 y2 y3 y4 y5 y6
   unfold r5_own.j0
   repeat' first
   | (with_reducible exact ih0 _ _ _ _ _ _ _)
   | (with_reducible exact ih1 _ _ _ _ _ _ _)
   | (with_reducible exact ih2 _ _ _ _ _ _ _)
   | (with_reducible exact r5_id.mono _ _)
   | (with_reducible exact r5_style.mono _ _ _)
   | (with_reducible exact r5_word.mono _ _ _ _)
   | (with_reducible exact LeO.refl _)
   | (with_reducible exact LeO.none _)
   | (with_reducible refine LeO.ite ?_ ?_)
   | (with_reducible refine LeO.bind ?_ (fun _ => ?_))
   | exact ih0 _ _ _ _ _ _ _
   | exact ih1 _ _ _ _ _ _ _
   | exact ih2 _ _ _ _ _ _ _
   | exact r5_id.mono _ _
   | exact r5_style.mono _ _ _
   | exact r5_word.mono _ _ _ _
   | exact LeO.none _
   | refine LeO.ite ?_ ?_
   | refine LeO.bind ?_ (fun _ => ?_)
  ·intro y0 y1 y2 y3 y4 y5 y6
   unfold r5_own.l0
   repeat' first
   | (with_reducible exact ih0 _ _ _ _ _ _ _)
   | (with_reducible exact ih1 _ _ _ _ _ _ _)
   | (with_reducible exact ih2 _ _ _ _ _ _ _)
   | (with_reducible exact r5_id.mono _ _)
   | (with_reducible exact r5_style.mono _ _ _)
   | (with_reducible exact r5_word.mono _ _ _ _)
   | (with_reducible exact LeO.refl _)
   | (with_reducible exact LeO.none _)
   | (with_reducible refine LeO.ite ?_ ?_)
   | (with_reducible refine LeO.bind ?_ (fun _ => ?_))
   | exact ih0 _ _ _ _ _ _ _
   | exact ih1 _ _ _ _ _ _ _
   | exact ih2 _ _ _ _ _ _ _
   | exact r5_id.mono _ _
   | exact r5_style.mono _ _ _
   | exact r5_word.mono _ _ _ _
   | exact LeO.none _
   | refine LeO.ite ?_ ?_
   | refine LeO.bind ?_ (fun _ => ?_)
  ·intro y0 y1 y2 y3 y4 y5 y6
   unfold r5_own.l1
   repeat' first
   | (with_reducible exact ih0 _ _ _ _ _ _ _)
   | (with_reducible exact ih1 _ _ _ _ _ _ _)
   | (with_reducible exact ih2 _ _ _ _ _ _ _)
   | (with_reducible exact r5_id.mono _ _)
   | (with_reducible exact r5_style.mono _ _ _)
   | (with_reducible exact r5_word.mono _ _ _ _)
   | (with_reducible exact LeO.refl _)
   | (with_reducible exact LeO.none _)
   | (with_reducible refine LeO.ite ?_ ?_)
   | (with_reducible refine LeO.bind ?_ (fun _ => ?_))
   | exact ih0 _ _ _ _ _ _ _
   | exact ih1 _ _ _ _ _ _ _
   | exact ih2 _ _ _ _ _ _ _
   | exact r5_id.mono _ _
   | exact r5_style.mono _ _ _
   | exact r5_word.mono _ _ _ _
   | exact LeO.none _
   | refine LeO.ite ?_ ?_
   | refine LeO.bind ?_ (fun _ => ?_)
theorem r5_own.mono : ∀ a0 a1 a2 a3 a4 a5 k, LeO (r5_own.f k a0 a1 a2 a3 a4 a5) (r5_own.f (k + 1) a0 a1 a2 a3 a4 a5) := by
 intro a0 a1 a2 a3 a4 a5 k
 obtain ⟨ih0, ih1, ih2⟩ := r5_own.mono_l k
 unfold r5_own.f
 repeat' first
   | (with_reducible exact ih0 _ _ _ _ _ _ _)
   | (with_reducible exact ih1 _ _ _ _ _ _ _)
   | (with_reducible exact ih2 _ _ _ _ _ _ _)
   | (with_reducible exact r5_id.mono _ _)
   | (with_reducible exact r5_style.mono _ _ _)
   | (with_reducible exact r5_word.mono _ _ _ _)
   | (with_reducible exact LeO.refl _)
   | (with_reducible exact LeO.none _)
   | (with_reducible refine LeO.ite ?_ ?_)
   | (with_reducible refine LeO.bind ?_ (fun _ => ?_))
   | exact ih0 _ _ _ _ _ _ _
   | exact ih1 _ _ _ _ _ _ _
   | exact ih2 _ _ _ _ _ _ _
   | exact r5_id.mono _ _
   | exact r5_style.mono _ _ _
   | exact r5_word.mono _ _ _ _
   | exact LeO.none _
   | refine LeO.ite ?_ ?_
   | refine LeO.bind ?_ (fun _ => ?_)
set_option maxHeartbeats 8000000 in
set_option maxRecDepth 100000 in
theorem r5_own.calls (k : Nat) (a0_0 : ByteArray) (a0_1 : Int) (a0_2 : Int) (A0_3 : Option Addr) (c0_3 : Nat) (l0_3 : List (S46)) (A0_4 : Option Addr) (c0_4 : Nat) (l0_4 : List (S56)) (A0_5 : Option Addr) (c0_5 : Nat) (l0_5 : List (S52)) (r : Bool) (w : World) (hr0_3 : Kd.C k46 w A0_3 l0_3.length l0_3) (hc0_3 : l0_3.length ≤ c0_3) (hr0_4 : Kd.C k56 w A0_4 l0_4.length l0_4) (hc0_4 : l0_4.length ≤ c0_4) (hr0_5 : Kd.C k52 w A0_5 l0_5.length l0_5) (hc0_5 : l0_5.length ≤ c0_5) (h : r5_own.f k a0_0 a0_1 a0_2 l0_3 l0_4 l0_5 = some r) :
  Calls Tryz.prog 53 #[.agg #[.string a0_0, .int .i64 a0_1, .int .i64 a0_2, .slice A0_3 l0_3.length c0_3, .slice A0_4 l0_4.length c0_4, .slice A0_5 l0_5.length c0_5]] w fun e w' => e = .returned (.bool r) ∧ Below w.heap.size w w' := by
 have hu44 := Tryz.underlying44
 have hu46 := Tryz.underlying46
 have hu52 := Tryz.underlying52
 have HR0_3 := Aside0.mk hr0_3
 have HC0_3 := Aside0.mk hc0_3
 clear hr0_3 hc0_3
 have HR0_4 := Aside0.mk hr0_4
 have HC0_4 := Aside0.mk hc0_4
 clear hr0_4 hc0_4
 have HR0_5 := Aside0.mk hr0_5
 have HC0_5 := Aside0.mk hc0_5
 clear hr0_5 hc0_5
 have HB := Aside0.mk (Below.refl w.heap.size w)
 have H : ((r5_id.f k a0_0).bind fun t177 => (if t177 = true then ((r5_in.f a0_2 0 3).bind fun t178 => (if t178 = true then (if (l0_3.length : Int) > 30 then (r5_own.j0 k true a0_0 a0_1 a0_2 l0_3 l0_4 l0_5) else (r5_own.j0 k (decide ((l0_5.length : Int) > 20)) a0_0 a0_1 a0_2 l0_3 l0_4 l0_5)) else (r5_own.j0 k true a0_0 a0_1 a0_2 l0_3 l0_4 l0_5))) else (r5_own.j0 k true a0_0 a0_1 a0_2 l0_3 l0_4 l0_5))) = some r := h
 clear h
 have HC2 := Aside0.mk H
 clear H
 go_enter Tryz.func53, Tryz.ntmps53
 go_upto_region 1 with (first | ((with_reducible refine gate_dst (N := 1) rfl ?_); (try (refine gate_guard (by rfl) ?_; dsimp only)); refine box_event ?hg (N := 1) ?hd (cs := #[.string a0_0, .int .i64 a0_1, .int .i64 a0_2, .slice A0_3 l0_3.length c0_3, .slice A0_4 l0_4.length c0_4, .slice A0_5 l0_5.length c0_5]) (t := 44) ?hr ?_; (case hd => rfl); (case hg => rfl); (case hr => first | (go_simp; done) | (go_simp; rfl)); intro gb176 hg w3 hbox hb; have n0_ := Aside0.mk (below_step (by repeat (first | (with_reducible first | exact HB.out | apply below_alloc | apply pw_below_drewN | apply below_drew1) | exact HB.out)) hb); have n1_ := Aside0.mk (hbox); have n2_ := Aside0.mk ((by rw [hg]; exact (below_size (by repeat (first | (with_reducible first | exact HB.out | apply below_alloc | apply pw_below_drewN | apply below_drew1) | exact HB.out))) : w.heap.size ≤ gb176)); have n3_ := Aside0.mk ((by rw [hg]; exact (below_size (by repeat (first | (with_reducible first | exact HB.out | apply below_alloc | apply pw_below_drewN | apply below_drew1) | exact HB.out))) : w.heap.size ≤ gb176)); clear HB; have HB := n0_; have BK176 := n1_; have GW176 := n2_; have GE176 := n3_; clear n0_ n1_ n2_ n3_; clear hb hbox hg))
 (try simp only [Act.put, s1_, s2_, s3_])
 go_cut [26] (fun v26 wc => ∃ (kq : Nat) (x26_1 : Bool), v26 = .bool x26_1 ∧ Aside0 (r5_own.j0 kq x26_1 a0_0 a0_1 a0_2 l0_3 l0_4 l0_5 = some r) ∧ Aside0 (kq ≤ k) ∧ Aside0 (wc.heap[gb176]? = some (.cells #[.string a0_0, .int .i64 a0_1, .int .i64 a0_2, (.slice A0_3 l0_3.length c0_3), (.slice A0_4 l0_4.length c0_4), (.slice A0_5 l0_5.length c0_5)] 44 (0, 0))) ∧ Aside0 (Below w.heap.size w wc))
 case first =>
  have H := HC2.out
  clear HC2
  replace H := Option.bind_eq_some_iff.mp H
  obtain ⟨t177, A40, H⟩ := H
  replace H : (if t177 = true then ((r5_in.f a0_2 0 3).bind fun t178 => (if t178 = true then (if (l0_3.length : Int) > 30 then (r5_own.j0 k true a0_0 a0_1 a0_2 l0_3 l0_4 l0_5) else (r5_own.j0 k (decide ((l0_5.length : Int) > 20)) a0_0 a0_1 a0_2 l0_3 l0_4 l0_5)) else (r5_own.j0 k true a0_0 a0_1 a0_2 l0_3 l0_4 l0_5))) else (r5_own.j0 k true a0_0 a0_1 a0_2 l0_3 l0_4 l0_5)) = some r := H
  have A4 := Aside0.mk A40
  clear A40
  by_cases c5 : t177 = true
  ·subst c5
   have H1 : ((r5_in.f a0_2 0 3).bind fun t178 => (if t178 = true then (if (l0_3.length : Int) > 30 then (r5_own.j0 k true a0_0 a0_1 a0_2 l0_3 l0_4 l0_5) else (r5_own.j0 k (decide ((l0_5.length : Int) > 20)) a0_0 a0_1 a0_2 l0_3 l0_4 l0_5)) else (r5_own.j0 k true a0_0 a0_1 a0_2 l0_3 l0_4 l0_5))) = some r := by rw [if_pos rfl] at H; exact H
   clear H
   have H := H1
   clear H1
   replace H := Option.bind_eq_some_iff.mp H
   obtain ⟨t178, A60, H⟩ := H
   replace H : (if t178 = true then (if (l0_3.length : Int) > 30 then (r5_own.j0 k true a0_0 a0_1 a0_2 l0_3 l0_4 l0_5) else (r5_own.j0 k (decide ((l0_5.length : Int) > 20)) a0_0 a0_1 a0_2 l0_3 l0_4 l0_5)) else (r5_own.j0 k true a0_0 a0_1 a0_2 l0_3 l0_4 l0_5)) = some r := H
   have A6 := Aside0.mk A60
   clear A60
   by_cases c7 : t178 = true
   ·subst c7
    have H1 : (if (l0_3.length : Int) > 30 then (r5_own.j0 k true a0_0 a0_1 a0_2 l0_3 l0_4 l0_5) else (r5_own.j0 k (decide ((l0_5.length : Int) > 20)) a0_0 a0_1 a0_2 l0_3 l0_4 l0_5)) = some r := by rw [if_pos rfl] at H; exact H
    clear H
    have H := H1
    clear H1
    by_cases c8 : (l0_3.length : Int) > 30
    ·rw [if_pos c8] at H
     have c8b0 : decide (30 < (l0_3.length : Int)) = true := decide_eq_true c8
     have c8b1 : decide (30 < l0_3.length) = true := decide_eq_true (by omega)
     clear c8
     (first | rw [c8b0] | (simp only [i64_w, i32_w]; rw [c8b0]) | skip)
     have H' := Aside0.mk H
     clear H
     have hcz9_0 : w3.cell? ⟨gb176, 0, none⟩ = some (.string a0_0) := (blk_cell BK176.out 0).trans rfl
     have hcz9_1 : w3.cell? ⟨gb176, 1, none⟩ = some (.int .i64 a0_1) := (blk_cell BK176.out 1).trans rfl
     have hcz9_2 : w3.cell? ⟨gb176, 2, none⟩ = some (.int .i64 a0_2) := (blk_cell BK176.out 2).trans rfl
     have hcz9_3 : w3.cell? ⟨gb176, 3, none⟩ = some (.slice A0_3 l0_3.length c0_3) := (blk_cell BK176.out 3).trans rfl
     have hcz9_4 : w3.cell? ⟨gb176, 4, none⟩ = some (.slice A0_4 l0_4.length c0_4) := (blk_cell BK176.out 4).trans rfl
     have hcz9_5 : w3.cell? ⟨gb176, 5, none⟩ = some (.slice A0_5 l0_5.length c0_5) := (blk_cell BK176.out 5).trans rfl
     have hfz9_0 := blk_frozen BK176.out 0
     have hfz9_1 := blk_frozen BK176.out 1
     have hfz9_2 := blk_frozen BK176.out 2
     have hfz9_3 := blk_frozen BK176.out 3
     have hfz9_4 := blk_frozen BK176.out 4
     have hfz9_5 := blk_frozen BK176.out 5
     go_wp2_with (first | ((with_reducible refine gate_callee (f := 109) rfl ?_); refine goesL_ (some 7) rfl rfl Tryz.func109 (by kernel_rfl) rfl #[.string a0_0] rfl (by (try simp only [List.map_toArray, List.map_cons, List.map_nil]); first | done | rfl | (simp only [List.length_drop, List.length_take]; rfl)) ?_; (with_reducible refine (r5_id.calls k a0_0 true _ A4.out).mono ?_); rintro e w' ⟨rfl, ⟨nd, rfl⟩⟩; refine ⟨_, rfl, ?_⟩) | (go_at_call 54; (with_reducible refine (r5_in.calls a0_2 0 3 true _ A6.out).mono ?_); rintro e w' ⟨rfl, ⟨nd, rfl⟩⟩))
     go_meet
     case rel => exact ⟨_, (true), (by first | rfl | (simp; done) | (simp [*]; done)), H', ⟨by first | omega | exact Nat.le_refl _⟩, ⟨by (with_reducible repeat (first | refine blk_drewN ?_ _ | refine blk_drew ?_ | refine blk_alloc ?_ _)); exact BK176.out⟩, ⟨by repeat (first | (with_reducible first | exact HB.out | apply below_alloc | apply pw_below_drewN | apply below_drew1 | refine below_set ?_ GE176.out) | exact HB.out)⟩⟩
    ·rw [if_neg c8] at H
     have c8b0 : decide (30 < (l0_3.length : Int)) = false := decide_eq_false c8
     have c8b1 : decide (30 < l0_3.length) = false := decide_eq_false (by omega)
     clear c8
     (first | rw [c8b0] | (simp only [i64_w, i32_w]; rw [c8b0]) | skip)
     have H' := Aside0.mk H
     clear H
     have hcz10_0 : w3.cell? ⟨gb176, 0, none⟩ = some (.string a0_0) := (blk_cell BK176.out 0).trans rfl
     have hcz10_1 : w3.cell? ⟨gb176, 1, none⟩ = some (.int .i64 a0_1) := (blk_cell BK176.out 1).trans rfl
     have hcz10_2 : w3.cell? ⟨gb176, 2, none⟩ = some (.int .i64 a0_2) := (blk_cell BK176.out 2).trans rfl
     have hcz10_3 : w3.cell? ⟨gb176, 3, none⟩ = some (.slice A0_3 l0_3.length c0_3) := (blk_cell BK176.out 3).trans rfl
     have hcz10_4 : w3.cell? ⟨gb176, 4, none⟩ = some (.slice A0_4 l0_4.length c0_4) := (blk_cell BK176.out 4).trans rfl
     have hcz10_5 : w3.cell? ⟨gb176, 5, none⟩ = some (.slice A0_5 l0_5.length c0_5) := (blk_cell BK176.out 5).trans rfl
     have hfz10_0 := blk_frozen BK176.out 0
     have hfz10_1 := blk_frozen BK176.out 1
     have hfz10_2 := blk_frozen BK176.out 2
     have hfz10_3 := blk_frozen BK176.out 3
     have hfz10_4 := blk_frozen BK176.out 4
     have hfz10_5 := blk_frozen BK176.out 5
     go_wp2_with (first | ((with_reducible refine gate_callee (f := 109) rfl ?_); refine goesL_ (some 7) rfl rfl Tryz.func109 (by kernel_rfl) rfl #[.string a0_0] rfl (by (try simp only [List.map_toArray, List.map_cons, List.map_nil]); first | done | rfl | (simp only [List.length_drop, List.length_take]; rfl)) ?_; (with_reducible refine (r5_id.calls k a0_0 true _ A4.out).mono ?_); rintro e w' ⟨rfl, ⟨nd, rfl⟩⟩; refine ⟨_, rfl, ?_⟩) | (go_at_call 54; (with_reducible refine (r5_in.calls a0_2 0 3 true _ A6.out).mono ?_); rintro e w' ⟨rfl, ⟨nd, rfl⟩⟩))
     go_meet
     case rel => exact ⟨_, (decide ((l0_5.length : Int) > 20)), (by first | rfl | (simp; done) | (simp [*]; done)), H', ⟨by first | omega | exact Nat.le_refl _⟩, ⟨by (with_reducible repeat (first | refine blk_drewN ?_ _ | refine blk_drew ?_ | refine blk_alloc ?_ _)); exact BK176.out⟩, ⟨by repeat (first | (with_reducible first | exact HB.out | apply below_alloc | apply pw_below_drewN | apply below_drew1 | refine below_set ?_ GE176.out) | exact HB.out)⟩⟩
   ·replace c7 := Bool.eq_false_iff.mpr c7
    subst c7
    have H1 : (r5_own.j0 k true a0_0 a0_1 a0_2 l0_3 l0_4 l0_5) = some r := by rw [if_neg (show ¬ (false = true) by decide)] at H; exact H
    clear H
    have H := H1
    clear H1
    have H' := Aside0.mk H
    clear H
    have hcz11_0 : w3.cell? ⟨gb176, 0, none⟩ = some (.string a0_0) := (blk_cell BK176.out 0).trans rfl
    have hcz11_1 : w3.cell? ⟨gb176, 1, none⟩ = some (.int .i64 a0_1) := (blk_cell BK176.out 1).trans rfl
    have hcz11_2 : w3.cell? ⟨gb176, 2, none⟩ = some (.int .i64 a0_2) := (blk_cell BK176.out 2).trans rfl
    have hcz11_3 : w3.cell? ⟨gb176, 3, none⟩ = some (.slice A0_3 l0_3.length c0_3) := (blk_cell BK176.out 3).trans rfl
    have hcz11_4 : w3.cell? ⟨gb176, 4, none⟩ = some (.slice A0_4 l0_4.length c0_4) := (blk_cell BK176.out 4).trans rfl
    have hcz11_5 : w3.cell? ⟨gb176, 5, none⟩ = some (.slice A0_5 l0_5.length c0_5) := (blk_cell BK176.out 5).trans rfl
    have hfz11_0 := blk_frozen BK176.out 0
    have hfz11_1 := blk_frozen BK176.out 1
    have hfz11_2 := blk_frozen BK176.out 2
    have hfz11_3 := blk_frozen BK176.out 3
    have hfz11_4 := blk_frozen BK176.out 4
    have hfz11_5 := blk_frozen BK176.out 5
    go_wp2_with (first | ((with_reducible refine gate_callee (f := 109) rfl ?_); refine goesL_ (some 7) rfl rfl Tryz.func109 (by kernel_rfl) rfl #[.string a0_0] rfl (by (try simp only [List.map_toArray, List.map_cons, List.map_nil]); first | done | rfl | (simp only [List.length_drop, List.length_take]; rfl)) ?_; (with_reducible refine (r5_id.calls k a0_0 true _ A4.out).mono ?_); rintro e w' ⟨rfl, ⟨nd, rfl⟩⟩; refine ⟨_, rfl, ?_⟩) | (go_at_call 54; (with_reducible refine (r5_in.calls a0_2 0 3 false _ A6.out).mono ?_); rintro e w' ⟨rfl, ⟨nd, rfl⟩⟩))
    go_meet
    case rel => exact ⟨_, (true), (by first | rfl | (simp; done) | (simp [*]; done)), H', ⟨by first | omega | exact Nat.le_refl _⟩, ⟨by (with_reducible repeat (first | refine blk_drewN ?_ _ | refine blk_drew ?_ | refine blk_alloc ?_ _)); exact BK176.out⟩, ⟨by repeat (first | (with_reducible first | exact HB.out | apply below_alloc | apply pw_below_drewN | apply below_drew1 | refine below_set ?_ GE176.out) | exact HB.out)⟩⟩
  ·replace c5 := Bool.eq_false_iff.mpr c5
   subst c5
   have H1 : (r5_own.j0 k true a0_0 a0_1 a0_2 l0_3 l0_4 l0_5) = some r := by rw [if_neg (show ¬ (false = true) by decide)] at H; exact H
   clear H
   have H := H1
   clear H1
   have H' := Aside0.mk H
   clear H
   have hcz12_0 : w3.cell? ⟨gb176, 0, none⟩ = some (.string a0_0) := (blk_cell BK176.out 0).trans rfl
   have hcz12_1 : w3.cell? ⟨gb176, 1, none⟩ = some (.int .i64 a0_1) := (blk_cell BK176.out 1).trans rfl
   have hcz12_2 : w3.cell? ⟨gb176, 2, none⟩ = some (.int .i64 a0_2) := (blk_cell BK176.out 2).trans rfl
   have hcz12_3 : w3.cell? ⟨gb176, 3, none⟩ = some (.slice A0_3 l0_3.length c0_3) := (blk_cell BK176.out 3).trans rfl
   have hcz12_4 : w3.cell? ⟨gb176, 4, none⟩ = some (.slice A0_4 l0_4.length c0_4) := (blk_cell BK176.out 4).trans rfl
   have hcz12_5 : w3.cell? ⟨gb176, 5, none⟩ = some (.slice A0_5 l0_5.length c0_5) := (blk_cell BK176.out 5).trans rfl
   have hfz12_0 := blk_frozen BK176.out 0
   have hfz12_1 := blk_frozen BK176.out 1
   have hfz12_2 := blk_frozen BK176.out 2
   have hfz12_3 := blk_frozen BK176.out 3
   have hfz12_4 := blk_frozen BK176.out 4
   have hfz12_5 := blk_frozen BK176.out 5
   go_wp2_with (first | ((with_reducible refine gate_callee (f := 109) rfl ?_); refine goesL_ (some 7) rfl rfl Tryz.func109 (by kernel_rfl) rfl #[.string a0_0] rfl (by (try simp only [List.map_toArray, List.map_cons, List.map_nil]); first | done | rfl | (simp only [List.length_drop, List.length_take]; rfl)) ?_; (with_reducible refine (r5_id.calls k a0_0 false _ A4.out).mono ?_); rintro e w' ⟨rfl, ⟨nd, rfl⟩⟩; refine ⟨_, rfl, ?_⟩))
   go_meet
   case rel => exact ⟨_, (true), (by first | rfl | (simp; done) | (simp [*]; done)), H', ⟨by first | omega | exact Nat.le_refl _⟩, ⟨by (with_reducible repeat (first | refine blk_drewN ?_ _ | refine blk_drew ?_ | refine blk_alloc ?_ _)); exact BK176.out⟩, ⟨by repeat (first | (with_reducible first | exact HB.out | apply below_alloc | apply pw_below_drewN | apply below_drew1 | refine below_set ?_ GE176.out) | exact HB.out)⟩⟩
 case rest =>
  clear HC2
  try clear c1
  try clear p2
  try clear c5
  try clear c7
  try clear c8
  try clear c8b0
  try clear c8b1
  try clear c10
  try clear hcz10_0
  try clear hcz10_1
  try clear hcz10_2
  try clear hcz10_3
  try clear hcz10_4
  try clear hcz10_5
  try clear hcz11_0
  try clear hcz11_1
  try clear hcz11_2
  try clear hcz11_3
  try clear hcz11_4
  try clear hcz11_5
  try clear hcz12_0
  try clear hcz12_1
  try clear hcz12_2
  try clear hcz12_3
  try clear hcz12_4
  try clear hcz12_5
  try clear hcz9_0
  try clear hcz9_1
  try clear hcz9_2
  try clear hcz9_3
  try clear hcz9_4
  try clear hcz9_5
  try clear hfz10_0
  try clear hfz10_1
  try clear hfz10_2
  try clear hfz10_3
  try clear hfz10_4
  try clear hfz10_5
  try clear hfz11_0
  try clear hfz11_1
  try clear hfz11_2
  try clear hfz11_3
  try clear hfz11_4
  try clear hfz11_5
  try clear hfz12_0
  try clear hfz12_1
  try clear hfz12_2
  try clear hfz12_3
  try clear hfz12_4
  try clear hfz12_5
  try clear hfz9_0
  try clear hfz9_1
  try clear hfz9_2
  try clear hfz9_3
  try clear hfz9_4
  try clear hfz9_5
  obtain ⟨kq, x26_1, rfl, HA, HJ1, BK176, HB⟩ := hcut
  cases kq with
  | zero => exact absurd HA.out (by simp [r5_own.j0])
  | succ kj1 =>
   have H := HA.out
   clear HA
   simp only [r5_own.j0] at H
   by_cases c13 : x26_1 = true
   ·subst c13
    have H1 : (some false) = some r := by rw [if_pos rfl] at H; exact H
    clear H
    have H := H1
    clear H1
    obtain rfl := Option.some.inj H
    go_wp2
    go_ret
    exact ⟨by first | rfl | (simp [errW_none, errW_some] <;> rfl) | (simp [*, errW_none, errW_some] <;> rfl), by repeat (first | (with_reducible first | exact HB.out | apply below_alloc | apply pw_below_drewN | apply below_drew1 | refine below_set ?_ GE176.out) | exact HB.out)⟩
   ·replace c13 := Bool.eq_false_iff.mpr c13
    subst c13
    have H1 : (r5_own.l0 kj1 0 a0_0 a0_1 a0_2 l0_3 l0_4 l0_5) = some r := by rw [if_neg (show ¬ (false = true) by decide)] at H; exact H
    clear H
    have H := H1
    clear H1
    have H' := Aside0.mk H
    clear H
    go_wp2
    go_loopg [3] kj1 (fun kq v3 w' => ∃ (x3_2 : Int), v3 = .int .i64 x3_2 ∧ Aside0 (r5_own.l0 kq x3_2 a0_0 a0_1 a0_2 l0_3 l0_4 l0_5 = some r) ∧ Aside0 (kq ≤ kj1) ∧ Aside0 (w'.heap[gb176]? = some (.cells #[.string a0_0, .int .i64 a0_1, .int .i64 a0_2, (.slice A0_3 l0_3.length c0_3), (.slice A0_4 l0_4.length c0_4), (.slice A0_5 l0_5.length c0_5)] 44 (0, 0))) ∧ Aside0 (Below w.heap.size w w'))
    case atStart => exact ⟨(0), (by first | rfl | (simp; done) | (simp [*]; done)), H', ⟨Nat.le_refl _⟩, ⟨by (with_reducible repeat (first | refine blk_drewN ?_ _ | refine blk_drew ?_ | refine blk_alloc ?_ _)); exact BK176.out⟩, ⟨by repeat (first | (with_reducible first | exact HB.out | apply below_alloc | apply pw_below_drewN | apply below_drew1 | refine below_set ?_ GE176.out) | exact HB.out)⟩⟩
    case round =>
     clear H'
     try clear c1
     try clear p2
     try clear c5
     try clear c7
     try clear c8
     try clear c8b0
     try clear c8b1
     try clear c10
     try clear c13
     try clear hcz10_0
     try clear hcz10_1
     try clear hcz10_2
     try clear hcz10_3
     try clear hcz10_4
     try clear hcz10_5
     try clear hcz11_0
     try clear hcz11_1
     try clear hcz11_2
     try clear hcz11_3
     try clear hcz11_4
     try clear hcz11_5
     try clear hcz12_0
     try clear hcz12_1
     try clear hcz12_2
     try clear hcz12_3
     try clear hcz12_4
     try clear hcz12_5
     try clear hcz9_0
     try clear hcz9_1
     try clear hcz9_2
     try clear hcz9_3
     try clear hcz9_4
     try clear hcz9_5
     try clear hfz10_0
     try clear hfz10_1
     try clear hfz10_2
     try clear hfz10_3
     try clear hfz10_4
     try clear hfz10_5
     try clear hfz11_0
     try clear hfz11_1
     try clear hfz11_2
     try clear hfz11_3
     try clear hfz11_4
     try clear hfz11_5
     try clear hfz12_0
     try clear hfz12_1
     try clear hfz12_2
     try clear hfz12_3
     try clear hfz12_4
     try clear hfz12_5
     try clear hfz9_0
     try clear hfz9_1
     try clear hfz9_2
     try clear hfz9_3
     try clear hfz9_4
     try clear hfz9_5
     try clear p2
     obtain ⟨x3_2, rfl, HA, HK2, BK176, HB⟩ := hrel
     cases gk with
     | zero => exact absurd HA.out (by simp [r5_own.l0])
     | succ k2 =>
      have H := HA.out
      clear HA
      simp only [r5_own.l0] at H
      by_cases c14 : x3_2 < (l0_3.length : Int)
      ·rw [if_pos c14] at H
       have c14b0 : decide (x3_2 < (l0_3.length : Int)) = true := decide_eq_true c14
       clear c14
       by_cases c15 : 0 ≤ x3_2
       ·rw [if_pos c15] at H
        have c15b0 : decide (0 ≤ x3_2) = true := decide_eq_true c15
        clear c15
        replace H := Option.bind_eq_some_iff.mp H
        obtain ⟨t180, A160, H⟩ := H
        replace H : (if t180 = true then (r5_own.l0 k2 (wrap64 (x3_2 + 1)) a0_0 a0_1 a0_2 l0_3 l0_4 l0_5) else (some false)) = some r := H
        have A16 := Aside0.mk A160
        clear A160
        by_cases c17 : t180 = true
        ·subst c17
         have H1 : (r5_own.l0 k2 (wrap64 (x3_2 + 1)) a0_0 a0_1 a0_2 l0_3 l0_4 l0_5) = some r := by rw [if_pos rfl] at H; exact H
         clear H
         have H := H1
         clear H1
         have H' := Aside0.mk H
         clear H
         have hcz18_0 : wr.cell? ⟨gb176, 0, none⟩ = some (.string a0_0) := (blk_cell BK176.out 0).trans rfl
         have hcz18_1 : wr.cell? ⟨gb176, 1, none⟩ = some (.int .i64 a0_1) := (blk_cell BK176.out 1).trans rfl
         have hcz18_2 : wr.cell? ⟨gb176, 2, none⟩ = some (.int .i64 a0_2) := (blk_cell BK176.out 2).trans rfl
         have hcz18_3 : wr.cell? ⟨gb176, 3, none⟩ = some (.slice A0_3 l0_3.length c0_3) := (blk_cell BK176.out 3).trans rfl
         have hcz18_4 : wr.cell? ⟨gb176, 4, none⟩ = some (.slice A0_4 l0_4.length c0_4) := (blk_cell BK176.out 4).trans rfl
         have hcz18_5 : wr.cell? ⟨gb176, 5, none⟩ = some (.slice A0_5 l0_5.length c0_5) := (blk_cell BK176.out 5).trans rfl
         have hfz18_0 := blk_frozen BK176.out 0
         have hfz18_1 := blk_frozen BK176.out 1
         have hfz18_2 := blk_frozen BK176.out 2
         have hfz18_3 := blk_frozen BK176.out 3
         have hfz18_4 := blk_frozen BK176.out 4
         have hfz18_5 := blk_frozen BK176.out 5
         have p179 : 0 ≤ (x3_2 : Int) := of_decide_eq_true (by first | (with_reducible assumption) | assumption)
         have q179 : x3_2 < (l0_3.length : Int) := of_decide_eq_true (by first | (with_reducible assumption) | assumption)
         obtain ⟨ad179, e179, hx179_0, hx179_1, hx179_2⟩ := at_T46 HR0_3.out x3_2 p179 q179
         cases e179
         replace hx179_0 := (HB.out.cell (World.block_lt_of_cell? w _ hx179_0)).trans hx179_0
         replace hx179_1 := (HB.out.cell (World.block_lt_of_cell? w _ hx179_1)).trans hx179_1
         replace hx179_2 := (HB.out.cell (World.block_lt_of_cell? w _ hx179_2)).trans hx179_2
         replace p179 := eq_true p179
         replace q179 := eq_true q179
         go_wp2_with (first | ((with_reducible refine gate_callee (f := 110) rfl ?_); refine goesL_ (some 39) rfl rfl Tryz.func110 (by kernel_rfl) rfl #[.agg #[.string ((rd_T46 l0_3 x3_2).f0), .int .i64 ((rd_T46 l0_3 x3_2).f1), .int .i64 ((rd_T46 l0_3 x3_2).f2)]] rfl (by (try simp only [List.map_toArray, List.map_cons, List.map_nil]); first | done | rfl | (simp only [List.length_drop, List.length_take]; rfl)) ?_; (with_reducible refine (r5_word.calls k2 ((rd_T46 l0_3 x3_2).f0) ((rd_T46 l0_3 x3_2).f1) ((rd_T46 l0_3 x3_2).f2) true _ A16.out).mono ?_); rintro e w19 ⟨rfl, hb⟩; refine ⟨_, rfl, ?_⟩; have n0_ := Aside0.mk (blk_below (g := gb176) (o := .cells #[.string a0_0, .int .i64 a0_1, .int .i64 a0_2, .slice (some ad179) l0_3.length c0_3, .slice A0_4 l0_4.length c0_4, .slice A0_5 l0_5.length c0_5] 44 (0, 0)) (by (with_reducible repeat (first | refine blk_drewN ?_ _ | refine blk_drew ?_ | refine blk_alloc ?_ _)); exact BK176.out) hb); have n1_ := Aside0.mk (below_step (by repeat (first | (with_reducible first | exact HB.out | apply below_alloc | apply pw_below_drewN | apply below_drew1 | refine below_set ?_ GE176.out) | exact HB.out)) hb); clear BK176; clear HB; have BK176 := n0_; have HB := n1_; clear n0_ n1_; (try clear hb); (try clear hb2); (try clear hk); (try clear hi)))
         go_roundg k2
         case measure => have := HJ1.out; have := HK2.out; omega
         case rel => exact ⟨(wrap64 (x3_2 + 1)), (by first | rfl | (simp; done) | (simp [*]; done)), H', ⟨by have := HJ1.out; have := HK2.out; omega⟩, ⟨by (with_reducible repeat (first | refine blk_drewN ?_ _ | refine blk_drew ?_ | refine blk_alloc ?_ _)); exact BK176.out⟩, ⟨by repeat (first | (with_reducible first | exact HB.out | apply below_alloc | apply pw_below_drewN | apply below_drew1 | refine below_set ?_ GE176.out) | exact HB.out)⟩⟩
        ·replace c17 := Bool.eq_false_iff.mpr c17
         subst c17
         have H1 : (some false) = some r := by rw [if_neg (show ¬ (false = true) by decide)] at H; exact H
         clear H
         have H := H1
         clear H1
         obtain rfl := Option.some.inj H
         have hcz20_0 : wr.cell? ⟨gb176, 0, none⟩ = some (.string a0_0) := (blk_cell BK176.out 0).trans rfl
         have hcz20_1 : wr.cell? ⟨gb176, 1, none⟩ = some (.int .i64 a0_1) := (blk_cell BK176.out 1).trans rfl
         have hcz20_2 : wr.cell? ⟨gb176, 2, none⟩ = some (.int .i64 a0_2) := (blk_cell BK176.out 2).trans rfl
         have hcz20_3 : wr.cell? ⟨gb176, 3, none⟩ = some (.slice A0_3 l0_3.length c0_3) := (blk_cell BK176.out 3).trans rfl
         have hcz20_4 : wr.cell? ⟨gb176, 4, none⟩ = some (.slice A0_4 l0_4.length c0_4) := (blk_cell BK176.out 4).trans rfl
         have hcz20_5 : wr.cell? ⟨gb176, 5, none⟩ = some (.slice A0_5 l0_5.length c0_5) := (blk_cell BK176.out 5).trans rfl
         have hfz20_0 := blk_frozen BK176.out 0
         have hfz20_1 := blk_frozen BK176.out 1
         have hfz20_2 := blk_frozen BK176.out 2
         have hfz20_3 := blk_frozen BK176.out 3
         have hfz20_4 := blk_frozen BK176.out 4
         have hfz20_5 := blk_frozen BK176.out 5
         have p179 : 0 ≤ (x3_2 : Int) := of_decide_eq_true (by first | (with_reducible assumption) | assumption)
         have q179 : x3_2 < (l0_3.length : Int) := of_decide_eq_true (by first | (with_reducible assumption) | assumption)
         obtain ⟨ad179, e179, hx179_0, hx179_1, hx179_2⟩ := at_T46 HR0_3.out x3_2 p179 q179
         cases e179
         replace hx179_0 := (HB.out.cell (World.block_lt_of_cell? w _ hx179_0)).trans hx179_0
         replace hx179_1 := (HB.out.cell (World.block_lt_of_cell? w _ hx179_1)).trans hx179_1
         replace hx179_2 := (HB.out.cell (World.block_lt_of_cell? w _ hx179_2)).trans hx179_2
         replace p179 := eq_true p179
         replace q179 := eq_true q179
         go_wp2_with (first | ((with_reducible refine gate_callee (f := 110) rfl ?_); refine goesL_ (some 39) rfl rfl Tryz.func110 (by kernel_rfl) rfl #[.agg #[.string ((rd_T46 l0_3 x3_2).f0), .int .i64 ((rd_T46 l0_3 x3_2).f1), .int .i64 ((rd_T46 l0_3 x3_2).f2)]] rfl (by (try simp only [List.map_toArray, List.map_cons, List.map_nil]); first | done | rfl | (simp only [List.length_drop, List.length_take]; rfl)) ?_; (with_reducible refine (r5_word.calls k2 ((rd_T46 l0_3 x3_2).f0) ((rd_T46 l0_3 x3_2).f1) ((rd_T46 l0_3 x3_2).f2) false _ A16.out).mono ?_); rintro e w21 ⟨rfl, hb⟩; refine ⟨_, rfl, ?_⟩; have n0_ := Aside0.mk (blk_below (g := gb176) (o := .cells #[.string a0_0, .int .i64 a0_1, .int .i64 a0_2, .slice (some ad179) l0_3.length c0_3, .slice A0_4 l0_4.length c0_4, .slice A0_5 l0_5.length c0_5] 44 (0, 0)) (by (with_reducible repeat (first | refine blk_drewN ?_ _ | refine blk_drew ?_ | refine blk_alloc ?_ _)); exact BK176.out) hb); have n1_ := Aside0.mk (below_step (by repeat (first | (with_reducible first | exact HB.out | apply below_alloc | apply pw_below_drewN | apply below_drew1 | refine below_set ?_ GE176.out) | exact HB.out)) hb); clear BK176; clear HB; have BK176 := n0_; have HB := n1_; clear n0_ n1_; (try clear hb); (try clear hb2); (try clear hk); (try clear hi)))
         go_ret
         exact ⟨by first | rfl | (simp [errW_none, errW_some] <;> rfl) | (simp [*, errW_none, errW_some] <;> rfl), by repeat (first | (with_reducible first | exact HB.out | apply below_alloc | apply pw_below_drewN | apply below_drew1 | refine below_set ?_ GE176.out) | exact HB.out)⟩
       ·rw [if_neg c15] at H
        exact absurd H (by simp)
      ·rw [if_neg c14] at H
       have c14b0 : decide (x3_2 < (l0_3.length : Int)) = false := decide_eq_false c14
       clear c14
       have H' := Aside0.mk H
       clear H
       have hcz22_0 : wr.cell? ⟨gb176, 0, none⟩ = some (.string a0_0) := (blk_cell BK176.out 0).trans rfl
       have hcz22_1 : wr.cell? ⟨gb176, 1, none⟩ = some (.int .i64 a0_1) := (blk_cell BK176.out 1).trans rfl
       have hcz22_2 : wr.cell? ⟨gb176, 2, none⟩ = some (.int .i64 a0_2) := (blk_cell BK176.out 2).trans rfl
       have hcz22_3 : wr.cell? ⟨gb176, 3, none⟩ = some (.slice A0_3 l0_3.length c0_3) := (blk_cell BK176.out 3).trans rfl
       have hcz22_4 : wr.cell? ⟨gb176, 4, none⟩ = some (.slice A0_4 l0_4.length c0_4) := (blk_cell BK176.out 4).trans rfl
       have hcz22_5 : wr.cell? ⟨gb176, 5, none⟩ = some (.slice A0_5 l0_5.length c0_5) := (blk_cell BK176.out 5).trans rfl
       have hfz22_0 := blk_frozen BK176.out 0
       have hfz22_1 := blk_frozen BK176.out 1
       have hfz22_2 := blk_frozen BK176.out 2
       have hfz22_3 := blk_frozen BK176.out 3
       have hfz22_4 := blk_frozen BK176.out 4
       have hfz22_5 := blk_frozen BK176.out 5
       go_wp2
       go_loopg [4] k2 (fun kq v4 w' => ∃ (x4_3 : Int), v4 = .int .i64 x4_3 ∧ Aside0 (r5_own.l1 kq x4_3 a0_0 a0_1 a0_2 l0_3 l0_4 l0_5 = some r) ∧ Aside0 (kq ≤ k2) ∧ Aside0 (w'.heap[gb176]? = some (.cells #[.string a0_0, .int .i64 a0_1, .int .i64 a0_2, (.slice A0_3 l0_3.length c0_3), (.slice A0_4 l0_4.length c0_4), (.slice A0_5 l0_5.length c0_5)] 44 (0, 0))) ∧ Aside0 (Below w.heap.size w w'))
       case atStart => exact ⟨(0), (by first | rfl | (simp; done) | (simp [*]; done)), H', ⟨Nat.le_refl _⟩, ⟨by (with_reducible repeat (first | refine blk_drewN ?_ _ | refine blk_drew ?_ | refine blk_alloc ?_ _)); exact BK176.out⟩, ⟨by repeat (first | (with_reducible first | exact HB.out | apply below_alloc | apply pw_below_drewN | apply below_drew1 | refine below_set ?_ GE176.out) | exact HB.out)⟩⟩
       case round =>
        clear H'
        try clear c1
        try clear p1
        try clear q1
        try clear hx1
        try clear p2
        try clear c5
        try clear p6
        try clear c7
        try clear c8
        try clear c8b0
        try clear c8b1
        try clear c10
        try clear c11
        try clear c13
        try clear c14
        try clear c14b0
        try clear c15
        try clear c15b0
        try clear c17
        try clear p17
        try clear q17
        try clear hx17
        try clear hcz10_0
        try clear hcz10_1
        try clear hcz10_2
        try clear hcz10_3
        try clear hcz10_4
        try clear hcz10_5
        try clear hcz11_0
        try clear hcz11_1
        try clear hcz11_2
        try clear hcz11_3
        try clear hcz11_4
        try clear hcz11_5
        try clear hcz12_0
        try clear hcz12_1
        try clear hcz12_2
        try clear hcz12_3
        try clear hcz12_4
        try clear hcz12_5
        try clear hcz18_0
        try clear hcz18_1
        try clear hcz18_2
        try clear hcz18_3
        try clear hcz18_4
        try clear hcz18_5
        try clear hcz20_0
        try clear hcz20_1
        try clear hcz20_2
        try clear hcz20_3
        try clear hcz20_4
        try clear hcz20_5
        try clear hcz22_0
        try clear hcz22_1
        try clear hcz22_2
        try clear hcz22_3
        try clear hcz22_4
        try clear hcz22_5
        try clear hcz9_0
        try clear hcz9_1
        try clear hcz9_2
        try clear hcz9_3
        try clear hcz9_4
        try clear hcz9_5
        try clear hfz10_0
        try clear hfz10_1
        try clear hfz10_2
        try clear hfz10_3
        try clear hfz10_4
        try clear hfz10_5
        try clear hfz11_0
        try clear hfz11_1
        try clear hfz11_2
        try clear hfz11_3
        try clear hfz11_4
        try clear hfz11_5
        try clear hfz12_0
        try clear hfz12_1
        try clear hfz12_2
        try clear hfz12_3
        try clear hfz12_4
        try clear hfz12_5
        try clear hfz18_0
        try clear hfz18_1
        try clear hfz18_2
        try clear hfz18_3
        try clear hfz18_4
        try clear hfz18_5
        try clear hfz20_0
        try clear hfz20_1
        try clear hfz20_2
        try clear hfz20_3
        try clear hfz20_4
        try clear hfz20_5
        try clear hfz22_0
        try clear hfz22_1
        try clear hfz22_2
        try clear hfz22_3
        try clear hfz22_4
        try clear hfz22_5
        try clear hfz9_0
        try clear hfz9_1
        try clear hfz9_2
        try clear hfz9_3
        try clear hfz9_4
        try clear hfz9_5
        try clear hx179_0
        try clear hx179_1
        try clear hx179_2
        try clear p179
        try clear p2
        try clear q179
        obtain ⟨x4_3, rfl, HA, HK3, BK176, HB⟩ := hrel
        cases gk with
        | zero => exact absurd HA.out (by simp [r5_own.l1])
        | succ k3 =>
         have H := HA.out
         clear HA
         simp only [r5_own.l1] at H
         by_cases c23 : x4_3 < (l0_5.length : Int)
         ·rw [if_pos c23] at H
          have c23b0 : decide (x4_3 < (l0_5.length : Int)) = true := decide_eq_true c23
          clear c23
          by_cases c24 : 0 ≤ x4_3
          ·rw [if_pos c24] at H
           have c24b0 : decide (0 ≤ x4_3) = true := decide_eq_true c24
           clear c24
           replace H := Option.bind_eq_some_iff.mp H
           obtain ⟨t182, A250, H⟩ := H
           replace H : (if t182 = true then (r5_own.l1 k3 (wrap64 (x4_3 + 1)) a0_0 a0_1 a0_2 l0_3 l0_4 l0_5) else (some false)) = some r := H
           have A25 := Aside0.mk A250
           clear A250
           by_cases c26 : t182 = true
           ·subst c26
            have H1 : (r5_own.l1 k3 (wrap64 (x4_3 + 1)) a0_0 a0_1 a0_2 l0_3 l0_4 l0_5) = some r := by rw [if_pos rfl] at H; exact H
            clear H
            have H := H1
            clear H1
            have H' := Aside0.mk H
            clear H
            have hcz27_0 : wr.cell? ⟨gb176, 0, none⟩ = some (.string a0_0) := (blk_cell BK176.out 0).trans rfl
            have hcz27_1 : wr.cell? ⟨gb176, 1, none⟩ = some (.int .i64 a0_1) := (blk_cell BK176.out 1).trans rfl
            have hcz27_2 : wr.cell? ⟨gb176, 2, none⟩ = some (.int .i64 a0_2) := (blk_cell BK176.out 2).trans rfl
            have hcz27_3 : wr.cell? ⟨gb176, 3, none⟩ = some (.slice A0_3 l0_3.length c0_3) := (blk_cell BK176.out 3).trans rfl
            have hcz27_4 : wr.cell? ⟨gb176, 4, none⟩ = some (.slice A0_4 l0_4.length c0_4) := (blk_cell BK176.out 4).trans rfl
            have hcz27_5 : wr.cell? ⟨gb176, 5, none⟩ = some (.slice A0_5 l0_5.length c0_5) := (blk_cell BK176.out 5).trans rfl
            have hfz27_0 := blk_frozen BK176.out 0
            have hfz27_1 := blk_frozen BK176.out 1
            have hfz27_2 := blk_frozen BK176.out 2
            have hfz27_3 := blk_frozen BK176.out 3
            have hfz27_4 := blk_frozen BK176.out 4
            have hfz27_5 := blk_frozen BK176.out 5
            have p181 : 0 ≤ (x4_3 : Int) := of_decide_eq_true (by first | (with_reducible assumption) | assumption)
            have q181 : x4_3 < (l0_5.length : Int) := of_decide_eq_true (by first | (with_reducible assumption) | assumption)
            obtain ⟨ad181, A181_1, c181_1, e181, hx181_0, hx181_1, hl181_1, hi181_1⟩ := at_T52 HR0_5.out x4_3 p181 q181
            cases e181
            replace hx181_0 := (HB.out.cell (World.block_lt_of_cell? w _ hx181_0)).trans hx181_0
            replace hx181_1 := (HB.out.cell (World.block_lt_of_cell? w _ hx181_1)).trans hx181_1
            have HR181_1 := Aside0.mk hi181_1
            have HC181_1 := Aside0.mk hl181_1
            clear hi181_1 hl181_1
            replace p181 := eq_true p181
            replace q181 := eq_true q181
            go_wp2_with (first | ((with_reducible refine gate_callee (f := 111) rfl ?_); refine goesL_ (some 53) rfl rfl Tryz.func111 (by kernel_rfl) rfl #[.agg #[.int .i64 ((rd_T52 l0_5 x4_3).f0), .slice A181_1 ((rd_T52 l0_5 x4_3).f1).length c181_1]] rfl (by (try simp only [List.map_toArray, List.map_cons, List.map_nil]); first | done | rfl | (simp only [List.length_drop, List.length_take]; rfl)) ?_; (with_reducible refine (r5_style.calls k3 ((rd_T52 l0_5 x4_3).f0) _ _ ((rd_T52 l0_5 x4_3).f1) true _ ?side1 ?side2 A25.out).mono ?_); (case side1 => repeat (first | exact (Kd.C_below HR181_1.out HB.out) | (with_reducible refine Kd.C_alloc ?_ _) | (with_reducible refine Kd.C_drewN ?_ _) | (with_reducible refine Kd.C_drew ?_))); (case side2 => exact HC181_1.out); rintro e w28 ⟨rfl, hb⟩; refine ⟨_, rfl, ?_⟩; have n0_ := Aside0.mk (blk_below (g := gb176) (o := .cells #[.string a0_0, .int .i64 a0_1, .int .i64 a0_2, .slice A0_3 l0_3.length c0_3, .slice A0_4 l0_4.length c0_4, .slice (some ad181) l0_5.length c0_5] 44 (0, 0)) (by (with_reducible repeat (first | refine blk_drewN ?_ _ | refine blk_drew ?_ | refine blk_alloc ?_ _)); exact BK176.out) hb); have n1_ := Aside0.mk (below_step (by repeat (first | (with_reducible first | exact HB.out | apply below_alloc | apply pw_below_drewN | apply below_drew1 | refine below_set ?_ GE176.out) | exact HB.out)) hb); clear BK176; clear HB; have BK176 := n0_; have HB := n1_; clear n0_ n1_; (try clear hb); (try clear hb2); (try clear hk); (try clear hi)))
            go_roundg k3
            case measure => have := HJ1.out; have := HK2.out; have := HK3.out; omega
            case rel => exact ⟨(wrap64 (x4_3 + 1)), (by first | rfl | (simp; done) | (simp [*]; done)), H', ⟨by have := HJ1.out; have := HK2.out; have := HK3.out; omega⟩, ⟨by (with_reducible repeat (first | refine blk_drewN ?_ _ | refine blk_drew ?_ | refine blk_alloc ?_ _)); exact BK176.out⟩, ⟨by repeat (first | (with_reducible first | exact HB.out | apply below_alloc | apply pw_below_drewN | apply below_drew1 | refine below_set ?_ GE176.out) | exact HB.out)⟩⟩
           ·replace c26 := Bool.eq_false_iff.mpr c26
            subst c26
            have H1 : (some false) = some r := by rw [if_neg (show ¬ (false = true) by decide)] at H; exact H
            clear H
            have H := H1
            clear H1
            obtain rfl := Option.some.inj H
            have hcz29_0 : wr.cell? ⟨gb176, 0, none⟩ = some (.string a0_0) := (blk_cell BK176.out 0).trans rfl
            have hcz29_1 : wr.cell? ⟨gb176, 1, none⟩ = some (.int .i64 a0_1) := (blk_cell BK176.out 1).trans rfl
            have hcz29_2 : wr.cell? ⟨gb176, 2, none⟩ = some (.int .i64 a0_2) := (blk_cell BK176.out 2).trans rfl
            have hcz29_3 : wr.cell? ⟨gb176, 3, none⟩ = some (.slice A0_3 l0_3.length c0_3) := (blk_cell BK176.out 3).trans rfl
            have hcz29_4 : wr.cell? ⟨gb176, 4, none⟩ = some (.slice A0_4 l0_4.length c0_4) := (blk_cell BK176.out 4).trans rfl
            have hcz29_5 : wr.cell? ⟨gb176, 5, none⟩ = some (.slice A0_5 l0_5.length c0_5) := (blk_cell BK176.out 5).trans rfl
            have hfz29_0 := blk_frozen BK176.out 0
            have hfz29_1 := blk_frozen BK176.out 1
            have hfz29_2 := blk_frozen BK176.out 2
            have hfz29_3 := blk_frozen BK176.out 3
            have hfz29_4 := blk_frozen BK176.out 4
            have hfz29_5 := blk_frozen BK176.out 5
            have p181 : 0 ≤ (x4_3 : Int) := of_decide_eq_true (by first | (with_reducible assumption) | assumption)
            have q181 : x4_3 < (l0_5.length : Int) := of_decide_eq_true (by first | (with_reducible assumption) | assumption)
            obtain ⟨ad181, A181_1, c181_1, e181, hx181_0, hx181_1, hl181_1, hi181_1⟩ := at_T52 HR0_5.out x4_3 p181 q181
            cases e181
            replace hx181_0 := (HB.out.cell (World.block_lt_of_cell? w _ hx181_0)).trans hx181_0
            replace hx181_1 := (HB.out.cell (World.block_lt_of_cell? w _ hx181_1)).trans hx181_1
            have HR181_1 := Aside0.mk hi181_1
            have HC181_1 := Aside0.mk hl181_1
            clear hi181_1 hl181_1
            replace p181 := eq_true p181
            replace q181 := eq_true q181
            go_wp2_with (first | ((with_reducible refine gate_callee (f := 111) rfl ?_); refine goesL_ (some 53) rfl rfl Tryz.func111 (by kernel_rfl) rfl #[.agg #[.int .i64 ((rd_T52 l0_5 x4_3).f0), .slice A181_1 ((rd_T52 l0_5 x4_3).f1).length c181_1]] rfl (by (try simp only [List.map_toArray, List.map_cons, List.map_nil]); first | done | rfl | (simp only [List.length_drop, List.length_take]; rfl)) ?_; (with_reducible refine (r5_style.calls k3 ((rd_T52 l0_5 x4_3).f0) _ _ ((rd_T52 l0_5 x4_3).f1) false _ ?side1 ?side2 A25.out).mono ?_); (case side1 => repeat (first | exact (Kd.C_below HR181_1.out HB.out) | (with_reducible refine Kd.C_alloc ?_ _) | (with_reducible refine Kd.C_drewN ?_ _) | (with_reducible refine Kd.C_drew ?_))); (case side2 => exact HC181_1.out); rintro e w30 ⟨rfl, hb⟩; refine ⟨_, rfl, ?_⟩; have n0_ := Aside0.mk (blk_below (g := gb176) (o := .cells #[.string a0_0, .int .i64 a0_1, .int .i64 a0_2, .slice A0_3 l0_3.length c0_3, .slice A0_4 l0_4.length c0_4, .slice (some ad181) l0_5.length c0_5] 44 (0, 0)) (by (with_reducible repeat (first | refine blk_drewN ?_ _ | refine blk_drew ?_ | refine blk_alloc ?_ _)); exact BK176.out) hb); have n1_ := Aside0.mk (below_step (by repeat (first | (with_reducible first | exact HB.out | apply below_alloc | apply pw_below_drewN | apply below_drew1 | refine below_set ?_ GE176.out) | exact HB.out)) hb); clear BK176; clear HB; have BK176 := n0_; have HB := n1_; clear n0_ n1_; (try clear hb); (try clear hb2); (try clear hk); (try clear hi)))
            go_ret
            exact ⟨by first | rfl | (simp [errW_none, errW_some] <;> rfl) | (simp [*, errW_none, errW_some] <;> rfl), by repeat (first | (with_reducible first | exact HB.out | apply below_alloc | apply pw_below_drewN | apply below_drew1 | refine below_set ?_ GE176.out) | exact HB.out)⟩
          ·rw [if_neg c24] at H
           exact absurd H (by simp)
         ·rw [if_neg c23] at H
          have c23b0 : decide (x4_3 < (l0_5.length : Int)) = false := decide_eq_false c23
          clear c23
          obtain rfl := Option.some.inj H
          have hcz31_0 : wr.cell? ⟨gb176, 0, none⟩ = some (.string a0_0) := (blk_cell BK176.out 0).trans rfl
          have hcz31_1 : wr.cell? ⟨gb176, 1, none⟩ = some (.int .i64 a0_1) := (blk_cell BK176.out 1).trans rfl
          have hcz31_2 : wr.cell? ⟨gb176, 2, none⟩ = some (.int .i64 a0_2) := (blk_cell BK176.out 2).trans rfl
          have hcz31_3 : wr.cell? ⟨gb176, 3, none⟩ = some (.slice A0_3 l0_3.length c0_3) := (blk_cell BK176.out 3).trans rfl
          have hcz31_4 : wr.cell? ⟨gb176, 4, none⟩ = some (.slice A0_4 l0_4.length c0_4) := (blk_cell BK176.out 4).trans rfl
          have hcz31_5 : wr.cell? ⟨gb176, 5, none⟩ = some (.slice A0_5 l0_5.length c0_5) := (blk_cell BK176.out 5).trans rfl
          have hfz31_0 := blk_frozen BK176.out 0
          have hfz31_1 := blk_frozen BK176.out 1
          have hfz31_2 := blk_frozen BK176.out 2
          have hfz31_3 := blk_frozen BK176.out 3
          have hfz31_4 := blk_frozen BK176.out 4
          have hfz31_5 := blk_frozen BK176.out 5
          go_wp2
          go_ret
          exact ⟨by first | rfl | (simp [errW_none, errW_some] <;> rfl) | (simp [*, errW_none, errW_some] <;> rfl), by repeat (first | (with_reducible first | exact HB.out | apply below_alloc | apply pw_below_drewN | apply below_drew1 | refine below_set ?_ GE176.out) | exact HB.out)⟩
mutual
noncomputable def r4_wants.j0 : Nat → Int → Bool → Option (Int × Int)
 | 0, _, _ => none
 | k + 1, x4, x5 => if x5 = true then (some (1, 1)) else (if x4 = 2 then (r4_wants.j1 k x4 (x4 == 2)) else (if x4 = 5 then (r4_wants.j1 k x4 (x4 == 5)) else (if x4 = 9 then (r4_wants.j1 k x4 (x4 == 9)) else (if x4 = 12 then (r4_wants.j1 k x4 (x4 == 12)) else (if x4 = 13 then (r4_wants.j1 k x4 (x4 == 13)) else (if x4 = 14 then (r4_wants.j1 k x4 (x4 == 14)) else (r4_wants.j1 k x4 (x4 == 15))))))))
noncomputable def r4_wants.j1 : Nat → Int → Bool → Option (Int × Int)
 | 0, _, _ => none
 | k + 1, x4, x10 => if x10 = true then (some (2, 2)) else (if x4 = 1 then (r4_wants.j2 k x4 (x4 == 1)) else (r4_wants.j2 k x4 (x4 == 6)))
noncomputable def r4_wants.j2 : Nat → Int → Bool → Option (Int × Int)
 | 0, _, _ => none
 | k + 1, x4, x18 => if x18 = true then (some (3, 3)) else (if x4 = 3 then (r4_wants.j3 k x4 (x4 == 3)) else (r4_wants.j3 k x4 (x4 == 4)))
noncomputable def r4_wants.j3 : Nat → Int → Bool → Option (Int × Int)
 | 0, _, _ => none
 | k + 1, x4, x21 => if x21 = true then (some (2, 3)) else (if x4 = 10 then (some (1, 6)) else (some (1, 0)))
end
noncomputable def r4_wants.f (k : Nat) (a0 : Int) : Option (Int × Int) := if a0 = 0 then (r4_wants.j0 k a0 (a0 == 0)) else (if a0 = 7 then (r4_wants.j0 k a0 (a0 == 7)) else (if a0 = 8 then (r4_wants.j0 k a0 (a0 == 8)) else (r4_wants.j0 k a0 (a0 == 11))))
theorem r4_wants.mono_l : ∀ k, (∀ y0 y1, LeO (r4_wants.j0 k y0 y1) (r4_wants.j0 (k + 1) y0 y1)) ∧ (∀ y0 y1, LeO (r4_wants.j1 k y0 y1) (r4_wants.j1 (k + 1) y0 y1)) ∧ (∀ y0 y1, LeO (r4_wants.j2 k y0 y1) (r4_wants.j2 (k + 1) y0 y1)) ∧ (∀ y0 y1, LeO (r4_wants.j3 k y0 y1) (r4_wants.j3 (k + 1) y0 y1))
 | 0 => ⟨fun _ _ r h => by simp [r4_wants.j0] at h, fun _ _ r h => by simp [r4_wants.j1] at h, fun _ _ r h => by simp [r4_wants.j2] at h, fun _ _ r h => by simp [r4_wants.j3] at h⟩
 | k + 1 => by
  obtain ⟨ih0, ih1, ih2, ih3⟩ := r4_wants.mono_l k
  refine ⟨?_, ?_, ?_, ?_⟩
  ·intro y0 y1
   unfold r4_wants.j0
   repeat' first
   | (with_reducible exact ih0 _ _)
   | (with_reducible exact ih1 _ _)
   | (with_reducible exact ih2 _ _)
   | (with_reducible exact ih3 _ _)
   | (with_reducible exact LeO.refl _)
   | (with_reducible exact LeO.none _)
   | (with_reducible refine LeO.ite ?_ ?_)
   | (with_reducible refine LeO.bind ?_ (fun _ => ?_))
   | exact ih0 _ _
   | exact ih1 _ _
   | exact ih2 _ _
   | exact ih3 _ _
   | exact LeO.none _
   | refine LeO.ite ?_ ?_
   | refine LeO.bind ?_ (fun _ => ?_)
  ·intro y0 y1
   unfold r4_wants.j1
   repeat' first
   | (with_reducible exact ih0 _ _)
   | (with_reducible exact ih1 _ _)
   | (with_reducible exact ih2 _ _)
   | (with_reducible exact ih3 _ _)
   | (with_reducible exact LeO.refl _)
   | (with_reducible exact LeO.none _)
   | (with_reducible refine LeO.ite ?_ ?_)
   | (with_reducible refine LeO.bind ?_ (fun _ => ?_))
   | exact ih0 _ _
   | exact ih1 _ _
   | exact ih2 _ _
   | exact ih3 _ _
   | exact LeO.none _
   | refine LeO.ite ?_ ?_
   | refine LeO.bind ?_ (fun _ => ?_)
  ·intro y0 y1
   unfold r4_wants.j2
   repeat' first
   | (with_reducible exact ih0 _ _)
   | (with_reducible exact ih1 _ _)
   | (with_reducible exact ih2 _ _)
   | (with_reducible exact ih3 _ _)
   | (with_reducible exact LeO.refl _)
   | (with_reducible exact LeO.none _)
   | (with_reducible refine LeO.ite ?_ ?_)
   | (with_reducible refine LeO.bind ?_ (fun _ => ?_))
   | exact ih0 _ _
   | exact ih1 _ _
   | exact ih2 _ _
   | exact ih3 _ _
   | exact LeO.none _
   | refine LeO.ite ?_ ?_
   | refine LeO.bind ?_ (fun _ => ?_)
  ·intro y0 y1
   unfold r4_wants.j3
   repeat' first
   | (with_reducible exact ih0 _ _)
   | (with_reducible exact ih1 _ _)
   | (with_reducible exact ih2 _ _)
   | (with_reducible exact ih3 _ _)
   | (with_reducible exact LeO.refl _)
   | (with_reducible exact LeO.none _)
   | (with_reducible refine LeO.ite ?_ ?_)
   | (with_reducible refine LeO.bind ?_ (fun _ => ?_))
   | exact ih0 _ _
   | exact ih1 _ _
   | exact ih2 _ _
   | exact ih3 _ _
   | exact LeO.none _
   | refine LeO.ite ?_ ?_
   | refine LeO.bind ?_ (fun _ => ?_)
theorem r4_wants.mono : ∀ a0 k, LeO (r4_wants.f k a0) (r4_wants.f (k + 1) a0) := by
 intro a0 k
 obtain ⟨ih0, ih1, ih2, ih3⟩ := r4_wants.mono_l k
 unfold r4_wants.f
 repeat' first
   | (with_reducible exact ih0 _ _)
   | (with_reducible exact ih1 _ _)
   | (with_reducible exact ih2 _ _)
   | (with_reducible exact ih3 _ _)
   | (with_reducible exact LeO.refl _)
   | (with_reducible exact LeO.none _)
   | (with_reducible refine LeO.ite ?_ ?_)
   | (with_reducible refine LeO.bind ?_ (fun _ => ?_))
   | exact ih0 _ _
   | exact ih1 _ _
   | exact ih2 _ _
   | exact ih3 _ _
   | exact LeO.none _
   | refine LeO.ite ?_ ?_
   | refine LeO.bind ?_ (fun _ => ?_)
set_option maxHeartbeats 8000000 in
set_option maxRecDepth 100000 in
theorem r4_wants.calls (k : Nat) (a0 : Int) (r1 : Int) (r2 : Int) (w : World) (h : r4_wants.f k a0 = some (r1, r2)) :
  Calls Tryz.prog 116 #[.int .i64 a0] w fun e w' => e = .returned (.tuple #[.int .i64 r1, .int .i64 r2]) ∧ Drawn0 w w' := by
 have H : (if a0 = 0 then (r4_wants.j0 k a0 (a0 == 0)) else (if a0 = 7 then (r4_wants.j0 k a0 (a0 == 7)) else (if a0 = 8 then (r4_wants.j0 k a0 (a0 == 8)) else (r4_wants.j0 k a0 (a0 == 11))))) = some (r1, r2) := h
 clear h
 have HC2 := Aside0.mk H
 clear H
 go_enter Tryz.func116, Tryz.ntmps116
 go_upto_if 5 with (fail)
 go_cut [5] (fun v5 wc => ∃ (kq : Nat) (x5_1 : Bool), v5 = .bool x5_1 ∧ Aside0 (r4_wants.j0 kq a0 x5_1 = some (r1, r2)) ∧ Aside0 (kq ≤ k) ∧ Drawn0 w wc)
 case first =>
  have H := HC2.out
  clear HC2
  by_cases c3 : a0 = 0
  ·rw [if_pos c3] at H
   have c3b0 : (a0 == 0) = true := beq_iff_eq.mpr c3
   have c3b1 : (a0 != 0) = false := bne_eq_false_iff_eq.mpr c3
   clear c3
   (first | rw [c3b0] | (simp only [i64_w, i32_w]; rw [c3b0]) | skip)
   have H' := Aside0.mk H
   clear H
   go_wp2
   go_meet
   case rel => exact ⟨_, ((a0 == 0)), (by first | rfl | (simp; done) | (simp [*]; done)), H', ⟨by first | omega | exact Nat.le_refl _⟩, by repeat (first | exact Drawn0.refl _ | apply Drawn0.step)⟩
  ·rw [if_neg c3] at H
   have c3b0 : (a0 == 0) = false := beq_eq_false_iff_ne.mpr c3
   have c3b1 : (a0 != 0) = true := bne_iff_ne.mpr c3
   (first | rw [c3b0] | (simp only [i64_w, i32_w]; rw [c3b0]) | skip)
   by_cases c4 : a0 = 7
   ·rw [if_pos c4] at H
    have c4b0 : (a0 == 7) = true := beq_iff_eq.mpr c4
    have c4b1 : (a0 != 7) = false := bne_eq_false_iff_eq.mpr c4
    clear c4
    have H' := Aside0.mk H
    clear H
    go_wp2
    go_meet
    case rel => exact ⟨_, ((a0 == 7)), (by first | rfl | (simp; done) | (simp [*]; done)), H', ⟨by first | omega | exact Nat.le_refl _⟩, by repeat (first | exact Drawn0.refl _ | apply Drawn0.step)⟩
   ·rw [if_neg c4] at H
    have c4b0 : (a0 == 7) = false := beq_eq_false_iff_ne.mpr c4
    have c4b1 : (a0 != 7) = true := bne_iff_ne.mpr c4
    by_cases c5 : a0 = 8
    ·rw [if_pos c5] at H
     have c5b0 : (a0 == 8) = true := beq_iff_eq.mpr c5
     have c5b1 : (a0 != 8) = false := bne_eq_false_iff_eq.mpr c5
     clear c5
     have H' := Aside0.mk H
     clear H
     go_wp2
     go_meet
     case rel => exact ⟨_, ((a0 == 8)), (by first | rfl | (simp; done) | (simp [*]; done)), H', ⟨by first | omega | exact Nat.le_refl _⟩, by repeat (first | exact Drawn0.refl _ | apply Drawn0.step)⟩
    ·rw [if_neg c5] at H
     have c5b0 : (a0 == 8) = false := beq_eq_false_iff_ne.mpr c5
     have c5b1 : (a0 != 8) = true := bne_iff_ne.mpr c5
     have H' := Aside0.mk H
     clear H
     go_wp2
     go_meet
     case rel => exact ⟨_, ((a0 == 11)), (by first | rfl | (simp; done) | (simp [*]; done)), H', ⟨by first | omega | exact Nat.le_refl _⟩, by repeat (first | exact Drawn0.refl _ | apply Drawn0.step)⟩
 case rest =>
  clear HC2
  try clear c1
  try clear p2
  try clear c3
  try clear c3b0
  try clear c3b1
  try clear c4
  try clear c4b0
  try clear c4b1
  try clear c5
  try clear c5b0
  try clear c5b1
  obtain ⟨kq, x5_1, rfl, HA, HJ1, ⟨mc1, rfl⟩⟩ := hcut
  cases kq with
  | zero => exact absurd HA.out (by simp [r4_wants.j0])
  | succ kj1 =>
   have H := HA.out
   clear HA
   simp only [r4_wants.j0] at H
   by_cases c6 : x5_1 = true
   ·subst c6
    have H1 : (some (1, 1)) = some (r1, r2) := by rw [if_pos rfl] at H; exact H
    clear H
    have H := H1
    clear H1
    simp only [Option.some.injEq, Prod.mk.injEq] at H
    obtain ⟨rfl, rfl⟩ := H
    go_wp2
    go_ret2
    exact ⟨by first | rfl | (simp; done) | (simp [*]; done), by repeat (first | exact Drawn0.refl _ | apply Drawn0.step)⟩
   ·replace c6 := Bool.eq_false_iff.mpr c6
    subst c6
    have H1 : (if a0 = 2 then (r4_wants.j1 kj1 a0 (a0 == 2)) else (if a0 = 5 then (r4_wants.j1 kj1 a0 (a0 == 5)) else (if a0 = 9 then (r4_wants.j1 kj1 a0 (a0 == 9)) else (if a0 = 12 then (r4_wants.j1 kj1 a0 (a0 == 12)) else (if a0 = 13 then (r4_wants.j1 kj1 a0 (a0 == 13)) else (if a0 = 14 then (r4_wants.j1 kj1 a0 (a0 == 14)) else (r4_wants.j1 kj1 a0 (a0 == 15)))))))) = some (r1, r2) := by rw [if_neg (show ¬ (false = true) by decide)] at H; exact H
    clear H
    have H := H1
    clear H1
    have HC7 := Aside0.mk H
    clear H
    go_upto_if 10 with (fail)
    go_cut [10] (fun v10 wc => ∃ (kq : Nat) (x10_6 : Bool), v10 = .bool x10_6 ∧ Aside0 (r4_wants.j1 kq a0 x10_6 = some (r1, r2)) ∧ Aside0 (kq ≤ kj1) ∧ Drawn0 w wc)
    case first =>
     have H := HC7.out
     clear HC7
     by_cases c8 : a0 = 2
     ·rw [if_pos c8] at H
      have c8b0 : (a0 == 2) = true := beq_iff_eq.mpr c8
      have c8b1 : (a0 != 2) = false := bne_eq_false_iff_eq.mpr c8
      clear c8
      (first | rw [c8b0] | (simp only [i64_w, i32_w]; rw [c8b0]) | skip)
      have H' := Aside0.mk H
      clear H
      go_wp2
      go_meet
      case rel => exact ⟨_, ((a0 == 2)), (by first | rfl | (simp; done) | (simp [*]; done)), H', ⟨by have := HJ1.out; first | omega | exact Nat.le_refl _⟩, by repeat (first | exact Drawn0.refl _ | apply Drawn0.step)⟩
     ·rw [if_neg c8] at H
      have c8b0 : (a0 == 2) = false := beq_eq_false_iff_ne.mpr c8
      have c8b1 : (a0 != 2) = true := bne_iff_ne.mpr c8
      (first | rw [c8b0] | (simp only [i64_w, i32_w]; rw [c8b0]) | skip)
      by_cases c9 : a0 = 5
      ·rw [if_pos c9] at H
       have c9b0 : (a0 == 5) = true := beq_iff_eq.mpr c9
       have c9b1 : (a0 != 5) = false := bne_eq_false_iff_eq.mpr c9
       clear c9
       have H' := Aside0.mk H
       clear H
       go_wp2
       go_meet
       case rel => exact ⟨_, ((a0 == 5)), (by first | rfl | (simp; done) | (simp [*]; done)), H', ⟨by have := HJ1.out; first | omega | exact Nat.le_refl _⟩, by repeat (first | exact Drawn0.refl _ | apply Drawn0.step)⟩
      ·rw [if_neg c9] at H
       have c9b0 : (a0 == 5) = false := beq_eq_false_iff_ne.mpr c9
       have c9b1 : (a0 != 5) = true := bne_iff_ne.mpr c9
       by_cases c10 : a0 = 9
       ·rw [if_pos c10] at H
        have c10b0 : (a0 == 9) = true := beq_iff_eq.mpr c10
        have c10b1 : (a0 != 9) = false := bne_eq_false_iff_eq.mpr c10
        clear c10
        have H' := Aside0.mk H
        clear H
        go_wp2
        go_meet
        case rel => exact ⟨_, ((a0 == 9)), (by first | rfl | (simp; done) | (simp [*]; done)), H', ⟨by have := HJ1.out; first | omega | exact Nat.le_refl _⟩, by repeat (first | exact Drawn0.refl _ | apply Drawn0.step)⟩
       ·rw [if_neg c10] at H
        have c10b0 : (a0 == 9) = false := beq_eq_false_iff_ne.mpr c10
        have c10b1 : (a0 != 9) = true := bne_iff_ne.mpr c10
        by_cases c11 : a0 = 12
        ·rw [if_pos c11] at H
         have c11b0 : (a0 == 12) = true := beq_iff_eq.mpr c11
         have c11b1 : (a0 != 12) = false := bne_eq_false_iff_eq.mpr c11
         clear c11
         have H' := Aside0.mk H
         clear H
         go_wp2
         go_meet
         case rel => exact ⟨_, ((a0 == 12)), (by first | rfl | (simp; done) | (simp [*]; done)), H', ⟨by have := HJ1.out; first | omega | exact Nat.le_refl _⟩, by repeat (first | exact Drawn0.refl _ | apply Drawn0.step)⟩
        ·rw [if_neg c11] at H
         have c11b0 : (a0 == 12) = false := beq_eq_false_iff_ne.mpr c11
         have c11b1 : (a0 != 12) = true := bne_iff_ne.mpr c11
         by_cases c12 : a0 = 13
         ·rw [if_pos c12] at H
          have c12b0 : (a0 == 13) = true := beq_iff_eq.mpr c12
          have c12b1 : (a0 != 13) = false := bne_eq_false_iff_eq.mpr c12
          clear c12
          have H' := Aside0.mk H
          clear H
          go_wp2
          go_meet
          case rel => exact ⟨_, ((a0 == 13)), (by first | rfl | (simp; done) | (simp [*]; done)), H', ⟨by have := HJ1.out; first | omega | exact Nat.le_refl _⟩, by repeat (first | exact Drawn0.refl _ | apply Drawn0.step)⟩
         ·rw [if_neg c12] at H
          have c12b0 : (a0 == 13) = false := beq_eq_false_iff_ne.mpr c12
          have c12b1 : (a0 != 13) = true := bne_iff_ne.mpr c12
          by_cases c13 : a0 = 14
          ·rw [if_pos c13] at H
           have c13b0 : (a0 == 14) = true := beq_iff_eq.mpr c13
           have c13b1 : (a0 != 14) = false := bne_eq_false_iff_eq.mpr c13
           clear c13
           have H' := Aside0.mk H
           clear H
           go_wp2
           go_meet
           case rel => exact ⟨_, ((a0 == 14)), (by first | rfl | (simp; done) | (simp [*]; done)), H', ⟨by have := HJ1.out; first | omega | exact Nat.le_refl _⟩, by repeat (first | exact Drawn0.refl _ | apply Drawn0.step)⟩
          ·rw [if_neg c13] at H
           have c13b0 : (a0 == 14) = false := beq_eq_false_iff_ne.mpr c13
           have c13b1 : (a0 != 14) = true := bne_iff_ne.mpr c13
           have H' := Aside0.mk H
           clear H
           go_wp2
           go_meet
           case rel => exact ⟨_, ((a0 == 15)), (by first | rfl | (simp; done) | (simp [*]; done)), H', ⟨by have := HJ1.out; first | omega | exact Nat.le_refl _⟩, by repeat (first | exact Drawn0.refl _ | apply Drawn0.step)⟩
    case rest =>
     clear HC7
     try clear c1
     try clear p2
     try clear c3
     try clear c3b0
     try clear c3b1
     try clear c4
     try clear c4b0
     try clear c4b1
     try clear c5
     try clear c5b0
     try clear c5b1
     try clear c6
     try clear c8
     try clear c8b0
     try clear c8b1
     try clear c9
     try clear c9b0
     try clear c9b1
     try clear c10
     try clear c10b0
     try clear c10b1
     try clear c11
     try clear c11b0
     try clear c11b1
     try clear c12
     try clear c12b0
     try clear c12b1
     try clear c13
     try clear c13b0
     try clear c13b1
     try clear p2
     obtain ⟨kq, x10_6, rfl, HA, HJ6, ⟨mc6, rfl⟩⟩ := hcut
     cases kq with
     | zero => exact absurd HA.out (by simp [r4_wants.j1])
     | succ kj6 =>
      have H := HA.out
      clear HA
      simp only [r4_wants.j1] at H
      by_cases c14 : x10_6 = true
      ·subst c14
       have H1 : (some (2, 2)) = some (r1, r2) := by rw [if_pos rfl] at H; exact H
       clear H
       have H := H1
       clear H1
       simp only [Option.some.injEq, Prod.mk.injEq] at H
       obtain ⟨rfl, rfl⟩ := H
       go_wp2
       go_ret2
       exact ⟨by first | rfl | (simp; done) | (simp [*]; done), by repeat (first | exact Drawn0.refl _ | apply Drawn0.step)⟩
      ·replace c14 := Bool.eq_false_iff.mpr c14
       subst c14
       have H1 : (if a0 = 1 then (r4_wants.j2 kj6 a0 (a0 == 1)) else (r4_wants.j2 kj6 a0 (a0 == 6))) = some (r1, r2) := by rw [if_neg (show ¬ (false = true) by decide)] at H; exact H
       clear H
       have H := H1
       clear H1
       have HC15 := Aside0.mk H
       clear H
       go_upto_if 18 with (fail)
       go_cut [18] (fun v18 wc => ∃ (kq : Nat) (x18_14 : Bool), v18 = .bool x18_14 ∧ Aside0 (r4_wants.j2 kq a0 x18_14 = some (r1, r2)) ∧ Aside0 (kq ≤ kj6) ∧ Drawn0 w wc)
       case first =>
        have H := HC15.out
        clear HC15
        by_cases c16 : a0 = 1
        ·rw [if_pos c16] at H
         have c16b0 : (a0 == 1) = true := beq_iff_eq.mpr c16
         have c16b1 : (a0 != 1) = false := bne_eq_false_iff_eq.mpr c16
         clear c16
         (first | rw [c16b0] | (simp only [i64_w, i32_w]; rw [c16b0]) | skip)
         have H' := Aside0.mk H
         clear H
         go_wp2
         go_meet
         case rel => exact ⟨_, ((a0 == 1)), (by first | rfl | (simp; done) | (simp [*]; done)), H', ⟨by have := HJ1.out; have := HJ6.out; first | omega | exact Nat.le_refl _⟩, by repeat (first | exact Drawn0.refl _ | apply Drawn0.step)⟩
        ·rw [if_neg c16] at H
         have c16b0 : (a0 == 1) = false := beq_eq_false_iff_ne.mpr c16
         have c16b1 : (a0 != 1) = true := bne_iff_ne.mpr c16
         (first | rw [c16b0] | (simp only [i64_w, i32_w]; rw [c16b0]) | skip)
         have H' := Aside0.mk H
         clear H
         go_wp2
         go_meet
         case rel => exact ⟨_, ((a0 == 6)), (by first | rfl | (simp; done) | (simp [*]; done)), H', ⟨by have := HJ1.out; have := HJ6.out; first | omega | exact Nat.le_refl _⟩, by repeat (first | exact Drawn0.refl _ | apply Drawn0.step)⟩
       case rest =>
        clear HC15
        try clear c1
        try clear p2
        try clear c3
        try clear c3b0
        try clear c3b1
        try clear c4
        try clear c4b0
        try clear c4b1
        try clear c5
        try clear c5b0
        try clear c5b1
        try clear c6
        try clear c8
        try clear c8b0
        try clear c8b1
        try clear c9
        try clear c9b0
        try clear c9b1
        try clear c10
        try clear c10b0
        try clear c10b1
        try clear c11
        try clear c11b0
        try clear c11b1
        try clear c12
        try clear c12b0
        try clear c12b1
        try clear c13
        try clear c13b0
        try clear c13b1
        try clear c14
        try clear c16
        try clear c16b0
        try clear c16b1
        try clear p2
        obtain ⟨kq, x18_14, rfl, HA, HJ14, ⟨mc14, rfl⟩⟩ := hcut
        cases kq with
        | zero => exact absurd HA.out (by simp [r4_wants.j2])
        | succ kj14 =>
         have H := HA.out
         clear HA
         simp only [r4_wants.j2] at H
         by_cases c17 : x18_14 = true
         ·subst c17
          have H1 : (some (3, 3)) = some (r1, r2) := by rw [if_pos rfl] at H; exact H
          clear H
          have H := H1
          clear H1
          simp only [Option.some.injEq, Prod.mk.injEq] at H
          obtain ⟨rfl, rfl⟩ := H
          go_wp2
          go_ret2
          exact ⟨by first | rfl | (simp; done) | (simp [*]; done), by repeat (first | exact Drawn0.refl _ | apply Drawn0.step)⟩
         ·replace c17 := Bool.eq_false_iff.mpr c17
          subst c17
          have H1 : (if a0 = 3 then (r4_wants.j3 kj14 a0 (a0 == 3)) else (r4_wants.j3 kj14 a0 (a0 == 4))) = some (r1, r2) := by rw [if_neg (show ¬ (false = true) by decide)] at H; exact H
          clear H
          have H := H1
          clear H1
          have HC18 := Aside0.mk H
          clear H
          go_upto_if 21 with (fail)
          go_cut [21] (fun v21 wc => ∃ (kq : Nat) (x21_17 : Bool), v21 = .bool x21_17 ∧ Aside0 (r4_wants.j3 kq a0 x21_17 = some (r1, r2)) ∧ Aside0 (kq ≤ kj14) ∧ Drawn0 w wc)
          case first =>
           have H := HC18.out
           clear HC18
           by_cases c19 : a0 = 3
           ·rw [if_pos c19] at H
            have c19b0 : (a0 == 3) = true := beq_iff_eq.mpr c19
            have c19b1 : (a0 != 3) = false := bne_eq_false_iff_eq.mpr c19
            clear c19
            (first | rw [c19b0] | (simp only [i64_w, i32_w]; rw [c19b0]) | skip)
            have H' := Aside0.mk H
            clear H
            go_wp2
            go_meet
            case rel => exact ⟨_, ((a0 == 3)), (by first | rfl | (simp; done) | (simp [*]; done)), H', ⟨by have := HJ1.out; have := HJ6.out; have := HJ14.out; first | omega | exact Nat.le_refl _⟩, by repeat (first | exact Drawn0.refl _ | apply Drawn0.step)⟩
           ·rw [if_neg c19] at H
            have c19b0 : (a0 == 3) = false := beq_eq_false_iff_ne.mpr c19
            have c19b1 : (a0 != 3) = true := bne_iff_ne.mpr c19
            (first | rw [c19b0] | (simp only [i64_w, i32_w]; rw [c19b0]) | skip)
            have H' := Aside0.mk H
            clear H
            go_wp2
            go_meet
            case rel => exact ⟨_, ((a0 == 4)), (by first | rfl | (simp; done) | (simp [*]; done)), H', ⟨by have := HJ1.out; have := HJ6.out; have := HJ14.out; first | omega | exact Nat.le_refl _⟩, by repeat (first | exact Drawn0.refl _ | apply Drawn0.step)⟩
          case rest =>
           clear HC18
           try clear c1
           try clear p2
           try clear c3
           try clear c3b0
           try clear c3b1
           try clear c4
           try clear c4b0
           try clear c4b1
           try clear c5
           try clear c5b0
           try clear c5b1
           try clear c6
           try clear c8
           try clear c8b0
           try clear c8b1
           try clear c9
           try clear c9b0
           try clear c9b1
           try clear c10
           try clear c10b0
           try clear c10b1
           try clear c11
           try clear c11b0
           try clear c11b1
           try clear c12
           try clear c12b0
           try clear c12b1
           try clear c13
           try clear c13b0
           try clear c13b1
           try clear c14
           try clear c16
           try clear c16b0
           try clear c16b1
           try clear c17
           try clear c19
           try clear c19b0
           try clear c19b1
           try clear p2
           obtain ⟨kq, x21_17, rfl, HA, HJ17, ⟨mc17, rfl⟩⟩ := hcut
           cases kq with
           | zero => exact absurd HA.out (by simp [r4_wants.j3])
           | succ kj17 =>
            have H := HA.out
            clear HA
            simp only [r4_wants.j3] at H
            by_cases c20 : x21_17 = true
            ·subst c20
             have H1 : (some (2, 3)) = some (r1, r2) := by rw [if_pos rfl] at H; exact H
             clear H
             have H := H1
             clear H1
             simp only [Option.some.injEq, Prod.mk.injEq] at H
             obtain ⟨rfl, rfl⟩ := H
             go_wp2
             go_ret2
             exact ⟨by first | rfl | (simp; done) | (simp [*]; done), by repeat (first | exact Drawn0.refl _ | apply Drawn0.step)⟩
            ·replace c20 := Bool.eq_false_iff.mpr c20
             subst c20
             have H1 : (if a0 = 10 then (some (1, 6)) else (some (1, 0))) = some (r1, r2) := by rw [if_neg (show ¬ (false = true) by decide)] at H; exact H
             clear H
             have H := H1
             clear H1
             by_cases c21 : a0 = 10
             ·rw [if_pos c21] at H
              have c21b0 : (a0 == 10) = true := beq_iff_eq.mpr c21
              have c21b1 : (a0 != 10) = false := bne_eq_false_iff_eq.mpr c21
              clear c21
              simp only [Option.some.injEq, Prod.mk.injEq] at H
              obtain ⟨rfl, rfl⟩ := H
              go_wp2
              go_ret2
              exact ⟨by first | rfl | (simp; done) | (simp [*]; done), by repeat (first | exact Drawn0.refl _ | apply Drawn0.step)⟩
             ·rw [if_neg c21] at H
              have c21b0 : (a0 == 10) = false := beq_eq_false_iff_ne.mpr c21
              have c21b1 : (a0 != 10) = true := bne_iff_ne.mpr c21
              simp only [Option.some.injEq, Prod.mk.injEq] at H
              obtain ⟨rfl, rfl⟩ := H
              go_wp2
              go_ret2
              exact ⟨by first | rfl | (simp; done) | (simp [*]; done), by repeat (first | exact Drawn0.refl _ | apply Drawn0.step)⟩
end Go.Proofs.YtiocgaekoeekgaaGreat.P
end
section
namespace Go.Proofs.YtiocgaekoeekgaaGreat.P
open Go.RowKit Go.Proofs.YtiocgaekoeekgaaGreatW.PrintWords Go.Proofs.YtiocgaekoeekgaaGreatW.PrintLast Go.Proofs.YtiocgaekoeekgaaGreatW.PrintMore
attribute [local go_sem] max2_int min2_int max_two min_two max_three min_three max_four min_four   
set_option linter.unusedVariables false
set_option linter.unusedSimpArgs false
mutual
noncomputable def r4_Right.j0 : Nat → Bool → Int → List Int → Int → List Int → Int → Option (Bool)
 | 0, _, _, _, _, _, _ => none
 | k + 1, x36, x184000, x184001, x184002, x184003, x184004 => if x36 = true then (some false) else (r4_Right.l0 k 0 x184000 x184001 x184002 x184003 x184004)
noncomputable def r4_Right.l0 : Nat → Int → Int → List Int → Int → List Int → Int → Option (Bool)
 | 0, _, _, _, _, _, _ => none
 | k + 1, x3, x184000, x184001, x184002, x184003, x184004 => if x3 < (x184001.length : Int) then (if 0 ≤ x3 then (if (rd x184001 x3) ≥ 20 then (some false) else (if (rd x184001 x3) < (-61) then (some false) else (r4_Right.l0 k (wrap64 (x3 + 1)) x184000 x184001 x184002 x184003 x184004))) else (none)) else ((r4_wants.f k x184002).bind fun bt186 => (if (x184003.length : Int) < bt186.1 then (r4_Right.j2 k true x184000 x184001 x184002 x184003 x184004) else (r4_Right.j2 k (decide ((x184003.length : Int) > bt186.2)) x184000 x184001 x184002 x184003 x184004)))
noncomputable def r4_Right.j2 : Nat → Bool → Int → List Int → Int → List Int → Int → Option (Bool)
 | 0, _, _, _, _, _, _ => none
 | k + 1, x78, x184000, x184001, x184002, x184003, x184004 => if x78 = true then (some false) else (r4_Right.l1 k 0 x184000 x184001 x184002 x184003 x184004)
noncomputable def r4_Right.l1 : Nat → Int → Int → List Int → Int → List Int → Int → Option (Bool)
 | 0, _, _, _, _, _, _ => none
 | k + 1, x6, x184000, x184001, x184002, x184003, x184004 => if x6 < (x184003.length : Int) then (if 0 ≤ x6 then (if (rd x184003 x6) < 0 then (some false) else (if (rd x184003 x6) ≥ (x184001.length : Int) then (some false) else (r4_Right.l1 k (wrap64 (x6 + 1)) x184000 x184001 x184002 x184003 x184004))) else (none)) else (some true)
end
noncomputable def r4_Right.f (k : Nat) (a0_0 : Int) (l0_1 : List Int) (a0_2 : Int) (l0_3 : List Int) (a0_4 : Int) : Option (Bool) := if a0_0 < 0 then (r4_Right.j0 k true a0_0 l0_1 a0_2 l0_3 a0_4) else (if a0_0 ≥ 20 then (r4_Right.j0 k true a0_0 l0_1 a0_2 l0_3 a0_4) else (if (l0_1.length : Int) < 1 then (r4_Right.j0 k true a0_0 l0_1 a0_2 l0_3 a0_4) else (if (l0_1.length : Int) > 6 then (r4_Right.j0 k true a0_0 l0_1 a0_2 l0_3 a0_4) else (if a0_4 < 0 then (r4_Right.j0 k true a0_0 l0_1 a0_2 l0_3 a0_4) else (r4_Right.j0 k (decide (a0_4 > 100)) a0_0 l0_1 a0_2 l0_3 a0_4)))))
theorem r4_Right.mono_l : ∀ k, (∀ y0 y1 y2 y3 y4 y5, LeO (r4_Right.j0 k y0 y1 y2 y3 y4 y5) (r4_Right.j0 (k + 1) y0 y1 y2 y3 y4 y5)) ∧ (∀ y0 y1 y2 y3 y4 y5, LeO (r4_Right.l0 k y0 y1 y2 y3 y4 y5) (r4_Right.l0 (k + 1) y0 y1 y2 y3 y4 y5)) ∧ (∀ y0 y1 y2 y3 y4 y5, LeO (r4_Right.j2 k y0 y1 y2 y3 y4 y5) (r4_Right.j2 (k + 1) y0 y1 y2 y3 y4 y5)) ∧ (∀ y0 y1 y2 y3 y4 y5, LeO (r4_Right.l1 k y0 y1 y2 y3 y4 y5) (r4_Right.l1 (k + 1) y0 y1 y2 y3 y4 y5))
 | 0 => ⟨fun _ _ _ _ _ _ r h => by simp [r4_Right.j0] at h, fun _ _ _ _ _ _ r h => by simp [r4_Right.l0] at h, fun _ _ _ _ _ _ r h => by simp [r4_Right.j2] at h, fun _ _ _ _ _ _ r h => by simp [r4_Right.l1] at h⟩
 | k + 1 => by
  obtain ⟨ih0, ih1, ih2, ih3⟩ := r4_Right.mono_l k
  refine ⟨?_, ?_, ?_, ?_⟩
  ·intro y0 y1 y2 y3 y4 y5
   unfold r4_Right.j0
   repeat' first
   | (with_reducible exact ih0 _ _ _ _ _ _)
   | (with_reducible exact ih1 _ _ _ _ _ _)
   | (with_reducible exact ih2 _ _ _ _ _ _)
   | (with_reducible exact ih3 _ _ _ _ _ _)
   | (with_reducible exact r4_wants.mono _ _)
   | (with_reducible exact LeO.refl _)
   | (with_reducible exact LeO.none _)
   | (with_reducible refine LeO.ite ?_ ?_)
   | (with_reducible refine LeO.bind ?_ (fun _ => ?_))
   | exact ih0 _ _ _ _ _ _
   | exact ih1 _ _ _ _ _ _
   | exact ih2 _ _ _ _ _ _
   | exact ih3 _ _ _ _ _ _
   | exact r4_wants.mono _ _
   | exact LeO.none _
   | refine LeO.ite ?_ ?_
   | refine LeO.bind ?_ (fun _ => ?_)
  ·intro y0 y1 y2 y3 y4 y5
   unfold r4_Right.l0
   repeat' first
   | (with_reducible exact ih0 _ _ _ _ _ _)
   | (with_reducible exact ih1 _ _ _ _ _ _)
   | (with_reducible exact ih2 _ _ _ _ _ _)
   | (with_reducible exact ih3 _ _ _ _ _ _)
   | (with_reducible exact r4_wants.mono _ _)
   | (with_reducible exact LeO.refl _)
   | (with_reducible exact LeO.none _)
   | (with_reducible refine LeO.ite ?_ ?_)
   | (with_reducible refine LeO.bind ?_ (fun _ => ?_))
   | exact ih0 _ _ _ _ _ _
   | exact ih1 _ _ _ _ _ _
   | exact ih2 _ _ _ _ _ _
   | exact ih3 _ _ _ _ _ _
   | exact r4_wants.mono _ _
   | exact LeO.none _
   | refine LeO.ite ?_ ?_
   | refine LeO.bind ?_ (fun _ => ?_)
  ·intro y0 y1 y2 y3 y4 y5
   unfold r4_Right.j2
   repeat' first
   | (with_reducible exact ih0 _ _ _ _ _ _)
   | (with_reducible exact ih1 _ _ _ _ _ _)
   | (with_reducible exact ih2 _ _ _ _ _ _)
   | (with_reducible exact ih3 _ _ _ _ _ _)
   | (with_reducible exact r4_wants.mono _ _)
   | (with_reducible exact LeO.refl _)
   | (with_reducible exact LeO.none _)
   | (with_reducible refine LeO.ite ?_ ?_)
   | (with_reducible refine LeO.bind ?_ (fun _ => ?_))
   | exact ih0 _ _ _ _ _ _
   | exact ih1 _ _ _ _ _ _
   | exact ih2 _ _ _ _ _ _
   | exact ih3 _ _ _ _ _ _
   | exact r4_wants.mono _ _
   | exact LeO.none _
   | refine LeO.ite ?_ ?_
   | refine LeO.bind ?_ (fun _ => ?_)
  ·intro y0 y1 y2 y3 y4 y5
   unfold r4_Right.l1
   repeat' first
   | (with_reducible exact ih0 _ _ _ _ _ _)
   | (with_reducible exact ih1 _ _ _ _ _ _)
   | (with_reducible exact ih2 _ _ _ _ _ _)
   | (with_reducible exact ih3 _ _ _ _ _ _)
   | (with_reducible exact r4_wants.mono _ _)
   | (with_reducible exact LeO.refl _)
   | (with_reducible exact LeO.none _)
   | (with_reducible refine LeO.ite ?_ ?_)
   | (with_reducible refine LeO.bind ?_ (fun _ => ?_))
   | exact ih0 _ _ _ _ _ _
   | exact ih1 _ _ _ _ _ _
   | exact ih2 _ _ _ _ _ _
   | exact ih3 _ _ _ _ _ _
   | exact r4_wants.mono _ _
   | exact LeO.none _
   | refine LeO.ite ?_ ?_
   | refine LeO.bind ?_ (fun _ => ?_)
theorem r4_Right.mono : ∀ a0 a1 a2 a3 a4 k, LeO (r4_Right.f k a0 a1 a2 a3 a4) (r4_Right.f (k + 1) a0 a1 a2 a3 a4) := by
 intro a0 a1 a2 a3 a4 k
 obtain ⟨ih0, ih1, ih2, ih3⟩ := r4_Right.mono_l k
 unfold r4_Right.f
 repeat' first
   | (with_reducible exact ih0 _ _ _ _ _ _)
   | (with_reducible exact ih1 _ _ _ _ _ _)
   | (with_reducible exact ih2 _ _ _ _ _ _)
   | (with_reducible exact ih3 _ _ _ _ _ _)
   | (with_reducible exact r4_wants.mono _ _)
   | (with_reducible exact LeO.refl _)
   | (with_reducible exact LeO.none _)
   | (with_reducible refine LeO.ite ?_ ?_)
   | (with_reducible refine LeO.bind ?_ (fun _ => ?_))
   | exact ih0 _ _ _ _ _ _
   | exact ih1 _ _ _ _ _ _
   | exact ih2 _ _ _ _ _ _
   | exact ih3 _ _ _ _ _ _
   | exact r4_wants.mono _ _
   | exact LeO.none _
   | refine LeO.ite ?_ ?_
   | refine LeO.bind ?_ (fun _ => ?_)
set_option maxHeartbeats 8000000 in
set_option maxRecDepth 100000 in
theorem r4_Right.calls (k : Nat) (a0_0 : Int) (A0_1 : Option Addr) (c0_1 : Nat) (l0_1 : List Int) (a0_2 : Int) (A0_3 : Option Addr) (c0_3 : Nat) (l0_3 : List Int) (a0_4 : Int) (r : Bool) (w : World) (hr0_1 : Kd.C (Kd.int .i64) w A0_1 l0_1.length l0_1) (hc0_1 : l0_1.length ≤ c0_1) (hr0_3 : Kd.C (Kd.int .i64) w A0_3 l0_3.length l0_3) (hc0_3 : l0_3.length ≤ c0_3) (h : r4_Right.f k a0_0 l0_1 a0_2 l0_3 a0_4 = some r) :
  Calls Tryz.prog 67 #[.agg #[.int .i64 a0_0, .slice A0_1 l0_1.length c0_1, .int .i64 a0_2, .slice A0_3 l0_3.length c0_3, .int .i64 a0_4]] w fun e w' => e = .returned (.bool r) ∧ Below w.heap.size w w' := by
 have hu56 := Tryz.underlying56
 have HR0_1 := Aside0.mk hr0_1
 have HC0_1 := Aside0.mk hc0_1
 clear hr0_1 hc0_1
 have HR0_3 := Aside0.mk hr0_3
 have HC0_3 := Aside0.mk hc0_3
 clear hr0_3 hc0_3
 have HB := Aside0.mk (Below.refl w.heap.size w)
 have H : (if a0_0 < 0 then (r4_Right.j0 k true a0_0 l0_1 a0_2 l0_3 a0_4) else (if a0_0 ≥ 20 then (r4_Right.j0 k true a0_0 l0_1 a0_2 l0_3 a0_4) else (if (l0_1.length : Int) < 1 then (r4_Right.j0 k true a0_0 l0_1 a0_2 l0_3 a0_4) else (if (l0_1.length : Int) > 6 then (r4_Right.j0 k true a0_0 l0_1 a0_2 l0_3 a0_4) else (if a0_4 < 0 then (r4_Right.j0 k true a0_0 l0_1 a0_2 l0_3 a0_4) else (r4_Right.j0 k (decide (a0_4 > 100)) a0_0 l0_1 a0_2 l0_3 a0_4)))))) = some r := h
 clear h
 have HC2 := Aside0.mk H
 clear H
 go_enter Tryz.func67, Tryz.ntmps67
 go_upto_region 1 with (first | ((with_reducible refine gate_dst (N := 1) rfl ?_); (try (refine gate_guard (by rfl) ?_; dsimp only)); refine box_event ?hg (N := 1) ?hd (cs := #[.int .i64 a0_0, .slice A0_1 l0_1.length c0_1, .int .i64 a0_2, .slice A0_3 l0_3.length c0_3, .int .i64 a0_4]) (t := 56) ?hr ?_; (case hd => rfl); (case hg => rfl); (case hr => first | (go_simp; done) | (go_simp; rfl)); intro gb183 hg w3 hbox hb; have n0_ := Aside0.mk (below_step (by repeat (first | (with_reducible first | exact HB.out | apply below_alloc | apply pw_below_drewN | apply below_drew1) | exact HB.out)) hb); have n1_ := Aside0.mk (hbox); have n2_ := Aside0.mk ((by rw [hg]; exact (below_size (by repeat (first | (with_reducible first | exact HB.out | apply below_alloc | apply pw_below_drewN | apply below_drew1) | exact HB.out))) : w.heap.size ≤ gb183)); have n3_ := Aside0.mk ((by rw [hg]; exact (below_size (by repeat (first | (with_reducible first | exact HB.out | apply below_alloc | apply pw_below_drewN | apply below_drew1) | exact HB.out))) : w.heap.size ≤ gb183)); clear HB; have HB := n0_; have BK183 := n1_; have GW183 := n2_; have GE183 := n3_; clear n0_ n1_ n2_ n3_; clear hb hbox hg))
 repeat (go_quiet (first | ((with_reducible refine gate_dst (N := 1) rfl ?_); (try (refine gate_guard (by rfl) ?_; dsimp only)); refine box_event ?hg (N := 1) ?hd (cs := #[.int .i64 a0_0, .slice A0_1 l0_1.length c0_1, .int .i64 a0_2, .slice A0_3 l0_3.length c0_3, .int .i64 a0_4]) (t := 56) ?hr ?_; (case hd => rfl); (case hg => rfl); (case hr => first | (go_simp; done) | (go_simp; rfl)); intro gb183 hg w3 hbox hb; have n0_ := Aside0.mk (below_step (by repeat (first | (with_reducible first | exact HB.out | apply below_alloc | apply pw_below_drewN | apply below_drew1) | exact HB.out)) hb); have n1_ := Aside0.mk (hbox); have n2_ := Aside0.mk ((by rw [hg]; exact (below_size (by repeat (first | (with_reducible first | exact HB.out | apply below_alloc | apply pw_below_drewN | apply below_drew1) | exact HB.out))) : w.heap.size ≤ gb183)); have n3_ := Aside0.mk ((by rw [hg]; exact (below_size (by repeat (first | (with_reducible first | exact HB.out | apply below_alloc | apply pw_below_drewN | apply below_drew1) | exact HB.out))) : w.heap.size ≤ gb183)); clear HB; have HB := n0_; have BK183 := n1_; have GW183 := n2_; have GE183 := n3_; clear n0_ n1_ n2_ n3_; clear hb hbox hg)); go_upto_region 1 with (first | ((with_reducible refine gate_dst (N := 1) rfl ?_); (try (refine gate_guard (by rfl) ?_; dsimp only)); refine box_event ?hg (N := 1) ?hd (cs := #[.int .i64 a0_0, .slice A0_1 l0_1.length c0_1, .int .i64 a0_2, .slice A0_3 l0_3.length c0_3, .int .i64 a0_4]) (t := 56) ?hr ?_; (case hd => rfl); (case hg => rfl); (case hr => first | (go_simp; done) | (go_simp; rfl)); intro gb183 hg w3 hbox hb; have n0_ := Aside0.mk (below_step (by repeat (first | (with_reducible first | exact HB.out | apply below_alloc | apply pw_below_drewN | apply below_drew1) | exact HB.out)) hb); have n1_ := Aside0.mk (hbox); have n2_ := Aside0.mk ((by rw [hg]; exact (below_size (by repeat (first | (with_reducible first | exact HB.out | apply below_alloc | apply pw_below_drewN | apply below_drew1) | exact HB.out))) : w.heap.size ≤ gb183)); have n3_ := Aside0.mk ((by rw [hg]; exact (below_size (by repeat (first | (with_reducible first | exact HB.out | apply below_alloc | apply pw_below_drewN | apply below_drew1) | exact HB.out))) : w.heap.size ≤ gb183)); clear HB; have HB := n0_; have BK183 := n1_; have GW183 := n2_; have GE183 := n3_; clear n0_ n1_ n2_ n3_; clear hb hbox hg)))
 (try simp only [Act.put, s1_, s2_, s3_])
 go_cut [36] (fun v36 wc => ∃ (kq : Nat) (x36_1 : Bool), v36 = .bool x36_1 ∧ Aside0 (r4_Right.j0 kq x36_1 a0_0 l0_1 a0_2 l0_3 a0_4 = some r) ∧ Aside0 (kq ≤ k) ∧ Aside0 (wc.heap[gb183]? = some (.cells #[.int .i64 a0_0, (.slice A0_1 l0_1.length c0_1), .int .i64 a0_2, (.slice A0_3 l0_3.length c0_3), .int .i64 a0_4] 56 (0, 0))) ∧ Aside0 (Below w.heap.size w wc))
 case first =>
  have H := HC2.out
  clear HC2
  by_cases c4 : a0_0 < 0
  ·rw [if_pos c4] at H
   have c4b0 : decide (a0_0 < 0) = true := decide_eq_true c4
   clear c4
   (first | rw [c4b0] | (simp only [i64_w, i32_w]; rw [c4b0]) | skip)
   have H' := Aside0.mk H
   clear H
   have hcz5_0 : w3.cell? ⟨gb183, 0, none⟩ = some (.int .i64 a0_0) := (blk_cell BK183.out 0).trans rfl
   have hcz5_1 : w3.cell? ⟨gb183, 1, none⟩ = some (.slice A0_1 l0_1.length c0_1) := (blk_cell BK183.out 1).trans rfl
   have hcz5_2 : w3.cell? ⟨gb183, 2, none⟩ = some (.int .i64 a0_2) := (blk_cell BK183.out 2).trans rfl
   have hcz5_3 : w3.cell? ⟨gb183, 3, none⟩ = some (.slice A0_3 l0_3.length c0_3) := (blk_cell BK183.out 3).trans rfl
   have hcz5_4 : w3.cell? ⟨gb183, 4, none⟩ = some (.int .i64 a0_4) := (blk_cell BK183.out 4).trans rfl
   have hfz5_0 := blk_frozen BK183.out 0
   have hfz5_1 := blk_frozen BK183.out 1
   have hfz5_2 := blk_frozen BK183.out 2
   have hfz5_3 := blk_frozen BK183.out 3
   have hfz5_4 := blk_frozen BK183.out 4
   go_wp2
   repeat (go_quiet (fail); try go_wp2)
   go_meet
   case rel => exact ⟨_, (true), (by first | rfl | (simp; done) | (simp [*]; done)), H', ⟨by first | omega | exact Nat.le_refl _⟩, ⟨by (with_reducible repeat (first | refine blk_drewN ?_ _ | refine blk_drew ?_ | refine blk_alloc ?_ _)); exact BK183.out⟩, ⟨by repeat (first | (with_reducible first | exact HB.out | apply below_alloc | apply pw_below_drewN | apply below_drew1 | refine below_set ?_ GE183.out) | exact HB.out)⟩⟩
  ·rw [if_neg c4] at H
   have c4b0 : decide (a0_0 < 0) = false := decide_eq_false c4
   clear c4
   (first | rw [c4b0] | (simp only [i64_w, i32_w]; rw [c4b0]) | skip)
   by_cases c6 : a0_0 ≥ 20
   ·rw [if_pos c6] at H
    have c6b0 : decide (20 ≤ a0_0) = true := decide_eq_true c6
    clear c6
    have H' := Aside0.mk H
    clear H
    have hcz7_0 : w3.cell? ⟨gb183, 0, none⟩ = some (.int .i64 a0_0) := (blk_cell BK183.out 0).trans rfl
    have hcz7_1 : w3.cell? ⟨gb183, 1, none⟩ = some (.slice A0_1 l0_1.length c0_1) := (blk_cell BK183.out 1).trans rfl
    have hcz7_2 : w3.cell? ⟨gb183, 2, none⟩ = some (.int .i64 a0_2) := (blk_cell BK183.out 2).trans rfl
    have hcz7_3 : w3.cell? ⟨gb183, 3, none⟩ = some (.slice A0_3 l0_3.length c0_3) := (blk_cell BK183.out 3).trans rfl
    have hcz7_4 : w3.cell? ⟨gb183, 4, none⟩ = some (.int .i64 a0_4) := (blk_cell BK183.out 4).trans rfl
    have hfz7_0 := blk_frozen BK183.out 0
    have hfz7_1 := blk_frozen BK183.out 1
    have hfz7_2 := blk_frozen BK183.out 2
    have hfz7_3 := blk_frozen BK183.out 3
    have hfz7_4 := blk_frozen BK183.out 4
    go_wp2
    repeat (go_quiet (fail); try go_wp2)
    go_meet
    case rel => exact ⟨_, (true), (by first | rfl | (simp; done) | (simp [*]; done)), H', ⟨by first | omega | exact Nat.le_refl _⟩, ⟨by (with_reducible repeat (first | refine blk_drewN ?_ _ | refine blk_drew ?_ | refine blk_alloc ?_ _)); exact BK183.out⟩, ⟨by repeat (first | (with_reducible first | exact HB.out | apply below_alloc | apply pw_below_drewN | apply below_drew1 | refine below_set ?_ GE183.out) | exact HB.out)⟩⟩
   ·rw [if_neg c6] at H
    have c6b0 : decide (20 ≤ a0_0) = false := decide_eq_false c6
    clear c6
    by_cases c8 : (l0_1.length : Int) < 1
    ·rw [if_pos c8] at H
     have c8b0 : decide ((l0_1.length : Int) < 1) = true := decide_eq_true c8
     have c8b1 : decide (l0_1.length < 1) = true := decide_eq_true (by omega)
     clear c8
     have H' := Aside0.mk H
     clear H
     have hcz9_0 : w3.cell? ⟨gb183, 0, none⟩ = some (.int .i64 a0_0) := (blk_cell BK183.out 0).trans rfl
     have hcz9_1 : w3.cell? ⟨gb183, 1, none⟩ = some (.slice A0_1 l0_1.length c0_1) := (blk_cell BK183.out 1).trans rfl
     have hcz9_2 : w3.cell? ⟨gb183, 2, none⟩ = some (.int .i64 a0_2) := (blk_cell BK183.out 2).trans rfl
     have hcz9_3 : w3.cell? ⟨gb183, 3, none⟩ = some (.slice A0_3 l0_3.length c0_3) := (blk_cell BK183.out 3).trans rfl
     have hcz9_4 : w3.cell? ⟨gb183, 4, none⟩ = some (.int .i64 a0_4) := (blk_cell BK183.out 4).trans rfl
     have hfz9_0 := blk_frozen BK183.out 0
     have hfz9_1 := blk_frozen BK183.out 1
     have hfz9_2 := blk_frozen BK183.out 2
     have hfz9_3 := blk_frozen BK183.out 3
     have hfz9_4 := blk_frozen BK183.out 4
     go_wp2
     repeat (go_quiet (fail); try go_wp2)
     go_meet
     case rel => exact ⟨_, (true), (by first | rfl | (simp; done) | (simp [*]; done)), H', ⟨by first | omega | exact Nat.le_refl _⟩, ⟨by (with_reducible repeat (first | refine blk_drewN ?_ _ | refine blk_drew ?_ | refine blk_alloc ?_ _)); exact BK183.out⟩, ⟨by repeat (first | (with_reducible first | exact HB.out | apply below_alloc | apply pw_below_drewN | apply below_drew1 | refine below_set ?_ GE183.out) | exact HB.out)⟩⟩
    ·rw [if_neg c8] at H
     have c8b0 : decide ((l0_1.length : Int) < 1) = false := decide_eq_false c8
     have c8b1 : decide (l0_1.length < 1) = false := decide_eq_false (by omega)
     clear c8
     by_cases c10 : (l0_1.length : Int) > 6
     ·rw [if_pos c10] at H
      have c10b0 : decide (6 < (l0_1.length : Int)) = true := decide_eq_true c10
      have c10b1 : decide (6 < l0_1.length) = true := decide_eq_true (by omega)
      clear c10
      have H' := Aside0.mk H
      clear H
      have hcz11_0 : w3.cell? ⟨gb183, 0, none⟩ = some (.int .i64 a0_0) := (blk_cell BK183.out 0).trans rfl
      have hcz11_1 : w3.cell? ⟨gb183, 1, none⟩ = some (.slice A0_1 l0_1.length c0_1) := (blk_cell BK183.out 1).trans rfl
      have hcz11_2 : w3.cell? ⟨gb183, 2, none⟩ = some (.int .i64 a0_2) := (blk_cell BK183.out 2).trans rfl
      have hcz11_3 : w3.cell? ⟨gb183, 3, none⟩ = some (.slice A0_3 l0_3.length c0_3) := (blk_cell BK183.out 3).trans rfl
      have hcz11_4 : w3.cell? ⟨gb183, 4, none⟩ = some (.int .i64 a0_4) := (blk_cell BK183.out 4).trans rfl
      have hfz11_0 := blk_frozen BK183.out 0
      have hfz11_1 := blk_frozen BK183.out 1
      have hfz11_2 := blk_frozen BK183.out 2
      have hfz11_3 := blk_frozen BK183.out 3
      have hfz11_4 := blk_frozen BK183.out 4
      go_wp2
      repeat (go_quiet (fail); try go_wp2)
      go_meet
      case rel => exact ⟨_, (true), (by first | rfl | (simp; done) | (simp [*]; done)), H', ⟨by first | omega | exact Nat.le_refl _⟩, ⟨by (with_reducible repeat (first | refine blk_drewN ?_ _ | refine blk_drew ?_ | refine blk_alloc ?_ _)); exact BK183.out⟩, ⟨by repeat (first | (with_reducible first | exact HB.out | apply below_alloc | apply pw_below_drewN | apply below_drew1 | refine below_set ?_ GE183.out) | exact HB.out)⟩⟩
     ·rw [if_neg c10] at H
      have c10b0 : decide (6 < (l0_1.length : Int)) = false := decide_eq_false c10
      have c10b1 : decide (6 < l0_1.length) = false := decide_eq_false (by omega)
      clear c10
      by_cases c12 : a0_4 < 0
      ·rw [if_pos c12] at H
       have c12b0 : decide (a0_4 < 0) = true := decide_eq_true c12
       clear c12
       have H' := Aside0.mk H
       clear H
       have hcz13_0 : w3.cell? ⟨gb183, 0, none⟩ = some (.int .i64 a0_0) := (blk_cell BK183.out 0).trans rfl
       have hcz13_1 : w3.cell? ⟨gb183, 1, none⟩ = some (.slice A0_1 l0_1.length c0_1) := (blk_cell BK183.out 1).trans rfl
       have hcz13_2 : w3.cell? ⟨gb183, 2, none⟩ = some (.int .i64 a0_2) := (blk_cell BK183.out 2).trans rfl
       have hcz13_3 : w3.cell? ⟨gb183, 3, none⟩ = some (.slice A0_3 l0_3.length c0_3) := (blk_cell BK183.out 3).trans rfl
       have hcz13_4 : w3.cell? ⟨gb183, 4, none⟩ = some (.int .i64 a0_4) := (blk_cell BK183.out 4).trans rfl
       have hfz13_0 := blk_frozen BK183.out 0
       have hfz13_1 := blk_frozen BK183.out 1
       have hfz13_2 := blk_frozen BK183.out 2
       have hfz13_3 := blk_frozen BK183.out 3
       have hfz13_4 := blk_frozen BK183.out 4
       go_wp2
       repeat (go_quiet (fail); try go_wp2)
       go_meet
       case rel => exact ⟨_, (true), (by first | rfl | (simp; done) | (simp [*]; done)), H', ⟨by first | omega | exact Nat.le_refl _⟩, ⟨by (with_reducible repeat (first | refine blk_drewN ?_ _ | refine blk_drew ?_ | refine blk_alloc ?_ _)); exact BK183.out⟩, ⟨by repeat (first | (with_reducible first | exact HB.out | apply below_alloc | apply pw_below_drewN | apply below_drew1 | refine below_set ?_ GE183.out) | exact HB.out)⟩⟩
      ·rw [if_neg c12] at H
       have c12b0 : decide (a0_4 < 0) = false := decide_eq_false c12
       clear c12
       have H' := Aside0.mk H
       clear H
       have hcz14_0 : w3.cell? ⟨gb183, 0, none⟩ = some (.int .i64 a0_0) := (blk_cell BK183.out 0).trans rfl
       have hcz14_1 : w3.cell? ⟨gb183, 1, none⟩ = some (.slice A0_1 l0_1.length c0_1) := (blk_cell BK183.out 1).trans rfl
       have hcz14_2 : w3.cell? ⟨gb183, 2, none⟩ = some (.int .i64 a0_2) := (blk_cell BK183.out 2).trans rfl
       have hcz14_3 : w3.cell? ⟨gb183, 3, none⟩ = some (.slice A0_3 l0_3.length c0_3) := (blk_cell BK183.out 3).trans rfl
       have hcz14_4 : w3.cell? ⟨gb183, 4, none⟩ = some (.int .i64 a0_4) := (blk_cell BK183.out 4).trans rfl
       have hfz14_0 := blk_frozen BK183.out 0
       have hfz14_1 := blk_frozen BK183.out 1
       have hfz14_2 := blk_frozen BK183.out 2
       have hfz14_3 := blk_frozen BK183.out 3
       have hfz14_4 := blk_frozen BK183.out 4
       go_wp2
       repeat (go_quiet (fail); try go_wp2)
       go_meet
       case rel => exact ⟨_, (decide (a0_4 > 100)), (by first | rfl | (simp; done) | (simp [*]; done)), H', ⟨by first | omega | exact Nat.le_refl _⟩, ⟨by (with_reducible repeat (first | refine blk_drewN ?_ _ | refine blk_drew ?_ | refine blk_alloc ?_ _)); exact BK183.out⟩, ⟨by repeat (first | (with_reducible first | exact HB.out | apply below_alloc | apply pw_below_drewN | apply below_drew1 | refine below_set ?_ GE183.out) | exact HB.out)⟩⟩
 case rest =>
  clear HC2
  try clear c1
  try clear p2
  try clear c4
  try clear c4b0
  try clear c6
  try clear c6b0
  try clear c8
  try clear c8b0
  try clear c8b1
  try clear c10
  try clear c10b0
  try clear c10b1
  try clear c12
  try clear c12b0
  try clear hcz11_0
  try clear hcz11_1
  try clear hcz11_2
  try clear hcz11_3
  try clear hcz11_4
  try clear hcz13_0
  try clear hcz13_1
  try clear hcz13_2
  try clear hcz13_3
  try clear hcz13_4
  try clear hcz14_0
  try clear hcz14_1
  try clear hcz14_2
  try clear hcz14_3
  try clear hcz14_4
  try clear hcz5_0
  try clear hcz5_1
  try clear hcz5_2
  try clear hcz5_3
  try clear hcz5_4
  try clear hcz7_0
  try clear hcz7_1
  try clear hcz7_2
  try clear hcz7_3
  try clear hcz7_4
  try clear hcz9_0
  try clear hcz9_1
  try clear hcz9_2
  try clear hcz9_3
  try clear hcz9_4
  try clear hfz11_0
  try clear hfz11_1
  try clear hfz11_2
  try clear hfz11_3
  try clear hfz11_4
  try clear hfz13_0
  try clear hfz13_1
  try clear hfz13_2
  try clear hfz13_3
  try clear hfz13_4
  try clear hfz14_0
  try clear hfz14_1
  try clear hfz14_2
  try clear hfz14_3
  try clear hfz14_4
  try clear hfz5_0
  try clear hfz5_1
  try clear hfz5_2
  try clear hfz5_3
  try clear hfz5_4
  try clear hfz7_0
  try clear hfz7_1
  try clear hfz7_2
  try clear hfz7_3
  try clear hfz7_4
  try clear hfz9_0
  try clear hfz9_1
  try clear hfz9_2
  try clear hfz9_3
  try clear hfz9_4
  obtain ⟨kq, x36_1, rfl, HA, HJ1, BK183, HB⟩ := hcut
  cases kq with
  | zero => exact absurd HA.out (by simp [r4_Right.j0])
  | succ kj1 =>
   have H := HA.out
   clear HA
   simp only [r4_Right.j0] at H
   by_cases c15 : x36_1 = true
   ·subst c15
    have H1 : (some false) = some r := by rw [if_pos rfl] at H; exact H
    clear H
    have H := H1
    clear H1
    obtain rfl := Option.some.inj H
    go_wp2
    repeat (go_quiet (fail); try go_wp2)
    go_ret
    exact ⟨by first | rfl | (simp [errW_none, errW_some] <;> rfl) | (simp [*, errW_none, errW_some] <;> rfl), by repeat (first | (with_reducible first | exact HB.out | apply below_alloc | apply pw_below_drewN | apply below_drew1 | refine below_set ?_ GE183.out) | exact HB.out)⟩
   ·replace c15 := Bool.eq_false_iff.mpr c15
    subst c15
    have H1 : (r4_Right.l0 kj1 0 a0_0 l0_1 a0_2 l0_3 a0_4) = some r := by rw [if_neg (show ¬ (false = true) by decide)] at H; exact H
    clear H
    have H := H1
    clear H1
    have H' := Aside0.mk H
    clear H
    go_wp2
    repeat (go_quiet (fail); try go_wp2)
    go_loopg [3] kj1 (fun kq v3 w' => ∃ (x3_2 : Int), v3 = .int .i64 x3_2 ∧ Aside0 (r4_Right.l0 kq x3_2 a0_0 l0_1 a0_2 l0_3 a0_4 = some r) ∧ Aside0 (kq ≤ kj1) ∧ Aside0 (w'.heap[gb183]? = some (.cells #[.int .i64 a0_0, (.slice A0_1 l0_1.length c0_1), .int .i64 a0_2, (.slice A0_3 l0_3.length c0_3), .int .i64 a0_4] 56 (0, 0))) ∧ Aside0 (Below w.heap.size w w'))
    case atStart => exact ⟨(0), (by first | rfl | (simp; done) | (simp [*]; done)), H', ⟨Nat.le_refl _⟩, ⟨by (with_reducible repeat (first | refine blk_drewN ?_ _ | refine blk_drew ?_ | refine blk_alloc ?_ _)); exact BK183.out⟩, ⟨by repeat (first | (with_reducible first | exact HB.out | apply below_alloc | apply pw_below_drewN | apply below_drew1 | refine below_set ?_ GE183.out) | exact HB.out)⟩⟩
    case round =>
     clear H'
     try clear c1
     try clear p2
     try clear c4
     try clear c4b0
     try clear c6
     try clear c6b0
     try clear c8
     try clear c8b0
     try clear c8b1
     try clear c10
     try clear c10b0
     try clear c10b1
     try clear c12
     try clear c12b0
     try clear c15
     try clear hcz11_0
     try clear hcz11_1
     try clear hcz11_2
     try clear hcz11_3
     try clear hcz11_4
     try clear hcz13_0
     try clear hcz13_1
     try clear hcz13_2
     try clear hcz13_3
     try clear hcz13_4
     try clear hcz14_0
     try clear hcz14_1
     try clear hcz14_2
     try clear hcz14_3
     try clear hcz14_4
     try clear hcz5_0
     try clear hcz5_1
     try clear hcz5_2
     try clear hcz5_3
     try clear hcz5_4
     try clear hcz7_0
     try clear hcz7_1
     try clear hcz7_2
     try clear hcz7_3
     try clear hcz7_4
     try clear hcz9_0
     try clear hcz9_1
     try clear hcz9_2
     try clear hcz9_3
     try clear hcz9_4
     try clear hfz11_0
     try clear hfz11_1
     try clear hfz11_2
     try clear hfz11_3
     try clear hfz11_4
     try clear hfz13_0
     try clear hfz13_1
     try clear hfz13_2
     try clear hfz13_3
     try clear hfz13_4
     try clear hfz14_0
     try clear hfz14_1
     try clear hfz14_2
     try clear hfz14_3
     try clear hfz14_4
     try clear hfz5_0
     try clear hfz5_1
     try clear hfz5_2
     try clear hfz5_3
     try clear hfz5_4
     try clear hfz7_0
     try clear hfz7_1
     try clear hfz7_2
     try clear hfz7_3
     try clear hfz7_4
     try clear hfz9_0
     try clear hfz9_1
     try clear hfz9_2
     try clear hfz9_3
     try clear hfz9_4
     try clear p2
     obtain ⟨x3_2, rfl, HA, HK2, BK183, HB⟩ := hrel
     cases gk with
     | zero => exact absurd HA.out (by simp [r4_Right.l0])
     | succ k2 =>
      have H := HA.out
      clear HA
      simp only [r4_Right.l0] at H
      by_cases c16 : x3_2 < (l0_1.length : Int)
      ·rw [if_pos c16] at H
       have c16b0 : decide (x3_2 < (l0_1.length : Int)) = true := decide_eq_true c16
       clear c16
       by_cases c17 : 0 ≤ x3_2
       ·rw [if_pos c17] at H
        have c17b0 : decide (0 ≤ x3_2) = true := decide_eq_true c17
        clear c17
        by_cases c18 : (rd l0_1 x3_2) ≥ 20
        ·rw [if_pos c18] at H
         have c18b0 : decide (20 ≤ (rd l0_1 x3_2)) = true := decide_eq_true c18
         clear c18
         obtain rfl := Option.some.inj H
         have hcz19_0 : wr.cell? ⟨gb183, 0, none⟩ = some (.int .i64 a0_0) := (blk_cell BK183.out 0).trans rfl
         have hcz19_1 : wr.cell? ⟨gb183, 1, none⟩ = some (.slice A0_1 l0_1.length c0_1) := (blk_cell BK183.out 1).trans rfl
         have hcz19_2 : wr.cell? ⟨gb183, 2, none⟩ = some (.int .i64 a0_2) := (blk_cell BK183.out 2).trans rfl
         have hcz19_3 : wr.cell? ⟨gb183, 3, none⟩ = some (.slice A0_3 l0_3.length c0_3) := (blk_cell BK183.out 3).trans rfl
         have hcz19_4 : wr.cell? ⟨gb183, 4, none⟩ = some (.int .i64 a0_4) := (blk_cell BK183.out 4).trans rfl
         have hfz19_0 := blk_frozen BK183.out 0
         have hfz19_1 := blk_frozen BK183.out 1
         have hfz19_2 := blk_frozen BK183.out 2
         have hfz19_3 := blk_frozen BK183.out 3
         have hfz19_4 := blk_frozen BK183.out 4
         have p184 : 0 ≤ (x3_2 : Int) := of_decide_eq_true (by first | (with_reducible assumption) | assumption)
         have q184 : x3_2 < (l0_1.length : Int) := of_decide_eq_true (by first | (with_reducible assumption) | assumption)
         obtain ⟨ad184, e184, hx184_0⟩ := Kd.at_int HR0_1.out x3_2 p184 q184
         cases e184
         replace hx184_0 := (HB.out.cell (World.block_lt_of_cell? w _ hx184_0)).trans hx184_0
         replace p184 := eq_true p184
         replace q184 := eq_true q184
         go_wp2
         repeat (go_quiet (fail); try go_wp2)
         go_ret
         exact ⟨by first | rfl | (simp [errW_none, errW_some] <;> rfl) | (simp [*, errW_none, errW_some] <;> rfl), by repeat (first | (with_reducible first | exact HB.out | apply below_alloc | apply pw_below_drewN | apply below_drew1 | refine below_set ?_ GE183.out) | exact HB.out)⟩
        ·rw [if_neg c18] at H
         have c18b0 : decide (20 ≤ (rd l0_1 x3_2)) = false := decide_eq_false c18
         clear c18
         by_cases c20 : (rd l0_1 x3_2) < (-61)
         ·rw [if_pos c20] at H
          have c20b0 : decide ((rd l0_1 x3_2) < (-61)) = true := decide_eq_true c20
          clear c20
          obtain rfl := Option.some.inj H
          have hcz21_0 : wr.cell? ⟨gb183, 0, none⟩ = some (.int .i64 a0_0) := (blk_cell BK183.out 0).trans rfl
          have hcz21_1 : wr.cell? ⟨gb183, 1, none⟩ = some (.slice A0_1 l0_1.length c0_1) := (blk_cell BK183.out 1).trans rfl
          have hcz21_2 : wr.cell? ⟨gb183, 2, none⟩ = some (.int .i64 a0_2) := (blk_cell BK183.out 2).trans rfl
          have hcz21_3 : wr.cell? ⟨gb183, 3, none⟩ = some (.slice A0_3 l0_3.length c0_3) := (blk_cell BK183.out 3).trans rfl
          have hcz21_4 : wr.cell? ⟨gb183, 4, none⟩ = some (.int .i64 a0_4) := (blk_cell BK183.out 4).trans rfl
          have hfz21_0 := blk_frozen BK183.out 0
          have hfz21_1 := blk_frozen BK183.out 1
          have hfz21_2 := blk_frozen BK183.out 2
          have hfz21_3 := blk_frozen BK183.out 3
          have hfz21_4 := blk_frozen BK183.out 4
          have p184 : 0 ≤ (x3_2 : Int) := of_decide_eq_true (by first | (with_reducible assumption) | assumption)
          have q184 : x3_2 < (l0_1.length : Int) := of_decide_eq_true (by first | (with_reducible assumption) | assumption)
          obtain ⟨ad184, e184, hx184_0⟩ := Kd.at_int HR0_1.out x3_2 p184 q184
          cases e184
          replace hx184_0 := (HB.out.cell (World.block_lt_of_cell? w _ hx184_0)).trans hx184_0
          replace p184 := eq_true p184
          replace q184 := eq_true q184
          have p185 : 0 ≤ (x3_2 : Int) := of_decide_eq_true (by first | (with_reducible assumption) | assumption)
          have q185 : x3_2 < (l0_1.length : Int) := of_decide_eq_true (by first | (with_reducible assumption) | assumption)
          obtain ⟨ad185, e185, hx185_0⟩ := Kd.at_int HR0_1.out x3_2 p185 q185
          obtain rfl : ad184 = ad185 := (by injection e185)
          replace hx185_0 := (HB.out.cell (World.block_lt_of_cell? w _ hx185_0)).trans hx185_0
          replace p185 := eq_true p185
          replace q185 := eq_true q185
          go_wp2
          repeat (go_quiet (fail); try go_wp2)
          go_ret
          exact ⟨by first | rfl | (simp [errW_none, errW_some] <;> rfl) | (simp [*, errW_none, errW_some] <;> rfl), by repeat (first | (with_reducible first | exact HB.out | apply below_alloc | apply pw_below_drewN | apply below_drew1 | refine below_set ?_ GE183.out) | exact HB.out)⟩
         ·rw [if_neg c20] at H
          have c20b0 : decide ((rd l0_1 x3_2) < (-61)) = false := decide_eq_false c20
          clear c20
          have H' := Aside0.mk H
          clear H
          have hcz22_0 : wr.cell? ⟨gb183, 0, none⟩ = some (.int .i64 a0_0) := (blk_cell BK183.out 0).trans rfl
          have hcz22_1 : wr.cell? ⟨gb183, 1, none⟩ = some (.slice A0_1 l0_1.length c0_1) := (blk_cell BK183.out 1).trans rfl
          have hcz22_2 : wr.cell? ⟨gb183, 2, none⟩ = some (.int .i64 a0_2) := (blk_cell BK183.out 2).trans rfl
          have hcz22_3 : wr.cell? ⟨gb183, 3, none⟩ = some (.slice A0_3 l0_3.length c0_3) := (blk_cell BK183.out 3).trans rfl
          have hcz22_4 : wr.cell? ⟨gb183, 4, none⟩ = some (.int .i64 a0_4) := (blk_cell BK183.out 4).trans rfl
          have hfz22_0 := blk_frozen BK183.out 0
          have hfz22_1 := blk_frozen BK183.out 1
          have hfz22_2 := blk_frozen BK183.out 2
          have hfz22_3 := blk_frozen BK183.out 3
          have hfz22_4 := blk_frozen BK183.out 4
          have p184 : 0 ≤ (x3_2 : Int) := of_decide_eq_true (by first | (with_reducible assumption) | assumption)
          have q184 : x3_2 < (l0_1.length : Int) := of_decide_eq_true (by first | (with_reducible assumption) | assumption)
          obtain ⟨ad184, e184, hx184_0⟩ := Kd.at_int HR0_1.out x3_2 p184 q184
          cases e184
          replace hx184_0 := (HB.out.cell (World.block_lt_of_cell? w _ hx184_0)).trans hx184_0
          replace p184 := eq_true p184
          replace q184 := eq_true q184
          have p185 : 0 ≤ (x3_2 : Int) := of_decide_eq_true (by first | (with_reducible assumption) | assumption)
          have q185 : x3_2 < (l0_1.length : Int) := of_decide_eq_true (by first | (with_reducible assumption) | assumption)
          obtain ⟨ad185, e185, hx185_0⟩ := Kd.at_int HR0_1.out x3_2 p185 q185
          obtain rfl : ad184 = ad185 := (by injection e185)
          replace hx185_0 := (HB.out.cell (World.block_lt_of_cell? w _ hx185_0)).trans hx185_0
          replace p185 := eq_true p185
          replace q185 := eq_true q185
          go_wp2
          repeat (go_quiet (fail); try go_wp2)
          go_roundg k2
          case measure => have := HJ1.out; have := HK2.out; omega
          case rel => exact ⟨(wrap64 (x3_2 + 1)), (by first | rfl | (simp; done) | (simp [*]; done)), H', ⟨by have := HJ1.out; have := HK2.out; omega⟩, ⟨by (with_reducible repeat (first | refine blk_drewN ?_ _ | refine blk_drew ?_ | refine blk_alloc ?_ _)); exact BK183.out⟩, ⟨by repeat (first | (with_reducible first | exact HB.out | apply below_alloc | apply pw_below_drewN | apply below_drew1 | refine below_set ?_ GE183.out) | exact HB.out)⟩⟩
       ·rw [if_neg c17] at H
        exact absurd H (by simp)
      ·rw [if_neg c16] at H
       have c16b0 : decide (x3_2 < (l0_1.length : Int)) = false := decide_eq_false c16
       clear c16
       replace H := Option.bind_eq_some_iff.mp H
       obtain ⟨⟨t186, t187⟩, A230, H⟩ := H
       replace H : (if (l0_3.length : Int) < t186 then (r4_Right.j2 k2 true a0_0 l0_1 a0_2 l0_3 a0_4) else (r4_Right.j2 k2 (decide ((l0_3.length : Int) > t187)) a0_0 l0_1 a0_2 l0_3 a0_4)) = some r := H
       have A23 := Aside0.mk A230
       clear A230
       have HC24 := Aside0.mk H
       clear H
       have hcz25_0 : wr.cell? ⟨gb183, 0, none⟩ = some (.int .i64 a0_0) := (blk_cell BK183.out 0).trans rfl
       have hcz25_1 : wr.cell? ⟨gb183, 1, none⟩ = some (.slice A0_1 l0_1.length c0_1) := (blk_cell BK183.out 1).trans rfl
       have hcz25_2 : wr.cell? ⟨gb183, 2, none⟩ = some (.int .i64 a0_2) := (blk_cell BK183.out 2).trans rfl
       have hcz25_3 : wr.cell? ⟨gb183, 3, none⟩ = some (.slice A0_3 l0_3.length c0_3) := (blk_cell BK183.out 3).trans rfl
       have hcz25_4 : wr.cell? ⟨gb183, 4, none⟩ = some (.int .i64 a0_4) := (blk_cell BK183.out 4).trans rfl
       have hfz25_0 := blk_frozen BK183.out 0
       have hfz25_1 := blk_frozen BK183.out 1
       have hfz25_2 := blk_frozen BK183.out 2
       have hfz25_3 := blk_frozen BK183.out 3
       have hfz25_4 := blk_frozen BK183.out 4
       go_upto_region 9 with (first | (go_at_call 116; (with_reducible refine (r4_wants.calls k2 a0_2 t186 t187 _ A23.out).mono ?_); rintro e w' ⟨rfl, ⟨nd, rfl⟩⟩; (try first | exact ⟨rfl, _, World.drewN_drewN _ _ _⟩ | exact ⟨rfl, _, Eq.trans (World.drewN_drewN _ _ _) (congrArg (World.drewN _) (Nat.add_assoc _ _ _))⟩)))
       repeat (go_quiet (first | (go_at_call 116; (with_reducible refine (r4_wants.calls k2 a0_2 t186 t187 _ A23.out).mono ?_); rintro e w' ⟨rfl, ⟨nd, rfl⟩⟩; (try first | exact ⟨rfl, _, World.drewN_drewN _ _ _⟩ | exact ⟨rfl, _, Eq.trans (World.drewN_drewN _ _ _) (congrArg (World.drewN _) (Nat.add_assoc _ _ _))⟩))); go_upto_region 9 with (first | (go_at_call 116; (with_reducible refine (r4_wants.calls k2 a0_2 t186 t187 _ A23.out).mono ?_); rintro e w' ⟨rfl, ⟨nd, rfl⟩⟩; (try first | exact ⟨rfl, _, World.drewN_drewN _ _ _⟩ | exact ⟨rfl, _, Eq.trans (World.drewN_drewN _ _ _) (congrArg (World.drewN _) (Nat.add_assoc _ _ _))⟩))))
       (try simp only [Act.put, s1_, s2_, s3_])
       go_cut [78] (fun v78 wc => ∃ (kq : Nat) (x78_23 : Bool), v78 = .bool x78_23 ∧ Aside0 (r4_Right.j2 kq x78_23 a0_0 l0_1 a0_2 l0_3 a0_4 = some r) ∧ Aside0 (kq ≤ k2) ∧ Aside0 (wc.heap[gb183]? = some (.cells #[.int .i64 a0_0, (.slice A0_1 l0_1.length c0_1), .int .i64 a0_2, (.slice A0_3 l0_3.length c0_3), .int .i64 a0_4] 56 (0, 0))) ∧ Aside0 (Below w.heap.size w wc))
       case first =>
        have H := HC24.out
        clear HC24
        by_cases c26 : (l0_3.length : Int) < t186
        ·rw [if_pos c26] at H
         have c26b0 : decide ((l0_3.length : Int) < t186) = true := decide_eq_true c26
         clear c26
         (first | rw [c26b0] | (simp only [i64_w, i32_w]; rw [c26b0]) | skip)
         have H' := Aside0.mk H
         clear H
         have hcz27_0 : wr.cell? ⟨gb183, 0, none⟩ = some (.int .i64 a0_0) := (blk_cell BK183.out 0).trans rfl
         have hcz27_1 : wr.cell? ⟨gb183, 1, none⟩ = some (.slice A0_1 l0_1.length c0_1) := (blk_cell BK183.out 1).trans rfl
         have hcz27_2 : wr.cell? ⟨gb183, 2, none⟩ = some (.int .i64 a0_2) := (blk_cell BK183.out 2).trans rfl
         have hcz27_3 : wr.cell? ⟨gb183, 3, none⟩ = some (.slice A0_3 l0_3.length c0_3) := (blk_cell BK183.out 3).trans rfl
         have hcz27_4 : wr.cell? ⟨gb183, 4, none⟩ = some (.int .i64 a0_4) := (blk_cell BK183.out 4).trans rfl
         have hfz27_0 := blk_frozen BK183.out 0
         have hfz27_1 := blk_frozen BK183.out 1
         have hfz27_2 := blk_frozen BK183.out 2
         have hfz27_3 := blk_frozen BK183.out 3
         have hfz27_4 := blk_frozen BK183.out 4
         go_wp2
         repeat (go_quiet (fail); try go_wp2)
         go_meet
         case rel => exact ⟨_, (true), (by first | rfl | (simp; done) | (simp [*]; done)), H', ⟨by have := HJ1.out; have := HK2.out; first | omega | exact Nat.le_refl _⟩, ⟨by (with_reducible repeat (first | refine blk_drewN ?_ _ | refine blk_drew ?_ | refine blk_alloc ?_ _)); exact BK183.out⟩, ⟨by repeat (first | (with_reducible first | exact HB.out | apply below_alloc | apply pw_below_drewN | apply below_drew1 | refine below_set ?_ GE183.out) | exact HB.out)⟩⟩
        ·rw [if_neg c26] at H
         have c26b0 : decide ((l0_3.length : Int) < t186) = false := decide_eq_false c26
         clear c26
         (first | rw [c26b0] | (simp only [i64_w, i32_w]; rw [c26b0]) | skip)
         have H' := Aside0.mk H
         clear H
         have hcz28_0 : wr.cell? ⟨gb183, 0, none⟩ = some (.int .i64 a0_0) := (blk_cell BK183.out 0).trans rfl
         have hcz28_1 : wr.cell? ⟨gb183, 1, none⟩ = some (.slice A0_1 l0_1.length c0_1) := (blk_cell BK183.out 1).trans rfl
         have hcz28_2 : wr.cell? ⟨gb183, 2, none⟩ = some (.int .i64 a0_2) := (blk_cell BK183.out 2).trans rfl
         have hcz28_3 : wr.cell? ⟨gb183, 3, none⟩ = some (.slice A0_3 l0_3.length c0_3) := (blk_cell BK183.out 3).trans rfl
         have hcz28_4 : wr.cell? ⟨gb183, 4, none⟩ = some (.int .i64 a0_4) := (blk_cell BK183.out 4).trans rfl
         have hfz28_0 := blk_frozen BK183.out 0
         have hfz28_1 := blk_frozen BK183.out 1
         have hfz28_2 := blk_frozen BK183.out 2
         have hfz28_3 := blk_frozen BK183.out 3
         have hfz28_4 := blk_frozen BK183.out 4
         go_wp2
         repeat (go_quiet (fail); try go_wp2)
         go_meet
         case rel => exact ⟨_, (decide ((l0_3.length : Int) > t187)), (by first | rfl | (simp; done) | (simp [*]; done)), H', ⟨by have := HJ1.out; have := HK2.out; first | omega | exact Nat.le_refl _⟩, ⟨by (with_reducible repeat (first | refine blk_drewN ?_ _ | refine blk_drew ?_ | refine blk_alloc ?_ _)); exact BK183.out⟩, ⟨by repeat (first | (with_reducible first | exact HB.out | apply below_alloc | apply pw_below_drewN | apply below_drew1 | refine below_set ?_ GE183.out) | exact HB.out)⟩⟩
       case rest =>
        clear HC24
        try clear c1
        try clear p1
        try clear q1
        try clear hx1
        try clear c2
        try clear p2
        try clear c4
        try clear c4b0
        try clear c6
        try clear c6b0
        try clear p6
        try clear c8
        try clear c8b0
        try clear c8b1
        try clear c10
        try clear c10b0
        try clear c10b1
        try clear c12
        try clear c12b0
        try clear c15
        try clear c16
        try clear c16b0
        try clear c17
        try clear c17b0
        try clear c18
        try clear c18b0
        try clear p18
        try clear q18
        try clear hx18
        try clear c20
        try clear c20b0
        try clear c26
        try clear c26b0
        try clear hcz11_0
        try clear hcz11_1
        try clear hcz11_2
        try clear hcz11_3
        try clear hcz11_4
        try clear hcz13_0
        try clear hcz13_1
        try clear hcz13_2
        try clear hcz13_3
        try clear hcz13_4
        try clear hcz14_0
        try clear hcz14_1
        try clear hcz14_2
        try clear hcz14_3
        try clear hcz14_4
        try clear hcz19_0
        try clear hcz19_1
        try clear hcz19_2
        try clear hcz19_3
        try clear hcz19_4
        try clear hcz21_0
        try clear hcz21_1
        try clear hcz21_2
        try clear hcz21_3
        try clear hcz21_4
        try clear hcz22_0
        try clear hcz22_1
        try clear hcz22_2
        try clear hcz22_3
        try clear hcz22_4
        try clear hcz25_0
        try clear hcz25_1
        try clear hcz25_2
        try clear hcz25_3
        try clear hcz25_4
        try clear hcz27_0
        try clear hcz27_1
        try clear hcz27_2
        try clear hcz27_3
        try clear hcz27_4
        try clear hcz28_0
        try clear hcz28_1
        try clear hcz28_2
        try clear hcz28_3
        try clear hcz28_4
        try clear hcz5_0
        try clear hcz5_1
        try clear hcz5_2
        try clear hcz5_3
        try clear hcz5_4
        try clear hcz7_0
        try clear hcz7_1
        try clear hcz7_2
        try clear hcz7_3
        try clear hcz7_4
        try clear hcz9_0
        try clear hcz9_1
        try clear hcz9_2
        try clear hcz9_3
        try clear hcz9_4
        try clear hfz11_0
        try clear hfz11_1
        try clear hfz11_2
        try clear hfz11_3
        try clear hfz11_4
        try clear hfz13_0
        try clear hfz13_1
        try clear hfz13_2
        try clear hfz13_3
        try clear hfz13_4
        try clear hfz14_0
        try clear hfz14_1
        try clear hfz14_2
        try clear hfz14_3
        try clear hfz14_4
        try clear hfz19_0
        try clear hfz19_1
        try clear hfz19_2
        try clear hfz19_3
        try clear hfz19_4
        try clear hfz21_0
        try clear hfz21_1
        try clear hfz21_2
        try clear hfz21_3
        try clear hfz21_4
        try clear hfz22_0
        try clear hfz22_1
        try clear hfz22_2
        try clear hfz22_3
        try clear hfz22_4
        try clear hfz25_0
        try clear hfz25_1
        try clear hfz25_2
        try clear hfz25_3
        try clear hfz25_4
        try clear hfz27_0
        try clear hfz27_1
        try clear hfz27_2
        try clear hfz27_3
        try clear hfz27_4
        try clear hfz28_0
        try clear hfz28_1
        try clear hfz28_2
        try clear hfz28_3
        try clear hfz28_4
        try clear hfz5_0
        try clear hfz5_1
        try clear hfz5_2
        try clear hfz5_3
        try clear hfz5_4
        try clear hfz7_0
        try clear hfz7_1
        try clear hfz7_2
        try clear hfz7_3
        try clear hfz7_4
        try clear hfz9_0
        try clear hfz9_1
        try clear hfz9_2
        try clear hfz9_3
        try clear hfz9_4
        try clear hx184_0
        try clear hx185_0
        try clear p184
        try clear p185
        try clear p2
        try clear q184
        try clear q185
        obtain ⟨kq, x78_23, rfl, HA, HJ23, BK183, HB⟩ := hcut
        cases kq with
        | zero => exact absurd HA.out (by simp [r4_Right.j2])
        | succ kj23 =>
         have H := HA.out
         clear HA
         simp only [r4_Right.j2] at H
         by_cases c29 : x78_23 = true
         ·subst c29
          have H1 : (some false) = some r := by rw [if_pos rfl] at H; exact H
          clear H
          have H := H1
          clear H1
          obtain rfl := Option.some.inj H
          go_wp2
          repeat (go_quiet (fail); try go_wp2)
          go_ret
          exact ⟨by first | rfl | (simp [errW_none, errW_some] <;> rfl) | (simp [*, errW_none, errW_some] <;> rfl), by repeat (first | (with_reducible first | exact HB.out | apply below_alloc | apply pw_below_drewN | apply below_drew1 | refine below_set ?_ GE183.out) | exact HB.out)⟩
         ·replace c29 := Bool.eq_false_iff.mpr c29
          subst c29
          have H1 : (r4_Right.l1 kj23 0 a0_0 l0_1 a0_2 l0_3 a0_4) = some r := by rw [if_neg (show ¬ (false = true) by decide)] at H; exact H
          clear H
          have H := H1
          clear H1
          have H' := Aside0.mk H
          clear H
          go_wp2
          repeat (go_quiet (fail); try go_wp2)
          go_loopg [6] kj23 (fun kq v6 w' => ∃ (x6_4 : Int), v6 = .int .i64 x6_4 ∧ Aside0 (r4_Right.l1 kq x6_4 a0_0 l0_1 a0_2 l0_3 a0_4 = some r) ∧ Aside0 (kq ≤ kj23) ∧ Aside0 (w'.heap[gb183]? = some (.cells #[.int .i64 a0_0, (.slice A0_1 l0_1.length c0_1), .int .i64 a0_2, (.slice A0_3 l0_3.length c0_3), .int .i64 a0_4] 56 (0, 0))) ∧ Aside0 (Below w.heap.size w w'))
          case atStart => exact ⟨(0), (by first | rfl | (simp; done) | (simp [*]; done)), H', ⟨Nat.le_refl _⟩, ⟨by (with_reducible repeat (first | refine blk_drewN ?_ _ | refine blk_drew ?_ | refine blk_alloc ?_ _)); exact BK183.out⟩, ⟨by repeat (first | (with_reducible first | exact HB.out | apply below_alloc | apply pw_below_drewN | apply below_drew1 | refine below_set ?_ GE183.out) | exact HB.out)⟩⟩
          case round =>
           clear H'
           try clear c1
           try clear p1
           try clear q1
           try clear hx1
           try clear c2
           try clear p2
           try clear c4
           try clear c4b0
           try clear c6
           try clear c6b0
           try clear p6
           try clear c8
           try clear c8b0
           try clear c8b1
           try clear c10
           try clear c10b0
           try clear c10b1
           try clear c12
           try clear c12b0
           try clear c15
           try clear c16
           try clear c16b0
           try clear c17
           try clear c17b0
           try clear c18
           try clear c18b0
           try clear p18
           try clear q18
           try clear hx18
           try clear c20
           try clear c20b0
           try clear c26
           try clear c26b0
           try clear c29
           try clear hcz11_0
           try clear hcz11_1
           try clear hcz11_2
           try clear hcz11_3
           try clear hcz11_4
           try clear hcz13_0
           try clear hcz13_1
           try clear hcz13_2
           try clear hcz13_3
           try clear hcz13_4
           try clear hcz14_0
           try clear hcz14_1
           try clear hcz14_2
           try clear hcz14_3
           try clear hcz14_4
           try clear hcz19_0
           try clear hcz19_1
           try clear hcz19_2
           try clear hcz19_3
           try clear hcz19_4
           try clear hcz21_0
           try clear hcz21_1
           try clear hcz21_2
           try clear hcz21_3
           try clear hcz21_4
           try clear hcz22_0
           try clear hcz22_1
           try clear hcz22_2
           try clear hcz22_3
           try clear hcz22_4
           try clear hcz25_0
           try clear hcz25_1
           try clear hcz25_2
           try clear hcz25_3
           try clear hcz25_4
           try clear hcz27_0
           try clear hcz27_1
           try clear hcz27_2
           try clear hcz27_3
           try clear hcz27_4
           try clear hcz28_0
           try clear hcz28_1
           try clear hcz28_2
           try clear hcz28_3
           try clear hcz28_4
           try clear hcz5_0
           try clear hcz5_1
           try clear hcz5_2
           try clear hcz5_3
           try clear hcz5_4
           try clear hcz7_0
           try clear hcz7_1
           try clear hcz7_2
           try clear hcz7_3
           try clear hcz7_4
           try clear hcz9_0
           try clear hcz9_1
           try clear hcz9_2
           try clear hcz9_3
           try clear hcz9_4
           try clear hfz11_0
           try clear hfz11_1
           try clear hfz11_2
           try clear hfz11_3
           try clear hfz11_4
           try clear hfz13_0
           try clear hfz13_1
           try clear hfz13_2
           try clear hfz13_3
           try clear hfz13_4
           try clear hfz14_0
           try clear hfz14_1
           try clear hfz14_2
           try clear hfz14_3
           try clear hfz14_4
           try clear hfz19_0
           try clear hfz19_1
           try clear hfz19_2
           try clear hfz19_3
           try clear hfz19_4
           try clear hfz21_0
           try clear hfz21_1
           try clear hfz21_2
           try clear hfz21_3
           try clear hfz21_4
           try clear hfz22_0
           try clear hfz22_1
           try clear hfz22_2
           try clear hfz22_3
           try clear hfz22_4
           try clear hfz25_0
           try clear hfz25_1
           try clear hfz25_2
           try clear hfz25_3
           try clear hfz25_4
           try clear hfz27_0
           try clear hfz27_1
           try clear hfz27_2
           try clear hfz27_3
           try clear hfz27_4
           try clear hfz28_0
           try clear hfz28_1
           try clear hfz28_2
           try clear hfz28_3
           try clear hfz28_4
           try clear hfz5_0
           try clear hfz5_1
           try clear hfz5_2
           try clear hfz5_3
           try clear hfz5_4
           try clear hfz7_0
           try clear hfz7_1
           try clear hfz7_2
           try clear hfz7_3
           try clear hfz7_4
           try clear hfz9_0
           try clear hfz9_1
           try clear hfz9_2
           try clear hfz9_3
           try clear hfz9_4
           try clear hx184_0
           try clear hx185_0
           try clear p1
           try clear p18
           try clear p184
           try clear p185
           try clear p2
           try clear p6
           try clear q1
           try clear q18
           try clear q184
           try clear q185
           obtain ⟨x6_4, rfl, HA, HK4, BK183, HB⟩ := hrel
           cases gk with
           | zero => exact absurd HA.out (by simp [r4_Right.l1])
           | succ k4 =>
            have H := HA.out
            clear HA
            simp only [r4_Right.l1] at H
            by_cases c30 : x6_4 < (l0_3.length : Int)
            ·rw [if_pos c30] at H
             have c30b0 : decide (x6_4 < (l0_3.length : Int)) = true := decide_eq_true c30
             clear c30
             by_cases c31 : 0 ≤ x6_4
             ·rw [if_pos c31] at H
              have c31b0 : decide (0 ≤ x6_4) = true := decide_eq_true c31
              clear c31
              by_cases c32 : (rd l0_3 x6_4) < 0
              ·rw [if_pos c32] at H
               have c32b0 : decide ((rd l0_3 x6_4) < 0) = true := decide_eq_true c32
               clear c32
               obtain rfl := Option.some.inj H
               have hcz33_0 : wr.cell? ⟨gb183, 0, none⟩ = some (.int .i64 a0_0) := (blk_cell BK183.out 0).trans rfl
               have hcz33_1 : wr.cell? ⟨gb183, 1, none⟩ = some (.slice A0_1 l0_1.length c0_1) := (blk_cell BK183.out 1).trans rfl
               have hcz33_2 : wr.cell? ⟨gb183, 2, none⟩ = some (.int .i64 a0_2) := (blk_cell BK183.out 2).trans rfl
               have hcz33_3 : wr.cell? ⟨gb183, 3, none⟩ = some (.slice A0_3 l0_3.length c0_3) := (blk_cell BK183.out 3).trans rfl
               have hcz33_4 : wr.cell? ⟨gb183, 4, none⟩ = some (.int .i64 a0_4) := (blk_cell BK183.out 4).trans rfl
               have hfz33_0 := blk_frozen BK183.out 0
               have hfz33_1 := blk_frozen BK183.out 1
               have hfz33_2 := blk_frozen BK183.out 2
               have hfz33_3 := blk_frozen BK183.out 3
               have hfz33_4 := blk_frozen BK183.out 4
               have p188 : 0 ≤ (x6_4 : Int) := of_decide_eq_true (by first | (with_reducible assumption) | assumption)
               have q188 : x6_4 < (l0_3.length : Int) := of_decide_eq_true (by first | (with_reducible assumption) | assumption)
               obtain ⟨ad188, e188, hx188_0⟩ := Kd.at_int HR0_3.out x6_4 p188 q188
               cases e188
               replace hx188_0 := (HB.out.cell (World.block_lt_of_cell? w _ hx188_0)).trans hx188_0
               replace p188 := eq_true p188
               replace q188 := eq_true q188
               go_wp2
               repeat (go_quiet (fail); try go_wp2)
               go_ret
               exact ⟨by first | rfl | (simp [errW_none, errW_some] <;> rfl) | (simp [*, errW_none, errW_some] <;> rfl), by repeat (first | (with_reducible first | exact HB.out | apply below_alloc | apply pw_below_drewN | apply below_drew1 | refine below_set ?_ GE183.out) | exact HB.out)⟩
              ·rw [if_neg c32] at H
               have c32b0 : decide ((rd l0_3 x6_4) < 0) = false := decide_eq_false c32
               clear c32
               by_cases c34 : (rd l0_3 x6_4) ≥ (l0_1.length : Int)
               ·rw [if_pos c34] at H
                have c34b0 : decide ((l0_1.length : Int) ≤ (rd l0_3 x6_4)) = true := decide_eq_true c34
                clear c34
                obtain rfl := Option.some.inj H
                have hcz35_0 : wr.cell? ⟨gb183, 0, none⟩ = some (.int .i64 a0_0) := (blk_cell BK183.out 0).trans rfl
                have hcz35_1 : wr.cell? ⟨gb183, 1, none⟩ = some (.slice A0_1 l0_1.length c0_1) := (blk_cell BK183.out 1).trans rfl
                have hcz35_2 : wr.cell? ⟨gb183, 2, none⟩ = some (.int .i64 a0_2) := (blk_cell BK183.out 2).trans rfl
                have hcz35_3 : wr.cell? ⟨gb183, 3, none⟩ = some (.slice A0_3 l0_3.length c0_3) := (blk_cell BK183.out 3).trans rfl
                have hcz35_4 : wr.cell? ⟨gb183, 4, none⟩ = some (.int .i64 a0_4) := (blk_cell BK183.out 4).trans rfl
                have hfz35_0 := blk_frozen BK183.out 0
                have hfz35_1 := blk_frozen BK183.out 1
                have hfz35_2 := blk_frozen BK183.out 2
                have hfz35_3 := blk_frozen BK183.out 3
                have hfz35_4 := blk_frozen BK183.out 4
                have p188 : 0 ≤ (x6_4 : Int) := of_decide_eq_true (by first | (with_reducible assumption) | assumption)
                have q188 : x6_4 < (l0_3.length : Int) := of_decide_eq_true (by first | (with_reducible assumption) | assumption)
                obtain ⟨ad188, e188, hx188_0⟩ := Kd.at_int HR0_3.out x6_4 p188 q188
                cases e188
                replace hx188_0 := (HB.out.cell (World.block_lt_of_cell? w _ hx188_0)).trans hx188_0
                replace p188 := eq_true p188
                replace q188 := eq_true q188
                have p189 : 0 ≤ (x6_4 : Int) := of_decide_eq_true (by first | (with_reducible assumption) | assumption)
                have q189 : x6_4 < (l0_3.length : Int) := of_decide_eq_true (by first | (with_reducible assumption) | assumption)
                obtain ⟨ad189, e189, hx189_0⟩ := Kd.at_int HR0_3.out x6_4 p189 q189
                obtain rfl : ad188 = ad189 := (by injection e189)
                replace hx189_0 := (HB.out.cell (World.block_lt_of_cell? w _ hx189_0)).trans hx189_0
                replace p189 := eq_true p189
                replace q189 := eq_true q189
                go_wp2
                repeat (go_quiet (fail); try go_wp2)
                go_ret
                exact ⟨by first | rfl | (simp [errW_none, errW_some] <;> rfl) | (simp [*, errW_none, errW_some] <;> rfl), by repeat (first | (with_reducible first | exact HB.out | apply below_alloc | apply pw_below_drewN | apply below_drew1 | refine below_set ?_ GE183.out) | exact HB.out)⟩
               ·rw [if_neg c34] at H
                have c34b0 : decide ((l0_1.length : Int) ≤ (rd l0_3 x6_4)) = false := decide_eq_false c34
                clear c34
                have H' := Aside0.mk H
                clear H
                have hcz36_0 : wr.cell? ⟨gb183, 0, none⟩ = some (.int .i64 a0_0) := (blk_cell BK183.out 0).trans rfl
                have hcz36_1 : wr.cell? ⟨gb183, 1, none⟩ = some (.slice A0_1 l0_1.length c0_1) := (blk_cell BK183.out 1).trans rfl
                have hcz36_2 : wr.cell? ⟨gb183, 2, none⟩ = some (.int .i64 a0_2) := (blk_cell BK183.out 2).trans rfl
                have hcz36_3 : wr.cell? ⟨gb183, 3, none⟩ = some (.slice A0_3 l0_3.length c0_3) := (blk_cell BK183.out 3).trans rfl
                have hcz36_4 : wr.cell? ⟨gb183, 4, none⟩ = some (.int .i64 a0_4) := (blk_cell BK183.out 4).trans rfl
                have hfz36_0 := blk_frozen BK183.out 0
                have hfz36_1 := blk_frozen BK183.out 1
                have hfz36_2 := blk_frozen BK183.out 2
                have hfz36_3 := blk_frozen BK183.out 3
                have hfz36_4 := blk_frozen BK183.out 4
                have p188 : 0 ≤ (x6_4 : Int) := of_decide_eq_true (by first | (with_reducible assumption) | assumption)
                have q188 : x6_4 < (l0_3.length : Int) := of_decide_eq_true (by first | (with_reducible assumption) | assumption)
                obtain ⟨ad188, e188, hx188_0⟩ := Kd.at_int HR0_3.out x6_4 p188 q188
                cases e188
                replace hx188_0 := (HB.out.cell (World.block_lt_of_cell? w _ hx188_0)).trans hx188_0
                replace p188 := eq_true p188
                replace q188 := eq_true q188
                have p189 : 0 ≤ (x6_4 : Int) := of_decide_eq_true (by first | (with_reducible assumption) | assumption)
                have q189 : x6_4 < (l0_3.length : Int) := of_decide_eq_true (by first | (with_reducible assumption) | assumption)
                obtain ⟨ad189, e189, hx189_0⟩ := Kd.at_int HR0_3.out x6_4 p189 q189
                obtain rfl : ad188 = ad189 := (by injection e189)
                replace hx189_0 := (HB.out.cell (World.block_lt_of_cell? w _ hx189_0)).trans hx189_0
                replace p189 := eq_true p189
                replace q189 := eq_true q189
                go_wp2
                repeat (go_quiet (fail); try go_wp2)
                go_roundg k4
                case measure => have := HJ1.out; have := HK2.out; have := HJ23.out; have := HK4.out; omega
                case rel => exact ⟨(wrap64 (x6_4 + 1)), (by first | rfl | (simp; done) | (simp [*]; done)), H', ⟨by have := HJ1.out; have := HK2.out; have := HJ23.out; have := HK4.out; omega⟩, ⟨by (with_reducible repeat (first | refine blk_drewN ?_ _ | refine blk_drew ?_ | refine blk_alloc ?_ _)); exact BK183.out⟩, ⟨by repeat (first | (with_reducible first | exact HB.out | apply below_alloc | apply pw_below_drewN | apply below_drew1 | refine below_set ?_ GE183.out) | exact HB.out)⟩⟩
             ·rw [if_neg c31] at H
              exact absurd H (by simp)
            ·rw [if_neg c30] at H
             have c30b0 : decide (x6_4 < (l0_3.length : Int)) = false := decide_eq_false c30
             clear c30
             obtain rfl := Option.some.inj H
             have hcz37_0 : wr.cell? ⟨gb183, 0, none⟩ = some (.int .i64 a0_0) := (blk_cell BK183.out 0).trans rfl
             have hcz37_1 : wr.cell? ⟨gb183, 1, none⟩ = some (.slice A0_1 l0_1.length c0_1) := (blk_cell BK183.out 1).trans rfl
             have hcz37_2 : wr.cell? ⟨gb183, 2, none⟩ = some (.int .i64 a0_2) := (blk_cell BK183.out 2).trans rfl
             have hcz37_3 : wr.cell? ⟨gb183, 3, none⟩ = some (.slice A0_3 l0_3.length c0_3) := (blk_cell BK183.out 3).trans rfl
             have hcz37_4 : wr.cell? ⟨gb183, 4, none⟩ = some (.int .i64 a0_4) := (blk_cell BK183.out 4).trans rfl
             have hfz37_0 := blk_frozen BK183.out 0
             have hfz37_1 := blk_frozen BK183.out 1
             have hfz37_2 := blk_frozen BK183.out 2
             have hfz37_3 := blk_frozen BK183.out 3
             have hfz37_4 := blk_frozen BK183.out 4
             go_wp2
             repeat (go_quiet (fail); try go_wp2)
             go_ret
             exact ⟨by first | rfl | (simp [errW_none, errW_some] <;> rfl) | (simp [*, errW_none, errW_some] <;> rfl), by repeat (first | (with_reducible first | exact HB.out | apply below_alloc | apply pw_below_drewN | apply below_drew1 | refine below_set ?_ GE183.out) | exact HB.out)⟩
end Go.Proofs.YtiocgaekoeekgaaGreat.P
end
section
namespace Go.Proofs.YtiocgaekoeekgaaGreat.P
open Go.RowKit Go.Proofs.YtiocgaekoeekgaaGreatW.PrintWords Go.Proofs.YtiocgaekoeekgaaGreatW.PrintLast Go.Proofs.YtiocgaekoeekgaaGreatW.PrintMore
attribute [local go_sem] max2_int min2_int max_two min_two max_three min_three max_four min_four   
set_option linter.unusedVariables false
set_option linter.unusedSimpArgs false
theorem wants_some (k : Nat) (op : Int) : r4_wants.f (k + 4) op = some (askedP op) := by
 by_cases h : 0 ≤ op ∧ op ≤ 15
 ·have : op = 0 ∨ op = 1 ∨ op = 2 ∨ op = 3 ∨ op = 4 ∨ op = 5 ∨ op = 6 ∨ op = 7 ∨ op = 8 ∨ op = 9 ∨ op = 10 ∨ op = 11 ∨ op = 12 ∨ op = 13 ∨ op = 14 ∨ op = 15 := by omega
  rcases this with rfl | rfl | rfl | rfl | rfl | rfl | rfl | rfl | rfl | rfl | rfl | rfl | rfl | rfl | rfl | rfl <;> rfl
 ·have n : ∀ k : Int, 0 ≤ k → k ≤ 15 → ¬ op = k := fun k h0 h1 e => h (by omega)
  have b : ∀ k : Int, 0 ≤ k → k ≤ 15 → ¬ (op == k) = true := fun k h0 h1 e => n k h0 h1 (by simpa using e)
  have e : askedP op = (1, 0) := by
   unfold askedP
   rw [if_neg (by omega), if_neg (by omega), if_neg (by omega), if_neg (by omega), if_neg (by omega)]
  rw [e]
  unfold r4_wants.f
  rw [if_neg (n 0 (by omega) (by omega)), if_neg (n 7 (by omega) (by omega)), if_neg (n 8 (by omega) (by omega)), r4_wants.j0]
  rw [if_neg (b 11 (by omega) (by omega)), if_neg (n 2 (by omega) (by omega)), if_neg (n 5 (by omega) (by omega)), if_neg (n 9 (by omega) (by omega)), if_neg (n 12 (by omega) (by omega)), if_neg (n 13 (by omega) (by omega)), if_neg (n 14 (by omega) (by omega)), r4_wants.j1]
  rw [if_neg (b 15 (by omega) (by omega)), if_neg (n 1 (by omega) (by omega)), r4_wants.j2]
  rw [if_neg (b 6 (by omega) (by omega)), if_neg (n 3 (by omega) (by omega)), r4_wants.j3]
  rw [if_neg (b 4 (by omega) (by omega)), if_neg (n 10 (by omega) (by omega))]
section
variable (a0 : Int) (l1 : List Int) (a2 : Int) (l3 : List Int) (a4 : Int)
theorem refPlaces (hl : l3.length ≤ 9223372036854775807) : ∀ (n k x : Nat), x ≤ l3.length → l3.length - x = n → n < k → r4_Right.l1 k x a0 l1 a2 l3 a4 = some ((l3.drop x).all (placeB l1.length)) := by
 intro n
 induction n with
 | zero =>
  intro k x hx hn hk
  obtain ⟨k, rfl⟩ : ∃ j, k = j + 1 := ⟨k - 1, by omega⟩
  have he : x = l3.length := by omega
  subst he
  simp only [r4_Right.l1]
  rw [if_neg (by omega), List.drop_length]
  rfl
 | succ n ih =>
  intro k x hx hn hk
  obtain ⟨k, rfl⟩ : ∃ j, k = j + 1 := ⟨k - 1, by omega⟩
  have hlt : x < l3.length := by omega
  simp only [r4_Right.l1]
  rw [if_pos (by omega), if_pos (by omega), rd_getElem l3 x hlt, List.drop_eq_getElem_cons hlt, List.all_cons]
  unfold placeB
  by_cases h0 : l3[x] < 0
  ·rw [if_pos h0, decide_eq_false (by omega)]; rfl
  ·rw [if_neg h0, decide_eq_true (by omega : 0 ≤ l3[x])]
   by_cases h1 : l3[x] ≥ (l1.length : Int)
   ·rw [if_pos h1, decide_eq_false (by omega)]; rfl
   ·rw [if_neg h1, decide_eq_true (by omega : l3[x] < (l1.length : Int)), wrap_in (by omega)]
    exact ih k (x + 1) (by omega) (by omega) (by omega)
theorem refItems (hl : l1.length ≤ 9223372036854775807) (hl3 : l3.length ≤ 9223372036854775807) : ∀ (n k x : Nat), x ≤ l1.length → l1.length - x = n → n + l3.length + 8 < k → r4_Right.l0 k x a0 l1 a2 l3 a4 = some ((l1.drop x).all itemB && (withinB l3.length (askedP a2).1 (askedP a2).2 && l3.all (placeB l1.length))) := by
 intro n
 induction n with
 | zero =>
  intro k x hx hn hk
  obtain ⟨k, rfl⟩ : ∃ j, k = j + 5 := ⟨k - 5, by omega⟩
  have he : x = l1.length := by omega
  subst he
  rw [show k + 5 = (k + 4) + 1 by omega]
  simp only [r4_Right.l0]
  rw [if_neg (by omega), List.drop_length, wants_some]
  simp only [Option.bind_some, List.all_nil, Bool.true_and]
  have h2 := refPlaces a0 l1 a2 l3 a4 hl3 l3.length (k + 3) 0 (Nat.zero_le _) rfl (by omega)
  rw [List.drop_zero] at h2
  have h2' : r4_Right.l1 (k + 3) 0 a0 l1 a2 l3 a4 = some (l3.all (placeB l1.length)) := h2
  unfold withinB
  by_cases h0 : (l3.length : Int) < (askedP a2).1
  ·rw [if_pos h0, show k + 4 = (k + 3) + 1 by omega]
   simp only [r4_Right.j2]
   rw [decide_eq_false (by omega)]
   simp
  ·rw [if_neg h0, show k + 4 = (k + 3) + 1 by omega]
   simp only [r4_Right.j2]
   rw [decide_eq_true (by omega : (askedP a2).1 ≤ (l3.length : Int)), h2']
   by_cases h1 : (l3.length : Int) > (askedP a2).2
   ·rw [decide_eq_true h1, decide_eq_false (by omega : ¬ (l3.length : Int) ≤ (askedP a2).2)]
    simp
   ·rw [decide_eq_false h1, decide_eq_true (by omega : (l3.length : Int) ≤ (askedP a2).2)]
    simp
 | succ n ih =>
  intro k x hx hn hk
  obtain ⟨k, rfl⟩ : ∃ j, k = j + 1 := ⟨k - 1, by omega⟩
  have hlt : x < l1.length := by omega
  simp only [r4_Right.l0]
  rw [if_pos (by omega), if_pos (by omega), rd_getElem l1 x hlt, List.drop_eq_getElem_cons hlt, List.all_cons]
  by_cases h0 : l1[x] ≥ 20
  ·rw [if_pos h0, show itemB l1[x] = false by unfold itemB; simp; omega]; rfl
  ·rw [if_neg h0]
   by_cases h1 : l1[x] < -61
   ·rw [if_pos h1, show itemB l1[x] = false by unfold itemB; simp; omega]; rfl
   ·rw [if_neg h1, show itemB l1[x] = true by unfold itemB; simp; omega, Bool.true_and, wrap_in (by omega)]
    exact ih k (x + 1) (by omega) (by omega) (by omega)
theorem refRight_some (k : Nat) (hl : l1.length ≤ 9223372036854775807) (hl3 : l3.length ≤ 9223372036854775807) (hk : l1.length + l3.length + 10 < k) : r4_Right.f k a0 l1 a2 l3 a4 = some (rightP a0 l1 a2 l3 a4) := by
 obtain ⟨k, rfl⟩ : ∃ j, k = j + 1 := ⟨k - 1, by omega⟩
 have h2 := refItems a0 l1 a2 l3 a4 hl hl3 l1.length k 0 (Nat.zero_le _) rfl (by omega)
 rw [List.drop_zero] at h2
 have h2' : r4_Right.l0 k 0 a0 l1 a2 l3 a4 = some (l1.all itemB && (withinB l3.length (askedP a2).1 (askedP a2).2 && l3.all (placeB l1.length))) := h2
 unfold r4_Right.f
 simp only [r4_Right.j0, if_true]
 unfold rightP symbolB
 by_cases c1 : a0 < 0
 ·rw [if_pos c1, decide_eq_false (by omega)]; rfl
 rw [if_neg c1, decide_eq_true (by omega : 0 ≤ a0)]
 by_cases c2 : a0 ≥ 20
 ·rw [if_pos c2, decide_eq_false (by omega)]; rfl
 rw [if_neg c2, decide_eq_true (by omega : a0 < 20), h2']
 by_cases c3 : (l1.length : Int) < 1
 ·rw [if_pos c3, show withinB l1.length 1 6 = false by unfold withinB; simp; omega]; rfl
 rw [if_neg c3]
 by_cases c4 : (l1.length : Int) > 6
 ·rw [if_pos c4, show withinB l1.length 1 6 = false by unfold withinB; simp; omega]; rfl
 rw [if_neg c4, show withinB l1.length 1 6 = true by unfold withinB; simp; omega]
 by_cases c5 : a4 < 0
 ·rw [if_pos c5, show withinB a4 0 100 = false by unfold withinB; simp; omega]
  simp
 rw [if_neg c5]
 by_cases c6 : a4 > 100
 ·rw [decide_eq_true c6, show withinB a4 0 100 = false by unfold withinB; simp; omega]
  simp
 ·rw [decide_eq_false c6, show withinB a4 0 100 = true by unfold withinB; simp; omega]
  simp
end
end Go.Proofs.YtiocgaekoeekgaaGreat.P
end
section
namespace Go.Proofs.YtiocgaekoeekgaaGreat.P
open Go.RowKit Go.Proofs.YtiocgaekoeekgaaGreatW.PrintWords Go.Proofs.YtiocgaekoeekgaaGreatW.PrintLast Go.Proofs.YtiocgaekoeekgaaGreatW.PrintMore
attribute [local go_sem] max2_int min2_int max_two min_two max_three min_three max_four min_four   
set_option linter.unusedVariables false
set_option linter.unusedSimpArgs false
def matD (e : Nat → Nat → Bool) : Nat → Nat → Nat → Bool
 | 0 => e
 | k + 1 => fun i j => matD e k i j || (matD e k i k && matD e k k j)
theorem matD_mono {e : Nat → Nat → Bool} {k i j : Nat} (h : matD e k i j = true) : matD e (k + 1) i j = true := by
 simp [matD, h]
theorem matD_base {e : Nat → Nat → Bool} {i j : Nat} (h : e i j = true) : ∀ k, matD e k i j = true
 | 0 => h
 | k + 1 => matD_mono (matD_base h k)
theorem matD_row (e : Nat → Nat → Bool) (k j : Nat) : matD e (k + 1) k j = matD e k k j := by
 simp only [matD]
 cases matD e k k j <;> simp
theorem matD_col (e : Nat → Nat → Bool) (k i : Nat) : matD e (k + 1) i k = matD e k i k := by
 simp only [matD]
 cases matD e k i k <;> simp
theorem matD_trans {e : Nat → Nat → Bool} : ∀ (k i m j : Nat), m < k → matD e k i m = true → matD e k m j = true → matD e k i j = true
 | 0, _, _, _, h, _, _ => by omega
 | k + 1, i, m, j, hm, h1, h2 => by
  have T := matD_trans (e := e) k
  by_cases e1 : m = k
  ·subst e1
   rw [matD_col] at h1
   rw [matD_row] at h2
   simp [matD, h1, h2]
  ·have hm' : m < k := by omega
   simp only [matD, Bool.or_eq_true, Bool.and_eq_true] at h1 h2 ⊢
   rcases h1 with h1 | ⟨h1, h1'⟩
   ·rcases h2 with h2 | ⟨h2, h2'⟩
    ·exact .inl (T i m j hm' h1 h2)
    ·exact .inr ⟨T i m k hm' h1 h2, h2'⟩
   ·rcases h2 with h2 | ⟨h2, h2'⟩
    ·exact .inr ⟨h1, T k m j hm' h1' h2⟩
    ·exact .inr ⟨h1, h2'⟩
theorem matD_sound {e : Nat → Nat → Bool} {R : Nat → Nat → Prop} (hb : ∀ i j, e i j = true → R i j) (ht : ∀ i m j, R i m → R m j → R i j) : ∀ (k i j : Nat), matD e k i j = true → R i j
 | 0, i, j, h => hb i j h
 | k + 1, i, j, h => by
  simp only [matD, Bool.or_eq_true, Bool.and_eq_true] at h
  rcases h with h | ⟨h1, h2⟩
  ·exact matD_sound hb ht k i j h
  ·exact ht i k j (matD_sound hb ht k i k h1) (matD_sound hb ht k k j h2)
def stage (e : Nat → Nat → Bool) (k i j : Nat) : Nat → Nat → Bool := fun a b => if a < i ∨ (a = i ∧ b < j) then matD e (k + 1) a b else matD e k a b
def upd (mt : Nat → Nat → Bool) (i j : Nat) (v : Bool) : Nat → Nat → Bool := fun a b => if a = i ∧ b = j then v else mt a b
theorem stage_col (e : Nat → Nat → Bool) (k i j a : Nat) : stage e k i j a k = matD e k a k := by
 unfold stage; split
 ·exact matD_col e k a
 ·rfl
theorem stage_row (e : Nat → Nat → Bool) (k i j b : Nat) : stage e k i j k b = matD e k k b := by
 unfold stage; split
 ·exact matD_row e k b
 ·rfl
theorem stage_at (e : Nat → Nat → Bool) (k i j : Nat) : stage e k i j i j = matD e k i j := by
 unfold stage; rw [if_neg (by omega)]
theorem stage_upd (e : Nat → Nat → Bool) (k i j : Nat) : upd (stage e k i j) i j (stage e k i j i j || (stage e k i j i k && stage e k i j k j)) = stage e k i (j + 1) := by
 rw [stage_at, stage_col, stage_row]
 funext a b
 unfold upd stage
 by_cases h : a = i ∧ b = j
 ·obtain ⟨rfl, rfl⟩ := h
  rw [if_pos ⟨rfl, rfl⟩, if_pos (by omega)]
  rfl
 ·rw [if_neg h]
  by_cases h2 : a < i ∨ (a = i ∧ b < j)
  ·rw [if_pos h2, if_pos (by omega)]
  ·rw [if_neg h2, if_neg (by omega)]
def matCells (mt : Nat → Nat → Bool) : List Value := (List.range 400).map fun n => Value.bool (mt (n / 20) (n % 20))
theorem matCells_length (mt : Nat → Nat → Bool) : (matCells mt).length = 400 := by simp [matCells]
theorem matCells_at (mt : Nat → Nat → Bool) (i j : Nat) (hi : i < 20) (hj : j < 20) : (matCells mt)[i * 20 + j]? = some (.bool (mt i j)) := by
 unfold matCells
 rw [List.getElem?_map, List.getElem?_range (by omega)]
 simp only [Option.map_some]
 rw [show (i * 20 + j) / 20 = i by omega, show (i * 20 + j) % 20 = j by omega]
theorem matCells_congr {mt mt' : Nat → Nat → Bool} (h : ∀ i j, i < 20 → j < 20 → mt i j = mt' i j) : matCells mt = matCells mt' := by
 unfold matCells
 refine List.map_congr_left fun n hn => ?_
 rw [List.mem_range] at hn
 rw [h _ _ (by omega) (by omega)]
theorem matCells_set (mt : Nat → Nat → Bool) (i j : Nat) (v : Bool) (hi : i < 20) (hj : j < 20) : (matCells mt).set (i * 20 + j) (.bool v) = matCells (upd mt i j v) := by
 apply List.ext_getElem?
 intro n
 by_cases hn : n < 400
 ·obtain ⟨a, b, rfl, ha, hb⟩ : ∃ a b, n = a * 20 + b ∧ a < 20 ∧ b < 20 := ⟨n / 20, n % 20, by omega, by omega, by omega⟩
  rw [matCells_at _ a b ha hb]
  by_cases h : a = i ∧ b = j
  ·obtain ⟨rfl, rfl⟩ := h
   rw [List.getElem?_set_self (by rw [matCells_length]; omega)]
   simp [upd]
  ·rw [List.getElem?_set_ne (by omega), matCells_at _ a b ha hb]
   simp [upd, h]
 ·rw [List.getElem?_eq_none (by rw [List.length_set, matCells_length]; omega), List.getElem?_eq_none (by rw [matCells_length]; omega)]
def Mat (W : World) (t : TypeId) (g : Nat) (mt : Nat → Nat → Bool) : Prop := W.heap[g]? = some (.cells (matCells mt).toArray t (0, 0))
theorem Mat.cell {W : World} {t : TypeId} {g : Nat} {mt : Nat → Nat → Bool} (h : Mat W t g mt) (i j : Nat) (hi : i < 20) (hj : j < 20) : W.cell? ⟨g, i * 20 + j, none⟩ = some (.bool (mt i j)) :=
 (blk_cell h _).trans (by rw [List.getElem?_toArray]; exact matCells_at mt i j hi hj)
theorem Mat.frozen {W : World} {t : TypeId} {g : Nat} {mt : Nat → Nat → Bool} (h : Mat W t g mt) (n : Nat) : W.frozen? ⟨g, n, none⟩ = false := blk_frozen h n
theorem Mat.set {W : World} {t : TypeId} {g : Nat} {mt : Nat → Nat → Bool} (h : Mat W t g mt) (i j : Nat) (v : Bool) (hi : i < 20) (hj : j < 20) : Mat (W.setCell ⟨g, i * 20 + j, none⟩ (.bool v)) t g (upd mt i j v) := by
 unfold Mat
 refine blk_put h (i * 20 + j) (.bool v) ?_
 rw [← matCells_set mt i j v hi hj]
 simp
theorem Mat.congr {W : World} {t : TypeId} {g : Nat} {mt mt' : Nat → Nat → Bool} (h : Mat W t g mt) (he : ∀ i j, i < 20 → j < 20 → mt i j = mt' i j) : Mat W t g mt' := by
 unfold Mat
 rw [← matCells_congr he]
 exact h
theorem Mat.below {W W1 : World} {t : TypeId} {g : Nat} {mt : Nat → Nat → Bool} (h : Mat W t g mt) (hb : Below W.heap.size W W1) : Mat W1 t g mt := blk_below h hb
theorem mat_zero : (matCells fun _ _ => false).toArray = Array.replicate 400 (Value.bool false) := by
 apply Array.ext_getElem?
 intro n
 rw [List.getElem?_toArray, Array.getElem?_replicate]
 unfold matCells
 by_cases h : n < 400
 ·rw [if_pos h, List.getElem?_map, List.getElem?_range h]; rfl
 ·rw [if_neg h, List.getElem?_eq_none (by simp; omega)]
end Go.Proofs.YtiocgaekoeekgaaGreat.P
end
section
namespace Go.Proofs.YtiocgaekoeekgaaGreat.P
open Go.RowKit Go.Proofs.YtiocgaekoeekgaaGreatW.PrintWords Go.Proofs.YtiocgaekoeekgaaGreatW.PrintLast Go.Proofs.YtiocgaekoeekgaaGreatW.PrintMore
attribute [local go_sem] max2_int min2_int max_two min_two max_three min_three max_four min_four   
set_option linter.unusedVariables false
set_option linter.unusedSimpArgs false
theorem mem_refRows (s : Nat) (y : Int) : ∀ (l : List Rule') (rows : Nat → List Int), y ∈ l.foldl rowStep rows s ↔ y ∈ rows s ∨ ∃ r ∈ l, r.f0 = s ∧ r.f1 = [y] ∧ 0 ≤ y
 | [], rows => by simp
 | r :: l, rows => by
  rw [List.foldl_cons, mem_refRows s y l (rowStep rows r)]
  have h : y ∈ rowStep rows r s ↔ y ∈ rows s ∨ (r.f0 = s ∧ r.f1 = [y] ∧ 0 ≤ y) := by
   unfold rowStep oneOf
   split
   case isTrue hc =>
    obtain ⟨h1, h2⟩ := hc
    obtain ⟨h3, h4⟩ := of_decide_eq_true h1
    rw [mem_putP]
    have h5 : r.f1 = [rd r.f1 0] := by
     match hr : r.f1, h3 with
     | [x], _ => simp [rd]
    constructor
    ·rintro (rfl | h)
     ·exact .inr ⟨h2, h5, h4⟩
     ·exact .inl h
    ·rintro (h | ⟨_, h, _⟩)
     ·exact .inr h
     ·left
      rw [h]; rfl
   case isFalse hc =>
    constructor
    ·exact .inl
    ·rintro (h | ⟨h1, h2, h3⟩)
     ·exact h
     ·exact absurd ⟨decide_eq_true ⟨by rw [h2]; rfl, by rw [h2]; exact h3⟩, h1⟩ hc
  rw [h, or_assoc]
  simp
theorem refRows_iff (l0 : List Rule') (hr : l0.all rightR = true) (s : Nat) (hs : s < 20) (y : Int) : y ∈ refRows l0 s ↔ y ∈ rowsNext l0 s := by
 unfold refRows
 rw [mem_refRows, mem_rowsNext l0 s ⟨by omega, by omega⟩]
 constructor
 ·rintro (h | ⟨r, h1, h2, h3, h4⟩)
  ·cases h
  ·refine ⟨⟨h4, ?_⟩, r, h1, h2, h3⟩
   have h5 := List.all_eq_true.1 hr r h1
   unfold rightR rightP at h5
   simp only [Bool.and_eq_true] at h5
   have h6 := List.all_eq_true.1 h5.2.2.1 y (by rw [h3]; exact List.mem_singleton.2 rfl)
   unfold itemB at h6
   rw [Bool.and_eq_true] at h6
   exact of_decide_eq_true h6.1
 ·rintro ⟨h1, r, h2, h3, h4⟩
  exact .inr ⟨r, h2, h3, h4, h1.1⟩
def arrow (l0 : List Rule') (i j : Nat) : Bool := decide ((j : Int) ∈ refRows l0 i)
theorem arrows_reach (l0 : List Rule') (hr : l0.all rightR = true) (i : Nat) (hi : i < 20) (y : Int) : Reach (rowsNext l0) (rowsNext l0 i) y ↔ inSym y ∧ matD (arrow l0) 20 i y.toNat = true := by
 have his : inSym (i : Int) := ⟨by omega, by omega⟩
 constructor
 ·intro h
  refine Reach.inv (P := fun y => inSym y ∧ matD (arrow l0) 20 i y.toNat = true) (fun x hx => ?_) (fun x hx y hy => ?_) h
  ·have h1 := rowsNext_sym l0 i his x hx
   refine ⟨h1, matD_base ?_ 20⟩
   unfold arrow
   rw [Int.toNat_of_nonneg h1.1]
   exact decide_eq_true ((refRows_iff l0 hr i hi x).2 hx)
  ·have h1 := rowsNext_sym l0 x hx.1 y hy
   refine ⟨h1, matD_trans 20 i x.toNat y.toNat (by have := hx.1.1; have := hx.1.2; omega) hx.2 (matD_base ?_ 20)⟩
   unfold arrow
   rw [Int.toNat_of_nonneg h1.1]
   refine decide_eq_true ((refRows_iff l0 hr x.toNat (by have := hx.1.1; have := hx.1.2; omega) y).2 ?_)
   rw [Int.toNat_of_nonneg hx.1.1]
   exact hy
 ·rintro ⟨hy, h⟩
  have h2 := matD_sound (e := arrow l0) (R := fun a b => a < 20 → b < 20 ∧ Reach (rowsNext l0) (rowsNext l0 (a : Int)) (b : Int))
   (fun a b hab ha => by
    have h3 := (refRows_iff l0 hr a ha (b : Int)).1 (of_decide_eq_true hab)
    have h4 := rowsNext_sym l0 a ⟨by omega, by omega⟩ b h3
    exact ⟨by have := h4.2; omega, .base h3⟩)
   (fun a m b h1 h2 ha => by
    obtain ⟨hm, h3⟩ := h1 ha
    obtain ⟨hb, h4⟩ := h2 hm
    refine ⟨hb, ?_⟩
    refine Reach.inv (P := fun y => Reach (rowsNext l0) (rowsNext l0 (a : Int)) y) (fun x hx => .step h3 hx) (fun x hx y hy => .step hx hy) h4) 20 i y.toNat h hi
  rw [Int.toNat_of_nonneg hy.1] at h2
  exact h2.2
theorem checkP_matD (l0 : List Rule') (h60 : l0.length ≤ 60) (hr : l0.all rightR = true) : checkP l0 = true ↔ ∀ i, i < 20 → matD (arrow l0) 20 i i = false := by
 rw [checkP_iff]
 constructor
 ·rintro ⟨_, _, h⟩ i hi
  have h1 := h i ⟨by omega, by omega⟩
  rw [arrows_reach l0 hr i hi] at h1
  cases hm : matD (arrow l0) 20 i i with
  | false => rfl
  | true => exact absurd ⟨⟨by omega, by omega⟩, by simpa using hm⟩ h1
 ·intro h
  refine ⟨h60, hr, fun x hx hR => ?_⟩
  obtain ⟨n, rfl⟩ : ∃ n : Nat, x = n := ⟨x.toNat, by have := hx.1; omega⟩
  have hn : n < 20 := by have := hx.2; omega
  have h1 := ((arrows_reach l0 hr n hn n).1 hR).2
  have h2 := h n hn
  simp [h2] at h1
def arrowUpto (l0 : List Rule') (i k : Nat) (a b : Nat) : Bool := decide (a < i) && arrow l0 a b || (decide (a = i) && decide ((b : Int) ∈ (refRows l0 i).take k))
theorem arrowUpto_snoc (l0 : List Rule') (i k : Nat) (h : k < (refRows l0 i).length) (z : Nat) (hz : (refRows l0 i)[k] = (z : Int)) : upd (arrowUpto l0 i k) i z true = arrowUpto l0 i (k + 1) := by
 funext a b
 unfold upd arrowUpto
 rw [List.take_succ_eq_append_getElem h, hz]
 by_cases ha : a = i
 ·subst ha
  by_cases hb : b = z
  ·subst hb; simp
  ·have : ¬ (b : Int) = (z : Int) := by omega
   simp [hb, this]
 ·simp [ha]
theorem arrowUpto_next (l0 : List Rule') (i : Nat) : arrowUpto l0 i (refRows l0 i).length = arrowUpto l0 (i + 1) 0 := by
 funext a b
 unfold arrowUpto
 rw [List.take_length, List.take_zero]
 by_cases ha : a = i
 ·subst ha
  simp [arrow]
 ·by_cases hl : a < i
  ·simp [hl, ha, show a < i + 1 by omega]
  ·simp [hl, ha, show ¬ a < i + 1 by omega]
noncomputable def r4_Check.f (l0 : List Rule') : Option Bool := some (checkP l0)
theorem mat0 : Tryz.zeroCells115 = (matCells fun _ _ => false).toArray := by rw [mat_zero]; kernel_rfl
set_option maxHeartbeats 4000000 in
set_option maxRecDepth 100000 in
theorem refCheck_walk (A0 : Option Addr) (c0 : Nat) (l0 : List Rule') (w : World) (hr0 : Kd.C k56 w A0 l0.length l0) (hc0 : l0.length ≤ c0) :
  Calls Tryz.prog 28 #[.slice A0 l0.length c0] w fun e w' => e = .returned (.bool (checkP l0)) ∧ Below w.heap.size w w' := by
 have HR := Aside0.mk hr0
 have HC := Aside0.mk hc0
 clear hr0 hc0
 by_cases h60 : l0.length ≤ 60
 ·have h60z : ¬ ((l0.length : Int) > 60) := by omega
  go_enter Tryz.func28, Tryz.ntmps28
  go_wp2
  go_loopg [3] l0.length (fun gg s3 wr => ∃ kk : Nat, kk ≤ l0.length ∧ l0.length - kk ≤ gg ∧ s3 = .int .i64 kk ∧ Aside0 (∀ j, j < kk → ∀ h : j < l0.length, rightR l0[j] = true) ∧ Aside0 (Below w.heap.size w wr))
  case atStart => exact ⟨0, Nat.zero_le _, by omega, rfl, ⟨fun j hj => absurd hj (Nat.not_lt_zero _)⟩, ⟨Below.refl _ _⟩⟩
  case round =>
   obtain ⟨kk, hkk, hgg, rfl, HA, HB⟩ := hrel
   by_cases hlt : kk < l0.length
   ·have hltz : (kk : Int) < (l0.length : Int) := by omega
    obtain ⟨ad, A1, c1, A3, c3, hA, h0, h1, h2, h3, h4, l1, g1, l3, g3⟩ := at_T56 (Kd.C_below HR.out HB.out) kk (by omega) hltz
    have hx : rd_T56 l0 kk = l0[kk] := by simp [rd_T56, List.getD_eq_getElem?_getD, List.getElem?_eq_getElem hlt]
    generalize rd_T56 l0 kk = y at *
    rw [Int.toNat_natCast] at h0 h1 h2 h3 h4
    subst hA
    have HX := Aside0.mk hx
    clear hx
    have HRS := Aside0.mk (refRight_some y.f0 y.f1 y.f2.f0 y.f2.f1 y.f3 (y.f1.length + y.f2.f1.length + 11) g1.2.1 g3.2.1 (by omega))
    have hcall := Aside0.mk (r4_Right.calls (y.f1.length + y.f2.f1.length + 11) y.f0 A1 c1 y.f1 y.f2.f0 A3 c3 y.f2.f1 y.f3 (rightR y) wr g1 l1 g3 l3 HRS.out)
    clear g1 g3
    cases hr : rightR y with
    | true =>
     rw [hr] at hcall
     go_wp2_with fail
     refine hcall.out.mono ?_
     rintro e w' ⟨rfl, hb⟩
     have HB2 := Aside0.mk (below_step HB.out hb)
     clear hb
     go_wp2
     go_roundg (l0.length - (kk + 1))
     case measure => omega
     case rel =>
      refine ⟨kk + 1, by omega, by omega, by go_num, ⟨fun j hj hl => ?_⟩, HB2⟩
      by_cases e : j = kk
      ·subst e; rw [← HX.out]; exact hr
      ·exact HA.out j (by omega) hl
    | false =>
     rw [hr] at hcall
     have hz : checkP l0 = false := by
      unfold checkP
      have : l0.all rightR = false := List.all_eq_false.2 ⟨l0[kk], List.getElem_mem hlt, by rw [← HX.out, hr]; decide⟩
      rw [this, Bool.false_and, Bool.and_false]
     go_wp2_with fail
     refine hcall.out.mono ?_
     rintro e w' ⟨rfl, hb⟩
     have HB2 := Aside0.mk (below_step HB.out hb)
     clear hb
     go_wp2
     go_ret
     exact ⟨ret_bool hz.symm, HB2.out⟩
   ·have hltz : ¬ (kk : Int) < (l0.length : Int) := by omega
    have hkl : kk = l0.length := by omega
    subst hkl
    have hall : l0.all rightR = true := by
     rw [List.all_eq_true]
     intro r hr
     obtain ⟨j, hj, rfl⟩ := List.mem_iff_getElem.1 hr
     exact HA.out j hj hj
    have HCM := Aside0.mk (checkP_matD l0 h60 hall)
    have hu := Aside0.mk (unitsB_of l0 h60 hall)
    have HALL := Aside0.mk hall
    have HR1 := Aside0.mk (Kd.C_below HR.out HB.out)
    clear HA hall HR
    go_wp2_with fail
    refine (refUnits_walk A0 c0 l0 wr HR1.out HC.out hu.out).mono ?_
    rintro e w1 ⟨v1, rfl, hS, hb⟩
    obtain ⟨A2, c2, rfl, hc2, hC2⟩ := Kd.S_reads hS
    have hlen : (refUnitsP l0).length = 20 := by simp [refUnitsP]
    have HB1 := Aside0.mk (below_step HB.out hb)
    have HU1 := Aside0.mk hC2
    have HM := Aside0.mk (show Mat (w1.alloc (.cells Tryz.zeroCells115 115)) 115 w1.heap.size (fun _ _ => false) from by unfold Mat; rw [← mat0]; exact blk_new _ _)
    have HB2 := Aside0.mk (below_alloc (Below.refl w1.heap.size w1) (.cells Tryz.zeroCells115 115))
    rw [hlen]
    have HLN := Aside0.mk hlen
    clear hS hb hc2 hC2 hlen HB HR1
    go_wp2
    generalize (w1.alloc (.cells Tryz.zeroCells115 115)) = W2 at *
    generalize hg : w1.heap.size = g at *
    have HG := Aside0.mk hg
    clear hg
    go_loopg [6] 20 (fun gg s6 wr => ∃ i : Nat, i ≤ 20 ∧ 20 - i ≤ gg ∧ s6 = .int .i64 i ∧ Aside0 (Mat wr 115 g (arrowUpto l0 i 0)) ∧ Aside0 (Below g w1 wr))
    case atStart => exact ⟨0, by omega, by omega, rfl, ⟨HM.out.congr (fun i j _ _ => by simp [arrowUpto])⟩, HB2⟩
    case round =>
     clear HM HB2
     obtain ⟨i, hi, hgi, rfl, HM, HB2⟩ := hrel
     by_cases hlt : i < 20
     ·have hltz : (i : Int) < 20 := by omega
      have hrow : rd_L5 (refUnitsP l0) (i : Int) = refRows l0 i := by
       unfold rd_L5 refUnitsP
       rw [Int.toNat_natCast, List.getD_eq_getElem?_getD, List.getElem?_map, List.getElem?_range hlt]
       rfl
      have HROW := Aside0.mk hrow
      clear hrow
      go_wp2
      go_loopg [7] (refRows l0 i).length (fun gg s7 wr => ∃ k : Nat, k ≤ (refRows l0 i).length ∧ (refRows l0 i).length - k ≤ gg ∧ s7 = .int .i64 k ∧ Aside0 (Mat wr 115 g (arrowUpto l0 i k)) ∧ Aside0 (Below g w1 wr))
      case atStart => exact ⟨0, Nat.zero_le _, by omega, rfl, HM, HB2⟩
      case round =>
       clear HM HB2
       obtain ⟨k, hk, hgk, rfl, HM, HB2⟩ := hrel
       obtain ⟨ad, A4, c4, hA, h0, h1, h2⟩ := at_L5 (show Kd.C (Kd.slice 3 (Kd.int .i64)) wr A2 (refUnitsP l0).length (refUnitsP l0) from Kd.C_below HU1.out (by rw [HG.out]; exact HB2.out)) i (by omega) (by rw [HLN.out]; exact hltz)
       rw [HROW.out] at h0 h1 h2
       rw [Int.toNat_natCast] at h0
       subst hA
       have hlm : (refRows l0 i).length ≤ 9223372036854775807 := h2.2.1
       by_cases hlk : k < (refRows l0 i).length
       ·have hz0 := (refRows_iff l0 HALL.out i hlt _).1 (List.getElem_mem hlk)
        have hz1 := rowsNext_sym l0 i ⟨by omega, by omega⟩ _ hz0
        obtain ⟨z, hz⟩ : ∃ z : Nat, (refRows l0 i)[k] = (z : Int) := ⟨(refRows l0 i)[k].toNat, by have := hz1.1; omega⟩
        have hz20 : z < 20 := by have := hz1.2; omega
        have HUP := Aside0.mk (arrowUpto_snoc l0 i k hlk z hz)
        have hlkz : (k : Int) < ((refRows l0 i).length : Int) := by omega
        obtain ⟨ad1, hA1, hc1⟩ := Kd.at_int h2 k (by omega) hlkz
        rw [Int.toNat_natCast, rd_getElem _ k hlk, hz] at hc1
        subst hA1
        have hz20z : (z : Int) < 20 := by omega
        have hcm := HM.out.cell i z hlt hz20
        have hcf := HM.out.frozen (i * 20 + z)
        have HMS := Aside0.mk (HM.out.set i z true hlt hz20)
        rw [HUP.out] at HMS
        clear hz hz0 hz1 h2 h1
        generalize (refRows l0 i).length = m at *
        go_wp2
        go_region
        all_goals
         go_wp2
         go_roundg (m - (k + 1))
         case measure => omega
         case rel => exact ⟨k + 1, by omega, by omega, by go_num, ⟨HMS.out⟩, ⟨(below_drew HB2.out).setCell (Nat.le_refl _) _⟩⟩
       ·have hlkz : ¬ (k : Int) < ((refRows l0 i).length : Int) := by omega
        have hke : k = (refRows l0 i).length := by omega
        have HM2 : Aside0 (Mat wr 115 g (arrowUpto l0 (i + 1) 0)) := ⟨by rw [← arrowUpto_next, ← hke]; exact HM.out⟩
        clear hke h2
        generalize (refRows l0 i).length = m at *
        go_wp2
        go_roundg (20 - (i + 1))
        case measure => omega
        case rel => exact ⟨i + 1, by omega, by omega, by go_num, HM2, HB2⟩
     ·have hltz : ¬ (i : Int) < 20 := by omega
      have hie : i = 20 := by omega
      subst hie
      have HM0 : Aside0 (Mat wr 115 g (matD (arrow l0) 0)) := ⟨HM.out.congr (fun a b ha _ => by simp [arrowUpto, matD, ha])⟩
      clear HM HU1
      go_wp2
      go_loopg [8] 20 (fun gg s8 wr => ∃ k : Nat, k ≤ 20 ∧ 20 - k ≤ gg ∧ s8 = .int .i64 k ∧ Aside0 (Mat wr 115 g (matD (arrow l0) k)) ∧ Aside0 (Below g w1 wr))
      case atStart => exact ⟨0, by omega, by omega, rfl, HM0, HB2⟩
      case round =>
       clear HM0 HB2
       obtain ⟨k, hk, hgk, rfl, HM, HB2⟩ := hrel
       by_cases hk20 : k < 20
       ·have hk20z : (k : Int) < 20 := by omega
        have HM1 : Aside0 (Mat wr 115 g (stage (arrow l0) k 0 0)) := ⟨HM.out.congr (fun a b _ _ => by simp [stage])⟩
        clear HM
        go_wp2
        go_loopg [9] 20 (fun gg s9 wr => ∃ i : Nat, i ≤ 20 ∧ 20 - i ≤ gg ∧ s9 = .int .i64 i ∧ Aside0 (Mat wr 115 g (stage (arrow l0) k i 0)) ∧ Aside0 (Below g w1 wr))
        case atStart => exact ⟨0, by omega, by omega, rfl, HM1, HB2⟩
        case round =>
         clear HM1 HB2
         obtain ⟨i, hi, hgi, rfl, HM, HB2⟩ := hrel
         by_cases hi20 : i < 20
         ·have hi20z : (i : Int) < 20 := by omega
          go_wp2
          go_loopg [10] 20 (fun gg s10 wr => ∃ j : Nat, j ≤ 20 ∧ 20 - j ≤ gg ∧ s10 = .int .i64 j ∧ Aside0 (Mat wr 115 g (stage (arrow l0) k i j)) ∧ Aside0 (Below g w1 wr))
          case atStart => exact ⟨0, by omega, by omega, rfl, HM, HB2⟩
          case round =>
           clear HM HB2
           obtain ⟨j, hj, hgj, rfl, HM, HB2⟩ := hrel
           by_cases hj20 : j < 20
           ·have hj20z : (j : Int) < 20 := by omega
            have m1 := HM.out.cell i j hi20 hj20
            have m2 := HM.out.cell i k hi20 hk20
            have m3 := HM.out.cell k j hk20 hj20
            have mf := HM.out.frozen (i * 20 + j)
            have HMS : ∀ v : Bool, v = (stage (arrow l0) k i j i j || (stage (arrow l0) k i j i k && stage (arrow l0) k i j k j)) → Mat (wr.setCell ⟨g, i * 20 + j, none⟩ (.bool v)) 115 g (stage (arrow l0) k i (j + 1)) := by
             intro v hv
             rw [← stage_upd, ← hv]
             exact HM.out.set i j v hi20 hj20
            generalize stage (arrow l0) k i j i j = x1 at *
            generalize stage (arrow l0) k i j i k = x2 at *
            generalize stage (arrow l0) k i j k j = x3 at *
            have HMT := Aside0.mk HMS
            clear HMS HM
            cases x1 with
            | true =>
             go_wp2
             go_region
             all_goals
              go_wp2
              go_roundg (20 - (j + 1))
              case measure => omega
              case rel => exact ⟨j + 1, by omega, by omega, by go_num, ⟨HMT.out true (by simp)⟩, ⟨(below_drew HB2.out).setCell (Nat.le_refl _) _⟩⟩
            | false =>
             cases x2 with
             | false =>
              go_wp2
              go_region
              all_goals
               go_wp2
               go_roundg (20 - (j + 1))
               case measure => omega
               case rel => exact ⟨j + 1, by omega, by omega, by go_num, ⟨HMT.out false (by simp)⟩, ⟨(below_drew HB2.out).setCell (Nat.le_refl _) _⟩⟩
             | true =>
              cases x3 with
              | false =>
               go_wp2
               go_region
               all_goals
                go_wp2
                go_roundg (20 - (j + 1))
                case measure => omega
                case rel => exact ⟨j + 1, by omega, by omega, by go_num, ⟨HMT.out false (by simp)⟩, ⟨(below_drew HB2.out).setCell (Nat.le_refl _) _⟩⟩
              | true =>
               go_wp2
               go_region
               all_goals
                go_wp2
                go_roundg (20 - (j + 1))
                case measure => omega
                case rel => exact ⟨j + 1, by omega, by omega, by go_num, ⟨HMT.out true (by simp)⟩, ⟨(below_drew HB2.out).setCell (Nat.le_refl _) _⟩⟩
           ·have hj20z : ¬ (j : Int) < 20 := by omega
            have hje : j = 20 := by omega
            have HM2 : Aside0 (Mat wr 115 g (stage (arrow l0) k (i + 1) 0)) := ⟨HM.out.congr (fun a b _ hb => by
             unfold stage
             by_cases h : a < i ∨ (a = i ∧ b < j)
             ·rw [if_pos h, if_pos (by omega)]
             ·rw [if_neg h, if_neg (by omega)])⟩
            go_wp2
            go_roundg (20 - (i + 1))
            case measure => omega
            case rel => exact ⟨i + 1, by omega, by omega, by go_num, HM2, HB2⟩
         ·have hi20z : ¬ (i : Int) < 20 := by omega
          have HM2 : Aside0 (Mat wr 115 g (matD (arrow l0) (k + 1))) := ⟨HM.out.congr (fun a b ha _ => by
           unfold stage
           rw [if_pos (by omega)])⟩
          go_wp2
          go_roundg (20 - (k + 1))
          case measure => omega
          case rel => exact ⟨k + 1, by omega, by omega, by go_num, HM2, HB2⟩
       ·have hk20z : ¬ (k : Int) < 20 := by omega
        have hke : k = 20 := by omega
        subst hke
        go_wp2
        go_loopg [11] 20 (fun gg s11 wr => ∃ i : Nat, i ≤ 20 ∧ 20 - i ≤ gg ∧ s11 = .int .i64 i ∧ Aside0 (Mat wr 115 g (matD (arrow l0) 20)) ∧ Aside0 (Below g w1 wr) ∧ Aside0 (∀ j, j < i → matD (arrow l0) 20 j j = false))
        case atStart => exact ⟨0, by omega, by omega, rfl, HM, HB2, ⟨fun j hj => absurd hj (Nat.not_lt_zero _)⟩⟩
        case round =>
         clear HM HB2
         obtain ⟨i, hi, hgi, rfl, HM, HB2, HA⟩ := hrel
         by_cases hi20 : i < 20
         ·have hi20z : (i : Int) < 20 := by omega
          have m1 := HM.out.cell i i hi20 hi20
          cases hd : matD (arrow l0) 20 i i with
          | true =>
           rw [hd] at m1
           have hz : checkP l0 = false := by
            cases hc : checkP l0 with
            | false => rfl
            | true =>
             have := HCM.out.1 hc i hi20
             rw [hd] at this
             cases this
           go_wp2
           go_ret
           exact ⟨ret_bool hz.symm, HB1.out.trans (HB2.out.mono (by rw [← HG.out]; exact HB1.out.size))⟩
          | false =>
           rw [hd] at m1
           go_wp2
           go_roundg (20 - (i + 1))
           case measure => omega
           case rel =>
            refine ⟨i + 1, by omega, by omega, by go_num, HM, HB2, ⟨fun j hj => ?_⟩⟩
            by_cases e : j = i
            ·subst e; exact hd
            ·exact HA.out j (by omega)
         ·have hi20z : ¬ (i : Int) < 20 := by omega
          have hz : checkP l0 = true := HCM.out.2 (fun j hj => HA.out j (by omega))
          go_wp2
          go_ret
          exact ⟨by first | rfl | exact ret_bool hz.symm, HB1.out.trans (HB2.out.mono (by rw [← HG.out]; exact HB1.out.size))⟩
 ·have h60z : (l0.length : Int) > 60 := by omega
  have hz : checkP l0 = false := by simp [checkP, h60]
  go_enter Tryz.func28, Tryz.ntmps28
  go_wp2
  go_ret
  exact ⟨ret_bool hz.symm, Below.refl _ _⟩
theorem r4_Check.calls (A0 : Option Addr) (c0 : Nat) (l0 : List Rule') (r : Bool) (w : World) (hr0 : Kd.C k56 w A0 l0.length l0) (hc0 : l0.length ≤ c0) (h : r4_Check.f l0 = some r) :
  Calls Tryz.prog 28 #[.slice A0 l0.length c0] w fun e w' => e = .returned (.bool r) ∧ Below w.heap.size w w' := by
 obtain rfl := Option.some.inj h
 exact refCheck_walk A0 c0 l0 w hr0 hc0
end Go.Proofs.YtiocgaekoeekgaaGreat.P
end
section
namespace Go.Proofs.YtiocgaekoeekgaaGreat.P
open Go.RowKit Go.Proofs.YtiocgaekoeekgaaGreatW.PrintWords Go.Proofs.YtiocgaekoeekgaaGreatW.PrintLast Go.Proofs.YtiocgaekoeekgaaGreatW.PrintMore
attribute [local go_sem] max2_int min2_int max_two min_two max_three min_three max_four min_four   
set_option linter.unusedVariables false
set_option linter.unusedSimpArgs false
attribute [local go_sem] Oper.semAt_some
def nameB (x : S44) : Bool := x.f1 == -1 && (x.f2 == 0 && (x.f3.isEmpty && (x.f4.isEmpty && (x.f5.isEmpty && decide (x.f0.size ≤ 60)))))
theorem nameB_of {x : S44} (h : nameB x = true) : x.f1 = -1 ∧ x.f2 = 0 ∧ x.f3 = [] ∧ x.f4 = [] ∧ x.f5 = [] ∧ x.f0.size ≤ 60 := by
 unfold nameB at h
 simpa [List.isEmpty_iff] using h
theorem rid_some (s : ByteArray) (hs : s.size ≤ 1000) : ∀ n i m : Nat, i + n = s.size → r5_id.l0 (n + 1 + m) s (i : Int) = some (idFrom s n i) := by
 intro n
 induction n with
 | zero =>
  intro i m hi
  rw [show 0 + 1 + m = m + 1 by omega, r5_id.l0, if_neg (by omega)]
  unfold idFrom withinP
  by_cases h : (s.size : Int) ≥ 1
  ·rw [if_pos h, decide_eq_true (show (1 : Int) ≤ s.size from h), Bool.true_and]
  ·rw [if_neg h, decide_eq_false (show ¬ (1 : Int) ≤ s.size from h), Bool.false_and]
 | succ n ih =>
  intro i m hi
  have h1 : (i : Int) < (s.size : Int) := by omega
  have h2 : (0 : Int) ≤ (i : Int) := by omega
  have hw : wrap64 ((i : Int) + 1) = ((i + 1 : Nat) : Int) := by rw [wrap64]; omega
  have hr := ih (i + 1) m (by omega)
  rw [show n + 1 + 1 + m = (n + 1 + m) + 1 by omega, r5_id.l0, if_pos h1, if_pos h2, hw, hr, idFrom]
  generalize idFrom s n (i + 1) = X
  generalize bt s (i : Int) = c
  by_cases ho : okc c = true
  ·rw [if_pos ho]
   have := okc_true ho
   repeat' split
   all_goals first | rfl | (exfalso; omega)
  ·rw [if_neg ho]
   have := okc_false ho
   repeat' split
   all_goals first | rfl | (exfalso; omega)
theorem rid (s : ByteArray) (hs : s.size ≤ 60) (m : Nat) : r5_id.f (m + 100) s = some (idP s) := by
 have h := rid_some s (by omega) s.size 0 (m + 99 - s.size) (by omega)
 rw [show s.size + 1 + (m + 99 - s.size) = m + 100 by omega] at h
 exact h
theorem own_name (s : ByteArray) (hs : s.size ≤ 60) : r5_own.f 100 s (-1) 0 [] [] [] = some (idP s) := by
 unfold r5_own.f
 rw [rid s hs 0, Option.bind_some]
 cases idP s with
 | true => rfl
 | false => rfl
set_option maxHeartbeats 4000000 in
set_option maxRecDepth 100000 in
theorem at_root (A : Option Addr) (ad : Addr) (c n i : Nat) (f0 : ByteArray) (f1 f2 : Int) (A3 A4 A5 : Option Addr) (n3 c3 n4 c4 n5 c5 : Nat) (w : World) (hA : A = some ad) (hi : i < n) (hp : f1 < 0)
  (h0 : w.cell? (ad.add (i * 6)) = some (.string f0)) (h1 : w.cell? ⟨(ad.add (i * 6)).block, (ad.add (i * 6)).off + 1, none⟩ = some (.int .i64 f1)) (h2 : w.cell? ⟨(ad.add (i * 6)).block, (ad.add (i * 6)).off + 2, none⟩ = some (.int .i64 f2)) (h3 : w.cell? ⟨(ad.add (i * 6)).block, (ad.add (i * 6)).off + 3, none⟩ = some (.slice A3 n3 c3)) (h4 : w.cell? ⟨(ad.add (i * 6)).block, (ad.add (i * 6)).off + 4, none⟩ = some (.slice A4 n4 c4)) (h5 : w.cell? ⟨(ad.add (i * 6)).block, (ad.add (i * 6)).off + 5, none⟩ = some (.slice A5 n5 c5)) :
  Calls Tryz.prog 55 #[.slice A n c, .int .i64 i] w fun e w' => e = .returned (.agg #[.string f0, .int .i64 f1, .int .i64 f2, .slice A3 n3 c3, .slice A4 n4 c4, .slice A5 n5 c5]) ∧ Below w.heap.size w w' := by
 subst hA
 have hil : (i : Int) < (n : Int) := by omega
 have hpd : decide (f1 < 0) = true := decide_eq_true hp
 have hz0 := pw_cell_below (below_alloc (Below.refl w.heap.size w) (.cells #[.string ⟨#[]⟩, .int .i64 0, .int .i64 0, .slice none 0 0, .slice none 0 0, .slice none 0 0] 44)) h0
 have hz1 := pw_cell_below (below_alloc (Below.refl w.heap.size w) (.cells #[.string ⟨#[]⟩, .int .i64 0, .int .i64 0, .slice none 0 0, .slice none 0 0, .slice none 0 0] 44)) h1
 have hz2 := pw_cell_below (below_alloc (Below.refl w.heap.size w) (.cells #[.string ⟨#[]⟩, .int .i64 0, .int .i64 0, .slice none 0 0, .slice none 0 0, .slice none 0 0] 44)) h2
 have hz3 := pw_cell_below (below_alloc (Below.refl w.heap.size w) (.cells #[.string ⟨#[]⟩, .int .i64 0, .int .i64 0, .slice none 0 0, .slice none 0 0, .slice none 0 0] 44)) h3
 have hz4 := pw_cell_below (below_alloc (Below.refl w.heap.size w) (.cells #[.string ⟨#[]⟩, .int .i64 0, .int .i64 0, .slice none 0 0, .slice none 0 0, .slice none 0 0] 44)) h4
 have hz5 := pw_cell_below (below_alloc (Below.refl w.heap.size w) (.cells #[.string ⟨#[]⟩, .int .i64 0, .int .i64 0, .slice none 0 0, .slice none 0 0, .slice none 0 0] 44)) h5
 have hu1 := Tryz.underlying44
 clear h0 h1 h2 h3 h4 h5 hp
 go_enter Tryz.func55, Tryz.ntmps55
 go_wp2
 refine bodyPost_ret (results_cell_row rfl _ _ w.heap.size 44 #[.string f0, .int .i64 f1, .int .i64 f2, .slice A3 n3 c3, .slice A4 n4 c4, .slice A5 n5 c5] (0, 0) _ rfl (blk_below (blk_new w _) (below_alloc (Below.refl _ _) _)) Tryz.underlying44 rfl (by kernel_rfl)) rfl ?_
 exact ⟨rfl, below_alloc (below_alloc (Below.refl _ _) _) _⟩
def nmF (l : List S44) : Nat → Nat → Bool
 | 0, _ => true
 | n + 1, i => if idP (rd_T44 l (i : Int)).f0 = true then (if ((l.take i).any fun y => y.f0.toList == (rd_T44 l (i : Int)).f0.toList) = true then false else nmF l n (i + 1)) else false
set_option maxHeartbeats 16000000 in
set_option maxRecDepth 100000 in
theorem refright_w (A : Option Addr) (c : Nat) (l : List S44) (w : World) (hr : Kd.C k44 w A l.length l) (hc : l.length ≤ c) (hn : ∀ x ∈ l, nameB x = true) (hl : l.length ≤ 10) :
  Calls Tryz.prog 22 #[.slice A l.length c] w fun e w' => e = .returned (.bool (nmF l l.length 0)) ∧ Below w.heap.size w w' := by
 have HR := Aside0.mk hr
 have HC := Aside0.mk hc
 have HN := Aside0.mk hn
 have hbz : decide ((10 : Int) < (l.length : Int)) = false := decide_eq_false (by omega)
 have hbz' : decide (10 < l.length) = false := decide_eq_false (by omega)
 obtain ⟨r, hre⟩ : ∃ r, r = nmF l l.length 0 := ⟨_, rfl⟩
 rw [← hre]
 have HE : Aside0 (r = nmF l (l.length - 0) 0) := ⟨hre⟩
 have hu1 := Tryz.underlying44
 clear hre
 clear hr hc hn
 go_enter Tryz.func22, Tryz.ntmps22
 go_wp2
 go_loopg [3] l.length (fun gg s3 wr => ∃ i : Nat, i ≤ l.length ∧ l.length - i ≤ gg ∧ s3 = .int .i64 i ∧ Aside0 (r = nmF l (l.length - i) i) ∧ Aside0 (Below w.heap.size w wr))
 case atStart => exact ⟨0, by omega, by omega, rfl, HE, ⟨Below.refl _ _⟩⟩
 case round =>
  clear HE
  obtain ⟨i, hi, hgg, rfl, HE, HW⟩ := hrel
  by_cases hil : i < l.length
  ·have hilz : (i : Int) < (l.length : Int) := by omega
   obtain ⟨ad, A3, c3, A4, c4, A5, c5, hA, h0, h1, h2, h3, h4, h5, l3, g3, l4, g4, l5, g5⟩ := at_T44 HR.out (i : Int) (by omega) hilz
   rw [Int.toNat_natCast] at h0 h1 h2 h3 h4 h5
   have hy : rd_T44 l (i : Int) = l[i] := by
    show l.getD (i : Int).toNat _ = _
    rw [Int.toNat_natCast, List.getD_eq_getElem?_getD, List.getElem?_eq_getElem hil]
    rfl
   have hnm := nameB_of (by rw [hy]; exact HN.out _ (List.getElem_mem hil) : nameB (rd_T44 l (i : Int)) = true)
   have HE1 : Aside0 (r = if idP (rd_T44 l (i : Int)).f0 = true then (if ((l.take i).any fun y => y.f0.toList == (rd_T44 l (i : Int)).f0.toList) = true then false else nmF l (l.length - (i + 1)) (i + 1)) else false) := ⟨by rw [HE.out, show l.length - i = (l.length - (i + 1)) + 1 from by omega, nmF]⟩
   obtain ⟨e1, e2, e3, e4, e5, e6⟩ := hnm
   rw [e1] at h1
   rw [e2] at h2
   rw [e3] at h3
   rw [e4] at h4
   rw [e5] at h5
   generalize (rd_T44 l (i : Int)).f0 = s at *
   have H0 := Aside0.mk h0
   have H1 := Aside0.mk h1
   have H2 := Aside0.mk h2
   have H3 : Aside0 (w.cell? ⟨(ad.add (i * 6)).block, (ad.add (i * 6)).off + 3, none⟩ = some (.slice A3 0 c3)) := ⟨h3⟩
   have H4 : Aside0 (w.cell? ⟨(ad.add (i * 6)).block, (ad.add (i * 6)).off + 4, none⟩ = some (.slice A4 0 c4)) := ⟨h4⟩
   have H5 : Aside0 (w.cell? ⟨(ad.add (i * 6)).block, (ad.add (i * 6)).off + 5, none⟩ = some (.slice A5 0 c5)) := ⟨h5⟩
   have z0 := pw_cell_below HW.out H0.out
   have z1 := pw_cell_below HW.out H1.out
   have z2 := pw_cell_below HW.out H2.out
   have z3 := pw_cell_below HW.out H3.out
   have z4 := pw_cell_below HW.out H4.out
   have z5 := pw_cell_below HW.out H5.out
   have G4 : Aside0 (∀ W, Kd.C k56 W A4 ([] : List S56).length []) := ⟨fun W => ⟨rfl, by simp, fun h => absurd h (by simp)⟩⟩
   have HOW : Aside0 (∀ W, Calls Tryz.prog 53 #[.agg #[.string s, .int .i64 (-1), .int .i64 0, .slice A3 0 c3, .slice A4 0 c4, .slice A5 0 c5]] W fun e w' => e = .returned (.bool (idP s)) ∧ Below W.heap.size W w') := ⟨fun W => r5_own.calls 100 s (-1) 0 A3 c3 [] A4 c4 [] A5 c5 [] _ W ⟨rfl, by simp, fun h => absurd h (by simp)⟩ (Nat.zero_le _) ⟨rfl, by simp, fun h => absurd h (by simp)⟩ (Nat.zero_le _) ⟨rfl, by simp, fun h => absurd h (by simp)⟩ (Nat.zero_le _) (own_name s e6)⟩
   have hwi : wrap64 ((i : Int) - 1) = (i : Int) - 1 := by rw [wrap64]; omega
   have HIN : Aside0 (∀ W, Calls Tryz.prog 54 #[.int .i64 (-1), .int .i64 (-1), .int .i64 ((i : Int) - 1)] W fun e w' => e = .returned (.bool true) ∧ Below W.heap.size W w') := ⟨fun W => Calls.mono (r5_in.calls (-1) (-1) ((i : Int) - 1) true W (by unfold r5_in.f; rw [if_pos (by omega), decide_eq_true (by omega)])) (by rintro e w' ⟨rfl, hd⟩; exact ⟨rfl, hd.below⟩)⟩
   have HAT : Aside0 (∀ W, Below w.heap.size w W → Calls Tryz.prog 55 #[.slice A l.length c, .int .i64 i] W fun e w' => e = .returned (.agg #[.string s, .int .i64 (-1), .int .i64 0, .slice A3 0 c3, .slice A4 0 c4, .slice A5 0 c5]) ∧ Below W.heap.size W w') := ⟨fun W hB => at_root A ad c l.length i s (-1) 0 A3 A4 A5 0 c3 0 c4 0 c5 W hA hil (by omega) (pw_cell_below hB H0.out) (pw_cell_below hB H1.out) (pw_cell_below hB H2.out) (pw_cell_below hB H3.out) (pw_cell_below hB H4.out) (pw_cell_below hB H5.out)⟩
   have HCK : Aside0 (∀ W, Calls Tryz.prog 28 #[.slice A4 0 c4] W fun e w' => e = .returned (.bool true) ∧ Below W.heap.size W w') := ⟨fun W => r4_Check.calls A4 c4 [] true W (G4.out W) (Nat.zero_le _) (congrArg some check_nil5)⟩
   have hfld : ∀ W : World, (Instr.field 44 (.agg #[.string s, .int .i64 (-1), .int .i64 0, .slice A3 0 c3, .slice A4 0 c4, .slice A5 0 c5]) 4).run Tryz.prog W = .ok (.slice A4 0 c4) W := fun W => by kernel_rfl
   subst hA
   clear hy HE e1 e2 e3 e4 e5 e6 h0 h1 h2 h3 h4 h5 l3 g3 l4 g4 l5 g5 G4
   go_wp2_with fail
   refine (HOW.out _).mono ?_
   rintro e w1 ⟨rfl, hB1⟩
   have HB1 : Aside0 (Below w.heap.size w w1) := ⟨below_step HW.out hB1⟩
   have z1 := pw_cell_below HB1.out H1.out
   clear hB1 HOW HW
   cases hid : idP s with
   | false =>
    have HG : Aside0 (r = false) := ⟨by rw [HE1.out, hid]; rfl⟩
    clear hid HE1
    go_wp2
    go_ret
    rw [HG.out]
    exact ⟨rfl, HB1.out⟩
   | true =>
    have HE2 : Aside0 (r = if ((l.take i).any fun y => y.f0.toList == s.toList) = true then false else nmF l (l.length - (i + 1)) (i + 1)) := ⟨by rw [HE1.out, hid]; rfl⟩
    clear hid HE1
    go_wp2_with fail
    refine (HIN.out _).mono ?_
    rintro e w2 ⟨rfl, hB2⟩
    have HB2 : Aside0 (Below w.heap.size w w2) := ⟨below_step HB1.out hB2⟩
    have HJ0 : Aside0 (((l.take 0).any fun y => y.f0.toList == s.toList) = false) := ⟨rfl⟩
    clear hB2 HIN HB1 z1
    go_wp2_with fail
    go_loopg [4] i (fun gg s4 wq => ∃ j : Nat, j ≤ i ∧ i - j ≤ gg ∧ s4 = .int .i64 j ∧ Aside0 (((l.take j).any fun y => y.f0.toList == s.toList) = false) ∧ Aside0 (Below w.heap.size w wq))
    case atStart => exact ⟨0, by omega, by omega, rfl, HJ0, HB2⟩
    case round =>
     clear HJ0 HB2
     obtain ⟨j, hj, hgj, rfl, HJ, HQ⟩ := hrel
     by_cases hji : j < i
     ·have hjiz : (j : Int) < (i : Int) := by omega
      have hjl : j < l.length := by omega
      have hjlz : (j : Int) < (l.length : Int) := by omega
      obtain ⟨ad', B3, d3, B4, d4, B5, d5, hA', k0, k1, k2, k3, k4, k5, l3, g3, l4, g4, l5, g5⟩ := at_T44 HR.out (j : Int) (by omega) hjlz
      injection hA' with hA'
      subst hA'
      rw [Int.toNat_natCast] at k0
      have hyj : rd_T44 l (j : Int) = l[j] := by
       show l.getD (j : Int).toNat _ = _
       rw [Int.toNat_natCast, List.getD_eq_getElem?_getD, List.getElem?_eq_getElem hjl]
       rfl
      have HT : Aside0 (((l.take (j + 1)).any fun y => y.f0.toList == s.toList) = ((rd_T44 l (j : Int)).f0.toList == s.toList)) := ⟨by rw [List.take_succ_eq_append_getElem hjl, List.any_append, HJ.out, hyj]; simp⟩
      generalize (rd_T44 l (j : Int)).f0 = sj at *
      have q0 := pw_cell_below HQ.out k0
      have q1 := pw_cell_below HQ.out H0.out
      clear hyj k0 k1 k2 k3 k4 k5 l3 g3 l4 g4 l5 g5 HJ
      cases heq : (sj.toList == s.toList) with
      | true =>
       have HG : Aside0 (r = false) := ⟨by
        have hany : ((l.take i).any fun y => y.f0.toList == s.toList) = true := by
         have h1 : ((l.take (j + 1)).any fun y => y.f0.toList == s.toList) = true := by rw [HT.out, heq]
         have h2 : l.take i = l.take (j + 1) ++ ((l.take i).drop (j + 1)) := by
          rw [show l.take (j + 1) = (l.take i).take (j + 1) by rw [List.take_take]; congr 1; omega, List.take_append_drop]
         rw [h2, List.any_append, h1, Bool.true_or]
        rw [HE2.out, hany]
        rfl⟩
       clear HE2 HT
       go_wp2
       go_quiet (fail)
       go_wp2
       go_ret
       rw [HG.out]
       exact ⟨rfl, below_step HQ.out (pw_below_drewN (Below.refl _ _) _)⟩
      | false =>
       have HJ1 : Aside0 (((l.take (j + 1)).any fun y => y.f0.toList == s.toList) = false) := ⟨by rw [HT.out, heq]⟩
       clear HT
       go_wp2
       go_quiet (fail)
       have HQ1 : Aside0 (Below w.heap.size w (wr.drewN nq)) := ⟨below_step HQ.out (pw_below_drewN (Below.refl _ _) _)⟩
       go_wp2
       go_roundg (i - (j + 1))
       case measure => omega
       case rel => exact ⟨j + 1, by omega, by omega, by go_num, HJ1, HQ1⟩
     ·have he : j = i := by omega
      have hjiz : decide ((j : Int) < (i : Int)) = false := by simp; omega
      have hjiz' : decide (j < i) = false := by simp; omega
      have HG : Aside0 (r = nmF l (l.length - (i + 1)) (i + 1)) := ⟨by rw [HE2.out, ← he, HJ.out]; rfl⟩
      clear he HE2 HJ
      go_wp2_with fail
      refine (HAT.out _ HQ.out).mono ?_
      rintro e w3 ⟨rfl, hB3⟩
      have HB3 : Aside0 (Below w.heap.size w w3) := ⟨below_step HQ.out hB3⟩
      clear hB3 HAT HQ
      go_wp2_with fail
      refine (HCK.out _).mono ?_
      rintro e w4 ⟨rfl, hB4⟩
      have HB4 : Aside0 (Below w.heap.size w w4) := ⟨below_step HB3.out hB4⟩
      clear hB4 HCK HB3
      go_wp2
      go_roundg (l.length - (i + 1))
      case measure => omega
      case rel => exact ⟨i + 1, by omega, by omega, by go_num, HG, HB4⟩
  ·have he : i = l.length := by omega
   have hilz : decide ((i : Int) < (l.length : Int)) = false := by simp; omega
   have hilz' : decide (i < l.length) = false := by simp; omega
   have HG : Aside0 (r = true) := ⟨by rw [HE.out, he, Nat.sub_self]; rfl⟩
   clear he HE
   go_wp2
   go_ret
   rw [HG.out]
   exact ⟨rfl, HW.out⟩
theorem nmF_eq {l : List S44} (hn : ∀ x ∈ l, nameB x = true) : ∀ n i : Nat, i + n = l.length → nmF l n i = rightPlF l n i
 | 0, _, _ => rfl
 | n + 1, i, h => by
  have hil : i < l.length := by omega
  have hy : rd_T44 l (i : Int) = l[i] := by
   show l.getD (i : Int).toNat _ = _
   rw [Int.toNat_natCast, List.getD_eq_getElem?_getD, List.getElem?_eq_getElem hil]
   rfl
  obtain ⟨e1, e2, e3, e4, e5, e6⟩ := nameB_of (by rw [hy]; exact hn _ (List.getElem_mem hil) : nameB (rd_T44 l (i : Int)) = true)
  have hw : withinP (-1) (-1) ((i : Int) - 1) = true := by
   unfold withinP
   rw [decide_eq_true (by omega), decide_eq_true (by omega)]
   rfl
  have hl : locPl l i (rd_T44 l (i : Int)) = (idP (rd_T44 l (i : Int)).f0 && !((l.take i).any fun y => y.f0.toList == (rd_T44 l (i : Int)).f0.toList)) := by
   unfold locPl
   rw [e1, e2, e3, e4, e5, hw]
   simp [withinP]
  rw [nmF, rightPlF, hl, nmF_eq hn n (i + 1) (by omega)]
  cases idP (rd_T44 l (i : Int)).f0 <;> cases ((l.take i).any fun y => y.f0.toList == (rd_T44 l (i : Int)).f0.toList) <;> rfl
def namesB (l : List S44) : Bool := l.all nameB && decide (l.length ≤ 10)
noncomputable def r5_Right.f (l0 : List S44) : Option Bool := if namesB l0 = true then some (rightPl l0) else none
theorem r5_Right.calls (A0 : Option Addr) (c0 : Nat) (l0 : List S44) (r : Bool) (w : World) (hr0 : Kd.C k44 w A0 l0.length l0) (hc0 : l0.length ≤ c0) (h : r5_Right.f l0 = some r) :
  Calls Tryz.prog 22 #[.slice A0 l0.length c0] w fun e w' => e = .returned (.bool r) ∧ Below w.heap.size w w' := by
 unfold r5_Right.f at h
 by_cases ho : namesB l0 = true
 ·rw [if_pos ho] at h
  obtain rfl := Option.some.inj h
  unfold namesB at ho
  simp only [Bool.and_eq_true, decide_eq_true_eq] at ho
  have hn : ∀ x ∈ l0, nameB x = true := fun x hx => List.all_eq_true.1 ho.1 x hx
  have hw := refright_w A0 c0 l0 w hr0 hc0 hn ho.2
  have he : rightPl l0 = nmF l0 l0.length 0 := by
   unfold rightPl
   rw [if_neg (by omega), nmF_eq hn _ _ (by omega)]
  rw [he]
  exact hw
 ·rw [if_neg ho] at h
  cases h
end Go.Proofs.YtiocgaekoeekgaaGreat.P
end
section
namespace Go.Proofs.YtiocgaekoeekgaaGreat.P
open Go.RowKit Go.Proofs.YtiocgaekoeekgaaGreatW.PrintWords Go.Proofs.YtiocgaekoeekgaaGreatW.PrintLast Go.Proofs.YtiocgaekoeekgaaGreatW.PrintMore
attribute [local go_sem] max2_int min2_int max_two min_two max_three min_three max_four min_four   
set_option linter.unusedVariables false
set_option linter.unusedSimpArgs false
noncomputable def r5_num.l0 : Nat → List Int → Int → Int → Option (List Int)
 | 0, _, _, _ => none
 | k + 1, x0, x1, x5 => if x5 < 8 then (if 0 ≤ (IntKind.u64.wrap (wrap64 (56 - (wrap64 (8 * x5))))) then (if x0.length < 140737488355328 then (r5_num.l0 k (x0 ++ [(shr .i64 x1 (IntKind.u64.wrap (wrap64 (56 - (wrap64 (8 * x5)))))) % 256]) x1 (wrap64 (x5 + 1))) else (none)) else (none)) else (some x0)
noncomputable def r5_num.f (k : Nat) (l0 : List Int) (a1 : Int) : Option (List Int) := r5_num.l0 k l0 a1 0
theorem r5_num.mono_l : ∀ k, (∀ y0 y1 y2, LeO (r5_num.l0 k y0 y1 y2) (r5_num.l0 (k + 1) y0 y1 y2))
 | 0 => fun _ _ _ r h => by simp [r5_num.l0] at h
 | k + 1 => by
  have ih0 := r5_num.mono_l k
  ·intro y0 y1 y2
   unfold r5_num.l0
   repeat' first
   | (with_reducible exact ih0 _ _ _)
   | (with_reducible exact LeO.refl _)
   | (with_reducible exact LeO.none _)
   | (with_reducible refine LeO.ite ?_ ?_)
   | (with_reducible refine LeO.bind ?_ (fun _ => ?_))
   | exact ih0 _ _ _
   | exact LeO.none _
   | refine LeO.ite ?_ ?_
   | refine LeO.bind ?_ (fun _ => ?_)
theorem r5_num.mono : ∀ a0 a1 k, LeO (r5_num.f k a0 a1) (r5_num.f (k + 1) a0 a1) := by
 intro a0 a1 k
 have ih0 := r5_num.mono_l k
 unfold r5_num.f
 repeat' first
   | (with_reducible exact ih0 _ _ _)
   | (with_reducible exact LeO.refl _)
   | (with_reducible exact LeO.none _)
   | (with_reducible refine LeO.ite ?_ ?_)
   | (with_reducible refine LeO.bind ?_ (fun _ => ?_))
   | exact ih0 _ _ _
   | exact LeO.none _
   | refine LeO.ite ?_ ?_
   | refine LeO.bind ?_ (fun _ => ?_)
set_option maxHeartbeats 8000000 in
set_option maxRecDepth 100000 in
theorem r5_num.calls (k : Nat) (P0_ : Nat → Prop) (u9000_ : Value) (l0 : List Int) (a1 : Int) (r : List Int) (w0 w : World) (hB : Below w0.heap.size w0 w) (ho0 : Kd.R (Kd.int .u8) 5 w w0.heap.size P0_ u9000_ l0) (h : r5_num.f k l0 a1 = some r) :
  Calls Tryz.prog 49 #[u9000_, .int .i64 a1] w fun e w' => ∃ v0_ : Value, e = .returned (v0_) ∧ Kd.R (Kd.int .u8) 5 w' w0.heap.size (fun k_ => (P0_ k_ ∨ w.heap.size ≤ k_)) v0_ r ∧ Below w0.heap.size w0 w' ∧ Kept w w' (fun k_ => P0_ k_) := by
 have HO0 := Aside0.mk (show Kd.R (Kd.int .u8) 5 w w0.heap.size (fun k_ => (P0_ k_ ∨ w.heap.size ≤ k_)) u9000_ l0 from Kd.R_mono ho0 (fun k_ hk => (.inl hk)))
 have HK := Aside0.mk (Kept.refl w (fun k_ => P0_ k_))
 have HW0 := Aside0.mk hB.size
 have HB := Aside0.mk hB
 clear hB
 have H : (r5_num.l0 k l0 a1 0) = some r := h
 clear h
 have H' := Aside0.mk H
 clear H
 go_enter Tryz.func49, Tryz.ntmps49
 go_wp2
 go_loopg [0, 5] k (fun kq v0 v5 w' => ∃ (x0_1 : List Int) (x5_1 : Int), v5 = .int .i64 x5_1 ∧ Aside0 (r5_num.l0 kq x0_1 a1 x5_1 = some r) ∧ Aside0 (kq ≤ k) ∧ Aside0 (Kd.R (Kd.int .u8) 5 w' w0.heap.size (fun k_ => (P0_ k_ ∨ w.heap.size ≤ k_)) v0 x0_1) ∧ Aside0 (Kept w w' (fun k_ => P0_ k_)) ∧ Aside0 (Below w0.heap.size w0 w'))
 case atStart => exact ⟨(l0), (0), (by first | rfl | (simp; done) | (simp [*]; done)), H', ⟨Nat.le_refl _⟩, ⟨by (with_reducible repeat (first | apply Kd.R_alloc | apply Kd.R_drewN | apply Kd.R_drew)); exact HO0.out⟩, ⟨by repeat (first | (with_reducible first | exact HK.out | apply Kept.alloc | apply Kept.drewN | apply Kept.drew) | exact HK.out)⟩, ⟨by repeat (first | (with_reducible first | exact HB.out | apply below_alloc | apply pw_below_drewN | apply below_drew1) | exact HB.out)⟩⟩
 case round =>
  clear H'
  try clear p2
  obtain ⟨x0_1, x5_1, rfl, HA, HK1, HO_0, HK, HB⟩ := hrel
  cases gk with
  | zero => exact absurd HA.out (by simp [r5_num.l0])
  | succ k1 =>
   have H := HA.out
   clear HA
   simp only [r5_num.l0] at H
   by_cases c3 : x5_1 < 8
   ·rw [if_pos c3] at H
    have c3b0 : decide (x5_1 < 8) = true := decide_eq_true c3
    clear c3
    obtain ⟨ji4, hji4⟩ : ∃ j_ : Int, (IntKind.u64.wrap (wrap64 (56 - (wrap64 (8 * x5_1))))) = j_ := ⟨_, rfl⟩
    replace H : (if 0 ≤ (ji4) then (if x0_1.length < 140737488355328 then (r5_num.l0 k1 (x0_1 ++ [(shr .i64 a1 (ji4)) % 256]) a1 (wrap64 (x5_1 + 1))) else (none)) else (none)) = some r := by first | (rw [hji4] at H; exact H) | (simp only [hji4] at H ⊢; exact H)
    by_cases c5 : 0 ≤ (ji4)
    ·rw [if_pos c5] at H
     have c5b0 := eq_true c5
     have c5b1 : decide (0 ≤ (ji4)) = true := decide_eq_true c5
     clear c5
     obtain ⟨ji6, hji6⟩ : ∃ j_ : Int, (shr .i64 a1 (ji4)) = j_ := ⟨_, rfl⟩
     replace H : (if x0_1.length < 140737488355328 then (r5_num.l0 k1 (x0_1 ++ [(ji6) % 256]) a1 (wrap64 (x5_1 + 1))) else (none)) = some r := by first | (rw [hji6] at H; exact H) | (simp only [hji6] at H ⊢; exact H)
     have hji6_ : (a1 / 2 ^ min (ji4).toNat 64) = ji6 := hji6
     have hji6z : (ji4) ≤ 64 → (a1 / 2 ^ (ji4).toNat) = ji6 := shr_small hji6
     by_cases c7 : x0_1.length < 140737488355328
     ·rw [if_pos c7] at H
      have LMc7 := Aside0.mk c7
      clear c7
      obtain ⟨y359, hy359⟩ : ∃ y_ : List Int, y_ = (x0_1 ++ [(ji6) % 256]) := ⟨_, rfl⟩
      replace H : (r5_num.l0 k1 y359 a1 (wrap64 (x5_1 + 1))) = some r := by first | (rw [hy359]; with_reducible exact H) | (have H2_ := (Option.bind_some _ _).symm.trans H; rw [hy359]; with_reducible exact H2_) | (have H2_ := (Option.bind_some _ _).symm.trans H; with_reducible exact H2_) | with_reducible exact H | (rw [hy359]; exact H) | exact H
      have Ny359 := Aside0.mk hy359
      clear hy359
      have H' := Aside0.mk H
      clear H
      go_wp2_with (first | ((with_reducible refine gate_builtin (b := .append) (xs := #[.tmp 10, .tmp 18]) rfl ?_); at_builtin; refine Kd.R_append (Kd.int .u8) (w0 := w0) w0.heap.size rfl (.tmp 10) (.tmp 18) 28 5 (.int .u8 0) 1 rfl Tryz.underlying28 info5 rfl (by decide) (by omega) u0 x0_1 ((ji6) % 256) [.int .u8 ((ji6) % 256)] (fun k_ => (P0_ k_ ∨ w.heap.size ≤ k_)) (fun _ => False) rfl rfl ?aP (fun _ hk => hk.elim) ?aF ?aO ?aB ?aS ?aL ?_; (case aP => exact rfl); (case aB => exact (by repeat (first | (with_reducible first | exact HB.out | apply below_alloc | apply pw_below_drewN | apply below_drew1) | exact HB.out))); (case aF => exact (fun k_ hk => (.inr (Nat.le_trans (by first | exact HK.out.1 | exact (show Kept w _ (fun k_ => P0_ k_) from by repeat (first | (with_reducible first | exact HK.out | apply Kept.alloc | apply Kept.drewN | apply Kept.drew) | exact HK.out)).1) hk)))); (case aO => exact (by (with_reducible repeat (first | apply Kd.R_alloc | apply Kd.R_drewN | apply Kd.R_drew)); exact HO_0.out)); (case aS => exact (below_size (by repeat (first | (with_reducible first | exact HB.out | apply below_alloc | apply pw_below_drewN | apply below_drew1) | exact HB.out)))); (case aL => have := LMc7.out; omega); intro v360 w8 ho hb hg hat; rw [← Ny359.out] at ho; have n0_ := Aside0.mk (hb); have n1_ := Aside0.mk (Kept.of_grown (S := (fun k_ => P0_ k_)) hg (by repeat (first | (with_reducible first | exact HK.out | apply Kept.alloc | apply Kept.drewN | apply Kept.drew) | exact HK.out)) (fun k_ e_ => (HO_0.out.1 k_ e_))); have n2_ := Aside0.mk (ho); clear HB; clear HK; clear HO_0; have HB := n0_; have HK := n1_; have HO361 := n2_; clear n0_ n1_ n2_; clear ho hb hg hat))
      go_roundg k1
      case measure => have := HK1.out; omega
      case rel => exact ⟨(y359), (wrap64 (x5_1 + 1)), (by first | rfl | (simp; done) | (simp [*]; done)), H', ⟨by have := HK1.out; omega⟩, ⟨by (with_reducible repeat (first | apply Kd.R_alloc | apply Kd.R_drewN | apply Kd.R_drew)); exact HO361.out⟩, ⟨by repeat (first | (with_reducible first | exact HK.out | apply Kept.alloc | apply Kept.drewN | apply Kept.drew) | exact HK.out)⟩, ⟨by repeat (first | (with_reducible first | exact HB.out | apply below_alloc | apply pw_below_drewN | apply below_drew1) | exact HB.out)⟩⟩
     ·rw [if_neg c7] at H
      exact absurd H (by simp)
    ·rw [if_neg c5] at H
     exact absurd H (by simp)
   ·rw [if_neg c3] at H
    have c3b0 : decide (x5_1 < 8) = false := decide_eq_false c3
    clear c3
    obtain rfl := Option.some.inj H
    go_wp2
    go_ret
    exact ⟨_, by first | rfl | (simp [errW_none, errW_some] <;> rfl) | (simp [*, errW_none, errW_some] <;> rfl), by (with_reducible repeat (first | apply Kd.R_alloc | apply Kd.R_drewN | apply Kd.R_drew)); exact HO_0.out, by repeat (first | (with_reducible first | exact HB.out | apply below_alloc | apply pw_below_drewN | apply below_drew1) | exact HB.out), by repeat (first | (with_reducible first | exact HK.out | apply Kept.alloc | apply Kept.drewN | apply Kept.drew) | exact HK.out)⟩
end Go.Proofs.YtiocgaekoeekgaaGreat.P
end
section
namespace Go.Proofs.YtiocgaekoeekgaaGreat.P
open Go.RowKit Go.Proofs.YtiocgaekoeekgaaGreatW.PrintWords Go.Proofs.YtiocgaekoeekgaaGreatW.PrintLast Go.Proofs.YtiocgaekoeekgaaGreatW.PrintMore
attribute [local go_sem] max2_int min2_int max_two min_two max_three min_three max_four min_four   
set_option linter.unusedVariables false
set_option linter.unusedSimpArgs false
attribute [local go_sem] Oper.semAt_some
structure WrAt (w0 : World) (g : Nat) (bs : List Int) (W : World) : Prop where
 row : ∃ A c, W.heap[g]? = some (.cells #[.slice A bs.length c] 76 (0, 0)) ∧ Kd.R (Kd.int .u8) 5 W w0.heap.size (fun k => k ≠ g) (.slice A bs.length c) bs
 below : Below w0.heap.size w0 W
 ge : w0.heap.size ≤ g
def Kept8 (g : Nat) (W W' : World) : Prop := ∀ k o, W.heap[k]? = some o → k ≠ g → (∀ cs z, o ≠ .cells cs 5 z) → W'.heap[k]? = some o
theorem Kept8.refl (g : Nat) (W : World) : Kept8 g W W := fun _ _ h _ _ => h
theorem Kept8.trans {g : Nat} {W W1 W2 : World} (h1 : Kept8 g W W1) (h2 : Kept8 g W1 W2) : Kept8 g W W2 := fun k o h hk ho => h2 k o (h1 k o h hk ho) hk ho
theorem Kept8.below {g : Nat} {W W1 : World} (hb : Below W.heap.size W W1) : Kept8 g W W1 := fun k o h _ _ => blk_below h hb
theorem Kept8.grown {g : Nat} {W W1 : World} {b : Nat} {ok : Nat → Prop} {v : Value} {bs : List Int} (hR : Kd.R (Kd.int .u8) 5 W b ok v bs) (hg : W.grownBy W1 v.ownBlock) : Kept8 g W W1 := fun k o h _ ho => (hg.block k (blk_lt h) (fun e => by
 obtain ⟨cs, hc⟩ := Kd.R_typed hR k e.symm
 rw [h] at hc
 injection hc with hc
 exact ho cs (0, 0) hc)).trans h
theorem Kept8.set {g : Nat} (W : World) (i : Nat) (v : Value) : Kept8 g W (W.setCell ⟨g, i, none⟩ v) := fun k o h hk _ => (heap_setCell_other W ⟨g, i, none⟩ k v hk).trans h
theorem WrAt.grow {w0 : World} {g : Nat} {bs : List Int} {W W1 : World} (h : WrAt w0 g bs W) (hb : Below W.heap.size W W1) : WrAt w0 g bs W1 := by
 obtain ⟨A, c, h1, h2⟩ := h.row
 exact ⟨⟨A, c, blk_below h1 hb, Kd.R_below h2 hb⟩, below_step h.below hb, h.ge⟩
def byteOf (n k : Int) : Int := IntKind.u8.wrap (n / 2 ^ k.toNat)
def num8 (n : Int) : List Int := (List.range 8).map fun (j : Nat) => byteOf n (56 - 8 * (j : Int))
def nums8 (l : List Int) : List Int := l.flatMap num8
theorem num8_len (n : Int) : (num8 n).length = 8 := by simp [num8]
theorem nums8_len : ∀ l : List Int, (nums8 l).length = 8 * l.length
 | [] => rfl
 | n :: l => by
  show (num8 n ++ nums8 l).length = _
  rw [List.length_append, num8_len, nums8_len l, List.length_cons]
  omega
theorem num8_take (n : Int) (j : Nat) (hj : j < 8) : (num8 n).take (j + 1) = (num8 n).take j ++ [byteOf n (56 - 8 * (j : Int))] := by
 rw [List.take_succ_eq_append_getElem (by rw [num8_len]; exact hj)]
 simp [num8]
theorem nums8_take (l : List Int) (i : Nat) (hi : i < l.length) : nums8 (l.take (i + 1)) = nums8 (l.take i) ++ num8 l[i] := by
 unfold nums8
 rw [List.take_succ_eq_append_getElem hi, List.flatMap_append]
 simp
section
variable {ops : Array Oper} {o : Oper} {a : Act} {Q : Exit → Act → World → Prop} {Kc : Act → World → Prop}
theorem store_blk_step {W : World} (hw : Region.wanted o (yielded ops a.tmps) = true) (hN : o.dst = none) (t : TypeId) (p x : Operand) (ho : o.op = .store t p x) {g i : Nat} {e : TypeId} {cur : Array Value} (u : Value) (haddr : a.eval p = .pointer (some ⟨g, i, none⟩)) (hx : a.eval x = u)
  (hu : u.cells.toList = [u]) (h1 : u.oneCell' = true) (ht : (Tryz.prog.info? t).map (·.size) = some 1) (hblk : W.heap[g]? = some (.cells cur e (0, 0))) (hi : i < cur.size) (h : Kc (a.put none undef) (W.setCell ⟨g, i, none⟩ u)) : if Region.wanted o (yielded ops a.tmps) = true then Oper.wp Tryz.prog o a W Kc Q else Kc (a.put none undef) W := by
 have hrun := run_store_run t u [u] hblk hu ht (P := Tryz.prog) (Nat.succ_le_of_lt hi) (by intro q hq; rw [List.mem_singleton] at hq; rw [hq]; exact h1)
 rw [if_pos hw]
 unfold Oper.wp execOp
 simp only [ho, haddr, hx, Sem.run_bind, Sem.run_pure, Result.andThen_ok, hrun]
 show Kc (a.put o.dst undef) _
 rw [hN]
 exact h
end
set_option maxHeartbeats 4000000 in
set_option maxRecDepth 100000 in
theorem number5_walk (w0 : World) (g : Nat) (bs : List Int) (A1 : Option Addr) (c1 : Nat) (l : List Int) (W : World) (h : WrAt w0 g bs W) (hr1 : ∀ W', Kept8 g W W' → Below w0.heap.size w0 W' → Kd.C (Kd.int .i64) W' A1 l.length l) (hc1 : l.length ≤ c1) (hlen : bs.length + 8 * l.length ≤ 1000000000000) :
  Calls Tryz.prog 74 #[.pointer (some ⟨g, 0, none⟩), .slice A1 l.length c1] W fun e W' => e = .returned (.tuple #[]) ∧ WrAt w0 g (bs ++ nums8 l) W' ∧ Kept8 g W W' := by
 have HR1 := Aside0.mk hr1
 have HH : Aside0 (WrAt w0 g (bs ++ nums8 (l.take 0)) W) := ⟨by rw [List.take_zero]; show WrAt w0 g (bs ++ []) W; rw [List.append_nil]; exact h⟩
 have HK0 := Aside0.mk (Kept8.refl g W)
 clear hr1 h
 go_enter Tryz.func74, Tryz.ntmps74
 go_wp2
 go_loopg [9] l.length (fun gg s9 wr => ∃ i : Nat, i ≤ l.length ∧ l.length - i ≤ gg ∧ s9 = .int .i64 i ∧ Aside0 (WrAt w0 g (bs ++ nums8 (l.take i)) wr) ∧ Aside0 (Kept8 g W wr))
 case atStart => exact ⟨0, by omega, by omega, rfl, HH, HK0⟩
 case round =>
  clear HH HK0
  obtain ⟨i, hi, hgg, rfl, HW, HK⟩ := hrel
  by_cases hil : i < l.length
  ·have hilz : (i : Int) < (l.length : Int) := by omega
   obtain ⟨ad1, hA1, hcv⟩ := Kd.at_int (HR1.out wr HK.out HW.out.below) (i : Int) (by omega) hilz
   subst hA1
   rw [Int.toNat_natCast] at hcv
   have hn : rd l (i : Int) = l[i] := by
    show l.getD (i : Int).toNat 0 = _
    rw [Int.toNat_natCast, List.getD_eq_getElem?_getD, List.getElem?_eq_getElem hil]
    rfl
   have HSN := Aside0.mk (nums8_take l i hil)
   rw [← hn] at HSN
   have hl0 : (bs ++ nums8 (l.take i)).length = bs.length + 8 * i := by rw [List.length_append, nums8_len, List.length_take, Nat.min_eq_left hi]
   generalize rd l (i : Int) = n at *
   have HL0 := Aside0.mk hl0
   obtain ⟨B, hB⟩ : ∃ B, B = bs ++ nums8 (l.take i) := ⟨_, rfl⟩
   rw [← hB] at HW HL0
   have HBB := Aside0.mk hB
   have HW0 : Aside0 (WrAt w0 g (B ++ (num8 n).take 0) wr) := ⟨by rw [List.take_zero, List.append_nil]; exact HW.out⟩
   clear hn hl0 hB HW
   go_wp2
   clear hcv
   go_loopg [6] 8 (fun gg2 s6 wr => ∃ j : Nat, j ≤ 8 ∧ 8 - j ≤ gg2 ∧ s6 = .int .i64 (56 - 8 * (j : Int)) ∧ Aside0 (WrAt w0 g (B ++ (num8 n).take j) wr) ∧ Aside0 (Kept8 g W wr))
   case atStart => exact ⟨0, by omega, by omega, rfl, HW0, HK⟩
   case round =>
    clear HW0 HK
    obtain ⟨j, hj, hgg2, rfl, HW, HK⟩ := hrel
    by_cases hjl : j < 8
    ·have HSJ := Aside0.mk (num8_take n j hjl)
     have hlb : (B ++ (num8 n).take j).length = bs.length + 8 * i + j := by rw [List.length_append, HL0.out, List.length_take, num8_len]; omega
     obtain ⟨D, hD⟩ : ∃ D, D = B ++ (num8 n).take j := ⟨_, rfl⟩
     rw [← hD] at HW hlb
     have HDD := Aside0.mk hD
     have hbl : (D.length + 1) * 1 ≤ 140737488355328 := by omega
     have HGE := Aside0.mk HW.out.ge
     obtain ⟨A, c, hblk, hrow⟩ := HW.out.row
     have hge : (0 : Int) ≤ 56 - 8 * (j : Int) := by omega
     have r0 : wr.drew.cell? ⟨g, 0, none⟩ = some (.slice A D.length c) := blk_cell hblk 0
     have HRW : Aside0 (Kd.R (Kd.int .u8) 5 wr.drew w0.heap.size (fun k => k ≠ g) (.slice A D.length c) D) := ⟨Kd.R_drew hrow⟩
     have HBW : Aside0 (Below w0.heap.size w0 wr.drew) := ⟨below_drew1 HW.out.below⟩
     have HGL : Aside0 (g < wr.drew.heap.size) := ⟨blk_lt hblk⟩
     have HKW : Aside0 (Kept8 g W wr.drew) := ⟨HK.out.trans (Kept8.below (below_drew1 (Below.refl _ _)))⟩
     have HBK : Aside0 (wr.drew.heap[g]? = some (.cells #[.slice A D.length c] 76 (0, 0))) := ⟨hblk⟩
     clear hD HW HK hblk hrow hlb
     go_wp2
     refine start_ (n := 14) (S := fun w' => w'.cell? ⟨g, 0, none⟩ = some (.slice A D.length c) ∧ w'.cell? ⟨g, 0, none⟩ = some (.slice A D.length c)) (ds := [13]) (f_ 14 0) (by kernel_rfl) rfl rfl ⟨r0, r0⟩ (fun hHeld => ?_)
     clear r0
     generalize wr.drew = W5 at *
     refine pure_ (i := 0) (N := some 17) (v := ?_) (a' := ?_) (f_ 14 1) rfl rfl (by kernel_rfl) (fun _ _ _ h => h) (Or.inl ⟨by rfl, ?_⟩) ?_ ?_
     rotate_left
     ·intro w'
      go_simp
      try with_reducible rfl
     rotate_left
     ·simp only [Act.put, s1_, s2_, s3_, i64_w, i32_w]
      rfl
     refine pure_ (i := 1) (N := some 18) (v := ?_) (a' := ?_) (f_ 14 2) rfl rfl (by kernel_rfl) (fun _ _ _ h => h) (Or.inl ⟨by rfl, ?_⟩) ?_ ?_
     rotate_left
     ·intro w'
      go_simp
      try with_reducible rfl
     rotate_left
     ·simp only [Act.put, s1_, s2_, s3_, i64_w, i32_w]
      rfl
     refine pure_ (i := 2) (N := some 19) (v := ?_) (a' := ?_) (f_ 14 3) rfl rfl (by kernel_rfl) (fun _ _ _ h => h) (Or.inl ⟨by rfl, ?_⟩) ?_ ?_
     rotate_left
     ·intro w'
      go_simp
      try with_reducible rfl
     rotate_left
     ·simp only [Act.put, s1_, s2_, s3_, i64_w, i32_w]
      rfl
     refine pure_ (i := 3) (N := some 20) (v := ?_) (a' := ?_) (f_ 14 4) rfl rfl (by kernel_rfl) (fun _ _ _ h => h) (Or.inl ⟨by rfl, ?_⟩) ?_ ?_
     rotate_left
     ·intro w'
      go_simp
      try with_reducible rfl
     rotate_left
     ·simp only [Act.put, s1_, s2_, s3_, i64_w, i32_w]
      rfl
     refine take_ (i := 4) (N := some 21) (v := ?_) (a' := ?_) (f_ 14 5) rfl rfl (by kernel_rfl) (fun _ _ _ h => h) (Or.inl ⟨by rfl, ?_⟩) hHeld ?_ ?_
     rotate_left
     ·rintro w' ⟨s0, s1⟩
      go_simp
      try with_reducible rfl
     rotate_left
     ·simp only [Act.put, s1_, s2_, s3_, i64_w, i32_w]
      rfl
     refine pure_ (i := 5) (N := some 22) (v := ?_) (a' := ?_) (f_ 14 6) rfl rfl (by kernel_rfl) (fun _ _ _ h => h) (Or.inl ⟨by rfl, ?_⟩) ?_ ?_
     rotate_left
     ·intro w'
      go_simp
      try with_reducible rfl
     rotate_left
     ·simp only [Act.put, s1_, s2_, s3_, i64_w, i32_w]
      rfl
     refine pure_ (i := 6) (N := some 23) (v := ?_) (a' := ?_) (f_ 14 7) rfl rfl (by kernel_rfl) (fun _ _ _ h => h) (Or.inl ⟨by rfl, ?_⟩) ?_ ?_
     rotate_left
     ·intro w'
      go_simp
      try with_reducible rfl
     rotate_left
     ·simp only [Act.put, s1_, s2_, s3_, i64_w, i32_w]
      rfl
     refine pure_ (i := 7) (N := some 24) (v := ?_) (a' := ?_) (f_ 14 8) rfl rfl (by kernel_rfl) (fun _ _ _ h => h) (Or.inl ⟨by rfl, ?_⟩) ?_ ?_
     rotate_left
     ·intro w'
      go_simp
      try with_reducible rfl
     rotate_left
     ·simp only [Act.put, s1_, s2_, s3_, i64_w, i32_w]
      rfl
     refine pure_ (i := 8) (N := some 25) (v := ?_) (a' := ?_) (f_ 14 9) rfl rfl (by kernel_rfl) (fun _ _ _ h => h) (Or.inl ⟨by rfl, ?_⟩) ?_ ?_
     rotate_left
     ·intro w'
      go_simp
      try with_reducible rfl
     rotate_left
     ·simp only [Act.put, s1_, s2_, s3_, i64_w, i32_w]
      rfl
     refine one_ (i := 9) (N := some 26) (f_ 14 10) rfl rfl (by kernel_rfl) (by decide) (fun K hK => ?_)
     refine value_ (w1 := ?_) (v := ?_) (by rfl) rfl ?_ ?_
     rotate_left 2
     ·go_simp
      constructor
      ·rfl
      ·rfl
     refine hK.out _ _ ⟨(World.cell?_alloc_lt _ _ _ (World.block_lt_of_cell? _ _ hHeld.1)).trans hHeld.1, (World.cell?_alloc_lt _ _ _ (World.block_lt_of_cell? _ _ hHeld.1)).trans hHeld.1⟩ (fun hHeld => ?_)
     clear hK K
     refine norm_ (a' := ?_) ?_ ?_
     rotate_left
     ·show Act.put _ (some 26) _ = _
      simp only [Act.put, s1_, s2_, s3_, i64_w, i32_w]
      rfl
     refine one_ (i := 10) (N := some 27) (f_ 14 11) rfl rfl (by kernel_rfl) (by decide) (fun K hK => ?_)
     refine Kd.R_append_step (Kd.int .u8) (w0 := w0) (W := W5) w0.heap.size (by rfl) (.tmp 21) (.tmp 26) 28 5 (.int .u8 0) 1 rfl Tryz.underlying28 info5 rfl (by decide) (by decide) (.slice A D.length c) D (byteOf n (56 - 8 * (j : Int))) [.int .u8 (byteOf n (56 - 8 * (j : Int)))] (fun k => k ≠ g) (fun _ => False) (by rfl) (by rfl) rfl (fun _ hk => hk.elim) (fun k hk => by have := HGL.out; omega) HRW.out HBW.out HBW.out.size hbl (fun v1 w1 hR1 hB1 hg1 _ => ?_)
     obtain ⟨A', c', hv1⟩ := Kd.R_slice hR1
     subst hv1
     have HR1' := Aside0.mk hR1
     have HB1 := Aside0.mk hB1
     have HBK1 := Aside0.mk (blk_grown HBK.out hg1 (fun e => HRW.out.1 _ e.symm rfl))
     have HK1 := Aside0.mk (HKW.out.trans (Kept8.grown HRW.out hg1))
     clear hR1 hB1
     refine hK.out _ _ ⟨blk_cell HBK1.out 0, blk_cell HBK1.out 0⟩ (fun hHeld => ?_)
     clear hg1
     clear hK K
     refine norm_ (a' := ?_) ?_ ?_
     rotate_left
     ·show Act.put _ (some 27) _ = _
      simp only [Act.put, s1_, s2_, s3_, i64_w, i32_w]
      rfl
     refine pure_ (i := 11) (N := some 28) (v := ?_) (a' := ?_) (f_ 14 12) rfl rfl (by kernel_rfl) (fun _ _ _ h => h) (Or.inl ⟨by rfl, ?_⟩) ?_ ?_
     rotate_left
     ·intro w'
      go_simp
      try with_reducible rfl
     rotate_left
     ·simp only [Act.put, s1_, s2_, s3_, i64_w, i32_w]
      rfl
     refine pure_ (i := 12) (N := some 29) (v := ?_) (a' := ?_) (f_ 14 13) rfl rfl (by kernel_rfl) (fun _ _ _ h => h) (Or.inl ⟨by rfl, ?_⟩) ?_ ?_
     rotate_left
     ·intro w'
      go_simp
      try with_reducible rfl
     rotate_left
     ·simp only [Act.put, s1_, s2_, s3_, i64_w, i32_w]
      rfl
     refine last_ (i := 13) (N := none) (f_ 14 14) rfl rfl (by kernel_rfl) (by decide) (fun K hK => ?_)
     refine store_blk_step (by rfl) rfl 28 (.tmp 29) (.tmp 27) rfl (g := g) (i := 0) (.slice A' (D ++ [byteOf n (56 - 8 * (j : Int))]).length c') (by rfl) (by rfl) rfl rfl (by kernel_rfl) HBK1.out (by simp) ?_
     refine hK.out _ _ ?_
     clear hK K
     refine done_ (by kernel_rfl) ?_
     have HW6 : Aside0 (WrAt w0 g (B ++ (num8 n).take (j + 1)) (w1.setCell ⟨g, 0, none⟩ (.slice A' (D ++ [byteOf n (56 - 8 * (j : Int))]).length c'))) := ⟨by
      rw [HSJ.out, ← List.append_assoc, ← HDD.out]
      exact ⟨⟨A', c', by simpa using blk_set HBK1.out 0 (.slice A' (D ++ [byteOf n (56 - 8 * (j : Int))]).length c'), Kd.R_far HR1'.out (p := ⟨g, 0, none⟩) (fun k hk => hk) _⟩, HB1.out.setCell (p := ⟨g, 0, none⟩) HGE.out _, HGE.out⟩⟩
     have HK6 : Aside0 (Kept8 g W (w1.setCell ⟨g, 0, none⟩ (.slice A' (D ++ [byteOf n (56 - 8 * (j : Int))]).length c'))) := ⟨HK1.out.trans (Kept8.set w1 0 _)⟩
     generalize w1.setCell ⟨g, 0, none⟩ (.slice A' (D ++ [byteOf n (56 - 8 * (j : Int))]).length c') = W7 at *
     go_wp2
     go_roundg (8 - (j + 1))
     case measure => omega
     case rel => exact ⟨j + 1, by omega, by omega, by go_num, HW6, HK6⟩
    ·have he : j = 8 := by omega
     have hge : decide ((0 : Int) ≤ 56 - 8 * (j : Int)) = false := by simp; omega
     have hge2 : ¬ 8 * (j : Int) ≤ 56 := by omega
     have HW6 : Aside0 (WrAt w0 g (bs ++ nums8 (l.take (i + 1))) wr) := ⟨by
      have h9 := HW.out
      rw [he, List.take_of_length_le (by rw [num8_len]; exact Nat.le_refl _), HBB.out, List.append_assoc, ← HSN.out] at h9
      exact h9⟩
     clear he
     go_wp2
     go_roundg (l.length - (i + 1))
     case measure => omega
     case rel => exact ⟨i + 1, by omega, by omega, by go_num, HW6, HK⟩
  ·have he : i = l.length := by omega
   have hilz : decide ((i : Int) < (l.length : Int)) = false := by simp; omega
   rw [he, List.take_length] at HW
   clear he
   go_wp2
   go_end0
   exact ⟨rfl, HW.out, HK.out⟩
end Go.Proofs.YtiocgaekoeekgaaGreat.P
end
section
namespace Go.Proofs.YtiocgaekoeekgaaGreat.P
open Go.RowKit Go.Proofs.YtiocgaekoeekgaaGreatW.PrintWords Go.Proofs.YtiocgaekoeekgaaGreatW.PrintLast Go.Proofs.YtiocgaekoeekgaaGreatW.PrintMore
attribute [local go_sem] max2_int min2_int max_two min_two max_three min_three max_four min_four   
set_option linter.unusedVariables false
set_option linter.unusedSimpArgs false
attribute [local go_sem] Oper.semAt_some
theorem lit8_R {W : World} {base a : Nat} {xs : List Int} {ok : Nat → Prop} (h : W.heap[a]? = some (.cells (xs.map (Value.int .i64)).toArray 3 (0, 0))) (hb : base ≤ a) (hn : xs.length ≤ 1000000) (hok : ok a) : Kd.R (Kd.int .i64) 3 W base ok (.slice (some ⟨a, 0, none⟩) xs.length xs.length) xs := by
 have h1 : W.ownsRow base 3 1 (.slice (some ⟨a, 0, none⟩) xs.length xs.length) xs.length (xs.map (Value.int .i64)) :=
  ⟨by simp, .inr ⟨a, xs.length, _, rfl, hb, h, Nat.le_refl _, by simp [maxLen]; omega, by simp, by rw [List.take_of_length_le (by simp)]⟩⟩
 exact Kd.R_of_own (enc := Value.int .i64) (h1 := fun _ => rfl) (xs := xs) h1 (fun k hk => by
  have hk2 : a = k := by simpa [Value.ownBlock] using hk
  exact hk2 ▸ hok)
theorem number_lit (w0 : World) (g : Nat) (bs : List Int) (xs : List Int) (W : World) (h : WrAt w0 g bs W) (hx : xs.length ≤ 1000) (hlen : bs.length + 8 * xs.length ≤ 1000000000000) :
  Calls Tryz.prog 74 #[.pointer (some ⟨g, 0, none⟩), .slice (some ⟨W.heap.size, 0, none⟩) xs.length xs.length] (W.alloc (.cells (xs.map (Value.int .i64)).toArray 3)) fun e W' => e = .returned (.tuple #[]) ∧ WrAt w0 g (bs ++ nums8 xs) W' ∧ Kept8 g W W' := by
 obtain ⟨A, c, hb, _⟩ := h.row
 have hlt := blk_lt hb
 refine (number5_walk w0 g bs (some ⟨W.heap.size, 0, none⟩) xs.length xs _ (h.grow (below_alloc (Below.refl _ _) _)) (fun W' hk _ => ?_) (Nat.le_refl _) hlen).mono ?_
 ·have h1 := hk W.heap.size _ (blk_new W _) (by omega) (fun cs z e => by injection e with _ e; exact absurd e (by decide))
  exact (Kd.R_reads' (lit8_R (base := 0) (ok := fun _ => True) h1 (Nat.zero_le _) (by omega) trivial)).2.2
 ·rintro e W' ⟨rfl, h1, h2⟩
  exact ⟨rfl, h1, (Kept8.below (below_alloc (Below.refl _ _) _)).trans h2⟩
def txt8 (s : ByteArray) : List Int := nums8 [(s.size : Int)] ++ bytesOf s
theorem txt8_len (s : ByteArray) : (txt8 s).length = 8 + s.size := by
 unfold txt8
 rw [List.length_append, nums8_len, bytesOf_length]
 rfl
set_option maxHeartbeats 4000000 in
set_option maxRecDepth 100000 in
theorem text5_walk (w0 : World) (g : Nat) (bs : List Int) (s : ByteArray) (W : World) (h : WrAt w0 g bs W) (hlen : bs.length + (8 + s.size) ≤ 1000000000000) :
  Calls Tryz.prog 75 #[.pointer (some ⟨g, 0, none⟩), .string s] W fun e W' => e = .returned (.tuple #[]) ∧ WrAt w0 g (bs ++ txt8 s) W' ∧ Kept8 g W W' := by
 have hnum := number_lit w0 g bs [(s.size : Int)] W h (by simp) (by simp; omega)
 have HN := Aside0.mk hnum
 clear hnum h
 go_enter Tryz.func75, Tryz.ntmps75
 go_wp2_with fail
 refine HN.out.mono ?_
 rintro e w1 ⟨rfl, hW, hK⟩
 have HK := Aside0.mk hK
 have HE : Aside0 (bs ++ txt8 s = bs ++ nums8 [(s.size : Int)] ++ bytesOf s) := ⟨by unfold txt8; rw [List.append_assoc]⟩
 have hl : (bs ++ nums8 [(s.size : Int)]).length = bs.length + 8 := by rw [List.length_append, nums8_len]; rfl
 generalize bs ++ nums8 [(s.size : Int)] = D at *
 obtain ⟨A, c, hblk, hrow⟩ := hW.row
 have HGE := Aside0.mk hW.ge
 have r0 : w1.cell? ⟨g, 0, none⟩ = some (.slice A D.length c) := blk_cell hblk 0
 have HRW := Aside0.mk hrow
 have HBW := Aside0.mk hW.below
 have HBK := Aside0.mk hblk
 have hbl : D.length + s.size ≤ 140737488355328 := by omega
 clear hW hK hblk hrow HN hl
 go_wp2_with (at_builtin; go_loud (refine print_append_str (w0 := w0) w0.heap.size rfl (.tmp 13) (.tmp 14) 28 9 5 rfl Tryz.underlying28 Tryz.underlying9 info5 (.slice A D.length c) D s rfl rfl (Kd.own_of_R HRW.out) HBW.out HBW.out.size hbl ?_); intro v2 w2 ho2 hb2 hg2; have hR2 : Kd.R (Kd.int .u8) 5 w2 w0.heap.size (fun k => True) v2 (D ++ bytesOf s) := Kd.R_of_own (enc := Value.int .u8) (h1 := fun _ => rfl) ho2 (fun _ _ => trivial); have hbk2 := blk_grown HBK.out hg2 (fun e => HRW.out.1 _ e.symm rfl); have hR3 := Kd.R_mono (Kd.R_types hR2 hbk2 (by decide)) (fun k hk => hk.2); obtain ⟨A', c', hv2⟩ := Kd.R_slice hR3; subst hv2; generalize hD2 : D ++ bytesOf s = D2 at *; clear hD2; have HR2 := Aside0.mk hR3; have HB2 := Aside0.mk hb2; have HBK2 := Aside0.mk hbk2; have HK2 := Aside0.mk (HK.out.trans (Kept8.grown HRW.out hg2)); have hc2 := blk_cell hbk2 0; have hf2 := blk_frozen hbk2 0; clear ho2 hb2 hg2 hR2 hR3 hbk2)
 have HW6 : Aside0 (WrAt w0 g (bs ++ txt8 s) (w2.setCell ⟨g, 0, none⟩ (.slice A' D2.length c'))) := ⟨by
  rw [HE.out]
  exact ⟨⟨A', c', by simpa using blk_set HBK2.out 0 (.slice A' D2.length c'), Kd.R_far HR2.out (p := ⟨g, 0, none⟩) (fun k hk => hk) _⟩, HB2.out.setCell (p := ⟨g, 0, none⟩) HGE.out _, HGE.out⟩⟩
 have HK6 : Aside0 (Kept8 g W (w2.setCell ⟨g, 0, none⟩ (.slice A' D2.length c'))) := ⟨HK2.out.trans (Kept8.set w2 0 _)⟩
 generalize w2.setCell ⟨g, 0, none⟩ (.slice A' D2.length c') = W7 at *
 go_wp2
 go_end0
 exact ⟨rfl, HW6.out, HK6.out⟩
end Go.Proofs.YtiocgaekoeekgaaGreat.P
end
section
namespace Go.Proofs.YtiocgaekoeekgaaGreat.P
open Go.RowKit Go.Proofs.YtiocgaekoeekgaaGreatW.PrintWords Go.Proofs.YtiocgaekoeekgaaGreatW.PrintLast Go.Proofs.YtiocgaekoeekgaaGreatW.PrintMore
attribute [local go_sem] max2_int min2_int max_two min_two max_three min_three max_four min_four   
set_option linter.unusedVariables false
set_option linter.unusedSimpArgs false
attribute [local go_sem] Oper.semAt_some
theorem shift5 : ∀ j : Fin 8, IntKind.u64.wrap (wrap64 (56 - (wrap64 (8 * ((j : Nat) : Int))))) = 56 - 8 * ((j : Nat) : Int) := by decide +kernel
theorem byte5 (n : Int) (j : Nat) (hj : j < 8) : (shr .i64 n (56 - 8 * (j : Int))) % 256 = byteOf n (56 - 8 * (j : Int)) := by
 unfold shr byteOf
 rw [IntKind.wrap_u8', Nat.min_eq_left (by show _ ≤ 64; omega)]
theorem num5_l0 (n : Int) : ∀ (m j : Nat) (x : List Int), j + m = 8 → x.length + m ≤ 1000000000000 → r5_num.l0 (m + 1) x n (j : Int) = some (x ++ (num8 n).drop j) := by
 intro m
 induction m with
 | zero =>
  intro j x hj hx
  rw [r5_num.l0, if_neg (by omega), List.drop_eq_nil_of_le (by rw [num8_len]; omega), List.append_nil]
 | succ m ih =>
  intro j x hj hx
  have hs := shift5 ⟨j, by omega⟩
  simp only at hs
  rw [r5_num.l0, if_pos (by omega), hs, if_pos (by omega), if_pos (by omega), byte5 n j (by omega), show wrap64 ((j : Int) + 1) = ((j + 1 : Nat) : Int) from by rw [wrap64]; omega, ih (j + 1) _ (by omega) (by rw [List.length_append]; simp; omega)]
  have hd : (num8 n).drop j = byteOf n (56 - 8 * (j : Int)) :: (num8 n).drop (j + 1) := by
   rw [List.drop_eq_getElem_cons (by rw [num8_len]; omega)]
   congr 1
   simp [num8]
  rw [hd, List.append_assoc]
  rfl
theorem num5_f (l : List Int) (n : Int) (hl : l.length + 8 ≤ 1000000000000) : r5_num.f 9 l n = some (l ++ num8 n) := num5_l0 n 8 0 l rfl hl
def Row5 (w0 : World) (v : Value) (bs : List Int) (W : World) : Prop := Kd.R (Kd.int .u8) 5 W w0.heap.size (fun _ => True) v bs ∧ Below w0.heap.size w0 W
def KeptT (W W' : World) : Prop := ∀ (g t : Nat) (cs : Array Value), 5 ≠ t → W.heap[g]? = some (.cells cs t (0, 0)) → W'.heap[g]? = some (.cells cs t (0, 0))
theorem KeptT.trans {W W1 W2 : World} (h1 : KeptT W W1) (h2 : KeptT W1 W2) : KeptT W W2 := fun g t cs ht h => h2 g t cs ht (h1 g t cs ht h)
theorem KeptT.below {W W1 : World} (hb : Below W.heap.size W W1) : KeptT W W1 := fun _ _ _ _ h => blk_below h hb
theorem num5_w (w0 : World) (v : Value) (bs : List Int) (n : Int) (W : World) (h : Row5 w0 v bs W) (hl : bs.length + 8 ≤ 1000000000000) :
  Calls Tryz.prog 49 #[v, .int .i64 n] W fun e W' => ∃ v', e = .returned v' ∧ Row5 w0 v' (bs ++ num8 n) W' ∧ KeptT W W' := by
 have h1 : Kd.R (Kd.int .u8) 5 W w0.heap.size (fun k => v.ownBlock = some k) v bs := ⟨fun k hk => hk, h.1.2.imp_ (fun _ _ hm => hm)⟩
 refine (r5_num.calls 9 _ v bs n _ w0 W h.2 h1 (num5_f bs n hl)).mono ?_
 rintro e W' ⟨v', rfl, hr, hb, hk⟩
 refine ⟨v', rfl, ⟨Kd.R_mono hr (fun _ _ => trivial), hb⟩, fun g t cs ht hg => ?_⟩
 exact (hk.2 g (blk_lt hg) (fun he => Kd.R_ne h.1 hg ht he.symm)).trans hg
set_option maxHeartbeats 4000000 in
set_option maxRecDepth 100000 in
theorem text5_w (w0 : World) (v : Value) (bs : List Int) (s : ByteArray) (W : World) (h : Row5 w0 v bs W) (hl : bs.length + (txt8 s).length ≤ 1000000000000) :
  Calls Tryz.prog 103 #[v, .string s] W fun e W' => ∃ v', e = .returned v' ∧ Row5 w0 v' (bs ++ txt8 s) W' ∧ KeptT W W' := by
 rw [txt8_len] at hl
 have HN := Aside0.mk (num5_w w0 v bs s.size W h (by omega))
 have HL := Aside0.mk hl
 have hkb := fun W => print_bytes (P := Tryz.prog) 9 28 5 Tryz.underlying9 Tryz.underlying28 Tryz.underlying5 s W
 clear h hl
 go_enter Tryz.func103, Tryz.ntmps103
 go_wp2_with fail
 refine HN.out.mono ?_
 rintro e W1 ⟨v1, rfl, hr, hk⟩
 have HR := Aside0.mk hr
 have HK := Aside0.mk hk
 clear hr hk HN
 have hbb : Aside0 (Below W1.heap.size W1 (Lib.bytesWorld W1 5 s)) := ⟨bytes_below (Below.refl _ _) (Nat.le_refl _) 5 s⟩
 have HC : Aside0 (Kd.C (Kd.int .u8) (Lib.bytesWorld W1 5 s) (some ⟨W1.heap.size, 0, none⟩) s.size (bytesOf s)) := ⟨Kd.C_of_reads (h1 := fun _ => rfl) (bytes_reads W1 5 s (by have := HL.out; omega))⟩
 have hkb1 := hkb W1
 clear hkb
 have hE : Aside0 (bs ++ txt8 s = (bs ++ num8 s.size) ++ bytesOf s) := ⟨by unfold txt8 nums8; simp⟩
 have HLL : Aside0 ((bs ++ num8 (s.size : Int)).length + s.size ≤ 1000000000000) := ⟨by rw [List.length_append, num8_len]; have := HL.out; omega⟩
 generalize bs ++ num8 (s.size : Int) = cs at *
 generalize grownCap W1 s.size 0 5 = cap at *
 generalize Lib.bytesWorld W1 5 s = W2 at *
 go_wp2_with (at_builtin; go_loud (refine Kd.R_append_row (Value.int .u8) 0 (h1 := fun _ => rfl) (w0 := w0) w0.heap.size rfl (.tmp 8) (.tmp 10) 28 5 (.int .u8 0) 1 rfl Tryz.underlying28 info5 rfl (by decide) v1 cs (bytesOf s) (some ⟨W1.heap.size, 0, none⟩) s.size cap (fun _ => True) rfl rfl (fun _ _ => trivial) (Kd.R_below HR.out.1 hbb.out) HC.out (below_step HR.out.2 hbb.out) (below_step HR.out.2 hbb.out).size (by have := HLL.out; omega) ?_); intro v3 W3 ho hb hg hat)
 have HO : Aside0 (Row5 w0 v3 (cs ++ bytesOf s) W3) := ⟨⟨ho, hb⟩⟩
 have HK3 : Aside0 (KeptT W W3) := ⟨fun g t c0 ht hgg => blk_grown (blk_below (HK.out g t c0 ht hgg) hbb.out) hg (Kd.R_ne (Kd.R_below HR.out.1 hbb.out) (blk_below (HK.out g t c0 ht hgg) hbb.out) ht)⟩
 clear ho hb hg hat
 go_wp2
 go_ret
 rw [hE.out]
 exact ⟨_, rfl, HO.out, HK3.out⟩
end Go.Proofs.YtiocgaekoeekgaaGreat.P
end
section
namespace Go.Proofs.YtiocgaekoeekgaaGreat.P
open Go.RowKit Go.Proofs.YtiocgaekoeekgaaGreatW.PrintWords Go.Proofs.YtiocgaekoeekgaaGreatW.PrintLast Go.Proofs.YtiocgaekoeekgaaGreatW.PrintMore
attribute [local go_sem] max2_int min2_int max_two min_two max_three min_three max_four min_four   
set_option linter.unusedVariables false
set_option linter.unusedSimpArgs false
attribute [local go_sem] Oper.semAt_some
def ints8 (l : List Int) : List Int := nums8 [(l.length : Int)] ++ nums8 l
def ent8 (e : S46) : List Int := txt8 e.f0 ++ nums8 [e.f1, e.f2]
def rule8 (r : S56) : List Int := nums8 [r.f0] ++ ints8 r.f1 ++ nums8 [r.f2.f0] ++ ints8 r.f2.f1 ++ nums8 [r.f3]
def part8 (p : S48) : List Int := nums8 [p.f0] ++ txt8 p.f1 ++ nums8 [p.f2, p.f3, p.f4]
theorem ints8_len (l : List Int) : (ints8 l).length = 8 + 8 * l.length := by
 unfold ints8
 rw [List.length_append, nums8_len, nums8_len]
 rfl
theorem numC (w0 : World) (A1 : Option Addr) (l : List Int) (g : Nat) (W : World) (h : Kd.C (Kd.int .i64) w0 A1 l.length l) : ∀ W', Kept8 g W W' → Below w0.heap.size w0 W' → Kd.C (Kd.int .i64) W' A1 l.length l := fun _ _ hb => Kd.C_below h hb
set_option maxHeartbeats 4000000 in
set_option maxRecDepth 100000 in
theorem numbers5_walk (w0 : World) (g : Nat) (bs : List Int) (A1 : Option Addr) (c1 : Nat) (l : List Int) (W : World) (h : WrAt w0 g bs W) (hr1 : Kd.C (Kd.int .i64) w0 A1 l.length l) (hc1 : l.length ≤ c1) (hlen : bs.length + (ints8 l).length ≤ 1000000000000) :
  Calls Tryz.prog 123 #[.pointer (some ⟨g, 0, none⟩), .slice A1 l.length c1] W fun e W' => e = .returned (.tuple #[]) ∧ WrAt w0 g (bs ++ ints8 l) W' ∧ Kept8 g W W' := by
 have hl0 : (ints8 l).length = 8 + 8 * l.length := by exact ints8_len l
 rw [hl0] at hlen
 obtain ⟨D0, hD0⟩ : ∃ D, D = bs := ⟨_, rfl⟩
 have HE : Aside0 (bs ++ ints8 l = D0 ++ nums8 [(l.length : Int)] ++ nums8 l) := ⟨by rw [hD0]; unfold ints8; simp only [List.append_assoc]⟩
 have hd0 : D0.length = bs.length := by rw [hD0]
 rw [← hD0] at h
 have HW0 := Aside0.mk h
 have HK0 := Aside0.mk (Kept8.refl g W)
 have HLN := Aside0.mk hlen
 have HD0 := Aside0.mk hd0
 clear h hl0 hD0 hlen hd0
 go_enter Tryz.func123, Tryz.ntmps123
 go_wp2_with fail
 have hnum := number_lit w0 g D0 [(l.length : Int)] W HW0.out (by simp) (by rw [HD0.out]; have := HLN.out; first | omega | (simp only [List.length_cons, List.length_nil, Nat.zero_add, Nat.reduceAdd]; omega))
 refine hnum.mono ?_
 clear hnum
 rintro e w1 ⟨rfl, hW, hK⟩
 have HD1 : Aside0 ((D0 ++ nums8 [(l.length : Int)]).length = bs.length + 8 * 1) := ⟨by first | (rw [List.length_append, HD0.out]; simp [nums8_len, txt8_len, ints8_len]; done) | rw [List.length_append, HD0.out]⟩
 generalize D0 ++ nums8 [(l.length : Int)] = D1 at *
 have HW1 := Aside0.mk hW
 have HK1 := Aside0.mk (HK0.out.trans hK)
 clear hW hK HW0 HK0
 go_wp2_with fail
 refine (number5_walk w0 g D1 A1 c1 l w1 HW1.out (numC w0 _ _ g _ hr1) hc1 (by rw [HD1.out]; have := HLN.out; first | omega | (simp only [List.length_cons, List.length_nil, Nat.zero_add, Nat.reduceAdd]; omega))).mono ?_
 rintro e w2 ⟨rfl, hW, hK⟩
 have HD2 : Aside0 ((D1 ++ nums8 l).length = bs.length + 8 * 1 + 8 * l.length) := ⟨by first | (rw [List.length_append, HD1.out]; simp [nums8_len, txt8_len, ints8_len]; done) | rw [List.length_append, HD1.out]⟩
 generalize D1 ++ nums8 l = D2 at *
 have HW2 := Aside0.mk hW
 have HK2 := Aside0.mk (HK1.out.trans hK)
 clear hW hK HW1 HK1
 go_wp2
 go_end0
 exact ⟨rfl, by rw [HE.out]; exact HW2.out, HK2.out⟩
set_option maxHeartbeats 4000000 in
set_option maxRecDepth 100000 in
theorem entry5_walk (w0 : World) (g : Nat) (bs : List Int) (x : S46) (W : World) (h : WrAt w0 g bs W)  (hlen : bs.length + (ent8 x).length ≤ 1000000000000) :
  Calls Tryz.prog 77 #[.pointer (some ⟨g, 0, none⟩), .agg #[.string x.f0, .int .i64 x.f1, .int .i64 x.f2]] W fun e W' => e = .returned (.tuple #[]) ∧ WrAt w0 g (bs ++ ent8 x) W' ∧ Kept8 g W W' := by
 have hl0 : (ent8 x).length = 8 + x.f0.size + 16 := by unfold ent8; rw [List.length_append, txt8_len, nums8_len]; rfl
 rw [hl0] at hlen
 obtain ⟨D0, hD0⟩ : ∃ D, D = bs := ⟨_, rfl⟩
 have HE : Aside0 (bs ++ ent8 x = D0 ++ txt8 x.f0 ++ nums8 [x.f1, x.f2]) := ⟨by rw [hD0]; unfold ent8; simp only [List.append_assoc]⟩
 have hd0 : D0.length = bs.length := by rw [hD0]
 rw [← hD0] at h
 have HB0 : Aside0 ((W.alloc (.cells #[.string x.f0, .int .i64 x.f1, .int .i64 x.f2] 46)).heap[W.heap.size]? = some (.cells #[.string x.f0, .int .i64 x.f1, .int .i64 x.f2] 46 (0, 0))) := ⟨blk_new W _⟩
 have HW0 : Aside0 (WrAt w0 g D0 (W.alloc (.cells #[.string x.f0, .int .i64 x.f1, .int .i64 x.f2] 46))) := ⟨h.grow (below_alloc (Below.refl _ _) _)⟩
 have HK0 : Aside0 (Kept8 g W (W.alloc (.cells #[.string x.f0, .int .i64 x.f1, .int .i64 x.f2] 46))) := ⟨Kept8.below (below_alloc (Below.refl _ _) _)⟩
 have hgb : W.heap.size ≠ g := by obtain ⟨_, _, hb, _⟩ := h.row; have := blk_lt hb; omega
 have HGB := Aside0.mk hgb
 clear hgb
 have HLN := Aside0.mk hlen
 have HD0 := Aside0.mk hd0
 clear h hl0 hD0 hlen hd0
 go_enter Tryz.func77, Tryz.ntmps77
 go_wp2_with fail
 refine (text5_walk w0 g D0 x.f0 (W.alloc (.cells #[.string x.f0, .int .i64 x.f1, .int .i64 x.f2] 46)) HW0.out (by rw [HD0.out]; have := HLN.out; first | omega | (simp only [List.length_cons, List.length_nil, Nat.zero_add, Nat.reduceAdd]; omega))).mono ?_
 rintro e w1 ⟨rfl, hW, hK⟩
 have HD1 : Aside0 ((D0 ++ txt8 x.f0).length = bs.length + (8 + x.f0.size)) := ⟨by first | (rw [List.length_append, HD0.out]; simp [nums8_len, txt8_len, ints8_len]; done) | rw [List.length_append, HD0.out]⟩
 generalize D0 ++ txt8 x.f0 = D1 at *
 have HW1 := Aside0.mk hW
 have HK1 := Aside0.mk (HK0.out.trans hK)
 have HB1 := Aside0.mk (hK _ _ HB0.out HGB.out (fun cs z e => by injection e with _ e; exact absurd e (by decide)))
 clear hW hK HW0 HK0 HB0
 have hc1_0 := blk_cell HB1.out 0
 have hc1_1 := blk_cell HB1.out 1
 have hc1_2 := blk_cell HB1.out 2
 go_wp2_with fail
 have hnum := number_lit w0 g D1 [x.f1, x.f2] w1 HW1.out (by simp) (by rw [HD1.out]; have := HLN.out; first | omega | (simp only [List.length_cons, List.length_nil, Nat.zero_add, Nat.reduceAdd]; omega))
 refine hnum.mono ?_
 clear hnum
 rintro e w2 ⟨rfl, hW, hK⟩
 have HD2 : Aside0 ((D1 ++ nums8 [x.f1, x.f2]).length = bs.length + (8 + x.f0.size) + 8 * 2) := ⟨by first | (rw [List.length_append, HD1.out]; simp [nums8_len, txt8_len, ints8_len]; done) | rw [List.length_append, HD1.out]⟩
 generalize D1 ++ nums8 [x.f1, x.f2] = D2 at *
 have HW2 := Aside0.mk hW
 have HK2 := Aside0.mk (HK1.out.trans hK)
 have HB2 := Aside0.mk (hK _ _ HB1.out HGB.out (fun cs z e => by injection e with _ e; exact absurd e (by decide)))
 clear hW hK HW1 HK1 HB1
 clear hc1_0 hc1_1 hc1_2
 go_wp2
 go_end0
 exact ⟨rfl, by rw [HE.out]; exact HW2.out, HK2.out⟩
set_option maxHeartbeats 4000000 in
set_option maxRecDepth 100000 in
theorem rule5_write (w0 : World) (g : Nat) (bs : List Int) (x : S56) (A1 : Option Addr) (c1 : Nat) (A3 : Option Addr) (c3 : Nat) (W : World) (h : WrAt w0 g bs W) (hr1 : Kd.C (Kd.int .i64) w0 A1 x.f1.length x.f1) (hc1 : x.f1.length ≤ c1) (hr3 : Kd.C (Kd.int .i64) w0 A3 x.f2.f1.length x.f2.f1) (hc3 : x.f2.f1.length ≤ c3) (hlen : bs.length + (rule8 x).length ≤ 1000000000000) :
  Calls Tryz.prog 79 #[.pointer (some ⟨g, 0, none⟩), .agg #[.int .i64 x.f0, .slice A1 x.f1.length c1, .int .i64 x.f2.f0, .slice A3 x.f2.f1.length c3, .int .i64 x.f3]] W fun e W' => e = .returned (.tuple #[]) ∧ WrAt w0 g (bs ++ rule8 x) W' ∧ Kept8 g W W' := by
 have hl0 : (rule8 x).length = 8 + (8 + 8 * x.f1.length) + 8 + (8 + 8 * x.f2.f1.length) + 8 := by unfold rule8; simp only [List.length_append, ints8_len, nums8_len, List.length_cons, List.length_nil]
 rw [hl0] at hlen
 obtain ⟨D0, hD0⟩ : ∃ D, D = bs := ⟨_, rfl⟩
 have HE : Aside0 (bs ++ rule8 x = D0 ++ nums8 [x.f0] ++ ints8 x.f1 ++ nums8 [x.f2.f0] ++ ints8 x.f2.f1 ++ nums8 [x.f3]) := ⟨by rw [hD0]; unfold rule8; simp only [List.append_assoc]⟩
 have hd0 : D0.length = bs.length := by rw [hD0]
 rw [← hD0] at h
 have HB0 : Aside0 ((W.alloc (.cells #[.int .i64 x.f0, .slice A1 x.f1.length c1, .int .i64 x.f2.f0, .slice A3 x.f2.f1.length c3, .int .i64 x.f3] 56)).heap[W.heap.size]? = some (.cells #[.int .i64 x.f0, .slice A1 x.f1.length c1, .int .i64 x.f2.f0, .slice A3 x.f2.f1.length c3, .int .i64 x.f3] 56 (0, 0))) := ⟨blk_new W _⟩
 have HW0 : Aside0 (WrAt w0 g D0 (W.alloc (.cells #[.int .i64 x.f0, .slice A1 x.f1.length c1, .int .i64 x.f2.f0, .slice A3 x.f2.f1.length c3, .int .i64 x.f3] 56))) := ⟨h.grow (below_alloc (Below.refl _ _) _)⟩
 have HK0 : Aside0 (Kept8 g W (W.alloc (.cells #[.int .i64 x.f0, .slice A1 x.f1.length c1, .int .i64 x.f2.f0, .slice A3 x.f2.f1.length c3, .int .i64 x.f3] 56))) := ⟨Kept8.below (below_alloc (Below.refl _ _) _)⟩
 have hgb : W.heap.size ≠ g := by obtain ⟨_, _, hb, _⟩ := h.row; have := blk_lt hb; omega
 have HGB := Aside0.mk hgb
 clear hgb
 have HLN := Aside0.mk hlen
 have HD0 := Aside0.mk hd0
 clear h hl0 hD0 hlen hd0
 go_enter Tryz.func79, Tryz.ntmps79
 go_wp2_with fail
 have hnum := number_lit w0 g D0 [x.f0] (W.alloc (.cells #[.int .i64 x.f0, .slice A1 x.f1.length c1, .int .i64 x.f2.f0, .slice A3 x.f2.f1.length c3, .int .i64 x.f3] 56)) HW0.out (by simp) (by rw [HD0.out]; have := HLN.out; first | omega | (simp only [List.length_cons, List.length_nil, Nat.zero_add, Nat.reduceAdd]; omega))
 rw [show (W.alloc (.cells #[.int .i64 x.f0, .slice A1 x.f1.length c1, .int .i64 x.f2.f0, .slice A3 x.f2.f1.length c3, .int .i64 x.f3] 56)).heap.size = W.heap.size + 1 by simp] at hnum
 refine hnum.mono ?_
 clear hnum
 rintro e w1 ⟨rfl, hW, hK⟩
 have HD1 : Aside0 ((D0 ++ nums8 [x.f0]).length = bs.length + 8 * 1) := ⟨by first | (rw [List.length_append, HD0.out]; simp [nums8_len, txt8_len, ints8_len]; done) | rw [List.length_append, HD0.out]⟩
 generalize D0 ++ nums8 [x.f0] = D1 at *
 have HW1 := Aside0.mk hW
 have HK1 := Aside0.mk (HK0.out.trans hK)
 have HB1 := Aside0.mk (hK _ _ HB0.out HGB.out (fun cs z e => by injection e with _ e; exact absurd e (by decide)))
 clear hW hK HW0 HK0 HB0
 have hc1_0 := blk_cell HB1.out 0
 have hc1_1 := blk_cell HB1.out 1
 have hc1_2 := blk_cell HB1.out 2
 have hc1_3 := blk_cell HB1.out 3
 have hc1_4 := blk_cell HB1.out 4
 go_wp2_with fail
 refine (numbers5_walk w0 g D1 A1 c1 x.f1 w1 HW1.out hr1 hc1 (by rw [ints8_len]; rw [HD1.out]; have := HLN.out; first | omega | (simp only [List.length_cons, List.length_nil, Nat.zero_add, Nat.reduceAdd]; omega))).mono ?_
 rintro e w2 ⟨rfl, hW, hK⟩
 have HD2 : Aside0 ((D1 ++ ints8 x.f1).length = bs.length + 8 * 1 + (8 + 8 * x.f1.length)) := ⟨by first | (rw [List.length_append, HD1.out]; simp [nums8_len, txt8_len, ints8_len]; done) | rw [List.length_append, HD1.out]⟩
 generalize D1 ++ ints8 x.f1 = D2 at *
 have HW2 := Aside0.mk hW
 have HK2 := Aside0.mk (HK1.out.trans hK)
 have HB2 := Aside0.mk (hK _ _ HB1.out HGB.out (fun cs z e => by injection e with _ e; exact absurd e (by decide)))
 clear hW hK HW1 HK1 HB1
 clear hc1_0 hc1_1 hc1_2 hc1_3 hc1_4
 have hc2_0 := blk_cell HB2.out 0
 have hc2_1 := blk_cell HB2.out 1
 have hc2_2 := blk_cell HB2.out 2
 have hc2_3 := blk_cell HB2.out 3
 have hc2_4 := blk_cell HB2.out 4
 go_wp2_with fail
 have hnum := number_lit w0 g D2 [x.f2.f0] w2 HW2.out (by simp) (by rw [HD2.out]; have := HLN.out; first | omega | (simp only [List.length_cons, List.length_nil, Nat.zero_add, Nat.reduceAdd]; omega))
 refine hnum.mono ?_
 clear hnum
 rintro e w3 ⟨rfl, hW, hK⟩
 have HD3 : Aside0 ((D2 ++ nums8 [x.f2.f0]).length = bs.length + 8 * 1 + (8 + 8 * x.f1.length) + 8 * 1) := ⟨by first | (rw [List.length_append, HD2.out]; simp [nums8_len, txt8_len, ints8_len]; done) | rw [List.length_append, HD2.out]⟩
 generalize D2 ++ nums8 [x.f2.f0] = D3 at *
 have HW3 := Aside0.mk hW
 have HK3 := Aside0.mk (HK2.out.trans hK)
 have HB3 := Aside0.mk (hK _ _ HB2.out HGB.out (fun cs z e => by injection e with _ e; exact absurd e (by decide)))
 clear hW hK HW2 HK2 HB2
 clear hc2_0 hc2_1 hc2_2 hc2_3 hc2_4
 have hc3_0 := blk_cell HB3.out 0
 have hc3_1 := blk_cell HB3.out 1
 have hc3_2 := blk_cell HB3.out 2
 have hc3_3 := blk_cell HB3.out 3
 have hc3_4 := blk_cell HB3.out 4
 go_wp2_with fail
 refine (numbers5_walk w0 g D3 A3 c3 x.f2.f1 w3 HW3.out hr3 hc3 (by rw [ints8_len]; rw [HD3.out]; have := HLN.out; first | omega | (simp only [List.length_cons, List.length_nil, Nat.zero_add, Nat.reduceAdd]; omega))).mono ?_
 rintro e w4 ⟨rfl, hW, hK⟩
 have HD4 : Aside0 ((D3 ++ ints8 x.f2.f1).length = bs.length + 8 * 1 + (8 + 8 * x.f1.length) + 8 * 1 + (8 + 8 * x.f2.f1.length)) := ⟨by first | (rw [List.length_append, HD3.out]; simp [nums8_len, txt8_len, ints8_len]; done) | rw [List.length_append, HD3.out]⟩
 generalize D3 ++ ints8 x.f2.f1 = D4 at *
 have HW4 := Aside0.mk hW
 have HK4 := Aside0.mk (HK3.out.trans hK)
 have HB4 := Aside0.mk (hK _ _ HB3.out HGB.out (fun cs z e => by injection e with _ e; exact absurd e (by decide)))
 clear hW hK HW3 HK3 HB3
 clear hc3_0 hc3_1 hc3_2 hc3_3 hc3_4
 have hc4_0 := blk_cell HB4.out 0
 have hc4_1 := blk_cell HB4.out 1
 have hc4_2 := blk_cell HB4.out 2
 have hc4_3 := blk_cell HB4.out 3
 have hc4_4 := blk_cell HB4.out 4
 go_wp2_with fail
 have hnum := number_lit w0 g D4 [x.f3] w4 HW4.out (by simp) (by rw [HD4.out]; have := HLN.out; first | omega | (simp only [List.length_cons, List.length_nil, Nat.zero_add, Nat.reduceAdd]; omega))
 refine hnum.mono ?_
 clear hnum
 rintro e w5 ⟨rfl, hW, hK⟩
 have HD5 : Aside0 ((D4 ++ nums8 [x.f3]).length = bs.length + 8 * 1 + (8 + 8 * x.f1.length) + 8 * 1 + (8 + 8 * x.f2.f1.length) + 8 * 1) := ⟨by first | (rw [List.length_append, HD4.out]; simp [nums8_len, txt8_len, ints8_len]; done) | rw [List.length_append, HD4.out]⟩
 generalize D4 ++ nums8 [x.f3] = D5 at *
 have HW5 := Aside0.mk hW
 have HK5 := Aside0.mk (HK4.out.trans hK)
 have HB5 := Aside0.mk (hK _ _ HB4.out HGB.out (fun cs z e => by injection e with _ e; exact absurd e (by decide)))
 clear hW hK HW4 HK4 HB4
 clear hc4_0 hc4_1 hc4_2 hc4_3 hc4_4
 go_wp2
 go_end0
 exact ⟨rfl, by rw [HE.out]; exact HW5.out, HK5.out⟩
set_option maxHeartbeats 4000000 in
set_option maxRecDepth 100000 in
theorem part5_walk (w0 : World) (g : Nat) (bs : List Int) (x : S48) (W : World) (h : WrAt w0 g bs W)  (hlen : bs.length + (part8 x).length ≤ 1000000000000) :
  Calls Tryz.prog 125 #[.pointer (some ⟨g, 0, none⟩), .agg #[.int .i64 x.f0, .string x.f1, .int .i64 x.f2, .int .i64 x.f3, .int .i64 x.f4]] W fun e W' => e = .returned (.tuple #[]) ∧ WrAt w0 g (bs ++ part8 x) W' ∧ Kept8 g W W' := by
 have hl0 : (part8 x).length = 8 + (8 + x.f1.size) + 24 := by unfold part8; simp only [List.length_append, txt8_len, nums8_len, List.length_cons, List.length_nil]
 rw [hl0] at hlen
 obtain ⟨D0, hD0⟩ : ∃ D, D = bs := ⟨_, rfl⟩
 have HE : Aside0 (bs ++ part8 x = D0 ++ nums8 [x.f0] ++ txt8 x.f1 ++ nums8 [x.f2, x.f3, x.f4]) := ⟨by rw [hD0]; unfold part8; simp only [List.append_assoc]⟩
 have hd0 : D0.length = bs.length := by rw [hD0]
 rw [← hD0] at h
 have HB0 : Aside0 ((W.alloc (.cells #[.int .i64 x.f0, .string x.f1, .int .i64 x.f2, .int .i64 x.f3, .int .i64 x.f4] 48)).heap[W.heap.size]? = some (.cells #[.int .i64 x.f0, .string x.f1, .int .i64 x.f2, .int .i64 x.f3, .int .i64 x.f4] 48 (0, 0))) := ⟨blk_new W _⟩
 have HW0 : Aside0 (WrAt w0 g D0 (W.alloc (.cells #[.int .i64 x.f0, .string x.f1, .int .i64 x.f2, .int .i64 x.f3, .int .i64 x.f4] 48))) := ⟨h.grow (below_alloc (Below.refl _ _) _)⟩
 have HK0 : Aside0 (Kept8 g W (W.alloc (.cells #[.int .i64 x.f0, .string x.f1, .int .i64 x.f2, .int .i64 x.f3, .int .i64 x.f4] 48))) := ⟨Kept8.below (below_alloc (Below.refl _ _) _)⟩
 have hgb : W.heap.size ≠ g := by obtain ⟨_, _, hb, _⟩ := h.row; have := blk_lt hb; omega
 have HGB := Aside0.mk hgb
 clear hgb
 have HLN := Aside0.mk hlen
 have HD0 := Aside0.mk hd0
 clear h hl0 hD0 hlen hd0
 go_enter Tryz.func125, Tryz.ntmps125
 go_wp2_with fail
 have hnum := number_lit w0 g D0 [x.f0] (W.alloc (.cells #[.int .i64 x.f0, .string x.f1, .int .i64 x.f2, .int .i64 x.f3, .int .i64 x.f4] 48)) HW0.out (by simp) (by rw [HD0.out]; have := HLN.out; first | omega | (simp only [List.length_cons, List.length_nil, Nat.zero_add, Nat.reduceAdd]; omega))
 rw [show (W.alloc (.cells #[.int .i64 x.f0, .string x.f1, .int .i64 x.f2, .int .i64 x.f3, .int .i64 x.f4] 48)).heap.size = W.heap.size + 1 by simp] at hnum
 refine hnum.mono ?_
 clear hnum
 rintro e w1 ⟨rfl, hW, hK⟩
 have HD1 : Aside0 ((D0 ++ nums8 [x.f0]).length = bs.length + 8 * 1) := ⟨by first | (rw [List.length_append, HD0.out]; simp [nums8_len, txt8_len, ints8_len]; done) | rw [List.length_append, HD0.out]⟩
 generalize D0 ++ nums8 [x.f0] = D1 at *
 have HW1 := Aside0.mk hW
 have HK1 := Aside0.mk (HK0.out.trans hK)
 have HB1 := Aside0.mk (hK _ _ HB0.out HGB.out (fun cs z e => by injection e with _ e; exact absurd e (by decide)))
 clear hW hK HW0 HK0 HB0
 have hc1_0 := blk_cell HB1.out 0
 have hc1_1 := blk_cell HB1.out 1
 have hc1_2 := blk_cell HB1.out 2
 have hc1_3 := blk_cell HB1.out 3
 have hc1_4 := blk_cell HB1.out 4
 go_wp2_with fail
 refine (text5_walk w0 g D1 x.f1 w1 HW1.out (by rw [HD1.out]; have := HLN.out; first | omega | (simp only [List.length_cons, List.length_nil, Nat.zero_add, Nat.reduceAdd]; omega))).mono ?_
 rintro e w2 ⟨rfl, hW, hK⟩
 have HD2 : Aside0 ((D1 ++ txt8 x.f1).length = bs.length + 8 * 1 + (8 + x.f1.size)) := ⟨by first | (rw [List.length_append, HD1.out]; simp [nums8_len, txt8_len, ints8_len]; done) | rw [List.length_append, HD1.out]⟩
 generalize D1 ++ txt8 x.f1 = D2 at *
 have HW2 := Aside0.mk hW
 have HK2 := Aside0.mk (HK1.out.trans hK)
 have HB2 := Aside0.mk (hK _ _ HB1.out HGB.out (fun cs z e => by injection e with _ e; exact absurd e (by decide)))
 clear hW hK HW1 HK1 HB1
 clear hc1_0 hc1_1 hc1_2 hc1_3 hc1_4
 have hc2_0 := blk_cell HB2.out 0
 have hc2_1 := blk_cell HB2.out 1
 have hc2_2 := blk_cell HB2.out 2
 have hc2_3 := blk_cell HB2.out 3
 have hc2_4 := blk_cell HB2.out 4
 go_wp2_with fail
 have hnum := number_lit w0 g D2 [x.f2, x.f3, x.f4] w2 HW2.out (by simp) (by rw [HD2.out]; have := HLN.out; first | omega | (simp only [List.length_cons, List.length_nil, Nat.zero_add, Nat.reduceAdd]; omega))
 refine hnum.mono ?_
 clear hnum
 rintro e w3 ⟨rfl, hW, hK⟩
 have HD3 : Aside0 ((D2 ++ nums8 [x.f2, x.f3, x.f4]).length = bs.length + 8 * 1 + (8 + x.f1.size) + 8 * 3) := ⟨by first | (rw [List.length_append, HD2.out]; simp [nums8_len, txt8_len, ints8_len]; done) | rw [List.length_append, HD2.out]⟩
 generalize D2 ++ nums8 [x.f2, x.f3, x.f4] = D3 at *
 have HW3 := Aside0.mk hW
 have HK3 := Aside0.mk (HK2.out.trans hK)
 have HB3 := Aside0.mk (hK _ _ HB2.out HGB.out (fun cs z e => by injection e with _ e; exact absurd e (by decide)))
 clear hW hK HW2 HK2 HB2
 clear hc2_0 hc2_1 hc2_2 hc2_3 hc2_4
 go_wp2
 go_end0
 exact ⟨rfl, by rw [HE.out]; exact HW3.out, HK3.out⟩
end Go.Proofs.YtiocgaekoeekgaaGreat.P
end
section
namespace Go.Proofs.YtiocgaekoeekgaaGreat.P
open Go.RowKit Go.Proofs.YtiocgaekoeekgaaGreatW.PrintWords Go.Proofs.YtiocgaekoeekgaaGreatW.PrintLast Go.Proofs.YtiocgaekoeekgaaGreatW.PrintMore
attribute [local go_sem] max2_int min2_int max_two min_two max_three min_three max_four min_four   
set_option linter.unusedVariables false
set_option linter.unusedSimpArgs false
attribute [local go_sem] Oper.semAt_some
def list8 {α : Type} (f : α → List Int) (l : List α) : List Int := nums8 [(l.length : Int)] ++ l.flatMap f
theorem flat8_take {α : Type} (f : α → List Int) (l : List α) (i : Nat) (hi : i < l.length) : (l.take (i + 1)).flatMap f = (l.take i).flatMap f ++ f l[i] := by
 rw [List.take_succ_eq_append_getElem hi, List.flatMap_append]
 simp
theorem flat8_le {α : Type} (f : α → List Int) (l : List α) (i : Nat) (hi : i < l.length) : ((l.take i).flatMap f).length + (f l[i]).length ≤ (l.flatMap f).length := by
 have h1 := flat8_take f l i hi
 have h2 : l.flatMap f = (l.take (i + 1)).flatMap f ++ (l.drop (i + 1)).flatMap f := by rw [← List.flatMap_append, List.take_append_drop]
 rw [h2, h1, List.length_append, List.length_append]
 omega
set_option maxHeartbeats 4000000 in
set_option maxRecDepth 100000 in
theorem listE_walk (w0 : World) (g : Nat) (bs : List Int) (A : Option Addr) (c : Nat) (l : List S46) (W : World) (h : WrAt w0 g bs W) (hr : Kd.C k46 w0 A l.length l) (hc : l.length ≤ c) (hlen : bs.length + (list8 ent8 l).length ≤ 1000000000000) :
  Calls Tryz.prog 76 #[.pointer (some ⟨g, 0, none⟩), .slice A l.length c, .func (.func 77) #[.pointer (some ⟨g, 0, none⟩)] #[]] W fun e W' => e = .returned (.tuple #[]) ∧ WrAt w0 g (bs ++ list8 ent8 l) W' ∧ Kept8 g W W' := by
 have hl0 : (list8 ent8 l).length = 8 + (l.flatMap ent8).length := by unfold list8; rw [List.length_append, nums8_len]; rfl
 rw [hl0] at hlen
 have hnum := number_lit w0 g bs [(l.length : Int)] W h (by simp) (by simp; omega)
 have HN := Aside0.mk hnum
 have HLN := Aside0.mk hlen
 have HR := Aside0.mk hr
 have hbn : l.length ≤ 9223372036854775807 := hr.2.1
 have HE : Aside0 (bs ++ list8 ent8 l = bs ++ nums8 [(l.length : Int)] ++ (l.take l.length).flatMap ent8) := ⟨by rw [List.take_length]; unfold list8; rw [List.append_assoc]⟩
 clear hnum h hlen hl0 hr
 go_enter Tryz.func76, Tryz.ntmps76
 go_wp2_with fail
 refine HN.out.mono ?_
 rintro e w1 ⟨rfl, hW, hK⟩
 have HD : Aside0 ((bs ++ nums8 [(l.length : Int)]).length = bs.length + 8) := ⟨by rw [List.length_append, nums8_len]; rfl⟩
 generalize bs ++ nums8 [(l.length : Int)] = D at *
 have HW0 : Aside0 (WrAt w0 g (D ++ (l.take 0).flatMap ent8) w1) := ⟨by rw [List.take_zero]; show WrAt w0 g (D ++ []) w1; rw [List.append_nil]; exact hW⟩
 have HK0 := Aside0.mk hK
 clear hW hK HN
 go_wp2
 go_loopg [15] l.length (fun gg s15 wr => ∃ i : Nat, i ≤ l.length ∧ l.length - i ≤ gg ∧ s15 = .int .i64 i ∧ Aside0 (WrAt w0 g (D ++ (l.take i).flatMap ent8) wr) ∧ Aside0 (Kept8 g W wr))
 case atStart => exact ⟨0, by omega, by omega, rfl, HW0, HK0⟩
 case round =>
  clear HW0 HK0
  obtain ⟨i, hi, hgg, rfl, HW, HK⟩ := hrel
  by_cases hil : i < l.length
  ·have hilz : (i : Int) < (l.length : Int) := by omega
   obtain ⟨ad, hA, h0, h1, h2⟩ := at_T46 HR.out (i : Int) (by omega) hilz
   subst hA
   have hy : rd_T46 l (i : Int) = l[i] := by
    show l.getD (i : Int).toNat _ = _
    rw [Int.toNat_natCast, List.getD_eq_getElem?_getD, List.getElem?_eq_getElem hil]
    rfl
   have hsn := flat8_take ent8 l i hil
   have hle := flat8_le ent8 l i hil
   rw [← hy] at hsn hle
   generalize rd_T46 l (i : Int) = y at *
   rw [Int.toNat_natCast] at h0 h1 h2
   replace h0 := pw_cell_below HW.out.below h0
   replace h1 := pw_cell_below HW.out.below h1
   replace h2 := pw_cell_below HW.out.below h2
   have HSN := Aside0.mk hsn
   have hlb : (D ++ (l.take i).flatMap ent8).length + (ent8 y).length ≤ 1000000000000 := by rw [List.length_append, HD.out]; have := HLN.out; omega
   have HLB := Aside0.mk hlb
   have HW1 := Aside0.mk (HW.out.grow (below_alloc (Below.refl _ _) (.cells #[.string y.f0, .int .i64 y.f1, .int .i64 y.f2] 46)))
   have HK1 := Aside0.mk (HK.out.trans (Kept8.below (g := g) (below_alloc (Below.refl wr.heap.size wr) (.cells #[.string y.f0, .int .i64 y.f1, .int .i64 y.f2] 46))))
   obtain ⟨E, hE⟩ : ∃ E, E = D ++ (l.take i).flatMap ent8 := ⟨_, rfl⟩
   rw [← hE] at HW1 HLB
   have HEE := Aside0.mk hE
   clear hy hsn hle hlb HW HK hE
   go_wp2_with fail
   refine (entry5_walk w0 g E y _ HW1.out HLB.out).mono ?_
   rintro e w2 ⟨rfl, hW, hK⟩
   have HW2 : Aside0 (WrAt w0 g (D ++ (l.take (i + 1)).flatMap ent8) w2) := ⟨by rw [HSN.out, ← List.append_assoc, ← HEE.out]; exact hW⟩
   have HK2 := Aside0.mk (HK1.out.trans hK)
   clear hW hK HW1 HK1 h0 h1 h2
   go_wp2
   go_roundg (l.length - (i + 1))
   case measure => omega
   case rel => exact ⟨i + 1, by omega, by omega, by go_num, HW2, HK2⟩
  ·have he : i = l.length := by omega
   have hilz : decide ((i : Int) < (l.length : Int)) = false := by simp; omega
   rw [he] at HW
   clear he
   go_wp2
   go_end0
   exact ⟨rfl, by rw [HE.out]; exact HW.out, HK.out⟩
set_option maxHeartbeats 4000000 in
set_option maxRecDepth 100000 in
theorem listR_walk (w0 : World) (g : Nat) (bs : List Int) (A : Option Addr) (c : Nat) (l : List S56) (W : World) (h : WrAt w0 g bs W) (hr : Kd.C k56 w0 A l.length l) (hc : l.length ≤ c) (hlen : bs.length + (list8 rule8 l).length ≤ 1000000000000) :
  Calls Tryz.prog 78 #[.pointer (some ⟨g, 0, none⟩), .slice A l.length c, .func (.func 79) #[.pointer (some ⟨g, 0, none⟩)] #[]] W fun e W' => e = .returned (.tuple #[]) ∧ WrAt w0 g (bs ++ list8 rule8 l) W' ∧ Kept8 g W W' := by
 have hl0 : (list8 rule8 l).length = 8 + (l.flatMap rule8).length := by unfold list8; rw [List.length_append, nums8_len]; rfl
 rw [hl0] at hlen
 have hnum := number_lit w0 g bs [(l.length : Int)] W h (by simp) (by simp; omega)
 have HN := Aside0.mk hnum
 have HLN := Aside0.mk hlen
 have HR := Aside0.mk hr
 have hbn : l.length ≤ 9223372036854775807 := hr.2.1
 have HE : Aside0 (bs ++ list8 rule8 l = bs ++ nums8 [(l.length : Int)] ++ (l.take l.length).flatMap rule8) := ⟨by rw [List.take_length]; unfold list8; rw [List.append_assoc]⟩
 clear hnum h hlen hl0 hr
 go_enter Tryz.func78, Tryz.ntmps78
 go_wp2_with fail
 refine HN.out.mono ?_
 rintro e w1 ⟨rfl, hW, hK⟩
 have HD : Aside0 ((bs ++ nums8 [(l.length : Int)]).length = bs.length + 8) := ⟨by rw [List.length_append, nums8_len]; rfl⟩
 generalize bs ++ nums8 [(l.length : Int)] = D at *
 have HW0 : Aside0 (WrAt w0 g (D ++ (l.take 0).flatMap rule8) w1) := ⟨by rw [List.take_zero]; show WrAt w0 g (D ++ []) w1; rw [List.append_nil]; exact hW⟩
 have HK0 := Aside0.mk hK
 clear hW hK HN
 go_wp2
 go_loopg [15] l.length (fun gg s15 wr => ∃ i : Nat, i ≤ l.length ∧ l.length - i ≤ gg ∧ s15 = .int .i64 i ∧ Aside0 (WrAt w0 g (D ++ (l.take i).flatMap rule8) wr) ∧ Aside0 (Kept8 g W wr))
 case atStart => exact ⟨0, by omega, by omega, rfl, HW0, HK0⟩
 case round =>
  clear HW0 HK0
  obtain ⟨i, hi, hgg, rfl, HW, HK⟩ := hrel
  by_cases hil : i < l.length
  ·have hilz : (i : Int) < (l.length : Int) := by omega
   obtain ⟨ad, A1, c1, A3, c3, hA, h0, h1, h2, h3, h4, l1, g1, l3, g3⟩ := at_T56 HR.out (i : Int) (by omega) hilz
   subst hA
   have hy : rd_T56 l (i : Int) = l[i] := by
    show l.getD (i : Int).toNat _ = _
    rw [Int.toNat_natCast, List.getD_eq_getElem?_getD, List.getElem?_eq_getElem hil]
    rfl
   have hsn := flat8_take rule8 l i hil
   have hle := flat8_le rule8 l i hil
   rw [← hy] at hsn hle
   generalize rd_T56 l (i : Int) = y at *
   rw [Int.toNat_natCast] at h0 h1 h2 h3 h4
   replace h0 := pw_cell_below HW.out.below h0
   replace h1 := pw_cell_below HW.out.below h1
   replace h2 := pw_cell_below HW.out.below h2
   replace h3 := pw_cell_below HW.out.below h3
   replace h4 := pw_cell_below HW.out.below h4
   have HSN := Aside0.mk hsn
   have hlb : (D ++ (l.take i).flatMap rule8).length + (rule8 y).length ≤ 1000000000000 := by rw [List.length_append, HD.out]; have := HLN.out; omega
   have HLB := Aside0.mk hlb
   have HW1 := Aside0.mk (HW.out.grow (below_alloc (Below.refl _ _) (.cells #[.int .i64 y.f0, .slice A1 y.f1.length c1, .int .i64 y.f2.f0, .slice A3 y.f2.f1.length c3, .int .i64 y.f3] 56)))
   have HK1 := Aside0.mk (HK.out.trans (Kept8.below (g := g) (below_alloc (Below.refl wr.heap.size wr) (.cells #[.int .i64 y.f0, .slice A1 y.f1.length c1, .int .i64 y.f2.f0, .slice A3 y.f2.f1.length c3, .int .i64 y.f3] 56))))
   obtain ⟨E, hE⟩ : ∃ E, E = D ++ (l.take i).flatMap rule8 := ⟨_, rfl⟩
   rw [← hE] at HW1 HLB
   have HEE := Aside0.mk hE
   clear hy hsn hle hlb HW HK hE
   go_wp2_with fail
   refine (rule5_write w0 g E y A1 c1 A3 c3 _ HW1.out g1 l1 g3 l3 HLB.out).mono ?_
   rintro e w2 ⟨rfl, hW, hK⟩
   have HW2 : Aside0 (WrAt w0 g (D ++ (l.take (i + 1)).flatMap rule8) w2) := ⟨by rw [HSN.out, ← List.append_assoc, ← HEE.out]; exact hW⟩
   have HK2 := Aside0.mk (HK1.out.trans hK)
   clear hW hK HW1 HK1 h0 h1 h2 h3 h4
   go_wp2
   go_roundg (l.length - (i + 1))
   case measure => omega
   case rel => exact ⟨i + 1, by omega, by omega, by go_num, HW2, HK2⟩
  ·have he : i = l.length := by omega
   have hilz : decide ((i : Int) < (l.length : Int)) = false := by simp; omega
   rw [he] at HW
   clear he
   go_wp2
   go_end0
   exact ⟨rfl, by rw [HE.out]; exact HW.out, HK.out⟩
set_option maxHeartbeats 4000000 in
set_option maxRecDepth 100000 in
theorem listP_walk (w0 : World) (g : Nat) (bs : List Int) (A : Option Addr) (c : Nat) (l : List S48) (W : World) (h : WrAt w0 g bs W) (hr : Kd.C k48 w0 A l.length l) (hc : l.length ≤ c) (hlen : bs.length + (list8 part8 l).length ≤ 1000000000000) :
  Calls Tryz.prog 124 #[.pointer (some ⟨g, 0, none⟩), .slice A l.length c, .func (.func 125) #[.pointer (some ⟨g, 0, none⟩)] #[]] W fun e W' => e = .returned (.tuple #[]) ∧ WrAt w0 g (bs ++ list8 part8 l) W' ∧ Kept8 g W W' := by
 have hl0 : (list8 part8 l).length = 8 + (l.flatMap part8).length := by unfold list8; rw [List.length_append, nums8_len]; rfl
 rw [hl0] at hlen
 have hnum := number_lit w0 g bs [(l.length : Int)] W h (by simp) (by simp; omega)
 have HN := Aside0.mk hnum
 have HLN := Aside0.mk hlen
 have HR := Aside0.mk hr
 have hbn : l.length ≤ 9223372036854775807 := hr.2.1
 have HE : Aside0 (bs ++ list8 part8 l = bs ++ nums8 [(l.length : Int)] ++ (l.take l.length).flatMap part8) := ⟨by rw [List.take_length]; unfold list8; rw [List.append_assoc]⟩
 clear hnum h hlen hl0 hr
 go_enter Tryz.func124, Tryz.ntmps124
 go_wp2_with fail
 refine HN.out.mono ?_
 rintro e w1 ⟨rfl, hW, hK⟩
 have HD : Aside0 ((bs ++ nums8 [(l.length : Int)]).length = bs.length + 8) := ⟨by rw [List.length_append, nums8_len]; rfl⟩
 generalize bs ++ nums8 [(l.length : Int)] = D at *
 have HW0 : Aside0 (WrAt w0 g (D ++ (l.take 0).flatMap part8) w1) := ⟨by rw [List.take_zero]; show WrAt w0 g (D ++ []) w1; rw [List.append_nil]; exact hW⟩
 have HK0 := Aside0.mk hK
 clear hW hK HN
 go_wp2
 go_loopg [15] l.length (fun gg s15 wr => ∃ i : Nat, i ≤ l.length ∧ l.length - i ≤ gg ∧ s15 = .int .i64 i ∧ Aside0 (WrAt w0 g (D ++ (l.take i).flatMap part8) wr) ∧ Aside0 (Kept8 g W wr))
 case atStart => exact ⟨0, by omega, by omega, rfl, HW0, HK0⟩
 case round =>
  clear HW0 HK0
  obtain ⟨i, hi, hgg, rfl, HW, HK⟩ := hrel
  by_cases hil : i < l.length
  ·have hilz : (i : Int) < (l.length : Int) := by omega
   obtain ⟨ad, hA, h0, h1, h2, h3, h4⟩ := at_T48 HR.out (i : Int) (by omega) hilz
   subst hA
   have hy : rd_T48 l (i : Int) = l[i] := by
    show l.getD (i : Int).toNat _ = _
    rw [Int.toNat_natCast, List.getD_eq_getElem?_getD, List.getElem?_eq_getElem hil]
    rfl
   have hsn := flat8_take part8 l i hil
   have hle := flat8_le part8 l i hil
   rw [← hy] at hsn hle
   generalize rd_T48 l (i : Int) = y at *
   rw [Int.toNat_natCast] at h0 h1 h2 h3 h4
   replace h0 := pw_cell_below HW.out.below h0
   replace h1 := pw_cell_below HW.out.below h1
   replace h2 := pw_cell_below HW.out.below h2
   replace h3 := pw_cell_below HW.out.below h3
   replace h4 := pw_cell_below HW.out.below h4
   have HSN := Aside0.mk hsn
   have hlb : (D ++ (l.take i).flatMap part8).length + (part8 y).length ≤ 1000000000000 := by rw [List.length_append, HD.out]; have := HLN.out; omega
   have HLB := Aside0.mk hlb
   have HW1 := Aside0.mk (HW.out.grow (below_alloc (Below.refl _ _) (.cells #[.int .i64 y.f0, .string y.f1, .int .i64 y.f2, .int .i64 y.f3, .int .i64 y.f4] 48)))
   have HK1 := Aside0.mk (HK.out.trans (Kept8.below (g := g) (below_alloc (Below.refl wr.heap.size wr) (.cells #[.int .i64 y.f0, .string y.f1, .int .i64 y.f2, .int .i64 y.f3, .int .i64 y.f4] 48))))
   obtain ⟨E, hE⟩ : ∃ E, E = D ++ (l.take i).flatMap part8 := ⟨_, rfl⟩
   rw [← hE] at HW1 HLB
   have HEE := Aside0.mk hE
   clear hy hsn hle hlb HW HK hE
   go_wp2_with fail
   refine (part5_walk w0 g E y _ HW1.out HLB.out).mono ?_
   rintro e w2 ⟨rfl, hW, hK⟩
   have HW2 : Aside0 (WrAt w0 g (D ++ (l.take (i + 1)).flatMap part8) w2) := ⟨by rw [HSN.out, ← List.append_assoc, ← HEE.out]; exact hW⟩
   have HK2 := Aside0.mk (HK1.out.trans hK)
   clear hW hK HW1 HK1 h0 h1 h2 h3 h4
   go_wp2
   go_roundg (l.length - (i + 1))
   case measure => omega
   case rel => exact ⟨i + 1, by omega, by omega, by go_num, HW2, HK2⟩
  ·have he : i = l.length := by omega
   have hilz : decide ((i : Int) < (l.length : Int)) = false := by simp; omega
   rw [he] at HW
   clear he
   go_wp2
   go_end0
   exact ⟨rfl, by rw [HE.out]; exact HW.out, HK.out⟩
end Go.Proofs.YtiocgaekoeekgaaGreat.P
end
