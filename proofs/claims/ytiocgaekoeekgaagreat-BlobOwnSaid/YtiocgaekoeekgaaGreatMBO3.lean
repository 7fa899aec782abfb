/- What was resolved is its own: written to, it does not change the locales: BlobOwn answers true for all that it is given, with no condition. Part 3: contracts of the functions that the law reaches, and words for them. -/
import Derived.BigRegion
import Derived.Shelf.Utf8.AppendRunePlain
import Derived.Ground.NamesProg
import Derived.Test.YtiocgaekoeekgaaGreatProg
import Derived.Lib.OthersKept
import Derived.Laws.RangeAny
import Derived.Laws.RangeString
import Derived.WalkLawsBesides
import Derived.Test.YtiocgaekoeekgaaGreatMBO2
set_option maxHeartbeats 32000000
set_option maxRecDepth 100000
section
namespace Go.Proofs.YtiocgaekoeekgaaGreat.P
open Go.RowKit YtiocgaekoeekgaaGreatW.PrintWords YtiocgaekoeekgaaGreatW.PrintLast YtiocgaekoeekgaaGreatW.PrintMore
attribute [local go_sem] vb_ tb_ jc_ ic_ lb_ kb_ ub_ sb_   
set_option linter.unusedVariables false
set_option linter.unusedSimpArgs false
mutual
noncomputable def r4_Right.j0 : Nat → Bool → Int → List Int → Int → List Int → Int → Option (Bool)
 | 0, _, _, _, _, _, _ => none
 | k + 1, x36, x184000, x184001, x184002, x184003, x184004 => if x36 = true then (some false) else (r4_Right.l0 k 0 x184000 x184001 x184002 x184003 x184004)
noncomputable def r4_Right.l0 : Nat → Int → Int → List Int → Int → List Int → Int → Option (Bool)
 | 0, _, _, _, _, _, _ => none
 | k + 1, x3, x184000, x184001, x184002, x184003, x184004 => if x3 < (x184001.length : Int) then (if 0 ≤ x3 then (if (rd x184001 x3) ≥ 20 then (some false) else (if (rd x184001 x3) < (-61) then (some false) else (r4_Right.l0 k (wrap64 (x3 + 1)) x184000 x184001 x184002 x184003 x184004))) else (none)) else ((r4_wants.f k x184002).bind fun bt186 => (if (x184003.length : Int) < bt186.1 then (r4_Right.j2 k true x184000 x184001 x184002 x184003 x184004) else (r4_Right.j2 k (decide ((x184003.length : Int) > bt186.2)) x184000 x184001 x184002 x184003 x184004)))
noncomputable def r4_Right.j2 : Nat → Bool → Int → List Int → Int → List Int → Int → Option (Bool)
 | 0, _, _, _, _, _, _ => none
 | k + 1, x78, x184000, x184001, x184002, x184003, x184004 => if x78 = true then (some false) else (r4_Right.l1 k 0 x184000 x184001 x184002 x184003 x184004)
noncomputable def r4_Right.l1 : Nat → Int → Int → List Int → Int → List Int → Int → Option (Bool)
 | 0, _, _, _, _, _, _ => none
 | k + 1, x6, x184000, x184001, x184002, x184003, x184004 => if x6 < (x184003.length : Int) then (if 0 ≤ x6 then (if (rd x184003 x6) < 0 then (some false) else (if (rd x184003 x6) ≥ (x184001.length : Int) then (some false) else (r4_Right.l1 k (wrap64 (x6 + 1)) x184000 x184001 x184002 x184003 x184004))) else (none)) else (some true)
end
noncomputable def r4_Right.f (k : Nat) (a0_0 : Int) (l0_1 : List Int) (a0_2 : Int) (l0_3 : List Int) (a0_4 : Int) : Option (Bool) := if a0_0 < 0 then (r4_Right.j0 k true a0_0 l0_1 a0_2 l0_3 a0_4) else (if a0_0 ≥ 20 then (r4_Right.j0 k true a0_0 l0_1 a0_2 l0_3 a0_4) else (if (l0_1.length : Int) < 1 then (r4_Right.j0 k true a0_0 l0_1 a0_2 l0_3 a0_4) else (if (l0_1.length : Int) > 6 then (r4_Right.j0 k true a0_0 l0_1 a0_2 l0_3 a0_4) else (if a0_4 < 0 then (r4_Right.j0 k true a0_0 l0_1 a0_2 l0_3 a0_4) else (r4_Right.j0 k (decide (a0_4 > 100)) a0_0 l0_1 a0_2 l0_3 a0_4)))))
theorem r4_Right.calls (k : Nat) (a0_0 : Int) (A0_1 : Option Addr) (c0_1 : Nat) (l0_1 : List Int) (a0_2 : Int) (A0_3 : Option Addr) (c0_3 : Nat) (l0_3 : List Int) (a0_4 : Int) (r : Bool) (w : World) (hr0_1 : Kd.C (Kd.int .i64) w A0_1 l0_1.length l0_1) (hc0_1 : l0_1.length ≤ c0_1) (hr0_3 : Kd.C (Kd.int .i64) w A0_3 l0_3.length l0_3) (hc0_3 : l0_3.length ≤ c0_3) (h : r4_Right.f k a0_0 l0_1 a0_2 l0_3 a0_4 = some r) :
  Calls Tryz.prog 67 #[.agg #[.int .i64 a0_0, .slice A0_1 l0_1.length c0_1, .int .i64 a0_2, .slice A0_3 l0_3.length c0_3, .int .i64 a0_4]] w fun e w' => e = .returned (.bool r) ∧ Below w.heap.size w w' := by
 have hu56 := Tryz.underlying56
 have HR0_1 := aM_ hr0_1
 have HC0_1 := aM_ hc0_1
 clear hr0_1 hc0_1
 have HR0_3 := aM_ hr0_3
 have HC0_3 := aM_ hc0_3
 clear hr0_3 hc0_3
 have HB := aM_ (Below.refl w.heap.size w)
 have H : (if a0_0 < 0 then (r4_Right.j0 k true a0_0 l0_1 a0_2 l0_3 a0_4) else (if a0_0 ≥ 20 then (r4_Right.j0 k true a0_0 l0_1 a0_2 l0_3 a0_4) else (if (l0_1.length : Int) < 1 then (r4_Right.j0 k true a0_0 l0_1 a0_2 l0_3 a0_4) else (if (l0_1.length : Int) > 6 then (r4_Right.j0 k true a0_0 l0_1 a0_2 l0_3 a0_4) else (if a0_4 < 0 then (r4_Right.j0 k true a0_0 l0_1 a0_2 l0_3 a0_4) else (r4_Right.j0 k (decide (a0_4 > 100)) a0_0 l0_1 a0_2 l0_3 a0_4)))))) = some r := h
 clear h
 have HC2 := aM_ H
 clear H
 go_enter Tryz.func67, Tryz.ntmps67
 go_upto_region 1 with (first | ((with_reducible refine ld_ (N := 1) rfl ?_); (try (refine wf_ (by rfl) ?_; dsimp only)); refine te_ ?hg (N := 1) ?hd (cs := #[.int .i64 a0_0, .slice A0_1 l0_1.length c0_1, .int .i64 a0_2, .slice A0_3 l0_3.length c0_3, .int .i64 a0_4]) (t := 56) ?hr ?_; (case hd => rfl); (case hg => rfl); (case hr => first | (go_simp; done) | (go_simp; rfl)); intro gb183 hg w3 hbox hb; have n0_ := aM_ (fa_ (by repeat (first | (with_reducible first | exact HB.out | apply aa_ | apply ca_ | apply ga_) | exact HB.out)) hb); have n1_ := aM_ (hbox); have n2_ := aM_ ((by rw [hg]; exact (qa_ (by repeat (first | (with_reducible first | exact HB.out | apply aa_ | apply ca_ | apply ga_) | exact HB.out))) : w.heap.size ≤ gb183)); have n3_ := aM_ ((by rw [hg]; exact (qa_ (by repeat (first | (with_reducible first | exact HB.out | apply aa_ | apply ca_ | apply ga_) | exact HB.out))) : w.heap.size ≤ gb183)); clear HB; have HB := n0_; have BK183 := n1_; have GW183 := n2_; have GE183 := n3_; clear n0_ n1_ n2_ n3_; clear hb hbox hg))
 repeat (go_quiet (first | ((with_reducible refine ld_ (N := 1) rfl ?_); (try (refine wf_ (by rfl) ?_; dsimp only)); refine te_ ?hg (N := 1) ?hd (cs := #[.int .i64 a0_0, .slice A0_1 l0_1.length c0_1, .int .i64 a0_2, .slice A0_3 l0_3.length c0_3, .int .i64 a0_4]) (t := 56) ?hr ?_; (case hd => rfl); (case hg => rfl); (case hr => first | (go_simp; done) | (go_simp; rfl)); intro gb183 hg w3 hbox hb; have n0_ := aM_ (fa_ (by repeat (first | (with_reducible first | exact HB.out | apply aa_ | apply ca_ | apply ga_) | exact HB.out)) hb); have n1_ := aM_ (hbox); have n2_ := aM_ ((by rw [hg]; exact (qa_ (by repeat (first | (with_reducible first | exact HB.out | apply aa_ | apply ca_ | apply ga_) | exact HB.out))) : w.heap.size ≤ gb183)); have n3_ := aM_ ((by rw [hg]; exact (qa_ (by repeat (first | (with_reducible first | exact HB.out | apply aa_ | apply ca_ | apply ga_) | exact HB.out))) : w.heap.size ≤ gb183)); clear HB; have HB := n0_; have BK183 := n1_; have GW183 := n2_; have GE183 := n3_; clear n0_ n1_ n2_ n3_; clear hb hbox hg)); go_upto_region 1 with (first | ((with_reducible refine ld_ (N := 1) rfl ?_); (try (refine wf_ (by rfl) ?_; dsimp only)); refine te_ ?hg (N := 1) ?hd (cs := #[.int .i64 a0_0, .slice A0_1 l0_1.length c0_1, .int .i64 a0_2, .slice A0_3 l0_3.length c0_3, .int .i64 a0_4]) (t := 56) ?hr ?_; (case hd => rfl); (case hg => rfl); (case hr => first | (go_simp; done) | (go_simp; rfl)); intro gb183 hg w3 hbox hb; have n0_ := aM_ (fa_ (by repeat (first | (with_reducible first | exact HB.out | apply aa_ | apply ca_ | apply ga_) | exact HB.out)) hb); have n1_ := aM_ (hbox); have n2_ := aM_ ((by rw [hg]; exact (qa_ (by repeat (first | (with_reducible first | exact HB.out | apply aa_ | apply ca_ | apply ga_) | exact HB.out))) : w.heap.size ≤ gb183)); have n3_ := aM_ ((by rw [hg]; exact (qa_ (by repeat (first | (with_reducible first | exact HB.out | apply aa_ | apply ca_ | apply ga_) | exact HB.out))) : w.heap.size ≤ gb183)); clear HB; have HB := n0_; have BK183 := n1_; have GW183 := n2_; have GE183 := n3_; clear n0_ n1_ n2_ n3_; clear hb hbox hg)))
 (try simp only [Act.put, s1_, s2_, s3_])
 go_cut [36] (fun v36 wc => ∃ (kq : Nat) (x36_1 : Bool), v36 = .bool x36_1 ∧ Az (r4_Right.j0 kq x36_1 a0_0 l0_1 a0_2 l0_3 a0_4 = some r) ∧ Az (kq ≤ k) ∧ Az (wc.heap[gb183]? = some (.cells #[.int .i64 a0_0, (.slice A0_1 l0_1.length c0_1), .int .i64 a0_2, (.slice A0_3 l0_3.length c0_3), .int .i64 a0_4] 56 (0, 0))) ∧ Az (Below w.heap.size w wc))
 case first =>
  have H := HC2.out; clear HC2
  by_cases c4 : a0_0 < 0
  ·rw [if_pos c4] at H
   have c4b0 : decide (a0_0 < 0) = true := decide_eq_true c4; clear c4
   (first | rw [c4b0] | (simp only [ia_, ja_]; rw [c4b0]) | skip)
   have H' := aM_ H; clear H; have hcz5_0 : w3.cell? ⟨gb183, 0, none⟩ = some (.int .i64 a0_0) := (ba_ BK183.out 0).trans rfl; have hcz5_1 : w3.cell? ⟨gb183, 1, none⟩ = some (.slice A0_1 l0_1.length c0_1) := (ba_ BK183.out 1).trans rfl; have hcz5_2 : w3.cell? ⟨gb183, 2, none⟩ = some (.int .i64 a0_2) := (ba_ BK183.out 2).trans rfl; have hcz5_3 : w3.cell? ⟨gb183, 3, none⟩ = some (.slice A0_3 l0_3.length c0_3) := (ba_ BK183.out 3).trans rfl; have hcz5_4 : w3.cell? ⟨gb183, 4, none⟩ = some (.int .i64 a0_4) := (ba_ BK183.out 4).trans rfl; have hfz5_0 := da_ BK183.out 0; have hfz5_1 := da_ BK183.out 1; have hfz5_2 := da_ BK183.out 2; have hfz5_3 := da_ BK183.out 3; have hfz5_4 := da_ BK183.out 4
   go_wp2
   repeat (go_quiet (fail); try go_wp2)
   go_meet
   case rel => exact ⟨_, (true), (by first | rfl | (simp; done) | (simp [*]; done)), H', ⟨by first | omega | exact Nat.le_refl _⟩, ⟨by (with_reducible repeat (first | refine la_ ?_ _ | refine ma_ ?_ | refine ka_ ?_ _)); exact BK183.out⟩, ⟨by repeat (first | (with_reducible first | exact HB.out | apply aa_ | apply ca_ | apply ga_ | refine na_ ?_ GE183.out) | exact HB.out)⟩⟩
  rw [if_neg c4] at H; have c4b0 : decide (a0_0 < 0) = false := decide_eq_false c4; clear c4
  (first | rw [c4b0] | (simp only [ia_, ja_]; rw [c4b0]) | skip)
  by_cases c6 : a0_0 ≥ 20
  ·rw [if_pos c6] at H
   have c6b0 : decide (20 ≤ a0_0) = true := decide_eq_true c6; clear c6; have H' := aM_ H; clear H; have hcz7_0 : w3.cell? ⟨gb183, 0, none⟩ = some (.int .i64 a0_0) := (ba_ BK183.out 0).trans rfl; have hcz7_1 : w3.cell? ⟨gb183, 1, none⟩ = some (.slice A0_1 l0_1.length c0_1) := (ba_ BK183.out 1).trans rfl; have hcz7_2 : w3.cell? ⟨gb183, 2, none⟩ = some (.int .i64 a0_2) := (ba_ BK183.out 2).trans rfl; have hcz7_3 : w3.cell? ⟨gb183, 3, none⟩ = some (.slice A0_3 l0_3.length c0_3) := (ba_ BK183.out 3).trans rfl; have hcz7_4 : w3.cell? ⟨gb183, 4, none⟩ = some (.int .i64 a0_4) := (ba_ BK183.out 4).trans rfl; have hfz7_0 := da_ BK183.out 0; have hfz7_1 := da_ BK183.out 1; have hfz7_2 := da_ BK183.out 2; have hfz7_3 := da_ BK183.out 3; have hfz7_4 := da_ BK183.out 4
   go_wp2
   repeat (go_quiet (fail); try go_wp2)
   go_meet
   case rel => exact ⟨_, (true), (by first | rfl | (simp; done) | (simp [*]; done)), H', ⟨by first | omega | exact Nat.le_refl _⟩, ⟨by (with_reducible repeat (first | refine la_ ?_ _ | refine ma_ ?_ | refine ka_ ?_ _)); exact BK183.out⟩, ⟨by repeat (first | (with_reducible first | exact HB.out | apply aa_ | apply ca_ | apply ga_ | refine na_ ?_ GE183.out) | exact HB.out)⟩⟩
  rw [if_neg c6] at H; have c6b0 : decide (20 ≤ a0_0) = false := decide_eq_false c6; clear c6
  by_cases c8 : (l0_1.length : Int) < 1
  ·rw [if_pos c8] at H
   have c8b0 : decide ((l0_1.length : Int) < 1) = true := decide_eq_true c8; have c8b1 : decide (l0_1.length < 1) = true := decide_eq_true (by omega); clear c8; have H' := aM_ H; clear H; have hcz9_0 : w3.cell? ⟨gb183, 0, none⟩ = some (.int .i64 a0_0) := (ba_ BK183.out 0).trans rfl; have hcz9_1 : w3.cell? ⟨gb183, 1, none⟩ = some (.slice A0_1 l0_1.length c0_1) := (ba_ BK183.out 1).trans rfl; have hcz9_2 : w3.cell? ⟨gb183, 2, none⟩ = some (.int .i64 a0_2) := (ba_ BK183.out 2).trans rfl; have hcz9_3 : w3.cell? ⟨gb183, 3, none⟩ = some (.slice A0_3 l0_3.length c0_3) := (ba_ BK183.out 3).trans rfl; have hcz9_4 : w3.cell? ⟨gb183, 4, none⟩ = some (.int .i64 a0_4) := (ba_ BK183.out 4).trans rfl; have hfz9_0 := da_ BK183.out 0; have hfz9_1 := da_ BK183.out 1; have hfz9_2 := da_ BK183.out 2; have hfz9_3 := da_ BK183.out 3; have hfz9_4 := da_ BK183.out 4
   go_wp2
   repeat (go_quiet (fail); try go_wp2)
   go_meet
   case rel => exact ⟨_, (true), (by first | rfl | (simp; done) | (simp [*]; done)), H', ⟨by first | omega | exact Nat.le_refl _⟩, ⟨by (with_reducible repeat (first | refine la_ ?_ _ | refine ma_ ?_ | refine ka_ ?_ _)); exact BK183.out⟩, ⟨by repeat (first | (with_reducible first | exact HB.out | apply aa_ | apply ca_ | apply ga_ | refine na_ ?_ GE183.out) | exact HB.out)⟩⟩
  rw [if_neg c8] at H; have c8b0 : decide ((l0_1.length : Int) < 1) = false := decide_eq_false c8; have c8b1 : decide (l0_1.length < 1) = false := decide_eq_false (by omega); clear c8
  by_cases c10 : (l0_1.length : Int) > 6
  ·rw [if_pos c10] at H
   have c10b0 : decide (6 < (l0_1.length : Int)) = true := decide_eq_true c10; have c10b1 : decide (6 < l0_1.length) = true := decide_eq_true (by omega); clear c10; have H' := aM_ H; clear H; have hcz11_0 : w3.cell? ⟨gb183, 0, none⟩ = some (.int .i64 a0_0) := (ba_ BK183.out 0).trans rfl; have hcz11_1 : w3.cell? ⟨gb183, 1, none⟩ = some (.slice A0_1 l0_1.length c0_1) := (ba_ BK183.out 1).trans rfl; have hcz11_2 : w3.cell? ⟨gb183, 2, none⟩ = some (.int .i64 a0_2) := (ba_ BK183.out 2).trans rfl; have hcz11_3 : w3.cell? ⟨gb183, 3, none⟩ = some (.slice A0_3 l0_3.length c0_3) := (ba_ BK183.out 3).trans rfl; have hcz11_4 : w3.cell? ⟨gb183, 4, none⟩ = some (.int .i64 a0_4) := (ba_ BK183.out 4).trans rfl; have hfz11_0 := da_ BK183.out 0; have hfz11_1 := da_ BK183.out 1; have hfz11_2 := da_ BK183.out 2; have hfz11_3 := da_ BK183.out 3; have hfz11_4 := da_ BK183.out 4
   go_wp2
   repeat (go_quiet (fail); try go_wp2)
   go_meet
   case rel => exact ⟨_, (true), (by first | rfl | (simp; done) | (simp [*]; done)), H', ⟨by first | omega | exact Nat.le_refl _⟩, ⟨by (with_reducible repeat (first | refine la_ ?_ _ | refine ma_ ?_ | refine ka_ ?_ _)); exact BK183.out⟩, ⟨by repeat (first | (with_reducible first | exact HB.out | apply aa_ | apply ca_ | apply ga_ | refine na_ ?_ GE183.out) | exact HB.out)⟩⟩
  rw [if_neg c10] at H; have c10b0 : decide (6 < (l0_1.length : Int)) = false := decide_eq_false c10; have c10b1 : decide (6 < l0_1.length) = false := decide_eq_false (by omega); clear c10
  by_cases c12 : a0_4 < 0
  ·rw [if_pos c12] at H
   have c12b0 : decide (a0_4 < 0) = true := decide_eq_true c12; clear c12; have H' := aM_ H; clear H; have hcz13_0 : w3.cell? ⟨gb183, 0, none⟩ = some (.int .i64 a0_0) := (ba_ BK183.out 0).trans rfl; have hcz13_1 : w3.cell? ⟨gb183, 1, none⟩ = some (.slice A0_1 l0_1.length c0_1) := (ba_ BK183.out 1).trans rfl; have hcz13_2 : w3.cell? ⟨gb183, 2, none⟩ = some (.int .i64 a0_2) := (ba_ BK183.out 2).trans rfl; have hcz13_3 : w3.cell? ⟨gb183, 3, none⟩ = some (.slice A0_3 l0_3.length c0_3) := (ba_ BK183.out 3).trans rfl; have hcz13_4 : w3.cell? ⟨gb183, 4, none⟩ = some (.int .i64 a0_4) := (ba_ BK183.out 4).trans rfl; have hfz13_0 := da_ BK183.out 0; have hfz13_1 := da_ BK183.out 1; have hfz13_2 := da_ BK183.out 2; have hfz13_3 := da_ BK183.out 3; have hfz13_4 := da_ BK183.out 4
   go_wp2
   repeat (go_quiet (fail); try go_wp2)
   go_meet
   case rel => exact ⟨_, (true), (by first | rfl | (simp; done) | (simp [*]; done)), H', ⟨by first | omega | exact Nat.le_refl _⟩, ⟨by (with_reducible repeat (first | refine la_ ?_ _ | refine ma_ ?_ | refine ka_ ?_ _)); exact BK183.out⟩, ⟨by repeat (first | (with_reducible first | exact HB.out | apply aa_ | apply ca_ | apply ga_ | refine na_ ?_ GE183.out) | exact HB.out)⟩⟩
  rw [if_neg c12] at H; have c12b0 : decide (a0_4 < 0) = false := decide_eq_false c12; clear c12; have H' := aM_ H; clear H; have hcz14_0 : w3.cell? ⟨gb183, 0, none⟩ = some (.int .i64 a0_0) := (ba_ BK183.out 0).trans rfl; have hcz14_1 : w3.cell? ⟨gb183, 1, none⟩ = some (.slice A0_1 l0_1.length c0_1) := (ba_ BK183.out 1).trans rfl; have hcz14_2 : w3.cell? ⟨gb183, 2, none⟩ = some (.int .i64 a0_2) := (ba_ BK183.out 2).trans rfl; have hcz14_3 : w3.cell? ⟨gb183, 3, none⟩ = some (.slice A0_3 l0_3.length c0_3) := (ba_ BK183.out 3).trans rfl; have hcz14_4 : w3.cell? ⟨gb183, 4, none⟩ = some (.int .i64 a0_4) := (ba_ BK183.out 4).trans rfl; have hfz14_0 := da_ BK183.out 0; have hfz14_1 := da_ BK183.out 1; have hfz14_2 := da_ BK183.out 2; have hfz14_3 := da_ BK183.out 3; have hfz14_4 := da_ BK183.out 4
  go_wp2
  repeat (go_quiet (fail); try go_wp2)
  go_meet
  case rel => exact ⟨_, (decide (a0_4 > 100)), (by first | rfl | (simp; done) | (simp [*]; done)), H', ⟨by first | omega | exact Nat.le_refl _⟩, ⟨by (with_reducible repeat (first | refine la_ ?_ _ | refine ma_ ?_ | refine ka_ ?_ _)); exact BK183.out⟩, ⟨by repeat (first | (with_reducible first | exact HB.out | apply aa_ | apply ca_ | apply ga_ | refine na_ ?_ GE183.out) | exact HB.out)⟩⟩
 clear HC2
 obtain ⟨kq, x36_1, rfl, HA, HJ1, BK183, HB⟩ := hcut
 cases kq with
 | zero => exact absurd HA.out (by simp [r4_Right.j0])
 | succ kj1 =>
  have H := HA.out; clear HA; simp only [r4_Right.j0] at H
  by_cases c15 : x36_1 = true
  ·subst c15
   have H1 : (some false) = some r := by rw [if_pos rfl] at H; exact H
   clear H; have H := H1; clear H1; obtain rfl := Option.some.inj H
   go_wp2
   repeat (go_quiet (fail); try go_wp2)
   go_ret
   exact ⟨by first | rfl | (simp [eb_, db_] <;> rfl) | (simp [*, eb_, db_] <;> rfl), by repeat (first | (with_reducible first | exact HB.out | apply aa_ | apply ca_ | apply ga_ | refine na_ ?_ GE183.out) | exact HB.out)⟩
  replace c15 := Bool.eq_false_iff.mpr c15; subst c15; have H1 : (r4_Right.l0 kj1 0 a0_0 l0_1 a0_2 l0_3 a0_4) = some r := by rw [if_neg (show ¬ (false = true) by decide)] at H; exact H
  clear H; have H := H1; clear H1; have H' := aM_ H; clear H
  go_wp2
  repeat (go_quiet (fail); try go_wp2)
  go_loopg [3] kj1 (fun kq v3 w' => ∃ (x3_2 : Int), v3 = .int .i64 x3_2 ∧ Az (r4_Right.l0 kq x3_2 a0_0 l0_1 a0_2 l0_3 a0_4 = some r) ∧ Az (kq ≤ kj1) ∧ Az (w'.heap[gb183]? = some (.cells #[.int .i64 a0_0, (.slice A0_1 l0_1.length c0_1), .int .i64 a0_2, (.slice A0_3 l0_3.length c0_3), .int .i64 a0_4] 56 (0, 0))) ∧ Az (Below w.heap.size w w'))
  case atStart => exact ⟨(0), (by first | rfl | (simp; done) | (simp [*]; done)), H', ⟨Nat.le_refl _⟩, ⟨by (with_reducible repeat (first | refine la_ ?_ _ | refine ma_ ?_ | refine ka_ ?_ _)); exact BK183.out⟩, ⟨by repeat (first | (with_reducible first | exact HB.out | apply aa_ | apply ca_ | apply ga_ | refine na_ ?_ GE183.out) | exact HB.out)⟩⟩
  clear H'; obtain ⟨x3_2, rfl, HA, HK2, BK183, HB⟩ := hrel
  cases gk with
  | zero => exact absurd HA.out (by simp [r4_Right.l0])
  | succ k2 =>
   have H := HA.out; clear HA; simp only [r4_Right.l0] at H
   by_cases c16 : x3_2 < (l0_1.length : Int)
   ·rw [if_pos c16] at H
    have c16b0 : decide (x3_2 < (l0_1.length : Int)) = true := decide_eq_true c16; clear c16
    by_cases c17 : 0 ≤ x3_2
    ·rw [if_pos c17] at H
     have c17b0 : decide (0 ≤ x3_2) = true := decide_eq_true c17; clear c17
     by_cases c18 : (rd l0_1 x3_2) ≥ 20
     ·rw [if_pos c18] at H
      have c18b0 : decide (20 ≤ (rd l0_1 x3_2)) = true := decide_eq_true c18; clear c18; obtain rfl := Option.some.inj H; have hcz19_0 : wr.cell? ⟨gb183, 0, none⟩ = some (.int .i64 a0_0) := (ba_ BK183.out 0).trans rfl; have hcz19_1 : wr.cell? ⟨gb183, 1, none⟩ = some (.slice A0_1 l0_1.length c0_1) := (ba_ BK183.out 1).trans rfl; have hcz19_2 : wr.cell? ⟨gb183, 2, none⟩ = some (.int .i64 a0_2) := (ba_ BK183.out 2).trans rfl; have hcz19_3 : wr.cell? ⟨gb183, 3, none⟩ = some (.slice A0_3 l0_3.length c0_3) := (ba_ BK183.out 3).trans rfl; have hcz19_4 : wr.cell? ⟨gb183, 4, none⟩ = some (.int .i64 a0_4) := (ba_ BK183.out 4).trans rfl; have hfz19_0 := da_ BK183.out 0; have hfz19_1 := da_ BK183.out 1; have hfz19_2 := da_ BK183.out 2; have hfz19_3 := da_ BK183.out 3; have hfz19_4 := da_ BK183.out 4; have p184 : 0 ≤ (x3_2 : Int) := of_decide_eq_true (by first | (with_reducible assumption) | assumption); have q184 : x3_2 < (l0_1.length : Int) := of_decide_eq_true (by first | (with_reducible assumption) | assumption); obtain ⟨ad184, e184, hx184_0⟩ := Kd.at_int HR0_1.out x3_2 p184 q184
      cases e184
      replace hx184_0 := (HB.out.cell (World.block_lt_of_cell? w _ hx184_0)).trans hx184_0; replace p184 := eq_true p184; replace q184 := eq_true q184
      go_wp2
      repeat (go_quiet (fail); try go_wp2)
      go_ret
      exact ⟨by first | rfl | (simp [eb_, db_] <;> rfl) | (simp [*, eb_, db_] <;> rfl), by repeat (first | (with_reducible first | exact HB.out | apply aa_ | apply ca_ | apply ga_ | refine na_ ?_ GE183.out) | exact HB.out)⟩
     rw [if_neg c18] at H; have c18b0 : decide (20 ≤ (rd l0_1 x3_2)) = false := decide_eq_false c18; clear c18
     by_cases c20 : (rd l0_1 x3_2) < (-61)
     ·rw [if_pos c20] at H
      have c20b0 : decide ((rd l0_1 x3_2) < (-61)) = true := decide_eq_true c20; clear c20; obtain rfl := Option.some.inj H; have hcz21_0 : wr.cell? ⟨gb183, 0, none⟩ = some (.int .i64 a0_0) := (ba_ BK183.out 0).trans rfl; have hcz21_1 : wr.cell? ⟨gb183, 1, none⟩ = some (.slice A0_1 l0_1.length c0_1) := (ba_ BK183.out 1).trans rfl; have hcz21_2 : wr.cell? ⟨gb183, 2, none⟩ = some (.int .i64 a0_2) := (ba_ BK183.out 2).trans rfl; have hcz21_3 : wr.cell? ⟨gb183, 3, none⟩ = some (.slice A0_3 l0_3.length c0_3) := (ba_ BK183.out 3).trans rfl; have hcz21_4 : wr.cell? ⟨gb183, 4, none⟩ = some (.int .i64 a0_4) := (ba_ BK183.out 4).trans rfl; have hfz21_0 := da_ BK183.out 0; have hfz21_1 := da_ BK183.out 1; have hfz21_2 := da_ BK183.out 2; have hfz21_3 := da_ BK183.out 3; have hfz21_4 := da_ BK183.out 4; have p184 : 0 ≤ (x3_2 : Int) := of_decide_eq_true (by first | (with_reducible assumption) | assumption); have q184 : x3_2 < (l0_1.length : Int) := of_decide_eq_true (by first | (with_reducible assumption) | assumption); obtain ⟨ad184, e184, hx184_0⟩ := Kd.at_int HR0_1.out x3_2 p184 q184
      cases e184
      replace hx184_0 := (HB.out.cell (World.block_lt_of_cell? w _ hx184_0)).trans hx184_0; replace p184 := eq_true p184; replace q184 := eq_true q184; have p185 : 0 ≤ (x3_2 : Int) := of_decide_eq_true (by first | (with_reducible assumption) | assumption); have q185 : x3_2 < (l0_1.length : Int) := of_decide_eq_true (by first | (with_reducible assumption) | assumption); obtain ⟨ad185, e185, hx185_0⟩ := Kd.at_int HR0_1.out x3_2 p185 q185; obtain rfl : ad184 = ad185 := (by injection e185); replace hx185_0 := (HB.out.cell (World.block_lt_of_cell? w _ hx185_0)).trans hx185_0; replace p185 := eq_true p185; replace q185 := eq_true q185
      go_wp2
      repeat (go_quiet (fail); try go_wp2)
      go_ret
      exact ⟨by first | rfl | (simp [eb_, db_] <;> rfl) | (simp [*, eb_, db_] <;> rfl), by repeat (first | (with_reducible first | exact HB.out | apply aa_ | apply ca_ | apply ga_ | refine na_ ?_ GE183.out) | exact HB.out)⟩
     rw [if_neg c20] at H; have c20b0 : decide ((rd l0_1 x3_2) < (-61)) = false := decide_eq_false c20; clear c20; have H' := aM_ H; clear H; have hcz22_0 : wr.cell? ⟨gb183, 0, none⟩ = some (.int .i64 a0_0) := (ba_ BK183.out 0).trans rfl; have hcz22_1 : wr.cell? ⟨gb183, 1, none⟩ = some (.slice A0_1 l0_1.length c0_1) := (ba_ BK183.out 1).trans rfl; have hcz22_2 : wr.cell? ⟨gb183, 2, none⟩ = some (.int .i64 a0_2) := (ba_ BK183.out 2).trans rfl; have hcz22_3 : wr.cell? ⟨gb183, 3, none⟩ = some (.slice A0_3 l0_3.length c0_3) := (ba_ BK183.out 3).trans rfl; have hcz22_4 : wr.cell? ⟨gb183, 4, none⟩ = some (.int .i64 a0_4) := (ba_ BK183.out 4).trans rfl; have hfz22_0 := da_ BK183.out 0; have hfz22_1 := da_ BK183.out 1; have hfz22_2 := da_ BK183.out 2; have hfz22_3 := da_ BK183.out 3; have hfz22_4 := da_ BK183.out 4; have p184 : 0 ≤ (x3_2 : Int) := of_decide_eq_true (by first | (with_reducible assumption) | assumption); have q184 : x3_2 < (l0_1.length : Int) := of_decide_eq_true (by first | (with_reducible assumption) | assumption); obtain ⟨ad184, e184, hx184_0⟩ := Kd.at_int HR0_1.out x3_2 p184 q184
     cases e184
     replace hx184_0 := (HB.out.cell (World.block_lt_of_cell? w _ hx184_0)).trans hx184_0; replace p184 := eq_true p184; replace q184 := eq_true q184; have p185 : 0 ≤ (x3_2 : Int) := of_decide_eq_true (by first | (with_reducible assumption) | assumption); have q185 : x3_2 < (l0_1.length : Int) := of_decide_eq_true (by first | (with_reducible assumption) | assumption); obtain ⟨ad185, e185, hx185_0⟩ := Kd.at_int HR0_1.out x3_2 p185 q185; obtain rfl : ad184 = ad185 := (by injection e185); replace hx185_0 := (HB.out.cell (World.block_lt_of_cell? w _ hx185_0)).trans hx185_0; replace p185 := eq_true p185; replace q185 := eq_true q185
     go_wp2
     repeat (go_quiet (fail); try go_wp2)
     go_roundg k2
     case measure => have := HJ1.out; have := HK2.out; omega
     case rel => exact ⟨(wrap64 (x3_2 + 1)), (by first | rfl | (simp; done) | (simp [*]; done)), H', ⟨by have := HJ1.out; have := HK2.out; omega⟩, ⟨by (with_reducible repeat (first | refine la_ ?_ _ | refine ma_ ?_ | refine ka_ ?_ _)); exact BK183.out⟩, ⟨by repeat (first | (with_reducible first | exact HB.out | apply aa_ | apply ca_ | apply ga_ | refine na_ ?_ GE183.out) | exact HB.out)⟩⟩
    rw [if_neg c17] at H; exact absurd H (by simp)
   rw [if_neg c16] at H; have c16b0 : decide (x3_2 < (l0_1.length : Int)) = false := decide_eq_false c16; clear c16; replace H := Option.bind_eq_some_iff.mp H; obtain ⟨⟨t186, t187⟩, A230, H⟩ := H; replace H : (if (l0_3.length : Int) < t186 then (r4_Right.j2 k2 true a0_0 l0_1 a0_2 l0_3 a0_4) else (r4_Right.j2 k2 (decide ((l0_3.length : Int) > t187)) a0_0 l0_1 a0_2 l0_3 a0_4)) = some r := H; have A23 := aM_ A230; clear A230; have HC24 := aM_ H; clear H; have hcz25_0 : wr.cell? ⟨gb183, 0, none⟩ = some (.int .i64 a0_0) := (ba_ BK183.out 0).trans rfl; have hcz25_1 : wr.cell? ⟨gb183, 1, none⟩ = some (.slice A0_1 l0_1.length c0_1) := (ba_ BK183.out 1).trans rfl; have hcz25_2 : wr.cell? ⟨gb183, 2, none⟩ = some (.int .i64 a0_2) := (ba_ BK183.out 2).trans rfl; have hcz25_3 : wr.cell? ⟨gb183, 3, none⟩ = some (.slice A0_3 l0_3.length c0_3) := (ba_ BK183.out 3).trans rfl; have hcz25_4 : wr.cell? ⟨gb183, 4, none⟩ = some (.int .i64 a0_4) := (ba_ BK183.out 4).trans rfl; have hfz25_0 := da_ BK183.out 0; have hfz25_1 := da_ BK183.out 1; have hfz25_2 := da_ BK183.out 2; have hfz25_3 := da_ BK183.out 3; have hfz25_4 := da_ BK183.out 4
   go_upto_region 9 with (first | (go_at_call 116; (with_reducible refine (r4_wants.calls k2 a0_2 t186 t187 _ A23.out).mono ?_); rintro e w' ⟨rfl, ⟨nd, rfl⟩⟩; (try first | exact ⟨rfl, _, World.drewN_drewN _ _ _⟩ | exact ⟨rfl, _, Eq.trans (World.drewN_drewN _ _ _) (congrArg (World.drewN _) (Nat.add_assoc _ _ _))⟩)))
   repeat (go_quiet (first | (go_at_call 116; (with_reducible refine (r4_wants.calls k2 a0_2 t186 t187 _ A23.out).mono ?_); rintro e w' ⟨rfl, ⟨nd, rfl⟩⟩; (try first | exact ⟨rfl, _, World.drewN_drewN _ _ _⟩ | exact ⟨rfl, _, Eq.trans (World.drewN_drewN _ _ _) (congrArg (World.drewN _) (Nat.add_assoc _ _ _))⟩))); go_upto_region 9 with (first | (go_at_call 116; (with_reducible refine (r4_wants.calls k2 a0_2 t186 t187 _ A23.out).mono ?_); rintro e w' ⟨rfl, ⟨nd, rfl⟩⟩; (try first | exact ⟨rfl, _, World.drewN_drewN _ _ _⟩ | exact ⟨rfl, _, Eq.trans (World.drewN_drewN _ _ _) (congrArg (World.drewN _) (Nat.add_assoc _ _ _))⟩))))
   (try simp only [Act.put, s1_, s2_, s3_])
   go_cut [78] (fun v78 wc => ∃ (kq : Nat) (x78_23 : Bool), v78 = .bool x78_23 ∧ Az (r4_Right.j2 kq x78_23 a0_0 l0_1 a0_2 l0_3 a0_4 = some r) ∧ Az (kq ≤ k2) ∧ Az (wc.heap[gb183]? = some (.cells #[.int .i64 a0_0, (.slice A0_1 l0_1.length c0_1), .int .i64 a0_2, (.slice A0_3 l0_3.length c0_3), .int .i64 a0_4] 56 (0, 0))) ∧ Az (Below w.heap.size w wc))
   case first =>
    have H := HC24.out; clear HC24
    by_cases c26 : (l0_3.length : Int) < t186
    ·rw [if_pos c26] at H
     have c26b0 : decide ((l0_3.length : Int) < t186) = true := decide_eq_true c26; clear c26
     (first | rw [c26b0] | (simp only [ia_, ja_]; rw [c26b0]) | skip)
     have H' := aM_ H; clear H; have hcz27_0 : wr.cell? ⟨gb183, 0, none⟩ = some (.int .i64 a0_0) := (ba_ BK183.out 0).trans rfl; have hcz27_1 : wr.cell? ⟨gb183, 1, none⟩ = some (.slice A0_1 l0_1.length c0_1) := (ba_ BK183.out 1).trans rfl; have hcz27_2 : wr.cell? ⟨gb183, 2, none⟩ = some (.int .i64 a0_2) := (ba_ BK183.out 2).trans rfl; have hcz27_3 : wr.cell? ⟨gb183, 3, none⟩ = some (.slice A0_3 l0_3.length c0_3) := (ba_ BK183.out 3).trans rfl; have hcz27_4 : wr.cell? ⟨gb183, 4, none⟩ = some (.int .i64 a0_4) := (ba_ BK183.out 4).trans rfl; have hfz27_0 := da_ BK183.out 0; have hfz27_1 := da_ BK183.out 1; have hfz27_2 := da_ BK183.out 2; have hfz27_3 := da_ BK183.out 3; have hfz27_4 := da_ BK183.out 4
     go_wp2
     repeat (go_quiet (fail); try go_wp2)
     go_meet
     case rel => exact ⟨_, (true), (by first | rfl | (simp; done) | (simp [*]; done)), H', ⟨by have := HJ1.out; have := HK2.out; first | omega | exact Nat.le_refl _⟩, ⟨by (with_reducible repeat (first | refine la_ ?_ _ | refine ma_ ?_ | refine ka_ ?_ _)); exact BK183.out⟩, ⟨by repeat (first | (with_reducible first | exact HB.out | apply aa_ | apply ca_ | apply ga_ | refine na_ ?_ GE183.out) | exact HB.out)⟩⟩
    rw [if_neg c26] at H; have c26b0 : decide ((l0_3.length : Int) < t186) = false := decide_eq_false c26; clear c26
    (first | rw [c26b0] | (simp only [ia_, ja_]; rw [c26b0]) | skip)
    have H' := aM_ H; clear H; have hcz28_0 : wr.cell? ⟨gb183, 0, none⟩ = some (.int .i64 a0_0) := (ba_ BK183.out 0).trans rfl; have hcz28_1 : wr.cell? ⟨gb183, 1, none⟩ = some (.slice A0_1 l0_1.length c0_1) := (ba_ BK183.out 1).trans rfl; have hcz28_2 : wr.cell? ⟨gb183, 2, none⟩ = some (.int .i64 a0_2) := (ba_ BK183.out 2).trans rfl; have hcz28_3 : wr.cell? ⟨gb183, 3, none⟩ = some (.slice A0_3 l0_3.length c0_3) := (ba_ BK183.out 3).trans rfl; have hcz28_4 : wr.cell? ⟨gb183, 4, none⟩ = some (.int .i64 a0_4) := (ba_ BK183.out 4).trans rfl; have hfz28_0 := da_ BK183.out 0; have hfz28_1 := da_ BK183.out 1; have hfz28_2 := da_ BK183.out 2; have hfz28_3 := da_ BK183.out 3; have hfz28_4 := da_ BK183.out 4
    go_wp2
    repeat (go_quiet (fail); try go_wp2)
    go_meet
    case rel => exact ⟨_, (decide ((l0_3.length : Int) > t187)), (by first | rfl | (simp; done) | (simp [*]; done)), H', ⟨by have := HJ1.out; have := HK2.out; first | omega | exact Nat.le_refl _⟩, ⟨by (with_reducible repeat (first | refine la_ ?_ _ | refine ma_ ?_ | refine ka_ ?_ _)); exact BK183.out⟩, ⟨by repeat (first | (with_reducible first | exact HB.out | apply aa_ | apply ca_ | apply ga_ | refine na_ ?_ GE183.out) | exact HB.out)⟩⟩
   clear HC24; obtain ⟨kq, x78_23, rfl, HA, HJ23, BK183, HB⟩ := hcut
   cases kq with
   | zero => exact absurd HA.out (by simp [r4_Right.j2])
   | succ kj23 =>
    have H := HA.out; clear HA; simp only [r4_Right.j2] at H
    by_cases c29 : x78_23 = true
    ·subst c29
     have H1 : (some false) = some r := by rw [if_pos rfl] at H; exact H
     clear H; have H := H1; clear H1; obtain rfl := Option.some.inj H
     go_wp2
     repeat (go_quiet (fail); try go_wp2)
     go_ret
     exact ⟨by first | rfl | (simp [eb_, db_] <;> rfl) | (simp [*, eb_, db_] <;> rfl), by repeat (first | (with_reducible first | exact HB.out | apply aa_ | apply ca_ | apply ga_ | refine na_ ?_ GE183.out) | exact HB.out)⟩
    replace c29 := Bool.eq_false_iff.mpr c29; subst c29; have H1 : (r4_Right.l1 kj23 0 a0_0 l0_1 a0_2 l0_3 a0_4) = some r := by rw [if_neg (show ¬ (false = true) by decide)] at H; exact H
    clear H; have H := H1; clear H1; have H' := aM_ H; clear H
    go_wp2
    repeat (go_quiet (fail); try go_wp2)
    go_loopg [6] kj23 (fun kq v6 w' => ∃ (x6_4 : Int), v6 = .int .i64 x6_4 ∧ Az (r4_Right.l1 kq x6_4 a0_0 l0_1 a0_2 l0_3 a0_4 = some r) ∧ Az (kq ≤ kj23) ∧ Az (w'.heap[gb183]? = some (.cells #[.int .i64 a0_0, (.slice A0_1 l0_1.length c0_1), .int .i64 a0_2, (.slice A0_3 l0_3.length c0_3), .int .i64 a0_4] 56 (0, 0))) ∧ Az (Below w.heap.size w w'))
    case atStart => exact ⟨(0), (by first | rfl | (simp; done) | (simp [*]; done)), H', ⟨Nat.le_refl _⟩, ⟨by (with_reducible repeat (first | refine la_ ?_ _ | refine ma_ ?_ | refine ka_ ?_ _)); exact BK183.out⟩, ⟨by repeat (first | (with_reducible first | exact HB.out | apply aa_ | apply ca_ | apply ga_ | refine na_ ?_ GE183.out) | exact HB.out)⟩⟩
    clear H'; obtain ⟨x6_4, rfl, HA, HK4, BK183, HB⟩ := hrel
    cases gk with
    | zero => exact absurd HA.out (by simp [r4_Right.l1])
    | succ k4 =>
     have H := HA.out; clear HA; simp only [r4_Right.l1] at H
     by_cases c30 : x6_4 < (l0_3.length : Int)
     ·rw [if_pos c30] at H
      have c30b0 : decide (x6_4 < (l0_3.length : Int)) = true := decide_eq_true c30; clear c30
      by_cases c31 : 0 ≤ x6_4
      ·rw [if_pos c31] at H
       have c31b0 : decide (0 ≤ x6_4) = true := decide_eq_true c31; clear c31
       by_cases c32 : (rd l0_3 x6_4) < 0
       ·rw [if_pos c32] at H
        have c32b0 : decide ((rd l0_3 x6_4) < 0) = true := decide_eq_true c32; clear c32; obtain rfl := Option.some.inj H; have hcz33_0 : wr.cell? ⟨gb183, 0, none⟩ = some (.int .i64 a0_0) := (ba_ BK183.out 0).trans rfl; have hcz33_1 : wr.cell? ⟨gb183, 1, none⟩ = some (.slice A0_1 l0_1.length c0_1) := (ba_ BK183.out 1).trans rfl; have hcz33_2 : wr.cell? ⟨gb183, 2, none⟩ = some (.int .i64 a0_2) := (ba_ BK183.out 2).trans rfl; have hcz33_3 : wr.cell? ⟨gb183, 3, none⟩ = some (.slice A0_3 l0_3.length c0_3) := (ba_ BK183.out 3).trans rfl; have hcz33_4 : wr.cell? ⟨gb183, 4, none⟩ = some (.int .i64 a0_4) := (ba_ BK183.out 4).trans rfl; have hfz33_0 := da_ BK183.out 0; have hfz33_1 := da_ BK183.out 1; have hfz33_2 := da_ BK183.out 2; have hfz33_3 := da_ BK183.out 3; have hfz33_4 := da_ BK183.out 4; have p188 : 0 ≤ (x6_4 : Int) := of_decide_eq_true (by first | (with_reducible assumption) | assumption); have q188 : x6_4 < (l0_3.length : Int) := of_decide_eq_true (by first | (with_reducible assumption) | assumption); obtain ⟨ad188, e188, hx188_0⟩ := Kd.at_int HR0_3.out x6_4 p188 q188
        cases e188
        replace hx188_0 := (HB.out.cell (World.block_lt_of_cell? w _ hx188_0)).trans hx188_0; replace p188 := eq_true p188; replace q188 := eq_true q188
        go_wp2
        repeat (go_quiet (fail); try go_wp2)
        go_ret
        exact ⟨by first | rfl | (simp [eb_, db_] <;> rfl) | (simp [*, eb_, db_] <;> rfl), by repeat (first | (with_reducible first | exact HB.out | apply aa_ | apply ca_ | apply ga_ | refine na_ ?_ GE183.out) | exact HB.out)⟩
       rw [if_neg c32] at H; have c32b0 : decide ((rd l0_3 x6_4) < 0) = false := decide_eq_false c32; clear c32
       by_cases c34 : (rd l0_3 x6_4) ≥ (l0_1.length : Int)
       ·rw [if_pos c34] at H
        have c34b0 : decide ((l0_1.length : Int) ≤ (rd l0_3 x6_4)) = true := decide_eq_true c34; clear c34; obtain rfl := Option.some.inj H; have hcz35_0 : wr.cell? ⟨gb183, 0, none⟩ = some (.int .i64 a0_0) := (ba_ BK183.out 0).trans rfl; have hcz35_1 : wr.cell? ⟨gb183, 1, none⟩ = some (.slice A0_1 l0_1.length c0_1) := (ba_ BK183.out 1).trans rfl; have hcz35_2 : wr.cell? ⟨gb183, 2, none⟩ = some (.int .i64 a0_2) := (ba_ BK183.out 2).trans rfl; have hcz35_3 : wr.cell? ⟨gb183, 3, none⟩ = some (.slice A0_3 l0_3.length c0_3) := (ba_ BK183.out 3).trans rfl; have hcz35_4 : wr.cell? ⟨gb183, 4, none⟩ = some (.int .i64 a0_4) := (ba_ BK183.out 4).trans rfl; have hfz35_0 := da_ BK183.out 0; have hfz35_1 := da_ BK183.out 1; have hfz35_2 := da_ BK183.out 2; have hfz35_3 := da_ BK183.out 3; have hfz35_4 := da_ BK183.out 4; have p188 : 0 ≤ (x6_4 : Int) := of_decide_eq_true (by first | (with_reducible assumption) | assumption); have q188 : x6_4 < (l0_3.length : Int) := of_decide_eq_true (by first | (with_reducible assumption) | assumption); obtain ⟨ad188, e188, hx188_0⟩ := Kd.at_int HR0_3.out x6_4 p188 q188
        cases e188
        replace hx188_0 := (HB.out.cell (World.block_lt_of_cell? w _ hx188_0)).trans hx188_0; replace p188 := eq_true p188; replace q188 := eq_true q188; have p189 : 0 ≤ (x6_4 : Int) := of_decide_eq_true (by first | (with_reducible assumption) | assumption); have q189 : x6_4 < (l0_3.length : Int) := of_decide_eq_true (by first | (with_reducible assumption) | assumption); obtain ⟨ad189, e189, hx189_0⟩ := Kd.at_int HR0_3.out x6_4 p189 q189; obtain rfl : ad188 = ad189 := (by injection e189); replace hx189_0 := (HB.out.cell (World.block_lt_of_cell? w _ hx189_0)).trans hx189_0; replace p189 := eq_true p189; replace q189 := eq_true q189
        go_wp2
        repeat (go_quiet (fail); try go_wp2)
        go_ret
        exact ⟨by first | rfl | (simp [eb_, db_] <;> rfl) | (simp [*, eb_, db_] <;> rfl), by repeat (first | (with_reducible first | exact HB.out | apply aa_ | apply ca_ | apply ga_ | refine na_ ?_ GE183.out) | exact HB.out)⟩
       rw [if_neg c34] at H; have c34b0 : decide ((l0_1.length : Int) ≤ (rd l0_3 x6_4)) = false := decide_eq_false c34; clear c34; have H' := aM_ H; clear H; have hcz36_0 : wr.cell? ⟨gb183, 0, none⟩ = some (.int .i64 a0_0) := (ba_ BK183.out 0).trans rfl; have hcz36_1 : wr.cell? ⟨gb183, 1, none⟩ = some (.slice A0_1 l0_1.length c0_1) := (ba_ BK183.out 1).trans rfl; have hcz36_2 : wr.cell? ⟨gb183, 2, none⟩ = some (.int .i64 a0_2) := (ba_ BK183.out 2).trans rfl; have hcz36_3 : wr.cell? ⟨gb183, 3, none⟩ = some (.slice A0_3 l0_3.length c0_3) := (ba_ BK183.out 3).trans rfl; have hcz36_4 : wr.cell? ⟨gb183, 4, none⟩ = some (.int .i64 a0_4) := (ba_ BK183.out 4).trans rfl; have hfz36_0 := da_ BK183.out 0; have hfz36_1 := da_ BK183.out 1; have hfz36_2 := da_ BK183.out 2; have hfz36_3 := da_ BK183.out 3; have hfz36_4 := da_ BK183.out 4; have p188 : 0 ≤ (x6_4 : Int) := of_decide_eq_true (by first | (with_reducible assumption) | assumption); have q188 : x6_4 < (l0_3.length : Int) := of_decide_eq_true (by first | (with_reducible assumption) | assumption); obtain ⟨ad188, e188, hx188_0⟩ := Kd.at_int HR0_3.out x6_4 p188 q188
       cases e188
       replace hx188_0 := (HB.out.cell (World.block_lt_of_cell? w _ hx188_0)).trans hx188_0; replace p188 := eq_true p188; replace q188 := eq_true q188; have p189 : 0 ≤ (x6_4 : Int) := of_decide_eq_true (by first | (with_reducible assumption) | assumption); have q189 : x6_4 < (l0_3.length : Int) := of_decide_eq_true (by first | (with_reducible assumption) | assumption); obtain ⟨ad189, e189, hx189_0⟩ := Kd.at_int HR0_3.out x6_4 p189 q189; obtain rfl : ad188 = ad189 := (by injection e189); replace hx189_0 := (HB.out.cell (World.block_lt_of_cell? w _ hx189_0)).trans hx189_0; replace p189 := eq_true p189; replace q189 := eq_true q189
       go_wp2
       repeat (go_quiet (fail); try go_wp2)
       go_roundg k4
       case measure => have := HJ1.out; have := HK2.out; have := HJ23.out; have := HK4.out; omega
       case rel => exact ⟨(wrap64 (x6_4 + 1)), (by first | rfl | (simp; done) | (simp [*]; done)), H', ⟨by have := HJ1.out; have := HK2.out; have := HJ23.out; have := HK4.out; omega⟩, ⟨by (with_reducible repeat (first | refine la_ ?_ _ | refine ma_ ?_ | refine ka_ ?_ _)); exact BK183.out⟩, ⟨by repeat (first | (with_reducible first | exact HB.out | apply aa_ | apply ca_ | apply ga_ | refine na_ ?_ GE183.out) | exact HB.out)⟩⟩
      rw [if_neg c31] at H; exact absurd H (by simp)
     rw [if_neg c30] at H; have c30b0 : decide (x6_4 < (l0_3.length : Int)) = false := decide_eq_false c30; clear c30; obtain rfl := Option.some.inj H; have hcz37_0 : wr.cell? ⟨gb183, 0, none⟩ = some (.int .i64 a0_0) := (ba_ BK183.out 0).trans rfl; have hcz37_1 : wr.cell? ⟨gb183, 1, none⟩ = some (.slice A0_1 l0_1.length c0_1) := (ba_ BK183.out 1).trans rfl; have hcz37_2 : wr.cell? ⟨gb183, 2, none⟩ = some (.int .i64 a0_2) := (ba_ BK183.out 2).trans rfl; have hcz37_3 : wr.cell? ⟨gb183, 3, none⟩ = some (.slice A0_3 l0_3.length c0_3) := (ba_ BK183.out 3).trans rfl; have hcz37_4 : wr.cell? ⟨gb183, 4, none⟩ = some (.int .i64 a0_4) := (ba_ BK183.out 4).trans rfl; have hfz37_0 := da_ BK183.out 0; have hfz37_1 := da_ BK183.out 1; have hfz37_2 := da_ BK183.out 2; have hfz37_3 := da_ BK183.out 3; have hfz37_4 := da_ BK183.out 4
     go_wp2
     repeat (go_quiet (fail); try go_wp2)
     go_ret
     exact ⟨by first | rfl | (simp [eb_, db_] <;> rfl) | (simp [*, eb_, db_] <;> rfl), by repeat (first | (with_reducible first | exact HB.out | apply aa_ | apply ca_ | apply ga_ | refine na_ ?_ GE183.out) | exact HB.out)⟩
theorem gr_ (k : Nat) (op : Int) : r4_wants.f (k + 4) op = some (od_ op) := by
 by_cases h : 0 ≤ op ∧ op ≤ 15
 ·have : op = 0 ∨ op = 1 ∨ op = 2 ∨ op = 3 ∨ op = 4 ∨ op = 5 ∨ op = 6 ∨ op = 7 ∨ op = 8 ∨ op = 9 ∨ op = 10 ∨ op = 11 ∨ op = 12 ∨ op = 13 ∨ op = 14 ∨ op = 15 := by omega
  rcases this with rfl | rfl | rfl | rfl | rfl | rfl | rfl | rfl | rfl | rfl | rfl | rfl | rfl | rfl | rfl | rfl <;> rfl
 have n : ∀ k : Int, 0 ≤ k → k ≤ 15 → ¬ op = k := fun k h0 h1 e => h (by omega)
 have b : ∀ k : Int, 0 ≤ k → k ≤ 15 → ¬ (op == k) = true := fun k h0 h1 e => n k h0 h1 (by simpa using e)
 have e : od_ op = (1, 0) := by
  unfold od_; rw [if_neg (by omega), if_neg (by omega), if_neg (by omega), if_neg (by omega), if_neg (by omega)]
 rw [e]
 unfold r4_wants.f
 rw [if_neg (n 0 (by omega) (by omega)), if_neg (n 7 (by omega) (by omega)), if_neg (n 8 (by omega) (by omega)), r4_wants.j0]
 rw [if_neg (b 11 (by omega) (by omega)), if_neg (n 2 (by omega) (by omega)), if_neg (n 5 (by omega) (by omega)), if_neg (n 9 (by omega) (by omega)), if_neg (n 12 (by omega) (by omega)), if_neg (n 13 (by omega) (by omega)), if_neg (n 14 (by omega) (by omega)), r4_wants.j1]
 rw [if_neg (b 15 (by omega) (by omega)), if_neg (n 1 (by omega) (by omega)), r4_wants.j2]
 rw [if_neg (b 6 (by omega) (by omega)), if_neg (n 3 (by omega) (by omega)), r4_wants.j3]
 rw [if_neg (b 4 (by omega) (by omega)), if_neg (n 10 (by omega) (by omega))]
section
variable (a0 : Int) (l1 : List Int) (a2 : Int) (l3 : List Int) (a4 : Int)
theorem eu_ (hl : l3.length ≤ 9223372036854775807) : ∀ (n k x : Nat), x ≤ l3.length → l3.length - x = n → n < k → r4_Right.l1 k x a0 l1 a2 l3 a4 = some ((l3.drop x).all (ne_ l1.length)) := by
 intro n
 induction n with
 | zero =>
  intro k x hx hn hk; obtain ⟨k, rfl⟩ : ∃ j, k = j + 1 := ⟨k - 1, by omega⟩; have he : x = l3.length := by omega
  subst he; simp only [r4_Right.l1]; rw [if_neg (by omega), List.drop_length]
  rfl
 | succ n ih =>
  intro k x hx hn hk; obtain ⟨k, rfl⟩ : ∃ j, k = j + 1 := ⟨k - 1, by omega⟩; have hlt : x < l3.length := by omega
  simp only [r4_Right.l1]; rw [if_pos (by omega), if_pos (by omega), df_ l3 x hlt, List.drop_eq_getElem_cons hlt, List.all_cons]; unfold ne_
  by_cases h0 : l3[x] < 0
  ·rw [if_pos h0, decide_eq_false (by omega)]; rfl
  rw [if_neg h0, decide_eq_true (by omega : 0 ≤ l3[x])]
  by_cases h1 : l3[x] ≥ (l1.length : Int)
  ·rw [if_pos h1, decide_eq_false (by omega)]; rfl
  rw [if_neg h1, decide_eq_true (by omega : l3[x] < (l1.length : Int)), pe_ (by omega)]; exact ih k (x + 1) (by omega) (by omega) (by omega)
theorem refItems (hl : l1.length ≤ 9223372036854775807) (hl3 : l3.length ≤ 9223372036854775807) : ∀ (n k x : Nat), x ≤ l1.length → l1.length - x = n → n + l3.length + 8 < k → r4_Right.l0 k x a0 l1 a2 l3 a4 = some ((l1.drop x).all ye_ && (hc_ l3.length (od_ a2).1 (od_ a2).2 && l3.all (ne_ l1.length))) := by
 intro n
 induction n with
 | zero =>
  intro k x hx hn hk; obtain ⟨k, rfl⟩ : ∃ j, k = j + 5 := ⟨k - 5, by omega⟩; have he : x = l1.length := by omega
  subst he; rw [show k + 5 = (k + 4) + 1 by omega]; simp only [r4_Right.l0]; rw [if_neg (by omega), List.drop_length, gr_]; simp only [Option.bind_some, List.all_nil, Bool.true_and]; have h2 := eu_ a0 l1 a2 l3 a4 hl3 l3.length (k + 3) 0 (Nat.zero_le _) rfl (by omega); rw [List.drop_zero] at h2; have h2' : r4_Right.l1 (k + 3) 0 a0 l1 a2 l3 a4 = some (l3.all (ne_ l1.length)) := h2; unfold hc_
  by_cases h0 : (l3.length : Int) < (od_ a2).1
  ·rw [if_pos h0, show k + 4 = (k + 3) + 1 by omega]
   simp only [r4_Right.j2]; rw [decide_eq_false (by omega)]; simp
  ·rw [if_neg h0, show k + 4 = (k + 3) + 1 by omega]
   simp only [r4_Right.j2]; rw [decide_eq_true (by omega : (od_ a2).1 ≤ (l3.length : Int)), h2']
   by_cases h1 : (l3.length : Int) > (od_ a2).2
   ·rw [decide_eq_true h1, decide_eq_false (by omega : ¬ (l3.length : Int) ≤ (od_ a2).2)]
    simp
   ·rw [decide_eq_false h1, decide_eq_true (by omega : (l3.length : Int) ≤ (od_ a2).2)]
    simp
 | succ n ih =>
  intro k x hx hn hk; obtain ⟨k, rfl⟩ : ∃ j, k = j + 1 := ⟨k - 1, by omega⟩; have hlt : x < l1.length := by omega
  simp only [r4_Right.l0]; rw [if_pos (by omega), if_pos (by omega), df_ l1 x hlt, List.drop_eq_getElem_cons hlt, List.all_cons]
  by_cases h0 : l1[x] ≥ 20
  ·rw [if_pos h0, show ye_ l1[x] = false by unfold ye_; simp; omega]; rfl
  rw [if_neg h0]
  by_cases h1 : l1[x] < -61
  ·rw [if_pos h1, show ye_ l1[x] = false by unfold ye_; simp; omega]; rfl
  rw [if_neg h1, show ye_ l1[x] = true by unfold ye_; simp; omega, Bool.true_and, pe_ (by omega)]; exact ih k (x + 1) (by omega) (by omega) (by omega)
theorem an_ (k : Nat) (hl : l1.length ≤ 9223372036854775807) (hl3 : l3.length ≤ 9223372036854775807) (hk : l1.length + l3.length + 10 < k) : r4_Right.f k a0 l1 a2 l3 a4 = some (hf_ a0 l1 a2 l3 a4) := by
 obtain ⟨k, rfl⟩ : ∃ j, k = j + 1 := ⟨k - 1, by omega⟩
 have h2 := refItems a0 l1 a2 l3 a4 hl hl3 l1.length k 0 (Nat.zero_le _) rfl (by omega)
 rw [List.drop_zero] at h2
 have h2' : r4_Right.l0 k 0 a0 l1 a2 l3 a4 = some (l1.all ye_ && (hc_ l3.length (od_ a2).1 (od_ a2).2 && l3.all (ne_ l1.length))) := h2
 unfold r4_Right.f
 simp only [r4_Right.j0, if_true]
 unfold hf_ af_
 by_cases c1 : a0 < 0
 ·rw [if_pos c1, decide_eq_false (by omega)]; rfl
 rw [if_neg c1, decide_eq_true (by omega : 0 ≤ a0)]
 by_cases c2 : a0 ≥ 20
 ·rw [if_pos c2, decide_eq_false (by omega)]; rfl
 rw [if_neg c2, decide_eq_true (by omega : a0 < 20), h2']
 by_cases c3 : (l1.length : Int) < 1
 ·rw [if_pos c3, show hc_ l1.length 1 6 = false by unfold hc_; simp; omega]; rfl
 rw [if_neg c3]
 by_cases c4 : (l1.length : Int) > 6
 ·rw [if_pos c4, show hc_ l1.length 1 6 = false by unfold hc_; simp; omega]; rfl
 rw [if_neg c4, show hc_ l1.length 1 6 = true by unfold hc_; simp; omega]
 by_cases c5 : a4 < 0
 ·rw [if_pos c5, show hc_ a4 0 100 = false by unfold hc_; simp; omega]
  simp
 rw [if_neg c5]
 by_cases c6 : a4 > 100
 ·rw [decide_eq_true c6, show hc_ a4 0 100 = false by unfold hc_; simp; omega]
  simp
 rw [decide_eq_false c6, show hc_ a4 0 100 = true by unfold hc_; simp; omega]
 simp
end
def matD (e : Nat → Nat → Bool) : Nat → Nat → Nat → Bool
 | 0 => e
 | k + 1 => fun i j => matD e k i j || (matD e k i k && matD e k k j)
theorem qu_ {e : Nat → Nat → Bool} {k i j : Nat} (h : matD e k i j = true) : matD e (k + 1) i j = true := by
 simp [matD, h]
theorem gk_ {e : Nat → Nat → Bool} {i j : Nat} (h : e i j = true) : ∀ k, matD e k i j = true
 | 0 => h
 | k + 1 => qu_ (gk_ h k)
theorem gq_ (e : Nat → Nat → Bool) (k j : Nat) : matD e (k + 1) k j = matD e k k j := by
 simp only [matD]
 cases matD e k k j <;> simp
theorem iq_ (e : Nat → Nat → Bool) (k i : Nat) : matD e (k + 1) i k = matD e k i k := by
 simp only [matD]
 cases matD e k i k <;> simp
theorem bm_ {e : Nat → Nat → Bool} : ∀ (k i m j : Nat), m < k → matD e k i m = true → matD e k m j = true → matD e k i j = true
 | 0, _, _, _, h, _, _ => by omega
 | k + 1, i, m, j, hm, h1, h2 => by
  have T := bm_ (e := e) k
  by_cases e1 : m = k
  ·subst e1
   rw [iq_] at h1; rw [gq_] at h2; simp [matD, h1, h2]
  have hm' : m < k := by omega
  simp only [matD, Bool.or_eq_true, Bool.and_eq_true] at h1 h2 ⊢
  rcases h1 with h1 | ⟨h1, h1'⟩
  ·rcases h2 with h2 | ⟨h2, h2'⟩
   ·exact .inl (T i m j hm' h1 h2)
   exact .inr ⟨T i m k hm' h1 h2, h2'⟩
  rcases h2 with h2 | ⟨h2, h2'⟩
  ·exact .inr ⟨h1, T k m j hm' h1' h2⟩
  exact .inr ⟨h1, h2'⟩
theorem ch_ {e : Nat → Nat → Bool} {R : Nat → Nat → Prop} (hb : ∀ i j, e i j = true → R i j) (ht : ∀ i m j, R i m → R m j → R i j) : ∀ (k i j : Nat), matD e k i j = true → R i j
 | 0, i, j, h => hb i j h
 | k + 1, i, j, h => by
  simp only [matD, Bool.or_eq_true, Bool.and_eq_true] at h
  rcases h with h | ⟨h1, h2⟩
  ·exact ch_ hb ht k i j h
  exact ht i k j (ch_ hb ht k i k h1) (ch_ hb ht k k j h2)
def de_ (e : Nat → Nat → Bool) (k i j : Nat) : Nat → Nat → Bool := fun a b => if a < i ∨ (a = i ∧ b < j) then matD e (k + 1) a b else matD e k a b
def upd (mt : Nat → Nat → Bool) (i j : Nat) (v : Bool) : Nat → Nat → Bool := fun a b => if a = i ∧ b = j then v else mt a b
theorem zt_ (e : Nat → Nat → Bool) (k i j a : Nat) : de_ e k i j a k = matD e k a k := by
 unfold de_; split
 ·exact iq_ e k a
 rfl
theorem yt_ (e : Nat → Nat → Bool) (k i j b : Nat) : de_ e k i j k b = matD e k k b := by
 unfold de_; split
 ·exact gq_ e k b
 rfl
theorem stage_at (e : Nat → Nat → Bool) (k i j : Nat) : de_ e k i j i j = matD e k i j := by
 unfold de_; rw [if_neg (by omega)]
theorem xt_ (e : Nat → Nat → Bool) (k i j : Nat) : upd (de_ e k i j) i j (de_ e k i j i j || (de_ e k i j i k && de_ e k i j k j)) = de_ e k i (j + 1) := by
 rw [stage_at, zt_, yt_]
 funext a b
 unfold upd de_
 by_cases h : a = i ∧ b = j
 ·obtain ⟨rfl, rfl⟩ := h
  rw [if_pos ⟨rfl, rfl⟩, if_pos (by omega)]; rfl
 rw [if_neg h]
 by_cases h2 : a < i ∨ (a = i ∧ b < j)
 ·rw [if_pos h2, if_pos (by omega)]
 rw [if_neg h2, if_neg (by omega)]
def be_ (mt : Nat → Nat → Bool) : List Value := (List.range 400).map fun n => Value.bool (mt (n / 20) (n % 20))
theorem qf_ (mt : Nat → Nat → Bool) : (be_ mt).length = 400 := by simp [be_]
theorem ph_ (mt : Nat → Nat → Bool) (i j : Nat) (hi : i < 20) (hj : j < 20) : (be_ mt)[i * 20 + j]? = some (.bool (mt i j)) := by
 unfold be_
 rw [List.getElem?_map, List.getElem?_range (by omega)]
 simp only [Option.map_some]
 rw [show (i * 20 + j) / 20 = i by omega, show (i * 20 + j) % 20 = j by omega]
theorem cm_ {mt mt' : Nat → Nat → Bool} (h : ∀ i j, i < 20 → j < 20 → mt i j = mt' i j) : be_ mt = be_ mt' := by
 unfold be_
 refine List.map_congr_left fun n hn => ?_
 rw [List.mem_range] at hn
 rw [h _ _ (by omega) (by omega)]
theorem xo_ (mt : Nat → Nat → Bool) (i j : Nat) (v : Bool) (hi : i < 20) (hj : j < 20) : (be_ mt).set (i * 20 + j) (.bool v) = be_ (upd mt i j v) := by
 apply List.ext_getElem?
 intro n
 by_cases hn : n < 400
 ·obtain ⟨a, b, rfl, ha, hb⟩ : ∃ a b, n = a * 20 + b ∧ a < 20 ∧ b < 20 := ⟨n / 20, n % 20, by omega, by omega, by omega⟩
  rw [ph_ _ a b ha hb]
  by_cases h : a = i ∧ b = j
  ·obtain ⟨rfl, rfl⟩ := h
   rw [List.getElem?_set_self (by rw [qf_]; omega)]; simp [upd]
  rw [List.getElem?_set_ne (by omega), ph_ _ a b ha hb]; simp [upd, h]
 rw [List.getElem?_eq_none (by rw [List.length_set, qf_]; omega), List.getElem?_eq_none (by rw [qf_]; omega)]
def Mat (W : World) (t : TypeId) (g : Nat) (mt : Nat → Nat → Bool) : Prop := W.heap[g]? = some (.cells (be_ mt).toArray t (0, 0))
theorem Mat.cell {W : World} {t : TypeId} {g : Nat} {mt : Nat → Nat → Bool} (h : Mat W t g mt) (i j : Nat) (hi : i < 20) (hj : j < 20) : W.cell? ⟨g, i * 20 + j, none⟩ = some (.bool (mt i j)) :=
 (ba_ h _).trans (by rw [List.getElem?_toArray]; exact ph_ mt i j hi hj)
theorem Mat.frozen {W : World} {t : TypeId} {g : Nat} {mt : Nat → Nat → Bool} (h : Mat W t g mt) (n : Nat) : W.frozen? ⟨g, n, none⟩ = false := da_ h n
theorem Mat.set {W : World} {t : TypeId} {g : Nat} {mt : Nat → Nat → Bool} (h : Mat W t g mt) (i j : Nat) (v : Bool) (hi : i < 20) (hj : j < 20) : Mat (W.setCell ⟨g, i * 20 + j, none⟩ (.bool v)) t g (upd mt i j v) := by
 unfold Mat
 refine lc_ h (i * 20 + j) (.bool v) ?_
 rw [← xo_ mt i j v hi hj]
 simp
theorem Mat.congr {W : World} {t : TypeId} {g : Nat} {mt mt' : Nat → Nat → Bool} (h : Mat W t g mt) (he : ∀ i j, i < 20 → j < 20 → mt i j = mt' i j) : Mat W t g mt' := by
 unfold Mat
 rw [← cm_ he]
 exact h
theorem mat_zero : (be_ fun _ _ => false).toArray = Array.replicate 400 (Value.bool false) := by
 apply Array.ext_getElem?
 intro n
 rw [List.getElem?_toArray, Array.getElem?_replicate]
 unfold be_
 by_cases h : n < 400
 ·rw [if_pos h, List.getElem?_map, List.getElem?_range h]; rfl
 rw [if_neg h, List.getElem?_eq_none (by simp; omega)]
theorem Reach.inv {next : Int → List Int} {l0 : List Int} {P : Int → Prop} (h0 : ∀ x ∈ l0, P x) (hs : ∀ x, P x → ∀ y ∈ next x, P y) {y : Int} (h : Reach next l0 y) : P y := by
 induction h with
 | base h => exact h0 _ h
 | step _ h ih => exact hs _ ih _ h
def hits (r : dc_) (p : Int × Int) : Prop := r.f1 = [p.2] ∧ pc_ p.2 ∧ r.f0 = p.1
theorem hits_iff (r : dc_) (p : Int × Int) : hits r p ↔ (r.f1.length = 1 ∧ 0 ≤ rd r.f1 0 ∧ rd r.f1 0 < 20) ∧ p = (r.f0, rd r.f1 0) := by
 unfold hits pc_
 constructor
 ·rintro ⟨h1, h2, h3⟩
  have h4 : rd r.f1 0 = p.2 := by rw [h1]; rfl
  rw [h4, h3, h1]; exact ⟨⟨rfl, h2⟩, rfl⟩
 rintro ⟨⟨h1, h2, h3⟩, rfl⟩
 refine ⟨?_, ⟨h2, h3⟩, rfl⟩
 match hr : r.f1, h1 with
 | [x], _ => simp [rd]
theorem co_ (p : Int × Int) : ∀ (l : List dc_) (m : List ((Int × Int) × Int)), (∀ q, 0 ≤ (mget m q).getD 0) → (0 < (mget (l.foldl mc_ m) p).getD 0 ↔ 0 < (mget m p).getD 0 ∨ ∃ r ∈ l, hits r p)
 | [], m, h => by simp
 | r :: l, m, h => by
  have h2 : ∀ q, 0 ≤ (mget (mc_ m r) q).getD 0 := by
   intro q; unfold mc_
   split
   ·by_cases e : q = (r.f0, rd r.f1 0)
    (focus (subst e; rw [yc_]; have := h (r.f0, rd r.f1 0); simp only [Option.getD_some]; omega)); rw [rd_ _ _ _ e]; exact h q
   exact h q
  rw [List.foldl_cons, co_ p l _ h2]
  have h3 : 0 < (mget (mc_ m r) p).getD 0 ↔ 0 < (mget m p).getD 0 ∨ hits r p := by
   rw [hits_iff]; unfold mc_
   split
   case isTrue hc =>
    by_cases e : p = (r.f0, rd r.f1 0)
    ·have := h p
     rw [e, yc_]; simp only [Option.getD_some]; rw [e] at this; constructor
     ·intro _; exact .inr ⟨hc, trivial⟩
     intro _; omega
    rw [rd_ _ _ _ e]; exact ⟨.inl, fun h => h.elim id (fun h => absurd h.2 e)⟩
   case isFalse hc => exact ⟨.inl, fun h => h.elim id (fun h => absurd h.1 hc)⟩
  rw [h3, or_assoc]; simp
theorem qj_ (l0 : List dc_) (x : Int) (hx : pc_ x) (y : Int) : y ∈ bb_ l0 x ↔ pc_ y ∧ ∃ r ∈ l0, r.f0 = x ∧ r.f1 = [y] := by
 obtain ⟨n, rfl⟩ : ∃ n : Nat, x = n := ⟨x.toNat, by have := hx.1; omega⟩
 rw [mh_ l0 n (by have := hx.2; omega)]
 unfold sc_ fd_
 rw [List.mem_filter]
 have hm : y ∈ (List.range 20).map (fun (x : Nat) => (x : Int)) ↔ pc_ y := ee_ y
 rw [hm, decide_eq_true_eq, co_ _ l0 [] (fun q => by simp [mget])]
 simp only [mget, Option.getD_none, Int.lt_irrefl, false_or, hits]
 constructor
 ·rintro ⟨h1, r, hr, h2, _, h3⟩
  exact ⟨h1, r, hr, h3, h2⟩
 rintro ⟨h1, r, hr, h2, h3⟩
 exact ⟨h1, r, hr, h3, h1, h2⟩
theorem pi_ (l0 : List dc_) (x : Int) (hx : pc_ x) : ff_ l0 x = true ↔ Reach (bb_ l0) (bb_ l0 x) x := by
 unfold ff_
 rw [decide_eq_true_eq, am_ (rc_ l0) (rc_ l0 x hx)]
theorem gh_ (l0 : List dc_) : cd_ l0 = true ↔ l0.length ≤ 60 ∧ l0.all ge_ = true ∧ ∀ x, pc_ x → ¬ Reach (bb_ l0) (bb_ l0 x) x := by
 unfold cd_
 rw [Bool.and_eq_true, Bool.and_eq_true, decide_eq_true_eq, List.all_eq_true (l := symbols)]
 refine and_congr Iff.rfl (and_congr Iff.rfl ⟨fun h x hx => ?_, fun h x hx => ?_⟩)
 ·have h1 := h x ((ee_ x).2 hx)
  rw [← pi_ l0 x hx]; intro h2; rw [h2] at h1
  cases h1
 have hx' := (ee_ x).1 hx
 have h1 := h x hx'
 rw [← pi_ l0 x hx'] at h1
 simp [h1]
theorem eq_ (l0 : List dc_) (f : Int → Int) (h : ∀ r ∈ l0, ∀ y, r.f1 = [y] → pc_ r.f0 → pc_ y → f r.f0 < f y) (x : Int) (hx : pc_ x) : ¬ Reach (bb_ l0) (bb_ l0 x) x := by
 have hstep : ∀ x, pc_ x → ∀ y ∈ bb_ l0 x, f x < f y := by
  intro x hx y hy; obtain ⟨h1, r, hr, h2, h3⟩ := (qj_ l0 x hx y).1 hy; subst h2; exact h r hr y h3 hx h1
 intro hr
 have := Reach.inv (P := fun y => pc_ y ∧ f x < f y) (fun y hy => ⟨rc_ l0 x hx y hy, hstep x hx y hy⟩) (fun z hz y hy => ⟨rc_ l0 z hz.1 y hy, Int.lt_trans hz.2 (hstep z hz.1 y hy)⟩) hr
 exact Int.lt_irrefl _ this.2
theorem dl_ (s : Nat) (y : Int) : ∀ (l : List dc_) (rows : Nat → List Int), y ∈ l.foldl qe_ rows s ↔ y ∈ rows s ∨ ∃ r ∈ l, r.f0 = s ∧ r.f1 = [y] ∧ 0 ≤ y
 | [], rows => by simp
 | r :: l, rows => by
  rw [List.foldl_cons, dl_ s y l (qe_ rows r)]
  have h : y ∈ qe_ rows r s ↔ y ∈ rows s ∨ (r.f0 = s ∧ r.f1 = [y] ∧ 0 ≤ y) := by
   unfold qe_ oneOf
   split
   case isTrue hc =>
    obtain ⟨h1, h2⟩ := hc; obtain ⟨h3, h4⟩ := of_decide_eq_true h1; rw [mem_putP]
    have h5 : r.f1 = [rd r.f1 0] := by
     match hr : r.f1, h3 with
     | [x], _ => simp [rd]
    constructor
    ·rintro (rfl | h)
     ·exact .inr ⟨h2, h5, h4⟩
     exact .inl h
    rintro (h | ⟨_, h, _⟩)
    ·exact .inr h
    left
    rw [h]; rfl
   case isFalse hc =>
    constructor
    ·exact .inl
    rintro (h | ⟨h1, h2, h3⟩)
    ·exact h
    exact absurd ⟨decide_eq_true ⟨by rw [h2]; rfl, by rw [h2]; exact h3⟩, h1⟩ hc
  rw [h, or_assoc]; simp
theorem dg_ (l0 : List dc_) (hr : l0.all ge_ = true) (s : Nat) (hs : s < 20) (y : Int) : y ∈ nb_ l0 s ↔ y ∈ bb_ l0 s := by
 unfold nb_
 rw [dl_, qj_ l0 s ⟨by omega, by omega⟩]
 constructor
 ·rintro (h | ⟨r, h1, h2, h3, h4⟩)
  ·cases h
  refine ⟨⟨h4, ?_⟩, r, h1, h2, h3⟩; have h5 := List.all_eq_true.1 hr r h1; unfold ge_ hf_ at h5; simp only [Bool.and_eq_true] at h5; have h6 := List.all_eq_true.1 h5.2.2.1 y (by rw [h3]; exact List.mem_singleton.2 rfl); unfold ye_ at h6; rw [Bool.and_eq_true] at h6; exact of_decide_eq_true h6.1
 rintro ⟨h1, r, h2, h3, h4⟩
 exact .inr ⟨r, h2, h3, h4, h1.1⟩
def fe_ (l0 : List dc_) (i j : Nat) : Bool := decide ((j : Int) ∈ nb_ l0 i)
theorem xj_ (l0 : List dc_) (hr : l0.all ge_ = true) (i : Nat) (hi : i < 20) (y : Int) : Reach (bb_ l0) (bb_ l0 i) y ↔ pc_ y ∧ matD (fe_ l0) 20 i y.toNat = true := by
 have his : pc_ (i : Int) := ⟨by omega, by omega⟩
 constructor
 ·intro h
  refine Reach.inv (P := fun y => pc_ y ∧ matD (fe_ l0) 20 i y.toNat = true) (fun x hx => ?_) (fun x hx y hy => ?_) h
  ·have h1 := rc_ l0 i his x hx
   refine ⟨h1, gk_ ?_ 20⟩; unfold fe_; rw [Int.toNat_of_nonneg h1.1]; exact decide_eq_true ((dg_ l0 hr i hi x).2 hx)
  have h1 := rc_ l0 x hx.1 y hy; refine ⟨h1, bm_ 20 i x.toNat y.toNat (by have := hx.1.1; have := hx.1.2; omega) hx.2 (gk_ ?_ 20)⟩; unfold fe_; rw [Int.toNat_of_nonneg h1.1]; refine decide_eq_true ((dg_ l0 hr x.toNat (by have := hx.1.1; have := hx.1.2; omega) y).2 ?_); rw [Int.toNat_of_nonneg hx.1.1]; exact hy
 rintro ⟨hy, h⟩
 have h2 := ch_ (e := fe_ l0) (R := fun a b => a < 20 → b < 20 ∧ Reach (bb_ l0) (bb_ l0 (a : Int)) (b : Int))
  (fun a b hab ha => by
   have h3 := (dg_ l0 hr a ha (b : Int)).1 (of_decide_eq_true hab); have h4 := rc_ l0 a ⟨by omega, by omega⟩ b h3
   exact ⟨by have := h4.2; omega, .base h3⟩)
  (fun a m b h1 h2 ha => by
   obtain ⟨hm, h3⟩ := h1 ha; obtain ⟨hb, h4⟩ := h2 hm; refine ⟨hb, ?_⟩
   refine Reach.inv (P := fun y => Reach (bb_ l0) (bb_ l0 (a : Int)) y) (fun x hx => .step h3 hx) (fun x hx y hy => .step hx hy) h4) 20 i y.toNat h hi
 rw [Int.toNat_of_nonneg hy.1] at h2
 exact h2.2
theorem br_ (l0 : List dc_) (h60 : l0.length ≤ 60) (hr : l0.all ge_ = true) : cd_ l0 = true ↔ ∀ i, i < 20 → matD (fe_ l0) 20 i i = false := by
 rw [gh_]
 constructor
 ·rintro ⟨_, _, h⟩ i hi
  have h1 := h i ⟨by omega, by omega⟩; rw [xj_ l0 hr i hi] at h1
  cases hm : matD (fe_ l0) 20 i i with
  | false => rfl
  | true => exact absurd ⟨⟨by omega, by omega⟩, by simpa using hm⟩ h1
 intro h
 refine ⟨h60, hr, fun x hx hR => ?_⟩
 obtain ⟨n, rfl⟩ : ∃ n : Nat, x = n := ⟨x.toNat, by have := hx.1; omega⟩
 have hn : n < 20 := by have := hx.2; omega
 have h1 := ((xj_ l0 hr n hn n).1 hR).2
 have h2 := h n hn
 simp [h2] at h1
def ce_ (l0 : List dc_) (i k : Nat) (a b : Nat) : Bool := decide (a < i) && fe_ l0 a b || (decide (a = i) && decide ((b : Int) ∈ (nb_ l0 i).take k))
theorem qm_ (l0 : List dc_) (i k : Nat) (h : k < (nb_ l0 i).length) (z : Nat) (hz : (nb_ l0 i)[k] = (z : Int)) : upd (ce_ l0 i k) i z true = ce_ l0 i (k + 1) := by
 funext a b
 unfold upd ce_
 rw [List.take_succ_eq_append_getElem h, hz]
 by_cases ha : a = i
 ·subst ha
  by_cases hb : b = z
  ·subst hb; simp
  have : ¬ (b : Int) = (z : Int) := by omega
  simp [hb, this]
 simp [ha]
theorem rm_ (l0 : List dc_) (i : Nat) : ce_ l0 i (nb_ l0 i).length = ce_ l0 (i + 1) 0 := by
 funext a b
 unfold ce_
 rw [List.take_length, List.take_zero]
 by_cases ha : a = i
 ·subst ha
  simp [fe_]
 by_cases hl : a < i
 ·simp [hl, ha, show a < i + 1 by omega]
 simp [hl, ha, show ¬ a < i + 1 by omega]
noncomputable def r4_Check.f (l0 : List dc_) : Option Bool := some (cd_ l0)
theorem mat0 : Tryz.zeroCells115 = (be_ fun _ _ => false).toArray := by rw [mat_zero]; kernel_rfl
theorem bn_ (A0 : Option Addr) (c0 : Nat) (l0 : List dc_) (w : World) (hr0 : Kd.C k56 w A0 l0.length l0) (hc0 : l0.length ≤ c0) :
  Calls Tryz.prog 28 #[.slice A0 l0.length c0] w fun e w' => e = .returned (.bool (cd_ l0)) ∧ Below w.heap.size w w' := by
 have HR := aM_ hr0
 have HC := aM_ hc0
 clear hr0 hc0
 by_cases h60 : l0.length ≤ 60
 ·have h60z : ¬ ((l0.length : Int) > 60) := by omega
  go_enter Tryz.func28, Tryz.ntmps28
  go_wp2
  go_loopg [3] l0.length (fun gg s3 wr => ∃ kk : Nat, kk ≤ l0.length ∧ l0.length - kk ≤ gg ∧ s3 = .int .i64 kk ∧ Az (∀ j, j < kk → ∀ h : j < l0.length, ge_ l0[j] = true) ∧ Az (Below w.heap.size w wr))
  case atStart => exact ⟨0, Nat.zero_le _, by omega, rfl, ⟨fun j hj => absurd hj (Nat.not_lt_zero _)⟩, ⟨Below.refl _ _⟩⟩
  obtain ⟨kk, hkk, hgg, rfl, HA, HB⟩ := hrel
  by_cases hlt : kk < l0.length
  ·have hltz : (kk : Int) < (l0.length : Int) := by omega
   obtain ⟨ad, A1, c1, A3, c3, hA, h0, h1, h2, h3, h4, l1, g1, l3, g3⟩ := bj_ (Kd.C_below HR.out HB.out) kk (by omega) hltz; have hx : yb_ l0 kk = l0[kk] := by simp [yb_, List.getD_eq_getElem?_getD, List.getElem?_eq_getElem hlt]
   generalize yb_ l0 kk = y at *; rw [Int.toNat_natCast] at h0 h1 h2 h3 h4; subst hA; have HX := aM_ hx; clear hx; have HRS := aM_ (an_ y.f0 y.f1 y.f2.f0 y.f2.f1 y.f3 (y.f1.length + y.f2.f1.length + 11) g1.2.1 g3.2.1 (by omega)); have hcall := aM_ (r4_Right.calls (y.f1.length + y.f2.f1.length + 11) y.f0 A1 c1 y.f1 y.f2.f0 A3 c3 y.f2.f1 y.f3 (ge_ y) wr g1 l1 g3 l3 HRS.out); clear g1 g3
   cases hr : ge_ y with
   | true =>
    rw [hr] at hcall
    go_wp2_with fail
    refine hcall.out.mono ?_; rintro e w' ⟨rfl, hb⟩; have HB2 := aM_ (fa_ HB.out hb); clear hb
    go_wp2
    go_roundg (l0.length - (kk + 1))
    case measure => omega
    case rel =>
     refine ⟨kk + 1, by omega, by omega, by go_num, ⟨fun j hj hl => ?_⟩, HB2⟩
     by_cases e : j = kk
     ·subst e; rw [← HX.out]; exact hr
     ·exact HA.out j (by omega) hl
   | false =>
    rw [hr] at hcall
    have hz : cd_ l0 = false := by
     unfold cd_; have : l0.all ge_ = false := List.all_eq_false.2 ⟨l0[kk], List.getElem_mem hlt, by rw [← HX.out, hr]; decide⟩; rw [this, Bool.false_and, Bool.and_false]
    go_wp2_with fail
    refine hcall.out.mono ?_; rintro e w' ⟨rfl, hb⟩; have HB2 := aM_ (fa_ HB.out hb); clear hb
    go_wp2
    go_ret
    exact ⟨sd_ hz.symm, HB2.out⟩
  have hltz : ¬ (kk : Int) < (l0.length : Int) := by omega
  have hkl : kk = l0.length := by omega
  subst hkl
  have hall : l0.all ge_ = true := by
   rw [List.all_eq_true]; intro r hr; obtain ⟨j, hj, rfl⟩ := List.mem_iff_getElem.1 hr; exact HA.out j hj hj
  have HCM := aM_ (br_ l0 h60 hall); have hu := aM_ (mn_ l0 h60 hall); have HALL := aM_ hall; have HR1 := aM_ (Kd.C_below HR.out HB.out); clear HA hall HR
  go_wp2_with fail
  refine (zm_ A0 c0 l0 wr HR1.out HC.out hu.out).mono ?_; rintro e w1 ⟨v1, rfl, hS, hb⟩; obtain ⟨A2, c2, rfl, hc2, hC2⟩ := Kd.S_reads hS; have hlen : (if_ l0).length = 20 := by simp [if_]
  have HB1 := aM_ (fa_ HB.out hb); have HU1 := aM_ hC2; have HM := aM_ (show Mat (w1.alloc (.cells Tryz.zeroCells115 115)) 115 w1.heap.size (fun _ _ => false) from by unfold Mat; rw [← mat0]; exact ra_ _ _); have HB2 := aM_ (aa_ (Below.refl w1.heap.size w1) (.cells Tryz.zeroCells115 115)); rw [hlen]; have HLN := aM_ hlen; clear hS hb hc2 hC2 hlen HB HR1
  go_wp2
  generalize (w1.alloc (.cells Tryz.zeroCells115 115)) = W2 at *; generalize hg : w1.heap.size = g at *; have HG := aM_ hg; clear hg
  go_loopg [6] 20 (fun gg s6 wr => ∃ i : Nat, i ≤ 20 ∧ 20 - i ≤ gg ∧ s6 = .int .i64 i ∧ Az (Mat wr 115 g (ce_ l0 i 0)) ∧ Az (Below g w1 wr))
  case atStart => exact ⟨0, by omega, by omega, rfl, ⟨HM.out.congr (fun i j _ _ => by simp [ce_])⟩, HB2⟩
  clear HM HB2; obtain ⟨i, hi, hgi, rfl, HM, HB2⟩ := hrel
  by_cases hlt : i < 20
  ·have hltz : (i : Int) < 20 := by omega
   have hrow : li_ (if_ l0) (i : Int) = nb_ l0 i := by
    unfold li_ if_; rw [Int.toNat_natCast, List.getD_eq_getElem?_getD, List.getElem?_map, List.getElem?_range hlt]; rfl
   have HROW := aM_ hrow; clear hrow
   go_wp2
   go_loopg [7] (nb_ l0 i).length (fun gg s7 wr => ∃ k : Nat, k ≤ (nb_ l0 i).length ∧ (nb_ l0 i).length - k ≤ gg ∧ s7 = .int .i64 k ∧ Az (Mat wr 115 g (ce_ l0 i k)) ∧ Az (Below g w1 wr))
   case atStart => exact ⟨0, Nat.zero_le _, by omega, rfl, HM, HB2⟩
   clear HM HB2; obtain ⟨k, hk, hgk, rfl, HM, HB2⟩ := hrel; obtain ⟨ad, A4, c4, hA, h0, h1, h2⟩ := at_L5 (show Kd.C (Kd.slice 3 (Kd.int .i64)) wr A2 (if_ l0).length (if_ l0) from Kd.C_below HU1.out (by rw [HG.out]; exact HB2.out)) i (by omega) (by rw [HLN.out]; exact hltz); rw [HROW.out] at h0 h1 h2; rw [Int.toNat_natCast] at h0; subst hA; have hlm : (nb_ l0 i).length ≤ 9223372036854775807 := h2.2.1
   by_cases hlk : k < (nb_ l0 i).length
   ·have hz0 := (dg_ l0 HALL.out i hlt _).1 (List.getElem_mem hlk)
    have hz1 := rc_ l0 i ⟨by omega, by omega⟩ _ hz0; obtain ⟨z, hz⟩ : ∃ z : Nat, (nb_ l0 i)[k] = (z : Int) := ⟨(nb_ l0 i)[k].toNat, by have := hz1.1; omega⟩; have hz20 : z < 20 := by have := hz1.2; omega
    have HUP := aM_ (qm_ l0 i k hlk z hz); have hlkz : (k : Int) < ((nb_ l0 i).length : Int) := by omega
    obtain ⟨ad1, hA1, hc1⟩ := Kd.at_int h2 k (by omega) hlkz; rw [Int.toNat_natCast, df_ _ k hlk, hz] at hc1; subst hA1; have hz20z : (z : Int) < 20 := by omega
    have hcm := HM.out.cell i z hlt hz20; have hcf := HM.out.frozen (i * 20 + z); have HMS := aM_ (HM.out.set i z true hlt hz20); rw [HUP.out] at HMS; clear hz hz0 hz1 h2 h1; generalize (nb_ l0 i).length = m at *
    go_wp2
    go_region
    all_goals
     go_wp2
     go_roundg (m - (k + 1))
     case measure => omega
     case rel => exact ⟨k + 1, by omega, by omega, by go_num, ⟨HMS.out⟩, ⟨(nd_ HB2.out).setCell (Nat.le_refl _) _⟩⟩
   have hlkz : ¬ (k : Int) < ((nb_ l0 i).length : Int) := by omega
   have hke : k = (nb_ l0 i).length := by omega
   have HM2 : Az (Mat wr 115 g (ce_ l0 (i + 1) 0)) := ⟨by rw [← rm_, ← hke]; exact HM.out⟩; clear hke h2; generalize (nb_ l0 i).length = m at *
   go_wp2
   go_roundg (20 - (i + 1))
   case measure => omega
   case rel => exact ⟨i + 1, by omega, by omega, by go_num, HM2, HB2⟩
  have hltz : ¬ (i : Int) < 20 := by omega
  have hie : i = 20 := by omega
  subst hie; have HM0 : Az (Mat wr 115 g (matD (fe_ l0) 0)) := ⟨HM.out.congr (fun a b ha _ => by simp [ce_, matD, ha])⟩; clear HM HU1
  go_wp2
  go_loopg [8] 20 (fun gg s8 wr => ∃ k : Nat, k ≤ 20 ∧ 20 - k ≤ gg ∧ s8 = .int .i64 k ∧ Az (Mat wr 115 g (matD (fe_ l0) k)) ∧ Az (Below g w1 wr))
  case atStart => exact ⟨0, by omega, by omega, rfl, HM0, HB2⟩
  clear HM0 HB2; obtain ⟨k, hk, hgk, rfl, HM, HB2⟩ := hrel
  by_cases hk20 : k < 20
  ·have hk20z : (k : Int) < 20 := by omega
   have HM1 : Az (Mat wr 115 g (de_ (fe_ l0) k 0 0)) := ⟨HM.out.congr (fun a b _ _ => by simp [de_])⟩; clear HM
   go_wp2
   go_loopg [9] 20 (fun gg s9 wr => ∃ i : Nat, i ≤ 20 ∧ 20 - i ≤ gg ∧ s9 = .int .i64 i ∧ Az (Mat wr 115 g (de_ (fe_ l0) k i 0)) ∧ Az (Below g w1 wr))
   case atStart => exact ⟨0, by omega, by omega, rfl, HM1, HB2⟩
   clear HM1 HB2; obtain ⟨i, hi, hgi, rfl, HM, HB2⟩ := hrel
   by_cases hi20 : i < 20
   ·have hi20z : (i : Int) < 20 := by omega
    go_wp2
    go_loopg [10] 20 (fun gg s10 wr => ∃ j : Nat, j ≤ 20 ∧ 20 - j ≤ gg ∧ s10 = .int .i64 j ∧ Az (Mat wr 115 g (de_ (fe_ l0) k i j)) ∧ Az (Below g w1 wr))
    case atStart => exact ⟨0, by omega, by omega, rfl, HM, HB2⟩
    clear HM HB2; obtain ⟨j, hj, hgj, rfl, HM, HB2⟩ := hrel
    by_cases hj20 : j < 20
    ·have hj20z : (j : Int) < 20 := by omega
     have m1 := HM.out.cell i j hi20 hj20; have m2 := HM.out.cell i k hi20 hk20; have m3 := HM.out.cell k j hk20 hj20; have mf := HM.out.frozen (i * 20 + j)
     have HMS : ∀ v : Bool, v = (de_ (fe_ l0) k i j i j || (de_ (fe_ l0) k i j i k && de_ (fe_ l0) k i j k j)) → Mat (wr.setCell ⟨g, i * 20 + j, none⟩ (.bool v)) 115 g (de_ (fe_ l0) k i (j + 1)) := by
      intro v hv; rw [← xt_, ← hv]; exact HM.out.set i j v hi20 hj20
     generalize de_ (fe_ l0) k i j i j = x1 at *; generalize de_ (fe_ l0) k i j i k = x2 at *; generalize de_ (fe_ l0) k i j k j = x3 at *; have HMT := aM_ HMS; clear HMS HM
     cases x1 with
     | true =>
      go_wp2
      go_region
      all_goals
       go_wp2
       go_roundg (20 - (j + 1))
       case measure => omega
       case rel => exact ⟨j + 1, by omega, by omega, by go_num, ⟨HMT.out true (by simp)⟩, ⟨(nd_ HB2.out).setCell (Nat.le_refl _) _⟩⟩
     | false =>
      cases x2 with
      | false =>
       go_wp2
       go_region
       all_goals
        go_wp2
        go_roundg (20 - (j + 1))
        case measure => omega
        case rel => exact ⟨j + 1, by omega, by omega, by go_num, ⟨HMT.out false (by simp)⟩, ⟨(nd_ HB2.out).setCell (Nat.le_refl _) _⟩⟩
      | true =>
       cases x3 with
       | false =>
        go_wp2
        go_region
        all_goals
         go_wp2
         go_roundg (20 - (j + 1))
         case measure => omega
         case rel => exact ⟨j + 1, by omega, by omega, by go_num, ⟨HMT.out false (by simp)⟩, ⟨(nd_ HB2.out).setCell (Nat.le_refl _) _⟩⟩
       | true =>
        go_wp2
        go_region
        all_goals
         go_wp2
         go_roundg (20 - (j + 1))
         case measure => omega
         case rel => exact ⟨j + 1, by omega, by omega, by go_num, ⟨HMT.out true (by simp)⟩, ⟨(nd_ HB2.out).setCell (Nat.le_refl _) _⟩⟩
    have hj20z : ¬ (j : Int) < 20 := by omega
    have hje : j = 20 := by omega
    have HM2 : Az (Mat wr 115 g (de_ (fe_ l0) k (i + 1) 0)) := ⟨HM.out.congr (fun a b _ hb => by
     unfold de_
     by_cases h : a < i ∨ (a = i ∧ b < j)
     ·rw [if_pos h, if_pos (by omega)]
     rw [if_neg h, if_neg (by omega)])⟩
    go_wp2
    go_roundg (20 - (i + 1))
    case measure => omega
    case rel => exact ⟨i + 1, by omega, by omega, by go_num, HM2, HB2⟩
   have hi20z : ¬ (i : Int) < 20 := by omega
   have HM2 : Az (Mat wr 115 g (matD (fe_ l0) (k + 1))) := ⟨HM.out.congr (fun a b ha _ => by
    unfold de_
    rw [if_pos (by omega)])⟩
   go_wp2
   go_roundg (20 - (k + 1))
   case measure => omega
   case rel => exact ⟨k + 1, by omega, by omega, by go_num, HM2, HB2⟩
  have hk20z : ¬ (k : Int) < 20 := by omega
  have hke : k = 20 := by omega
  subst hke
  go_wp2
  go_loopg [11] 20 (fun gg s11 wr => ∃ i : Nat, i ≤ 20 ∧ 20 - i ≤ gg ∧ s11 = .int .i64 i ∧ Az (Mat wr 115 g (matD (fe_ l0) 20)) ∧ Az (Below g w1 wr) ∧ Az (∀ j, j < i → matD (fe_ l0) 20 j j = false))
  case atStart => exact ⟨0, by omega, by omega, rfl, HM, HB2, ⟨fun j hj => absurd hj (Nat.not_lt_zero _)⟩⟩
  clear HM HB2; obtain ⟨i, hi, hgi, rfl, HM, HB2, HA⟩ := hrel
  by_cases hi20 : i < 20
  ·have hi20z : (i : Int) < 20 := by omega
   have m1 := HM.out.cell i i hi20 hi20
   cases hd : matD (fe_ l0) 20 i i with
   | true =>
    rw [hd] at m1
    have hz : cd_ l0 = false := by
     cases hc : cd_ l0 with
     | false => rfl
     | true =>
      have := HCM.out.1 hc i hi20; rw [hd] at this
      cases this
    go_wp2
    go_ret
    exact ⟨sd_ hz.symm, HB1.out.trans (HB2.out.mono (by rw [← HG.out]; exact HB1.out.size))⟩
   | false =>
    rw [hd] at m1
    go_wp2
    go_roundg (20 - (i + 1))
    case measure => omega
    case rel =>
     refine ⟨i + 1, by omega, by omega, by go_num, HM, HB2, ⟨fun j hj => ?_⟩⟩
     by_cases e : j = i
     ·subst e; exact hd
     exact HA.out j (by omega)
  have hi20z : ¬ (i : Int) < 20 := by omega
  have hz : cd_ l0 = true := HCM.out.2 (fun j hj => HA.out j (by omega))
  go_wp2
  go_ret
  exact ⟨by first | rfl | exact sd_ hz.symm, HB1.out.trans (HB2.out.mono (by rw [← HG.out]; exact HB1.out.size))⟩
 have h60z : (l0.length : Int) > 60 := by omega
 have hz : cd_ l0 = false := by simp [cd_, h60]
 go_enter Tryz.func28, Tryz.ntmps28
 go_wp2
 go_ret
 exact ⟨sd_ hz.symm, Below.refl _ _⟩
theorem r4_Check.calls (A0 : Option Addr) (c0 : Nat) (l0 : List dc_) (r : Bool) (w : World) (hr0 : Kd.C k56 w A0 l0.length l0) (hc0 : l0.length ≤ c0) (h : r4_Check.f l0 = some r) :
  Calls Tryz.prog 28 #[.slice A0 l0.length c0] w fun e w' => e = .returned (.bool r) ∧ Below w.heap.size w w' := by
 obtain rfl := Option.some.inj h
 exact bn_ A0 c0 l0 w hr0 hc0
mutual
noncomputable def l4_Rules.l0 : Nat → List (S120) → Int → List (S56) → Int → Option ((List (S56)))
 | 0, _, _, _, _ => none
 | k + 1, x0, x1, x5, x6 => if x6 < (x0.length : Int) then (l4_Rules.j1 k x0 x1 x5 x6 (decide (x6 < 20))) else (l4_Rules.j1 k x0 x1 x5 x6 false)
noncomputable def l4_Rules.j1 : Nat → List (S120) → Int → List (S56) → Int → Bool → Option ((List (S56)))
 | 0, _, _, _, _, _ => none
 | k + 1, x0, x1, x5, x6, x15 => if x15 = true then ((some (([] : List (S56)) : List (S56))).bind fun y318 => (if y318.length + x5.length < 1954687338268 then ((some (y318 ++ x5 : List (S56))).bind fun y321 => (if 0 ≤ x6 then (if x6 < (x0.length : Int) then ((l4_Raw_Make.f k ((ta_ x0 x6).f0) ((ta_ x0 x6).f1) ((ta_ x0 x6).f2) ((ta_ x0 x6).f3) ((ta_ x0 x6).f4) x1).bind fun bt325 => (if y321.length < 1954687338268 then ((some (y321 ++ [(⟨bt325.1, bt325.2.1, (⟨bt325.2.2.1, bt325.2.2.2.1⟩ : S54), bt325.2.2.2.2⟩ : S56)] : List (S56))).bind fun y334 => ((r4_Check.f y334).bind fun t337 => (if t337 = true then (l4_Rules.l0 k x0 x1 y334 (wrap64 (x6 + 1))) else (l4_Rules.l0 k x0 x1 x5 (wrap64 (x6 + 1)))))) else (none))) else (none)) else (none))) else (none))) else (some x5)
end
noncomputable def l4_Rules.f (k : Nat) (l0 : List (S120)) (a1 : Int) : Option ((List (S56))) := l4_Rules.l0 k l0 a1 ([] : List (S56)) 0
def l4_Rules.T5 : Bool × List (List Nat × List Nat) := (true, [([], []), ([], []), ([0, 1], [0, 1]), ([], []), ([], []), ([3, 4], [3, 4]), ([5], [5]), ([], []), ([6, 7, 2], [6, 7]), ([8], [8]), ([2, 9, 8], [2, 9]), ([10, 10, 0, 1, 2, 3, 4, 5, 6, 7, 8, 9, 10], [10])])
def l4_Rules.B5 : List Nat := [0, 0, 3, 0, 0, 24, 56, 0, 255, 511, 1023, 2047]
theorem l4_Rules.tab5 : rtab .any (opsOf Tryz.f32 5) = l4_Rules.T5 := by kernel_rfl
theorem l4_Rules.bits5 : yg_ l4_Rules.T5.2 l4_Rules.B5 = true := by kernel_rfl
theorem l4_Rules.calls (k : Nat) (A0 : Option Addr) (c0 : Nat) (l0 : List (S120)) (a1 : Int) (r : List (S56)) (w : World) (hr0 : Kd.C k120 w A0 l0.length l0) (hc0 : l0.length ≤ c0) (h : l4_Rules.f k l0 a1 = some r) :
  Calls Tryz.prog 32 #[.slice A0 l0.length c0, .int .i64 a1] w fun e w' => ∃ v0_ : Value, e = .returned (v0_) ∧ Kd.N k56 56 w' w.heap.size (fun k_ => (w.heap.size ≤ k_)) v0_ r ∧ Below w.heap.size w w' := by
 have hu120 := Tryz.underlying120
 have HR0 := aM_ hr0
 have HC0 := aM_ hc0
 clear hr0 hc0
 have HB := aM_ (Below.refl w.heap.size w)
 have H : (l4_Rules.l0 k l0 a1 ([] : List (S56)) 0) = some r := h
 clear h
 have H' := aM_ H
 clear H
 go_enter Tryz.func32, Tryz.ntmps32
 go_wp2
 go_loopg [5, 6] k (fun kq v5 v6 w' => ∃ (x5_1 : List (S56)) (x6_1 : Int), v6 = .int .i64 x6_1 ∧ Az (l4_Rules.l0 kq l0 a1 x5_1 x6_1 = some r) ∧ Az (kq ≤ k) ∧ Az (Kd.N k56 56 w' w.heap.size (fun k_ => (w.heap.size ≤ k_)) v5 x5_1) ∧ Az (Below w.heap.size w w'))
 case atStart => exact ⟨(([] : List (S56))), (0), (by first | rfl | (simp; done) | (simp [*]; done)), H', ⟨Nat.le_refl _⟩, ⟨by first | exact Kd.S_nil _ _ _ _ _ | exact Kd.N_nil _ _ _ _ _ | exact Kd.V_nil _ _ _ _ _ | exact Kd.Q_nil _ _ _ _ _ | exact Kd.R_nil _ _ _ _ _⟩, ⟨by repeat (first | (with_reducible first | exact HB.out | apply aa_ | apply ca_ | apply ga_) | exact HB.out)⟩⟩
 clear H'
 obtain ⟨x5_1, x6_1, rfl, HA, HK1, HO_5, HB⟩ := hrel
 cases gk with
 | zero => exact absurd HA.out (by simp [l4_Rules.l0])
 | succ k1 =>
  have H := HA.out; clear HA; simp only [l4_Rules.l0] at H; have HC3 := aM_ H; clear H
  go_upto_region 3 with (fail)
  go_cut [15] (fun v15 wc => ∃ (kq : Nat) (x15_2 : Bool), v15 = .bool x15_2 ∧ Az (l4_Rules.j1 kq l0 a1 x5_1 x6_1 x15_2 = some r) ∧ Az (kq ≤ k1) ∧ Az (Kd.N k56 56 wc w.heap.size (fun k_ => (w.heap.size ≤ k_)) u5 x5_1) ∧ Az (Below w.heap.size w wc))
  case first =>
   have H := HC3.out; clear HC3
   by_cases c4 : x6_1 < (l0.length : Int)
   ·rw [if_pos c4] at H
    have c4b0 : decide (x6_1 < (l0.length : Int)) = true := decide_eq_true c4; clear c4
    (first | rw [c4b0] | (simp only [ia_, ja_]; rw [c4b0]) | skip)
    have H' := aM_ H; clear H
    go_wp2
    go_meet
    case rel => exact ⟨_, (decide (x6_1 < 20)), (by first | rfl | (simp; done) | (simp [*]; done)), H', ⟨by have := HK1.out; first | omega | exact Nat.le_refl _⟩, ⟨by (with_reducible repeat (first | apply Kd.N_alloc | apply Kd.N_drewN | apply Kd.N_drew)); exact HO_5.out⟩, ⟨by repeat (first | (with_reducible first | exact HB.out | apply aa_ | apply ca_ | apply ga_) | exact HB.out)⟩⟩
   rw [if_neg c4] at H; have c4b0 : decide (x6_1 < (l0.length : Int)) = false := decide_eq_false c4; clear c4
   (first | rw [c4b0] | (simp only [ia_, ja_]; rw [c4b0]) | skip)
   have H' := aM_ H; clear H
   go_wp2
   go_meet
   case rel => exact ⟨_, (false), (by first | rfl | (simp; done) | (simp [*]; done)), H', ⟨by have := HK1.out; first | omega | exact Nat.le_refl _⟩, ⟨by (with_reducible repeat (first | apply Kd.N_alloc | apply Kd.N_drewN | apply Kd.N_drew)); exact HO_5.out⟩, ⟨by repeat (first | (with_reducible first | exact HB.out | apply aa_ | apply ca_ | apply ga_) | exact HB.out)⟩⟩
  clear HC3; obtain ⟨kq, x15_2, rfl, HA, HJ2, HO_5, HB⟩ := hcut
  cases kq with
  | zero => exact absurd HA.out (by simp [l4_Rules.j1])
  | succ kj2 =>
   have H := HA.out; clear HA; simp only [l4_Rules.j1] at H
   by_cases c5 : x15_2 = true
   ·subst c5
    have H1 : ((some (([] : List (S56)) : List (S56))).bind fun y318 => (if y318.length + x5_1.length < 1954687338268 then ((some (y318 ++ x5_1 : List (S56))).bind fun y321 => (if 0 ≤ x6_1 then (if x6_1 < (l0.length : Int) then ((l4_Raw_Make.f kj2 ((ta_ l0 x6_1).f0) ((ta_ l0 x6_1).f1) ((ta_ l0 x6_1).f2) ((ta_ l0 x6_1).f3) ((ta_ l0 x6_1).f4) a1).bind fun bt325 => (if y321.length < 1954687338268 then ((some (y321 ++ [(⟨bt325.1, bt325.2.1, (⟨bt325.2.2.1, bt325.2.2.2.1⟩ : S54), bt325.2.2.2.2⟩ : S56)] : List (S56))).bind fun y334 => ((r4_Check.f y334).bind fun t337 => (if t337 = true then (l4_Rules.l0 kj2 l0 a1 y334 (wrap64 (x6_1 + 1))) else (l4_Rules.l0 kj2 l0 a1 x5_1 (wrap64 (x6_1 + 1)))))) else (none))) else (none)) else (none))) else (none))) = some r := by rw [if_pos rfl] at H; exact H
    clear H; have H := H1; clear H1; obtain ⟨y318, hy318⟩ : ∃ y_ : List (S56), y_ = (([] : List (S56))) := ⟨_, rfl⟩; replace H : (if y318.length + x5_1.length < 1954687338268 then ((some (y318 ++ x5_1 : List (S56))).bind fun y321 => (if 0 ≤ x6_1 then (if x6_1 < (l0.length : Int) then ((l4_Raw_Make.f kj2 ((ta_ l0 x6_1).f0) ((ta_ l0 x6_1).f1) ((ta_ l0 x6_1).f2) ((ta_ l0 x6_1).f3) ((ta_ l0 x6_1).f4) a1).bind fun bt325 => (if y321.length < 1954687338268 then ((some (y321 ++ [(⟨bt325.1, bt325.2.1, (⟨bt325.2.2.1, bt325.2.2.2.1⟩ : S54), bt325.2.2.2.2⟩ : S56)] : List (S56))).bind fun y334 => ((r4_Check.f y334).bind fun t337 => (if t337 = true then (l4_Rules.l0 kj2 l0 a1 y334 (wrap64 (x6_1 + 1))) else (l4_Rules.l0 kj2 l0 a1 x5_1 (wrap64 (x6_1 + 1)))))) else (none))) else (none)) else (none))) else (none)) = some r := by first | (rw [hy318]; with_reducible exact H) | (have H2_ := (Option.bind_some _ _).symm.trans H; rw [hy318]; with_reducible exact H2_) | (have H2_ := (Option.bind_some _ _).symm.trans H; with_reducible exact H2_) | with_reducible exact H | (rw [hy318]; exact H) | exact H
    have Ny318 := aM_ hy318; clear hy318
    by_cases c6 : y318.length + x5_1.length < 1954687338268
    ·rw [if_pos c6] at H
     have LMc6 := aM_ c6; clear c6; obtain ⟨y321, hy321⟩ : ∃ y_ : List (S56), y_ = (y318 ++ x5_1) := ⟨_, rfl⟩; replace H : (if 0 ≤ x6_1 then (if x6_1 < (l0.length : Int) then ((l4_Raw_Make.f kj2 ((ta_ l0 x6_1).f0) ((ta_ l0 x6_1).f1) ((ta_ l0 x6_1).f2) ((ta_ l0 x6_1).f3) ((ta_ l0 x6_1).f4) a1).bind fun bt325 => (if y321.length < 1954687338268 then ((some (y321 ++ [(⟨bt325.1, bt325.2.1, (⟨bt325.2.2.1, bt325.2.2.2.1⟩ : S54), bt325.2.2.2.2⟩ : S56)] : List (S56))).bind fun y334 => ((r4_Check.f y334).bind fun t337 => (if t337 = true then (l4_Rules.l0 kj2 l0 a1 y334 (wrap64 (x6_1 + 1))) else (l4_Rules.l0 kj2 l0 a1 x5_1 (wrap64 (x6_1 + 1)))))) else (none))) else (none)) else (none)) = some r := by first | (rw [hy321]; with_reducible exact H) | (have H2_ := (Option.bind_some _ _).symm.trans H; rw [hy321]; with_reducible exact H2_) | (have H2_ := (Option.bind_some _ _).symm.trans H; with_reducible exact H2_) | with_reducible exact H | (rw [hy321]; exact H) | exact H
     have Ny321 := aM_ hy321; clear hy321
     by_cases c7 : 0 ≤ x6_1
     ·rw [if_pos c7] at H
      have c7b0 : decide (0 ≤ x6_1) = true := decide_eq_true c7; clear c7
      by_cases c8 : x6_1 < (l0.length : Int)
      ·rw [if_pos c8] at H
       have c8b0 : decide (x6_1 < (l0.length : Int)) = true := decide_eq_true c8; clear c8; replace H := Option.bind_eq_some_iff.mp H; obtain ⟨⟨t325, t326, t329, t330, t333⟩, A90, H⟩ := H; replace H : (if y321.length < 1954687338268 then ((some (y321 ++ [(⟨t325, t326, (⟨t329, t330⟩ : S54), t333⟩ : S56)] : List (S56))).bind fun y334 => ((r4_Check.f y334).bind fun t337 => (if t337 = true then (l4_Rules.l0 kj2 l0 a1 y334 (wrap64 (x6_1 + 1))) else (l4_Rules.l0 kj2 l0 a1 x5_1 (wrap64 (x6_1 + 1)))))) else (none)) = some r := H; have A9 := aM_ A90; clear A90
       by_cases c10 : y321.length < 1954687338268
       ·rw [if_pos c10] at H
        have LMc10 := aM_ c10; clear c10; obtain ⟨y334, hy334⟩ : ∃ y_ : List (S56), y_ = (y321 ++ [(⟨t325, t326, (⟨t329, t330⟩ : S54), t333⟩ : S56)]) := ⟨_, rfl⟩; replace H : ((r4_Check.f y334).bind fun t337 => (if t337 = true then (l4_Rules.l0 kj2 l0 a1 y334 (wrap64 (x6_1 + 1))) else (l4_Rules.l0 kj2 l0 a1 x5_1 (wrap64 (x6_1 + 1))))) = some r := by first | (rw [hy334]; with_reducible exact H) | (have H2_ := (Option.bind_some _ _).symm.trans H; rw [hy334]; with_reducible exact H2_) | (have H2_ := (Option.bind_some _ _).symm.trans H; with_reducible exact H2_) | with_reducible exact H | (rw [hy334]; exact H) | exact H
        have Ny334 := aM_ hy334; clear hy334; replace H := Option.bind_eq_some_iff.mp H; obtain ⟨t337, A110, H⟩ := H; replace H : (if t337 = true then (l4_Rules.l0 kj2 l0 a1 y334 (wrap64 (x6_1 + 1))) else (l4_Rules.l0 kj2 l0 a1 x5_1 (wrap64 (x6_1 + 1)))) = some r := H; have A11 := aM_ A110; clear A110
        by_cases c12 : t337 = true
        ·subst c12
         have H1 : (l4_Rules.l0 kj2 l0 a1 y334 (wrap64 (x6_1 + 1))) = some r := by rw [if_pos rfl] at H; exact H
         clear H; have H := H1; clear H1; have H' := aM_ H; clear H
         try go_wp2
         have n0_ := aM_ (Kd.N_drew HO_5.out); have n1_ := aM_ (ga_ HB.out); clear HO_5; clear HB; have HO_5 := n0_; have HB := n1_; clear n0_ n1_; have p324 : 0 ≤ (x6_1 : Int) := of_decide_eq_true (by first | (with_reducible assumption) | assumption); have q324 : x6_1 < (l0.length : Int) := of_decide_eq_true (by first | (with_reducible assumption) | assumption); obtain ⟨ad324, A324_3, c324_3, A324_4, c324_4, e324, hx324_0, hx324_1, hx324_2, hx324_3, hx324_4, hl324_3, hi324_3, hl324_4, hi324_4⟩ := hh_ HR0.out x6_1 p324 q324; have hw324_4 := hx324_4; have hw324_3 := hx324_3; have hw324_2 := hx324_2; have hw324_1 := hx324_1; have hw324_0 := hx324_0
         cases e324
         replace hx324_0 := (HB.out.cell (World.block_lt_of_cell? w _ hx324_0)).trans hx324_0; replace hx324_1 := (HB.out.cell (World.block_lt_of_cell? w _ hx324_1)).trans hx324_1; replace hx324_2 := (HB.out.cell (World.block_lt_of_cell? w _ hx324_2)).trans hx324_2; replace hx324_3 := (HB.out.cell (World.block_lt_of_cell? w _ hx324_3)).trans hx324_3; replace hx324_4 := (HB.out.cell (World.block_lt_of_cell? w _ hx324_4)).trans hx324_4; have HR324_3 := aM_ hi324_3; have HC324_3 := aM_ hl324_3; clear hi324_3 hl324_3; have HR324_4 := aM_ hi324_4; have HC324_4 := aM_ hl324_4; clear hi324_4 hl324_4; replace p324 := eq_true p324; replace q324 := eq_true q324; refine wd_ (n := 12) (S := fun w' => w'.cell? (ad324.add ((x6_1).toNat * 5)) = some (.int .i64 ((ta_ l0 x6_1).f0)) ∧ w'.cell? ⟨(ad324.add ((x6_1).toNat * 5)).block, (ad324.add ((x6_1).toNat * 5)).off + 1, none⟩ = some (.int .i64 ((ta_ l0 x6_1).f1)) ∧ w'.cell? ⟨(ad324.add ((x6_1).toNat * 5)).block, (ad324.add ((x6_1).toNat * 5)).off + 2, none⟩ = some (.int .i64 ((ta_ l0 x6_1).f2)) ∧ w'.cell? ⟨(ad324.add ((x6_1).toNat * 5)).block, (ad324.add ((x6_1).toNat * 5)).off + 3, none⟩ = some (.slice A324_3 ((ta_ l0 x6_1).f3).length c324_3) ∧ w'.cell? ⟨(ad324.add ((x6_1).toNat * 5)).block, (ad324.add ((x6_1).toNat * 5)).off + 4, none⟩ = some (.slice A324_4 ((ta_ l0 x6_1).f4).length c324_4)) (ds := []) (f_ 12 0) (by kernel_rfl) rfl rfl ⟨((HB.out.cell (World.block_lt_of_cell? w _ hw324_0)).trans hw324_0), ((HB.out.cell (World.block_lt_of_cell? w _ hw324_1)).trans hw324_1), ((HB.out.cell (World.block_lt_of_cell? w _ hw324_2)).trans hw324_2), ((HB.out.cell (World.block_lt_of_cell? w _ hw324_3)).trans hw324_3), ((HB.out.cell (World.block_lt_of_cell? w _ hw324_4)).trans hw324_4)⟩ (fun hHeld => ?_); refine mg_ l4_Rules.tab5 l4_Rules.bits5 (fun HT_ HW_ => ?_); generalize wc.drew = w13 at HO_5 HB HR324_3 HR324_4 hx324_0 hx324_1 hx324_2 hx324_3 hx324_4 hHeld ⊢; refine pU_ 1 19 ?_ #[false, true, false, false, false, false, false, false, false, false, false, false] rfl rfl (qc_ HT_.out (by kernel_rfl)) (fun _ _ _ h => h) (by rfl) ?_ ?_ ?_ ?_; rotate_left
         ·intro w'
          go_simp
          with_reducible rfl
         rotate_left
         ·simp only [Act.put, s1_, s2_, s3_, ia_, ja_]
          rfl
         refine pU_ 3 21 ?_ #[false, true, false, true, false, false, false, false, false, false, false, false] rfl rfl (qc_ HT_.out (by kernel_rfl)) (fun _ _ _ h => h) (by rfl) ?_ ?_ ?_ ?_; rotate_left
         ·intro w'
          go_simp
          with_reducible rfl
         rotate_left
         ·simp only [Act.put, s1_, s2_, s3_, ia_, ja_]
          rfl
         refine pU_ 4 22 ?_ #[false, true, false, true, true, false, false, false, false, false, false, false] rfl rfl (qc_ HT_.out (by kernel_rfl)) (fun _ _ _ h => h) (by rfl) ?_ ?_ ?_ ?_; rotate_left
         ·intro w'
          go_simp
          with_reducible rfl
         rotate_left
         ·simp only [Act.put, s1_, s2_, s3_, ia_, ja_]
          rfl
         refine pU_ 5 23 ?_ #[false, true, false, true, true, true, false, false, false, false, false, false] rfl rfl (qc_ HT_.out (by kernel_rfl)) (fun _ _ _ h => h) (by rfl) ?_ ?_ ?_ ?_; rotate_left
         ·intro w'
          go_simp
          with_reducible rfl
         rotate_left
         ·simp only [Act.put, s1_, s2_, s3_, ia_, ja_]
          rfl
         refine pU_ 7 25 ?_ #[false, true, false, true, true, true, false, true, false, false, false, false] rfl rfl (qc_ HT_.out (by kernel_rfl)) (fun _ _ _ h => h) (by rfl) ?_ ?_ ?_ ?_; rotate_left
         ·intro w'
          go_simp
          with_reducible rfl
         rotate_left
         ·simp only [Act.put, s1_, s2_, s3_, ia_, ja_]
          rfl
         refine take_ (i := 6) (N := some 24) (v := ?_) (a' := ?_) #[false, true, false, true, true, true, true, true, false, false, false, false] rfl rfl (nf_ HT_.out HW_.out (by kernel_rfl)) (fun _ _ _ h => h) (Or.inl ⟨by rfl, ?_⟩) hHeld ?_ ?_; rotate_left
         ·rintro w' ⟨s0, s1, s2, s3, s4⟩
          go_simp
          with_reducible rfl
         rotate_left
         ·simp only [Act.put, s1_, s2_, s3_, ia_, ja_]
          rfl
         refine one_ (i := 0) (N := some 18) #[true, true, false, true, true, true, true, true, false, false, false, false] rfl rfl (id_ HT_.out (by kernel_rfl)) (by decide) (fun K hK => ?_); refine Kd.N_lit_step k56 _ 56 ?hg (N' := 18) ?hd (xs := ([] : List (S56))) (inner := []) (ok := (fun k_ => (w.heap.size ≤ k_) ∧ some k_ ≠ (u5 : Value).ownBlock)) (okp := (fun k_ => (w.heap.size ≤ k_) ∧ some k_ ≠ (u5 : Value).ownBlock)) ?hr ?hp (fun _ hk => hk) ((show ∀ k_, w13.heap.size ≤ k_ → (fun k_ => (w.heap.size ≤ k_) ∧ some k_ ≠ (u5 : Value).ownBlock) k_ from fun k_ hk => ⟨(Nat.le_trans (qa_ (by repeat (first | (with_reducible first | exact HB.out | apply aa_ | apply ca_ | apply ga_) | exact HB.out))) hk), Kd.fresh' (Kd.N_lt (by (with_reducible repeat (first | apply Kd.N_alloc | apply Kd.N_drewN | apply Kd.N_drew)); exact HO_5.out)) k_ hk⟩) _ (Nat.le_refl _)) (Below.refl _ _) (Nat.le_refl _) (by simp) ?_; (case hd => rfl); (case hg => rfl); (case hr => first | (go_simp; done) | (go_simp; rfl)); (case hp => exact (Reps.none _ _)); intro v319 w14 ho15 hb hg_ hnew_; clear hg_ hnew_
         (first | rw [← Ny318.out] at ho15 | (simp only [Int.reduceToNat] at ho15; rw [← Ny318.out] at ho15))
         have n0_ := aM_ (Kd.N_elder' (by (with_reducible repeat (first | apply Kd.N_alloc | apply Kd.N_drewN | apply Kd.N_drew)); exact HO_5.out) (Kd.N_base ho15) hb); have n1_ := aM_ (Kd.N_lower ho15 (qa_ (by repeat (first | (with_reducible first | exact HB.out | apply aa_ | apply ca_ | apply ga_) | exact HB.out)))); have n2_ := aM_ (fa_ (by repeat (first | (with_reducible first | exact HB.out | apply aa_ | apply ca_ | apply ga_) | exact HB.out)) hb); clear HO_5; clear HB; have HO_5 := n0_; have HO320 := n1_; have HB := n2_; clear n0_ n1_ n2_; clear hb ho15; obtain ⟨Ao17, co17, eo17⟩ := Kd.N_slice HO_5.out
         (first | subst eo17 | (injection eo17 with f1_ f2_ f3_; have f4_ := f1_.symm; have f5_ := f3_.symm; clear f1_ f2_ f3_; subst f4_; subst f5_))
         refine hK.out _ _ ⟨((HB.out.cell (World.block_lt_of_cell? w _ hw324_0)).trans hw324_0), ((HB.out.cell (World.block_lt_of_cell? w _ hw324_1)).trans hw324_1), ((HB.out.cell (World.block_lt_of_cell? w _ hw324_2)).trans hw324_2), ((HB.out.cell (World.block_lt_of_cell? w _ hw324_3)).trans hw324_3), ((HB.out.cell (World.block_lt_of_cell? w _ hw324_4)).trans hw324_4)⟩ (fun hHeld => ?_); clear hK K; refine wa_ (a' := ?_) ?_ ?_; rotate_left; (focus (show Act.put _ (some 18) _ = _; simp only [Act.put, s1_, s2_, s3_, ia_, ja_]; rfl)); refine one_ (i := 2) (N := some 20) (f_ 12 8) rfl rfl (id_ HT_.out (by kernel_rfl)) (by decide) (fun K hK => ?_); refine Kd.N_append_rows_step k56 (w0 := w) w.heap.size (by rfl) (.tmp 18) (.tmp 19) 41 56 (.agg #[(.int .i64 0), (.slice none 0 0), (.int .i64 0), (.slice none 0 0), (.int .i64 0)]) 72 rfl Tryz.underlying41 fm_ rfl (by decide) (by omega) v319 y318 x5_1 _ _ _ (fun k_ => (w.heap.size ≤ k_)) (fun k_ => ((fun k_ => (w.heap.size ≤ k_))) k_ ∧ some k_ ≠ (v319 : Value).ownBlock) rfl rfl ?aO ?aR (fun _ hk => hk) ?aF ?aB ?aS ?aL ?_
         (case aR => exact (by skip; exact Kd.N_F (Kd.N_mono (ok' := (fun k_ => ((fun k_ => (w.heap.size ≤ k_))) k_ ∧ some k_ ≠ (v319 : Value).ownBlock)) (HO_5.out) (fun k_ hk => ⟨hk.1, hk.2⟩))))
         (case aB => exact (by repeat (first | (with_reducible first | exact HB.out | apply aa_ | apply ca_ | apply ga_) | exact HB.out)))
         (case aF => exact (fun k_ hk => (Nat.le_trans (qa_ (by repeat (first | (with_reducible first | exact HB.out | apply aa_ | apply ca_ | apply ga_) | exact HB.out))) hk)))
         (case aO => exact (by (with_reducible repeat (first | apply Kd.N_alloc | apply Kd.N_drewN | apply Kd.N_drew)); exact Kd.N_mono HO320.out (fun _ hk => hk.1)))
         (case aS => exact (qa_ (by repeat (first | (with_reducible first | exact HB.out | apply aa_ | apply ca_ | apply ga_) | exact HB.out))))
         (case aL => have := LMc6.out; omega)
         intro v322 w16 ho hb hg hat; rw [← Ny321.out] at ho; have n0_ := aM_ (Kd.N_afterv (ok := (fun k_ => (w.heap.size ≤ k_))) (by (with_reducible repeat (first | apply Kd.N_alloc | apply Kd.N_drewN | apply Kd.N_drew)); exact HO_5.out) hg hat); have n1_ := aM_ (hb); have n2_ := aM_ (ho); clear HO_5; clear HB; clear HO320; have HO_5 := n0_; have HB := n1_; have HO323 := n2_; clear n0_ n1_ n2_; clear ho hb hg hat; refine hK.out _ _ ⟨((HB.out.cell (World.block_lt_of_cell? w _ hw324_0)).trans hw324_0), ((HB.out.cell (World.block_lt_of_cell? w _ hw324_1)).trans hw324_1), ((HB.out.cell (World.block_lt_of_cell? w _ hw324_2)).trans hw324_2), ((HB.out.cell (World.block_lt_of_cell? w _ hw324_3)).trans hw324_3), ((HB.out.cell (World.block_lt_of_cell? w _ hw324_4)).trans hw324_4)⟩ (fun hHeld => ?_); clear hK K; refine wa_ (a' := ?_) ?_ ?_; rotate_left; (focus (show Act.put _ (some 20) _ = _; simp only [Act.put, s1_, s2_, s3_, ia_, ja_]; rfl)); refine one_ (i := 8) (N := some 26) (f_ 12 9) rfl rfl (id_ HT_.out (by kernel_rfl)) (by decide) (fun K hK => ?_); refine wb_ Tryz.func73 (by kernel_rfl) rfl #[.agg #[.int .i64 ((ta_ l0 x6_1).f0), .int .i64 ((ta_ l0 x6_1).f1), .int .i64 ((ta_ l0 x6_1).f2), .slice A324_3 ((ta_ l0 x6_1).f3).length c324_3, .slice A324_4 ((ta_ l0 x6_1).f4).length c324_4], .int .i64 a1] (by rfl) rfl rfl (by (try simp only [List.map_toArray, List.map_cons, List.map_nil]); first | done | rfl | (simp only [List.length_drop, List.length_take]; rfl)) ?_
         with_reducible refine (l4_Raw_Make.calls kj2 ((ta_ l0 x6_1).f0) ((ta_ l0 x6_1).f1) ((ta_ l0 x6_1).f2) _ _ ((ta_ l0 x6_1).f3) _ _ ((ta_ l0 x6_1).f4) a1 t325 t326 t329 t330 t333 _ ?side1 ?side2 ?side3 ?side4 A9.out).mono ?_
         (case side1 => repeat (first | exact (Kd.C_below HR324_3.out HB.out) | (with_reducible refine Kd.C_alloc ?_ _) | (with_reducible refine Kd.C_drewN ?_ _) | (with_reducible refine Kd.C_drew ?_)))
         (case side2 => exact HC324_3.out)
         (case side3 => repeat (first | exact (Kd.C_below HR324_4.out HB.out) | (with_reducible refine Kd.C_alloc ?_ _) | (with_reducible refine Kd.C_drewN ?_ _) | (with_reducible refine Kd.C_drew ?_)))
         (case side4 => exact HC324_4.out)
         rintro e w18 ⟨v327, v331, rfl, ho0, ho1, hb⟩; refine ⟨_, rfl, ?_⟩; have n0_ := aM_ (Kd.N_mono (Kd.N_told (Kd.N_told (Kd.N_old (by (with_reducible repeat (first | apply Kd.N_alloc | apply Kd.N_drewN | apply Kd.N_drew)); exact HO_5.out) hb) (Kd.R_base ho0)) (Kd.R_base ho1)) (fun _ h_ => h_.1)); have n1_ := aM_ (Kd.N_mono (Kd.N_told (Kd.N_told (Kd.N_old (by (with_reducible repeat (first | apply Kd.N_alloc | apply Kd.N_drewN | apply Kd.N_drew)); exact HO323.out) hb) (Kd.R_base ho0)) (Kd.R_base ho1)) (fun _ h_ => h_.1)); have n2_ := aM_ (Kd.R_lower (Kd.R_newM (M := fun k_ => (w.heap.size ≤ k_)) ho0 (qa_ (by repeat (first | (with_reducible first | exact HB.out | apply aa_ | apply ca_ | apply ga_) | exact HB.out))) (fun k_ h_ => h_)) (qa_ (by repeat (first | (with_reducible first | exact HB.out | apply aa_ | apply ca_ | apply ga_) | exact HB.out)))); have n3_ := aM_ (Kd.R_lower (Kd.R_newM (M := fun k_ => (w.heap.size ≤ k_)) ho1 (qa_ (by repeat (first | (with_reducible first | exact HB.out | apply aa_ | apply ca_ | apply ga_) | exact HB.out))) (fun k_ h_ => h_)) (qa_ (by repeat (first | (with_reducible first | exact HB.out | apply aa_ | apply ca_ | apply ga_) | exact HB.out)))); have n4_ := aM_ (fa_ (by repeat (first | (with_reducible first | exact HB.out | apply aa_ | apply ca_ | apply ga_) | exact HB.out)) hb); clear HO_5; clear HO323; clear HB; have HO_5 := n0_; have HO323 := n1_; have HO328 := n2_; have HO332 := n3_; have HB := n4_; clear n0_ n1_ n2_ n3_ n4_
         (try clear hb)
         (try clear hb2)
         (try clear hk)
         (try clear hi)
         (try clear ho0)
         (try clear ho1)
         obtain ⟨Ao20, co20, eo20⟩ := Kd.R_slice HO328.out
         (first | subst eo20 | (injection eo20 with f1_ f2_ f3_; have f4_ := f1_.symm; have f5_ := f3_.symm; clear f1_ f2_ f3_; subst f4_; subst f5_))
         obtain ⟨Ao21, co21, eo21⟩ := Kd.R_slice HO332.out
         (first | subst eo21 | (injection eo21 with f1_ f2_ f3_; have f4_ := f1_.symm; have f5_ := f3_.symm; clear f1_ f2_ f3_; subst f4_; subst f5_))
         refine hK.out _ _ ⟨((HB.out.cell (World.block_lt_of_cell? w _ hw324_0)).trans hw324_0), ((HB.out.cell (World.block_lt_of_cell? w _ hw324_1)).trans hw324_1), ((HB.out.cell (World.block_lt_of_cell? w _ hw324_2)).trans hw324_2), ((HB.out.cell (World.block_lt_of_cell? w _ hw324_3)).trans hw324_3), ((HB.out.cell (World.block_lt_of_cell? w _ hw324_4)).trans hw324_4)⟩ (fun hHeld => ?_); clear hK K; refine wa_ (a' := ?_) ?_ ?_; rotate_left; (focus (show Act.put _ (some 26) _ = _; simp only [Act.put, s1_, s2_, s3_, ia_, ja_]; rfl)); refine one_ (i := 9) (N := some 27) (f_ 12 10) rfl rfl (id_ HT_.out (by kernel_rfl)) (by decide) (fun K hK => ?_); refine hd_ (w1 := ?_) (v := ?_) (by rfl) rfl ?_ ?_; rotate_left 2
         ·go_simp
          constructor
          ·rfl
          rfl
         refine hK.out _ _ ⟨(World.cell?_alloc_lt _ _ _ (World.block_lt_of_cell? _ _ (((HB.out.cell (World.block_lt_of_cell? w _ hw324_0)).trans hw324_0)))).trans (((HB.out.cell (World.block_lt_of_cell? w _ hw324_0)).trans hw324_0)), (World.cell?_alloc_lt _ _ _ (World.block_lt_of_cell? _ _ (((HB.out.cell (World.block_lt_of_cell? w _ hw324_1)).trans hw324_1)))).trans (((HB.out.cell (World.block_lt_of_cell? w _ hw324_1)).trans hw324_1)), (World.cell?_alloc_lt _ _ _ (World.block_lt_of_cell? _ _ (((HB.out.cell (World.block_lt_of_cell? w _ hw324_2)).trans hw324_2)))).trans (((HB.out.cell (World.block_lt_of_cell? w _ hw324_2)).trans hw324_2)), (World.cell?_alloc_lt _ _ _ (World.block_lt_of_cell? _ _ (((HB.out.cell (World.block_lt_of_cell? w _ hw324_3)).trans hw324_3)))).trans (((HB.out.cell (World.block_lt_of_cell? w _ hw324_3)).trans hw324_3)), (World.cell?_alloc_lt _ _ _ (World.block_lt_of_cell? _ _ (((HB.out.cell (World.block_lt_of_cell? w _ hw324_4)).trans hw324_4)))).trans (((HB.out.cell (World.block_lt_of_cell? w _ hw324_4)).trans hw324_4))⟩ (fun hHeld => ?_); clear hK K; refine wa_ (a' := ?_) ?_ ?_; rotate_left; (focus (show Act.put _ (some 27) _ = _; simp only [Act.put, s1_, s2_, s3_, ia_, ja_]; rfl)); refine one_ (i := 10) (N := some 28) (f_ 12 11) rfl rfl (id_ HT_.out (by kernel_rfl)) (by decide) (fun K hK => ?_); refine Kd.N_append_step k56 (w0 := w) w.heap.size (by rfl) (.tmp 20) (.tmp 27) 41 56 (.agg #[(.int .i64 0), (.slice none 0 0), (.int .i64 0), (.slice none 0 0), (.int .i64 0)]) 72 rfl Tryz.underlying41 fm_ rfl (by decide) (by omega) v322 y321 (⟨t325, t326, (⟨t329, t330⟩ : S54), t333⟩ : S56) [.int .i64 t325, .slice Ao20 t326.length co20, .int .i64 t329, .slice Ao21 t330.length co21, .int .i64 t333] (fun k_ => (w.heap.size ≤ k_)) (fun k_ => ((fun k_ => (w.heap.size ≤ k_))) k_ ∧ some k_ ≠ (v322 : Value).ownBlock) rfl rfl ?aP (fun _ hk => hk) ?aF ?aO ?aB ?aS ?aL ?_
         (case aP => exact (qt_ _ _ (⟨t325, t326, (⟨t329, t330⟩ : S54), t333⟩ : S56) (Kd.R_reads' (Kd.R_mono (ok' := (fun k_ => ((fun k_ => (w.heap.size ≤ k_))) k_ ∧ some k_ ≠ (v322 : Value).ownBlock)) (Kd.R_apart' (HO328.out) (Kd.N_typed HO323.out) (by decide)) (fun k_ hk => ⟨hk.1.1, hk.2⟩))).2.1 (Kd.R_F (Kd.R_mono (ok' := (fun k_ => ((fun k_ => (w.heap.size ≤ k_))) k_ ∧ some k_ ≠ (v322 : Value).ownBlock)) (Kd.R_apart' (HO328.out) (Kd.N_typed HO323.out) (by decide)) (fun k_ hk => ⟨hk.1.1, hk.2⟩))) (Kd.R_reads' (Kd.R_mono (ok' := (fun k_ => ((fun k_ => (w.heap.size ≤ k_))) k_ ∧ some k_ ≠ (v322 : Value).ownBlock)) (Kd.R_apart' (HO332.out) (Kd.N_typed HO323.out) (by decide)) (fun k_ hk => ⟨hk.1.1, hk.2⟩))).2.1 (Kd.R_F (Kd.R_mono (ok' := (fun k_ => ((fun k_ => (w.heap.size ≤ k_))) k_ ∧ some k_ ≠ (v322 : Value).ownBlock)) (Kd.R_apart' (HO332.out) (Kd.N_typed HO323.out) (by decide)) (fun k_ hk => ⟨hk.1.1, hk.2⟩)))))
         (case aB => exact (by repeat (first | (with_reducible first | exact HB.out | apply aa_ | apply ca_ | apply ga_) | exact HB.out)))
         (case aF => exact (fun k_ hk => (Nat.le_trans (qa_ (by repeat (first | (with_reducible first | exact HB.out | apply aa_ | apply ca_ | apply ga_) | exact HB.out))) hk)))
         (case aO => exact (by (with_reducible repeat (first | apply Kd.N_alloc | apply Kd.N_drewN | apply Kd.N_drew)); exact Kd.N_mono HO323.out (fun _ hk => hk.1.1)))
         (case aS => exact (qa_ (by repeat (first | (with_reducible first | exact HB.out | apply aa_ | apply ca_ | apply ga_) | exact HB.out))))
         (case aL => have := LMc10.out; omega)
         intro v335 w19 ho hb hg hat; rw [← Ny334.out] at ho; have n0_ := aM_ (Kd.N_afterv (ok := (fun k_ => (w.heap.size ≤ k_) ∧ some k_ ≠ (.slice Ao20 t326.length co20 : Value).ownBlock ∧ some k_ ≠ (.slice Ao21 t330.length co21 : Value).ownBlock)) (by (with_reducible repeat (first | apply Kd.N_alloc | apply Kd.N_drewN | apply Kd.N_drew)); exact Kd.N_mono HO_5.out (fun _ hk => ⟨⟨hk.1.1.1, ⟨hk.1.2, hk.2⟩⟩, hk.1.1.2⟩)) hg hat); have n1_ := aM_ (hb); have n2_ := aM_ (ho); clear HO_5; clear HB; clear HO323; clear HO328; clear HO332; have HO_5 := n0_; have HB := n1_; have HO336 := n2_; clear n0_ n1_ n2_; clear ho hb hg hat; refine hK.out _ _ ⟨((HB.out.cell (World.block_lt_of_cell? w _ hw324_0)).trans hw324_0), ((HB.out.cell (World.block_lt_of_cell? w _ hw324_1)).trans hw324_1), ((HB.out.cell (World.block_lt_of_cell? w _ hw324_2)).trans hw324_2), ((HB.out.cell (World.block_lt_of_cell? w _ hw324_3)).trans hw324_3), ((HB.out.cell (World.block_lt_of_cell? w _ hw324_4)).trans hw324_4)⟩ (fun hHeld => ?_); clear hK K; refine wa_ (a' := ?_) ?_ ?_; rotate_left; (focus (show Act.put _ (some 28) _ = _; simp only [Act.put, s1_, s2_, s3_, ia_, ja_]; rfl)); refine pU_ 11 7 ?_ (f_ 12 12) rfl rfl (qc_ HT_.out (by kernel_rfl)) (fun _ _ _ h => h) (by rfl) ?_ ?_ ?_ ?_; rotate_left
         ·intro w'
          go_simp
          with_reducible rfl
         rotate_left
         ·simp only [Act.put, s1_, s2_, s3_, ia_, ja_]
          rfl
         refine je_ (uj_ HT_.out (by kernel_rfl)) ?_; obtain ⟨Ao22, co22, eo22⟩ := Kd.N_slice HO336.out; subst eo22
         try go_wp2_with (first | ((with_reducible refine mb_ (f := 28) rfl ?_); refine kd_ (some 30) rfl rfl Tryz.func28 (by kernel_rfl) rfl #[.slice Ao22 y334.length co22] rfl (by (try simp only [List.map_toArray, List.map_cons, List.map_nil]); first | done | rfl | (simp only [List.length_drop, List.length_take]; rfl)) ?_; (with_reducible refine (r4_Check.calls _ _ y334 true _ ?side1 ?side2 A11.out).mono ?_); (case side1 => repeat (first | exact (Kd.N_reads' HO336.out).2.2 | (with_reducible refine Kd.C_alloc ?_ _) | (with_reducible refine Kd.C_drewN ?_ _) | (with_reducible refine Kd.C_drew ?_))); (case side2 => exact (Kd.N_reads' HO336.out).2.1); rintro e w23 ⟨rfl, hb⟩; refine ⟨_, rfl, ?_⟩; have n0_ := aM_ (Kd.N_below (by (with_reducible repeat (first | apply Kd.N_alloc | apply Kd.N_drewN | apply Kd.N_drew)); exact HO_5.out) hb); have n1_ := aM_ (Kd.N_below (by (with_reducible repeat (first | apply Kd.N_alloc | apply Kd.N_drewN | apply Kd.N_drew)); exact HO336.out) hb); have n2_ := aM_ (fa_ (by repeat (first | (with_reducible first | exact HB.out | apply aa_ | apply ca_ | apply ga_) | exact HB.out)) hb); clear HO_5; clear HO336; clear HB; have HO_5 := n0_; have HO336 := n1_; have HB := n2_; clear n0_ n1_ n2_; (try clear hb); (try clear hb2); (try clear hk); (try clear hi)))
         go_roundg kj2
         case measure => have := HK1.out; have := HJ2.out; omega
         case rel => exact ⟨(y334), (wrap64 (x6_1 + 1)), (by first | rfl | (simp; done) | (simp [*]; done)), H', ⟨by have := HK1.out; have := HJ2.out; omega⟩, ⟨by (with_reducible repeat (first | apply Kd.N_alloc | apply Kd.N_drewN | apply Kd.N_drew)); exact HO336.out⟩, ⟨by repeat (first | (with_reducible first | exact HB.out | apply aa_ | apply ca_ | apply ga_) | exact HB.out)⟩⟩
        replace c12 := Bool.eq_false_iff.mpr c12; subst c12; have H1 : (l4_Rules.l0 kj2 l0 a1 x5_1 (wrap64 (x6_1 + 1))) = some r := by rw [if_neg (show ¬ (false = true) by decide)] at H; exact H
        clear H; have H := H1; clear H1; have H' := aM_ H; clear H
        try go_wp2
        have n0_ := aM_ (Kd.N_drew HO_5.out); have n1_ := aM_ (ga_ HB.out); clear HO_5; clear HB; have HO_5 := n0_; have HB := n1_; clear n0_ n1_; have p324 : 0 ≤ (x6_1 : Int) := of_decide_eq_true (by first | (with_reducible assumption) | assumption); have q324 : x6_1 < (l0.length : Int) := of_decide_eq_true (by first | (with_reducible assumption) | assumption); obtain ⟨ad324, A324_3, c324_3, A324_4, c324_4, e324, hx324_0, hx324_1, hx324_2, hx324_3, hx324_4, hl324_3, hi324_3, hl324_4, hi324_4⟩ := hh_ HR0.out x6_1 p324 q324; have hw324_4 := hx324_4; have hw324_3 := hx324_3; have hw324_2 := hx324_2; have hw324_1 := hx324_1; have hw324_0 := hx324_0
        cases e324
        replace hx324_0 := (HB.out.cell (World.block_lt_of_cell? w _ hx324_0)).trans hx324_0; replace hx324_1 := (HB.out.cell (World.block_lt_of_cell? w _ hx324_1)).trans hx324_1; replace hx324_2 := (HB.out.cell (World.block_lt_of_cell? w _ hx324_2)).trans hx324_2; replace hx324_3 := (HB.out.cell (World.block_lt_of_cell? w _ hx324_3)).trans hx324_3; replace hx324_4 := (HB.out.cell (World.block_lt_of_cell? w _ hx324_4)).trans hx324_4; have HR324_3 := aM_ hi324_3; have HC324_3 := aM_ hl324_3; clear hi324_3 hl324_3; have HR324_4 := aM_ hi324_4; have HC324_4 := aM_ hl324_4; clear hi324_4 hl324_4; replace p324 := eq_true p324; replace q324 := eq_true q324; refine wd_ (n := 12) (S := fun w' => w'.cell? (ad324.add ((x6_1).toNat * 5)) = some (.int .i64 ((ta_ l0 x6_1).f0)) ∧ w'.cell? ⟨(ad324.add ((x6_1).toNat * 5)).block, (ad324.add ((x6_1).toNat * 5)).off + 1, none⟩ = some (.int .i64 ((ta_ l0 x6_1).f1)) ∧ w'.cell? ⟨(ad324.add ((x6_1).toNat * 5)).block, (ad324.add ((x6_1).toNat * 5)).off + 2, none⟩ = some (.int .i64 ((ta_ l0 x6_1).f2)) ∧ w'.cell? ⟨(ad324.add ((x6_1).toNat * 5)).block, (ad324.add ((x6_1).toNat * 5)).off + 3, none⟩ = some (.slice A324_3 ((ta_ l0 x6_1).f3).length c324_3) ∧ w'.cell? ⟨(ad324.add ((x6_1).toNat * 5)).block, (ad324.add ((x6_1).toNat * 5)).off + 4, none⟩ = some (.slice A324_4 ((ta_ l0 x6_1).f4).length c324_4)) (ds := []) (f_ 12 0) (by kernel_rfl) rfl rfl ⟨((HB.out.cell (World.block_lt_of_cell? w _ hw324_0)).trans hw324_0), ((HB.out.cell (World.block_lt_of_cell? w _ hw324_1)).trans hw324_1), ((HB.out.cell (World.block_lt_of_cell? w _ hw324_2)).trans hw324_2), ((HB.out.cell (World.block_lt_of_cell? w _ hw324_3)).trans hw324_3), ((HB.out.cell (World.block_lt_of_cell? w _ hw324_4)).trans hw324_4)⟩ (fun hHeld => ?_); refine mg_ l4_Rules.tab5 l4_Rules.bits5 (fun HT_ HW_ => ?_); generalize wc.drew = w24 at HO_5 HB HR324_3 HR324_4 hx324_0 hx324_1 hx324_2 hx324_3 hx324_4 hHeld ⊢; refine pU_ 1 19 ?_ #[false, true, false, false, false, false, false, false, false, false, false, false] rfl rfl (qc_ HT_.out (by kernel_rfl)) (fun _ _ _ h => h) (by rfl) ?_ ?_ ?_ ?_; rotate_left
        ·intro w'
         go_simp
         with_reducible rfl
        rotate_left
        ·simp only [Act.put, s1_, s2_, s3_, ia_, ja_]
         rfl
        refine pU_ 3 21 ?_ #[false, true, false, true, false, false, false, false, false, false, false, false] rfl rfl (qc_ HT_.out (by kernel_rfl)) (fun _ _ _ h => h) (by rfl) ?_ ?_ ?_ ?_; rotate_left
        ·intro w'
         go_simp
         with_reducible rfl
        rotate_left
        ·simp only [Act.put, s1_, s2_, s3_, ia_, ja_]
         rfl
        refine pU_ 4 22 ?_ #[false, true, false, true, true, false, false, false, false, false, false, false] rfl rfl (qc_ HT_.out (by kernel_rfl)) (fun _ _ _ h => h) (by rfl) ?_ ?_ ?_ ?_; rotate_left
        ·intro w'
         go_simp
         with_reducible rfl
        rotate_left
        ·simp only [Act.put, s1_, s2_, s3_, ia_, ja_]
         rfl
        refine pU_ 5 23 ?_ #[false, true, false, true, true, true, false, false, false, false, false, false] rfl rfl (qc_ HT_.out (by kernel_rfl)) (fun _ _ _ h => h) (by rfl) ?_ ?_ ?_ ?_; rotate_left
        ·intro w'
         go_simp
         with_reducible rfl
        rotate_left
        ·simp only [Act.put, s1_, s2_, s3_, ia_, ja_]
         rfl
        refine pU_ 7 25 ?_ #[false, true, false, true, true, true, false, true, false, false, false, false] rfl rfl (qc_ HT_.out (by kernel_rfl)) (fun _ _ _ h => h) (by rfl) ?_ ?_ ?_ ?_; rotate_left
        ·intro w'
         go_simp
         with_reducible rfl
        rotate_left
        ·simp only [Act.put, s1_, s2_, s3_, ia_, ja_]
         rfl
        refine take_ (i := 6) (N := some 24) (v := ?_) (a' := ?_) #[false, true, false, true, true, true, true, true, false, false, false, false] rfl rfl (nf_ HT_.out HW_.out (by kernel_rfl)) (fun _ _ _ h => h) (Or.inl ⟨by rfl, ?_⟩) hHeld ?_ ?_; rotate_left
        ·rintro w' ⟨s0, s1, s2, s3, s4⟩
         go_simp
         with_reducible rfl
        rotate_left
        ·simp only [Act.put, s1_, s2_, s3_, ia_, ja_]
         rfl
        refine one_ (i := 0) (N := some 18) #[true, true, false, true, true, true, true, true, false, false, false, false] rfl rfl (id_ HT_.out (by kernel_rfl)) (by decide) (fun K hK => ?_); refine Kd.N_lit_step k56 _ 56 ?hg (N' := 18) ?hd (xs := ([] : List (S56))) (inner := []) (ok := (fun k_ => (w.heap.size ≤ k_) ∧ some k_ ≠ (u5 : Value).ownBlock)) (okp := (fun k_ => (w.heap.size ≤ k_) ∧ some k_ ≠ (u5 : Value).ownBlock)) ?hr ?hp (fun _ hk => hk) ((show ∀ k_, w24.heap.size ≤ k_ → (fun k_ => (w.heap.size ≤ k_) ∧ some k_ ≠ (u5 : Value).ownBlock) k_ from fun k_ hk => ⟨(Nat.le_trans (qa_ (by repeat (first | (with_reducible first | exact HB.out | apply aa_ | apply ca_ | apply ga_) | exact HB.out))) hk), Kd.fresh' (Kd.N_lt (by (with_reducible repeat (first | apply Kd.N_alloc | apply Kd.N_drewN | apply Kd.N_drew)); exact HO_5.out)) k_ hk⟩) _ (Nat.le_refl _)) (Below.refl _ _) (Nat.le_refl _) (by simp) ?_; (case hd => rfl); (case hg => rfl); (case hr => first | (go_simp; done) | (go_simp; rfl)); (case hp => exact (Reps.none _ _)); intro v319 w25 ho26 hb hg_ hnew_; clear hg_ hnew_
        (first | rw [← Ny318.out] at ho26 | (simp only [Int.reduceToNat] at ho26; rw [← Ny318.out] at ho26))
        have n0_ := aM_ (Kd.N_elder' (by (with_reducible repeat (first | apply Kd.N_alloc | apply Kd.N_drewN | apply Kd.N_drew)); exact HO_5.out) (Kd.N_base ho26) hb); have n1_ := aM_ (Kd.N_lower ho26 (qa_ (by repeat (first | (with_reducible first | exact HB.out | apply aa_ | apply ca_ | apply ga_) | exact HB.out)))); have n2_ := aM_ (fa_ (by repeat (first | (with_reducible first | exact HB.out | apply aa_ | apply ca_ | apply ga_) | exact HB.out)) hb); clear HO_5; clear HB; have HO_5 := n0_; have HO320 := n1_; have HB := n2_; clear n0_ n1_ n2_; clear hb ho26; obtain ⟨Ao28, co28, eo28⟩ := Kd.N_slice HO_5.out
        (first | subst eo28 | (injection eo28 with f1_ f2_ f3_; have f4_ := f1_.symm; have f5_ := f3_.symm; clear f1_ f2_ f3_; subst f4_; subst f5_))
        refine hK.out _ _ ⟨((HB.out.cell (World.block_lt_of_cell? w _ hw324_0)).trans hw324_0), ((HB.out.cell (World.block_lt_of_cell? w _ hw324_1)).trans hw324_1), ((HB.out.cell (World.block_lt_of_cell? w _ hw324_2)).trans hw324_2), ((HB.out.cell (World.block_lt_of_cell? w _ hw324_3)).trans hw324_3), ((HB.out.cell (World.block_lt_of_cell? w _ hw324_4)).trans hw324_4)⟩ (fun hHeld => ?_); clear hK K; refine wa_ (a' := ?_) ?_ ?_; rotate_left; (focus (show Act.put _ (some 18) _ = _; simp only [Act.put, s1_, s2_, s3_, ia_, ja_]; rfl)); refine one_ (i := 2) (N := some 20) (f_ 12 8) rfl rfl (id_ HT_.out (by kernel_rfl)) (by decide) (fun K hK => ?_); refine Kd.N_append_rows_step k56 (w0 := w) w.heap.size (by rfl) (.tmp 18) (.tmp 19) 41 56 (.agg #[(.int .i64 0), (.slice none 0 0), (.int .i64 0), (.slice none 0 0), (.int .i64 0)]) 72 rfl Tryz.underlying41 fm_ rfl (by decide) (by omega) v319 y318 x5_1 _ _ _ (fun k_ => (w.heap.size ≤ k_)) (fun k_ => ((fun k_ => (w.heap.size ≤ k_))) k_ ∧ some k_ ≠ (v319 : Value).ownBlock) rfl rfl ?aO ?aR (fun _ hk => hk) ?aF ?aB ?aS ?aL ?_
        (case aR => exact (by skip; exact Kd.N_F (Kd.N_mono (ok' := (fun k_ => ((fun k_ => (w.heap.size ≤ k_))) k_ ∧ some k_ ≠ (v319 : Value).ownBlock)) (HO_5.out) (fun k_ hk => ⟨hk.1, hk.2⟩))))
        (case aB => exact (by repeat (first | (with_reducible first | exact HB.out | apply aa_ | apply ca_ | apply ga_) | exact HB.out)))
        (case aF => exact (fun k_ hk => (Nat.le_trans (qa_ (by repeat (first | (with_reducible first | exact HB.out | apply aa_ | apply ca_ | apply ga_) | exact HB.out))) hk)))
        (case aO => exact (by (with_reducible repeat (first | apply Kd.N_alloc | apply Kd.N_drewN | apply Kd.N_drew)); exact Kd.N_mono HO320.out (fun _ hk => hk.1)))
        (case aS => exact (qa_ (by repeat (first | (with_reducible first | exact HB.out | apply aa_ | apply ca_ | apply ga_) | exact HB.out))))
        (case aL => have := LMc6.out; omega)
        intro v322 w27 ho hb hg hat; rw [← Ny321.out] at ho; have n0_ := aM_ (Kd.N_afterv (ok := (fun k_ => (w.heap.size ≤ k_))) (by (with_reducible repeat (first | apply Kd.N_alloc | apply Kd.N_drewN | apply Kd.N_drew)); exact HO_5.out) hg hat); have n1_ := aM_ (hb); have n2_ := aM_ (ho); clear HO_5; clear HB; clear HO320; have HO_5 := n0_; have HB := n1_; have HO323 := n2_; clear n0_ n1_ n2_; clear ho hb hg hat; refine hK.out _ _ ⟨((HB.out.cell (World.block_lt_of_cell? w _ hw324_0)).trans hw324_0), ((HB.out.cell (World.block_lt_of_cell? w _ hw324_1)).trans hw324_1), ((HB.out.cell (World.block_lt_of_cell? w _ hw324_2)).trans hw324_2), ((HB.out.cell (World.block_lt_of_cell? w _ hw324_3)).trans hw324_3), ((HB.out.cell (World.block_lt_of_cell? w _ hw324_4)).trans hw324_4)⟩ (fun hHeld => ?_); clear hK K; refine wa_ (a' := ?_) ?_ ?_; rotate_left; (focus (show Act.put _ (some 20) _ = _; simp only [Act.put, s1_, s2_, s3_, ia_, ja_]; rfl)); refine one_ (i := 8) (N := some 26) (f_ 12 9) rfl rfl (id_ HT_.out (by kernel_rfl)) (by decide) (fun K hK => ?_); refine wb_ Tryz.func73 (by kernel_rfl) rfl #[.agg #[.int .i64 ((ta_ l0 x6_1).f0), .int .i64 ((ta_ l0 x6_1).f1), .int .i64 ((ta_ l0 x6_1).f2), .slice A324_3 ((ta_ l0 x6_1).f3).length c324_3, .slice A324_4 ((ta_ l0 x6_1).f4).length c324_4], .int .i64 a1] (by rfl) rfl rfl (by (try simp only [List.map_toArray, List.map_cons, List.map_nil]); first | done | rfl | (simp only [List.length_drop, List.length_take]; rfl)) ?_
        with_reducible refine (l4_Raw_Make.calls kj2 ((ta_ l0 x6_1).f0) ((ta_ l0 x6_1).f1) ((ta_ l0 x6_1).f2) _ _ ((ta_ l0 x6_1).f3) _ _ ((ta_ l0 x6_1).f4) a1 t325 t326 t329 t330 t333 _ ?side1 ?side2 ?side3 ?side4 A9.out).mono ?_
        (case side1 => repeat (first | exact (Kd.C_below HR324_3.out HB.out) | (with_reducible refine Kd.C_alloc ?_ _) | (with_reducible refine Kd.C_drewN ?_ _) | (with_reducible refine Kd.C_drew ?_)))
        (case side2 => exact HC324_3.out)
        (case side3 => repeat (first | exact (Kd.C_below HR324_4.out HB.out) | (with_reducible refine Kd.C_alloc ?_ _) | (with_reducible refine Kd.C_drewN ?_ _) | (with_reducible refine Kd.C_drew ?_)))
        (case side4 => exact HC324_4.out)
        rintro e w29 ⟨v327, v331, rfl, ho0, ho1, hb⟩; refine ⟨_, rfl, ?_⟩; have n0_ := aM_ (Kd.N_mono (Kd.N_told (Kd.N_told (Kd.N_old (by (with_reducible repeat (first | apply Kd.N_alloc | apply Kd.N_drewN | apply Kd.N_drew)); exact HO_5.out) hb) (Kd.R_base ho0)) (Kd.R_base ho1)) (fun _ h_ => h_.1)); have n1_ := aM_ (Kd.N_mono (Kd.N_told (Kd.N_told (Kd.N_old (by (with_reducible repeat (first | apply Kd.N_alloc | apply Kd.N_drewN | apply Kd.N_drew)); exact HO323.out) hb) (Kd.R_base ho0)) (Kd.R_base ho1)) (fun _ h_ => h_.1)); have n2_ := aM_ (Kd.R_lower (Kd.R_newM (M := fun k_ => (w.heap.size ≤ k_)) ho0 (qa_ (by repeat (first | (with_reducible first | exact HB.out | apply aa_ | apply ca_ | apply ga_) | exact HB.out))) (fun k_ h_ => h_)) (qa_ (by repeat (first | (with_reducible first | exact HB.out | apply aa_ | apply ca_ | apply ga_) | exact HB.out)))); have n3_ := aM_ (Kd.R_lower (Kd.R_newM (M := fun k_ => (w.heap.size ≤ k_)) ho1 (qa_ (by repeat (first | (with_reducible first | exact HB.out | apply aa_ | apply ca_ | apply ga_) | exact HB.out))) (fun k_ h_ => h_)) (qa_ (by repeat (first | (with_reducible first | exact HB.out | apply aa_ | apply ca_ | apply ga_) | exact HB.out)))); have n4_ := aM_ (fa_ (by repeat (first | (with_reducible first | exact HB.out | apply aa_ | apply ca_ | apply ga_) | exact HB.out)) hb); clear HO_5; clear HO323; clear HB; have HO_5 := n0_; have HO323 := n1_; have HO328 := n2_; have HO332 := n3_; have HB := n4_; clear n0_ n1_ n2_ n3_ n4_
        (try clear hb)
        (try clear hb2)
        (try clear hk)
        (try clear hi)
        (try clear ho0)
        (try clear ho1)
        obtain ⟨Ao31, co31, eo31⟩ := Kd.R_slice HO328.out
        (first | subst eo31 | (injection eo31 with f1_ f2_ f3_; have f4_ := f1_.symm; have f5_ := f3_.symm; clear f1_ f2_ f3_; subst f4_; subst f5_))
        obtain ⟨Ao32, co32, eo32⟩ := Kd.R_slice HO332.out
        (first | subst eo32 | (injection eo32 with f1_ f2_ f3_; have f4_ := f1_.symm; have f5_ := f3_.symm; clear f1_ f2_ f3_; subst f4_; subst f5_))
        refine hK.out _ _ ⟨((HB.out.cell (World.block_lt_of_cell? w _ hw324_0)).trans hw324_0), ((HB.out.cell (World.block_lt_of_cell? w _ hw324_1)).trans hw324_1), ((HB.out.cell (World.block_lt_of_cell? w _ hw324_2)).trans hw324_2), ((HB.out.cell (World.block_lt_of_cell? w _ hw324_3)).trans hw324_3), ((HB.out.cell (World.block_lt_of_cell? w _ hw324_4)).trans hw324_4)⟩ (fun hHeld => ?_); clear hK K; refine wa_ (a' := ?_) ?_ ?_; rotate_left; (focus (show Act.put _ (some 26) _ = _; simp only [Act.put, s1_, s2_, s3_, ia_, ja_]; rfl)); refine one_ (i := 9) (N := some 27) (f_ 12 10) rfl rfl (id_ HT_.out (by kernel_rfl)) (by decide) (fun K hK => ?_); refine hd_ (w1 := ?_) (v := ?_) (by rfl) rfl ?_ ?_; rotate_left 2
        ·go_simp
         constructor
         ·rfl
         rfl
        refine hK.out _ _ ⟨(World.cell?_alloc_lt _ _ _ (World.block_lt_of_cell? _ _ (((HB.out.cell (World.block_lt_of_cell? w _ hw324_0)).trans hw324_0)))).trans (((HB.out.cell (World.block_lt_of_cell? w _ hw324_0)).trans hw324_0)), (World.cell?_alloc_lt _ _ _ (World.block_lt_of_cell? _ _ (((HB.out.cell (World.block_lt_of_cell? w _ hw324_1)).trans hw324_1)))).trans (((HB.out.cell (World.block_lt_of_cell? w _ hw324_1)).trans hw324_1)), (World.cell?_alloc_lt _ _ _ (World.block_lt_of_cell? _ _ (((HB.out.cell (World.block_lt_of_cell? w _ hw324_2)).trans hw324_2)))).trans (((HB.out.cell (World.block_lt_of_cell? w _ hw324_2)).trans hw324_2)), (World.cell?_alloc_lt _ _ _ (World.block_lt_of_cell? _ _ (((HB.out.cell (World.block_lt_of_cell? w _ hw324_3)).trans hw324_3)))).trans (((HB.out.cell (World.block_lt_of_cell? w _ hw324_3)).trans hw324_3)), (World.cell?_alloc_lt _ _ _ (World.block_lt_of_cell? _ _ (((HB.out.cell (World.block_lt_of_cell? w _ hw324_4)).trans hw324_4)))).trans (((HB.out.cell (World.block_lt_of_cell? w _ hw324_4)).trans hw324_4))⟩ (fun hHeld => ?_); clear hK K; refine wa_ (a' := ?_) ?_ ?_; rotate_left; (focus (show Act.put _ (some 27) _ = _; simp only [Act.put, s1_, s2_, s3_, ia_, ja_]; rfl)); refine one_ (i := 10) (N := some 28) (f_ 12 11) rfl rfl (id_ HT_.out (by kernel_rfl)) (by decide) (fun K hK => ?_); refine Kd.N_append_step k56 (w0 := w) w.heap.size (by rfl) (.tmp 20) (.tmp 27) 41 56 (.agg #[(.int .i64 0), (.slice none 0 0), (.int .i64 0), (.slice none 0 0), (.int .i64 0)]) 72 rfl Tryz.underlying41 fm_ rfl (by decide) (by omega) v322 y321 (⟨t325, t326, (⟨t329, t330⟩ : S54), t333⟩ : S56) [.int .i64 t325, .slice Ao31 t326.length co31, .int .i64 t329, .slice Ao32 t330.length co32, .int .i64 t333] (fun k_ => (w.heap.size ≤ k_)) (fun k_ => ((fun k_ => (w.heap.size ≤ k_))) k_ ∧ some k_ ≠ (v322 : Value).ownBlock) rfl rfl ?aP (fun _ hk => hk) ?aF ?aO ?aB ?aS ?aL ?_
        (case aP => exact (qt_ _ _ (⟨t325, t326, (⟨t329, t330⟩ : S54), t333⟩ : S56) (Kd.R_reads' (Kd.R_mono (ok' := (fun k_ => ((fun k_ => (w.heap.size ≤ k_))) k_ ∧ some k_ ≠ (v322 : Value).ownBlock)) (Kd.R_apart' (HO328.out) (Kd.N_typed HO323.out) (by decide)) (fun k_ hk => ⟨hk.1.1, hk.2⟩))).2.1 (Kd.R_F (Kd.R_mono (ok' := (fun k_ => ((fun k_ => (w.heap.size ≤ k_))) k_ ∧ some k_ ≠ (v322 : Value).ownBlock)) (Kd.R_apart' (HO328.out) (Kd.N_typed HO323.out) (by decide)) (fun k_ hk => ⟨hk.1.1, hk.2⟩))) (Kd.R_reads' (Kd.R_mono (ok' := (fun k_ => ((fun k_ => (w.heap.size ≤ k_))) k_ ∧ some k_ ≠ (v322 : Value).ownBlock)) (Kd.R_apart' (HO332.out) (Kd.N_typed HO323.out) (by decide)) (fun k_ hk => ⟨hk.1.1, hk.2⟩))).2.1 (Kd.R_F (Kd.R_mono (ok' := (fun k_ => ((fun k_ => (w.heap.size ≤ k_))) k_ ∧ some k_ ≠ (v322 : Value).ownBlock)) (Kd.R_apart' (HO332.out) (Kd.N_typed HO323.out) (by decide)) (fun k_ hk => ⟨hk.1.1, hk.2⟩)))))
        (case aB => exact (by repeat (first | (with_reducible first | exact HB.out | apply aa_ | apply ca_ | apply ga_) | exact HB.out)))
        (case aF => exact (fun k_ hk => (Nat.le_trans (qa_ (by repeat (first | (with_reducible first | exact HB.out | apply aa_ | apply ca_ | apply ga_) | exact HB.out))) hk)))
        (case aO => exact (by (with_reducible repeat (first | apply Kd.N_alloc | apply Kd.N_drewN | apply Kd.N_drew)); exact Kd.N_mono HO323.out (fun _ hk => hk.1.1)))
        (case aS => exact (qa_ (by repeat (first | (with_reducible first | exact HB.out | apply aa_ | apply ca_ | apply ga_) | exact HB.out))))
        (case aL => have := LMc10.out; omega)
        intro v335 w30 ho hb hg hat; rw [← Ny334.out] at ho; have n0_ := aM_ (Kd.N_afterv (ok := (fun k_ => (w.heap.size ≤ k_) ∧ some k_ ≠ (.slice Ao31 t326.length co31 : Value).ownBlock ∧ some k_ ≠ (.slice Ao32 t330.length co32 : Value).ownBlock)) (by (with_reducible repeat (first | apply Kd.N_alloc | apply Kd.N_drewN | apply Kd.N_drew)); exact Kd.N_mono HO_5.out (fun _ hk => ⟨⟨hk.1.1.1, ⟨hk.1.2, hk.2⟩⟩, hk.1.1.2⟩)) hg hat); have n1_ := aM_ (hb); have n2_ := aM_ (ho); clear HO_5; clear HB; clear HO323; clear HO328; clear HO332; have HO_5 := n0_; have HB := n1_; have HO336 := n2_; clear n0_ n1_ n2_; clear ho hb hg hat; refine hK.out _ _ ⟨((HB.out.cell (World.block_lt_of_cell? w _ hw324_0)).trans hw324_0), ((HB.out.cell (World.block_lt_of_cell? w _ hw324_1)).trans hw324_1), ((HB.out.cell (World.block_lt_of_cell? w _ hw324_2)).trans hw324_2), ((HB.out.cell (World.block_lt_of_cell? w _ hw324_3)).trans hw324_3), ((HB.out.cell (World.block_lt_of_cell? w _ hw324_4)).trans hw324_4)⟩ (fun hHeld => ?_); clear hK K; refine wa_ (a' := ?_) ?_ ?_; rotate_left; (focus (show Act.put _ (some 28) _ = _; simp only [Act.put, s1_, s2_, s3_, ia_, ja_]; rfl)); refine pU_ 11 7 ?_ (f_ 12 12) rfl rfl (qc_ HT_.out (by kernel_rfl)) (fun _ _ _ h => h) (by rfl) ?_ ?_ ?_ ?_; rotate_left
        ·intro w'
         go_simp
         with_reducible rfl
        rotate_left
        ·simp only [Act.put, s1_, s2_, s3_, ia_, ja_]
         rfl
        refine je_ (uj_ HT_.out (by kernel_rfl)) ?_; obtain ⟨Ao33, co33, eo33⟩ := Kd.N_slice HO336.out; subst eo33
        try go_wp2_with (first | ((with_reducible refine mb_ (f := 28) rfl ?_); refine kd_ (some 30) rfl rfl Tryz.func28 (by kernel_rfl) rfl #[.slice Ao33 y334.length co33] rfl (by (try simp only [List.map_toArray, List.map_cons, List.map_nil]); first | done | rfl | (simp only [List.length_drop, List.length_take]; rfl)) ?_; (with_reducible refine (r4_Check.calls _ _ y334 false _ ?side1 ?side2 A11.out).mono ?_); (case side1 => repeat (first | exact (Kd.N_reads' HO336.out).2.2 | (with_reducible refine Kd.C_alloc ?_ _) | (with_reducible refine Kd.C_drewN ?_ _) | (with_reducible refine Kd.C_drew ?_))); (case side2 => exact (Kd.N_reads' HO336.out).2.1); rintro e w34 ⟨rfl, hb⟩; refine ⟨_, rfl, ?_⟩; have n0_ := aM_ (Kd.N_below (by (with_reducible repeat (first | apply Kd.N_alloc | apply Kd.N_drewN | apply Kd.N_drew)); exact HO_5.out) hb); have n1_ := aM_ (Kd.N_below (by (with_reducible repeat (first | apply Kd.N_alloc | apply Kd.N_drewN | apply Kd.N_drew)); exact HO336.out) hb); have n2_ := aM_ (fa_ (by repeat (first | (with_reducible first | exact HB.out | apply aa_ | apply ca_ | apply ga_) | exact HB.out)) hb); clear HO_5; clear HO336; clear HB; have HO_5 := n0_; have HO336 := n1_; have HB := n2_; clear n0_ n1_ n2_; (try clear hb); (try clear hb2); (try clear hk); (try clear hi)))
        go_roundg kj2
        case measure => have := HK1.out; have := HJ2.out; omega
        case rel => exact ⟨(x5_1), (wrap64 (x6_1 + 1)), (by first | rfl | (simp; done) | (simp [*]; done)), H', ⟨by have := HK1.out; have := HJ2.out; omega⟩, ⟨by (with_reducible repeat (first | apply Kd.N_alloc | apply Kd.N_drewN | apply Kd.N_drew)); exact Kd.N_mono HO_5.out (fun _ hk => hk.1.1)⟩, ⟨by repeat (first | (with_reducible first | exact HB.out | apply aa_ | apply ca_ | apply ga_) | exact HB.out)⟩⟩
       rw [if_neg c10] at H; exact absurd H (by simp)
      rw [if_neg c8] at H; exact absurd H (by simp)
     rw [if_neg c7] at H; exact absurd H (by simp)
    rw [if_neg c6] at H; exact absurd H (by simp)
   replace c5 := Bool.eq_false_iff.mpr c5; subst c5; have H1 : (some x5_1) = some r := by rw [if_neg (show ¬ (false = true) by decide)] at H; exact H
   clear H; have H := H1; clear H1; obtain rfl := Option.some.inj H
   go_wp2
   go_ret
   exact ⟨_, by first | rfl | (simp [eb_, db_] <;> rfl) | (simp [*, eb_, db_] <;> rfl), by (with_reducible repeat (first | apply Kd.N_alloc | apply Kd.N_drewN | apply Kd.N_drew)); exact HO_5.out, by repeat (first | (with_reducible first | exact HB.out | apply aa_ | apply ca_ | apply ga_) | exact HB.out)⟩
end Go.Proofs.YtiocgaekoeekgaaGreat.P
end
section
namespace Go.Proofs.YtiocgaekoeekgaaGreat.P
open Go.RowKit YtiocgaekoeekgaaGreatW.PrintWords YtiocgaekoeekgaaGreatW.PrintLast YtiocgaekoeekgaaGreatW.PrintMore
attribute [local go_sem] vb_ tb_ jc_ ic_ lb_ kb_ ub_ sb_   
set_option linter.unusedVariables false
set_option linter.unusedSimpArgs false
attribute [local go_sem] Oper.semAt_some
def rh_ (x : S192) (r : Int) : Bool := !decide (r < x.f0) && !decide (x.f1 < r)
def cq_ (x : S192) (r : Int) : Int := wrap64 (x.f2 + wrap64 (wrap64 (r - x.f0) * x.f3))
def rn_ (x : S192) (r : Int) : Int := if rh_ x r then cq_ x r else r
theorem of_walk (x : S192) (r : Int) (w : World) :
  Calls Tryz.prog 151 #[.agg #[.int .i64 x.f0, .int .i64 x.f1, .int .i64 x.f2, .int .i64 x.f3], .int .i64 r] w fun e w' => e = .returned (.tuple #[.int .i64 (rn_ x r), .bool (rh_ x r)]) ∧ Below w.heap.size w w' := by
 have hu1 := Tryz.underlying192
 by_cases h1 : r < x.f0
 ·have e1 : decide (r < x.f0) = true := decide_eq_true h1
  have HI : Az (rh_ x r = false) := ⟨by unfold rh_; rw [e1]; rfl⟩; clear h1
  go_enter Tryz.func151, Tryz.ntmps151
  go_wp2
  refine bodyPost_ret (results_tmp2 rfl _ _ _) rfl ?_; rw [show rn_ x r = _ from if_neg (by rw [HI.out]; decide), HI.out]; exact ⟨rfl, aa_ (Below.refl _ _) _⟩
 have e1 : decide (r < x.f0) = false := decide_eq_false h1
 by_cases h2 : x.f1 < r
 ·have e2 : decide (x.f1 < r) = true := decide_eq_true h2
  have HI : Az (rh_ x r = false) := ⟨by unfold rh_; rw [e1, e2]; rfl⟩; clear h1 h2
  go_enter Tryz.func151, Tryz.ntmps151
  go_wp2
  refine bodyPost_ret (results_tmp2 rfl _ _ _) rfl ?_; rw [show rn_ x r = _ from if_neg (by rw [HI.out]; decide), HI.out]; exact ⟨rfl, aa_ (Below.refl _ _) _⟩
 have e2 : decide (x.f1 < r) = false := decide_eq_false h2
 have HI : Az (rh_ x r = true) := ⟨by unfold rh_; rw [e1, e2]; rfl⟩
 clear h1 h2
 go_enter Tryz.func151, Tryz.ntmps151
 go_wp2
 refine bodyPost_ret (results_tmp2 rfl _ _ _) rfl ?_
 rw [show rn_ x r = _ from if_pos HI.out, HI.out]
 exact ⟨rfl, aa_ (Below.refl _ _) _⟩
noncomputable def rowsP : List S192 := (fold_rows.f).getD []
def zg_ : List S192 → Int → Int
 | [], r => r
 | x :: l, r => if rh_ x r then cq_ x r else zg_ l r
def go_ (r : Int) : Int := if 65281 ≤ r ∧ r ≤ 65374 then wrap64 (r - 65248) else r
noncomputable def ug_ (r : Int) : Int := zg_ rowsP (go_ r)
theorem du_ : fold_rows.f = some rowsP := rfl
theorem qp_ (L : List S192) (i : Nat) (hi : i < L.length) (r : Int) : zg_ (L.drop i) r = if rh_ (fg_ L (i : Int)) r then cq_ (fg_ L (i : Int)) r else zg_ (L.drop (i + 1)) r := by
 have hn : fg_ L (i : Int) = L[i] := by
  show L.getD (i : Int).toNat _ = _; rw [Int.toNat_natCast, List.getD_eq_getElem?_getD, List.getElem?_eq_getElem hi]; rfl
 rw [hn, List.drop_eq_getElem_cons hi, zg_]
theorem cu_ (r0 : Int) (w : World) :
  Calls Tryz.prog 131 #[.int .i64 r0] w fun e w' => e = .returned (.int .i64 (ug_ r0)) ∧ Below w.heap.size w w' := by
 have hu1 := Tryz.underlying192
 have HRS : Az (∀ W : World, Calls Tryz.prog 152 #[] W fun e w' => ∃ v0_ : Value, e = .returned (v0_) ∧ Kd.R k192 192 w' W.heap.size (fun _ => True) v0_ rowsP ∧ Below W.heap.size W w') := ⟨fun W => fold_rows.calls rowsP W du_⟩
 obtain ⟨L, hL⟩ : ∃ L, L = rowsP := ⟨_, rfl⟩
 have hll : rowsP.length ≤ 1000 := by decide
 rw [← hL] at HRS hll
 have HF : Az (ug_ r0 = zg_ L (go_ r0)) := ⟨by rw [hL]; rfl⟩
 clear hL
 obtain ⟨r, hr⟩ : ∃ r, r = go_ r0 := ⟨_, rfl⟩
 rw [← hr] at HF
 have hcond : (decide (65281 ≤ r0) = false ∧ r = r0) ∨ (decide (65281 ≤ r0) = true ∧ decide (r0 ≤ 65374) = false ∧ r = r0) ∨ (decide (65281 ≤ r0) = true ∧ decide (r0 ≤ 65374) = true ∧ r = wrap64 (r0 - 65248)) := by
  unfold go_ at hr
  split at hr
  ·next h => exact .inr (.inr ⟨decide_eq_true h.1, decide_eq_true h.2, hr⟩)
  next h =>
  by_cases h1 : 65281 ≤ r0
  ·exact .inr (.inl ⟨decide_eq_true h1, decide_eq_false (by omega), hr⟩)
  exact .inl ⟨decide_eq_false h1, hr⟩
 clear hr
 generalize ug_ r0 = z at *
 rcases hcond with ⟨e1, rfl⟩ | ⟨e1, e2, rfl⟩ | ⟨e1, e2, hr⟩ <;>
 ((try replace hr := hr.symm)
  go_enter Tryz.func131, Tryz.ntmps131
  go_wp2_with fail
  refine (HRS.out _).mono ?_; rintro e w1 ⟨v, rfl, hR, hB1⟩; obtain ⟨A1, c1, hs1⟩ := Kd.R_slice hR; subst hs1; have HC := aM_ (Kd.R_reads' hR).2.2; have HB := aM_ hB1; have HF0 : Az (z = zg_ (L.drop 0) r) := ⟨HF.out⟩; clear hR hB1 HRS HF
  go_wp2
  go_loopg [18] L.length (fun gg s18 wr => ∃ i : Nat, i ≤ L.length ∧ L.length - i ≤ gg ∧ s18 = .int .i64 i ∧ Az (z = zg_ (L.drop i) r) ∧ Az (Below w1.heap.size w1 wr))
  case atStart => exact ⟨0, by omega, by omega, rfl, HF0, ⟨Below.refl _ _⟩⟩
  clear HF0; obtain ⟨i, hi, hgg, rfl, HF, HW⟩ := hrel
  by_cases hil : i < L.length
  ·have hilz : (i : Int) < (L.length : Int) := by omega
   have hdr := qp_ L i hil r; obtain ⟨ad, hA, h0, h1, h2, h3⟩ := at_T192 (Kd.C_below HC.out HW.out) (i : Int) (by omega) hilz; subst hA; rw [Int.toNat_natCast] at h0 h1 h2 h3; generalize fg_ L (i : Int) = y at *; have HD := aM_ hdr; clear hdr; have hcl := of_walk y r
   go_wp2_with fail
   refine (hcl _).mono ?_; rintro e w2 ⟨rfl, hB2⟩; have HW2 : Az (Below w1.heap.size w1 w2) := ⟨fa_ HW.out (fa_ (aa_ (Below.refl _ _) _) hB2)⟩; clear hB2 h0 h1 h2 h3 HW hcl
   cases hin : rh_ y r with
   | true =>
    have HV : Az (rn_ y r = cq_ y r) := ⟨if_pos hin⟩; have HG : Az (z = cq_ y r) := ⟨by rw [HF.out, HD.out, hin]; rfl⟩; rw [HV.out]; clear hin
    go_wp2
    go_ret
    rw [HG.out]
    exact ⟨rfl, fa_ HB.out HW2.out⟩
   | false =>
    have HV : Az (rn_ y r = r) := ⟨if_neg (by rw [hin]; decide)⟩; have HG : Az (z = zg_ (L.drop (i + 1)) r) := ⟨by rw [HF.out, HD.out, hin]; rfl⟩; rw [HV.out]; clear hin
    go_wp2
    go_roundg (L.length - (i + 1))
    case measure => omega
    case rel => exact ⟨i + 1, by omega, by omega, by go_num, HG, HW2⟩
  have he : i = L.length := by omega
  have hilz : decide ((i : Int) < (L.length : Int)) = false := by simp; omega
  have HG : Az (z = r) := ⟨by rw [HF.out, he, List.drop_length]; rfl⟩; clear he
  go_wp2
  go_ret
  rw [HG.out]
  exact ⟨rfl, fa_ HB.out HW.out⟩)
end Go.Proofs.YtiocgaekoeekgaaGreat.P
end
section
namespace Go.Proofs
open Go.Shelf
def Tryz.runeA_ren : Go.Shelf.Ren := ⟨fun | 242 => 130 | 278 => 150 | n => n, fun | 37 => 28 | 21 => 21 | 51 => 188 | 4 => 4 | 5 => 5 | 46 => 150 | n => n, fun | n => n⟩
theorem Tryz.runeA : Go.Proofs.Lays.n242 Tryz.prog Tryz.runeA_ren := {
 mixed := by kernel_rfl
 f242 := Tryz.func130.trans (congrArg some (by kernel_rfl))
 f278 := Tryz.func150.trans (congrArg some (by kernel_rfl))
 t4 := Tryz.underlying4
 a4 := Tryz.isAgg4
 z4 := Tryz.sizeOf4
 v4 := Tryz.zeroValue4
 t5 := Tryz.underlying5
 a5 := Tryz.isAgg5
 z5 := Tryz.sizeOf5
 v5 := Tryz.zeroValue5
 t21 := Tryz.underlying21
 a21 := Tryz.isAgg21
 z21 := Tryz.sizeOf21
 v21 := Tryz.zeroValue21
 t37 := Tryz.underlying28
 a37 := Tryz.isAgg28
 z37 := Tryz.sizeOf28
 v37 := Tryz.zeroValue28
 t46 := Tryz.underlying150
 a46 := Tryz.isAgg150
 z46 := Tryz.sizeOf150
 v46 := Tryz.zeroValue150
 t51 := Tryz.underlying188
 a51 := Tryz.isAgg188
 z51 := Tryz.sizeOf188
 v51 := Tryz.zeroValue188 }
end Go.Proofs
end
section
namespace Go.Proofs.YtiocgaekoeekgaaGreat.P
open Go.RowKit YtiocgaekoeekgaaGreatW.PrintWords YtiocgaekoeekgaaGreatW.PrintLast YtiocgaekoeekgaaGreatW.PrintMore
attribute [local go_sem] vb_ tb_ jc_ ic_ lb_ kb_ ub_ sb_   
set_option linter.unusedVariables false
set_option linter.unusedSimpArgs false
attribute [local go_sem] Oper.semAt_some
theorem bq_ {w : World} {B e size n : Nat} {v : Value} {xs : List Value} {k : Nat} {s : ByteArray} {pos : Nat} (h : w.ownsRow B e size v n xs) (hk : w.heap[k]? = some (.stringIter s pos)) (pos' : Nat) : (w.iterAt k s pos').ownsRow B e size v n xs := by
 refine ⟨h.1, ?_⟩
 rcases h.2 with h0 | ⟨g, cap, cur, hv, hb, hg, rest⟩
 ·exact .inl h0
 refine .inr ⟨g, cap, cur, hv, hb, ?_, rest⟩
 rw [Lib.iterAt_other _ _ _ _ _ (fun e => by subst e; rw [hk] at hg; cases hg)]
 exact hg
theorem width5 (s : BA) (pos : Nat) (h : pos < s.size) : 1 ≤ (Utf8.decode s pos).2 := by
 by_cases ha : (s[pos]'h).toNat < 128
 ·rw [decode_ascii s pos h ha]
  exact Nat.le_refl _
 exact (decode_high s pos h (by omega)).2
noncomputable def ui_ (s : BA) (p : Nat) : Int := wrap32 (ug_ ((Utf8.decode s p).1 : Int))
noncomputable def ad_ (s : BA) : Nat → Nat → List Int
 | 0, _ => []
 | n + 1, p => if p < s.size then Lib.encodeRuneZ (ui_ s p) ++ ad_ s n (p + (Utf8.decode s p).2) else []
noncomputable def tg_ (s : BA) : ByteArray := strOfNums (ad_ s s.size 0)
theorem km_ (s : BA) : ∀ (n m p : Nat), s.size ≤ p + n → s.size ≤ p + m → ad_ s n p = ad_ s m p := by
 intro n
 induction n with
 | zero =>
  intro m p h1 h2
  cases m with
  | zero => rfl
  | succ m => rw [ad_, ad_, if_neg (by omega)]
 | succ n ih =>
  intro m p h1 h2
  cases m with
  | zero => rw [ad_, ad_, if_neg (by omega)]
  | succ m =>
   rw [ad_, ad_]
   split
   ·have hw := width5 s p (by assumption)
    rw [ih m _ (by omega) (by omega)]
   rfl
theorem lo_ (s : BA) (p : Nat) : -2147483648 ≤ ui_ s p ∧ ui_ s p ≤ 2147483647 := by
 unfold ui_ wrap32
 omega
theorem pp_ (B : Nat) (v : Value) (xs : List Int) (r : Int) (W : World) (hr0 : -2147483648 ≤ r) (hr1 : r ≤ 2147483647) (hown : W.ownsRow B 5 1 v xs.length (xs.map (Value.int .u8))) (hlen : xs.length + 4 ≤ 140737488355328) (hB : B ≤ W.heap.size) :
  Calls Tryz.prog 130 #[v, .int .i32 r] W fun e w' => ∃ v', e = .returned v' ∧ w'.ownsRow B 5 1 v' (xs ++ Lib.encodeRuneZ r).length ((xs ++ Lib.encodeRuneZ r).map (Value.int .u8)) ∧ ∃ o, (W.alloc o).grownBy w' v.ownBlock := by
 refine Calls.mono (Any.utf8_AppendRune_plain Tryz.runeA (by kernel_rfl) B v xs.length (xs.map (Value.int .u8)) r hr0 hr1 W hown hlen hB) ?_
 rintro e w' ⟨v', rfl, h1, o, h2⟩
 refine ⟨v', rfl, ?_, o, h2⟩
 rw [List.length_append, List.map_append]
 have hl : (Lib.runeCells r).length = (Lib.encodeRuneZ r).length := by unfold Lib.runeCells; rw [List.length_map]
 rw [hl] at h1
 exact h1
theorem iter_blk {w w1 : World} {k : Nat} {s : ByteArray} {pos : Nat} {v : Value} {B e size n : Nat} {xs : List Value} (hk : w.heap[k]? = some (.stringIter s pos)) (hown : w.ownsRow B e size v n xs) {o : Obj} (hg : (w.alloc o).grownBy w1 v.ownBlock) : w1.heap[k]? = some (.stringIter s pos) := by
 refine gb_ (oa_ hk (aa_ (Below.refl _ _) o)) hg ?_
 rcases hown.2 with ⟨rfl, _⟩ | ⟨g, cap, cur, rfl, hb, hgg, rest⟩
 ·simp [Value.ownBlock]
 intro e
 simp only [Value.ownBlock, Option.some.injEq] at e
 subst e
 rw [hk] at hgg
 cases hgg
theorem jn_ (s : BA) (w : World) (hs : s.size ≤ 1000000) :
  Calls Tryz.prog 91 #[.string s] w fun e w' => e = .returned (.string (tg_ s)) ∧ Below w.heap.size w w' := by
 obtain ⟨T, hT⟩ : ∃ T, T = tg_ s := ⟨_, rfl⟩
 have HT0 : Az (T = strOfNums ([] ++ ad_ s s.size 0)) := ⟨hT⟩
 rw [← hT]
 have HSZ := aM_ hs
 clear hT hs
 have hor : Az ((w.iter s 0).ownsRow w.heap.size 5 1 (.slice none 0 0) ([] : List Int).length (([] : List Int).map (Value.int .u8))) := ⟨by simp [World.ownsRow, maxLen]⟩
 have hit : Az ((w.iter s 0).heap[w.heap.size]? = some (.stringIter s 0)) := ⟨ra_ w _⟩
 have hbl : Az (Below w.heap.size w (w.iter s 0)) := ⟨aa_ (Below.refl _ _) _⟩
 go_enter Tryz.func91, Tryz.ntmps91
 go_wp2
 generalize w.iter s 0 = w1 at *
 go_loopg [3] s.size (fun gg s3 wr => ∃ (p n : Nat) (xs : List Int), s.size - p ≤ gg ∧ Az (xs.length ≤ 4 * p) ∧ Az (s.size ≤ p + n) ∧ Az (T = strOfNums (xs ++ ad_ s n p)) ∧ Az (wr.ownsRow w.heap.size 5 1 s3 xs.length (xs.map (Value.int .u8))) ∧ Az (wr.heap[w.heap.size]? = some (.stringIter s p)) ∧ Az (Below w.heap.size w wr))
 case atStart => exact ⟨0, s.size, [], by omega, ⟨by simp⟩, ⟨by omega⟩, HT0, hor, hit, hbl⟩
 clear HT0 hor hit hbl
 obtain ⟨p, n, xs, hgg, HL, HN, HT, HO, HI, HB⟩ := hrel
 by_cases hps : p < s.size
 ·have hnx : ∀ ty, (Instr.next (.pointer (some ⟨w.heap.size, 0, none⟩)) true ty).run Tryz.prog wr = _ := fun ty => Lib.run_next_any_at wr w.heap.size s p ty HI.out hps
  have hdl := decode_le s p; have hwd := width5 s p hps; have HSG : Az (ui_ s p = wrap32 (ug_ ((Utf8.decode s p).1 : Int))) := ⟨rfl⟩; have HR := aM_ (lo_ s p); have HO1 := aM_ (bq_ HO.out HI.out (p + (Utf8.decode s p).2)); have HI1 : Az ((wr.iterAt w.heap.size s (p + (Utf8.decode s p).2)).heap[w.heap.size]? = some (.stringIter s (p + (Utf8.decode s p).2))) := ⟨Lib.iterAt_heap wr _ s p _ HI.out⟩; have HB1 : Az (Below w.heap.size w (wr.iterAt w.heap.size s (p + (Utf8.decode s p).2))) := ⟨Lib.below_iterAt HB.out (Nat.le_refl _) s _⟩; have hcv : wrap64 ((Utf8.decode s p).1 : Int) = ((Utf8.decode s p).1 : Int) := by rw [wrap64]; omega
  have HRW := aM_ (cu_ ((Utf8.decode s p).1 : Int)); generalize wr.iterAt w.heap.size s (p + (Utf8.decode s p).2) = w2 at *
  have HT1 : Az (T = strOfNums ((xs ++ Lib.encodeRuneZ (ui_ s p)) ++ ad_ s n (p + (Utf8.decode s p).2))) := ⟨by
   cases n with
   | zero => exfalso; have := HN.out; omega
   | succ n =>
    rw [HT.out, ad_, if_pos hps, List.append_assoc]
    congr 2
    congr 1
    exact km_ s n (n + 1) _ (by have := HN.out; omega) (by have := HN.out; omega)⟩
  have HN1 : Az (s.size ≤ p + (Utf8.decode s p).2 + n) := ⟨by have := HN.out; omega⟩; clear HT HI HO HB; generalize ui_ s p = q at *; generalize (Utf8.decode s p).2 = wd at *; generalize (Utf8.decode s p).1 = d at *; have hq : wrap32 (ug_ (d : Int)) = q := HSG.out.symm; have HPS := aM_ hps; clear hdl HSG
  go_wp2_with fail
  refine (HRW.out _).mono ?_; rintro e w3 ⟨rfl, hB3⟩; have HO3 : Az (w3.ownsRow w.heap.size 5 1 u3 xs.length (xs.map (Value.int .u8))) := ⟨qo_ HO1.out hB3⟩; have HI3 := aM_ (oa_ HI1.out hB3); have HB3 : Az (Below w.heap.size w w3) := ⟨fa_ HB1.out hB3⟩; have HAP := aM_ (pp_ w.heap.size u3 xs q w3 HR.out.1 HR.out.2 HO3.out (by have := HL.out; have := HSZ.out; omega) HB3.out.size); clear hB3 HO1 HI1 HB1 HRW
  go_wp2_with fail
  refine HAP.out.mono ?_; rintro e w4 ⟨v', rfl, hown, o, hg⟩; have HI4 := aM_ (iter_blk HI3.out HO3.out hg); have HO4 := aM_ hown; have HB4 : Az (Below w.heap.size w w4) := ⟨Below.grown (fa_ HB3.out (aa_ (Below.refl _ _) o)) hg (by have := HB3.out.size; simp; omega) (fun k hk => gf_ HO3.out k hk)⟩; have HL4 : Az ((xs ++ Lib.encodeRuneZ q).length ≤ 4 * (p + wd)) := ⟨by rw [List.length_append]; have := HL.out; have := (Lib.encodeRuneZ_length q).2; omega⟩; clear hown hg HAP HI3 HO3 HB3 HL; generalize xs ++ Lib.encodeRuneZ q = ys at *
  go_wp2
  go_roundg (s.size - (p + wd))
  case measure => have := HPS.out; omega
  case rel => exact ⟨p + wd, n, ys, by omega, HL4, HN1, HT1, HO4, HI4, HB4⟩
 have hnx : ∀ ty, (Instr.next (.pointer (some ⟨w.heap.size, 0, none⟩)) true ty).run Tryz.prog wr = _ := fun ty => Lib.run_next_end_at wr w.heap.size s p ty HI.out hps
 have HTT : Az (T = strOfNums xs) := ⟨by
  rw [HT.out]
  cases n with
  | zero => rw [ad_, List.append_nil]
  | succ n => rw [ad_, if_neg hps, List.append_nil]⟩
 have hR : Kd.R (Kd.int .u8) 5 wr w.heap.size (fun _ => True) u3 xs := Kd.R_of_own HO.out (fun _ _ => trivial)
 obtain ⟨A, c, hsl⟩ := Kd.R_slice hR
 subst hsl
 have hcv : (convert 28 9 (.slice A xs.length c)).run Tryz.prog wr = .ok (.string (strOfNums xs)) wr := Kd.C_string Tryz.underlying28 Tryz.underlying5 Tryz.underlying9 (Kd.R_reads' hR).2.2
 rw [← HTT.out] at hcv
 clear hR HTT HT HO
 go_wp2
 go_ret
 exact ⟨rfl, HB.out⟩
def jb_ (x a b : Int) : Bool := decide (a ≤ x) && decide (x ≤ b)
theorem xg_ (x a b : Int) : blob_within.f x a b = some (jb_ x a b) := by
 unfold blob_within.f jb_
 by_cases h : x ≥ a
 ·rw [if_pos h, decide_eq_true (show a ≤ x from h), Bool.true_and]
 rw [if_neg h, decide_eq_false (show ¬ a ≤ x from h), Bool.false_and]
theorem we_ (x a b : Int) (w : World) : Calls Tryz.prog 42 #[.int .i64 x, .int .i64 a, .int .i64 b] w fun e w' => e = .returned (.bool (jb_ x a b)) ∧ Below w.heap.size w w' :=
 Calls.mono (blob_within.calls x a b _ w (xg_ x a b)) (by rintro e w' ⟨rfl, hd⟩; exact ⟨rfl, hd.below⟩)
theorem word_w (x : Int) (w : World) : Calls Tryz.prog 92 #[.int .i64 x] w fun e w' => e = .returned (.bool (jb_ x 1 49)) ∧ Below w.heap.size w w' :=
 Calls.mono (blob_word.calls x _ w (by unfold blob_word.f; rw [xg_]; rfl)) (by rintro e w' ⟨rfl, hd⟩; exact ⟨rfl, hd.below⟩)
theorem nogo_ {P : Program} {ops : Array Oper} {Q : Exit → Act → World → Prop} {oi : Oper} {N : Option Tmp} {a : Act} {w : World} {K : Act → World → Prop} (hw : Region.wanted oi (yielded ops a.tmps) = false) (h : K (a.put N undef) w) : if Region.wanted oi (yielded ops a.tmps) = true then Oper.wp P oi a w K Q else K (a.put N undef) w := by
 rw [hw]
 exact h
noncomputable def ie_ (x : S46) : Bool :=
 jb_ x.f0.size 1 20 && ((tg_ x.f0).toList == x.f0.toList && (bt x.f0 0 != 32 && (bt x.f0 ((x.f0.size : Int) - 1) != 32 && (jb_ x.f1 1 49 && jb_ x.f2 (-1000000000) 1000000000))))
theorem uq_ (x : S46) (w : World) :
  Calls Tryz.prog 44 #[.agg #[.string x.f0, .int .i64 x.f1, .int .i64 x.f2]] w fun e w' => e = .returned (.bool (ie_ x)) ∧ Below w.heap.size w w' := by
 obtain ⟨s, c, v⟩ := x
 have HE : Az (ie_ ⟨s, c, v⟩ = (jb_ s.size 1 20 && ((tg_ s).toList == s.toList && (bt s 0 != 32 && (bt s ((s.size : Int) - 1) != 32 && (jb_ c 1 49 && jb_ v (-1000000000) 1000000000)))))) := ⟨rfl⟩
 generalize ie_ ⟨s, c, v⟩ = r at *
 have hu1 := Tryz.underlying46
 have HT : Az (∀ W, s.size ≤ 20 → Calls Tryz.prog 91 #[.string s] W fun e w' => e = .returned (.string (tg_ s)) ∧ Below W.heap.size W w') := ⟨fun W h => jn_ s W (by omega)⟩
 generalize tg_ s = T at *
 obtain ⟨b1, hb1⟩ : ∃ b, jb_ s.size 1 20 = b := ⟨_, rfl⟩
 obtain ⟨b2, hb2⟩ : ∃ b, (T.toList == s.toList) = b := ⟨_, rfl⟩
 obtain ⟨b3, hb3⟩ : ∃ b, (bt s 0 != 32) = b := ⟨_, rfl⟩
 obtain ⟨b4, hb4⟩ : ∃ b, (bt s ((s.size : Int) - 1) != 32) = b := ⟨_, rfl⟩
 obtain ⟨b5, hb5⟩ : ∃ b, jb_ c 1 49 = b := ⟨_, rfl⟩
 obtain ⟨b6, hb6⟩ : ∃ b, jb_ v (-1000000000) 1000000000 = b := ⟨_, rfl⟩
 have HR : Az (r = (b1 && (b2 && (b3 && (b4 && (b5 && b6)))))) := ⟨by rw [HE.out, hb1, hb2, hb3, hb4, hb5, hb6]⟩
 have H1 : Az (∀ W, Calls Tryz.prog 42 #[.int .i64 (s.size : Int), .int .i64 1, .int .i64 20] W fun e w' => e = .returned (.bool b1) ∧ Below W.heap.size W w') := ⟨by rw [← hb1]; exact we_ s.size 1 20⟩
 have H5 : Az (∀ W, Calls Tryz.prog 92 #[.int .i64 c] W fun e w' => e = .returned (.bool b5) ∧ Below W.heap.size W w') := ⟨by rw [← hb5]; exact word_w c⟩
 have H6 : Az (∀ W, Calls Tryz.prog 42 #[.int .i64 v, .int .i64 (-1000000000), .int .i64 1000000000] W fun e w' => e = .returned (.bool b6) ∧ Below W.heap.size W w') := ⟨by rw [← hb6]; exact we_ v _ _⟩
 have HB1 : Az (b1 = true → 0 < s.size ∧ s.size ≤ 20) := ⟨fun h => by
  rw [h] at hb1; unfold jb_ at hb1; simp only [Bool.and_eq_true, decide_eq_true_eq] at hb1
  omega⟩
 clear hb1 hb5 hb6 HE
 have hcase : (b1 = false ∧ r = false) ∨ (b1 = true ∧ b2 = false ∧ r = false) ∨ (b1 = true ∧ b2 = true ∧ b3 = false ∧ r = false) ∨ (b1 = true ∧ b2 = true ∧ b3 = true ∧ b4 = false ∧ r = false) ∨ (b1 = true ∧ b2 = true ∧ b3 = true ∧ b4 = true ∧ b5 = false ∧ r = false) ∨ (b1 = true ∧ b2 = true ∧ b3 = true ∧ b4 = true ∧ b5 = true ∧ r = b6) := by
  have h := HR.out; clear hb2 hb3 hb4
  revert h
  cases b1 <;> cases b2 <;> cases b3 <;> cases b4 <;> cases b5 <;> simp
 clear HR
 obtain ⟨j, hj⟩ : ∃ j : Int, j = (s.size : Int) - 1 := ⟨_, rfl⟩
 rw [← hj] at hb4
 have hx0 : ∀ h : 0 < s.size, ((s[0]'h).toNat : Int) = bt s 0 := vg_ s 0
 have hx1 := vg_ s j
 rcases hcase with ⟨rfl, hr⟩ | ⟨rfl, rfl, hr⟩ | ⟨rfl, rfl, rfl, hr⟩ | ⟨rfl, rfl, rfl, rfl, hr⟩ | ⟨rfl, rfl, rfl, rfl, rfl, hr⟩ | ⟨rfl, rfl, rfl, rfl, rfl, hr⟩
 all_goals
  have HRR := aM_ hr; clear hr
  try
   have hsz := HB1.out rfl; have HT1 := aM_ (fun W => HT.out W hsz.2); have q5 : (0 < s.size) = True := eq_true hsz.1; have qi5 : (0 < (s.size : Int)) = True := eq_true (by omega); have p12 : (0 ≤ j) = True := eq_true (by omega); have q12 : (j < (s.size : Int)) = True := eq_true (by omega); have hjw : wrap64 ((s.size : Int) - 1) = j := by rw [wrap64]; omega
  clear HB1 HT hj
  go_enter Tryz.func44, Tryz.ntmps44
  go_wp2_with fail
  have h0 : (w.alloc (.cells #[.string s, .int .i64 c, .int .i64 v] 46)).cell? ⟨w.heap.size, 0, none⟩ = some (.string s) := ba_ (ra_ w _) 0; have h1 : (w.alloc (.cells #[.string s, .int .i64 c, .int .i64 v] 46)).cell? ⟨w.heap.size, 1, none⟩ = some (.int .i64 c) := ba_ (ra_ w _) 1; have h2 : (w.alloc (.cells #[.string s, .int .i64 c, .int .i64 v] 46)).cell? ⟨w.heap.size, 2, none⟩ = some (.int .i64 v) := ba_ (ra_ w _) 2; have HB0 : Az (Below w.heap.size w (w.alloc (.cells #[.string s, .int .i64 c, .int .i64 v] 46))) := ⟨aa_ (Below.refl _ _) _⟩; generalize w.alloc (.cells #[.string s, .int .i64 c, .int .i64 v] 46) = W1 at *
 all_goals refine wd_ (n := 39) (S := fun w' => w'.cell? ⟨w.heap.size, 0, none⟩ = some (.string s) ∧ w'.cell? ⟨w.heap.size, 1, none⟩ = some (.int .i64 c) ∧ w'.cell? ⟨w.heap.size, 2, none⟩ = some (.int .i64 v) ∧ Az (Below w.heap.size w w')) (ds := []) (f_ 39 0) (by kernel_rfl) rfl rfl ⟨h0, h1, h2, ⟨ca_ HB0.out 1⟩⟩ (fun hHeld => ?_)
 all_goals (refine pU_ 0 3 ?_ (f_ 39 1) rfl rfl (by kernel_rfl) (fun _ _ _ h => h) ?_ ?_ ?_ ?_ ?_; rotate_left; (focus rfl); (focus (intro w'; go_simp; try with_reducible rfl)); rotate_left; (focus (simp only [Act.put, s1_, s2_, s3_, ia_, ja_]; rfl)))
 all_goals (refine tA_ 1 4 ?_ (f_ 39 2) rfl rfl (by kernel_rfl) (fun _ _ _ h => h) ?_ ?_ hHeld ?_ ?_ ?_; rotate_left; (focus rfl); (focus (rintro w' ⟨s0, s1, s2, s3⟩; go_simp; try with_reducible rfl)); rotate_left; (focus (simp only [Act.put, s1_, s2_, s3_, ia_, ja_]; rfl)))
 all_goals (refine pU_ 2 5 ?_ (f_ 39 3) rfl rfl (by kernel_rfl) (fun _ _ _ h => h) ?_ ?_ ?_ ?_ ?_; rotate_left; (focus rfl); (focus (intro w'; go_simp; try with_reducible rfl)); rotate_left; (focus (simp only [Act.put, s1_, s2_, s3_, ia_, ja_]; rfl)))
 all_goals refine one_ (i := 3) (N := some 6) (f_ 39 4) rfl rfl (by kernel_rfl) (by decide) (fun K hK => ?_)
 all_goals first
  | (refine wb_ Tryz.func42 (by kernel_rfl) rfl #[.int .i64 (s.size : Int), .int .i64 1, .int .i64 20] ?_ rfl rfl (by (try simp only [List.map_toArray, List.map_cons, List.map_nil]); rfl) ?_; (focus rfl); refine (H1.out _).mono ?_; rintro e w' ⟨rfl, hB⟩; refine ⟨_, rfl, ?_⟩; refine hK.out _ _ ⟨ha_ hB hHeld.1, ha_ hB hHeld.2.1, ha_ hB hHeld.2.2.1, ⟨fa_ hHeld.2.2.2.out hB⟩⟩ (fun hHeld => ?_))
 all_goals clear hK K
 all_goals (refine wa_ (a' := ?_) ?_ ?_; rotate_left; (focus (show Act.put _ (some 6) _ = _; simp only [Act.put, s1_, s2_, s3_, ia_, ja_]; rfl)))
 all_goals (refine pU_ 4 7 ?_ (f_ 39 5) rfl rfl (by kernel_rfl) (fun _ _ _ h => h) ?_ ?_ ?_ ?_ ?_; rotate_left; (focus rfl); (focus (intro w'; go_simp; try with_reducible rfl)); rotate_left; (focus (simp only [Act.put, s1_, s2_, s3_, ia_, ja_]; rfl)))
 all_goals first
  | (refine pU_ 5 8 ?_ (f_ 39 6) rfl rfl (by kernel_rfl) (fun _ _ _ h => h) ?_ ?_ ?_ ?_ ?_; rotate_left; (focus rfl); (focus (intro w'; go_simp; try with_reducible rfl)); rotate_left; (focus (simp only [Act.put, s1_, s2_, s3_, ia_, ja_]; rfl)))
  | (refine pa_ (i := 5) (N := some 8) (v := undef) (a' := ?_) (f_ 39 6) rfl rfl (by kernel_rfl) (fun _ _ _ h => h) (Or.inr ⟨?_, rfl⟩) ?_ ?_; (focus rfl); rotate_left; (focus (simp only [Act.put, s1_, s2_, s3_, ia_, ja_]; rfl)))
 all_goals first
  | (refine tA_ 6 9 ?_ (f_ 39 7) rfl rfl (by kernel_rfl) (fun _ _ _ h => h) ?_ ?_ hHeld ?_ ?_ ?_; rotate_left; (focus rfl); (focus (rintro w' ⟨s0, s1, s2, s3⟩; go_simp; try with_reducible rfl)); rotate_left; (focus (simp only [Act.put, s1_, s2_, s3_, ia_, ja_]; rfl)))
  | (refine take_ (i := 6) (N := some 9) (v := undef) (a' := ?_) (f_ 39 7) rfl rfl (by kernel_rfl) (fun _ _ _ h => h) (Or.inr ⟨?_, rfl⟩) hHeld ?_ ?_; (focus rfl); rotate_left; (focus (simp only [Act.put, s1_, s2_, s3_, ia_, ja_]; rfl)))
 all_goals first
  | (refine pU_ 8 11 ?_ #[true, true, true, true, true, true, true, false, true, false, false, false, false, false, false, false, false, false, false, false, false, false, false, false, false, false, false, false, false, false, false, false, false, false, false, false, false, false, false] rfl rfl (by kernel_rfl) (fun _ _ _ h => h) ?_ ?_ ?_ ?_ ?_; rotate_left; (focus rfl); (focus (intro w'; go_simp; try with_reducible rfl)); rotate_left; (focus (simp only [Act.put, s1_, s2_, s3_, ia_, ja_]; rfl)))
  | (refine pa_ (i := 8) (N := some 11) (v := undef) (a' := ?_) #[true, true, true, true, true, true, true, false, true, false, false, false, false, false, false, false, false, false, false, false, false, false, false, false, false, false, false, false, false, false, false, false, false, false, false, false, false, false, false] rfl rfl (by kernel_rfl) (fun _ _ _ h => h) (Or.inr ⟨?_, rfl⟩) ?_ ?_; (focus rfl); rotate_left; (focus (simp only [Act.put, s1_, s2_, s3_, ia_, ja_]; rfl)))
 all_goals first
  | (refine tA_ 9 12 ?_ #[true, true, true, true, true, true, true, false, true, true, false, false, false, false, false, false, false, false, false, false, false, false, false, false, false, false, false, false, false, false, false, false, false, false, false, false, false, false, false] rfl rfl (by kernel_rfl) (fun _ _ _ h => h) ?_ ?_ hHeld ?_ ?_ ?_; rotate_left; (focus rfl); (focus (rintro w' ⟨s0, s1, s2, s3⟩; go_simp; try with_reducible rfl)); rotate_left; (focus (simp only [Act.put, s1_, s2_, s3_, ia_, ja_]; rfl)))
  | (refine take_ (i := 9) (N := some 12) (v := undef) (a' := ?_) #[true, true, true, true, true, true, true, false, true, true, false, false, false, false, false, false, false, false, false, false, false, false, false, false, false, false, false, false, false, false, false, false, false, false, false, false, false, false, false] rfl rfl (by kernel_rfl) (fun _ _ _ h => h) (Or.inr ⟨?_, rfl⟩) hHeld ?_ ?_; (focus rfl); rotate_left; (focus (simp only [Act.put, s1_, s2_, s3_, ia_, ja_]; rfl)))
 all_goals refine one_ (i := 7) (N := some 10) (f_ 39 10) rfl rfl (by kernel_rfl) (by decide) (fun K hK => ?_)
 all_goals first
  | (refine wb_ Tryz.func91 (by kernel_rfl) rfl #[.string s] ?_ rfl rfl (by (try simp only [List.map_toArray, List.map_cons, List.map_nil]); rfl) ?_; (focus rfl); refine (HT1.out _).mono ?_; rintro e w' ⟨rfl, hB⟩; refine ⟨_, rfl, ?_⟩; refine hK.out _ _ ⟨ha_ hB hHeld.1, ha_ hB hHeld.2.1, ha_ hB hHeld.2.2.1, ⟨fa_ hHeld.2.2.2.out hB⟩⟩ (fun hHeld => ?_))
  | (refine nogo_ ?_ ?_; (focus rfl); refine hK.out _ _ hHeld (fun hHeld => ?_))
 all_goals clear hK K
 all_goals (refine wa_ (a' := ?_) ?_ ?_; rotate_left; (focus (show Act.put _ (some 10) _ = _; simp only [Act.put, s1_, s2_, s3_, ia_, ja_]; rfl)))
 all_goals first
  | (refine pU_ 10 13 ?_ (f_ 39 11) rfl rfl (by kernel_rfl) (fun _ _ _ h => h) ?_ ?_ ?_ ?_ ?_; rotate_left; (focus rfl); (focus (intro w'; go_simp; try with_reducible rfl)); rotate_left; (focus (simp only [Act.put, s1_, s2_, s3_, ia_, ja_]; rfl)))
  | (refine pa_ (i := 10) (N := some 13) (v := undef) (a' := ?_) (f_ 39 11) rfl rfl (by kernel_rfl) (fun _ _ _ h => h) (Or.inr ⟨?_, rfl⟩) ?_ ?_; (focus rfl); rotate_left; (focus (simp only [Act.put, s1_, s2_, s3_, ia_, ja_]; rfl)))
 all_goals (refine pU_ 11 14 ?_ (f_ 39 12) rfl rfl (by kernel_rfl) (fun _ _ _ h => h) ?_ ?_ ?_ ?_ ?_; rotate_left; (focus rfl); (focus (intro w'; go_simp; try with_reducible rfl)); rotate_left; (focus (simp only [Act.put, s1_, s2_, s3_, ia_, ja_]; rfl)))
 all_goals (refine pU_ 12 15 ?_ (f_ 39 13) rfl rfl (by kernel_rfl) (fun _ _ _ h => h) ?_ ?_ ?_ ?_ ?_; rotate_left; (focus rfl); (focus (intro w'; go_simp; try with_reducible rfl)); rotate_left; (focus (simp only [Act.put, s1_, s2_, s3_, ia_, ja_]; rfl)))
 all_goals first
  | (refine pU_ 13 16 ?_ (f_ 39 14) rfl rfl (by kernel_rfl) (fun _ _ _ h => h) ?_ ?_ ?_ ?_ ?_; rotate_left; (focus rfl); (focus (intro w'; go_simp; try with_reducible rfl)); rotate_left; (focus (simp only [Act.put, s1_, s2_, s3_, ia_, ja_]; rfl)))
  | (refine pa_ (i := 13) (N := some 16) (v := undef) (a' := ?_) (f_ 39 14) rfl rfl (by kernel_rfl) (fun _ _ _ h => h) (Or.inr ⟨?_, rfl⟩) ?_ ?_; (focus rfl); rotate_left; (focus (simp only [Act.put, s1_, s2_, s3_, ia_, ja_]; rfl)))
 all_goals first
  | (refine tA_ 14 17 ?_ (f_ 39 15) rfl rfl (by kernel_rfl) (fun _ _ _ h => h) ?_ ?_ hHeld ?_ ?_ ?_; rotate_left; (focus rfl); (focus (rintro w' ⟨s0, s1, s2, s3⟩; go_simp; try with_reducible rfl)); rotate_left; (focus (simp only [Act.put, s1_, s2_, s3_, ia_, ja_]; rfl)))
  | (refine take_ (i := 14) (N := some 17) (v := undef) (a' := ?_) (f_ 39 15) rfl rfl (by kernel_rfl) (fun _ _ _ h => h) (Or.inr ⟨?_, rfl⟩) hHeld ?_ ?_; (focus rfl); rotate_left; (focus (simp only [Act.put, s1_, s2_, s3_, ia_, ja_]; rfl)))
 all_goals first
  | (refine pU_ 15 18 ?_ (f_ 39 16) rfl rfl (by kernel_rfl) (fun _ _ _ h => h) ?_ ?_ ?_ ?_ ?_; rotate_left; (focus rfl); (focus (intro w'; go_simp; try with_reducible rfl)); rotate_left; (focus (simp only [Act.put, s1_, s2_, s3_, ia_, ja_]; rfl)))
  | (refine pa_ (i := 15) (N := some 18) (v := undef) (a' := ?_) (f_ 39 16) rfl rfl (by kernel_rfl) (fun _ _ _ h => h) (Or.inr ⟨?_, rfl⟩) ?_ ?_; (focus rfl); rotate_left; (focus (simp only [Act.put, s1_, s2_, s3_, ia_, ja_]; rfl)))
 all_goals first
  | (refine pU_ 16 19 ?_ (f_ 39 17) rfl rfl (by kernel_rfl) (fun _ _ _ h => h) ?_ ?_ ?_ ?_ ?_; rotate_left; (focus rfl); (focus (intro w'; go_simp; try with_reducible rfl)); rotate_left; (focus (simp only [Act.put, s1_, s2_, s3_, ia_, ja_]; rfl)))
  | (refine pa_ (i := 16) (N := some 19) (v := undef) (a' := ?_) (f_ 39 17) rfl rfl (by kernel_rfl) (fun _ _ _ h => h) (Or.inr ⟨?_, rfl⟩) ?_ ?_; (focus rfl); rotate_left; (focus (simp only [Act.put, s1_, s2_, s3_, ia_, ja_]; rfl)))
 all_goals (refine pU_ 17 20 ?_ (f_ 39 18) rfl rfl (by kernel_rfl) (fun _ _ _ h => h) ?_ ?_ ?_ ?_ ?_; rotate_left; (focus rfl); (focus (intro w'; go_simp; try with_reducible rfl)); rotate_left; (focus (simp only [Act.put, s1_, s2_, s3_, ia_, ja_]; rfl)))
 all_goals (refine pU_ 18 21 ?_ (f_ 39 19) rfl rfl (by kernel_rfl) (fun _ _ _ h => h) ?_ ?_ ?_ ?_ ?_; rotate_left; (focus rfl); (focus (intro w'; go_simp; try with_reducible rfl)); rotate_left; (focus (simp only [Act.put, s1_, s2_, s3_, ia_, ja_]; rfl)))
 all_goals first
  | (refine pU_ 19 22 ?_ (f_ 39 20) rfl rfl (by kernel_rfl) (fun _ _ _ h => h) ?_ ?_ ?_ ?_ ?_; rotate_left; (focus rfl); (focus (intro w'; go_simp; try with_reducible rfl)); rotate_left; (focus (simp only [Act.put, s1_, s2_, s3_, ia_, ja_]; rfl)))
  | (refine pa_ (i := 19) (N := some 22) (v := undef) (a' := ?_) (f_ 39 20) rfl rfl (by kernel_rfl) (fun _ _ _ h => h) (Or.inr ⟨?_, rfl⟩) ?_ ?_; (focus rfl); rotate_left; (focus (simp only [Act.put, s1_, s2_, s3_, ia_, ja_]; rfl)))
 all_goals first
  | (refine tA_ 20 23 ?_ (f_ 39 21) rfl rfl (by kernel_rfl) (fun _ _ _ h => h) ?_ ?_ hHeld ?_ ?_ ?_; rotate_left; (focus rfl); (focus (rintro w' ⟨s0, s1, s2, s3⟩; go_simp; try with_reducible rfl)); rotate_left; (focus (simp only [Act.put, s1_, s2_, s3_, ia_, ja_]; rfl)))
  | (refine take_ (i := 20) (N := some 23) (v := undef) (a' := ?_) (f_ 39 21) rfl rfl (by kernel_rfl) (fun _ _ _ h => h) (Or.inr ⟨?_, rfl⟩) hHeld ?_ ?_; (focus rfl); rotate_left; (focus (simp only [Act.put, s1_, s2_, s3_, ia_, ja_]; rfl)))
 all_goals first
  | (refine pU_ 21 24 ?_ (f_ 39 22) rfl rfl (by kernel_rfl) (fun _ _ _ h => h) ?_ ?_ ?_ ?_ ?_; rotate_left; (focus rfl); (focus (intro w'; go_simp; try with_reducible rfl)); rotate_left; (focus (simp only [Act.put, s1_, s2_, s3_, ia_, ja_]; rfl)))
  | (refine pa_ (i := 21) (N := some 24) (v := undef) (a' := ?_) (f_ 39 22) rfl rfl (by kernel_rfl) (fun _ _ _ h => h) (Or.inr ⟨?_, rfl⟩) ?_ ?_; (focus rfl); rotate_left; (focus (simp only [Act.put, s1_, s2_, s3_, ia_, ja_]; rfl)))
 all_goals first
  | (refine tA_ 22 25 ?_ (f_ 39 23) rfl rfl (by kernel_rfl) (fun _ _ _ h => h) ?_ ?_ hHeld ?_ ?_ ?_; rotate_left; (focus rfl); (focus (rintro w' ⟨s0, s1, s2, s3⟩; go_simp; try with_reducible rfl)); rotate_left; (focus (simp only [Act.put, s1_, s2_, s3_, ia_, ja_]; rfl)))
  | (refine take_ (i := 22) (N := some 25) (v := undef) (a' := ?_) (f_ 39 23) rfl rfl (by kernel_rfl) (fun _ _ _ h => h) (Or.inr ⟨?_, rfl⟩) hHeld ?_ ?_; (focus rfl); rotate_left; (focus (simp only [Act.put, s1_, s2_, s3_, ia_, ja_]; rfl)))
 all_goals first
  | (refine pU_ 23 26 ?_ (f_ 39 24) rfl rfl (by kernel_rfl) (fun _ _ _ h => h) ?_ ?_ ?_ ?_ ?_; rotate_left; (focus rfl); (focus (intro w'; go_simp; try with_reducible rfl)); rotate_left; (focus (simp only [Act.put, s1_, s2_, s3_, ia_, ja_]; rfl)))
  | (refine pa_ (i := 23) (N := some 26) (v := undef) (a' := ?_) (f_ 39 24) rfl rfl (by kernel_rfl) (fun _ _ _ h => h) (Or.inr ⟨?_, rfl⟩) ?_ ?_; (focus rfl); rotate_left; (focus (simp only [Act.put, s1_, s2_, s3_, ia_, ja_]; rfl)))
 all_goals first
  | (refine pU_ 24 27 ?_ (f_ 39 25) rfl rfl (by kernel_rfl) (fun _ _ _ h => h) ?_ ?_ ?_ ?_ ?_; rotate_left; (focus rfl); (focus (intro w'; go_simp; try with_reducible rfl)); rotate_left; (focus (simp only [Act.put, s1_, s2_, s3_, ia_, ja_]; rfl)))
  | (refine pa_ (i := 24) (N := some 27) (v := undef) (a' := ?_) (f_ 39 25) rfl rfl (by kernel_rfl) (fun _ _ _ h => h) (Or.inr ⟨?_, rfl⟩) ?_ ?_; (focus rfl); rotate_left; (focus (simp only [Act.put, s1_, s2_, s3_, ia_, ja_]; rfl)))
 all_goals first
  | (refine pU_ 25 28 ?_ (f_ 39 26) rfl rfl (by kernel_rfl) (fun _ _ _ h => h) ?_ ?_ ?_ ?_ ?_; rotate_left; (focus rfl); (focus (intro w'; go_simp; try with_reducible rfl)); rotate_left; (focus (simp only [Act.put, s1_, s2_, s3_, ia_, ja_]; rfl)))
  | (refine pa_ (i := 25) (N := some 28) (v := undef) (a' := ?_) (f_ 39 26) rfl rfl (by kernel_rfl) (fun _ _ _ h => h) (Or.inr ⟨?_, rfl⟩) ?_ ?_; (focus rfl); rotate_left; (focus (simp only [Act.put, s1_, s2_, s3_, ia_, ja_]; rfl)))
 all_goals first
  | (refine pU_ 26 29 ?_ (f_ 39 27) rfl rfl (by kernel_rfl) (fun _ _ _ h => h) ?_ ?_ ?_ ?_ ?_; rotate_left; (focus rfl); (focus (intro w'; go_simp; try with_reducible rfl)); rotate_left; (focus (simp only [Act.put, s1_, s2_, s3_, ia_, ja_]; rfl)))
  | (refine pa_ (i := 26) (N := some 29) (v := undef) (a' := ?_) (f_ 39 27) rfl rfl (by kernel_rfl) (fun _ _ _ h => h) (Or.inr ⟨?_, rfl⟩) ?_ ?_; (focus rfl); rotate_left; (focus (simp only [Act.put, s1_, s2_, s3_, ia_, ja_]; rfl)))
 all_goals (refine pU_ 27 30 ?_ (f_ 39 28) rfl rfl (by kernel_rfl) (fun _ _ _ h => h) ?_ ?_ ?_ ?_ ?_; rotate_left; (focus rfl); (focus (intro w'; go_simp; try with_reducible rfl)); rotate_left; (focus (simp only [Act.put, s1_, s2_, s3_, ia_, ja_]; rfl)))
 all_goals (refine pU_ 28 31 ?_ (f_ 39 29) rfl rfl (by kernel_rfl) (fun _ _ _ h => h) ?_ ?_ ?_ ?_ ?_; rotate_left; (focus rfl); (focus (intro w'; go_simp; try with_reducible rfl)); rotate_left; (focus (simp only [Act.put, s1_, s2_, s3_, ia_, ja_]; rfl)))
 all_goals first
  | (refine pU_ 29 32 ?_ (f_ 39 30) rfl rfl (by kernel_rfl) (fun _ _ _ h => h) ?_ ?_ ?_ ?_ ?_; rotate_left; (focus rfl); (focus (intro w'; go_simp; try with_reducible rfl)); rotate_left; (focus (simp only [Act.put, s1_, s2_, s3_, ia_, ja_]; rfl)))
  | (refine pa_ (i := 29) (N := some 32) (v := undef) (a' := ?_) (f_ 39 30) rfl rfl (by kernel_rfl) (fun _ _ _ h => h) (Or.inr ⟨?_, rfl⟩) ?_ ?_; (focus rfl); rotate_left; (focus (simp only [Act.put, s1_, s2_, s3_, ia_, ja_]; rfl)))
 all_goals first
  | (refine tA_ 30 33 ?_ (f_ 39 31) rfl rfl (by kernel_rfl) (fun _ _ _ h => h) ?_ ?_ hHeld ?_ ?_ ?_; rotate_left; (focus rfl); (focus (rintro w' ⟨s0, s1, s2, s3⟩; go_simp; try with_reducible rfl)); rotate_left; (focus (simp only [Act.put, s1_, s2_, s3_, ia_, ja_]; rfl)))
  | (refine take_ (i := 30) (N := some 33) (v := undef) (a' := ?_) (f_ 39 31) rfl rfl (by kernel_rfl) (fun _ _ _ h => h) (Or.inr ⟨?_, rfl⟩) hHeld ?_ ?_; (focus rfl); rotate_left; (focus (simp only [Act.put, s1_, s2_, s3_, ia_, ja_]; rfl)))
 all_goals refine one_ (i := 31) (N := some 34) (f_ 39 32) rfl rfl (by kernel_rfl) (by decide) (fun K hK => ?_)
 all_goals first
  | (refine wb_ Tryz.func92 (by kernel_rfl) rfl #[.int .i64 c] ?_ rfl rfl (by (try simp only [List.map_toArray, List.map_cons, List.map_nil]); rfl) ?_; (focus rfl); refine (H5.out _).mono ?_; rintro e w' ⟨rfl, hB⟩; refine ⟨_, rfl, ?_⟩; refine hK.out _ _ ⟨ha_ hB hHeld.1, ha_ hB hHeld.2.1, ha_ hB hHeld.2.2.1, ⟨fa_ hHeld.2.2.2.out hB⟩⟩ (fun hHeld => ?_))
  | (refine nogo_ ?_ ?_; (focus rfl); refine hK.out _ _ hHeld (fun hHeld => ?_))
 all_goals clear hK K
 all_goals (refine wa_ (a' := ?_) ?_ ?_; rotate_left; (focus (show Act.put _ (some 34) _ = _; simp only [Act.put, s1_, s2_, s3_, ia_, ja_]; rfl)))
 all_goals (refine pU_ 32 35 ?_ (f_ 39 33) rfl rfl (by kernel_rfl) (fun _ _ _ h => h) ?_ ?_ ?_ ?_ ?_; rotate_left; (focus rfl); (focus (intro w'; go_simp; try with_reducible rfl)); rotate_left; (focus (simp only [Act.put, s1_, s2_, s3_, ia_, ja_]; rfl)))
 all_goals (refine pU_ 33 36 ?_ (f_ 39 34) rfl rfl (by kernel_rfl) (fun _ _ _ h => h) ?_ ?_ ?_ ?_ ?_; rotate_left; (focus rfl); (focus (intro w'; go_simp; try with_reducible rfl)); rotate_left; (focus (simp only [Act.put, s1_, s2_, s3_, ia_, ja_]; rfl)))
 all_goals first
  | (refine pU_ 34 37 ?_ (f_ 39 35) rfl rfl (by kernel_rfl) (fun _ _ _ h => h) ?_ ?_ ?_ ?_ ?_; rotate_left; (focus rfl); (focus (intro w'; go_simp; try with_reducible rfl)); rotate_left; (focus (simp only [Act.put, s1_, s2_, s3_, ia_, ja_]; rfl)))
  | (refine pa_ (i := 34) (N := some 37) (v := undef) (a' := ?_) (f_ 39 35) rfl rfl (by kernel_rfl) (fun _ _ _ h => h) (Or.inr ⟨?_, rfl⟩) ?_ ?_; (focus rfl); rotate_left; (focus (simp only [Act.put, s1_, s2_, s3_, ia_, ja_]; rfl)))
 all_goals first
  | (refine tA_ 35 38 ?_ (f_ 39 36) rfl rfl (by kernel_rfl) (fun _ _ _ h => h) ?_ ?_ hHeld ?_ ?_ ?_; rotate_left; (focus rfl); (focus (rintro w' ⟨s0, s1, s2, s3⟩; go_simp; try with_reducible rfl)); rotate_left; (focus (simp only [Act.put, s1_, s2_, s3_, ia_, ja_]; rfl)))
  | (refine take_ (i := 35) (N := some 38) (v := undef) (a' := ?_) (f_ 39 36) rfl rfl (by kernel_rfl) (fun _ _ _ h => h) (Or.inr ⟨?_, rfl⟩) hHeld ?_ ?_; (focus rfl); rotate_left; (focus (simp only [Act.put, s1_, s2_, s3_, ia_, ja_]; rfl)))
 all_goals refine one_ (i := 36) (N := some 39) (f_ 39 37) rfl rfl (by kernel_rfl) (by decide) (fun K hK => ?_)
 all_goals first
  | (refine wb_ Tryz.func42 (by kernel_rfl) rfl #[.int .i64 v, .int .i64 (-1000000000), .int .i64 1000000000] ?_ rfl rfl (by (try simp only [List.map_toArray, List.map_cons, List.map_nil]); rfl) ?_; (focus rfl); refine (H6.out _).mono ?_; rintro e w' ⟨rfl, hB⟩; refine ⟨_, rfl, ?_⟩; refine hK.out _ _ ⟨ha_ hB hHeld.1, ha_ hB hHeld.2.1, ha_ hB hHeld.2.2.1, ⟨fa_ hHeld.2.2.2.out hB⟩⟩ (fun hHeld => ?_))
  | (refine nogo_ ?_ ?_; (focus rfl); refine hK.out _ _ hHeld (fun hHeld => ?_))
 all_goals clear hK K
 all_goals (refine wa_ (a' := ?_) ?_ ?_; rotate_left; (focus (show Act.put _ (some 39) _ = _; simp only [Act.put, s1_, s2_, s3_, ia_, ja_]; rfl)))
 all_goals (refine pU_ 37 40 ?_ (f_ 39 38) rfl rfl (by kernel_rfl) (fun _ _ _ h => h) ?_ ?_ ?_ ?_ ?_; rotate_left; (focus rfl); (focus (intro w'; go_simp; try with_reducible rfl)); rotate_left; (focus (simp only [Act.put, s1_, s2_, s3_, ia_, ja_]; rfl)))
 all_goals (refine pU_ 38 2 ?_ (f_ 39 39) rfl rfl (by kernel_rfl) (fun _ _ _ h => h) ?_ ?_ ?_ ?_ ?_; rotate_left; (focus rfl); (focus (intro w'; go_simp; try with_reducible rfl)); rotate_left; (focus (simp only [Act.put, s1_, s2_, s3_, ia_, ja_]; rfl)))
 all_goals refine je_ (by kernel_rfl) ?_
 all_goals
  go_wp2
  go_ret
  rw [HRR.out]; exact ⟨rfl, hHeld.2.2.2.out⟩
end Go.Proofs.YtiocgaekoeekgaaGreat.P
end
section
namespace Go.Proofs.YtiocgaekoeekgaaGreat.P
open Go.RowKit YtiocgaekoeekgaaGreatW.PrintWords YtiocgaekoeekgaaGreatW.PrintLast YtiocgaekoeekgaaGreatW.PrintMore
attribute [local go_sem] vb_ tb_ jc_ ic_ lb_ kb_ ub_ sb_   
set_option linter.unusedVariables false
set_option linter.unusedSimpArgs false
attribute [local go_sem] Oper.semAt_some
theorem eqA48 (d : Nat) (w : World) (x0 y0 : Int) (x1 y1 : BA) (x2 y2 : Int) (x3 y3 : Int) (x4 y4 : Int) :
  (Op.equalIn (d + 2) 48 (.agg #[.int .i64 x0, .string x1, .int .i64 x2, .int .i64 x3, .int .i64 x4]) (.agg #[.int .i64 y0, .string y1, .int .i64 y2, .int .i64 y3, .int .i64 y4])).run Tryz.prog w = .ok (x0 == y0 && (x1.toList == y1.toList && (x2 == y2 && (x3 == y3 && (x4 == y4))))) w := by
 refine eqA_of Tryz.underlying48 (by kernel_rfl) ?_
 refine sj_ (by rfl) (by go_simp; rfl) (by go_simp; rfl) (by go_simp) ?_
 refine sj_ (by rfl) (by go_simp; rfl) (by go_simp; rfl) (by go_simp) ?_
 refine sj_ (by rfl) (by go_simp; rfl) (by go_simp; rfl) (by go_simp) ?_
 refine sj_ (by rfl) (by go_simp; rfl) (by go_simp; rfl) (by go_simp) ?_
 exact eqf_last (by rfl) (by go_simp; rfl) (by go_simp; rfl) (by go_simp)
attribute [local go_sem high] eqA48
def pk_ (e : Bool) (s : BA) (f v : Int) : Bool := e && (decide ((s.size : Int) ≤ 20) && (jb_ f 0 5 && jb_ v 0 9))
def vf_ (x : S48) : Bool :=
 if x.f0 = 0 then pk_ (x.f2 == 0 && (x.f3 == 0 && x.f4 == 0)) x.f1 x.f2 x.f3
 else if x.f0 = 1 then pk_ (x.f1.toList == ([] : List UInt8) && x.f4 == 0) x.f1 x.f2 x.f3
 else if x.f0 = 2 then jb_ x.f4 1 49 && pk_ (x.f1.toList == ([] : List UInt8) && x.f3 == 0) x.f1 x.f2 x.f3
 else false
theorem pr_ (x : S48) (w : World) :
  Calls Tryz.prog 94 #[.agg #[.int .i64 x.f0, .string x.f1, .int .i64 x.f2, .int .i64 x.f3, .int .i64 x.f4]] w fun e w' => e = .returned (.bool (vf_ x)) ∧ Below w.heap.size w w' := by
 obtain ⟨k, s, f, v, c⟩ := x
 have HE : Az (vf_ ⟨k, s, f, v, c⟩ = if k = 0 then pk_ (f == 0 && (v == 0 && c == 0)) s f v else if k = 1 then pk_ (s.toList == ([] : List UInt8) && c == 0) s f v else if k = 2 then jb_ c 1 49 && pk_ (s.toList == ([] : List UInt8) && v == 0) s f v else false) := ⟨rfl⟩
 generalize vf_ ⟨k, s, f, v, c⟩ = r at *
 have hu1 := Tryz.underlying48
 obtain ⟨b2, hb2⟩ : ∃ b, decide ((s.size : Int) ≤ 20) = b := ⟨_, rfl⟩
 have hb2' : decide (s.size ≤ 20) = b2 := by rw [← hb2]; congr 1; simp; omega
 obtain ⟨b3, hb3⟩ : ∃ b, jb_ f 0 5 = b := ⟨_, rfl⟩
 obtain ⟨b4, hb4⟩ : ∃ b, jb_ v 0 9 = b := ⟨_, rfl⟩
 obtain ⟨b5, hb5⟩ : ∃ b, jb_ c 1 49 = b := ⟨_, rfl⟩
 have HT : Az (∀ e, pk_ e s f v = (e && (b2 && (b3 && b4)))) := ⟨fun e => by unfold pk_; rw [hb2, hb3, hb4]⟩
 have H3 : Az (∀ W, Calls Tryz.prog 42 #[.int .i64 f, .int .i64 0, .int .i64 5] W fun e w' => e = .returned (.bool b3) ∧ Below W.heap.size W w') := ⟨by rw [← hb3]; exact we_ f 0 5⟩
 have H4 : Az (∀ W, Calls Tryz.prog 42 #[.int .i64 v, .int .i64 0, .int .i64 9] W fun e w' => e = .returned (.bool b4) ∧ Below W.heap.size W w') := ⟨by rw [← hb4]; exact we_ v 0 9⟩
 have H5 : Az (∀ W, Calls Tryz.prog 92 #[.int .i64 c] W fun e w' => e = .returned (.bool b5) ∧ Below W.heap.size W w') := ⟨by rw [← hb5]; exact word_w c⟩
 have HB5 := aM_ hb5
 clear hb3 hb4 hb5
 by_cases k0 : k = 0
 ·subst k0
  obtain ⟨e, he⟩ : ∃ e, (f == 0 && (v == 0 && c == 0)) = e := ⟨_, rfl⟩; have HR : Az (r = (e && (b2 && (b3 && b4)))) := ⟨by rw [HE.out, if_pos rfl, HT.out, he]⟩; clear HE HT HB5 H5
  have hcase : (e = false ∧ r = false) ∨ (e = true ∧ b2 = false ∧ r = false) ∨ (e = true ∧ b2 = true ∧ b3 = false ∧ r = false) ∨ (e = true ∧ b2 = true ∧ b3 = true ∧ r = b4) := by
   have h := HR.out; clear he hb2 hb2'
   revert h
   cases e <;> cases b2 <;> cases b3 <;> simp
  clear HR
  rcases hcase with ⟨rfl, hr⟩ | ⟨rfl, rfl, hr⟩ | ⟨rfl, rfl, rfl, hr⟩ | ⟨rfl, rfl, rfl, hr⟩
  all_goals
   have HRR := aM_ hr; clear hr
   go_enter Tryz.func94, Tryz.ntmps94
   go_wp2_with (first | (go_at_call 42; with_reducible refine (H3.out _).mono ?_; rintro e w' ⟨rfl, hB3⟩; have h3' : w'.cell? ⟨w.heap.size, 3, none⟩ = some (.int .i64 v) := ha_ hB3 (by go_simp); have HW3 : Az (Below w.heap.size w w') := ⟨fa_ (by repeat (first | with_reducible exact Below.refl _ _ | with_reducible apply aa_ | with_reducible apply ga_ | (with_reducible refine Below.setCell (p := ⟨_, _, none⟩) ?_ ?_ _; rotate_left; (focus (simp; done))))) hB3⟩; clear hB3) | (go_at_call 42; with_reducible refine (H4.out _).mono ?_; rintro e w'' ⟨rfl, hB4⟩))
   go_ret
   rw [HRR.out]
   first | exact ⟨rfl, fa_ HW3.out hB4⟩ | exact ⟨rfl, HW3.out⟩ | exact ⟨rfl, (by repeat (first | with_reducible exact Below.refl _ _ | with_reducible apply aa_ | with_reducible apply ga_ | (with_reducible refine Below.setCell (p := ⟨_, _, none⟩) ?_ ?_ _; rotate_left; (focus (simp; done)))))⟩
 by_cases k1 : k = 1
 ·subst k1
  obtain ⟨e, he⟩ : ∃ e, (s.toList == ([] : List UInt8) && c == 0) = e := ⟨_, rfl⟩; have hei : (s.toList.isEmpty && c == 0) = e := by rw [← he]; cases s.toList <;> rfl
  have HR : Az (r = (e && (b2 && (b3 && b4)))) := ⟨by rw [HE.out, if_neg k0, if_pos rfl, HT.out, he]⟩; clear HE HT HB5 H5
  have hcase : (e = false ∧ r = false) ∨ (e = true ∧ b2 = false ∧ r = false) ∨ (e = true ∧ b2 = true ∧ b3 = false ∧ r = false) ∨ (e = true ∧ b2 = true ∧ b3 = true ∧ r = b4) := by
   have h := HR.out; clear he hei hb2 hb2'
   revert h
   cases e <;> cases b2 <;> cases b3 <;> simp
  clear HR
  rcases hcase with ⟨rfl, hr⟩ | ⟨rfl, rfl, hr⟩ | ⟨rfl, rfl, rfl, hr⟩ | ⟨rfl, rfl, rfl, hr⟩
  all_goals
   have HRR := aM_ hr; clear hr
   go_enter Tryz.func94, Tryz.ntmps94
   go_wp2_with fail
   go_region
   go_wp2_with (first | (go_at_call 42; with_reducible refine (H3.out _).mono ?_; rintro e w' ⟨rfl, hB3⟩; have h3' : w'.cell? ⟨w.heap.size, 3, none⟩ = some (.int .i64 v) := ha_ hB3 (by go_simp); have HW3 : Az (Below w.heap.size w w') := ⟨fa_ (by repeat (first | with_reducible exact Below.refl _ _ | with_reducible apply aa_ | with_reducible apply ga_ | (with_reducible refine Below.setCell (p := ⟨_, _, none⟩) ?_ ?_ _; rotate_left; (focus (simp; done))))) hB3⟩; clear hB3) | (go_at_call 42; with_reducible refine (H4.out _).mono ?_; rintro e w'' ⟨rfl, hB4⟩))
   go_ret
   rw [HRR.out]
   first | exact ⟨rfl, fa_ HW3.out hB4⟩ | exact ⟨rfl, HW3.out⟩ | exact ⟨rfl, (by repeat (first | with_reducible exact Below.refl _ _ | with_reducible apply aa_ | with_reducible apply ga_ | (with_reducible refine Below.setCell (p := ⟨_, _, none⟩) ?_ ?_ _; rotate_left; (focus (simp; done)))))⟩
 by_cases k2 : k = 2
 ·subst k2
  obtain ⟨e, he⟩ : ∃ e, (s.toList == ([] : List UInt8) && v == 0) = e := ⟨_, rfl⟩; have hei : (s.toList.isEmpty && v == 0) = e := by rw [← he]; cases s.toList <;> rfl
  have HR : Az (r = (b5 && (e && (b2 && (b3 && b4))))) := ⟨by rw [HE.out, if_neg k0, if_neg k1, if_pos rfl, HT.out, he, HB5.out]⟩; clear HE HT HB5
  have hcase : (b5 = false ∧ r = false) ∨ (b5 = true ∧ e = false ∧ r = false) ∨ (b5 = true ∧ e = true ∧ b2 = false ∧ r = false) ∨ (b5 = true ∧ e = true ∧ b2 = true ∧ b3 = false ∧ r = false) ∨ (b5 = true ∧ e = true ∧ b2 = true ∧ b3 = true ∧ r = b4) := by
   have h := HR.out; clear he hei hb2 hb2'
   revert h
   cases b5 <;> cases e <;> cases b2 <;> cases b3 <;> simp
  clear HR
  rcases hcase with ⟨rfl, hr⟩ | ⟨rfl, rfl, hr⟩ | ⟨rfl, rfl, rfl, hr⟩ | ⟨rfl, rfl, rfl, rfl, hr⟩ | ⟨rfl, rfl, rfl, rfl, hr⟩
  all_goals
   have HRR := aM_ hr; clear hr
   go_enter Tryz.func94, Tryz.ntmps94
   go_wp2_with fail
   go_region
   go_wp2_with (first | (go_at_call 42; with_reducible refine (H3.out _).mono ?_; rintro e w' ⟨rfl, hB3⟩; have h3' : w'.cell? ⟨w.heap.size, 3, none⟩ = some (.int .i64 v) := ha_ hB3 ha3; have HW3 : Az (Below w.heap.size w w') := ⟨fa_ (by first | exact HW5.out | repeat (first | with_reducible exact Below.refl _ _ | with_reducible apply aa_ | with_reducible apply ga_ | (with_reducible refine Below.setCell (p := ⟨_, _, none⟩) ?_ ?_ _; rotate_left; (focus (simp; done))))) hB3⟩; clear hB3) | (go_at_call 42; with_reducible refine (H4.out _).mono ?_; rintro e w'' ⟨rfl, hB4⟩) | (go_at_call 92; go_loud (with_reducible refine (H5.out _).mono ?_; rintro e w5 ⟨rfl, hB5⟩; have ha0 : w5.cell? ⟨w.heap.size, 0, none⟩ = some (.int .i64 2) := ha_ hB5 (by go_simp); have ha1 : w5.cell? ⟨w.heap.size, 1, none⟩ = some (.string s) := ha_ hB5 (by go_simp); have ha2 : w5.cell? ⟨w.heap.size, 2, none⟩ = some (.int .i64 f) := ha_ hB5 (by go_simp); have ha3 : w5.cell? ⟨w.heap.size, 3, none⟩ = some (.int .i64 v) := ha_ hB5 (by go_simp); have ha4 : w5.cell? ⟨w.heap.size, 4, none⟩ = some (.int .i64 c) := ha_ hB5 (by go_simp); have hb0 : w5.cell? ⟨w.heap.size + 1, 0, none⟩ = some (.int .i64 2) := ha_ hB5 (by go_simp); have hb1 : w5.cell? ⟨w.heap.size + 1, 1, none⟩ = some (.string ⟨#[]⟩) := ha_ hB5 (by go_simp); have hb2 : w5.cell? ⟨w.heap.size + 1, 2, none⟩ = some (.int .i64 f) := ha_ hB5 (by go_simp); have hb3 : w5.cell? ⟨w.heap.size + 1, 3, none⟩ = some (.int .i64 0) := ha_ hB5 (by go_simp); have hb4 : w5.cell? ⟨w.heap.size + 1, 4, none⟩ = some (.int .i64 c) := ha_ hB5 (by go_simp); have HW5 : Az (Below w.heap.size w w5) := ⟨fa_ (by repeat (first | with_reducible exact Below.refl _ _ | with_reducible apply aa_ | with_reducible apply ga_)) hB5⟩; clear hB5)))
   go_ret
   rw [HRR.out]
   first | exact ⟨rfl, fa_ HW3.out hB4⟩ | exact ⟨rfl, HW3.out⟩ | exact ⟨rfl, HW5.out⟩ | exact ⟨rfl, (by repeat (first | with_reducible exact Below.refl _ _ | with_reducible apply aa_ | with_reducible apply ga_ | (with_reducible refine Below.setCell (p := ⟨_, _, none⟩) ?_ ?_ _; rotate_left; (focus (simp; done)))))⟩
 have hkk0 : (k == 0) = false := by simpa using k0
 have hkk1 : (k == 1) = false := by simpa using k1
 have hkk2 : (k == 2) = false := by simpa using k2
 have HR : Az (r = false) := ⟨by rw [HE.out, if_neg k0, if_neg k1, if_neg k2]⟩
 clear HE HT HB5 k0 k1 k2
 go_enter Tryz.func94, Tryz.ntmps94
 go_wp2_with fail
 go_ret
 rw [HR.out]
 exact ⟨rfl, (by repeat (first | with_reducible exact Below.refl _ _ | with_reducible apply aa_))⟩
end Go.Proofs.YtiocgaekoeekgaaGreat.P
end
section
namespace Go.Proofs.YtiocgaekoeekgaaGreat.P
open Go.RowKit YtiocgaekoeekgaaGreatW.PrintWords YtiocgaekoeekgaaGreatW.PrintLast YtiocgaekoeekgaaGreatW.PrintMore
attribute [local go_sem] vb_ tb_ jc_ ic_ lb_ kb_ ub_ sb_   
set_option linter.unusedVariables false
set_option linter.unusedSimpArgs false
attribute [local go_sem] Oper.semAt_some
theorem us_ (A : Option Addr) (c : Nat) (l : List S46) (w : World) (hr : Kd.C k46 w A l.length l) (hc : l.length ≤ c) :
  Calls Tryz.prog 43 #[.slice A l.length c, .func (.func 44) #[] #[]] w fun e w' => e = .returned (.bool (l.all ie_)) ∧ Below w.heap.size w w' := by
 have HR := aM_ hr
 have hbn : l.length ≤ 9223372036854775807 := hr.2.1
 have HE : Az (l.all ie_ = (l.drop 0).all ie_) := ⟨rfl⟩
 generalize l.all ie_ = r at *
 clear hr
 go_enter Tryz.func43, Tryz.ntmps43
 go_wp2
 go_loopg [9] l.length (fun gg s9 wr => ∃ i : Nat, i ≤ l.length ∧ l.length - i ≤ gg ∧ s9 = .int .i64 i ∧ Az (r = (l.drop i).all ie_) ∧ Az (Below w.heap.size w wr))
 case atStart => exact ⟨0, by omega, by omega, rfl, HE, ⟨Below.refl _ _⟩⟩
 clear HE
 obtain ⟨i, hi, hgg, rfl, HE, HW⟩ := hrel
 by_cases hil : i < l.length
 ·have hilz : (i : Int) < (l.length : Int) := by omega
  obtain ⟨ad, hA, h0, h1, h2⟩ := bt_ (Kd.C_below HR.out HW.out) (i : Int) (by omega) hilz; subst hA
  have hy : ve_ l (i : Int) = l[i] := by
   show l.getD (i : Int).toNat _ = _; rw [Int.toNat_natCast, List.getD_eq_getElem?_getD, List.getElem?_eq_getElem hil]; rfl
  have HE1 : Az (r = (ie_ (ve_ l (i : Int)) && (l.drop (i + 1)).all ie_)) := ⟨by rw [HE.out, hy, List.drop_eq_getElem_cons hil, List.all_cons]⟩; clear hy HE; generalize ve_ l (i : Int) = y at *; rw [Int.toNat_natCast] at h0 h1 h2
  go_wp2_with fail
  refine (uq_ y _).mono ?_; rintro e w2 ⟨rfl, hB2⟩; have HW2 : Az (Below w.heap.size w w2) := ⟨fa_ HW.out (fa_ (aa_ (Below.refl _ _) _) hB2)⟩; clear hB2 HW h0 h1 h2
  cases hp : ie_ y with
  | true =>
   have HG : Az (r = (l.drop (i + 1)).all ie_) := ⟨by rw [HE1.out, hp, Bool.true_and]⟩; clear hp HE1
   go_wp2
   go_roundg (l.length - (i + 1))
   case measure => omega
   case rel => exact ⟨i + 1, by omega, by omega, by go_num, HG, HW2⟩
  | false =>
   have HG : Az (r = false) := ⟨by rw [HE1.out, hp, Bool.false_and]⟩; clear hp HE1
   go_wp2
   go_ret
   rw [HG.out]; exact ⟨rfl, HW2.out⟩
 have he : i = l.length := by omega
 have hilz : decide ((i : Int) < (l.length : Int)) = false := by simp; omega
 have HG : Az (r = true) := ⟨by rw [HE.out, he, List.drop_length]; rfl⟩
 clear he
 go_wp2
 go_ret
 rw [HG.out]
 exact ⟨rfl, HW.out⟩
theorem ts_ (A : Option Addr) (c : Nat) (l : List S48) (w : World) (hr : Kd.C k48 w A l.length l) (hc : l.length ≤ c) :
  Calls Tryz.prog 93 #[.slice A l.length c, .func (.func 94) #[] #[]] w fun e w' => e = .returned (.bool (l.all vf_)) ∧ Below w.heap.size w w' := by
 have HR := aM_ hr
 have hbn : l.length ≤ 9223372036854775807 := hr.2.1
 have HE : Az (l.all vf_ = (l.drop 0).all vf_) := ⟨rfl⟩
 generalize l.all vf_ = r at *
 clear hr
 go_enter Tryz.func93, Tryz.ntmps93
 go_wp2
 go_loopg [9] l.length (fun gg s9 wr => ∃ i : Nat, i ≤ l.length ∧ l.length - i ≤ gg ∧ s9 = .int .i64 i ∧ Az (r = (l.drop i).all vf_) ∧ Az (Below w.heap.size w wr))
 case atStart => exact ⟨0, by omega, by omega, rfl, HE, ⟨Below.refl _ _⟩⟩
 clear HE
 obtain ⟨i, hi, hgg, rfl, HE, HW⟩ := hrel
 by_cases hil : i < l.length
 ·have hilz : (i : Int) < (l.length : Int) := by omega
  obtain ⟨ad, hA, h0, h1, h2, h3, h4⟩ := zs_ (Kd.C_below HR.out HW.out) (i : Int) (by omega) hilz; subst hA
  have hy : qd_ l (i : Int) = l[i] := by
   show l.getD (i : Int).toNat _ = _; rw [Int.toNat_natCast, List.getD_eq_getElem?_getD, List.getElem?_eq_getElem hil]; rfl
  have HE1 : Az (r = (vf_ (qd_ l (i : Int)) && (l.drop (i + 1)).all vf_)) := ⟨by rw [HE.out, hy, List.drop_eq_getElem_cons hil, List.all_cons]⟩; clear hy HE; generalize qd_ l (i : Int) = y at *; rw [Int.toNat_natCast] at h0 h1 h2 h3 h4
  go_wp2_with fail
  refine (pr_ y _).mono ?_; rintro e w2 ⟨rfl, hB2⟩; have HW2 : Az (Below w.heap.size w w2) := ⟨fa_ HW.out (fa_ (aa_ (Below.refl _ _) _) hB2)⟩; clear hB2 HW h0 h1 h2 h3 h4
  cases hp : vf_ y with
  | true =>
   have HG : Az (r = (l.drop (i + 1)).all vf_) := ⟨by rw [HE1.out, hp, Bool.true_and]⟩; clear hp HE1
   go_wp2
   go_roundg (l.length - (i + 1))
   case measure => omega
   case rel => exact ⟨i + 1, by omega, by omega, by go_num, HG, HW2⟩
  | false =>
   have HG : Az (r = false) := ⟨by rw [HE1.out, hp, Bool.false_and]⟩; clear hp HE1
   go_wp2
   go_ret
   rw [HG.out]; exact ⟨rfl, HW2.out⟩
 have he : i = l.length := by omega
 have hilz : decide ((i : Int) < (l.length : Int)) = false := by simp; omega
 have HG : Az (r = true) := ⟨by rw [HE.out, he, List.drop_length]; rfl⟩
 clear he
 go_wp2
 go_ret
 rw [HG.out]
 exact ⟨rfl, HW.out⟩
def cf_ (x : S52) : Bool := jb_ x.f0 4 10 && (jb_ (x.f1.length : Int) 1 12 && x.f1.all vf_)
theorem mp_ (x : S52) (A : Option Addr) (c : Nat) (w : World) (hr : Kd.C k48 w A x.f1.length x.f1) (hc : x.f1.length ≤ c) :
  Calls Tryz.prog 46 #[.agg #[.int .i64 x.f0, .slice A x.f1.length c]] w fun e w' => e = .returned (.bool (cf_ x)) ∧ Below w.heap.size w w' := by
 obtain ⟨k, l⟩ := x
 have HE : Az (cf_ ⟨k, l⟩ = (jb_ k 4 10 && (jb_ (l.length : Int) 1 12 && l.all vf_))) := ⟨rfl⟩
 generalize cf_ ⟨k, l⟩ = r at *
 have hu1 := Tryz.underlying52
 have HR := aM_ hr
 have HC := aM_ hc
 obtain ⟨b1, hb1⟩ : ∃ b, jb_ k 4 10 = b := ⟨_, rfl⟩
 obtain ⟨b2, hb2⟩ : ∃ b, jb_ (l.length : Int) 1 12 = b := ⟨_, rfl⟩
 obtain ⟨b3, hb3⟩ : ∃ b, l.all vf_ = b := ⟨_, rfl⟩
 have HB : Az (r = (b1 && (b2 && b3))) := ⟨by rw [HE.out, hb1, hb2, hb3]⟩
 have H1 : Az (∀ W, Calls Tryz.prog 42 #[.int .i64 k, .int .i64 4, .int .i64 10] W fun e w' => e = .returned (.bool b1) ∧ Below W.heap.size W w') := ⟨by rw [← hb1]; exact we_ k 4 10⟩
 have H2 : Az (∀ W, Calls Tryz.prog 42 #[.int .i64 (l.length : Int), .int .i64 1, .int .i64 12] W fun e w' => e = .returned (.bool b2) ∧ Below W.heap.size W w') := ⟨by rw [← hb2]; exact we_ _ 1 12⟩
 have H3 : Az (∀ W, Below w.heap.size w W → Calls Tryz.prog 93 #[.slice A l.length c, .func (.func 94) #[] #[]] W fun e w' => e = .returned (.bool b3) ∧ Below W.heap.size W w') := ⟨by rw [← hb3]; exact fun W hB => ts_ A c l W (Kd.C_below HR.out hB) HC.out⟩
 clear hb1 hb2 hb3 HE hr hc
 have hcase : (b1 = false ∧ r = false) ∨ (b1 = true ∧ b2 = false ∧ r = false) ∨ (b1 = true ∧ b2 = true ∧ r = b3) := by
  have h := HB.out
  revert h
  cases b1 <;> cases b2 <;> simp
 clear HB
 have hA0 : (w.alloc (.cells #[.int .i64 k, .slice A l.length c] 52)).cell? ⟨w.heap.size, 1, none⟩ = some (.slice A l.length c) := ba_ (ra_ w _) 1
 rcases hcase with ⟨rfl, hr⟩ | ⟨rfl, rfl, hr⟩ | ⟨rfl, rfl, hr⟩
 all_goals
  have HRR := aM_ hr; clear hr
  go_enter Tryz.func46, Tryz.ntmps46
  go_wp2_with (first | (go_at_call 42; with_reducible refine (H1.out _).mono ?_; rintro e w1 ⟨rfl, hB1⟩; have ha1 := ha_ hB1 hA0; have HB1 : Az (Below w.heap.size w w1) := ⟨fa_ (aa_ (Below.refl _ _) _) hB1⟩; clear hB1) | (go_at_call 42; with_reducible refine (H2.out _).mono ?_; rintro e w2 ⟨rfl, hB2⟩; have ha2 := ha_ hB2 ha1; have HB2 : Az (Below w.heap.size w w2) := ⟨fa_ HB1.out hB2⟩; clear hB2) | (go_at_call 93; with_reducible refine (H3.out _ HB2.out).mono ?_; rintro e w3 ⟨rfl, hB3⟩; have HB3 : Az (Below w.heap.size w w3) := ⟨fa_ HB2.out hB3⟩; clear hB3))
  go_ret
  rw [HRR.out]
  first | exact ⟨rfl, HB3.out⟩ | exact ⟨rfl, HB2.out⟩ | exact ⟨rfl, HB1.out⟩
theorem ss_ (A : Option Addr) (c : Nat) (l : List S52) (w : World) (hr : Kd.C k52 w A l.length l) (hc : l.length ≤ c) :
  Calls Tryz.prog 45 #[.slice A l.length c, .func (.func 46) #[] #[]] w fun e w' => e = .returned (.bool (l.all cf_)) ∧ Below w.heap.size w w' := by
 have HR := aM_ hr
 have hbn : l.length ≤ 9223372036854775807 := hr.2.1
 have HE : Az (l.all cf_ = (l.drop 0).all cf_) := ⟨rfl⟩
 generalize l.all cf_ = r at *
 clear hr
 go_enter Tryz.func45, Tryz.ntmps45
 go_wp2
 go_loopg [9] l.length (fun gg s9 wr => ∃ i : Nat, i ≤ l.length ∧ l.length - i ≤ gg ∧ s9 = .int .i64 i ∧ Az (r = (l.drop i).all cf_) ∧ Az (Below w.heap.size w wr))
 case atStart => exact ⟨0, by omega, by omega, rfl, HE, ⟨Below.refl _ _⟩⟩
 clear HE
 obtain ⟨i, hi, hgg, rfl, HE, HW⟩ := hrel
 by_cases hil : i < l.length
 ·have hilz : (i : Int) < (l.length : Int) := by omega
  obtain ⟨ad, A1, c1, hA, h0, h1, l1, g1⟩ := ip_ (Kd.C_below HR.out HW.out) (i : Int) (by omega) hilz; subst hA
  have hy : he_ l (i : Int) = l[i] := by
   show l.getD (i : Int).toNat _ = _; rw [Int.toNat_natCast, List.getD_eq_getElem?_getD, List.getElem?_eq_getElem hil]; rfl
  have HE1 : Az (r = (cf_ (he_ l (i : Int)) && (l.drop (i + 1)).all cf_)) := ⟨by rw [HE.out, hy, List.drop_eq_getElem_cons hil, List.all_cons]⟩; clear hy HE; generalize he_ l (i : Int) = y at *; rw [Int.toNat_natCast] at h0 h1; have HG1 := aM_ g1; have HL1 := aM_ l1; clear g1 l1
  go_wp2_with fail
  refine (mp_ y A1 c1 _ (Kd.C_alloc HG1.out _) HL1.out).mono ?_; rintro e w2 ⟨rfl, hB2⟩; have HW2 : Az (Below w.heap.size w w2) := ⟨fa_ HW.out (fa_ (aa_ (Below.refl _ _) _) hB2)⟩; clear hB2 HW h0 h1
  cases hp : cf_ y with
  | true =>
   have HG : Az (r = (l.drop (i + 1)).all cf_) := ⟨by rw [HE1.out, hp, Bool.true_and]⟩; clear hp HE1
   go_wp2
   go_roundg (l.length - (i + 1))
   case measure => omega
   case rel => exact ⟨i + 1, by omega, by omega, by go_num, HG, HW2⟩
  | false =>
   have HG : Az (r = false) := ⟨by rw [HE1.out, hp, Bool.false_and]⟩; clear hp HE1
   go_wp2
   go_ret
   rw [HG.out]; exact ⟨rfl, HW2.out⟩
 have he : i = l.length := by omega
 have hilz : decide ((i : Int) < (l.length : Int)) = false := by simp; omega
 have HG : Az (r = true) := ⟨by rw [HE.out, he, List.drop_length]; rfl⟩
 clear he
 go_wp2
 go_ret
 rw [HG.out]
 exact ⟨rfl, HW.out⟩
end Go.Proofs.YtiocgaekoeekgaaGreat.P
end
section
namespace Go.Proofs.YtiocgaekoeekgaaGreat.P
open Go.RowKit YtiocgaekoeekgaaGreatW.PrintWords YtiocgaekoeekgaaGreatW.PrintLast YtiocgaekoeekgaaGreatW.PrintMore
attribute [local go_sem] vb_ tb_ jc_ ic_ lb_ kb_ ub_ sb_   
set_option linter.unusedVariables false
set_option linter.unusedSimpArgs false
theorem jg_ (fv : Value) (A0 : Option Addr) (c0 : Nat) (l0 : List S44) (p : S44 → Bool) (w : World) (hr0 : Kd.C k44 w A0 l0.length l0) (hc0 : l0.length ≤ c0)
  (hf : le_ Tryz.prog w (ej_ k44) fv p) :
  Calls Tryz.prog 56 #[.slice A0 l0.length c0, fv] w fun e w' => e = .returned (.int .i64 (xd_ p l0)) ∧ Below w.heap.size w w' := by
 obtain ⟨g, pre, lb, rfl, eg, hq⟩ := hf
 have hl : l0.length ≤ 9223372036854775807 := hr0.2.1
 have HR := aM_ hr0
 clear hr0
 have HQ := aM_ hq
 clear hq
 go_enter Tryz.func56, Tryz.ntmps56
 go_wp2
 go_loopg [8] l0.length (fun gg s8 wr => ∃ kk : Nat, kk ≤ l0.length ∧ l0.length - kk ≤ gg ∧ s8 = .int .i64 kk ∧ Az (Below w.heap.size w wr) ∧ Az (∀ j, j < kk → ∀ h : j < l0.length, p l0[j] = false))
 case atStart => exact ⟨0, Nat.zero_le _, by omega, rfl, ⟨Below.refl _ w⟩, ⟨fun j hj => absurd hj (Nat.not_lt_zero _)⟩⟩
 obtain ⟨kk, hkk, hg, rfl, BW, A⟩ := hrel
 by_cases hlt : kk < l0.length
 ·have hltz : (kk : Int) < (l0.length : Int) := by omega
  obtain ⟨ad, A3, c3, A4, c4, A5, c5, hA, h0, h1, h2, h3, h4, h5, l3, g3, l4, g4, l5, g5⟩ := lg_ (Kd.C_below HR.out BW.out) kk (by omega) hltz; have hcall := HQ.out wr (ya_ l0 kk) _ BW.out ⟨_, rfl, ls_ wr (ya_ l0 kk) l3 g3 l4 g4 l5 g5⟩; have hx : ya_ l0 kk = l0[kk] := by simp [ya_, List.getD_eq_getElem?_getD, List.getElem?_eq_getElem hlt]
  have HX := aM_ hx; generalize ya_ l0 kk = y at *; rw [Int.toNat_natCast] at h0 h1 h2 h3 h4 h5; subst hA; clear hx l3 g3 l4 g4 l5 g5
  cases hp : p y with
  | true =>
   rw [hp] at hcall
   go_wp2_with fail
   refine hcall.mono ?_; rintro e w' ⟨rfl, hb'⟩
   go_wp2
   go_ret
   refine ⟨?_, ef_ BW.out BW.out.size hb'⟩; rw [ci_ hlt A.out (by rw [← HX.out]; exact hp)]
   rfl
  | false =>
   rw [hp] at hcall
   go_wp2_with fail
   refine hcall.mono ?_; rintro e w' ⟨rfl, hb'⟩
   go_wp2
   go_roundg (l0.length - (kk + 1))
   case measure => omega
   case rel =>
    refine ⟨kk + 1, by omega, by omega, by go_num, ⟨ef_ BW.out BW.out.size hb'⟩, ⟨fun j hj hlt => ?_⟩⟩
    by_cases e : j = kk
    ·subst e
     rw [← HX.out]; exact hp
    exact A.out j (by omega) hlt
 have hltz : ¬ (kk : Int) < (l0.length : Int) := by omega
 have : kk = l0.length := by omega
 subst this
 go_wp2
 go_ret
 refine ⟨?_, BW.out⟩
 rw [zi_ A.out]
 rfl
theorem kk_ (fv : Value) (A0 : Option Addr) (c0 : Nat) (l0 : List S44) (p : S44 → Bool) (w : World) (hr0 : Kd.C k44 w A0 l0.length l0) (hc0 : l0.length ≤ c0)
  (hf : le_ Tryz.prog w (ej_ k44) fv p) :
  Calls Tryz.prog 39 #[.slice A0 l0.length c0, fv] w fun e w' => e = .returned (.bool (l0.any p)) ∧ Below w.heap.size w w' := by
 have hc := jg_ fv A0 c0 l0 p w hr0 hc0 hf
 rw [← hm_]
 clear hr0 hf
 generalize xd_ p l0 = q at hc
 go_enter Tryz.func39, Tryz.ntmps39
 go_wp2_with fail
 refine hc.mono ?_
 rintro e w' ⟨rfl, hb'⟩
 go_wp2
 go_ret
 exact ⟨rfl, hb'⟩
def IdBox (w : World) (g : Nat) (s : BA) : Prop := w.cell? ⟨g, 0, none⟩ = some (.string s)
theorem no_ (g : Nat) (s : BA) (w : World) (h : IdBox w g s) : le_ Tryz.prog w (ej_ k44) (.func (.func 40) #[] #[.pointer (some ⟨g, 0, none⟩)]) (fun y => y.f0.toList == s.toList) := by
 refine ⟨_, _, _, rfl, enters_of Tryz.func40 (by kernel_rfl) rfl, ?_⟩
 rintro W x v hb ⟨cs, rfl, hK⟩
 obtain ⟨A3, c3, A4, c4, A5, c5, rfl, l3, g3, l4, g4, l5, g5⟩ := em_ hK
 have h1 : (W.alloc (.cells #[.string x.f0, .int .i64 x.f1, .int .i64 x.f2, .slice A3 x.f3.length c3, .slice A4 x.f4.length c4, .slice A5 x.f5.length c5] 44)).cell? ⟨g, 0, none⟩ = some (.string s) := ha_ (aa_ (Below.refl _ _) _) (ha_ hb h)
 clear hb hK l3 g3 l4 g4 l5 g5 h
 have hu1 := Tryz.underlying44
 generalize hr : (x.f0.toList == s.toList) = r
 have HR := aM_ hr
 go_enter Tryz.func40, Tryz.ntmps40
 go_wp2
 go_ret
 exact ⟨sd_ HR.out.symm, aa_ (Below.refl _ _) _⟩
theorem nh_ (g : Nat) (s : BA) (w : World) (h : IdBox w g s) : le_ Tryz.prog w (ej_ k44) (.func (.func 57) #[] #[.pointer (some ⟨g, 0, none⟩)]) (fun y => y.f0.toList == s.toList) := by
 refine ⟨_, _, _, rfl, enters_of Tryz.func57 (by kernel_rfl) rfl, ?_⟩
 rintro W x v hb ⟨cs, rfl, hK⟩
 obtain ⟨A3, c3, A4, c4, A5, c5, rfl, l3, g3, l4, g4, l5, g5⟩ := em_ hK
 have h1 : (W.alloc (.cells #[.string x.f0, .int .i64 x.f1, .int .i64 x.f2, .slice A3 x.f3.length c3, .slice A4 x.f4.length c4, .slice A5 x.f5.length c5] 44)).cell? ⟨g, 0, none⟩ = some (.string s) := ha_ (aa_ (Below.refl _ _) _) (ha_ hb h)
 clear hb hK l3 g3 l4 g4 l5 g5 h
 have hu1 := Tryz.underlying44
 generalize hr : (x.f0.toList == s.toList) = r
 have HR := aM_ hr
 go_enter Tryz.func57, Tryz.ntmps57
 go_wp2
 go_ret
 exact ⟨sd_ HR.out.symm, aa_ (Below.refl _ _) _⟩
end Go.Proofs.YtiocgaekoeekgaaGreat.P
end
section
namespace Go.Proofs.YtiocgaekoeekgaaGreat.P
open Go.RowKit YtiocgaekoeekgaaGreatW.PrintWords YtiocgaekoeekgaaGreatW.PrintLast YtiocgaekoeekgaaGreatW.PrintMore
attribute [local go_sem] vb_ tb_ jc_ ic_ lb_ kb_ ub_ sb_   
set_option linter.unusedVariables false
set_option linter.unusedSimpArgs false
attribute [local go_sem] Oper.semAt_some
structure Src (w0 : World) (A : Option Addr) (b : List Int) (c : Nat) : Prop where
 row : Kd.C (Kd.int .u8) w0 A b.length b
 cap : b.length ≤ c
 len : b.length ≤ 1000000000000
structure RdAt (w0 : World) (h : Nat) (A : Option Addr) (b : List Int) (c : Nat) (p : Nat) (W : World) : Prop where
 blk : W.heap[h]? = some (.cells #[.slice A b.length c, .int .i64 (p : Int)] 82 (0, 0))
 below : Below w0.heap.size w0 W
 ge : w0.heap.size ≤ h
 pos : p ≤ b.length
def KeptR (h : Nat) (W W' : World) : Prop := ∀ k o, W.heap[k]? = some o → k ≠ h → W'.heap[k]? = some o
theorem KeptR.trans {h : Nat} {W W1 W2 : World} (h1 : KeptR h W W1) (h2 : KeptR h W1 W2) : KeptR h W W2 := fun k o hk hn => h2 k o (h1 k o hk hn) hn
theorem KeptR.below {h : Nat} {W W1 : World} (hb : Below W.heap.size W W1) : KeptR h W W1 := fun k o hk _ => oa_ hk hb
def Rd {α : Type} (w0 : World) (h : Nat) (A : Option Addr) (b : List Int) (c : Nat) (W : World) (V : α → Value → World → Prop) (e : Ending) (W' : World) : Option (α × Nat) → Prop
 | none => (∃ T v, e = .panicked [{ v := .iface T v, recovered := false }]) ∧ Below w0.heap.size w0 W'
 | some (x, q) => (∃ v, e = .returned v ∧ V x v W') ∧ RdAt w0 h A b c q W' ∧ KeptR h W W'
def kf_ (b : List Int) (p : Nat) (n : Int) : Option (List Int × Nat) := if n < 0 ∨ (b.length : Int) - p < n then none else some ((b.drop p).take n.toNat, p + n.toNat)
def VBytes (w0 : World) (x : List Int) (v : Value) (_ : World) : Prop := ∃ A' c', v = .slice A' x.length c' ∧ x.length ≤ c' ∧ Kd.C (Kd.int .u8) w0 A' x.length x
theorem om_ (w0 : World) (h : Nat) (A : Option Addr) (b : List Int) (c p : Nat) (n : Int) (W : World) (hs : Src w0 A b c) (hr : RdAt w0 h A b c p W) (hn64 : n ≤ 9223372036854775807) :
  Calls Tryz.prog 126 #[.pointer (some ⟨h, 0, none⟩), .int .i64 n] W fun e W' => Rd w0 h A b c W (VBytes w0) e W' (kf_ b p n) := by
 have hlen := hs.len
 have hpos := hr.pos
 have c0 : W.cell? ⟨h, 0, none⟩ = some (.slice A b.length c) := ba_ hr.blk 0
 have c1 : W.cell? ⟨h, 1, none⟩ = some (.int .i64 (p : Int)) := ba_ hr.blk 1
 have f1 := da_ hr.blk 1
 have HR := aM_ hr
 have HS := aM_ hs
 have hw1 : wrap64 ((b.length : Int) - (p : Int)) = (b.length : Int) - (p : Int) := by rw [wrap64]; omega
 clear hr hs
 by_cases hbad : n < 0 ∨ (b.length : Int) - (p : Int) < n
 ·have HP : Az (kf_ b p n = none) := ⟨if_pos hbad⟩
  have hbd : (decide (n < 0) || decide ((b.length : Int) - (p : Int) < n)) = true := by simpa using hbad
  by_cases hn0 : n < 0
  ·have e1 : decide (n < 0) = true := decide_eq_true hn0
   clear hbad hbd hn0
   go_enter Tryz.func126, Tryz.ntmps126
   go_wp2
   go_quiet (fail)
   go_wp2
   refine ⟨rfl, ?_⟩; rw [HP.out]; exact ⟨⟨_, _, rfl⟩, fa_ HR.out.below (ca_ (Below.refl _ _) _)⟩
  have e1 : decide (n < 0) = false := decide_eq_false hn0; have e2 : decide ((b.length : Int) - (p : Int) < n) = true := decide_eq_true (by omega); clear hbad hbd hn0
  go_enter Tryz.func126, Tryz.ntmps126
  go_wp2
  go_quiet (fail)
  go_wp2
  refine ⟨rfl, ?_⟩; rw [HP.out]; exact ⟨⟨_, _, rfl⟩, fa_ HR.out.below (ca_ (Below.refl _ _) _)⟩
 obtain ⟨m, rfl⟩ : ∃ m : Nat, n = (m : Int) := ⟨n.toNat, by omega⟩
 have HP : Az (kf_ b p (m : Int) = some ((b.drop p).take m, p + m)) := ⟨if_neg hbad⟩
 have hn : p + m ≤ b.length := by omega
 have e1 : decide ((m : Int) < 0) = false := decide_eq_false (by omega)
 have e2 : decide ((b.length : Int) - (p : Int) < (m : Int)) = false := decide_eq_false (by omega)
 have hw2 : wrap64 ((p : Int) + (m : Int)) = (p : Int) + (m : Int) := by rw [wrap64]; omega
 have hw3 : wrap64 ((p : Int) + (m : Int) - (m : Int)) = (p : Int) := by rw [wrap64]; omega
 have HN := aM_ hn
 have hn0 : (p : Int) + (m : Int) ≤ (b.length : Int) := by omega
 clear hbad
 go_enter Tryz.func126, Tryz.ntmps126
 go_wp2
 go_quiet (fail)
 go_wp2
 have HB1 : Az (((W.drewN nq).setCell ⟨h, 1, none⟩ (.int .i64 ((p : Int) + (m : Int)))).heap[h]? = some (.cells #[.slice A b.length c, .int .i64 ((p : Int) + (m : Int))] 82 (0, 0))) := ⟨by simpa using sa_ (w := W.drewN nq) HR.out.blk 1 (.int .i64 ((p : Int) + (m : Int)))⟩
 have HW1 : Az (Below w0.heap.size w0 ((W.drewN nq).setCell ⟨h, 1, none⟩ (.int .i64 ((p : Int) + (m : Int))))) := ⟨(ca_ HR.out.below nq).setCell (p := ⟨h, 1, none⟩) HR.out.ge _⟩
 have HK1 : Az (KeptR h W ((W.drewN nq).setCell ⟨h, 1, none⟩ (.int .i64 ((p : Int) + (m : Int))))) := ⟨fun k o hk hne => (heap_setCell_other (W.drewN nq) ⟨h, 1, none⟩ k _ hne).trans hk⟩
 generalize (W.drewN nq).setCell ⟨h, 1, none⟩ (.int .i64 ((p : Int) + (m : Int))) = W1 at *
 have c0 := ba_ HB1.out 0
 have c1 := ba_ HB1.out 1
 obtain ⟨i0, hi, hz0, hz1, hz2⟩ := info_parts zn_
 obtain ⟨A', hk, hrd, hcc⟩ := cn_ (P := Tryz.prog) (k := .u8) 28 5 Tryz.underlying28 hi hz1 A c b (p : Int) ((p : Int) + (m : Int)) (by omega) (by omega) hn0 HS.out.cap
 have hsub : ((b.take ((p : Int) + (m : Int)).toNat).drop (p : Int).toNat) = (b.drop p).take m := by
  rw [Int.toNat_natCast, show ((p : Int) + (m : Int)).toNat = p + m by omega, List.drop_take, Nat.add_sub_cancel_left]
 rw [hsub] at hk hrd hcc
 have HCC := aM_ hcc
 have HRD := aM_ hrd
 generalize (b.drop p).take m = out at *
 clear hsub hrd hcc hi hz0 hz1 hz2 f1
 go_quiet (fail)
 go_wp2
 go_ret
 rw [HP.out]
 exact ⟨⟨_, rfl, A', c - p, rfl, HCC.out, Kd.C_of_reads (h1 := fun _ => rfl) (HRD.out w0 (Kd.reads_of_C (enc := Value.int .u8) (d := (0 : Int)) (h1 := fun _ => rfl) HS.out.row))⟩, ⟨HB1.out, fa_ HW1.out (ca_ (Below.refl _ _) _), HR.out.ge, HN.out⟩, HK1.out.trans (KeptR.below (ca_ (Below.refl _ _) _))⟩
def VInt (x : Int) (v : Value) (_ : World) : Prop := v = .int .i64 x
def VStr (x : BA) (v : Value) (_ : World) : Prop := v = .string x
def shor (n c : Int) : Int := bits BinOp.or .i64 (wrap64 (n * 256)) (wrap64 c)
def val8 (l : List Int) : Int := l.foldl shor 0
def pNum (b : List Int) (p : Nat) : Option (Int × Nat) := (kf_ b p 8).map fun z => (val8 z.1, z.2)
theorem yk_ {b : List Int} {p : Nat} {n : Int} {x : List Int} {q : Nat} (h : kf_ b p n = some (x, q)) : ∃ m : Nat, n = m ∧ x.length = m ∧ q = p + m ∧ p + m ≤ b.length ∨ n = m ∧ m = 0 ∧ x = [] ∧ q = p := by
 unfold kf_ at h
 split at h
 ·cases h
 rename_i hc
 obtain ⟨m, rfl⟩ : ∃ m : Nat, n = (m : Int) := ⟨n.toNat, by omega⟩
 simp only [Option.some.injEq, Prod.mk.injEq, Int.toNat_natCast] at h
 obtain ⟨rfl, rfl⟩ := h
 rcases Nat.eq_zero_or_pos m with rfl | hm
 ·exact ⟨0, .inr ⟨rfl, rfl, by simp, by omega⟩⟩
 exact ⟨m, .inl ⟨rfl, by rw [List.length_take, List.length_drop]; omega, rfl, by omega⟩⟩
theorem iu_ {b : List Int} {p : Nat} {n : Int} {x : List Int} {q : Nat} (h : kf_ b p n = some (x, q)) : x.length ≤ b.length := by
 rcases yk_ h with ⟨m, ⟨_, h1, _, h2⟩ | ⟨_, _, h1, _⟩⟩
 ·omega
 rw [h1]; exact Nat.zero_le _
theorem kc_ (w0 : World) (h : Nat) (A : Option Addr) (b : List Int) (c p : Nat) (W : World) (hs : Src w0 A b c) (hr : RdAt w0 h A b c p W) :
  Calls Tryz.prog 82 #[.pointer (some ⟨h, 0, none⟩)] W fun e W' => Rd w0 h A b c W VInt e W' (pNum b p) := by
 have HB := aM_ (om_ w0 h A b c p 8 W hs hr (by omega))
 have hlb := hs.len
 have HP : Az (pNum b p = (kf_ b p 8).map fun z => (val8 z.1, z.2)) := ⟨rfl⟩
 clear hs hr
 go_enter Tryz.func82, Tryz.ntmps82
 go_wp2_with fail
 refine HB.out.mono ?_
 intro e w1 hq
 cases hp : kf_ b p 8 with
 | none =>
  rw [hp] at hq; obtain ⟨⟨T, v, rfl⟩, hbl⟩ := hq
  exact ⟨rfl, by rw [HP.out, hp]; exact ⟨⟨T, v, rfl⟩, hbl⟩⟩
 | some z =>
  obtain ⟨out, q⟩ := z; rw [hp] at hq; obtain ⟨⟨v, rfl, A', c', rfl, hcc, hrow⟩, hr1, hk1⟩ := hq; have HPP : Az (pNum b p = some (val8 out, q)) := ⟨by rw [HP.out, hp]; rfl⟩; have HR1 := aM_ hr1; have HK1 := aM_ hk1; have HRow := aM_ hrow; have hol : out.length ≤ 1000000000000 := Nat.le_trans (iu_ hp) hlb; clear hp hr1 hk1 hrow HP HB
  go_wp2
  go_loopg [9, 3, 5] out.length (fun gg s9 s3 s5 wr => ∃ i : Nat, i ≤ out.length ∧ out.length - i ≤ gg ∧ s9 = .int .i64 i ∧ s3 = .int .i64 (val8 (out.take i)) ∧ Az (RdAt w0 h A b c q wr) ∧ Az (KeptR h W wr))
  case atStart => exact ⟨0, by omega, by omega, rfl, by simp [val8], HR1, HK1⟩
  clear HR1 HK1; obtain ⟨i, hi, hgg, rfl, rfl, HW, HK⟩ := hrel
  by_cases hil : i < out.length
  ·have hilz : (i : Int) < (out.length : Int) := by omega
   obtain ⟨ad1, hA1, hcv⟩ := Kd.at_int (Kd.C_below HRow.out HW.out.below) (i : Int) (by omega) hilz; subst hA1; rw [Int.toNat_natCast] at hcv
   have hn : rd out (i : Int) = out[i] := by
    show out.getD (i : Int).toNat 0 = _; rw [Int.toNat_natCast, List.getD_eq_getElem?_getD, List.getElem?_eq_getElem hil]; rfl
   have HSV : Az (val8 (out.take (i + 1)) = shor (val8 (out.take i)) (rd out (i : Int))) := ⟨by rw [hn, List.take_succ_eq_append_getElem hil]; unfold val8; rw [List.foldl_append]; rfl⟩; clear hn; generalize rd out (i : Int) = n at *
   go_wp2
   go_roundg (out.length - (i + 1))
   case measure => omega
   case rel => exact ⟨i + 1, by omega, by omega, by go_num, by rw [HSV.out]; rfl, HW, HK⟩
  have he : i = out.length := by omega
  have hilz : decide ((i : Int) < (out.length : Int)) = false := by simp; omega
  rw [he, List.take_length] at *; clear he
  go_wp2
  go_ret
  rw [HPP.out]; exact ⟨⟨_, rfl, rfl⟩, HW.out, HK.out⟩
theorem wrap_i64 (x : Int) : IntKind.i64.wrap x = wrap64 x := by simp only [wrap64, IntKind.wrap_i64]
theorem bits_i64 (x y : Int) : ∃ z, bits BinOp.or .i64 x y = wrap64 z := ⟨_, by rw [bits]; exact wrap_i64 _⟩
theorem hr_ (l : List Int) : -9223372036854775808 ≤ val8 l ∧ val8 l ≤ 9223372036854775807 := by
 rcases List.eq_nil_or_concat l with rfl | ⟨l', x, rfl⟩
 ·decide
 have he : val8 (l' ++ [x]) = shor (val8 l') x := by unfold val8; rw [List.foldl_append]; rfl
 obtain ⟨z, hz⟩ := bits_i64 (wrap64 (val8 l' * 256)) (wrap64 x)
 rw [List.concat_eq_append, he, shor, hz]
 unfold wrap64
 omega
theorem hu_ {b : List Int} {p : Nat} {n : Int} {q : Nat} (h : pNum b p = some (n, q)) : (-9223372036854775808 ≤ n ∧ n ≤ 9223372036854775807) ∧ q = p + 8 ∧ p + 8 ≤ b.length := by
 unfold pNum at h
 cases hp : kf_ b p 8 with
 | none => rw [hp] at h; cases h
 | some z =>
  rw [hp] at h; simp only [Option.map_some, Option.some.injEq, Prod.mk.injEq] at h; obtain ⟨rfl, rfl⟩ := h; refine ⟨hr_ _, ?_⟩
  rcases yk_ (x := z.1) (q := z.2) hp with ⟨m, ⟨h0, _, h1, h2⟩ | ⟨h0, h1, _⟩⟩ <;> omega
def pg_ (b : List Int) (p : Nat) : Option (ByteArray × Nat) := (pNum b p).bind fun z => (kf_ b z.2 z.1).map fun y => (strOfNums y.1, y.2)
theorem ho_ (w0 : World) (h : Nat) (A : Option Addr) (b : List Int) (c p : Nat) (W : World) (hs : Src w0 A b c) (hr : RdAt w0 h A b c p W) :
  Calls Tryz.prog 84 #[.pointer (some ⟨h, 0, none⟩)] W fun e W' => Rd w0 h A b c W VStr e W' (pg_ b p) := by
 have HB := aM_ (kc_ w0 h A b c p W hs hr)
 have HS := aM_ hs
 clear hs hr
 go_enter Tryz.func84, Tryz.ntmps84
 go_wp2_with fail
 refine HB.out.mono ?_
 intro e w1 hq
 cases hp : pNum b p with
 | none =>
  rw [hp] at hq; obtain ⟨⟨T, v, rfl⟩, hbl⟩ := hq
  exact ⟨rfl, by show Rd _ _ _ _ _ _ _ _ _ (Option.bind _ _); rw [hp]; exact ⟨⟨T, v, rfl⟩, hbl⟩⟩
 | some z =>
  obtain ⟨n, q⟩ := z; rw [hp] at hq; obtain ⟨⟨v, rfl, rfl⟩, hr1, hk1⟩ := hq; have HP : Az (pg_ b p = (kf_ b q n).map fun y => (strOfNums y.1, y.2)) := ⟨by show Option.bind _ _ = _; rw [hp]; rfl⟩; have HK1 := aM_ hk1; have HB1 := aM_ (om_ w0 h A b c q n w1 HS.out hr1 (hu_ hp).1.2); clear hr1 hk1 hp HB
  go_wp2_with fail
  refine HB1.out.mono ?_; intro e w2 hq
  cases hp : kf_ b q n with
  | none =>
   rw [hp] at hq; obtain ⟨⟨T, v, rfl⟩, hbl⟩ := hq
   exact ⟨rfl, by rw [HP.out, hp]; exact ⟨⟨T, v, rfl⟩, hbl⟩⟩
  | some z =>
   obtain ⟨out, q2⟩ := z; rw [hp] at hq; obtain ⟨⟨v, rfl, A', c', rfl, hcc, hrow⟩, hr2, hk2⟩ := hq; have HPP : Az (pg_ b p = some (strOfNums out, q2)) := ⟨by rw [HP.out, hp]; rfl⟩; have HR2 := aM_ hr2; have HK2 := aM_ (HK1.out.trans hk2); have hconv : ∀ w : World, Kd.C (Kd.int .u8) w A' out.length out → (convert 28 9 (.slice A' out.length c')).run Tryz.prog w = .ok (.string (strOfNums out)) w := fun w => Kd.C_string Tryz.underlying28 Tryz.underlying5 Tryz.underlying9
   have hcv := hconv w2 (Kd.C_below hrow hr2.below); clear hp hr2 hk2 hrow HP HB1 hconv
   go_wp2
   go_ret
   rw [HPP.out]; exact ⟨⟨_, rfl, rfl⟩, HR2.out, HK2.out⟩
end Go.Proofs.YtiocgaekoeekgaaGreat.P
end
