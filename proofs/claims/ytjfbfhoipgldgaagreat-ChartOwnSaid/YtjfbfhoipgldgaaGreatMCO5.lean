/- Spans that were told may be overwritten: told again they are alike; rules and signs are not changed. Part 5: contracts of the functions that the law reaches, and words for them. -/
import Derived.BigRegion
import Derived.Test.YtjfbfhoipgldgaaGreatMCO4
section
namespace Go.Proofs.YtjfbfhoipgldgaaGreat.P
open Go.RowKit Go.Proofs.YtjfbfhoipgldgaaGreatW.PrintWords Go.Proofs.YtjfbfhoipgldgaaGreatW.PrintLast Go.Proofs.YtjfbfhoipgldgaaGreatW.PrintMore
attribute [local go_sem] ob_ lb_ vb_ ub_ db_ cb_ nb_ kb_   
set_option linter.unusedVariables false
set_option linter.unusedSimpArgs false
mutual
noncomputable def r4_Right.j0 : Nat → Bool → Int → List Int → Int → List Int → Int → Option (Bool)
 | 0, _, _, _, _, _, _ => none
 | k + 1, x36, x181000, x181001, x181002, x181003, x181004 => if x36 = true then (some false) else (r4_Right.l0 k 0 x181000 x181001 x181002 x181003 x181004)
noncomputable def r4_Right.l0 : Nat → Int → Int → List Int → Int → List Int → Int → Option (Bool)
 | 0, _, _, _, _, _, _ => none
 | k + 1, x3, x181000, x181001, x181002, x181003, x181004 => if x3 < (x181001.length : Int) then (if 0 ≤ x3 then (if (rd x181001 x3) ≥ 20 then (some false) else (if (rd x181001 x3) < (-61) then (some false) else (r4_Right.l0 k (wrap64 (x3 + 1)) x181000 x181001 x181002 x181003 x181004))) else (none)) else ((r4_wants.f k x181002).bind fun bt183 => (if (x181003.length : Int) < bt183.1 then (r4_Right.j2 k true x181000 x181001 x181002 x181003 x181004) else (r4_Right.j2 k (decide ((x181003.length : Int) > bt183.2)) x181000 x181001 x181002 x181003 x181004)))
noncomputable def r4_Right.j2 : Nat → Bool → Int → List Int → Int → List Int → Int → Option (Bool)
 | 0, _, _, _, _, _, _ => none
 | k + 1, x78, x181000, x181001, x181002, x181003, x181004 => if x78 = true then (some false) else (r4_Right.l1 k 0 x181000 x181001 x181002 x181003 x181004)
noncomputable def r4_Right.l1 : Nat → Int → Int → List Int → Int → List Int → Int → Option (Bool)
 | 0, _, _, _, _, _, _ => none
 | k + 1, x6, x181000, x181001, x181002, x181003, x181004 => if x6 < (x181003.length : Int) then (if 0 ≤ x6 then (if (rd x181003 x6) < 0 then (some false) else (if (rd x181003 x6) ≥ (x181001.length : Int) then (some false) else (r4_Right.l1 k (wrap64 (x6 + 1)) x181000 x181001 x181002 x181003 x181004))) else (none)) else (some true)
end
noncomputable def r4_Right.f (k : Nat) (a0_0 : Int) (l0_1 : List Int) (a0_2 : Int) (l0_3 : List Int) (a0_4 : Int) : Option (Bool) := if a0_0 < 0 then (r4_Right.j0 k true a0_0 l0_1 a0_2 l0_3 a0_4) else (if a0_0 ≥ 20 then (r4_Right.j0 k true a0_0 l0_1 a0_2 l0_3 a0_4) else (if (l0_1.length : Int) < 1 then (r4_Right.j0 k true a0_0 l0_1 a0_2 l0_3 a0_4) else (if (l0_1.length : Int) > 6 then (r4_Right.j0 k true a0_0 l0_1 a0_2 l0_3 a0_4) else (if a0_4 < 0 then (r4_Right.j0 k true a0_0 l0_1 a0_2 l0_3 a0_4) else (r4_Right.j0 k (decide (a0_4 > 100)) a0_0 l0_1 a0_2 l0_3 a0_4)))))
set_option maxHeartbeats 8000000 in
set_option maxRecDepth 100000 in
theorem r4_Right.calls (k : Nat) (a0_0 : Int) (A0_1 : Option Addr) (c0_1 : Nat) (l0_1 : List Int) (a0_2 : Int) (A0_3 : Option Addr) (c0_3 : Nat) (l0_3 : List Int) (a0_4 : Int) (r : Bool) (w : World) (hr0_1 : Kd.C (Kd.int .i64) w A0_1 l0_1.length l0_1) (hc0_1 : l0_1.length ≤ c0_1) (hr0_3 : Kd.C (Kd.int .i64) w A0_3 l0_3.length l0_3) (hc0_3 : l0_3.length ≤ c0_3) (h : r4_Right.f k a0_0 l0_1 a0_2 l0_3 a0_4 = some r) :
  Calls Tryz.prog 26 #[.agg #[.int .i64 a0_0, .slice A0_1 l0_1.length c0_1, .int .i64 a0_2, .slice A0_3 l0_3.length c0_3, .int .i64 a0_4]] w fun e w' => e = .returned (.bool r) ∧ Below w.heap.size w w' := by
 have hu48 := Tryz.underlying48
 have HR0_1 := Aside0.mk hr0_1
 have HC0_1 := Aside0.mk hc0_1
 clear hr0_1 hc0_1
 have HR0_3 := Aside0.mk hr0_3
 have HC0_3 := Aside0.mk hc0_3
 clear hr0_3 hc0_3
 have HB := Aside0.mk (Below.refl w.heap.size w)
 have H : (if a0_0 < 0 then (r4_Right.j0 k true a0_0 l0_1 a0_2 l0_3 a0_4) else (if a0_0 ≥ 20 then (r4_Right.j0 k true a0_0 l0_1 a0_2 l0_3 a0_4) else (if (l0_1.length : Int) < 1 then (r4_Right.j0 k true a0_0 l0_1 a0_2 l0_3 a0_4) else (if (l0_1.length : Int) > 6 then (r4_Right.j0 k true a0_0 l0_1 a0_2 l0_3 a0_4) else (if a0_4 < 0 then (r4_Right.j0 k true a0_0 l0_1 a0_2 l0_3 a0_4) else (r4_Right.j0 k (decide (a0_4 > 100)) a0_0 l0_1 a0_2 l0_3 a0_4)))))) = some r := h
 clear h
 have HC2 := Aside0.mk H
 clear H
 go_enter Tryz.func26, Tryz.ntmps26
 go_upto_region 1 with (first | ((with_reducible refine pb_ (N := 1) rfl ?_); (try (refine eb_ (by rfl) ?_; dsimp only)); refine mg_ ?hg (N := 1) ?hd (cs := #[.int .i64 a0_0, .slice A0_1 l0_1.length c0_1, .int .i64 a0_2, .slice A0_3 l0_3.length c0_3, .int .i64 a0_4]) (t := 48) ?hr ?_; (case hd => rfl); (case hg => rfl); (case hr => first | (go_simp; done) | (go_simp; rfl)); intro gb180 hg w3 hbox hb; have n0_ := Aside0.mk (ma_ (by repeat (first | (with_reducible first | exact HB.out | apply ba_ | apply aa_ | apply da_) | exact HB.out)) hb); have n1_ := Aside0.mk (hbox); have n2_ := Aside0.mk ((by rw [hg]; exact (na_ (by repeat (first | (with_reducible first | exact HB.out | apply ba_ | apply aa_ | apply da_) | exact HB.out))) : w.heap.size ≤ gb180)); have n3_ := Aside0.mk ((by rw [hg]; exact (na_ (by repeat (first | (with_reducible first | exact HB.out | apply ba_ | apply aa_ | apply da_) | exact HB.out))) : w.heap.size ≤ gb180)); clear HB; have HB := n0_; have BK180 := n1_; have GW180 := n2_; have GE180 := n3_; clear n0_ n1_ n2_ n3_; clear hb hbox hg))
 repeat (go_quiet (first | ((with_reducible refine pb_ (N := 1) rfl ?_); (try (refine eb_ (by rfl) ?_; dsimp only)); refine mg_ ?hg (N := 1) ?hd (cs := #[.int .i64 a0_0, .slice A0_1 l0_1.length c0_1, .int .i64 a0_2, .slice A0_3 l0_3.length c0_3, .int .i64 a0_4]) (t := 48) ?hr ?_; (case hd => rfl); (case hg => rfl); (case hr => first | (go_simp; done) | (go_simp; rfl)); intro gb180 hg w3 hbox hb; have n0_ := Aside0.mk (ma_ (by repeat (first | (with_reducible first | exact HB.out | apply ba_ | apply aa_ | apply da_) | exact HB.out)) hb); have n1_ := Aside0.mk (hbox); have n2_ := Aside0.mk ((by rw [hg]; exact (na_ (by repeat (first | (with_reducible first | exact HB.out | apply ba_ | apply aa_ | apply da_) | exact HB.out))) : w.heap.size ≤ gb180)); have n3_ := Aside0.mk ((by rw [hg]; exact (na_ (by repeat (first | (with_reducible first | exact HB.out | apply ba_ | apply aa_ | apply da_) | exact HB.out))) : w.heap.size ≤ gb180)); clear HB; have HB := n0_; have BK180 := n1_; have GW180 := n2_; have GE180 := n3_; clear n0_ n1_ n2_ n3_; clear hb hbox hg)); go_upto_region 1 with (first | ((with_reducible refine pb_ (N := 1) rfl ?_); (try (refine eb_ (by rfl) ?_; dsimp only)); refine mg_ ?hg (N := 1) ?hd (cs := #[.int .i64 a0_0, .slice A0_1 l0_1.length c0_1, .int .i64 a0_2, .slice A0_3 l0_3.length c0_3, .int .i64 a0_4]) (t := 48) ?hr ?_; (case hd => rfl); (case hg => rfl); (case hr => first | (go_simp; done) | (go_simp; rfl)); intro gb180 hg w3 hbox hb; have n0_ := Aside0.mk (ma_ (by repeat (first | (with_reducible first | exact HB.out | apply ba_ | apply aa_ | apply da_) | exact HB.out)) hb); have n1_ := Aside0.mk (hbox); have n2_ := Aside0.mk ((by rw [hg]; exact (na_ (by repeat (first | (with_reducible first | exact HB.out | apply ba_ | apply aa_ | apply da_) | exact HB.out))) : w.heap.size ≤ gb180)); have n3_ := Aside0.mk ((by rw [hg]; exact (na_ (by repeat (first | (with_reducible first | exact HB.out | apply ba_ | apply aa_ | apply da_) | exact HB.out))) : w.heap.size ≤ gb180)); clear HB; have HB := n0_; have BK180 := n1_; have GW180 := n2_; have GE180 := n3_; clear n0_ n1_ n2_ n3_; clear hb hbox hg)))
 (try simp only [Act.put, s1_, s2_, s3_])
 go_cut [36] (fun v36 wc => ∃ (kq : Nat) (x36_1 : Bool), v36 = .bool x36_1 ∧ Aside0 (r4_Right.j0 kq x36_1 a0_0 l0_1 a0_2 l0_3 a0_4 = some r) ∧ Aside0 (kq ≤ k) ∧ Aside0 (wc.heap[gb180]? = some (.cells #[.int .i64 a0_0, (.slice A0_1 l0_1.length c0_1), .int .i64 a0_2, (.slice A0_3 l0_3.length c0_3), .int .i64 a0_4] 48 (0, 0))) ∧ Aside0 (Below w.heap.size w wc))
 case first =>
  have H := HC2.out
  clear HC2
  by_cases c4 : a0_0 < 0
  ·rw [if_pos c4] at H
   have c4b0 : decide (a0_0 < 0) = true := decide_eq_true c4
   clear c4
   (first | rw [c4b0] | (simp only [ka_, la_]; rw [c4b0]) | skip)
   have H' := Aside0.mk H
   clear H
   have hcz5_0 : w3.cell? ⟨gb180, 0, none⟩ = some (.int .i64 a0_0) := (ca_ BK180.out 0).trans rfl
   have hcz5_1 : w3.cell? ⟨gb180, 1, none⟩ = some (.slice A0_1 l0_1.length c0_1) := (ca_ BK180.out 1).trans rfl
   have hcz5_2 : w3.cell? ⟨gb180, 2, none⟩ = some (.int .i64 a0_2) := (ca_ BK180.out 2).trans rfl
   have hcz5_3 : w3.cell? ⟨gb180, 3, none⟩ = some (.slice A0_3 l0_3.length c0_3) := (ca_ BK180.out 3).trans rfl
   have hcz5_4 : w3.cell? ⟨gb180, 4, none⟩ = some (.int .i64 a0_4) := (ca_ BK180.out 4).trans rfl
   have hfz5_0 := fa_ BK180.out 0
   have hfz5_1 := fa_ BK180.out 1
   have hfz5_2 := fa_ BK180.out 2
   have hfz5_3 := fa_ BK180.out 3
   have hfz5_4 := fa_ BK180.out 4
   go_wp2
   repeat (go_quiet (fail); try go_wp2)
   go_meet
   case rel => exact ⟨_, (true), (by first | rfl | (simp; done) | (simp [*]; done)), H', ⟨by first | omega | exact Nat.le_refl _⟩, ⟨by (with_reducible repeat (first | refine ha_ ?_ _ | refine ia_ ?_ | refine ga_ ?_ _)); exact BK180.out⟩, ⟨by repeat (first | (with_reducible first | exact HB.out | apply ba_ | apply aa_ | apply da_ | refine ja_ ?_ GE180.out) | exact HB.out)⟩⟩
  rw [if_neg c4] at H
  have c4b0 : decide (a0_0 < 0) = false := decide_eq_false c4
  clear c4
  (first | rw [c4b0] | (simp only [ka_, la_]; rw [c4b0]) | skip)
  by_cases c6 : a0_0 ≥ 20
  ·rw [if_pos c6] at H
   have c6b0 : decide (20 ≤ a0_0) = true := decide_eq_true c6
   clear c6
   have H' := Aside0.mk H
   clear H
   have hcz7_0 : w3.cell? ⟨gb180, 0, none⟩ = some (.int .i64 a0_0) := (ca_ BK180.out 0).trans rfl
   have hcz7_1 : w3.cell? ⟨gb180, 1, none⟩ = some (.slice A0_1 l0_1.length c0_1) := (ca_ BK180.out 1).trans rfl
   have hcz7_2 : w3.cell? ⟨gb180, 2, none⟩ = some (.int .i64 a0_2) := (ca_ BK180.out 2).trans rfl
   have hcz7_3 : w3.cell? ⟨gb180, 3, none⟩ = some (.slice A0_3 l0_3.length c0_3) := (ca_ BK180.out 3).trans rfl
   have hcz7_4 : w3.cell? ⟨gb180, 4, none⟩ = some (.int .i64 a0_4) := (ca_ BK180.out 4).trans rfl
   have hfz7_0 := fa_ BK180.out 0
   have hfz7_1 := fa_ BK180.out 1
   have hfz7_2 := fa_ BK180.out 2
   have hfz7_3 := fa_ BK180.out 3
   have hfz7_4 := fa_ BK180.out 4
   go_wp2
   repeat (go_quiet (fail); try go_wp2)
   go_meet
   case rel => exact ⟨_, (true), (by first | rfl | (simp; done) | (simp [*]; done)), H', ⟨by first | omega | exact Nat.le_refl _⟩, ⟨by (with_reducible repeat (first | refine ha_ ?_ _ | refine ia_ ?_ | refine ga_ ?_ _)); exact BK180.out⟩, ⟨by repeat (first | (with_reducible first | exact HB.out | apply ba_ | apply aa_ | apply da_ | refine ja_ ?_ GE180.out) | exact HB.out)⟩⟩
  rw [if_neg c6] at H
  have c6b0 : decide (20 ≤ a0_0) = false := decide_eq_false c6
  clear c6
  by_cases c8 : (l0_1.length : Int) < 1
  ·rw [if_pos c8] at H
   have c8b0 : decide ((l0_1.length : Int) < 1) = true := decide_eq_true c8
   have c8b1 : decide (l0_1.length < 1) = true := decide_eq_true (by omega)
   clear c8
   have H' := Aside0.mk H
   clear H
   have hcz9_0 : w3.cell? ⟨gb180, 0, none⟩ = some (.int .i64 a0_0) := (ca_ BK180.out 0).trans rfl
   have hcz9_1 : w3.cell? ⟨gb180, 1, none⟩ = some (.slice A0_1 l0_1.length c0_1) := (ca_ BK180.out 1).trans rfl
   have hcz9_2 : w3.cell? ⟨gb180, 2, none⟩ = some (.int .i64 a0_2) := (ca_ BK180.out 2).trans rfl
   have hcz9_3 : w3.cell? ⟨gb180, 3, none⟩ = some (.slice A0_3 l0_3.length c0_3) := (ca_ BK180.out 3).trans rfl
   have hcz9_4 : w3.cell? ⟨gb180, 4, none⟩ = some (.int .i64 a0_4) := (ca_ BK180.out 4).trans rfl
   have hfz9_0 := fa_ BK180.out 0
   have hfz9_1 := fa_ BK180.out 1
   have hfz9_2 := fa_ BK180.out 2
   have hfz9_3 := fa_ BK180.out 3
   have hfz9_4 := fa_ BK180.out 4
   go_wp2
   repeat (go_quiet (fail); try go_wp2)
   go_meet
   case rel => exact ⟨_, (true), (by first | rfl | (simp; done) | (simp [*]; done)), H', ⟨by first | omega | exact Nat.le_refl _⟩, ⟨by (with_reducible repeat (first | refine ha_ ?_ _ | refine ia_ ?_ | refine ga_ ?_ _)); exact BK180.out⟩, ⟨by repeat (first | (with_reducible first | exact HB.out | apply ba_ | apply aa_ | apply da_ | refine ja_ ?_ GE180.out) | exact HB.out)⟩⟩
  rw [if_neg c8] at H
  have c8b0 : decide ((l0_1.length : Int) < 1) = false := decide_eq_false c8
  have c8b1 : decide (l0_1.length < 1) = false := decide_eq_false (by omega)
  clear c8
  by_cases c10 : (l0_1.length : Int) > 6
  ·rw [if_pos c10] at H
   have c10b0 : decide (6 < (l0_1.length : Int)) = true := decide_eq_true c10
   have c10b1 : decide (6 < l0_1.length) = true := decide_eq_true (by omega)
   clear c10
   have H' := Aside0.mk H
   clear H
   have hcz11_0 : w3.cell? ⟨gb180, 0, none⟩ = some (.int .i64 a0_0) := (ca_ BK180.out 0).trans rfl
   have hcz11_1 : w3.cell? ⟨gb180, 1, none⟩ = some (.slice A0_1 l0_1.length c0_1) := (ca_ BK180.out 1).trans rfl
   have hcz11_2 : w3.cell? ⟨gb180, 2, none⟩ = some (.int .i64 a0_2) := (ca_ BK180.out 2).trans rfl
   have hcz11_3 : w3.cell? ⟨gb180, 3, none⟩ = some (.slice A0_3 l0_3.length c0_3) := (ca_ BK180.out 3).trans rfl
   have hcz11_4 : w3.cell? ⟨gb180, 4, none⟩ = some (.int .i64 a0_4) := (ca_ BK180.out 4).trans rfl
   have hfz11_0 := fa_ BK180.out 0
   have hfz11_1 := fa_ BK180.out 1
   have hfz11_2 := fa_ BK180.out 2
   have hfz11_3 := fa_ BK180.out 3
   have hfz11_4 := fa_ BK180.out 4
   go_wp2
   repeat (go_quiet (fail); try go_wp2)
   go_meet
   case rel => exact ⟨_, (true), (by first | rfl | (simp; done) | (simp [*]; done)), H', ⟨by first | omega | exact Nat.le_refl _⟩, ⟨by (with_reducible repeat (first | refine ha_ ?_ _ | refine ia_ ?_ | refine ga_ ?_ _)); exact BK180.out⟩, ⟨by repeat (first | (with_reducible first | exact HB.out | apply ba_ | apply aa_ | apply da_ | refine ja_ ?_ GE180.out) | exact HB.out)⟩⟩
  rw [if_neg c10] at H
  have c10b0 : decide (6 < (l0_1.length : Int)) = false := decide_eq_false c10
  have c10b1 : decide (6 < l0_1.length) = false := decide_eq_false (by omega)
  clear c10
  by_cases c12 : a0_4 < 0
  ·rw [if_pos c12] at H
   have c12b0 : decide (a0_4 < 0) = true := decide_eq_true c12
   clear c12
   have H' := Aside0.mk H
   clear H
   have hcz13_0 : w3.cell? ⟨gb180, 0, none⟩ = some (.int .i64 a0_0) := (ca_ BK180.out 0).trans rfl
   have hcz13_1 : w3.cell? ⟨gb180, 1, none⟩ = some (.slice A0_1 l0_1.length c0_1) := (ca_ BK180.out 1).trans rfl
   have hcz13_2 : w3.cell? ⟨gb180, 2, none⟩ = some (.int .i64 a0_2) := (ca_ BK180.out 2).trans rfl
   have hcz13_3 : w3.cell? ⟨gb180, 3, none⟩ = some (.slice A0_3 l0_3.length c0_3) := (ca_ BK180.out 3).trans rfl
   have hcz13_4 : w3.cell? ⟨gb180, 4, none⟩ = some (.int .i64 a0_4) := (ca_ BK180.out 4).trans rfl
   have hfz13_0 := fa_ BK180.out 0
   have hfz13_1 := fa_ BK180.out 1
   have hfz13_2 := fa_ BK180.out 2
   have hfz13_3 := fa_ BK180.out 3
   have hfz13_4 := fa_ BK180.out 4
   go_wp2
   repeat (go_quiet (fail); try go_wp2)
   go_meet
   case rel => exact ⟨_, (true), (by first | rfl | (simp; done) | (simp [*]; done)), H', ⟨by first | omega | exact Nat.le_refl _⟩, ⟨by (with_reducible repeat (first | refine ha_ ?_ _ | refine ia_ ?_ | refine ga_ ?_ _)); exact BK180.out⟩, ⟨by repeat (first | (with_reducible first | exact HB.out | apply ba_ | apply aa_ | apply da_ | refine ja_ ?_ GE180.out) | exact HB.out)⟩⟩
  rw [if_neg c12] at H
  have c12b0 : decide (a0_4 < 0) = false := decide_eq_false c12
  clear c12
  have H' := Aside0.mk H
  clear H
  have hcz14_0 : w3.cell? ⟨gb180, 0, none⟩ = some (.int .i64 a0_0) := (ca_ BK180.out 0).trans rfl
  have hcz14_1 : w3.cell? ⟨gb180, 1, none⟩ = some (.slice A0_1 l0_1.length c0_1) := (ca_ BK180.out 1).trans rfl
  have hcz14_2 : w3.cell? ⟨gb180, 2, none⟩ = some (.int .i64 a0_2) := (ca_ BK180.out 2).trans rfl
  have hcz14_3 : w3.cell? ⟨gb180, 3, none⟩ = some (.slice A0_3 l0_3.length c0_3) := (ca_ BK180.out 3).trans rfl
  have hcz14_4 : w3.cell? ⟨gb180, 4, none⟩ = some (.int .i64 a0_4) := (ca_ BK180.out 4).trans rfl
  have hfz14_0 := fa_ BK180.out 0
  have hfz14_1 := fa_ BK180.out 1
  have hfz14_2 := fa_ BK180.out 2
  have hfz14_3 := fa_ BK180.out 3
  have hfz14_4 := fa_ BK180.out 4
  go_wp2
  repeat (go_quiet (fail); try go_wp2)
  go_meet
  case rel => exact ⟨_, (decide (a0_4 > 100)), (by first | rfl | (simp; done) | (simp [*]; done)), H', ⟨by first | omega | exact Nat.le_refl _⟩, ⟨by (with_reducible repeat (first | refine ha_ ?_ _ | refine ia_ ?_ | refine ga_ ?_ _)); exact BK180.out⟩, ⟨by repeat (first | (with_reducible first | exact HB.out | apply ba_ | apply aa_ | apply da_ | refine ja_ ?_ GE180.out) | exact HB.out)⟩⟩
 clear HC2
 try clear c1
 try clear c2
 try clear p2
 try clear c4
 try clear c4b0
 try clear c6
 try clear c6b0
 try clear c8
 try clear c8b0
 try clear c8b1
 try clear c10
 try clear c10b0
 try clear c10b1
 try clear c12
 try clear c12b0
 try clear hcz11_0
 try clear hcz11_1
 try clear hcz11_2
 try clear hcz11_3
 try clear hcz11_4
 try clear hcz13_0
 try clear hcz13_1
 try clear hcz13_2
 try clear hcz13_3
 try clear hcz13_4
 try clear hcz14_0
 try clear hcz14_1
 try clear hcz14_2
 try clear hcz14_3
 try clear hcz14_4
 try clear hcz5_0
 try clear hcz5_1
 try clear hcz5_2
 try clear hcz5_3
 try clear hcz5_4
 try clear hcz7_0
 try clear hcz7_1
 try clear hcz7_2
 try clear hcz7_3
 try clear hcz7_4
 try clear hcz9_0
 try clear hcz9_1
 try clear hcz9_2
 try clear hcz9_3
 try clear hcz9_4
 try clear hfz11_0
 try clear hfz11_1
 try clear hfz11_2
 try clear hfz11_3
 try clear hfz11_4
 try clear hfz13_0
 try clear hfz13_1
 try clear hfz13_2
 try clear hfz13_3
 try clear hfz13_4
 try clear hfz14_0
 try clear hfz14_1
 try clear hfz14_2
 try clear hfz14_3
 try clear hfz14_4
 try clear hfz5_0
 try clear hfz5_1
 try clear hfz5_2
 try clear hfz5_3
 try clear hfz5_4
 try clear hfz7_0
 try clear hfz7_1
 try clear hfz7_2
 try clear hfz7_3
 try clear hfz7_4
 try clear hfz9_0
 try clear hfz9_1
 try clear hfz9_2
 try clear hfz9_3
 try clear hfz9_4
 obtain ⟨kq, x36_1, rfl, HA, HJ1, BK180, HB⟩ := hcut
 cases kq with
 | zero => exact absurd HA.out (by simp [r4_Right.j0])
 | succ kj1 =>
  have H := HA.out
  clear HA
  simp only [r4_Right.j0] at H
  by_cases c15 : x36_1 = true
  ·subst c15
   have H1 : (some false) = some r := by rw [if_pos rfl] at H; exact H
   clear H
   have H := H1
   clear H1
   obtain rfl := Option.some.inj H
   go_wp2
   repeat (go_quiet (fail); try go_wp2)
   go_ret
   exact ⟨by first | rfl | (simp [wa_, va_] <;> rfl) | (simp [*, wa_, va_] <;> rfl), by repeat (first | (with_reducible first | exact HB.out | apply ba_ | apply aa_ | apply da_ | refine ja_ ?_ GE180.out) | exact HB.out)⟩
  replace c15 := Bool.eq_false_iff.mpr c15
  subst c15
  have H1 : (r4_Right.l0 kj1 0 a0_0 l0_1 a0_2 l0_3 a0_4) = some r := by rw [if_neg (show ¬ (false = true) by decide)] at H; exact H
  clear H
  have H := H1
  clear H1
  have H' := Aside0.mk H
  clear H
  go_wp2
  repeat (go_quiet (fail); try go_wp2)
  go_loopg [3] kj1 (fun kq v3 w' => ∃ (x3_2 : Int), v3 = .int .i64 x3_2 ∧ Aside0 (r4_Right.l0 kq x3_2 a0_0 l0_1 a0_2 l0_3 a0_4 = some r) ∧ Aside0 (kq ≤ kj1) ∧ Aside0 (w'.heap[gb180]? = some (.cells #[.int .i64 a0_0, (.slice A0_1 l0_1.length c0_1), .int .i64 a0_2, (.slice A0_3 l0_3.length c0_3), .int .i64 a0_4] 48 (0, 0))) ∧ Aside0 (Below w.heap.size w w'))
  case atStart => exact ⟨(0), (by first | rfl | (simp; done) | (simp [*]; done)), H', ⟨Nat.le_refl _⟩, ⟨by (with_reducible repeat (first | refine ha_ ?_ _ | refine ia_ ?_ | refine ga_ ?_ _)); exact BK180.out⟩, ⟨by repeat (first | (with_reducible first | exact HB.out | apply ba_ | apply aa_ | apply da_ | refine ja_ ?_ GE180.out) | exact HB.out)⟩⟩
  clear H'
  try clear c1
  try clear c2
  try clear p2
  try clear c4
  try clear c4b0
  try clear c6
  try clear c6b0
  try clear c8
  try clear c8b0
  try clear c8b1
  try clear c10
  try clear c10b0
  try clear c10b1
  try clear c12
  try clear c12b0
  try clear c15
  try clear hcz11_0
  try clear hcz11_1
  try clear hcz11_2
  try clear hcz11_3
  try clear hcz11_4
  try clear hcz13_0
  try clear hcz13_1
  try clear hcz13_2
  try clear hcz13_3
  try clear hcz13_4
  try clear hcz14_0
  try clear hcz14_1
  try clear hcz14_2
  try clear hcz14_3
  try clear hcz14_4
  try clear hcz5_0
  try clear hcz5_1
  try clear hcz5_2
  try clear hcz5_3
  try clear hcz5_4
  try clear hcz7_0
  try clear hcz7_1
  try clear hcz7_2
  try clear hcz7_3
  try clear hcz7_4
  try clear hcz9_0
  try clear hcz9_1
  try clear hcz9_2
  try clear hcz9_3
  try clear hcz9_4
  try clear hfz11_0
  try clear hfz11_1
  try clear hfz11_2
  try clear hfz11_3
  try clear hfz11_4
  try clear hfz13_0
  try clear hfz13_1
  try clear hfz13_2
  try clear hfz13_3
  try clear hfz13_4
  try clear hfz14_0
  try clear hfz14_1
  try clear hfz14_2
  try clear hfz14_3
  try clear hfz14_4
  try clear hfz5_0
  try clear hfz5_1
  try clear hfz5_2
  try clear hfz5_3
  try clear hfz5_4
  try clear hfz7_0
  try clear hfz7_1
  try clear hfz7_2
  try clear hfz7_3
  try clear hfz7_4
  try clear hfz9_0
  try clear hfz9_1
  try clear hfz9_2
  try clear hfz9_3
  try clear hfz9_4
  try clear p2
  obtain ⟨x3_2, rfl, HA, HK2, BK180, HB⟩ := hrel
  cases gk with
  | zero => exact absurd HA.out (by simp [r4_Right.l0])
  | succ k2 =>
   have H := HA.out
   clear HA
   simp only [r4_Right.l0] at H
   by_cases c16 : x3_2 < (l0_1.length : Int)
   ·rw [if_pos c16] at H
    have c16b0 : decide (x3_2 < (l0_1.length : Int)) = true := decide_eq_true c16
    clear c16
    by_cases c17 : 0 ≤ x3_2
    ·rw [if_pos c17] at H
     have c17b0 : decide (0 ≤ x3_2) = true := decide_eq_true c17
     clear c17
     by_cases c18 : (rd l0_1 x3_2) ≥ 20
     ·rw [if_pos c18] at H
      have c18b0 : decide (20 ≤ (rd l0_1 x3_2)) = true := decide_eq_true c18
      clear c18
      obtain rfl := Option.some.inj H
      have hcz19_0 : wr.cell? ⟨gb180, 0, none⟩ = some (.int .i64 a0_0) := (ca_ BK180.out 0).trans rfl
      have hcz19_1 : wr.cell? ⟨gb180, 1, none⟩ = some (.slice A0_1 l0_1.length c0_1) := (ca_ BK180.out 1).trans rfl
      have hcz19_2 : wr.cell? ⟨gb180, 2, none⟩ = some (.int .i64 a0_2) := (ca_ BK180.out 2).trans rfl
      have hcz19_3 : wr.cell? ⟨gb180, 3, none⟩ = some (.slice A0_3 l0_3.length c0_3) := (ca_ BK180.out 3).trans rfl
      have hcz19_4 : wr.cell? ⟨gb180, 4, none⟩ = some (.int .i64 a0_4) := (ca_ BK180.out 4).trans rfl
      have hfz19_0 := fa_ BK180.out 0
      have hfz19_1 := fa_ BK180.out 1
      have hfz19_2 := fa_ BK180.out 2
      have hfz19_3 := fa_ BK180.out 3
      have hfz19_4 := fa_ BK180.out 4
      have p181 : 0 ≤ (x3_2 : Int) := of_decide_eq_true (by first | (with_reducible assumption) | assumption)
      have q181 : x3_2 < (l0_1.length : Int) := of_decide_eq_true (by first | (with_reducible assumption) | assumption)
      obtain ⟨ad181, e181, hx181_0⟩ := Kd.at_int HR0_1.out x3_2 p181 q181
      cases e181
      replace hx181_0 := (HB.out.cell (World.block_lt_of_cell? w _ hx181_0)).trans hx181_0
      replace p181 := eq_true p181
      replace q181 := eq_true q181
      go_wp2
      repeat (go_quiet (fail); try go_wp2)
      go_ret
      exact ⟨by first | rfl | (simp [wa_, va_] <;> rfl) | (simp [*, wa_, va_] <;> rfl), by repeat (first | (with_reducible first | exact HB.out | apply ba_ | apply aa_ | apply da_ | refine ja_ ?_ GE180.out) | exact HB.out)⟩
     rw [if_neg c18] at H
     have c18b0 : decide (20 ≤ (rd l0_1 x3_2)) = false := decide_eq_false c18
     clear c18
     by_cases c20 : (rd l0_1 x3_2) < (-61)
     ·rw [if_pos c20] at H
      have c20b0 : decide ((rd l0_1 x3_2) < (-61)) = true := decide_eq_true c20
      clear c20
      obtain rfl := Option.some.inj H
      have hcz21_0 : wr.cell? ⟨gb180, 0, none⟩ = some (.int .i64 a0_0) := (ca_ BK180.out 0).trans rfl
      have hcz21_1 : wr.cell? ⟨gb180, 1, none⟩ = some (.slice A0_1 l0_1.length c0_1) := (ca_ BK180.out 1).trans rfl
      have hcz21_2 : wr.cell? ⟨gb180, 2, none⟩ = some (.int .i64 a0_2) := (ca_ BK180.out 2).trans rfl
      have hcz21_3 : wr.cell? ⟨gb180, 3, none⟩ = some (.slice A0_3 l0_3.length c0_3) := (ca_ BK180.out 3).trans rfl
      have hcz21_4 : wr.cell? ⟨gb180, 4, none⟩ = some (.int .i64 a0_4) := (ca_ BK180.out 4).trans rfl
      have hfz21_0 := fa_ BK180.out 0
      have hfz21_1 := fa_ BK180.out 1
      have hfz21_2 := fa_ BK180.out 2
      have hfz21_3 := fa_ BK180.out 3
      have hfz21_4 := fa_ BK180.out 4
      have p181 : 0 ≤ (x3_2 : Int) := of_decide_eq_true (by first | (with_reducible assumption) | assumption)
      have q181 : x3_2 < (l0_1.length : Int) := of_decide_eq_true (by first | (with_reducible assumption) | assumption)
      obtain ⟨ad181, e181, hx181_0⟩ := Kd.at_int HR0_1.out x3_2 p181 q181
      cases e181
      replace hx181_0 := (HB.out.cell (World.block_lt_of_cell? w _ hx181_0)).trans hx181_0
      replace p181 := eq_true p181
      replace q181 := eq_true q181
      have p182 : 0 ≤ (x3_2 : Int) := of_decide_eq_true (by first | (with_reducible assumption) | assumption)
      have q182 : x3_2 < (l0_1.length : Int) := of_decide_eq_true (by first | (with_reducible assumption) | assumption)
      obtain ⟨ad182, e182, hx182_0⟩ := Kd.at_int HR0_1.out x3_2 p182 q182
      obtain rfl : ad181 = ad182 := (by injection e182)
      replace hx182_0 := (HB.out.cell (World.block_lt_of_cell? w _ hx182_0)).trans hx182_0
      replace p182 := eq_true p182
      replace q182 := eq_true q182
      go_wp2
      repeat (go_quiet (fail); try go_wp2)
      go_ret
      exact ⟨by first | rfl | (simp [wa_, va_] <;> rfl) | (simp [*, wa_, va_] <;> rfl), by repeat (first | (with_reducible first | exact HB.out | apply ba_ | apply aa_ | apply da_ | refine ja_ ?_ GE180.out) | exact HB.out)⟩
     rw [if_neg c20] at H
     have c20b0 : decide ((rd l0_1 x3_2) < (-61)) = false := decide_eq_false c20
     clear c20
     have H' := Aside0.mk H
     clear H
     have hcz22_0 : wr.cell? ⟨gb180, 0, none⟩ = some (.int .i64 a0_0) := (ca_ BK180.out 0).trans rfl
     have hcz22_1 : wr.cell? ⟨gb180, 1, none⟩ = some (.slice A0_1 l0_1.length c0_1) := (ca_ BK180.out 1).trans rfl
     have hcz22_2 : wr.cell? ⟨gb180, 2, none⟩ = some (.int .i64 a0_2) := (ca_ BK180.out 2).trans rfl
     have hcz22_3 : wr.cell? ⟨gb180, 3, none⟩ = some (.slice A0_3 l0_3.length c0_3) := (ca_ BK180.out 3).trans rfl
     have hcz22_4 : wr.cell? ⟨gb180, 4, none⟩ = some (.int .i64 a0_4) := (ca_ BK180.out 4).trans rfl
     have hfz22_0 := fa_ BK180.out 0
     have hfz22_1 := fa_ BK180.out 1
     have hfz22_2 := fa_ BK180.out 2
     have hfz22_3 := fa_ BK180.out 3
     have hfz22_4 := fa_ BK180.out 4
     have p181 : 0 ≤ (x3_2 : Int) := of_decide_eq_true (by first | (with_reducible assumption) | assumption)
     have q181 : x3_2 < (l0_1.length : Int) := of_decide_eq_true (by first | (with_reducible assumption) | assumption)
     obtain ⟨ad181, e181, hx181_0⟩ := Kd.at_int HR0_1.out x3_2 p181 q181
     cases e181
     replace hx181_0 := (HB.out.cell (World.block_lt_of_cell? w _ hx181_0)).trans hx181_0
     replace p181 := eq_true p181
     replace q181 := eq_true q181
     have p182 : 0 ≤ (x3_2 : Int) := of_decide_eq_true (by first | (with_reducible assumption) | assumption)
     have q182 : x3_2 < (l0_1.length : Int) := of_decide_eq_true (by first | (with_reducible assumption) | assumption)
     obtain ⟨ad182, e182, hx182_0⟩ := Kd.at_int HR0_1.out x3_2 p182 q182
     obtain rfl : ad181 = ad182 := (by injection e182)
     replace hx182_0 := (HB.out.cell (World.block_lt_of_cell? w _ hx182_0)).trans hx182_0
     replace p182 := eq_true p182
     replace q182 := eq_true q182
     go_wp2
     repeat (go_quiet (fail); try go_wp2)
     go_roundg k2
     case measure => have := HJ1.out; have := HK2.out; omega
     case rel => exact ⟨(wrap64 (x3_2 + 1)), (by first | rfl | (simp; done) | (simp [*]; done)), H', ⟨by have := HJ1.out; have := HK2.out; omega⟩, ⟨by (with_reducible repeat (first | refine ha_ ?_ _ | refine ia_ ?_ | refine ga_ ?_ _)); exact BK180.out⟩, ⟨by repeat (first | (with_reducible first | exact HB.out | apply ba_ | apply aa_ | apply da_ | refine ja_ ?_ GE180.out) | exact HB.out)⟩⟩
    rw [if_neg c17] at H
    exact absurd H (by simp)
   rw [if_neg c16] at H
   have c16b0 : decide (x3_2 < (l0_1.length : Int)) = false := decide_eq_false c16
   clear c16
   replace H := Option.bind_eq_some_iff.mp H
   obtain ⟨⟨t183, t184⟩, A230, H⟩ := H
   replace H : (if (l0_3.length : Int) < t183 then (r4_Right.j2 k2 true a0_0 l0_1 a0_2 l0_3 a0_4) else (r4_Right.j2 k2 (decide ((l0_3.length : Int) > t184)) a0_0 l0_1 a0_2 l0_3 a0_4)) = some r := H
   have A23 := Aside0.mk A230
   clear A230
   have HC24 := Aside0.mk H
   clear H
   have hcz25_0 : wr.cell? ⟨gb180, 0, none⟩ = some (.int .i64 a0_0) := (ca_ BK180.out 0).trans rfl
   have hcz25_1 : wr.cell? ⟨gb180, 1, none⟩ = some (.slice A0_1 l0_1.length c0_1) := (ca_ BK180.out 1).trans rfl
   have hcz25_2 : wr.cell? ⟨gb180, 2, none⟩ = some (.int .i64 a0_2) := (ca_ BK180.out 2).trans rfl
   have hcz25_3 : wr.cell? ⟨gb180, 3, none⟩ = some (.slice A0_3 l0_3.length c0_3) := (ca_ BK180.out 3).trans rfl
   have hcz25_4 : wr.cell? ⟨gb180, 4, none⟩ = some (.int .i64 a0_4) := (ca_ BK180.out 4).trans rfl
   have hfz25_0 := fa_ BK180.out 0
   have hfz25_1 := fa_ BK180.out 1
   have hfz25_2 := fa_ BK180.out 2
   have hfz25_3 := fa_ BK180.out 3
   have hfz25_4 := fa_ BK180.out 4
   go_upto_region 9 with (first | (go_at_call 42; (with_reducible refine (r4_wants.calls k2 a0_2 t183 t184 _ A23.out).mono ?_); rintro e w' ⟨rfl, ⟨nd, rfl⟩⟩; (try first | exact ⟨rfl, _, World.drewN_drewN _ _ _⟩ | exact ⟨rfl, _, Eq.trans (World.drewN_drewN _ _ _) (congrArg (World.drewN _) (Nat.add_assoc _ _ _))⟩)))
   repeat (go_quiet (first | (go_at_call 42; (with_reducible refine (r4_wants.calls k2 a0_2 t183 t184 _ A23.out).mono ?_); rintro e w' ⟨rfl, ⟨nd, rfl⟩⟩; (try first | exact ⟨rfl, _, World.drewN_drewN _ _ _⟩ | exact ⟨rfl, _, Eq.trans (World.drewN_drewN _ _ _) (congrArg (World.drewN _) (Nat.add_assoc _ _ _))⟩))); go_upto_region 9 with (first | (go_at_call 42; (with_reducible refine (r4_wants.calls k2 a0_2 t183 t184 _ A23.out).mono ?_); rintro e w' ⟨rfl, ⟨nd, rfl⟩⟩; (try first | exact ⟨rfl, _, World.drewN_drewN _ _ _⟩ | exact ⟨rfl, _, Eq.trans (World.drewN_drewN _ _ _) (congrArg (World.drewN _) (Nat.add_assoc _ _ _))⟩))))
   (try simp only [Act.put, s1_, s2_, s3_])
   go_cut [78] (fun v78 wc => ∃ (kq : Nat) (x78_23 : Bool), v78 = .bool x78_23 ∧ Aside0 (r4_Right.j2 kq x78_23 a0_0 l0_1 a0_2 l0_3 a0_4 = some r) ∧ Aside0 (kq ≤ k2) ∧ Aside0 (wc.heap[gb180]? = some (.cells #[.int .i64 a0_0, (.slice A0_1 l0_1.length c0_1), .int .i64 a0_2, (.slice A0_3 l0_3.length c0_3), .int .i64 a0_4] 48 (0, 0))) ∧ Aside0 (Below w.heap.size w wc))
   case first =>
    have H := HC24.out
    clear HC24
    by_cases c26 : (l0_3.length : Int) < t183
    ·rw [if_pos c26] at H
     have c26b0 : decide ((l0_3.length : Int) < t183) = true := decide_eq_true c26
     clear c26
     (first | rw [c26b0] | (simp only [ka_, la_]; rw [c26b0]) | skip)
     have H' := Aside0.mk H
     clear H
     have hcz27_0 : wr.cell? ⟨gb180, 0, none⟩ = some (.int .i64 a0_0) := (ca_ BK180.out 0).trans rfl
     have hcz27_1 : wr.cell? ⟨gb180, 1, none⟩ = some (.slice A0_1 l0_1.length c0_1) := (ca_ BK180.out 1).trans rfl
     have hcz27_2 : wr.cell? ⟨gb180, 2, none⟩ = some (.int .i64 a0_2) := (ca_ BK180.out 2).trans rfl
     have hcz27_3 : wr.cell? ⟨gb180, 3, none⟩ = some (.slice A0_3 l0_3.length c0_3) := (ca_ BK180.out 3).trans rfl
     have hcz27_4 : wr.cell? ⟨gb180, 4, none⟩ = some (.int .i64 a0_4) := (ca_ BK180.out 4).trans rfl
     have hfz27_0 := fa_ BK180.out 0
     have hfz27_1 := fa_ BK180.out 1
     have hfz27_2 := fa_ BK180.out 2
     have hfz27_3 := fa_ BK180.out 3
     have hfz27_4 := fa_ BK180.out 4
     go_wp2
     repeat (go_quiet (fail); try go_wp2)
     go_meet
     case rel => exact ⟨_, (true), (by first | rfl | (simp; done) | (simp [*]; done)), H', ⟨by have := HJ1.out; have := HK2.out; first | omega | exact Nat.le_refl _⟩, ⟨by (with_reducible repeat (first | refine ha_ ?_ _ | refine ia_ ?_ | refine ga_ ?_ _)); exact BK180.out⟩, ⟨by repeat (first | (with_reducible first | exact HB.out | apply ba_ | apply aa_ | apply da_ | refine ja_ ?_ GE180.out) | exact HB.out)⟩⟩
    rw [if_neg c26] at H
    have c26b0 : decide ((l0_3.length : Int) < t183) = false := decide_eq_false c26
    clear c26
    (first | rw [c26b0] | (simp only [ka_, la_]; rw [c26b0]) | skip)
    have H' := Aside0.mk H
    clear H
    have hcz28_0 : wr.cell? ⟨gb180, 0, none⟩ = some (.int .i64 a0_0) := (ca_ BK180.out 0).trans rfl
    have hcz28_1 : wr.cell? ⟨gb180, 1, none⟩ = some (.slice A0_1 l0_1.length c0_1) := (ca_ BK180.out 1).trans rfl
    have hcz28_2 : wr.cell? ⟨gb180, 2, none⟩ = some (.int .i64 a0_2) := (ca_ BK180.out 2).trans rfl
    have hcz28_3 : wr.cell? ⟨gb180, 3, none⟩ = some (.slice A0_3 l0_3.length c0_3) := (ca_ BK180.out 3).trans rfl
    have hcz28_4 : wr.cell? ⟨gb180, 4, none⟩ = some (.int .i64 a0_4) := (ca_ BK180.out 4).trans rfl
    have hfz28_0 := fa_ BK180.out 0
    have hfz28_1 := fa_ BK180.out 1
    have hfz28_2 := fa_ BK180.out 2
    have hfz28_3 := fa_ BK180.out 3
    have hfz28_4 := fa_ BK180.out 4
    go_wp2
    repeat (go_quiet (fail); try go_wp2)
    go_meet
    case rel => exact ⟨_, (decide ((l0_3.length : Int) > t184)), (by first | rfl | (simp; done) | (simp [*]; done)), H', ⟨by have := HJ1.out; have := HK2.out; first | omega | exact Nat.le_refl _⟩, ⟨by (with_reducible repeat (first | refine ha_ ?_ _ | refine ia_ ?_ | refine ga_ ?_ _)); exact BK180.out⟩, ⟨by repeat (first | (with_reducible first | exact HB.out | apply ba_ | apply aa_ | apply da_ | refine ja_ ?_ GE180.out) | exact HB.out)⟩⟩
   clear HC24
   try clear c1
   try clear p1
   try clear q1
   try clear hx1
   try clear c2
   try clear p2
   try clear c4
   try clear c4b0
   try clear c6
   try clear c6b0
   try clear p6
   try clear c8
   try clear c8b0
   try clear c8b1
   try clear c10
   try clear c10b0
   try clear c10b1
   try clear c12
   try clear c12b0
   try clear c15
   try clear c16
   try clear c16b0
   try clear c17
   try clear c17b0
   try clear c18
   try clear c18b0
   try clear p18
   try clear q18
   try clear hx18
   try clear c20
   try clear c20b0
   try clear c26
   try clear c26b0
   try clear hcz11_0
   try clear hcz11_1
   try clear hcz11_2
   try clear hcz11_3
   try clear hcz11_4
   try clear hcz13_0
   try clear hcz13_1
   try clear hcz13_2
   try clear hcz13_3
   try clear hcz13_4
   try clear hcz14_0
   try clear hcz14_1
   try clear hcz14_2
   try clear hcz14_3
   try clear hcz14_4
   try clear hcz19_0
   try clear hcz19_1
   try clear hcz19_2
   try clear hcz19_3
   try clear hcz19_4
   try clear hcz21_0
   try clear hcz21_1
   try clear hcz21_2
   try clear hcz21_3
   try clear hcz21_4
   try clear hcz22_0
   try clear hcz22_1
   try clear hcz22_2
   try clear hcz22_3
   try clear hcz22_4
   try clear hcz25_0
   try clear hcz25_1
   try clear hcz25_2
   try clear hcz25_3
   try clear hcz25_4
   try clear hcz27_0
   try clear hcz27_1
   try clear hcz27_2
   try clear hcz27_3
   try clear hcz27_4
   try clear hcz28_0
   try clear hcz28_1
   try clear hcz28_2
   try clear hcz28_3
   try clear hcz28_4
   try clear hcz5_0
   try clear hcz5_1
   try clear hcz5_2
   try clear hcz5_3
   try clear hcz5_4
   try clear hcz7_0
   try clear hcz7_1
   try clear hcz7_2
   try clear hcz7_3
   try clear hcz7_4
   try clear hcz9_0
   try clear hcz9_1
   try clear hcz9_2
   try clear hcz9_3
   try clear hcz9_4
   try clear hfz11_0
   try clear hfz11_1
   try clear hfz11_2
   try clear hfz11_3
   try clear hfz11_4
   try clear hfz13_0
   try clear hfz13_1
   try clear hfz13_2
   try clear hfz13_3
   try clear hfz13_4
   try clear hfz14_0
   try clear hfz14_1
   try clear hfz14_2
   try clear hfz14_3
   try clear hfz14_4
   try clear hfz19_0
   try clear hfz19_1
   try clear hfz19_2
   try clear hfz19_3
   try clear hfz19_4
   try clear hfz21_0
   try clear hfz21_1
   try clear hfz21_2
   try clear hfz21_3
   try clear hfz21_4
   try clear hfz22_0
   try clear hfz22_1
   try clear hfz22_2
   try clear hfz22_3
   try clear hfz22_4
   try clear hfz25_0
   try clear hfz25_1
   try clear hfz25_2
   try clear hfz25_3
   try clear hfz25_4
   try clear hfz27_0
   try clear hfz27_1
   try clear hfz27_2
   try clear hfz27_3
   try clear hfz27_4
   try clear hfz28_0
   try clear hfz28_1
   try clear hfz28_2
   try clear hfz28_3
   try clear hfz28_4
   try clear hfz5_0
   try clear hfz5_1
   try clear hfz5_2
   try clear hfz5_3
   try clear hfz5_4
   try clear hfz7_0
   try clear hfz7_1
   try clear hfz7_2
   try clear hfz7_3
   try clear hfz7_4
   try clear hfz9_0
   try clear hfz9_1
   try clear hfz9_2
   try clear hfz9_3
   try clear hfz9_4
   try clear hx181_0
   try clear hx182_0
   try clear p181
   try clear p182
   try clear p2
   try clear q181
   try clear q182
   obtain ⟨kq, x78_23, rfl, HA, HJ23, BK180, HB⟩ := hcut
   cases kq with
   | zero => exact absurd HA.out (by simp [r4_Right.j2])
   | succ kj23 =>
    have H := HA.out
    clear HA
    simp only [r4_Right.j2] at H
    by_cases c29 : x78_23 = true
    ·subst c29
     have H1 : (some false) = some r := by rw [if_pos rfl] at H; exact H
     clear H
     have H := H1
     clear H1
     obtain rfl := Option.some.inj H
     go_wp2
     repeat (go_quiet (fail); try go_wp2)
     go_ret
     exact ⟨by first | rfl | (simp [wa_, va_] <;> rfl) | (simp [*, wa_, va_] <;> rfl), by repeat (first | (with_reducible first | exact HB.out | apply ba_ | apply aa_ | apply da_ | refine ja_ ?_ GE180.out) | exact HB.out)⟩
    replace c29 := Bool.eq_false_iff.mpr c29
    subst c29
    have H1 : (r4_Right.l1 kj23 0 a0_0 l0_1 a0_2 l0_3 a0_4) = some r := by rw [if_neg (show ¬ (false = true) by decide)] at H; exact H
    clear H
    have H := H1
    clear H1
    have H' := Aside0.mk H
    clear H
    go_wp2
    repeat (go_quiet (fail); try go_wp2)
    go_loopg [6] kj23 (fun kq v6 w' => ∃ (x6_4 : Int), v6 = .int .i64 x6_4 ∧ Aside0 (r4_Right.l1 kq x6_4 a0_0 l0_1 a0_2 l0_3 a0_4 = some r) ∧ Aside0 (kq ≤ kj23) ∧ Aside0 (w'.heap[gb180]? = some (.cells #[.int .i64 a0_0, (.slice A0_1 l0_1.length c0_1), .int .i64 a0_2, (.slice A0_3 l0_3.length c0_3), .int .i64 a0_4] 48 (0, 0))) ∧ Aside0 (Below w.heap.size w w'))
    case atStart => exact ⟨(0), (by first | rfl | (simp; done) | (simp [*]; done)), H', ⟨Nat.le_refl _⟩, ⟨by (with_reducible repeat (first | refine ha_ ?_ _ | refine ia_ ?_ | refine ga_ ?_ _)); exact BK180.out⟩, ⟨by repeat (first | (with_reducible first | exact HB.out | apply ba_ | apply aa_ | apply da_ | refine ja_ ?_ GE180.out) | exact HB.out)⟩⟩
    clear H'
    try clear c1
    try clear p1
    try clear q1
    try clear hx1
    try clear c2
    try clear p2
    try clear c4
    try clear c4b0
    try clear c6
    try clear c6b0
    try clear p6
    try clear c8
    try clear c8b0
    try clear c8b1
    try clear c10
    try clear c10b0
    try clear c10b1
    try clear c12
    try clear c12b0
    try clear c15
    try clear c16
    try clear c16b0
    try clear c17
    try clear c17b0
    try clear c18
    try clear c18b0
    try clear p18
    try clear q18
    try clear hx18
    try clear c20
    try clear c20b0
    try clear c26
    try clear c26b0
    try clear c29
    try clear hcz11_0
    try clear hcz11_1
    try clear hcz11_2
    try clear hcz11_3
    try clear hcz11_4
    try clear hcz13_0
    try clear hcz13_1
    try clear hcz13_2
    try clear hcz13_3
    try clear hcz13_4
    try clear hcz14_0
    try clear hcz14_1
    try clear hcz14_2
    try clear hcz14_3
    try clear hcz14_4
    try clear hcz19_0
    try clear hcz19_1
    try clear hcz19_2
    try clear hcz19_3
    try clear hcz19_4
    try clear hcz21_0
    try clear hcz21_1
    try clear hcz21_2
    try clear hcz21_3
    try clear hcz21_4
    try clear hcz22_0
    try clear hcz22_1
    try clear hcz22_2
    try clear hcz22_3
    try clear hcz22_4
    try clear hcz25_0
    try clear hcz25_1
    try clear hcz25_2
    try clear hcz25_3
    try clear hcz25_4
    try clear hcz27_0
    try clear hcz27_1
    try clear hcz27_2
    try clear hcz27_3
    try clear hcz27_4
    try clear hcz28_0
    try clear hcz28_1
    try clear hcz28_2
    try clear hcz28_3
    try clear hcz28_4
    try clear hcz5_0
    try clear hcz5_1
    try clear hcz5_2
    try clear hcz5_3
    try clear hcz5_4
    try clear hcz7_0
    try clear hcz7_1
    try clear hcz7_2
    try clear hcz7_3
    try clear hcz7_4
    try clear hcz9_0
    try clear hcz9_1
    try clear hcz9_2
    try clear hcz9_3
    try clear hcz9_4
    try clear hfz11_0
    try clear hfz11_1
    try clear hfz11_2
    try clear hfz11_3
    try clear hfz11_4
    try clear hfz13_0
    try clear hfz13_1
    try clear hfz13_2
    try clear hfz13_3
    try clear hfz13_4
    try clear hfz14_0
    try clear hfz14_1
    try clear hfz14_2
    try clear hfz14_3
    try clear hfz14_4
    try clear hfz19_0
    try clear hfz19_1
    try clear hfz19_2
    try clear hfz19_3
    try clear hfz19_4
    try clear hfz21_0
    try clear hfz21_1
    try clear hfz21_2
    try clear hfz21_3
    try clear hfz21_4
    try clear hfz22_0
    try clear hfz22_1
    try clear hfz22_2
    try clear hfz22_3
    try clear hfz22_4
    try clear hfz25_0
    try clear hfz25_1
    try clear hfz25_2
    try clear hfz25_3
    try clear hfz25_4
    try clear hfz27_0
    try clear hfz27_1
    try clear hfz27_2
    try clear hfz27_3
    try clear hfz27_4
    try clear hfz28_0
    try clear hfz28_1
    try clear hfz28_2
    try clear hfz28_3
    try clear hfz28_4
    try clear hfz5_0
    try clear hfz5_1
    try clear hfz5_2
    try clear hfz5_3
    try clear hfz5_4
    try clear hfz7_0
    try clear hfz7_1
    try clear hfz7_2
    try clear hfz7_3
    try clear hfz7_4
    try clear hfz9_0
    try clear hfz9_1
    try clear hfz9_2
    try clear hfz9_3
    try clear hfz9_4
    try clear hx181_0
    try clear hx182_0
    try clear p1
    try clear p18
    try clear p181
    try clear p182
    try clear p2
    try clear p6
    try clear q1
    try clear q18
    try clear q181
    try clear q182
    obtain ⟨x6_4, rfl, HA, HK4, BK180, HB⟩ := hrel
    cases gk with
    | zero => exact absurd HA.out (by simp [r4_Right.l1])
    | succ k4 =>
     have H := HA.out
     clear HA
     simp only [r4_Right.l1] at H
     by_cases c30 : x6_4 < (l0_3.length : Int)
     ·rw [if_pos c30] at H
      have c30b0 : decide (x6_4 < (l0_3.length : Int)) = true := decide_eq_true c30
      clear c30
      by_cases c31 : 0 ≤ x6_4
      ·rw [if_pos c31] at H
       have c31b0 : decide (0 ≤ x6_4) = true := decide_eq_true c31
       clear c31
       by_cases c32 : (rd l0_3 x6_4) < 0
       ·rw [if_pos c32] at H
        have c32b0 : decide ((rd l0_3 x6_4) < 0) = true := decide_eq_true c32
        clear c32
        obtain rfl := Option.some.inj H
        have hcz33_0 : wr.cell? ⟨gb180, 0, none⟩ = some (.int .i64 a0_0) := (ca_ BK180.out 0).trans rfl
        have hcz33_1 : wr.cell? ⟨gb180, 1, none⟩ = some (.slice A0_1 l0_1.length c0_1) := (ca_ BK180.out 1).trans rfl
        have hcz33_2 : wr.cell? ⟨gb180, 2, none⟩ = some (.int .i64 a0_2) := (ca_ BK180.out 2).trans rfl
        have hcz33_3 : wr.cell? ⟨gb180, 3, none⟩ = some (.slice A0_3 l0_3.length c0_3) := (ca_ BK180.out 3).trans rfl
        have hcz33_4 : wr.cell? ⟨gb180, 4, none⟩ = some (.int .i64 a0_4) := (ca_ BK180.out 4).trans rfl
        have hfz33_0 := fa_ BK180.out 0
        have hfz33_1 := fa_ BK180.out 1
        have hfz33_2 := fa_ BK180.out 2
        have hfz33_3 := fa_ BK180.out 3
        have hfz33_4 := fa_ BK180.out 4
        have p185 : 0 ≤ (x6_4 : Int) := of_decide_eq_true (by first | (with_reducible assumption) | assumption)
        have q185 : x6_4 < (l0_3.length : Int) := of_decide_eq_true (by first | (with_reducible assumption) | assumption)
        obtain ⟨ad185, e185, hx185_0⟩ := Kd.at_int HR0_3.out x6_4 p185 q185
        cases e185
        replace hx185_0 := (HB.out.cell (World.block_lt_of_cell? w _ hx185_0)).trans hx185_0
        replace p185 := eq_true p185
        replace q185 := eq_true q185
        go_wp2
        repeat (go_quiet (fail); try go_wp2)
        go_ret
        exact ⟨by first | rfl | (simp [wa_, va_] <;> rfl) | (simp [*, wa_, va_] <;> rfl), by repeat (first | (with_reducible first | exact HB.out | apply ba_ | apply aa_ | apply da_ | refine ja_ ?_ GE180.out) | exact HB.out)⟩
       rw [if_neg c32] at H
       have c32b0 : decide ((rd l0_3 x6_4) < 0) = false := decide_eq_false c32
       clear c32
       by_cases c34 : (rd l0_3 x6_4) ≥ (l0_1.length : Int)
       ·rw [if_pos c34] at H
        have c34b0 : decide ((l0_1.length : Int) ≤ (rd l0_3 x6_4)) = true := decide_eq_true c34
        clear c34
        obtain rfl := Option.some.inj H
        have hcz35_0 : wr.cell? ⟨gb180, 0, none⟩ = some (.int .i64 a0_0) := (ca_ BK180.out 0).trans rfl
        have hcz35_1 : wr.cell? ⟨gb180, 1, none⟩ = some (.slice A0_1 l0_1.length c0_1) := (ca_ BK180.out 1).trans rfl
        have hcz35_2 : wr.cell? ⟨gb180, 2, none⟩ = some (.int .i64 a0_2) := (ca_ BK180.out 2).trans rfl
        have hcz35_3 : wr.cell? ⟨gb180, 3, none⟩ = some (.slice A0_3 l0_3.length c0_3) := (ca_ BK180.out 3).trans rfl
        have hcz35_4 : wr.cell? ⟨gb180, 4, none⟩ = some (.int .i64 a0_4) := (ca_ BK180.out 4).trans rfl
        have hfz35_0 := fa_ BK180.out 0
        have hfz35_1 := fa_ BK180.out 1
        have hfz35_2 := fa_ BK180.out 2
        have hfz35_3 := fa_ BK180.out 3
        have hfz35_4 := fa_ BK180.out 4
        have p185 : 0 ≤ (x6_4 : Int) := of_decide_eq_true (by first | (with_reducible assumption) | assumption)
        have q185 : x6_4 < (l0_3.length : Int) := of_decide_eq_true (by first | (with_reducible assumption) | assumption)
        obtain ⟨ad185, e185, hx185_0⟩ := Kd.at_int HR0_3.out x6_4 p185 q185
        cases e185
        replace hx185_0 := (HB.out.cell (World.block_lt_of_cell? w _ hx185_0)).trans hx185_0
        replace p185 := eq_true p185
        replace q185 := eq_true q185
        have p186 : 0 ≤ (x6_4 : Int) := of_decide_eq_true (by first | (with_reducible assumption) | assumption)
        have q186 : x6_4 < (l0_3.length : Int) := of_decide_eq_true (by first | (with_reducible assumption) | assumption)
        obtain ⟨ad186, e186, hx186_0⟩ := Kd.at_int HR0_3.out x6_4 p186 q186
        obtain rfl : ad185 = ad186 := (by injection e186)
        replace hx186_0 := (HB.out.cell (World.block_lt_of_cell? w _ hx186_0)).trans hx186_0
        replace p186 := eq_true p186
        replace q186 := eq_true q186
        go_wp2
        repeat (go_quiet (fail); try go_wp2)
        go_ret
        exact ⟨by first | rfl | (simp [wa_, va_] <;> rfl) | (simp [*, wa_, va_] <;> rfl), by repeat (first | (with_reducible first | exact HB.out | apply ba_ | apply aa_ | apply da_ | refine ja_ ?_ GE180.out) | exact HB.out)⟩
       rw [if_neg c34] at H
       have c34b0 : decide ((l0_1.length : Int) ≤ (rd l0_3 x6_4)) = false := decide_eq_false c34
       clear c34
       have H' := Aside0.mk H
       clear H
       have hcz36_0 : wr.cell? ⟨gb180, 0, none⟩ = some (.int .i64 a0_0) := (ca_ BK180.out 0).trans rfl
       have hcz36_1 : wr.cell? ⟨gb180, 1, none⟩ = some (.slice A0_1 l0_1.length c0_1) := (ca_ BK180.out 1).trans rfl
       have hcz36_2 : wr.cell? ⟨gb180, 2, none⟩ = some (.int .i64 a0_2) := (ca_ BK180.out 2).trans rfl
       have hcz36_3 : wr.cell? ⟨gb180, 3, none⟩ = some (.slice A0_3 l0_3.length c0_3) := (ca_ BK180.out 3).trans rfl
       have hcz36_4 : wr.cell? ⟨gb180, 4, none⟩ = some (.int .i64 a0_4) := (ca_ BK180.out 4).trans rfl
       have hfz36_0 := fa_ BK180.out 0
       have hfz36_1 := fa_ BK180.out 1
       have hfz36_2 := fa_ BK180.out 2
       have hfz36_3 := fa_ BK180.out 3
       have hfz36_4 := fa_ BK180.out 4
       have p185 : 0 ≤ (x6_4 : Int) := of_decide_eq_true (by first | (with_reducible assumption) | assumption)
       have q185 : x6_4 < (l0_3.length : Int) := of_decide_eq_true (by first | (with_reducible assumption) | assumption)
       obtain ⟨ad185, e185, hx185_0⟩ := Kd.at_int HR0_3.out x6_4 p185 q185
       cases e185
       replace hx185_0 := (HB.out.cell (World.block_lt_of_cell? w _ hx185_0)).trans hx185_0
       replace p185 := eq_true p185
       replace q185 := eq_true q185
       have p186 : 0 ≤ (x6_4 : Int) := of_decide_eq_true (by first | (with_reducible assumption) | assumption)
       have q186 : x6_4 < (l0_3.length : Int) := of_decide_eq_true (by first | (with_reducible assumption) | assumption)
       obtain ⟨ad186, e186, hx186_0⟩ := Kd.at_int HR0_3.out x6_4 p186 q186
       obtain rfl : ad185 = ad186 := (by injection e186)
       replace hx186_0 := (HB.out.cell (World.block_lt_of_cell? w _ hx186_0)).trans hx186_0
       replace p186 := eq_true p186
       replace q186 := eq_true q186
       go_wp2
       repeat (go_quiet (fail); try go_wp2)
       go_roundg k4
       case measure => have := HJ1.out; have := HK2.out; have := HJ23.out; have := HK4.out; omega
       case rel => exact ⟨(wrap64 (x6_4 + 1)), (by first | rfl | (simp; done) | (simp [*]; done)), H', ⟨by have := HJ1.out; have := HK2.out; have := HJ23.out; have := HK4.out; omega⟩, ⟨by (with_reducible repeat (first | refine ha_ ?_ _ | refine ia_ ?_ | refine ga_ ?_ _)); exact BK180.out⟩, ⟨by repeat (first | (with_reducible first | exact HB.out | apply ba_ | apply aa_ | apply da_ | refine ja_ ?_ GE180.out) | exact HB.out)⟩⟩
      rw [if_neg c31] at H
      exact absurd H (by simp)
     rw [if_neg c30] at H
     have c30b0 : decide (x6_4 < (l0_3.length : Int)) = false := decide_eq_false c30
     clear c30
     obtain rfl := Option.some.inj H
     have hcz37_0 : wr.cell? ⟨gb180, 0, none⟩ = some (.int .i64 a0_0) := (ca_ BK180.out 0).trans rfl
     have hcz37_1 : wr.cell? ⟨gb180, 1, none⟩ = some (.slice A0_1 l0_1.length c0_1) := (ca_ BK180.out 1).trans rfl
     have hcz37_2 : wr.cell? ⟨gb180, 2, none⟩ = some (.int .i64 a0_2) := (ca_ BK180.out 2).trans rfl
     have hcz37_3 : wr.cell? ⟨gb180, 3, none⟩ = some (.slice A0_3 l0_3.length c0_3) := (ca_ BK180.out 3).trans rfl
     have hcz37_4 : wr.cell? ⟨gb180, 4, none⟩ = some (.int .i64 a0_4) := (ca_ BK180.out 4).trans rfl
     have hfz37_0 := fa_ BK180.out 0
     have hfz37_1 := fa_ BK180.out 1
     have hfz37_2 := fa_ BK180.out 2
     have hfz37_3 := fa_ BK180.out 3
     have hfz37_4 := fa_ BK180.out 4
     go_wp2
     repeat (go_quiet (fail); try go_wp2)
     go_ret
     exact ⟨by first | rfl | (simp [wa_, va_] <;> rfl) | (simp [*, wa_, va_] <;> rfl), by repeat (first | (with_reducible first | exact HB.out | apply ba_ | apply aa_ | apply da_ | refine ja_ ?_ GE180.out) | exact HB.out)⟩
theorem as_ (k : Nat) (op : Int) : r4_wants.f (k + 4) op = some (jd_ op) := by
 by_cases h : 0 ≤ op ∧ op ≤ 15
 ·have : op = 0 ∨ op = 1 ∨ op = 2 ∨ op = 3 ∨ op = 4 ∨ op = 5 ∨ op = 6 ∨ op = 7 ∨ op = 8 ∨ op = 9 ∨ op = 10 ∨ op = 11 ∨ op = 12 ∨ op = 13 ∨ op = 14 ∨ op = 15 := by omega
  rcases this with rfl | rfl | rfl | rfl | rfl | rfl | rfl | rfl | rfl | rfl | rfl | rfl | rfl | rfl | rfl | rfl <;> rfl
 have n : ∀ k : Int, 0 ≤ k → k ≤ 15 → ¬ op = k := fun k h0 h1 e => h (by omega)
 have b : ∀ k : Int, 0 ≤ k → k ≤ 15 → ¬ (op == k) = true := fun k h0 h1 e => n k h0 h1 (by simpa using e)
 have e : jd_ op = (1, 0) := by
  unfold jd_
  rw [if_neg (by omega), if_neg (by omega), if_neg (by omega), if_neg (by omega), if_neg (by omega)]
 rw [e]
 unfold r4_wants.f
 rw [if_neg (n 0 (by omega) (by omega)), if_neg (n 7 (by omega) (by omega)), if_neg (n 8 (by omega) (by omega)), r4_wants.j0]
 rw [if_neg (b 11 (by omega) (by omega)), if_neg (n 2 (by omega) (by omega)), if_neg (n 5 (by omega) (by omega)), if_neg (n 9 (by omega) (by omega)), if_neg (n 12 (by omega) (by omega)), if_neg (n 13 (by omega) (by omega)), if_neg (n 14 (by omega) (by omega)), r4_wants.j1]
 rw [if_neg (b 15 (by omega) (by omega)), if_neg (n 1 (by omega) (by omega)), r4_wants.j2]
 rw [if_neg (b 6 (by omega) (by omega)), if_neg (n 3 (by omega) (by omega)), r4_wants.j3]
 rw [if_neg (b 4 (by omega) (by omega)), if_neg (n 10 (by omega) (by omega))]
section
variable (a0 : Int) (l1 : List Int) (a2 : Int) (l3 : List Int) (a4 : Int)
theorem iv_ (hl : l3.length ≤ 9223372036854775807) : ∀ (n k x : Nat), x ≤ l3.length → l3.length - x = n → n < k → r4_Right.l1 k x a0 l1 a2 l3 a4 = some ((l3.drop x).all (xd_ l1.length)) := by
 intro n
 induction n with
 | zero =>
  intro k x hx hn hk
  obtain ⟨k, rfl⟩ : ∃ j, k = j + 1 := ⟨k - 1, by omega⟩
  have he : x = l3.length := by omega
  subst he
  simp only [r4_Right.l1]
  rw [if_neg (by omega), List.drop_length]
  rfl
 | succ n ih =>
  intro k x hx hn hk
  obtain ⟨k, rfl⟩ : ∃ j, k = j + 1 := ⟨k - 1, by omega⟩
  have hlt : x < l3.length := by omega
  simp only [r4_Right.l1]
  rw [if_pos (by omega), if_pos (by omega), de_ l3 x hlt, List.drop_eq_getElem_cons hlt, List.all_cons]
  unfold xd_
  by_cases h0 : l3[x] < 0
  ·rw [if_pos h0, decide_eq_false (by omega)]; rfl
  rw [if_neg h0, decide_eq_true (by omega : 0 ≤ l3[x])]
  by_cases h1 : l3[x] ≥ (l1.length : Int)
  ·rw [if_pos h1, decide_eq_false (by omega)]; rfl
  rw [if_neg h1, decide_eq_true (by omega : l3[x] < (l1.length : Int)), ke_ (by omega)]
  exact ih k (x + 1) (by omega) (by omega) (by omega)
theorem refItems (hl : l1.length ≤ 9223372036854775807) (hl3 : l3.length ≤ 9223372036854775807) : ∀ (n k x : Nat), x ≤ l1.length → l1.length - x = n → n + l3.length + 8 < k → r4_Right.l0 k x a0 l1 a2 l3 a4 = some ((l1.drop x).all zd_ && (bc_ l3.length (jd_ a2).1 (jd_ a2).2 && l3.all (xd_ l1.length))) := by
 intro n
 induction n with
 | zero =>
  intro k x hx hn hk
  obtain ⟨k, rfl⟩ : ∃ j, k = j + 5 := ⟨k - 5, by omega⟩
  have he : x = l1.length := by omega
  subst he
  rw [show k + 5 = (k + 4) + 1 by omega]
  simp only [r4_Right.l0]
  rw [if_neg (by omega), List.drop_length, as_]
  simp only [Option.bind_some, List.all_nil, Bool.true_and]
  have h2 := iv_ a0 l1 a2 l3 a4 hl3 l3.length (k + 3) 0 (Nat.zero_le _) rfl (by omega)
  rw [List.drop_zero] at h2
  have h2' : r4_Right.l1 (k + 3) 0 a0 l1 a2 l3 a4 = some (l3.all (xd_ l1.length)) := h2
  unfold bc_
  by_cases h0 : (l3.length : Int) < (jd_ a2).1
  ·rw [if_pos h0, show k + 4 = (k + 3) + 1 by omega]
   simp only [r4_Right.j2]
   rw [decide_eq_false (by omega)]
   simp
  ·rw [if_neg h0, show k + 4 = (k + 3) + 1 by omega]
   simp only [r4_Right.j2]
   rw [decide_eq_true (by omega : (jd_ a2).1 ≤ (l3.length : Int)), h2']
   by_cases h1 : (l3.length : Int) > (jd_ a2).2
   ·rw [decide_eq_true h1, decide_eq_false (by omega : ¬ (l3.length : Int) ≤ (jd_ a2).2)]
    simp
   ·rw [decide_eq_false h1, decide_eq_true (by omega : (l3.length : Int) ≤ (jd_ a2).2)]
    simp
 | succ n ih =>
  intro k x hx hn hk
  obtain ⟨k, rfl⟩ : ∃ j, k = j + 1 := ⟨k - 1, by omega⟩
  have hlt : x < l1.length := by omega
  simp only [r4_Right.l0]
  rw [if_pos (by omega), if_pos (by omega), de_ l1 x hlt, List.drop_eq_getElem_cons hlt, List.all_cons]
  by_cases h0 : l1[x] ≥ 20
  ·rw [if_pos h0, show zd_ l1[x] = false by unfold zd_; simp; omega]; rfl
  rw [if_neg h0]
  by_cases h1 : l1[x] < -61
  ·rw [if_pos h1, show zd_ l1[x] = false by unfold zd_; simp; omega]; rfl
  rw [if_neg h1, show zd_ l1[x] = true by unfold zd_; simp; omega, Bool.true_and, ke_ (by omega)]
  exact ih k (x + 1) (by omega) (by omega) (by omega)
theorem gn_ (k : Nat) (hl : l1.length ≤ 9223372036854775807) (hl3 : l3.length ≤ 9223372036854775807) (hk : l1.length + l3.length + 10 < k) : r4_Right.f k a0 l1 a2 l3 a4 = some (af_ a0 l1 a2 l3 a4) := by
 obtain ⟨k, rfl⟩ : ∃ j, k = j + 1 := ⟨k - 1, by omega⟩
 have h2 := refItems a0 l1 a2 l3 a4 hl hl3 l1.length k 0 (Nat.zero_le _) rfl (by omega)
 rw [List.drop_zero] at h2
 have h2' : r4_Right.l0 k 0 a0 l1 a2 l3 a4 = some (l1.all zd_ && (bc_ l3.length (jd_ a2).1 (jd_ a2).2 && l3.all (xd_ l1.length))) := h2
 unfold r4_Right.f
 simp only [r4_Right.j0, if_true]
 unfold af_ be_
 by_cases c1 : a0 < 0
 ·rw [if_pos c1, decide_eq_false (by omega)]; rfl
 rw [if_neg c1, decide_eq_true (by omega : 0 ≤ a0)]
 by_cases c2 : a0 ≥ 20
 ·rw [if_pos c2, decide_eq_false (by omega)]; rfl
 rw [if_neg c2, decide_eq_true (by omega : a0 < 20), h2']
 by_cases c3 : (l1.length : Int) < 1
 ·rw [if_pos c3, show bc_ l1.length 1 6 = false by unfold bc_; simp; omega]; rfl
 rw [if_neg c3]
 by_cases c4 : (l1.length : Int) > 6
 ·rw [if_pos c4, show bc_ l1.length 1 6 = false by unfold bc_; simp; omega]; rfl
 rw [if_neg c4, show bc_ l1.length 1 6 = true by unfold bc_; simp; omega]
 by_cases c5 : a4 < 0
 ·rw [if_pos c5, show bc_ a4 0 100 = false by unfold bc_; simp; omega]
  simp
 rw [if_neg c5]
 by_cases c6 : a4 > 100
 ·rw [decide_eq_true c6, show bc_ a4 0 100 = false by unfold bc_; simp; omega]
  simp
 rw [decide_eq_false c6, show bc_ a4 0 100 = true by unfold bc_; simp; omega]
 simp
end
def matD (e : Nat → Nat → Bool) : Nat → Nat → Nat → Bool
 | 0 => e
 | k + 1 => fun i j => matD e k i j || (matD e k i k && matD e k k j)
theorem ov_ {e : Nat → Nat → Bool} {k i j : Nat} (h : matD e k i j = true) : matD e (k + 1) i j = true := by
 simp [matD, h]
theorem xj_ {e : Nat → Nat → Bool} {i j : Nat} (h : e i j = true) : ∀ k, matD e k i j = true
 | 0 => h
 | k + 1 => ov_ (xj_ h k)
theorem br_ (e : Nat → Nat → Bool) (k j : Nat) : matD e (k + 1) k j = matD e k k j := by
 simp only [matD]
 cases matD e k k j <;> simp
theorem cr_ (e : Nat → Nat → Bool) (k i : Nat) : matD e (k + 1) i k = matD e k i k := by
 simp only [matD]
 cases matD e k i k <;> simp
theorem cm_ {e : Nat → Nat → Bool} : ∀ (k i m j : Nat), m < k → matD e k i m = true → matD e k m j = true → matD e k i j = true
 | 0, _, _, _, h, _, _ => by omega
 | k + 1, i, m, j, hm, h1, h2 => by
  have T := cm_ (e := e) k
  by_cases e1 : m = k
  ·subst e1
   rw [cr_] at h1
   rw [br_] at h2
   simp [matD, h1, h2]
  have hm' : m < k := by omega
  simp only [matD, Bool.or_eq_true, Bool.and_eq_true] at h1 h2 ⊢
  rcases h1 with h1 | ⟨h1, h1'⟩
  ·rcases h2 with h2 | ⟨h2, h2'⟩
   ·exact .inl (T i m j hm' h1 h2)
   exact .inr ⟨T i m k hm' h1 h2, h2'⟩
  rcases h2 with h2 | ⟨h2, h2'⟩
  ·exact .inr ⟨h1, T k m j hm' h1' h2⟩
  exact .inr ⟨h1, h2'⟩
theorem sg_ {e : Nat → Nat → Bool} {R : Nat → Nat → Prop} (hb : ∀ i j, e i j = true → R i j) (ht : ∀ i m j, R i m → R m j → R i j) : ∀ (k i j : Nat), matD e k i j = true → R i j
 | 0, i, j, h => hb i j h
 | k + 1, i, j, h => by
  simp only [matD, Bool.or_eq_true, Bool.and_eq_true] at h
  rcases h with h | ⟨h1, h2⟩
  ·exact sg_ hb ht k i j h
  exact ht i k j (sg_ hb ht k i k h1) (sg_ hb ht k k j h2)
def ld_ (e : Nat → Nat → Bool) (k i j : Nat) : Nat → Nat → Bool := fun a b => if a < i ∨ (a = i ∧ b < j) then matD e (k + 1) a b else matD e k a b
def upd (mt : Nat → Nat → Bool) (i j : Nat) (v : Bool) : Nat → Nat → Bool := fun a b => if a = i ∧ b = j then v else mt a b
theorem bv_ (e : Nat → Nat → Bool) (k i j a : Nat) : ld_ e k i j a k = matD e k a k := by
 unfold ld_; split
 ·exact cr_ e k a
 rfl
theorem av_ (e : Nat → Nat → Bool) (k i j b : Nat) : ld_ e k i j k b = matD e k k b := by
 unfold ld_; split
 ·exact br_ e k b
 rfl
theorem stage_at (e : Nat → Nat → Bool) (k i j : Nat) : ld_ e k i j i j = matD e k i j := by
 unfold ld_; rw [if_neg (by omega)]
theorem zu_ (e : Nat → Nat → Bool) (k i j : Nat) : upd (ld_ e k i j) i j (ld_ e k i j i j || (ld_ e k i j i k && ld_ e k i j k j)) = ld_ e k i (j + 1) := by
 rw [stage_at, bv_, av_]
 funext a b
 unfold upd ld_
 by_cases h : a = i ∧ b = j
 ·obtain ⟨rfl, rfl⟩ := h
  rw [if_pos ⟨rfl, rfl⟩, if_pos (by omega)]
  rfl
 rw [if_neg h]
 by_cases h2 : a < i ∨ (a = i ∧ b < j)
 ·rw [if_pos h2, if_pos (by omega)]
 rw [if_neg h2, if_neg (by omega)]
def hd_ (mt : Nat → Nat → Bool) : List Value := (List.range 400).map fun n => Value.bool (mt (n / 20) (n % 20))
theorem bf_ (mt : Nat → Nat → Bool) : (hd_ mt).length = 400 := by simp [hd_]
theorem ih_ (mt : Nat → Nat → Bool) (i j : Nat) (hi : i < 20) (hj : j < 20) : (hd_ mt)[i * 20 + j]? = some (.bool (mt i j)) := by
 unfold hd_
 rw [List.getElem?_map, List.getElem?_range (by omega)]
 simp only [Option.map_some]
 rw [show (i * 20 + j) / 20 = i by omega, show (i * 20 + j) % 20 = j by omega]
theorem dm_ {mt mt' : Nat → Nat → Bool} (h : ∀ i j, i < 20 → j < 20 → mt i j = mt' i j) : hd_ mt = hd_ mt' := by
 unfold hd_
 refine List.map_congr_left fun n hn => ?_
 rw [List.mem_range] at hn
 rw [h _ _ (by omega) (by omega)]
theorem dp_ (mt : Nat → Nat → Bool) (i j : Nat) (v : Bool) (hi : i < 20) (hj : j < 20) : (hd_ mt).set (i * 20 + j) (.bool v) = hd_ (upd mt i j v) := by
 apply List.ext_getElem?
 intro n
 by_cases hn : n < 400
 ·obtain ⟨a, b, rfl, ha, hb⟩ : ∃ a b, n = a * 20 + b ∧ a < 20 ∧ b < 20 := ⟨n / 20, n % 20, by omega, by omega, by omega⟩
  rw [ih_ _ a b ha hb]
  by_cases h : a = i ∧ b = j
  ·obtain ⟨rfl, rfl⟩ := h
   rw [List.getElem?_set_self (by rw [bf_]; omega)]
   simp [upd]
  rw [List.getElem?_set_ne (by omega), ih_ _ a b ha hb]
  simp [upd, h]
 rw [List.getElem?_eq_none (by rw [List.length_set, bf_]; omega), List.getElem?_eq_none (by rw [bf_]; omega)]
def Mat (W : World) (t : TypeId) (g : Nat) (mt : Nat → Nat → Bool) : Prop := W.heap[g]? = some (.cells (hd_ mt).toArray t (0, 0))
theorem Mat.cell {W : World} {t : TypeId} {g : Nat} {mt : Nat → Nat → Bool} (h : Mat W t g mt) (i j : Nat) (hi : i < 20) (hj : j < 20) : W.cell? ⟨g, i * 20 + j, none⟩ = some (.bool (mt i j)) :=
 (ca_ h _).trans (by rw [List.getElem?_toArray]; exact ih_ mt i j hi hj)
theorem Mat.frozen {W : World} {t : TypeId} {g : Nat} {mt : Nat → Nat → Bool} (h : Mat W t g mt) (n : Nat) : W.frozen? ⟨g, n, none⟩ = false := fa_ h n
theorem Mat.set {W : World} {t : TypeId} {g : Nat} {mt : Nat → Nat → Bool} (h : Mat W t g mt) (i j : Nat) (v : Bool) (hi : i < 20) (hj : j < 20) : Mat (W.setCell ⟨g, i * 20 + j, none⟩ (.bool v)) t g (upd mt i j v) := by
 unfold Mat
 refine wc_ h (i * 20 + j) (.bool v) ?_
 rw [← dp_ mt i j v hi hj]
 simp
theorem Mat.congr {W : World} {t : TypeId} {g : Nat} {mt mt' : Nat → Nat → Bool} (h : Mat W t g mt) (he : ∀ i j, i < 20 → j < 20 → mt i j = mt' i j) : Mat W t g mt' := by
 unfold Mat
 rw [← dm_ he]
 exact h
theorem mat_zero : (hd_ fun _ _ => false).toArray = Array.replicate 400 (Value.bool false) := by
 apply Array.ext_getElem?
 intro n
 rw [List.getElem?_toArray, Array.getElem?_replicate]
 unfold hd_
 by_cases h : n < 400
 ·rw [if_pos h, List.getElem?_map, List.getElem?_range h]; rfl
 rw [if_neg h, List.getElem?_eq_none (by simp; omega)]
theorem qk_ (s : Nat) (y : Int) : ∀ (l : List qa_) (rows : Nat → List Int), y ∈ l.foldl wd_ rows s ↔ y ∈ rows s ∨ ∃ r ∈ l, r.f0 = s ∧ r.f1 = [y] ∧ 0 ≤ y
 | [], rows => by simp
 | r :: l, rows => by
  rw [List.foldl_cons, qk_ s y l (wd_ rows r)]
  have h : y ∈ wd_ rows r s ↔ y ∈ rows s ∨ (r.f0 = s ∧ r.f1 = [y] ∧ 0 ≤ y) := by
   unfold wd_ oneOf
   split
   case isTrue hc =>
    obtain ⟨h1, h2⟩ := hc
    obtain ⟨h3, h4⟩ := of_decide_eq_true h1
    rw [mem_putP]
    have h5 : r.f1 = [rd r.f1 0] := by
     match hr : r.f1, h3 with
     | [x], _ => simp [rd]
    constructor
    ·rintro (rfl | h)
     ·exact .inr ⟨h2, h5, h4⟩
     exact .inl h
    rintro (h | ⟨_, h, _⟩)
    ·exact .inr h
    left
    rw [h]; rfl
   case isFalse hc =>
    constructor
    ·exact .inl
    rintro (h | ⟨h1, h2, h3⟩)
    ·exact h
    exact absurd ⟨decide_eq_true ⟨by rw [h2]; rfl, by rw [h2]; exact h3⟩, h1⟩ hc
  rw [h, or_assoc]
  simp
theorem uf_ (l0 : List qa_) (hr : l0.all tc_ = true) (s : Nat) (hs : s < 20) (y : Int) : y ∈ gb_ l0 s ↔ y ∈ sa_ l0 s := by
 unfold gb_
 rw [qk_, od_ l0 s ⟨by omega, by omega⟩]
 constructor
 ·rintro (h | ⟨r, h1, h2, h3, h4⟩)
  ·cases h
  refine ⟨⟨h4, ?_⟩, r, h1, h2, h3⟩
  have h5 := List.all_eq_true.1 hr r h1
  unfold tc_ af_ at h5
  simp only [Bool.and_eq_true] at h5
  have h6 := List.all_eq_true.1 h5.2.2.1 y (by rw [h3]; exact List.mem_singleton.2 rfl)
  unfold zd_ at h6
  rw [Bool.and_eq_true] at h6
  exact of_decide_eq_true h6.1
 rintro ⟨h1, r, h2, h3, h4⟩
 exact .inr ⟨r, h2, h3, h4, h1.1⟩
def md_ (l0 : List qa_) (i j : Nat) : Bool := decide ((j : Int) ∈ gb_ l0 i)
theorem oj_ (l0 : List qa_) (hr : l0.all tc_ = true) (i : Nat) (hi : i < 20) (y : Int) : Reach (sa_ l0) (sa_ l0 i) y ↔ ac_ y ∧ matD (md_ l0) 20 i y.toNat = true := by
 have his : ac_ (i : Int) := ⟨by omega, by omega⟩
 constructor
 ·intro h
  refine Reach.inv (P := fun y => ac_ y ∧ matD (md_ l0) 20 i y.toNat = true) (fun x hx => ?_) (fun x hx y hy => ?_) h
  ·have h1 := zb_ l0 i his x hx
   refine ⟨h1, xj_ ?_ 20⟩
   unfold md_
   rw [Int.toNat_of_nonneg h1.1]
   exact decide_eq_true ((uf_ l0 hr i hi x).2 hx)
  have h1 := zb_ l0 x hx.1 y hy
  refine ⟨h1, cm_ 20 i x.toNat y.toNat (by have := hx.1.1; have := hx.1.2; omega) hx.2 (xj_ ?_ 20)⟩
  unfold md_
  rw [Int.toNat_of_nonneg h1.1]
  refine decide_eq_true ((uf_ l0 hr x.toNat (by have := hx.1.1; have := hx.1.2; omega) y).2 ?_)
  rw [Int.toNat_of_nonneg hx.1.1]
  exact hy
 rintro ⟨hy, h⟩
 have h2 := sg_ (e := md_ l0) (R := fun a b => a < 20 → b < 20 ∧ Reach (sa_ l0) (sa_ l0 (a : Int)) (b : Int))
  (fun a b hab ha => by
   have h3 := (uf_ l0 hr a ha (b : Int)).1 (of_decide_eq_true hab)
   have h4 := zb_ l0 a ⟨by omega, by omega⟩ b h3
   exact ⟨by have := h4.2; omega, .base h3⟩)
  (fun a m b h1 h2 ha => by
   obtain ⟨hm, h3⟩ := h1 ha
   obtain ⟨hb, h4⟩ := h2 hm
   refine ⟨hb, ?_⟩
   refine Reach.inv (P := fun y => Reach (sa_ l0) (sa_ l0 (a : Int)) y) (fun x hx => .step h3 hx) (fun x hx y hy => .step hx hy) h4) 20 i y.toNat h hi
 rw [Int.toNat_of_nonneg hy.1] at h2
 exact h2.2
theorem qr_ (l0 : List qa_) (h60 : l0.length ≤ 60) (hr : l0.all tc_ = true) : bb_ l0 = true ↔ ∀ i, i < 20 → matD (md_ l0) 20 i i = false := by
 rw [cc_]
 constructor
 ·rintro ⟨_, _, h⟩ i hi
  have h1 := h i ⟨by omega, by omega⟩
  rw [oj_ l0 hr i hi] at h1
  cases hm : matD (md_ l0) 20 i i with
  | false => rfl
  | true => exact absurd ⟨⟨by omega, by omega⟩, by simpa using hm⟩ h1
 intro h
 refine ⟨h60, hr, fun x hx hR => ?_⟩
 obtain ⟨n, rfl⟩ : ∃ n : Nat, x = n := ⟨x.toNat, by have := hx.1; omega⟩
 have hn : n < 20 := by have := hx.2; omega
 have h1 := ((oj_ l0 hr n hn n).1 hR).2
 have h2 := h n hn
 simp [h2] at h1
def kd_ (l0 : List qa_) (i k : Nat) (a b : Nat) : Bool := decide (a < i) && md_ l0 a b || (decide (a = i) && decide ((b : Int) ∈ (gb_ l0 i).take k))
theorem qm_ (l0 : List qa_) (i k : Nat) (h : k < (gb_ l0 i).length) (z : Nat) (hz : (gb_ l0 i)[k] = (z : Int)) : upd (kd_ l0 i k) i z true = kd_ l0 i (k + 1) := by
 funext a b
 unfold upd kd_
 rw [List.take_succ_eq_append_getElem h, hz]
 by_cases ha : a = i
 ·subst ha
  by_cases hb : b = z
  ·subst hb; simp
  have : ¬ (b : Int) = (z : Int) := by omega
  simp [hb, this]
 simp [ha]
theorem rm_ (l0 : List qa_) (i : Nat) : kd_ l0 i (gb_ l0 i).length = kd_ l0 (i + 1) 0 := by
 funext a b
 unfold kd_
 rw [List.take_length, List.take_zero]
 by_cases ha : a = i
 ·subst ha
  simp [md_]
 by_cases hl : a < i
 ·simp [hl, ha, show a < i + 1 by omega]
 simp [hl, ha, show ¬ a < i + 1 by omega]
noncomputable def r4_Check.f (l0 : List qa_) : Option Bool := some (bb_ l0)
theorem mat0 : Tryz.zeroCells75 = (hd_ fun _ _ => false).toArray := by rw [mat_zero]; kernel_rfl
set_option maxHeartbeats 4000000 in
set_option maxRecDepth 100000 in
theorem hn_ (A0 : Option Addr) (c0 : Nat) (l0 : List qa_) (w : World) (hr0 : Kd.C k48 w A0 l0.length l0) (hc0 : l0.length ≤ c0) :
  Calls Tryz.prog 17 #[.slice A0 l0.length c0] w fun e w' => e = .returned (.bool (bb_ l0)) ∧ Below w.heap.size w w' := by
 have HR := Aside0.mk hr0
 have HC := Aside0.mk hc0
 clear hr0 hc0
 by_cases h60 : l0.length ≤ 60
 ·have h60z : ¬ ((l0.length : Int) > 60) := by omega
  go_enter Tryz.func17, Tryz.ntmps17
  go_wp2
  go_loopg [3] l0.length (fun gg s3 wr => ∃ kk : Nat, kk ≤ l0.length ∧ l0.length - kk ≤ gg ∧ s3 = .int .i64 kk ∧ Aside0 (∀ j, j < kk → ∀ h : j < l0.length, tc_ l0[j] = true) ∧ Aside0 (Below w.heap.size w wr))
  case atStart => exact ⟨0, Nat.zero_le _, by omega, rfl, ⟨fun j hj => absurd hj (Nat.not_lt_zero _)⟩, ⟨Below.refl _ _⟩⟩
  obtain ⟨kk, hkk, hgg, rfl, HA, HB⟩ := hrel
  by_cases hlt : kk < l0.length
  ·have hltz : (kk : Int) < (l0.length : Int) := by omega
   obtain ⟨ad, A1, c1, A3, c3, hA, h0, h1, h2, h3, h4, l1, g1, l3, g3⟩ := pf_ (Kd.C_below HR.out HB.out) kk (by omega) hltz
   have hx : sb_ l0 kk = l0[kk] := by simp [sb_, List.getD_eq_getElem?_getD, List.getElem?_eq_getElem hlt]
   generalize sb_ l0 kk = y at *
   rw [Int.toNat_natCast] at h0 h1 h2 h3 h4
   subst hA
   have HX := Aside0.mk hx
   clear hx
   have HRS := Aside0.mk (gn_ y.f0 y.f1 y.f2.f0 y.f2.f1 y.f3 (y.f1.length + y.f2.f1.length + 11) g1.2.1 g3.2.1 (by omega))
   have hcall := Aside0.mk (r4_Right.calls (y.f1.length + y.f2.f1.length + 11) y.f0 A1 c1 y.f1 y.f2.f0 A3 c3 y.f2.f1 y.f3 (tc_ y) wr g1 l1 g3 l3 HRS.out)
   clear g1 g3
   cases hr : tc_ y with
   | true =>
    rw [hr] at hcall
    go_wp2_with fail
    refine hcall.out.mono ?_
    rintro e w' ⟨rfl, hb⟩
    have HB2 := Aside0.mk (ma_ HB.out hb)
    clear hb
    go_wp2
    go_roundg (l0.length - (kk + 1))
    case measure => omega
    case rel =>
     refine ⟨kk + 1, by omega, by omega, by go_num, ⟨fun j hj hl => ?_⟩, HB2⟩
     by_cases e : j = kk
     ·subst e; rw [← HX.out]; exact hr
     ·exact HA.out j (by omega) hl
   | false =>
    rw [hr] at hcall
    have hz : bb_ l0 = false := by
     unfold bb_
     have : l0.all tc_ = false := List.all_eq_false.2 ⟨l0[kk], List.getElem_mem hlt, by rw [← HX.out, hr]; decide⟩
     rw [this, Bool.false_and, Bool.and_false]
    go_wp2_with fail
    refine hcall.out.mono ?_
    rintro e w' ⟨rfl, hb⟩
    have HB2 := Aside0.mk (ma_ HB.out hb)
    clear hb
    go_wp2
    go_ret
    exact ⟨qd_ hz.symm, HB2.out⟩
  have hltz : ¬ (kk : Int) < (l0.length : Int) := by omega
  have hkl : kk = l0.length := by omega
  subst hkl
  have hall : l0.all tc_ = true := by
   rw [List.all_eq_true]
   intro r hr
   obtain ⟨j, hj, rfl⟩ := List.mem_iff_getElem.1 hr
   exact HA.out j hj hj
  have HCM := Aside0.mk (qr_ l0 h60 hall)
  have hu := Aside0.mk (rj_ l0 h60 hall)
  have HALL := Aside0.mk hall
  have HR1 := Aside0.mk (Kd.C_below HR.out HB.out)
  clear HA hall HR
  go_wp2_with fail
  refine (fn_ A0 c0 l0 wr HR1.out HC.out hu.out).mono ?_
  rintro e w1 ⟨v1, rfl, hS, hb⟩
  obtain ⟨A2, c2, rfl, hc2, hC2⟩ := Kd.S_reads hS
  have hlen : (se_ l0).length = 20 := by simp [se_]
  have HB1 := Aside0.mk (ma_ HB.out hb)
  have HU1 := Aside0.mk hC2
  have HM := Aside0.mk (show Mat (w1.alloc (.cells Tryz.zeroCells75 75)) 75 w1.heap.size (fun _ _ => false) from by unfold Mat; rw [← mat0]; exact qb_ _ _)
  have HB2 := Aside0.mk (ba_ (Below.refl w1.heap.size w1) (.cells Tryz.zeroCells75 75))
  rw [hlen]
  have HLN := Aside0.mk hlen
  clear hS hb hc2 hC2 hlen HB HR1
  go_wp2
  generalize (w1.alloc (.cells Tryz.zeroCells75 75)) = W2 at *
  generalize hg : w1.heap.size = g at *
  have HG := Aside0.mk hg
  clear hg
  go_loopg [6] 20 (fun gg s6 wr => ∃ i : Nat, i ≤ 20 ∧ 20 - i ≤ gg ∧ s6 = .int .i64 i ∧ Aside0 (Mat wr 75 g (kd_ l0 i 0)) ∧ Aside0 (Below g w1 wr))
  case atStart => exact ⟨0, by omega, by omega, rfl, ⟨HM.out.congr (fun i j _ _ => by simp [kd_])⟩, HB2⟩
  clear HM HB2
  obtain ⟨i, hi, hgi, rfl, HM, HB2⟩ := hrel
  by_cases hlt : i < 20
  ·have hltz : (i : Int) < 20 := by omega
   have hrow : eh_ (se_ l0) (i : Int) = gb_ l0 i := by
    unfold eh_ se_
    rw [Int.toNat_natCast, List.getD_eq_getElem?_getD, List.getElem?_map, List.getElem?_range hlt]
    rfl
   have HROW := Aside0.mk hrow
   clear hrow
   go_wp2
   go_loopg [7] (gb_ l0 i).length (fun gg s7 wr => ∃ k : Nat, k ≤ (gb_ l0 i).length ∧ (gb_ l0 i).length - k ≤ gg ∧ s7 = .int .i64 k ∧ Aside0 (Mat wr 75 g (kd_ l0 i k)) ∧ Aside0 (Below g w1 wr))
   case atStart => exact ⟨0, Nat.zero_le _, by omega, rfl, HM, HB2⟩
   clear HM HB2
   obtain ⟨k, hk, hgk, rfl, HM, HB2⟩ := hrel
   obtain ⟨ad, A4, c4, hA, h0, h1, h2⟩ := at_L1 (show Kd.C (Kd.slice 3 (Kd.int .i64)) wr A2 (se_ l0).length (se_ l0) from Kd.C_below HU1.out (by rw [HG.out]; exact HB2.out)) i (by omega) (by rw [HLN.out]; exact hltz)
   rw [HROW.out] at h0 h1 h2
   rw [Int.toNat_natCast] at h0
   subst hA
   have hlm : (gb_ l0 i).length ≤ 9223372036854775807 := h2.2.1
   by_cases hlk : k < (gb_ l0 i).length
   ·have hz0 := (uf_ l0 HALL.out i hlt _).1 (List.getElem_mem hlk)
    have hz1 := zb_ l0 i ⟨by omega, by omega⟩ _ hz0
    obtain ⟨z, hz⟩ : ∃ z : Nat, (gb_ l0 i)[k] = (z : Int) := ⟨(gb_ l0 i)[k].toNat, by have := hz1.1; omega⟩
    have hz20 : z < 20 := by have := hz1.2; omega
    have HUP := Aside0.mk (qm_ l0 i k hlk z hz)
    have hlkz : (k : Int) < ((gb_ l0 i).length : Int) := by omega
    obtain ⟨ad1, hA1, hc1⟩ := Kd.at_int h2 k (by omega) hlkz
    rw [Int.toNat_natCast, de_ _ k hlk, hz] at hc1
    subst hA1
    have hz20z : (z : Int) < 20 := by omega
    have hcm := HM.out.cell i z hlt hz20
    have hcf := HM.out.frozen (i * 20 + z)
    have HMS := Aside0.mk (HM.out.set i z true hlt hz20)
    rw [HUP.out] at HMS
    clear hz hz0 hz1 h2 h1
    generalize (gb_ l0 i).length = m at *
    go_wp2
    go_region
    all_goals
     go_wp2
     go_roundg (m - (k + 1))
     case measure => omega
     case rel => exact ⟨k + 1, by omega, by omega, by go_num, ⟨HMS.out⟩, ⟨(yb_ HB2.out).setCell (Nat.le_refl _) _⟩⟩
   have hlkz : ¬ (k : Int) < ((gb_ l0 i).length : Int) := by omega
   have hke : k = (gb_ l0 i).length := by omega
   have HM2 : Aside0 (Mat wr 75 g (kd_ l0 (i + 1) 0)) := ⟨by rw [← rm_, ← hke]; exact HM.out⟩
   clear hke h2
   generalize (gb_ l0 i).length = m at *
   go_wp2
   go_roundg (20 - (i + 1))
   case measure => omega
   case rel => exact ⟨i + 1, by omega, by omega, by go_num, HM2, HB2⟩
  have hltz : ¬ (i : Int) < 20 := by omega
  have hie : i = 20 := by omega
  subst hie
  have HM0 : Aside0 (Mat wr 75 g (matD (md_ l0) 0)) := ⟨HM.out.congr (fun a b ha _ => by simp [kd_, matD, ha])⟩
  clear HM HU1
  go_wp2
  go_loopg [8] 20 (fun gg s8 wr => ∃ k : Nat, k ≤ 20 ∧ 20 - k ≤ gg ∧ s8 = .int .i64 k ∧ Aside0 (Mat wr 75 g (matD (md_ l0) k)) ∧ Aside0 (Below g w1 wr))
  case atStart => exact ⟨0, by omega, by omega, rfl, HM0, HB2⟩
  clear HM0 HB2
  obtain ⟨k, hk, hgk, rfl, HM, HB2⟩ := hrel
  by_cases hk20 : k < 20
  ·have hk20z : (k : Int) < 20 := by omega
   have HM1 : Aside0 (Mat wr 75 g (ld_ (md_ l0) k 0 0)) := ⟨HM.out.congr (fun a b _ _ => by simp [ld_])⟩
   clear HM
   go_wp2
   go_loopg [9] 20 (fun gg s9 wr => ∃ i : Nat, i ≤ 20 ∧ 20 - i ≤ gg ∧ s9 = .int .i64 i ∧ Aside0 (Mat wr 75 g (ld_ (md_ l0) k i 0)) ∧ Aside0 (Below g w1 wr))
   case atStart => exact ⟨0, by omega, by omega, rfl, HM1, HB2⟩
   clear HM1 HB2
   obtain ⟨i, hi, hgi, rfl, HM, HB2⟩ := hrel
   by_cases hi20 : i < 20
   ·have hi20z : (i : Int) < 20 := by omega
    go_wp2
    go_loopg [10] 20 (fun gg s10 wr => ∃ j : Nat, j ≤ 20 ∧ 20 - j ≤ gg ∧ s10 = .int .i64 j ∧ Aside0 (Mat wr 75 g (ld_ (md_ l0) k i j)) ∧ Aside0 (Below g w1 wr))
    case atStart => exact ⟨0, by omega, by omega, rfl, HM, HB2⟩
    clear HM HB2
    obtain ⟨j, hj, hgj, rfl, HM, HB2⟩ := hrel
    by_cases hj20 : j < 20
    ·have hj20z : (j : Int) < 20 := by omega
     have m1 := HM.out.cell i j hi20 hj20
     have m2 := HM.out.cell i k hi20 hk20
     have m3 := HM.out.cell k j hk20 hj20
     have mf := HM.out.frozen (i * 20 + j)
     have HMS : ∀ v : Bool, v = (ld_ (md_ l0) k i j i j || (ld_ (md_ l0) k i j i k && ld_ (md_ l0) k i j k j)) → Mat (wr.setCell ⟨g, i * 20 + j, none⟩ (.bool v)) 75 g (ld_ (md_ l0) k i (j + 1)) := by
      intro v hv
      rw [← zu_, ← hv]
      exact HM.out.set i j v hi20 hj20
     generalize ld_ (md_ l0) k i j i j = x1 at *
     generalize ld_ (md_ l0) k i j i k = x2 at *
     generalize ld_ (md_ l0) k i j k j = x3 at *
     have HMT := Aside0.mk HMS
     clear HMS HM
     cases x1 with
     | true =>
      go_wp2
      go_region
      all_goals
       go_wp2
       go_roundg (20 - (j + 1))
       case measure => omega
       case rel => exact ⟨j + 1, by omega, by omega, by go_num, ⟨HMT.out true (by simp)⟩, ⟨(yb_ HB2.out).setCell (Nat.le_refl _) _⟩⟩
     | false =>
      cases x2 with
      | false =>
       go_wp2
       go_region
       all_goals
        go_wp2
        go_roundg (20 - (j + 1))
        case measure => omega
        case rel => exact ⟨j + 1, by omega, by omega, by go_num, ⟨HMT.out false (by simp)⟩, ⟨(yb_ HB2.out).setCell (Nat.le_refl _) _⟩⟩
      | true =>
       cases x3 with
       | false =>
        go_wp2
        go_region
        all_goals
         go_wp2
         go_roundg (20 - (j + 1))
         case measure => omega
         case rel => exact ⟨j + 1, by omega, by omega, by go_num, ⟨HMT.out false (by simp)⟩, ⟨(yb_ HB2.out).setCell (Nat.le_refl _) _⟩⟩
       | true =>
        go_wp2
        go_region
        all_goals
         go_wp2
         go_roundg (20 - (j + 1))
         case measure => omega
         case rel => exact ⟨j + 1, by omega, by omega, by go_num, ⟨HMT.out true (by simp)⟩, ⟨(yb_ HB2.out).setCell (Nat.le_refl _) _⟩⟩
    have hj20z : ¬ (j : Int) < 20 := by omega
    have hje : j = 20 := by omega
    have HM2 : Aside0 (Mat wr 75 g (ld_ (md_ l0) k (i + 1) 0)) := ⟨HM.out.congr (fun a b _ hb => by
     unfold ld_
     by_cases h : a < i ∨ (a = i ∧ b < j)
     ·rw [if_pos h, if_pos (by omega)]
     rw [if_neg h, if_neg (by omega)])⟩
    go_wp2
    go_roundg (20 - (i + 1))
    case measure => omega
    case rel => exact ⟨i + 1, by omega, by omega, by go_num, HM2, HB2⟩
   have hi20z : ¬ (i : Int) < 20 := by omega
   have HM2 : Aside0 (Mat wr 75 g (matD (md_ l0) (k + 1))) := ⟨HM.out.congr (fun a b ha _ => by
    unfold ld_
    rw [if_pos (by omega)])⟩
   go_wp2
   go_roundg (20 - (k + 1))
   case measure => omega
   case rel => exact ⟨k + 1, by omega, by omega, by go_num, HM2, HB2⟩
  have hk20z : ¬ (k : Int) < 20 := by omega
  have hke : k = 20 := by omega
  subst hke
  go_wp2
  go_loopg [11] 20 (fun gg s11 wr => ∃ i : Nat, i ≤ 20 ∧ 20 - i ≤ gg ∧ s11 = .int .i64 i ∧ Aside0 (Mat wr 75 g (matD (md_ l0) 20)) ∧ Aside0 (Below g w1 wr) ∧ Aside0 (∀ j, j < i → matD (md_ l0) 20 j j = false))
  case atStart => exact ⟨0, by omega, by omega, rfl, HM, HB2, ⟨fun j hj => absurd hj (Nat.not_lt_zero _)⟩⟩
  clear HM HB2
  obtain ⟨i, hi, hgi, rfl, HM, HB2, HA⟩ := hrel
  by_cases hi20 : i < 20
  ·have hi20z : (i : Int) < 20 := by omega
   have m1 := HM.out.cell i i hi20 hi20
   cases hd : matD (md_ l0) 20 i i with
   | true =>
    rw [hd] at m1
    have hz : bb_ l0 = false := by
     cases hc : bb_ l0 with
     | false => rfl
     | true =>
      have := HCM.out.1 hc i hi20
      rw [hd] at this
      cases this
    go_wp2
    go_ret
    exact ⟨qd_ hz.symm, HB1.out.trans (HB2.out.mono (by rw [← HG.out]; exact HB1.out.size))⟩
   | false =>
    rw [hd] at m1
    go_wp2
    go_roundg (20 - (i + 1))
    case measure => omega
    case rel =>
     refine ⟨i + 1, by omega, by omega, by go_num, HM, HB2, ⟨fun j hj => ?_⟩⟩
     by_cases e : j = i
     ·subst e; exact hd
     exact HA.out j (by omega)
  have hi20z : ¬ (i : Int) < 20 := by omega
  have hz : bb_ l0 = true := HCM.out.2 (fun j hj => HA.out j (by omega))
  go_wp2
  go_ret
  exact ⟨by first | rfl | exact qd_ hz.symm, HB1.out.trans (HB2.out.mono (by rw [← HG.out]; exact HB1.out.size))⟩
 have h60z : (l0.length : Int) > 60 := by omega
 have hz : bb_ l0 = false := by simp [bb_, h60]
 go_enter Tryz.func17, Tryz.ntmps17
 go_wp2
 go_ret
 exact ⟨qd_ hz.symm, Below.refl _ _⟩
theorem r4_Check.calls (A0 : Option Addr) (c0 : Nat) (l0 : List qa_) (r : Bool) (w : World) (hr0 : Kd.C k48 w A0 l0.length l0) (hc0 : l0.length ≤ c0) (h : r4_Check.f l0 = some r) :
  Calls Tryz.prog 17 #[.slice A0 l0.length c0] w fun e w' => e = .returned (.bool r) ∧ Below w.heap.size w w' := by
 obtain rfl := Option.some.inj h
 exact hn_ A0 c0 l0 w hr0 hc0
mutual
noncomputable def l4_Rules.l0 : Nat → List (S50) → Int → List (S48) → Int → Option ((List (S48)))
 | 0, _, _, _, _ => none
 | k + 1, x0, x1, x5, x6 => if x6 < (x0.length : Int) then (l4_Rules.j1 k x0 x1 x5 x6 (decide (x6 < 20))) else (l4_Rules.j1 k x0 x1 x5 x6 false)
noncomputable def l4_Rules.j1 : Nat → List (S50) → Int → List (S48) → Int → Bool → Option ((List (S48)))
 | 0, _, _, _, _, _ => none
 | k + 1, x0, x1, x5, x6, x15 => if x15 = true then ((some (([] : List (S48)) : List (S48))).bind fun y187 => (if y187.length + x5.length < 1954687338268 then ((some (y187 ++ x5 : List (S48))).bind fun y190 => (if 0 ≤ x6 then (if x6 < (x0.length : Int) then ((l4_Raw_Make.f k ((ta_ x0 x6).f0) ((ta_ x0 x6).f1) ((ta_ x0 x6).f2) ((ta_ x0 x6).f3) ((ta_ x0 x6).f4) x1).bind fun bt194 => (if y190.length < 1954687338268 then ((some (y190 ++ [(⟨bt194.1, bt194.2.1, (⟨bt194.2.2.1, bt194.2.2.2.1⟩ : S46), bt194.2.2.2.2⟩ : S48)] : List (S48))).bind fun y203 => ((r4_Check.f y203).bind fun t206 => (if t206 = true then (l4_Rules.l0 k x0 x1 y203 (wrap64 (x6 + 1))) else (l4_Rules.l0 k x0 x1 x5 (wrap64 (x6 + 1)))))) else (none))) else (none)) else (none))) else (none))) else (some x5)
end
noncomputable def l4_Rules.f (k : Nat) (l0 : List (S50)) (a1 : Int) : Option ((List (S48))) := l4_Rules.l0 k l0 a1 ([] : List (S48)) 0
def l4_Rules.T5 : Bool × List (List Nat × List Nat) := (true, [([], []), ([], []), ([0, 1], [0, 1]), ([], []), ([], []), ([3, 4], [3, 4]), ([5], [5]), ([], []), ([6, 7, 2], [6, 7]), ([8], [8]), ([2, 9, 8], [2, 9]), ([10, 10, 0, 1, 2, 3, 4, 5, 6, 7, 8, 9, 10], [10])])
def l4_Rules.B5 : List Nat := [0, 0, 3, 0, 0, 24, 56, 0, 255, 511, 1023, 2047]
theorem l4_Rules.tab5 : rtab .any (opsOf Tryz.f7 5) = l4_Rules.T5 := by kernel_rfl
theorem l4_Rules.bits5 : rf_ l4_Rules.T5.2 l4_Rules.B5 = true := by kernel_rfl
set_option maxHeartbeats 8000000 in
set_option maxRecDepth 100000 in
theorem l4_Rules.calls (k : Nat) (A0 : Option Addr) (c0 : Nat) (l0 : List (S50)) (a1 : Int) (r : List (S48)) (w : World) (hr0 : Kd.C k50 w A0 l0.length l0) (hc0 : l0.length ≤ c0) (h : l4_Rules.f k l0 a1 = some r) :
  Calls Tryz.prog 7 #[.slice A0 l0.length c0, .int .i64 a1] w fun e w' => ∃ v0_ : Value, e = .returned (v0_) ∧ Kd.N k48 48 w' w.heap.size (fun k_ => (w.heap.size ≤ k_)) v0_ r ∧ Below w.heap.size w w' := by
 have hu50 := Tryz.underlying50
 have HR0 := Aside0.mk hr0
 have HC0 := Aside0.mk hc0
 clear hr0 hc0
 have HB := Aside0.mk (Below.refl w.heap.size w)
 have H : (l4_Rules.l0 k l0 a1 ([] : List (S48)) 0) = some r := h
 clear h
 have H' := Aside0.mk H
 clear H
 go_enter Tryz.func7, Tryz.ntmps7
 go_wp2
 go_loopg [5, 6] k (fun kq v5 v6 w' => ∃ (x5_1 : List (S48)) (x6_1 : Int), v6 = .int .i64 x6_1 ∧ Aside0 (l4_Rules.l0 kq l0 a1 x5_1 x6_1 = some r) ∧ Aside0 (kq ≤ k) ∧ Aside0 (Kd.N k48 48 w' w.heap.size (fun k_ => (w.heap.size ≤ k_)) v5 x5_1) ∧ Aside0 (Below w.heap.size w w'))
 case atStart => exact ⟨(([] : List (S48))), (0), (by first | rfl | (simp; done) | (simp [*]; done)), H', ⟨Nat.le_refl _⟩, ⟨by first | exact Kd.S_nil _ _ _ _ _ | exact Kd.N_nil _ _ _ _ _ | exact Kd.V_nil _ _ _ _ _ | exact Kd.Q_nil _ _ _ _ _ | exact Kd.R_nil _ _ _ _ _⟩, ⟨by repeat (first | (with_reducible first | exact HB.out | apply ba_ | apply aa_ | apply da_) | exact HB.out)⟩⟩
 clear H'
 try clear p2
 obtain ⟨x5_1, x6_1, rfl, HA, HK1, HO_5, HB⟩ := hrel
 cases gk with
 | zero => exact absurd HA.out (by simp [l4_Rules.l0])
 | succ k1 =>
  have H := HA.out
  clear HA
  simp only [l4_Rules.l0] at H
  have HC3 := Aside0.mk H
  clear H
  go_upto_region 3 with (fail)
  go_cut [15] (fun v15 wc => ∃ (kq : Nat) (x15_2 : Bool), v15 = .bool x15_2 ∧ Aside0 (l4_Rules.j1 kq l0 a1 x5_1 x6_1 x15_2 = some r) ∧ Aside0 (kq ≤ k1) ∧ Aside0 (Kd.N k48 48 wc w.heap.size (fun k_ => (w.heap.size ≤ k_)) u5 x5_1) ∧ Aside0 (Below w.heap.size w wc))
  case first =>
   have H := HC3.out
   clear HC3
   by_cases c4 : x6_1 < (l0.length : Int)
   ·rw [if_pos c4] at H
    have c4b0 : decide (x6_1 < (l0.length : Int)) = true := decide_eq_true c4
    clear c4
    (first | rw [c4b0] | (simp only [ka_, la_]; rw [c4b0]) | skip)
    have H' := Aside0.mk H
    clear H
    go_wp2
    go_meet
    case rel => exact ⟨_, (decide (x6_1 < 20)), (by first | rfl | (simp; done) | (simp [*]; done)), H', ⟨by have := HK1.out; first | omega | exact Nat.le_refl _⟩, ⟨by (with_reducible repeat (first | apply Kd.N_alloc | apply Kd.N_drewN | apply Kd.N_drew)); exact HO_5.out⟩, ⟨by repeat (first | (with_reducible first | exact HB.out | apply ba_ | apply aa_ | apply da_) | exact HB.out)⟩⟩
   rw [if_neg c4] at H
   have c4b0 : decide (x6_1 < (l0.length : Int)) = false := decide_eq_false c4
   clear c4
   (first | rw [c4b0] | (simp only [ka_, la_]; rw [c4b0]) | skip)
   have H' := Aside0.mk H
   clear H
   go_wp2
   go_meet
   case rel => exact ⟨_, (false), (by first | rfl | (simp; done) | (simp [*]; done)), H', ⟨by have := HK1.out; first | omega | exact Nat.le_refl _⟩, ⟨by (with_reducible repeat (first | apply Kd.N_alloc | apply Kd.N_drewN | apply Kd.N_drew)); exact HO_5.out⟩, ⟨by repeat (first | (with_reducible first | exact HB.out | apply ba_ | apply aa_ | apply da_) | exact HB.out)⟩⟩
  clear HC3
  try clear p2
  try clear c4
  try clear c4b0
  try clear p2
  obtain ⟨kq, x15_2, rfl, HA, HJ2, HO_5, HB⟩ := hcut
  cases kq with
  | zero => exact absurd HA.out (by simp [l4_Rules.j1])
  | succ kj2 =>
   have H := HA.out
   clear HA
   simp only [l4_Rules.j1] at H
   by_cases c5 : x15_2 = true
   ·subst c5
    have H1 : ((some (([] : List (S48)) : List (S48))).bind fun y187 => (if y187.length + x5_1.length < 1954687338268 then ((some (y187 ++ x5_1 : List (S48))).bind fun y190 => (if 0 ≤ x6_1 then (if x6_1 < (l0.length : Int) then ((l4_Raw_Make.f kj2 ((ta_ l0 x6_1).f0) ((ta_ l0 x6_1).f1) ((ta_ l0 x6_1).f2) ((ta_ l0 x6_1).f3) ((ta_ l0 x6_1).f4) a1).bind fun bt194 => (if y190.length < 1954687338268 then ((some (y190 ++ [(⟨bt194.1, bt194.2.1, (⟨bt194.2.2.1, bt194.2.2.2.1⟩ : S46), bt194.2.2.2.2⟩ : S48)] : List (S48))).bind fun y203 => ((r4_Check.f y203).bind fun t206 => (if t206 = true then (l4_Rules.l0 kj2 l0 a1 y203 (wrap64 (x6_1 + 1))) else (l4_Rules.l0 kj2 l0 a1 x5_1 (wrap64 (x6_1 + 1)))))) else (none))) else (none)) else (none))) else (none))) = some r := by rw [if_pos rfl] at H; exact H
    clear H
    have H := H1
    clear H1
    obtain ⟨y187, hy187⟩ : ∃ y_ : List (S48), y_ = (([] : List (S48))) := ⟨_, rfl⟩
    replace H : (if y187.length + x5_1.length < 1954687338268 then ((some (y187 ++ x5_1 : List (S48))).bind fun y190 => (if 0 ≤ x6_1 then (if x6_1 < (l0.length : Int) then ((l4_Raw_Make.f kj2 ((ta_ l0 x6_1).f0) ((ta_ l0 x6_1).f1) ((ta_ l0 x6_1).f2) ((ta_ l0 x6_1).f3) ((ta_ l0 x6_1).f4) a1).bind fun bt194 => (if y190.length < 1954687338268 then ((some (y190 ++ [(⟨bt194.1, bt194.2.1, (⟨bt194.2.2.1, bt194.2.2.2.1⟩ : S46), bt194.2.2.2.2⟩ : S48)] : List (S48))).bind fun y203 => ((r4_Check.f y203).bind fun t206 => (if t206 = true then (l4_Rules.l0 kj2 l0 a1 y203 (wrap64 (x6_1 + 1))) else (l4_Rules.l0 kj2 l0 a1 x5_1 (wrap64 (x6_1 + 1)))))) else (none))) else (none)) else (none))) else (none)) = some r := by first | (rw [hy187]; with_reducible exact H) | (have H2_ := (Option.bind_some _ _).symm.trans H; rw [hy187]; with_reducible exact H2_) | (have H2_ := (Option.bind_some _ _).symm.trans H; with_reducible exact H2_) | with_reducible exact H | (rw [hy187]; exact H) | exact H
    have Ny187 := Aside0.mk hy187
    clear hy187
    by_cases c6 : y187.length + x5_1.length < 1954687338268
    ·rw [if_pos c6] at H
     have LMc6 := Aside0.mk c6
     clear c6
     obtain ⟨y190, hy190⟩ : ∃ y_ : List (S48), y_ = (y187 ++ x5_1) := ⟨_, rfl⟩
     replace H : (if 0 ≤ x6_1 then (if x6_1 < (l0.length : Int) then ((l4_Raw_Make.f kj2 ((ta_ l0 x6_1).f0) ((ta_ l0 x6_1).f1) ((ta_ l0 x6_1).f2) ((ta_ l0 x6_1).f3) ((ta_ l0 x6_1).f4) a1).bind fun bt194 => (if y190.length < 1954687338268 then ((some (y190 ++ [(⟨bt194.1, bt194.2.1, (⟨bt194.2.2.1, bt194.2.2.2.1⟩ : S46), bt194.2.2.2.2⟩ : S48)] : List (S48))).bind fun y203 => ((r4_Check.f y203).bind fun t206 => (if t206 = true then (l4_Rules.l0 kj2 l0 a1 y203 (wrap64 (x6_1 + 1))) else (l4_Rules.l0 kj2 l0 a1 x5_1 (wrap64 (x6_1 + 1)))))) else (none))) else (none)) else (none)) = some r := by first | (rw [hy190]; with_reducible exact H) | (have H2_ := (Option.bind_some _ _).symm.trans H; rw [hy190]; with_reducible exact H2_) | (have H2_ := (Option.bind_some _ _).symm.trans H; with_reducible exact H2_) | with_reducible exact H | (rw [hy190]; exact H) | exact H
     have Ny190 := Aside0.mk hy190
     clear hy190
     by_cases c7 : 0 ≤ x6_1
     ·rw [if_pos c7] at H
      have c7b0 : decide (0 ≤ x6_1) = true := decide_eq_true c7
      clear c7
      by_cases c8 : x6_1 < (l0.length : Int)
      ·rw [if_pos c8] at H
       have c8b0 : decide (x6_1 < (l0.length : Int)) = true := decide_eq_true c8
       clear c8
       replace H := Option.bind_eq_some_iff.mp H
       obtain ⟨⟨t194, t195, t198, t199, t202⟩, A90, H⟩ := H
       replace H : (if y190.length < 1954687338268 then ((some (y190 ++ [(⟨t194, t195, (⟨t198, t199⟩ : S46), t202⟩ : S48)] : List (S48))).bind fun y203 => ((r4_Check.f y203).bind fun t206 => (if t206 = true then (l4_Rules.l0 kj2 l0 a1 y203 (wrap64 (x6_1 + 1))) else (l4_Rules.l0 kj2 l0 a1 x5_1 (wrap64 (x6_1 + 1)))))) else (none)) = some r := H
       have A9 := Aside0.mk A90
       clear A90
       by_cases c10 : y190.length < 1954687338268
       ·rw [if_pos c10] at H
        have LMc10 := Aside0.mk c10
        clear c10
        obtain ⟨y203, hy203⟩ : ∃ y_ : List (S48), y_ = (y190 ++ [(⟨t194, t195, (⟨t198, t199⟩ : S46), t202⟩ : S48)]) := ⟨_, rfl⟩
        replace H : ((r4_Check.f y203).bind fun t206 => (if t206 = true then (l4_Rules.l0 kj2 l0 a1 y203 (wrap64 (x6_1 + 1))) else (l4_Rules.l0 kj2 l0 a1 x5_1 (wrap64 (x6_1 + 1))))) = some r := by first | (rw [hy203]; with_reducible exact H) | (have H2_ := (Option.bind_some _ _).symm.trans H; rw [hy203]; with_reducible exact H2_) | (have H2_ := (Option.bind_some _ _).symm.trans H; with_reducible exact H2_) | with_reducible exact H | (rw [hy203]; exact H) | exact H
        have Ny203 := Aside0.mk hy203
        clear hy203
        replace H := Option.bind_eq_some_iff.mp H
        obtain ⟨t206, A110, H⟩ := H
        replace H : (if t206 = true then (l4_Rules.l0 kj2 l0 a1 y203 (wrap64 (x6_1 + 1))) else (l4_Rules.l0 kj2 l0 a1 x5_1 (wrap64 (x6_1 + 1)))) = some r := H
        have A11 := Aside0.mk A110
        clear A110
        by_cases c12 : t206 = true
        ·subst c12
         have H1 : (l4_Rules.l0 kj2 l0 a1 y203 (wrap64 (x6_1 + 1))) = some r := by rw [if_pos rfl] at H; exact H
         clear H
         have H := H1
         clear H1
         have H' := Aside0.mk H
         clear H
         try go_wp2
         have n0_ := Aside0.mk (Kd.N_drew HO_5.out)
         have n1_ := Aside0.mk (da_ HB.out)
         clear HO_5
         clear HB
         have HO_5 := n0_
         have HB := n1_
         clear n0_ n1_
         have p193 : 0 ≤ (x6_1 : Int) := of_decide_eq_true (by first | (with_reducible assumption) | assumption)
         have q193 : x6_1 < (l0.length : Int) := of_decide_eq_true (by first | (with_reducible assumption) | assumption)
         obtain ⟨ad193, A193_3, c193_3, A193_4, c193_4, e193, hx193_0, hx193_1, hx193_2, hx193_3, hx193_4, hl193_3, hi193_3, hl193_4, hi193_4⟩ := ri_ HR0.out x6_1 p193 q193
         have hw193_4 := hx193_4
         have hw193_3 := hx193_3
         have hw193_2 := hx193_2
         have hw193_1 := hx193_1
         have hw193_0 := hx193_0
         cases e193
         replace hx193_0 := (HB.out.cell (World.block_lt_of_cell? w _ hx193_0)).trans hx193_0
         replace hx193_1 := (HB.out.cell (World.block_lt_of_cell? w _ hx193_1)).trans hx193_1
         replace hx193_2 := (HB.out.cell (World.block_lt_of_cell? w _ hx193_2)).trans hx193_2
         replace hx193_3 := (HB.out.cell (World.block_lt_of_cell? w _ hx193_3)).trans hx193_3
         replace hx193_4 := (HB.out.cell (World.block_lt_of_cell? w _ hx193_4)).trans hx193_4
         have HR193_3 := Aside0.mk hi193_3
         have HC193_3 := Aside0.mk hl193_3
         clear hi193_3 hl193_3
         have HR193_4 := Aside0.mk hi193_4
         have HC193_4 := Aside0.mk hl193_4
         clear hi193_4 hl193_4
         replace p193 := eq_true p193
         replace q193 := eq_true q193
         refine td_ (n := 12) (S := fun w' => w'.cell? (ad193.add ((x6_1).toNat * 5)) = some (.int .i64 ((ta_ l0 x6_1).f0)) ∧ w'.cell? ⟨(ad193.add ((x6_1).toNat * 5)).block, (ad193.add ((x6_1).toNat * 5)).off + 1, none⟩ = some (.int .i64 ((ta_ l0 x6_1).f1)) ∧ w'.cell? ⟨(ad193.add ((x6_1).toNat * 5)).block, (ad193.add ((x6_1).toNat * 5)).off + 2, none⟩ = some (.int .i64 ((ta_ l0 x6_1).f2)) ∧ w'.cell? ⟨(ad193.add ((x6_1).toNat * 5)).block, (ad193.add ((x6_1).toNat * 5)).off + 3, none⟩ = some (.slice A193_3 ((ta_ l0 x6_1).f3).length c193_3) ∧ w'.cell? ⟨(ad193.add ((x6_1).toNat * 5)).block, (ad193.add ((x6_1).toNat * 5)).off + 4, none⟩ = some (.slice A193_4 ((ta_ l0 x6_1).f4).length c193_4)) (ds := []) (f_ 12 0) (by kernel_rfl) rfl rfl ⟨((HB.out.cell (World.block_lt_of_cell? w _ hw193_0)).trans hw193_0), ((HB.out.cell (World.block_lt_of_cell? w _ hw193_1)).trans hw193_1), ((HB.out.cell (World.block_lt_of_cell? w _ hw193_2)).trans hw193_2), ((HB.out.cell (World.block_lt_of_cell? w _ hw193_3)).trans hw193_3), ((HB.out.cell (World.block_lt_of_cell? w _ hw193_4)).trans hw193_4)⟩ (fun hHeld => ?_); refine gf_ l4_Rules.tab5 l4_Rules.bits5 (fun HT_ HW_ => ?_)
         generalize wc.drew = w13 at HO_5 HB HR193_3 HR193_4 hx193_0 hx193_1 hx193_2 hx193_3 hx193_4 hHeld ⊢
         refine oa_ (i := 1) (N := some 19) (v := ?_) (a' := ?_) #[false, true, false, false, false, false, false, false, false, false, false, false] rfl rfl (jb_ HT_.out (by kernel_rfl)) (fun _ _ _ h => h) (Or.inl ⟨by rfl, ?_⟩) ?_ ?_
         rotate_left
         ·intro w'
          go_simp
          with_reducible rfl
         rotate_left
         ·simp only [Act.put, s1_, s2_, s3_, ka_, la_]
          rfl
         refine oa_ (i := 3) (N := some 21) (v := ?_) (a' := ?_) #[false, true, false, true, false, false, false, false, false, false, false, false] rfl rfl (jb_ HT_.out (by kernel_rfl)) (fun _ _ _ h => h) (Or.inl ⟨by rfl, ?_⟩) ?_ ?_
         rotate_left
         ·intro w'
          go_simp
          with_reducible rfl
         rotate_left
         ·simp only [Act.put, s1_, s2_, s3_, ka_, la_]
          rfl
         refine oa_ (i := 4) (N := some 22) (v := ?_) (a' := ?_) #[false, true, false, true, true, false, false, false, false, false, false, false] rfl rfl (jb_ HT_.out (by kernel_rfl)) (fun _ _ _ h => h) (Or.inl ⟨by rfl, ?_⟩) ?_ ?_
         rotate_left
         ·intro w'
          go_simp
          with_reducible rfl
         rotate_left
         ·simp only [Act.put, s1_, s2_, s3_, ka_, la_]
          rfl
         refine oa_ (i := 5) (N := some 23) (v := ?_) (a' := ?_) #[false, true, false, true, true, true, false, false, false, false, false, false] rfl rfl (jb_ HT_.out (by kernel_rfl)) (fun _ _ _ h => h) (Or.inl ⟨by rfl, ?_⟩) ?_ ?_
         rotate_left
         ·intro w'
          go_simp
          with_reducible rfl
         rotate_left
         ·simp only [Act.put, s1_, s2_, s3_, ka_, la_]
          rfl
         refine oa_ (i := 7) (N := some 25) (v := ?_) (a' := ?_) #[false, true, false, true, true, true, false, true, false, false, false, false] rfl rfl (jb_ HT_.out (by kernel_rfl)) (fun _ _ _ h => h) (Or.inl ⟨by rfl, ?_⟩) ?_ ?_
         rotate_left
         ·intro w'
          go_simp
          with_reducible rfl
         rotate_left
         ·simp only [Act.put, s1_, s2_, s3_, ka_, la_]
          rfl
         refine take_ (i := 6) (N := some 24) (v := ?_) (a' := ?_) #[false, true, false, true, true, true, true, true, false, false, false, false] rfl rfl (yd_ HT_.out HW_.out (by kernel_rfl)) (fun _ _ _ h => h) (Or.inl ⟨by rfl, ?_⟩) hHeld ?_ ?_
         rotate_left
         ·rintro w' ⟨s0, s1, s2, s3, s4⟩
          go_simp
          with_reducible rfl
         rotate_left
         ·simp only [Act.put, s1_, s2_, s3_, ka_, la_]
          rfl
         refine one_ (i := 0) (N := some 18) #[true, true, false, true, true, true, true, true, false, false, false, false] rfl rfl (lc_ HT_.out (by kernel_rfl)) (by decide) (fun K hK => ?_)
         refine Kd.N_lit_step k48 _ 48 ?hg (N' := 18) ?hd (xs := ([] : List (S48))) (inner := []) (ok := (fun k_ => (w.heap.size ≤ k_) ∧ some k_ ≠ (u5 : Value).ownBlock)) (okp := (fun k_ => (w.heap.size ≤ k_) ∧ some k_ ≠ (u5 : Value).ownBlock)) ?hr ?hp (fun _ hk => hk) ((show ∀ k_, w13.heap.size ≤ k_ → (fun k_ => (w.heap.size ≤ k_) ∧ some k_ ≠ (u5 : Value).ownBlock) k_ from fun k_ hk => ⟨(Nat.le_trans (na_ (by repeat (first | (with_reducible first | exact HB.out | apply ba_ | apply aa_ | apply da_) | exact HB.out))) hk), Kd.fresh' (Kd.N_lt (by (with_reducible repeat (first | apply Kd.N_alloc | apply Kd.N_drewN | apply Kd.N_drew)); exact HO_5.out)) k_ hk⟩) _ (Nat.le_refl _)) (Below.refl _ _) (Nat.le_refl _) (by simp) ?_; (case hd => rfl); (case hg => rfl); (case hr => first | (go_simp; done) | (go_simp; rfl)); (case hp => exact (Reps.none _ _))
         intro v188 w14 ho15 hb hg_ hnew_
         clear hg_ hnew_
         (first | rw [← Ny187.out] at ho15 | (simp only [Int.reduceToNat] at ho15; rw [← Ny187.out] at ho15))
         have n0_ := Aside0.mk (Kd.N_elder' (by (with_reducible repeat (first | apply Kd.N_alloc | apply Kd.N_drewN | apply Kd.N_drew)); exact HO_5.out) (Kd.N_base ho15) hb)
         have n1_ := Aside0.mk (Kd.N_lower ho15 (na_ (by repeat (first | (with_reducible first | exact HB.out | apply ba_ | apply aa_ | apply da_) | exact HB.out))))
         have n2_ := Aside0.mk (ma_ (by repeat (first | (with_reducible first | exact HB.out | apply ba_ | apply aa_ | apply da_) | exact HB.out)) hb)
         clear HO_5
         clear HB
         have HO_5 := n0_
         have HO189 := n1_
         have HB := n2_
         clear n0_ n1_ n2_
         clear hb ho15
         obtain ⟨Ao17, co17, eo17⟩ := Kd.N_slice HO_5.out
         (first | subst eo17 | (injection eo17 with f1_ f2_ f3_; have f4_ := f1_.symm; have f5_ := f3_.symm; clear f1_ f2_ f3_; subst f4_; subst f5_))
         refine hK.out _ _ ⟨((HB.out.cell (World.block_lt_of_cell? w _ hw193_0)).trans hw193_0), ((HB.out.cell (World.block_lt_of_cell? w _ hw193_1)).trans hw193_1), ((HB.out.cell (World.block_lt_of_cell? w _ hw193_2)).trans hw193_2), ((HB.out.cell (World.block_lt_of_cell? w _ hw193_3)).trans hw193_3), ((HB.out.cell (World.block_lt_of_cell? w _ hw193_4)).trans hw193_4)⟩ (fun hHeld => ?_)
         clear hK K
         refine ab_ (a' := ?_) ?_ ?_
         rotate_left
         ·show Act.put _ (some 18) _ = _
          simp only [Act.put, s1_, s2_, s3_, ka_, la_]
          rfl
         refine one_ (i := 2) (N := some 20) (f_ 12 8) rfl rfl (lc_ HT_.out (by kernel_rfl)) (by decide) (fun K hK => ?_)
         refine Kd.N_append_rows_step k48 (w0 := w) w.heap.size (by rfl) (.tmp 18) (.tmp 19) 26 48 (.agg #[(.int .i64 0), (.slice none 0 0), (.int .i64 0), (.slice none 0 0), (.int .i64 0)]) 72 rfl Tryz.underlying26 jp_ rfl (by decide) (by omega) v188 y187 x5_1 _ _ _ (fun k_ => (w.heap.size ≤ k_)) (fun k_ => ((fun k_ => (w.heap.size ≤ k_))) k_ ∧ some k_ ≠ (v188 : Value).ownBlock) rfl rfl ?aO ?aR (fun _ hk => hk) ?aF ?aB ?aS ?aL ?_
         (case aR => exact (by skip; exact Kd.N_F (Kd.N_mono (ok' := (fun k_ => ((fun k_ => (w.heap.size ≤ k_))) k_ ∧ some k_ ≠ (v188 : Value).ownBlock)) (HO_5.out) (fun k_ hk => ⟨hk.1, hk.2⟩))))
         (case aB => exact (by repeat (first | (with_reducible first | exact HB.out | apply ba_ | apply aa_ | apply da_) | exact HB.out)))
         (case aF => exact (fun k_ hk => (Nat.le_trans (na_ (by repeat (first | (with_reducible first | exact HB.out | apply ba_ | apply aa_ | apply da_) | exact HB.out))) hk)))
         (case aO => exact (by (with_reducible repeat (first | apply Kd.N_alloc | apply Kd.N_drewN | apply Kd.N_drew)); exact Kd.N_mono HO189.out (fun _ hk => hk.1)))
         (case aS => exact (na_ (by repeat (first | (with_reducible first | exact HB.out | apply ba_ | apply aa_ | apply da_) | exact HB.out))))
         (case aL => have := LMc6.out; omega)
         intro v191 w16 ho hb hg hat
         rw [← Ny190.out] at ho
         have n0_ := Aside0.mk (Kd.N_afterv (ok := (fun k_ => (w.heap.size ≤ k_))) (by (with_reducible repeat (first | apply Kd.N_alloc | apply Kd.N_drewN | apply Kd.N_drew)); exact HO_5.out) hg hat)
         have n1_ := Aside0.mk (hb)
         have n2_ := Aside0.mk (ho)
         clear HO_5
         clear HB
         clear HO189
         have HO_5 := n0_
         have HB := n1_
         have HO192 := n2_
         clear n0_ n1_ n2_
         clear ho hb hg hat
         refine hK.out _ _ ⟨((HB.out.cell (World.block_lt_of_cell? w _ hw193_0)).trans hw193_0), ((HB.out.cell (World.block_lt_of_cell? w _ hw193_1)).trans hw193_1), ((HB.out.cell (World.block_lt_of_cell? w _ hw193_2)).trans hw193_2), ((HB.out.cell (World.block_lt_of_cell? w _ hw193_3)).trans hw193_3), ((HB.out.cell (World.block_lt_of_cell? w _ hw193_4)).trans hw193_4)⟩ (fun hHeld => ?_)
         clear hK K
         refine ab_ (a' := ?_) ?_ ?_
         rotate_left
         ·show Act.put _ (some 20) _ = _
          simp only [Act.put, s1_, s2_, s3_, ka_, la_]
          rfl
         refine one_ (i := 8) (N := some 26) (f_ 12 9) rfl rfl (lc_ HT_.out (by kernel_rfl)) (by decide) (fun K hK => ?_)
         refine id_ Tryz.func16 (by kernel_rfl) rfl #[.agg #[.int .i64 ((ta_ l0 x6_1).f0), .int .i64 ((ta_ l0 x6_1).f1), .int .i64 ((ta_ l0 x6_1).f2), .slice A193_3 ((ta_ l0 x6_1).f3).length c193_3, .slice A193_4 ((ta_ l0 x6_1).f4).length c193_4], .int .i64 a1] (by rfl) rfl rfl (by (try simp only [List.map_toArray, List.map_cons, List.map_nil]); first | done | rfl | (simp only [List.length_drop, List.length_take]; rfl)) ?_
         with_reducible refine (l4_Raw_Make.calls kj2 ((ta_ l0 x6_1).f0) ((ta_ l0 x6_1).f1) ((ta_ l0 x6_1).f2) _ _ ((ta_ l0 x6_1).f3) _ _ ((ta_ l0 x6_1).f4) a1 t194 t195 t198 t199 t202 _ ?side1 ?side2 ?side3 ?side4 A9.out).mono ?_
         (case side1 => repeat (first | exact (Kd.C_below HR193_3.out HB.out) | (with_reducible refine Kd.C_alloc ?_ _) | (with_reducible refine Kd.C_drewN ?_ _) | (with_reducible refine Kd.C_drew ?_)))
         (case side2 => exact HC193_3.out)
         (case side3 => repeat (first | exact (Kd.C_below HR193_4.out HB.out) | (with_reducible refine Kd.C_alloc ?_ _) | (with_reducible refine Kd.C_drewN ?_ _) | (with_reducible refine Kd.C_drew ?_)))
         (case side4 => exact HC193_4.out)
         rintro e w18 ⟨v196, v200, rfl, ho0, ho1, hb⟩
         refine ⟨_, rfl, ?_⟩
         have n0_ := Aside0.mk (Kd.N_mono (Kd.N_told (Kd.N_told (Kd.N_old (by (with_reducible repeat (first | apply Kd.N_alloc | apply Kd.N_drewN | apply Kd.N_drew)); exact HO_5.out) hb) (Kd.R_base ho0)) (Kd.R_base ho1)) (fun _ h_ => h_.1))
         have n1_ := Aside0.mk (Kd.N_mono (Kd.N_told (Kd.N_told (Kd.N_old (by (with_reducible repeat (first | apply Kd.N_alloc | apply Kd.N_drewN | apply Kd.N_drew)); exact HO192.out) hb) (Kd.R_base ho0)) (Kd.R_base ho1)) (fun _ h_ => h_.1))
         have n2_ := Aside0.mk (Kd.R_lower (Kd.R_newM (M := fun k_ => (w.heap.size ≤ k_)) ho0 (na_ (by repeat (first | (with_reducible first | exact HB.out | apply ba_ | apply aa_ | apply da_) | exact HB.out))) (fun k_ h_ => h_)) (na_ (by repeat (first | (with_reducible first | exact HB.out | apply ba_ | apply aa_ | apply da_) | exact HB.out))))
         have n3_ := Aside0.mk (Kd.R_lower (Kd.R_newM (M := fun k_ => (w.heap.size ≤ k_)) ho1 (na_ (by repeat (first | (with_reducible first | exact HB.out | apply ba_ | apply aa_ | apply da_) | exact HB.out))) (fun k_ h_ => h_)) (na_ (by repeat (first | (with_reducible first | exact HB.out | apply ba_ | apply aa_ | apply da_) | exact HB.out))))
         have n4_ := Aside0.mk (ma_ (by repeat (first | (with_reducible first | exact HB.out | apply ba_ | apply aa_ | apply da_) | exact HB.out)) hb)
         clear HO_5
         clear HO192
         clear HB
         have HO_5 := n0_
         have HO192 := n1_
         have HO197 := n2_
         have HO201 := n3_
         have HB := n4_
         clear n0_ n1_ n2_ n3_ n4_
         (try clear hb)
         (try clear hb2)
         (try clear hk)
         (try clear hi)
         (try clear ho0)
         (try clear ho1)
         obtain ⟨Ao20, co20, eo20⟩ := Kd.R_slice HO197.out
         (first | subst eo20 | (injection eo20 with f1_ f2_ f3_; have f4_ := f1_.symm; have f5_ := f3_.symm; clear f1_ f2_ f3_; subst f4_; subst f5_))
         obtain ⟨Ao21, co21, eo21⟩ := Kd.R_slice HO201.out
         (first | subst eo21 | (injection eo21 with f1_ f2_ f3_; have f4_ := f1_.symm; have f5_ := f3_.symm; clear f1_ f2_ f3_; subst f4_; subst f5_))
         refine hK.out _ _ ⟨((HB.out.cell (World.block_lt_of_cell? w _ hw193_0)).trans hw193_0), ((HB.out.cell (World.block_lt_of_cell? w _ hw193_1)).trans hw193_1), ((HB.out.cell (World.block_lt_of_cell? w _ hw193_2)).trans hw193_2), ((HB.out.cell (World.block_lt_of_cell? w _ hw193_3)).trans hw193_3), ((HB.out.cell (World.block_lt_of_cell? w _ hw193_4)).trans hw193_4)⟩ (fun hHeld => ?_)
         clear hK K
         refine ab_ (a' := ?_) ?_ ?_
         rotate_left
         ·show Act.put _ (some 26) _ = _
          simp only [Act.put, s1_, s2_, s3_, ka_, la_]
          rfl
         refine one_ (i := 9) (N := some 27) (f_ 12 10) rfl rfl (lc_ HT_.out (by kernel_rfl)) (by decide) (fun K hK => ?_)
         refine re_ (w1 := ?_) (v := ?_) (by rfl) rfl ?_ ?_
         rotate_left 2
         ·go_simp
          constructor
          ·rfl
          rfl
         refine hK.out _ _ ⟨(World.cell?_alloc_lt _ _ _ (World.block_lt_of_cell? _ _ (((HB.out.cell (World.block_lt_of_cell? w _ hw193_0)).trans hw193_0)))).trans (((HB.out.cell (World.block_lt_of_cell? w _ hw193_0)).trans hw193_0)), (World.cell?_alloc_lt _ _ _ (World.block_lt_of_cell? _ _ (((HB.out.cell (World.block_lt_of_cell? w _ hw193_1)).trans hw193_1)))).trans (((HB.out.cell (World.block_lt_of_cell? w _ hw193_1)).trans hw193_1)), (World.cell?_alloc_lt _ _ _ (World.block_lt_of_cell? _ _ (((HB.out.cell (World.block_lt_of_cell? w _ hw193_2)).trans hw193_2)))).trans (((HB.out.cell (World.block_lt_of_cell? w _ hw193_2)).trans hw193_2)), (World.cell?_alloc_lt _ _ _ (World.block_lt_of_cell? _ _ (((HB.out.cell (World.block_lt_of_cell? w _ hw193_3)).trans hw193_3)))).trans (((HB.out.cell (World.block_lt_of_cell? w _ hw193_3)).trans hw193_3)), (World.cell?_alloc_lt _ _ _ (World.block_lt_of_cell? _ _ (((HB.out.cell (World.block_lt_of_cell? w _ hw193_4)).trans hw193_4)))).trans (((HB.out.cell (World.block_lt_of_cell? w _ hw193_4)).trans hw193_4))⟩ (fun hHeld => ?_)
         clear hK K
         refine ab_ (a' := ?_) ?_ ?_
         rotate_left
         ·show Act.put _ (some 27) _ = _
          simp only [Act.put, s1_, s2_, s3_, ka_, la_]
          rfl
         refine one_ (i := 10) (N := some 28) (f_ 12 11) rfl rfl (lc_ HT_.out (by kernel_rfl)) (by decide) (fun K hK => ?_)
         refine Kd.N_append_step k48 (w0 := w) w.heap.size (by rfl) (.tmp 20) (.tmp 27) 26 48 (.agg #[(.int .i64 0), (.slice none 0 0), (.int .i64 0), (.slice none 0 0), (.int .i64 0)]) 72 rfl Tryz.underlying26 jp_ rfl (by decide) (by omega) v191 y190 (⟨t194, t195, (⟨t198, t199⟩ : S46), t202⟩ : S48) [.int .i64 t194, .slice Ao20 t195.length co20, .int .i64 t198, .slice Ao21 t199.length co21, .int .i64 t202] (fun k_ => (w.heap.size ≤ k_)) (fun k_ => ((fun k_ => (w.heap.size ≤ k_))) k_ ∧ some k_ ≠ (v191 : Value).ownBlock) rfl rfl ?aP (fun _ hk => hk) ?aF ?aO ?aB ?aS ?aL ?_
         (case aP => exact (we_ _ _ (⟨t194, t195, (⟨t198, t199⟩ : S46), t202⟩ : S48) (Kd.R_reads' (Kd.R_mono (ok' := (fun k_ => ((fun k_ => (w.heap.size ≤ k_))) k_ ∧ some k_ ≠ (v191 : Value).ownBlock)) (Kd.R_apart' (HO197.out) (Kd.N_typed HO192.out) (by decide)) (fun k_ hk => ⟨hk.1.1, hk.2⟩))).2.1 (Kd.R_F (Kd.R_mono (ok' := (fun k_ => ((fun k_ => (w.heap.size ≤ k_))) k_ ∧ some k_ ≠ (v191 : Value).ownBlock)) (Kd.R_apart' (HO197.out) (Kd.N_typed HO192.out) (by decide)) (fun k_ hk => ⟨hk.1.1, hk.2⟩))) (Kd.R_reads' (Kd.R_mono (ok' := (fun k_ => ((fun k_ => (w.heap.size ≤ k_))) k_ ∧ some k_ ≠ (v191 : Value).ownBlock)) (Kd.R_apart' (HO201.out) (Kd.N_typed HO192.out) (by decide)) (fun k_ hk => ⟨hk.1.1, hk.2⟩))).2.1 (Kd.R_F (Kd.R_mono (ok' := (fun k_ => ((fun k_ => (w.heap.size ≤ k_))) k_ ∧ some k_ ≠ (v191 : Value).ownBlock)) (Kd.R_apart' (HO201.out) (Kd.N_typed HO192.out) (by decide)) (fun k_ hk => ⟨hk.1.1, hk.2⟩)))))
         (case aB => exact (by repeat (first | (with_reducible first | exact HB.out | apply ba_ | apply aa_ | apply da_) | exact HB.out)))
         (case aF => exact (fun k_ hk => (Nat.le_trans (na_ (by repeat (first | (with_reducible first | exact HB.out | apply ba_ | apply aa_ | apply da_) | exact HB.out))) hk)))
         (case aO => exact (by (with_reducible repeat (first | apply Kd.N_alloc | apply Kd.N_drewN | apply Kd.N_drew)); exact Kd.N_mono HO192.out (fun _ hk => hk.1.1)))
         (case aS => exact (na_ (by repeat (first | (with_reducible first | exact HB.out | apply ba_ | apply aa_ | apply da_) | exact HB.out))))
         (case aL => have := LMc10.out; omega)
         intro v204 w19 ho hb hg hat
         rw [← Ny203.out] at ho
         have n0_ := Aside0.mk (Kd.N_afterv (ok := (fun k_ => (w.heap.size ≤ k_) ∧ some k_ ≠ (.slice Ao20 t195.length co20 : Value).ownBlock ∧ some k_ ≠ (.slice Ao21 t199.length co21 : Value).ownBlock)) (by (with_reducible repeat (first | apply Kd.N_alloc | apply Kd.N_drewN | apply Kd.N_drew)); exact Kd.N_mono HO_5.out (fun _ hk => ⟨⟨hk.1.1.1, ⟨hk.1.2, hk.2⟩⟩, hk.1.1.2⟩)) hg hat)
         have n1_ := Aside0.mk (hb)
         have n2_ := Aside0.mk (ho)
         clear HO_5
         clear HB
         clear HO192
         clear HO197
         clear HO201
         have HO_5 := n0_
         have HB := n1_
         have HO205 := n2_
         clear n0_ n1_ n2_
         clear ho hb hg hat
         refine hK.out _ _ ⟨((HB.out.cell (World.block_lt_of_cell? w _ hw193_0)).trans hw193_0), ((HB.out.cell (World.block_lt_of_cell? w _ hw193_1)).trans hw193_1), ((HB.out.cell (World.block_lt_of_cell? w _ hw193_2)).trans hw193_2), ((HB.out.cell (World.block_lt_of_cell? w _ hw193_3)).trans hw193_3), ((HB.out.cell (World.block_lt_of_cell? w _ hw193_4)).trans hw193_4)⟩ (fun hHeld => ?_)
         clear hK K
         refine ab_ (a' := ?_) ?_ ?_
         rotate_left
         ·show Act.put _ (some 28) _ = _
          simp only [Act.put, s1_, s2_, s3_, ka_, la_]
          rfl
         refine oa_ (i := 11) (N := some 7) (v := ?_) (a' := ?_) (f_ 12 12) rfl rfl (jb_ HT_.out (by kernel_rfl)) (fun _ _ _ h => h) (Or.inl ⟨by rfl, ?_⟩) ?_ ?_
         rotate_left
         ·intro w'
          go_simp
          with_reducible rfl
         rotate_left
         ·simp only [Act.put, s1_, s2_, s3_, ka_, la_]
          rfl
         refine ie_ (vh_ HT_.out (by kernel_rfl)) ?_
         obtain ⟨Ao22, co22, eo22⟩ := Kd.N_slice HO205.out
         subst eo22
         try go_wp2_with (first | ((with_reducible refine pa_ (f := 17) rfl ?_); refine rb_ (some 30) rfl rfl Tryz.func17 (by kernel_rfl) rfl #[.slice Ao22 y203.length co22] rfl (by (try simp only [List.map_toArray, List.map_cons, List.map_nil]); first | done | rfl | (simp only [List.length_drop, List.length_take]; rfl)) ?_; (with_reducible refine (r4_Check.calls _ _ y203 true _ ?side1 ?side2 A11.out).mono ?_); (case side1 => repeat (first | exact (Kd.N_reads' HO205.out).2.2 | (with_reducible refine Kd.C_alloc ?_ _) | (with_reducible refine Kd.C_drewN ?_ _) | (with_reducible refine Kd.C_drew ?_))); (case side2 => exact (Kd.N_reads' HO205.out).2.1); rintro e w23 ⟨rfl, hb⟩; refine ⟨_, rfl, ?_⟩; have n0_ := Aside0.mk (Kd.N_below (by (with_reducible repeat (first | apply Kd.N_alloc | apply Kd.N_drewN | apply Kd.N_drew)); exact HO_5.out) hb); have n1_ := Aside0.mk (Kd.N_below (by (with_reducible repeat (first | apply Kd.N_alloc | apply Kd.N_drewN | apply Kd.N_drew)); exact HO205.out) hb); have n2_ := Aside0.mk (ma_ (by repeat (first | (with_reducible first | exact HB.out | apply ba_ | apply aa_ | apply da_) | exact HB.out)) hb); clear HO_5; clear HO205; clear HB; have HO_5 := n0_; have HO205 := n1_; have HB := n2_; clear n0_ n1_ n2_; (try clear hb); (try clear hb2); (try clear hk); (try clear hi)))
         go_roundg kj2
         case measure => have := HK1.out; have := HJ2.out; omega
         case rel => exact ⟨(y203), (wrap64 (x6_1 + 1)), (by first | rfl | (simp; done) | (simp [*]; done)), H', ⟨by have := HK1.out; have := HJ2.out; omega⟩, ⟨by (with_reducible repeat (first | apply Kd.N_alloc | apply Kd.N_drewN | apply Kd.N_drew)); exact HO205.out⟩, ⟨by repeat (first | (with_reducible first | exact HB.out | apply ba_ | apply aa_ | apply da_) | exact HB.out)⟩⟩
        replace c12 := Bool.eq_false_iff.mpr c12
        subst c12
        have H1 : (l4_Rules.l0 kj2 l0 a1 x5_1 (wrap64 (x6_1 + 1))) = some r := by rw [if_neg (show ¬ (false = true) by decide)] at H; exact H
        clear H
        have H := H1
        clear H1
        have H' := Aside0.mk H
        clear H
        try go_wp2
        have n0_ := Aside0.mk (Kd.N_drew HO_5.out)
        have n1_ := Aside0.mk (da_ HB.out)
        clear HO_5
        clear HB
        have HO_5 := n0_
        have HB := n1_
        clear n0_ n1_
        have p193 : 0 ≤ (x6_1 : Int) := of_decide_eq_true (by first | (with_reducible assumption) | assumption)
        have q193 : x6_1 < (l0.length : Int) := of_decide_eq_true (by first | (with_reducible assumption) | assumption)
        obtain ⟨ad193, A193_3, c193_3, A193_4, c193_4, e193, hx193_0, hx193_1, hx193_2, hx193_3, hx193_4, hl193_3, hi193_3, hl193_4, hi193_4⟩ := ri_ HR0.out x6_1 p193 q193
        have hw193_4 := hx193_4
        have hw193_3 := hx193_3
        have hw193_2 := hx193_2
        have hw193_1 := hx193_1
        have hw193_0 := hx193_0
        cases e193
        replace hx193_0 := (HB.out.cell (World.block_lt_of_cell? w _ hx193_0)).trans hx193_0
        replace hx193_1 := (HB.out.cell (World.block_lt_of_cell? w _ hx193_1)).trans hx193_1
        replace hx193_2 := (HB.out.cell (World.block_lt_of_cell? w _ hx193_2)).trans hx193_2
        replace hx193_3 := (HB.out.cell (World.block_lt_of_cell? w _ hx193_3)).trans hx193_3
        replace hx193_4 := (HB.out.cell (World.block_lt_of_cell? w _ hx193_4)).trans hx193_4
        have HR193_3 := Aside0.mk hi193_3
        have HC193_3 := Aside0.mk hl193_3
        clear hi193_3 hl193_3
        have HR193_4 := Aside0.mk hi193_4
        have HC193_4 := Aside0.mk hl193_4
        clear hi193_4 hl193_4
        replace p193 := eq_true p193
        replace q193 := eq_true q193
        refine td_ (n := 12) (S := fun w' => w'.cell? (ad193.add ((x6_1).toNat * 5)) = some (.int .i64 ((ta_ l0 x6_1).f0)) ∧ w'.cell? ⟨(ad193.add ((x6_1).toNat * 5)).block, (ad193.add ((x6_1).toNat * 5)).off + 1, none⟩ = some (.int .i64 ((ta_ l0 x6_1).f1)) ∧ w'.cell? ⟨(ad193.add ((x6_1).toNat * 5)).block, (ad193.add ((x6_1).toNat * 5)).off + 2, none⟩ = some (.int .i64 ((ta_ l0 x6_1).f2)) ∧ w'.cell? ⟨(ad193.add ((x6_1).toNat * 5)).block, (ad193.add ((x6_1).toNat * 5)).off + 3, none⟩ = some (.slice A193_3 ((ta_ l0 x6_1).f3).length c193_3) ∧ w'.cell? ⟨(ad193.add ((x6_1).toNat * 5)).block, (ad193.add ((x6_1).toNat * 5)).off + 4, none⟩ = some (.slice A193_4 ((ta_ l0 x6_1).f4).length c193_4)) (ds := []) (f_ 12 0) (by kernel_rfl) rfl rfl ⟨((HB.out.cell (World.block_lt_of_cell? w _ hw193_0)).trans hw193_0), ((HB.out.cell (World.block_lt_of_cell? w _ hw193_1)).trans hw193_1), ((HB.out.cell (World.block_lt_of_cell? w _ hw193_2)).trans hw193_2), ((HB.out.cell (World.block_lt_of_cell? w _ hw193_3)).trans hw193_3), ((HB.out.cell (World.block_lt_of_cell? w _ hw193_4)).trans hw193_4)⟩ (fun hHeld => ?_); refine gf_ l4_Rules.tab5 l4_Rules.bits5 (fun HT_ HW_ => ?_)
        generalize wc.drew = w24 at HO_5 HB HR193_3 HR193_4 hx193_0 hx193_1 hx193_2 hx193_3 hx193_4 hHeld ⊢
        refine oa_ (i := 1) (N := some 19) (v := ?_) (a' := ?_) #[false, true, false, false, false, false, false, false, false, false, false, false] rfl rfl (jb_ HT_.out (by kernel_rfl)) (fun _ _ _ h => h) (Or.inl ⟨by rfl, ?_⟩) ?_ ?_
        rotate_left
        ·intro w'
         go_simp
         with_reducible rfl
        rotate_left
        ·simp only [Act.put, s1_, s2_, s3_, ka_, la_]
         rfl
        refine oa_ (i := 3) (N := some 21) (v := ?_) (a' := ?_) #[false, true, false, true, false, false, false, false, false, false, false, false] rfl rfl (jb_ HT_.out (by kernel_rfl)) (fun _ _ _ h => h) (Or.inl ⟨by rfl, ?_⟩) ?_ ?_
        rotate_left
        ·intro w'
         go_simp
         with_reducible rfl
        rotate_left
        ·simp only [Act.put, s1_, s2_, s3_, ka_, la_]
         rfl
        refine oa_ (i := 4) (N := some 22) (v := ?_) (a' := ?_) #[false, true, false, true, true, false, false, false, false, false, false, false] rfl rfl (jb_ HT_.out (by kernel_rfl)) (fun _ _ _ h => h) (Or.inl ⟨by rfl, ?_⟩) ?_ ?_
        rotate_left
        ·intro w'
         go_simp
         with_reducible rfl
        rotate_left
        ·simp only [Act.put, s1_, s2_, s3_, ka_, la_]
         rfl
        refine oa_ (i := 5) (N := some 23) (v := ?_) (a' := ?_) #[false, true, false, true, true, true, false, false, false, false, false, false] rfl rfl (jb_ HT_.out (by kernel_rfl)) (fun _ _ _ h => h) (Or.inl ⟨by rfl, ?_⟩) ?_ ?_
        rotate_left
        ·intro w'
         go_simp
         with_reducible rfl
        rotate_left
        ·simp only [Act.put, s1_, s2_, s3_, ka_, la_]
         rfl
        refine oa_ (i := 7) (N := some 25) (v := ?_) (a' := ?_) #[false, true, false, true, true, true, false, true, false, false, false, false] rfl rfl (jb_ HT_.out (by kernel_rfl)) (fun _ _ _ h => h) (Or.inl ⟨by rfl, ?_⟩) ?_ ?_
        rotate_left
        ·intro w'
         go_simp
         with_reducible rfl
        rotate_left
        ·simp only [Act.put, s1_, s2_, s3_, ka_, la_]
         rfl
        refine take_ (i := 6) (N := some 24) (v := ?_) (a' := ?_) #[false, true, false, true, true, true, true, true, false, false, false, false] rfl rfl (yd_ HT_.out HW_.out (by kernel_rfl)) (fun _ _ _ h => h) (Or.inl ⟨by rfl, ?_⟩) hHeld ?_ ?_
        rotate_left
        ·rintro w' ⟨s0, s1, s2, s3, s4⟩
         go_simp
         with_reducible rfl
        rotate_left
        ·simp only [Act.put, s1_, s2_, s3_, ka_, la_]
         rfl
        refine one_ (i := 0) (N := some 18) #[true, true, false, true, true, true, true, true, false, false, false, false] rfl rfl (lc_ HT_.out (by kernel_rfl)) (by decide) (fun K hK => ?_)
        refine Kd.N_lit_step k48 _ 48 ?hg (N' := 18) ?hd (xs := ([] : List (S48))) (inner := []) (ok := (fun k_ => (w.heap.size ≤ k_) ∧ some k_ ≠ (u5 : Value).ownBlock)) (okp := (fun k_ => (w.heap.size ≤ k_) ∧ some k_ ≠ (u5 : Value).ownBlock)) ?hr ?hp (fun _ hk => hk) ((show ∀ k_, w24.heap.size ≤ k_ → (fun k_ => (w.heap.size ≤ k_) ∧ some k_ ≠ (u5 : Value).ownBlock) k_ from fun k_ hk => ⟨(Nat.le_trans (na_ (by repeat (first | (with_reducible first | exact HB.out | apply ba_ | apply aa_ | apply da_) | exact HB.out))) hk), Kd.fresh' (Kd.N_lt (by (with_reducible repeat (first | apply Kd.N_alloc | apply Kd.N_drewN | apply Kd.N_drew)); exact HO_5.out)) k_ hk⟩) _ (Nat.le_refl _)) (Below.refl _ _) (Nat.le_refl _) (by simp) ?_; (case hd => rfl); (case hg => rfl); (case hr => first | (go_simp; done) | (go_simp; rfl)); (case hp => exact (Reps.none _ _))
        intro v188 w25 ho26 hb hg_ hnew_
        clear hg_ hnew_
        (first | rw [← Ny187.out] at ho26 | (simp only [Int.reduceToNat] at ho26; rw [← Ny187.out] at ho26))
        have n0_ := Aside0.mk (Kd.N_elder' (by (with_reducible repeat (first | apply Kd.N_alloc | apply Kd.N_drewN | apply Kd.N_drew)); exact HO_5.out) (Kd.N_base ho26) hb)
        have n1_ := Aside0.mk (Kd.N_lower ho26 (na_ (by repeat (first | (with_reducible first | exact HB.out | apply ba_ | apply aa_ | apply da_) | exact HB.out))))
        have n2_ := Aside0.mk (ma_ (by repeat (first | (with_reducible first | exact HB.out | apply ba_ | apply aa_ | apply da_) | exact HB.out)) hb)
        clear HO_5
        clear HB
        have HO_5 := n0_
        have HO189 := n1_
        have HB := n2_
        clear n0_ n1_ n2_
        clear hb ho26
        obtain ⟨Ao28, co28, eo28⟩ := Kd.N_slice HO_5.out
        (first | subst eo28 | (injection eo28 with f1_ f2_ f3_; have f4_ := f1_.symm; have f5_ := f3_.symm; clear f1_ f2_ f3_; subst f4_; subst f5_))
        refine hK.out _ _ ⟨((HB.out.cell (World.block_lt_of_cell? w _ hw193_0)).trans hw193_0), ((HB.out.cell (World.block_lt_of_cell? w _ hw193_1)).trans hw193_1), ((HB.out.cell (World.block_lt_of_cell? w _ hw193_2)).trans hw193_2), ((HB.out.cell (World.block_lt_of_cell? w _ hw193_3)).trans hw193_3), ((HB.out.cell (World.block_lt_of_cell? w _ hw193_4)).trans hw193_4)⟩ (fun hHeld => ?_)
        clear hK K
        refine ab_ (a' := ?_) ?_ ?_
        rotate_left
        ·show Act.put _ (some 18) _ = _
         simp only [Act.put, s1_, s2_, s3_, ka_, la_]
         rfl
        refine one_ (i := 2) (N := some 20) (f_ 12 8) rfl rfl (lc_ HT_.out (by kernel_rfl)) (by decide) (fun K hK => ?_)
        refine Kd.N_append_rows_step k48 (w0 := w) w.heap.size (by rfl) (.tmp 18) (.tmp 19) 26 48 (.agg #[(.int .i64 0), (.slice none 0 0), (.int .i64 0), (.slice none 0 0), (.int .i64 0)]) 72 rfl Tryz.underlying26 jp_ rfl (by decide) (by omega) v188 y187 x5_1 _ _ _ (fun k_ => (w.heap.size ≤ k_)) (fun k_ => ((fun k_ => (w.heap.size ≤ k_))) k_ ∧ some k_ ≠ (v188 : Value).ownBlock) rfl rfl ?aO ?aR (fun _ hk => hk) ?aF ?aB ?aS ?aL ?_
        (case aR => exact (by skip; exact Kd.N_F (Kd.N_mono (ok' := (fun k_ => ((fun k_ => (w.heap.size ≤ k_))) k_ ∧ some k_ ≠ (v188 : Value).ownBlock)) (HO_5.out) (fun k_ hk => ⟨hk.1, hk.2⟩))))
        (case aB => exact (by repeat (first | (with_reducible first | exact HB.out | apply ba_ | apply aa_ | apply da_) | exact HB.out)))
        (case aF => exact (fun k_ hk => (Nat.le_trans (na_ (by repeat (first | (with_reducible first | exact HB.out | apply ba_ | apply aa_ | apply da_) | exact HB.out))) hk)))
        (case aO => exact (by (with_reducible repeat (first | apply Kd.N_alloc | apply Kd.N_drewN | apply Kd.N_drew)); exact Kd.N_mono HO189.out (fun _ hk => hk.1)))
        (case aS => exact (na_ (by repeat (first | (with_reducible first | exact HB.out | apply ba_ | apply aa_ | apply da_) | exact HB.out))))
        (case aL => have := LMc6.out; omega)
        intro v191 w27 ho hb hg hat
        rw [← Ny190.out] at ho
        have n0_ := Aside0.mk (Kd.N_afterv (ok := (fun k_ => (w.heap.size ≤ k_))) (by (with_reducible repeat (first | apply Kd.N_alloc | apply Kd.N_drewN | apply Kd.N_drew)); exact HO_5.out) hg hat)
        have n1_ := Aside0.mk (hb)
        have n2_ := Aside0.mk (ho)
        clear HO_5
        clear HB
        clear HO189
        have HO_5 := n0_
        have HB := n1_
        have HO192 := n2_
        clear n0_ n1_ n2_
        clear ho hb hg hat
        refine hK.out _ _ ⟨((HB.out.cell (World.block_lt_of_cell? w _ hw193_0)).trans hw193_0), ((HB.out.cell (World.block_lt_of_cell? w _ hw193_1)).trans hw193_1), ((HB.out.cell (World.block_lt_of_cell? w _ hw193_2)).trans hw193_2), ((HB.out.cell (World.block_lt_of_cell? w _ hw193_3)).trans hw193_3), ((HB.out.cell (World.block_lt_of_cell? w _ hw193_4)).trans hw193_4)⟩ (fun hHeld => ?_)
        clear hK K
        refine ab_ (a' := ?_) ?_ ?_
        rotate_left
        ·show Act.put _ (some 20) _ = _
         simp only [Act.put, s1_, s2_, s3_, ka_, la_]
         rfl
        refine one_ (i := 8) (N := some 26) (f_ 12 9) rfl rfl (lc_ HT_.out (by kernel_rfl)) (by decide) (fun K hK => ?_)
        refine id_ Tryz.func16 (by kernel_rfl) rfl #[.agg #[.int .i64 ((ta_ l0 x6_1).f0), .int .i64 ((ta_ l0 x6_1).f1), .int .i64 ((ta_ l0 x6_1).f2), .slice A193_3 ((ta_ l0 x6_1).f3).length c193_3, .slice A193_4 ((ta_ l0 x6_1).f4).length c193_4], .int .i64 a1] (by rfl) rfl rfl (by (try simp only [List.map_toArray, List.map_cons, List.map_nil]); first | done | rfl | (simp only [List.length_drop, List.length_take]; rfl)) ?_
        with_reducible refine (l4_Raw_Make.calls kj2 ((ta_ l0 x6_1).f0) ((ta_ l0 x6_1).f1) ((ta_ l0 x6_1).f2) _ _ ((ta_ l0 x6_1).f3) _ _ ((ta_ l0 x6_1).f4) a1 t194 t195 t198 t199 t202 _ ?side1 ?side2 ?side3 ?side4 A9.out).mono ?_
        (case side1 => repeat (first | exact (Kd.C_below HR193_3.out HB.out) | (with_reducible refine Kd.C_alloc ?_ _) | (with_reducible refine Kd.C_drewN ?_ _) | (with_reducible refine Kd.C_drew ?_)))
        (case side2 => exact HC193_3.out)
        (case side3 => repeat (first | exact (Kd.C_below HR193_4.out HB.out) | (with_reducible refine Kd.C_alloc ?_ _) | (with_reducible refine Kd.C_drewN ?_ _) | (with_reducible refine Kd.C_drew ?_)))
        (case side4 => exact HC193_4.out)
        rintro e w29 ⟨v196, v200, rfl, ho0, ho1, hb⟩
        refine ⟨_, rfl, ?_⟩
        have n0_ := Aside0.mk (Kd.N_mono (Kd.N_told (Kd.N_told (Kd.N_old (by (with_reducible repeat (first | apply Kd.N_alloc | apply Kd.N_drewN | apply Kd.N_drew)); exact HO_5.out) hb) (Kd.R_base ho0)) (Kd.R_base ho1)) (fun _ h_ => h_.1))
        have n1_ := Aside0.mk (Kd.N_mono (Kd.N_told (Kd.N_told (Kd.N_old (by (with_reducible repeat (first | apply Kd.N_alloc | apply Kd.N_drewN | apply Kd.N_drew)); exact HO192.out) hb) (Kd.R_base ho0)) (Kd.R_base ho1)) (fun _ h_ => h_.1))
        have n2_ := Aside0.mk (Kd.R_lower (Kd.R_newM (M := fun k_ => (w.heap.size ≤ k_)) ho0 (na_ (by repeat (first | (with_reducible first | exact HB.out | apply ba_ | apply aa_ | apply da_) | exact HB.out))) (fun k_ h_ => h_)) (na_ (by repeat (first | (with_reducible first | exact HB.out | apply ba_ | apply aa_ | apply da_) | exact HB.out))))
        have n3_ := Aside0.mk (Kd.R_lower (Kd.R_newM (M := fun k_ => (w.heap.size ≤ k_)) ho1 (na_ (by repeat (first | (with_reducible first | exact HB.out | apply ba_ | apply aa_ | apply da_) | exact HB.out))) (fun k_ h_ => h_)) (na_ (by repeat (first | (with_reducible first | exact HB.out | apply ba_ | apply aa_ | apply da_) | exact HB.out))))
        have n4_ := Aside0.mk (ma_ (by repeat (first | (with_reducible first | exact HB.out | apply ba_ | apply aa_ | apply da_) | exact HB.out)) hb)
        clear HO_5
        clear HO192
        clear HB
        have HO_5 := n0_
        have HO192 := n1_
        have HO197 := n2_
        have HO201 := n3_
        have HB := n4_
        clear n0_ n1_ n2_ n3_ n4_
        (try clear hb)
        (try clear hb2)
        (try clear hk)
        (try clear hi)
        (try clear ho0)
        (try clear ho1)
        obtain ⟨Ao31, co31, eo31⟩ := Kd.R_slice HO197.out
        (first | subst eo31 | (injection eo31 with f1_ f2_ f3_; have f4_ := f1_.symm; have f5_ := f3_.symm; clear f1_ f2_ f3_; subst f4_; subst f5_))
        obtain ⟨Ao32, co32, eo32⟩ := Kd.R_slice HO201.out
        (first | subst eo32 | (injection eo32 with f1_ f2_ f3_; have f4_ := f1_.symm; have f5_ := f3_.symm; clear f1_ f2_ f3_; subst f4_; subst f5_))
        refine hK.out _ _ ⟨((HB.out.cell (World.block_lt_of_cell? w _ hw193_0)).trans hw193_0), ((HB.out.cell (World.block_lt_of_cell? w _ hw193_1)).trans hw193_1), ((HB.out.cell (World.block_lt_of_cell? w _ hw193_2)).trans hw193_2), ((HB.out.cell (World.block_lt_of_cell? w _ hw193_3)).trans hw193_3), ((HB.out.cell (World.block_lt_of_cell? w _ hw193_4)).trans hw193_4)⟩ (fun hHeld => ?_)
        clear hK K
        refine ab_ (a' := ?_) ?_ ?_
        rotate_left
        ·show Act.put _ (some 26) _ = _
         simp only [Act.put, s1_, s2_, s3_, ka_, la_]
         rfl
        refine one_ (i := 9) (N := some 27) (f_ 12 10) rfl rfl (lc_ HT_.out (by kernel_rfl)) (by decide) (fun K hK => ?_)
        refine re_ (w1 := ?_) (v := ?_) (by rfl) rfl ?_ ?_
        rotate_left 2
        ·go_simp
         constructor
         ·rfl
         rfl
        refine hK.out _ _ ⟨(World.cell?_alloc_lt _ _ _ (World.block_lt_of_cell? _ _ (((HB.out.cell (World.block_lt_of_cell? w _ hw193_0)).trans hw193_0)))).trans (((HB.out.cell (World.block_lt_of_cell? w _ hw193_0)).trans hw193_0)), (World.cell?_alloc_lt _ _ _ (World.block_lt_of_cell? _ _ (((HB.out.cell (World.block_lt_of_cell? w _ hw193_1)).trans hw193_1)))).trans (((HB.out.cell (World.block_lt_of_cell? w _ hw193_1)).trans hw193_1)), (World.cell?_alloc_lt _ _ _ (World.block_lt_of_cell? _ _ (((HB.out.cell (World.block_lt_of_cell? w _ hw193_2)).trans hw193_2)))).trans (((HB.out.cell (World.block_lt_of_cell? w _ hw193_2)).trans hw193_2)), (World.cell?_alloc_lt _ _ _ (World.block_lt_of_cell? _ _ (((HB.out.cell (World.block_lt_of_cell? w _ hw193_3)).trans hw193_3)))).trans (((HB.out.cell (World.block_lt_of_cell? w _ hw193_3)).trans hw193_3)), (World.cell?_alloc_lt _ _ _ (World.block_lt_of_cell? _ _ (((HB.out.cell (World.block_lt_of_cell? w _ hw193_4)).trans hw193_4)))).trans (((HB.out.cell (World.block_lt_of_cell? w _ hw193_4)).trans hw193_4))⟩ (fun hHeld => ?_)
        clear hK K
        refine ab_ (a' := ?_) ?_ ?_
        rotate_left
        ·show Act.put _ (some 27) _ = _
         simp only [Act.put, s1_, s2_, s3_, ka_, la_]
         rfl
        refine one_ (i := 10) (N := some 28) (f_ 12 11) rfl rfl (lc_ HT_.out (by kernel_rfl)) (by decide) (fun K hK => ?_)
        refine Kd.N_append_step k48 (w0 := w) w.heap.size (by rfl) (.tmp 20) (.tmp 27) 26 48 (.agg #[(.int .i64 0), (.slice none 0 0), (.int .i64 0), (.slice none 0 0), (.int .i64 0)]) 72 rfl Tryz.underlying26 jp_ rfl (by decide) (by omega) v191 y190 (⟨t194, t195, (⟨t198, t199⟩ : S46), t202⟩ : S48) [.int .i64 t194, .slice Ao31 t195.length co31, .int .i64 t198, .slice Ao32 t199.length co32, .int .i64 t202] (fun k_ => (w.heap.size ≤ k_)) (fun k_ => ((fun k_ => (w.heap.size ≤ k_))) k_ ∧ some k_ ≠ (v191 : Value).ownBlock) rfl rfl ?aP (fun _ hk => hk) ?aF ?aO ?aB ?aS ?aL ?_
        (case aP => exact (we_ _ _ (⟨t194, t195, (⟨t198, t199⟩ : S46), t202⟩ : S48) (Kd.R_reads' (Kd.R_mono (ok' := (fun k_ => ((fun k_ => (w.heap.size ≤ k_))) k_ ∧ some k_ ≠ (v191 : Value).ownBlock)) (Kd.R_apart' (HO197.out) (Kd.N_typed HO192.out) (by decide)) (fun k_ hk => ⟨hk.1.1, hk.2⟩))).2.1 (Kd.R_F (Kd.R_mono (ok' := (fun k_ => ((fun k_ => (w.heap.size ≤ k_))) k_ ∧ some k_ ≠ (v191 : Value).ownBlock)) (Kd.R_apart' (HO197.out) (Kd.N_typed HO192.out) (by decide)) (fun k_ hk => ⟨hk.1.1, hk.2⟩))) (Kd.R_reads' (Kd.R_mono (ok' := (fun k_ => ((fun k_ => (w.heap.size ≤ k_))) k_ ∧ some k_ ≠ (v191 : Value).ownBlock)) (Kd.R_apart' (HO201.out) (Kd.N_typed HO192.out) (by decide)) (fun k_ hk => ⟨hk.1.1, hk.2⟩))).2.1 (Kd.R_F (Kd.R_mono (ok' := (fun k_ => ((fun k_ => (w.heap.size ≤ k_))) k_ ∧ some k_ ≠ (v191 : Value).ownBlock)) (Kd.R_apart' (HO201.out) (Kd.N_typed HO192.out) (by decide)) (fun k_ hk => ⟨hk.1.1, hk.2⟩)))))
        (case aB => exact (by repeat (first | (with_reducible first | exact HB.out | apply ba_ | apply aa_ | apply da_) | exact HB.out)))
        (case aF => exact (fun k_ hk => (Nat.le_trans (na_ (by repeat (first | (with_reducible first | exact HB.out | apply ba_ | apply aa_ | apply da_) | exact HB.out))) hk)))
        (case aO => exact (by (with_reducible repeat (first | apply Kd.N_alloc | apply Kd.N_drewN | apply Kd.N_drew)); exact Kd.N_mono HO192.out (fun _ hk => hk.1.1)))
        (case aS => exact (na_ (by repeat (first | (with_reducible first | exact HB.out | apply ba_ | apply aa_ | apply da_) | exact HB.out))))
        (case aL => have := LMc10.out; omega)
        intro v204 w30 ho hb hg hat
        rw [← Ny203.out] at ho
        have n0_ := Aside0.mk (Kd.N_afterv (ok := (fun k_ => (w.heap.size ≤ k_) ∧ some k_ ≠ (.slice Ao31 t195.length co31 : Value).ownBlock ∧ some k_ ≠ (.slice Ao32 t199.length co32 : Value).ownBlock)) (by (with_reducible repeat (first | apply Kd.N_alloc | apply Kd.N_drewN | apply Kd.N_drew)); exact Kd.N_mono HO_5.out (fun _ hk => ⟨⟨hk.1.1.1, ⟨hk.1.2, hk.2⟩⟩, hk.1.1.2⟩)) hg hat)
        have n1_ := Aside0.mk (hb)
        have n2_ := Aside0.mk (ho)
        clear HO_5
        clear HB
        clear HO192
        clear HO197
        clear HO201
        have HO_5 := n0_
        have HB := n1_
        have HO205 := n2_
        clear n0_ n1_ n2_
        clear ho hb hg hat
        refine hK.out _ _ ⟨((HB.out.cell (World.block_lt_of_cell? w _ hw193_0)).trans hw193_0), ((HB.out.cell (World.block_lt_of_cell? w _ hw193_1)).trans hw193_1), ((HB.out.cell (World.block_lt_of_cell? w _ hw193_2)).trans hw193_2), ((HB.out.cell (World.block_lt_of_cell? w _ hw193_3)).trans hw193_3), ((HB.out.cell (World.block_lt_of_cell? w _ hw193_4)).trans hw193_4)⟩ (fun hHeld => ?_)
        clear hK K
        refine ab_ (a' := ?_) ?_ ?_
        rotate_left
        ·show Act.put _ (some 28) _ = _
         simp only [Act.put, s1_, s2_, s3_, ka_, la_]
         rfl
        refine oa_ (i := 11) (N := some 7) (v := ?_) (a' := ?_) (f_ 12 12) rfl rfl (jb_ HT_.out (by kernel_rfl)) (fun _ _ _ h => h) (Or.inl ⟨by rfl, ?_⟩) ?_ ?_
        rotate_left
        ·intro w'
         go_simp
         with_reducible rfl
        rotate_left
        ·simp only [Act.put, s1_, s2_, s3_, ka_, la_]
         rfl
        refine ie_ (vh_ HT_.out (by kernel_rfl)) ?_
        obtain ⟨Ao33, co33, eo33⟩ := Kd.N_slice HO205.out
        subst eo33
        try go_wp2_with (first | ((with_reducible refine pa_ (f := 17) rfl ?_); refine rb_ (some 30) rfl rfl Tryz.func17 (by kernel_rfl) rfl #[.slice Ao33 y203.length co33] rfl (by (try simp only [List.map_toArray, List.map_cons, List.map_nil]); first | done | rfl | (simp only [List.length_drop, List.length_take]; rfl)) ?_; (with_reducible refine (r4_Check.calls _ _ y203 false _ ?side1 ?side2 A11.out).mono ?_); (case side1 => repeat (first | exact (Kd.N_reads' HO205.out).2.2 | (with_reducible refine Kd.C_alloc ?_ _) | (with_reducible refine Kd.C_drewN ?_ _) | (with_reducible refine Kd.C_drew ?_))); (case side2 => exact (Kd.N_reads' HO205.out).2.1); rintro e w34 ⟨rfl, hb⟩; refine ⟨_, rfl, ?_⟩; have n0_ := Aside0.mk (Kd.N_below (by (with_reducible repeat (first | apply Kd.N_alloc | apply Kd.N_drewN | apply Kd.N_drew)); exact HO_5.out) hb); have n1_ := Aside0.mk (Kd.N_below (by (with_reducible repeat (first | apply Kd.N_alloc | apply Kd.N_drewN | apply Kd.N_drew)); exact HO205.out) hb); have n2_ := Aside0.mk (ma_ (by repeat (first | (with_reducible first | exact HB.out | apply ba_ | apply aa_ | apply da_) | exact HB.out)) hb); clear HO_5; clear HO205; clear HB; have HO_5 := n0_; have HO205 := n1_; have HB := n2_; clear n0_ n1_ n2_; (try clear hb); (try clear hb2); (try clear hk); (try clear hi)))
        go_roundg kj2
        case measure => have := HK1.out; have := HJ2.out; omega
        case rel => exact ⟨(x5_1), (wrap64 (x6_1 + 1)), (by first | rfl | (simp; done) | (simp [*]; done)), H', ⟨by have := HK1.out; have := HJ2.out; omega⟩, ⟨by (with_reducible repeat (first | apply Kd.N_alloc | apply Kd.N_drewN | apply Kd.N_drew)); exact Kd.N_mono HO_5.out (fun _ hk => hk.1.1)⟩, ⟨by repeat (first | (with_reducible first | exact HB.out | apply ba_ | apply aa_ | apply da_) | exact HB.out)⟩⟩
       rw [if_neg c10] at H
       exact absurd H (by simp)
      rw [if_neg c8] at H
      exact absurd H (by simp)
     rw [if_neg c7] at H
     exact absurd H (by simp)
    rw [if_neg c6] at H
    exact absurd H (by simp)
   replace c5 := Bool.eq_false_iff.mpr c5
   subst c5
   have H1 : (some x5_1) = some r := by rw [if_neg (show ¬ (false = true) by decide)] at H; exact H
   clear H
   have H := H1
   clear H1
   obtain rfl := Option.some.inj H
   go_wp2
   go_ret
   exact ⟨_, by first | rfl | (simp [wa_, va_] <;> rfl) | (simp [*, wa_, va_] <;> rfl), by (with_reducible repeat (first | apply Kd.N_alloc | apply Kd.N_drewN | apply Kd.N_drew)); exact HO_5.out, by repeat (first | (with_reducible first | exact HB.out | apply ba_ | apply aa_ | apply da_) | exact HB.out)⟩
noncomputable def l7_within.f (a0 : Int) (a1 : Int) : Option (Int) := if a1 = 0 then (none) else (if (Int.tmod a0 a1) < 0 then (some (wrap64 ((Int.tmod a0 a1) + a1))) else (some (Int.tmod a0 a1)))
set_option maxHeartbeats 8000000 in
set_option maxRecDepth 100000 in
theorem l7_within.calls (a0 : Int) (a1 : Int) (r : Int) (w : World) (h : l7_within.f a0 a1 = some r) :
  Calls Tryz.prog 8 #[.int .i64 a0, .int .i64 a1] w fun e w' => e = .returned (.int .i64 r) ∧ Drawn0 w w' := by
 have H : (if a1 = 0 then (none) else (if (Int.tmod a0 a1) < 0 then (some (wrap64 ((Int.tmod a0 a1) + a1))) else (some (Int.tmod a0 a1)))) = some r := h
 clear h
 by_cases c3 : a1 = 0
 ·rw [if_pos c3] at H
  exact absurd H (by simp)
 rw [if_neg c3] at H
 have c3b0 : (a1 == 0) = false := beq_eq_false_iff_ne.mpr c3
 have c3b1 : (a1 != 0) = true := bne_iff_ne.mpr c3
 by_cases c4 : (Int.tmod a0 a1) < 0
 ·rw [if_pos c4] at H
  have c4b0 : decide ((Int.tmod a0 a1) < 0) = true := decide_eq_true c4
  clear c4
  obtain rfl := Option.some.inj H
  go_enter Tryz.func8, Tryz.ntmps8
  go_wp2
  go_ret
  exact ⟨by first | rfl | (simp; done) | (simp [*]; done), by repeat (first | exact Drawn0.refl _ | apply Drawn0.step)⟩
 rw [if_neg c4] at H
 have c4b0 : decide ((Int.tmod a0 a1) < 0) = false := decide_eq_false c4
 clear c4
 obtain rfl := Option.some.inj H
 go_enter Tryz.func8, Tryz.ntmps8
 go_wp2
 go_ret
 exact ⟨by first | rfl | (simp; done) | (simp [*]; done), by repeat (first | exact Drawn0.refl _ | apply Drawn0.step)⟩
noncomputable def l7_same.l0 : Nat → List (S42) → List (S53) → Int → Option (Bool)
 | 0, _, _, _ => none
 | k + 1, x0, x1, x5 => if x5 < (x0.length : Int) then (if 0 ≤ x5 then (if x5 < (x1.length : Int) then (if ((hc_ x0 x5).f0) = ((ad_ x1 x5).f0) then (if ((hc_ x0 x5).f1) = ((ad_ x1 x5).f1) then (if ((hc_ x0 x5).f2) = ((ad_ x1 x5).f2) then (l7_same.l0 k x0 x1 (wrap64 (x5 + 1))) else (some false)) else (some false)) else (some false)) else (none)) else (none)) else (some true)
noncomputable def l7_same.f (k : Nat) (l0 : List (S42)) (l1 : List (S53)) : Option (Bool) := if (l0.length : Int) = (l1.length : Int) then (l7_same.l0 k l0 l1 0) else (some false)
set_option maxHeartbeats 8000000 in
set_option maxRecDepth 100000 in
theorem l7_same.calls (k : Nat) (A0 : Option Addr) (c0 : Nat) (l0 : List (S42)) (A1 : Option Addr) (c1 : Nat) (l1 : List (S53)) (r : Bool) (w : World) (hr0 : Kd.C k42 w A0 l0.length l0) (hc0 : l0.length ≤ c0) (hr1 : Kd.C k53 w A1 l1.length l1) (hc1 : l1.length ≤ c1) (h : l7_same.f k l0 l1 = some r) :
  Calls Tryz.prog 9 #[.slice A0 l0.length c0, .slice A1 l1.length c1] w fun e w' => e = .returned (.bool r) ∧ Drawn0 w w' := by
 have HR0 := Aside0.mk hr0
 have HC0 := Aside0.mk hc0
 clear hr0 hc0
 have HR1 := Aside0.mk hr1
 have HC1 := Aside0.mk hc1
 clear hr1 hc1
 have H : (if (l0.length : Int) = (l1.length : Int) then (l7_same.l0 k l0 l1 0) else (some false)) = some r := h
 clear h
 by_cases c3 : (l0.length : Int) = (l1.length : Int)
 ·rw [if_pos c3] at H
  have c3b0 : ((l0.length : Int) == (l1.length : Int)) = true := beq_iff_eq.mpr c3
  have c3b1 : ((l0.length : Int) != (l1.length : Int)) = false := bne_eq_false_iff_eq.mpr c3
  have c3b2 : (l0.length == l1.length) = true := by first | simpa using c3 | (simp at c3 ⊢; omega)
  clear c3
  have H' := Aside0.mk H
  clear H
  go_enter Tryz.func9, Tryz.ntmps9
  go_wp2
  repeat (go_quiet (fail); try go_wp2)
  go_loopg [5] k (fun kq v5 w' => ∃ (x5_1 : Int), v5 = .int .i64 x5_1 ∧ Aside0 (l7_same.l0 kq l0 l1 x5_1 = some r) ∧ Aside0 (kq ≤ k) ∧ Drawn0 w w')
  case atStart => exact ⟨(0), (by first | rfl | (simp; done) | (simp [*]; done)), H', ⟨Nat.le_refl _⟩, by repeat (first | exact Drawn0.refl _ | apply Drawn0.step)⟩
  clear H'
  try clear c1
  try clear p2
  try clear c3
  try clear c3b0
  try clear c3b1
  try clear c3b2
  obtain ⟨x5_1, rfl, HA, HK1, ⟨m1, rfl⟩⟩ := hrel
  cases gk with
  | zero => exact absurd HA.out (by simp [l7_same.l0])
  | succ k1 =>
   have H := HA.out
   clear HA
   simp only [l7_same.l0] at H
   by_cases c4 : x5_1 < (l0.length : Int)
   ·rw [if_pos c4] at H
    have c4b0 : decide (x5_1 < (l0.length : Int)) = true := decide_eq_true c4
    clear c4
    by_cases c5 : 0 ≤ x5_1
    ·rw [if_pos c5] at H
     have c5b0 : decide (0 ≤ x5_1) = true := decide_eq_true c5
     clear c5
     by_cases c6 : x5_1 < (l1.length : Int)
     ·rw [if_pos c6] at H
      have c6b0 : decide (x5_1 < (l1.length : Int)) = true := decide_eq_true c6
      clear c6
      by_cases c7 : ((hc_ l0 x5_1).f0) = ((ad_ l1 x5_1).f0)
      ·rw [if_pos c7] at H
       have c7b0 : (((hc_ l0 x5_1).f0) == ((ad_ l1 x5_1).f0)) = true := beq_iff_eq.mpr c7
       have c7b1 : (((hc_ l0 x5_1).f0) != ((ad_ l1 x5_1).f0)) = false := bne_eq_false_iff_eq.mpr c7
       clear c7
       by_cases c8 : ((hc_ l0 x5_1).f1) = ((ad_ l1 x5_1).f1)
       ·rw [if_pos c8] at H
        have c8b0 : (((hc_ l0 x5_1).f1) == ((ad_ l1 x5_1).f1)) = true := beq_iff_eq.mpr c8
        have c8b1 : (((hc_ l0 x5_1).f1) != ((ad_ l1 x5_1).f1)) = false := bne_eq_false_iff_eq.mpr c8
        clear c8
        by_cases c9 : ((hc_ l0 x5_1).f2) = ((ad_ l1 x5_1).f2)
        ·rw [if_pos c9] at H
         have c9b0 : (((hc_ l0 x5_1).f2) == ((ad_ l1 x5_1).f2)) = true := beq_iff_eq.mpr c9
         have c9b1 : (((hc_ l0 x5_1).f2) != ((ad_ l1 x5_1).f2)) = false := bne_eq_false_iff_eq.mpr c9
         clear c9
         have H' := Aside0.mk H
         clear H
         have p207 : 0 ≤ (x5_1 : Int) := of_decide_eq_true (by first | (with_reducible assumption) | assumption)
         have q207 : x5_1 < (l0.length : Int) := of_decide_eq_true (by first | (with_reducible assumption) | assumption)
         obtain ⟨ad207, e207, hx207_0, hx207_1, hx207_2⟩ := wg_ HR0.out x5_1 p207 q207
         cases e207
         replace p207 := eq_true p207
         replace q207 := eq_true q207
         have p208 : 0 ≤ (x5_1 : Int) := of_decide_eq_true (by first | (with_reducible assumption) | assumption)
         have q208 : x5_1 < (l1.length : Int) := of_decide_eq_true (by first | (with_reducible assumption) | assumption)
         obtain ⟨ad208, e208, hx208_0, hx208_1, hx208_2⟩ := vg_ HR1.out x5_1 p208 q208
         cases e208
         replace p208 := eq_true p208
         replace q208 := eq_true q208
         have p209 : 0 ≤ (x5_1 : Int) := of_decide_eq_true (by first | (with_reducible assumption) | assumption)
         have q209 : x5_1 < (l0.length : Int) := of_decide_eq_true (by first | (with_reducible assumption) | assumption)
         obtain ⟨ad209, e209, hx209_0, hx209_1, hx209_2⟩ := wg_ HR0.out x5_1 p209 q209
         obtain rfl : ad207 = ad209 := (by injection e209)
         replace p209 := eq_true p209
         replace q209 := eq_true q209
         have p210 : 0 ≤ (x5_1 : Int) := of_decide_eq_true (by first | (with_reducible assumption) | assumption)
         have q210 : x5_1 < (l1.length : Int) := of_decide_eq_true (by first | (with_reducible assumption) | assumption)
         obtain ⟨ad210, e210, hx210_0, hx210_1, hx210_2⟩ := vg_ HR1.out x5_1 p210 q210
         obtain rfl : ad208 = ad210 := (by injection e210)
         replace p210 := eq_true p210
         replace q210 := eq_true q210
         have p211 : 0 ≤ (x5_1 : Int) := of_decide_eq_true (by first | (with_reducible assumption) | assumption)
         have q211 : x5_1 < (l0.length : Int) := of_decide_eq_true (by first | (with_reducible assumption) | assumption)
         obtain ⟨ad211, e211, hx211_0, hx211_1, hx211_2⟩ := wg_ HR0.out x5_1 p211 q211
         obtain rfl : ad207 = ad211 := (by injection e211)
         replace p211 := eq_true p211
         replace q211 := eq_true q211
         have p212 : 0 ≤ (x5_1 : Int) := of_decide_eq_true (by first | (with_reducible assumption) | assumption)
         have q212 : x5_1 < (l1.length : Int) := of_decide_eq_true (by first | (with_reducible assumption) | assumption)
         obtain ⟨ad212, e212, hx212_0, hx212_1, hx212_2⟩ := vg_ HR1.out x5_1 p212 q212
         obtain rfl : ad208 = ad212 := (by injection e212)
         replace p212 := eq_true p212
         replace q212 := eq_true q212
         go_wp2
         repeat (go_quiet (fail); try go_wp2)
         go_roundg k1
         case measure => have := HK1.out; omega
         case rel => exact ⟨(wrap64 (x5_1 + 1)), (by first | rfl | (simp; done) | (simp [*]; done)), H', ⟨by have := HK1.out; omega⟩, by repeat (first | exact Drawn0.refl _ | apply Drawn0.step)⟩
        rw [if_neg c9] at H
        have c9b0 : (((hc_ l0 x5_1).f2) == ((ad_ l1 x5_1).f2)) = false := beq_eq_false_iff_ne.mpr c9
        have c9b1 : (((hc_ l0 x5_1).f2) != ((ad_ l1 x5_1).f2)) = true := bne_iff_ne.mpr c9
        obtain rfl := Option.some.inj H
        have p207 : 0 ≤ (x5_1 : Int) := of_decide_eq_true (by first | (with_reducible assumption) | assumption)
        have q207 : x5_1 < (l0.length : Int) := of_decide_eq_true (by first | (with_reducible assumption) | assumption)
        obtain ⟨ad207, e207, hx207_0, hx207_1, hx207_2⟩ := wg_ HR0.out x5_1 p207 q207
        cases e207
        replace p207 := eq_true p207
        replace q207 := eq_true q207
        have p208 : 0 ≤ (x5_1 : Int) := of_decide_eq_true (by first | (with_reducible assumption) | assumption)
        have q208 : x5_1 < (l1.length : Int) := of_decide_eq_true (by first | (with_reducible assumption) | assumption)
        obtain ⟨ad208, e208, hx208_0, hx208_1, hx208_2⟩ := vg_ HR1.out x5_1 p208 q208
        cases e208
        replace p208 := eq_true p208
        replace q208 := eq_true q208
        have p209 : 0 ≤ (x5_1 : Int) := of_decide_eq_true (by first | (with_reducible assumption) | assumption)
        have q209 : x5_1 < (l0.length : Int) := of_decide_eq_true (by first | (with_reducible assumption) | assumption)
        obtain ⟨ad209, e209, hx209_0, hx209_1, hx209_2⟩ := wg_ HR0.out x5_1 p209 q209
        obtain rfl : ad207 = ad209 := (by injection e209)
        replace p209 := eq_true p209
        replace q209 := eq_true q209
        have p210 : 0 ≤ (x5_1 : Int) := of_decide_eq_true (by first | (with_reducible assumption) | assumption)
        have q210 : x5_1 < (l1.length : Int) := of_decide_eq_true (by first | (with_reducible assumption) | assumption)
        obtain ⟨ad210, e210, hx210_0, hx210_1, hx210_2⟩ := vg_ HR1.out x5_1 p210 q210
        obtain rfl : ad208 = ad210 := (by injection e210)
        replace p210 := eq_true p210
        replace q210 := eq_true q210
        have p211 : 0 ≤ (x5_1 : Int) := of_decide_eq_true (by first | (with_reducible assumption) | assumption)
        have q211 : x5_1 < (l0.length : Int) := of_decide_eq_true (by first | (with_reducible assumption) | assumption)
        obtain ⟨ad211, e211, hx211_0, hx211_1, hx211_2⟩ := wg_ HR0.out x5_1 p211 q211
        obtain rfl : ad207 = ad211 := (by injection e211)
        replace p211 := eq_true p211
        replace q211 := eq_true q211
        have p212 : 0 ≤ (x5_1 : Int) := of_decide_eq_true (by first | (with_reducible assumption) | assumption)
        have q212 : x5_1 < (l1.length : Int) := of_decide_eq_true (by first | (with_reducible assumption) | assumption)
        obtain ⟨ad212, e212, hx212_0, hx212_1, hx212_2⟩ := vg_ HR1.out x5_1 p212 q212
        obtain rfl : ad208 = ad212 := (by injection e212)
        replace p212 := eq_true p212
        replace q212 := eq_true q212
        go_wp2
        repeat (go_quiet (fail); try go_wp2)
        go_ret
        exact ⟨by first | rfl | (simp; done) | (simp [*]; done), by repeat (first | exact Drawn0.refl _ | apply Drawn0.step)⟩
       rw [if_neg c8] at H
       have c8b0 : (((hc_ l0 x5_1).f1) == ((ad_ l1 x5_1).f1)) = false := beq_eq_false_iff_ne.mpr c8
       have c8b1 : (((hc_ l0 x5_1).f1) != ((ad_ l1 x5_1).f1)) = true := bne_iff_ne.mpr c8
       obtain rfl := Option.some.inj H
       have p207 : 0 ≤ (x5_1 : Int) := of_decide_eq_true (by first | (with_reducible assumption) | assumption)
       have q207 : x5_1 < (l0.length : Int) := of_decide_eq_true (by first | (with_reducible assumption) | assumption)
       obtain ⟨ad207, e207, hx207_0, hx207_1, hx207_2⟩ := wg_ HR0.out x5_1 p207 q207
       cases e207
       replace p207 := eq_true p207
       replace q207 := eq_true q207
       have p208 : 0 ≤ (x5_1 : Int) := of_decide_eq_true (by first | (with_reducible assumption) | assumption)
       have q208 : x5_1 < (l1.length : Int) := of_decide_eq_true (by first | (with_reducible assumption) | assumption)
       obtain ⟨ad208, e208, hx208_0, hx208_1, hx208_2⟩ := vg_ HR1.out x5_1 p208 q208
       cases e208
       replace p208 := eq_true p208
       replace q208 := eq_true q208
       have p209 : 0 ≤ (x5_1 : Int) := of_decide_eq_true (by first | (with_reducible assumption) | assumption)
       have q209 : x5_1 < (l0.length : Int) := of_decide_eq_true (by first | (with_reducible assumption) | assumption)
       obtain ⟨ad209, e209, hx209_0, hx209_1, hx209_2⟩ := wg_ HR0.out x5_1 p209 q209
       obtain rfl : ad207 = ad209 := (by injection e209)
       replace p209 := eq_true p209
       replace q209 := eq_true q209
       have p210 : 0 ≤ (x5_1 : Int) := of_decide_eq_true (by first | (with_reducible assumption) | assumption)
       have q210 : x5_1 < (l1.length : Int) := of_decide_eq_true (by first | (with_reducible assumption) | assumption)
       obtain ⟨ad210, e210, hx210_0, hx210_1, hx210_2⟩ := vg_ HR1.out x5_1 p210 q210
       obtain rfl : ad208 = ad210 := (by injection e210)
       replace p210 := eq_true p210
       replace q210 := eq_true q210
       go_wp2
       repeat (go_quiet (fail); try go_wp2)
       go_ret
       exact ⟨by first | rfl | (simp; done) | (simp [*]; done), by repeat (first | exact Drawn0.refl _ | apply Drawn0.step)⟩
      rw [if_neg c7] at H
      have c7b0 : (((hc_ l0 x5_1).f0) == ((ad_ l1 x5_1).f0)) = false := beq_eq_false_iff_ne.mpr c7
      have c7b1 : (((hc_ l0 x5_1).f0) != ((ad_ l1 x5_1).f0)) = true := bne_iff_ne.mpr c7
      obtain rfl := Option.some.inj H
      have p207 : 0 ≤ (x5_1 : Int) := of_decide_eq_true (by first | (with_reducible assumption) | assumption)
      have q207 : x5_1 < (l0.length : Int) := of_decide_eq_true (by first | (with_reducible assumption) | assumption)
      obtain ⟨ad207, e207, hx207_0, hx207_1, hx207_2⟩ := wg_ HR0.out x5_1 p207 q207
      cases e207
      replace p207 := eq_true p207
      replace q207 := eq_true q207
      have p208 : 0 ≤ (x5_1 : Int) := of_decide_eq_true (by first | (with_reducible assumption) | assumption)
      have q208 : x5_1 < (l1.length : Int) := of_decide_eq_true (by first | (with_reducible assumption) | assumption)
      obtain ⟨ad208, e208, hx208_0, hx208_1, hx208_2⟩ := vg_ HR1.out x5_1 p208 q208
      cases e208
      replace p208 := eq_true p208
      replace q208 := eq_true q208
      go_wp2
      repeat (go_quiet (fail); try go_wp2)
      go_ret
      exact ⟨by first | rfl | (simp; done) | (simp [*]; done), by repeat (first | exact Drawn0.refl _ | apply Drawn0.step)⟩
     rw [if_neg c6] at H
     exact absurd H (by simp)
    rw [if_neg c5] at H
    exact absurd H (by simp)
   rw [if_neg c4] at H
   have c4b0 : decide (x5_1 < (l0.length : Int)) = false := decide_eq_false c4
   clear c4
   obtain rfl := Option.some.inj H
   go_wp2
   repeat (go_quiet (fail); try go_wp2)
   go_ret
   exact ⟨by first | rfl | (simp; done) | (simp [*]; done), by repeat (first | exact Drawn0.refl _ | apply Drawn0.step)⟩
 rw [if_neg c3] at H
 have c3b0 : ((l0.length : Int) == (l1.length : Int)) = false := beq_eq_false_iff_ne.mpr c3
 have c3b1 : ((l0.length : Int) != (l1.length : Int)) = true := bne_iff_ne.mpr c3
 have c3b2 : (l0.length == l1.length) = false := by first | simpa using c3 | (simp at c3 ⊢; omega)
 obtain rfl := Option.some.inj H
 go_enter Tryz.func9, Tryz.ntmps9
 go_wp2
 repeat (go_quiet (fail); try go_wp2)
 go_ret
 exact ⟨by first | rfl | (simp; done) | (simp [*]; done), by repeat (first | exact Drawn0.refl _ | apply Drawn0.step)⟩
noncomputable def interlocutorref6_At.l0 : Nat → List (S31) → Int → List (S31) → Int → Option ((List (S31)))
 | 0, _, _, _, _ => none
 | k + 1, x0, x1, x5, x6 => if x6 < (x0.length : Int) then (if 0 ≤ x6 then (if ((ra_ x0 x6).f0) = x1 then (if x5.length < 3518437208883 then (interlocutorref6_At.l0 k x0 x1 (x5 ++ [(⟨(ra_ x0 x6).f0, (ra_ x0 x6).f1, (ra_ x0 x6).f2, (ra_ x0 x6).f3, (ra_ x0 x6).f4⟩ : S31)]) (wrap64 (x6 + 1))) else (none)) else (interlocutorref6_At.l0 k x0 x1 x5 (wrap64 (x6 + 1)))) else (none)) else (some x5)
noncomputable def interlocutorref6_At.f (k : Nat) (l0 : List (S31)) (a1 : Int) : Option ((List (S31))) := interlocutorref6_At.l0 k l0 a1 ([] : List (S31)) 0
set_option maxHeartbeats 8000000 in
set_option maxRecDepth 100000 in
theorem interlocutorref6_At.calls (k : Nat) (A0 : Option Addr) (c0 : Nat) (l0 : List (S31)) (a1 : Int) (r : List (S31)) (w : World) (hr0 : Kd.C k31 w A0 l0.length l0) (hc0 : l0.length ≤ c0) (h : interlocutorref6_At.f k l0 a1 = some r) :
  Calls Tryz.prog 38 #[.slice A0 l0.length c0, .int .i64 a1] w fun e w' => ∃ v0_ : Value, e = .returned (v0_) ∧ Kd.R k31 31 w' w.heap.size (fun _ => True) v0_ r ∧ Below w.heap.size w w' := by
 have hu31 := Tryz.underlying31
 have HR0 := Aside0.mk hr0
 have HC0 := Aside0.mk hc0
 clear hr0 hc0
 have HB := Aside0.mk (Below.refl w.heap.size w)
 have H : (interlocutorref6_At.l0 k l0 a1 ([] : List (S31)) 0) = some r := h
 clear h
 have H' := Aside0.mk H
 clear H
 go_enter Tryz.func38, Tryz.ntmps38
 go_wp2
 go_loopg [5, 6] k (fun kq v5 v6 w' => ∃ (x5_1 : List (S31)) (x6_1 : Int), v6 = .int .i64 x6_1 ∧ Aside0 (interlocutorref6_At.l0 kq l0 a1 x5_1 x6_1 = some r) ∧ Aside0 (kq ≤ k) ∧ Aside0 (Kd.R k31 31 w' w.heap.size (fun _ => True) v5 x5_1) ∧ Aside0 (Below w.heap.size w w'))
 case atStart => exact ⟨(([] : List (S31))), (0), (by first | rfl | (simp; done) | (simp [*]; done)), H', ⟨Nat.le_refl _⟩, ⟨by first | exact Kd.R_nil _ _ _ _ _ | exact Kd.N_nil _ _ _ _ _ | exact Kd.V_nil _ _ _ _ _ | exact Kd.Q_nil _ _ _ _ _ | exact Kd.S_nil _ _ _ _ _⟩, ⟨by repeat (first | (with_reducible first | exact HB.out | apply ba_ | apply aa_ | apply da_) | exact HB.out)⟩⟩
 clear H'
 try clear p2
 obtain ⟨x5_1, x6_1, rfl, HA, HK1, HO_5, HB⟩ := hrel
 cases gk with
 | zero => exact absurd HA.out (by simp [interlocutorref6_At.l0])
 | succ k1 =>
  have H := HA.out
  clear HA
  simp only [interlocutorref6_At.l0] at H
  by_cases c3 : x6_1 < (l0.length : Int)
  ·rw [if_pos c3] at H
   have c3b0 : decide (x6_1 < (l0.length : Int)) = true := decide_eq_true c3
   clear c3
   by_cases c4 : 0 ≤ x6_1
   ·rw [if_pos c4] at H
    have c4b0 : decide (0 ≤ x6_1) = true := decide_eq_true c4
    clear c4
    by_cases c5 : ((ra_ l0 x6_1).f0) = a1
    ·rw [if_pos c5] at H
     have c5b0 : (((ra_ l0 x6_1).f0) == a1) = true := beq_iff_eq.mpr c5
     have c5b1 : (((ra_ l0 x6_1).f0) != a1) = false := bne_eq_false_iff_eq.mpr c5
     clear c5
     by_cases c6 : x5_1.length < 3518437208883
     ·rw [if_pos c6] at H
      have LMc6 := Aside0.mk c6
      clear c6
      obtain ⟨y217, hy217⟩ : ∃ y_ : List (S31), y_ = (x5_1 ++ [(⟨(ra_ l0 x6_1).f0, (ra_ l0 x6_1).f1, (ra_ l0 x6_1).f2, (ra_ l0 x6_1).f3, (ra_ l0 x6_1).f4⟩ : S31)]) := ⟨_, rfl⟩
      replace H : (interlocutorref6_At.l0 k1 l0 a1 y217 (wrap64 (x6_1 + 1))) = some r := by first | (rw [hy217]; with_reducible exact H) | (have H2_ := (Option.bind_some _ _).symm.trans H; rw [hy217]; with_reducible exact H2_) | (have H2_ := (Option.bind_some _ _).symm.trans H; with_reducible exact H2_) | with_reducible exact H | (rw [hy217]; exact H) | exact H
      have Ny217 := Aside0.mk hy217
      clear hy217
      have H' := Aside0.mk H
      clear H
      have p215 : 0 ≤ (x6_1 : Int) := of_decide_eq_true (by first | (with_reducible assumption) | assumption)
      have q215 : x6_1 < (l0.length : Int) := of_decide_eq_true (by first | (with_reducible assumption) | assumption)
      obtain ⟨ad215, e215, hx215_0, hx215_1, hx215_2, hx215_3, hx215_4⟩ := qf_ HR0.out x6_1 p215 q215
      cases e215
      replace hx215_0 := (HB.out.cell (World.block_lt_of_cell? w _ hx215_0)).trans hx215_0
      replace hx215_1 := (HB.out.cell (World.block_lt_of_cell? w _ hx215_1)).trans hx215_1
      replace hx215_2 := (HB.out.cell (World.block_lt_of_cell? w _ hx215_2)).trans hx215_2
      replace hx215_3 := (HB.out.cell (World.block_lt_of_cell? w _ hx215_3)).trans hx215_3
      replace hx215_4 := (HB.out.cell (World.block_lt_of_cell? w _ hx215_4)).trans hx215_4
      replace p215 := eq_true p215
      replace q215 := eq_true q215
      have p216 : 0 ≤ (x6_1 : Int) := of_decide_eq_true (by first | (with_reducible assumption) | assumption)
      have q216 : x6_1 < (l0.length : Int) := of_decide_eq_true (by first | (with_reducible assumption) | assumption)
      obtain ⟨ad216, e216, hx216_0, hx216_1, hx216_2, hx216_3, hx216_4⟩ := qf_ HR0.out x6_1 p216 q216
      obtain rfl : ad215 = ad216 := (by injection e216)
      replace hx216_0 := (HB.out.cell (World.block_lt_of_cell? w _ hx216_0)).trans hx216_0
      replace hx216_1 := (HB.out.cell (World.block_lt_of_cell? w _ hx216_1)).trans hx216_1
      replace hx216_2 := (HB.out.cell (World.block_lt_of_cell? w _ hx216_2)).trans hx216_2
      replace hx216_3 := (HB.out.cell (World.block_lt_of_cell? w _ hx216_3)).trans hx216_3
      replace hx216_4 := (HB.out.cell (World.block_lt_of_cell? w _ hx216_4)).trans hx216_4
      replace p216 := eq_true p216
      replace q216 := eq_true q216
      go_wp2_with (first | ((with_reducible refine tg_ (b := .append) (xs := #[.tmp 20, .tmp 25]) rfl ?_); at_builtin; refine Kd.R_append k31 (w0 := w) w.heap.size rfl (.tmp 20) (.tmp 25) 29 31 (.agg #[(.int .i64 0), (.int .i64 0), (.int .i64 0), (.int .i64 0), (.int .i64 0)]) 40 rfl Tryz.underlying29 info31 rfl (by decide) (by omega) u5 x5_1 (⟨(ra_ l0 x6_1).f0, (ra_ l0 x6_1).f1, (ra_ l0 x6_1).f2, (ra_ l0 x6_1).f3, (ra_ l0 x6_1).f4⟩ : S31) [.int .i64 ((ra_ l0 x6_1).f0), .int .i64 ((ra_ l0 x6_1).f1), .int .i64 ((ra_ l0 x6_1).f2), .int .i64 ((ra_ l0 x6_1).f3), .int .i64 ((ra_ l0 x6_1).f4)] (fun _ => True) (fun _ => False) rfl rfl ?aP (fun _ hk => hk.elim) ?aF ?aO ?aB ?aS ?aL ?_; (case aP => exact vd_ _ _ _ (⟨(ra_ l0 x6_1).f0, (ra_ l0 x6_1).f1, (ra_ l0 x6_1).f2, (ra_ l0 x6_1).f3, (ra_ l0 x6_1).f4⟩ : S31)); (case aB => exact (by repeat (first | (with_reducible first | exact HB.out | apply ba_ | apply aa_ | apply da_) | exact HB.out))); (case aF => exact (fun _ _ => trivial)); (case aO => exact (by (with_reducible repeat (first | apply Kd.R_alloc | apply Kd.R_drewN | apply Kd.R_drew)); exact HO_5.out)); (case aS => exact (na_ (by repeat (first | (with_reducible first | exact HB.out | apply ba_ | apply aa_ | apply da_) | exact HB.out)))); (case aL => have := LMc6.out; omega); intro v218 w7 ho hb hg hat; rw [← Ny217.out] at ho; have n0_ := Aside0.mk (hb); have n1_ := Aside0.mk (ho); clear HB; clear HO_5; have HB := n0_; have HO219 := n1_; clear n0_ n1_; clear ho hb hg hat))
      go_roundg k1
      case measure => have := HK1.out; omega
      case rel => exact ⟨(y217), (wrap64 (x6_1 + 1)), (by first | rfl | (simp; done) | (simp [*]; done)), H', ⟨by have := HK1.out; omega⟩, ⟨by (with_reducible repeat (first | apply Kd.R_alloc | apply Kd.R_drewN | apply Kd.R_drew)); exact HO219.out⟩, ⟨by repeat (first | (with_reducible first | exact HB.out | apply ba_ | apply aa_ | apply da_) | exact HB.out)⟩⟩
     rw [if_neg c6] at H
     exact absurd H (by simp)
    rw [if_neg c5] at H
    have c5b0 : (((ra_ l0 x6_1).f0) == a1) = false := beq_eq_false_iff_ne.mpr c5
    have c5b1 : (((ra_ l0 x6_1).f0) != a1) = true := bne_iff_ne.mpr c5
    have H' := Aside0.mk H
    clear H
    have p215 : 0 ≤ (x6_1 : Int) := of_decide_eq_true (by first | (with_reducible assumption) | assumption)
    have q215 : x6_1 < (l0.length : Int) := of_decide_eq_true (by first | (with_reducible assumption) | assumption)
    obtain ⟨ad215, e215, hx215_0, hx215_1, hx215_2, hx215_3, hx215_4⟩ := qf_ HR0.out x6_1 p215 q215
    cases e215
    replace hx215_0 := (HB.out.cell (World.block_lt_of_cell? w _ hx215_0)).trans hx215_0
    replace hx215_1 := (HB.out.cell (World.block_lt_of_cell? w _ hx215_1)).trans hx215_1
    replace hx215_2 := (HB.out.cell (World.block_lt_of_cell? w _ hx215_2)).trans hx215_2
    replace hx215_3 := (HB.out.cell (World.block_lt_of_cell? w _ hx215_3)).trans hx215_3
    replace hx215_4 := (HB.out.cell (World.block_lt_of_cell? w _ hx215_4)).trans hx215_4
    replace p215 := eq_true p215
    replace q215 := eq_true q215
    go_wp2
    go_roundg k1
    case measure => have := HK1.out; omega
    case rel => exact ⟨(x5_1), (wrap64 (x6_1 + 1)), (by first | rfl | (simp; done) | (simp [*]; done)), H', ⟨by have := HK1.out; omega⟩, ⟨by (with_reducible repeat (first | apply Kd.R_alloc | apply Kd.R_drewN | apply Kd.R_drew)); exact HO_5.out⟩, ⟨by repeat (first | (with_reducible first | exact HB.out | apply ba_ | apply aa_ | apply da_) | exact HB.out)⟩⟩
   rw [if_neg c4] at H
   exact absurd H (by simp)
  rw [if_neg c3] at H
  have c3b0 : decide (x6_1 < (l0.length : Int)) = false := decide_eq_false c3
  clear c3
  obtain rfl := Option.some.inj H
  go_wp2
  go_ret
  exact ⟨_, by first | rfl | (simp [wa_, va_] <;> rfl) | (simp [*, wa_, va_] <;> rfl), by (with_reducible repeat (first | apply Kd.R_alloc | apply Kd.R_drewN | apply Kd.R_drew)); exact HO_5.out, by repeat (first | (with_reducible first | exact HB.out | apply ba_ | apply aa_ | apply da_) | exact HB.out)⟩
theorem eqA31 (d : Nat) (w : World) (x0 y0 : Int) (x1 y1 : Int) (x2 y2 : Int) (x3 y3 : Int) (x4 y4 : Int) :
  (Op.equalIn (d + 2) 31 (.agg #[.int .i64 x0, .int .i64 x1, .int .i64 x2, .int .i64 x3, .int .i64 x4]) (.agg #[.int .i64 y0, .int .i64 y1, .int .i64 y2, .int .i64 y3, .int .i64 y4])).run Tryz.prog w = .ok (x0 == y0 && (x1 == y1 && (x2 == y2 && (x3 == y3 && (x4 == y4))))) w := by
 refine eqA_of Tryz.underlying31 (by kernel_rfl) ?_
 refine kj_ (by rfl) (by go_simp; rfl) (by go_simp; rfl) (by go_simp) ?_
 refine kj_ (by rfl) (by go_simp; rfl) (by go_simp; rfl) (by go_simp) ?_
 refine kj_ (by rfl) (by go_simp; rfl) (by go_simp; rfl) (by go_simp) ?_
 refine kj_ (by rfl) (by go_simp; rfl) (by go_simp; rfl) (by go_simp) ?_
 exact eqf_last (by rfl) (by go_simp; rfl) (by go_simp; rfl) (by go_simp)
end Go.Proofs.YtjfbfhoipgldgaaGreat.P
end
section
namespace Go.Proofs.YtjfbfhoipgldgaaGreat.P
open Go.RowKit Go.Proofs.YtjfbfhoipgldgaaGreatW.PrintWords Go.Proofs.YtjfbfhoipgldgaaGreatW.PrintLast Go.Proofs.YtjfbfhoipgldgaaGreatW.PrintMore
attribute [local go_sem] ob_ lb_ vb_ ub_ db_ cb_ nb_ kb_   
set_option linter.unusedVariables false
set_option linter.unusedSimpArgs false
end Go.Proofs.YtjfbfhoipgldgaaGreat.P
end
section
namespace Go.Proofs.YtjfbfhoipgldgaaGreat.P
open Go.RowKit Go.Proofs.YtjfbfhoipgldgaaGreatW.PrintWords Go.Proofs.YtjfbfhoipgldgaaGreatW.PrintLast Go.Proofs.YtjfbfhoipgldgaaGreatW.PrintMore
attribute [local go_sem] ob_ lb_ vb_ ub_ db_ cb_ nb_ kb_   
set_option linter.unusedVariables false
set_option linter.unusedSimpArgs false
def badR (done : Int → Bool) (s : Int) (r : qa_) : Bool := decide (r.f0 = s) && (decide (r.f1.length = 1) && (decide (0 ≤ r.f1.getD 0 0) && !done (r.f1.getD 0 0)))
def ff_ (done : Int → Bool) (s : Int) (l : List qa_) : Bool := !done s && !(l.any (badR done s))
theorem xo_ (done : Int → Bool) (s : Int) (l : List qa_) (k : Nat) (h : k < l.length) : ff_ done s (l.take (k + 1)) = (ff_ done s (l.take k) && !badR done s l[k]) := by
 unfold ff_
 rw [List.take_succ_eq_append_getElem h, List.any_append]
 simp [Bool.and_assoc]
theorem rq_ (rules : List qa_) (hr : rules.all tc_ = true) (out : List Int) (done : Int → Bool) (hd : ∀ x, ac_ x → (done x = true ↔ x ∈ out)) (s : Int) (hs : ac_ s) : ff_ done s rules = true ↔ gd_ (dc_ rules) out s = true ∧ s ∉ out := by
 unfold ff_ gd_
 rw [mh_]
 simp only [Bool.and_eq_true, Bool.not_eq_true', List.any_eq_false, Bool.not_eq_true, Bool.not_eq_false', decide_eq_true_eq]
 constructor
 ·rintro ⟨h1, h2⟩
  refine ⟨fun y hy => ?_, fun h => ?_⟩
  ·obtain ⟨q1, r, q2, q3, q4⟩ := (od_ rules s hs y).1 hy
   have h3 := h2 r q2
   unfold badR at h3
   rw [q3, q4, decide_eq_true rfl] at h3
   have h4 : (0 : Int) ≤ y := q1.1
   simp [h4] at h3
   have h5 : y ∈ out := (hd y q1).1 h3
   simpa using h5
  rw [(hd s hs).2 h] at h1
  cases h1
 rintro ⟨h1, h2⟩
 refine ⟨?_, fun r hrm => ?_⟩
 ·cases hds : done s
  ·rfl
  exact absurd ((hd s hs).1 hds) h2
 cases hb : badR done s r
 ·rfl
 unfold badR at hb
 simp only [Bool.and_eq_true, decide_eq_true_eq, Bool.not_eq_true'] at hb
 obtain ⟨b1, b2, b3, b4⟩ := hb
 obtain ⟨y, hy⟩ : ∃ y, r.f1 = [y] := List.length_eq_one_iff.1 b2
 rw [hy] at b3 b4
 have b3' : 0 ≤ y := b3
 have b4' : done y = false := b4
 have hsy : ac_ y := ⟨b3', ((dd_ r (List.all_eq_true.1 hr r hrm)).2.2.1 y (by rw [hy]; exact List.mem_singleton.2 rfl)).2⟩
 have h6 := h1 y ((od_ rules s hs y).2 ⟨hsy, r, hrm, b1, hy⟩)
 have this : y ∈ out := by simpa using h6
 rw [(hd y hsy).2 this] at b4'
 cases b4'
end Go.Proofs.YtjfbfhoipgldgaaGreat.P
end
section
namespace Go.Proofs.YtjfbfhoipgldgaaGreat.P
open Go.RowKit Go.Proofs.YtjfbfhoipgldgaaGreatW.PrintWords Go.Proofs.YtjfbfhoipgldgaaGreatW.PrintLast Go.Proofs.YtjfbfhoipgldgaaGreatW.PrintMore
attribute [local go_sem] ob_ lb_ vb_ ub_ db_ cb_ nb_ kb_   
set_option linter.unusedVariables false
set_option linter.unusedSimpArgs false
attribute [local go_sem] Oper.semAt_some
def DoneBlk (W : World) (g : Nat) (out : List Int) : Prop := ∃ vals : Array Value, W.heap[g]? = some (.cells vals 74 (0, 0)) ∧ vals.size = 20 ∧ ∀ i : Nat, i < 20 → vals[i]? = some (.bool (decide ((i : Int) ∈ out)))
theorem DoneBlk.cell {W : World} {g : Nat} {out : List Int} (h : DoneBlk W g out) (i : Nat) (hi : i < 20) : W.cell? ⟨g, i, none⟩ = some (.bool (decide ((i : Int) ∈ out))) := by
 obtain ⟨vals, h1, _, h3⟩ := h
 exact (ca_ h1 i).trans (h3 i hi)
theorem DoneBlk.below {W W1 : World} {g : Nat} {out : List Int} (h : DoneBlk W g out) (hb : Below W.heap.size W W1) : DoneBlk W1 g out := by
 obtain ⟨vals, h1, h2, h3⟩ := h
 exact ⟨vals, ya_ h1 hb, h2, h3⟩
theorem DoneBlk.frozen {W : World} {g : Nat} {out : List Int} (h : DoneBlk W g out) (i : Nat) : W.frozen? ⟨g, i, none⟩ = false := by
 obtain ⟨vals, h1, _, _⟩ := h
 exact fa_ h1 i
theorem DoneBlk.put {W : World} {g : Nat} {out : List Int} (h : DoneBlk W g out) (i : Nat) (hi : i < 20) : DoneBlk (W.setCell ⟨g, i, none⟩ (.bool true)) g (out ++ [(i : Int)]) := by
 obtain ⟨vals, h1, h2, h3⟩ := h
 refine ⟨_, xf_ h1 i (.bool true), by simpa using h2, fun j hj => ?_⟩
 rw [Array.getElem?_setIfInBounds]
 by_cases e : i = j
 ·subst e
  rw [if_pos rfl, if_pos (by omega), decide_eq_true (by simp)]
 rw [if_neg e, h3 j hj]
 congr 2
 rw [decide_eq_decide, List.mem_append, List.mem_singleton]
 constructor
 ·exact fun h => .inl h
 rintro (h | h)
 ·exact h
 omega
set_option maxHeartbeats 4000000 in
set_option maxRecDepth 100000 in
theorem zq_ (A0 : Option Addr) (c0 : Nat) (rules : List qa_) (w : World) (hr0 : Kd.C k48 w A0 rules.length rules) (hc0 : rules.length ≤ c0) (hch : bb_ rules = true) :
  Calls Tryz.prog 39 #[.slice A0 rules.length c0] w fun e w' => ∃ (v : Value) (ord : List Int), e = .returned v ∧ Kd.R (Kd.int .i64) 3 w' w.heap.size (fun _ => True) v ord ∧ OutOk (dc_ rules) ord ∧ ord.length = (dc_ rules).length ∧ Below w.heap.size w w' := by
 have HR := Aside0.mk hr0
 have HCH := Aside0.mk hch
 have HF := Aside0.mk (or_ rules hch)
 have HO0 := Aside0.mk (OutOk.nil (dc_ rules))
 clear hr0 hch
 go_enter Tryz.func39, Tryz.ntmps39
 go_wp2
 have HB0 := Aside0.mk (ba_ (Below.refl w.heap.size w) (.cells #[.bool false, .bool false, .bool false, .bool false, .bool false, .bool false, .bool false, .bool false, .bool false, .bool false, .bool false, .bool false, .bool false, .bool false, .bool false, .bool false, .bool false, .bool false, .bool false, .bool false] 74))
 have HD0 : Aside0 (DoneBlk (w.alloc (.cells #[.bool false, .bool false, .bool false, .bool false, .bool false, .bool false, .bool false, .bool false, .bool false, .bool false, .bool false, .bool false, .bool false, .bool false, .bool false, .bool false, .bool false, .bool false, .bool false, .bool false] 74)) w.heap.size []) := ⟨_, qb_ w _, rfl, fun i hi => by
  have e : (#[Value.bool false, .bool false, .bool false, .bool false, .bool false, .bool false, .bool false, .bool false, .bool false, .bool false, .bool false, .bool false, .bool false, .bool false, .bool false, .bool false, .bool false, .bool false, .bool false, .bool false] : Array Value) = Array.replicate 20 (Value.bool false) := rfl
  rw [decide_eq_false (by simp), e]
  simp [hi]⟩
 have HR0 : Aside0 (Kd.R (Kd.int .i64) 3 (w.alloc (.cells #[.bool false, .bool false, .bool false, .bool false, .bool false, .bool false, .bool false, .bool false, .bool false, .bool false, .bool false, .bool false, .bool false, .bool false, .bool false, .bool false, .bool false, .bool false, .bool false, .bool false] 74)) w.heap.size (fun k => k ≠ w.heap.size) (.slice none 0 0) ([] : List Int)) := ⟨Kd.R_nil _ _ _ _ _⟩
 obtain ⟨g, hg⟩ : ∃ g, g = w.heap.size := ⟨_, rfl⟩
 go_loopg [3] 20 (fun gg s3 wr => ∃ (out : List Int), 20 - out.length ≤ gg ∧ Aside0 (OutOk (dc_ rules) out) ∧ Aside0 (DoneBlk wr w.heap.size out) ∧ Aside0 (Kd.R (Kd.int .i64) 3 wr w.heap.size (fun k => k ≠ w.heap.size) s3 out) ∧ Aside0 (Below w.heap.size w wr))
 case atStart => exact ⟨[], by simp, HO0, HD0, HR0, HB0⟩
 clear HO0 HD0 HR0 HB0
 obtain ⟨out, hgg, HO, HD, HV, HB⟩ := hrel
 obtain ⟨Ao, co, rfl⟩ := Kd.R_slice HV.out
 have hle := HO.out.len
 rw [hb_] at hle
 by_cases hlt : out.length < 20
 ·have hltz : (out.length : Int) < 20 := by omega
  have hltn : decide (out.length < 20) = true := decide_eq_true hlt
  have HG0 : Aside0 (Grow (dc_ rules) out out 0) := ⟨.inr ⟨rfl, fun j hj => absurd hj (Nat.not_lt_zero _)⟩⟩
  have hltb : decide ((out.length : Int) < 20) = true := decide_eq_true hltz
  have HV2 : Aside0 (∃ v, v = Value.slice Ao out.length co ∧ Kd.R (Kd.int .i64) 3 wr w.heap.size (fun k => k ≠ w.heap.size) v out) := ⟨_, rfl, HV.out⟩
  go_wp2
  go_loopg [3, 5] 20 (fun gg2 s3 s5 wr => ∃ (kk : Nat) (out2 : List Int), kk ≤ 20 ∧ 20 - kk ≤ gg2 ∧ s5 = .int .i64 kk ∧ Aside0 (OutOk (dc_ rules) out2) ∧ Aside0 (Grow (dc_ rules) out out2 kk) ∧ Aside0 (DoneBlk wr w.heap.size out2) ∧ Aside0 (Kd.R (Kd.int .i64) 3 wr w.heap.size (fun k => k ≠ w.heap.size) s3 out2) ∧ Aside0 (Below w.heap.size w wr))
  case atStart => exact ⟨0, out, Nat.zero_le _, by omega, rfl, HO, HG0, HD, HV, HB⟩
  clear HO HG0 HV2 HB HD HV
  obtain ⟨kk, out2, hkk, hgg2, rfl, HO, HG, HD, HV, HB⟩ := hrel
  obtain ⟨Ao2, co2, rfl⟩ := Kd.R_slice HV.out
  by_cases hkl : kk < 20
  ·have hklz : (kk : Int) < 20 := by omega
   have hcd := HD.out.cell kk hkl
   go_wp2
   clear hcd
   have HV3 : Aside0 (Kd.R (Kd.int .i64) 3 wr w.heap.size (fun k => k ≠ w.heap.size) (.slice Ao2 out2.length co2) out2) := ⟨HV.out⟩
   go_loopg [6, 7] rules.length (fun gg3 s6 s7 wr => ∃ ii : Nat, ii ≤ rules.length ∧ rules.length - ii ≤ gg3 ∧ s7 = .int .i64 ii ∧ s6 = .bool (ff_ (fun x => decide (x ∈ out2)) (kk : Int) (rules.take ii)) ∧ Aside0 (DoneBlk wr w.heap.size out2) ∧ Aside0 (Kd.R (Kd.int .i64) 3 wr w.heap.size (fun k => k ≠ w.heap.size) (.slice Ao2 out2.length co2) out2) ∧ Aside0 (Below w.heap.size w wr))
   case atStart => exact ⟨0, Nat.zero_le _, by omega, rfl, by simp [ff_], HD, HV3, HB⟩
   clear HD HV HV3 HB
   obtain ⟨ii, hii, hgg3, rfl, rfl, HD, HV, HB⟩ := hrel
   by_cases hil : ii < rules.length
   ·have hilz : (ii : Int) < (rules.length : Int) := by omega
    obtain ⟨ad, A1, c1, A3, c3, hA, h0, h1, h2, h3, h4, l1, g1, l3, g3⟩ := pf_ (Kd.C_below HR.out HB.out) (ii : Int) (by omega) hilz
    subst hA
    have hx : sb_ rules (ii : Int) = rules[ii] := by
     show rules.getD (ii : Int).toNat _ = _
     rw [Int.toNat_natCast, List.getD_eq_getElem?_getD, List.getElem?_eq_getElem hil]
     rfl
    have hsn := xo_ (fun x => decide (x ∈ out2)) (kk : Int) rules ii hil
    have hry : tc_ rules[ii] = true := List.all_eq_true.1 ((cc_ _).1 HCH.out).2.1 _ (List.getElem_mem hil)
    rw [← hx] at hsn hry
    generalize sb_ rules (ii : Int) = y at *
    rw [Int.toNat_natCast] at h0 h1 h2 h3 h4
    have hsym := Aside0.mk (dd_ y hry)
    have hlen : rules.length ≤ 60 := ((cc_ _).1 HCH.out).1
    have HSN := Aside0.mk hsn
    have HD1 := Aside0.mk (HD.out.below (ba_ (Below.refl _ _) (.cells #[.int .i64 y.f0, .slice A1 y.f1.length c1, .int .i64 y.f2.f0, .slice A3 y.f2.f1.length c3, .int .i64 y.f3] 48)))
    have HV1 : Aside0 (Kd.R (Kd.int .i64) 3 (wr.alloc (.cells #[.int .i64 y.f0, .slice A1 y.f1.length c1, .int .i64 y.f2.f0, .slice A3 y.f2.f1.length c3, .int .i64 y.f3] 48)) w.heap.size (fun k => k ≠ w.heap.size) (.slice Ao2 out2.length co2) out2) := ⟨Kd.R_alloc HV.out _⟩
    have HB1 := Aside0.mk (ba_ HB.out (.cells #[.int .i64 y.f0, .slice A1 y.f1.length c1, .int .i64 y.f2.f0, .slice A3 y.f2.f1.length c3, .int .i64 y.f3] 48))
    have HG1 := Aside0.mk (Kd.C_alloc g1 (.cells #[.int .i64 y.f0, .slice A1 y.f1.length c1, .int .i64 y.f2.f0, .slice A3 y.f2.f1.length c3, .int .i64 y.f3] 48))
    obtain ⟨rt, hrt⟩ : ∃ rt, ff_ (fun x => decide (x ∈ out2)) (kk : Int) (rules.take ii) = rt := ⟨_, rfl⟩
    have HRT := Aside0.mk hrt
    rw [hrt]
    clear hsn hx hry g1 g3 l1 l3 HD HV HB hrt
    by_cases b1 : y.f0 = (kk : Int)
    ·have e1 : (y.f0 == (kk : Int)) = true := by rw [b1]; simp
     have B1 := Aside0.mk b1
     clear b1
     by_cases b2 : y.f1.length = 1
     ·have e2 : ((y.f1.length : Int) == 1) = true := by rw [b2]; rfl
      obtain ⟨ad1, hA1, hcv⟩ := Kd.at_int HG1.out 0 (by omega) (by omega)
      subst hA1
      rw [show ad1.add (Int.toNat 0) = ad1 from rfl] at hcv
      have hpos : 0 < y.f1.length := by omega
      have hmem : rd y.f1 0 ∈ y.f1 := by
       obtain ⟨v, hv⟩ := List.length_eq_one_iff.1 b2
       rw [hv]
       exact List.mem_singleton.2 rfl
      have hv20 := (hsym.out.2.2.1 _ hmem).2
      have B2 := Aside0.mk b2
      have hgd : y.f1.getD 0 0 = rd y.f1 0 := rfl
      have HGD := Aside0.mk hgd
      generalize rd y.f1 0 = v at *
      clear b2 hmem hgd
      by_cases b3 : 0 ≤ v
      ·have e3 : decide (0 ≤ v) = true := decide_eq_true b3
       have hdc := HD1.out.cell v.toNat (by omega)
       rw [show ((v.toNat : Nat) : Int) = v by omega] at hdc
       have hbad : Aside0 (badR (fun x => decide (x ∈ out2)) (kk : Int) y = !decide (v ∈ out2)) := ⟨by unfold badR; rw [HGD.out, decide_eq_true B1.out, decide_eq_true B2.out, e3]; rfl⟩
       generalize decide (v ∈ out2) = dv at *
       cases dv
       ·go_wp2
        go_roundg (rules.length - (ii + 1))
        case measure => omega
        case rel => exact ⟨ii + 1, by omega, by omega, by go_num, by rw [HSN.out, HRT.out, hbad.out]; simp, HD1, HV1, HB1⟩
       go_wp2
       go_roundg (rules.length - (ii + 1))
       case measure => omega
       case rel => exact ⟨ii + 1, by omega, by omega, by go_num, by rw [HSN.out, HRT.out, hbad.out]; simp, HD1, HV1, HB1⟩
      have e3 : decide (0 ≤ v) = false := decide_eq_false b3
      have hbad : Aside0 (badR (fun x => decide (x ∈ out2)) (kk : Int) y = false) := ⟨by unfold badR; rw [HGD.out, e3]; simp⟩
      clear b3
      go_wp2
      go_roundg (rules.length - (ii + 1))
      case measure => omega
      case rel => exact ⟨ii + 1, by omega, by omega, by go_num, by rw [HSN.out, HRT.out, hbad.out]; simp, HD1, HV1, HB1⟩
     have e2 : ((y.f1.length : Int) == 1) = false := by simp; omega
     have hbad : Aside0 (badR (fun x => decide (x ∈ out2)) (kk : Int) y = false) := ⟨by unfold badR; rw [decide_eq_false b2]; simp⟩
     clear b2
     go_wp2
     go_roundg (rules.length - (ii + 1))
     case measure => omega
     case rel => exact ⟨ii + 1, by omega, by omega, by go_num, by rw [HSN.out, HRT.out, hbad.out]; simp, HD1, HV1, HB1⟩
    have e1 : (y.f0 == (kk : Int)) = false := by simpa using b1
    have hbad : Aside0 (badR (fun x => decide (x ∈ out2)) (kk : Int) y = false) := ⟨by unfold badR; rw [decide_eq_false b1]; rfl⟩
    clear b1
    go_wp2
    go_roundg (rules.length - (ii + 1))
    case measure => omega
    case rel => exact ⟨ii + 1, by omega, by omega, by go_num, by rw [HSN.out, HRT.out, hbad.out]; simp, HD1, HV1, HB1⟩
   have he : ii = rules.length := by omega
   have hilz : decide ((ii : Int) < (rules.length : Int)) = false := by simp; omega
   clear hgg3 hii
   subst he
   rw [List.take_of_length_le (Nat.le_refl _)]
   have hri := rq_ rules ((cc_ _).1 HCH.out).2.1 out2 (fun x => decide (x ∈ out2)) (fun x _ => by simp) (kk : Int) ⟨by omega, hklz⟩
   obtain ⟨rt, hrt⟩ : ∃ rt, ff_ (fun x => decide (x ∈ out2)) (kk : Int) rules = rt := ⟨_, rfl⟩
   rw [hrt] at hri ⊢
   have HRI := Aside0.mk hri
   clear hri hrt
   cases rt
   ·have HGN := Aside0.mk (HG.out.same (fun h => by have := HRI.out.2 ⟨h.2, h.1⟩; cases this))
    go_wp2
    go_roundg (20 - (kk + 1))
    case measure => omega
    case rel => exact ⟨kk + 1, out2, by omega, by omega, by go_num, HO, HGN, HD, HV, HB⟩
   have HGN := Aside0.mk (HG.out.more (kk : Int))
   have HON := Aside0.mk (HO.out.snoc (kk : Int) ⟨by omega, by rw [hb_]; exact hklz⟩ (HRI.out.1 rfl).1 (HRI.out.1 rfl).2)
   have hcd := HD.out.cell kk hkl
   have hfd := HD.out.frozen kk
   have hlen2 : out2.length ≤ 20 := by have := HO.out.len; rw [hb_] at this; exact this
   have HD4 := Aside0.mk (HD.out.put kk hkl)
   have HB4 : Aside0 (Below w.heap.size w (wr.setCell ⟨w.heap.size, kk, none⟩ (.bool true))) := ⟨HB.out.setCell (p := ⟨w.heap.size, kk, none⟩) (Nat.le_refl _) _⟩
   have HV4 : Aside0 (Kd.R (Kd.int .i64) 3 (wr.setCell ⟨w.heap.size, kk, none⟩ (.bool true)) w.heap.size (fun k => k ≠ w.heap.size) (.slice Ao2 out2.length co2) out2) := ⟨Kd.R_far HV.out (fun k hk => hk) _⟩
   go_wp2_with (at_builtin; go_loud (refine Kd.R_append (Kd.int .i64) (w0 := w) w.heap.size rfl (.tmp 59) (.tmp 61) 23 3 (.int .i64 0) 8 rfl Tryz.underlying23 ae_ rfl (by decide) (by omega) (.slice Ao2 out2.length co2) out2 (kk : Int) [.int .i64 (kk : Int)] (fun k => k ≠ w.heap.size) (fun _ => False) rfl (congrArg (fun n => Value.slice (some ⟨n, 0, none⟩) 1 1) (show wr.heap.size = (wr.setCell ⟨w.heap.size, kk, none⟩ (.bool true)).heap.size by simp)) rfl (fun _ hk => hk.elim) (fun k hk => by obtain ⟨vals, hv, _⟩ := HD4.out; have := kc_ hv; omega) HV4.out HB4.out HB4.out.size (by omega) ?_); intro v5 w5 ho hb5 hg5 hat; have ho' : Kd.R (Kd.int .i64) 3 w5 w.heap.size (fun k => k ≠ w.heap.size) v5 (out2 ++ [(kk : Int)]) := ho; have HV5 := Aside0.mk ho'; have HB5 := Aside0.mk hb5; have HD5 : Aside0 (DoneBlk w5 w.heap.size (out2 ++ [(kk : Int)])) := ⟨(by obtain ⟨vals, q1, q2, q3⟩ := HD4.out; exact ⟨vals, xa_ q1 hg5 (fun e => HV4.out.1 _ e.symm rfl), q2, q3⟩)⟩; clear ho ho' hb5 hg5 hat)
   go_roundg (20 - (kk + 1))
   case measure => omega
   case rel => exact ⟨kk + 1, out2 ++ [(kk : Int)], by omega, by omega, by go_num, HON, HGN, HD5, HV5, HB5⟩
  have hkkz : decide ((kk : Int) < 20) = false := by simp; omega
  have hgr : out.length < out2.length := by
   rcases HG.out with h | ⟨rfl, h⟩
   ·exact h
   obtain ⟨x, hx, h1, h2⟩ := HF.out.more HO.out (by rw [hb_]; exact hlt)
   rw [hb_] at hx
   exact absurd ⟨h1, h2⟩ (h x (by omega))
  have hl2 := HO.out.len
  rw [hb_] at hl2
  go_wp2
  go_roundg (20 - out2.length)
  case measure => omega
  case rel => exact ⟨out2, Nat.le_refl _, HO, HD, HV, HB⟩
 have hltb : decide ((out.length : Int) < 20) = false := by simp; omega
 have HLL : Aside0 (out.length = (dc_ rules).length) := ⟨by rw [hb_]; omega⟩
 go_wp2
 go_ret
 exact ⟨_, out, rfl, Kd.R_mono HV.out (fun _ _ => trivial), HO.out, HLL.out, HB.out⟩
end Go.Proofs.YtjfbfhoipgldgaaGreat.P
end
section
namespace Go.Proofs.YtjfbfhoipgldgaaGreat.P
open Go.RowKit Go.Proofs.YtjfbfhoipgldgaaGreatW.PrintWords Go.Proofs.YtjfbfhoipgldgaaGreatW.PrintLast Go.Proofs.YtjfbfhoipgldgaaGreatW.PrintMore
attribute [local go_sem] ob_ lb_ vb_ ub_ db_ cb_ nb_ kb_   
set_option linter.unusedVariables false
set_option linter.unusedSimpArgs false
def IntBlk (W : World) (b : Nat) (m : Nat) (f : Nat → Nat) : Prop := ∃ vals : Array Value, W.heap[b]? = some (.cells vals 3 (0, 0)) ∧ vals.size = m ∧ ∀ i : Nat, i < m → vals[i]? = some (.int .i64 (f i : Int))
theorem IntBlk.cell {W : World} {b m : Nat} {f : Nat → Nat} (h : IntBlk W b m f) (i : Nat) (hi : i < m) : W.cell? ⟨b, i, none⟩ = some (.int .i64 (f i : Int)) := by
 obtain ⟨vals, h1, _, h3⟩ := h
 exact (ca_ h1 i).trans (h3 i hi)
theorem IntBlk.lt {W : World} {b m : Nat} {f : Nat → Nat} (h : IntBlk W b m f) : b < W.heap.size := by
 obtain ⟨vals, h1, _, _⟩ := h
 exact kc_ h1
theorem IntBlk.frozen {W : World} {b m : Nat} {f : Nat → Nat} (h : IntBlk W b m f) (i : Nat) : W.frozen? ⟨b, i, none⟩ = false := by
 obtain ⟨vals, h1, _, _⟩ := h
 exact fa_ h1 i
theorem IntBlk.below {W W1 : World} {b m : Nat} {f : Nat → Nat} (h : IntBlk W b m f) (hb : Below W.heap.size W W1) : IntBlk W1 b m f := by
 obtain ⟨vals, h1, h2, h3⟩ := h
 exact ⟨vals, ya_ h1 hb, h2, h3⟩
theorem IntBlk.alloc {W : World} {b m : Nat} {f : Nat → Nat} (h : IntBlk W b m f) (o : Obj) : IntBlk (W.alloc o) b m f := h.below (ba_ (Below.refl _ _) o)
theorem IntBlk.put {W : World} {b m : Nat} {f : Nat → Nat} (h : IntBlk W b m f) (i : Nat) (hi : i < m) (v : Nat) : IntBlk (W.setCell ⟨b, i, none⟩ (.int .i64 (v : Int))) b m (fun j => if j = i then v else f j) := by
 obtain ⟨vals, h1, h2, h3⟩ := h
 refine ⟨_, xf_ h1 i (.int .i64 (v : Int)), by simpa using h2, fun j hj => ?_⟩
 rw [Array.getElem?_setIfInBounds]
 by_cases e : i = j
 ·subst e
  rw [if_pos rfl, if_pos (by omega)]
  simp
 rw [if_neg e, h3 j hj]
 have e2 : ¬ j = i := fun e2 => e e2.symm
 simp [e2]
theorem IntBlk.far {W : World} {b m : Nat} {f : Nat → Nat} (h : IntBlk W b m f) (g i : Nat) (hg : b ≠ g) (v : Value) : IntBlk (W.setCell ⟨g, i, none⟩ v) b m f := by
 obtain ⟨vals, h1, h2, h3⟩ := h
 exact ⟨vals, (heap_setCell_other W ⟨g, i, none⟩ b v hg).trans h1, h2, h3⟩
theorem IntBlk.congr {W : World} {b m : Nat} {f g : Nat → Nat} (h : IntBlk W b m f) (he : ∀ i, i < m → f i = g i) : IntBlk W b m g := by
 obtain ⟨vals, h1, h2, h3⟩ := h
 exact ⟨vals, h1, h2, fun i hi => by rw [h3 i hi, he i hi]⟩
theorem IntBlk.new (W : World) (m : Nat) : IntBlk (W.alloc (.cells (madeCells #[.int .i64 0] m) 3)) W.heap.size m (fun _ => 0) :=
 ⟨_, qb_ W _, by simp [size_madeCells], fun i hi => by simp [madeCells, hi, Nat.mod_one]⟩
theorem make7 (m : Nat) (hm : m ≤ 1000000000) : ∀ W : World, (Instr.makeSlice 23 (.int .i64 (m : Int)) (.int .i64 (m : Int))).run Tryz.prog W = .ok (.slice (some ⟨W.heap.size, 0, none⟩) m m) (W.alloc (.cells (madeCells #[.int .i64 0] m) 3)) :=
 qs_ 23 3 .i64 8 Tryz.underlying23 ae_ (by decide) m (by omega)
def atP (toks : List Tok') (q : Nat) : List Tok' := toks.filter fun t => decide (t.f0 = (q : Int))
def tkN (l : List Tok') (x : Int) (z : Nat) (k : Nat) : Nat := ((l.take k).filter fun t => decide (t.f2 = -1 - x ∧ t.f1 = (z : Int))).length
theorem tkN_zero (l : List Tok') (x : Int) (z : Nat) : tkN l x z 0 = 0 := rfl
theorem tkN_succ (l : List Tok') (x : Int) (z k : Nat) (hk : k < l.length) : tkN l x z (k + 1) = tkN l x z k + if l[k].f2 = -1 - x ∧ l[k].f1 = (z : Int) then 1 else 0 := by
 unfold tkN
 rw [List.take_succ_eq_append_getElem hk, List.filter_append, List.length_append]
 by_cases h : l[k].f2 = -1 - x ∧ l[k].f1 = (z : Int)
 ·rw [if_pos h, List.filter_cons_of_pos (by simpa using h)]
  rfl
 rw [if_neg h, List.filter_cons_of_neg (by simpa using h)]
 rfl
theorem tkN_all (toks : List Tok') (x : Int) (q z : Nat) : tkN (atP toks q) x z (atP toks q).length = tokT toks x q z := by
 unfold tkN atP tokT pd_
 rw [List.take_length, List.filter_filter]
 congr 1
 refine List.filter_congr fun t _ => ?_
 rw [Bool.eq_iff_iff]
 simp only [Bool.and_eq_true, decide_eq_true_eq]
 constructor
 ·rintro ⟨⟨h1, h2⟩, h3⟩
  rw [h1, h2, h3]
 intro h
 injection h with h1 h
 injection h with h2 h3
 exact ⟨⟨h1, h3⟩, h2⟩
def ed_ (W : Nat → Nat) (G : Nat → Nat → Nat) (q z : Nat) : Nat := Chart.sumTo q fun m => W m * G m z
theorem qg_ (W : Nat → Nat) (G : Nat → Nat → Nat) (q z : Nat) : ed_ W G (q + 1) z = ed_ W G q z + W q * G q z := Chart.sumTo_succ _ _
theorem hs_ (W : Nat → Nat) (G : Nat → Nat → Nat) (q z : Nat) (h : W q = 0) : ed_ W G (q + 1) z = ed_ W G q z := by rw [qg_, h, Nat.zero_mul, Nat.add_zero]
theorem kq_ (W : Nat → Nat) (G : Nat → Nat → Nat) (p z : Nat) (h : ∀ m, m < p → W m = 0) : ed_ W G p z = 0 := Chart.sumTo_zero fun i hi => by rw [h i hi, Nat.zero_mul]
def zh_ (T : Int → Nat → Nat → Nat) (n : Nat) (F : Int → Nat → Nat → Nat) (l : List Int) (p k z : Nat) : Nat := Chart.ways T n F (l.take k) p z
theorem zr_ (T : Int → Nat → Nat → Nat) (n : Nat) (F : Int → Nat → Nat → Nat) (l : List Int) (p k : Nat) (hk : k < l.length) (z : Nat) : zh_ T n F l p (k + 1) z = ed_ (zh_ T n F l p k) (Chart.E T F l[k]) (n + 1) z := by
 unfold zh_ ed_
 rw [List.take_succ_eq_append_getElem hk, Chart.ways_snoc]
theorem su_ (T : Int → Nat → Nat → Nat) (n : Nat) (F : Int → Nat → Nat → Nat) (hT : Chart.Fwd T) (hF : Chart.Fwd F) (l : List Int) (p k m : Nat) (hm : m < p) : zh_ T n F l p k m = 0 :=
 Classical.byContradiction fun e => by have := Chart.ways_len T n hT hF p _ m e; omega
end Go.Proofs.YtjfbfhoipgldgaaGreat.P
end
section
namespace Go.Proofs.YtjfbfhoipgldgaaGreat.P
open Go.RowKit Go.Proofs.YtjfbfhoipgldgaaGreatW.PrintWords Go.Proofs.YtjfbfhoipgldgaaGreatW.PrintLast Go.Proofs.YtjfbfhoipgldgaaGreatW.PrintMore
attribute [local go_sem] ob_ lb_ vb_ ub_ db_ cb_ nb_ kb_   
set_option linter.unusedVariables false
set_option linter.unusedSimpArgs false
attribute [local go_sem] Oper.semAt_some
structure T7 where
 tb : Nat
 cb : Nat
 cc : Nat
 n : Nat
 most : Nat
def T7.vals (P : T7) : Array Value := #[.int .i64 (P.n : Int), .slice (some ⟨P.cb, 0, none⟩) P.cc P.cc, .int .i64 (P.most : Int)]
def T7.Ok (P : T7) : Prop := P.n ≤ 1000 ∧ 1 ≤ P.most ∧ P.most ≤ 1000000000 ∧ P.cc = 20 * (P.n + 1) * (P.n + 1)
def T7.idx (P : T7) (s p q : Nat) : Nat := (s * (P.n + 1) + p) * (P.n + 1) + q
def T7.At (P : T7) (W : World) : Prop := W.heap[P.tb]? = some (.cells P.vals 68 (0, 0))
theorem T7.At.below {P : T7} {W W1 : World} (h : P.At W) (hb : Below W.heap.size W W1) : P.At W1 := ya_ h hb
theorem T7.idx_lt (P : T7) (s p q : Nat) (hs : s < 20) (hp : p ≤ P.n) (hq : q ≤ P.n) : P.idx s p q < 20 * (P.n + 1) * (P.n + 1) := by
 unfold T7.idx
 have e1 : s * (P.n + 1) + p < 20 * (P.n + 1) := by
  have : s * (P.n + 1) ≤ 19 * (P.n + 1) := Nat.mul_le_mul_right _ (by omega)
  omega
 have e2 : (s * (P.n + 1) + p + 1) * (P.n + 1) ≤ 20 * (P.n + 1) * (P.n + 1) := Nat.mul_le_mul_right _ e1
 rw [Nat.add_mul] at e2
 omega
theorem w64 (x : Int) (h0 : 0 ≤ x) (h1 : x ≤ 1000000000000000000) : wrap64 x = x := by rw [wrap64]; omega
theorem at7_num (P : T7) (hn : P.n ≤ 1000) (s p q : Nat) (hs : s < 20) (hp : p ≤ P.n) (hq : q ≤ P.n) : wrap64 (wrap64 (wrap64 (wrap64 ((s : Int) * ((P.n : Int) + 1)) + (p : Int)) * ((P.n : Int) + 1)) + (q : Int)) = ((P.idx s p q : Nat) : Int) := by
 unfold T7.idx
 have hN : P.n + 1 ≤ 1001 := Nat.succ_le_succ hn
 have hN1 : (P.n : Int) + 1 = ((P.n + 1 : Nat) : Int) := rfl
 have hpN : p ≤ 1001 := by omega
 have hqN : q ≤ 1001 := by omega
 generalize P.n + 1 = N at *
 have h1 : s * N ≤ 20 * 1001 := Nat.mul_le_mul (Nat.le_of_lt hs) hN
 rw [hN1, ← Int.natCast_mul]
 generalize s * N = a at *
 rw [w64 (a : Int) (by omega) (by omega), ← Int.natCast_add]
 have h2 : a + p ≤ 30000 := by omega
 generalize a + p = b at *
 rw [w64 (b : Int) (by omega) (by omega), ← Int.natCast_mul]
 have h3 : b * N ≤ 30000 * 1001 := Nat.mul_le_mul h2 hN
 generalize b * N = c at *
 rw [w64 (c : Int) (by omega) (by omega), ← Int.natCast_add]
 have h4 : c + q ≤ 40000000 := by omega
 generalize c + q = d at *
 rw [w64 (d : Int) (by omega) (by omega)]
set_option maxHeartbeats 4000000 in
set_option maxRecDepth 100000 in
theorem nj_ (P : T7) (hP : P.Ok) (W : World) (h : P.At W) (s p q : Nat) (hs : s < 20) (hp : p ≤ P.n) (hq : q ≤ P.n) :
  Calls Tryz.prog 23 #[.pointer (some ⟨P.tb, 0, none⟩), .int .i64 (s : Int), .int .i64 (p : Int), .int .i64 (q : Int)] W fun e W' => e = .returned (.int .i64 (P.idx s p q : Int)) ∧ Drawn0 W W' := by
 have c0 : W.cell? ⟨P.tb, 0, none⟩ = some (.int .i64 (P.n : Int)) := (ca_ h 0).trans rfl
 obtain ⟨hn, _, _, _⟩ := hP
 have HE := Aside0.mk (at7_num P hn s p q hs hp hq)
 clear h
 go_enter Tryz.func23, Tryz.ntmps23
 go_wp2
 go_quiet (fail)
 rw [HE.out]
 go_wp2
 go_ret
 exact ⟨rfl, ⟨⟨_, rfl⟩⟩⟩
set_option maxHeartbeats 4000000 in
set_option maxRecDepth 100000 in
theorem wh_ (P : T7) (hP : P.Ok) (W : World) (h : P.At W) (a : Nat) (ha : a ≤ 1000000000000000000) :
  Calls Tryz.prog 40 #[.pointer (some ⟨P.tb, 0, none⟩), .int .i64 (a : Int)] W fun e W' => e = .returned (.int .i64 (Chart.cap P.most a : Int)) ∧ Drawn0 W W' := by
 have c2 : W.cell? ⟨P.tb, 2, none⟩ = some (.int .i64 (P.most : Int)) := (ca_ h 2).trans rfl
 have HC : Aside0 (Chart.cap P.most a = min a P.most) := ⟨rfl⟩
 rw [HC.out]
 clear h HC
 go_enter Tryz.func40, Tryz.ntmps40
 go_wp2
 all_goals
  go_ret
  exact ⟨cj_ (by omega), ⟨⟨0, rfl⟩⟩⟩
set_option maxHeartbeats 4000000 in
set_option maxRecDepth 100000 in
theorem aq_ (P : T7) (hP : P.Ok) (W : World) (h : P.At W) (a b : Nat) (ha : a ≤ P.most) (hb : b ≤ P.most) :
  Calls Tryz.prog 71 #[.pointer (some ⟨P.tb, 0, none⟩), .int .i64 (a : Int), .int .i64 (b : Int)] W fun e W' => e = .returned (.int .i64 (Chart.cap P.most (a * b) : Int)) ∧ Drawn0 W W' := by
 have c2 : W.cell? ⟨P.tb, 2, none⟩ = some (.int .i64 (P.most : Int)) := (ca_ h 2).trans rfl
 have hm2 := hP.2.2.1
 have hab : a * b ≤ 1000000000 * 1000000000 := Nat.mul_le_mul (by omega) (by omega)
 have hw2 : wrap64 ((a : Int) * (b : Int)) = ((a * b : Nat) : Int) := by rw [← Int.natCast_mul]; exact w64 _ (by omega) (by omega)
 have HCAP := Aside0.mk (wh_ P hP)
 have HH := Aside0.mk h
 by_cases za : a = 0
 ·subst za
  have HZ : Aside0 (Chart.cap P.most (0 * b) = 0) := ⟨by rw [Nat.zero_mul]; exact Nat.zero_min _⟩
  rw [HZ.out]
  clear h hw2 HZ hab
  go_enter Tryz.func71, Tryz.ntmps71
  go_wp2
  go_ret
  exact ⟨rfl, ⟨⟨0, rfl⟩⟩⟩
 by_cases zb : b = 0
 ·subst zb
  have HZ : Aside0 (Chart.cap P.most (a * 0) = 0) := ⟨by rw [Nat.mul_zero]; exact Nat.zero_min _⟩
  have e1 : ((a : Int) == 0) = false := by simpa using za
  rw [HZ.out]
  clear h hw2 HZ hab za
  go_enter Tryz.func71, Tryz.ntmps71
  go_wp2
  go_ret
  exact ⟨rfl, ⟨⟨0, rfl⟩⟩⟩
 have e1 : ((a : Int) == 0) = false := by simpa using za
 have e2 : ((b : Int) == 0) = false := by simpa using zb
 have hdl : P.most / b ≤ P.most := Nat.div_le_self _ _
 have hmul : Aside0 (((a * b : Nat) : Int) = (a : Int) * (b : Int)) := ⟨Int.natCast_mul a b⟩
 have hq : Aside0 (((P.most / b : Nat) : Int) = (P.most : Int) / (b : Int)) := ⟨rfl⟩
 have hz : ∀ z : Nat, z ≤ P.most → wrap64 (z : Int) = (z : Int) := fun z hz => w64 _ (by omega) (by omega)
 have hqw : Aside0 (wrap64 ((P.most : Int) / (b : Int)) = (P.most : Int) / (b : Int)) := ⟨by rw [← hq.out]; exact hz _ hdl⟩
 have hcc : Aside0 (Chart.cap P.most (a * b) = min (a * b) P.most) := ⟨rfl⟩
 have hlt : Aside0 (P.most / b < a ↔ P.most < a * b) := ⟨Nat.div_lt_iff_lt_mul (by omega)⟩
 clear h hw2
 go_enter Tryz.func71, Tryz.ntmps71
 go_wp2
 all_goals
  have q1 := hmul.out
  have q2 := hq.out
  have q3 := hcc.out
  have q4 := hlt.out
  have q5 := hqw.out
  generalize (a : Int) * (b : Int) = x at *
  generalize (P.most : Int) / (b : Int) = y at *
  generalize P.most / b = z at *
  generalize a * b = c at *
  go_ret
  exact ⟨cj_ (by omega), ⟨⟨0, rfl⟩⟩⟩
end Go.Proofs.YtjfbfhoipgldgaaGreat.P
end
