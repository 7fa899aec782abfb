/- GramRight: whether any rule may be is the document's; so is one of which one thing was turned. Part 3: contracts of the functions that the law reaches, and words for them. -/
import Derived.Test.YtjomlfdkmdgclaaMRight2
section
namespace Go.Proofs.Ytjomlfdkmdgclaa.P
open Go.RowKit Go.Proofs.YtjomlfdkmdgclaaW.PrintWords Go.Proofs.YtjomlfdkmdgclaaW.PrintLast Go.Proofs.YtjomlfdkmdgclaaW.PrintMore
attribute [local go_sem] max2_int min2_int max_two min_two max_three min_three max_four min_four   
set_option linter.unusedVariables false
set_option linter.unusedSimpArgs false
def ruleA : Rule' := ⟨0, [1], ⟨0, [0]⟩, 0⟩
def ruleB : Rule' := ⟨1, [0], ⟨0, [0]⟩, 0⟩
theorem rightA : rightR ruleA = true := by decide
theorem check_nil : checkP [] = true := by
  rw [checkP_iff]
  refine ⟨by simp, rfl, fun x hx => no_round _ id (fun r hr => by cases hr) x hx⟩
theorem check_a : checkP [ruleA] = true := by
  rw [checkP_iff]
  refine ⟨by simp, by decide, fun x hx => no_round _ id (fun r hr y h _ _ => ?_) x hx⟩
  rw [List.mem_singleton.1 hr] at h ⊢
  have : y = 1 := by have := (List.cons.inj h).1; omega
  subst this
  decide
theorem check_ab : checkP [ruleA, ruleB] = false := by
  have : ¬ checkP [ruleA, ruleB] = true := by
    rw [checkP_iff]
    rintro ⟨_, _, h⟩
    have s1 : inSym 1 := ⟨by omega, by omega⟩
    refine h 0 inSym_zero (.step (x := 1) (.base ?_) ?_)
    · exact (mem_rowsNext _ 0 inSym_zero 1).2 ⟨s1, ruleA, by simp, rfl, rfl⟩
    · exact (mem_rowsNext _ 1 s1 0).2 ⟨inSym_zero, ruleB, by simp, rfl, rfl⟩
  simpa using this
theorem units_a : (unitsP [ruleA]).length = 20 ∧ (rd_L2 (unitsP [ruleA]) 0) = [1] := by decide
theorem reached_a : reachL (nextP [ruleA]) [0] = [0, 1] := by
  have h : ∀ y, Reach (nextP [ruleA]) [0] y ↔ y ∈ ([0, 1] : List Int) := by
    intro y
    constructor
    · intro h
      refine Reach.inv (P := fun y => y ∈ ([0, 1] : List Int)) (by simp) (fun x _ y hy => ?_) h
      obtain ⟨_, r, hr, _, h2⟩ := (mem_nextP _ x y).1 hy
      rw [List.mem_singleton.1 hr] at h2
      have : y = 1 := by simpa [ruleA] using h2
      simp [this]
    · intro h
      have h0 : Reach (nextP [ruleA]) [0] 0 := .base (by simp)
      rcases List.mem_cons.1 h with h | h
      · rw [h]; exact h0
      · rw [List.mem_singleton.1 h]
        exact .step h0 ((mem_nextP _ 0 1).2 ⟨⟨by omega, by omega⟩, ruleA, by simp, rfl, by simp [ruleA]⟩)
  have h2 : reachL (nextP [ruleA]) [0] = symbols.filter fun y => decide (y ∈ ([0, 1] : List Int)) := by
    unfold reachL
    refine List.filter_congr fun y _ => ?_
    exact decide_eq_decide.2 (h y)
  rw [h2]
  decide
structure KnownMem (w W : World) : Prop where
  a1 : W.heap[w.heap.size]? = some (.cells #[.int .i64 1] 3 (0, 0))
  a2 : W.heap[w.heap.size + 1]? = some (.cells #[.int .i64 0] 3 (0, 0))
  a : W.heap[w.heap.size + 1 + 1]? = some (.cells #[.int .i64 0, .slice (some ⟨w.heap.size, 0, none⟩) 1 1, .int .i64 0, .slice (some ⟨w.heap.size + 1, 0, none⟩) 1 1, .int .i64 0] 26 (0, 0))
  b1 : W.heap[w.heap.size + 1 + 1 + 1]? = some (.cells #[.int .i64 0] 3 (0, 0))
  b2 : W.heap[w.heap.size + 1 + 1 + 1 + 1]? = some (.cells #[.int .i64 0] 3 (0, 0))
  b : W.heap[w.heap.size + 1 + 1 + 1 + 1 + 1]? = some (.cells #[.int .i64 1, .slice (some ⟨w.heap.size + 1 + 1 + 1, 0, none⟩) 1 1, .int .i64 0, .slice (some ⟨w.heap.size + 1 + 1 + 1 + 1, 0, none⟩) 1 1, .int .i64 0] 26 (0, 0))
  bl : Below w.heap.size w W
theorem KnownMem.below {w W W1 : World} (h : KnownMem w W) (hb : Below W.heap.size W W1) : KnownMem w W1 :=
  ⟨blk_below h.a1 hb, blk_below h.a2 hb, blk_below h.a hb, blk_below h.b1 hb, blk_below h.b2 hb, blk_below h.b hb, h.bl.trans (hb.mono h.bl.size)⟩
theorem kn_int_of_blk {w : World} {b : Nat} {x : Int} (h : w.heap[b]? = some (.cells #[.int .i64 x] 3 (0, 0))) : Kd.C (Kd.int .i64) w (some ⟨b, 0, none⟩) 1 [x] :=
  kn_C_of_blk (d := Kd.int .i64) (xs := [x]) (cs := [.int .i64 x]) h (by simp) (kn_one rfl rfl)
theorem KnownMem.ka {w W : World} (h : KnownMem w W) : k26.K W ruleA [.int .i64 0, .slice (some ⟨w.heap.size, 0, none⟩) 1 1, .int .i64 0, .slice (some ⟨w.heap.size + 1, 0, none⟩) 1 1, .int .i64 0] :=
  k26_mk W ruleA (A1 := some ⟨w.heap.size, 0, none⟩) (c1 := 1) (Nat.le_refl _) (kn_int_of_blk h.a1) (A3 := some ⟨w.heap.size + 1, 0, none⟩) (c3 := 1) (Nat.le_refl _) (kn_int_of_blk h.a2)
theorem KnownMem.kb {w W : World} (h : KnownMem w W) : k26.K W ruleB [.int .i64 1, .slice (some ⟨w.heap.size + 1 + 1 + 1, 0, none⟩) 1 1, .int .i64 0, .slice (some ⟨w.heap.size + 1 + 1 + 1 + 1, 0, none⟩) 1 1, .int .i64 0] :=
  k26_mk W ruleB (A1 := some ⟨w.heap.size + 1 + 1 + 1, 0, none⟩) (c1 := 1) (Nat.le_refl _) (kn_int_of_blk h.b1) (A3 := some ⟨w.heap.size + 1 + 1 + 1 + 1, 0, none⟩) (c3 := 1) (Nat.le_refl _) (kn_int_of_blk h.b2)
theorem KnownMem.rowA {w W : World} (h : KnownMem w W) : Kd.C k26 (W.alloc (.cells #[.int .i64 0, .slice (some ⟨w.heap.size, 0, none⟩) 1 1, .int .i64 0, .slice (some ⟨w.heap.size + 1, 0, none⟩) 1 1, .int .i64 0] 26)) (some ⟨W.heap.size, 0, none⟩) [ruleA].length [ruleA] :=
  kn_C_of_blk (xs := [ruleA]) (blk_new W _) (by simp) (kn_one (h.below (below_alloc (Below.refl _ _) _)).ka rfl)
theorem KnownMem.rowAB {w W : World} (h : KnownMem w W) : Kd.C k26 (W.alloc (.cells #[.int .i64 0, .slice (some ⟨w.heap.size, 0, none⟩) 1 1, .int .i64 0, .slice (some ⟨w.heap.size + 1, 0, none⟩) 1 1, .int .i64 0, .int .i64 1, .slice (some ⟨w.heap.size + 1 + 1 + 1, 0, none⟩) 1 1, .int .i64 0, .slice (some ⟨w.heap.size + 1 + 1 + 1 + 1, 0, none⟩) 1 1, .int .i64 0] 26)) (some ⟨W.heap.size, 0, none⟩) [ruleA, ruleB].length [ruleA, ruleB] :=
  kn_C_of_blk (xs := [ruleA, ruleB]) (blk_new W _) (by simp) (kn_two (h.below (below_alloc (Below.refl _ _) _)).ka rfl (h.below (below_alloc (Below.refl _ _) _)).kb rfl)
theorem KnownMem.cellsA {w W : World} (h : KnownMem w W) : W.cell? ⟨w.heap.size + 1 + 1, 0, none⟩ = some (.int .i64 0) ∧ W.cell? ⟨w.heap.size + 1 + 1, 1, none⟩ = some (.slice (some ⟨w.heap.size, 0, none⟩) 1 1) ∧ W.cell? ⟨w.heap.size + 1 + 1, 2, none⟩ = some (.int .i64 0) ∧ W.cell? ⟨w.heap.size + 1 + 1, 3, none⟩ = some (.slice (some ⟨w.heap.size + 1, 0, none⟩) 1 1) ∧ W.cell? ⟨w.heap.size + 1 + 1, 4, none⟩ = some (.int .i64 0) :=
  ⟨blk_cell h.a 0, blk_cell h.a 1, blk_cell h.a 2, blk_cell h.a 3, blk_cell h.a 4⟩
theorem KnownMem.cellsB {w W : World} (h : KnownMem w W) : W.cell? ⟨w.heap.size + 1 + 1 + 1 + 1 + 1, 0, none⟩ = some (.int .i64 1) ∧ W.cell? ⟨w.heap.size + 1 + 1 + 1 + 1 + 1, 1, none⟩ = some (.slice (some ⟨w.heap.size + 1 + 1 + 1, 0, none⟩) 1 1) ∧ W.cell? ⟨w.heap.size + 1 + 1 + 1 + 1 + 1, 2, none⟩ = some (.int .i64 0) ∧ W.cell? ⟨w.heap.size + 1 + 1 + 1 + 1 + 1, 3, none⟩ = some (.slice (some ⟨w.heap.size + 1 + 1 + 1 + 1, 0, none⟩) 1 1) ∧ W.cell? ⟨w.heap.size + 1 + 1 + 1 + 1 + 1, 4, none⟩ = some (.int .i64 0) :=
  ⟨blk_cell h.b 0, blk_cell h.b 1, blk_cell h.b 2, blk_cell h.b 3, blk_cell h.b 4⟩
theorem kn_start (w : World) : KnownMem w ((((((w.alloc (.cells #[.int .i64 1] 3)).alloc (.cells #[.int .i64 0] 3)).alloc (.cells #[.int .i64 0, .slice (some ⟨w.heap.size, 0, none⟩) 1 1, .int .i64 0, .slice (some ⟨w.heap.size + 1, 0, none⟩) 1 1, .int .i64 0] 26)).alloc (.cells #[.int .i64 0] 3)).alloc (.cells #[.int .i64 0] 3)).alloc (.cells #[.int .i64 1, .slice (some ⟨w.heap.size + 1 + 1 + 1, 0, none⟩) 1 1, .int .i64 0, .slice (some ⟨w.heap.size + 1 + 1 + 1 + 1, 0, none⟩) 1 1, .int .i64 0] 26)) := by
  constructor
  case bl =>
    repeat apply below_alloc
    exact Below.refl _ _
  all_goals
    repeat (first | (refine kn_blk_at ?_; (simp; done)) | apply kn_blk_alloc)
def interlocutorlaw4_known.f : Option Bool := some true
set_option maxHeartbeats 4000000 in
set_option maxRecDepth 100000 in
theorem interlocutorlaw4_known.calls (r : Bool) (w : World) (h : interlocutorlaw4_known.f = some r) :
    Calls Try.prog 13 #[] w fun e w' => e = .returned (.bool r) ∧ Below w.heap.size w w' := by
  obtain rfl := Option.some.inj h
  clear h
  have HK := Aside0.mk (kn_start w)
  have HSZ := Aside0.mk (show ((((((w.alloc (.cells #[.int .i64 1] 3)).alloc (.cells #[.int .i64 0] 3)).alloc (.cells #[.int .i64 0, .slice (some ⟨w.heap.size, 0, none⟩) 1 1, .int .i64 0, .slice (some ⟨w.heap.size + 1, 0, none⟩) 1 1, .int .i64 0] 26)).alloc (.cells #[.int .i64 0] 3)).alloc (.cells #[.int .i64 0] 3)).alloc (.cells #[.int .i64 1, .slice (some ⟨w.heap.size + 1 + 1 + 1, 0, none⟩) 1 1, .int .i64 0, .slice (some ⟨w.heap.size + 1 + 1 + 1 + 1, 0, none⟩) 1 1, .int .i64 0] 26)).heap.size = w.heap.size + 1 + 1 + 1 + 1 + 1 + 1 by simp)
  obtain ⟨p0, p1, p2, p3, p4⟩ := HK.out.cellsA
  obtain ⟨q0, q1, q2, q3, q4⟩ := HK.out.cellsB
  go_enter Try.func13, Try.ntmps13
  go_wp2_with fail
  generalize ((((((w.alloc (.cells #[.int .i64 1] 3)).alloc (.cells #[.int .i64 0] 3)).alloc (.cells #[.int .i64 0, .slice (some ⟨w.heap.size, 0, none⟩) 1 1, .int .i64 0, .slice (some ⟨w.heap.size + 1, 0, none⟩) 1 1, .int .i64 0] 26)).alloc (.cells #[.int .i64 0] 3)).alloc (.cells #[.int .i64 0] 3)).alloc (.cells #[.int .i64 1, .slice (some ⟨w.heap.size + 1 + 1 + 1, 0, none⟩) 1 1, .int .i64 0, .slice (some ⟨w.heap.size + 1 + 1 + 1 + 1, 0, none⟩) 1 1, .int .i64 0] 26)) = W0 at *
  have hrow := HK.out.rowA
  rw [HSZ.out] at hrow
  refine (gram_Units.calls _ 1 [ruleA] (unitsP [ruleA]) _ hrow (Nat.le_refl _) (if_pos (by decide))).mono ?_
  rintro e w1 ⟨v1, rfl, hS, hb⟩
  obtain ⟨A1, c1, rfl, hc1, hC1⟩ := Kd.S_reads hS
  rw [units_a.1] at hc1 hC1 ⊢
  have HK1 := Aside0.mk (HK.out.below ((below_alloc (Below.refl _ _) _).trans (hb.mono (by simp))))
  have HU1 := Aside0.mk hC1
  clear hS hb hrow hC1 p0 p1 p2 p3 p4 q0 q1 q2 q3 q4 HSZ HK
  obtain ⟨p0, p1, p2, p3, p4⟩ := HK1.out.cellsA
  go_wp2_with fail
  refine (gram_Reached.calls _ 1 [ruleA] (reachL (nextP [ruleA]) [0]) _ HK1.out.rowA (Nat.le_refl _) (if_pos (by decide))).mono ?_
  rintro e w2 ⟨v2, rfl, hR, hb⟩
  rw [reached_a] at hR
  obtain ⟨A2, c2, rfl, hc2, hC2⟩ := Kd.R_reads hR
  have HK2 := Aside0.mk (HK1.out.below ((below_alloc (Below.refl _ _) _).trans (hb.mono (by simp))))
  have HU2 := Aside0.mk (Kd.C_below HU1.out ((below_alloc (Below.refl _ _) _).trans (hb.mono (by simp))))
  have HR2 := Aside0.mk hC2
  clear hR hb hC2 p0 p1 p2 p3 p4 HK1 HU1
  obtain ⟨p0, p1, p2, p3, p4⟩ := HK2.out.cellsA
  go_wp2_with fail
  refine (gram_Check.calls none 0 [] true w2 ⟨rfl, by simp, fun h => absurd h (by simp)⟩ (Nat.le_refl _) (congrArg some check_nil)).mono ?_
  rintro e w3 ⟨rfl, hb⟩
  have hb' : Below w2.heap.size w2 w3 := hb
  have HK3 := Aside0.mk (HK2.out.below hb')
  have HU3 := Aside0.mk (Kd.C_below HU2.out hb')
  have HR3 := Aside0.mk (Kd.C_below HR2.out hb')
  clear hb hb' p0 p1 p2 p3 p4 HK2 HU2 HR2
  obtain ⟨p0, p1, p2, p3, p4⟩ := HK3.out.cellsA
  go_wp2_with fail
  refine (gram_Right.calls 0 (some ⟨w.heap.size, 0, none⟩) 1 [1] 0 (some ⟨w.heap.size + 1, 0, none⟩) 1 [0] 0 true w3 (kn_int_of_blk HK3.out.a1) (Nat.le_refl _) (kn_int_of_blk HK3.out.a2) (Nat.le_refl _) (congrArg some rightA)).mono ?_
  rintro e w4 ⟨rfl, hb⟩
  have hb' : Below w3.heap.size w3 w4 := hb
  have HK4 := Aside0.mk (HK3.out.below hb')
  have HU4 := Aside0.mk (Kd.C_below HU3.out hb')
  have HR4 := Aside0.mk (Kd.C_below HR3.out hb')
  clear hb hb' p0 p1 p2 p3 p4 HK3 HU3 HR3
  obtain ⟨p0, p1, p2, p3, p4⟩ := HK4.out.cellsA
  go_wp2_with fail
  refine (gram_Check.calls _ 1 [ruleA] true _ HK4.out.rowA (Nat.le_refl _) (congrArg some check_a)).mono ?_
  rintro e w5 ⟨rfl, hb⟩
  have hb' : Below w4.heap.size w4 w5 := (below_alloc (Below.refl _ _) _).trans (hb.mono (by simp))
  have HK5 := Aside0.mk (HK4.out.below hb')
  have HU5 := Aside0.mk (Kd.C_below HU4.out hb')
  have HR5 := Aside0.mk (Kd.C_below HR4.out hb')
  clear hb hb' p0 p1 p2 p3 p4 HK4 HU4 HR4
  obtain ⟨p0, p1, p2, p3, p4⟩ := HK5.out.cellsA
  obtain ⟨q0, q1, q2, q3, q4⟩ := HK5.out.cellsB
  go_wp2_with fail
  refine (gram_Check.calls _ 2 [ruleA, ruleB] false _ HK5.out.rowAB (Nat.le_refl _) (congrArg some check_ab)).mono ?_
  rintro e w6 ⟨rfl, hb⟩
  have hb' : Below w5.heap.size w5 w6 := (below_alloc (Below.refl _ _) _).trans (hb.mono (by simp))
  have HK6 := Aside0.mk (HK5.out.below hb')
  have HU6 := Aside0.mk (Kd.C_below HU5.out hb')
  have HR6 := Aside0.mk (Kd.C_below HR5.out hb')
  clear q0 q1 q2 q3 q4 hb hb' p0 p1 p2 p3 p4 HK5 HU5 HR5
  obtain ⟨p0, p1, p2, p3, p4⟩ := HK6.out.cellsA
  obtain ⟨ad, A0, c0, rfl, u0, _, _⟩ := at_L2 (Kd.C_below HU6.out (Below.refl _ _)) 0 (by omega) (by omega)
  rw [units_a.2] at u0
  obtain ⟨ad2, rfl, r1⟩ := Kd.at_int HR6.out 1 (by omega) (by simp)
  have r1' : w6.cell? ⟨ad2.block, ad2.off + 1, none⟩ = some (.int .i64 1) := r1
  have u0' : w6.cell? ad = some (.slice A0 1 c0) := u0
  clear r1 u0 p0 p1 p2 p3 p4
  go_wp2
  go_ret
  exact ⟨rfl, HK6.out.bl⟩
end Go.Proofs.Ytjomlfdkmdgclaa.P
end
