/- ref4.Units: the document's units. -/
import Derived.Test.YtjomlfdkmdgclaaHGramUnits
import Derived.Test.YtjomlfdkmdgclaaHRefPut
import Derived.Test.YtjomlfdkmdgclaaHGramReached
import Derived.Deep.RegionHeld3
namespace Go.Proofs.Ytjomlfdkmdgclaa.P
open Go.RowKit Go.Proofs.YtjomlfdkmdgclaaW.PrintWords Go.Proofs.YtjomlfdkmdgclaaW.PrintLast Go.Proofs.YtjomlfdkmdgclaaW.PrintMore
attribute [local go_sem] max2_int min2_int max_two min_two max_three min_three max_four min_four   -- for this text's walks alone
set_option linter.unusedVariables false
set_option linter.unusedSimpArgs false

def oneOf (r : Rule') : Bool := decide (r.f1.length = 1 ∧ 0 ≤ rd r.f1 0)
/-- Rows by symbols, behind one more rule. -/
def rowStep (rows : Nat → List Int) (r : Rule') : Nat → List Int := fun s => if oneOf r = true ∧ r.f0 = (s : Int) then putP (rows s) (rd r.f1 0) else rows s
def refRows (l : List Rule') : Nat → List Int := l.foldl rowStep (fun _ => [])
theorem refRows_snoc (l : List Rule') (k : Nat) (h : k < l.length) : refRows (l.take (k + 1)) = rowStep (refRows (l.take k)) l[k] := by
  unfold refRows
  rw [List.take_succ_eq_append_getElem h, List.foldl_append]
  rfl
theorem putP_len (l : List Int) (n : Int) : (putP l n).length ≤ l.length + 1 := by
  unfold putP
  split
  · omega
  · rw [List.length_append, List.length_cons, List.length_take, List.length_drop]
    have : lowP n l ≤ l.length := by
      unfold lowP
      exact (List.takeWhile_sublist _).length_le
    omega
theorem refRows_len (l : List Rule') (s : Nat) : (refRows l s).length ≤ l.length := by
  suffices h : ∀ (l : List Rule') (rows : Nat → List Int) (n : Nat), (rows s).length ≤ n → (l.foldl rowStep rows s).length ≤ n + l.length by
    have := h l (fun _ => []) 0 (Nat.le_refl _)
    rw [Nat.zero_add] at this
    exact this
  intro l
  induction l with
  | nil => intro rows n h; exact h
  | cons r l ih =>
    intro rows n h
    have h2 : (rowStep rows r s).length ≤ n + 1 := by
      unfold rowStep
      split
      · exact Nat.le_trans (putP_len _ _) (by omega)
      · omega
    have := ih (rowStep rows r) (n + 1) h2
    rw [List.foldl_cons, List.length_cons, show n + (l.length + 1) = n + 1 + l.length by omega]
    exact this
def refUnitsP (l0 : List Rule') : List (List Int) := (List.range 20).map (refRows l0)
def interlocutorref4_Units.f (l0 : List Rule') : Option (List (List Int)) := if unitsB l0 = true then some (refUnitsP l0) else none
theorem URows.swap {base g : Nat} {rows rows' : Nat → List Int} {W W1 : World} {vals : List Value} {f : Nat → Nat} {i : Nat} {v0 v1 : Value} (h : URows base g rows 20 W vals f) (hb : Below W.heap.size W W1) (hw : base ≤ W.heap.size) (hv : vals[i]? = some v0) (hrows : ∀ j, j ≠ i → rows' j = rows j)
    (hc : (v1 = v0 ∧ rows' i = rows i) ∨ Kd.R (Kd.int .i64) 3 W1 W.heap.size (fun _ => True) v1 (rows' i)) : ∃ f', URows base g rows' 20 (W1.setCell ⟨g, i, none⟩ v1) (vals.set i v1) f' := by
  have hi : i < vals.length := (List.getElem?_eq_some_iff.1 hv).1
  have hi20 : i < 20 := by have := h.len; omega
  have hgl := blk_lt h.blk
  refine ⟨fun k => if k < W.heap.size then f k else i, by rw [List.length_set]; exact h.len, ?_, h.ge, fun j hj => ?_, fun j hj hj2 => by omega⟩
  · refine blk_put (blk_below h.blk hb) i v1 ?_
    simp
  · by_cases e : j = i
    · subst e
      refine ⟨v1, by rw [List.getElem?_set_self hi], ?_⟩
      rcases hc with ⟨e1, e2⟩ | hR
      · obtain ⟨v, h1, h2⟩ := h.done j hj
        rw [hv] at h1
        obtain rfl := Option.some.inj h1
        subst e1
        rw [e2]
        refine Kd.R_far (Kd.R_mono (Kd.R_below (Kd.R_bound h2) hb) (fun k hk => ⟨hk.1.1, ?_⟩)) (fun k hk => hk.1) _
        rw [if_pos hk.2.2.1]
        exact hk.1.2
      · refine Kd.R_far (Kd.R_mono (Kd.R_lower (Kd.R_bound hR) hw) (fun k hk => ⟨?_, ?_⟩)) (fun k hk => hk.1) _
        · have := hk.2.1
          omega
        · rw [if_neg (by have := hk.2.1; omega)]
    · obtain ⟨v, h1, h2⟩ := h.done j hj
      refine ⟨v, by rw [List.getElem?_set_ne (fun h => e h.symm)]; exact h1, ?_⟩
      rw [hrows j e]
      refine Kd.R_far (Kd.R_mono (Kd.R_below (Kd.R_bound h2) hb) (fun k hk => ⟨hk.1.1, ?_⟩)) (fun k hk => hk.1) _
      rw [if_pos hk.2.2.1]
      exact hk.1.2
theorem URows.below {base g : Nat} {rows : Nat → List Int} {W W1 : World} {vals : List Value} {f : Nat → Nat} {i : Nat} (h : URows base g rows i W vals f) (hb : Below W.heap.size W W1) : URows base g rows i W1 vals f :=
  ⟨h.len, blk_below h.blk hb, h.ge, fun j hj => by obtain ⟨v, h1, h2⟩ := h.done j hj; exact ⟨v, h1, Kd.R_below h2 hb⟩, h.rest⟩
theorem URows.same {base g : Nat} {rows rows' : Nat → List Int} {W : World} {vals : List Value} {f : Nat → Nat} {i : Nat} (h : URows base g rows i W vals f) (he : ∀ j, j < i → rows' j = rows j) : URows base g rows' i W vals f :=
  ⟨h.len, h.blk, h.ge, fun j hj => by rw [he j hj]; exact h.done j hj, h.rest⟩

theorem put_calls (A0 : Option Addr) (c0 n0 : Nat) (l : List Int) (n : Int) (w : World) (hr0 : Kd.C (Kd.int .i64) w A0 n0 l) (hc0 : n0 ≤ c0) (hl : n0 ≤ 1000000000000) (hn : l.length = n0) :
    Calls Try.prog 35 #[.slice A0 n0 c0, .int .i64 n] w fun e w' => ∃ A n1 c, e = .returned (.slice A n1 c) ∧ Below w.heap.size w w' ∧ ((.slice A n1 c = Value.slice A0 n0 c0 ∧ putP l n = l) ∨ Kd.R (Kd.int .i64) 3 w' w.heap.size (fun _ => True) (.slice A n1 c) (putP l n)) := by
  subst hn
  refine (put_walk A0 c0 l n w hr0 hc0 hl).mono ?_
  rintro e w' ⟨v, rfl, hb, hcase⟩
  have : ∃ A n1 c, v = .slice A n1 c := by
    rcases hcase with ⟨rfl, _⟩ | h
    · exact ⟨_, _, _, rfl⟩
    · obtain ⟨A, c, rfl⟩ := Kd.R_slice h
      exact ⟨_, _, _, rfl⟩
  obtain ⟨A, n1, c, rfl⟩ := this
  exact ⟨A, n1, c, rfl, hb, hcase⟩
set_option maxHeartbeats 4000000 in
set_option maxRecDepth 100000 in
theorem refUnits_walk (A0 : Option Addr) (c0 : Nat) (l0 : List Rule') (w : World) (hr0 : Kd.C k26 w A0 l0.length l0) (hc0 : l0.length ≤ c0) (hu : unitsB l0 = true) :
    Calls Try.prog 20 #[.slice A0 l0.length c0] w fun e w' => ∃ v0_ : Value, e = .returned (v0_) ∧ Kd.S (Kd.slice 3 (Kd.int .i64)) 22 w' w.heap.size (fun _ => True) v0_ (refUnitsP l0) ∧ Below w.heap.size w w' := by
  have hu2 := hu
  simp only [unitsB, Bool.and_eq_true, List.all_eq_true, decide_eq_true_eq] at hu2
  obtain ⟨hu3, hlen⟩ := hu2
  have HU := Aside0.mk hu3
  have HR := Aside0.mk hr0
  have HC := Aside0.mk hc0
  clear hr0 hc0 hu hu3
  have hmk : ∀ w, (Instr.makeSlice 37 (.int .i64 20) (.int .i64 20)).run Try.prog w = .ok (.slice (some ⟨w.heap.size, 0, none⟩) 20 20) (w.alloc (.cells (List.replicate 20 (Value.slice none 0 0)).toArray 22)) := fun _ => by kernel_rfl
  have HU0 : Aside0 (∃ vals f, URows w.heap.size w.heap.size (fun _ => []) 20 (w.alloc (.cells (List.replicate 20 (Value.slice none 0 0)).toArray 22)) vals f) :=
    ⟨List.replicate 20 (.slice none 0 0), fun _ => 0, ⟨by simp, blk_new _ _, Nat.le_refl _, fun j hj => ⟨.slice none 0 0, by rw [List.getElem?_replicate, if_pos hj], Kd.R_nil _ _ _ _ _⟩, fun j hj hj2 => by omega⟩⟩
  have HB1 := Aside0.mk (below_alloc (Below.refl w.heap.size w) (.cells (List.replicate 20 (Value.slice none 0 0)).toArray 22))
  go_enter Try.func20, Try.ntmps20
  go_wp2
  clear hmk
  go_loopg [4] l0.length (fun gg s4 wr => ∃ kk : Nat, kk ≤ l0.length ∧ l0.length - kk ≤ gg ∧ s4 = .int .i64 kk ∧ Aside0 (∃ vals f, URows w.heap.size w.heap.size (refRows (l0.take kk)) 20 wr vals f) ∧ Aside0 (Below w.heap.size w wr))
  case atStart => exact ⟨0, Nat.zero_le _, by omega, rfl, HU0, HB1⟩
  case round =>
    clear HU0 HB1
    obtain ⟨kk, hkk, hgg, rfl, HX, HB⟩ := hrel
    by_cases hlt : kk < l0.length
    · have hltz : (kk : Int) < (l0.length : Int) := by omega
      obtain ⟨ad, A1, c1, A3, c3, hA, h0, h1, h2, h3, h4, l1, g1, l3, g3⟩ := at_T26 (Kd.C_below HR.out HB.out) kk (by omega) hltz
      have hx : rd_T26 l0 kk = l0[kk] := by simp [rd_T26, List.getD_eq_getElem?_getD, List.getElem?_eq_getElem hlt]
      have hsn := refRows_snoc l0 kk hlt
      have hyr := HU.out _ (List.getElem_mem hlt)
      rw [← hx] at hsn hyr
      generalize rd_T26 l0 kk = y at *
      rw [Int.toNat_natCast] at h0 h1 h2 h3 h4
      subst hA
      obtain ⟨hy0, hy1⟩ := hyr
      obtain ⟨s, hs⟩ : ∃ s : Nat, y.f0 = s := ⟨y.f0.toNat, by omega⟩
      have hs20 : s < 20 := by omega
      have HSN := Aside0.mk hsn
      have HS := Aside0.mk hs
      clear hx l3 g3 hsn
      rw [hs] at h0 hy0 hy1
      clear hs
      by_cases hone : y.f1.length = 1
      · obtain ⟨ad1, hA1, hcell⟩ := Kd.at_int g1 0 (by omega) (by omega)
        have hcell' : wr.cell? ad1 = some (.int .i64 (rd y.f1 0)) := hcell
        subst hA1
        have hlx : wr.heap.size > ad1.block := World.block_lt_of_cell? wr _ hcell'
        have hce : (wr.alloc (.cells #[.int .i64 s, .slice (some ad1) 1 c1, .int .i64 y.f2.f0, .slice A3 y.f2.f1.length c3, .int .i64 y.f3] 26)).cell? ad1 = some (.int .i64 (rd y.f1 0)) := (World.cell?_alloc_lt _ _ _ hlx).trans hcell'
        rw [hone] at h1
        generalize hrd : rd y.f1 0 = x at *
        have HRDX := Aside0.mk hrd
        clear hrd hcell g1 hcell' hlx
        have HBK := Aside0.mk (blk_new wr (.cells #[.int .i64 s, .slice (some ad1) 1 c1, .int .i64 y.f2.f0, .slice A3 y.f2.f1.length c3, .int .i64 y.f3] 26))
        have HB1 := Aside0.mk (below_alloc HB.out (.cells #[.int .i64 s, .slice (some ad1) 1 c1, .int .i64 y.f2.f0, .slice A3 y.f2.f1.length c3, .int .i64 y.f3] 26))
        have HX1 : Aside0 (∃ vals f, URows w.heap.size w.heap.size (refRows (l0.take kk)) 20 (wr.alloc (.cells #[.int .i64 s, .slice (some ad1) 1 c1, .int .i64 y.f2.f0, .slice A3 y.f2.f1.length c3, .int .i64 y.f3] 26)) vals f) := ⟨by obtain ⟨vals, f, h⟩ := HX.out; exact ⟨vals, f, h.below (below_alloc (Below.refl _ _) _)⟩⟩
        have hd0 := blk_cell HBK.out 0
        have hd1 := blk_cell HBK.out 1
        simp only [List.getElem?_toArray, List.getElem?_cons_succ, List.getElem?_cons_zero] at hd0 hd1
        by_cases hx0 : 0 ≤ x
        · have HST : Aside0 (∀ j : Nat, refRows (l0.take (kk + 1)) j = if j = s then putP (refRows (l0.take kk) s) x else refRows (l0.take kk) j) := ⟨by
            intro j
            rw [HSN.out]
            unfold rowStep
            rw [HRDX.out, HS.out]
            by_cases e : j = s
            · subst e
              rw [if_pos rfl, if_pos ⟨decide_eq_true ⟨hone, by rw [HRDX.out]; exact hx0⟩, rfl⟩]
            · rw [if_neg e, if_neg (fun h => e (by have := h.2; omega))]⟩
          obtain ⟨vals, f, hX⟩ := HX1.out
          have HX1 := Aside0.mk hX
          obtain ⟨v, hv, hRs⟩ := hX.done s hs20
          obtain ⟨Au, cu, rfl, hle, hCu⟩ := Kd.R_reads hRs
          have hcg : (wr.alloc (.cells #[.int .i64 s, .slice (some ad1) 1 c1, .int .i64 y.f2.f0, .slice A3 y.f2.f1.length c3, .int .i64 y.f3] 26)).cell? ⟨w.heap.size, s, none⟩ = some (.slice Au (refRows (l0.take kk) s).length cu) := (blk_cell hX.blk s).trans (by rw [List.getElem?_toArray]; exact hv)
          have HV := Aside0.mk hv
          have HLE := Aside0.mk hle
          have HRD1 := Aside0.mk hCu
          have HLL : Aside0 ((refRows (l0.take kk) s).length ≤ 1000000000000) := ⟨Nat.le_trans (refRows_len _ _) (Nat.le_trans (List.length_take_le _ _) (by omega))⟩
          generalize hnu : (refRows (l0.take kk) s).length = nu at *
          have HNU := Aside0.mk hnu
          clear hv hX hRs hle hCu hnu
          clear HX HB
          go_wp2
          generalize wr.alloc (.cells #[.int .i64 s, .slice (some ad1) 1 c1, .int .i64 y.f2.f0, .slice A3 y.f2.f1.length c3, .int .i64 y.f3] 26) = W1 at *
          generalize wr.heap.size = b at *
          have HSZ0 := Aside0.mk HB1.out.size
          generalize w.heap.size = g at *
          refine start_ (n := 15) (S := fun w' => w'.cell? ⟨b, 0, none⟩ = some (.int .i64 s) ∧ w'.cell? ⟨b, 1, none⟩ = some (.slice (some ad1) 1 c1) ∧ w'.cell? ad1 = some (.int .i64 x) ∧ w'.cell? ⟨g, s, none⟩ = some (.slice Au nu cu)) (ds := [14]) #[false, false, false, false, false, false, false, false, false, false, false, false, false, false, false] (by kernel_rfl) rfl rfl ⟨hd0, hd1, hce, hcg⟩ (fun hHeld => ?_)
          have HX2 : Aside0 (URows g g (refRows (l0.take kk)) 20 W1.drew vals f) := ⟨HX1.out.below (below_drew (Below.refl _ _))⟩
          have HB2 : Aside0 (Below g w W1.drew) := ⟨below_drew HB1.out⟩
          have HRD : Aside0 (Kd.C (Kd.int .i64) W1.drew Au nu (refRows (l0.take kk) s)) := ⟨Kd.C_below HRD1.out (below_drew (Below.refl _ _))⟩
          have HBG : Aside0 (W1.drew.heap[g]? = some (.cells vals.toArray 22 (0, 0))) := ⟨HX2.out.blk⟩
          have HSZ : Aside0 (g ≤ W1.drew.heap.size) := ⟨HSZ0.out⟩
          clear HX1 HB1 HRD1
          generalize W1.drew = W2 at *
          refine pure_ (i := 0) (N := some 28) (v := ?_) (a' := ?_) #[true, false, false, false, false, false, false, false, false, false, false, false, false, false, false] rfl rfl (by kernel_rfl) (fun _ _ _ h => h) (Or.inl ⟨by rfl, ?_⟩) ?_ ?_
          rotate_left
          · intro w'
            go_simp
            try with_reducible rfl
          rotate_left
          · simp only [Act.put, List.setIfInBounds_toArray, List.set_cons_zero, List.set_cons_succ, i64_w, i32_w]
            rfl
          refine pure_ (i := 1) (N := some 29) (v := ?_) (a' := ?_) #[true, true, false, false, false, false, false, false, false, false, false, false, false, false, false] rfl rfl (by kernel_rfl) (fun _ _ _ h => h) (Or.inl ⟨by rfl, ?_⟩) ?_ ?_
          rotate_left
          · intro w'
            go_simp
            try with_reducible rfl
          rotate_left
          · simp only [Act.put, List.setIfInBounds_toArray, List.set_cons_zero, List.set_cons_succ, i64_w, i32_w]
            rfl
          refine take_ (i := 2) (N := some 30) (v := ?_) (a' := ?_) #[true, true, true, false, false, false, false, false, false, false, false, false, false, false, false] rfl rfl (by kernel_rfl) (fun _ _ _ h => h) (Or.inl ⟨by rfl, ?_⟩) hHeld ?_ ?_
          rotate_left
          · rintro w' ⟨s0, s1, s2, s3⟩
            go_simp
            try with_reducible rfl
          rotate_left
          · simp only [Act.put, List.setIfInBounds_toArray, List.set_cons_zero, List.set_cons_succ, i64_w, i32_w]
            rfl
          refine pure_ (i := 3) (N := some 31) (v := ?_) (a' := ?_) #[true, true, true, true, false, false, false, false, false, false, false, false, false, false, false] rfl rfl (by kernel_rfl) (fun _ _ _ h => h) (Or.inl ⟨by rfl, ?_⟩) ?_ ?_
          rotate_left
          · intro w'
            go_simp
            try with_reducible rfl
          rotate_left
          · simp only [Act.put, List.setIfInBounds_toArray, List.set_cons_zero, List.set_cons_succ, i64_w, i32_w]
            rfl
          refine pure_ (i := 4) (N := some 32) (v := ?_) (a' := ?_) #[true, true, true, true, true, false, false, false, false, false, false, false, false, false, false] rfl rfl (by kernel_rfl) (fun _ _ _ h => h) (Or.inl ⟨by rfl, ?_⟩) ?_ ?_
          rotate_left
          · intro w'
            go_simp
            try with_reducible rfl
          rotate_left
          · simp only [Act.put, List.setIfInBounds_toArray, List.set_cons_zero, List.set_cons_succ, i64_w, i32_w]
            rfl
          refine take_ (i := 5) (N := some 33) (v := ?_) (a' := ?_) #[true, true, true, true, true, true, false, false, false, false, false, false, false, false, false] rfl rfl (by kernel_rfl) (fun _ _ _ h => h) (Or.inl ⟨by rfl, ?_⟩) hHeld ?_ ?_
          rotate_left
          · rintro w' ⟨s0, s1, s2, s3⟩
            go_simp
            try with_reducible rfl
          rotate_left
          · simp only [Act.put, List.setIfInBounds_toArray, List.set_cons_zero, List.set_cons_succ, i64_w, i32_w]
            rfl
          refine pure_ (i := 6) (N := some 34) (v := ?_) (a' := ?_) #[true, true, true, true, true, true, true, false, false, false, false, false, false, false, false] rfl rfl (by kernel_rfl) (fun _ _ _ h => h) (Or.inl ⟨by rfl, ?_⟩) ?_ ?_
          rotate_left
          · intro w'
            go_simp
            try with_reducible rfl
          rotate_left
          · simp only [Act.put, List.setIfInBounds_toArray, List.set_cons_zero, List.set_cons_succ, i64_w, i32_w]
            rfl
          refine take_ (i := 7) (N := some 35) (v := ?_) (a' := ?_) #[true, true, true, true, true, true, true, true, false, false, false, false, false, false, false] rfl rfl (by kernel_rfl) (fun _ _ _ h => h) (Or.inl ⟨by rfl, ?_⟩) hHeld ?_ ?_
          rotate_left
          · rintro w' ⟨s0, s1, s2, s3⟩
            go_simp
            try with_reducible rfl
          rotate_left
          · simp only [Act.put, List.setIfInBounds_toArray, List.set_cons_zero, List.set_cons_succ, i64_w, i32_w]
            rfl
          refine pure_ (i := 8) (N := some 36) (v := ?_) (a' := ?_) #[true, true, true, true, true, true, true, true, true, false, false, false, false, false, false] rfl rfl (by kernel_rfl) (fun _ _ _ h => h) (Or.inl ⟨by rfl, ?_⟩) ?_ ?_
          rotate_left
          · intro w'
            go_simp
            try with_reducible rfl
          rotate_left
          · simp only [Act.put, List.setIfInBounds_toArray, List.set_cons_zero, List.set_cons_succ, i64_w, i32_w]
            rfl
          refine take_ (i := 9) (N := some 37) (v := ?_) (a' := ?_) #[true, true, true, true, true, true, true, true, true, true, false, false, false, false, false] rfl rfl (by kernel_rfl) (fun _ _ _ h => h) (Or.inl ⟨by rfl, ?_⟩) hHeld ?_ ?_
          rotate_left
          · rintro w' ⟨s0, s1, s2, s3⟩
            go_simp
            try with_reducible rfl
          rotate_left
          · simp only [Act.put, List.setIfInBounds_toArray, List.set_cons_zero, List.set_cons_succ, i64_w, i32_w]
            rfl
          refine pure_ (i := 10) (N := some 38) (v := ?_) (a' := ?_) #[true, true, true, true, true, true, true, true, true, true, true, false, false, false, false] rfl rfl (by kernel_rfl) (fun _ _ _ h => h) (Or.inl ⟨by rfl, ?_⟩) ?_ ?_
          rotate_left
          · intro w'
            go_simp
            try with_reducible rfl
          rotate_left
          · simp only [Act.put, List.setIfInBounds_toArray, List.set_cons_zero, List.set_cons_succ, i64_w, i32_w]
            rfl
          refine take_ (i := 11) (N := some 39) (v := ?_) (a' := ?_) #[true, true, true, true, true, true, true, true, true, true, true, true, false, false, false] rfl rfl (by kernel_rfl) (fun _ _ _ h => h) (Or.inl ⟨by rfl, ?_⟩) hHeld ?_ ?_
          rotate_left
          · rintro w' ⟨s0, s1, s2, s3⟩
            go_simp
            try with_reducible rfl
          rotate_left
          · simp only [Act.put, List.setIfInBounds_toArray, List.set_cons_zero, List.set_cons_succ, i64_w, i32_w]
            rfl
          refine one_ (i := 12) (N := some 40) #[true, true, true, true, true, true, true, true, true, true, true, true, true, false, false] rfl rfl (by kernel_rfl) (by decide) (fun K hK => ?_)
          refine goes_ Try.func35 (by kernel_rfl) rfl #[.slice Au nu cu, .int .i64 x] (by rfl) rfl rfl (by (try simp only [List.map_toArray, List.map_cons, List.map_nil]); rfl) ?_
          refine (put_calls Au cu nu (refRows (l0.take kk) s) x W2 HRD.out HLE.out HLL.out HNU.out).mono ?_
          rintro e w3 ⟨A5, n5, c5, rfl, hb3, hcase⟩
          have HB3 := Aside0.mk hb3
          have HCASE := Aside0.mk hcase
          clear hb3 hcase
          refine ⟨_, rfl, ?_⟩
          refine hK.out _ _ ⟨pw_cell_below HB3.out hHeld.1, pw_cell_below HB3.out hHeld.2.1, pw_cell_below HB3.out hHeld.2.2.1, pw_cell_below HB3.out hHeld.2.2.2⟩ (fun hHeld => ?_)
          clear hK K
          refine norm_ (a' := ?_) ?_ ?_
          rotate_left
          · show Act.put _ (some 40) _ = _
            simp only [Act.put, List.setIfInBounds_toArray, List.set_cons_zero, List.set_cons_succ, i64_w, i32_w]
            rfl
          refine pure_ (i := 13) (N := some 41) (v := ?_) (a' := ?_) #[true, true, true, true, true, true, true, true, true, true, true, true, true, true, false] rfl rfl (by kernel_rfl) (fun _ _ _ h => h) (Or.inl ⟨by rfl, ?_⟩) ?_ ?_
          rotate_left
          · intro w'
            go_simp
            try with_reducible rfl
          rotate_left
          · simp only [Act.put, List.setIfInBounds_toArray, List.set_cons_zero, List.set_cons_succ, i64_w, i32_w]
            rfl
          refine last_ (i := 14) (N := none) #[true, true, true, true, true, true, true, true, true, true, true, true, true, true, true] rfl rfl (by kernel_rfl) (by decide) (fun K hK => ?_)
          have hs24 : w3.cell? ⟨g, s, none⟩ = some (.slice Au nu cu) := hHeld.2.2.2
          have hfs24 : w3.frozen? ⟨g, s, none⟩ = false := blk_frozen (blk_below HBG.out HB3.out) s
          refine skip_ (w1 := ?_) (by rfl) rfl ?_ ?_
          rotate_left
          · go_simp
            rfl
          refine hK.out _ _ ?_
          clear hK K
          refine done_ (by kernel_rfl) ?_
          try go_wp2
          go_roundg (l0.length - (kk + 1))
          case measure => omega
          case rel =>
            refine ⟨kk + 1, by omega, by omega, by go_num, ⟨?_⟩, ⟨?_⟩⟩
            · obtain ⟨f', h'⟩ := HX2.out.swap (rows' := refRows (l0.take (kk + 1))) HB3.out HSZ.out HV.out (fun j hj => by rw [HST.out, if_neg hj]) (v1 := .slice A5 n5 c5) (by rw [HST.out, if_pos rfl]; exact HCASE.out)
              exact ⟨_, _, h'⟩
            · exact (HB2.out.trans (HB3.out.mono HSZ.out)).setCell (Nat.le_refl _) _
        · have hx0z : decide (0 ≤ x) = false := decide_eq_false hx0
          have HST : Aside0 (refRows (l0.take (kk + 1)) = refRows (l0.take kk)) := ⟨by
            rw [HSN.out]
            funext j
            unfold rowStep oneOf
            rw [HRDX.out, if_neg (fun h => hx0 (of_decide_eq_true h.1).2)]⟩
          clear hone
          go_wp2
          go_roundg (l0.length - (kk + 1))
          case measure => omega
          case rel => exact ⟨kk + 1, by omega, by omega, by go_num, ⟨by rw [HST.out]; exact HX1.out⟩, HB1⟩
      · have HB1 := Aside0.mk (below_alloc HB.out (.cells #[.int .i64 s, .slice A1 y.f1.length c1, .int .i64 y.f2.f0, .slice A3 y.f2.f1.length c3, .int .i64 y.f3] 26))
        have HX1 : Aside0 (∃ vals f, URows w.heap.size w.heap.size (refRows (l0.take kk)) 20 (wr.alloc (.cells #[.int .i64 s, .slice A1 y.f1.length c1, .int .i64 y.f2.f0, .slice A3 y.f2.f1.length c3, .int .i64 y.f3] 26)) vals f) := ⟨by obtain ⟨vals, f, h⟩ := HX.out; exact ⟨vals, f, h.below (below_alloc (Below.refl _ _) _)⟩⟩
        have honez : ((y.f1.length : Int) == 1) = false := beq_eq_false_iff_ne.2 (by omega)
        have HST : Aside0 (refRows (l0.take (kk + 1)) = refRows (l0.take kk)) := ⟨by
          rw [HSN.out]
          funext j
          unfold rowStep oneOf
          rw [if_neg (fun h => hone (of_decide_eq_true h.1).1)]⟩
        clear hone
        go_wp2
        go_roundg (l0.length - (kk + 1))
        case measure => omega
        case rel => exact ⟨kk + 1, by omega, by omega, by go_num, ⟨by rw [HST.out]; exact HX1.out⟩, HB1⟩
    · have hltz : ¬ (kk : Int) < (l0.length : Int) := by omega
      have hkl : kk = l0.length := by omega
      subst hkl
      obtain ⟨vals, f, hU1⟩ := HX.out
      rw [List.take_length] at hU1
      have HV := Aside0.mk hU1.toS
      clear hU1 HX
      go_wp2
      go_ret
      exact ⟨_, rfl, HV.out, HB.out⟩
theorem interlocutorref4_Units.calls (A0 : Option Addr) (c0 : Nat) (l0 : List Rule') (r : List (List Int)) (w : World) (hr0 : Kd.C k26 w A0 l0.length l0) (hc0 : l0.length ≤ c0) (h : interlocutorref4_Units.f l0 = some r) :
    Calls Try.prog 20 #[.slice A0 l0.length c0] w fun e w' => ∃ v0_ : Value, e = .returned (v0_) ∧ Kd.S (Kd.slice 3 (Kd.int .i64)) 22 w' w.heap.size (fun _ => True) v0_ r ∧ Below w.heap.size w w' := by
  unfold interlocutorref4_Units.f at h
  split at h
  case isFalse => cases h
  case isTrue hu =>
  obtain rfl := Option.some.inj h
  exact refUnits_walk A0 c0 l0 w hr0 hc0 hu
end Go.Proofs.Ytjomlfdkmdgclaa.P
