/- gram.Reached: the symbols that a text's is made of. -/
import Derived.Test.YtjomlfdkmdgclaaHReach
import Derived.Test.YtjomlfdkmdgclaaHGramRight
import Derived.Test.YtjomlfdkmdgclaaHStore
import Derived.Test.YtjomlfdkmdgclaaP3
namespace Go.Proofs.Ytjomlfdkmdgclaa.P
open Go.RowKit Go.Proofs.YtjomlfdkmdgclaaW.PrintWords Go.Proofs.YtjomlfdkmdgclaaW.PrintLast Go.Proofs.YtjomlfdkmdgclaaW.PrintMore
attribute [local go_sem] max2_int min2_int max_two min_two max_three min_three max_four min_four   -- for this text's walks alone
set_option linter.unusedVariables false
set_option linter.unusedSimpArgs false

abbrev RuleR := S26
def nextP (l0 : List RuleR) (x : Int) : List Int := l0.flatMap fun r => if r.f0 = x then r.f1.filter symbolB else []
def sumLen (l0 : List RuleR) : Nat := (l0.map fun r => r.f1.length).sum
theorem nextP_len (l0 : List RuleR) (x : Int) : (nextP l0 x).length ≤ sumLen l0 := by
  unfold nextP sumLen
  rw [List.length_flatMap]
  induction l0 with
  | nil => simp
  | cons r l ih =>
    simp only [List.map_cons, List.sum_cons]
    have : (if r.f0 = x then r.f1.filter symbolB else []).length ≤ r.f1.length := by
      split
      · exact List.length_filter_le _ _
      · simp
    omega
theorem sumLen_take (l0 : List RuleR) (k : Nat) (h : k < l0.length) : sumLen (l0.take k) + l0[k].f1.length ≤ sumLen l0 := by
  have h1 : sumLen (l0.take (k + 1)) = sumLen (l0.take k) + l0[k].f1.length := by
    unfold sumLen
    rw [List.take_succ_eq_append_getElem h, List.map_append, List.sum_append]
    simp
  have h2 : sumLen l0 = sumLen (l0.take (k + 1)) + sumLen (l0.drop (k + 1)) := by
    unfold sumLen
    rw [← List.sum_append, ← List.map_append, List.take_append_drop]
  omega
theorem nextP_snoc (l0 : List RuleR) (k : Nat) (h : k < l0.length) (x : Int) : nextP (l0.take (k + 1)) x = nextP (l0.take k) x ++ (if l0[k].f0 = x then l0[k].f1.filter symbolB else []) := by
  unfold nextP
  rw [List.take_succ_eq_append_getElem h, List.flatMap_append]
  simp
theorem nextP_sym (l0 : List RuleR) (x : Int) : ∀ y ∈ nextP l0 x, inSym y := by
  intro y hy
  obtain ⟨r, _, h⟩ := List.mem_flatMap.1 hy
  split at h
  · have := (List.mem_filter.1 h).2
    simpa [symbolB, inSym] using this
  · cases h
def curP (l0 : List RuleR) (k : Nat) (r : RuleR) (j : Nat) (x : Int) : List Int := nextP (l0.take k) x ++ (if r.f0 = x then (r.f1.take j).filter symbolB else [])
theorem curP_snoc (l0 : List RuleR) (k : Nat) (r : RuleR) (j : Nat) (x : Int) (h : j < r.f1.length) : curP l0 k r (j + 1) x = curP l0 k r j x ++ (if r.f0 = x ∧ symbolB (rd r.f1 j) = true then [rd r.f1 j] else []) := by
  unfold curP
  rw [List.append_assoc, rd_getElem r.f1 j h]
  congr 1
  by_cases e : r.f0 = x
  · rw [if_pos e, if_pos e, List.take_succ_eq_append_getElem h, List.filter_append]
    congr 1
    by_cases s : symbolB r.f1[j] = true
    · rw [if_pos ⟨e, s⟩]; simp [s]
    · rw [if_neg (fun h => s h.2)]; simp [s]
  · rw [if_neg e, if_neg e, if_neg (fun h => e h.1)]; rfl
theorem curP_len (l0 : List RuleR) (k : Nat) (h : k < l0.length) (j : Nat) (x : Int) (hj : j ≤ l0[k].f1.length) : (curP l0 k l0[k] j x).length ≤ sumLen l0 := by
  have h1 := nextP_len (l0.take k) x
  have h2 := sumLen_take l0 k h
  have h3 : (if l0[k].f0 = x then (l0[k].f1.take j).filter symbolB else []).length ≤ l0[k].f1.length := by
    split
    · exact Nat.le_trans (List.length_filter_le _ _) (by rw [List.length_take]; omega)
    · simp
  unfold curP
  rw [List.length_append]
  omega

set_option maxHeartbeats 4000000 in
set_option maxRecDepth 100000 in
theorem next_walk (w : World) (g : Nat) (A : Option Addr) (c : Nat) (l0 : List RuleR) (hg : w.cell? ⟨g, 0, none⟩ = some (.slice A l0.length c)) (hc : l0.length ≤ c) (hC : Kd.C k26 w A l0.length l0) (hb : sumLen l0 ≤ 1000000) :
    FnLists Try.prog w inSym (.func (.func 41) #[] #[.pointer (some ⟨g, 0, none⟩)]) (nextP l0) := by
  refine ⟨_, _, _, rfl, enters_of Try.func41 (by kernel_rfl) rfl, ?_⟩
  rintro W x hbw _
  have hcell := pw_cell_below hbw hg
  have hl : l0.length ≤ 9223372036854775807 := hC.2.1
  have HC := Aside0.mk (Kd.C_below hC hbw)
  clear hg hC hbw
  go_enter Try.func41, Try.ntmps41
  have HSB := Aside0.mk hb
  clear hb
  go_wp2
  go_loopg [4, 11] l0.length (fun gg s4 s11 wr => ∃ kk : Nat, kk ≤ l0.length ∧ l0.length - kk ≤ gg ∧ s11 = .int .i64 kk ∧ Aside0 (Kd.R (Kd.int .i64) 3 wr W.heap.size (fun k => W.heap.size ≤ k) s4 (nextP (l0.take kk) x)) ∧ Aside0 (Below W.heap.size W wr))
  case atStart => exact ⟨0, Nat.zero_le _, by omega, rfl, ⟨Kd.R_nil _ _ _ _ _⟩, ⟨Below.refl _ _⟩⟩
  case round =>
    obtain ⟨kk, hkk, hgg, rfl, HR, HB⟩ := hrel
    obtain ⟨Au, cu, rfl⟩ := Kd.R_slice HR.out
    by_cases hlt : kk < l0.length
    · have hltz : (kk : Int) < (l0.length : Int) := by omega
      obtain ⟨ad, A1, c1, A3, c3, hA, h0, h1, h2, h3, h4, l1, g1, l3, g3⟩ := at_T26 HC.out kk (by omega) hltz
      have h0 := pw_cell_below HB.out h0
      have h1 := pw_cell_below HB.out h1
      have h2 := pw_cell_below HB.out h2
      have h3 := pw_cell_below HB.out h3
      have h4 := pw_cell_below HB.out h4
      have hx : rd_T26 l0 kk = l0[kk] := by simp [rd_T26, List.getD_eq_getElem?_getD, List.getElem?_eq_getElem hlt]
      have hsn := nextP_snoc l0 kk hlt x
      have hcl := fun j => curP_len l0 kk hlt j x
      rw [← hx] at hsn hcl
      generalize rd_T26 l0 kk = y at *
      rw [Int.toNat_natCast] at h0 h1 h2 h3 h4
      subst hA
      have HSN := Aside0.mk hsn
      have HCL := Aside0.mk hcl
      clear hx l3 g3 hsn hcl
      have hly : y.f1.length ≤ 9223372036854775807 := g1.2.1
      have HG1 := Aside0.mk g1
      have HBK := Aside0.mk (blk_new wr (.cells #[.int .i64 y.f0, .slice A1 y.f1.length c1, .int .i64 y.f2.f0, .slice A3 y.f2.f1.length c3, .int .i64 y.f3] 26))
      have HB1 := Aside0.mk (below_alloc HB.out (.cells #[.int .i64 y.f0, .slice A1 y.f1.length c1, .int .i64 y.f2.f0, .slice A3 y.f2.f1.length c3, .int .i64 y.f3] 26))
      have HR1 : Aside0 (Kd.R (Kd.int .i64) 3 (wr.alloc (.cells #[.int .i64 y.f0, .slice A1 y.f1.length c1, .int .i64 y.f2.f0, .slice A3 y.f2.f1.length c3, .int .i64 y.f3] 26)) W.heap.size (fun k => W.heap.size ≤ k ∧ k ≠ wr.heap.size) (.slice Au (nextP (l0.take kk) x).length cu) (curP l0 kk y 0 x)) := by
        refine ⟨Kd.R_alloc (Kd.R_mono (Kd.R_bound (xs := curP l0 kk y 0 x) (by unfold curP; simpa using HR.out)) (fun k hk => ⟨hk.2.1, by have := hk.2.2.1; omega⟩)) _⟩
      have hd0 := blk_cell HBK.out 0
      have hd1 := blk_cell HBK.out 1
      simp only [List.getElem?_toArray, List.getElem?_cons_succ, List.getElem?_cons_zero] at hd0 hd1
      clear HR g1
      go_wp2
      clear hd0 hd1
      generalize hW : (wr.alloc (.cells #[.int .i64 y.f0, .slice A1 y.f1.length c1, .int .i64 y.f2.f0, .slice A3 y.f2.f1.length c3, .int .i64 y.f3] 26)) = W1 at *
      have HSZ := Aside0.mk (show W.heap.size ≤ wr.heap.size from HB.out.size)
      clear hW HB h0 h1 h2 h3 h4
      generalize wr.heap.size = b at *
      go_loopg [4, 18] y.f1.length (fun gg s4 s18 wr => ∃ j : Nat, j ≤ y.f1.length ∧ y.f1.length - j ≤ gg ∧ s18 = .int .i64 j ∧ Aside0 (Kd.R (Kd.int .i64) 3 wr W.heap.size (fun k => W.heap.size ≤ k ∧ k ≠ b) s4 (curP l0 kk y j x)) ∧ Aside0 (Below W.heap.size W wr) ∧ Aside0 (wr.heap[b]? = some (.cells #[.int .i64 y.f0, .slice A1 y.f1.length c1, .int .i64 y.f2.f0, .slice A3 y.f2.f1.length c3, .int .i64 y.f3] 26 (0, 0))))
      case atStart => exact ⟨0, Nat.zero_le _, by omega, rfl, HR1, HB1, HBK⟩
      case round =>
        clear HR1 HB1 HBK
        obtain ⟨j, hj, hgj, rfl, HR, HB, HBK⟩ := hrel
        obtain ⟨Au, cu, rfl⟩ := Kd.R_slice HR.out
        have HLN := Aside0.mk (HCL.out j hj)
        generalize hnl : (curP l0 kk y j x).length = nl at *
        have HNL := Aside0.mk hnl
        clear hnl
        by_cases hlj : j < y.f1.length
        · have hljz : (j : Int) < (y.f1.length : Int) := by omega
          obtain ⟨ad1, hA1, hc1⟩ := Kd.at_int (Kd.C_below HG1.out HB.out) j (by omega) hljz
          rw [Int.toNat_natCast] at hc1
          have HSN2 := Aside0.mk (curP_snoc l0 kk y j x hlj)
          subst hA1
          generalize rd y.f1 j = z at *
          have hd0 := blk_cell HBK.out 0
          simp only [List.getElem?_toArray, List.getElem?_cons_zero] at hd0
          by_cases he : y.f0 = x
          · have hsym := Aside0.mk (symbol_some z)
            have hez : (y.f0 == x) = true := beq_iff_eq.2 he
            have HE := Aside0.mk he
            clear he
            cases hsz : symbolB z with
            | true =>
              rw [hsz] at hsym
              go_wp2_with fail
              refine (gram_symbol.calls _ _ _ hsym.out).mono ?_
              rintro e w' ⟨rfl, ⟨nd, rfl⟩⟩
              have HR1 := Aside0.mk (Kd.R_drewN HR.out nd)
              have HB1 := Aside0.mk (pw_below_drewN HB.out nd)
              have HBK1 := Aside0.mk (blk_drewN HBK.out nd)
              generalize wr.drewN nd = w2 at *
              clear HR HB HBK hd0 hc1
              go_wp2_with (at_builtin; refine Kd.R_append (Kd.int .i64) (w0 := W) W.heap.size rfl (.tmp 30) (.tmp 32) 22 3 (.int .i64 0) 8 rfl Try.underlying22 info3 rfl (by decide) (by omega) (.slice Au nl cu) (curP l0 kk y j x) z [.int .i64 z] (fun k => W.heap.size ≤ k ∧ k ≠ b) (fun _ => False) rfl rfl rfl (fun _ hk => hk.elim) (fun k hk => ⟨Nat.le_trans HB1.out.size hk, by have := blk_lt HBK1.out; omega⟩) HR1.out HB1.out HB1.out.size (by have := HLN.out; have := HSB.out; have := HNL.out; omega) ?_; intro v3 w3 ho hb3 hg3 hat; have ho' : Kd.R (Kd.int .i64) 3 w3 W.heap.size (fun k => W.heap.size ≤ k ∧ k ≠ b) v3 (curP l0 kk y j x ++ [z]) := ho; have HR3 := Aside0.mk ho'; have HB3 := Aside0.mk hb3; have HBK3 := Aside0.mk (blk_grown HBK1.out hg3 (fun e => (HR1.out.1 b e.symm).2 rfl)); obtain ⟨A5, c5, rfl⟩ := Kd.R_slice ho'; clear ho ho' hb3 hg3 hat)
              go_roundg (y.f1.length - (j + 1))
              case measure => omega
              case rel =>
                refine ⟨j + 1, by omega, by omega, by go_num, ⟨?_⟩, HB3, HBK3⟩
                rw [HSN2.out, if_pos ⟨HE.out, hsz⟩]
                have h9 := HR3.out
                rw [List.length_append] at h9
                exact h9
            | false =>
              rw [hsz] at hsym
              go_wp2_with fail
              refine (gram_symbol.calls _ _ _ hsym.out).mono ?_
              rintro e w' ⟨rfl, ⟨nd, rfl⟩⟩
              have HR1 := Aside0.mk (Kd.R_drewN HR.out nd)
              have HB1 := Aside0.mk (pw_below_drewN HB.out nd)
              have HBK1 := Aside0.mk (blk_drewN HBK.out nd)
              clear HR HB HBK hd0 hc1
              go_wp2
              go_roundg (y.f1.length - (j + 1))
              case measure => omega
              case rel =>
                refine ⟨j + 1, by omega, by omega, by go_num, ⟨?_⟩, HB1, HBK1⟩
                rw [HSN2.out, if_neg (fun h => by rw [h.2] at hsz; cases hsz), List.append_nil]
                exact HR1.out
          · have hez : (y.f0 == x) = false := beq_eq_false_iff_ne.2 he
            go_wp2
            go_roundg (y.f1.length - (j + 1))
            case measure => omega
            case rel =>
              refine ⟨j + 1, by omega, by omega, by go_num, ⟨?_⟩, HB, HBK⟩
              rw [HSN2.out, if_neg (fun h => he h.1), List.append_nil]
              exact HR.out
        · have hljz : ¬ (j : Int) < (y.f1.length : Int) := by omega
          have hjl : j = y.f1.length := by omega
          subst hjl
          go_wp2
          go_roundg (l0.length - (kk + 1))
          case measure => omega
          case rel =>
            refine ⟨kk + 1, by omega, by omega, by go_num, ⟨?_⟩, HB⟩
            rw [HSN.out]
            have h8 : curP l0 kk y y.f1.length x = nextP (l0.take kk) x ++ (if y.f0 = x then y.f1.filter symbolB else []) := by unfold curP; rw [List.take_length]
            rw [← h8]
            exact Kd.R_mono HR.out (fun k hk => hk.1)
    · have hltz : ¬ (kk : Int) < (l0.length : Int) := by omega
      have hkl : kk = l0.length := by omega
      subst hkl
      obtain ⟨A5, c5, e5, hle5, hC5⟩ := Kd.R_reads HR.out
      injection e5 with e6 e7 e8
      subst e6 e8
      rw [List.take_length] at hle5 hC5 
      have HC5 := Aside0.mk hC5
      clear hC5 e7
      go_wp2
      go_ret
      exact ⟨_, _, rfl, hle5, HC5.out, HB.out⟩

theorem reachL_len (next : Int → List Int) (l : List Int) : (reachL next l).length ≤ 20 := Nat.le_trans (List.length_filter_le _ _) (by decide)
noncomputable def gram_Reached.f (l0 : List RuleR) : Option (List Int) := if sumLen l0 ≤ 1000000 then some (reachL (nextP l0) [0]) else none
theorem reached_from (l0 : List RuleR) (hb : sumLen l0 ≤ 1000000) (fv : Value) (A : Option Addr) (c : Nat) (w : World) (hf : FnLists Try.prog w inSym fv (nextP l0)) (hC : Kd.C (Kd.int .i64) w A ([0] : List Int).length [0]) (hc : ([0] : List Int).length ≤ c) :
    Calls Try.prog 39 #[.slice A 1 c, fv] w fun e w' => ∃ v0_ : Value, e = .returned (v0_) ∧ Kd.R (Kd.int .i64) 3 w' w.heap.size (fun _ => True) v0_ (reachL (nextP l0) [0]) ∧ Below w.heap.size w w' := by
  have h0 : ∀ x ∈ ([0] : List Int), inSym x := by intro x hx; rw [List.mem_singleton.1 hx]; exact ⟨by omega, by omega⟩
  obtain ⟨k, r, h1, h2⟩ := from_reach (nextP l0) (fun y _ => Nat.le_trans (nextP_len l0 y) hb) (fun x _ => nextP_sym l0 x) [0] h0 (by simp)
  rw [← h2]
  exact from_walk fv (nextP l0) inSym (fun y hy => ⟨⟨by have := hy.1; omega, by have := hy.2; omega⟩, nextP_sym l0 y⟩) k A c [0] r w hf h0 hC hc h1
theorem gram_Reached.calls (A0 : Option Addr) (c0 : Nat) (l0 : List RuleR) (r : List Int) (w : World) (hr0 : Kd.C k26 w A0 l0.length l0) (hc0 : l0.length ≤ c0) (h : gram_Reached.f l0 = some r) :
    Calls Try.prog 24 #[.slice A0 l0.length c0] w fun e w' => ∃ v0_ : Value, e = .returned (v0_) ∧ Kd.R (Kd.int .i64) 3 w' w.heap.size (fun _ => True) v0_ r ∧ Below w.heap.size w w' := by
  unfold gram_Reached.f at h
  split at h
  case isFalse => cases h
  case isTrue hb =>
  obtain rfl := Option.some.inj h
  have HB := Aside0.mk hb
  have HG := Aside0.mk (cell_new0 w (.slice A0 l0.length c0) 36)
  have HB1 := Aside0.mk (below_alloc (Below.refl w.heap.size w) (.cells #[.slice A0 l0.length c0] 36))
  have HC1 := Aside0.mk (Kd.C_alloc hr0 (.cells #[.slice A0 l0.length c0] 36))
  have HFN := Aside0.mk (next_walk _ w.heap.size A0 c0 l0 HG.out hc0 HC1.out hb)
  clear hr0 h hb
  go_enter Try.func24, Try.ntmps24
  go_wp2_with fail
  refine (reached_from l0 HB.out _ _ _ _ ?hf ?hC ?hc).mono ?_
  case hf =>
    obtain ⟨g', pre, lb, e1, e2, e3⟩ := HFN.out
    exact ⟨g', pre, lb, e1, e2, fun W x hb hd => e3 W x ((below_alloc (Below.refl _ _) _).trans (hb.mono (by simp))) hd⟩
  case hC =>
    have h9 := World.ownsRow_lit (base := 0) (e := 3) (size := 1) (w.alloc (.cells #[.slice A0 l0.length c0] 36)) #[.int .i64 0] 1 (Nat.zero_le _) (by simp [maxLen]) rfl
    have h8 : Kd.R (Kd.int .i64) 3 _ 0 (fun _ => True) _ [0] := Kd.R_of_own (enc := Value.int .i64) (h1 := fun _ => rfl) (xs := [0]) h9 (fun _ _ => trivial)
    have h7 := (Kd.R_reads' h8).2.2
    rw [show (w.alloc (.cells #[.slice A0 l0.length c0] 36)).heap.size = w.heap.size + 1 by simp] at h7
    exact h7
  case hc => simp
  rintro e w2 ⟨v2, rfl, hR2, hb2⟩
  obtain ⟨A5, c5, rfl, hc5, hC5⟩ := Kd.R_reads hR2
  have HB2 := Aside0.mk (below_step (below_alloc HB1.out _) hb2)
  have HC5 := Aside0.mk hC5
  have HL5 := Aside0.mk hc5
  have hrl := reachL_len (nextP l0) [0]
  clear hR2 hb2 hC5 hc5
  go_wp2_with fail
  refine (slices_Clone_int_int.calls A5 c5 (reachL (nextP l0) [0]) (reachL (nextP l0) [0]) w2 HC5.out HL5.out (if_pos (by omega))).mono ?_
  rintro e w3 ⟨v3, rfl, hR3, hb3⟩
  have HR3 := Aside0.mk hR3
  have HB3 := Aside0.mk (below_step HB2.out hb3)
  clear hR3 hb3
  go_wp2
  go_ret
  exact ⟨_, rfl, Kd.R_lower HR3.out HB2.out.size, HB3.out⟩
end Go.Proofs.Ytjomlfdkmdgclaa.P
