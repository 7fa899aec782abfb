/- ref4.Check: the document's word on rules is gram's. -/
import Derived.Test.YtjomlfdkmdgclaaHRefUnits
import Derived.Test.YtjomlfdkmdgclaaHRefRight
import Derived.Test.YtjomlfdkmdgclaaHMatrix
import Derived.Test.YtjomlfdkmdgclaaHGramPure
import Derived.BigRegion
namespace Go.Proofs.Ytjomlfdkmdgclaa.P
open Go.RowKit Go.Proofs.YtjomlfdkmdgclaaW.PrintWords Go.Proofs.YtjomlfdkmdgclaaW.PrintLast Go.Proofs.YtjomlfdkmdgclaaW.PrintMore
attribute [local go_sem] max2_int min2_int max_two min_two max_three min_three max_four min_four   -- for this text's walks alone
set_option linter.unusedVariables false
set_option linter.unusedSimpArgs false

theorem mem_refRows (s : Nat) (y : Int) : ∀ (l : List Rule') (rows : Nat → List Int), y ∈ l.foldl rowStep rows s ↔ y ∈ rows s ∨ ∃ r ∈ l, r.f0 = s ∧ r.f1 = [y] ∧ 0 ≤ y
  | [], rows => by simp
  | r :: l, rows => by
    rw [List.foldl_cons, mem_refRows s y l (rowStep rows r)]
    have h : y ∈ rowStep rows r s ↔ y ∈ rows s ∨ (r.f0 = s ∧ r.f1 = [y] ∧ 0 ≤ y) := by
      unfold rowStep oneOf
      split
      case isTrue hc =>
        obtain ⟨h1, h2⟩ := hc
        obtain ⟨h3, h4⟩ := of_decide_eq_true h1
        rw [mem_putP]
        have h5 : r.f1 = [rd r.f1 0] := by
          match hr : r.f1, h3 with
          | [x], _ => simp [rd]
        constructor
        · rintro (rfl | h)
          · exact .inr ⟨h2, h5, h4⟩
          · exact .inl h
        · rintro (h | ⟨_, h, _⟩)
          · exact .inr h
          · left
            rw [h]; rfl
      case isFalse hc =>
        constructor
        · exact .inl
        · rintro (h | ⟨h1, h2, h3⟩)
          · exact h
          · exact absurd ⟨decide_eq_true ⟨by rw [h2]; rfl, by rw [h2]; exact h3⟩, h1⟩ hc
    rw [h, or_assoc]
    simp
theorem refRows_iff (l0 : List Rule') (hr : l0.all rightR = true) (s : Nat) (hs : s < 20) (y : Int) : y ∈ refRows l0 s ↔ y ∈ rowsNext l0 s := by
  unfold refRows
  rw [mem_refRows, mem_rowsNext l0 s ⟨by omega, by omega⟩]
  constructor
  · rintro (h | ⟨r, h1, h2, h3, h4⟩)
    · cases h
    · refine ⟨⟨h4, ?_⟩, r, h1, h2, h3⟩
      have h5 := List.all_eq_true.1 hr r h1
      unfold rightR rightP at h5
      simp only [Bool.and_eq_true] at h5
      have h6 := List.all_eq_true.1 h5.2.2.1 y (by rw [h3]; exact List.mem_singleton.2 rfl)
      unfold itemB at h6
      rw [Bool.and_eq_true] at h6
      exact of_decide_eq_true h6.1
  · rintro ⟨h1, r, h2, h3, h4⟩
    exact .inr ⟨r, h2, h3, h4, h1.1⟩
/-- An arrow from a symbol to one that it may be alone. -/
def arrow (l0 : List Rule') (i j : Nat) : Bool := decide ((j : Int) ∈ refRows l0 i)
theorem arrows_reach (l0 : List Rule') (hr : l0.all rightR = true) (i : Nat) (hi : i < 20) (y : Int) : Reach (rowsNext l0) (rowsNext l0 i) y ↔ inSym y ∧ matD (arrow l0) 20 i y.toNat = true := by
  have his : inSym (i : Int) := ⟨by omega, by omega⟩
  constructor
  · intro h
    refine Reach.inv (P := fun y => inSym y ∧ matD (arrow l0) 20 i y.toNat = true) (fun x hx => ?_) (fun x hx y hy => ?_) h
    · have h1 := rowsNext_sym l0 i his x hx
      refine ⟨h1, matD_base ?_ 20⟩
      unfold arrow
      rw [Int.toNat_of_nonneg h1.1]
      exact decide_eq_true ((refRows_iff l0 hr i hi x).2 hx)
    · have h1 := rowsNext_sym l0 x hx.1 y hy
      refine ⟨h1, matD_trans 20 i x.toNat y.toNat (by have := hx.1.1; have := hx.1.2; omega) hx.2 (matD_base ?_ 20)⟩
      unfold arrow
      rw [Int.toNat_of_nonneg h1.1]
      refine decide_eq_true ((refRows_iff l0 hr x.toNat (by have := hx.1.1; have := hx.1.2; omega) y).2 ?_)
      rw [Int.toNat_of_nonneg hx.1.1]
      exact hy
  · rintro ⟨hy, h⟩
    have h2 := matD_sound (e := arrow l0) (R := fun a b => a < 20 → b < 20 ∧ Reach (rowsNext l0) (rowsNext l0 (a : Int)) (b : Int))
      (fun a b hab ha => by
        have h3 := (refRows_iff l0 hr a ha (b : Int)).1 (of_decide_eq_true hab)
        have h4 := rowsNext_sym l0 a ⟨by omega, by omega⟩ b h3
        exact ⟨by have := h4.2; omega, .base h3⟩)
      (fun a m b h1 h2 ha => by
        obtain ⟨hm, h3⟩ := h1 ha
        obtain ⟨hb, h4⟩ := h2 hm
        refine ⟨hb, ?_⟩
        refine Reach.inv (P := fun y => Reach (rowsNext l0) (rowsNext l0 (a : Int)) y) (fun x hx => .step h3 hx) (fun x hx y hy => .step hx hy) h4) 20 i y.toNat h hi
    rw [Int.toNat_of_nonneg hy.1] at h2
    exact h2.2
theorem checkP_matD (l0 : List Rule') (h60 : l0.length ≤ 60) (hr : l0.all rightR = true) : checkP l0 = true ↔ ∀ i, i < 20 → matD (arrow l0) 20 i i = false := by
  rw [checkP_iff]
  constructor
  · rintro ⟨_, _, h⟩ i hi
    have h1 := h i ⟨by omega, by omega⟩
    rw [arrows_reach l0 hr i hi] at h1
    cases hm : matD (arrow l0) 20 i i with
    | false => rfl
    | true => exact absurd ⟨⟨by omega, by omega⟩, by simpa using hm⟩ h1
  · intro h
    refine ⟨h60, hr, fun x hx hR => ?_⟩
    obtain ⟨n, rfl⟩ : ∃ n : Nat, x = n := ⟨x.toNat, by have := hx.1; omega⟩
    have hn : n < 20 := by have := hx.2; omega
    have h1 := ((arrows_reach l0 hr n hn n).1 hR).2
    have h2 := h n hn
    simp [h2] at h1

/-- What has been laid so far: rows below i, of row i the first k. -/
def arrowUpto (l0 : List Rule') (i k : Nat) (a b : Nat) : Bool := decide (a < i) && arrow l0 a b || (decide (a = i) && decide ((b : Int) ∈ (refRows l0 i).take k))
theorem arrowUpto_snoc (l0 : List Rule') (i k : Nat) (h : k < (refRows l0 i).length) (z : Nat) (hz : (refRows l0 i)[k] = (z : Int)) : upd (arrowUpto l0 i k) i z true = arrowUpto l0 i (k + 1) := by
  funext a b
  unfold upd arrowUpto
  rw [List.take_succ_eq_append_getElem h, hz]
  by_cases ha : a = i
  · subst ha
    by_cases hb : b = z
    · subst hb; simp
    · have : ¬ (b : Int) = (z : Int) := by omega
      simp [hb, this]
  · simp [ha]
theorem arrowUpto_next (l0 : List Rule') (i : Nat) : arrowUpto l0 i (refRows l0 i).length = arrowUpto l0 (i + 1) 0 := by
  funext a b
  unfold arrowUpto
  rw [List.take_length, List.take_zero]
  by_cases ha : a = i
  · subst ha
    simp [arrow]
  · by_cases hl : a < i
    · simp [hl, ha, show a < i + 1 by omega]
    · simp [hl, ha, show ¬ a < i + 1 by omega]
noncomputable def interlocutorref4_Check.f (l0 : List Rule') : Option Bool := some (checkP l0)

theorem mat0 : Try.zeroCells63 = (matCells fun _ _ => false).toArray := by rw [mat_zero]; kernel_rfl
set_option maxHeartbeats 4000000 in
set_option maxRecDepth 100000 in
theorem refCheck_walk (A0 : Option Addr) (c0 : Nat) (l0 : List Rule') (w : World) (hr0 : Kd.C k26 w A0 l0.length l0) (hc0 : l0.length ≤ c0) :
    Calls Try.prog 22 #[.slice A0 l0.length c0] w fun e w' => e = .returned (.bool (checkP l0)) ∧ Below w.heap.size w w' := by
  have HR := Aside0.mk hr0
  have HC := Aside0.mk hc0
  clear hr0 hc0
  by_cases h60 : l0.length ≤ 60
  · have h60z : ¬ ((l0.length : Int) > 60) := by omega
    go_enter Try.func22, Try.ntmps22
    go_wp2
    go_loopg [3] l0.length (fun gg s3 wr => ∃ kk : Nat, kk ≤ l0.length ∧ l0.length - kk ≤ gg ∧ s3 = .int .i64 kk ∧ Aside0 (∀ j, j < kk → ∀ h : j < l0.length, rightR l0[j] = true) ∧ Aside0 (Below w.heap.size w wr))
    case atStart => exact ⟨0, Nat.zero_le _, by omega, rfl, ⟨fun j hj => absurd hj (Nat.not_lt_zero _)⟩, ⟨Below.refl _ _⟩⟩
    case round =>
      obtain ⟨kk, hkk, hgg, rfl, HA, HB⟩ := hrel
      by_cases hlt : kk < l0.length
      · have hltz : (kk : Int) < (l0.length : Int) := by omega
        obtain ⟨ad, A1, c1, A3, c3, hA, h0, h1, h2, h3, h4, l1, g1, l3, g3⟩ := at_T26 (Kd.C_below HR.out HB.out) kk (by omega) hltz
        have hx : rd_T26 l0 kk = l0[kk] := by simp [rd_T26, List.getD_eq_getElem?_getD, List.getElem?_eq_getElem hlt]
        generalize rd_T26 l0 kk = y at *
        rw [Int.toNat_natCast] at h0 h1 h2 h3 h4
        subst hA
        have HX := Aside0.mk hx
        clear hx
        have HRS := Aside0.mk (refRight_some y.f0 y.f1 y.f2.f0 y.f2.f1 y.f3 (y.f1.length + y.f2.f1.length + 11) g1.2.1 g3.2.1 (by omega))
        have hcall := Aside0.mk (interlocutorref4_Right.calls (y.f1.length + y.f2.f1.length + 11) y.f0 A1 c1 y.f1 y.f2.f0 A3 c3 y.f2.f1 y.f3 (rightR y) wr g1 l1 g3 l3 HRS.out)
        clear g1 g3
        cases hr : rightR y with
        | true =>
          rw [hr] at hcall
          go_wp2_with fail
          refine hcall.out.mono ?_
          rintro e w' ⟨rfl, hb⟩
          have HB2 := Aside0.mk (below_step HB.out hb)
          clear hb
          go_wp2
          go_roundg (l0.length - (kk + 1))
          case measure => omega
          case rel =>
            refine ⟨kk + 1, by omega, by omega, by go_num, ⟨fun j hj hl => ?_⟩, HB2⟩
            by_cases e : j = kk
            · subst e; rw [← HX.out]; exact hr
            · exact HA.out j (by omega) hl
        | false =>
          rw [hr] at hcall
          have hz : checkP l0 = false := by
            unfold checkP
            have : l0.all rightR = false := List.all_eq_false.2 ⟨l0[kk], List.getElem_mem hlt, by rw [← HX.out, hr]; decide⟩
            rw [this, Bool.false_and, Bool.and_false]
          go_wp2_with fail
          refine hcall.out.mono ?_
          rintro e w' ⟨rfl, hb⟩
          have HB2 := Aside0.mk (below_step HB.out hb)
          clear hb
          go_wp2
          go_ret
          exact ⟨ret_bool hz.symm, HB2.out⟩
      · have hltz : ¬ (kk : Int) < (l0.length : Int) := by omega
        have hkl : kk = l0.length := by omega
        subst hkl
        have hall : l0.all rightR = true := by
          rw [List.all_eq_true]
          intro r hr
          obtain ⟨j, hj, rfl⟩ := List.mem_iff_getElem.1 hr
          exact HA.out j hj hj
        have HCM := Aside0.mk (checkP_matD l0 h60 hall)
        have hu := Aside0.mk (unitsB_of l0 h60 hall)
        have HALL := Aside0.mk hall
        have HR1 := Aside0.mk (Kd.C_below HR.out HB.out)
        clear HA hall HR
        go_wp2_with fail
        refine (refUnits_walk A0 c0 l0 wr HR1.out HC.out hu.out).mono ?_
        rintro e w1 ⟨v1, rfl, hS, hb⟩
        obtain ⟨A2, c2, rfl, hc2, hC2⟩ := Kd.S_reads hS
        have hlen : (refUnitsP l0).length = 20 := by simp [refUnitsP]
        have HB1 := Aside0.mk (below_step HB.out hb)
        have HU1 := Aside0.mk hC2
        have HM := Aside0.mk (show Mat (w1.alloc (.cells Try.zeroCells63 63)) 63 w1.heap.size (fun _ _ => false) from by unfold Mat; rw [← mat0]; exact blk_new _ _)
        have HB2 := Aside0.mk (below_alloc (Below.refl w1.heap.size w1) (.cells Try.zeroCells63 63))
        rw [hlen]
        have HLN := Aside0.mk hlen
        clear hS hb hc2 hC2 hlen HB HR1
        go_wp2
        generalize (w1.alloc (.cells Try.zeroCells63 63)) = W2 at *
        generalize hg : w1.heap.size = g at *
        have HG := Aside0.mk hg
        clear hg
        go_loopg [6] 20 (fun gg s6 wr => ∃ i : Nat, i ≤ 20 ∧ 20 - i ≤ gg ∧ s6 = .int .i64 i ∧ Aside0 (Mat wr 63 g (arrowUpto l0 i 0)) ∧ Aside0 (Below g w1 wr))
        case atStart => exact ⟨0, by omega, by omega, rfl, ⟨HM.out.congr (fun i j _ _ => by simp [arrowUpto])⟩, HB2⟩
        case round =>
          clear HM HB2
          obtain ⟨i, hi, hgi, rfl, HM, HB2⟩ := hrel
          by_cases hlt : i < 20
          · have hltz : (i : Int) < 20 := by omega
            have hrow : rd_L2 (refUnitsP l0) (i : Int) = refRows l0 i := by
              unfold rd_L2 refUnitsP
              rw [Int.toNat_natCast, List.getD_eq_getElem?_getD, List.getElem?_map, List.getElem?_range hlt]
              rfl
            have HROW := Aside0.mk hrow
            clear hrow
            go_wp2
            go_loopg [7] (refRows l0 i).length (fun gg s7 wr => ∃ k : Nat, k ≤ (refRows l0 i).length ∧ (refRows l0 i).length - k ≤ gg ∧ s7 = .int .i64 k ∧ Aside0 (Mat wr 63 g (arrowUpto l0 i k)) ∧ Aside0 (Below g w1 wr))
            case atStart => exact ⟨0, Nat.zero_le _, by omega, rfl, HM, HB2⟩
            case round =>
              clear HM HB2
              obtain ⟨k, hk, hgk, rfl, HM, HB2⟩ := hrel
              obtain ⟨ad, A4, c4, hA, h0, h1, h2⟩ := at_L2 (show Kd.C (Kd.slice 3 (Kd.int .i64)) wr A2 (refUnitsP l0).length (refUnitsP l0) from Kd.C_below HU1.out (by rw [HG.out]; exact HB2.out)) i (by omega) (by rw [HLN.out]; exact hltz)
              rw [HROW.out] at h0 h1 h2
              rw [Int.toNat_natCast] at h0
              subst hA
              have hlm : (refRows l0 i).length ≤ 9223372036854775807 := h2.2.1
              by_cases hlk : k < (refRows l0 i).length
              · have hz0 := (refRows_iff l0 HALL.out i hlt _).1 (List.getElem_mem hlk)
                have hz1 := rowsNext_sym l0 i ⟨by omega, by omega⟩ _ hz0
                obtain ⟨z, hz⟩ : ∃ z : Nat, (refRows l0 i)[k] = (z : Int) := ⟨(refRows l0 i)[k].toNat, by have := hz1.1; omega⟩
                have hz20 : z < 20 := by have := hz1.2; omega
                have HUP := Aside0.mk (arrowUpto_snoc l0 i k hlk z hz)
                have hlkz : (k : Int) < ((refRows l0 i).length : Int) := by omega
                obtain ⟨ad1, hA1, hc1⟩ := Kd.at_int h2 k (by omega) hlkz
                rw [Int.toNat_natCast, rd_getElem _ k hlk, hz] at hc1
                subst hA1
                have hz20z : (z : Int) < 20 := by omega
                have hcm := HM.out.cell i z hlt hz20
                have hcf := HM.out.frozen (i * 20 + z)
                have HMS := Aside0.mk (HM.out.set i z true hlt hz20)
                rw [HUP.out] at HMS
                clear hz hz0 hz1 h2 h1
                generalize (refRows l0 i).length = m at *
                go_wp2
                go_region
                all_goals
                  go_wp2
                  go_roundg (m - (k + 1))
                  case measure => omega
                  case rel => exact ⟨k + 1, by omega, by omega, by go_num, ⟨HMS.out⟩, ⟨(below_drew HB2.out).setCell (Nat.le_refl _) _⟩⟩
              · have hlkz : ¬ (k : Int) < ((refRows l0 i).length : Int) := by omega
                have hke : k = (refRows l0 i).length := by omega
                have HM2 : Aside0 (Mat wr 63 g (arrowUpto l0 (i + 1) 0)) := ⟨by rw [← arrowUpto_next, ← hke]; exact HM.out⟩
                clear hke h2
                generalize (refRows l0 i).length = m at *
                go_wp2
                go_roundg (20 - (i + 1))
                case measure => omega
                case rel => exact ⟨i + 1, by omega, by omega, by go_num, HM2, HB2⟩
          · have hltz : ¬ (i : Int) < 20 := by omega
            have hie : i = 20 := by omega
            subst hie
            have HM0 : Aside0 (Mat wr 63 g (matD (arrow l0) 0)) := ⟨HM.out.congr (fun a b ha _ => by simp [arrowUpto, matD, ha])⟩
            clear HM HU1
            go_wp2
            go_loopg [8] 20 (fun gg s8 wr => ∃ k : Nat, k ≤ 20 ∧ 20 - k ≤ gg ∧ s8 = .int .i64 k ∧ Aside0 (Mat wr 63 g (matD (arrow l0) k)) ∧ Aside0 (Below g w1 wr))
            case atStart => exact ⟨0, by omega, by omega, rfl, HM0, HB2⟩
            case round =>
              clear HM0 HB2
              obtain ⟨k, hk, hgk, rfl, HM, HB2⟩ := hrel
              by_cases hk20 : k < 20
              · have hk20z : (k : Int) < 20 := by omega
                have HM1 : Aside0 (Mat wr 63 g (stage (arrow l0) k 0 0)) := ⟨HM.out.congr (fun a b _ _ => by simp [stage])⟩
                clear HM
                go_wp2
                go_loopg [9] 20 (fun gg s9 wr => ∃ i : Nat, i ≤ 20 ∧ 20 - i ≤ gg ∧ s9 = .int .i64 i ∧ Aside0 (Mat wr 63 g (stage (arrow l0) k i 0)) ∧ Aside0 (Below g w1 wr))
                case atStart => exact ⟨0, by omega, by omega, rfl, HM1, HB2⟩
                case round =>
                  clear HM1 HB2
                  obtain ⟨i, hi, hgi, rfl, HM, HB2⟩ := hrel
                  by_cases hi20 : i < 20
                  · have hi20z : (i : Int) < 20 := by omega
                    go_wp2
                    go_loopg [10] 20 (fun gg s10 wr => ∃ j : Nat, j ≤ 20 ∧ 20 - j ≤ gg ∧ s10 = .int .i64 j ∧ Aside0 (Mat wr 63 g (stage (arrow l0) k i j)) ∧ Aside0 (Below g w1 wr))
                    case atStart => exact ⟨0, by omega, by omega, rfl, HM, HB2⟩
                    case round =>
                      clear HM HB2
                      obtain ⟨j, hj, hgj, rfl, HM, HB2⟩ := hrel
                      by_cases hj20 : j < 20
                      · have hj20z : (j : Int) < 20 := by omega
                        have m1 := HM.out.cell i j hi20 hj20
                        have m2 := HM.out.cell i k hi20 hk20
                        have m3 := HM.out.cell k j hk20 hj20
                        have mf := HM.out.frozen (i * 20 + j)
                        have HMS : ∀ v : Bool, v = (stage (arrow l0) k i j i j || (stage (arrow l0) k i j i k && stage (arrow l0) k i j k j)) → Mat (wr.setCell ⟨g, i * 20 + j, none⟩ (.bool v)) 63 g (stage (arrow l0) k i (j + 1)) := by
                          intro v hv
                          rw [← stage_upd, ← hv]
                          exact HM.out.set i j v hi20 hj20
                        generalize stage (arrow l0) k i j i j = x1 at *
                        generalize stage (arrow l0) k i j i k = x2 at *
                        generalize stage (arrow l0) k i j k j = x3 at *
                        have HMT := Aside0.mk HMS
                        clear HMS HM
                        cases x1 with
                        | true =>
                          go_wp2
                          go_region
                          all_goals
                            go_wp2
                            go_roundg (20 - (j + 1))
                            case measure => omega
                            case rel => exact ⟨j + 1, by omega, by omega, by go_num, ⟨HMT.out true (by simp)⟩, ⟨(below_drew HB2.out).setCell (Nat.le_refl _) _⟩⟩
                        | false =>
                          cases x2 with
                          | false =>
                            go_wp2
                            go_region
                            all_goals
                              go_wp2
                              go_roundg (20 - (j + 1))
                              case measure => omega
                              case rel => exact ⟨j + 1, by omega, by omega, by go_num, ⟨HMT.out false (by simp)⟩, ⟨(below_drew HB2.out).setCell (Nat.le_refl _) _⟩⟩
                          | true =>
                            cases x3 with
                            | false =>
                              go_wp2
                              go_region
                              all_goals
                                go_wp2
                                go_roundg (20 - (j + 1))
                                case measure => omega
                                case rel => exact ⟨j + 1, by omega, by omega, by go_num, ⟨HMT.out false (by simp)⟩, ⟨(below_drew HB2.out).setCell (Nat.le_refl _) _⟩⟩
                            | true =>
                              go_wp2
                              go_region
                              all_goals
                                go_wp2
                                go_roundg (20 - (j + 1))
                                case measure => omega
                                case rel => exact ⟨j + 1, by omega, by omega, by go_num, ⟨HMT.out true (by simp)⟩, ⟨(below_drew HB2.out).setCell (Nat.le_refl _) _⟩⟩
                      · have hj20z : ¬ (j : Int) < 20 := by omega
                        have hje : j = 20 := by omega
                        have HM2 : Aside0 (Mat wr 63 g (stage (arrow l0) k (i + 1) 0)) := ⟨HM.out.congr (fun a b _ hb => by
                          unfold stage
                          by_cases h : a < i ∨ (a = i ∧ b < j)
                          · rw [if_pos h, if_pos (by omega)]
                          · rw [if_neg h, if_neg (by omega)])⟩
                        go_wp2
                        go_roundg (20 - (i + 1))
                        case measure => omega
                        case rel => exact ⟨i + 1, by omega, by omega, by go_num, HM2, HB2⟩
                  · have hi20z : ¬ (i : Int) < 20 := by omega
                    have HM2 : Aside0 (Mat wr 63 g (matD (arrow l0) (k + 1))) := ⟨HM.out.congr (fun a b ha _ => by
                      unfold stage
                      rw [if_pos (by omega)])⟩
                    go_wp2
                    go_roundg (20 - (k + 1))
                    case measure => omega
                    case rel => exact ⟨k + 1, by omega, by omega, by go_num, HM2, HB2⟩
              · have hk20z : ¬ (k : Int) < 20 := by omega
                have hke : k = 20 := by omega
                subst hke
                go_wp2
                go_loopg [11] 20 (fun gg s11 wr => ∃ i : Nat, i ≤ 20 ∧ 20 - i ≤ gg ∧ s11 = .int .i64 i ∧ Aside0 (Mat wr 63 g (matD (arrow l0) 20)) ∧ Aside0 (Below g w1 wr) ∧ Aside0 (∀ j, j < i → matD (arrow l0) 20 j j = false))
                case atStart => exact ⟨0, by omega, by omega, rfl, HM, HB2, ⟨fun j hj => absurd hj (Nat.not_lt_zero _)⟩⟩
                case round =>
                  clear HM HB2
                  obtain ⟨i, hi, hgi, rfl, HM, HB2, HA⟩ := hrel
                  by_cases hi20 : i < 20
                  · have hi20z : (i : Int) < 20 := by omega
                    have m1 := HM.out.cell i i hi20 hi20
                    cases hd : matD (arrow l0) 20 i i with
                    | true =>
                      rw [hd] at m1
                      have hz : checkP l0 = false := by
                        cases hc : checkP l0 with
                        | false => rfl
                        | true =>
                          have := HCM.out.1 hc i hi20
                          rw [hd] at this
                          cases this
                      go_wp2
                      go_ret
                      exact ⟨ret_bool hz.symm, HB1.out.trans (HB2.out.mono (by rw [← HG.out]; exact HB1.out.size))⟩
                    | false =>
                      rw [hd] at m1
                      go_wp2
                      go_roundg (20 - (i + 1))
                      case measure => omega
                      case rel =>
                        refine ⟨i + 1, by omega, by omega, by go_num, HM, HB2, ⟨fun j hj => ?_⟩⟩
                        by_cases e : j = i
                        · subst e; exact hd
                        · exact HA.out j (by omega)
                  · have hi20z : ¬ (i : Int) < 20 := by omega
                    have hz : checkP l0 = true := HCM.out.2 (fun j hj => HA.out j (by omega))
                    go_wp2
                    go_ret
                    exact ⟨by first | rfl | exact ret_bool hz.symm, HB1.out.trans (HB2.out.mono (by rw [← HG.out]; exact HB1.out.size))⟩
  · have h60z : (l0.length : Int) > 60 := by omega
    have hz : checkP l0 = false := by simp [checkP, h60]
    go_enter Try.func22, Try.ntmps22
    go_wp2
    go_ret
    exact ⟨ret_bool hz.symm, Below.refl _ _⟩
theorem interlocutorref4_Check.calls (A0 : Option Addr) (c0 : Nat) (l0 : List Rule') (r : Bool) (w : World) (hr0 : Kd.C k26 w A0 l0.length l0) (hc0 : l0.length ≤ c0) (h : interlocutorref4_Check.f l0 = some r) :
    Calls Try.prog 22 #[.slice A0 l0.length c0] w fun e w' => e = .returned (.bool r) ∧ Below w.heap.size w w' := by
  obtain rfl := Option.some.inj h
  exact refCheck_walk A0 c0 l0 w hr0 hc0
end Go.Proofs.Ytjomlfdkmdgclaa.P
