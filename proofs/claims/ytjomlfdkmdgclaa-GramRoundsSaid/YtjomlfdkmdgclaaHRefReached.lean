/- ref4.Reached: the document's symbols that a text's is made of. -/
import Derived.Test.YtjomlfdkmdgclaaHRefPut
import Derived.Test.YtjomlfdkmdgclaaHGramPure
namespace Go.Proofs.Ytjomlfdkmdgclaa.P
open Go.RowKit Go.Proofs.YtjomlfdkmdgclaaW.PrintWords Go.Proofs.YtjomlfdkmdgclaaW.PrintLast Go.Proofs.YtjomlfdkmdgclaaW.PrintMore
attribute [local go_sem] max2_int min2_int max_two min_two max_three min_three max_four min_four   -- for this text's walks alone
set_option linter.unusedVariables false
set_option linter.unusedSimpArgs false

theorem sorted_ext {l l' : List Int} (h : l.Pairwise (· < ·)) (h' : l'.Pairwise (· < ·)) (hm : ∀ y, y ∈ l ↔ y ∈ l') : l = l' := by
  have n1 : l.Nodup := h.imp (fun h => Int.ne_of_lt h)
  have n2 : l'.Nodup := h'.imp (fun h => Int.ne_of_lt h)
  have hp : l.Perm l' := (List.perm_ext_iff_of_nodup n1 n2).2 hm
  have s : ∀ l : List Int, l.Pairwise (· < ·) → sortI l = l := by
    intro l h
    unfold sortI
    refine List.mergeSort_of_pairwise (h.imp ?_)
    intro a b h
    simp [leI]
    omega
  rw [← s l h, ← s l' h']
  exact mergeSort_of_perm_i hp
/-- What rules ask that are looked at by the document: symbols alone. -/
def symRules (l0 : List Rule') : Bool := l0.all fun r => decide (0 ≤ r.f0 ∧ r.f0 < 20) && r.f1.all fun y => decide (y < 20)
noncomputable def interlocutorref4_Reached.f (l0 : List Rule') : Option (List Int) := if symRules l0 = true then some (reachL (nextP l0) [0]) else none
/-- l: what has been reached so far. -/
structure Sofar (l0 : List Rule') (l : List Int) : Prop where
  zero : 0 ∈ l
  sorted : l.Pairwise (· < ·)
  reach : ∀ y ∈ l, Reach (nextP l0) [0] y
def doneRule (l : List Int) (r : Rule') : Prop := r.f0 ∈ l → ∀ y ∈ r.f1, 0 ≤ y → y ∈ l
theorem Sofar.len {l0 : List Rule'} {l : List Int} (h : Sofar l0 l) : l.length ≤ 20 :=
  length_of_sub (h.sorted.imp (fun h => Int.ne_of_lt h)) (fun x hx => (h.reach x hx).sym (fun x _ => nextP_sym l0 x) zero_sym)
theorem Sofar.eq {l0 : List Rule'} {l : List Int} (h : Sofar l0 l) (hd : ∀ r ∈ l0, doneRule l r) : l = reachL (nextP l0) [0] := by
  refine sorted_ext h.sorted (reachL_sorted _ _) fun y => ?_
  rw [mem_reached]
  refine ⟨h.reach y, fun hr => ?_⟩
  refine Reach.inv (P := fun y => y ∈ l) (fun x hx => by rw [List.mem_singleton.1 hx]; exact h.zero) (fun x hx y hy => ?_) hr
  obtain ⟨hs, r, hr, h1, h2⟩ := (mem_nextP l0 x y).1 hy
  exact hd r hr (by rw [h1]; exact hx) y h2 hs.1
theorem Sofar.start (l0 : List Rule') : Sofar l0 [0] := ⟨by simp, by simp, fun y hy => .base hy⟩
theorem Sofar.put {l0 : List Rule'} {l : List Int} (h : Sofar l0 l) (r : Rule') (hr : r ∈ l0) (h0 : r.f0 ∈ l) (y : Int) (hy : y ∈ r.f1) (hs : inSym y) : Sofar l0 (putP l y) := by
  refine ⟨(mem_putP _ _ _).2 (.inr h.zero), putP_sorted _ _ h.sorted, fun z hz => ?_⟩
  rcases (mem_putP _ _ _).1 hz with rfl | hz
  · exact .step (h.reach _ h0) ((mem_nextP l0 _ _).2 ⟨hs, r, hr, rfl, hy⟩)
  · exact h.reach z hz
/-- Where a pass stands: more was found (again), or nothing so far, and l is as it was, of size n. -/
def Pass (again : Bool) (l : List Int) (n : Nat) (done : List Int → Prop) : Prop := n ≤ l.length ∧ (again = true → n < l.length) ∧ (again = false → l.length = n ∧ done l)

set_option maxHeartbeats 4000000 in
set_option maxRecDepth 100000 in
theorem refReached_walk (A0 : Option Addr) (c0 : Nat) (l0 : List Rule') (w : World) (hr0 : Kd.C k26 w A0 l0.length l0) (hc0 : l0.length ≤ c0) (hu : symRules l0 = true) :
    Calls Try.prog 25 #[.slice A0 l0.length c0] w fun e w' => ∃ v0_ : Value, e = .returned (v0_) ∧ Kd.R (Kd.int .i64) 3 w' w.heap.size (fun _ => True) v0_ (reachL (nextP l0) [0]) ∧ Below w.heap.size w w' := by
  have hl : l0.length ≤ 9223372036854775807 := hr0.2.1
  have HU := Aside0.mk hu
  have HR := Aside0.mk hr0
  have HC := Aside0.mk hc0
  clear hr0 hc0 hu
  have hR1 : Aside0 (Kd.R (Kd.int .i64) 3 (w.alloc (.cells #[.int .i64 0] 3)) w.heap.size (fun _ => True) (.slice (some ⟨w.heap.size, 0, none⟩) ([0] : List Int).length 1) [0]) :=
    ⟨Kd.R_of_own (enc := Value.int .i64) (h1 := fun _ => rfl) (xs := [0]) (World.ownsRow_lit (base := w.heap.size) (e := 3) (size := 1) w #[.int .i64 0] 1 (Nat.le_refl _) (by simp [maxLen]) rfl) (fun _ _ => trivial)⟩
  have HB1 := Aside0.mk (below_alloc (Below.refl w.heap.size w) (.cells #[.int .i64 0] 3))
  go_enter Try.func25, Try.ntmps25
  go_wp2
  go_loopg [3, 4] 30 (fun gg s3 s4 wr => ∃ (l : List Int) (again : Bool) (A : Option Addr) (c : Nat), s3 = .slice A l.length c ∧ s4 = .bool again ∧ Aside0 (again.toNat + 30 ≤ gg + l.length) ∧ Aside0 (Sofar l0 l) ∧ Aside0 (again = false → ∀ r ∈ l0, doneRule l r) ∧ Aside0 (Kd.R (Kd.int .i64) 3 wr w.heap.size (fun _ => True) (.slice A l.length c) l) ∧ Aside0 (Below w.heap.size w wr))
  case atStart => exact ⟨[0], true, _, _, rfl, rfl, ⟨by simp⟩, ⟨Sofar.start l0⟩, ⟨fun h => by cases h⟩, hR1, HB1⟩
  case round =>
    clear hR1 HB1
    obtain ⟨l, again, A, c, rfl, rfl, HG, HS, HD, HRL, HB⟩ := hrel
    cases again with
    | false =>
      have h9 := HRL.out
      have he := HS.out.eq (HD.out rfl)
      have HE := Aside0.mk he
      have HR9 := Aside0.mk h9
      clear he h9 HRL
      go_wp2
      go_ret
      have h8 := HR9.out
      refine ⟨_, rfl, ?_, HB.out⟩
      rw [← HE.out]
      exact h8
    | true =>
      have hl20 := HS.out.len
      have hg1 := HG.out
      generalize hn0 : l.length = n0 at *
      have HN0 := Aside0.mk hn0
      obtain ⟨G, hG⟩ : ∃ G, G = gk := ⟨_, rfl⟩
      have hgg : 31 ≤ gk + n0 := by simpa [Nat.add_comm] using hg1
      clear hn0 hg1 HG HD
      go_wp2
      go_loopg [3, 4, 5] l0.length (fun gg s3 s4 s5 wr => ∃ (l : List Int) (again : Bool) (A : Option Addr) (c : Nat) (i : Nat), s3 = .slice A l.length c ∧ s4 = .bool again ∧ s5 = .int .i64 i ∧ i ≤ l0.length ∧ l0.length - i ≤ gg ∧ Aside0 (Sofar l0 l) ∧ Aside0 (Pass again l n0 (fun l => ∀ j, j < i → ∀ h : j < l0.length, doneRule l l0[j])) ∧ Aside0 (Kd.R (Kd.int .i64) 3 wr w.heap.size (fun _ => True) (.slice A l.length c) l) ∧ Aside0 (Below w.heap.size w wr))
      case atStart =>
        refine ⟨l, false, A, c, 0, by rw [HN0.out], rfl, rfl, Nat.zero_le _, by omega, HS, ⟨⟨by rw [HN0.out]; exact Nat.le_refl _, (fun h => by cases h), fun _ => ⟨HN0.out, fun j hj => absurd hj (Nat.not_lt_zero _)⟩⟩⟩, ⟨by rw [HN0.out]; exact HRL.out⟩, HB⟩
      case round =>
        clear HS HRL HB HN0
        obtain ⟨l, again, A, c, i, rfl, rfl, rfl, hi, hgi, HS, HP, HRL, HB⟩ := hrel
        by_cases hlt : i < l0.length
        · have hltz : (i : Int) < (l0.length : Int) := by omega
          obtain ⟨ad, A1, c1, A3, c3, hA, h0, h1, h2, h3, h4, l1, g1, l3, g3⟩ := at_T26 HR.out i (by omega) hltz
          have hx : rd_T26 l0 i = l0[i] := by simp [rd_T26, List.getD_eq_getElem?_getD, List.getElem?_eq_getElem hlt]
          generalize rd_T26 l0 i = y at *
          have HX := Aside0.mk hx
          have HM : Aside0 (y ∈ l0) := ⟨by rw [hx]; exact List.getElem_mem hlt⟩
          rw [Int.toNat_natCast] at h0 h1 h2 h3 h4
          subst hA
          have h0' := pw_cell_below HB.out h0
          have h1' := pw_cell_below HB.out h1
          have H0 := Aside0.mk h0
          have H1 := Aside0.mk h1
          have HG1 := Aside0.mk g1
          have hly : y.f1.length ≤ 9223372036854775807 := g1.2.1
          clear hx l3 g3 g1 h0 h1 h2 h3 h4
          have hll := HS.out.len
          have hml := putP_mem_len l y.f0 HS.out.sorted
          generalize hm0 : l.length = m0 at *
          have HM0 := Aside0.mk hm0
          clear hm0
          go_wp2_with fail
          refine (put_rowN A c m0 l y.f0 wr w.heap.size HB.out.size HM0.out HRL.out (by omega)).mono ?_
          rintro e w2 ⟨A2, c2, rfl, hb2, hR2⟩
          have HB2 := Aside0.mk (below_step HB.out hb2)
          have HRL2 := Aside0.mk (Kd.R_below HRL.out hb2)
          clear hR2 hb2 HB HRL h0' h1'
          have h1' := pw_cell_below HB2.out H1.out
          by_cases hin : y.f0 ∈ l
          · rw [hml.1.2 hin]
            have HIN := Aside0.mk hin
            clear hin hml
            go_wp2
            go_loopg [3, 4, 6] y.f1.length (fun gg s3 s4 s6 wr => ∃ (l : List Int) (again : Bool) (A : Option Addr) (c : Nat) (k : Nat), s3 = .slice A l.length c ∧ s4 = .bool again ∧ s6 = .int .i64 k ∧ k ≤ y.f1.length ∧ y.f1.length - k ≤ gg ∧ Aside0 (y.f0 ∈ l) ∧ Aside0 (Sofar l0 l) ∧ Aside0 (Pass again l n0 (fun l => (∀ j, j < i → ∀ h : j < l0.length, doneRule l l0[j]) ∧ ∀ j, j < k → ∀ h : j < y.f1.length, 0 ≤ y.f1[j] → y.f1[j] ∈ l)) ∧ Aside0 (Kd.R (Kd.int .i64) 3 wr w.heap.size (fun _ => True) (.slice A l.length c) l) ∧ Aside0 (Below w.heap.size w wr))
            case atStart =>
              refine ⟨l, again, A, c, 0, by rw [HM0.out], rfl, rfl, Nat.zero_le _, by omega, HIN, HS, ⟨?_⟩, ⟨by rw [HM0.out]; exact HRL2.out⟩, HB2⟩
              obtain ⟨p1, p2, p3⟩ := HP.out
              exact ⟨p1, p2, fun h => ⟨(p3 h).1, (p3 h).2, fun j hj => absurd hj (Nat.not_lt_zero _)⟩⟩
            case round =>
              clear HIN HS HP HRL2 HB2 HM0 h1' hll
              obtain ⟨l, again, A, c, k, rfl, rfl, rfl, hk, hgk, HIN, HS, HP, HRL, HB⟩ := hrel
              have h1' := pw_cell_below HB.out H1.out
              have hll := HS.out.len
              generalize hm0 : l.length = m1 at *
              have HM0 := Aside0.mk hm0
              clear hm0
              by_cases hlk : k < y.f1.length
              · have hlkz : (k : Int) < (y.f1.length : Int) := by omega
                obtain ⟨ad1, hA1, hc1⟩ := Kd.at_int (Kd.C_below HG1.out HB.out) k (by omega) hlkz
                rw [Int.toNat_natCast, rd_getElem y.f1 k hlk] at hc1
                subst hA1
                have HZ : Aside0 (y.f1[k] ∈ y.f1 ∧ y.f1[k] < 20) := ⟨List.getElem_mem hlk, by
                  have h5 := List.all_eq_true.1 HU.out y HM.out
                  rw [Bool.and_eq_true] at h5
                  exact of_decide_eq_true (List.all_eq_true.1 h5.2 _ (List.getElem_mem hlk))⟩
                generalize hz : y.f1[k] = z at *
                have HZ2 := Aside0.mk hz
                clear hz
                by_cases hz0 : z < 0
                · have hzb : decide (z < 0) = true := decide_eq_true hz0
                  go_wp2
                  go_roundg (y.f1.length - (k + 1))
                  case measure => omega
                  case rel =>
                    refine ⟨l, again, A, c, k + 1, by rw [HM0.out], rfl, by go_num, by omega, by omega, HIN, HS, ⟨?_⟩, ⟨by rw [HM0.out]; exact HRL.out⟩, HB⟩
                    obtain ⟨p1, p2, p3⟩ := HP.out
                    refine ⟨p1, p2, fun h => ⟨(p3 h).1, (p3 h).2.1, fun j hj hlj h0 => ?_⟩⟩
                    by_cases e : j = k
                    · subst e; rw [HZ2.out] at h0; omega
                    · exact (p3 h).2.2 j (by omega) hlj h0
                · have hzb : decide (z < 0) = false := decide_eq_false hz0
                  have HS2 := Aside0.mk (HS.out.put y HM.out HIN.out z HZ.out.1 ⟨by omega, HZ.out.2⟩)
                  have hml := putP_mem_len l z HS.out.sorted
                  rw [HM0.out] at hml
                  have hml2 := HS2.out.len
                  clear hz0
                  go_wp2_with fail
                  refine (put_rowN A c m1 l z wr w.heap.size HB.out.size HM0.out HRL.out (by omega)).mono ?_
                  rintro e w2 ⟨A2, c2, rfl, hb2, hR2⟩
                  have HB2 := Aside0.mk (below_step HB.out hb2)
                  have HR2 := Aside0.mk hR2
                  have HIN2 := Aside0.mk ((mem_putP l z y.f0).2 (.inr HIN.out))
                  have HML := Aside0.mk hml
                  clear hR2 hb2 HB HRL h1' hc1 hml
                  generalize hq : (putP l z).length = q at *
                  have HQ := Aside0.mk hq
                  clear hq
                  have hqle : m1 ≤ q := HML.out.2.1
                  cases again with
                  | true =>
                    go_wp2
                    go_roundg (y.f1.length - (k + 1))
                    case measure => omega
                    case rel =>
                      refine ⟨putP l z, true, A2, c2, k + 1, by rw [HQ.out], rfl, by go_num, by omega, by omega, HIN2, HS2, ⟨?_⟩, ⟨by rw [HQ.out]; exact HR2.out⟩, HB2⟩
                      obtain ⟨p1, p2, p3⟩ := HP.out
                      have := p2 rfl
                      have := HM0.out
                      have := HQ.out
                      exact ⟨by omega, fun _ => by omega, fun h => by cases h⟩
                  | false =>
                    by_cases hgr : m1 < q
                    · have hgz : decide ((m1 : Int) < (q : Int)) = true := decide_eq_true (by omega)
                      go_wp2
                      go_roundg (y.f1.length - (k + 1))
                      case measure => omega
                      case rel =>
                        refine ⟨putP l z, true, A2, c2, k + 1, by rw [HQ.out], rfl, by go_num, by omega, by omega, HIN2, HS2, ⟨?_⟩, ⟨by rw [HQ.out]; exact HR2.out⟩, HB2⟩
                        obtain ⟨p1, p2, p3⟩ := HP.out
                        have := HM0.out
                        have := HQ.out
                        exact ⟨by omega, fun _ => by omega, fun h => by cases h⟩
                    · have hgz : decide ((m1 : Int) < (q : Int)) = false := decide_eq_false (by omega)
                      have hqe : q = m1 := by omega
                      have HE : Aside0 (z ∈ l ∧ putP l z = l) := ⟨HML.out.1.1 hqe, HML.out.2.2 (HML.out.1.1 hqe)⟩
                      go_wp2
                      go_roundg (y.f1.length - (k + 1))
                      case measure => omega
                      case rel =>
                        refine ⟨putP l z, false, A2, c2, k + 1, by first | (rw [HQ.out]; done) | rw [HQ.out, hqe], rfl, by go_num, by omega, by omega, HIN2, HS2, ⟨?_⟩, ⟨by rw [HQ.out]; exact HR2.out⟩, HB2⟩
                        obtain ⟨p1, p2, p3⟩ := HP.out
                        rw [HE.out.2]
                        refine ⟨p1, (fun h => by cases h), fun h => ⟨(p3 h).1, (p3 h).2.1, fun j hj hlj h0 => ?_⟩⟩
                        by_cases e : j = k
                        · subst e; rw [HZ2.out]; exact HE.out.1
                        · exact (p3 h).2.2 j (by omega) hlj h0
              · have hlkz : ¬ (k : Int) < (y.f1.length : Int) := by omega
                have hke : k = y.f1.length := by omega
                have HKE := Aside0.mk hke
                clear hke
                go_wp2
                go_roundg (l0.length - (i + 1))
                case measure => omega
                case rel =>
                  refine ⟨l, again, A, c, i + 1, by rw [HM0.out], rfl, by go_num, by omega, by omega, HS, ⟨?_⟩, ⟨by rw [HM0.out]; exact HRL.out⟩, HB⟩
                  obtain ⟨p1, p2, p3⟩ := HP.out
                  refine ⟨p1, p2, fun h => ⟨(p3 h).1, fun j hj hlj => ?_⟩⟩
                  by_cases e : j = i
                  · subst e
                    rw [← HX.out]
                    intro _ v hv h0
                    obtain ⟨t, ht, rfl⟩ := List.mem_iff_getElem.1 hv
                    exact (p3 h).2.2 t (by rw [HKE.out]; exact ht) ht h0
                  · exact (p3 h).2.1 j (by omega) hlj
          · have hne : (putP l y.f0).length ≠ m0 := fun h => hin (hml.1.1 h)
            generalize (putP l y.f0).length = q at *
            have hqz : ((q : Int) == (m0 : Int)) = false := beq_eq_false_iff_ne.2 (by omega)
            have HIN := Aside0.mk hin
            clear hin hml hne
            go_wp2
            go_roundg (l0.length - (i + 1))
            case measure => omega
            case rel =>
              refine ⟨l, again, A, c, i + 1, by rw [HM0.out], rfl, by go_num, by omega, by omega, HS, ⟨?_⟩, ⟨by rw [HM0.out]; exact HRL2.out⟩, HB2⟩
              obtain ⟨p1, p2, p3⟩ := HP.out
              refine ⟨p1, p2, fun h => ⟨(p3 h).1, fun j hj hlj => ?_⟩⟩
              by_cases e : j = i
              · subst e
                rw [← HX.out]
                exact fun h => absurd h HIN.out
              · exact (p3 h).2 j (by omega) hlj
        · have hltz : ¬ (i : Int) < (l0.length : Int) := by omega
          have hie : i = l0.length := by omega
          have HIE := Aside0.mk hie
          have hll := HS.out.len
          obtain ⟨p1, p2, p3⟩ := HP.out
          clear hie HP
          have HP3 := Aside0.mk p3
          have HP2 := Aside0.mk p2
          have HP1 := Aside0.mk p1
          clear p1 p2 p3
          generalize hm0 : l.length = m0 at *
          have HM0 := Aside0.mk hm0
          clear hm0
          go_wp2
          go_roundg (G - 1)
          case measure => omega
          case rel =>
            refine ⟨l, again, A, c, by rw [HM0.out], rfl, ⟨?_⟩, HS, ⟨fun h r hr => ?_⟩, ⟨by rw [HM0.out]; exact HRL.out⟩, HB⟩
            · cases again with
              | false => have := (HP3.out rfl).1; have := HM0.out; simp; omega
              | true => have := HP2.out rfl; have := HM0.out; simp; omega
            · obtain ⟨j, hj, rfl⟩ := List.mem_iff_getElem.1 hr
              exact (HP3.out h).2 j (by rw [HIE.out]; exact hj) hj
theorem interlocutorref4_Reached.calls (A0 : Option Addr) (c0 : Nat) (l0 : List Rule') (r : List Int) (w : World) (hr0 : Kd.C k26 w A0 l0.length l0) (hc0 : l0.length ≤ c0) (h : interlocutorref4_Reached.f l0 = some r) :
    Calls Try.prog 25 #[.slice A0 l0.length c0] w fun e w' => ∃ v0_ : Value, e = .returned (v0_) ∧ Kd.R (Kd.int .i64) 3 w' w.heap.size (fun _ => True) v0_ r ∧ Below w.heap.size w w' := by
  unfold interlocutorref4_Reached.f at h
  split at h
  case isFalse => cases h
  case isTrue hu =>
  obtain rfl := Option.some.inj h
  exact refReached_walk A0 c0 l0 w hr0 hc0 hu
end Go.Proofs.Ytjomlfdkmdgclaa.P
