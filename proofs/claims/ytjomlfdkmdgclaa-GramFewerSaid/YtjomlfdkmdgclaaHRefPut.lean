/- ref4.put: a number among others that rise, once. -/
import Derived.Test.YtjomlfdkmdgclaaHStore
import Derived.Deep.RegionLaw
namespace Go.Proofs.Ytjomlfdkmdgclaa.P
open Go.RowKit Go.Proofs.YtjomlfdkmdgclaaW.PrintWords Go.Proofs.YtjomlfdkmdgclaaW.PrintLast Go.Proofs.YtjomlfdkmdgclaaW.PrintMore
attribute [local go_sem] max2_int min2_int max_two min_two max_three min_three max_four min_four   -- for this text's walks alone
set_option linter.unusedVariables false
set_option linter.unusedSimpArgs false

def lowP (n : Int) (l : List Int) : Nat := (l.takeWhile fun x => decide (x < n)).length
def putP (l : List Int) (n : Int) : List Int := if (l.drop (lowP n l)).head? = some n then l else l.take (lowP n l) ++ n :: l.drop (lowP n l)
theorem lowP_eq (n : Int) : ∀ (l : List Int) (k : Nat), k ≤ l.length → (∀ j, j < k → ∀ h : j < l.length, l[j] < n) → (∀ h : k < l.length, ¬ l[k] < n) → lowP n l = k
  | [], k, hk, _, _ => by simp at hk; subst hk; rfl
  | x :: l, 0, _, _, h1 => by
    have h2 := h1 (by simp)
    unfold lowP
    rw [List.takeWhile_cons, if_neg (by simpa using h2)]
    rfl
  | x :: l, k + 1, hk, h0, h1 => by
    have h2 := h0 0 (by omega) (by simp)
    have h3 : x < n := h2
    have h4 := lowP_eq n l k (by simpa using hk) (fun j hj hl => by have := h0 (j + 1) (by omega) (by simpa using hl); simpa using this) (fun hl => by have := h1 (by simpa using hl); simpa using this)
    unfold lowP at h4 ⊢
    rw [List.takeWhile_cons, if_pos (by simpa using h3), List.length_cons, h4]

section
variable {ops : Array Oper} {o : Oper} {a : Act} {Q : Exit → Act → World → Prop} {Kc : Act → World → Prop}
theorem step_gate {W : World} {v : Value} (op : Op) (_h : o.op = op) (h : if Region.wanted o (yielded ops a.tmps) = true then Oper.wp Try.prog o a W Kc Q else Kc (a.put o.dst v) W) : if Region.wanted o (yielded ops a.tmps) = true then Oper.wp Try.prog o a W Kc Q else Kc (a.put o.dst v) W := h
theorem box_row {W : World} {g : Nat} {n : Int} (h : W.heap[g]? = some (.cells #[.int .i64 n] 3 (0, 0))) : Kd.C (Kd.int .i64) W (some ⟨g, 0, none⟩) 1 [n] :=
  kn_C_of_blk (d := Kd.int .i64) (xs := [n]) (cs := [.int .i64 n]) h (by simp) (kn_one rfl rfl)
theorem made_row {W : World} {base g : Nat} (h : W.heap[g]? = some (.cells #[] 3 (0, 0))) (hb : base ≤ g) : Kd.R (Kd.int .i64) 3 W base (fun _ => True) (.slice (some ⟨g, 0, none⟩) 0 0) ([] : List Int) :=
  ⟨fun _ _ => trivial, [], ⟨rfl, .inr ⟨g, 0, #[], rfl, hb, h, Nat.le_refl _, Nat.zero_le _, rfl, rfl⟩⟩, Reps.none _ _⟩
theorem app_step {w0 W : World} (base : Nat) (hw : Region.wanted o (yielded ops a.tmps) = true) (s x : Operand) (ho : o.op = .call { callee := .builtin .append, args := #[s, x], argTypes := #[22, 22] })
    (v : Value) (xs ys : List Int) (A : Option Addr) (m c : Nat) (hs : a.eval s = v) (hx : a.eval x = .slice A m c)
    (HO : Kd.R (Kd.int .i64) 3 W base (fun _ => True) v xs) (HR : Kd.C (Kd.int .i64) W A m ys) (HB : Below base w0 W) (hbase : base ≤ W.heap.size) (hl : (xs.length + m) * 8 ≤ 140737488355328)
    (h : ∀ v1 w1, Kd.R (Kd.int .i64) 3 w1 base (fun _ => True) v1 (xs ++ ys) → Below base w0 w1 → W.grownBy w1 v.ownBlock → Kc (a.put o.dst v1) w1) :
    if Region.wanted o (yielded ops a.tmps) = true then Oper.wp Try.prog o a W Kc Q else Kc (a.put o.dst undef) W :=
  Kd.R_append_rows_step (Kd.int .i64) base hw s x 22 3 (.int .i64 0) 8 ho Try.underlying22 info3 rfl (by decide) (by omega) v xs ys A m c (fun _ => True) (fun _ => False) hs hx HO HR (fun _ _ h => h) (fun _ hk => hk.elim) (fun _ _ => trivial) HB hbase hl (fun v1 w1 h1 h2 h3 _ => h v1 w1 h1 h2 h3)
end
set_option maxHeartbeats 4000000 in
set_option maxRecDepth 100000 in
theorem put_walk (A0 : Option Addr) (c0 : Nat) (l : List Int) (n : Int) (w : World) (hr0 : Kd.C (Kd.int .i64) w A0 l.length l) (hc0 : l.length ≤ c0) (hl : l.length ≤ 1000000000000) :
    Calls Try.prog 35 #[.slice A0 l.length c0, .int .i64 n] w fun e w' => ∃ v : Value, e = .returned v ∧ Below w.heap.size w w' ∧ ((v = .slice A0 l.length c0 ∧ putP l n = l) ∨ Kd.R (Kd.int .i64) 3 w' w.heap.size (fun _ => True) v (putP l n)) := by
  have HR := Aside0.mk hr0
  have HC := Aside0.mk hc0
  clear hr0 hc0
  go_enter Try.func35, Try.ntmps35
  go_wp2
  go_loopg [5] l.length (fun gg s5 wr => ∃ kk : Nat, kk ≤ l.length ∧ l.length - kk ≤ gg ∧ s5 = .int .i64 kk ∧ Drawn0 w wr ∧ Aside0 (∀ j, j < kk → ∀ h : j < l.length, l[j] < n))
  case atStart => exact ⟨0, Nat.zero_le _, by omega, rfl, Drawn0.refl _, ⟨fun j hj => absurd hj (Nat.not_lt_zero _)⟩⟩
  case round =>
    obtain ⟨kk, hkk, hgg, rfl, ⟨nd, rfl⟩, AB⟩ := hrel
    by_cases hlt : kk < l.length
    · have hltz : (kk : Int) < (l.length : Int) := by omega
      obtain ⟨ad, hA, hcell⟩ := Kd.at_int HR.out kk (by omega) hltz
      rw [Int.toNat_natCast] at hcell
      rw [rd_getElem l kk hlt] at hcell
      have hcell2 : (w.drewN nd).cell? (ad.add kk) = some (.int .i64 l[kk]) := hcell
      subst hA
      clear hcell
      by_cases hx : l[kk] < n
      · have hxb : decide (l[kk] < n) = true := decide_eq_true hx
        generalize hy : l[kk] = y at *
        clear hx
        go_wp2
        go_roundg (l.length - (kk + 1))
        case measure => omega
        case rel =>
          refine ⟨kk + 1, by omega, by omega, by go_num, ⟨_, rfl⟩, ⟨fun j hj hl => ?_⟩⟩
          by_cases e : j = kk
          · subst e; rw [hy]; exact of_decide_eq_true hxb
          · exact AB.out j (by omega) hl
      · have hlow := lowP_eq n l kk hkk AB.out (fun _ => hx)
        by_cases he : l[kk] = n
        · have hxb : decide (l[kk] < n) = false := decide_eq_false hx
          have heb : decide (l[kk] = n) = true := decide_eq_true he
          have hz : putP l n = l := by
            unfold putP
            rw [hlow, List.head?_drop, List.getElem?_eq_getElem hlt, if_pos (by rw [he])]
          generalize hy : l[kk] = y at *
          clear hx
          go_wp2
          go_ret
          exact ⟨_, rfl, pw_below_drewN (Below.refl _ _) _, .inl ⟨rfl, hz⟩⟩
        · have hxb : decide (l[kk] < n) = false := decide_eq_false hx
          have heb : decide (l[kk] = n) = false := decide_eq_false he
          have hz : putP l n = l.take kk ++ n :: l.drop kk := by
            unfold putP
            rw [hlow, List.head?_drop, List.getElem?_eq_getElem hlt, if_neg (fun h => he (Option.some.inj h))]
          generalize hy : l[kk] = y at *
          clear hx
          obtain ⟨i0, hi, hz0, hz1, hz2⟩ := info_parts info3
          obtain ⟨htk, htr, htc⟩ := print_take_of (P := Try.prog) (Value.int .i64) (0 : Int) 22 3 .i64 Try.underlying22 hi hz1 (some ad) c0 l (kk : Int) (by omega) (by omega) HC.out
          obtain ⟨A', hdk, hdr, hdc⟩ := print_drop_of (P := Try.prog) (Value.int .i64) (0 : Int) 22 3 .i64 Try.underlying22 hi hz1 (some ad) c0 l (kk : Int) (by omega) (by omega) HC.out
          rw [Int.toNat_natCast] at htc hdc
          simp only [Int.toNat_natCast] at htk htr hdk hdr
          have HT := Aside0.mk (Kd.C_of_reads (enc := Value.int .i64) (h1 := fun _ => rfl) (htr w (Kd.reads_of_C (d := (0 : Int)) HR.out)))
          have HD := Aside0.mk (Kd.C_of_reads (enc := Value.int .i64) (h1 := fun _ => rfl) (hdr w (Kd.reads_of_C (d := (0 : Int)) HR.out)))
          have HPZ := Aside0.mk hz
          clear htr hdr htc hdc hi hz0 hz1 hz2 hz
          have hlt1 : (l.take kk).length ≤ 1000000000000 := Nat.le_trans (List.length_take_le _ _) (by omega)
          have hld1 : (l.drop kk).length ≤ 1000000000000 := by rw [List.length_drop]; omega
          generalize l.take kk = lt at *
          generalize l.drop kk = ld at *
          go_wp2
          have hbw : ∀ W, Below w.heap.size w W → Kd.C (Kd.int .i64) W (some ad) lt.length lt ∧ Kd.C (Kd.int .i64) W A' ld.length ld := fun W hb => ⟨Kd.C_below HT.out hb, Kd.C_below HD.out hb⟩
          go_region_law (first
            | (refine step_gate (.call { callee := .builtin .append, args := #[.tmp 33, .tmp 36], argTypes := #[22, 22] }) rfl ?_; refine app_step (w0 := w) w.heap.size (by rfl) (.tmp 33) (.tmp 36) (by rfl) (.slice (some ⟨_, 0, none⟩) 0 0) [] lt (some ad) lt.length c0 (by rfl) (by rfl) (made_row (by repeat (first | exact kn_blk_at (by first | rfl | (simp; done)) | apply kn_blk_alloc)) (by omega)) (hbw _ (by repeat (first | (with_reducible first | exact Below.refl _ _ | exact hb1 | exact hb2 | apply below_alloc | apply pw_below_drewN | apply below_drew1)))).1 (by repeat (first | (with_reducible first | exact Below.refl _ _ | exact hb1 | exact hb2 | apply below_alloc | apply pw_below_drewN | apply below_drew1))) (by first | (simp; done) | (simp; omega)) (by first | omega | (simp; omega)) ?_; intro v1 w1 ho1 hb1 hg1)
            | (refine step_gate (.call { callee := .builtin .append, args := #[.tmp 40, .tmp 43], argTypes := #[22, 22] }) rfl ?_; refine app_step (w0 := w) w.heap.size (by rfl) (.tmp 40) (.tmp 43) (by rfl) v2 (lt ++ [n]) ld A' ld.length (c0 - kk) (by rfl) (by rfl) ho2 (hbw _ hb2).2 hb2 hb2.size (by first | omega | (simp; omega)) ?_; intro v3 w3 ho3 hb3 hg3)
            | (refine step_gate (.call { callee := .builtin .append, args := #[.tmp 37, .tmp 39], argTypes := #[22, 22] }) rfl ?_; refine app_step (w0 := w) w.heap.size (by rfl) (.tmp 37) (.tmp 39) (by rfl) v1 lt [n] _ 1 1 (by rfl) (by rfl) (by first | exact ho1 | exact Kd.R_alloc ho1 _) (box_row (by first | exact kn_blk_at (by first | rfl | (simp; done)) | exact blk_grown (by repeat (first | exact kn_blk_at (by first | rfl | (simp; done)) | apply kn_blk_alloc)) hg1 (by simp [Value.ownBlock] <;> omega))) (by repeat (first | (with_reducible first | exact Below.refl _ _ | exact hb1 | exact hb2 | apply below_alloc | apply pw_below_drewN | apply below_drew1))) (by first | exact hb1.size | (have := hb1.size; simp; omega)) (by first | omega | (simp; omega)) ?_; intro v2 w2 ho2 hb2 hg2))
          all_goals
            go_wp2
            go_ret
            exact ⟨_, rfl, hb3, .inr (by rw [HPZ.out, show lt ++ n :: ld = lt ++ [n] ++ ld by simp]; exact ho3)⟩
    · have hltz : ¬ (kk : Int) < (l.length : Int) := by omega
      have hke : kk = l.length := by omega
      have hlow := lowP_eq n l kk hkk AB.out (fun h => absurd h hlt)
      have hz : putP l n = l.take kk ++ n :: l.drop kk := by
        unfold putP
        rw [hlow, List.head?_drop, List.getElem?_eq_none (by omega), if_neg (by simp)]
      have hkl : l.length ≤ kk := by omega
      clear hke
      obtain ⟨i0, hi, hz0, hz1, hz2⟩ := info_parts info3
      obtain ⟨htk, htr, htc⟩ := print_take_of (P := Try.prog) (Value.int .i64) (0 : Int) 22 3 .i64 Try.underlying22 hi hz1 A0 c0 l (kk : Int) (by omega) (by omega) HC.out
      obtain ⟨A', hdk, hdr, hdc⟩ := print_drop_of (P := Try.prog) (Value.int .i64) (0 : Int) 22 3 .i64 Try.underlying22 hi hz1 A0 c0 l (kk : Int) (by omega) (by omega) HC.out
      rw [Int.toNat_natCast] at htc hdc
      simp only [Int.toNat_natCast] at htk htr hdk hdr
      have HT := Aside0.mk (Kd.C_of_reads (enc := Value.int .i64) (h1 := fun _ => rfl) (htr w (Kd.reads_of_C (d := (0 : Int)) HR.out)))
      have HD := Aside0.mk (Kd.C_of_reads (enc := Value.int .i64) (h1 := fun _ => rfl) (hdr w (Kd.reads_of_C (d := (0 : Int)) HR.out)))
      have HPZ := Aside0.mk hz
      clear htr hdr htc hdc hi hz0 hz1 hz2 hz
      have hlt1 : (l.take kk).length ≤ 1000000000000 := Nat.le_trans (List.length_take_le _ _) (by omega)
      have hld1 : (l.drop kk).length ≤ 1000000000000 := by rw [List.length_drop]; omega
      generalize l.take kk = lt at *
      generalize l.drop kk = ld at *
      go_wp2
      have hbw : ∀ W, Below w.heap.size w W → Kd.C (Kd.int .i64) W A0 lt.length lt ∧ Kd.C (Kd.int .i64) W A' ld.length ld := fun W hb => ⟨Kd.C_below HT.out hb, Kd.C_below HD.out hb⟩
      go_region_law (first
        | (refine step_gate (.call { callee := .builtin .append, args := #[.tmp 33, .tmp 36], argTypes := #[22, 22] }) rfl ?_; refine app_step (w0 := w) w.heap.size (by rfl) (.tmp 33) (.tmp 36) (by rfl) (.slice (some ⟨_, 0, none⟩) 0 0) [] lt A0 lt.length c0 (by rfl) (by rfl) (made_row (by repeat (first | exact kn_blk_at (by first | rfl | (simp; done)) | apply kn_blk_alloc)) (by omega)) (hbw _ (by repeat (first | (with_reducible first | exact Below.refl _ _ | exact hb1 | exact hb2 | apply below_alloc | apply pw_below_drewN | apply below_drew1)))).1 (by repeat (first | (with_reducible first | exact Below.refl _ _ | exact hb1 | exact hb2 | apply below_alloc | apply pw_below_drewN | apply below_drew1))) (by first | (simp; done) | (simp; omega)) (by first | omega | (simp; omega)) ?_; intro v1 w1 ho1 hb1 hg1)
        | (refine step_gate (.call { callee := .builtin .append, args := #[.tmp 40, .tmp 43], argTypes := #[22, 22] }) rfl ?_; refine app_step (w0 := w) w.heap.size (by rfl) (.tmp 40) (.tmp 43) (by rfl) v2 (lt ++ [n]) ld A' ld.length (c0 - kk) (by rfl) (by rfl) ho2 (hbw _ hb2).2 hb2 hb2.size (by first | omega | (simp; omega)) ?_; intro v3 w3 ho3 hb3 hg3)
        | (refine step_gate (.call { callee := .builtin .append, args := #[.tmp 37, .tmp 39], argTypes := #[22, 22] }) rfl ?_; refine app_step (w0 := w) w.heap.size (by rfl) (.tmp 37) (.tmp 39) (by rfl) v1 lt [n] _ 1 1 (by rfl) (by rfl) (by first | exact ho1 | exact Kd.R_alloc ho1 _) (box_row (by first | exact kn_blk_at (by first | rfl | (simp; done)) | exact blk_grown (by repeat (first | exact kn_blk_at (by first | rfl | (simp; done)) | apply kn_blk_alloc)) hg1 (by simp [Value.ownBlock] <;> omega))) (by repeat (first | (with_reducible first | exact Below.refl _ _ | exact hb1 | exact hb2 | apply below_alloc | apply pw_below_drewN | apply below_drew1))) (by first | exact hb1.size | (have := hb1.size; simp; omega)) (by first | omega | (simp; omega)) ?_; intro v2 w2 ho2 hb2 hg2))
      all_goals
        go_wp2
        go_ret
        exact ⟨_, rfl, hb3, .inr (by rw [HPZ.out, show lt ++ n :: ld = lt ++ [n] ++ ld by simp]; exact ho3)⟩

theorem put_row (A0 : Option Addr) (c0 : Nat) (l : List Int) (n : Int) (w : World) (base : Nat) (hb : base ≤ w.heap.size) (hr0 : Kd.R (Kd.int .i64) 3 w base (fun _ => True) (.slice A0 l.length c0) l) (hl : l.length ≤ 1000000000000) :
    Calls Try.prog 35 #[.slice A0 l.length c0, .int .i64 n] w fun e w' => ∃ A c, e = .returned (.slice A (putP l n).length c) ∧ Below w.heap.size w w' ∧ Kd.R (Kd.int .i64) 3 w' base (fun _ => True) (.slice A (putP l n).length c) (putP l n) := by
  obtain ⟨_, hc, hC⟩ := Kd.R_reads' hr0
  refine (put_walk A0 c0 l n w hC hc hl).mono ?_
  rintro e w' ⟨v, rfl, hb', hcase⟩
  have hR : Kd.R (Kd.int .i64) 3 w' base (fun _ => True) v (putP l n) := by
    rcases hcase with ⟨rfl, e2⟩ | h
    · rw [e2]; exact Kd.R_below hr0 hb'
    · exact Kd.R_lower h hb
  obtain ⟨A, c, rfl⟩ := Kd.R_slice hR
  exact ⟨A, c, rfl, hb', hR⟩
theorem put_rowN (A0 : Option Addr) (c0 n0 : Nat) (l : List Int) (n : Int) (w : World) (base : Nat) (hb : base ≤ w.heap.size) (hn : l.length = n0) (hr0 : Kd.R (Kd.int .i64) 3 w base (fun _ => True) (.slice A0 n0 c0) l) (hl : n0 ≤ 1000000000000) :
    Calls Try.prog 35 #[.slice A0 n0 c0, .int .i64 n] w fun e w' => ∃ A c, e = .returned (.slice A (putP l n).length c) ∧ Below w.heap.size w w' ∧ Kd.R (Kd.int .i64) 3 w' base (fun _ => True) (.slice A (putP l n).length c) (putP l n) := by
  subst hn
  exact put_row A0 c0 l n w base hb hr0 hl
/-! ### put, in plain words -/
theorem lowP_le (n : Int) (l : List Int) : lowP n l ≤ l.length := (List.takeWhile_sublist _).length_le
theorem lowP_take (n : Int) (l : List Int) : ∀ x ∈ l.take (lowP n l), x < n := by
  intro x hx
  have h : l.take (lowP n l) = l.takeWhile fun x => decide (x < n) := by
    unfold lowP
    exact (List.prefix_iff_eq_take.1 (List.takeWhile_prefix _)).symm
  rw [h] at hx
  have := List.all_eq_true.1 (List.all_takeWhile (l := l) (p := fun x => decide (x < n))) x hx
  exact of_decide_eq_true this
theorem lowP_drop (n : Int) (l : List Int) (hs : l.Pairwise (· < ·)) : ∀ x ∈ l.drop (lowP n l), n ≤ x := by
  induction l with
  | nil => simp [lowP]
  | cons a l ih =>
    unfold lowP
    by_cases h : a < n
    · rw [List.takeWhile_cons, if_pos (by simpa using h), List.length_cons, List.drop_succ_cons]
      exact ih (List.pairwise_cons.1 hs).2
    · rw [List.takeWhile_cons, if_neg (by simpa using h)]
      intro x hx
      rcases List.mem_cons.1 hx with rfl | hx
      · omega
      · have := (List.pairwise_cons.1 hs).1 x hx
        omega
theorem mem_putP (l : List Int) (n : Int) (y : Int) : y ∈ putP l n ↔ y = n ∨ y ∈ l := by
  unfold putP
  split
  case isTrue h =>
    constructor
    · exact .inr
    · rintro (rfl | h2)
      · have : y ∈ l.drop (lowP y l) := by
          cases hd : l.drop (lowP y l) with
          | nil => rw [hd] at h; cases h
          | cons a t => rw [hd] at h; simp at h; simp [h]
        exact List.mem_of_mem_drop this
      · exact h2
  case isFalse h =>
    rw [List.mem_append, List.mem_cons]
    constructor
    · rintro (h | rfl | h)
      · exact .inr (List.mem_of_mem_take h)
      · exact .inl rfl
      · exact .inr (List.mem_of_mem_drop h)
    · rintro (rfl | h)
      · exact .inr (.inl rfl)
      · rw [← List.take_append_drop (lowP n l) l, List.mem_append] at h
        rcases h with h | h
        · exact .inl h
        · exact .inr (.inr h)
theorem putP_sorted (l : List Int) (n : Int) (hs : l.Pairwise (· < ·)) : (putP l n).Pairwise (· < ·) := by
  unfold putP
  split
  · exact hs
  case isFalse h =>
    have h1 := lowP_take n l
    have h2 := lowP_drop n l hs
    have h3 : ∀ x ∈ l.drop (lowP n l), n < x := by
      intro x hx
      have h4 := h2 x hx
      by_cases e : x = n
      · exfalso
        subst e
        cases hd : l.drop (lowP x l) with
        | nil => rw [hd] at hx; cases hx
        | cons a t =>
          rw [hd] at h hx h2
          have h5 : a ≠ x := fun e => h (by simp [e])
          have h6 := h2 a List.mem_cons_self
          rcases List.mem_cons.1 hx with e | hx
          · exact h5 e.symm
          · have h7 : (l.drop (lowP x l)).Pairwise (· < ·) := hs.sublist (List.drop_sublist _ _)
            rw [hd] at h7
            have := (List.pairwise_cons.1 h7).1 x hx
            omega
      · omega
    rw [List.pairwise_append, List.pairwise_cons]
    refine ⟨hs.sublist (List.take_sublist _ _), ⟨h3, hs.sublist (List.drop_sublist _ _)⟩, fun a ha b hb => ?_⟩
    rcases List.mem_cons.1 hb with rfl | hb
    · exact h1 a ha
    · have := h1 a ha
      have := h3 b hb
      omega
theorem putP_mem_len (l : List Int) (n : Int) (hs : l.Pairwise (· < ·)) : ((putP l n).length = l.length ↔ n ∈ l) ∧ l.length ≤ (putP l n).length ∧ (n ∈ l → putP l n = l) := by
  have hle := lowP_le n l
  by_cases h : (l.drop (lowP n l)).head? = some n
  · have e : putP l n = l := by unfold putP; rw [if_pos h]
    have hm : n ∈ l := by
      have := (mem_putP l n n).2 (.inl rfl)
      rwa [e] at this
    rw [e]
    exact ⟨⟨fun _ => hm, fun _ => rfl⟩, Nat.le_refl _, fun _ => rfl⟩
  · have e : putP l n = l.take (lowP n l) ++ n :: l.drop (lowP n l) := by unfold putP; rw [if_neg h]
    have hl : (putP l n).length = l.length + 1 := by
      rw [e, List.length_append, List.length_cons, List.length_take, List.length_drop]
      omega
    have hm : n ∉ l := by
      intro hm
      have hp := putP_sorted l n hs
      rw [e, List.pairwise_append, List.pairwise_cons] at hp
      rw [← List.take_append_drop (lowP n l) l, List.mem_append] at hm
      rcases hm with hm | hm
      · have := lowP_take n l n hm
        omega
      · have := hp.2.1.1 n hm
        omega
    rw [hl]
    exact ⟨⟨fun h => by omega, fun h => absurd h hm⟩, by omega, fun h => absurd h hm⟩
end Go.Proofs.Ytjomlfdkmdgclaa.P
