/- gram.all, the checker's two methods as function values, gram.Right: what they answer. -/
import Derived.Test.YtjomlfdkmdgclaaHSlInt
import Derived.Test.YtjomlfdkmdgclaaP3
import Derived.Test.YtjomlfdkmdgclaaP3
import Derived.Test.YtjomlfdkmdgclaaP3
namespace Go.Proofs.Ytjomlfdkmdgclaa.P
open Go.RowKit Go.Proofs.YtjomlfdkmdgclaaW.PrintWords Go.Proofs.YtjomlfdkmdgclaaW.PrintLast Go.Proofs.YtjomlfdkmdgclaaW.PrintMore
attribute [local go_sem] max2_int min2_int max_two min_two max_three min_three max_four min_four   -- for this text's walks alone
set_option linter.unusedVariables false
set_option linter.unusedSimpArgs false

theorem all_closure (fv : Value) (p : Int → Bool) (w : World) (hf : FnTells Try.prog w IntRel fv p) :
    FnTells Try.prog (w.alloc (.cells #[fv] 44)) IntRel (.func (.func 43) #[] #[.pointer (some ⟨w.heap.size, 0, none⟩)]) (fun x => !p x) := by
  refine ⟨_, _, _, rfl, enters_of Try.func43 (by kernel_rfl) rfl, ?_⟩
  rintro W x v hb rfl
  obtain ⟨g, pre, lb, rfl, eg, hq⟩ := hf
  have hbw : Below w.heap.size w W := (below_alloc (Below.refl _ w) _).trans (hb.mono (by simp))
  have hcall := hq W x _ hbw rfl
  have hcell : W.cell? ⟨w.heap.size, 0, none⟩ = some (.func (.func g) pre lb) := pw_cell_below hb (cell_new0 _ _ _)
  clear hb hq hbw
  cases hp : p x with
  | true =>
    rw [hp] at hcall
    go_enter Try.func43, Try.ntmps43
    go_wp2_with fail
    refine hcall.mono ?_
    rintro e w' ⟨rfl, hb'⟩
    go_wp2
    go_ret
    exact ⟨ret_bool (by rw [hp]; rfl), hb'⟩
  | false =>
    rw [hp] at hcall
    go_enter Try.func43, Try.ntmps43
    go_wp2_with fail
    refine hcall.mono ?_
    rintro e w' ⟨rfl, hb'⟩
    go_wp2
    go_ret
    exact ⟨ret_bool (by rw [hp]; rfl), hb'⟩

theorem any_not_all {α : Type} (p : α → Bool) : ∀ l : List α, l.any (fun x => !p x) = !l.all p
  | [] => rfl
  | x :: l => by simp only [List.any_cons, List.all_cons, any_not_all p l, Bool.not_and]

theorem gram_all_calls (fv : Value) (A0 : Option Addr) (c0 : Nat) (l0 : List Int) (p : Int → Bool) (w : World) (hr0 : Kd.C (Kd.int .i64) w A0 l0.length l0) (hc0 : l0.length ≤ c0)
   (hf : FnTells Try.prog w IntRel fv p) :
   Calls Try.prog 30 #[.slice A0 l0.length c0, fv] w fun e w' => e = .returned (.bool (l0.all p)) ∧ Below w.heap.size w w' := by
  have h1 := all_closure fv p w hf
  have hc := containsFunc_int _ A0 c0 l0 (fun x => !p x) (w.alloc (.cells #[fv] 44)) (Kd.C_below hr0 (below_alloc (Below.refl _ w) _)) hc0 h1
  have ha : l0.any (fun x => !p x) = !l0.all p := any_not_all p l0
  rw [ha] at hc
  obtain ⟨g, pre, lb, rfl, eg, hq⟩ := hf
  clear hr0 hq h1 ha
  cases h : l0.all p with
  | true =>
    rw [h] at hc
    clear h
    go_enter Try.func30, Try.ntmps30
    go_wp2_with fail
    refine hc.mono ?_
    rintro e w' ⟨rfl, hb'⟩
    go_wp2
    go_ret
    exact ⟨rfl, (below_alloc (Below.refl _ w) _).trans (hb'.mono (by simp))⟩
  | false =>
    rw [h] at hc
    clear h
    go_enter Try.func30, Try.ntmps30
    go_wp2_with fail
    refine hc.mono ?_
    rintro e w' ⟨rfl, hb'⟩
    go_wp2
    go_ret
    exact ⟨rfl, (below_alloc (Below.refl _ w) _).trans (hb'.mono (by simp))⟩

def itemB (x : Int) : Bool := decide (x < 20) && decide (-61 ≤ x)
def placeB (n : Nat) (x : Int) : Bool := decide (0 ≤ x) && decide (x < (n : Int))

theorem item_tells (a0 : Int) (A1 : Option Addr) (c1 : Nat) (l1 : List Int) (a2 : Int) (A3 : Option Addr) (c3 : Nat) (l3 : List Int) (a4 : Int) (w : World) :
    FnTells Try.prog w IntRel (.func (.func 31) #[.agg #[.int .i64 a0, .slice A1 l1.length c1, .int .i64 a2, .slice A3 l3.length c3, .int .i64 a4]] #[]) itemB := by
  refine ⟨_, _, _, rfl, enters_of Try.func31 (by kernel_rfl) rfl, ?_⟩
  rintro W x v hb rfl
  clear hb
  by_cases h1 : x < 20
  · have d1 : decide (x < 20) = true := decide_eq_true h1
    by_cases h2 : -61 ≤ x
    · have d2 : decide (-61 ≤ x) = true := decide_eq_true h2
      have hz : itemB x = true := by simp [itemB, h1, h2]
      rw [hz]
      clear hz
      go_enter Try.func31, Try.ntmps31
      go_wp2
      go_ret
      exact ⟨rfl, below_alloc (Below.refl _ _) _⟩
    · have d2 : decide (-61 ≤ x) = false := decide_eq_false h2
      have hz : itemB x = false := by simp [itemB, h1]; omega
      rw [hz]
      clear hz
      go_enter Try.func31, Try.ntmps31
      go_wp2
      go_ret
      exact ⟨rfl, below_alloc (Below.refl _ _) _⟩
  · have d1 : decide (x < 20) = false := decide_eq_false h1
    have hz : itemB x = false := by simp [itemB, h1]
    rw [hz]
    clear hz
    go_enter Try.func31, Try.ntmps31
    go_wp2
    go_ret
    exact ⟨rfl, below_alloc (Below.refl _ _) _⟩

theorem place_tells (a0 : Int) (A1 : Option Addr) (c1 : Nat) (l1 : List Int) (a2 : Int) (A3 : Option Addr) (c3 : Nat) (l3 : List Int) (a4 : Int) (w : World) (hl : l1.length ≤ 9223372036854775807) :
    FnTells Try.prog w IntRel (.func (.func 32) #[.agg #[.int .i64 a0, .slice A1 l1.length c1, .int .i64 a2, .slice A3 l3.length c3, .int .i64 a4]] #[]) (placeB l1.length) := by
  refine ⟨_, _, _, rfl, enters_of Try.func32 (by kernel_rfl) rfl, ?_⟩
  rintro W x v hb rfl
  clear hb
  by_cases h1 : 0 ≤ x
  · have d1 : decide (0 ≤ x) = true := decide_eq_true h1
    by_cases h2 : x < (l1.length : Int)
    · have d2 : decide (x < (l1.length : Int)) = true := decide_eq_true h2
      have hz : placeB l1.length x = true := by simp [placeB, h1, h2]
      rw [hz]
      clear hz
      go_enter Try.func32, Try.ntmps32
      go_wp2
      go_ret
      exact ⟨rfl, below_alloc (Below.refl _ _) _⟩
    · have d2 : decide (x < (l1.length : Int)) = false := decide_eq_false h2
      have hz : placeB l1.length x = false := by simp [placeB, h1]; omega
      rw [hz]
      clear hz
      go_enter Try.func32, Try.ntmps32
      go_wp2
      go_ret
      exact ⟨rfl, below_alloc (Below.refl _ _) _⟩
  · have d1 : decide (0 ≤ x) = false := decide_eq_false h1
    have hz : placeB l1.length x = false := by simp [placeB, h1]
    rw [hz]
    clear hz
    go_enter Try.func32, Try.ntmps32
    go_wp2
    go_ret
    exact ⟨rfl, below_alloc (Below.refl _ _) _⟩

/-! ### what gram.Right answers -/
def askedP (op : Int) : Int × Int :=
  if op = 0 ∨ op = 7 ∨ op = 8 ∨ op = 11 then (1, 1) else if op = 2 ∨ op = 5 ∨ op = 9 ∨ op = 12 ∨ op = 13 ∨ op = 14 ∨ op = 15 then (2, 2)
  else if op = 1 ∨ op = 6 then (3, 3) else if op = 3 ∨ op = 4 then (2, 3) else if op = 10 then (1, 6) else (1, 0)
def symbolB (x : Int) : Bool := decide (0 ≤ x) && decide (x < 20)
def withinB (x a b : Int) : Bool := decide (a ≤ x) && decide (x ≤ b)
theorem asked_some (k : Nat) (op : Int) : gram_asked.f (k + 4) op = some (askedP op) := by
  by_cases h : 0 ≤ op ∧ op ≤ 15
  · have : op = 0 ∨ op = 1 ∨ op = 2 ∨ op = 3 ∨ op = 4 ∨ op = 5 ∨ op = 6 ∨ op = 7 ∨ op = 8 ∨ op = 9 ∨ op = 10 ∨ op = 11 ∨ op = 12 ∨ op = 13 ∨ op = 14 ∨ op = 15 := by omega
    rcases this with rfl | rfl | rfl | rfl | rfl | rfl | rfl | rfl | rfl | rfl | rfl | rfl | rfl | rfl | rfl | rfl <;> rfl
  · have n : ∀ k : Int, 0 ≤ k → k ≤ 15 → ¬ op = k := fun k h0 h1 e => h (by omega)
    have b : ∀ k : Int, 0 ≤ k → k ≤ 15 → ¬ (op == k) = true := fun k h0 h1 e => n k h0 h1 (by simpa using e)
    have e : askedP op = (1, 0) := by
      unfold askedP
      rw [if_neg (by omega), if_neg (by omega), if_neg (by omega), if_neg (by omega), if_neg (by omega)]
    rw [e]
    unfold gram_asked.f
    rw [if_neg (n 0 (by omega) (by omega)), if_neg (n 7 (by omega) (by omega)), if_neg (n 8 (by omega) (by omega)), gram_asked.j0]
    rw [if_neg (b 11 (by omega) (by omega)), if_neg (n 2 (by omega) (by omega)), if_neg (n 5 (by omega) (by omega)), if_neg (n 9 (by omega) (by omega)), if_neg (n 12 (by omega) (by omega)), if_neg (n 13 (by omega) (by omega)), if_neg (n 14 (by omega) (by omega)), gram_asked.j1]
    rw [if_neg (b 15 (by omega) (by omega)), if_neg (n 1 (by omega) (by omega)), gram_asked.j2]
    rw [if_neg (b 6 (by omega) (by omega)), if_neg (n 3 (by omega) (by omega)), gram_asked.j3]
    rw [if_neg (b 4 (by omega) (by omega)), if_neg (n 10 (by omega) (by omega))]
theorem symbol_some (x : Int) : gram_symbol.f x = some (symbolB x) := by
  unfold gram_symbol.f symbolB
  by_cases h0 : 0 ≤ x
  · rw [if_pos h0, decide_eq_true h0]; rfl
  · rw [if_neg h0, decide_eq_false h0]; rfl
theorem within_some (x a b : Int) : gram_within.f x a b = some (withinB x a b) := by
  unfold gram_within.f withinB
  by_cases h0 : a ≤ x
  · rw [if_pos h0, decide_eq_true h0]; rfl
  · rw [if_neg h0, decide_eq_false h0]; rfl

def rightP (a0 : Int) (l1 : List Int) (a2 : Int) (l3 : List Int) (a4 : Int) : Bool :=
  symbolB a0 && (withinB l1.length 1 6 && (l1.all itemB && (withinB a4 0 100 && (withinB l3.length (askedP a2).1 (askedP a2).2 && l3.all (placeB l1.length)))))
def gram_Right.f (a0_0 : Int) (l0_1 : List Int) (a0_2 : Int) (l0_3 : List Int) (a0_4 : Int) : Option Bool := some (rightP a0_0 l0_1 a0_2 l0_3 a0_4)

theorem right_walk (a0_0 : Int) (A0_1 : Option Addr) (c0_1 : Nat) (l0_1 : List Int) (a0_2 : Int) (A0_3 : Option Addr) (c0_3 : Nat) (l0_3 : List Int) (a0_4 : Int) (w : World) (hr0_1 : Kd.C (Kd.int .i64) w A0_1 l0_1.length l0_1) (hc0_1 : l0_1.length ≤ c0_1) (hr0_3 : Kd.C (Kd.int .i64) w A0_3 l0_3.length l0_3) (hc0_3 : l0_3.length ≤ c0_3) :
    Calls Try.prog 16 #[.agg #[.int .i64 a0_0, .slice A0_1 l0_1.length c0_1, .int .i64 a0_2, .slice A0_3 l0_3.length c0_3, .int .i64 a0_4]] w fun e w' => e = .returned (.bool (rightP a0_0 l0_1 a0_2 l0_3 a0_4)) ∧ Below w.heap.size w w' := by
  have hl1 : l0_1.length ≤ 9223372036854775807 := hr0_1.2.1
  have hl3 : l0_3.length ≤ 9223372036854775807 := hr0_3.2.1
  have K1 := fun w => item_tells a0_0 A0_1 c0_1 l0_1 a0_2 A0_3 c0_3 l0_3 a0_4 w
  have K2 := fun w => place_tells a0_0 A0_1 c0_1 l0_1 a0_2 A0_3 c0_3 l0_3 a0_4 w hl1
  have HR1 := Aside0.mk hr0_1
  have HR3 := Aside0.mk hr0_3
  have HA := Aside0.mk (asked_some 5 a0_2)
  generalize hq : askedP a0_2 = q at HA
  obtain ⟨q1, q2⟩ := q
  have HP : Aside0 (rightP a0_0 l0_1 a0_2 l0_3 a0_4 = (symbolB a0_0 && (withinB l0_1.length 1 6 && (l0_1.all itemB && (withinB a0_4 0 100 && (withinB l0_3.length q1 q2 && l0_3.all (placeB l0_1.length))))))) := ⟨by unfold rightP; rw [hq]⟩
  clear hq hr0_1 hr0_3
  have HB := Aside0.mk (Below.refl w.heap.size w)
  rw [HP.out]
  clear HP
  have HS := Aside0.mk (symbol_some a0_0)
  have HW1 := Aside0.mk (within_some l0_1.length 1 6)
  have HW2 := Aside0.mk (within_some a0_4 0 100)
  have HW3 := Aside0.mk (within_some l0_3.length q1 q2)
  -- THE WALKS
  cases h0 : symbolB a0_0 with
  | false =>
    rw [h0] at HS
    clear h0
    go_enter Try.func16, Try.ntmps16
    go_wp2_with fail
    refine (gram_asked.calls 9 _ q1 q2 _ HA.out).mono ?_
    rintro e w' ⟨rfl, ⟨nd, rfl⟩⟩
    go_wp2_with fail
    refine (gram_symbol.calls _ _ _ HS.out).mono ?_
    rintro e w' ⟨rfl, ⟨nd, rfl⟩⟩
    go_wp2
    go_ret
    exact ⟨rfl, by repeat (first | (with_reducible first | exact HB.out | apply below_alloc | apply pw_below_drewN | apply below_drew1) | exact HB.out)⟩
  | true =>
    rw [h0] at HS
    clear h0
    cases h1 : withinB l0_1.length 1 6 with
    | false =>
      rw [h1] at HW1
      clear h1
      go_enter Try.func16, Try.ntmps16
      go_wp2_with fail
      refine (gram_asked.calls 9 _ q1 q2 _ HA.out).mono ?_
      rintro e w' ⟨rfl, ⟨nd, rfl⟩⟩
      go_wp2_with fail
      refine (gram_symbol.calls _ _ _ HS.out).mono ?_
      rintro e w' ⟨rfl, ⟨nd, rfl⟩⟩
      go_wp2_with fail
      refine (gram_within.calls _ _ _ _ _ HW1.out).mono ?_
      rintro e w' ⟨rfl, ⟨nd, rfl⟩⟩
      go_wp2
      go_ret
      exact ⟨rfl, by repeat (first | (with_reducible first | exact HB.out | apply below_alloc | apply pw_below_drewN | apply below_drew1) | exact HB.out)⟩
    | true =>
      rw [h1] at HW1
      clear h1
      cases h2 : l0_1.all itemB with
      | false =>
        have H2 := Aside0.mk h2
        clear h2
        go_enter Try.func16, Try.ntmps16
        go_wp2_with fail
        refine (gram_asked.calls 9 _ q1 q2 _ HA.out).mono ?_
        rintro e w' ⟨rfl, ⟨nd, rfl⟩⟩
        go_wp2_with fail
        refine (gram_symbol.calls _ _ _ HS.out).mono ?_
        rintro e w' ⟨rfl, ⟨nd, rfl⟩⟩
        go_wp2_with fail
        refine (gram_within.calls _ _ _ _ _ HW1.out).mono ?_
        rintro e w' ⟨rfl, ⟨nd, rfl⟩⟩
        go_wp2_with fail
        refine (gram_all_calls _ _ _ _ _ _ (Kd.C_below HR1.out ?b2) hc0_1 (K1 _)).mono ?_
        case b2 => repeat (first | (with_reducible first | exact HB.out | apply below_alloc | apply pw_below_drewN | apply below_drew1) | exact HB.out)
        rw [H2.out]
        rintro e w2 ⟨rfl, hb⟩
        have n0_ := Aside0.mk (below_step (by repeat (first | (with_reducible first | exact HB.out | apply below_alloc | apply pw_below_drewN | apply below_drew1) | exact HB.out)) hb)
        have n1_ := Aside0.mk (blk_below (g := w.heap.size) (o := .cells #[.int .i64 a0_0, .slice A0_1 l0_1.length c0_1, .int .i64 a0_2, .slice A0_3 l0_3.length c0_3, .int .i64 a0_4] 26 (0, 0)) (by (with_reducible repeat (first | refine blk_drewN ?_ _ | refine blk_drew ?_)); exact blk_alloc (blk_new _ _) _) hb)
        have n2_ := Aside0.mk (blk_below (g := w.heap.size + 1) (o := .cells #[.int .i64 a0_0, .slice A0_1 l0_1.length c0_1, .int .i64 a0_2, .slice A0_3 l0_3.length c0_3, .int .i64 a0_4] 51 (0, 0)) (by (with_reducible repeat (first | refine blk_drewN ?_ _ | refine blk_drew ?_)); have h_ := blk_new (w.alloc (.cells #[.int .i64 a0_0, .slice A0_1 l0_1.length c0_1, .int .i64 a0_2, .slice A0_3 l0_3.length c0_3, .int .i64 a0_4] 26 (0, 0))) (.cells #[.int .i64 a0_0, .slice A0_1 l0_1.length c0_1, .int .i64 a0_2, .slice A0_3 l0_3.length c0_3, .int .i64 a0_4] 51 (0, 0)); rw [World.size_alloc] at h_; exact h_) hb)
        have c10 := blk_cell n1_.out 0
        have c20 := blk_cell n2_.out 0
        simp only [List.getElem?_toArray, List.getElem?_cons_succ, List.getElem?_cons_zero] at c10 c20
        have c11 := blk_cell n1_.out 1
        have c21 := blk_cell n2_.out 1
        simp only [List.getElem?_toArray, List.getElem?_cons_succ, List.getElem?_cons_zero] at c11 c21
        have c12 := blk_cell n1_.out 2
        have c22 := blk_cell n2_.out 2
        simp only [List.getElem?_toArray, List.getElem?_cons_succ, List.getElem?_cons_zero] at c12 c22
        have c13 := blk_cell n1_.out 3
        have c23 := blk_cell n2_.out 3
        simp only [List.getElem?_toArray, List.getElem?_cons_succ, List.getElem?_cons_zero] at c13 c23
        have c14 := blk_cell n1_.out 4
        have c24 := blk_cell n2_.out 4
        simp only [List.getElem?_toArray, List.getElem?_cons_succ, List.getElem?_cons_zero] at c14 c24
        clear n1_ n2_
        clear HB hb
        have HB := n0_
        clear n0_
        go_wp2
        go_ret
        exact ⟨rfl, by repeat (first | (with_reducible first | exact HB.out | apply below_alloc | apply pw_below_drewN | apply below_drew1) | exact HB.out)⟩
      | true =>
        have H2 := Aside0.mk h2
        clear h2
        cases h3 : withinB a0_4 0 100 with
        | false =>
          rw [h3] at HW2
          clear h3
          go_enter Try.func16, Try.ntmps16
          go_wp2_with fail
          refine (gram_asked.calls 9 _ q1 q2 _ HA.out).mono ?_
          rintro e w' ⟨rfl, ⟨nd, rfl⟩⟩
          go_wp2_with fail
          refine (gram_symbol.calls _ _ _ HS.out).mono ?_
          rintro e w' ⟨rfl, ⟨nd, rfl⟩⟩
          go_wp2_with fail
          refine (gram_within.calls _ _ _ _ _ HW1.out).mono ?_
          rintro e w' ⟨rfl, ⟨nd, rfl⟩⟩
          go_wp2_with fail
          refine (gram_all_calls _ _ _ _ _ _ (Kd.C_below HR1.out ?b2) hc0_1 (K1 _)).mono ?_
          case b2 => repeat (first | (with_reducible first | exact HB.out | apply below_alloc | apply pw_below_drewN | apply below_drew1) | exact HB.out)
          rw [H2.out]
          rintro e w2 ⟨rfl, hb⟩
          have n0_ := Aside0.mk (below_step (by repeat (first | (with_reducible first | exact HB.out | apply below_alloc | apply pw_below_drewN | apply below_drew1) | exact HB.out)) hb)
          have n1_ := Aside0.mk (blk_below (g := w.heap.size) (o := .cells #[.int .i64 a0_0, .slice A0_1 l0_1.length c0_1, .int .i64 a0_2, .slice A0_3 l0_3.length c0_3, .int .i64 a0_4] 26 (0, 0)) (by (with_reducible repeat (first | refine blk_drewN ?_ _ | refine blk_drew ?_)); exact blk_alloc (blk_new _ _) _) hb)
          have n2_ := Aside0.mk (blk_below (g := w.heap.size + 1) (o := .cells #[.int .i64 a0_0, .slice A0_1 l0_1.length c0_1, .int .i64 a0_2, .slice A0_3 l0_3.length c0_3, .int .i64 a0_4] 51 (0, 0)) (by (with_reducible repeat (first | refine blk_drewN ?_ _ | refine blk_drew ?_)); have h_ := blk_new (w.alloc (.cells #[.int .i64 a0_0, .slice A0_1 l0_1.length c0_1, .int .i64 a0_2, .slice A0_3 l0_3.length c0_3, .int .i64 a0_4] 26 (0, 0))) (.cells #[.int .i64 a0_0, .slice A0_1 l0_1.length c0_1, .int .i64 a0_2, .slice A0_3 l0_3.length c0_3, .int .i64 a0_4] 51 (0, 0)); rw [World.size_alloc] at h_; exact h_) hb)
          have c10 := blk_cell n1_.out 0
          have c20 := blk_cell n2_.out 0
          simp only [List.getElem?_toArray, List.getElem?_cons_succ, List.getElem?_cons_zero] at c10 c20
          have c11 := blk_cell n1_.out 1
          have c21 := blk_cell n2_.out 1
          simp only [List.getElem?_toArray, List.getElem?_cons_succ, List.getElem?_cons_zero] at c11 c21
          have c12 := blk_cell n1_.out 2
          have c22 := blk_cell n2_.out 2
          simp only [List.getElem?_toArray, List.getElem?_cons_succ, List.getElem?_cons_zero] at c12 c22
          have c13 := blk_cell n1_.out 3
          have c23 := blk_cell n2_.out 3
          simp only [List.getElem?_toArray, List.getElem?_cons_succ, List.getElem?_cons_zero] at c13 c23
          have c14 := blk_cell n1_.out 4
          have c24 := blk_cell n2_.out 4
          simp only [List.getElem?_toArray, List.getElem?_cons_succ, List.getElem?_cons_zero] at c14 c24
          clear n1_ n2_
          clear HB hb
          have HB := n0_
          clear n0_
          go_wp2_with fail
          refine (gram_within.calls _ _ _ _ _ HW2.out).mono ?_
          rintro e w' ⟨rfl, ⟨nd, rfl⟩⟩
          go_wp2
          go_ret
          exact ⟨rfl, by repeat (first | (with_reducible first | exact HB.out | apply below_alloc | apply pw_below_drewN | apply below_drew1) | exact HB.out)⟩
        | true =>
          rw [h3] at HW2
          clear h3
          cases h4 : withinB l0_3.length q1 q2 with
          | false =>
            rw [h4] at HW3
            clear h4
            go_enter Try.func16, Try.ntmps16
            go_wp2_with fail
            refine (gram_asked.calls 9 _ q1 q2 _ HA.out).mono ?_
            rintro e w' ⟨rfl, ⟨nd, rfl⟩⟩
            go_wp2_with fail
            refine (gram_symbol.calls _ _ _ HS.out).mono ?_
            rintro e w' ⟨rfl, ⟨nd, rfl⟩⟩
            go_wp2_with fail
            refine (gram_within.calls _ _ _ _ _ HW1.out).mono ?_
            rintro e w' ⟨rfl, ⟨nd, rfl⟩⟩
            go_wp2_with fail
            refine (gram_all_calls _ _ _ _ _ _ (Kd.C_below HR1.out ?b2) hc0_1 (K1 _)).mono ?_
            case b2 => repeat (first | (with_reducible first | exact HB.out | apply below_alloc | apply pw_below_drewN | apply below_drew1) | exact HB.out)
            rw [H2.out]
            rintro e w2 ⟨rfl, hb⟩
            have n0_ := Aside0.mk (below_step (by repeat (first | (with_reducible first | exact HB.out | apply below_alloc | apply pw_below_drewN | apply below_drew1) | exact HB.out)) hb)
            have n1_ := Aside0.mk (blk_below (g := w.heap.size) (o := .cells #[.int .i64 a0_0, .slice A0_1 l0_1.length c0_1, .int .i64 a0_2, .slice A0_3 l0_3.length c0_3, .int .i64 a0_4] 26 (0, 0)) (by (with_reducible repeat (first | refine blk_drewN ?_ _ | refine blk_drew ?_)); exact blk_alloc (blk_new _ _) _) hb)
            have n2_ := Aside0.mk (blk_below (g := w.heap.size + 1) (o := .cells #[.int .i64 a0_0, .slice A0_1 l0_1.length c0_1, .int .i64 a0_2, .slice A0_3 l0_3.length c0_3, .int .i64 a0_4] 51 (0, 0)) (by (with_reducible repeat (first | refine blk_drewN ?_ _ | refine blk_drew ?_)); have h_ := blk_new (w.alloc (.cells #[.int .i64 a0_0, .slice A0_1 l0_1.length c0_1, .int .i64 a0_2, .slice A0_3 l0_3.length c0_3, .int .i64 a0_4] 26 (0, 0))) (.cells #[.int .i64 a0_0, .slice A0_1 l0_1.length c0_1, .int .i64 a0_2, .slice A0_3 l0_3.length c0_3, .int .i64 a0_4] 51 (0, 0)); rw [World.size_alloc] at h_; exact h_) hb)
            have c10 := blk_cell n1_.out 0
            have c20 := blk_cell n2_.out 0
            simp only [List.getElem?_toArray, List.getElem?_cons_succ, List.getElem?_cons_zero] at c10 c20
            have c11 := blk_cell n1_.out 1
            have c21 := blk_cell n2_.out 1
            simp only [List.getElem?_toArray, List.getElem?_cons_succ, List.getElem?_cons_zero] at c11 c21
            have c12 := blk_cell n1_.out 2
            have c22 := blk_cell n2_.out 2
            simp only [List.getElem?_toArray, List.getElem?_cons_succ, List.getElem?_cons_zero] at c12 c22
            have c13 := blk_cell n1_.out 3
            have c23 := blk_cell n2_.out 3
            simp only [List.getElem?_toArray, List.getElem?_cons_succ, List.getElem?_cons_zero] at c13 c23
            have c14 := blk_cell n1_.out 4
            have c24 := blk_cell n2_.out 4
            simp only [List.getElem?_toArray, List.getElem?_cons_succ, List.getElem?_cons_zero] at c14 c24
            clear n1_ n2_
            clear HB hb
            have HB := n0_
            clear n0_
            go_wp2_with fail
            refine (gram_within.calls _ _ _ _ _ HW2.out).mono ?_
            rintro e w' ⟨rfl, ⟨nd, rfl⟩⟩
            go_wp2_with fail
            refine (gram_within.calls _ _ _ _ _ HW3.out).mono ?_
            rintro e w' ⟨rfl, ⟨nd, rfl⟩⟩
            go_wp2
            go_ret
            exact ⟨rfl, by repeat (first | (with_reducible first | exact HB.out | apply below_alloc | apply pw_below_drewN | apply below_drew1) | exact HB.out)⟩
          | true =>
            rw [h4] at HW3
            clear h4
            cases h5 : l0_3.all (placeB l0_1.length) with
            | false =>
              have H5 := Aside0.mk h5
              clear h5
              go_enter Try.func16, Try.ntmps16
              go_wp2_with fail
              refine (gram_asked.calls 9 _ q1 q2 _ HA.out).mono ?_
              rintro e w' ⟨rfl, ⟨nd, rfl⟩⟩
              go_wp2_with fail
              refine (gram_symbol.calls _ _ _ HS.out).mono ?_
              rintro e w' ⟨rfl, ⟨nd, rfl⟩⟩
              go_wp2_with fail
              refine (gram_within.calls _ _ _ _ _ HW1.out).mono ?_
              rintro e w' ⟨rfl, ⟨nd, rfl⟩⟩
              go_wp2_with fail
              refine (gram_all_calls _ _ _ _ _ _ (Kd.C_below HR1.out ?b2) hc0_1 (K1 _)).mono ?_
              case b2 => repeat (first | (with_reducible first | exact HB.out | apply below_alloc | apply pw_below_drewN | apply below_drew1) | exact HB.out)
              rw [H2.out]
              rintro e w2 ⟨rfl, hb⟩
              have n0_ := Aside0.mk (below_step (by repeat (first | (with_reducible first | exact HB.out | apply below_alloc | apply pw_below_drewN | apply below_drew1) | exact HB.out)) hb)
              have n1_ := Aside0.mk (blk_below (g := w.heap.size) (o := .cells #[.int .i64 a0_0, .slice A0_1 l0_1.length c0_1, .int .i64 a0_2, .slice A0_3 l0_3.length c0_3, .int .i64 a0_4] 26 (0, 0)) (by (with_reducible repeat (first | refine blk_drewN ?_ _ | refine blk_drew ?_)); exact blk_alloc (blk_new _ _) _) hb)
              have n2_ := Aside0.mk (blk_below (g := w.heap.size + 1) (o := .cells #[.int .i64 a0_0, .slice A0_1 l0_1.length c0_1, .int .i64 a0_2, .slice A0_3 l0_3.length c0_3, .int .i64 a0_4] 51 (0, 0)) (by (with_reducible repeat (first | refine blk_drewN ?_ _ | refine blk_drew ?_)); have h_ := blk_new (w.alloc (.cells #[.int .i64 a0_0, .slice A0_1 l0_1.length c0_1, .int .i64 a0_2, .slice A0_3 l0_3.length c0_3, .int .i64 a0_4] 26 (0, 0))) (.cells #[.int .i64 a0_0, .slice A0_1 l0_1.length c0_1, .int .i64 a0_2, .slice A0_3 l0_3.length c0_3, .int .i64 a0_4] 51 (0, 0)); rw [World.size_alloc] at h_; exact h_) hb)
              have c10 := blk_cell n1_.out 0
              have c20 := blk_cell n2_.out 0
              simp only [List.getElem?_toArray, List.getElem?_cons_succ, List.getElem?_cons_zero] at c10 c20
              have c11 := blk_cell n1_.out 1
              have c21 := blk_cell n2_.out 1
              simp only [List.getElem?_toArray, List.getElem?_cons_succ, List.getElem?_cons_zero] at c11 c21
              have c12 := blk_cell n1_.out 2
              have c22 := blk_cell n2_.out 2
              simp only [List.getElem?_toArray, List.getElem?_cons_succ, List.getElem?_cons_zero] at c12 c22
              have c13 := blk_cell n1_.out 3
              have c23 := blk_cell n2_.out 3
              simp only [List.getElem?_toArray, List.getElem?_cons_succ, List.getElem?_cons_zero] at c13 c23
              have c14 := blk_cell n1_.out 4
              have c24 := blk_cell n2_.out 4
              simp only [List.getElem?_toArray, List.getElem?_cons_succ, List.getElem?_cons_zero] at c14 c24
              clear n1_ n2_
              clear HB hb
              have HB := n0_
              clear n0_
              go_wp2_with fail
              refine (gram_within.calls _ _ _ _ _ HW2.out).mono ?_
              rintro e w' ⟨rfl, ⟨nd, rfl⟩⟩
              go_wp2_with fail
              refine (gram_within.calls _ _ _ _ _ HW3.out).mono ?_
              rintro e w' ⟨rfl, ⟨nd, rfl⟩⟩
              go_wp2_with fail
              refine (gram_all_calls _ _ _ _ _ _ (Kd.C_below HR3.out ?b5) hc0_3 (K2 _)).mono ?_
              case b5 => repeat (first | (with_reducible first | exact HB.out | apply below_alloc | apply pw_below_drewN | apply below_drew1) | exact HB.out)
              rw [H5.out]
              rintro e w5 ⟨rfl, hb⟩
              have n0_ := Aside0.mk (below_step (by repeat (first | (with_reducible first | exact HB.out | apply below_alloc | apply pw_below_drewN | apply below_drew1) | exact HB.out)) hb)
              clear HB hb
              have HB := n0_
              clear n0_
              go_wp2
              go_ret
              exact ⟨rfl, by repeat (first | (with_reducible first | exact HB.out | apply below_alloc | apply pw_below_drewN | apply below_drew1) | exact HB.out)⟩
            | true =>
              have H5 := Aside0.mk h5
              clear h5
              go_enter Try.func16, Try.ntmps16
              go_wp2_with fail
              refine (gram_asked.calls 9 _ q1 q2 _ HA.out).mono ?_
              rintro e w' ⟨rfl, ⟨nd, rfl⟩⟩
              go_wp2_with fail
              refine (gram_symbol.calls _ _ _ HS.out).mono ?_
              rintro e w' ⟨rfl, ⟨nd, rfl⟩⟩
              go_wp2_with fail
              refine (gram_within.calls _ _ _ _ _ HW1.out).mono ?_
              rintro e w' ⟨rfl, ⟨nd, rfl⟩⟩
              go_wp2_with fail
              refine (gram_all_calls _ _ _ _ _ _ (Kd.C_below HR1.out ?b2) hc0_1 (K1 _)).mono ?_
              case b2 => repeat (first | (with_reducible first | exact HB.out | apply below_alloc | apply pw_below_drewN | apply below_drew1) | exact HB.out)
              rw [H2.out]
              rintro e w2 ⟨rfl, hb⟩
              have n0_ := Aside0.mk (below_step (by repeat (first | (with_reducible first | exact HB.out | apply below_alloc | apply pw_below_drewN | apply below_drew1) | exact HB.out)) hb)
              have n1_ := Aside0.mk (blk_below (g := w.heap.size) (o := .cells #[.int .i64 a0_0, .slice A0_1 l0_1.length c0_1, .int .i64 a0_2, .slice A0_3 l0_3.length c0_3, .int .i64 a0_4] 26 (0, 0)) (by (with_reducible repeat (first | refine blk_drewN ?_ _ | refine blk_drew ?_)); exact blk_alloc (blk_new _ _) _) hb)
              have n2_ := Aside0.mk (blk_below (g := w.heap.size + 1) (o := .cells #[.int .i64 a0_0, .slice A0_1 l0_1.length c0_1, .int .i64 a0_2, .slice A0_3 l0_3.length c0_3, .int .i64 a0_4] 51 (0, 0)) (by (with_reducible repeat (first | refine blk_drewN ?_ _ | refine blk_drew ?_)); have h_ := blk_new (w.alloc (.cells #[.int .i64 a0_0, .slice A0_1 l0_1.length c0_1, .int .i64 a0_2, .slice A0_3 l0_3.length c0_3, .int .i64 a0_4] 26 (0, 0))) (.cells #[.int .i64 a0_0, .slice A0_1 l0_1.length c0_1, .int .i64 a0_2, .slice A0_3 l0_3.length c0_3, .int .i64 a0_4] 51 (0, 0)); rw [World.size_alloc] at h_; exact h_) hb)
              have c10 := blk_cell n1_.out 0
              have c20 := blk_cell n2_.out 0
              simp only [List.getElem?_toArray, List.getElem?_cons_succ, List.getElem?_cons_zero] at c10 c20
              have c11 := blk_cell n1_.out 1
              have c21 := blk_cell n2_.out 1
              simp only [List.getElem?_toArray, List.getElem?_cons_succ, List.getElem?_cons_zero] at c11 c21
              have c12 := blk_cell n1_.out 2
              have c22 := blk_cell n2_.out 2
              simp only [List.getElem?_toArray, List.getElem?_cons_succ, List.getElem?_cons_zero] at c12 c22
              have c13 := blk_cell n1_.out 3
              have c23 := blk_cell n2_.out 3
              simp only [List.getElem?_toArray, List.getElem?_cons_succ, List.getElem?_cons_zero] at c13 c23
              have c14 := blk_cell n1_.out 4
              have c24 := blk_cell n2_.out 4
              simp only [List.getElem?_toArray, List.getElem?_cons_succ, List.getElem?_cons_zero] at c14 c24
              clear n1_ n2_
              clear HB hb
              have HB := n0_
              clear n0_
              go_wp2_with fail
              refine (gram_within.calls _ _ _ _ _ HW2.out).mono ?_
              rintro e w' ⟨rfl, ⟨nd, rfl⟩⟩
              go_wp2_with fail
              refine (gram_within.calls _ _ _ _ _ HW3.out).mono ?_
              rintro e w' ⟨rfl, ⟨nd, rfl⟩⟩
              go_wp2_with fail
              refine (gram_all_calls _ _ _ _ _ _ (Kd.C_below HR3.out ?b5) hc0_3 (K2 _)).mono ?_
              case b5 => repeat (first | (with_reducible first | exact HB.out | apply below_alloc | apply pw_below_drewN | apply below_drew1) | exact HB.out)
              rw [H5.out]
              rintro e w5 ⟨rfl, hb⟩
              have n0_ := Aside0.mk (below_step (by repeat (first | (with_reducible first | exact HB.out | apply below_alloc | apply pw_below_drewN | apply below_drew1) | exact HB.out)) hb)
              clear HB hb
              have HB := n0_
              clear n0_
              go_wp2
              go_ret
              exact ⟨rfl, by repeat (first | (with_reducible first | exact HB.out | apply below_alloc | apply pw_below_drewN | apply below_drew1) | exact HB.out)⟩

theorem gram_Right.calls (a0_0 : Int) (A0_1 : Option Addr) (c0_1 : Nat) (l0_1 : List Int) (a0_2 : Int) (A0_3 : Option Addr) (c0_3 : Nat) (l0_3 : List Int) (a0_4 : Int) (r : Bool) (w : World) (hr0_1 : Kd.C (Kd.int .i64) w A0_1 l0_1.length l0_1) (hc0_1 : l0_1.length ≤ c0_1) (hr0_3 : Kd.C (Kd.int .i64) w A0_3 l0_3.length l0_3) (hc0_3 : l0_3.length ≤ c0_3) (h : gram_Right.f a0_0 l0_1 a0_2 l0_3 a0_4 = some r) :
    Calls Try.prog 16 #[.agg #[.int .i64 a0_0, .slice A0_1 l0_1.length c0_1, .int .i64 a0_2, .slice A0_3 l0_3.length c0_3, .int .i64 a0_4]] w fun e w' => e = .returned (.bool r) ∧ Below w.heap.size w w' := by
  obtain rfl := Option.some.inj h
  exact right_walk a0_0 A0_1 c0_1 l0_1 a0_2 A0_3 c0_3 l0_3 a0_4 w hr0_1 hc0_1 hr0_3 hc0_3
end Go.Proofs.Ytjomlfdkmdgclaa.P
