/- gram.Check: may rules be. -/
import Derived.Test.YtjomlfdkmdgclaaHGramUnits
import Derived.Test.YtjomlfdkmdgclaaHReach
import Derived.Test.YtjomlfdkmdgclaaHSlRule
import Derived.Test.YtjomlfdkmdgclaaP7
namespace Go.Proofs.Ytjomlfdkmdgclaa.P
open Go.RowKit Go.Proofs.YtjomlfdkmdgclaaW.PrintWords Go.Proofs.YtjomlfdkmdgclaaW.PrintLast Go.Proofs.YtjomlfdkmdgclaaW.PrintMore
attribute [local go_sem] max2_int min2_int max_two min_two max_three min_three max_four min_four   -- for this text's walks alone
set_option linter.unusedVariables false
set_option linter.unusedSimpArgs false

theorem wrap_in {n : Int} (h : -9223372036854775808 ≤ n ∧ n ≤ 9223372036854775807) : wrap64 n = n := by unfold wrap64; omega
theorem index_some (l : List Int) (a : Int) (hl : l.length ≤ 9223372036854775807) : ∀ (n k : Nat) (x : Nat), x ≤ l.length → l.length - x = n → n < k → ∃ i : Int, slices_Index_int_int.l0 k l a (l.length : Int) x = some i ∧ (decide (i ≥ 0) = decide (a ∈ l.drop x)) := by
  intro n
  induction n with
  | zero =>
    intro k x hx hn hk
    obtain ⟨k, rfl⟩ : ∃ j, k = j + 1 := ⟨k - 1, by omega⟩
    have he : x = l.length := by omega
    subst he
    refine ⟨-1, ?_, by simp⟩
    simp only [slices_Index_int_int.l0]
    rw [if_neg (by omega)]
  | succ n ih =>
    intro k x hx hn hk
    obtain ⟨k, rfl⟩ : ∃ j, k = j + 1 := ⟨k - 1, by omega⟩
    have hlt : x < l.length := by omega
    simp only [slices_Index_int_int.l0]
    rw [if_pos (by omega), if_pos (by omega), if_pos (by omega), rd_getElem l x hlt, List.drop_eq_getElem_cons hlt]
    by_cases he : a = l[x]
    · rw [if_pos he]
      exact ⟨x, rfl, by rw [← he, decide_eq_true (Int.natCast_nonneg x : (x : Int) ≥ 0), decide_eq_true List.mem_cons_self]⟩
    · rw [if_neg he, wrap_in (by omega)]
      obtain ⟨i, h1, h2⟩ := ih k (x + 1) (by omega) (by omega) (by omega)
      refine ⟨i, h1, ?_⟩
      rw [h2]
      exact decide_eq_decide.2 ⟨fun h => List.mem_cons_of_mem _ h, fun h => (List.mem_cons.1 h).elim (fun h => absurd h he) id⟩
theorem contains_some (l : List Int) (a : Int) (k : Nat) (hl : l.length ≤ 9223372036854775807) (hk : l.length < k) : slices_Contains_int_int.f k l a = some (decide (a ∈ l)) := by
  obtain ⟨i, h1, h2⟩ := index_some l a hl l.length k 0 (Nat.zero_le _) rfl hk
  unfold slices_Contains_int_int.f slices_Index_int_int.f
  rw [show ((0 : Nat) : Int) = 0 from rfl] at h1
  rw [h1]
  simp only [Option.bind_some, h2, List.drop_zero]

def rightR (r : Rule') : Bool := rightP r.f0 r.f1 r.f2.f0 r.f2.f1 r.f3
theorem check1_tells (w : World) : FnTells Try.prog w (AggRel k26) (.func (.func 37) #[] #[]) (fun r => !rightR r) := by
  refine ⟨_, _, _, rfl, enters_of Try.func37 (by kernel_rfl) rfl, ?_⟩
  rintro W x v hb ⟨cs, rfl, hK⟩
  obtain ⟨A1, c1, A3, c3, rfl, l1, g1, l3, g3⟩ := k26_open hK
  clear hb hK
  have hcall := gram_Right.calls x.f0 A1 c1 x.f1 x.f2.f0 A3 c3 x.f2.f1 x.f3 (rightR x) (W.alloc (.cells #[.int .i64 x.f0, .slice A1 x.f1.length c1, .int .i64 x.f2.f0, .slice A3 x.f2.f1.length c3, .int .i64 x.f3] 26)) (Kd.C_alloc g1 _) l1 (Kd.C_alloc g3 _) l3 rfl
  clear g1 g3
  cases hp : rightR x with
  | true =>
    rw [hp] at hcall
    go_enter Try.func37, Try.ntmps37
    go_wp2_with fail
    refine hcall.mono ?_
    rintro e w' ⟨rfl, hb'⟩
    have HB := Aside0.mk (below_step (below_alloc (Below.refl _ W) _) hb')
    go_wp2
    go_ret
    exact ⟨ret_bool (by rw [hp]; rfl), HB.out⟩
  | false =>
    rw [hp] at hcall
    go_enter Try.func37, Try.ntmps37
    go_wp2_with fail
    refine hcall.mono ?_
    rintro e w' ⟨rfl, hb'⟩
    have HB := Aside0.mk (below_step (below_alloc (Below.refl _ W) _) hb')
    go_wp2
    go_ret
    exact ⟨ret_bool (by rw [hp]; rfl), HB.out⟩

theorem check2_tells (w : World) (g : Nat) (A : Option Addr) (c : Nat) (rows : List (List Int)) (hg : w.cell? ⟨g, 0, none⟩ = some (.slice A rows.length c)) (hlen : rows.length = 20) (hC : Kd.C (Kd.slice 3 (Kd.int .i64)) w A rows.length rows) :
    FnLists Try.prog w inSym (.func (.func 40) #[] #[.pointer (some ⟨g, 0, none⟩)]) (fun y => rd_L2 rows y) := by
  refine ⟨_, _, _, rfl, enters_of Try.func40 (by kernel_rfl) rfl, ?_⟩
  rintro W x hb ⟨hx0, hx1⟩
  have hxl : x < (rows.length : Int) := by omega
  have hcell := pw_cell_below hb hg
  obtain ⟨ad, A0, c0, rfl, h0, h1, h2⟩ := at_L2 (Kd.C_below hC hb) x hx0 hxl
  have hx0' : ¬ x < 0 := by omega
  clear hb hg hC
  have H2 := Aside0.mk h2
  clear h2
  go_enter Try.func40, Try.ntmps40
  go_wp2
  go_ret
  exact ⟨A0, c0, rfl, h1, H2.out, Below.refl _ _⟩

/-! ### Check -/
def rowsNext (l0 : List Rule') : Int → List Int := fun y => rd_L2 (unitsP l0) y
theorem unitsP_length (l0 : List Rule') : (unitsP l0).length = 20 := by simp [unitsP]
theorem rowsNext_at (l0 : List Rule') (x : Nat) (h : x < 20) : rowsNext l0 x = rowUpto (foundL l0) x 20 := by
  unfold rowsNext rd_L2 unitsP
  rw [Int.toNat_natCast, List.getD_eq_getElem?_getD, List.getElem?_map, List.getElem?_range h]
  rfl
theorem rowsNext_len (l0 : List Rule') (x : Int) (h : inSym x) : (rowsNext l0 x).length ≤ 20 := by
  obtain ⟨n, rfl⟩ : ∃ n : Nat, x = n := ⟨x.toNat, by have := h.1; omega⟩
  rw [rowsNext_at l0 n (by have := h.2; omega)]
  exact rowUpto_len _ _ _
theorem rowsNext_sym (l0 : List Rule') (x : Int) (h : inSym x) : ∀ y ∈ rowsNext l0 x, inSym y := by
  obtain ⟨n, rfl⟩ : ∃ n : Nat, x = n := ⟨x.toNat, by have := h.1; omega⟩
  rw [rowsNext_at l0 n (by have := h.2; omega)]
  intro y hy
  exact (mem_symbols y).1 (List.mem_filter.1 hy).1
noncomputable def leadsBack (l0 : List Rule') (x : Int) : Bool := decide (x ∈ reachL (rowsNext l0) (rowsNext l0 x))
noncomputable def checkP (l0 : List Rule') : Bool := decide (l0.length ≤ 60) && (l0.all rightR && symbols.all fun x => !leadsBack l0 x)
noncomputable def gram_Check.f (l0 : List Rule') : Option Bool := some (checkP l0)
theorem unitsB_of (l0 : List Rule') (h1 : l0.length ≤ 60) (h2 : l0.all rightR = true) : unitsB l0 = true := by
  unfold unitsB
  rw [Bool.and_eq_true]
  refine ⟨List.all_eq_true.2 fun r hr => ?_, decide_eq_true (by omega)⟩
  have h3 := List.all_eq_true.1 h2 r hr
  unfold rightR rightP symbolB at h3
  simp only [Bool.and_eq_true, decide_eq_true_eq] at h3
  exact decide_eq_true h3.1
theorem leadsBack_calls (l0 : List Rule') (fv : Value) (A : Option Addr) (c : Nat) (x : Int) (hx : inSym x) (w : World) (hf : FnLists Try.prog w inSym fv (rowsNext l0)) (hC : Kd.C (Kd.int .i64) w A (rowsNext l0 x).length (rowsNext l0 x)) (hc : (rowsNext l0 x).length ≤ c) :
    Calls Try.prog 39 #[.slice A (rowsNext l0 x).length c, fv] w fun e w' => ∃ v0_ : Value, e = .returned (v0_) ∧ Kd.R (Kd.int .i64) 3 w' w.heap.size (fun _ => True) v0_ (reachL (rowsNext l0) (rowsNext l0 x)) ∧ Below w.heap.size w w' := by
  obtain ⟨k, r, h1, h2⟩ := from_reach (rowsNext l0) (fun y hy => Nat.le_trans (rowsNext_len l0 y hy) (by omega)) (rowsNext_sym l0) (rowsNext l0 x) (rowsNext_sym l0 x hx) (Nat.le_trans (rowsNext_len l0 x hx) (by omega))
  rw [← h2]
  exact from_walk fv (rowsNext l0) inSym (fun y hy => ⟨⟨by have := hy.1; omega, by have := hy.2; omega⟩, rowsNext_sym l0 y hy⟩) k A c (rowsNext l0 x) r w hf (rowsNext_sym l0 x hx) hC hc h1
theorem reachL_length (next : Int → List Int) (l : List Int) : (reachL next l).length ≤ 20 := Nat.le_trans (List.length_filter_le _ _) (by decide)

set_option maxHeartbeats 4000000 in
set_option maxRecDepth 100000 in
theorem check_walk (A0 : Option Addr) (c0 : Nat) (l0 : List Rule') (w : World) (hr0 : Kd.C k26 w A0 l0.length l0) (hc0 : l0.length ≤ c0) :
    Calls Try.prog 21 #[.slice A0 l0.length c0] w fun e w' => e = .returned (.bool (checkP l0)) ∧ Below w.heap.size w w' := by
  by_cases h60 : l0.length ≤ 60
  · have h60z : ¬ ((l0.length : Int) > 60) := by omega
    have hcall := containsFunc_rule _ A0 c0 l0 _ w hr0 hc0 (check1_tells w)
    rw [any_not_all] at hcall
    have HR := Aside0.mk hr0
    have HC := Aside0.mk hc0
    clear hr0 hc0
    cases hall : l0.all rightR with
    | false =>
      rw [hall] at hcall
      have hz : checkP l0 = false := by simp [checkP, hall]
      go_enter Try.func21, Try.ntmps21
      go_wp2_with fail
      refine hcall.mono ?_
      rintro e w' ⟨rfl, hb'⟩
      have HB := Aside0.mk hb'
      clear hb'
      go_wp2
      go_ret
      exact ⟨ret_bool hz.symm, HB.out⟩
    | true =>
      rw [hall] at hcall
      have hu := unitsB_of l0 h60 hall
      go_enter Try.func21, Try.ntmps21
      go_wp2_with fail
      refine hcall.mono ?_
      rintro e w1 ⟨rfl, hb'⟩
      have HB1 := Aside0.mk hb'
      have HR1 := Aside0.mk (Kd.C_below HR.out hb')
      clear hb' hcall
      go_wp2_with fail
      refine (units_walk A0 c0 l0 w1 HR1.out HC.out hu).mono ?_
      rintro e w2 ⟨v2, rfl, hS, hb2⟩
      obtain ⟨A2, c2, rfl, hc2, hC2⟩ := Kd.S_reads hS
      have hlen := unitsP_length l0
      have HB2 := Aside0.mk (below_step HB1.out hb2)
      have HF0 := Aside0.mk hC2
      clear hS hb2 hc2 hC2
      rw [hlen]
      have HLN := Aside0.mk hlen
      clear hlen
      have HG := Aside0.mk (cell_new0 w2 (.slice A2 20 c2) 37)
      have HB3 := Aside0.mk (below_alloc HB2.out (.cells #[.slice A2 20 c2] 37))
      have HC3 := Aside0.mk (Kd.C_alloc HF0.out (.cells #[.slice A2 20 c2] 37))
      clear HF0 HB2
      have HFN : Aside0 (FnLists Try.prog (w2.alloc (.cells #[.slice A2 20 c2] 37)) inSym (.func (.func 40) #[] #[.pointer (some ⟨w2.heap.size, 0, none⟩)]) (rowsNext l0)) :=
        ⟨check2_tells _ w2.heap.size A2 c2 (unitsP l0) (by rw [HLN.out]; exact HG.out) HLN.out HC3.out⟩
      go_wp2
      generalize w2.heap.size = g at *
      generalize (w2.alloc (.cells #[.slice A2 20 c2] 37)) = w3 at *
      go_loopg [17] 20 (fun gg s17 wr => ∃ kk : Nat, kk ≤ 20 ∧ 20 - kk ≤ gg ∧ s17 = .int .i64 kk ∧ Aside0 (Below w3.heap.size w3 wr) ∧ Aside0 (∀ j : Nat, j < kk → leadsBack l0 j = false))
      case atStart => exact ⟨0, by omega, by omega, rfl, ⟨Below.refl _ _⟩, ⟨fun j hj => absurd hj (Nat.not_lt_zero _)⟩⟩
      case round =>
        obtain ⟨kk, hkk, hg, rfl, BW, AB⟩ := hrel
        by_cases hlt : kk < 20
        · have hltz : (kk : Int) < 20 := by omega
          have hsym : inSym (kk : Int) := ⟨by omega, by omega⟩
          have HFN2 : Aside0 (FnLists Try.prog wr inSym (.func (.func 40) #[] #[.pointer (some ⟨g, 0, none⟩)]) (rowsNext l0)) := by
            obtain ⟨g', pre, lb, e1, e2, e3⟩ := HFN.out
            exact ⟨g', pre, lb, e1, e2, fun W x hb hd => e3 W x (BW.out.trans (hb.mono BW.out.size)) hd⟩
          obtain ⟨ad, A4, c4, hA, h0, h1, h2⟩ := at_L2 (Kd.C_below HC3.out BW.out) kk (by omega) (by rw [HLN.out]; exact hltz)
          rw [Int.toNat_natCast] at h0
          subst hA
          have hrow : rd_L2 (unitsP l0) (kk : Int) = rowsNext l0 kk := rfl
          rw [hrow] at h0 h1 h2
          have H1 := Aside0.mk h1
          have H2 := Aside0.mk h2
          clear hrow h1 h2
          go_wp2_with fail
          refine (leadsBack_calls l0 _ A4 c4 kk hsym wr HFN2.out H2.out H1.out).mono ?_
          rintro e w4 ⟨v4, rfl, hR4, hb4⟩
          obtain ⟨A5, c5, rfl, hc5, hC5⟩ := Kd.R_reads hR4
          have HB4 := Aside0.mk (below_step BW.out hb4)
          have HC5 := Aside0.mk hC5
          have HL5 := Aside0.mk hc5
          have hcs := contains_some (reachL (rowsNext l0) (rowsNext l0 kk)) kk 100 (Nat.le_trans (reachL_length _ _) (by omega)) (Nat.lt_of_le_of_lt (reachL_length _ _) (by omega))
          have HCS := Aside0.mk hcs
          clear hR4 hb4 hC5 hc5 hcs h0
          have hlb : decide ((kk : Int) ∈ reachL (rowsNext l0) (rowsNext l0 kk)) = leadsBack l0 kk := rfl
          have HLB := Aside0.mk hlb
          clear hlb
          cases hb : leadsBack l0 kk with
          | true =>
            have HCS2 : Aside0 (slices_Contains_int_int.f 100 (reachL (rowsNext l0) (rowsNext l0 kk)) kk = some true) := ⟨by rw [HCS.out, HLB.out, hb]⟩
            have hz : checkP l0 = false := by
              unfold checkP
              have : (symbols.all fun x => !leadsBack l0 x) = false := List.all_eq_false.2 ⟨kk, (mem_symbols _).2 hsym, by simp [hb]⟩
              rw [this, Bool.and_false, Bool.and_false]
            go_wp2_with fail
            refine (slices_Contains_int_int.calls 100 A5 c5 _ kk true w4 HC5.out HL5.out HCS2.out).mono ?_
            rintro e w' ⟨rfl, ⟨nd, rfl⟩⟩
            go_wp2
            go_ret
            exact ⟨ret_bool hz.symm, pw_below_drewN (HB3.out.trans (HB4.out.mono HB3.out.size)) _⟩
          | false =>
            have HCS2 : Aside0 (slices_Contains_int_int.f 100 (reachL (rowsNext l0) (rowsNext l0 kk)) kk = some false) := ⟨by rw [HCS.out, HLB.out, hb]⟩
            go_wp2_with fail
            refine (slices_Contains_int_int.calls 100 A5 c5 _ kk false w4 HC5.out HL5.out HCS2.out).mono ?_
            rintro e w' ⟨rfl, ⟨nd, rfl⟩⟩
            go_wp2
            go_roundg (20 - (kk + 1))
            case measure => omega
            case rel =>
              refine ⟨kk + 1, by omega, by omega, by go_num, ⟨pw_below_drewN HB4.out _⟩, ⟨fun j hj => ?_⟩⟩
              by_cases e : j = kk
              · subst e; exact hb
              · exact AB.out j (by omega)
        · have hltz : ¬ (kk : Int) < 20 := by omega
          have hkk : kk = 20 := by omega
          subst hkk
          have hz : checkP l0 = true := by
            unfold checkP
            have : (symbols.all fun x => !leadsBack l0 x) = true := by
              rw [List.all_eq_true]
              intro x hx
              have hs := (mem_symbols _).1 hx
              have h9 := AB.out x.toNat (by have := hs.1; have := hs.2; omega)
              rw [Int.toNat_of_nonneg hs.1] at h9
              rw [h9]; rfl
            rw [this, hall, decide_eq_true h60]; rfl
          go_wp2
          go_ret
          exact ⟨by first | rfl | exact ret_bool hz.symm, HB3.out.trans (BW.out.mono HB3.out.size)⟩
  · have h60z : (l0.length : Int) > 60 := by omega
    have hz : checkP l0 = false := by simp [checkP, h60]
    go_enter Try.func21, Try.ntmps21
    go_wp2
    go_ret
    exact ⟨ret_bool hz.symm, Below.refl _ _⟩
theorem gram_Check.calls (A0 : Option Addr) (c0 : Nat) (l0 : List Rule') (r : Bool) (w : World) (hr0 : Kd.C k26 w A0 l0.length l0) (hc0 : l0.length ≤ c0) (h : gram_Check.f l0 = some r) :
    Calls Try.prog 21 #[.slice A0 l0.length c0] w fun e w' => e = .returned (.bool r) ∧ Below w.heap.size w w' := by
  obtain rfl := Option.some.inj h
  exact check_walk A0 c0 l0 w hr0 hc0
end Go.Proofs.Ytjomlfdkmdgclaa.P
