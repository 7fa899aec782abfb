/- gram.from: all that symbols lead to; for every function value that tells lists. -/
import Derived.Test.YtjomlfdkmdgclaaHSorted
import Derived.Test.YtjomlfdkmdgclaaHClone
namespace Go.Proofs.Ytjomlfdkmdgclaa.P
open Go.RowKit Go.Proofs.YtjomlfdkmdgclaaW.PrintWords Go.Proofs.YtjomlfdkmdgclaaW.PrintLast Go.Proofs.YtjomlfdkmdgclaaW.PrintMore
attribute [local go_sem] max2_int min2_int max_two min_two max_three min_three max_four min_four   -- for this text's walks alone
set_option linter.unusedVariables false
set_option linter.unusedSimpArgs false

open Go.Maps (Keyed)
/-- What a function value that tells a list of ints answers, at whatever meets dom. -/
def FnLists (P : Program) (w : World) (dom : Int → Prop) (fv : Value) (next : Int → List Int) : Prop :=
  ∃ (g : Nat) (pre lb : Array Value), fv = .func (.func g) pre lb ∧ (∀ args w, (callFunc g args).run P w = .ok (.enter g args) w) ∧
    ∀ W x, Below w.heap.size w W → dom x → Calls P g (pre ++ #[.int .i64 x] ++ lb) W fun e w' => ∃ (A : Option Addr) (c : Nat), e = .returned (.slice A (next x).length c) ∧ (next x).length ≤ c ∧ Kd.C (Kd.int .i64) w' A (next x).length (next x) ∧ Below W.heap.size W w'

/-- The loop: what was seen, how often; what is still to be looked at. -/
def fromF (next : Int → List Int) : Nat → List (Int × Int) → List Int → Option (List (Int × Int))
  | 0, _, _ => none
  | k + 1, m, q => match q with
    | [] => if m.length * 8 ≤ 140737488355328 then some m else none
    | x :: q => if (x :: q).length ≤ 1000000000 ∧ (next x).length ≤ 1000000000 ∧ 0 ≤ (mget m x).getD 0 ∧ (mget m x).getD 0 ≤ 1000000000000 then
        (if (mget m x).getD 0 = 0 then fromF next k (mput m x ((mget m x).getD 0 + 1)) (q ++ next x) else fromF next k (mput m x ((mget m x).getD 0 + 1)) q) else none

abbrev encI (m : List (Int × Int)) : List (Int × Value) := m.map fun p => (p.1, Value.int .i64 p.2)
theorem intKeyed : Keyed Try.prog 3 := Go.Maps.int_keyed Try.underlying3
theorem int_inj : ∀ x y : Int, Value.int .i64 x = Value.int .i64 y → x = y := fun x y h => by simpa using h
theorem zero_int (w : World) : (zeroValue 3).run Try.prog w = .ok (.int .i64 0) w := by kernel_rfl
theorem getD_encI (m : List (Int × Int)) (x : Int) : (mget (encI m) x).getD (.int .i64 0) = .int .i64 ((mget m x).getD 0) := by
  rw [mget_map]; cases mget m x <;> rfl
theorem fit_i64 {x : Int} (h : -9223372036854775808 ≤ x ∧ x ≤ 9223372036854775807) : ∃ l, keyOf Try.prog 3 (.int .i64 x) = some l := ⟨_, Go.Maps.keyOf_int_mk Try.underlying3 (WalkArith.wf_i64 (by omega))⟩

theorem from_walk (fv : Value) (next : Int → List Int) (dom : Int → Prop) (hdom : ∀ x, dom x → (-9223372036854775808 ≤ x ∧ x ≤ 9223372036854775807) ∧ ∀ y ∈ next x, dom y) (k : Nat) (A0 : Option Addr) (c0 : Nat) (l0 : List Int) (r : List (Int × Int)) (w : World)
    (hf : FnLists Try.prog w dom fv next) (hl0 : ∀ x ∈ l0, dom x) (hr0 : Kd.C (Kd.int .i64) w A0 l0.length l0) (hc0 : l0.length ≤ c0) (h : fromF next k [] l0 = some r) :
    Calls Try.prog 39 #[.slice A0 l0.length c0, fv] w fun e w' => ∃ v0_ : Value, e = .returned (v0_) ∧ Kd.R (Kd.int .i64) 3 w' w.heap.size (fun _ => True) v0_ (sortI (r.map (·.1))) ∧ Below w.heap.size w w' := by
  obtain ⟨g, pre, lb, rfl, eg, hq⟩ := hf
  have HQ := Aside0.mk hq
  have HR := Aside0.mk hr0
  have HC := Aside0.mk hc0
  have HD := Aside0.mk hdom
  have HL := Aside0.mk hl0
  have H := Aside0.mk h
  have hmm := @run_makeMap Try.prog
  clear hq hr0 hc0 hdom hl0 h
  go_enter Try.func39, Try.ntmps39
  go_wp2
  go_loopg [0] k (fun kq v0 wr => ∃ (q : List Int) (m : List (Int × Int)) (A : Option Addr) (c : Nat), v0 = .slice A q.length c ∧ Aside0 (fromF next kq m q = some r) ∧ Aside0 (kq ≤ k) ∧ Aside0 (q.length ≤ c) ∧ Aside0 (Kd.C (Kd.int .i64) wr A q.length q) ∧ Aside0 (∀ x ∈ q, dom x) ∧
    Aside0 (MapOf Try.prog 3 (Value.int .i64) wr w.heap.size (encI m)) ∧ Aside0 (Below w.heap.size w wr) ∧ Aside0 (w.heap.size < wr.heap.size))
  case atStart => exact ⟨l0, [], A0, c0, rfl, H, ⟨Nat.le_refl _⟩, HC, ⟨Kd.C_below HR.out (below_alloc (Below.refl _ _) _)⟩, HL, ⟨MapOf.made _ _ _ _⟩, ⟨below_alloc (Below.refl _ _) _⟩, ⟨by simp⟩⟩
  case round =>
    clear H HR HC HL
    obtain ⟨q, m, A, c, rfl, HF, HK, HC, HR, HL, HM, HB, HS⟩ := hrel
    cases gk with
    | zero => exact absurd HF.out (by simp [fromF])
    | succ k1 =>
      cases q with
      | nil =>
        have h2 := HF.out
        simp only [fromF] at h2
        split at h2
        case isFalse => cases h2
        case isTrue hlen =>
        obtain rfl := Option.some.inj h2
        clear h2
        have HN := Aside0.mk hlen
        clear hlen
        have hlt : ¬ (0 : Int) < (([] : List Int).length : Int) := by simp
        go_wp2_with fail
        refine (keys_calls _ _).mono ?_
        rintro e w' ⟨rfl, rfl⟩
        go_wp2_with fail
        refine (sorted_calls w.heap.size (encI m) _ HM.out (by rw [List.length_map]; exact HN.out)).mono ?_
        rintro e w' ⟨v, rfl, hR, hb⟩
        have hR2 := Aside0.mk hR
        have hb2 := Aside0.mk hb
        clear hR hb
        go_wp2
        go_ret
        have h3 := hR2.out
        rw [map_vals] at h3
        exact ⟨v, rfl, Kd.R_lower h3 HB.out.size, below_step HB.out hb2.out⟩
      | cons x q =>
        have h2 := HF.out
        simp only [fromF] at h2
        split at h2
        case isFalse => cases h2
        case isTrue hb =>
        obtain ⟨b1, b2, b3, b4⟩ := hb
        have hdx := HL.out x List.mem_cons_self
        obtain ⟨hx, hnx⟩ := HD.out x hdx
        have hkey := fit_i64 hx
        have HX := Aside0.mk hx
        have HNX := Aside0.mk hnx
        have HDX := Aside0.mk hdx
        have B1 := Aside0.mk b1
        have B2 := Aside0.mk b2
        have H3 := Aside0.mk h2
        obtain ⟨ad, hA, hcell⟩ := Kd.at_int HR.out 0 (by omega) (by simp)
        have hcell' : wr.cell? ad = some (.int .i64 x) := hcell
        subst hA
        obtain ⟨i0, hi, hz0, hz1, hz2⟩ := info_parts info3
        obtain ⟨A', hrun, hread, hcap⟩ := print_drop_of (P := Try.prog) (Value.int .i64) (0 : Int) 22 3 .i64 Try.underlying22 hi hz1 (some ad) c (x :: q) 1 (by omega) (by simp; omega) HC.out
        have hread2 : Kd.C (Kd.int .i64) wr A' q.length q := Kd.C_of_reads (hread wr (Kd.reads_of_C (d := (0 : Int)) HR.out))
        have hrun2 : ∀ W : World, (Instr.slice 22 (.slice (some ad) (x :: q).length c) (some (.int .i64 1)) none none).run Try.prog W = .ok (.slice A' q.length (c - 1)) W := hrun
        have hlt : (0 : Int) < ((x :: q).length : Int) := by simp
        have HR2 := Aside0.mk hread2
        have HC2 : Aside0 (q.length ≤ c - 1) := ⟨hcap⟩
        clear hcell hrun hread hcap hread2 hx hnx hdx b1 b2 h2 hi hz0 hz1 hz2
        have HB1 : (x :: q).length ≤ 1000000000 := B1.out
        generalize hn : (x :: q).length = n at hrun2 hlt HB1
        try rw [hn]
        have HN := Aside0.mk hn
        clear hn
        go_wp2_with fail
        refine (slices_Clone_int_int.calls _ _ q q _ HR2.out HC2.out (if_pos (by have := B1.out; simp at this; omega))).mono ?_
        rintro e w1 ⟨v1, rfl, hR1, hb1⟩
        have HM1 := Aside0.mk (HM.out.below hb1)
        have HR1 := Aside0.mk (Kd.R_lower (Kd.R_mono (Kd.R_bound hR1) (ok' := fun k => wr.heap.size ≤ k) (fun k hk => hk.2.1)) HB.out.size)
        have HB1' := Aside0.mk (below_step HB.out hb1)
        have HS1 := Aside0.mk (Nat.lt_of_lt_of_le HS.out hb1.size)
        obtain ⟨A1, c1, rfl⟩ := Kd.R_slice hR1
        clear hR1 hb1 hcell' hrun2
        have h3 := H3.out
        have hget := getD_encI m x
        have hmp := mput_map (Value.int .i64) x ((mget m x).getD 0 + 1) m
        have hgs : (mget (encI (mput m x ((mget m x).getD 0 + 1))) x).getD (.int .i64 0) = .int .i64 ((mget m x).getD 0 + 1) := by rw [getD_encI, mget_mput_same]; rfl
        generalize hv : (mget m x).getD 0 = v at h3 hget hmp hgs b3 b4
        have HG := Aside0.mk hget
        have HMP := Aside0.mk hmp
        have HGS := Aside0.mk hgs
        have H3' := Aside0.mk h3
        clear hget hmp hgs hv h3 H3
        by_cases hv0 : v = 0
        · have H4 := Aside0.mk ((if_pos hv0).symm.trans H3'.out)
          subst hv0
          clear H3'
          go_wp2_with (first
            | (at_lookup; refine wpList_lookup_map rfl (.tmp 17) (.tmp 18) 66 3 rfl intKeyed int_inj Try.underlying66 zero_int rfl HM1.out x rfl hkey (.int .i64 0) HG.out ?_)
            | (at_mapUpdate; refine wpList_update_map rfl (.tmp 17) (.tmp 18) (.tmp 20) 66 3 rfl intKeyed int_inj Try.underlying66 rfl HM1.out x rfl hkey (.int .i64 (0 + 1)) rfl ?_; intro w2 hm2 hg2 hz2; rw [HMP.out] at hm2; have HM2 := Aside0.mk hm2; have HR2' := Aside0.mk (Kd.R_grown HR1.out hg2 (fun k hk e => by have := HS.out; have e2 := Option.some.inj e; omega)); have HB2 := Aside0.mk (HB1'.out.grown hg2 HB1'.out.size (fun j e => by have e2 := Option.some.inj e; omega)); have HS2 : Aside0 (w.heap.size < w2.heap.size) := ⟨by rw [hz2]; exact HS1.out⟩; clear hm2 hg2 hz2 HR1 HM1 HB1' HS1)
            | (at_lookup; refine wpList_lookup_map rfl (.tmp 21) (.tmp 22) 66 3 rfl intKeyed int_inj Try.underlying66 zero_int rfl HM2.out x rfl hkey (.int .i64 (0 + 1)) HGS.out ?_)
            | fail)
          refine (HQ.out _ x HB2.out HDX.out).mono ?_
          rintro e w3 ⟨A3, c3, rfl, hc3, hr3, hb3⟩
          have HR3 := Aside0.mk hr3
          have HC3 := Aside0.mk hc3
          have HM3 := Aside0.mk (HM2.out.below hb3)
          have HR2'' := Aside0.mk (Kd.R_mono (Kd.R_below HR2'.out hb3) (ok' := fun k => w.heap.size < k) (fun k hk => Nat.lt_of_lt_of_le HS.out hk))
          have HB3 := Aside0.mk (below_step HB2.out hb3)
          have HS3 := Aside0.mk (Nat.lt_of_lt_of_le HS2.out hb3.size)
          clear hr3 hc3 hb3 HM2 HR2' HB2 HS2
          go_wp2_with (at_builtin; refine Kd.R_append_row (Value.int .i64) 0 (h1 := fun _ => rfl) (w0 := w) w.heap.size rfl (.tmp 25) (.tmp 28) 22 3 (.int .i64 0) 8 rfl Try.underlying22 info3 rfl (by decide) (.slice A1 q.length c1) q (next x) A3 (next x).length c3 (fun k => w.heap.size < k) rfl rfl (fun k hk => Nat.lt_of_lt_of_le HS3.out hk) HR2''.out HR3.out HB3.out HB3.out.size (by have h1_ := B1.out; have h2_ := B2.out; simp only [List.length_cons] at h1_; omega) ?_; intro v4 w4 ho4 hb4 hg4 hat4; have HM4 := Aside0.mk (HM3.out.grown hg4 (fun e => by have h_ := HR2''.out.1 w.heap.size e.symm; exact absurd h_ (Nat.lt_irrefl _))); have ho5 : Kd.R (Kd.int .i64) 3 w4 w.heap.size (fun k => w.heap.size < k) v4 (q ++ next x) := ho4; have HR4 := Aside0.mk ho5; have HB4 := Aside0.mk hb4; have HS4 : Aside0 (w.heap.size < w4.heap.size) := ⟨Nat.lt_of_lt_of_le HS3.out hg4.size⟩; obtain ⟨A4, c4, rfl⟩ := Kd.R_slice ho5; clear ho4 ho5 hb4 hg4 hat4 HM3 HR2'' HB3 HS3 HR3 HC3)
          obtain ⟨A5, c5, e5, hle5, hC5⟩ := Kd.R_reads HR4.out
          injection e5 with e6 e7 e8
          subst e6 e8
          have HL5 := Aside0.mk hle5
          have HC5 := Aside0.mk hC5
          clear hle5 hC5 e7
          go_roundg k1
          case measure => have := HK.out; omega
          case rel =>
            exact ⟨q ++ next x, mput m x (0 + 1), A4, c4, by rw [List.length_append], H4, ⟨by have := HK.out; omega⟩, HL5, HC5, ⟨fun y hy => (List.mem_append.1 hy).elim (fun hy => HL.out y (List.mem_cons_of_mem _ hy)) (fun hy => HNX.out y hy)⟩, HM4, HB4, HS4⟩
        · have H4 := Aside0.mk ((if_neg hv0).symm.trans H3'.out)
          have ht : ¬ (v + 1 = 1) := by omega
          clear H3'
          go_wp2_with (first
            | (at_lookup; refine wpList_lookup_map rfl (.tmp 17) (.tmp 18) 66 3 rfl intKeyed int_inj Try.underlying66 zero_int rfl HM1.out x rfl hkey (.int .i64 v) HG.out ?_)
            | (at_mapUpdate; refine wpList_update_map rfl (.tmp 17) (.tmp 18) (.tmp 20) 66 3 rfl intKeyed int_inj Try.underlying66 rfl HM1.out x rfl hkey (.int .i64 (v + 1)) rfl ?_; intro w2 hm2 hg2 hz2; rw [HMP.out] at hm2; have HM2 := Aside0.mk hm2; have HR2' := Aside0.mk (Kd.R_grown HR1.out hg2 (fun k hk e => by have := HS.out; have e2 := Option.some.inj e; omega)); have HB2 := Aside0.mk (HB1'.out.grown hg2 HB1'.out.size (fun j e => by have e2 := Option.some.inj e; omega)); have HS2 : Aside0 (w.heap.size < w2.heap.size) := ⟨by rw [hz2]; exact HS1.out⟩; clear hm2 hg2 hz2 HR1 HM1 HB1' HS1)
            | (at_lookup; refine wpList_lookup_map rfl (.tmp 21) (.tmp 22) 66 3 rfl intKeyed int_inj Try.underlying66 zero_int rfl HM2.out x rfl hkey (.int .i64 (v + 1)) HGS.out ?_))
          obtain ⟨A5, c5, e5, hle5, hC5⟩ := Kd.R_reads HR2'.out
          injection e5 with e6 e7 e8
          subst e6 e8
          have HL5 := Aside0.mk hle5
          have HC5 := Aside0.mk hC5
          clear hle5 hC5 e7
          go_roundg k1
          case measure => have := HK.out; omega
          case rel =>
            exact ⟨q, mput m x (v + 1), A1, c1, rfl, H4, ⟨by have := HK.out; omega⟩, HL5, HC5, ⟨fun y hy => HL.out y (List.mem_cons_of_mem _ hy)⟩, HM2, HB2, HS2⟩
end Go.Proofs.Ytjomlfdkmdgclaa.P
