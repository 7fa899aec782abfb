/- slices.IndexFunc, ContainsFunc at rules: for every function value that tells a bool. -/
import Derived.Test.YtjomlfdkmdgclaaH0
namespace Go.Proofs.Ytjomlfdkmdgclaa.P
open Go.RowKit Go.Proofs.YtjomlfdkmdgclaaW.PrintWords Go.Proofs.YtjomlfdkmdgclaaW.PrintLast Go.Proofs.YtjomlfdkmdgclaaW.PrintMore
attribute [local go_sem] max2_int min2_int max_two min_two max_three min_three max_four min_four   -- for this text's walks alone
set_option linter.unusedVariables false
set_option linter.unusedSimpArgs false

theorem indexFunc_rule (fv : Value) (A0 : Option Addr) (c0 : Nat) (l0 : List S26) (p : S26 → Bool) (w : World) (hr0 : Kd.C k26 w A0 l0.length l0) (hc0 : l0.length ≤ c0)
   (hf : FnTells Try.prog w (AggRel k26) fv p) :
   Calls Try.prog 44 #[.slice A0 l0.length c0, fv] w fun e w' => e = .returned (.int .i64 (idxOf p l0)) ∧ Below w.heap.size w w' := by
  obtain ⟨g, pre, lb, rfl, eg, hq⟩ := hf
  have hl : l0.length ≤ 9223372036854775807 := hr0.2.1
  have HR := Aside0.mk hr0
  clear hr0
  have HQ := Aside0.mk hq
  clear hq
  go_enter Try.func44, Try.ntmps44
  go_wp2
  go_loopg [8] l0.length (fun gg s8 wr => ∃ kk : Nat, kk ≤ l0.length ∧ l0.length - kk ≤ gg ∧ s8 = .int .i64 kk ∧ Aside0 (Below w.heap.size w wr) ∧ Aside0 (∀ j, j < kk → ∀ h : j < l0.length, p l0[j] = false))
  case atStart => exact ⟨0, Nat.zero_le _, by omega, rfl, ⟨Below.refl _ w⟩, ⟨fun j hj => absurd hj (Nat.not_lt_zero _)⟩⟩
  case round =>
    obtain ⟨kk, hkk, hg, rfl, BW, A⟩ := hrel
    by_cases hlt : kk < l0.length
    · have hltz : (kk : Int) < (l0.length : Int) := by omega
      obtain ⟨ad, A1, c1, A3, c3, hA, h0, h1, h2, h3, h4, l1, g1, l3, g3⟩ := at_T26 (Kd.C_below HR.out BW.out) kk (by omega) hltz
      have hcall := HQ.out wr (rd_T26 l0 kk) _ BW.out ⟨_, rfl, k26_mk wr (rd_T26 l0 kk) l1 g1 l3 g3⟩
      have hx : rd_T26 l0 kk = l0[kk] := by simp [rd_T26, List.getD_eq_getElem?_getD, List.getElem?_eq_getElem hlt]
      have HX := Aside0.mk hx
      generalize rd_T26 l0 kk = y at *
      rw [Int.toNat_natCast] at h0 h1 h2 h3 h4
      subst hA
      clear hx l1 g1 l3 g3
      cases hp : p y with
      | true =>
        rw [hp] at hcall
        go_wp2_with fail
        refine hcall.mono ?_
        rintro e w' ⟨rfl, hb'⟩
        go_wp2
        go_ret
        refine ⟨?_, below_then BW.out BW.out.size hb'⟩
        rw [idxOf_hit hlt A.out (by rw [← HX.out]; exact hp)]
        rfl
      | false =>
        rw [hp] at hcall
        go_wp2_with fail
        refine hcall.mono ?_
        rintro e w' ⟨rfl, hb'⟩
        go_wp2
        go_roundg (l0.length - (kk + 1))
        case measure => omega
        case rel =>
          refine ⟨kk + 1, by omega, by omega, by go_num, ⟨below_then BW.out BW.out.size hb'⟩, ⟨fun j hj hlt => ?_⟩⟩
          by_cases e : j = kk
          · subst e
            rw [← HX.out]; exact hp
          · exact A.out j (by omega) hlt
    · have hltz : ¬ (kk : Int) < (l0.length : Int) := by omega
      have : kk = l0.length := by omega
      subst this
      go_wp2
      go_ret
      refine ⟨?_, BW.out⟩
      rw [idxOf_miss A.out]
      rfl

theorem containsFunc_rule (fv : Value) (A0 : Option Addr) (c0 : Nat) (l0 : List S26) (p : S26 → Bool) (w : World) (hr0 : Kd.C k26 w A0 l0.length l0) (hc0 : l0.length ≤ c0)
   (hf : FnTells Try.prog w (AggRel k26) fv p) :
   Calls Try.prog 36 #[.slice A0 l0.length c0, fv] w fun e w' => e = .returned (.bool (l0.any p)) ∧ Below w.heap.size w w' := by
  have hc := indexFunc_rule fv A0 c0 l0 p w hr0 hc0 hf
  rw [← idxOf_ge]
  clear hr0 hf
  generalize idxOf p l0 = q at hc
  go_enter Try.func36, Try.ntmps36
  go_wp2_with fail
  refine hc.mono ?_
  rintro e w' ⟨rfl, hb'⟩
  go_wp2
  go_ret
  exact ⟨rfl, hb'⟩
end Go.Proofs.Ytjomlfdkmdgclaa.P
