/- Any name is resolved as the document says: what the parent has stands ahead: BlobResolves answers true for all that it is given, with no condition. Part 2: contracts of the functions that the law reaches, and words for them. -/
import Derived.Deep.DeepCutAuto
import Derived.Maps.OwnOps
import Derived.MapKept
import Derived.Shelf.SlIterI.Nil
import Derived.Shelf.SortM.Plain
import Derived.Shelf.SortM.SortNone
import Derived.Ground.GgzProg
import Derived.Ground.SlgmProg
import Derived.Test.YtiocgaekoeekgaaGreatProg
import Derived.CallsIn
import Derived.BigRegion
import Derived.DeepKeys4
import Derived.Deep.RegionLaw
import Derived.Deep.RegionHeld3
import Derived.Test.YtiocgaekoeekgaaGreatMBR1
set_option maxHeartbeats 32000000
set_option maxRecDepth 100000
section
namespace Go.Proofs.YtiocgaekoeekgaaGreat.P
open Go.RowKit YtiocgaekoeekgaaGreatW.PrintWords YtiocgaekoeekgaaGreatW.PrintLast YtiocgaekoeekgaaGreatW.PrintMore
attribute [local go_sem] ub_ rb_ cc_ bc_ kb_ jb_ tb_ qb_   
set_option linter.unusedVariables false
set_option linter.unusedSimpArgs false
attribute [local go_sem] Oper.semAt_some
theorem mk_ (A : Option Addr) (c : Nat) (l : List S56) (w : World) (hr : Kd.C k56 w A l.length l) (hl : l.length ≤ 1000000) (hb : ∀ x ∈ l, x.f1.length ≤ 1000000 ∧ x.f2.f1.length ≤ 1000000) :
  Calls Tryz.prog 58 #[.slice A l.length c, .func (.func 59) #[] #[]] w fun e w' => ∃ v, e = .returned v ∧ Kd.R k56 56 w' w.heap.size (fun k => w.heap.size ≤ k) v l ∧ Below w.heap.size w w' := by
 have hmf : ∀ (fn : Fn) (first cap : Array Value) (w : World), (Instr.makeFunc fn first cap).run Tryz.prog w = .ok (.func fn first cap) w := fun _ _ _ _ => rfl
 have HR := aM_ hr
 have HL := aM_ hl
 have HB := aM_ hb
 have hu1 := Tryz.underlying56
 have hu2 := Tryz.underlying54
 clear hr hb
 have HX0 : Az (Kd.R k56 56 w w.heap.size (fun k => w.heap.size ≤ k) (.slice none 0 0) (l.take 0)) := ⟨Kd.R_nil _ _ _ _ _⟩
 go_enter Tryz.func58, Tryz.ntmps58
 go_wp2
 go_loopg [5, 10] l.length (fun gg s5 s10 wr => ∃ i : Nat, i ≤ l.length ∧ l.length - i ≤ gg ∧ s10 = .int .i64 i ∧ Az (Kd.R k56 56 wr w.heap.size (fun k => w.heap.size ≤ k) s5 (l.take i)) ∧ Az (Below w.heap.size w wr))
 case atStart => exact ⟨0, Td_, Td_, rfl, HX0, ⟨Below.refl _ _⟩⟩
 clear HX0
 obtain ⟨i, hi, hgg, rfl, HX, HW⟩ := hrel
 obtain ⟨A6, c6, hs6⟩ := Kd.R_slice HX.out
 subst hs6
 by_cases hil : i < l.length
 ·have hilz : (i : Int) < (l.length : Int) := by omega
  obtain ⟨ad, A1, c1, A3, c3, hA, e0, e1, e2, e3, e4, l1, g1, l3, g3⟩ := gj_ HR.out (i : Int) Td_ hilz; subst hA; rw [Int.toNat_natCast] at e0 e1 e2 e3 e4
  have hy : wb_ l (i : Int) = l[i] := by
   show l.getD (i : Int).toNat _ = _; rw [Int.toNat_natCast, List.getD_eq_getElem?_getD, List.getElem?_eq_getElem hil]; rfl
  have hbx := HB.out l[i] (List.getElem_mem hil); have hxs : l.take (i + 1) = l.take i ++ [l[i]] := List.take_succ_eq_append_getElem hil; rw [← hy] at hbx hxs; generalize wb_ l (i : Int) = x at *; have HXS := aM_ hxs; have HXL : Az ((l.take i).length = i) := ⟨by rw [List.length_take]; omega⟩; generalize l.take i = xs at *; have HBA := aM_ (aa_ (Below.refl wr.heap.size wr) (.cells #[.int .i64 x.f0, .slice A1 x.f1.length c1, .int .i64 x.f2.f0, .slice A3 x.f2.f1.length c3, .int .i64 x.f3] 56)); have HQ := aM_ (su_ x A1 A3 c1 c3 (wr.alloc (.cells #[.int .i64 x.f0, .slice A1 x.f1.length c1, .int .i64 x.f2.f0, .slice A3 x.f2.f1.length c3, .int .i64 x.f3] 56)) (Kd.C_below g1 (da_ HW.out HBA.out)) l1 (Kd.C_below g3 (da_ HW.out HBA.out)) l3 hbx.1 hbx.2); replace e0 := fa_ HW.out e0; replace e1 := fa_ HW.out e1; replace e2 := fa_ HW.out e2; replace e3 := fa_ HW.out e3; replace e4 := fa_ HW.out e4; have HL1 := aM_ l1; have HL3 := aM_ l3; clear hy hbx hxs g1 g3 l1 l3
  go_wp2_with fail
  refine HQ.out.mono ?_; rintro e w3 ⟨B1, d1, B3, d3, rfl, hR1, hR3, hb⟩; have hbw := da_ HBA.out hb; have HX1 := aM_ (Kd.R_below HX.out hbw); have HW1 : Az (Below w.heap.size w w3) := ⟨da_ HW.out hbw⟩; have hsz : wr.heap.size ≤ (wr.alloc (.cells #[.int .i64 x.f0, .slice A1 x.f1.length c1, .int .i64 x.f2.f0, .slice A3 x.f2.f1.length c3, .int .i64 x.f3] 56)).heap.size := HBA.out.size; have hM : Kd.M k56 w3 w.heap.size (fun k => wr.heap.size ≤ k) x [.int .i64 x.f0, .slice B1 x.f1.length d1, .int .i64 x.f2.f0, .slice B3 x.f2.f1.length d3, .int .i64 x.f3] := ol_ _ _ _ x (Kd.R_lower (Kd.R_mono hR1 (fun k hk => Nat.le_trans hsz hk)) (Nat.le_trans HW.out.size hsz)) (Kd.R_lower (Kd.R_mono hR3 (fun k hk => Nat.le_trans hsz hk)) (Nat.le_trans HW.out.size hsz)); have HM := aM_ hM; have HSZ := aM_ HW.out.size; have HSY := aM_ (Nat.le_trans hsz hb.size); have HOW : Az (∀ k, (Value.slice A6 xs.length c6).ownBlock = some k → k < wr.heap.size) := ⟨fun k hk => Kd.R_lt HX.out k hk⟩; clear hR1 hR3 hb hbw hsz hM HQ HX HBA e0 e1 e2 e3 e4 HL1 HL3
  go_wp2_with (at_builtin; go_loud (refine Kd.R_append k56 (w0 := w) w.heap.size rfl (.tmp 14) (.tmp 18) 41 56 (.agg #[.int .i64 0, .slice none 0 0, .int .i64 0, .slice none 0 0, .int .i64 0]) 72 rfl Tryz.underlying41 Ti_ rfl Wh_ Tm_ (.slice A6 xs.length c6) xs x [.int .i64 x.f0, .slice B1 x.f1.length d1, .int .i64 x.f2.f0, .slice B3 x.f2.f1.length d3, .int .i64 x.f3] (fun k => w.heap.size ≤ k) (fun k => wr.heap.size ≤ k) rfl rfl HM.out Uc_ Us_ HX1.out (by go_loud (exact HW1.out)) (by go_loud (exact HW1.out.size)) (by go_loud (have := HXL.out; have := HL.out; omega)) ?_); intro v4 w4 ho hb hg hat)
  have HX5 : Az (Kd.R k56 56 w4 w.heap.size (fun k => w.heap.size ≤ k) v4 (l.take (i + 1))) := ⟨by rw [HXS.out]; exact ho⟩; have HW5 := aM_ hb; clear ho hb hg hat HM HX1 HW1 HOW HSZ HSY HXL HXS; obtain ⟨A7, c7, hs7⟩ := Kd.R_slice HX5.out; subst hs7
  go_wp2
  go_roundg (l.length - (i + 1))
  case measure => omega
  case rel => exact ⟨i + 1, Td_, Td_, Va_, HX5, HW5⟩
 have he : i = l.length := by omega
 have hilz : decide ((i : Int) < (l.length : Int)) = false := by simp; omega
 have hilz' : decide (i < l.length) = false := by simp; omega
 have htk : l.take i = l := by rw [he, List.take_length]
 rw [htk] at HX
 have HCL := aM_ (cloneR A6 c6 l wr w.heap.size w.heap.size HX.out HW.out.size HW.out.size Td_)
 rw [htk]
 clear he htk HX
 go_wp2_with fail
 refine HCL.out.mono ?_
 rintro e w5 ⟨v5, rfl, hR5, hB5⟩
 have HO := aM_ hR5
 have HWF : Az (Below w.heap.size w w5) := ⟨da_ HW.out hB5⟩
 clear hR5 hB5 HCL
 go_wp2
 go_ret
 exact ⟨_, rfl, HO.out, HWF.out⟩
theorem zu_ (A : Option Addr) (c : Nat) (l : List S52) (w : World) (hr : Kd.C k52 w A l.length l) (hl : l.length ≤ 1000000) (hb : ∀ x ∈ l, x.f1.length ≤ 1000000) :
  Calls Tryz.prog 63 #[.slice A l.length c, .func (.func 64) #[] #[]] w fun e w' => ∃ v, e = .returned v ∧ Kd.R k52 52 w' w.heap.size (fun k => w.heap.size ≤ k) v l ∧ Below w.heap.size w w' := by
 have hmf : ∀ (fn : Fn) (first cap : Array Value) (w : World), (Instr.makeFunc fn first cap).run Tryz.prog w = .ok (.func fn first cap) w := fun _ _ _ _ => rfl
 have HR := aM_ hr
 have HL := aM_ hl
 have HB := aM_ hb
 have hu1 := Tryz.underlying52
 clear hr hb
 have HX0 : Az (Kd.R k52 52 w w.heap.size (fun k => w.heap.size ≤ k) (.slice none 0 0) (l.take 0)) := ⟨Kd.R_nil _ _ _ _ _⟩
 go_enter Tryz.func63, Tryz.ntmps63
 go_wp2
 go_loopg [5, 10] l.length (fun gg s5 s10 wr => ∃ i : Nat, i ≤ l.length ∧ l.length - i ≤ gg ∧ s10 = .int .i64 i ∧ Az (Kd.R k52 52 wr w.heap.size (fun k => w.heap.size ≤ k) s5 (l.take i)) ∧ Az (Below w.heap.size w wr))
 case atStart => exact ⟨0, Td_, Td_, rfl, HX0, ⟨Below.refl _ _⟩⟩
 clear HX0
 obtain ⟨i, hi, hgg, rfl, HX, HW⟩ := hrel
 obtain ⟨A6, c6, hs6⟩ := Kd.R_slice HX.out
 subst hs6
 by_cases hil : i < l.length
 ·have hilz : (i : Int) < (l.length : Int) := by omega
  obtain ⟨ad, A1, c1, hA, e0, e1, l1, g1⟩ := sp_ HR.out (i : Int) Td_ hilz; subst hA; rw [Int.toNat_natCast] at e0 e1
  have hy : he_ l (i : Int) = l[i] := by
   show l.getD (i : Int).toNat _ = _; rw [Int.toNat_natCast, List.getD_eq_getElem?_getD, List.getElem?_eq_getElem hil]; rfl
  have hbx := HB.out l[i] (List.getElem_mem hil); have hxs : l.take (i + 1) = l.take i ++ [l[i]] := List.take_succ_eq_append_getElem hil; rw [← hy] at hbx hxs; generalize he_ l (i : Int) = x at *; have HXS := aM_ hxs; have HXL : Az ((l.take i).length = i) := ⟨by rw [List.length_take]; omega⟩; generalize l.take i = xs at *; have HBA := aM_ (aa_ (Below.refl wr.heap.size wr) (.cells #[.int .i64 x.f0, .slice A1 x.f1.length c1] 52)); have HQ := aM_ (fs_ x A1 c1 (wr.alloc (.cells #[.int .i64 x.f0, .slice A1 x.f1.length c1] 52)) (Kd.C_below g1 (da_ HW.out HBA.out)) hbx); replace e0 := fa_ HW.out e0; replace e1 := fa_ HW.out e1; have HL1 := aM_ l1; clear hy hbx hxs g1 l1
  go_wp2_with fail
  refine HQ.out.mono ?_; rintro e w3 ⟨B1, d1, rfl, hR1, hb⟩; have hbw := da_ HBA.out hb; have HX1 := aM_ (Kd.R_below HX.out hbw); have HW1 : Az (Below w.heap.size w w3) := ⟨da_ HW.out hbw⟩; have hsz : wr.heap.size ≤ (wr.alloc (.cells #[.int .i64 x.f0, .slice A1 x.f1.length c1] 52)).heap.size := HBA.out.size; have hM : Kd.M k52 w3 w.heap.size (fun k => wr.heap.size ≤ k) x [.int .i64 x.f0, .slice B1 x.f1.length d1] := lp_ _ _ _ x (Kd.R_lower (Kd.R_mono hR1 (fun k hk => Nat.le_trans hsz hk)) (Nat.le_trans HW.out.size hsz)); have HM := aM_ hM; have HSZ := aM_ HW.out.size; have HSY := aM_ (Nat.le_trans hsz hb.size); have HOW : Az (∀ k, (Value.slice A6 xs.length c6).ownBlock = some k → k < wr.heap.size) := ⟨fun k hk => Kd.R_lt HX.out k hk⟩; clear hR1 hb hbw hsz hM HQ HX HBA e0 e1 HL1
  go_wp2_with (at_builtin; go_loud (refine Kd.R_append k52 (w0 := w) w.heap.size rfl (.tmp 14) (.tmp 18) 42 52 (.agg #[.int .i64 0, .slice none 0 0]) 32 rfl Tryz.underlying42 Ti_ rfl Xb_ Tm_ (.slice A6 xs.length c6) xs x [.int .i64 x.f0, .slice B1 x.f1.length d1] (fun k => w.heap.size ≤ k) (fun k => wr.heap.size ≤ k) rfl rfl HM.out Uc_ Us_ HX1.out (by go_loud (exact HW1.out)) (by go_loud (exact HW1.out.size)) (by go_loud (have := HXL.out; have := HL.out; omega)) ?_); intro v4 w4 ho hb hg hat)
  have HX5 : Az (Kd.R k52 52 w4 w.heap.size (fun k => w.heap.size ≤ k) v4 (l.take (i + 1))) := ⟨by rw [HXS.out]; exact ho⟩; have HW5 := aM_ hb; clear ho hb hg hat HM HX1 HW1 HOW HSZ HSY HXL HXS; obtain ⟨A7, c7, hs7⟩ := Kd.R_slice HX5.out; subst hs7
  go_wp2
  go_roundg (l.length - (i + 1))
  case measure => omega
  case rel => exact ⟨i + 1, Td_, Td_, Va_, HX5, HW5⟩
 have he : i = l.length := by omega
 have hilz : decide ((i : Int) < (l.length : Int)) = false := by simp; omega
 have hilz' : decide (i < l.length) = false := by simp; omega
 have htk : l.take i = l := by rw [he, List.take_length]
 rw [htk] at HX
 have HCL := aM_ (ft_ A6 c6 l wr w.heap.size w.heap.size HX.out HW.out.size HW.out.size Td_)
 rw [htk]
 clear he htk HX
 go_wp2_with fail
 refine HCL.out.mono ?_
 rintro e w5 ⟨v5, rfl, hR5, hB5⟩
 have HO := aM_ hR5
 have HWF : Az (Below w.heap.size w w5) := ⟨da_ HW.out hB5⟩
 clear hR5 hB5 HCL
 go_wp2
 go_ret
 exact ⟨_, rfl, HO.out, HWF.out⟩
theorem rows_M {w W : World} {b s c : Nat} {A : Option Addr} {l : List S52} (h : Kd.R k52 52 w b (fun k => s ≤ k) (.slice A l.length c) l) (hW : Below w.heap.size w W) : ReadsRow (Kd.M k52 W b (fun k => s ≤ k ∧ k < w.heap.size)) (Kd.sz k52) W A l.length l := by
 obtain ⟨A1, c1, e1, _, hc1⟩ := OwnRow.reads h.2
 injection e1 with e1
 subst e1
 exact hc1.imp_ hW (fun x cs hm => Kd.M_below (Kd.M_mono _ (fun k hk => ⟨hk.1.1, hk.2.2.1⟩) (Kd.M_bound _ hm)) hW)
theorem sn_ (g : Nat) (A1 A2 : Option Addr) (c1 c2 : Nat) (l1 l2 : List S52) (w : World) (hg0 : w.cell? ⟨g, 0, none⟩ = some (.slice A1 l1.length c1)) (hg1 : w.cell? ⟨g, 1, none⟩ = some (.slice A2 l2.length c2)) (s b : Nat) (hs : s ≤ w.heap.size) (hb : b ≤ w.heap.size) (h1 : Kd.R k52 52 w b (fun k => s ≤ k) (.slice A1 l1.length c1) l1) (h2 : Kd.R k52 52 w b (fun k => s ≤ k) (.slice A2 l2.length c2) l2) (hn : l1.length + l2.length ≤ 1000000) :
  Calls Tryz.prog 62 #[.slice (some ⟨g, 0, none⟩) 2 2] w fun e w' => ∃ v, e = .returned v ∧ Kd.R k52 52 w' b (fun k => s ≤ k) v (l1 ++ l2) ∧ Below w.heap.size w w' := by
 have HN := aM_ hn
 have HC1 := aM_ (fun W (hW : Below w.heap.size w W) => rows_M h1 hW)
 have HC2 := aM_ (fun W (hW : Below w.heap.size w W) => rows_M h2 hW)
 have HS := aM_ hs
 have HBB := aM_ hb
 have HG0 := aM_ hg0
 have HG1 := aM_ hg1
 have hw1 : wrap64 ((0 : Int) + (l1.length : Int)) = (l1.length : Int) := by rw [wrap64]; omega
 have hw1' : wrap64 (l1.length : Int) = (l1.length : Int) := by rw [wrap64]; omega
 have hw2 : wrap64 ((l1.length : Int) + (l2.length : Int)) = ((l1.length + l2.length : Nat) : Int) := by rw [wrap64]; omega
 have hn1 : decide ((l1.length : Int) < 0) = false := decide_eq_false Td_
 have hn2 : decide (((l1.length + l2.length : Nat) : Int) < 0) = false := decide_eq_false Td_
 clear hn h1 h2 hg0 hg1 hs hb
 go_enter Tryz.func62, Tryz.ntmps62
 go_wp2
 go_loopg [11, 3] 2 (fun gg s11 s3 wr => ∃ i m : Nat, 2 - i ≤ gg ∧ s11 = .int .i64 i ∧ s3 = .int .i64 m ∧ ((i = 0 ∧ m = 0) ∨ (i = 1 ∧ m = l1.length) ∨ (i = 2 ∧ m = l1.length + l2.length)) ∧ Az (Below w.heap.size w wr))
 case atStart => exact ⟨0, 0, Td_, rfl, rfl, .inl ⟨rfl, rfl⟩, ⟨Below.refl _ _⟩⟩
 obtain ⟨i, m, hgg, rfl, rfl, hcs, HW⟩ := hrel
 rcases hcs with ⟨rfl, rfl⟩ | ⟨rfl, rfl⟩ | ⟨rfl, rfl⟩
 ·have r0 := fa_ HW.out HG0.out
  go_wp2
  go_roundg 1
  case measure => omega
  case rel => exact ⟨1, l1.length, Td_, Va_, by first | rfl | (simp [hw1]; done) | go_num, .inr (.inl ⟨rfl, rfl⟩), HW⟩
 ·have r1 := fa_ HW.out HG1.out
  go_wp2
  go_roundg 0
  case measure => omega
  case rel => exact ⟨2, l1.length + l2.length, Td_, Va_, by first | rfl | (simp [hw2]; done) | go_num, .inr (.inr ⟨rfl, rfl⟩), HW⟩
 have HGR := aM_ (xs_ (l1.length + l2.length) wr HN.out)
 clear hn1 hn2 hw1 hw1' hw2
 go_wp2_with fail
 refine HGR.out.mono ?_
 rintro e w2 ⟨v, rfl, hR, hB⟩
 have HR0 := aM_ (Kd.R_mono (ok' := fun k => s ≤ k) (Kd.R_lower hR (Nat.le_trans HBB.out HW.out.size)) (fun k hk => Nat.le_trans HS.out (Nat.le_trans HW.out.size hk)))
 have HO0 : Az (∀ k, v.ownBlock = some k → w.heap.size ≤ k) := ⟨fun k hk => Nat.le_trans HW.out.size (Kd.R_base hR k hk)⟩
 have HW2 : Az (Below w.heap.size w w2) := ⟨da_ HW.out hB⟩
 clear hR hB HGR
 go_wp2
 go_loopg [27, 6] 2 (fun gg s27 s6 wr => ∃ (i : Nat) (xs : List S52), 2 - i ≤ gg ∧ s27 = .int .i64 i ∧ ((i = 0 ∧ xs = []) ∨ (i = 1 ∧ xs = l1) ∨ (i = 2 ∧ xs = l1 ++ l2)) ∧ Az (Kd.R k52 52 wr b (fun k => s ≤ k) s6 xs) ∧ Az (∀ k, s6.ownBlock = some k → w.heap.size ≤ k) ∧ Az (Below w.heap.size w wr))
 case atStart => exact ⟨0, [], Td_, rfl, .inl ⟨rfl, rfl⟩, HR0, HO0, HW2⟩
 clear HR0 HW2 HO0
 obtain ⟨i, xs, hgg, rfl, hcs, HR, HO, HW⟩ := hrel
 obtain ⟨A6, c6, hs6⟩ := Kd.R_slice HR.out
 subst hs6
 rcases hcs with ⟨rfl, rfl⟩ | ⟨rfl, rfl⟩ | ⟨rfl, rfl⟩
 ·have r0 := fa_ HW.out HG0.out
  have HCC := aM_ (HC1.out wr HW.out)
  go_wp2_with (at_builtin; go_loud (refine Kd.R_append_rows k52 (w0 := w) b rfl (.tmp 31) (.tmp 32) 42 52 (.agg #[.int .i64 0, .slice none 0 0]) 32 rfl Tryz.underlying42 Ti_ rfl Xb_ Tm_ (.slice A6 0 c6) [] l1 A1 l1.length c1 (fun k => s ≤ k) (fun k => s ≤ k ∧ k < w.heap.size) rfl rfl HR.out HCC.out (fun _ _ h => h) (fun k hk => ⟨hk.1, fun e => by have := HO.out k e.symm; omega⟩) (fun k hk => Nat.le_trans HS.out (Nat.le_trans HW.out.size hk)) (HW.out.mono HBB.out) (Nat.le_trans HBB.out HW.out.size) (by have := HN.out; simp; omega) ?_); intro v1 w1 ho hb hg hat)
  have ho' : Kd.R k52 52 w1 b (fun k => s ≤ k) v1 l1 := ho; have HR1 := aM_ ho'; have HW1 : Az (Below w.heap.size w w1) := ⟨Below.grown HW.out hg HW.out.size (fun k hk => HO.out k hk)⟩
  have HO1 : Az (∀ k, v1.ownBlock = some k → w.heap.size ≤ k) := ⟨fun k hk => by
   rcases hat with e | ⟨z, e, hz⟩
   ·exact HO.out k (e ▸ hk)
   rw [e] at hk; injection hk with hk; have := HW.out.size
   omega⟩
  clear ho ho' hb hg hat HR HCC HO
  go_wp2
  go_roundg 1
  case measure => omega
  case rel => exact ⟨1, l1, Td_, Va_, .inr (.inl ⟨rfl, rfl⟩), HR1, HO1, HW1⟩
 ·have r1 := fa_ HW.out HG1.out
  have HCC := aM_ (HC2.out wr HW.out)
  go_wp2_with (at_builtin; go_loud (refine Kd.R_append_rows k52 (w0 := w) b rfl (.tmp 31) (.tmp 32) 42 52 (.agg #[.int .i64 0, .slice none 0 0]) 32 rfl Tryz.underlying42 Ti_ rfl Xb_ Tm_ (.slice A6 xs.length c6) xs l2 A2 l2.length c2 (fun k => s ≤ k) (fun k => s ≤ k ∧ k < w.heap.size) rfl rfl HR.out HCC.out (fun _ _ h => h) (fun k hk => ⟨hk.1, fun e => by have := HO.out k e.symm; omega⟩) (fun k hk => Nat.le_trans HS.out (Nat.le_trans HW.out.size hk)) (HW.out.mono HBB.out) (Nat.le_trans HBB.out HW.out.size) Xh_ ?_); intro v1 w1 ho hb hg hat)
  have HR1 := aM_ ho; have HW1 : Az (Below w.heap.size w w1) := ⟨Below.grown HW.out hg HW.out.size (fun k hk => HO.out k hk)⟩
  have HO1 : Az (∀ k, v1.ownBlock = some k → w.heap.size ≤ k) := ⟨fun k hk => by
   rcases hat with e | ⟨z, e, hz⟩
   ·exact HO.out k (e ▸ hk)
   rw [e] at hk; injection hk with hk; have := HW.out.size
   omega⟩
  clear ho hb hg hat HR HCC HO
  go_wp2
  go_roundg 0
  case measure => omega
  case rel => exact ⟨2, xs ++ l2, Td_, Va_, .inr (.inr ⟨rfl, rfl⟩), HR1, HO1, HW1⟩
 go_wp2
 go_ret
 exact ⟨_, rfl, HR.out, HW.out⟩
def vf_ (l : List S44) : Nat → Int → List S52 → List S52
 | 0, _, out => out
 | n + 1, a, out => if ib_ a 0 ((l.length : Int) - 1) = true then vf_ l n (sd_ l a) ((pa_ l a).f5 ++ out) else out
def styP (l : List S44) (i : Nat) : List S52 := vf_ l (i + 1) i []
def am_ (l : List S44) : Prop := l.length ≤ 100 ∧ ∀ x ∈ l, x.f3.length ≤ 1000 ∧ (x.f4.length ≤ 1000 ∧ ∀ r ∈ x.f4, r.f1.length ≤ 1000000 ∧ r.f2.f1.length ≤ 1000000) ∧ (x.f5.length ≤ 1000 ∧ ∀ t ∈ x.f5, t.f1.length ≤ 1000000)
theorem lj_ {l : List S44} (h : ∀ x ∈ l, x.f4.length ≤ 1000 ∧ ∀ r ∈ x.f4, r.f1.length ≤ 1000000 ∧ r.f2.f1.length ≤ 1000000) : ∀ (n : Nat) (a : Int) (out : List S56), (∀ r ∈ out, r.f1.length ≤ 1000000 ∧ r.f2.f1.length ≤ 1000000) → (id_ l n a out).length ≤ out.length + 1000 * n ∧ ∀ r ∈ id_ l n a out, r.f1.length ≤ 1000000 ∧ r.f2.f1.length ≤ 1000000
 | 0, _, out, ho => ⟨by rw [id_]; omega, ho⟩
 | n + 1, a, out, ho => by
  rw [id_]
  split
  ·rename_i hw
   have hr2 : 0 ≤ a ∧ a ≤ (l.length : Int) - 1 := by
    unfold ib_ at hw
    simpa using hw
   obtain ⟨k, rfl⟩ : ∃ k : Nat, a = (k : Int) := ⟨a.toNat, Td_⟩; have hk : k < l.length := by omega
   have hy : pa_ l (k : Int) = l[k] := by
    show l.getD (k : Int).toNat _ = _; rw [Int.toNat_natCast, List.getD_eq_getElem?_getD, List.getElem?_eq_getElem hk]; rfl
   have hx := h _ (List.getElem_mem hk); rw [← hy] at hx
   obtain ⟨h1, h2⟩ := lj_ h n (sd_ l (k : Int)) ((pa_ l (k : Int)).f4 ++ out) (fun r hr => by
    rcases List.mem_append.1 hr with hr | hr
    ·exact hx.2 r hr
    exact ho r hr)
   refine ⟨?_, h2⟩; rw [List.length_append] at h1; omega
  exact ⟨Td_, ho⟩
theorem rg_ (A : Option Addr) (c : Nat) (l : List S44) (id : BA) (k : Nat) (w : World) (hr : Kd.C k44 w A l.length l) (hc : l.length ≤ c) (hok : am_ l) (hi : xc_ (hitL id) l = (k : Int)) (hk : k < l.length) :
  Calls Tryz.prog 23 #[.slice A l.length c, .string id] w fun e w' => ∃ v3 v4 v5, e = .returned (.tuple #[.agg #[.string id, .int .i64 (pa_ l (k : Int)).f1, .int .i64 (pa_ l (k : Int)).f2, v3, v4, v5], .bool true]) ∧ Kd.R k46 46 w' w.heap.size (fun q => w.heap.size ≤ q) v3 (lexP l k) ∧ Kd.R k56 56 w' w.heap.size (fun q => w.heap.size ≤ q) v4 (jd_ l k) ∧ Kd.R k52 52 w' w.heap.size (fun q => w.heap.size ≤ q) v5 (styP l k) ∧ Below w.heap.size w w' := by
 have hmf : ∀ (fn : Fn) (first cap : Array Value) (w : World), (Instr.makeFunc fn first cap).run Tryz.prog w = .ok (.func fn first cap) w := fun _ _ _ _ => rfl
 have hkz : (k : Int) < (l.length : Int) := by omega
 have hnk : decide ((k : Int) < 0) = false := decide_eq_false Td_
 have HR := aM_ hr
 have HC := aM_ hc
 have HOK := aM_ hok
 have HLL := aM_ hok.1
 have HK := aM_ hk
 have hrk := lj_ (fun x hx => (hok.2 x hx).2.1) (k + 1) k [] Tt_
 have HRB : Az ((jd_ l k).length ≤ 1000000 ∧ ∀ r ∈ jd_ l k, r.f1.length ≤ 1000000 ∧ r.f2.f1.length ≤ 1000000) := ⟨⟨by have h1 := hrk.1; have h2 := hok.1; rw [List.length_nil] at h1; exact Nat.le_trans h1 Td_, hrk.2⟩⟩
 have HRU : Az (∀ W, Below w.heap.size w W → Calls Tryz.prog 48 #[.slice A l.length c, .int .i64 k] W fun e w' => ∃ v : Value, e = .returned v ∧ Kd.N k56 56 w' W.heap.size (fun _ => True) v (jd_ l k) ∧ Below W.heap.size W w') := ⟨fun W hB => mj_ A c l k W (Kd.C_below HR.out hB) HC.out hk (by have := hok.1; omega) (fun x hx => by have := (hok.2 x hx).2.1.1; omega)⟩
 clear hrk
 generalize jd_ l k = RR at *
 have HB2 : Az (Below w.heap.size w ((w.alloc (.cells #[.string id] 9)).alloc (.cells #[.string ⟨#[]⟩, .int .i64 0, .int .i64 0, .slice none 0 0, .slice none 0 0, .slice none 0 0] 44))) := ⟨aa_ (aa_ (Below.refl _ _) _) _⟩
 have HP2 : Az (((w.alloc (.cells #[.string id] 9)).alloc (.cells #[.string ⟨#[]⟩, .int .i64 0, .int .i64 0, .slice none 0 0, .slice none 0 0, .slice none 0 0] 44)).heap[w.heap.size]? = some (.cells #[.string id] 9 (0, 0))) := ⟨la_ (oa_ w _) (aa_ (Below.refl _ _) _)⟩
 have HS2 : Az (((w.alloc (.cells #[.string id] 9)).alloc (.cells #[.string ⟨#[]⟩, .int .i64 0, .int .i64 0, .slice none 0 0, .slice none 0 0, .slice none 0 0] 44)).heap[w.heap.size + 1]? = some (.cells #[.string ⟨#[]⟩, .int .i64 0, .int .i64 0, .slice none 0 0, .slice none 0 0, .slice none 0 0] 44 (0, 0))) := ⟨by have := oa_ (w.alloc (.cells #[.string id] 9)) (.cells #[.string ⟨#[]⟩, .int .i64 0, .int .i64 0, .slice none 0 0, .slice none 0 0, .slice none 0 0] 44); simpa using this⟩
 have HIX := aM_ (ug_ (.func (.func 57) #[] #[.pointer (some ⟨w.heap.size, 0, none⟩)]) A c l (hitL id) _ (Kd.C_below HR.out HB2.out) HC.out (wh_ w.heap.size id _ (ba_ HP2.out 0)))
 rw [hi] at HIX
 obtain ⟨ad, A3, c3, A4, c4, A5, c5, hA, h0, h1, h2, h3, h4, h5, l3, g3, l4, g4, l5, g5⟩ := tf_ hr (k : Int) Td_ hkz
 rw [Int.toNat_natCast] at h0 h1 h2 h3 h4 h5
 generalize hp5 : (pa_ l (k : Int)).f1 = p5 at *
 generalize hd5 : (pa_ l (k : Int)).f2 = d5 at *
 subst hA
 have H1 := aM_ h1
 have H2 := aM_ h2
 clear hr hc hok hk hi h0 h1 h2 h3 h4 h5 l3 g3 l4 g4 l5 g5 hp5 hd5
 go_enter Tryz.func23, Tryz.ntmps23
 go_wp2_with fail
 generalize (w.alloc (.cells #[.string id] 9)).alloc (.cells #[.string ⟨#[]⟩, .int .i64 0, .int .i64 0, .slice none 0 0, .slice none 0 0, .slice none 0 0] 44) = W2 at *
 refine HIX.out.mono ?_
 rintro e W3 ⟨rfl, hB⟩
 replace HP2 := aM_ (la_ HP2.out hB)
 replace HS2 := aM_ (la_ HS2.out hB)
 replace HB2 : Az (Below w.heap.size w W3) := ⟨da_ HB2.out hB⟩
 clear hB HIX
 have h0 : W3.cell? ⟨w.heap.size, 0, none⟩ = some (.string id) := ba_ HP2.out 0
 have h1 := fa_ HB2.out H1.out
 have h2 := fa_ HB2.out H2.out
 go_upto_region 4 with fail
 go_cut [7] (fun v7 wc => ∃ g : Nat, v7 = .pointer (some ⟨g, 0, none⟩) ∧ Az (w.heap.size + 2 ≤ g) ∧ ∃ (AM : Option Addr) (cM : Nat), Az (wc.heap[g]? = some (.cells #[.string id, .int .i64 p5, .int .i64 d5, .slice none 0 0, .slice AM RR.length cM, .slice none 0 0] 44 (0, 0))) ∧ Az (Kd.R k56 56 wc w.heap.size (fun q => w.heap.size + 2 ≤ q ∧ q ≠ g) (.slice AM RR.length cM) RR) ∧ Az (wc.heap[w.heap.size + 1]? = some (.cells #[.string ⟨#[]⟩, .int .i64 0, .int .i64 0, .slice none 0 0, .slice none 0 0, .slice none 0 0] 44 (0, 0))) ∧ Az (Below w.heap.size w wc))
 case first =>
  refine fd_ (n := 18) (S := fun w' => w'.cell? ⟨w.heap.size, 0, none⟩ = some (.string id) ∧ w'.cell? ⟨(ad.add (k * 6)).block, (ad.add (k * 6)).off + 1, none⟩ = some (.int .i64 p5) ∧ w'.cell? ⟨(ad.add (k * 6)).block, (ad.add (k * 6)).off + 2, none⟩ = some (.int .i64 d5) ∧ Az (w'.heap[w.heap.size + 1]? = some (.cells #[.string ⟨#[]⟩, .int .i64 0, .int .i64 0, .slice none 0 0, .slice none 0 0, .slice none 0 0] 44 (0, 0))) ∧ Az (Below w.heap.size w w')) (ds := [17]) (f_ 18 0) Ti_ rfl rfl ⟨h0, h1, h2, HS2, ⟨ca_ HB2.out 1⟩⟩ (fun hHeld => ?_); generalize W3.drew = w3 at *; refine tV5_ 0 ?_; refine pV_ 1 ?_; refine pV_ 2 ?_; refine pV_ 3 ?_; refine pV_ 4 ?_; refine tV5_ 5 ?_; refine pV_ 6 ?_; refine pV_ 7 ?_; refine pV_ 8 ?_; refine pV_ 9 ?_; refine tV5_ 10 ?_; refine pV_ 11 ?_; refine pV_ 12 ?_; refine wN_ 13 16 (fun K hK => ?_) fun K hK => ?_
  ·refine gO_ Tryz.func48 #[.slice (some ad) l.length c, .int .i64 k] ?_
   refine (HRU.out _ hHeld.2.2.2.2.out).mono ?_; rintro e w4 ⟨v8, rfl, hN, hB⟩; obtain ⟨A8, c8, hs8⟩ := Kd.N_slice hN; subst hs8; have HN8 := aM_ (Kd.N_reads' hN).2.2; clear hN; refine ⟨_, rfl, ?_⟩; refine hK.out _ _ ⟨fa_ hB hHeld.1, fa_ hB hHeld.2.1, fa_ hB hHeld.2.2.1, ⟨la_ hHeld.2.2.2.1.out hB⟩, ⟨da_ hHeld.2.2.2.2.out hB⟩⟩ (fun hHeld => ?_); clear hK K; refine nO_ ?_; refine wN_ 14 16 (fun K hK => ?_) fun K hK => ?_
   ·refine gO_ Tryz.func58 #[.slice A8 RR.length c8, .func (.func 59) #[] #[]] ?_
    refine (mk_ A8 c8 RR _ HN8.out HRB.out.1 HRB.out.2).mono ?_; rintro e w5 ⟨vM, rfl, hR, hB⟩; obtain ⟨AM, cM, hsM⟩ := Kd.R_slice hR; subst hsM; have HS2Z := Nat.succ_le_of_lt (bb_ hHeld.2.2.2.1.out); have HRM := aM_ (Kd.R_lower (Kd.R_mono hR (ok' := fun q => w.heap.size + 2 ≤ q) (fun q hq => Nat.le_trans HS2Z hq)) (Nat.le_trans (Nat.le_add_right _ 2) HS2Z)); clear hR HS2Z; refine ⟨_, rfl, ?_⟩; refine hK.out _ _ ⟨fa_ hB hHeld.1, fa_ hB hHeld.2.1, fa_ hB hHeld.2.2.1, ⟨la_ hHeld.2.2.2.1.out hB⟩, ⟨da_ hHeld.2.2.2.2.out hB⟩⟩ (fun hHeld => ?_); clear hK K; refine nO_ ?_; refine pV_ 15 ?_; refine oN_ 16 fun K hK => ?_
    refine cd_ (w1 := ?_) (v := ?_) Vh_ rfl ?_ ?_; rotate_left 2
    ·go_simp
     constructor
     ·rfl
     rfl
    have hB := aa_ (Below.refl w5.heap.size w5) (.cells #[.string ⟨#[]⟩, .int .i64 0, .int .i64 0, .slice none 0 0, .slice none 0 0, .slice none 0 0] 44)
    (try replace HN8 := aM_ (Kd.C_below HN8.out hB))
    (try replace HRM := aM_ (Kd.R_below HRM.out hB))
    have HG := aM_ (oa_ w5 (.cells #[.string ⟨#[]⟩, .int .i64 0, .int .i64 0, .slice none 0 0, .slice none 0 0, .slice none 0 0] 44)); have HZ : Az (w.heap.size + 2 ≤ w5.heap.size) := ⟨by have := bb_ hHeld.2.2.2.1.out; omega⟩; refine hK.out _ _ ⟨fa_ hB hHeld.1, fa_ hB hHeld.2.1, fa_ hB hHeld.2.2.1, ⟨la_ hHeld.2.2.2.1.out hB⟩, ⟨da_ hHeld.2.2.2.2.out hB⟩⟩ (fun hHeld => ?_); clear hK K; generalize hgg : w5.heap.size = g at *; generalize w5.alloc (.cells #[.string ⟨#[]⟩, .int .i64 0, .int .i64 0, .slice none 0 0, .slice none 0 0, .slice none 0 0] 44) = W9 at *; have hK := trivial; have K := trivial; clear hK K; refine nO_ ?_; refine lN_ 17 fun K hK => ?_
    generalize W9 = w6 at *; have hz0 : w6.cell? ⟨g, 0, none⟩ = some (.string ⟨#[]⟩) := (ba_ HG.out 0).trans rfl; have hy0 := ha_ HG.out 0; have hz1 : w6.cell? ⟨g, 1, none⟩ = some (.int .i64 0) := (ba_ HG.out 1).trans rfl; have hy1 := ha_ HG.out 1; have hz2 : w6.cell? ⟨g, 2, none⟩ = some (.int .i64 0) := (ba_ HG.out 2).trans rfl; have hy2 := ha_ HG.out 2; have hz3 : w6.cell? ⟨g, 3, none⟩ = some (.slice none 0 0) := (ba_ HG.out 3).trans rfl; have hy3 := ha_ HG.out 3; have hz4 : w6.cell? ⟨g, 4, none⟩ = some (.slice none 0 0) := (ba_ HG.out 4).trans rfl; have hy4 := ha_ HG.out 4; have hz5 : w6.cell? ⟨g, 5, none⟩ = some (.slice none 0 0) := (ba_ HG.out 5).trans rfl; have hy5 := ha_ HG.out 5; refine uf_ (w1 := ?_) Vh_ rfl ?_ ?_; rotate_left
    ·go_simp
     rfl
    refine hK.out _ _ ?_; clear hK K; refine wd_ Ti_ ?_; have HGE : Az (w.heap.size ≤ g) := ⟨Xj_⟩; have HW6 := hHeld.2.2.2.2; have HF : Az (((((((w6.setCell ⟨g, 0, none⟩ (.string id)).setCell ⟨g, 1, none⟩ (.int .i64 p5)).setCell ⟨g, 2, none⟩ (.int .i64 d5)).setCell ⟨g, 3, none⟩ (.slice none 0 0)).setCell ⟨g, 4, none⟩ (.slice AM RR.length cM)).setCell ⟨g, 5, none⟩ (.slice none 0 0)).heap[g]? = some (.cells #[.string id, .int .i64 p5, .int .i64 d5, .slice none 0 0, .slice AM RR.length cM, .slice none 0 0] 44 (0, 0))) := ⟨Uv_⟩; have HBF : Az (Below w.heap.size w ((((((w6.setCell ⟨g, 0, none⟩ (.string id)).setCell ⟨g, 1, none⟩ (.int .i64 p5)).setCell ⟨g, 2, none⟩ (.int .i64 d5)).setCell ⟨g, 3, none⟩ (.slice none 0 0)).setCell ⟨g, 4, none⟩ (.slice AM RR.length cM)).setCell ⟨g, 5, none⟩ (.slice none 0 0))) := ⟨(Below.setCell (p := ⟨g, 5, none⟩) (Below.setCell (p := ⟨g, 4, none⟩) (Below.setCell (p := ⟨g, 3, none⟩) (Below.setCell (p := ⟨g, 2, none⟩) (Below.setCell (p := ⟨g, 1, none⟩) (Below.setCell (p := ⟨g, 0, none⟩) HW6.out HGE.out (.string id)) HGE.out (.int .i64 p5)) HGE.out (.int .i64 d5)) HGE.out (.slice none 0 0)) HGE.out (.slice AM RR.length cM)) HGE.out (.slice none 0 0))⟩; have HSF : Az (((((((w6.setCell ⟨g, 0, none⟩ (.string id)).setCell ⟨g, 1, none⟩ (.int .i64 p5)).setCell ⟨g, 2, none⟩ (.int .i64 d5)).setCell ⟨g, 3, none⟩ (.slice none 0 0)).setCell ⟨g, 4, none⟩ (.slice AM RR.length cM)).setCell ⟨g, 5, none⟩ (.slice none 0 0)).heap[w.heap.size + 1]? = some (.cells #[.string ⟨#[]⟩, .int .i64 0, .int .i64 0, .slice none 0 0, .slice none 0 0, .slice none 0 0] 44 (0, 0))) := ⟨((heap_setCell_other (((((w6.setCell ⟨g, 0, none⟩ (.string id)).setCell ⟨g, 1, none⟩ (.int .i64 p5)).setCell ⟨g, 2, none⟩ (.int .i64 d5)).setCell ⟨g, 3, none⟩ (.slice none 0 0)).setCell ⟨g, 4, none⟩ (.slice AM RR.length cM)) ⟨g, 5, none⟩ (w.heap.size + 1) (.slice none 0 0) Ua_).trans ((heap_setCell_other ((((w6.setCell ⟨g, 0, none⟩ (.string id)).setCell ⟨g, 1, none⟩ (.int .i64 p5)).setCell ⟨g, 2, none⟩ (.int .i64 d5)).setCell ⟨g, 3, none⟩ (.slice none 0 0)) ⟨g, 4, none⟩ (w.heap.size + 1) (.slice AM RR.length cM) Ua_).trans ((heap_setCell_other (((w6.setCell ⟨g, 0, none⟩ (.string id)).setCell ⟨g, 1, none⟩ (.int .i64 p5)).setCell ⟨g, 2, none⟩ (.int .i64 d5)) ⟨g, 3, none⟩ (w.heap.size + 1) (.slice none 0 0) Ua_).trans ((heap_setCell_other ((w6.setCell ⟨g, 0, none⟩ (.string id)).setCell ⟨g, 1, none⟩ (.int .i64 p5)) ⟨g, 2, none⟩ (w.heap.size + 1) (.int .i64 d5) Ua_).trans ((heap_setCell_other (w6.setCell ⟨g, 0, none⟩ (.string id)) ⟨g, 1, none⟩ (w.heap.size + 1) (.int .i64 p5) Ua_).trans ((heap_setCell_other w6 ⟨g, 0, none⟩ (w.heap.size + 1) (.string id) Ua_).trans hHeld.2.2.2.1.out))))))⟩
    have HRN := Kd.R_types HRM.out HG.out Tm_; have HRF := aM_ (Kd.R_mono (Kd.R_far (Kd.R_far (Kd.R_far (Kd.R_far (Kd.R_far (Kd.R_far HRN (p := ⟨g, 0, none⟩) (fun q hq => hq.2) (.string id)) (p := ⟨g, 1, none⟩) (fun q hq => hq.2) (.int .i64 p5)) (p := ⟨g, 2, none⟩) (fun q hq => hq.2) (.int .i64 d5)) (p := ⟨g, 3, none⟩) (fun q hq => hq.2) (.slice none 0 0)) (p := ⟨g, 4, none⟩) (fun q hq => hq.2) (.slice AM RR.length cM)) (p := ⟨g, 5, none⟩) (fun q hq => hq.2) (.slice none 0 0)) (ok' := fun q => w.heap.size + 2 ≤ q ∧ q ≠ g) (fun q hq => hq)); generalize ((((((w6.setCell ⟨g, 0, none⟩ (.string id)).setCell ⟨g, 1, none⟩ (.int .i64 p5)).setCell ⟨g, 2, none⟩ (.int .i64 d5)).setCell ⟨g, 3, none⟩ (.slice none 0 0)).setCell ⟨g, 4, none⟩ (.slice AM RR.length cM)).setCell ⟨g, 5, none⟩ (.slice none 0 0)) = w7 at *; clear hHeld HRN
    go_wp2_with fail
    go_meet
    case rel => exact ⟨g, rfl, HZ, AM, cM, HF, HRF, HSF, HBF⟩
   refine cd_ (w1 := ?_) (v := ?_) Vh_ rfl ?_ ?_; rotate_left 2
   ·go_simp
    constructor
    ·rfl
    rfl
   have hB := aa_ (Below.refl w4.heap.size w4) (.cells #[.string ⟨#[]⟩, .int .i64 0, .int .i64 0, .slice none 0 0, .slice none 0 0, .slice none 0 0] 44)
   (try replace HN8 := aM_ (Kd.C_below HN8.out hB))
   (try replace HRM := aM_ (Kd.R_below HRM.out hB))
   have HG := aM_ (oa_ w4 (.cells #[.string ⟨#[]⟩, .int .i64 0, .int .i64 0, .slice none 0 0, .slice none 0 0, .slice none 0 0] 44)); have HZ : Az (w.heap.size + 2 ≤ w4.heap.size) := ⟨by have := bb_ hHeld.2.2.2.1.out; omega⟩; refine hK.out _ _ ⟨fa_ hB hHeld.1, fa_ hB hHeld.2.1, fa_ hB hHeld.2.2.1, ⟨la_ hHeld.2.2.2.1.out hB⟩, ⟨da_ hHeld.2.2.2.2.out hB⟩⟩ (fun hHeld => ?_); clear hK K; generalize hgg : w4.heap.size = g at *; generalize w4.alloc (.cells #[.string ⟨#[]⟩, .int .i64 0, .int .i64 0, .slice none 0 0, .slice none 0 0, .slice none 0 0] 44) = W9 at *; have hK := trivial; have K := trivial; clear hK K; refine nO_ ?_; refine oN_ 14 fun K hK => ?_
   refine gO_ Tryz.func58 #[.slice A8 RR.length c8, .func (.func 59) #[] #[]] ?_
   refine (mk_ A8 c8 RR _ HN8.out HRB.out.1 HRB.out.2).mono ?_; rintro e w5 ⟨vM, rfl, hR, hB⟩; obtain ⟨AM, cM, hsM⟩ := Kd.R_slice hR; subst hsM; have HS2Z := Nat.succ_le_of_lt (bb_ hHeld.2.2.2.1.out); have HRM := aM_ (Kd.R_lower (Kd.R_mono hR (ok' := fun q => w.heap.size + 2 ≤ q) (fun q hq => Nat.le_trans HS2Z hq)) (Nat.le_trans (Nat.le_add_right _ 2) HS2Z)); clear hR HS2Z; have HG := aM_ (la_ HG.out hB); refine ⟨_, rfl, ?_⟩; refine hK.out _ _ ⟨fa_ hB hHeld.1, fa_ hB hHeld.2.1, fa_ hB hHeld.2.2.1, ⟨la_ hHeld.2.2.2.1.out hB⟩, ⟨da_ hHeld.2.2.2.2.out hB⟩⟩ (fun hHeld => ?_); clear hK K; refine nO_ ?_; refine pV_ 15 ?_; refine lN_ 17 fun K hK => ?_
   generalize w5 = w6 at *; have hz0 : w6.cell? ⟨g, 0, none⟩ = some (.string ⟨#[]⟩) := (ba_ HG.out 0).trans rfl; have hy0 := ha_ HG.out 0; have hz1 : w6.cell? ⟨g, 1, none⟩ = some (.int .i64 0) := (ba_ HG.out 1).trans rfl; have hy1 := ha_ HG.out 1; have hz2 : w6.cell? ⟨g, 2, none⟩ = some (.int .i64 0) := (ba_ HG.out 2).trans rfl; have hy2 := ha_ HG.out 2; have hz3 : w6.cell? ⟨g, 3, none⟩ = some (.slice none 0 0) := (ba_ HG.out 3).trans rfl; have hy3 := ha_ HG.out 3; have hz4 : w6.cell? ⟨g, 4, none⟩ = some (.slice none 0 0) := (ba_ HG.out 4).trans rfl; have hy4 := ha_ HG.out 4; have hz5 : w6.cell? ⟨g, 5, none⟩ = some (.slice none 0 0) := (ba_ HG.out 5).trans rfl; have hy5 := ha_ HG.out 5; refine uf_ (w1 := ?_) Vh_ rfl ?_ ?_; rotate_left
   ·go_simp
    rfl
   refine hK.out _ _ ?_; clear hK K; refine wd_ Ti_ ?_; have HGE : Az (w.heap.size ≤ g) := ⟨Xj_⟩; have HW6 := hHeld.2.2.2.2; have HF : Az (((((((w6.setCell ⟨g, 0, none⟩ (.string id)).setCell ⟨g, 1, none⟩ (.int .i64 p5)).setCell ⟨g, 2, none⟩ (.int .i64 d5)).setCell ⟨g, 3, none⟩ (.slice none 0 0)).setCell ⟨g, 4, none⟩ (.slice AM RR.length cM)).setCell ⟨g, 5, none⟩ (.slice none 0 0)).heap[g]? = some (.cells #[.string id, .int .i64 p5, .int .i64 d5, .slice none 0 0, .slice AM RR.length cM, .slice none 0 0] 44 (0, 0))) := ⟨Uv_⟩; have HBF : Az (Below w.heap.size w ((((((w6.setCell ⟨g, 0, none⟩ (.string id)).setCell ⟨g, 1, none⟩ (.int .i64 p5)).setCell ⟨g, 2, none⟩ (.int .i64 d5)).setCell ⟨g, 3, none⟩ (.slice none 0 0)).setCell ⟨g, 4, none⟩ (.slice AM RR.length cM)).setCell ⟨g, 5, none⟩ (.slice none 0 0))) := ⟨(Below.setCell (p := ⟨g, 5, none⟩) (Below.setCell (p := ⟨g, 4, none⟩) (Below.setCell (p := ⟨g, 3, none⟩) (Below.setCell (p := ⟨g, 2, none⟩) (Below.setCell (p := ⟨g, 1, none⟩) (Below.setCell (p := ⟨g, 0, none⟩) HW6.out HGE.out (.string id)) HGE.out (.int .i64 p5)) HGE.out (.int .i64 d5)) HGE.out (.slice none 0 0)) HGE.out (.slice AM RR.length cM)) HGE.out (.slice none 0 0))⟩; have HSF : Az (((((((w6.setCell ⟨g, 0, none⟩ (.string id)).setCell ⟨g, 1, none⟩ (.int .i64 p5)).setCell ⟨g, 2, none⟩ (.int .i64 d5)).setCell ⟨g, 3, none⟩ (.slice none 0 0)).setCell ⟨g, 4, none⟩ (.slice AM RR.length cM)).setCell ⟨g, 5, none⟩ (.slice none 0 0)).heap[w.heap.size + 1]? = some (.cells #[.string ⟨#[]⟩, .int .i64 0, .int .i64 0, .slice none 0 0, .slice none 0 0, .slice none 0 0] 44 (0, 0))) := ⟨((heap_setCell_other (((((w6.setCell ⟨g, 0, none⟩ (.string id)).setCell ⟨g, 1, none⟩ (.int .i64 p5)).setCell ⟨g, 2, none⟩ (.int .i64 d5)).setCell ⟨g, 3, none⟩ (.slice none 0 0)).setCell ⟨g, 4, none⟩ (.slice AM RR.length cM)) ⟨g, 5, none⟩ (w.heap.size + 1) (.slice none 0 0) Ua_).trans ((heap_setCell_other ((((w6.setCell ⟨g, 0, none⟩ (.string id)).setCell ⟨g, 1, none⟩ (.int .i64 p5)).setCell ⟨g, 2, none⟩ (.int .i64 d5)).setCell ⟨g, 3, none⟩ (.slice none 0 0)) ⟨g, 4, none⟩ (w.heap.size + 1) (.slice AM RR.length cM) Ua_).trans ((heap_setCell_other (((w6.setCell ⟨g, 0, none⟩ (.string id)).setCell ⟨g, 1, none⟩ (.int .i64 p5)).setCell ⟨g, 2, none⟩ (.int .i64 d5)) ⟨g, 3, none⟩ (w.heap.size + 1) (.slice none 0 0) Ua_).trans ((heap_setCell_other ((w6.setCell ⟨g, 0, none⟩ (.string id)).setCell ⟨g, 1, none⟩ (.int .i64 p5)) ⟨g, 2, none⟩ (w.heap.size + 1) (.int .i64 d5) Ua_).trans ((heap_setCell_other (w6.setCell ⟨g, 0, none⟩ (.string id)) ⟨g, 1, none⟩ (w.heap.size + 1) (.int .i64 p5) Ua_).trans ((heap_setCell_other w6 ⟨g, 0, none⟩ (w.heap.size + 1) (.string id) Ua_).trans hHeld.2.2.2.1.out))))))⟩
   have HRN := Kd.R_types HRM.out HG.out Tm_; have HRF := aM_ (Kd.R_mono (Kd.R_far (Kd.R_far (Kd.R_far (Kd.R_far (Kd.R_far (Kd.R_far HRN (p := ⟨g, 0, none⟩) (fun q hq => hq.2) (.string id)) (p := ⟨g, 1, none⟩) (fun q hq => hq.2) (.int .i64 p5)) (p := ⟨g, 2, none⟩) (fun q hq => hq.2) (.int .i64 d5)) (p := ⟨g, 3, none⟩) (fun q hq => hq.2) (.slice none 0 0)) (p := ⟨g, 4, none⟩) (fun q hq => hq.2) (.slice AM RR.length cM)) (p := ⟨g, 5, none⟩) (fun q hq => hq.2) (.slice none 0 0)) (ok' := fun q => w.heap.size + 2 ≤ q ∧ q ≠ g) (fun q hq => hq)); generalize ((((((w6.setCell ⟨g, 0, none⟩ (.string id)).setCell ⟨g, 1, none⟩ (.int .i64 p5)).setCell ⟨g, 2, none⟩ (.int .i64 d5)).setCell ⟨g, 3, none⟩ (.slice none 0 0)).setCell ⟨g, 4, none⟩ (.slice AM RR.length cM)).setCell ⟨g, 5, none⟩ (.slice none 0 0)) = w7 at *; clear hHeld HRN
   go_wp2_with fail
   go_meet
   case rel => exact ⟨g, rfl, HZ, AM, cM, HF, HRF, HSF, HBF⟩
  refine cd_ (w1 := ?_) (v := ?_) Vh_ rfl ?_ ?_; rotate_left 2
  ·go_simp
   constructor
   ·rfl
   rfl
  have hB := aa_ (Below.refl w3.heap.size w3) (.cells #[.string ⟨#[]⟩, .int .i64 0, .int .i64 0, .slice none 0 0, .slice none 0 0, .slice none 0 0] 44)
  (try replace HN8 := aM_ (Kd.C_below HN8.out hB))
  (try replace HRM := aM_ (Kd.R_below HRM.out hB))
  have HG := aM_ (oa_ w3 (.cells #[.string ⟨#[]⟩, .int .i64 0, .int .i64 0, .slice none 0 0, .slice none 0 0, .slice none 0 0] 44)); have HZ : Az (w.heap.size + 2 ≤ w3.heap.size) := ⟨by have := bb_ hHeld.2.2.2.1.out; omega⟩; refine hK.out _ _ ⟨fa_ hB hHeld.1, fa_ hB hHeld.2.1, fa_ hB hHeld.2.2.1, ⟨la_ hHeld.2.2.2.1.out hB⟩, ⟨da_ hHeld.2.2.2.2.out hB⟩⟩ (fun hHeld => ?_); clear hK K; generalize hgg : w3.heap.size = g at *; generalize w3.alloc (.cells #[.string ⟨#[]⟩, .int .i64 0, .int .i64 0, .slice none 0 0, .slice none 0 0, .slice none 0 0] 44) = W9 at *; have hK := trivial; have K := trivial; clear hK K; refine nO_ ?_; refine oN_ 13 fun K hK => ?_
  refine gO_ Tryz.func48 #[.slice (some ad) l.length c, .int .i64 k] ?_
  refine (HRU.out _ hHeld.2.2.2.2.out).mono ?_; rintro e w4 ⟨v8, rfl, hN, hB⟩; obtain ⟨A8, c8, hs8⟩ := Kd.N_slice hN; subst hs8; have HN8 := aM_ (Kd.N_reads' hN).2.2; have HG := aM_ (la_ HG.out hB); clear hN; refine ⟨_, rfl, ?_⟩; refine hK.out _ _ ⟨fa_ hB hHeld.1, fa_ hB hHeld.2.1, fa_ hB hHeld.2.2.1, ⟨la_ hHeld.2.2.2.1.out hB⟩, ⟨da_ hHeld.2.2.2.2.out hB⟩⟩ (fun hHeld => ?_); clear hK K; refine nO_ ?_; refine oN_ 14 fun K hK => ?_
  refine gO_ Tryz.func58 #[.slice A8 RR.length c8, .func (.func 59) #[] #[]] ?_
  refine (mk_ A8 c8 RR _ HN8.out HRB.out.1 HRB.out.2).mono ?_; rintro e w5 ⟨vM, rfl, hR, hB⟩; obtain ⟨AM, cM, hsM⟩ := Kd.R_slice hR; subst hsM; have HS2Z := Nat.succ_le_of_lt (bb_ hHeld.2.2.2.1.out); have HRM := aM_ (Kd.R_lower (Kd.R_mono hR (ok' := fun q => w.heap.size + 2 ≤ q) (fun q hq => Nat.le_trans HS2Z hq)) (Nat.le_trans (Nat.le_add_right _ 2) HS2Z)); clear hR HS2Z; have HG := aM_ (la_ HG.out hB); refine ⟨_, rfl, ?_⟩; refine hK.out _ _ ⟨fa_ hB hHeld.1, fa_ hB hHeld.2.1, fa_ hB hHeld.2.2.1, ⟨la_ hHeld.2.2.2.1.out hB⟩, ⟨da_ hHeld.2.2.2.2.out hB⟩⟩ (fun hHeld => ?_); clear hK K; refine nO_ ?_; refine pV_ 15 ?_; refine lN_ 17 fun K hK => ?_
  generalize w5 = w6 at *; have hz0 : w6.cell? ⟨g, 0, none⟩ = some (.string ⟨#[]⟩) := (ba_ HG.out 0).trans rfl; have hy0 := ha_ HG.out 0; have hz1 : w6.cell? ⟨g, 1, none⟩ = some (.int .i64 0) := (ba_ HG.out 1).trans rfl; have hy1 := ha_ HG.out 1; have hz2 : w6.cell? ⟨g, 2, none⟩ = some (.int .i64 0) := (ba_ HG.out 2).trans rfl; have hy2 := ha_ HG.out 2; have hz3 : w6.cell? ⟨g, 3, none⟩ = some (.slice none 0 0) := (ba_ HG.out 3).trans rfl; have hy3 := ha_ HG.out 3; have hz4 : w6.cell? ⟨g, 4, none⟩ = some (.slice none 0 0) := (ba_ HG.out 4).trans rfl; have hy4 := ha_ HG.out 4; have hz5 : w6.cell? ⟨g, 5, none⟩ = some (.slice none 0 0) := (ba_ HG.out 5).trans rfl; have hy5 := ha_ HG.out 5; refine uf_ (w1 := ?_) Vh_ rfl ?_ ?_; rotate_left
  ·go_simp
   rfl
  refine hK.out _ _ ?_; clear hK K; refine wd_ Ti_ ?_; have HGE : Az (w.heap.size ≤ g) := ⟨Xj_⟩; have HW6 := hHeld.2.2.2.2; have HF : Az (((((((w6.setCell ⟨g, 0, none⟩ (.string id)).setCell ⟨g, 1, none⟩ (.int .i64 p5)).setCell ⟨g, 2, none⟩ (.int .i64 d5)).setCell ⟨g, 3, none⟩ (.slice none 0 0)).setCell ⟨g, 4, none⟩ (.slice AM RR.length cM)).setCell ⟨g, 5, none⟩ (.slice none 0 0)).heap[g]? = some (.cells #[.string id, .int .i64 p5, .int .i64 d5, .slice none 0 0, .slice AM RR.length cM, .slice none 0 0] 44 (0, 0))) := ⟨Uv_⟩; have HBF : Az (Below w.heap.size w ((((((w6.setCell ⟨g, 0, none⟩ (.string id)).setCell ⟨g, 1, none⟩ (.int .i64 p5)).setCell ⟨g, 2, none⟩ (.int .i64 d5)).setCell ⟨g, 3, none⟩ (.slice none 0 0)).setCell ⟨g, 4, none⟩ (.slice AM RR.length cM)).setCell ⟨g, 5, none⟩ (.slice none 0 0))) := ⟨(Below.setCell (p := ⟨g, 5, none⟩) (Below.setCell (p := ⟨g, 4, none⟩) (Below.setCell (p := ⟨g, 3, none⟩) (Below.setCell (p := ⟨g, 2, none⟩) (Below.setCell (p := ⟨g, 1, none⟩) (Below.setCell (p := ⟨g, 0, none⟩) HW6.out HGE.out (.string id)) HGE.out (.int .i64 p5)) HGE.out (.int .i64 d5)) HGE.out (.slice none 0 0)) HGE.out (.slice AM RR.length cM)) HGE.out (.slice none 0 0))⟩; have HSF : Az (((((((w6.setCell ⟨g, 0, none⟩ (.string id)).setCell ⟨g, 1, none⟩ (.int .i64 p5)).setCell ⟨g, 2, none⟩ (.int .i64 d5)).setCell ⟨g, 3, none⟩ (.slice none 0 0)).setCell ⟨g, 4, none⟩ (.slice AM RR.length cM)).setCell ⟨g, 5, none⟩ (.slice none 0 0)).heap[w.heap.size + 1]? = some (.cells #[.string ⟨#[]⟩, .int .i64 0, .int .i64 0, .slice none 0 0, .slice none 0 0, .slice none 0 0] 44 (0, 0))) := ⟨((heap_setCell_other (((((w6.setCell ⟨g, 0, none⟩ (.string id)).setCell ⟨g, 1, none⟩ (.int .i64 p5)).setCell ⟨g, 2, none⟩ (.int .i64 d5)).setCell ⟨g, 3, none⟩ (.slice none 0 0)).setCell ⟨g, 4, none⟩ (.slice AM RR.length cM)) ⟨g, 5, none⟩ (w.heap.size + 1) (.slice none 0 0) Ua_).trans ((heap_setCell_other ((((w6.setCell ⟨g, 0, none⟩ (.string id)).setCell ⟨g, 1, none⟩ (.int .i64 p5)).setCell ⟨g, 2, none⟩ (.int .i64 d5)).setCell ⟨g, 3, none⟩ (.slice none 0 0)) ⟨g, 4, none⟩ (w.heap.size + 1) (.slice AM RR.length cM) Ua_).trans ((heap_setCell_other (((w6.setCell ⟨g, 0, none⟩ (.string id)).setCell ⟨g, 1, none⟩ (.int .i64 p5)).setCell ⟨g, 2, none⟩ (.int .i64 d5)) ⟨g, 3, none⟩ (w.heap.size + 1) (.slice none 0 0) Ua_).trans ((heap_setCell_other ((w6.setCell ⟨g, 0, none⟩ (.string id)).setCell ⟨g, 1, none⟩ (.int .i64 p5)) ⟨g, 2, none⟩ (w.heap.size + 1) (.int .i64 d5) Ua_).trans ((heap_setCell_other (w6.setCell ⟨g, 0, none⟩ (.string id)) ⟨g, 1, none⟩ (w.heap.size + 1) (.int .i64 p5) Ua_).trans ((heap_setCell_other w6 ⟨g, 0, none⟩ (w.heap.size + 1) (.string id) Ua_).trans hHeld.2.2.2.1.out))))))⟩
  have HRN := Kd.R_types HRM.out HG.out Tm_; have HRF := aM_ (Kd.R_mono (Kd.R_far (Kd.R_far (Kd.R_far (Kd.R_far (Kd.R_far (Kd.R_far HRN (p := ⟨g, 0, none⟩) (fun q hq => hq.2) (.string id)) (p := ⟨g, 1, none⟩) (fun q hq => hq.2) (.int .i64 p5)) (p := ⟨g, 2, none⟩) (fun q hq => hq.2) (.int .i64 d5)) (p := ⟨g, 3, none⟩) (fun q hq => hq.2) (.slice none 0 0)) (p := ⟨g, 4, none⟩) (fun q hq => hq.2) (.slice AM RR.length cM)) (p := ⟨g, 5, none⟩) (fun q hq => hq.2) (.slice none 0 0)) (ok' := fun q => w.heap.size + 2 ≤ q ∧ q ≠ g) (fun q hq => hq)); generalize ((((((w6.setCell ⟨g, 0, none⟩ (.string id)).setCell ⟨g, 1, none⟩ (.int .i64 p5)).setCell ⟨g, 2, none⟩ (.int .i64 d5)).setCell ⟨g, 3, none⟩ (.slice none 0 0)).setCell ⟨g, 4, none⟩ (.slice AM RR.length cM)).setCell ⟨g, 5, none⟩ (.slice none 0 0)) = w7 at *; clear hHeld HRN
  go_wp2_with fail
  go_meet
  case rel => exact ⟨g, rfl, HZ, AM, cM, HF, HRF, HSF, HBF⟩
 obtain ⟨g, rfl, HZ, AM, cM, HG, HRM, HSR, HBW⟩ := hcut
 clear h0 h1 h2 HP2 HS2 HB2 H1 H2 HRU
 have HE0 : Az (lexP l k = mh_ l (k + 1) k [] ∧ styP l k = vf_ l (k + 1) k []) := ⟨⟨rfl, rfl⟩⟩
 have HY0 : Az (Kd.R k46 46 wc w.heap.size (fun q => g < q) (.slice none 0 0) []) := ⟨Kd.R_nil _ _ _ _ _⟩
 have HT0 : Az (Kd.R k52 52 wc w.heap.size (fun q => g < q) (.slice none 0 0) []) := ⟨Kd.R_nil _ _ _ _ _⟩
 go_wp2_with fail
 go_loopg [6] (k + 1) (fun gg s6 wr => ∃ (a : Int) (n : Nat) (ys : List S46) (ss : List S52) (A3 : Option Addr) (c3 : Nat) (A5 : Option Addr) (c5 : Nat), s6 = .int .i64 a ∧ (a + 1).toNat ≤ gg ∧ a < n ∧ a < l.length ∧ Az ((ys.length : Int) + 1000 * (a + 1) ≤ 1000 * l.length ∧ (ss.length : Int) + 1000 * (a + 1) ≤ 1000 * l.length) ∧ Az (ys.length ≤ 1000 * l.length ∧ ss.length ≤ 1000 * l.length) ∧ Az (lexP l k = mh_ l n a ys ∧ styP l k = vf_ l n a ss) ∧ Az (wr.heap[g]? = some (.cells #[.string id, .int .i64 p5, .int .i64 d5, .slice A3 ys.length c3, .slice AM RR.length cM, .slice A5 ss.length c5] 44 (0, 0))) ∧ Az (wr.heap[w.heap.size + 1]? = some (.cells #[.string ⟨#[]⟩, .int .i64 0, .int .i64 0, .slice none 0 0, .slice none 0 0, .slice none 0 0] 44 (0, 0))) ∧ Az (Kd.R k46 46 wr w.heap.size (fun q => g < q) (.slice A3 ys.length c3) ys) ∧ Az (Kd.R k56 56 wr w.heap.size (fun q => w.heap.size + 2 ≤ q ∧ q ≠ g) (.slice AM RR.length cM) RR) ∧ Az (Kd.R k52 52 wr w.heap.size (fun q => g < q) (.slice A5 ss.length c5) ss) ∧ Az (Below w.heap.size w wr))
 case atStart => exact ⟨k, k + 1, [], [], none, 0, none, 0, rfl, Td_, Td_, Td_, ⟨by have := HLL.out; simp; omega⟩, ⟨Tt_⟩, HE0, HG, HSR, HY0, HRM, HT0, HBW⟩
 clear HE0 HY0 HT0 HG HSR HBW HRM
 obtain ⟨a, n, ys, ss, A3, c3, A5, c5, rfl, hgg, han, hal, HYL, HYM, HE, HG, HSR, HY, HRM, HT, HBW⟩ := hrel
 have hw1 : wrap64 ((l.length : Int) - 1) = (l.length : Int) - 1 := by have := HLL.out; rw [wrap64]; omega
 have HWI := aM_ (ve_ a 0 ((l.length : Int) - 1))
 cases hin : ib_ a 0 ((l.length : Int) - 1) with
 | false =>
  rw [hin] at HWI
  have HG0 : Az (lexP l k = ys ∧ styP l k = ss) := ⟨by
   rw [HE.out.1, HE.out.2]
   cases n with
   | zero => exact ⟨rfl, rfl⟩
   | succ n => rw [mh_, vf_, if_neg (by rw [hin]; decide), if_neg (by rw [hin]; decide)]; exact ⟨rfl, rfl⟩⟩
  have HYB : Az (ys.length * 32 ≤ 140737488355328 ∧ ss.length * 32 ≤ 140737488355328) := ⟨by have h1 := HYM.out; have h2 := HLL.out; omega⟩; clear hin HE
  go_wp2_with fail
  refine (HWI.out _).mono ?_; rintro e W5 ⟨rfl, hB⟩; replace HG := aM_ (la_ HG.out hB); replace HSR := aM_ (la_ HSR.out hB); replace HY := aM_ (Kd.R_below HY.out hB); replace HT := aM_ (Kd.R_below HT.out hB); replace HRM := aM_ (Kd.R_below HRM.out hB); have HW5 : Az (Below w.heap.size w W5) := ⟨da_ HBW.out hB⟩; have hg3 : W5.cell? ⟨g, 3, none⟩ = some (.slice A3 ys.length c3) := ba_ HG.out 3; have hg5 : W5.cell? ⟨g, 5, none⟩ = some (.slice A5 ss.length c5) := ba_ HG.out 5; clear hB HWI HBW
  go_wp2_with fail
  refine fd_ (n := 10) (S := fun w' => w'.cell? ⟨g, 3, none⟩ = some (.slice A3 ys.length c3) ∧ w'.cell? ⟨g, 5, none⟩ = some (.slice A5 ss.length c5) ∧ Az (Below W5.heap.size W5 w')) (ds := [7, 9]) (f_ 10 0) Ti_ rfl rfl ⟨hg3, hg5, ⟨ca_ (Below.refl _ _) 1⟩⟩ (fun hHeld => ?_); generalize W5.drew = w3 at *; refine pV_ 0 ?_; refine tV3_ 1 ?_; refine pV_ 3 ?_; refine tV3_ 4 ?_; refine oN_ 2 fun K hK => ?_
  refine gO_ Tryz.func65 #[.slice A3 ys.length c3] ?_
  have HSZ : Az (g + 1 ≤ w3.heap.size ∧ w.heap.size ≤ w3.heap.size) := ⟨Nat.le_trans (bb_ HG.out) hHeld.2.2.out.size, Nat.le_trans HW5.out.size hHeld.2.2.out.size⟩; refine (cloneE A3 c3 ys w3 (g + 1) w.heap.size (Kd.R_below HY.out hHeld.2.2.out) HSZ.out.1 HSZ.out.2 HYB.out.1).mono ?_; rintro e w4 ⟨v3, rfl, hR, hB⟩; have HR3 := aM_ hR; refine ⟨_, rfl, ?_⟩; refine hK.out _ _ ⟨fa_ hB hHeld.1, fa_ hB hHeld.2.1, ⟨da_ hHeld.2.2.out hB⟩⟩ (fun hHeld => ?_); clear hK K; refine nO_ ?_; refine pV_ 6 ?_; refine oN_ 5 fun K hK => ?_
  refine gO_ Tryz.func66 #[.slice A5 ss.length c5] ?_
  have HSZ4 : Az (g + 1 ≤ w4.heap.size ∧ w.heap.size ≤ w4.heap.size) := ⟨Nat.le_trans (bb_ HG.out) hHeld.2.2.out.size, Nat.le_trans HW5.out.size hHeld.2.2.out.size⟩; refine (ft_ A5 c5 ss w4 (g + 1) w.heap.size (Kd.R_below HT.out hHeld.2.2.out) HSZ4.out.1 HSZ4.out.2 HYB.out.2).mono ?_; rintro e w5 ⟨v5, rfl, hR, hB⟩; have HR5 := aM_ hR; have HR4 := aM_ (Kd.R_below HR3.out hB); have HG5 := aM_ (la_ HG.out (da_ hHeld.2.2.out hB)); obtain ⟨B3, e3, hs3⟩ := Kd.R_slice HR4.out; obtain ⟨B5, e5, hs5⟩ := Kd.R_slice HR5.out; subst hs3; subst hs5; refine ⟨_, rfl, ?_⟩; refine hK.out _ _ ⟨fa_ hB hHeld.1, fa_ hB hHeld.2.1, ⟨da_ hHeld.2.2.out hB⟩⟩ (fun hHeld => ?_); clear hK K; refine nO_ ?_; refine lN_ 7 fun K hK => ?_
  have hz3 := hHeld.1; have hz5 := hHeld.2.1; have hy3 := ha_ HG5.out 3; have hy5 := ha_ HG5.out 5; refine uf_ (w1 := ?_) Vh_ rfl ?_ ?_; rotate_left
  ·go_simp
   rfl
  refine hK.out _ _ ?_; clear hK K; refine pV_ 8 ?_; refine lN_ 9 fun K hK => ?_
  refine uf_ (w1 := ?_) Vh_ rfl ?_ ?_; rotate_left
  ·go_simp
   rfl
  refine hK.out _ _ ?_; clear hK K; refine wd_ Ti_ ?_; have HB5 := hHeld.2.2; have HGE : Az (w.heap.size ≤ g ∧ w.heap.size + 1 ≠ g) := ⟨Xj_⟩; have HG7 : Az (((w5.setCell ⟨g, 3, none⟩ (.slice B3 ys.length e3)).setCell ⟨g, 5, none⟩ (.slice B5 ss.length e5)).heap[g]? = some (.cells #[.string id, .int .i64 p5, .int .i64 d5, .slice B3 ys.length e3, .slice AM RR.length cM, .slice B5 ss.length e5] 44 (0, 0))) := ⟨by simpa using qa_ (qa_ HG5.out 3 (.slice B3 ys.length e3)) 5 (.slice B5 ss.length e5)⟩; have HSR7 : Az (((w5.setCell ⟨g, 3, none⟩ (.slice B3 ys.length e3)).setCell ⟨g, 5, none⟩ (.slice B5 ss.length e5)).heap[w.heap.size + 1]? = some (.cells #[.string ⟨#[]⟩, .int .i64 0, .int .i64 0, .slice none 0 0, .slice none 0 0, .slice none 0 0] 44 (0, 0))) := ⟨(heap_setCell_other _ ⟨g, 5, none⟩ _ _ HGE.out.2).trans ((heap_setCell_other w5 ⟨g, 3, none⟩ _ _ HGE.out.2).trans (la_ HSR.out HB5.out))⟩; have HW7 : Az (Below w.heap.size w ((w5.setCell ⟨g, 3, none⟩ (.slice B3 ys.length e3)).setCell ⟨g, 5, none⟩ (.slice B5 ss.length e5))) := ⟨Below.setCell (p := ⟨g, 5, none⟩) (Below.setCell (p := ⟨g, 3, none⟩) (da_ HW5.out HB5.out) HGE.out.1 _) HGE.out.1 _⟩; have HL7 := aM_ (Kd.R_far (Kd.R_far HR4.out (p := ⟨g, 3, none⟩) (fun q hq => Nat.ne_of_gt hq) (.slice B3 ys.length e3)) (p := ⟨g, 5, none⟩) (fun q hq => Nat.ne_of_gt hq) (.slice B5 ss.length e5)); have HT7 := aM_ (Kd.R_far (Kd.R_far HR5.out (p := ⟨g, 3, none⟩) (fun q hq => Nat.ne_of_gt hq) (.slice B3 ys.length e3)) (p := ⟨g, 5, none⟩) (fun q hq => Nat.ne_of_gt hq) (.slice B5 ss.length e5)); have HRM7 := aM_ (Kd.R_far (Kd.R_far (Kd.R_below HRM.out HB5.out) (p := ⟨g, 3, none⟩) (fun q hq => hq.2) (.slice B3 ys.length e3)) (p := ⟨g, 5, none⟩) (fun q hq => hq.2) (.slice B5 ss.length e5)); generalize ((w5.setCell ⟨g, 3, none⟩ (.slice B3 ys.length e3)).setCell ⟨g, 5, none⟩ (.slice B5 ss.length e5)) = w7 at *; clear hHeld HB5 HG5 HR3 HR4 HR5 HG HSR HY HT HRM HW5 hg3 hg5 hz3 hz5 hy3 hy5; have ha0 := ba_ HG7.out 0; have hb0 := ba_ HSR7.out 0; have hf0 := ha_ HSR7.out 0; have ha1 := ba_ HG7.out 1; have hb1 := ba_ HSR7.out 1; have hf1 := ha_ HSR7.out 1; have ha2 := ba_ HG7.out 2; have hb2 := ba_ HSR7.out 2; have hf2 := ha_ HSR7.out 2; have ha3 := ba_ HG7.out 3; have hb3 := ba_ HSR7.out 3; have hf3 := ha_ HSR7.out 3; have ha4 := ba_ HG7.out 4; have hb4 := ba_ HSR7.out 4; have hf4 := ha_ HSR7.out 4; have ha5 := ba_ HG7.out 5; have hb5 := ba_ HSR7.out 5; have hf5 := ha_ HSR7.out 5; have hu1 := Tryz.underlying44
  go_wp2
  have hb7 : ((((((w7.setCell ⟨w.heap.size + 1, 0, none⟩ (.string id)).setCell ⟨w.heap.size + 1, 1, none⟩ (.int .i64 p5)).setCell ⟨w.heap.size + 1, 2, none⟩ (.int .i64 d5)).setCell ⟨w.heap.size + 1, 3, none⟩ (.slice B3 ys.length e3)).setCell ⟨w.heap.size + 1, 4, none⟩ (.slice AM RR.length cM)).setCell ⟨w.heap.size + 1, 5, none⟩ (.slice B5 ss.length e5)).heap[w.heap.size + 1]? = some (.cells #[.string id, .int .i64 p5, .int .i64 d5, .slice B3 ys.length e3, .slice AM RR.length cM, .slice B5 ss.length e5] 44 (0, 0)) := by simpa using (qa_ (qa_ (qa_ (qa_ (qa_ (qa_ HSR7.out 0 (.string id)) 1 (.int .i64 p5)) 2 (.int .i64 d5)) 3 (.slice B3 ys.length e3)) 4 (.slice AM RR.length cM)) 5 (.slice B5 ss.length e5))
  refine bodyPost_ret (hh_ rfl _ _ (w.heap.size + 1) 44 #[.string id, .int .i64 p5, .int .i64 d5, .slice B3 ys.length e3, .slice AM RR.length cM, .slice B5 ss.length e5] (0, 0) _ rfl hb7 Tryz.underlying44 rfl Ti_) rfl ?_; rw [HG0.out.1, HG0.out.2]
  exact ⟨_, _, _, rfl, Kd.R_mono (Kd.R_far (Kd.R_far (Kd.R_far (Kd.R_far (Kd.R_far (Kd.R_far HL7.out (p := ⟨w.heap.size + 1, 0, none⟩) (fun q hq => by have := HZ.out; show q ≠ w.heap.size + 1; omega) (.string id)) (p := ⟨w.heap.size + 1, 1, none⟩) (fun q hq => by have := HZ.out; show q ≠ w.heap.size + 1; omega) (.int .i64 p5)) (p := ⟨w.heap.size + 1, 2, none⟩) (fun q hq => by have := HZ.out; show q ≠ w.heap.size + 1; omega) (.int .i64 d5)) (p := ⟨w.heap.size + 1, 3, none⟩) (fun q hq => by have := HZ.out; show q ≠ w.heap.size + 1; omega) (.slice B3 ys.length e3)) (p := ⟨w.heap.size + 1, 4, none⟩) (fun q hq => by have := HZ.out; show q ≠ w.heap.size + 1; omega) (.slice AM RR.length cM)) (p := ⟨w.heap.size + 1, 5, none⟩) (fun q hq => by have := HZ.out; show q ≠ w.heap.size + 1; omega) (.slice B5 ss.length e5)) (fun q hq => by have := HZ.out; show w.heap.size ≤ q; omega), Kd.R_mono (Kd.R_far (Kd.R_far (Kd.R_far (Kd.R_far (Kd.R_far (Kd.R_far HRM7.out (p := ⟨w.heap.size + 1, 0, none⟩) (fun q hq => by have := HZ.out; have := hq.1; show q ≠ w.heap.size + 1; omega) (.string id)) (p := ⟨w.heap.size + 1, 1, none⟩) (fun q hq => by have := HZ.out; have := hq.1; show q ≠ w.heap.size + 1; omega) (.int .i64 p5)) (p := ⟨w.heap.size + 1, 2, none⟩) (fun q hq => by have := HZ.out; have := hq.1; show q ≠ w.heap.size + 1; omega) (.int .i64 d5)) (p := ⟨w.heap.size + 1, 3, none⟩) (fun q hq => by have := HZ.out; have := hq.1; show q ≠ w.heap.size + 1; omega) (.slice B3 ys.length e3)) (p := ⟨w.heap.size + 1, 4, none⟩) (fun q hq => by have := HZ.out; have := hq.1; show q ≠ w.heap.size + 1; omega) (.slice AM RR.length cM)) (p := ⟨w.heap.size + 1, 5, none⟩) (fun q hq => by have := HZ.out; have := hq.1; show q ≠ w.heap.size + 1; omega) (.slice B5 ss.length e5)) (fun q hq => by have := hq.1; show w.heap.size ≤ q; omega), Kd.R_mono (Kd.R_far (Kd.R_far (Kd.R_far (Kd.R_far (Kd.R_far (Kd.R_far HT7.out (p := ⟨w.heap.size + 1, 0, none⟩) (fun q hq => by have := HZ.out; show q ≠ w.heap.size + 1; omega) (.string id)) (p := ⟨w.heap.size + 1, 1, none⟩) (fun q hq => by have := HZ.out; show q ≠ w.heap.size + 1; omega) (.int .i64 p5)) (p := ⟨w.heap.size + 1, 2, none⟩) (fun q hq => by have := HZ.out; show q ≠ w.heap.size + 1; omega) (.int .i64 d5)) (p := ⟨w.heap.size + 1, 3, none⟩) (fun q hq => by have := HZ.out; show q ≠ w.heap.size + 1; omega) (.slice B3 ys.length e3)) (p := ⟨w.heap.size + 1, 4, none⟩) (fun q hq => by have := HZ.out; show q ≠ w.heap.size + 1; omega) (.slice AM RR.length cM)) (p := ⟨w.heap.size + 1, 5, none⟩) (fun q hq => by have := HZ.out; show q ≠ w.heap.size + 1; omega) (.slice B5 ss.length e5)) (fun q hq => by have := HZ.out; show w.heap.size ≤ q; omega), (Below.setCell (p := ⟨w.heap.size + 1, 5, none⟩) (Below.setCell (p := ⟨w.heap.size + 1, 4, none⟩) (Below.setCell (p := ⟨w.heap.size + 1, 3, none⟩) (Below.setCell (p := ⟨w.heap.size + 1, 2, none⟩) (Below.setCell (p := ⟨w.heap.size + 1, 1, none⟩) (Below.setCell (p := ⟨w.heap.size + 1, 0, none⟩) HW7.out (Nat.le_succ _) (.string id)) (Nat.le_succ _) (.int .i64 p5)) (Nat.le_succ _) (.int .i64 d5)) (Nat.le_succ _) (.slice B3 ys.length e3)) (Nat.le_succ _) (.slice AM RR.length cM)) (Nat.le_succ _) (.slice B5 ss.length e5))⟩
 | true =>
  rw [hin] at HWI
  have hr2 : 0 ≤ a ∧ a ≤ (l.length : Int) - 1 := by
   unfold ib_ at hin
   simpa using hin
  obtain ⟨j, rfl⟩ : ∃ j : Nat, a = (j : Int) := ⟨a.toNat, Td_⟩; have hj : j < l.length := by omega
  have hjz : (j : Int) < (l.length : Int) := by omega
  obtain ⟨n, rfl⟩ : ∃ m, n = m + 1 := ⟨n - 1, Td_⟩; have HE1 : Az (lexP l k = mh_ l n (sd_ l j) ((pa_ l (j : Int)).f3 ++ ys) ∧ styP l k = vf_ l n (sd_ l j) ((pa_ l (j : Int)).f5 ++ ss)) := ⟨by rw [HE.out.1, HE.out.2, mh_, vf_, if_pos hin, if_pos hin]; exact ⟨rfl, rfl⟩⟩; have HPL1 := aM_ (zl_ l (j : Int) Td_)
  have hy : pa_ l (j : Int) = l[j] := by
   show l.getD (j : Int).toNat _ = _; rw [Int.toNat_natCast, List.getD_eq_getElem?_getD, List.getElem?_eq_getElem hj]; rfl
  have hx3 : (pa_ l (j : Int)).f3.length ≤ 1000 := by rw [hy]; exact (HOK.out.2 _ (List.getElem_mem hj)).1
  have hx5 : (pa_ l (j : Int)).f5.length ≤ 1000 ∧ ∀ t ∈ (pa_ l (j : Int)).f5, t.f1.length ≤ 1000000 := by rw [hy]; exact (HOK.out.2 _ (List.getElem_mem hj)).2.2
  obtain ⟨ad', B3, d3, B4, d4, B5, d5', hA, h0, h1, h2, h3, h4, h5, l3, g3, l4, g4, l5, g5⟩ := tf_ HR.out (j : Int) Td_ hjz; injection hA with hA; subst hA; rw [Int.toNat_natCast] at h3 h5; generalize (pa_ l (j : Int)).f3 = lx at *; generalize (pa_ l (j : Int)).f5 = sx at *; have HSX := aM_ hx5; have HSC := aM_ g5; have HLC := aM_ g3; have H3 := aM_ h3; have H5 : Az (w.cell? ⟨(ad.add (j * 6)).block, (ad.add (j * 6)).off + 5, none⟩ = some (.slice B5 sx.length d5')) := ⟨h5⟩; have HLX3 := aM_ hx3; have HPW := aM_ (fun W (hB : Below w.heap.size w W) => nq_ (some ad) c l (j : Int) W (Kd.C_below HR.out hB) HC.out Td_ hjz); clear hin HE hr2 h0 h1 h2 h3 h4 h5 l3 g3 l4 g4 l5 g5 hy hx3 hx5
  go_wp2_with fail
  refine (HWI.out _).mono ?_; rintro e W5 ⟨rfl, hB⟩; replace HG := aM_ (la_ HG.out hB); replace HSR := aM_ (la_ HSR.out hB); replace HY := aM_ (Kd.R_below HY.out hB); replace HT := aM_ (Kd.R_below HT.out hB); replace HRM := aM_ (Kd.R_below HRM.out hB); have HW5 : Az (Below w.heap.size w W5) := ⟨da_ HBW.out hB⟩; have HLY : Az (lx.length + ys.length ≤ 1000000 ∧ sx.length + ss.length ≤ 1000000) := ⟨by have := HYL.out; have := HLX3.out; have := HLL.out; have := HSX.out.1; omega⟩; have hl3 := fa_ HW5.out H3.out; have hg3 : W5.cell? ⟨g, 3, none⟩ = some (.slice A3 ys.length c3) := ba_ HG.out 3; clear hB HWI HBW
  go_wp2_with fail
  refine fd_ (n := 11) (S := fun w' => w'.cell? ⟨(ad.add (j * 6)).block, (ad.add (j * 6)).off + 3, none⟩ = some (.slice B3 lx.length d3) ∧ w'.cell? ⟨g, 3, none⟩ = some (.slice A3 ys.length c3) ∧ Az (Below W5.heap.size W5 w')) (ds := [10]) (f_ 11 0) Ti_ rfl rfl ⟨hl3, hg3, ⟨ca_ (Below.refl _ _) 1⟩⟩ (fun hHeld => ?_); generalize W5.drew = w3 at *; refine pV_ 0 ?_; refine pV_ 1 ?_; refine pV_ 2 ?_; refine pV_ 3 ?_; refine tV3_ 4 ?_; refine pV_ 5 ?_; refine tV3_ 6 ?_; refine oN_ 7 fun K hK => ?_
  refine cd_ (w1 := ?_) (v := ?_) Vh_ rfl ?_ ?_; rotate_left 2
  ·go_simp
   constructor
   ·rfl
   rfl
  have hB := aa_ (Below.refl w3.heap.size w3) (.cells #[.slice B3 lx.length d3, .slice A3 ys.length c3] 40); have HCO := aM_ (op_ w3.heap.size B3 A3 d3 c3 lx ys (w3.alloc (.cells #[.slice B3 lx.length d3, .slice A3 ys.length c3] 40)) (ba_ (oa_ w3 _) 0) (ba_ (oa_ w3 _) 1) (Kd.C_below HLC.out (da_ HW5.out (da_ hHeld.2.2.out hB))) (Kd.C_below (Kd.R_reads' HY.out).2.2 (da_ hHeld.2.2.out hB)) HLY.out.1); have HSZ : Az (g < (w3.alloc (.cells #[.slice B3 lx.length d3, .slice A3 ys.length c3] 40)).heap.size) := ⟨Nat.lt_of_lt_of_le (bb_ HG.out) (da_ hHeld.2.2.out hB).size⟩; refine hK.out _ _ ⟨fa_ hB hHeld.1, fa_ hB hHeld.2.1, ⟨da_ hHeld.2.2.out hB⟩⟩ (fun hHeld => ?_); clear hK K; generalize w3.heap.size = g3 at *; generalize w3.alloc (.cells #[.slice B3 lx.length d3, .slice A3 ys.length c3] 40) = w4 at *; have hK := trivial; have K := trivial; clear hK K; refine nO_ ?_; refine oN_ 8 fun K hK => ?_
  refine gO_ Tryz.func61 #[.slice (some ⟨g3, 0, none⟩) 2 2] ?_
  refine HCO.out.mono ?_; rintro e w5 ⟨v7, rfl, hR, hB⟩; obtain ⟨A7, c7, hs7⟩ := Kd.R_slice hR; subst hs7; have HZL : Az ((lx ++ ys).length = lx.length + ys.length) := ⟨List.length_append⟩; generalize lx ++ ys = zs at *; have HRC := aM_ (Kd.R_mono (Kd.R_lower hR (Nat.le_trans HW5.out.size hHeld.2.2.out.size)) (ok' := fun q => g < q) (fun q hq => Nat.lt_of_lt_of_le HSZ.out hq)); have HG5 := aM_ (la_ HG.out (da_ hHeld.2.2.out hB)); refine ⟨_, rfl, ?_⟩; refine hK.out _ _ ⟨fa_ hB hHeld.1, fa_ hB hHeld.2.1, ⟨da_ hHeld.2.2.out hB⟩⟩ (fun hHeld => ?_); clear hK K; refine nO_ ?_; refine pV_ 9 ?_; refine lN_ 10 fun K hK => ?_
  have hz := hHeld.2.1; have hy := ha_ HG5.out 3; refine uf_ (w1 := ?_) Vh_ rfl ?_ ?_; rotate_left
  ·go_simp
   rfl
  refine hK.out _ _ ?_; clear hK K; refine wd_ Ti_ ?_; have HG6 : Az ((w5.setCell ⟨g, 3, none⟩ (.slice A7 zs.length c7)).heap[g]? = some (.cells #[.string id, .int .i64 p5, .int .i64 d5, .slice A7 zs.length c7, .slice AM RR.length cM, .slice A5 ss.length c5] 44 (0, 0))) := ⟨by simpa using qa_ HG5.out 3 (.slice A7 zs.length c7)⟩; have HB5 := hHeld.2.2; have HGE : Az (w.heap.size ≤ g ∧ w.heap.size + 1 ≠ g) := ⟨Xj_⟩; have HSR6 : Az ((w5.setCell ⟨g, 3, none⟩ (.slice A7 zs.length c7)).heap[w.heap.size + 1]? = some (.cells #[.string ⟨#[]⟩, .int .i64 0, .int .i64 0, .slice none 0 0, .slice none 0 0, .slice none 0 0] 44 (0, 0))) := ⟨(heap_setCell_other w5 ⟨g, 3, none⟩ _ _ HGE.out.2).trans (la_ HSR.out HB5.out)⟩; have HW6 : Az (Below w.heap.size w (w5.setCell ⟨g, 3, none⟩ (.slice A7 zs.length c7))) := ⟨Below.setCell (p := ⟨g, 3, none⟩) (da_ HW5.out HB5.out) HGE.out.1 _⟩; have HY6 := aM_ (Kd.R_far HRC.out (p := ⟨g, 3, none⟩) (fun q hq => Nat.ne_of_gt hq) (.slice A7 zs.length c7)); have HRM6 := aM_ (Kd.R_far (Kd.R_below HRM.out HB5.out) (p := ⟨g, 3, none⟩) (fun q hq => hq.2) (.slice A7 zs.length c7)); have HT6 := aM_ (Kd.R_far (Kd.R_below HT.out HB5.out) (p := ⟨g, 3, none⟩) (fun q hq => Nat.ne_of_gt hq) (.slice A7 zs.length c7)); generalize w5.setCell ⟨g, 3, none⟩ (.slice A7 zs.length c7) = W6 at *; clear hHeld HB5 HG5 HRC HCO HSZ HG HSR HY HT HRM HW5 hl3 hg3 hz hy; have HG := HG6; have hl5 := fa_ HW6.out H5.out; have hg5 : W6.cell? ⟨g, 5, none⟩ = some (.slice A5 ss.length c5) := ba_ HG6.out 5
  go_wp2_with fail
  refine fd_ (n := 12) (S := fun w' => w'.cell? ⟨(ad.add (j * 6)).block, (ad.add (j * 6)).off + 5, none⟩ = some (.slice B5 sx.length d5') ∧ w'.cell? ⟨g, 5, none⟩ = some (.slice A5 ss.length c5) ∧ Az (Below W6.heap.size W6 w')) (ds := [11]) (f_ 12 0) Ti_ rfl rfl ⟨hl5, hg5, ⟨ca_ (Below.refl _ _) 1⟩⟩ (fun hHeld => ?_); generalize W6.drew = w3 at *; refine pV_ 0 ?_; refine pV_ 1 ?_; refine pV_ 2 ?_; refine pV_ 3 ?_; refine tV3_ 4 ?_; refine pV_ 6 ?_; refine tV3_ 7 ?_; refine oN_ 5 fun K hK => ?_
  refine gO_ Tryz.func63 #[.slice B5 sx.length d5', .func (.func 64) #[] #[]] ?_
  have HSM : Az (g + 1 ≤ w3.heap.size ∧ w.heap.size ≤ w3.heap.size) := ⟨Nat.le_trans (bb_ HG.out) hHeld.2.2.out.size, Nat.le_trans HW6.out.size hHeld.2.2.out.size⟩; refine (zu_ B5 d5' sx _ (Kd.C_below HSC.out (da_ HW6.out hHeld.2.2.out)) (by have := HSX.out.1; omega) HSX.out.2).mono ?_; rintro e w4 ⟨vM, rfl, hR, hB⟩; obtain ⟨BM, dM, hsM⟩ := Kd.R_slice hR; subst hsM; have HMX := aM_ (Kd.R_lower (Kd.R_mono hR (ok' := fun q => g + 1 ≤ q) (fun q hq => Nat.le_trans HSM.out.1 hq)) HSM.out.2); clear hR; refine ⟨_, rfl, ?_⟩; refine hK.out _ _ ⟨fa_ hB hHeld.1, fa_ hB hHeld.2.1, ⟨da_ hHeld.2.2.out hB⟩⟩ (fun hHeld => ?_); clear hK K; refine nO_ ?_; refine oN_ 8 fun K hK => ?_
  refine cd_ (w1 := ?_) (v := ?_) Vh_ rfl ?_ ?_; rotate_left 2
  ·go_simp
   constructor
   ·rfl
   rfl
  have hB := aa_ (Below.refl w4.heap.size w4) (.cells #[.slice BM sx.length dM, .slice A5 ss.length c5] 42); have HS4 := Nat.le_trans (Nat.le_trans (bb_ HG.out) hHeld.2.2.out.size) hB.size; have HS5 := Nat.le_trans (Nat.le_trans HW6.out.size hHeld.2.2.out.size) hB.size; have HCO := aM_ (sn_ w4.heap.size BM A5 dM c5 sx ss (w4.alloc (.cells #[.slice BM sx.length dM, .slice A5 ss.length c5] 42)) (ba_ (oa_ w4 _) 0) (ba_ (oa_ w4 _) 1) (g + 1) w.heap.size HS4 HS5 (Kd.R_below HMX.out hB) (Kd.R_below HT6.out (da_ hHeld.2.2.out hB)) HLY.out.2); clear HS4 HS5; have HSZ : Az (g < (w4.alloc (.cells #[.slice BM sx.length dM, .slice A5 ss.length c5] 42)).heap.size) := ⟨Nat.lt_of_lt_of_le (bb_ HG.out) (da_ hHeld.2.2.out hB).size⟩; refine hK.out _ _ ⟨fa_ hB hHeld.1, fa_ hB hHeld.2.1, ⟨da_ hHeld.2.2.out hB⟩⟩ (fun hHeld => ?_); clear hK K; generalize w4.heap.size = g3 at *; generalize w4.alloc (.cells #[.slice BM sx.length dM, .slice A5 ss.length c5] 42) = w5 at *; have hK := trivial; have K := trivial; clear hK K; refine nO_ ?_; refine oN_ 9 fun K hK => ?_
  refine gO_ Tryz.func62 #[.slice (some ⟨g3, 0, none⟩) 2 2] ?_
  refine HCO.out.mono ?_; rintro e w6 ⟨v7, rfl, hR, hB⟩; obtain ⟨A8, c8, hs7⟩ := Kd.R_slice hR; subst hs7; have HTL : Az ((sx ++ ss).length = sx.length + ss.length) := ⟨List.length_append⟩; generalize sx ++ ss = ts at *; have HRS8 : Az (Kd.R k52 52 w6 w.heap.size (fun q => g < q) (.slice A8 ts.length c8) ts) := ⟨hR⟩; have HG5 := aM_ (la_ HG.out (da_ hHeld.2.2.out hB)); refine ⟨_, rfl, ?_⟩; refine hK.out _ _ ⟨fa_ hB hHeld.1, fa_ hB hHeld.2.1, ⟨da_ hHeld.2.2.out hB⟩⟩ (fun hHeld => ?_); clear hK K; refine nO_ ?_; refine pV_ 10 ?_; refine lN_ 11 fun K hK => ?_
  have hz := hHeld.2.1; have hy := ha_ HG5.out 5; refine uf_ (w1 := ?_) Vh_ rfl ?_ ?_; rotate_left
  ·go_simp
   rfl
  refine hK.out _ _ ?_; clear hK K; refine wd_ Ti_ ?_; have HG7 : Az ((w6.setCell ⟨g, 5, none⟩ (.slice A8 ts.length c8)).heap[g]? = some (.cells #[.string id, .int .i64 p5, .int .i64 d5, .slice A7 zs.length c7, .slice AM RR.length cM, .slice A8 ts.length c8] 44 (0, 0))) := ⟨by simpa using qa_ HG5.out 5 (.slice A8 ts.length c8)⟩; have HB5 := hHeld.2.2; have HSR7 : Az ((w6.setCell ⟨g, 5, none⟩ (.slice A8 ts.length c8)).heap[w.heap.size + 1]? = some (.cells #[.string ⟨#[]⟩, .int .i64 0, .int .i64 0, .slice none 0 0, .slice none 0 0, .slice none 0 0] 44 (0, 0))) := ⟨(heap_setCell_other w6 ⟨g, 5, none⟩ _ _ HGE.out.2).trans (la_ HSR6.out HB5.out)⟩; have HW7 : Az (Below w.heap.size w (w6.setCell ⟨g, 5, none⟩ (.slice A8 ts.length c8))) := ⟨Below.setCell (p := ⟨g, 5, none⟩) (da_ HW6.out HB5.out) HGE.out.1 _⟩; have HY7 := aM_ (Kd.R_far (Kd.R_below HY6.out HB5.out) (p := ⟨g, 5, none⟩) (fun q hq => Nat.ne_of_gt hq) (.slice A8 ts.length c8)); have HRM7 := aM_ (Kd.R_far (Kd.R_below HRM6.out HB5.out) (p := ⟨g, 5, none⟩) (fun q hq => hq.2) (.slice A8 ts.length c8)); have HT7 := aM_ (Kd.R_far HRS8.out (p := ⟨g, 5, none⟩) (fun q hq => Nat.ne_of_gt hq) (.slice A8 ts.length c8)); generalize w6.setCell ⟨g, 5, none⟩ (.slice A8 ts.length c8) = W7 at *; have HYL7 : Az ((zs.length : Int) + 1000 * (sd_ l j + 1) ≤ 1000 * l.length ∧ (ts.length : Int) + 1000 * (sd_ l j + 1) ≤ 1000 * l.length) := ⟨by rw [HZL.out, HTL.out]; have h1 := HYL.out; have h2 := HLX3.out; have h3 := HPL1.out; have h4 := HSX.out.1; omega⟩; have HYM7 : Az (zs.length ≤ 1000 * l.length ∧ ts.length ≤ 1000 * l.length) := ⟨by rw [HZL.out, HTL.out]; have h1 := HYL.out; have h2 := HLX3.out; have h4 := HSX.out.1; omega⟩; clear hHeld HB5 HG5 HG6 HSR6 HW6 HY6 HT6 HRM6 HRS8 HCO HSZ HG hl5 hg5 hz hy HYL
  go_wp2_with fail
  refine (HPW.out _ HW7.out).mono ?_; rintro e W8 ⟨rfl, hB⟩; replace HG7 := aM_ (la_ HG7.out hB); replace HSR7 := aM_ (la_ HSR7.out hB); replace HY7 := aM_ (Kd.R_below HY7.out hB); replace HT7 := aM_ (Kd.R_below HT7.out hB); replace HRM7 := aM_ (Kd.R_below HRM7.out hB); replace HW7 : Az (Below w.heap.size w W8) := ⟨da_ HW7.out hB⟩; have hp := HPL1.out; clear hB HPW HPL1; generalize sd_ l (j : Int) = q at *
  go_wp2
  go_roundg ((q + 1).toNat)
  case measure => omega
  case rel => exact ⟨q, n, zs, ts, A7, c7, A8, c8, rfl, Td_, Td_, Td_, HYL7, HYM7, HE1, HG7, HSR7, HY7, HRM7, HT7, HW7⟩
end Go.Proofs.YtiocgaekoeekgaaGreat.P
end
section
namespace Go.Proofs.YtiocgaekoeekgaaGreat.P
open Go.RowKit YtiocgaekoeekgaaGreatW.PrintWords YtiocgaekoeekgaaGreatW.PrintLast YtiocgaekoeekgaaGreatW.PrintMore
attribute [local go_sem] ub_ rb_ cc_ bc_ kb_ jb_ tb_ qb_   
set_option linter.unusedVariables false
set_option linter.unusedSimpArgs false
def okc (c : Int) : Bool := (decide (97 ≤ c) && decide (c ≤ 122)) || ((decide (48 ≤ c) && decide (c ≤ 57)) || decide (c = 45))
def pm_ (s : BA) : Nat → Nat → Bool
 | 0, _ => ib_ s.size 1 12
 | n + 1, i => if okc (bt s i) = true then pm_ s n (i + 1) else false
def idP (s : BA) : Bool := pm_ s s.size 0
theorem okc_true {c : Int} (h : okc c = true) : (97 ≤ c ∧ c ≤ 122) ∨ (48 ≤ c ∧ c ≤ 57) ∨ c = 45 := by
 unfold okc at h
 simpa using h
theorem uu_ {c : Int} (h : ¬ okc c = true) : ¬ ((97 ≤ c ∧ c ≤ 122) ∨ (48 ≤ c ∧ c ≤ 57) ∨ c = 45) := by
 unfold okc at h
 simpa using h
theorem id_some (s : BA) (hs : s.size ≤ 1000000000000) : ∀ n i : Nat, i + n = s.size → blob_id.l0 (n + 1) s (i : Int) = some (pm_ s n i) := by
 intro n
 induction n with
 | zero =>
  intro i hi; rw [blob_id.l0, if_neg Td_]; show (blob_within.f _ _ _).bind _ = _; rw [eh_]
  rfl
 | succ n ih =>
  intro i hi; have h1 : (i : Int) < (s.size : Int) := by omega
  have h2 : (0 : Int) ≤ (i : Int) := by omega
  have hw : wrap64 ((i : Int) + 1) = ((i + 1 : Nat) : Int) := by rw [wrap64]; omega
  have hr := ih (i + 1) Td_; rw [blob_id.l0, if_pos h1, if_pos h2, hw, hr, pm_]; generalize pm_ s n (i + 1) = X; generalize bt s (i : Int) = c
  by_cases ho : okc c = true
  ·rw [if_pos ho]
   have := okc_true ho
   repeat' split
   all_goals first | rfl | (exfalso; omega)
  rw [if_neg ho]; have := uu_ ho
  repeat' split
  all_goals first | rfl | (exfalso; omega)
theorem id_w (s : BA) (w : World) (hs : s.size ≤ 1000000000000) : Calls Tryz.prog 41 #[.string s] w fun e w' => e = .returned (.bool (idP s)) ∧ Below w.heap.size w w' :=
 Calls.mono (blob_id.calls (s.size + 1) s _ w (id_some s hs s.size 0 Td_)) Wi_
end Go.Proofs.YtiocgaekoeekgaaGreat.P
end
section
namespace Go.Proofs.YtiocgaekoeekgaaGreat.P
set_option linter.unusedVariables false
set_option linter.unusedSimpArgs false
open Go.RowKit Go.Shelf YtiocgaekoeekgaaGreatW.PrintWords YtiocgaekoeekgaaGreatW.PrintLast YtiocgaekoeekgaaGreatW.PrintMore
open Go.Maps (Keyed)
open Go.MapKept (Stamped)
section
variable {κ : Type} [DecidableEq κ]
def mget {ν : Type} : List (κ × ν) → κ → Option ν
 | [], _ => none
 | p :: m, k => if p.1 = k then some p.2 else mget m k
def mput {ν : Type} : List (κ × ν) → κ → ν → List (κ × ν)
 | [], k, v => [(k, v)]
 | p :: m, k, v => if p.1 = k then (k, v) :: m else p :: mput m k v
theorem wc_ {ν : Type} (k : κ) (v : ν) : ∀ m : List (κ × ν), mget (mput m k v) k = some v
 | [] => by simp [mput, mget]
 | p :: m => by
  unfold mput
  by_cases h : p.1 = k
  ·rw [if_pos h]; simp [mget]
  rw [if_neg h, mget, if_neg h]; exact wc_ k v m
theorem qd_ {ν : Type} (k : κ) (v : ν) (j : κ) (hj : j ≠ k) : ∀ m : List (κ × ν), mget (mput m k v) j = mget m j
 | [] => by simp [mput, mget, Ne.symm hj]
 | p :: m => by
  unfold mput
  by_cases h : p.1 = k
  ·rw [if_pos h]; simp [mget, h, Ne.symm hj]
  rw [if_neg h, mget, mget, qd_ k v j hj m]
theorem eo_ {ν : Type} (k : κ) (v : ν) : ∀ m : List (κ × ν), (mput m k v).map (·.1) = if k ∈ m.map (·.1) then m.map (·.1) else m.map (·.1) ++ [k]
 | [] => by simp [mput]
 | p :: m => by
  unfold mput
  by_cases h : p.1 = k
  ·rw [if_pos h]; simp [h]
  rw [if_neg h]; simp only [List.map_cons, List.mem_cons, eo_ k v m]; have h2 : ¬ k = p.1 := fun e => h e.symm
  by_cases h3 : k ∈ m.map (·.1)
  ·simp [h3]
  simp [h2, h3]
theorem el_ {ν : Type} (k : κ) : ∀ m : List (κ × ν), (mget m k).isSome = true ↔ k ∈ m.map (·.1)
 | [] => by simp [mget]
 | p :: m => by
  unfold mget
  by_cases h : p.1 = k
  ·rw [if_pos h]; simp [h]
  rw [if_neg h, el_ k m]; have h2 : ¬ k = p.1 := fun e => h e.symm
  simp [h2]
theorem rq_ {ν : Type} {k : κ} {v : ν} {m : List (κ × ν)} {p : κ × ν} (h : p ∈ mput m k v) : p = (k, v) ∨ p ∈ m := by
 induction m with
 | nil => simp [mput] at h; exact .inl h
 | cons q m ih =>
  unfold mput at h
  by_cases hq : q.1 = k
  ·rw [if_pos hq] at h
   rcases List.mem_cons.1 h with h | h
   ·exact .inl h
   exact .inr (List.mem_cons_of_mem _ h)
  rw [if_neg hq] at h
  rcases List.mem_cons.1 h with h | h
  ·exact .inr (h ▸ List.mem_cons_self)
  rcases ih h with h | h
  ·exact .inl h
  exact .inr (List.mem_cons_of_mem _ h)
omit [DecidableEq κ] in
theorem map_vals {ν μ : Type} (f : ν → μ) (m : List (κ × ν)) : (m.map fun p => (p.1, f p.2)).map (·.1) = m.map (·.1) := by
 rw [List.map_map]; rfl
theorem fm_ {ν μ : Type} (f : ν → μ) (k : κ) : ∀ m : List (κ × ν), mget (m.map fun p => (p.1, f p.2)) k = (mget m k).map f
 | [] => rfl
 | p :: m => by
  rw [List.map_cons, mget, mget]
  by_cases h : p.1 = k
  ·rw [if_pos h, if_pos h]; rfl
  rw [if_neg h, if_neg h, fm_ f k m]
theorem dm_ {ν μ : Type} (f : ν → μ) (k : κ) (v : ν) : ∀ m : List (κ × ν), mput (m.map fun p => (p.1, f p.2)) k (f v) = (mput m k v).map fun p => (p.1, f p.2)
 | [] => rfl
 | p :: m => by
  rw [List.map_cons, mput, mput]
  by_cases h : p.1 = k
  ·rw [if_pos h, if_pos h]; rfl
  rw [if_neg h, if_neg h, dm_ f k v m]; rfl
def MapOf (P : Program) (kt : TypeId) (enc : κ → Value) (w : World) (b : Nat) (m : List (κ × Value)) : Prop :=
 ∃ es clock, w.heap[b]? = some (.map es clock) ∧ es.toList.map (fun e => (e.key, e.val)) = m.map (fun p => (enc p.1, p.2)) ∧
  (∀ p ∈ m, ∃ l, keyOf P kt (enc p.1) = some l) ∧ Stamped es clock
variable {P : Program} {kt : TypeId} {enc : κ → Value} {w w1 : World} {b : Nat} {m : List (κ × Value)}
omit [DecidableEq κ] in
theorem MapOf.made (P : Program) (kt : TypeId) (enc : κ → Value) (w : World) : MapOf P kt enc (w.alloc (.map #[] 0)) w.heap.size [] :=
 ⟨#[], 0, (MapKept.heap_alloc w _).1, rfl, Tt_, MapKept.stamped_empty 0⟩
omit [DecidableEq κ] in
theorem MapOf.lt (h : MapOf P kt enc w b m) : b < w.heap.size := by
 obtain ⟨es, clock, hb, _⟩ := h
 exact (Array.getElem?_eq_some_iff.1 hb).1
omit [DecidableEq κ] in
theorem MapOf.same (h : MapOf P kt enc w b m) (hw : w1.heap[b]? = w.heap[b]?) : MapOf P kt enc w1 b m := by
 obtain ⟨es, clock, hb, r⟩ := h
 exact ⟨es, clock, hw.trans hb, r⟩
omit [DecidableEq κ] in
theorem MapOf.below (h : MapOf P kt enc w b m) (hb : Below w.heap.size w w1) : MapOf P kt enc w1 b m := h.same (hb.block b h.lt)
omit [DecidableEq κ] in
theorem MapOf.alloc (h : MapOf P kt enc w b m) (o : Obj) : MapOf P kt enc (w.alloc o) b m := h.below (aa_ (Below.refl _ _) o)
omit [DecidableEq κ] in
theorem MapOf.drewN (h : MapOf P kt enc w b m) (n : Nat) : MapOf P kt enc (w.drewN n) b m := h
omit [DecidableEq κ] in
theorem MapOf.drew (h : MapOf P kt enc w b m) : MapOf P kt enc w.drew b m := h
omit [DecidableEq κ] in
theorem MapOf.grown (h : MapOf P kt enc w b m) {row : Option Nat} (hg : w.grownBy w1 row) (hne : some b ≠ row) : MapOf P kt enc w1 b m := h.same (hg.block b h.lt hne)
omit [DecidableEq κ] in
theorem MapOf.setCell (h : MapOf P kt enc w b m) (p : Addr) (hp : b ≠ p.block) (u : Value) : MapOf P kt enc (w.setCell p u) b m := h.same (Below.heap_setCell w p u b hp)
omit [DecidableEq κ] in
theorem MapOf.not_cells (h : MapOf P kt enc w b m) {g : Nat} {cs : Array Value} {t : TypeId} {z : Nat × Nat} (hg : w.heap[g]? = some (.cells cs t z)) : b ≠ g := by
 obtain ⟨es, clock, h1, _⟩ := h
 intro e
 rw [e, hg] at h1
 cases h1
omit [DecidableEq κ] in
theorem MapOf.nodup (h : MapOf P kt enc w b m) : (m.map (·.1)).Nodup := by
 obtain ⟨es, clock, _, he, _, hs⟩ := h
 have hp := ((MapKept.stamped_iff es clock).1 hs).2.2
 have h1 : es.toList.map (fun e => e.key) = m.map (fun p => enc p.1) := by
  have := congrArg (List.map (·.1)) he
  simpa [List.map_map, Function.comp_def] using this
 have h2 : (es.toList.map (fun e => e.key)).Pairwise (· ≠ ·) := List.pairwise_map.2 hp
 rw [h1] at h2
 rw [List.Nodup, List.pairwise_map]
 have h3 := List.pairwise_map.1 h2
 exact h3.imp (fun hne e => hne (by rw [e]))
theorem MapOf.find_cases (K : Keyed P kt) (hinj : ∀ x y, enc x = enc y → x = y) {es : Array MapEntry} (he : es.toList.map (fun e => (e.key, e.val)) = m.map (fun p => (enc p.1, p.2)))
  (hks : ∀ p ∈ m, ∃ l, keyOf P kt (enc p.1) = some l) (w : World) (k : κ) (hk : ∃ l, keyOf P kt (enc k) = some l) (hnd : (m.map (·.1)).Nodup) :
  ((Instr.findKey kt (enc k) es.toList).run P w = .ok none w ∧ (∀ e ∈ es.toList, e.key ≠ enc k) ∧ mget m k = none ∧ ∀ v, mput m k v = m ++ [(k, v)]) ∨
  ∃ j e, (Instr.findKey kt (enc k) es.toList).run P w = .ok (some (j, e.val)) w ∧ es.toList[j]? = some e ∧ e.key = enc k ∧ mget m k = some e.val ∧
   ∀ v, ∃ _ : j < m.length, mput m k v = m.set j (k, v) := by
 obtain ⟨l, hl⟩ := hk
 have hkeys : ∀ e ∈ es.toList, ∃ l, keyOf P kt e.key = some l := by
  intro e hem; have : (e.key, e.val) ∈ m.map (fun p => (enc p.1, p.2)) := by rw [← he]; exact List.mem_map.2 ⟨e, hem, rfl⟩
  obtain ⟨p, hp, hpe⟩ := List.mem_map.1 this; obtain ⟨l', hl'⟩ := hks p hp; exact ⟨l', by rw [← (Prod.mk.inj hpe).1]; exact hl'⟩
 rcases K.find w hl es.toList hkeys with ⟨h1, h2⟩ | ⟨j, e, h1, h2, h3⟩
 ·refine .inl ⟨h1, h2, ?_⟩
  have hno : ∀ p ∈ m, p.1 ≠ k := by
   intro p hp hpk; have : (enc p.1, p.2) ∈ es.toList.map (fun e => (e.key, e.val)) := by rw [he]; exact List.mem_map.2 ⟨p, hp, rfl⟩
   obtain ⟨e, hem, hee⟩ := List.mem_map.1 this; exact h2 e hem (by rw [(Prod.mk.inj hee).1, hpk])
  clear he hks hnd
  induction m with
  | nil => exact ⟨rfl, fun _ => rfl⟩
  | cons p m ih =>
   have hp := hno p List.mem_cons_self; obtain ⟨i1, i2⟩ := ih (fun q hq => hno q (List.mem_cons_of_mem _ hq)); exact ⟨by rw [mget, if_neg hp]; exact i1, fun v => by rw [mput, if_neg hp, i2]; rfl⟩
 refine .inr ⟨j, e, h1, h2, h3, ?_⟩
 have hm : m[j]? = some (k, e.val) := by
  have : (m.map (fun p => (enc p.1, p.2)))[j]? = some (e.key, e.val) := by rw [← he, List.getElem?_map, h2]; rfl
  rw [List.getElem?_map] at this; obtain ⟨p, hp, hpe⟩ := Option.map_eq_some_iff.1 this; obtain ⟨q1, q2⟩ := Prod.mk.inj hpe; rw [hp, ← q2, ← hinj p.1 k (by rw [q1, h3])]
 clear he hks h1 h2 h3
 induction m generalizing j with
 | nil => simp at hm
 | cons p m ih =>
  rw [List.map_cons, List.nodup_cons] at hnd
  cases j with
  | zero =>
   rw [List.getElem?_cons_zero] at hm; obtain rfl := Option.some.inj hm
   exact ⟨by simp [mget], fun v => ⟨Tt_, by simp [mput]⟩⟩
  | succ j =>
   rw [List.getElem?_cons_succ] at hm; have hp : p.1 ≠ k := fun e2 => hnd.1 (by rw [e2]; exact List.mem_map.2 ⟨_, List.mem_of_getElem? hm, rfl⟩)
   obtain ⟨i1, i2⟩ := ih hnd.2 j hm; refine ⟨by rw [mget, if_neg hp]; exact i1, fun v => ?_⟩; obtain ⟨hj, i3⟩ := i2 v; exact ⟨Wo_, by rw [mput, if_neg hp, i3]; rfl⟩
theorem MapOf.lookup {t e : TypeId} (h : MapOf P kt enc w b m) (K : Keyed P kt) (hinj : ∀ x y, enc x = enc y → x = y) (ht : P.underlying t = some (.map kt e)) {z : Value} (hz : (zeroValue e).run P w = .ok z w)
  (k : κ) (hk : ∃ l, keyOf P kt (enc k) = some l) (c : Bool) :
  (Instr.lookup t (.map (some b)) (enc k) c).run P w = .ok (if c then .tuple #[(mget m k).getD z, .bool (mget m k).isSome] else (mget m k).getD z) w := by
 have hnd := h.nodup
 obtain ⟨es, clock, hb, he, hks, hs⟩ := h
 obtain ⟨l, hl⟩ := hk
 rcases MapOf.find_cases K hinj he hks w k ⟨l, hl⟩ hnd with ⟨h1, _, h3, _⟩ | ⟨j, e0, h1, _, _, h4, _⟩
 ·rw [h3]; simp [Instr.lookup, run_underlying ht, MapKept.run_getObj_map hb, K.check w _ hl, h1, hz, Result.andThen]
 rw [h4]; simp [Instr.lookup, run_underlying ht, MapKept.run_getObj_map hb, K.check w _ hl, h1, Result.andThen]
omit [DecidableEq κ] in
theorem yf_ (w : World) {b : Nat} {o o' : Obj} (hb : w.heap[b]? = some o) : w.grownBy { w with heap := w.heap.setIfInBounds b o' } (some b) :=
 ⟨rfl, rfl, rfl, Tt_, fun k _ hne => (MapKept.heap_set hb).2 k (fun e => hne (by rw [e]))⟩
omit [DecidableEq κ] in
theorem we_ {es : Array MapEntry} {j : Nat} {k : κ} {v : Value} (he : es.toList.map (fun e => (e.key, e.val)) = m.map (fun p => (enc p.1, p.2))) (f : MapEntry → MapEntry) (hf : ∀ e, es.toList[j]? = some e → (f e).key = enc k ∧ (f e).val = v) :
  (es.modify j f).toList.map (fun e => (e.key, e.val)) = (m.set j (k, v)).map (fun p => (enc p.1, p.2)) := by
 rw [List.map_set, ← he, Array.toList_modify]
 apply List.ext_getElem?
 intro i
 rw [List.getElem?_map, List.getElem?_modify, List.getElem?_set, List.getElem?_map, List.length_map]
 by_cases hij : j = i
 ·subst hij
  rw [if_pos rfl]
  cases hes : es.toList[j]? with
  | none =>
   have : ¬ j < es.toList.length := fun hl => by rw [List.getElem?_eq_getElem hl] at hes; cases hes
   rw [if_neg this]; rfl
  | some e =>
   have hl := (List.getElem?_eq_some_iff.1 hes).1; rw [if_pos hl]; simp [hf e hes]
 rw [if_neg hij]
 cases es.toList[i]? <;> simp [hij]
theorem MapOf.update {t e : TypeId} (h : MapOf P kt enc w b m) (K : Keyed P kt) (hinj : ∀ x y, enc x = enc y → x = y) (ht : P.underlying t = some (.map kt e)) (k : κ) (hk : ∃ l, keyOf P kt (enc k) = some l) (v : Value) :
  ∃ w', (Instr.mapUpdate t (.map (some b)) (enc k) v).run P w = .ok () w' ∧ MapOf P kt enc w' b (mput m k v) ∧ w.grownBy w' (some b) ∧ w'.heap.size = w.heap.size := by
 have hnd := h.nodup
 obtain ⟨es, clock, hb, he, hks, hs⟩ := h
 obtain ⟨l, hl⟩ := hk
 have hks' : ∀ p ∈ mput m k v, ∃ l, keyOf P kt (enc p.1) = some l := by
  intro p hp
  rcases rq_ hp with rfl | hp
  ·exact ⟨l, hl⟩
  exact hks p hp
 rcases MapOf.find_cases K hinj he hks w k ⟨l, hl⟩ hnd with ⟨h1, h2, _, h4⟩ | ⟨j, e0, h1, h2, h3, _, h5⟩
 ·refine ⟨{ w with heap := w.heap.setIfInBounds b (.map (es.push ⟨enc k, v, clock⟩) (clock + 1)) }, ?_, ⟨es.push ⟨enc k, v, clock⟩, clock + 1, (MapKept.heap_set hb).1, ?_, hks', MapKept.stamped_push hs h2⟩, yf_ w hb, Tt_⟩
  ·simp [Instr.mapUpdate, run_underlying ht, MapKept.run_getObj_map hb, K.check w false hl, h1, MapKept.run_setObj_map _ hb, Result.andThen]
  rw [h4, Array.toList_push, List.map_append, List.map_append, he]; rfl
 have hj2 : es[j]? = some e0 := by simpa using h2
 obtain ⟨hj, h6⟩ := h5 v
 refine ⟨{ w with heap := w.heap.setIfInBounds b (.map (es.modify j fun e => { e with key := enc k, val := v }) clock) }, ?_, ⟨es.modify j fun e => { e with key := enc k, val := v }, clock, (MapKept.heap_set hb).1, ?_, hks', ?_⟩, yf_ w hb, Tt_⟩
 ·simp [Instr.mapUpdate, run_underlying ht, MapKept.run_getObj_map hb, K.check w false hl, h1, hj2, h3, K.stays w hl, MapKept.run_setObj_map _ hb, Result.andThen]
 ·rw [h6]; exact we_ he _ (fun e _ => ⟨rfl, rfl⟩)
 exact MapKept.stamped_modify hs _ _ (fun _ _ => rfl) (fun e' _ he' => by rw [hj2] at he'; cases he'; exact h3.symm)
omit [DecidableEq κ] in
theorem yi_ {α : Type} (xs : Array α) (p : α → Bool) : xs.findIdx? p = xs.toList.findIdx? p := by
 cases xs with | mk l => exact List.findIdx?_toArray p l
theorem MapOf.entry {t e : TypeId} (h : MapOf P kt enc w b m) (K : Keyed P kt) (hinj : ∀ x y, enc x = enc y → x = y) (ht : P.underlying t = some (.map kt e)) {z : Value} (hz : ∀ w, (zeroValue e).run P w = .ok z w) (k : κ) (hk : ∃ l, keyOf P kt (enc k) = some l) :
  ∃ w1 n, (Instr.mapEntry t (.map (some b)) (enc k)).run P w = .ok (.tuple #[(mget m k).getD z, .int .i64 n]) w1 ∧ w.grownBy w1 (some b) ∧ w1.heap.size = w.heap.size ∧ (∃ m1, MapOf P kt enc w1 b m1 ∧ mget m1 k = some ((mget m k).getD z)) ∧
   ∀ v, ∃ w2, (Instr.entryStore t (.map (some b)) (.int .i64 n) v).run P w1 = .ok () w2 ∧ MapOf P kt enc w2 b (mput m k v) ∧ w.grownBy w2 (some b) ∧ w2.heap.size = w.heap.size := by
 have hnd := h.nodup
 obtain ⟨es, clock, hb, he, hks, hs⟩ := h
 obtain ⟨l, hl⟩ := hk
 have hks' : ∀ v, ∀ p ∈ mput m k v, ∃ l, keyOf P kt (enc p.1) = some l := by
  intro v p hp
  rcases rq_ hp with rfl | hp
  ·exact ⟨l, hl⟩
  exact hks p hp
 have hst := (MapKept.stamped_iff es clock).1 hs
 rcases MapOf.find_cases K hinj he hks w k ⟨l, hl⟩ hnd with ⟨h1, h2, h3, h4⟩ | ⟨j, e0, h1, h2, h3, h4, h5⟩
 ·have hb1 : ({ w with heap := w.heap.setIfInBounds b (.map (es.push ⟨enc k, z, clock⟩) (clock + 1)) } : World).heap[b]? = some (.map (es.push ⟨enc k, z, clock⟩) (clock + 1)) := (MapKept.heap_set hb).1
  have hf : (es.push ⟨enc k, z, clock⟩).findIdx? (fun e => (e.born : Int) == (clock : Int)) = some es.size := by
   rw [yi_, List.findIdx?_eq_some_iff_getElem]; refine ⟨Tt_, Tt_, fun i hi => ?_⟩; have hi' : i < es.toList.length := by simpa using hi
   have e1 : (es.push ⟨enc k, z, clock⟩).toList[i]'Wo_ = es.toList[i] := by simp [Array.toList_push, List.getElem_append_left hi']
   rw [e1]; have h9 := hst.1 _ (List.getElem_mem hi'); intro hc; have h10 : (es.toList[i].born : Int) = clock := beq_iff_eq.1 hc; omega
  refine ⟨{ w with heap := w.heap.setIfInBounds b (.map (es.push ⟨enc k, z, clock⟩) (clock + 1)) }, (clock : Int), ?_, yf_ w hb, Tt_, ⟨mput m k z, ⟨es.push ⟨enc k, z, clock⟩, clock + 1, hb1, by rw [h4, Array.toList_push, List.map_append, List.map_append, he]; rfl, hks' z, MapKept.stamped_push hs h2⟩, by rw [wc_, h3]; rfl⟩, fun v => ⟨{ w with heap := w.heap.setIfInBounds b (.map ((es.push ⟨enc k, z, clock⟩).modify es.size fun e => { e with val := v }) (clock + 1)) }, ?_, ⟨(es.push ⟨enc k, z, clock⟩).modify es.size fun e => { e with val := v }, clock + 1, (MapKept.heap_set hb).1, ?_, hks' v, ?_⟩, yf_ w hb, Tt_⟩⟩
  ·rw [h3]; simp [Instr.mapEntry, run_underlying ht, MapKept.run_getObj_map hb, K.check w false hl, h1, MapKept.run_setObj_map _ hb, Result.andThen, hz, goInt]
  ·simp only [Instr.entryStore]
   simp [MapKept.run_getObj_map hb1, asInt, asIntOf, hf, MapKept.run_setObj_map _ hb1, Result.andThen]
  ·have hpush : (es.push ⟨enc k, z, clock⟩).toList.map (fun e => (e.key, e.val)) = (m ++ [(k, z)]).map (fun p => (enc p.1, p.2)) := by rw [Array.toList_push, List.map_append, List.map_append, he]; rfl
   have hlen : es.size = m.length := by have := congrArg List.length he; simpa using this
   rw [h4, we_ (k := k) (v := v) hpush _ (fun e he2 => ?_)]
   ·rw [hlen]; simp
   have : e = ⟨enc k, z, clock⟩ := by
    rw [Array.toList_push, List.getElem?_append_right Tt_] at he2
    simpa using he2.symm
   subst this; exact ⟨rfl, rfl⟩
  exact MapKept.stamped_modify (MapKept.stamped_push hs h2) _ _ (fun _ _ => rfl) (fun _ _ _ => rfl)
 have hj2 : es[j]? = some e0 := by simpa using h2
 obtain ⟨hj, _⟩ := h5 z
 have hjs : j < es.size := (Array.getElem?_eq_some_iff.1 hj2).1
 have hb1 : ({ w with heap := w.heap.setIfInBounds b (.map (es.modify j fun e => { e with key := enc k }) clock) } : World).heap[b]? = some (.map (es.modify j fun e => { e with key := enc k }) clock) := (MapKept.heap_set hb).1
 have hs1 : Stamped (es.modify j fun e => { e with key := enc k }) clock := MapKept.stamped_modify hs _ _ (fun _ _ => rfl) (fun e' _ he' => by rw [hj2] at he'; cases he'; exact h3.symm)
 have hf : (es.modify j fun e => { e with key := enc k }).findIdx? (fun e => (e.born : Int) == (e0.born : Int)) = some j := by
  rw [yi_, List.findIdx?_eq_some_iff_getElem]; have hn := hst.2.1
  have g : ∀ i (hi : i < es.toList.length), ((es.modify j fun e => { e with key := enc k }).toList[i]'(by simpa using hi)).born = es.toList[i].born := by
   intro i hi; simp only [Array.toList_modify, List.getElem_modify]
   split <;> rfl
  refine ⟨by simpa using hjs, by rw [g j (by simpa using hjs)]; simp [(Array.getElem?_eq_some_iff.1 hj2).2], fun i hi => ?_⟩; have hi' : i < es.toList.length := by simp; omega
  rw [g i hi']; intro hc; have h6 : es.toList[i].born = e0.born := by have := beq_iff_eq.1 hc; omega
  have h7 : es.toList[j]'(by simpa using hjs) = e0 := by simp [(Array.getElem?_eq_some_iff.1 hj2).2]
  have h8 : (es.toList.map (·.born))[i]'(by simpa using hi') = (es.toList.map (·.born))[j]'(by simpa using hjs) := by simp only [List.getElem_map, h6, h7]
  have := (List.getElem_inj hn).1 h8; omega
 refine ⟨{ w with heap := w.heap.setIfInBounds b (.map (es.modify j fun e => { e with key := enc k }) clock) }, (e0.born : Int), ?_, yf_ w hb, Tt_, ⟨mput m k e0.val, ⟨es.modify j fun e => { e with key := enc k }, clock, hb1, by obtain ⟨_, h6⟩ := h5 e0.val; rw [h6]; exact we_ he _ (fun e he2 => by rw [h2] at he2; cases he2; exact ⟨rfl, rfl⟩), hks' _, hs1⟩, by rw [wc_, h4]; rfl⟩, fun v => ⟨{ w with heap := w.heap.setIfInBounds b (.map ((es.modify j fun e => { e with key := enc k }).modify j fun e => { e with val := v }) clock) }, ?_, ⟨(es.modify j fun e => { e with key := enc k }).modify j fun e => { e with val := v }, clock, (MapKept.heap_set hb).1, ?_, hks' v, ?_⟩, yf_ w hb, Tt_⟩⟩
 ·rw [h4]; simp [Instr.mapEntry, run_underlying ht, MapKept.run_getObj_map hb, K.check w false hl, h1, hj2, h3, K.stays w hl, MapKept.run_setObj_map _ hb, Result.andThen, goInt]
 ·simp only [Instr.entryStore]
  simp [MapKept.run_getObj_map hb1, asInt, asIntOf, hf, MapKept.run_setObj_map _ hb1, Result.andThen]
 ·obtain ⟨_, h6⟩ := h5 v
  have h7 := we_ (k := k) (v := e0.val) he (fun e => { e with key := enc k }) (j := j) (fun e he2 => by rw [h2] at he2; cases he2; exact ⟨rfl, rfl⟩); rw [h6, we_ (k := k) (v := v) h7 _ (fun e he2 => ?_)]
  ·simp
  rw [Array.toList_modify, List.getElem?_modify, h2] at he2; simp at he2; subst he2; exact ⟨rfl, rfl⟩
 exact MapKept.stamped_modify hs1 _ _ (fun _ _ => rfl) (fun _ _ _ => rfl)
variable {ops : Array Oper} {rest : List Oper} {o : Oper} {a : Act} {Q : Exit → Act → World → Prop}
theorem dd_ (hg : o.guard = none) (mO x : Operand) (t e : TypeId) (hop : o.op = Op.lookup t mO x false) (K : Keyed P kt) (hinj : ∀ x y, enc x = enc y → x = y) (ht : P.underlying t = some (.map kt e)) {z : Value} (hz : ∀ w, (zeroValue e).run P w = .ok z w)
  (hm : a.eval mO = .map (some b)) (h : MapOf P kt enc w b m) (k : κ) (hx : a.eval x = enc k) (hk : ∃ l, keyOf P kt (enc k) = some l) (v : Value) (hv : (mget m k).getD z = v) (hK : wpList P ops Q rest (a.put o.dst v) w) :
  wpList P ops Q (o :: rest) a w := by
 refine wpList_plain hg fun K' hK' => ?_
 have hrun := h.lookup K hinj ht (hz w) k hk false
 unfold Oper.wp
 simp [execOp, hop, hm, hx, hrun, Result.andThen]
 exact hK' _ _ (by rw [hv]; exact hK)
theorem kg_ (hg : o.guard = none) (mO x v : Operand) (t e : TypeId) (hop : o.op = Op.mapUpdate t mO x v) (K : Keyed P kt) (hinj : ∀ x y, enc x = enc y → x = y) (ht : P.underlying t = some (.map kt e))
  (hm : a.eval mO = .map (some b)) (h : MapOf P kt enc w b m) (k : κ) (hx : a.eval x = enc k) (hk : ∃ l, keyOf P kt (enc k) = some l) (val : Value) (hv : a.eval v = val)
  (hK : ∀ w', MapOf P kt enc w' b (mput m k val) → w.grownBy w' (some b) → w'.heap.size = w.heap.size → wpList P ops Q rest (a.put o.dst undef) w') :
  wpList P ops Q (o :: rest) a w := by
 refine wpList_plain hg fun K' hK' => ?_
 obtain ⟨w', hrun, r1, r2, r3⟩ := h.update K hinj ht k hk val
 unfold Oper.wp
 simp [execOp, hop, hm, hx, hv, hrun, Result.andThen]
 exact hK' _ _ (hK w' r1 r2 r3)
end
end Go.Proofs.YtiocgaekoeekgaaGreat.P
end
section
namespace Go.Proofs
open Go.Shelf
def Tryz.keysA_ren : Go.Shelf.Ren := ⟨fun | 7 => 141 | 10 => 157 | n => n, fun | 23 => 181 | 26 => 3 | 3 => 3 | 28 => 184 | 0 => 0 | 27 => 183 | 33 => 142 | 4 => 4 | n => n, fun | n => n⟩
theorem Tryz.keysA : Go.Proofs.SlLaysZI.n7 Tryz.prog Tryz.keysA_ren := {
 mixed := by kernel_rfl
 f7 := ⟨Tryz.f141.name, Tm_, Tryz.func141.trans (congrArg some Ti_)⟩
 f10 := ⟨Tryz.f157.name, Tm_, Tryz.func157.trans (congrArg some Ti_)⟩
 t0 := Tryz.underlying0
 a0 := Tryz.isAgg0
 z0 := Tryz.sizeOf0
 v0 := Tryz.zeroValue0
 t4 := Tryz.underlying4
 a4 := Tryz.isAgg4
 z4 := Tryz.sizeOf4
 v4 := Tryz.zeroValue4
 t23 := Tryz.underlying181
 a23 := Tryz.isAgg181
 z23 := Tryz.sizeOf181
 v23 := Tryz.zeroValue181
 t26 := Tryz.underlying3
 a26 := Tryz.isAgg3
 z26 := Tryz.sizeOf3
 v26 := Tryz.zeroValue3
 t27 := Tryz.underlying183
 a27 := Tryz.isAgg183
 z27 := Tryz.sizeOf183
 v27 := Tryz.zeroValue183
 t28 := Tryz.underlying184
 a28 := Tryz.isAgg184
 z28 := Tryz.sizeOf184
 v28 := Tryz.zeroValue184
 t33 := Tryz.underlying142
 a33 := Tryz.isAgg142
 z33 := Tryz.sizeOf142
 v33 := Tryz.zeroValue142 }
def Tryz.sortedA_ren : Go.Shelf.Ren := ⟨fun | 6 => 140 | 8 => 155 | 9 => 156 | 11 => 159 | 13 => 161 | 12 => 160 | 23 => 171 | 24 => 172 | 14 => 162 | 15 => 163 | 16 => 164 | 17 => 165 | 18 => 166 | 19 => 167 | 20 => 168 | 21 => 169 | 22 => 170 | 25 => 173 | 26 => 174 | 27 => 175 | 28 => 176 | 29 => 177 | 30 => 178 | 31 => 179 | n => n, fun | 26 => 3 | 28 => 184 | 24 => 35 | 0 => 0 | 3 => 3 | 37 => 150 | 48 => 188 | 50 => 209 | 4 => 4 | 40 => 202 | 39 => 201 | 45 => 195 | 5 => 5 | 9 => 9 | 51 => 210 | 55 => 214 | 57 => 216 | 58 => 160 | 33 => 142 | n => n, fun | n => n⟩
theorem Tryz.sortedA : Go.Proofs.SlLaysZI.n6 Tryz.prog Tryz.sortedA_ren := {
 mixed := by kernel_rfl
 f6 := ⟨Tryz.f140.name, Tm_, Tryz.func140.trans (congrArg some Ti_)⟩
 f8 := ⟨Tryz.f155.name, Tm_, Tryz.func155.trans (congrArg some Ti_)⟩
 f11 := ⟨Tryz.f159.name, Tm_, Tryz.func159.trans (congrArg some Ti_)⟩
 t0 := Tryz.underlying0
 a0 := Tryz.isAgg0
 z0 := Tryz.sizeOf0
 v0 := Tryz.zeroValue0
 t24 := Tryz.underlying35
 a24 := Tryz.isAgg35
 z24 := Tryz.sizeOf35
 v24 := Tryz.zeroValue35
 t26 := Tryz.underlying3
 a26 := Tryz.isAgg3
 z26 := Tryz.sizeOf3
 v26 := Tryz.zeroValue3
 t28 := Tryz.underlying184
 a28 := Tryz.isAgg184
 z28 := Tryz.sizeOf184
 v28 := Tryz.zeroValue184
 i26 := by kernel_rfl }
def Tryz.sortA_ren : Go.Shelf.Ren := ⟨fun | 5 => 156 | 8 => 161 | 7 => 160 | 19 => 171 | 20 => 172 | 10 => 162 | 11 => 163 | 12 => 164 | 13 => 165 | 14 => 166 | 15 => 167 | 16 => 168 | 17 => 169 | 18 => 170 | 30 => 173 | 31 => 174 | 32 => 175 | 33 => 176 | 34 => 177 | 35 => 178 | 40 => 179 | n => n, fun | 23 => 35 | 25 => 3 | 3 => 3 | 32 => 150 | 22 => 35 | 0 => 0 | 44 => 188 | 46 => 209 | 4 => 4 | 36 => 202 | 35 => 201 | 41 => 195 | 5 => 5 | 9 => 9 | 53 => 210 | 57 => 214 | 63 => 216 | 64 => 160 | n => n, fun | n => n⟩
theorem Tryz.sortA : Go.Proofs.SlLaysM.n5 Tryz.prog Tryz.sortA_ren := {
 mixed := by kernel_rfl
 f5 := ⟨Tryz.f156.name, Tm_, Tryz.func156.trans (congrArg some Ti_)⟩
 f7 := ⟨Tryz.f160.name, Tm_, Tryz.func160.trans (congrArg some Ti_)⟩
 f8 := Tryz.func161.trans (congrArg some Ti_)
 f10 := ⟨Tryz.f162.name, Tm_, Tryz.func162.trans (congrArg some Ti_)⟩
 f11 := ⟨Tryz.f163.name, Tm_, Tryz.func163.trans (congrArg some Ti_)⟩
 f12 := ⟨Tryz.f164.name, Tm_, Tryz.func164.trans (congrArg some Ti_)⟩
 f13 := ⟨Tryz.f165.name, Tm_, Tryz.func165.trans (congrArg some Ti_)⟩
 f14 := ⟨Tryz.f166.name, Tm_, Tryz.func166.trans (congrArg some Ti_)⟩
 f15 := ⟨Tryz.f167.name, Tm_, Tryz.func167.trans (congrArg some Ti_)⟩
 f16 := ⟨Tryz.f168.name, Tm_, Tryz.func168.trans (congrArg some Ti_)⟩
 f17 := ⟨Tryz.f169.name, Tm_, Tryz.func169.trans (congrArg some Ti_)⟩
 f18 := ⟨Tryz.f170.name, Tm_, Tryz.func170.trans (congrArg some Ti_)⟩
 f19 := Tryz.func171.trans (congrArg some Ti_)
 f20 := Tryz.func172.trans (congrArg some Ti_)
 f30 := ⟨Tryz.f173.name, Tm_, Tryz.func173.trans (congrArg some Ti_)⟩
 f31 := Tryz.func174.trans (congrArg some Ti_)
 f32 := Tryz.func175.trans (congrArg some Ti_)
 f33 := ⟨Tryz.f176.name, Tm_, Tryz.func176.trans (congrArg some Ti_)⟩
 f34 := ⟨Tryz.f177.name, Tm_, Tryz.func177.trans (congrArg some Ti_)⟩
 f35 := ⟨Tryz.f178.name, Tm_, Tryz.func178.trans (congrArg some Ti_)⟩
 f40 := ⟨Tryz.f179.name, Tm_, Tryz.func179.trans (congrArg some Ti_)⟩
 t0 := Tryz.underlying0
 a0 := Tryz.isAgg0
 z0 := Tryz.sizeOf0
 v0 := Tryz.zeroValue0
 t3 := Tryz.underlying3
 a3 := Tryz.isAgg3
 z3 := Tryz.sizeOf3
 v3 := Tryz.zeroValue3
 t4 := Tryz.underlying4
 a4 := Tryz.isAgg4
 z4 := Tryz.sizeOf4
 v4 := Tryz.zeroValue4
 t5 := Tryz.underlying5
 a5 := Tryz.isAgg5
 z5 := Tryz.sizeOf5
 v5 := Tryz.zeroValue5
 t9 := Tryz.underlying9
 a9 := Tryz.isAgg9
 z9 := Tryz.sizeOf9
 v9 := Tryz.zeroValue9
 t22 := Tryz.underlying35
 a22 := Tryz.isAgg35
 z22 := Tryz.sizeOf35
 v22 := Tryz.zeroValue35
 t23 := Tryz.underlying35
 a23 := Tryz.isAgg35
 z23 := Tryz.sizeOf35
 v23 := Tryz.zeroValue35
 t25 := Tryz.underlying3
 a25 := Tryz.isAgg3
 z25 := Tryz.sizeOf3
 v25 := Tryz.zeroValue3
 t32 := Tryz.underlying150
 a32 := Tryz.isAgg150
 z32 := Tryz.sizeOf150
 v32 := Tryz.zeroValue150
 t35 := Tryz.underlying201
 a35 := Tryz.isAgg201
 z35 := Tryz.sizeOf201
 v35 := Tryz.zeroValue201
 t36 := Tryz.underlying202
 a36 := Tryz.isAgg202
 z36 := Tryz.sizeOf202
 v36 := Tryz.zeroValue202
 t41 := Tryz.underlying195
 a41 := Tryz.isAgg195
 z41 := Tryz.sizeOf195
 v41 := Tryz.zeroValue195
 t44 := Tryz.underlying188
 a44 := Tryz.isAgg188
 z44 := Tryz.sizeOf188
 v44 := Tryz.zeroValue188
 t46 := Tryz.underlying209
 a46 := Tryz.isAgg209
 z46 := Tryz.sizeOf209
 v46 := Tryz.zeroValue209
 t53 := Tryz.underlying210
 a53 := Tryz.isAgg210
 z53 := Tryz.sizeOf210
 v53 := Tryz.zeroValue210
 t57 := Tryz.underlying214
 a57 := Tryz.isAgg214
 z57 := Tryz.sizeOf214
 v57 := Tryz.zeroValue214
 t63 := Tryz.underlying216
 a63 := Tryz.isAgg216
 z63 := Tryz.sizeOf216
 v63 := Tryz.zeroValue216
 t64 := Tryz.underlying160
 a64 := Tryz.isAgg160
 z64 := Tryz.sizeOf160
 v64 := Tryz.zeroValue160 }
end Go.Proofs
end
section
namespace Go.Proofs.YtiocgaekoeekgaaGreat.P
open Go.RowKit YtiocgaekoeekgaaGreatW.PrintWords YtiocgaekoeekgaaGreatW.PrintLast YtiocgaekoeekgaaGreatW.PrintMore
attribute [local go_sem] ub_ rb_ cc_ bc_ kb_ jb_ tb_ qb_   
set_option linter.unusedVariables false
set_option linter.unusedSimpArgs false
open Go.Maps (Keyed)
open Go.WideElems (Fit rd rg rg_of)
def pi_ (l : List Int) : List Int := l.mergeSort leI
theorem us_ (b : Nat) (W : World) : Calls Tryz.prog 141 #[.map (some b)] W fun e w' => e = .returned (.func (.func 157) #[] #[.pointer (some ⟨W.heap.size, 0, none⟩)]) ∧ w' = W.alloc (.cells #[.map (some b)] 181) :=
 (callsIn_wide (n := 5)).1 (AnyZI.keys_in Tryz.keysA Fence.wide 5 trivial rfl (some b) W)
theorem sortsA (m : Nat) : AnyZI.SortsIn Tryz.prog Tryz.sortedA_ren Fence.wide m :=
 ⟨fun blk off cap ss W hH hblk hsz => callsIn_wide.2 (AnyM.slices_Sort_int Tryz.sortA blk off cap ss W hH hblk hsz),
  fun p cap W => callsIn_wide.2 (AnyM.slices_Sort_int_none Tryz.sortA p cap W)⟩
theorem cs_ {P : Program} {kt : TypeId} {w : World} {b : Nat} {m : List (Int × Value)} (hkt : P.underlying kt = some (.int .i64)) (h : MapOf P kt (Value.int .i64) w b m) (hlen : m.length ≤ maxLen) :
  ∃ D0 : DataW Unit, w.ownsMap P kt (fun _ => some (DataW.nil, [])) b m.length D0 ∧ (Go.intKeys D0).Perm (m.map (·.1)) ∧ Maps.size D0 = m.length := by
 obtain ⟨es, clock, hb, he, hk, hs⟩ := h
 have hl : es.size = m.length := by have := congrArg List.length he; simpa using this
 have hkey : ∀ x ∈ es.toList, ∃ a, x.key = .int .i64 a ∧ keyOf P kt x.key = some (.int .i64 a) := by
  intro x hx; have : (x.key, x.val) ∈ m.map (fun p => (Value.int .i64 p.1, p.2)) := by rw [← he]; exact List.mem_map.2 ⟨x, hx, rfl⟩
  obtain ⟨p, hp, hpe⟩ := List.mem_map.1 this; obtain ⟨l, hl⟩ := hk p hp; obtain ⟨a, ha, rfl, _⟩ := Maps.keyOf_i64 hkt hl; have h1 := (Prod.mk.inj hpe).1; exact ⟨p.1, h1.symm, by rw [← h1, hl, Go.encZ_inj ha]⟩
 have hrd : ∀ x ∈ es.toList, ∃ y, rd P kt (fun _ => some ((DataW.nil : DataW Unit), [])) x = some y := by
  intro x hx; obtain ⟨a, _, h2⟩ := hkey x hx; exact ⟨_, Go.WideElems.rd_mk h2 rfl⟩
 refine ⟨.map ((es.toList.map (rg P kt (fun _ => some (DataW.nil, [])))).foldr DataW.insert []), ⟨es, clock, hb, ⟨Td_, hs, hrd⟩, Td_, rfl⟩, ?_, ?_⟩
 ·have hp := Go.WideShapes.sorted_perm (es.toList.map (rg P kt (fun _ => some ((DataW.nil : DataW Unit), []))))
  refine ((hp.map fun p => Go.intOf p.1)).trans (.of_eq ?_); rw [List.map_map]
  have h2 : m.map (·.1) = es.toList.map (fun x => match x.key with | .int _ a => a | _ => 0) := by
   have := congrArg (List.map (fun q : Value × Value => match q.1 with | .int _ a => a | _ => 0)) he; rw [List.map_map, List.map_map] at this; exact (this.trans Vh_).symm
  rw [h2]; refine List.map_congr_left fun x hx => ?_
  obtain ⟨a, h3, h4⟩ := hkey x hx; show Go.intOf (rg P kt _ x).1 = _; rw [rg_of (Go.WideElems.rd_mk h4 rfl), h3]; rfl
 show ((es.toList.map (rg P kt (fun _ => some ((DataW.nil : DataW Unit), [])))).foldr DataW.insert []).length = m.length
 rw [length_sorted]
 simpa using hl
theorem wo_ (b : Nat) (m : List (Int × Value)) (w : World) (h : MapOf Tryz.prog 3 (Value.int .i64) w b m) (hlen : m.length * 8 ≤ 140737488355328) :
  Calls Tryz.prog 140 #[.func (.func 157) #[] #[.pointer (some ⟨w.heap.size, 0, none⟩)]] (w.alloc (.cells #[.map (some b)] 181)) fun e w' =>
   ∃ v : Value, e = .returned v ∧ Kd.R (Kd.int .i64) 3 w' w.heap.size (fun _ => True) v (pi_ (m.map (·.1))) ∧ Below w.heap.size w w' := by
 obtain ⟨D0, hown, hperm, hsize⟩ := cs_ Tryz.underlying3 h (by unfold maxLen; omega)
 have hbl := hown.lt
 have hseq : SeqGives Fence.wide 2 Tryz.prog 157 #[.pointer (some ⟨w.heap.size, 0, none⟩)] encZ (fun ss => ss.Perm (intKeys D0)) (Maps.size D0) (w.alloc (.cells #[.map (some b)] 181)) :=
  AnyZI.keys_gives (ρ := Tryz.keysA_ren) { Tryz.keysA with } Fence.wide _ trivial rfl Td_ w.heap.size b m.length D0 _ Tt_ Tt_ (by
   obtain ⟨es, clock, hb, Ft, hs, hD⟩ := hown
   exact ⟨es, clock, (Below.heap_alloc _ _ b hbl).trans hb, Ft, hs, hD⟩)
 have cS := AnyZI.sorted_in Tryz.sortedA Fence.wide 5 trivial trivial trivial trivial rfl Td_ (sortsA _) (enters_of Tryz.func156 Ti_ rfl) 157 #[.pointer (some ⟨w.heap.size, 0, none⟩)] trivial (enters_of Tryz.func157 Ti_ rfl) _ _ (by rw [hsize]; unfold maxLen; omega) (by rw [hsize]; exact hlen) _ hseq
 change CallsIn _ _ Tryz.prog 140 _ _ _ at cS
 refine ((callsIn_wide (n := 5)).1 cS).mono ?_
 rintro e w' ⟨v, ss, rfl, hS, hrow, hnil, hb⟩
 have e1 : ss.mergeSort leI = pi_ (m.map (·.1)) := mergeSort_of_perm_i (hS.trans hperm)
 refine ⟨v, rfl, ?_, (aa_ (Below.refl _ w) _).trans (hb.mono Tt_)⟩
 have h3 : (pi_ (m.map (·.1))).length = ss.length := by rw [← e1]; exact List.length_mergeSort ss
 have hr2 : w'.ownsRow (w.alloc (.cells #[.map (some b)] 181)).heap.size 3 1 v (pi_ (m.map (·.1))).length ((pi_ (m.map (·.1))).map (Value.int .i64)) := by
  rw [h3, ← e1]; exact hrow
 have h4 : Kd.R (Kd.int .i64) 3 w' (w.alloc (.cells #[.map (some b)] 181)).heap.size (fun _ => True) v (pi_ (m.map (·.1))) := Kd.R_of_own hr2 (fun _ _ => trivial)
 exact Kd.R_lower h4 Tt_
end Go.Proofs.YtiocgaekoeekgaaGreat.P
end
section
namespace Go.Proofs.YtiocgaekoeekgaaGreat.P
open Go.RowKit YtiocgaekoeekgaaGreatW.PrintWords YtiocgaekoeekgaaGreatW.PrintLast YtiocgaekoeekgaaGreatW.PrintMore
attribute [local go_sem] ub_ rb_ cc_ bc_ kb_ jb_ tb_ qb_   
set_option linter.unusedVariables false
set_option linter.unusedSimpArgs false
open Go.Maps (Keyed)
def dk_ (P : Program) (w : World) (dom : Int → Prop) (fv : Value) (next : Int → List Int) : Prop :=
 ∃ (g : Nat) (pre lb : Array Value), fv = .func (.func g) pre lb ∧ (∀ args w, (callFunc g args).run P w = .ok (.enter g args) w) ∧
  ∀ W x, Below w.heap.size w W → dom x → Calls P g (pre ++ #[.int .i64 x] ++ lb) W fun e w' => ∃ (A : Option Addr) (c : Nat), e = .returned (.slice A (next x).length c) ∧ (next x).length ≤ c ∧ Kd.C (Kd.int .i64) w' A (next x).length (next x) ∧ Below W.heap.size W w'
def ah_ (next : Int → List Int) : Nat → List (Int × Int) → List Int → Option (List (Int × Int))
 | 0, _, _ => none
 | k + 1, m, q => match q with
  | [] => if m.length * 8 ≤ 140737488355328 then some m else none
  | x :: q => if (x :: q).length ≤ 1000000000 ∧ (next x).length ≤ 1000000000 ∧ 0 ≤ (mget m x).getD 0 ∧ (mget m x).getD 0 ≤ 1000000000000 then
    (if (mget m x).getD 0 = 0 then ah_ next k (mput m x ((mget m x).getD 0 + 1)) (q ++ next x) else ah_ next k (mput m x ((mget m x).getD 0 + 1)) q) else none
abbrev encI (m : List (Int × Int)) : List (Int × Value) := m.map fun p => (p.1, Value.int .i64 p.2)
theorem zg_ : Keyed Tryz.prog 3 := Go.Maps.int_keyed Tryz.underlying3
theorem ki_ : ∀ x y : Int, Value.int .i64 x = Value.int .i64 y → x = y := fun x y h => by simpa using h
theorem nf_ (w : World) : (zeroValue 3).run Tryz.prog w = .ok (.int .i64 0) w := by kernel_rfl
theorem mo_ (m : List (Int × Int)) (x : Int) : (mget (encI m) x).getD (.int .i64 0) = .int .i64 ((mget m x).getD 0) := by
 rw [fm_]; cases mget m x <;> rfl
theorem fit_i64 {x : Int} (h : -9223372036854775808 ≤ x ∧ x ≤ 9223372036854775807) : ∃ l, keyOf Tryz.prog 3 (.int .i64 x) = some l := ⟨_, Go.Maps.keyOf_int_mk Tryz.underlying3 (WalkArith.wf_i64 Td_)⟩
theorem mv_ (fv : Value) (next : Int → List Int) (dom : Int → Prop) (hdom : ∀ x, dom x → (-9223372036854775808 ≤ x ∧ x ≤ 9223372036854775807) ∧ ∀ y ∈ next x, dom y) (k : Nat) (A0 : Option Addr) (c0 : Nat) (l0 : List Int) (r : List (Int × Int)) (w : World)
  (hf : dk_ Tryz.prog w dom fv next) (hl0 : ∀ x ∈ l0, dom x) (hr0 : Kd.C (Kd.int .i64) w A0 l0.length l0) (hc0 : l0.length ≤ c0) (h : ah_ next k [] l0 = some r) :
  Calls Tryz.prog 100 #[.slice A0 l0.length c0, fv] w fun e w' => ∃ v0_ : Value, e = .returned (v0_) ∧ Kd.R (Kd.int .i64) 3 w' w.heap.size (fun _ => True) v0_ (pi_ (r.map (·.1))) ∧ Below w.heap.size w w' := by
 obtain ⟨g, pre, lb, rfl, eg, hq⟩ := hf
 have HQ := aM_ hq
 have HR := aM_ hr0
 have HC := aM_ hc0
 have HD := aM_ hdom
 have HL := aM_ hl0
 have H := aM_ h
 have hmm := @run_makeMap Tryz.prog
 clear hq hr0 hc0 hdom hl0 h
 go_enter Tryz.func100, Tryz.ntmps100
 go_wp2
 go_loopg [0] k (fun kq v0 wr => ∃ (q : List Int) (m : List (Int × Int)) (A : Option Addr) (c : Nat), v0 = .slice A q.length c ∧ Az (ah_ next kq m q = some r) ∧ Az (kq ≤ k) ∧ Az (q.length ≤ c) ∧ Az (Kd.C (Kd.int .i64) wr A q.length q) ∧ Az (∀ x ∈ q, dom x) ∧
  Az (MapOf Tryz.prog 3 (Value.int .i64) wr w.heap.size (encI m)) ∧ Az (Below w.heap.size w wr) ∧ Az (w.heap.size < wr.heap.size))
 case atStart => exact ⟨l0, [], A0, c0, rfl, H, ⟨Nat.le_refl _⟩, HC, ⟨Kd.C_below HR.out (aa_ (Below.refl _ _) _)⟩, HL, ⟨MapOf.made _ _ _ _⟩, ⟨aa_ (Below.refl _ _) _⟩, ⟨Tt_⟩⟩
 clear H HR HC HL
 obtain ⟨q, m, A, c, rfl, HF, HK, HC, HR, HL, HM, HB, HS⟩ := hrel
 cases gk with
 | zero => exact absurd HF.out (by simp [ah_])
 | succ k1 =>
  cases q with
  | nil =>
   have h2 := HF.out; simp only [ah_] at h2
   split at h2
   case isFalse => cases h2
   case isTrue hlen =>
   obtain rfl := Option.some.inj h2; clear h2; have HN := aM_ hlen; clear hlen; have hlt : ¬ (0 : Int) < (([] : List Int).length : Int) := by simp
   go_wp2_with fail
   refine (us_ _ _).mono ?_; rintro e w' ⟨rfl, rfl⟩
   go_wp2_with fail
   refine (wo_ w.heap.size (encI m) _ HM.out (by rw [List.length_map]; exact HN.out)).mono ?_; rintro e w' ⟨v, rfl, hR, hb⟩; have hR2 := aM_ hR; have hb2 := aM_ hb; clear hR hb
   go_wp2
   go_ret
   have h3 := hR2.out; rw [map_vals] at h3
   exact ⟨v, rfl, Kd.R_lower h3 HB.out.size, da_ HB.out hb2.out⟩
  | cons x q =>
   have h2 := HF.out; simp only [ah_] at h2
   split at h2
   case isFalse => cases h2
   case isTrue hb =>
   obtain ⟨b1, b2, b3, b4⟩ := hb; have hdx := HL.out x List.mem_cons_self; obtain ⟨hx, hnx⟩ := HD.out x hdx; have hkey := fit_i64 hx; have HX := aM_ hx; have HNX := aM_ hnx; have HDX := aM_ hdx; have B1 := aM_ b1; have B2 := aM_ b2; have H3 := aM_ h2; obtain ⟨ad, hA, hcell⟩ := Kd.at_int HR.out 0 Td_ Tt_; have hcell' : wr.cell? ad = some (.int .i64 x) := hcell; subst hA; obtain ⟨i0, hi, hz0, hz1, hz2⟩ := info_parts qg_; obtain ⟨A', hrun, hread, hcap⟩ := sg_ (P := Tryz.prog) (Value.int .i64) (0 : Int) 35 3 .i64 Tryz.underlying35 hi hz1 (some ad) c (x :: q) 1 Td_ Wo_ HC.out; have hread2 : Kd.C (Kd.int .i64) wr A' q.length q := Kd.C_of_reads (hread wr (Kd.reads_of_C (d := (0 : Int)) HR.out)); have hrun2 : ∀ W : World, (Instr.slice 35 (.slice (some ad) (x :: q).length c) (some (.int .i64 1)) none none).run Tryz.prog W = .ok (.slice A' q.length (c - 1)) W := hrun; have hlt : (0 : Int) < ((x :: q).length : Int) := by simp
   have HR2 := aM_ hread2; have HC2 : Az (q.length ≤ c - 1) := ⟨hcap⟩; clear hcell hrun hread hcap hread2 hx hnx hdx b1 b2 h2 hi hz0 hz1 hz2; have HB1 : (x :: q).length ≤ 1000000000 := B1.out; generalize hn : (x :: q).length = n at hrun2 hlt HB1
   try rw [hn]
   have HN := aM_ hn; clear hn
   go_wp2_with fail
   refine (slices_Clone_int_int.calls _ _ q q _ HR2.out HC2.out (if_pos (by have := B1.out; simp at this; omega))).mono ?_; rintro e w1 ⟨v1, rfl, hR1, hb1⟩; have HM1 := aM_ (HM.out.below hb1); have HR1 := aM_ (Kd.R_lower (Kd.R_mono (Kd.R_bound hR1) (ok' := fun k => wr.heap.size ≤ k) (fun k hk => hk.2.1)) HB.out.size); have HB1' := aM_ (da_ HB.out hb1); have HS1 := aM_ (Nat.lt_of_lt_of_le HS.out hb1.size); obtain ⟨A1, c1, rfl⟩ := Kd.R_slice hR1; clear hR1 hb1 hcell' hrun2; have h3 := H3.out; have hget := mo_ m x; have hmp := dm_ (Value.int .i64) x ((mget m x).getD 0 + 1) m; have hgs : (mget (encI (mput m x ((mget m x).getD 0 + 1))) x).getD (.int .i64 0) = .int .i64 ((mget m x).getD 0 + 1) := by rw [mo_, wc_]; rfl
   generalize hv : (mget m x).getD 0 = v at h3 hget hmp hgs b3 b4; have HG := aM_ hget; have HMP := aM_ hmp; have HGS := aM_ hgs; have H3' := aM_ h3; clear hget hmp hgs hv h3 H3
   by_cases hv0 : v = 0
   ·have H4 := aM_ ((if_pos hv0).symm.trans H3'.out)
    subst hv0; clear H3'
    go_wp2_with (first
     | (at_lookup; refine dd_ rfl (.tmp 17) (.tmp 18) 181 3 rfl zg_ ki_ Tryz.underlying181 nf_ rfl HM1.out x rfl hkey (.int .i64 0) HG.out ?_)
     | (at_mapUpdate; refine kg_ rfl (.tmp 17) (.tmp 18) (.tmp 20) 181 3 rfl zg_ ki_ Tryz.underlying181 rfl HM1.out x rfl hkey (.int .i64 (0 + 1)) rfl ?_; intro w2 hm2 hg2 hz2; rw [HMP.out] at hm2; have HM2 := aM_ hm2; have HR2' := aM_ (Kd.R_grown HR1.out hg2 (fun k hk e => by have := HS.out; have e2 := Option.some.inj e; omega)); have HB2 := aM_ (HB1'.out.grown hg2 HB1'.out.size (fun j e => by have e2 := Option.some.inj e; omega)); have HS2 : Az (w.heap.size < w2.heap.size) := ⟨by rw [hz2]; exact HS1.out⟩; clear hm2 hg2 hz2 HR1 HM1 HB1' HS1)
     | (at_lookup; refine dd_ rfl (.tmp 21) (.tmp 22) 181 3 rfl zg_ ki_ Tryz.underlying181 nf_ rfl HM2.out x rfl hkey (.int .i64 (0 + 1)) HGS.out ?_)
     | fail)
    refine (HQ.out _ x HB2.out HDX.out).mono ?_; rintro e w3 ⟨A3, c3, rfl, hc3, hr3, hb3⟩; have HR3 := aM_ hr3; have HC3 := aM_ hc3; have HM3 := aM_ (HM2.out.below hb3); have HR2'' := aM_ (Kd.R_mono (Kd.R_below HR2'.out hb3) (ok' := fun k => w.heap.size < k) (fun k hk => Nat.lt_of_lt_of_le HS.out hk)); have HB3 := aM_ (da_ HB2.out hb3); have HS3 := aM_ (Nat.lt_of_lt_of_le HS2.out hb3.size); clear hr3 hc3 hb3 HM2 HR2' HB2 HS2
    go_wp2_with (at_builtin; refine Kd.R_append_row (Value.int .i64) 0 (h1 := fun _ => rfl) (w0 := w) w.heap.size rfl (.tmp 25) (.tmp 28) 35 3 (.int .i64 0) 8 rfl Tryz.underlying35 qg_ rfl Tm_ (.slice A1 q.length c1) q (next x) A3 (next x).length c3 (fun k => w.heap.size < k) rfl rfl (fun k hk => Nat.lt_of_lt_of_le HS3.out hk) HR2''.out HR3.out HB3.out HB3.out.size (by have h1_ := B1.out; have h2_ := B2.out; simp only [List.length_cons] at h1_; omega) ?_; intro v4 w4 ho4 hb4 hg4 hat4; have HM4 := aM_ (HM3.out.grown hg4 (fun e => by have h_ := HR2''.out.1 w.heap.size e.symm; exact absurd h_ (Nat.lt_irrefl _))); have ho5 : Kd.R (Kd.int .i64) 3 w4 w.heap.size (fun k => w.heap.size < k) v4 (q ++ next x) := ho4; have HR4 := aM_ ho5; have HB4 := aM_ hb4; have HS4 : Az (w.heap.size < w4.heap.size) := ⟨Nat.lt_of_lt_of_le HS3.out hg4.size⟩; obtain ⟨A4, c4, rfl⟩ := Kd.R_slice ho5; clear ho4 ho5 hb4 hg4 hat4 HM3 HR2'' HB3 HS3 HR3 HC3)
    obtain ⟨A5, c5, e5, hle5, hC5⟩ := Kd.R_reads HR4.out; injection e5 with e6 e7 e8; subst e6 e8; have HL5 := aM_ hle5; have HC5 := aM_ hC5; clear hle5 hC5 e7
    go_roundg k1
    case measure => have := HK.out; omega
    case rel =>
     exact ⟨q ++ next x, mput m x (0 + 1), A4, c4, by rw [List.length_append], H4, ⟨by have := HK.out; omega⟩, HL5, HC5, ⟨fun y hy => (List.mem_append.1 hy).elim (fun hy => HL.out y (List.mem_cons_of_mem _ hy)) (fun hy => HNX.out y hy)⟩, HM4, HB4, HS4⟩
   have H4 := aM_ ((if_neg hv0).symm.trans H3'.out); have ht : ¬ (v + 1 = 1) := by omega
   clear H3'
   go_wp2_with (first
    | (at_lookup; refine dd_ rfl (.tmp 17) (.tmp 18) 181 3 rfl zg_ ki_ Tryz.underlying181 nf_ rfl HM1.out x rfl hkey (.int .i64 v) HG.out ?_)
    | (at_mapUpdate; refine kg_ rfl (.tmp 17) (.tmp 18) (.tmp 20) 181 3 rfl zg_ ki_ Tryz.underlying181 rfl HM1.out x rfl hkey (.int .i64 (v + 1)) rfl ?_; intro w2 hm2 hg2 hz2; rw [HMP.out] at hm2; have HM2 := aM_ hm2; have HR2' := aM_ (Kd.R_grown HR1.out hg2 (fun k hk e => by have := HS.out; have e2 := Option.some.inj e; omega)); have HB2 := aM_ (HB1'.out.grown hg2 HB1'.out.size (fun j e => by have e2 := Option.some.inj e; omega)); have HS2 : Az (w.heap.size < w2.heap.size) := ⟨by rw [hz2]; exact HS1.out⟩; clear hm2 hg2 hz2 HR1 HM1 HB1' HS1)
    | (at_lookup; refine dd_ rfl (.tmp 21) (.tmp 22) 181 3 rfl zg_ ki_ Tryz.underlying181 nf_ rfl HM2.out x rfl hkey (.int .i64 (v + 1)) HGS.out ?_))
   obtain ⟨A5, c5, e5, hle5, hC5⟩ := Kd.R_reads HR2'.out; injection e5 with e6 e7 e8; subst e6 e8; have HL5 := aM_ hle5; have HC5 := aM_ hC5; clear hle5 hC5 e7
   go_roundg k1
   case measure => have := HK.out; omega
   case rel =>
    exact ⟨q, mput m x (v + 1), A1, c1, rfl, H4, ⟨by have := HK.out; omega⟩, HL5, HC5, ⟨fun y hy => HL.out y (List.mem_cons_of_mem _ hy)⟩, HM2, HB2, HS2⟩
end Go.Proofs.YtiocgaekoeekgaaGreat.P
end
section
namespace Go.Proofs.YtiocgaekoeekgaaGreat.P
open Go.RowKit YtiocgaekoeekgaaGreatW.PrintWords YtiocgaekoeekgaaGreatW.PrintLast YtiocgaekoeekgaaGreatW.PrintMore
attribute [local go_sem] ub_ rb_ cc_ bc_ kb_ jb_ tb_ qb_   
set_option linter.unusedVariables false
set_option linter.unusedSimpArgs false
theorem on_ (fv : Value) (A0 : Option Addr) (c0 : Nat) (l0 : List Int) (p : Int → Bool) (w : World) (hr0 : Kd.C (Kd.int .i64) w A0 l0.length l0) (hc0 : l0.length ≤ c0)
  (hf : ke_ Tryz.prog w ij_ fv p) :
  Calls Tryz.prog 158 #[.slice A0 l0.length c0, fv] w fun e w' => e = .returned (.int .i64 (xc_ p l0)) ∧ Below w.heap.size w w' := by
 obtain ⟨g, pre, lb, rfl, eg, hq⟩ := hf
 have hl : l0.length ≤ 9223372036854775807 := hr0.2.1
 have HR := aM_ hr0
 clear hr0
 have HQ := aM_ hq
 clear hq
 go_enter Tryz.func158, Tryz.ntmps158
 go_wp2
 go_loopg [8] l0.length (fun gg s8 wr => ∃ kk : Nat, kk ≤ l0.length ∧ l0.length - kk ≤ gg ∧ s8 = .int .i64 kk ∧ Az (Below w.heap.size w wr) ∧ Az (∀ j, j < kk → ∀ h : j < l0.length, p l0[j] = false))
 case atStart => exact ⟨0, Nat.zero_le _, Td_, rfl, ⟨Below.refl _ w⟩, ⟨fun j hj => absurd hj (Nat.not_lt_zero _)⟩⟩
 obtain ⟨kk, hkk, hg, rfl, BW, A⟩ := hrel
 by_cases hlt : kk < l0.length
 ·have hltz : (kk : Int) < (l0.length : Int) := by omega
  obtain ⟨ad, hA, hcell⟩ := Kd.at_int HR.out kk Td_ hltz; have hcell' : wr.cell? (ad.add kk) = some (.int .i64 (rd l0 kk)) := fa_ BW.out (by simpa using hcell); have hcall := HQ.out wr (rd l0 kk) _ BW.out rfl; subst hA; clear hcell
  cases hp : p (rd l0 kk) with
  | true =>
   rw [hp] at hcall
   go_wp2_with fail
   refine hcall.mono ?_; rintro e w' ⟨rfl, hb'⟩
   go_wp2
   go_ret
   refine ⟨?_, df_ BW.out BW.out.size hb'⟩; rw [xf_ hlt A.out (by rw [← cf_ l0 kk hlt]; exact hp)]
   rfl
  | false =>
   rw [hp] at hcall
   go_wp2_with fail
   refine hcall.mono ?_; rintro e w' ⟨rfl, hb'⟩
   go_wp2
   go_roundg (l0.length - (kk + 1))
   case measure => omega
   case rel =>
    refine ⟨kk + 1, Td_, Td_, Va_, ⟨df_ BW.out BW.out.size hb'⟩, ⟨fun j hj hlt => ?_⟩⟩
    by_cases e : j = kk
    ·subst e
     rw [← cf_ l0 j hlt]; exact hp
    exact A.out j Td_ hlt
 have hltz : ¬ (kk : Int) < (l0.length : Int) := by omega
 have : kk = l0.length := by omega
 subst this
 go_wp2
 go_ret
 refine ⟨?_, BW.out⟩
 rw [nh_ A.out]
 rfl
theorem ok_ (fv : Value) (A0 : Option Addr) (c0 : Nat) (l0 : List Int) (p : Int → Bool) (w : World) (hr0 : Kd.C (Kd.int .i64) w A0 l0.length l0) (hc0 : l0.length ≤ c0)
  (hf : ke_ Tryz.prog w ij_ fv p) :
  Calls Tryz.prog 153 #[.slice A0 l0.length c0, fv] w fun e w' => e = .returned (.bool (l0.any p)) ∧ Below w.heap.size w w' := by
 have hc := on_ fv A0 c0 l0 p w hr0 hc0 hf
 rw [← om_]
 clear hr0 hf
 generalize xc_ p l0 = q at hc
 go_enter Tryz.func153, Tryz.ntmps153
 go_wp2_with fail
 refine hc.mono ?_
 rintro e w' ⟨rfl, hb'⟩
 go_wp2
 go_ret
 exact ⟨rfl, hb'⟩
theorem qr_ (fv : Value) (p : Int → Bool) (w : World) (hf : ke_ Tryz.prog w ij_ fv p) :
  ke_ Tryz.prog (w.alloc (.cells #[fv] 142)) ij_ (.func (.func 154) #[] #[.pointer (some ⟨w.heap.size, 0, none⟩)]) (fun x => !p x) := by
 refine ⟨_, _, _, rfl, enters_of Tryz.func154 Ti_ rfl, ?_⟩
 rintro W x v hb rfl
 obtain ⟨g, pre, lb, rfl, eg, hq⟩ := hf
 have hbw : Below w.heap.size w W := (aa_ (Below.refl _ w) _).trans (hb.mono Tt_)
 have hcall := hq W x _ hbw rfl
 have hcell : W.cell? ⟨w.heap.size, 0, none⟩ = some (.func (.func g) pre lb) := fa_ hb (qo_ _ _ _)
 clear hb hq hbw
 cases hp : p x with
 | true =>
  rw [hp] at hcall
  go_enter Tryz.func154, Tryz.ntmps154
  go_wp2_with fail
  refine hcall.mono ?_; rintro e w' ⟨rfl, hb'⟩
  go_wp2
  go_ret
  exact ⟨rd_ (by rw [hp]; rfl), hb'⟩
 | false =>
  rw [hp] at hcall
  go_enter Tryz.func154, Tryz.ntmps154
  go_wp2_with fail
  refine hcall.mono ?_; rintro e w' ⟨rfl, hb'⟩
  go_wp2
  go_ret
  exact ⟨rd_ (by rw [hp]; rfl), hb'⟩
theorem ei_ {α : Type} (p : α → Bool) : ∀ l : List α, l.any (fun x => !p x) = !l.all p
 | [] => rfl
 | x :: l => by simp only [List.any_cons, List.all_cons, ei_ p l, Bool.not_and]
theorem kd_ (fv : Value) (A0 : Option Addr) (c0 : Nat) (l0 : List Int) (p : Int → Bool) (w : World) (hr0 : Kd.C (Kd.int .i64) w A0 l0.length l0) (hc0 : l0.length ≤ c0)
  (hf : ke_ Tryz.prog w ij_ fv p) :
  Calls Tryz.prog 136 #[.slice A0 l0.length c0, fv] w fun e w' => e = .returned (.bool (l0.all p)) ∧ Below w.heap.size w w' := by
 have h1 := qr_ fv p w hf
 have hc := ok_ _ A0 c0 l0 (fun x => !p x) (w.alloc (.cells #[fv] 142)) (Kd.C_below hr0 (aa_ (Below.refl _ w) _)) hc0 h1
 have ha : l0.any (fun x => !p x) = !l0.all p := ei_ p l0
 rw [ha] at hc
 obtain ⟨g, pre, lb, rfl, eg, hq⟩ := hf
 clear hr0 hq h1 ha
 cases h : l0.all p with
 | true =>
  rw [h] at hc; clear h
  go_enter Tryz.func136, Tryz.ntmps136
  go_wp2_with fail
  refine hc.mono ?_; rintro e w' ⟨rfl, hb'⟩
  go_wp2
  go_ret
  exact ⟨rfl, (aa_ (Below.refl _ w) _).trans (hb'.mono Tt_)⟩
 | false =>
  rw [h] at hc; clear h
  go_enter Tryz.func136, Tryz.ntmps136
  go_wp2_with fail
  refine hc.mono ?_; rintro e w' ⟨rfl, hb'⟩
  go_wp2
  go_ret
  exact ⟨rfl, (aa_ (Below.refl _ w) _).trans (hb'.mono Tt_)⟩
def xe_ (x : Int) : Bool := decide (x < 20) && decide (-61 ≤ x)
def me_ (n : Nat) (x : Int) : Bool := decide (0 ≤ x) && decide (x < (n : Int))
theorem vs_ (a0 : Int) (A1 : Option Addr) (c1 : Nat) (l1 : List Int) (a2 : Int) (A3 : Option Addr) (c3 : Nat) (l3 : List Int) (a4 : Int) (w : World) :
  ke_ Tryz.prog w ij_ (.func (.func 137) #[.agg #[.int .i64 a0, .slice A1 l1.length c1, .int .i64 a2, .slice A3 l3.length c3, .int .i64 a4]] #[]) xe_ := by
 refine ⟨_, _, _, rfl, enters_of Tryz.func137 Ti_ rfl, ?_⟩
 rintro W x v hb rfl
 clear hb
 by_cases h1 : x < 20
 ·have d1 : decide (x < 20) = true := decide_eq_true h1
  by_cases h2 : -61 ≤ x
  ·have d2 : decide (-61 ≤ x) = true := decide_eq_true h2
   have hz : xe_ x = true := by simp [xe_, h1, h2]
   rw [hz]; clear hz
   go_enter Tryz.func137, Tryz.ntmps137
   go_wp2
   go_ret
   exact ⟨rfl, aa_ (Below.refl _ _) _⟩
  have d2 : decide (-61 ≤ x) = false := decide_eq_false h2; have hz : xe_ x = false := by simp [xe_, h1]; omega
  rw [hz]; clear hz
  go_enter Tryz.func137, Tryz.ntmps137
  go_wp2
  go_ret
  exact ⟨rfl, aa_ (Below.refl _ _) _⟩
 have d1 : decide (x < 20) = false := decide_eq_false h1
 have hz : xe_ x = false := by simp [xe_, h1]
 rw [hz]
 clear hz
 go_enter Tryz.func137, Tryz.ntmps137
 go_wp2
 go_ret
 exact ⟨rfl, aa_ (Below.refl _ _) _⟩
theorem lq_ (a0 : Int) (A1 : Option Addr) (c1 : Nat) (l1 : List Int) (a2 : Int) (A3 : Option Addr) (c3 : Nat) (l3 : List Int) (a4 : Int) (w : World) (hl : l1.length ≤ 9223372036854775807) :
  ke_ Tryz.prog w ij_ (.func (.func 138) #[.agg #[.int .i64 a0, .slice A1 l1.length c1, .int .i64 a2, .slice A3 l3.length c3, .int .i64 a4]] #[]) (me_ l1.length) := by
 refine ⟨_, _, _, rfl, enters_of Tryz.func138 Ti_ rfl, ?_⟩
 rintro W x v hb rfl
 clear hb
 by_cases h1 : 0 ≤ x
 ·have d1 : decide (0 ≤ x) = true := decide_eq_true h1
  by_cases h2 : x < (l1.length : Int)
  ·have d2 : decide (x < (l1.length : Int)) = true := decide_eq_true h2
   have hz : me_ l1.length x = true := by simp [me_, h1, h2]
   rw [hz]; clear hz
   go_enter Tryz.func138, Tryz.ntmps138
   go_wp2
   go_ret
   exact ⟨rfl, aa_ (Below.refl _ _) _⟩
  have d2 : decide (x < (l1.length : Int)) = false := decide_eq_false h2; have hz : me_ l1.length x = false := by simp [me_, h1]; omega
  rw [hz]; clear hz
  go_enter Tryz.func138, Tryz.ntmps138
  go_wp2
  go_ret
  exact ⟨rfl, aa_ (Below.refl _ _) _⟩
 have d1 : decide (0 ≤ x) = false := decide_eq_false h1
 have hz : me_ l1.length x = false := by simp [me_, h1]
 rw [hz]
 clear hz
 go_enter Tryz.func138, Tryz.ntmps138
 go_wp2
 go_ret
 exact ⟨rfl, aa_ (Below.refl _ _) _⟩
def nd_ (op : Int) : Int × Int :=
 if op = 0 ∨ op = 7 ∨ op = 8 ∨ op = 11 then (1, 1) else if op = 2 ∨ op = 5 ∨ op = 9 ∨ op = 12 ∨ op = 13 ∨ op = 14 ∨ op = 15 then (2, 2)
 else if op = 1 ∨ op = 6 then (3, 3) else if op = 3 ∨ op = 4 then (2, 3) else if op = 10 then (1, 6) else (1, 0)
def ze_ (x : Int) : Bool := decide (0 ≤ x) && decide (x < 20)
def hc_ (x a b : Int) : Bool := decide (a ≤ x) && decide (x ≤ b)
theorem lt_ (k : Nat) (op : Int) : gram_asked.f (k + 4) op = some (nd_ op) := by
 by_cases h : 0 ≤ op ∧ op ≤ 15
 ·have : op = 0 ∨ op = 1 ∨ op = 2 ∨ op = 3 ∨ op = 4 ∨ op = 5 ∨ op = 6 ∨ op = 7 ∨ op = 8 ∨ op = 9 ∨ op = 10 ∨ op = 11 ∨ op = 12 ∨ op = 13 ∨ op = 14 ∨ op = 15 := by omega
  rcases this with rfl | rfl | rfl | rfl | rfl | rfl | rfl | rfl | rfl | rfl | rfl | rfl | rfl | rfl | rfl | rfl <;> rfl
 have n : ∀ k : Int, 0 ≤ k → k ≤ 15 → ¬ op = k := fun k h0 h1 e => h Td_
 have b : ∀ k : Int, 0 ≤ k → k ≤ 15 → ¬ (op == k) = true := fun k h0 h1 e => n k h0 h1 (by simpa using e)
 have e : nd_ op = (1, 0) := by
  unfold nd_; rw [if_neg Td_, if_neg Td_, if_neg Td_, if_neg Td_, if_neg Td_]
 rw [e]
 unfold gram_asked.f
 rw [if_neg (n 0 Td_ Td_), if_neg (n 7 Td_ Td_), if_neg (n 8 Td_ Td_), gram_asked.j0]
 rw [if_neg (b 11 Td_ Td_), if_neg (n 2 Td_ Td_), if_neg (n 5 Td_ Td_), if_neg (n 9 Td_ Td_), if_neg (n 12 Td_ Td_), if_neg (n 13 Td_ Td_), if_neg (n 14 Td_ Td_), gram_asked.j1]
 rw [if_neg (b 15 Td_ Td_), if_neg (n 1 Td_ Td_), gram_asked.j2]
 rw [if_neg (b 6 Td_ Td_), if_neg (n 3 Td_ Td_), gram_asked.j3]
 rw [if_neg (b 4 Td_ Td_), if_neg (n 10 Td_ Td_)]
theorem sk_ (x : Int) : gram_symbol.f x = some (ze_ x) := by
 unfold gram_symbol.f ze_
 by_cases h0 : 0 ≤ x
 ·rw [if_pos h0, decide_eq_true h0]; rfl
 rw [if_neg h0, decide_eq_false h0]; rfl
theorem rh_ (x a b : Int) : gram_within.f x a b = some (hc_ x a b) := by
 unfold gram_within.f hc_
 by_cases h0 : a ≤ x
 ·rw [if_pos h0, decide_eq_true h0]; rfl
 rw [if_neg h0, decide_eq_false h0]; rfl
def hf_ (a0 : Int) (l1 : List Int) (a2 : Int) (l3 : List Int) (a4 : Int) : Bool :=
 ze_ a0 && (hc_ l1.length 1 6 && (l1.all xe_ && (hc_ a4 0 100 && (hc_ l3.length (nd_ a2).1 (nd_ a2).2 && l3.all (me_ l1.length)))))
def gram_Right.f (a0_0 : Int) (l0_1 : List Int) (a0_2 : Int) (l0_3 : List Int) (a0_4 : Int) : Option Bool := some (hf_ a0_0 l0_1 a0_2 l0_3 a0_4)
theorem wr_ (a0_0 : Int) (A0_1 : Option Addr) (c0_1 : Nat) (l0_1 : List Int) (a0_2 : Int) (A0_3 : Option Addr) (c0_3 : Nat) (l0_3 : List Int) (a0_4 : Int) (w : World) (hr0_1 : Kd.C (Kd.int .i64) w A0_1 l0_1.length l0_1) (hc0_1 : l0_1.length ≤ c0_1) (hr0_3 : Kd.C (Kd.int .i64) w A0_3 l0_3.length l0_3) (hc0_3 : l0_3.length ≤ c0_3) :
  Calls Tryz.prog 97 #[.agg #[.int .i64 a0_0, .slice A0_1 l0_1.length c0_1, .int .i64 a0_2, .slice A0_3 l0_3.length c0_3, .int .i64 a0_4]] w fun e w' => e = .returned (.bool (hf_ a0_0 l0_1 a0_2 l0_3 a0_4)) ∧ Below w.heap.size w w' := by
 have hl1 : l0_1.length ≤ 9223372036854775807 := hr0_1.2.1
 have hl3 : l0_3.length ≤ 9223372036854775807 := hr0_3.2.1
 have K1 := fun w => vs_ a0_0 A0_1 c0_1 l0_1 a0_2 A0_3 c0_3 l0_3 a0_4 w
 have K2 := fun w => lq_ a0_0 A0_1 c0_1 l0_1 a0_2 A0_3 c0_3 l0_3 a0_4 w hl1
 have HR1 := aM_ hr0_1
 have HR3 := aM_ hr0_3
 have HA := aM_ (lt_ 5 a0_2)
 generalize hq : nd_ a0_2 = q at HA
 obtain ⟨q1, q2⟩ := q
 have HP : Az (hf_ a0_0 l0_1 a0_2 l0_3 a0_4 = (ze_ a0_0 && (hc_ l0_1.length 1 6 && (l0_1.all xe_ && (hc_ a0_4 0 100 && (hc_ l0_3.length q1 q2 && l0_3.all (me_ l0_1.length))))))) := ⟨by unfold hf_; rw [hq]⟩
 clear hq hr0_1 hr0_3
 have HB := aM_ (Below.refl w.heap.size w)
 rw [HP.out]
 clear HP
 have HS := aM_ (sk_ a0_0)
 have HW1 := aM_ (rh_ l0_1.length 1 6)
 have HW2 := aM_ (rh_ a0_4 0 100)
 have HW3 := aM_ (rh_ l0_3.length q1 q2)
 cases h0 : ze_ a0_0 with
 | false =>
  rw [h0] at HS; clear h0
  go_enter Tryz.func97, Tryz.ntmps97
  go_wp2_with fail
  refine (gram_asked.calls 9 _ q1 q2 _ HA.out).mono ?_; rintro e w' ⟨rfl, ⟨nd, rfl⟩⟩
  go_wp2_with fail
  refine (gram_symbol.calls _ _ _ HS.out).mono ?_; rintro e w' ⟨rfl, ⟨nd, rfl⟩⟩
  go_wp2
  go_ret
  exact ⟨rfl, Ta_⟩
 | true =>
  rw [h0] at HS; clear h0
  cases h1 : hc_ l0_1.length 1 6 with
  | false =>
   rw [h1] at HW1; clear h1
   go_enter Tryz.func97, Tryz.ntmps97
   go_wp2_with fail
   refine (gram_asked.calls 9 _ q1 q2 _ HA.out).mono ?_; rintro e w' ⟨rfl, ⟨nd, rfl⟩⟩
   go_wp2_with fail
   refine (gram_symbol.calls _ _ _ HS.out).mono ?_; rintro e w' ⟨rfl, ⟨nd, rfl⟩⟩
   go_wp2_with fail
   refine (gram_within.calls _ _ _ _ _ HW1.out).mono ?_; rintro e w' ⟨rfl, ⟨nd, rfl⟩⟩
   go_wp2
   go_ret
   exact ⟨rfl, Ta_⟩
  | true =>
   rw [h1] at HW1; clear h1
   cases h2 : l0_1.all xe_ with
   | false =>
    have H2 := aM_ h2; clear h2
    go_enter Tryz.func97, Tryz.ntmps97
    go_wp2_with fail
    refine (gram_asked.calls 9 _ q1 q2 _ HA.out).mono ?_; rintro e w' ⟨rfl, ⟨nd, rfl⟩⟩
    go_wp2_with fail
    refine (gram_symbol.calls _ _ _ HS.out).mono ?_; rintro e w' ⟨rfl, ⟨nd, rfl⟩⟩
    go_wp2_with fail
    refine (gram_within.calls _ _ _ _ _ HW1.out).mono ?_; rintro e w' ⟨rfl, ⟨nd, rfl⟩⟩
    go_wp2_with fail
    refine (kd_ _ _ _ _ _ _ (Kd.C_below HR1.out ?b2) hc0_1 (K1 _)).mono ?_
    case b2 => repeat (first | (with_reducible first | exact HB.out | apply aa_ | apply ca_ | apply ga_) | exact HB.out)
    rw [H2.out]; rintro e w2 ⟨rfl, hb⟩; have n0_ := aM_ (da_ Ta_ hb); have n1_ := aM_ (la_ (g := w.heap.size) (o := .cells #[.int .i64 a0_0, .slice A0_1 l0_1.length c0_1, .int .i64 a0_2, .slice A0_3 l0_3.length c0_3, .int .i64 a0_4] 56 (0, 0)) Uz_ hb); have n2_ := aM_ (la_ (g := w.heap.size + 1) (o := .cells #[.int .i64 a0_0, .slice A0_1 l0_1.length c0_1, .int .i64 a0_2, .slice A0_3 l0_3.length c0_3, .int .i64 a0_4] 176 (0, 0)) Tk_ hb); have c10 := ba_ n1_.out 0; have c20 := ba_ n2_.out 0; simp only [List.getElem?_toArray, List.getElem?_cons_succ, List.getElem?_cons_zero] at c10 c20; have c11 := ba_ n1_.out 1; have c21 := ba_ n2_.out 1; simp only [List.getElem?_toArray, List.getElem?_cons_succ, List.getElem?_cons_zero] at c11 c21; have c12 := ba_ n1_.out 2; have c22 := ba_ n2_.out 2; simp only [List.getElem?_toArray, List.getElem?_cons_succ, List.getElem?_cons_zero] at c12 c22; have c13 := ba_ n1_.out 3; have c23 := ba_ n2_.out 3; simp only [List.getElem?_toArray, List.getElem?_cons_succ, List.getElem?_cons_zero] at c13 c23; have c14 := ba_ n1_.out 4; have c24 := ba_ n2_.out 4; simp only [List.getElem?_toArray, List.getElem?_cons_succ, List.getElem?_cons_zero] at c14 c24; clear n1_ n2_; clear HB hb; have HB := n0_; clear n0_
    go_wp2
    go_ret
    exact ⟨rfl, Ta_⟩
   | true =>
    have H2 := aM_ h2; clear h2
    cases h3 : hc_ a0_4 0 100 with
    | false =>
     rw [h3] at HW2; clear h3
     go_enter Tryz.func97, Tryz.ntmps97
     go_wp2_with fail
     refine (gram_asked.calls 9 _ q1 q2 _ HA.out).mono ?_; rintro e w' ⟨rfl, ⟨nd, rfl⟩⟩
     go_wp2_with fail
     refine (gram_symbol.calls _ _ _ HS.out).mono ?_; rintro e w' ⟨rfl, ⟨nd, rfl⟩⟩
     go_wp2_with fail
     refine (gram_within.calls _ _ _ _ _ HW1.out).mono ?_; rintro e w' ⟨rfl, ⟨nd, rfl⟩⟩
     go_wp2_with fail
     refine (kd_ _ _ _ _ _ _ (Kd.C_below HR1.out ?b2) hc0_1 (K1 _)).mono ?_
     case b2 => repeat (first | (with_reducible first | exact HB.out | apply aa_ | apply ca_ | apply ga_) | exact HB.out)
     rw [H2.out]; rintro e w2 ⟨rfl, hb⟩; have n0_ := aM_ (da_ Ta_ hb); have n1_ := aM_ (la_ (g := w.heap.size) (o := .cells #[.int .i64 a0_0, .slice A0_1 l0_1.length c0_1, .int .i64 a0_2, .slice A0_3 l0_3.length c0_3, .int .i64 a0_4] 56 (0, 0)) Uz_ hb); have n2_ := aM_ (la_ (g := w.heap.size + 1) (o := .cells #[.int .i64 a0_0, .slice A0_1 l0_1.length c0_1, .int .i64 a0_2, .slice A0_3 l0_3.length c0_3, .int .i64 a0_4] 176 (0, 0)) Tk_ hb); have c10 := ba_ n1_.out 0; have c20 := ba_ n2_.out 0; simp only [List.getElem?_toArray, List.getElem?_cons_succ, List.getElem?_cons_zero] at c10 c20; have c11 := ba_ n1_.out 1; have c21 := ba_ n2_.out 1; simp only [List.getElem?_toArray, List.getElem?_cons_succ, List.getElem?_cons_zero] at c11 c21; have c12 := ba_ n1_.out 2; have c22 := ba_ n2_.out 2; simp only [List.getElem?_toArray, List.getElem?_cons_succ, List.getElem?_cons_zero] at c12 c22; have c13 := ba_ n1_.out 3; have c23 := ba_ n2_.out 3; simp only [List.getElem?_toArray, List.getElem?_cons_succ, List.getElem?_cons_zero] at c13 c23; have c14 := ba_ n1_.out 4; have c24 := ba_ n2_.out 4; simp only [List.getElem?_toArray, List.getElem?_cons_succ, List.getElem?_cons_zero] at c14 c24; clear n1_ n2_; clear HB hb; have HB := n0_; clear n0_
     go_wp2_with fail
     refine (gram_within.calls _ _ _ _ _ HW2.out).mono ?_; rintro e w' ⟨rfl, ⟨nd, rfl⟩⟩
     go_wp2
     go_ret
     exact ⟨rfl, Ta_⟩
    | true =>
     rw [h3] at HW2; clear h3
     cases h4 : hc_ l0_3.length q1 q2 with
     | false =>
      rw [h4] at HW3; clear h4
      go_enter Tryz.func97, Tryz.ntmps97
      go_wp2_with fail
      refine (gram_asked.calls 9 _ q1 q2 _ HA.out).mono ?_; rintro e w' ⟨rfl, ⟨nd, rfl⟩⟩
      go_wp2_with fail
      refine (gram_symbol.calls _ _ _ HS.out).mono ?_; rintro e w' ⟨rfl, ⟨nd, rfl⟩⟩
      go_wp2_with fail
      refine (gram_within.calls _ _ _ _ _ HW1.out).mono ?_; rintro e w' ⟨rfl, ⟨nd, rfl⟩⟩
      go_wp2_with fail
      refine (kd_ _ _ _ _ _ _ (Kd.C_below HR1.out ?b2) hc0_1 (K1 _)).mono ?_
      case b2 => repeat (first | (with_reducible first | exact HB.out | apply aa_ | apply ca_ | apply ga_) | exact HB.out)
      rw [H2.out]; rintro e w2 ⟨rfl, hb⟩; have n0_ := aM_ (da_ Ta_ hb); have n1_ := aM_ (la_ (g := w.heap.size) (o := .cells #[.int .i64 a0_0, .slice A0_1 l0_1.length c0_1, .int .i64 a0_2, .slice A0_3 l0_3.length c0_3, .int .i64 a0_4] 56 (0, 0)) Uz_ hb); have n2_ := aM_ (la_ (g := w.heap.size + 1) (o := .cells #[.int .i64 a0_0, .slice A0_1 l0_1.length c0_1, .int .i64 a0_2, .slice A0_3 l0_3.length c0_3, .int .i64 a0_4] 176 (0, 0)) Tk_ hb); have c10 := ba_ n1_.out 0; have c20 := ba_ n2_.out 0; simp only [List.getElem?_toArray, List.getElem?_cons_succ, List.getElem?_cons_zero] at c10 c20; have c11 := ba_ n1_.out 1; have c21 := ba_ n2_.out 1; simp only [List.getElem?_toArray, List.getElem?_cons_succ, List.getElem?_cons_zero] at c11 c21; have c12 := ba_ n1_.out 2; have c22 := ba_ n2_.out 2; simp only [List.getElem?_toArray, List.getElem?_cons_succ, List.getElem?_cons_zero] at c12 c22; have c13 := ba_ n1_.out 3; have c23 := ba_ n2_.out 3; simp only [List.getElem?_toArray, List.getElem?_cons_succ, List.getElem?_cons_zero] at c13 c23; have c14 := ba_ n1_.out 4; have c24 := ba_ n2_.out 4; simp only [List.getElem?_toArray, List.getElem?_cons_succ, List.getElem?_cons_zero] at c14 c24; clear n1_ n2_; clear HB hb; have HB := n0_; clear n0_
      go_wp2_with fail
      refine (gram_within.calls _ _ _ _ _ HW2.out).mono ?_; rintro e w' ⟨rfl, ⟨nd, rfl⟩⟩
      go_wp2_with fail
      refine (gram_within.calls _ _ _ _ _ HW3.out).mono ?_; rintro e w' ⟨rfl, ⟨nd, rfl⟩⟩
      go_wp2
      go_ret
      exact ⟨rfl, Ta_⟩
     | true =>
      rw [h4] at HW3; clear h4
      cases h5 : l0_3.all (me_ l0_1.length) with
      | false =>
       have H5 := aM_ h5; clear h5
       go_enter Tryz.func97, Tryz.ntmps97
       go_wp2_with fail
       refine (gram_asked.calls 9 _ q1 q2 _ HA.out).mono ?_; rintro e w' ⟨rfl, ⟨nd, rfl⟩⟩
       go_wp2_with fail
       refine (gram_symbol.calls _ _ _ HS.out).mono ?_; rintro e w' ⟨rfl, ⟨nd, rfl⟩⟩
       go_wp2_with fail
       refine (gram_within.calls _ _ _ _ _ HW1.out).mono ?_; rintro e w' ⟨rfl, ⟨nd, rfl⟩⟩
       go_wp2_with fail
       refine (kd_ _ _ _ _ _ _ (Kd.C_below HR1.out ?b2) hc0_1 (K1 _)).mono ?_
       case b2 => repeat (first | (with_reducible first | exact HB.out | apply aa_ | apply ca_ | apply ga_) | exact HB.out)
       rw [H2.out]; rintro e w2 ⟨rfl, hb⟩; have n0_ := aM_ (da_ Ta_ hb); have n1_ := aM_ (la_ (g := w.heap.size) (o := .cells #[.int .i64 a0_0, .slice A0_1 l0_1.length c0_1, .int .i64 a0_2, .slice A0_3 l0_3.length c0_3, .int .i64 a0_4] 56 (0, 0)) Uz_ hb); have n2_ := aM_ (la_ (g := w.heap.size + 1) (o := .cells #[.int .i64 a0_0, .slice A0_1 l0_1.length c0_1, .int .i64 a0_2, .slice A0_3 l0_3.length c0_3, .int .i64 a0_4] 176 (0, 0)) Tk_ hb); have c10 := ba_ n1_.out 0; have c20 := ba_ n2_.out 0; simp only [List.getElem?_toArray, List.getElem?_cons_succ, List.getElem?_cons_zero] at c10 c20; have c11 := ba_ n1_.out 1; have c21 := ba_ n2_.out 1; simp only [List.getElem?_toArray, List.getElem?_cons_succ, List.getElem?_cons_zero] at c11 c21; have c12 := ba_ n1_.out 2; have c22 := ba_ n2_.out 2; simp only [List.getElem?_toArray, List.getElem?_cons_succ, List.getElem?_cons_zero] at c12 c22; have c13 := ba_ n1_.out 3; have c23 := ba_ n2_.out 3; simp only [List.getElem?_toArray, List.getElem?_cons_succ, List.getElem?_cons_zero] at c13 c23; have c14 := ba_ n1_.out 4; have c24 := ba_ n2_.out 4; simp only [List.getElem?_toArray, List.getElem?_cons_succ, List.getElem?_cons_zero] at c14 c24; clear n1_ n2_; clear HB hb; have HB := n0_; clear n0_
       go_wp2_with fail
       refine (gram_within.calls _ _ _ _ _ HW2.out).mono ?_; rintro e w' ⟨rfl, ⟨nd, rfl⟩⟩
       go_wp2_with fail
       refine (gram_within.calls _ _ _ _ _ HW3.out).mono ?_; rintro e w' ⟨rfl, ⟨nd, rfl⟩⟩
       go_wp2_with fail
       refine (kd_ _ _ _ _ _ _ (Kd.C_below HR3.out ?b5) hc0_3 (K2 _)).mono ?_
       case b5 => repeat (first | (with_reducible first | exact HB.out | apply aa_ | apply ca_ | apply ga_) | exact HB.out)
       rw [H5.out]; rintro e w5 ⟨rfl, hb⟩; have n0_ := aM_ (da_ Ta_ hb); clear HB hb; have HB := n0_; clear n0_
       go_wp2
       go_ret
       exact ⟨rfl, Ta_⟩
      | true =>
       have H5 := aM_ h5; clear h5
       go_enter Tryz.func97, Tryz.ntmps97
       go_wp2_with fail
       refine (gram_asked.calls 9 _ q1 q2 _ HA.out).mono ?_; rintro e w' ⟨rfl, ⟨nd, rfl⟩⟩
       go_wp2_with fail
       refine (gram_symbol.calls _ _ _ HS.out).mono ?_; rintro e w' ⟨rfl, ⟨nd, rfl⟩⟩
       go_wp2_with fail
       refine (gram_within.calls _ _ _ _ _ HW1.out).mono ?_; rintro e w' ⟨rfl, ⟨nd, rfl⟩⟩
       go_wp2_with fail
       refine (kd_ _ _ _ _ _ _ (Kd.C_below HR1.out ?b2) hc0_1 (K1 _)).mono ?_
       case b2 => repeat (first | (with_reducible first | exact HB.out | apply aa_ | apply ca_ | apply ga_) | exact HB.out)
       rw [H2.out]; rintro e w2 ⟨rfl, hb⟩; have n0_ := aM_ (da_ Ta_ hb); have n1_ := aM_ (la_ (g := w.heap.size) (o := .cells #[.int .i64 a0_0, .slice A0_1 l0_1.length c0_1, .int .i64 a0_2, .slice A0_3 l0_3.length c0_3, .int .i64 a0_4] 56 (0, 0)) Uz_ hb); have n2_ := aM_ (la_ (g := w.heap.size + 1) (o := .cells #[.int .i64 a0_0, .slice A0_1 l0_1.length c0_1, .int .i64 a0_2, .slice A0_3 l0_3.length c0_3, .int .i64 a0_4] 176 (0, 0)) Tk_ hb); have c10 := ba_ n1_.out 0; have c20 := ba_ n2_.out 0; simp only [List.getElem?_toArray, List.getElem?_cons_succ, List.getElem?_cons_zero] at c10 c20; have c11 := ba_ n1_.out 1; have c21 := ba_ n2_.out 1; simp only [List.getElem?_toArray, List.getElem?_cons_succ, List.getElem?_cons_zero] at c11 c21; have c12 := ba_ n1_.out 2; have c22 := ba_ n2_.out 2; simp only [List.getElem?_toArray, List.getElem?_cons_succ, List.getElem?_cons_zero] at c12 c22; have c13 := ba_ n1_.out 3; have c23 := ba_ n2_.out 3; simp only [List.getElem?_toArray, List.getElem?_cons_succ, List.getElem?_cons_zero] at c13 c23; have c14 := ba_ n1_.out 4; have c24 := ba_ n2_.out 4; simp only [List.getElem?_toArray, List.getElem?_cons_succ, List.getElem?_cons_zero] at c14 c24; clear n1_ n2_; clear HB hb; have HB := n0_; clear n0_
       go_wp2_with fail
       refine (gram_within.calls _ _ _ _ _ HW2.out).mono ?_; rintro e w' ⟨rfl, ⟨nd, rfl⟩⟩
       go_wp2_with fail
       refine (gram_within.calls _ _ _ _ _ HW3.out).mono ?_; rintro e w' ⟨rfl, ⟨nd, rfl⟩⟩
       go_wp2_with fail
       refine (kd_ _ _ _ _ _ _ (Kd.C_below HR3.out ?b5) hc0_3 (K2 _)).mono ?_
       case b5 => repeat (first | (with_reducible first | exact HB.out | apply aa_ | apply ca_ | apply ga_) | exact HB.out)
       rw [H5.out]; rintro e w5 ⟨rfl, hb⟩; have n0_ := aM_ (da_ Ta_ hb); clear HB hb; have HB := n0_; clear n0_
       go_wp2
       go_ret
       exact ⟨rfl, Ta_⟩
theorem gram_Right.calls (a0_0 : Int) (A0_1 : Option Addr) (c0_1 : Nat) (l0_1 : List Int) (a0_2 : Int) (A0_3 : Option Addr) (c0_3 : Nat) (l0_3 : List Int) (a0_4 : Int) (r : Bool) (w : World) (hr0_1 : Kd.C (Kd.int .i64) w A0_1 l0_1.length l0_1) (hc0_1 : l0_1.length ≤ c0_1) (hr0_3 : Kd.C (Kd.int .i64) w A0_3 l0_3.length l0_3) (hc0_3 : l0_3.length ≤ c0_3) (h : gram_Right.f a0_0 l0_1 a0_2 l0_3 a0_4 = some r) :
  Calls Tryz.prog 97 #[.agg #[.int .i64 a0_0, .slice A0_1 l0_1.length c0_1, .int .i64 a0_2, .slice A0_3 l0_3.length c0_3, .int .i64 a0_4]] w fun e w' => e = .returned (.bool r) ∧ Below w.heap.size w w' := by
 obtain rfl := Option.some.inj h
 exact wr_ a0_0 A0_1 c0_1 l0_1 a0_2 A0_3 c0_3 l0_3 a0_4 w hr0_1 hc0_1 hr0_3 hc0_3
end Go.Proofs.YtiocgaekoeekgaaGreat.P
end
section
namespace Go.Proofs.YtiocgaekoeekgaaGreat.P
open Go.RowKit YtiocgaekoeekgaaGreatW.PrintWords YtiocgaekoeekgaaGreatW.PrintLast YtiocgaekoeekgaaGreatW.PrintMore
attribute [local go_sem] ub_ rb_ cc_ bc_ kb_ jb_ tb_ qb_   
set_option linter.unusedVariables false
set_option linter.unusedSimpArgs false
open Go.Maps (Keyed)
abbrev dc_ := S56
def encP (p : Int × Int) : Value := .agg #[.int .i64 p.1, .int .i64 p.2]
theorem xj_ : ∀ x y, encP x = encP y → x = y := fun x y h => by
 simp [encP] at h
 exact Prod.ext h.1 h.2
theorem laidOut : laidOutB Tryz.prog = true := by kernel_rfl
theorem ii_ : Keyed Tryz.prog 179 := Keyed.of_law (deep_law_laid laidOut (m := 2) Td_ (of_decide_eq_true Ti_) Ti_ (by rw [Tryz.underlying179]))
theorem ku_ : ∃ n, Tryz.prog.types.size = n + 1 := ⟨Tryz.prog.types.size - 1, by have h : 0 < Tryz.prog.types.size := of_decide_eq_true Ti_; omega⟩
theorem keyType2 : Tryz.prog.keyType 179 = true := by kernel_rfl
theorem mr_ : Tryz.prog.cellsOf 179 = 2 := by kernel_rfl
theorem cellsOf1 : Tryz.prog.cellsOf 3 = 1 := by kernel_rfl
theorem keyOfP {a b : Int} (ha : 0 ≤ a ∧ a < 20) (hb : 0 ≤ b ∧ b < 20) : ∃ l, keyOf Tryz.prog 179 (encP (a, b)) = some l := by
 obtain ⟨n, hn⟩ := ku_
 have wa : (Lit.int .i64 a).wf = true := WalkArith.wf_i64 Td_
 have wb : (Lit.int .i64 b).wf = true := WalkArith.wf_i64 Td_
 refine ⟨.string (keyBytes [.int .i64 a, .int .i64 b]), ?_⟩
 unfold keyOf encP
 rw [Tryz.underlying179]
 simp only [keyType2, Value.formed, Tryz.underlying179, mr_, Value.cells, hn]
 simp [Program.keyLits, Tryz.underlying179, Tryz.underlying3, mr_, cellsOf1, wa, wb, List.range_succ]
def kc_ (m : List ((Int × Int) × Int)) (r : dc_) : List ((Int × Int) × Int) :=
 if r.f1.length = 1 ∧ 0 ≤ rd r.f1 0 ∧ rd r.f1 0 < 20 then mput m (r.f0, rd r.f1 0) ((mget m (r.f0, rd r.f1 0)).getD 0 + 1) else m
def hd_ (l : List dc_) : List ((Int × Int) × Int) := l.foldl kc_ []
abbrev encM (m : List ((Int × Int) × Int)) : List ((Int × Int) × Value) := m.map fun p => (p.1, Value.int .i64 p.2)
theorem lo_ (m : List ((Int × Int) × Int)) (x : Int × Int) : (mget (encM m) x).getD (.int .i64 0) = .int .i64 ((mget m x).getD 0) := by
 rw [fm_]; cases mget m x <;> rfl
theorem hl_ (l : List dc_) (x : Int × Int) : 0 ≤ (mget (hd_ l) x).getD 0 ∧ (mget (hd_ l) x).getD 0 ≤ l.length := by
 suffices h : ∀ (l : List dc_) (m : List ((Int × Int) × Int)) (n : Nat), (∀ x, 0 ≤ (mget m x).getD 0 ∧ (mget m x).getD 0 ≤ n) → ∀ x, 0 ≤ (mget (l.foldl kc_ m) x).getD 0 ∧ (mget (l.foldl kc_ m) x).getD 0 ≤ (n + l.length : Nat) by
  have := h l [] 0 (fun x => by simp [mget]) x; rw [Nat.zero_add] at this; exact this
 intro l
 induction l with
 | nil => intro m n h x; exact h x
 | cons r l ih =>
  intro m n h x
  have h2 : ∀ y, 0 ≤ (mget (kc_ m r) y).getD 0 ∧ (mget (kc_ m r) y).getD 0 ≤ ((n + 1 : Nat) : Int) := by
   intro y; unfold kc_
   split
   ·by_cases e : y = (r.f0, rd r.f1 0)
    (focus (subst e; rw [wc_]; have := h (r.f0, rd r.f1 0); simp only [Option.getD_some]; omega)); rw [qd_ _ _ _ e]; have := h y; omega
   have := h y; omega
  have := ih (kc_ m r) (n + 1) h2 x; rw [List.foldl_cons, List.length_cons, show n + (l.length + 1) = n + 1 + l.length by omega]; exact this
theorem bt_ (l : List dc_) (k : Nat) (h : k < l.length) : hd_ (l.take (k + 1)) = kc_ (hd_ (l.take k)) l[k] := by
 unfold hd_
 rw [List.take_succ_eq_append_getElem h, List.foldl_append]
 rfl
theorem map_incr {P : Program} {κ : Type} [DecidableEq κ] {kt t e : TypeId} {enc : κ → Value} {w : World} {b : Nat} {m : List (κ × Value)} {z : Value} (h : MapOf P kt enc w b m) (K : Keyed P kt) (hinj : ∀ x y, enc x = enc y → x = y) (ht : P.underlying t = some (.map kt e)) (hz : ∀ w, (zeroValue e).run P w = .ok z w)
  (k : κ) (hk : ∃ l, keyOf P kt (enc k) = some l) (v v2 : Value) (hv : (mget m k).getD z = v) :
  ∃ w1 n w2, (Instr.mapEntry t (.map (some b)) (enc k)).run P w = .ok (.tuple #[v, .int .i64 n]) w1 ∧ (Instr.lookup t (.map (some b)) (enc k) false).run P w1 = .ok v w1 ∧ (Instr.entryStore t (.map (some b)) (.int .i64 n) v2).run P w1 = .ok () w2 ∧ MapOf P kt enc w2 b (mput m k v2) ∧ w.grownBy w2 (some b) ∧ w2.heap.size = w.heap.size := by
 obtain ⟨w1, n, h1, _, _, ⟨m1, hm1, hg1⟩, h4⟩ := h.entry K hinj ht hz k hk
 obtain ⟨w2, h5, h6, h7, h8⟩ := h4 v2
 have h9 := hm1.lookup K hinj ht (hz w1) k hk false
 rw [hg1, hv] at h9
 exact ⟨w1, n, w2, by rw [h1, hv], h9, h5, h6, h7, h8⟩
def ek_ (l0 : List dc_) : Bool := l0.all (fun r => decide (0 ≤ r.f0 ∧ r.f0 < 20)) && decide (l0.length ≤ 1000000000000)
def th_ (l0 : List dc_) : List (List Int) := (List.range 20).map fun (s : Nat) => ((List.range 20).map fun (x : Nat) => (x : Int)).filter fun x => decide (0 < (mget (hd_ l0) ((s : Int), x)).getD 0)
def pc_ (m : List ((Int × Int) × Int)) (s n : Nat) : List Int := ((List.range n).map fun (x : Nat) => (x : Int)).filter fun x => decide (0 < (mget m ((s : Int), x)).getD 0)
theorem yo_ (m : List ((Int × Int) × Int)) (s n : Nat) : pc_ m s (n + 1) = pc_ m s n ++ if 0 < (mget m ((s : Int), (n : Int))).getD 0 then [(n : Int)] else [] := by
 unfold pc_
 rw [List.range_succ, List.map_append, List.filter_append]
 congr 1
 by_cases h : 0 < (mget m ((s : Int), (n : Int))).getD 0 <;> simp [h]
theorem uk_ (m : List ((Int × Int) × Int)) (s n : Nat) : (pc_ m s n).length ≤ n := by
 unfold pc_
 have := List.length_filter_le (fun x => decide (0 < (mget m ((s : Int), x)).getD 0)) ((List.range n).map fun (x : Nat) => (x : Int))
 simpa using this
structure URows (base g : Nat) (row : Nat → List Int) (i : Nat) (W : World) (vals : List Value) (f : Nat → Nat) : Prop where
 len : vals.length = 20
 blk : W.heap[g]? = some (.cells vals.toArray 35 (0, 0))
 ge : base ≤ g
 done : ∀ j, j < i → ∃ v, vals[j]? = some v ∧ Kd.R (Kd.int .i64) 3 W base (fun k => k ≠ g ∧ f k = j) v (row j)
 rest : ∀ j, i ≤ j → j < 20 → vals[j]? = some (.slice none 0 0)
structure UCur (base g N : Nat) (row : Nat → List Int) (i : Nat) (W : World) (vals : List Value) (f : Nat → Nat) (u : Value) (cur : List Int) : Prop where
 len : vals.length = 20
 blk : W.heap[g]? = some (.cells vals.toArray 35 (0, 0))
 ge : base ≤ g
 done : ∀ j, j < i → ∃ v, vals[j]? = some v ∧ Kd.R (Kd.int .i64) 3 W base (fun k => (k ≠ g ∧ f k = j) ∧ k < N) v (row j)
 rest : ∀ j, i < j → j < 20 → vals[j]? = some (.slice none 0 0)
 at_ : vals[i]? = some u
 cur : Kd.R (Kd.int .i64) 3 W base (fun k => k ≠ g ∧ N ≤ k) u cur
 gN : g < N
 size : N ≤ W.heap.size
theorem URows.start {base g : Nat} {row : Nat → List Int} {i : Nat} {W : World} {vals : List Value} {f : Nat → Nat} (h : URows base g row i W vals f) (hi : i < 20) : UCur base g W.heap.size row i W vals f (.slice none 0 0) [] :=
 ⟨h.len, h.blk, h.ge, fun j hj => by obtain ⟨v, h1, h2⟩ := h.done j hj; exact ⟨v, h1, Kd.R_mono (Kd.R_bound h2) (fun k hk => ⟨hk.1, hk.2.2.1⟩)⟩, fun j hj hj2 => h.rest j Td_ hj2, h.rest i (Nat.le_refl _) hi, Kd.R_nil _ _ _ _ _, bb_ h.blk, Nat.le_refl _⟩
theorem UCur.below {base g N : Nat} {row : Nat → List Int} {i : Nat} {W W1 : World} {vals : List Value} {f : Nat → Nat} {u : Value} {cur : List Int} (h : UCur base g N row i W vals f u cur) (hb : Below W.heap.size W W1) : UCur base g N row i W1 vals f u cur :=
 ⟨h.len, la_ h.blk hb, h.ge, fun j hj => by obtain ⟨v, h1, h2⟩ := h.done j hj; exact ⟨v, h1, Kd.R_below h2 hb⟩, h.rest, h.at_, Kd.R_below h.cur hb, h.gN, Nat.le_trans h.size hb.size⟩
theorem UCur.put {base g N : Nat} {row : Nat → List Int} {i : Nat} {W W1 : World} {vals : List Value} {f : Nat → Nat} {u u1 : Value} {cur cur1 : List Int} (h : UCur base g N row i W vals f u cur) (hg : W.grownBy W1 u.ownBlock)
  (hr : Kd.R (Kd.int .i64) 3 W1 base (fun k => k ≠ g ∧ N ≤ k) u1 cur1) : UCur base g N row i (W1.setCell ⟨g, i, none⟩ u1) (vals.set i u1) f u1 cur1 := by
 have hi : i < vals.length := (List.getElem?_eq_some_iff.1 h.at_).1
 have hne : ∀ k, (k ≠ g ∧ N ≤ k) → k ≠ (⟨g, i, none⟩ : Addr).block := fun k hk => hk.1
 have hub : ∀ k, k < N → some k ≠ u.ownBlock := fun k hk e => by have := (h.cur.1 k e.symm).2; omega
 have hb1 : W1.heap[g]? = some (.cells vals.toArray 35 (0, 0)) := fb_ h.blk hg (hub g h.gN)
 refine ⟨by rw [List.length_set]; exact h.len, ?_, h.ge, fun j hj => ?_, fun j hj hj2 => ?_, by rw [List.getElem?_set_self hi], Kd.R_far hr hne u1, h.gN, Nat.le_trans h.size (by simp [World.setCell]; exact hg.size)⟩
 ·refine jc_ hb1 i u1 ?_
  simp
 ·obtain ⟨v, h1, h2⟩ := h.done j hj
  refine ⟨v, by rw [List.getElem?_set_ne Td_]; exact h1, Kd.R_far (Kd.R_grown h2 hg (fun k hk => hub k hk.2)) (fun k hk => hk.1.1) u1⟩
 rw [List.getElem?_set_ne Td_]
 exact h.rest j hj hj2
theorem UCur.finish {base g N : Nat} {row : Nat → List Int} {i : Nat} {W : World} {vals : List Value} {f : Nat → Nat} {u : Value} (h : UCur base g N row i W vals f u (row i)) : URows base g row (i + 1) W vals (fun k => if k < N then f k else i) := by
 refine ⟨h.len, h.blk, h.ge, fun j hj => ?_, fun j hj hj2 => h.rest j Td_ hj2⟩
 by_cases e : j = i
 ·subst e
  exact ⟨u, h.at_, Kd.R_mono h.cur (fun k hk => ⟨hk.1, by rw [if_neg Td_]⟩)⟩
 obtain ⟨v, h1, h2⟩ := h.done j Td_
 exact ⟨v, h1, Kd.R_mono h2 (fun k hk => ⟨hk.1.1, by rw [if_pos hk.2]; exact hk.1.2⟩)⟩
theorem URows.toS {base g : Nat} {row : Nat → List Int} {W : World} {vals : List Value} {f : Nat → Nat} (h : URows base g row 20 W vals f) :
  Kd.S (Kd.slice 3 (Kd.int .i64)) 35 W base (fun _ => True) (.slice (some ⟨g, 0, none⟩) 20 20) ((List.range 20).map row) := by
 refine ⟨f, fun _ _ => trivial, vals, ⟨?_, .inr ⟨g, 20, vals.toArray, rfl, h.ge, h.blk, Tt_, by unfold maxLen; omega, by simp [h.len, Kd.tag, Kd.slice], ?_⟩⟩, ?_, fun j p hj => ?_⟩
 ·simp [h.len, Kd.tag, Kd.slice]
 ·have : vals.take 20 = vals := by rw [← h.len]; exact List.take_length
  simpa [Kd.tag, Kd.slice] using this
 ·simp [h.len, Kd.tag, Kd.slice]
 obtain ⟨x, n⟩ := p
 rw [List.getElem?_zipIdx] at hj
 obtain ⟨y, hy, hp⟩ := Option.map_eq_some_iff.1 hj
 simp only [Nat.zero_add, Prod.mk.injEq] at hp
 obtain ⟨rfl, rfl⟩ := hp
 have hj20 : j < 20 := by have := (List.getElem?_eq_some_iff.1 hy).1; simpa using this
 rw [List.getElem?_map, List.getElem?_range hj20] at hy
 have hy2 : row j = y := by simpa using hy
 obtain ⟨v, h1, h2⟩ := h.done j hj20
 have h3 : (vals.drop (j * 1)).take 1 = [v] := by
  obtain ⟨hl, hv⟩ := List.getElem?_eq_some_iff.1 h1; rw [Nat.mul_one, List.drop_eq_getElem_cons hl, hv]; rfl
 show ((Kd.tag f (Kd.slice 3 (Kd.int .i64))).M W base _ (y, j) ((vals.drop (j * 1)).take 1))
 rw [h3]
 refine ⟨v, rfl, ?_⟩
 rw [← hy2]
 refine Kd.R_mono h2 (fun k hk => ⟨⟨trivial, ?_⟩, hk.2⟩)
 simp [Value.ownBlock]
 exact hk.1
theorem tr_ (A0 : Option Addr) (c0 : Nat) (l0 : List dc_) (w : World) (hr0 : Kd.C k56 w A0 l0.length l0) (hc0 : l0.length ≤ c0) (hu : ek_ l0 = true) :
  Calls Tryz.prog 98 #[.slice A0 l0.length c0] w fun e w' => ∃ v0_ : Value, e = .returned (v0_) ∧ Kd.S (Kd.slice 3 (Kd.int .i64)) 35 w' w.heap.size (fun _ => True) v0_ (th_ l0) ∧ Below w.heap.size w w' := by
 have hmm := @run_makeMap Tryz.prog
 have hu2 := hu
 simp only [ek_, Bool.and_eq_true, List.all_eq_true, decide_eq_true_eq] at hu2
 obtain ⟨hu3, hlen⟩ := hu2
 have HU := aM_ hu3
 have HR := aM_ hr0
 have HC := aM_ hc0
 clear hr0 hc0 hu hu3
 go_enter Tryz.func98, Tryz.ntmps98
 go_wp2
 go_loopg [12] l0.length (fun gg s12 wr => ∃ kk : Nat, kk ≤ l0.length ∧ l0.length - kk ≤ gg ∧ s12 = .int .i64 kk ∧ Az (MapOf Tryz.prog 179 encP wr w.heap.size (encM (hd_ (l0.take kk)))) ∧ Az (Below w.heap.size w wr) ∧ Az (w.heap.size < wr.heap.size))
 case atStart => exact ⟨0, Nat.zero_le _, Td_, rfl, ⟨MapOf.made _ _ _ _⟩, ⟨aa_ (Below.refl _ _) _⟩, ⟨Tt_⟩⟩
 obtain ⟨kk, hkk, hg, rfl, HM, HB, HS⟩ := hrel
 by_cases hlt : kk < l0.length
 ·have hltz : (kk : Int) < (l0.length : Int) := by omega
  obtain ⟨ad, A1, c1, A3, c3, hA, h0, h1, h2, h3, h4, l1, g1, l3, g3⟩ := gj_ (Kd.C_below HR.out HB.out) kk Td_ hltz; have hx : wb_ l0 kk = l0[kk] := by simp [wb_, List.getD_eq_getElem?_getD, List.getElem?_eq_getElem hlt]
  have hlhs := HU.out l0[kk] (List.getElem_mem hlt); rw [← hx] at hlhs; have hsn := bt_ l0 kk hlt; rw [← hx] at hsn; generalize wb_ l0 kk = y at *; rw [Int.toNat_natCast] at h0 h1 h2 h3 h4; subst hA; clear hx l3 g3; have HSN := aM_ hsn; clear hsn
  by_cases hone : y.f1.length = 1
  ·obtain ⟨ad1, hA1, hcell⟩ := Kd.at_int g1 0 Td_ Td_
   have hcell' : wr.cell? ad1 = some (.int .i64 (rd y.f1 0)) := hcell; subst hA1; have hlx : wr.heap.size > ad1.block := World.block_lt_of_cell? wr _ hcell'; have hcell2 : (wr.alloc (.cells #[.int .i64 y.f0, .slice (some ad1) 1 c1, .int .i64 y.f2.f0, .slice A3 y.f2.f1.length c3, .int .i64 y.f3] 56)).cell? ad1 = some (.int .i64 (rd y.f1 0)) := (World.cell?_alloc_lt _ _ _ hlx).trans hcell'; rw [hone] at h1; generalize hrd : rd y.f1 0 = x at *; have HRD := aM_ hrd; clear hrd; have hsym := aM_ (sk_ x); clear hcell g1 hcell' hlx; have HM1 := aM_ (HM.out.alloc (.cells #[.int .i64 y.f0, .slice (some ad1) 1 c1, .int .i64 y.f2.f0, .slice A3 y.f2.f1.length c3, .int .i64 y.f3] 56)); have HB1 := aM_ (aa_ HB.out (.cells #[.int .i64 y.f0, .slice (some ad1) 1 c1, .int .i64 y.f2.f0, .slice A3 y.f2.f1.length c3, .int .i64 y.f3] 56)); have HBK := aM_ (oa_ wr (.cells #[.int .i64 y.f0, .slice (some ad1) 1 c1, .int .i64 y.f2.f0, .slice A3 y.f2.f1.length c3, .int .i64 y.f3] 56)); have HS1 : Az (w.heap.size < (wr.alloc (.cells #[.int .i64 y.f0, .slice (some ad1) 1 c1, .int .i64 y.f2.f0, .slice A3 y.f2.f1.length c3, .int .i64 y.f3] 56)).heap.size) := ⟨Nat.lt_of_lt_of_le HS.out Tt_⟩
   cases hsx : ze_ x with
   | true =>
    rw [hsx] at hsym
    go_wp2_with fail
    refine (gram_symbol.calls _ _ _ hsym.out).mono ?_; rintro e w' ⟨rfl, ⟨nd, rfl⟩⟩; clear HM HB HS h0 h1 h2 h3 h4; generalize hW : (wr.alloc (.cells #[.int .i64 y.f0, .slice (some ad1) 1 c1, .int .i64 y.f2.f0, .slice A3 y.f2.f1.length c3, .int .i64 y.f3] 56)).drewN nd = W1; have HM2 : Az (MapOf Tryz.prog 179 encP W1 w.heap.size (encM (hd_ (l0.take kk)))) := ⟨by rw [← hW]; exact HM1.out⟩; have HB2 : Az (Below w.heap.size w W1) := ⟨by rw [← hW]; exact ca_ HB1.out _⟩; have HBK2 : Az (W1.heap[wr.heap.size]? = some (.cells #[.int .i64 y.f0, .slice (some ad1) 1 c1, .int .i64 y.f2.f0, .slice A3 y.f2.f1.length c3, .int .i64 y.f3] 56 (0, 0))) := ⟨by rw [← hW]; exact ja_ HBK.out _⟩; have HS2 : Az (w.heap.size < W1.heap.size) := ⟨by rw [← hW]; exact HS1.out⟩; have k2 : W1.cell? ad1 = some (.int .i64 x) := by rw [← hW]; exact hcell2
    clear hcell2 HM1 HB1 HBK HS1 hW; have d0 := ba_ HBK2.out 0; have d1 := ba_ HBK2.out 1; simp only [List.getElem?_toArray, List.getElem?_cons_succ, List.getElem?_cons_zero] at d0 d1; have hsb : 0 ≤ x ∧ x < 20 := by simpa [ze_] using hsx
    obtain ⟨hx0, hx1⟩ := hsb; obtain ⟨hy0, hy1⟩ := hlhs; have hkey := keyOfP (a := y.f0) (b := x) ⟨hy0, hy1⟩ ⟨hx0, hx1⟩; have hb := hl_ (l0.take kk) (y.f0, x); obtain ⟨hb0, hb1⟩ := hb; have hb2 : (l0.take kk).length ≤ kk := List.length_take_le _ _; have hgv := lo_ (hd_ (l0.take kk)) (y.f0, x); have hmp := dm_ (Value.int .i64) (y.f0, x) ((mget (hd_ (l0.take kk)) (y.f0, x)).getD 0 + 1) (hd_ (l0.take kk))
    have hstep : kc_ (hd_ (l0.take kk)) y = mput (hd_ (l0.take kk)) (y.f0, x) ((mget (hd_ (l0.take kk)) (y.f0, x)).getD 0 + 1) := by
     unfold kc_; rw [if_pos ⟨hone, by rw [HRD.out]; exact ⟨hx0, hx1⟩⟩, HRD.out]
    generalize (mget (hd_ (l0.take kk)) (y.f0, x)).getD 0 = v at *; have hv1 : v ≤ 1000000000000 := by omega
    have hlk := (HM2.out.drew).lookup ii_ xj_ Tryz.underlying178 (nf_ W1.drew) (y.f0, x) hkey false; rw [hgv] at hlk; have hlk2 : (Instr.lookup 178 (.map (some w.heap.size)) (.agg #[.int .i64 y.f0, .int .i64 x]) false).run Tryz.prog W1.drew = .ok (.int .i64 v) W1.drew := hlk; obtain ⟨w3, n3, w4, hE1, hL3, hE2, hm4, hg4, hz4⟩ := map_incr (HM2.out.drew) ii_ xj_ Tryz.underlying178 nf_ (y.f0, x) hkey (.int .i64 v) (.int .i64 (v + 1)) hgv; have hE3 : (Instr.mapEntry 178 (.map (some w.heap.size)) (.agg #[.int .i64 y.f0, .int .i64 x])).run Tryz.prog W1.drew = .ok (.tuple #[.int .i64 v, .int .i64 n3]) w3 := hE1; rw [hmp, ← hstep] at hm4; have hL4 : (Instr.lookup 178 (.map (some w.heap.size)) (.agg #[.int .i64 y.f0, .int .i64 x]) false).run Tryz.prog w3 = .ok (.int .i64 v) w3 := hL3; have hwr : IntKind.i64.wrap (v + 1) = v + 1 := IntWalk.i64_in _ Td_; have HM4 := aM_ hm4; have HG4 := aM_ hg4; have HZ4 := aM_ hz4; clear hlk hE1 hL3 hm4 hg4 hz4 hmp hstep hgv hb2
    go_wp2_with fail
    go_region
    all_goals
     go_wp2
     go_roundg (l0.length - (kk + 1))
     case measure => omega
     case rel =>
      exact ⟨kk + 1, Td_, Td_, Va_, ⟨by rw [HSN.out]; exact HM4.out⟩, ⟨(HB2.out.drew).grown HG4.out HB2.out.size (fun j e => by cases e; exact Nat.le_refl _)⟩, ⟨by rw [HZ4.out]; exact HS2.out⟩⟩
   | false =>
    rw [hsx] at hsym
    go_wp2_with fail
    refine (gram_symbol.calls _ _ _ hsym.out).mono ?_; rintro e w' ⟨rfl, ⟨nd, rfl⟩⟩
    go_wp2
    go_roundg (l0.length - (kk + 1))
    case measure => omega
    case rel =>
     refine ⟨kk + 1, Td_, Td_, Va_, ⟨?_⟩, ⟨ca_ HB1.out _⟩, ⟨HS1.out⟩⟩
     have hst : kc_ (hd_ (l0.take kk)) y = hd_ (l0.take kk) := by
      unfold kc_; rw [if_neg (fun h => by rw [HRD.out] at h; simp [ze_, h.2.1] at hsx; omega)]
     rw [HSN.out, hst]; exact HM1.out.drewN _
  have ht : ((y.f1.length : Int) == 1) = false := beq_eq_false_iff_ne.2 Td_
  have hst : kc_ (hd_ (l0.take kk)) y = hd_ (l0.take kk) := by
   unfold kc_; rw [if_neg (fun h => hone h.1)]
  have HST := aM_ hst; clear hst
  go_wp2
  go_roundg (l0.length - (kk + 1))
  case measure => omega
  case rel => exact ⟨kk + 1, Td_, Td_, Va_, ⟨by rw [HSN.out, HST.out]; exact HM.out.alloc _⟩, ⟨aa_ HB.out _⟩, ⟨Nat.lt_of_lt_of_le HS.out Tt_⟩⟩
 have hltz : ¬ (kk : Int) < (l0.length : Int) := by omega
 have hkl : kk = l0.length := by omega
 subst hkl
 have HM0 : Az (MapOf Tryz.prog 179 encP wr w.heap.size (encM (hd_ l0))) := ⟨by have := HM.out; rwa [List.take_length] at this⟩
 clear HM
 have HFB := aM_ (hl_ l0)
 have HUP := aM_ (show (List.range 20).map (fun j => pc_ (hd_ l0) j 20) = th_ l0 from rfl)
 generalize hd_ l0 = m at *
 have hmk : ∀ w, (Instr.makeSlice 111 (.int .i64 20) (.int .i64 20)).run Tryz.prog w = .ok (.slice (some ⟨w.heap.size, 0, none⟩) 20 20) (w.alloc (.cells (List.replicate 20 (Value.slice none 0 0)).toArray 35)) := fun _ => by kernel_rfl
 have HU0 : Az (∃ vals f, URows w.heap.size wr.heap.size (fun j => pc_ m j 20) 0 (wr.alloc (.cells (List.replicate 20 (Value.slice none 0 0)).toArray 35)) vals f) :=
  ⟨List.replicate 20 (.slice none 0 0), fun _ => 0, ⟨Tt_, oa_ _ _, Nat.le_of_lt HS.out, fun j hj => absurd hj (Nat.not_lt_zero _), fun j _ hj => by rw [List.getElem?_replicate, if_pos hj]⟩⟩
 have HM1 := aM_ (HM0.out.alloc (.cells (List.replicate 20 (Value.slice none 0 0)).toArray 35))
 have HB1 := aM_ (aa_ HB.out (.cells (List.replicate 20 (Value.slice none 0 0)).toArray 35))
 clear HM0 HB HS
 go_wp2
 generalize wr.heap.size = g at *
 go_loopg [43] 20 (fun gg s43 W => ∃ i : Nat, i ≤ 20 ∧ 20 - i ≤ gg ∧ s43 = .int .i64 i ∧ Az (∃ vals f, URows w.heap.size g (fun j => pc_ m j 20) i W vals f) ∧ Az (MapOf Tryz.prog 179 encP W w.heap.size (encM m)) ∧ Az (Below w.heap.size w W))
 case atStart => exact ⟨0, Td_, Td_, rfl, HU0, HM1, HB1⟩
 clear HU0 HM1 HB1
 obtain ⟨i, hi, hgi, rfl, HU1, HM1, HB1⟩ := hrel
 by_cases hi20 : i < 20
 ·have hi20z : (i : Int) < 20 := by omega
  obtain ⟨vals, f, hU1⟩ := HU1.out; have HC1 := aM_ (hU1.start hi20); clear HU1 hU1; generalize wr.heap.size = N at HC1
  go_wp2
  go_loopg [46] 20 (fun gg2 s46 W2 => ∃ x : Nat, x ≤ 20 ∧ 20 - x ≤ gg2 ∧ s46 = .int .i64 x ∧ Az (∃ vals f u, UCur w.heap.size g N (fun j => pc_ m j 20) i W2 vals f u (pc_ m i x)) ∧ Az (MapOf Tryz.prog 179 encP W2 w.heap.size (encM m)) ∧ Az (Below w.heap.size w W2))
  case atStart => exact ⟨0, Td_, Td_, rfl, ⟨_, _, _, HC1.out⟩, HM1, HB1⟩
  clear HC1 HM1 HB1; obtain ⟨x, hx, hgx, rfl, HC2, HM2, HB2⟩ := hrel; obtain ⟨vals, f, u, hC2⟩ := HC2.out; have HC3 := aM_ hC2; clear HC2 hC2; have hc : wr.cell? ⟨g, i, none⟩ = some u := (ba_ HC3.out.blk i).trans (by rw [List.getElem?_toArray]; exact HC3.out.at_); have hfz := ha_ HC3.out.blk i; have hsu := yo_ m i x; have hrl := uk_ m i x; obtain ⟨A4, c4, rfl⟩ := Kd.R_slice HC3.out.cur
  by_cases hx20 : x < 20
  ·have hx20z : (x : Int) < 20 := by omega
   have hkey := keyOfP (a := (i : Int)) (b := (x : Int)) ⟨Td_, Td_⟩ ⟨Td_, Td_⟩; have hgv := lo_ m ((i : Int), (x : Int)); generalize (mget m ((i : Int), (x : Int))).getD 0 = v at hgv hsu; have HGV := aM_ hgv; have HSU := aM_ hsu; clear hgv hsu
   by_cases hv : 0 < v
   ·have hub : ∀ k, k < N → some k ≠ (Value.slice A4 (pc_ m i x).length c4).ownBlock := fun k hk e => by have := (HC3.out.cur.1 k e.symm).2; omega
    have hgn := HC3.out.gN; have hil : i < vals.toArray.size := by have := HC3.out.len; simp; omega
    go_wp2_with (first
     | (at_lookup; refine dd_ rfl (.tmp 49) (.tmp 52) 178 3 rfl ii_ xj_ Tryz.underlying178 nf_ rfl HM2.out ((i : Int), (x : Int)) rfl hkey (.int .i64 v) HGV.out ?_)
     | (at_builtin; refine Kd.R_append (Kd.int .i64) (w0 := w) w.heap.size rfl (.tmp 60) (.tmp 62) 35 3 (.int .i64 0) 8 rfl Tryz.underlying35 qg_ rfl Tm_ Td_ (.slice A4 (pc_ m i x).length c4) (pc_ m i x) (x : Int) [.int .i64 x] (fun k => k ≠ g ∧ N ≤ k) (fun _ => False) rfl rfl rfl (fun _ hk => hk.elim) (fun k hk => ⟨fun e => by have := HC3.out.gN; have := HC3.out.size; omega, Nat.le_trans HC3.out.size hk⟩) HC3.out.cur HB2.out HB2.out.size Td_ ?_; intro v1 w1 ho hb hgr hat; have ho' : Kd.R (Kd.int .i64) 3 w1 w.heap.size (fun k => k ≠ g ∧ N ≤ k) v1 (pc_ m i x ++ [(x : Int)]) := ho; have HR1 := aM_ ho'; have HB3 := aM_ hb; have HG1 := aM_ hgr; obtain ⟨A5, c5, rfl⟩ := Kd.R_slice ho'; clear ho ho' hb hgr hat)
     | (refine gate_ (.store 35 (.tmp 64) (.tmp 63)) rfl ?_; have hblk1 := aM_ (fb_ HC3.out.blk HG1.out (hub g hgn)); go_loud (refine tk_ rfl rfl 35 (.tmp 64) (.tmp 63) rfl (.slice A5 ((pc_ m i x).length + 1) c5) rfl rfl rfl rfl rfl hblk1.out hil ?_); intro w2 hw2)
     | fail)
    go_roundg (20 - (x + 1))
    case measure => omega
    case rel =>
     have e5 : (Value.slice A5 ((pc_ m i x).length + 1) c5) = .slice A5 (pc_ m i x ++ [(x : Int)]).length c5 := by rw [List.length_append]; rfl
     rw [e5] at hw2; subst hw2; refine ⟨x + 1, Td_, Td_, Va_, ⟨vals.set i (.slice A5 (pc_ m i x ++ [(x : Int)]).length c5), f, .slice A5 (pc_ m i x ++ [(x : Int)]).length c5, ?_⟩, ⟨?_⟩, ⟨?_⟩⟩; (focus (rw [HSU.out, if_pos hv]; have h9 := HC3.out.put HG1.out HR1.out; rw [← e5] at h9 ⊢; exact h9)); (focus (have hbN : w.heap.size < N := Nat.lt_of_le_of_lt HC3.out.ge HC3.out.gN; refine (HM2.out.grown HG1.out (hub _ hbN)).setCell _ (fun e => ?_) _; exact HM2.out.not_cells HC3.out.blk e)); exact HB3.out.setCell HC3.out.ge _
   have hgt : ¬ (v > 0) := by omega
   go_wp2_with (first
    | (at_lookup; refine dd_ rfl (.tmp 49) (.tmp 52) 178 3 rfl ii_ xj_ Tryz.underlying178 nf_ rfl HM2.out ((i : Int), (x : Int)) rfl hkey (.int .i64 v) HGV.out ?_)
    | fail)
   go_roundg (20 - (x + 1))
   case measure => omega
   case rel =>
    refine ⟨x + 1, Td_, Td_, Va_, ⟨vals, f, .slice A4 (pc_ m i x).length c4, ?_⟩, HM2, HB2⟩; rw [HSU.out, if_neg Td_, List.append_nil]; exact HC3.out
  have hx20z : ¬ (x : Int) < 20 := by omega
  have hxe : x = 20 := by omega
  subst hxe; obtain ⟨A6, c6, e6, hle6, hC6⟩ := Kd.R_reads HC3.out.cur; injection e6 with e7 e8 e9; subst e7 e9; have HC6 := aM_ hC6; have HL6 := aM_ hle6; clear hC6 hle6 e8; have hil : i < vals.toArray.size := by have := HC3.out.len; simp; omega
  go_wp2_with fail
  refine (slices_Clone_int_int.calls _ _ (pc_ m i 20) (pc_ m i 20) _ HC6.out HL6.out (if_pos Td_)).mono ?_; rintro e w1 ⟨v1, rfl, hR1, hb1⟩; have HR1 := aM_ (Kd.R_lower (Kd.R_mono (Kd.R_bound hR1) (ok' := fun k => k ≠ g ∧ N ≤ k) (fun k hk => ⟨fun e => by have := HC3.out.gN; have := HC3.out.size; omega, Nat.le_trans HC3.out.size hk.2.1⟩)) HB2.out.size); have HM1 := aM_ (HM2.out.below hb1); have HB1 := aM_ (da_ HB2.out hb1); have HC1 := aM_ (HC3.out.below hb1); have hblk1 := aM_ HC1.out.blk; obtain ⟨A7, c7, rfl⟩ := Kd.R_slice hR1; clear hR1 hb1 hc hfz HC3 HM2 HB2 HC6 HL6; generalize hrn : (pc_ m i 20).length = n7 at *
  go_wp2_with (first
    | (refine gate_ (.store 35 (.tmp 73) (.tmp 72)) rfl ?_; refine tk_ rfl rfl 35 (.tmp 73) (.tmp 72) rfl (.slice A7 n7 c7) rfl rfl rfl rfl rfl hblk1.out hil ?_; intro w2 hw2)
    | fail)
  go_roundg (20 - (i + 1))
  case measure => omega
  case rel =>
   subst hw2; refine ⟨i + 1, Td_, Td_, Va_, ⟨vals.set i (.slice A7 n7 c7), _, (HC1.out.put (World.grownBy.refl _ _) HR1.out).finish⟩, ⟨HM1.out.setCell _ (HM1.out.not_cells hblk1.out) _⟩, ⟨HB1.out.setCell HC1.out.ge _⟩⟩
 have hi20z : ¬ (i : Int) < 20 := by omega
 have hie : i = 20 := by omega
 subst hie
 obtain ⟨vals, f, hU1⟩ := HU1.out
 have HV := aM_ hU1.toS
 clear hU1 HU1
 go_wp2
 go_ret
 have h9 := HV.out
 rw [HUP.out] at h9
 exact ⟨_, rfl, h9, HB1.out⟩
end Go.Proofs.YtiocgaekoeekgaaGreat.P
end
section
namespace Go.Proofs.YtiocgaekoeekgaaGreat.P
open Go.RowKit YtiocgaekoeekgaaGreatW.PrintWords YtiocgaekoeekgaaGreatW.PrintLast YtiocgaekoeekgaaGreatW.PrintMore
attribute [local go_sem] ub_ rb_ cc_ bc_ kb_ jb_ tb_ qb_   
set_option linter.unusedVariables false
set_option linter.unusedSimpArgs false
inductive Reach (next : Int → List Int) (l0 : List Int) : Int → Prop
 | base {x : Int} : x ∈ l0 → Reach next l0 x
 | step {x y : Int} : Reach next l0 x → y ∈ next x → Reach next l0 y
def nc_ (x : Int) : Prop := 0 ≤ x ∧ x < 20
theorem Reach.sym {next : Int → List Int} {l0 : List Int} (hd : ∀ x, nc_ x → ∀ y ∈ next x, nc_ y) (hl : ∀ x ∈ l0, nc_ x) {x : Int} (h : Reach next l0 x) : nc_ x := by
 induction h with
 | base h => exact hl _ h
 | step _ h ih => exact hd _ ih _ h
def symbols : List Int := (List.range 20).map fun (x : Nat) => (x : Int)
theorem ee_ (x : Int) : x ∈ symbols ↔ nc_ x := by
 unfold symbols nc_
 rw [List.mem_map]
 constructor
 ·rintro ⟨n, hn, rfl⟩
  rw [List.mem_range] at hn; omega
 rintro ⟨h0, h1⟩
 exact ⟨x.toNat, by rw [List.mem_range]; omega, Td_⟩
theorem symbols_sorted : symbols.Pairwise (· < ·) := by decide
theorem symbols_nodup : symbols.Nodup := by decide
open Classical in
noncomputable def jf_ (next : Int → List Int) (l0 : List Int) : List Int := symbols.filter fun y => decide (Reach next l0 y)
theorem gm_ {next : Int → List Int} {l0 : List Int} (hd : ∀ x, nc_ x → ∀ y ∈ next x, nc_ y) (hl : ∀ x ∈ l0, nc_ x) (y : Int) : y ∈ jf_ next l0 ↔ Reach next l0 y := by
 unfold jf_
 rw [List.mem_filter, ee_]
 simp only [decide_eq_true_eq]
 exact ⟨fun h => h.2, fun h => ⟨h.sym hd hl, h⟩⟩
theorem tg_ {l : List Int} (hn : l.Nodup) (hs : ∀ x ∈ l, nc_ x) : l.length ≤ 20 := by
 have hp : l.Perm (symbols.filter fun x => decide (x ∈ l)) := (List.perm_ext_iff_of_nodup hn (symbols_nodup.filter _)).2 fun x => by
  rw [List.mem_filter, ee_]; simp only [decide_eq_true_eq]; exact ⟨fun h => ⟨hs x h, h⟩, fun h => h.2⟩
 rw [hp.length_eq]
 exact List.length_filter_le _ symbols
theorem pn_ (next : Int → List Int) (B : Nat) (hB : B ≤ 1000000) (hlen : ∀ x, nc_ x → (next x).length ≤ B) (hd : ∀ x, nc_ x → ∀ y ∈ next x, nc_ y) (l0 : List Int) (hl : ∀ x ∈ l0, nc_ x) :
  ∀ (M : Nat) (m : List (Int × Int)) (q : List Int) (V : Nat), (∀ x ∈ q, Reach next l0 x) → (∀ x ∈ m.map (·.1), Reach next l0 x) → (m.map (·.1)).Nodup →
   (∀ x, 0 ≤ (mget m x).getD 0 ∧ (mget m x).getD 0 ≤ V) → (∀ x ∈ m.map (·.1), 1 ≤ (mget m x).getD 0) → (∀ x ∈ m.map (·.1), ∀ y ∈ next x, y ∈ q ∨ y ∈ m.map (·.1)) → (∀ x ∈ l0, x ∈ q ∨ x ∈ m.map (·.1)) →
   q.length + B * (20 - m.length) ≤ M → M + V ≤ 100000000 →
   ∃ k r, ah_ next k m q = some r ∧ (∀ y, y ∈ r.map (·.1) ↔ Reach next l0 y) ∧ (r.map (·.1)).Nodup := by
 intro M
 induction M with
 | zero =>
  intro m q V hq hm hn hv hp hc h0 hM hV; have hqe : q = [] := List.length_eq_zero_iff.1 Td_; subst hqe; have hml : m.length ≤ 20 := by have := tg_ hn (fun x hx => (hm x hx).sym hd hl); simpa using this
  refine ⟨1, m, by simp only [ah_]; rw [if_pos Td_], fun y => ⟨hm y, fun h => ?_⟩, hn⟩
  induction h with
  | base h => exact (h0 _ h).elim (fun h => by cases h) id
  | step _ h ih => exact (hc _ ih _ h).elim (fun h => by cases h) id
 | succ M ihM =>
  intro m q V hq hm hn hv hp hc h0 hM hV; have hml : m.length ≤ 20 := by have := tg_ hn (fun x hx => (hm x hx).sym hd hl); simpa using this
  cases q with
  | nil =>
   refine ⟨1, m, by simp only [ah_]; rw [if_pos Td_], fun y => ⟨hm y, fun h => ?_⟩, hn⟩
   induction h with
   | base h => exact (h0 _ h).elim (fun h => by cases h) id
   | step _ h ih => exact (hc _ ih _ h).elim (fun h => by cases h) id
  | cons x q =>
   have hrx := hq x List.mem_cons_self; have hsx := hrx.sym hd hl; have hlx := hlen x hsx; have hvx := hv x; have hguard : (x :: q).length ≤ 1000000000 ∧ (next x).length ≤ 1000000000 ∧ 0 ≤ (mget m x).getD 0 ∧ (mget m x).getD 0 ≤ 1000000000000 := ⟨Td_, Td_, hvx.1, Td_⟩
   have hv2 : ∀ y, 0 ≤ (mget (mput m x ((mget m x).getD 0 + 1)) y).getD 0 ∧ (mget (mput m x ((mget m x).getD 0 + 1)) y).getD 0 ≤ ((V + 1 : Nat) : Int) := by
    intro y
    by_cases e : y = x
    (focus (subst e; rw [wc_]; simp only [Option.getD_some]; omega)); rw [qd_ _ _ _ e]; have := hv y; omega
   have hkeys := eo_ x ((mget m x).getD 0 + 1) m
   have hp2 : ∀ y ∈ (mput m x ((mget m x).getD 0 + 1)).map (·.1), 1 ≤ (mget (mput m x ((mget m x).getD 0 + 1)) y).getD 0 := by
    intro y hy
    by_cases e : y = x
    (focus (subst e; rw [wc_]; simp only [Option.getD_some]; omega)); rw [qd_ _ _ _ e]; refine hp y ?_; rw [hkeys] at hy
    split at hy
    ·exact hy
    exact (List.mem_append.1 hy).elim id (fun h => absurd (List.mem_singleton.1 h) e)
   by_cases h0v : (mget m x).getD 0 = 0
   ·have hxm : x ∉ m.map (·.1) := fun h => by have := hp x h; omega
    rw [if_neg hxm] at hkeys
    have hmlen : (mput m x ((mget m x).getD 0 + 1)).length = m.length + 1 := by
     have := congrArg List.length hkeys
     simpa using this
    have hn2 : ((mput m x ((mget m x).getD 0 + 1)).map (·.1)).Nodup := by
     rw [hkeys, List.nodup_append]; refine ⟨hn, Tt_, fun a ha b hb => ?_⟩; rw [List.mem_singleton] at hb; subst hb; intro e; subst e; exact hxm ha
    have hm2 : ∀ y ∈ (mput m x ((mget m x).getD 0 + 1)).map (·.1), Reach next l0 y := by
     intro y hy; rw [hkeys] at hy; exact (List.mem_append.1 hy).elim (hm y) (fun h => by rw [List.mem_singleton.1 h]; exact hrx)
    have hml2 : m.length + 1 ≤ 20 := by
     have := tg_ hn2 (fun x hx => (hm2 x hx).sym hd hl); rw [List.length_map, hmlen] at this; exact this
    obtain ⟨k, r, hk, hr⟩ := ihM (mput m x ((mget m x).getD 0 + 1)) (q ++ next x) (V + 1)
     (fun y hy => (List.mem_append.1 hy).elim (fun h => hq y (List.mem_cons_of_mem _ h)) (fun h => .step hrx h)) hm2 hn2 hv2 hp2
     (fun z hz y hy => by
      rw [hkeys] at hz ⊢
      rcases List.mem_append.1 hz with h | h
      ·rcases hc z h y hy with h | h
       ·rcases List.mem_cons.1 h with h | h
        ·subst h; exact .inr Tt_
        exact .inl (List.mem_append_left _ h)
       exact .inr (List.mem_append_left _ h)
      rw [List.mem_singleton.1 h] at hy
      exact .inl (List.mem_append_right _ hy))
     (fun z hz => by
      rw [hkeys]
      rcases h0 z hz with h | h
      ·rcases List.mem_cons.1 h with h | h
       ·subst h; exact .inr Tt_
       exact .inl (List.mem_append_left _ h)
      exact .inr (List.mem_append_left _ h))
     (by
      rw [hmlen, List.length_append]; have e1 : 20 - m.length = (20 - (m.length + 1)) + 1 := by omega
      rw [e1, Nat.mul_add, Nat.mul_one, List.length_cons] at hM
      omega) Td_
    exact ⟨k + 1, r, by simp only [ah_]; rw [if_pos hguard, if_pos h0v]; exact hk, hr⟩
   have hxm : x ∈ m.map (·.1) := by
    rw [← el_]
    cases h : mget m x with
    | none => rw [h] at h0v; simp at h0v
    | some v => rfl
   rw [if_pos hxm] at hkeys
   have hmlen : (mput m x ((mget m x).getD 0 + 1)).length = m.length := by
    have := congrArg List.length hkeys
    simpa using this
   obtain ⟨k, r, hk, hr⟩ := ihM (mput m x ((mget m x).getD 0 + 1)) q (V + 1) (fun y hy => hq y (List.mem_cons_of_mem _ hy)) (by rw [hkeys]; exact hm) (by rw [hkeys]; exact hn) hv2 hp2
    (fun z hz y hy => by
     rw [hkeys] at hz ⊢
     rcases hc z hz y hy with h | h
     ·rcases List.mem_cons.1 h with h | h
      ·subst h; exact .inr hxm
      exact .inl h
     exact .inr h)
    (fun z hz => by
     rw [hkeys]
     rcases h0 z hz with h | h
     ·rcases List.mem_cons.1 h with h | h
      ·subst h; exact .inr hxm
      exact .inl h
     exact .inr h)
    (by rw [hmlen]; rw [List.length_cons] at hM; omega) Td_
   exact ⟨k + 1, r, by simp only [ah_]; rw [if_pos hguard, if_neg h0v]; exact hk, hr⟩
theorem zs_ (next : Int → List Int) (hlen : ∀ x, nc_ x → (next x).length ≤ 1000000) (hd : ∀ x, nc_ x → ∀ y ∈ next x, nc_ y) (l0 : List Int) (hl : ∀ x ∈ l0, nc_ x) (hl0 : l0.length ≤ 1000000) :
  ∃ k r, ah_ next k [] l0 = some r ∧ pi_ (r.map (·.1)) = jf_ next l0 := by
 obtain ⟨k, r, hk, hm, hn⟩ := pn_ next 1000000 (Nat.le_refl _) hlen hd l0 hl (l0.length + 1000000 * 20) [] l0 0 (fun x hx => .base hx) Tt_ Tt_ (fun x => by simp [mget]) Tt_ Tt_ (fun x hx => .inl hx) Tt_ Td_
 refine ⟨k, r, hk, ?_⟩
 have hp : (r.map (·.1)).Perm (jf_ next l0) := (List.perm_ext_iff_of_nodup hn (symbols_nodup.filter _)).2 fun y => (hm y).trans (gm_ hd hl y).symm
 have h2 : pi_ (jf_ next l0) = jf_ next l0 := by
  unfold pi_; refine List.mergeSort_of_pairwise ?_; refine (symbols_sorted.filter _).imp ?_; intro a b h; simp [leI]; omega
 rw [← h2]
 exact mergeSort_of_perm_i hp
theorem nm_ (fv : Value) (A0 : Option Addr) (c0 : Nat) (l0 : List S56) (p : S56 → Bool) (w : World) (hr0 : Kd.C k56 w A0 l0.length l0) (hc0 : l0.length ≤ c0)
  (hf : ke_ Tryz.prog w (jj_ k56) fv p) :
  Calls Tryz.prog 132 #[.slice A0 l0.length c0, fv] w fun e w' => e = .returned (.int .i64 (xc_ p l0)) ∧ Below w.heap.size w w' := by
 obtain ⟨g, pre, lb, rfl, eg, hq⟩ := hf
 have hl : l0.length ≤ 9223372036854775807 := hr0.2.1
 have HR := aM_ hr0
 clear hr0
 have HQ := aM_ hq
 clear hq
 go_enter Tryz.func132, Tryz.ntmps132
 go_wp2
 go_loopg [8] l0.length (fun gg s8 wr => ∃ kk : Nat, kk ≤ l0.length ∧ l0.length - kk ≤ gg ∧ s8 = .int .i64 kk ∧ Az (Below w.heap.size w wr) ∧ Az (∀ j, j < kk → ∀ h : j < l0.length, p l0[j] = false))
 case atStart => exact ⟨0, Nat.zero_le _, Td_, rfl, ⟨Below.refl _ w⟩, ⟨fun j hj => absurd hj (Nat.not_lt_zero _)⟩⟩
 obtain ⟨kk, hkk, hg, rfl, BW, A⟩ := hrel
 by_cases hlt : kk < l0.length
 ·have hltz : (kk : Int) < (l0.length : Int) := by omega
  obtain ⟨ad, A1, c1, A3, c3, hA, h0, h1, h2, h3, h4, l1, g1, l3, g3⟩ := gj_ (Kd.C_below HR.out BW.out) kk Td_ hltz; have hcall := HQ.out wr (wb_ l0 kk) _ BW.out ⟨_, rfl, k56_mk wr (wb_ l0 kk) l1 g1 l3 g3⟩; have hx : wb_ l0 kk = l0[kk] := by simp [wb_, List.getD_eq_getElem?_getD, List.getElem?_eq_getElem hlt]
  have HX := aM_ hx; generalize wb_ l0 kk = y at *; rw [Int.toNat_natCast] at h0 h1 h2 h3 h4; subst hA; clear hx l1 g1 l3 g3
  cases hp : p y with
  | true =>
   rw [hp] at hcall
   go_wp2_with fail
   refine hcall.mono ?_; rintro e w' ⟨rfl, hb'⟩
   go_wp2
   go_ret
   refine ⟨?_, df_ BW.out BW.out.size hb'⟩; rw [xf_ hlt A.out (by rw [← HX.out]; exact hp)]
   rfl
  | false =>
   rw [hp] at hcall
   go_wp2_with fail
   refine hcall.mono ?_; rintro e w' ⟨rfl, hb'⟩
   go_wp2
   go_roundg (l0.length - (kk + 1))
   case measure => omega
   case rel =>
    refine ⟨kk + 1, Td_, Td_, Va_, ⟨df_ BW.out BW.out.size hb'⟩, ⟨fun j hj hlt => ?_⟩⟩
    by_cases e : j = kk
    ·subst e
     rw [← HX.out]; exact hp
    exact A.out j Td_ hlt
 have hltz : ¬ (kk : Int) < (l0.length : Int) := by omega
 have : kk = l0.length := by omega
 subst this
 go_wp2
 go_ret
 refine ⟨?_, BW.out⟩
 rw [nh_ A.out]
 rfl
theorem ak_ (fv : Value) (A0 : Option Addr) (c0 : Nat) (l0 : List S56) (p : S56 → Bool) (w : World) (hr0 : Kd.C k56 w A0 l0.length l0) (hc0 : l0.length ≤ c0)
  (hf : ke_ Tryz.prog w (jj_ k56) fv p) :
  Calls Tryz.prog 95 #[.slice A0 l0.length c0, fv] w fun e w' => e = .returned (.bool (l0.any p)) ∧ Below w.heap.size w w' := by
 have hc := nm_ fv A0 c0 l0 p w hr0 hc0 hf
 rw [← om_]
 clear hr0 hf
 generalize xc_ p l0 = q at hc
 go_enter Tryz.func95, Tryz.ntmps95
 go_wp2_with fail
 refine hc.mono ?_
 rintro e w' ⟨rfl, hb'⟩
 go_wp2
 go_ret
 exact ⟨rfl, hb'⟩
theorem ge_ {n : Int} (h : -9223372036854775808 ≤ n ∧ n ≤ 9223372036854775807) : wrap64 n = n := by unfold wrap64; omega
theorem ws_ (l : List Int) (a : Int) (hl : l.length ≤ 9223372036854775807) : ∀ (n k : Nat) (x : Nat), x ≤ l.length → l.length - x = n → n < k → ∃ i : Int, slices_Index_int_int.l0 k l a (l.length : Int) x = some i ∧ (decide (i ≥ 0) = decide (a ∈ l.drop x)) := by
 intro n
 induction n with
 | zero =>
  intro k x hx hn hk; obtain ⟨k, rfl⟩ : ∃ j, k = j + 1 := ⟨k - 1, Td_⟩; have he : x = l.length := by omega
  subst he; refine ⟨-1, ?_, Tt_⟩; simp only [slices_Index_int_int.l0]
  rw [if_neg Td_]
 | succ n ih =>
  intro k x hx hn hk; obtain ⟨k, rfl⟩ : ∃ j, k = j + 1 := ⟨k - 1, Td_⟩; have hlt : x < l.length := by omega
  simp only [slices_Index_int_int.l0]; rw [if_pos Td_, if_pos Td_, if_pos Td_, cf_ l x hlt, List.drop_eq_getElem_cons hlt]
  by_cases he : a = l[x]
  ·rw [if_pos he]
   exact ⟨x, rfl, by rw [← he, decide_eq_true (Int.natCast_nonneg x : (x : Int) ≥ 0), decide_eq_true List.mem_cons_self]⟩
  rw [if_neg he, ge_ Td_]; obtain ⟨i, h1, h2⟩ := ih k (x + 1) Td_ Td_ Td_; refine ⟨i, h1, ?_⟩; rw [h2]; exact decide_eq_decide.2 ⟨fun h => List.mem_cons_of_mem _ h, fun h => (List.mem_cons.1 h).elim (fun h => absurd h he) id⟩
theorem rn_ (l : List Int) (a : Int) (k : Nat) (hl : l.length ≤ 9223372036854775807) (hk : l.length < k) : slices_Contains_int_int.f k l a = some (decide (a ∈ l)) := by
 obtain ⟨i, h1, h2⟩ := ws_ l a hl l.length k 0 (Nat.zero_le _) rfl hk
 unfold slices_Contains_int_int.f slices_Index_int_int.f
 rw [show ((0 : Nat) : Int) = 0 from rfl] at h1
 rw [h1]
 simp only [Option.bind_some, h2, List.drop_zero]
def yd_ (r : dc_) : Bool := hf_ r.f0 r.f1 r.f2.f0 r.f2.f1 r.f3
theorem rp_ (w : World) : ke_ Tryz.prog w (jj_ k56) (.func (.func 96) #[] #[]) (fun r => !yd_ r) := by
 refine ⟨_, _, _, rfl, enters_of Tryz.func96 Ti_ rfl, ?_⟩
 rintro W x v hb ⟨cs, rfl, hK⟩
 obtain ⟨A1, c1, A3, c3, rfl, l1, g1, l3, g3⟩ := ar_ hK
 clear hb hK
 have hcall := gram_Right.calls x.f0 A1 c1 x.f1 x.f2.f0 A3 c3 x.f2.f1 x.f3 (yd_ x) (W.alloc (.cells #[.int .i64 x.f0, .slice A1 x.f1.length c1, .int .i64 x.f2.f0, .slice A3 x.f2.f1.length c3, .int .i64 x.f3] 56)) (Kd.C_alloc g1 _) l1 (Kd.C_alloc g3 _) l3 rfl
 clear g1 g3
 cases hp : yd_ x with
 | true =>
  rw [hp] at hcall
  go_enter Tryz.func96, Tryz.ntmps96
  go_wp2_with fail
  refine hcall.mono ?_; rintro e w' ⟨rfl, hb'⟩; have HB := aM_ (da_ (aa_ (Below.refl _ W) _) hb')
  go_wp2
  go_ret
  exact ⟨rd_ (by rw [hp]; rfl), HB.out⟩
 | false =>
  rw [hp] at hcall
  go_enter Tryz.func96, Tryz.ntmps96
  go_wp2_with fail
  refine hcall.mono ?_; rintro e w' ⟨rfl, hb'⟩; have HB := aM_ (da_ (aa_ (Below.refl _ W) _) hb')
  go_wp2
  go_ret
  exact ⟨rd_ (by rw [hp]; rfl), HB.out⟩
theorem qp_ (w : World) (g : Nat) (A : Option Addr) (c : Nat) (rows : List (List Int)) (hg : w.cell? ⟨g, 0, none⟩ = some (.slice A rows.length c)) (hlen : rows.length = 20) (hC : Kd.C (Kd.slice 3 (Kd.int .i64)) w A rows.length rows) :
  dk_ Tryz.prog w nc_ (.func (.func 101) #[] #[.pointer (some ⟨g, 0, none⟩)]) (fun y => ti_ rows y) := by
 refine ⟨_, _, _, rfl, enters_of Tryz.func101 Ti_ rfl, ?_⟩
 rintro W x hb ⟨hx0, hx1⟩
 have hxl : x < (rows.length : Int) := by omega
 have hcell := fa_ hb hg
 obtain ⟨ad, A0, c0, rfl, h0, h1, h2⟩ := at_L5 (Kd.C_below hC hb) x hx0 hxl
 have hx0' : ¬ x < 0 := by omega
 clear hb hg hC
 have H2 := aM_ h2
 clear h2
 go_enter Tryz.func101, Tryz.ntmps101
 go_wp2
 go_ret
 exact ⟨A0, c0, rfl, h1, H2.out, Below.refl _ _⟩
def cb_ (l0 : List dc_) : Int → List Int := fun y => ti_ (th_ l0) y
theorem gn_ (l0 : List dc_) : (th_ l0).length = 20 := by simp [th_]
theorem vh_ (l0 : List dc_) (x : Nat) (h : x < 20) : cb_ l0 x = pc_ (hd_ l0) x 20 := by
 unfold cb_ ti_ th_
 rw [Int.toNat_natCast, List.getD_eq_getElem?_getD, List.getElem?_map, List.getElem?_range h]
 rfl
theorem nj_ (l0 : List dc_) (x : Int) (h : nc_ x) : (cb_ l0 x).length ≤ 20 := by
 obtain ⟨n, rfl⟩ : ∃ n : Nat, x = n := ⟨x.toNat, by have := h.1; omega⟩
 rw [vh_ l0 n (by have := h.2; omega)]
 exact uk_ _ _ _
theorem oc_ (l0 : List dc_) (x : Int) (h : nc_ x) : ∀ y ∈ cb_ l0 x, nc_ y := by
 obtain ⟨n, rfl⟩ : ∃ n : Nat, x = n := ⟨x.toNat, by have := h.1; omega⟩
 rw [vh_ l0 n (by have := h.2; omega)]
 intro y hy
 exact (ee_ y).1 (List.mem_filter.1 hy).1
noncomputable def ef_ (l0 : List dc_) (x : Int) : Bool := decide (x ∈ jf_ (cb_ l0) (cb_ l0 x))
noncomputable def uc_ (l0 : List dc_) : Bool := decide (l0.length ≤ 60) && (l0.all yd_ && symbols.all fun x => !ef_ l0 x)
theorem tn_ (l0 : List dc_) (h1 : l0.length ≤ 60) (h2 : l0.all yd_ = true) : ek_ l0 = true := by
 unfold ek_
 rw [Bool.and_eq_true]
 refine ⟨List.all_eq_true.2 fun r hr => ?_, decide_eq_true Td_⟩
 have h3 := List.all_eq_true.1 h2 r hr
 unfold yd_ hf_ ze_ at h3
 simp only [Bool.and_eq_true, decide_eq_true_eq] at h3
 exact decide_eq_true h3.1
theorem nl_ (l0 : List dc_) (fv : Value) (A : Option Addr) (c : Nat) (x : Int) (hx : nc_ x) (w : World) (hf : dk_ Tryz.prog w nc_ fv (cb_ l0)) (hC : Kd.C (Kd.int .i64) w A (cb_ l0 x).length (cb_ l0 x)) (hc : (cb_ l0 x).length ≤ c) :
  Calls Tryz.prog 100 #[.slice A (cb_ l0 x).length c, fv] w fun e w' => ∃ v0_ : Value, e = .returned (v0_) ∧ Kd.R (Kd.int .i64) 3 w' w.heap.size (fun _ => True) v0_ (jf_ (cb_ l0) (cb_ l0 x)) ∧ Below w.heap.size w w' := by
 obtain ⟨k, r, h1, h2⟩ := zs_ (cb_ l0) (fun y hy => Nat.le_trans (nj_ l0 y hy) Td_) (oc_ l0) (cb_ l0 x) (oc_ l0 x hx) (Nat.le_trans (nj_ l0 x hx) Td_)
 rw [← h2]
 exact mv_ fv (cb_ l0) nc_ (fun y hy => ⟨⟨by have := hy.1; omega, by have := hy.2; omega⟩, oc_ l0 y hy⟩) k A c (cb_ l0 x) r w hf (oc_ l0 x hx) hC hc h1
theorem si_ (next : Int → List Int) (l : List Int) : (jf_ next l).length ≤ 20 := Nat.le_trans (List.length_filter_le _ _) Tm_
theorem ht_ (A0 : Option Addr) (c0 : Nat) (l0 : List dc_) (w : World) (hr0 : Kd.C k56 w A0 l0.length l0) (hc0 : l0.length ≤ c0) :
  Calls Tryz.prog 47 #[.slice A0 l0.length c0] w fun e w' => e = .returned (.bool (uc_ l0)) ∧ Below w.heap.size w w' := by
 by_cases h60 : l0.length ≤ 60
 ·have h60z : ¬ ((l0.length : Int) > 60) := by omega
  have hcall := ak_ _ A0 c0 l0 _ w hr0 hc0 (rp_ w); rw [ei_] at hcall; have HR := aM_ hr0; have HC := aM_ hc0; clear hr0 hc0
  cases hall : l0.all yd_ with
  | false =>
   rw [hall] at hcall; have hz : uc_ l0 = false := by simp [uc_, hall]
   go_enter Tryz.func47, Tryz.ntmps47
   go_wp2_with fail
   refine hcall.mono ?_; rintro e w' ⟨rfl, hb'⟩; have HB := aM_ hb'; clear hb'
   go_wp2
   go_ret
   exact ⟨rd_ hz.symm, HB.out⟩
  | true =>
   rw [hall] at hcall; have hu := tn_ l0 h60 hall
   go_enter Tryz.func47, Tryz.ntmps47
   go_wp2_with fail
   refine hcall.mono ?_; rintro e w1 ⟨rfl, hb'⟩; have HB1 := aM_ hb'; have HR1 := aM_ (Kd.C_below HR.out hb'); clear hb' hcall
   go_wp2_with fail
   refine (tr_ A0 c0 l0 w1 HR1.out HC.out hu).mono ?_; rintro e w2 ⟨v2, rfl, hS, hb2⟩; obtain ⟨A2, c2, rfl, hc2, hC2⟩ := Kd.S_reads hS; have hlen := gn_ l0; have HB2 := aM_ (da_ HB1.out hb2); have HF0 := aM_ hC2; clear hS hb2 hc2 hC2; rw [hlen]; have HLN := aM_ hlen; clear hlen; have HG := aM_ (qo_ w2 (.slice A2 20 c2) 111); have HB3 := aM_ (aa_ HB2.out (.cells #[.slice A2 20 c2] 111)); have HC3 := aM_ (Kd.C_alloc HF0.out (.cells #[.slice A2 20 c2] 111)); clear HF0 HB2
   have HFN : Az (dk_ Tryz.prog (w2.alloc (.cells #[.slice A2 20 c2] 111)) nc_ (.func (.func 101) #[] #[.pointer (some ⟨w2.heap.size, 0, none⟩)]) (cb_ l0)) :=
    ⟨qp_ _ w2.heap.size A2 c2 (th_ l0) (by rw [HLN.out]; exact HG.out) HLN.out HC3.out⟩
   go_wp2
   generalize w2.heap.size = g at *; generalize (w2.alloc (.cells #[.slice A2 20 c2] 111)) = w3 at *
   go_loopg [17] 20 (fun gg s17 wr => ∃ kk : Nat, kk ≤ 20 ∧ 20 - kk ≤ gg ∧ s17 = .int .i64 kk ∧ Az (Below w3.heap.size w3 wr) ∧ Az (∀ j : Nat, j < kk → ef_ l0 j = false))
   case atStart => exact ⟨0, Td_, Td_, rfl, ⟨Below.refl _ _⟩, ⟨fun j hj => absurd hj (Nat.not_lt_zero _)⟩⟩
   obtain ⟨kk, hkk, hg, rfl, BW, AB⟩ := hrel
   by_cases hlt : kk < 20
   ·have hltz : (kk : Int) < 20 := by omega
    have hsym : nc_ (kk : Int) := ⟨Td_, Td_⟩
    have HFN2 : Az (dk_ Tryz.prog wr nc_ (.func (.func 101) #[] #[.pointer (some ⟨g, 0, none⟩)]) (cb_ l0)) := by
     obtain ⟨g', pre, lb, e1, e2, e3⟩ := HFN.out; exact ⟨g', pre, lb, e1, e2, fun W x hb hd => e3 W x (BW.out.trans (hb.mono BW.out.size)) hd⟩
    obtain ⟨ad, A4, c4, hA, h0, h1, h2⟩ := at_L5 (Kd.C_below HC3.out BW.out) kk Td_ (by rw [HLN.out]; exact hltz); rw [Int.toNat_natCast] at h0; subst hA; have hrow : ti_ (th_ l0) (kk : Int) = cb_ l0 kk := rfl; rw [hrow] at h0 h1 h2; have H1 := aM_ h1; have H2 := aM_ h2; clear hrow h1 h2
    go_wp2_with fail
    refine (nl_ l0 _ A4 c4 kk hsym wr HFN2.out H2.out H1.out).mono ?_; rintro e w4 ⟨v4, rfl, hR4, hb4⟩; obtain ⟨A5, c5, rfl, hc5, hC5⟩ := Kd.R_reads hR4; have HB4 := aM_ (da_ BW.out hb4); have HC5 := aM_ hC5; have HL5 := aM_ hc5; have hcs := rn_ (jf_ (cb_ l0) (cb_ l0 kk)) kk 100 (Nat.le_trans (si_ _ _) Td_) (Nat.lt_of_le_of_lt (si_ _ _) Td_); have HCS := aM_ hcs; clear hR4 hb4 hC5 hc5 hcs h0; have hlb : decide ((kk : Int) ∈ jf_ (cb_ l0) (cb_ l0 kk)) = ef_ l0 kk := rfl; have HLB := aM_ hlb; clear hlb
    cases hb : ef_ l0 kk with
    | true =>
     have HCS2 : Az (slices_Contains_int_int.f 100 (jf_ (cb_ l0) (cb_ l0 kk)) kk = some true) := ⟨by rw [HCS.out, HLB.out, hb]⟩
     have hz : uc_ l0 = false := by
      unfold uc_; have : (symbols.all fun x => !ef_ l0 x) = false := List.all_eq_false.2 ⟨kk, (ee_ _).2 hsym, by simp [hb]⟩; rw [this, Bool.and_false, Bool.and_false]
     go_wp2_with fail
     refine (slices_Contains_int_int.calls 100 A5 c5 _ kk true w4 HC5.out HL5.out HCS2.out).mono ?_; rintro e w' ⟨rfl, ⟨nd, rfl⟩⟩
     go_wp2
     go_ret
     exact ⟨rd_ hz.symm, ca_ (HB3.out.trans (HB4.out.mono HB3.out.size)) _⟩
    | false =>
     have HCS2 : Az (slices_Contains_int_int.f 100 (jf_ (cb_ l0) (cb_ l0 kk)) kk = some false) := ⟨by rw [HCS.out, HLB.out, hb]⟩
     go_wp2_with fail
     refine (slices_Contains_int_int.calls 100 A5 c5 _ kk false w4 HC5.out HL5.out HCS2.out).mono ?_; rintro e w' ⟨rfl, ⟨nd, rfl⟩⟩
     go_wp2
     go_roundg (20 - (kk + 1))
     case measure => omega
     case rel =>
      refine ⟨kk + 1, Td_, Td_, Va_, ⟨ca_ HB4.out _⟩, ⟨fun j hj => ?_⟩⟩
      by_cases e : j = kk
      ·subst e; exact hb
      exact AB.out j Td_
   have hltz : ¬ (kk : Int) < 20 := by omega
   have hkk : kk = 20 := by omega
   subst hkk
   have hz : uc_ l0 = true := by
    unfold uc_
    have : (symbols.all fun x => !ef_ l0 x) = true := by
     rw [List.all_eq_true]; intro x hx; have hs := (ee_ _).1 hx; have h9 := AB.out x.toNat (by have := hs.1; have := hs.2; omega); rw [Int.toNat_of_nonneg hs.1] at h9; rw [h9]; rfl
    rw [this, hall, decide_eq_true h60]; rfl
   go_wp2
   go_ret
   exact ⟨by first | rfl | exact rd_ hz.symm, HB3.out.trans (BW.out.mono HB3.out.size)⟩
 have h60z : (l0.length : Int) > 60 := by omega
 have hz : uc_ l0 = false := by simp [uc_, h60]
 go_enter Tryz.func47, Tryz.ntmps47
 go_wp2
 go_ret
 exact ⟨rd_ hz.symm, Below.refl _ _⟩
end Go.Proofs.YtiocgaekoeekgaaGreat.P
end
section
namespace Go.Proofs.YtiocgaekoeekgaaGreat.P
open Go.RowKit YtiocgaekoeekgaaGreatW.PrintWords YtiocgaekoeekgaaGreatW.PrintLast YtiocgaekoeekgaaGreatW.PrintMore
attribute [local go_sem] ub_ rb_ cc_ bc_ kb_ jb_ tb_ qb_   
set_option linter.unusedVariables false
set_option linter.unusedSimpArgs false
attribute [local go_sem] Oper.semAt_some
noncomputable def go_ (l : List S44) (i : Nat) (x : S44) : Bool :=
 idP x.f0 && (!((l.take i).any fun y => y.f0.toList == x.f0.toList) && (ib_ x.f1 (-1) ((i : Int) - 1) && (ib_ x.f2 0 3 && (!decide (30 < x.f3.length) && (!decide (20 < x.f5.length) && (x.f3.all ie_ && (x.f5.all bf_ && (!decide (60 < x.f4.length) && uc_ (jd_ l i)))))))))
noncomputable def qe_ (l : List S44) : Nat → Nat → Bool
 | 0, _ => true
 | n + 1, i => if go_ l i (pa_ l (i : Int)) = true then qe_ l n (i + 1) else false
noncomputable def af_ (l : List S44) : Bool := if 10 < l.length then false else qe_ l l.length 0
def hp_ (l : List S44) : Prop := ∀ x ∈ l, x.f0.size ≤ 1000000000000 ∧ x.f4.length ≤ 1000000
theorem wk_ (A : Option Addr) (c : Nat) (l : List S44) (w : World) (hr : Kd.C k44 w A l.length l) (hc : l.length ≤ c) (hok : hp_ l) :
  Calls Tryz.prog 16 #[.slice A l.length c] w fun e w' => e = .returned (.bool (af_ l)) ∧ Below w.heap.size w w' := by
 have hmf : ∀ (fn : Fn) (first cap : Array Value) (w : World), (Instr.makeFunc fn first cap).run Tryz.prog w = .ok (.func fn first cap) w := fun _ _ _ _ => rfl
 have HR := aM_ hr
 have HC := aM_ hc
 have HOK := aM_ hok
 have hbn : l.length ≤ 9223372036854775807 := hr.2.1
 by_cases hbig : 10 < l.length
 ·have HE : Az (af_ l = false) := ⟨if_pos hbig⟩
  have hbz : decide ((10 : Int) < (l.length : Int)) = true := decide_eq_true Td_; have hbz' : decide (10 < l.length) = true := decide_eq_true hbig; clear hr hc hok hbig
  go_enter Tryz.func16, Tryz.ntmps16
  go_wp2
  go_ret
  rw [HE.out]; exact ⟨rfl, Below.refl _ _⟩
 have HE : Az (af_ l = qe_ l (l.length - 0) 0) := ⟨if_neg hbig⟩
 have hlt : l.length ≤ 10 := by omega
 have hbz : decide ((10 : Int) < (l.length : Int)) = false := decide_eq_false Td_
 have hbz' : decide (10 < l.length) = false := decide_eq_false hbig
 generalize af_ l = r at *
 clear hr hc hok hbig
 go_enter Tryz.func16, Tryz.ntmps16
 go_wp2
 go_loopg [11] l.length (fun gg s11 wr => ∃ i : Nat, i ≤ l.length ∧ l.length - i ≤ gg ∧ s11 = .int .i64 i ∧ Az (r = qe_ l (l.length - i) i) ∧ Az (Below w.heap.size w wr))
 case atStart => exact ⟨0, Td_, Td_, rfl, HE, ⟨Below.refl _ _⟩⟩
 clear HE
 obtain ⟨i, hi, hgg, rfl, HE, HW⟩ := hrel
 by_cases hil : i < l.length
 ·have hilz : (i : Int) < (l.length : Int) := by omega
  obtain ⟨ad, A3, c3, A4, c4, A5, c5, hA, h0, h1, h2, h3, h4, h5, l3, g3, l4, g4, l5, g5⟩ := tf_ HR.out (i : Int) Td_ hilz; have HA : Az (A = some ad) := ⟨hA⟩
  have hy : pa_ l (i : Int) = l[i] := by
   show l.getD (i : Int).toNat _ = _; rw [Int.toNat_natCast, List.getD_eq_getElem?_getD, List.getElem?_eq_getElem hil]; rfl
  have HOX : Az ((pa_ l (i : Int)).f0.size ≤ 1000000000000 ∧ (pa_ l (i : Int)).f4.length ≤ 1000000) := ⟨by rw [hy]; exact HOK.out _ (List.getElem_mem hil)⟩; have HE1 : Az (r = if go_ l i (pa_ l (i : Int)) = true then qe_ l (l.length - (i + 1)) (i + 1) else false) := ⟨by rw [HE.out, show l.length - i = (l.length - (i + 1)) + 1 from by omega, qe_]⟩; clear hy HE; generalize pa_ l (i : Int) = x at *; rw [Int.toNat_natCast] at h0 h1 h2 h3 h4 h5; replace h0 := fa_ HW.out h0; replace h1 := fa_ HW.out h1; replace h2 := fa_ HW.out h2; replace h3 := fa_ HW.out h3; replace h4 := fa_ HW.out h4; replace h5 := fa_ HW.out h5; have G3 := aM_ g3; have L3 := aM_ l3; have G5 := aM_ g5; have L5 := aM_ l5; clear l3 g3 l4 g4 l5 g5; obtain ⟨b1, hb1⟩ : ∃ b, idP x.f0 = b := ⟨_, rfl⟩; obtain ⟨b2, hb2⟩ : ∃ b, ((l.take i).any fun y => y.f0.toList == x.f0.toList) = b := ⟨_, rfl⟩; obtain ⟨b3, hb3⟩ : ∃ b, ib_ x.f1 (-1) ((i : Int) - 1) = b := ⟨_, rfl⟩; obtain ⟨b4, hb4⟩ : ∃ b, ib_ x.f2 0 3 = b := ⟨_, rfl⟩; obtain ⟨b5, hb5⟩ : ∃ b, decide (30 < x.f3.length) = b := ⟨_, rfl⟩; obtain ⟨b6, hb6⟩ : ∃ b, decide (20 < x.f5.length) = b := ⟨_, rfl⟩; obtain ⟨b7, hb7⟩ : ∃ b, x.f3.all ie_ = b := ⟨_, rfl⟩; obtain ⟨b8, hb8⟩ : ∃ b, x.f5.all bf_ = b := ⟨_, rfl⟩; obtain ⟨b9, hb9⟩ : ∃ b, decide (60 < x.f4.length) = b := ⟨_, rfl⟩; have hb5' : decide ((30 : Int) < (x.f3.length : Int)) = b5 := by rw [← hb5]; congr 1; simp; omega
  have hb6' : decide ((20 : Int) < (x.f5.length : Int)) = b6 := by rw [← hb6]; congr 1; simp; omega
  have hb9' : decide ((60 : Int) < (x.f4.length : Int)) = b9 := by rw [← hb9]; congr 1; simp; omega
  obtain ⟨RS, hRS⟩ : ∃ RS, jd_ l i = RS := ⟨_, rfl⟩; obtain ⟨b10, hb10⟩ : ∃ b, uc_ RS = b := ⟨_, rfl⟩; have HB : Az (go_ l i x = (b1 && (!b2 && (b3 && (b4 && (!b5 && (!b6 && (b7 && (b8 && (!b9 && b10)))))))))) := ⟨by rw [← hb1, ← hb2, ← hb3, ← hb4, ← hb5, ← hb6, ← hb7, ← hb8, ← hb9, ← hb10, ← hRS]; rfl⟩; have HK0 : Az ((wr.alloc (.cells #[.string x.f0, .int .i64 x.f1, .int .i64 x.f2, .slice A3 x.f3.length c3, .slice A4 x.f4.length c4, .slice A5 x.f5.length c5] 44)).heap[wr.heap.size]? = some (.cells #[.string x.f0, .int .i64 x.f1, .int .i64 x.f2, .slice A3 x.f3.length c3, .slice A4 x.f4.length c4, .slice A5 x.f5.length c5] 44 (0, 0))) := ⟨oa_ wr _⟩; have HB0 : Az (Below w.heap.size w (wr.alloc (.cells #[.string x.f0, .int .i64 x.f1, .int .i64 x.f2, .slice A3 x.f3.length c3, .slice A4 x.f4.length c4, .slice A5 x.f5.length c5] 44))) := ⟨da_ HW.out (aa_ (Below.refl _ _) _)⟩; obtain ⟨i0, hinf, hz0, hz1, hz2⟩ := info_parts info44; have hcut := cut_to (P := Tryz.prog) 26 44 .i64 Tryz.underlying26 hinf A l.length c (i : Int) Td_ Td_ HC.out; rw [Int.toNat_natCast] at hcut; clear hinf hz0 hz1 hz2; have hwi : wrap64 ((i : Int) - 1) = (i : Int) - 1 := by rw [wrap64]; omega
  have H1 : Az (∀ W, Calls Tryz.prog 41 #[.string x.f0] W fun e w' => e = .returned (.bool b1) ∧ Below W.heap.size W w') := ⟨by rw [← hb1]; exact fun W => id_w x.f0 W HOX.out.1⟩
  have H2 : Az (Calls Tryz.prog 39 #[.slice A i c, .func (.func 40) #[] #[.pointer (some ⟨wr.heap.size, 0, none⟩)]] (wr.alloc (.cells #[.string x.f0, .int .i64 x.f1, .int .i64 x.f2, .slice A3 x.f3.length c3, .slice A4 x.f4.length c4, .slice A5 x.f5.length c5] 44)) fun e w' => e = .returned (.bool b2) ∧ Below (wr.alloc (.cells #[.string x.f0, .int .i64 x.f1, .int .i64 x.f2, .slice A3 x.f3.length c3, .slice A4 x.f4.length c4, .slice A5 x.f5.length c5] 44)).heap.size (wr.alloc (.cells #[.string x.f0, .int .i64 x.f1, .int .i64 x.f2, .slice A3 x.f3.length c3, .slice A4 x.f4.length c4, .slice A5 x.f5.length c5] 44)) w') := ⟨by
   have hti : (l.take i).length = i := by rw [List.length_take]; omega
   have hcf := nk_ _ A c (l.take i) _ _ (Kd.C_take (Kd.C_below HR.out HB0.out) Td_) (by rw [hti]; have := HC.out; omega) (zo_ wr.heap.size x.f0 _ (ba_ HK0.out 0)); rw [hb2, hti] at hcf
   exact hcf⟩
  have H3 : Az (∀ W, Calls Tryz.prog 42 #[.int .i64 x.f1, .int .i64 (-1), .int .i64 ((i : Int) - 1)] W fun e w' => e = .returned (.bool b3) ∧ Below W.heap.size W w') := ⟨by rw [← hb3]; exact ve_ _ _ _⟩; have H4 : Az (∀ W, Calls Tryz.prog 42 #[.int .i64 x.f2, .int .i64 0, .int .i64 3] W fun e w' => e = .returned (.bool b4) ∧ Below W.heap.size W w') := ⟨by rw [← hb4]; exact ve_ _ _ _⟩; have H7 : Az (∀ W, Below w.heap.size w W → Calls Tryz.prog 43 #[.slice A3 x.f3.length c3, .func (.func 44) #[] #[]] W fun e w' => e = .returned (.bool b7) ∧ Below W.heap.size W w') := ⟨by rw [← hb7]; exact fun W hB => et_ A3 c3 x.f3 W (Kd.C_below G3.out hB) L3.out⟩; have H8 : Az (∀ W, Below w.heap.size w W → Calls Tryz.prog 45 #[.slice A5 x.f5.length c5, .func (.func 46) #[] #[]] W fun e w' => e = .returned (.bool b8) ∧ Below W.heap.size W w') := ⟨by rw [← hb8]; exact fun W hB => ct_ A5 c5 x.f5 W (Kd.C_below G5.out hB) L5.out⟩; have H9 : Az (∀ W, Below w.heap.size w W → Calls Tryz.prog 48 #[.slice A l.length c, .int .i64 i] W fun e w' => ∃ v : Value, e = .returned v ∧ Kd.N k56 56 w' W.heap.size (fun _ => True) v RS ∧ Below W.heap.size W w') := ⟨by rw [← hRS]; exact fun W hB => mj_ A c l i W (Kd.C_below HR.out hB) HC.out hil Td_ (fun x hx => (HOK.out x hx).2)⟩; have HB10 := aM_ hb10; clear hb1 hb2 hb3 hb4 hb7 hb8 hb10 hRS HOX; obtain ⟨okv, hokv⟩ : ∃ okv, go_ l i x = okv := ⟨_, rfl⟩; rw [hokv] at HB HE1; clear hokv; subst hA
  have hcase : (b1 = false ∧ okv = false) ∨ (b1 = true ∧ b2 = true ∧ okv = false) ∨ (b1 = true ∧ b2 = false ∧ b3 = false ∧ okv = false) ∨ (b1 = true ∧ b2 = false ∧ b3 = true ∧ b4 = false ∧ okv = false) ∨ (b1 = true ∧ b2 = false ∧ b3 = true ∧ b4 = true ∧ b5 = true ∧ okv = false) ∨ (b1 = true ∧ b2 = false ∧ b3 = true ∧ b4 = true ∧ b5 = false ∧ b6 = true ∧ okv = false) ∨ (b1 = true ∧ b2 = false ∧ b3 = true ∧ b4 = true ∧ b5 = false ∧ b6 = false ∧ b7 = false ∧ okv = false) ∨ (b1 = true ∧ b2 = false ∧ b3 = true ∧ b4 = true ∧ b5 = false ∧ b6 = false ∧ b7 = true ∧ b8 = false ∧ okv = false) ∨ (b1 = true ∧ b2 = false ∧ b3 = true ∧ b4 = true ∧ b5 = false ∧ b6 = false ∧ b7 = true ∧ b8 = true ∧ b9 = true ∧ okv = false) ∨ (b1 = true ∧ b2 = false ∧ b3 = true ∧ b4 = true ∧ b5 = false ∧ b6 = false ∧ b7 = true ∧ b8 = true ∧ b9 = false ∧ b10 = false ∧ okv = false) ∨ (b1 = true ∧ b2 = false ∧ b3 = true ∧ b4 = true ∧ b5 = false ∧ b6 = false ∧ b7 = true ∧ b8 = true ∧ b9 = false ∧ b10 = true ∧ okv = true) := by
   have h := HB.out; clear HB10 hb5 hb6 hb9 hb5' hb6' hb9' H1 H2 H3 H4 H7 H8 H9 HE1; subst h
   cases b1 <;> cases b2 <;> cases b3 <;> cases b4 <;> try (simp; done)
   all_goals (cases b5 <;> cases b6 <;> cases b7 <;> cases b8 <;> cases b9 <;> cases b10 <;> simp)
  clear HB
  rcases hcase with ⟨rfl, rfl⟩ | ⟨rfl, rfl, rfl⟩ | ⟨rfl, rfl, rfl, rfl⟩ | ⟨rfl, rfl, rfl, rfl, rfl⟩ | ⟨rfl, rfl, rfl, rfl, rfl, rfl⟩ | ⟨rfl, rfl, rfl, rfl, rfl, rfl, rfl⟩ | ⟨rfl, rfl, rfl, rfl, rfl, rfl, rfl, rfl⟩ | ⟨rfl, rfl, rfl, rfl, rfl, rfl, rfl, rfl, rfl⟩ | ⟨rfl, rfl, rfl, rfl, rfl, rfl, rfl, rfl, rfl, rfl⟩ | ⟨rfl, rfl, rfl, rfl, rfl, rfl, rfl, rfl, rfl, rfl, rfl⟩ | ⟨rfl, rfl, rfl, rfl, rfl, rfl, rfl, rfl, rfl, rfl, rfl⟩
  all_goals
   first | (have HG : Az (r = false) := ⟨HE1.out⟩) | (have HG : Az (r = qe_ l (l.length - (i + 1)) (i + 1)) := ⟨HE1.out⟩)
   clear HE1
   go_wp2_with fail
   generalize wr.alloc (.cells #[.string x.f0, .int .i64 x.f1, .int .i64 x.f2, .slice A3 x.f3.length c3, .slice A4 x.f4.length c4, .slice A5 x.f5.length c5] 44) = W0 at *; generalize wr.heap.size = g at *; clear h0 h1 h2 h3 h4 h5; refine H2.out.mono ?_; rintro e w1 ⟨rfl, hB⟩; have HK1 := aM_ (la_ HK0.out hB); have HB1 : Az (Below w.heap.size w w1) := ⟨da_ HB0.out hB⟩; have hc1_0 : w1.cell? ⟨g, 0, none⟩ = some (.string x.f0) := (ba_ HK1.out 0).trans rfl; have hc1_1 : w1.cell? ⟨g, 1, none⟩ = some (.int .i64 x.f1) := (ba_ HK1.out 1).trans rfl; have hc1_2 : w1.cell? ⟨g, 2, none⟩ = some (.int .i64 x.f2) := (ba_ HK1.out 2).trans rfl; have hc1_3 : w1.cell? ⟨g, 3, none⟩ = some (.slice A3 x.f3.length c3) := (ba_ HK1.out 3).trans rfl; have hc1_4 : w1.cell? ⟨g, 4, none⟩ = some (.slice A4 x.f4.length c4) := (ba_ HK1.out 4).trans rfl; have hc1_5 : w1.cell? ⟨g, 5, none⟩ = some (.slice A5 x.f5.length c5) := (ba_ HK1.out 5).trans rfl; clear hB H2
   go_wp2_with (first | (go_at_call 41; with_reducible refine (H1.out _).mono ?_; rintro e w2 ⟨rfl, hB⟩; have HK2 := aM_ (la_ HK1.out hB); have HB2 : Az (Below w.heap.size w w2) := ⟨da_ HB1.out hB⟩; clear hB; clear hc1_0; clear hc1_1; clear hc1_2; clear hc1_3; clear hc1_4; clear hc1_5; have hc2_0 : w2.cell? ⟨g, 0, none⟩ = some (.string x.f0) := (ba_ HK2.out 0).trans rfl; have hc2_1 : w2.cell? ⟨g, 1, none⟩ = some (.int .i64 x.f1) := (ba_ HK2.out 1).trans rfl; have hc2_2 : w2.cell? ⟨g, 2, none⟩ = some (.int .i64 x.f2) := (ba_ HK2.out 2).trans rfl; have hc2_3 : w2.cell? ⟨g, 3, none⟩ = some (.slice A3 x.f3.length c3) := (ba_ HK2.out 3).trans rfl; have hc2_4 : w2.cell? ⟨g, 4, none⟩ = some (.slice A4 x.f4.length c4) := (ba_ HK2.out 4).trans rfl; have hc2_5 : w2.cell? ⟨g, 5, none⟩ = some (.slice A5 x.f5.length c5) := (ba_ HK2.out 5).trans rfl) | (go_at_call 42; with_reducible refine (H3.out _).mono ?_; rintro e w3 ⟨rfl, hB⟩; have HK3 := aM_ (la_ HK2.out hB); have HB3 : Az (Below w.heap.size w w3) := ⟨da_ HB2.out hB⟩; clear hB; clear hc2_0; clear hc2_1; clear hc2_2; clear hc2_3; clear hc2_4; clear hc2_5; have hc3_0 : w3.cell? ⟨g, 0, none⟩ = some (.string x.f0) := (ba_ HK3.out 0).trans rfl; have hc3_1 : w3.cell? ⟨g, 1, none⟩ = some (.int .i64 x.f1) := (ba_ HK3.out 1).trans rfl; have hc3_2 : w3.cell? ⟨g, 2, none⟩ = some (.int .i64 x.f2) := (ba_ HK3.out 2).trans rfl; have hc3_3 : w3.cell? ⟨g, 3, none⟩ = some (.slice A3 x.f3.length c3) := (ba_ HK3.out 3).trans rfl; have hc3_4 : w3.cell? ⟨g, 4, none⟩ = some (.slice A4 x.f4.length c4) := (ba_ HK3.out 4).trans rfl; have hc3_5 : w3.cell? ⟨g, 5, none⟩ = some (.slice A5 x.f5.length c5) := (ba_ HK3.out 5).trans rfl) | (go_at_call 42; with_reducible refine (H4.out _).mono ?_; rintro e w4 ⟨rfl, hB⟩; have HK4 := aM_ (la_ HK3.out hB); have HB4 : Az (Below w.heap.size w w4) := ⟨da_ HB3.out hB⟩; clear hB; clear hc3_0; clear hc3_1; clear hc3_2; clear hc3_3; clear hc3_4; clear hc3_5; have hc4_0 : w4.cell? ⟨g, 0, none⟩ = some (.string x.f0) := (ba_ HK4.out 0).trans rfl; have hc4_1 : w4.cell? ⟨g, 1, none⟩ = some (.int .i64 x.f1) := (ba_ HK4.out 1).trans rfl; have hc4_2 : w4.cell? ⟨g, 2, none⟩ = some (.int .i64 x.f2) := (ba_ HK4.out 2).trans rfl; have hc4_3 : w4.cell? ⟨g, 3, none⟩ = some (.slice A3 x.f3.length c3) := (ba_ HK4.out 3).trans rfl; have hc4_4 : w4.cell? ⟨g, 4, none⟩ = some (.slice A4 x.f4.length c4) := (ba_ HK4.out 4).trans rfl; have hc4_5 : w4.cell? ⟨g, 5, none⟩ = some (.slice A5 x.f5.length c5) := (ba_ HK4.out 5).trans rfl) | (go_at_call 43; with_reducible refine (H7.out _ HB4.out).mono ?_; rintro e w5 ⟨rfl, hB⟩; have HK5 := aM_ (la_ HK4.out hB); have HB5 : Az (Below w.heap.size w w5) := ⟨da_ HB4.out hB⟩; clear hB; clear hc4_0; clear hc4_1; clear hc4_2; clear hc4_3; clear hc4_4; clear hc4_5; have hc5_0 : w5.cell? ⟨g, 0, none⟩ = some (.string x.f0) := (ba_ HK5.out 0).trans rfl; have hc5_1 : w5.cell? ⟨g, 1, none⟩ = some (.int .i64 x.f1) := (ba_ HK5.out 1).trans rfl; have hc5_2 : w5.cell? ⟨g, 2, none⟩ = some (.int .i64 x.f2) := (ba_ HK5.out 2).trans rfl; have hc5_3 : w5.cell? ⟨g, 3, none⟩ = some (.slice A3 x.f3.length c3) := (ba_ HK5.out 3).trans rfl; have hc5_4 : w5.cell? ⟨g, 4, none⟩ = some (.slice A4 x.f4.length c4) := (ba_ HK5.out 4).trans rfl; have hc5_5 : w5.cell? ⟨g, 5, none⟩ = some (.slice A5 x.f5.length c5) := (ba_ HK5.out 5).trans rfl) | (go_at_call 45; with_reducible refine (H8.out _ HB5.out).mono ?_; rintro e w6 ⟨rfl, hB⟩; have HK6 := aM_ (la_ HK5.out hB); have HB6 : Az (Below w.heap.size w w6) := ⟨da_ HB5.out hB⟩; clear hB; clear hc5_0; clear hc5_1; clear hc5_2; clear hc5_3; clear hc5_4; clear hc5_5; have hc6_0 : w6.cell? ⟨g, 0, none⟩ = some (.string x.f0) := (ba_ HK6.out 0).trans rfl; have hc6_1 : w6.cell? ⟨g, 1, none⟩ = some (.int .i64 x.f1) := (ba_ HK6.out 1).trans rfl; have hc6_2 : w6.cell? ⟨g, 2, none⟩ = some (.int .i64 x.f2) := (ba_ HK6.out 2).trans rfl; have hc6_3 : w6.cell? ⟨g, 3, none⟩ = some (.slice A3 x.f3.length c3) := (ba_ HK6.out 3).trans rfl; have hc6_4 : w6.cell? ⟨g, 4, none⟩ = some (.slice A4 x.f4.length c4) := (ba_ HK6.out 4).trans rfl; have hc6_5 : w6.cell? ⟨g, 5, none⟩ = some (.slice A5 x.f5.length c5) := (ba_ HK6.out 5).trans rfl) | (go_at_call 48; with_reducible refine (H9.out _ HB6.out).mono ?_; rintro e w7 ⟨v7, rfl, hN7, hB⟩; have HK7 := aM_ (la_ HK6.out hB); have HB7 : Az (Below w.heap.size w w7) := ⟨da_ HB6.out hB⟩; obtain ⟨A7, c7, hs7⟩ := Kd.N_slice hN7; subst hs7; have hcw := ht_ A7 c7 RS w7 (Kd.N_reads' hN7).2.2 (Kd.N_reads' hN7).2.1; rw [HB10.out] at hcw; have HC7 := aM_ hcw; clear hB hN7 hcw; clear hc6_0; clear hc6_1; clear hc6_2; clear hc6_3; clear hc6_4; clear hc6_5) | (go_at_call 47; with_reducible refine (HC7.out).mono ?_; rintro e w8 ⟨rfl, hB⟩; have HK8 := aM_ (la_ HK7.out hB); have HB8 : Az (Below w.heap.size w w8) := ⟨da_ HB7.out hB⟩; clear hB))
   first
    | (go_ret; rw [HG.out]; first | exact ⟨rfl, HB8.out⟩ | exact ⟨rfl, HB7.out⟩ | exact ⟨rfl, HB6.out⟩ | exact ⟨rfl, HB5.out⟩ | exact ⟨rfl, HB4.out⟩ | exact ⟨rfl, HB3.out⟩ | exact ⟨rfl, HB2.out⟩ | exact ⟨rfl, HB1.out⟩)
    | skip
  go_roundg (l.length - (i + 1))
  case measure => omega
  case rel => exact ⟨i + 1, Td_, Td_, Va_, HG, HB8⟩
 have he : i = l.length := by omega
 have hilz : decide ((i : Int) < (l.length : Int)) = false := by simp; omega
 have HG : Az (r = true) := ⟨by rw [HE.out, he, Nat.sub_self]; rfl⟩
 clear he
 go_wp2
 go_ret
 rw [HG.out]
 exact ⟨rfl, HW.out⟩
end Go.Proofs.YtiocgaekoeekgaaGreat.P
end
section
namespace Go.Proofs.YtiocgaekoeekgaaGreat.P
open Go.RowKit YtiocgaekoeekgaaGreatW.PrintWords YtiocgaekoeekgaaGreatW.PrintLast YtiocgaekoeekgaaGreatW.PrintMore
attribute [local go_sem] ub_ rb_ cc_ bc_ kb_ jb_ tb_ qb_   
set_option linter.unusedVariables false
set_option linter.unusedSimpArgs false
theorem Reach.inv {next : Int → List Int} {l0 : List Int} {P : Int → Prop} (h0 : ∀ x ∈ l0, P x) (hs : ∀ x, P x → ∀ y ∈ next x, P y) {y : Int} (h : Reach next l0 y) : P y := by
 induction h with
 | base h => exact h0 _ h
 | step _ h ih => exact hs _ ih _ h
def hits (r : dc_) (p : Int × Int) : Prop := r.f1 = [p.2] ∧ nc_ p.2 ∧ r.f0 = p.1
theorem hits_iff (r : dc_) (p : Int × Int) : hits r p ↔ (r.f1.length = 1 ∧ 0 ≤ rd r.f1 0 ∧ rd r.f1 0 < 20) ∧ p = (r.f0, rd r.f1 0) := by
 unfold hits nc_
 constructor
 ·rintro ⟨h1, h2, h3⟩
  have h4 : rd r.f1 0 = p.2 := by rw [h1]; rfl
  rw [h4, h3, h1]; exact ⟨⟨rfl, h2⟩, rfl⟩
 rintro ⟨⟨h1, h2, h3⟩, rfl⟩
 refine ⟨?_, ⟨h2, h3⟩, rfl⟩
 match hr : r.f1, h1 with
 | [x], _ => simp [rd]
theorem no_ (p : Int × Int) : ∀ (l : List dc_) (m : List ((Int × Int) × Int)), (∀ q, 0 ≤ (mget m q).getD 0) → (0 < (mget (l.foldl kc_ m) p).getD 0 ↔ 0 < (mget m p).getD 0 ∨ ∃ r ∈ l, hits r p)
 | [], m, h => by simp
 | r :: l, m, h => by
  have h2 : ∀ q, 0 ≤ (mget (kc_ m r) q).getD 0 := by
   intro q; unfold kc_
   split
   ·by_cases e : q = (r.f0, rd r.f1 0)
    (focus (subst e; rw [wc_]; have := h (r.f0, rd r.f1 0); simp only [Option.getD_some]; omega)); rw [qd_ _ _ _ e]; exact h q
   exact h q
  rw [List.foldl_cons, no_ p l _ h2]
  have h3 : 0 < (mget (kc_ m r) p).getD 0 ↔ 0 < (mget m p).getD 0 ∨ hits r p := by
   rw [hits_iff]; unfold kc_
   split
   case isTrue hc =>
    by_cases e : p = (r.f0, rd r.f1 0)
    ·have := h p
     rw [e, wc_]; simp only [Option.getD_some]; rw [e] at this; constructor
     ·intro _; exact .inr ⟨hc, trivial⟩
     intro _; omega
    rw [qd_ _ _ _ e]; exact ⟨.inl, fun h => h.elim id (fun h => absurd h.2 e)⟩
   case isFalse hc => exact ⟨.inl, fun h => h.elim id (fun h => absurd h.1 hc)⟩
  rw [h3, or_assoc]; simp
theorem uj_ (l0 : List dc_) (x : Int) (hx : nc_ x) (y : Int) : y ∈ cb_ l0 x ↔ nc_ y ∧ ∃ r ∈ l0, r.f0 = x ∧ r.f1 = [y] := by
 obtain ⟨n, rfl⟩ : ∃ n : Nat, x = n := ⟨x.toNat, by have := hx.1; omega⟩
 rw [vh_ l0 n (by have := hx.2; omega)]
 unfold pc_ hd_
 rw [List.mem_filter]
 have hm : y ∈ (List.range 20).map (fun (x : Nat) => (x : Int)) ↔ nc_ y := ee_ y
 rw [hm, decide_eq_true_eq, no_ _ l0 [] (fun q => by simp [mget])]
 simp only [mget, Option.getD_none, Int.lt_irrefl, false_or, hits]
 constructor
 ·rintro ⟨h1, r, hr, h2, _, h3⟩
  exact ⟨h1, r, hr, h3, h2⟩
 rintro ⟨h1, r, hr, h2, h3⟩
 exact ⟨h1, r, hr, h3, h1, h2⟩
theorem xi_ (l0 : List dc_) (x : Int) (hx : nc_ x) : ef_ l0 x = true ↔ Reach (cb_ l0) (cb_ l0 x) x := by
 unfold ef_
 rw [decide_eq_true_eq, gm_ (oc_ l0) (oc_ l0 x hx)]
theorem gg_ (l0 : List dc_) : uc_ l0 = true ↔ l0.length ≤ 60 ∧ l0.all yd_ = true ∧ ∀ x, nc_ x → ¬ Reach (cb_ l0) (cb_ l0 x) x := by
 unfold uc_
 rw [Bool.and_eq_true, Bool.and_eq_true, decide_eq_true_eq, List.all_eq_true (l := symbols)]
 refine and_congr Iff.rfl (and_congr Iff.rfl ⟨fun h x hx => ?_, fun h x hx => ?_⟩)
 ·have h1 := h x ((ee_ x).2 hx)
  rw [← xi_ l0 x hx]; intro h2; rw [h2] at h1
  cases h1
 have hx' := (ee_ x).1 hx
 have h1 := h x hx'
 rw [← xi_ l0 x hx'] at h1
 simp [h1]
theorem cm_ (l0 : List dc_) (f : Int → Int) (h : ∀ r ∈ l0, ∀ y, r.f1 = [y] → nc_ r.f0 → nc_ y → f r.f0 < f y) (x : Int) (hx : nc_ x) : ¬ Reach (cb_ l0) (cb_ l0 x) x := by
 have hstep : ∀ x, nc_ x → ∀ y ∈ cb_ l0 x, f x < f y := by
  intro x hx y hy; obtain ⟨h1, r, hr, h2, h3⟩ := (uj_ l0 x hx y).1 hy; subst h2; exact h r hr y h3 hx h1
 intro hr
 have := Reach.inv (P := fun y => nc_ y ∧ f x < f y) (fun y hy => ⟨oc_ l0 x hx y hy, hstep x hx y hy⟩) (fun z hz y hy => ⟨oc_ l0 z hz.1 y hy, Int.lt_trans hz.2 (hstep z hz.1 y hy)⟩) hr
 exact Int.lt_irrefl _ this.2
def okLocsB (l : List S44) : Bool := l.all fun x => decide (x.f0.size ≤ 1000000000000) && decide (x.f4.length ≤ 1000000)
theorem vu_ {l : List S44} (h : okLocsB l = true) : hp_ l := by
 intro x hx
 have := List.all_eq_true.1 h x hx
 simpa using this
theorem jt_ : uc_ [] = true := by
 rw [gg_]
 exact ⟨Tt_, rfl, fun x hx => cm_ _ id (fun r hr => by cases hr) x hx⟩
noncomputable def locPl (l : List S44) (i : Nat) (x : S44) : Bool :=
 idP x.f0 && (!((l.take i).any fun y => y.f0.toList == x.f0.toList) && (ib_ x.f1 (-1) ((i : Int) - 1) && (ib_ x.f2 0 3 && (!decide (30 < x.f3.length) && (!decide (20 < x.f5.length) && (x.f3.all ie_ && (x.f5.all bf_ && !decide (60 < x.f4.length))))))))
noncomputable def oj_ (l : List S44) : Nat → Nat → Bool
 | 0, _ => true
 | n + 1, i => if locPl l i (pa_ l (i : Int)) = true then oj_ l n (i + 1) else false
noncomputable def rt_ (l : List S44) : Bool := if 10 < l.length then false else oj_ l l.length 0
def plainB (l : List S44) : Bool := l.all fun x => x.f4.isEmpty && x.f5.isEmpty
theorem pu_ {l : List S44} (h : plainB l = true) : ej_ l := by
 intro x hx
 have := List.all_eq_true.1 h x hx
 simp only [Bool.and_eq_true, List.isEmpty_iff] at this
 exact this
theorem vk_ {l : List S44} (h : ej_ l) : ∀ n i : Nat, oj_ l n i = qe_ l n i
 | 0, _ => rfl
 | n + 1, i => by
  have hr : jd_ l i = [] := qf_ h _ _
  have hl : go_ l i (pa_ l (i : Int)) = locPl l i (pa_ l (i : Int)) := by
   unfold go_ locPl; rw [hr, jt_, Bool.and_true]
  rw [oj_, qe_, hl, vk_ h n (i + 1)]
theorem xr_ {l : List S44} (h : ej_ l) : rt_ l = af_ l := by
 unfold rt_ af_
 rw [vk_ h]
def lowP (n : Int) (l : List Int) : Nat := (l.takeWhile fun x => decide (x < n)).length
def putP (l : List Int) (n : Int) : List Int := if (l.drop (lowP n l)).head? = some n then l else l.take (lowP n l) ++ n :: l.drop (lowP n l)
theorem jp_ (n : Int) : ∀ (l : List Int) (k : Nat), k ≤ l.length → (∀ j, j < k → ∀ h : j < l.length, l[j] < n) → (∀ h : k < l.length, ¬ l[k] < n) → lowP n l = k
 | [], k, hk, _, _ => by simp at hk; subst hk; rfl
 | x :: l, 0, _, _, h1 => by
  have h2 := h1 Tt_; unfold lowP; rw [List.takeWhile_cons, if_neg (by simpa using h2)]
  rfl
 | x :: l, k + 1, hk, h0, h1 => by
  have h2 := h0 0 Td_ Tt_; have h3 : x < n := h2; have h4 := jp_ n l k (by simpa using hk) (fun j hj hl => by have := h0 (j + 1) Td_ (by simpa using hl); simpa using this) (fun hl => by have := h1 (by simpa using hl); simpa using this); unfold lowP at h4 ⊢; rw [List.takeWhile_cons, if_pos (by simpa using h3), List.length_cons, h4]
section
variable {ops : Array Oper} {o : Oper} {a : Act} {Q : Exit → Act → World → Prop} {Kc : Act → World → Prop}
theorem wf_ {W : World} {v : Value} (op : Op) (_h : o.op = op) (h : if Region.wanted o (yielded ops a.tmps) = true then Oper.wp Tryz.prog o a W Kc Q else Kc (a.put o.dst v) W) : if Region.wanted o (yielded ops a.tmps) = true then Oper.wp Tryz.prog o a W Kc Q else Kc (a.put o.dst v) W := h
theorem gu_ {W : World} {g : Nat} {n : Int} (h : W.heap[g]? = some (.cells #[.int .i64 n] 3 (0, 0))) : Kd.C (Kd.int .i64) W (some ⟨g, 0, none⟩) 1 [n] :=
 ai_ (d := Kd.int .i64) (xs := [n]) (cs := [.int .i64 n]) h Tt_ (ts_ rfl rfl)
theorem xq_ {W : World} {base g : Nat} (h : W.heap[g]? = some (.cells #[] 3 (0, 0))) (hb : base ≤ g) : Kd.R (Kd.int .i64) 3 W base (fun _ => True) (.slice (some ⟨g, 0, none⟩) 0 0) ([] : List Int) :=
 ⟨fun _ _ => trivial, [], ⟨rfl, .inr ⟨g, 0, #[], rfl, hb, h, Nat.le_refl _, Nat.zero_le _, rfl, rfl⟩⟩, Reps.none _ _⟩
theorem dh_ {w0 W : World} (base : Nat) (hw : Region.wanted o (yielded ops a.tmps) = true) (s x : Operand) (ho : o.op = .call { callee := .builtin .append, args := #[s, x], argTypes := #[35, 35] })
  (v : Value) (xs ys : List Int) (A : Option Addr) (m c : Nat) (hs : a.eval s = v) (hx : a.eval x = .slice A m c)
  (HO : Kd.R (Kd.int .i64) 3 W base (fun _ => True) v xs) (HR : Kd.C (Kd.int .i64) W A m ys) (HB : Below base w0 W) (hbase : base ≤ W.heap.size) (hl : (xs.length + m) * 8 ≤ 140737488355328)
  (h : ∀ v1 w1, Kd.R (Kd.int .i64) 3 w1 base (fun _ => True) v1 (xs ++ ys) → Below base w0 w1 → W.grownBy w1 v.ownBlock → Kc (a.put o.dst v1) w1) :
  if Region.wanted o (yielded ops a.tmps) = true then Oper.wp Tryz.prog o a W Kc Q else Kc (a.put o.dst undef) W :=
 Kd.R_append_rows_step (Kd.int .i64) base hw s x 35 3 (.int .i64 0) 8 ho Tryz.underlying35 qg_ rfl Tm_ Td_ v xs ys A m c (fun _ => True) (fun _ => False) hs hx HO HR (fun _ _ h => h) (fun _ hk => hk.elim) (fun _ _ => trivial) HB hbase hl (fun v1 w1 h1 h2 h3 _ => h v1 w1 h1 h2 h3)
end
theorem put_walk (A0 : Option Addr) (c0 : Nat) (l : List Int) (n : Int) (w : World) (hr0 : Kd.C (Kd.int .i64) w A0 l.length l) (hc0 : l.length ≤ c0) (hl : l.length ≤ 1000000000000) :
  Calls Tryz.prog 117 #[.slice A0 l.length c0, .int .i64 n] w fun e w' => ∃ v : Value, e = .returned v ∧ Below w.heap.size w w' ∧ ((v = .slice A0 l.length c0 ∧ putP l n = l) ∨ Kd.R (Kd.int .i64) 3 w' w.heap.size (fun _ => True) v (putP l n)) := by
 have HR := aM_ hr0
 have HC := aM_ hc0
 clear hr0 hc0
 go_enter Tryz.func117, Tryz.ntmps117
 go_wp2
 go_loopg [5] l.length (fun gg s5 wr => ∃ kk : Nat, kk ≤ l.length ∧ l.length - kk ≤ gg ∧ s5 = .int .i64 kk ∧ Drawn0 w wr ∧ Az (∀ j, j < kk → ∀ h : j < l.length, l[j] < n))
 case atStart => exact ⟨0, Nat.zero_le _, Td_, rfl, Drawn0.refl _, ⟨fun j hj => absurd hj (Nat.not_lt_zero _)⟩⟩
 obtain ⟨kk, hkk, hgg, rfl, ⟨nd, rfl⟩, AB⟩ := hrel
 by_cases hlt : kk < l.length
 ·have hltz : (kk : Int) < (l.length : Int) := by omega
  obtain ⟨ad, hA, hcell⟩ := Kd.at_int HR.out kk Td_ hltz; rw [Int.toNat_natCast] at hcell; rw [cf_ l kk hlt] at hcell; have hcell2 : (w.drewN nd).cell? (ad.add kk) = some (.int .i64 l[kk]) := hcell; subst hA; clear hcell
  by_cases hx : l[kk] < n
  ·have hxb : decide (l[kk] < n) = true := decide_eq_true hx
   generalize hy : l[kk] = y at *; clear hx
   go_wp2
   go_roundg (l.length - (kk + 1))
   case measure => omega
   case rel =>
    refine ⟨kk + 1, Td_, Td_, Va_, ⟨_, rfl⟩, ⟨fun j hj hl => ?_⟩⟩
    by_cases e : j = kk
    ·subst e; rw [hy]; exact of_decide_eq_true hxb
    exact AB.out j Td_ hl
  have hlow := jp_ n l kk hkk AB.out (fun _ => hx)
  by_cases he : l[kk] = n
  ·have hxb : decide (l[kk] < n) = false := decide_eq_false hx
   have heb : decide (l[kk] = n) = true := decide_eq_true he
   have hz : putP l n = l := by
    unfold putP; rw [hlow, List.head?_drop, List.getElem?_eq_getElem hlt, if_pos (by rw [he])]
   generalize hy : l[kk] = y at *; clear hx
   go_wp2
   go_ret
   exact ⟨_, rfl, ca_ (Below.refl _ _) _, .inl ⟨rfl, hz⟩⟩
  have hxb : decide (l[kk] < n) = false := decide_eq_false hx; have heb : decide (l[kk] = n) = false := decide_eq_false he
  have hz : putP l n = l.take kk ++ n :: l.drop kk := by
   unfold putP; rw [hlow, List.head?_drop, List.getElem?_eq_getElem hlt, if_neg (fun h => he (Option.some.inj h))]
  generalize hy : l[kk] = y at *; clear hx; obtain ⟨i0, hi, hz0, hz1, hz2⟩ := info_parts qg_; obtain ⟨htk, htr, htc⟩ := ui_ (P := Tryz.prog) (Value.int .i64) (0 : Int) 35 3 .i64 Tryz.underlying35 hi hz1 (some ad) c0 l (kk : Int) Td_ Td_ HC.out; obtain ⟨A', hdk, hdr, hdc⟩ := sg_ (P := Tryz.prog) (Value.int .i64) (0 : Int) 35 3 .i64 Tryz.underlying35 hi hz1 (some ad) c0 l (kk : Int) Td_ Td_ HC.out; rw [Int.toNat_natCast] at htc hdc; simp only [Int.toNat_natCast] at htk htr hdk hdr; have HT := aM_ (Kd.C_of_reads (enc := Value.int .i64) (h1 := fun _ => rfl) (htr w (Kd.reads_of_C (d := (0 : Int)) HR.out))); have HD := aM_ (Kd.C_of_reads (enc := Value.int .i64) (h1 := fun _ => rfl) (hdr w (Kd.reads_of_C (d := (0 : Int)) HR.out))); have HPZ := aM_ hz; clear htr hdr htc hdc hi hz0 hz1 hz2 hz; have hlt1 : (l.take kk).length ≤ 1000000000000 := Nat.le_trans (List.length_take_le _ _) Td_; have hld1 : (l.drop kk).length ≤ 1000000000000 := by rw [List.length_drop]; omega
  generalize l.take kk = lt at *; generalize l.drop kk = ld at *
  go_wp2
  have hbw : ∀ W, Below w.heap.size w W → Kd.C (Kd.int .i64) W (some ad) lt.length lt ∧ Kd.C (Kd.int .i64) W A' ld.length ld := fun W hb => ⟨Kd.C_below HT.out hb, Kd.C_below HD.out hb⟩
  go_region_law (first
   | (refine wf_ (.call { callee := .builtin .append, args := #[.tmp 33, .tmp 36], argTypes := #[35, 35] }) rfl ?_; refine dh_ (w0 := w) w.heap.size Vh_ (.tmp 33) (.tmp 36) Vh_ (.slice (some ⟨_, 0, none⟩) 0 0) [] lt (some ad) lt.length c0 Vh_ Vh_ (xq_ (by repeat (first | exact gb_ (by first | rfl | (simp; done)) | apply ta_)) Td_) (hbw _ Ug_).1 Ug_ (by first | (simp; done) | (simp; omega)) Wr_ ?_; intro v1 w1 ho1 hb1 hg1)
   | (refine wf_ (.call { callee := .builtin .append, args := #[.tmp 40, .tmp 43], argTypes := #[35, 35] }) rfl ?_; refine dh_ (w0 := w) w.heap.size Vh_ (.tmp 40) (.tmp 43) Vh_ v2 (lt ++ [n]) ld A' ld.length (c0 - kk) Vh_ Vh_ ho2 (hbw _ hb2).2 hb2 hb2.size Wr_ ?_; intro v3 w3 ho3 hb3 hg3)
   | (refine wf_ (.call { callee := .builtin .append, args := #[.tmp 37, .tmp 39], argTypes := #[35, 35] }) rfl ?_; refine dh_ (w0 := w) w.heap.size Vh_ (.tmp 37) (.tmp 39) Vh_ v1 lt [n] _ 1 1 Vh_ Vh_ (by first | exact ho1 | exact Kd.R_alloc ho1 _) (gu_ (by first | exact gb_ (by first | rfl | (simp; done)) | exact fb_ (by repeat (first | exact gb_ (by first | rfl | (simp; done)) | apply ta_)) hg1 (by simp [Value.ownBlock] <;> omega))) Ug_ (by first | exact hb1.size | (have := hb1.size; simp; omega)) Wr_ ?_; intro v2 w2 ho2 hb2 hg2))
  all_goals
   go_wp2
   go_ret
   exact ⟨_, rfl, hb3, .inr (by rw [HPZ.out, show lt ++ n :: ld = lt ++ [n] ++ ld by simp]; exact ho3)⟩
 have hltz : ¬ (kk : Int) < (l.length : Int) := by omega
 have hke : kk = l.length := by omega
 have hlow := jp_ n l kk hkk AB.out (fun h => absurd h hlt)
 have hz : putP l n = l.take kk ++ n :: l.drop kk := by
  unfold putP; rw [hlow, List.head?_drop, List.getElem?_eq_none Td_, if_neg Tt_]
 have hkl : l.length ≤ kk := by omega
 clear hke
 obtain ⟨i0, hi, hz0, hz1, hz2⟩ := info_parts qg_
 obtain ⟨htk, htr, htc⟩ := ui_ (P := Tryz.prog) (Value.int .i64) (0 : Int) 35 3 .i64 Tryz.underlying35 hi hz1 A0 c0 l (kk : Int) Td_ Td_ HC.out
 obtain ⟨A', hdk, hdr, hdc⟩ := sg_ (P := Tryz.prog) (Value.int .i64) (0 : Int) 35 3 .i64 Tryz.underlying35 hi hz1 A0 c0 l (kk : Int) Td_ Td_ HC.out
 rw [Int.toNat_natCast] at htc hdc
 simp only [Int.toNat_natCast] at htk htr hdk hdr
 have HT := aM_ (Kd.C_of_reads (enc := Value.int .i64) (h1 := fun _ => rfl) (htr w (Kd.reads_of_C (d := (0 : Int)) HR.out)))
 have HD := aM_ (Kd.C_of_reads (enc := Value.int .i64) (h1 := fun _ => rfl) (hdr w (Kd.reads_of_C (d := (0 : Int)) HR.out)))
 have HPZ := aM_ hz
 clear htr hdr htc hdc hi hz0 hz1 hz2 hz
 have hlt1 : (l.take kk).length ≤ 1000000000000 := Nat.le_trans (List.length_take_le _ _) Td_
 have hld1 : (l.drop kk).length ≤ 1000000000000 := by rw [List.length_drop]; omega
 generalize l.take kk = lt at *
 generalize l.drop kk = ld at *
 go_wp2
 have hbw : ∀ W, Below w.heap.size w W → Kd.C (Kd.int .i64) W A0 lt.length lt ∧ Kd.C (Kd.int .i64) W A' ld.length ld := fun W hb => ⟨Kd.C_below HT.out hb, Kd.C_below HD.out hb⟩
 go_region_law (first
  | (refine wf_ (.call { callee := .builtin .append, args := #[.tmp 33, .tmp 36], argTypes := #[35, 35] }) rfl ?_; refine dh_ (w0 := w) w.heap.size Vh_ (.tmp 33) (.tmp 36) Vh_ (.slice (some ⟨_, 0, none⟩) 0 0) [] lt A0 lt.length c0 Vh_ Vh_ (xq_ (by repeat (first | exact gb_ (by first | rfl | (simp; done)) | apply ta_)) Td_) (hbw _ Ug_).1 Ug_ (by first | (simp; done) | (simp; omega)) Wr_ ?_; intro v1 w1 ho1 hb1 hg1)
  | (refine wf_ (.call { callee := .builtin .append, args := #[.tmp 40, .tmp 43], argTypes := #[35, 35] }) rfl ?_; refine dh_ (w0 := w) w.heap.size Vh_ (.tmp 40) (.tmp 43) Vh_ v2 (lt ++ [n]) ld A' ld.length (c0 - kk) Vh_ Vh_ ho2 (hbw _ hb2).2 hb2 hb2.size Wr_ ?_; intro v3 w3 ho3 hb3 hg3)
  | (refine wf_ (.call { callee := .builtin .append, args := #[.tmp 37, .tmp 39], argTypes := #[35, 35] }) rfl ?_; refine dh_ (w0 := w) w.heap.size Vh_ (.tmp 37) (.tmp 39) Vh_ v1 lt [n] _ 1 1 Vh_ Vh_ (by first | exact ho1 | exact Kd.R_alloc ho1 _) (gu_ (by first | exact gb_ (by first | rfl | (simp; done)) | exact fb_ (by repeat (first | exact gb_ (by first | rfl | (simp; done)) | apply ta_)) hg1 (by simp [Value.ownBlock] <;> omega))) Ug_ (by first | exact hb1.size | (have := hb1.size; simp; omega)) Wr_ ?_; intro v2 w2 ho2 hb2 hg2))
 all_goals
  go_wp2
  go_ret
  exact ⟨_, rfl, hb3, .inr (by rw [HPZ.out, show lt ++ n :: ld = lt ++ [n] ++ ld by simp]; exact ho3)⟩
theorem mem_putP (l : List Int) (n : Int) (y : Int) : y ∈ putP l n ↔ y = n ∨ y ∈ l := by
 unfold putP
 split
 case isTrue h =>
  constructor
  ·exact .inr
  rintro (rfl | h2)
  ·have : y ∈ l.drop (lowP y l) := by
    cases hd : l.drop (lowP y l) with
    | nil => rw [hd] at h; cases h
    | cons a t => rw [hd] at h; simp at h; simp [h]
   exact List.mem_of_mem_drop this
  exact h2
 case isFalse h =>
  rw [List.mem_append, List.mem_cons]; constructor
  ·rintro (h | rfl | h)
   ·exact .inr (List.mem_of_mem_take h)
   ·exact .inl rfl
   exact .inr (List.mem_of_mem_drop h)
  rintro (rfl | h)
  ·exact .inr (.inl rfl)
  rw [← List.take_append_drop (lowP n l) l, List.mem_append] at h
  rcases h with h | h
  ·exact .inl h
  exact .inr (.inr h)
def oneOf (r : dc_) : Bool := decide (r.f1.length = 1 ∧ 0 ≤ rd r.f1 0)
def pe_ (rows : Nat → List Int) (r : dc_) : Nat → List Int := fun s => if oneOf r = true ∧ r.f0 = (s : Int) then putP (rows s) (rd r.f1 0) else rows s
def lb_ (l : List dc_) : Nat → List Int := l.foldl pe_ (fun _ => [])
theorem ap_ (l : List dc_) (k : Nat) (h : k < l.length) : lb_ (l.take (k + 1)) = pe_ (lb_ (l.take k)) l[k] := by
 unfold lb_
 rw [List.take_succ_eq_append_getElem h, List.foldl_append]
 rfl
theorem putP_len (l : List Int) (n : Int) : (putP l n).length ≤ l.length + 1 := by
 unfold putP
 split
 ·omega
 rw [List.length_append, List.length_cons, List.length_take, List.length_drop]
 have : lowP n l ≤ l.length := by
  unfold lowP; exact (List.takeWhile_sublist _).length_le
 omega
theorem iq_ (l : List dc_) (s : Nat) : (lb_ l s).length ≤ l.length := by
 suffices h : ∀ (l : List dc_) (rows : Nat → List Int) (n : Nat), (rows s).length ≤ n → (l.foldl pe_ rows s).length ≤ n + l.length by
  have := h l (fun _ => []) 0 (Nat.le_refl _); rw [Nat.zero_add] at this; exact this
 intro l
 induction l with
 | nil => intro rows n h; exact h
 | cons r l ih =>
  intro rows n h
  have h2 : (pe_ rows r s).length ≤ n + 1 := by
   unfold pe_
   split
   ·exact Nat.le_trans (putP_len _ _) Td_
   omega
  have := ih (pe_ rows r) (n + 1) h2; rw [List.foldl_cons, List.length_cons, show n + (l.length + 1) = n + 1 + l.length by omega]; exact this
def if_ (l0 : List dc_) : List (List Int) := (List.range 20).map (lb_ l0)
theorem URows.swap {base g : Nat} {rows rows' : Nat → List Int} {W W1 : World} {vals : List Value} {f : Nat → Nat} {i : Nat} {v0 v1 : Value} (h : URows base g rows 20 W vals f) (hb : Below W.heap.size W W1) (hw : base ≤ W.heap.size) (hv : vals[i]? = some v0) (hrows : ∀ j, j ≠ i → rows' j = rows j)
  (hc : (v1 = v0 ∧ rows' i = rows i) ∨ Kd.R (Kd.int .i64) 3 W1 W.heap.size (fun _ => True) v1 (rows' i)) : ∃ f', URows base g rows' 20 (W1.setCell ⟨g, i, none⟩ v1) (vals.set i v1) f' := by
 have hi : i < vals.length := (List.getElem?_eq_some_iff.1 hv).1
 have hi20 : i < 20 := by have := h.len; omega
 have hgl := bb_ h.blk
 refine ⟨fun k => if k < W.heap.size then f k else i, by rw [List.length_set]; exact h.len, ?_, h.ge, fun j hj => ?_, fun j hj hj2 => by omega⟩
 ·refine jc_ (la_ h.blk hb) i v1 ?_
  simp
 by_cases e : j = i
 ·subst e
  refine ⟨v1, by rw [List.getElem?_set_self hi], ?_⟩
  rcases hc with ⟨e1, e2⟩ | hR
  (focus (obtain ⟨v, h1, h2⟩ := h.done j hj; rw [hv] at h1; obtain rfl := Option.some.inj h1; subst e1; rw [e2]; refine Kd.R_far (Kd.R_mono (Kd.R_below (Kd.R_bound h2) hb) (fun k hk => ⟨hk.1.1, ?_⟩)) (fun k hk => hk.1) _; rw [if_pos hk.2.2.1]; exact hk.1.2)); refine Kd.R_far (Kd.R_mono (Kd.R_lower (Kd.R_bound hR) hw) (fun k hk => ⟨?_, ?_⟩)) (fun k hk => hk.1) _
  ·have := hk.2.1
   omega
  rw [if_neg (by have := hk.2.1; omega)]
 obtain ⟨v, h1, h2⟩ := h.done j hj
 refine ⟨v, by rw [List.getElem?_set_ne (fun h => e h.symm)]; exact h1, ?_⟩
 rw [hrows j e]
 refine Kd.R_far (Kd.R_mono (Kd.R_below (Kd.R_bound h2) hb) (fun k hk => ⟨hk.1.1, ?_⟩)) (fun k hk => hk.1) _
 rw [if_pos hk.2.2.1]
 exact hk.1.2
theorem URows.below {base g : Nat} {rows : Nat → List Int} {W W1 : World} {vals : List Value} {f : Nat → Nat} {i : Nat} (h : URows base g rows i W vals f) (hb : Below W.heap.size W W1) : URows base g rows i W1 vals f :=
 ⟨h.len, la_ h.blk hb, h.ge, fun j hj => by obtain ⟨v, h1, h2⟩ := h.done j hj; exact ⟨v, h1, Kd.R_below h2 hb⟩, h.rest⟩
theorem ou_ (A0 : Option Addr) (c0 n0 : Nat) (l : List Int) (n : Int) (w : World) (hr0 : Kd.C (Kd.int .i64) w A0 n0 l) (hc0 : n0 ≤ c0) (hl : n0 ≤ 1000000000000) (hn : l.length = n0) :
  Calls Tryz.prog 117 #[.slice A0 n0 c0, .int .i64 n] w fun e w' => ∃ A n1 c, e = .returned (.slice A n1 c) ∧ Below w.heap.size w w' ∧ ((.slice A n1 c = Value.slice A0 n0 c0 ∧ putP l n = l) ∨ Kd.R (Kd.int .i64) 3 w' w.heap.size (fun _ => True) (.slice A n1 c) (putP l n)) := by
 subst hn
 refine (put_walk A0 c0 l n w hr0 hc0 hl).mono ?_
 rintro e w' ⟨v, rfl, hb, hcase⟩
 have : ∃ A n1 c, v = .slice A n1 c := by
  rcases hcase with ⟨rfl, _⟩ | h
  ·exact ⟨_, _, _, rfl⟩
  obtain ⟨A, c, rfl⟩ := Kd.R_slice h; exact ⟨_, _, _, rfl⟩
 obtain ⟨A, n1, c, rfl⟩ := this
 exact ⟨A, n1, c, rfl, hb, hcase⟩
theorem in_ (A0 : Option Addr) (c0 : Nat) (l0 : List dc_) (w : World) (hr0 : Kd.C k56 w A0 l0.length l0) (hc0 : l0.length ≤ c0) (hu : ek_ l0 = true) :
  Calls Tryz.prog 68 #[.slice A0 l0.length c0] w fun e w' => ∃ v0_ : Value, e = .returned (v0_) ∧ Kd.S (Kd.slice 3 (Kd.int .i64)) 35 w' w.heap.size (fun _ => True) v0_ (if_ l0) ∧ Below w.heap.size w w' := by
 have hu2 := hu
 simp only [ek_, Bool.and_eq_true, List.all_eq_true, decide_eq_true_eq] at hu2
 obtain ⟨hu3, hlen⟩ := hu2
 have HU := aM_ hu3
 have HR := aM_ hr0
 have HC := aM_ hc0
 clear hr0 hc0 hu hu3
 have hmk : ∀ w, (Instr.makeSlice 111 (.int .i64 20) (.int .i64 20)).run Tryz.prog w = .ok (.slice (some ⟨w.heap.size, 0, none⟩) 20 20) (w.alloc (.cells (List.replicate 20 (Value.slice none 0 0)).toArray 35)) := fun _ => by kernel_rfl
 have HU0 : Az (∃ vals f, URows w.heap.size w.heap.size (fun _ => []) 20 (w.alloc (.cells (List.replicate 20 (Value.slice none 0 0)).toArray 35)) vals f) :=
  ⟨List.replicate 20 (.slice none 0 0), fun _ => 0, ⟨Tt_, oa_ _ _, Nat.le_refl _, fun j hj => ⟨.slice none 0 0, by rw [List.getElem?_replicate, if_pos hj], Kd.R_nil _ _ _ _ _⟩, fun j hj hj2 => by omega⟩⟩
 have HB1 := aM_ (aa_ (Below.refl w.heap.size w) (.cells (List.replicate 20 (Value.slice none 0 0)).toArray 35))
 go_enter Tryz.func68, Tryz.ntmps68
 go_wp2
 clear hmk
 go_loopg [4] l0.length (fun gg s4 wr => ∃ kk : Nat, kk ≤ l0.length ∧ l0.length - kk ≤ gg ∧ s4 = .int .i64 kk ∧ Az (∃ vals f, URows w.heap.size w.heap.size (lb_ (l0.take kk)) 20 wr vals f) ∧ Az (Below w.heap.size w wr))
 case atStart => exact ⟨0, Nat.zero_le _, Td_, rfl, HU0, HB1⟩
 clear HU0 HB1
 obtain ⟨kk, hkk, hgg, rfl, HX, HB⟩ := hrel
 by_cases hlt : kk < l0.length
 ·have hltz : (kk : Int) < (l0.length : Int) := by omega
  obtain ⟨ad, A1, c1, A3, c3, hA, h0, h1, h2, h3, h4, l1, g1, l3, g3⟩ := gj_ (Kd.C_below HR.out HB.out) kk Td_ hltz; have hx : wb_ l0 kk = l0[kk] := by simp [wb_, List.getD_eq_getElem?_getD, List.getElem?_eq_getElem hlt]
  have hsn := ap_ l0 kk hlt; have hyr := HU.out _ (List.getElem_mem hlt); rw [← hx] at hsn hyr; generalize wb_ l0 kk = y at *; rw [Int.toNat_natCast] at h0 h1 h2 h3 h4; subst hA; obtain ⟨hy0, hy1⟩ := hyr; obtain ⟨s, hs⟩ : ∃ s : Nat, y.f0 = s := ⟨y.f0.toNat, Td_⟩; have hs20 : s < 20 := by omega
  have HSN := aM_ hsn; have HS := aM_ hs; clear hx l3 g3 hsn; rw [hs] at h0 hy0 hy1; clear hs
  by_cases hone : y.f1.length = 1
  ·obtain ⟨ad1, hA1, hcell⟩ := Kd.at_int g1 0 Td_ Td_
   have hcell' : wr.cell? ad1 = some (.int .i64 (rd y.f1 0)) := hcell; subst hA1; have hlx : wr.heap.size > ad1.block := World.block_lt_of_cell? wr _ hcell'; have hce : (wr.alloc (.cells #[.int .i64 s, .slice (some ad1) 1 c1, .int .i64 y.f2.f0, .slice A3 y.f2.f1.length c3, .int .i64 y.f3] 56)).cell? ad1 = some (.int .i64 (rd y.f1 0)) := (World.cell?_alloc_lt _ _ _ hlx).trans hcell'; rw [hone] at h1; generalize hrd : rd y.f1 0 = x at *; have HRDX := aM_ hrd; clear hrd hcell g1 hcell' hlx; have HBK := aM_ (oa_ wr (.cells #[.int .i64 s, .slice (some ad1) 1 c1, .int .i64 y.f2.f0, .slice A3 y.f2.f1.length c3, .int .i64 y.f3] 56)); have HB1 := aM_ (aa_ HB.out (.cells #[.int .i64 s, .slice (some ad1) 1 c1, .int .i64 y.f2.f0, .slice A3 y.f2.f1.length c3, .int .i64 y.f3] 56)); have HX1 : Az (∃ vals f, URows w.heap.size w.heap.size (lb_ (l0.take kk)) 20 (wr.alloc (.cells #[.int .i64 s, .slice (some ad1) 1 c1, .int .i64 y.f2.f0, .slice A3 y.f2.f1.length c3, .int .i64 y.f3] 56)) vals f) := ⟨by obtain ⟨vals, f, h⟩ := HX.out; exact ⟨vals, f, h.below (aa_ (Below.refl _ _) _)⟩⟩; have hd0 := ba_ HBK.out 0; have hd1 := ba_ HBK.out 1; simp only [List.getElem?_toArray, List.getElem?_cons_succ, List.getElem?_cons_zero] at hd0 hd1
   by_cases hx0 : 0 ≤ x
   ·have HST : Az (∀ j : Nat, lb_ (l0.take (kk + 1)) j = if j = s then putP (lb_ (l0.take kk) s) x else lb_ (l0.take kk) j) := ⟨by
     intro j; rw [HSN.out]; unfold pe_; rw [HRDX.out, HS.out]
     by_cases e : j = s
     ·subst e
      rw [if_pos rfl, if_pos ⟨decide_eq_true ⟨hone, by rw [HRDX.out]; exact hx0⟩, rfl⟩]
     rw [if_neg e, if_neg (fun h => e (by have := h.2; omega))]⟩
    obtain ⟨vals, f, hX⟩ := HX1.out; have HX1 := aM_ hX; obtain ⟨v, hv, hRs⟩ := hX.done s hs20; obtain ⟨Au, cu, rfl, hle, hCu⟩ := Kd.R_reads hRs; have hcg : (wr.alloc (.cells #[.int .i64 s, .slice (some ad1) 1 c1, .int .i64 y.f2.f0, .slice A3 y.f2.f1.length c3, .int .i64 y.f3] 56)).cell? ⟨w.heap.size, s, none⟩ = some (.slice Au (lb_ (l0.take kk) s).length cu) := (ba_ hX.blk s).trans (by rw [List.getElem?_toArray]; exact hv); have HV := aM_ hv; have HLE := aM_ hle; have HRD1 := aM_ hCu; have HLL : Az ((lb_ (l0.take kk) s).length ≤ 1000000000000) := ⟨Nat.le_trans (iq_ _ _) (Nat.le_trans (List.length_take_le _ _) Td_)⟩; generalize hnu : (lb_ (l0.take kk) s).length = nu at *; have HNU := aM_ hnu; clear hv hX hRs hle hCu hnu; clear HX HB
    go_wp2
    generalize wr.alloc (.cells #[.int .i64 s, .slice (some ad1) 1 c1, .int .i64 y.f2.f0, .slice A3 y.f2.f1.length c3, .int .i64 y.f3] 56) = W1 at *; generalize wr.heap.size = b at *; have HSZ0 := aM_ HB1.out.size; generalize w.heap.size = g at *; refine fd_ (n := 15) (S := fun w' => w'.cell? ⟨b, 0, none⟩ = some (.int .i64 s) ∧ w'.cell? ⟨b, 1, none⟩ = some (.slice (some ad1) 1 c1) ∧ w'.cell? ad1 = some (.int .i64 x) ∧ w'.cell? ⟨g, s, none⟩ = some (.slice Au nu cu)) (ds := [14]) (f_ 15 0) Ti_ rfl rfl ⟨hd0, hd1, hce, hcg⟩ (fun hHeld => ?_); have HX2 : Az (URows g g (lb_ (l0.take kk)) 20 W1.drew vals f) := ⟨HX1.out.below (md_ (Below.refl _ _))⟩; have HB2 : Az (Below g w W1.drew) := ⟨md_ HB1.out⟩; have HRD : Az (Kd.C (Kd.int .i64) W1.drew Au nu (lb_ (l0.take kk) s)) := ⟨Kd.C_below HRD1.out (md_ (Below.refl _ _))⟩; have HBG : Az (W1.drew.heap[g]? = some (.cells vals.toArray 35 (0, 0))) := ⟨HX2.out.blk⟩; have HSZ : Az (g ≤ W1.drew.heap.size) := ⟨HSZ0.out⟩; clear HX1 HB1 HRD1; generalize W1.drew = W2 at *; refine pV_ 0 ?_; refine pV_ 1 ?_; refine tV4_ 2 ?_; refine pV_ 3 ?_; refine pV_ 4 ?_; refine tV4_ 5 ?_; refine pV_ 6 ?_; refine tV4_ 7 ?_; refine pV_ 8 ?_; refine tV4_ 9 ?_; refine pV_ 10 ?_; refine tV4_ 11 ?_; refine oN_ 12 fun K hK => ?_
    refine gO_ Tryz.func117 #[.slice Au nu cu, .int .i64 x] ?_
    refine (ou_ Au cu nu (lb_ (l0.take kk) s) x W2 HRD.out HLE.out HLL.out HNU.out).mono ?_; rintro e w3 ⟨A5, n5, c5, rfl, hb3, hcase⟩; have HB3 := aM_ hb3; have HCASE := aM_ hcase; clear hb3 hcase; refine ⟨_, rfl, ?_⟩; refine hK.out _ _ ⟨fa_ HB3.out hHeld.1, fa_ HB3.out hHeld.2.1, fa_ HB3.out hHeld.2.2.1, fa_ HB3.out hHeld.2.2.2⟩ (fun hHeld => ?_); clear hK K; refine nO_ ?_; refine pV_ 13 ?_; refine lN_ 14 fun K hK => ?_
    have hs24 : w3.cell? ⟨g, s, none⟩ = some (.slice Au nu cu) := hHeld.2.2.2; have hfs24 : w3.frozen? ⟨g, s, none⟩ = false := ha_ (la_ HBG.out HB3.out) s; refine uf_ (w1 := ?_) Vh_ rfl ?_ ?_; rotate_left
    ·go_simp
     rfl
    refine hK.out _ _ ?_; clear hK K; refine wd_ Ti_ ?_
    try go_wp2
    go_roundg (l0.length - (kk + 1))
    case measure => omega
    case rel =>
     refine ⟨kk + 1, Td_, Td_, Va_, ⟨?_⟩, ⟨?_⟩⟩
     ·obtain ⟨f', h'⟩ := HX2.out.swap (rows' := lb_ (l0.take (kk + 1))) HB3.out HSZ.out HV.out (fun j hj => by rw [HST.out, if_neg hj]) (v1 := .slice A5 n5 c5) (by rw [HST.out, if_pos rfl]; exact HCASE.out)
      exact ⟨_, _, h'⟩
     exact (HB2.out.trans (HB3.out.mono HSZ.out)).setCell (Nat.le_refl _) _
   have hx0z : decide (0 ≤ x) = false := decide_eq_false hx0
   have HST : Az (lb_ (l0.take (kk + 1)) = lb_ (l0.take kk)) := ⟨by
    rw [HSN.out]
    funext j
    unfold pe_ oneOf
    rw [HRDX.out, if_neg (fun h => hx0 (of_decide_eq_true h.1).2)]⟩
   clear hone
   go_wp2
   go_roundg (l0.length - (kk + 1))
   case measure => omega
   case rel => exact ⟨kk + 1, Td_, Td_, Va_, ⟨by rw [HST.out]; exact HX1.out⟩, HB1⟩
  have HB1 := aM_ (aa_ HB.out (.cells #[.int .i64 s, .slice A1 y.f1.length c1, .int .i64 y.f2.f0, .slice A3 y.f2.f1.length c3, .int .i64 y.f3] 56)); have HX1 : Az (∃ vals f, URows w.heap.size w.heap.size (lb_ (l0.take kk)) 20 (wr.alloc (.cells #[.int .i64 s, .slice A1 y.f1.length c1, .int .i64 y.f2.f0, .slice A3 y.f2.f1.length c3, .int .i64 y.f3] 56)) vals f) := ⟨by obtain ⟨vals, f, h⟩ := HX.out; exact ⟨vals, f, h.below (aa_ (Below.refl _ _) _)⟩⟩; have honez : ((y.f1.length : Int) == 1) = false := beq_eq_false_iff_ne.2 Td_
  have HST : Az (lb_ (l0.take (kk + 1)) = lb_ (l0.take kk)) := ⟨by
   rw [HSN.out]
   funext j
   unfold pe_ oneOf
   rw [if_neg (fun h => hone (of_decide_eq_true h.1).1)]⟩
  clear hone
  go_wp2
  go_roundg (l0.length - (kk + 1))
  case measure => omega
  case rel => exact ⟨kk + 1, Td_, Td_, Va_, ⟨by rw [HST.out]; exact HX1.out⟩, HB1⟩
 have hltz : ¬ (kk : Int) < (l0.length : Int) := by omega
 have hkl : kk = l0.length := by omega
 subst hkl
 obtain ⟨vals, f, hU1⟩ := HX.out
 rw [List.take_length] at hU1
 have HV := aM_ hU1.toS
 clear hU1 HX
 go_wp2
 go_ret
 exact ⟨_, rfl, HV.out, HB.out⟩
end Go.Proofs.YtiocgaekoeekgaaGreat.P
end
