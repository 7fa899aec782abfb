/- Of any rules, over any rows of numbers and marks, chart.Spans and chart.Count tell what the document's chapter 7 tells. Part 6: contracts of the functions that the law reaches, and words for them. -/
import Derived.Deep.Slices
import Derived.ChangeArms
import Derived.ChangeSame
import Derived.Test.YtjfbfhoipgldgaaGreatMCR5
section
namespace Go.Proofs.YtjfbfhoipgldgaaGreat.P
open Go.RowKit Go.Proofs.YtjfbfhoipgldgaaGreatW.PrintWords Go.Proofs.YtjfbfhoipgldgaaGreatW.PrintLast Go.Proofs.YtjfbfhoipgldgaaGreatW.PrintMore
attribute [local go_sem] ob_ lb_ ub_ tb_ db_ cb_ nb_ kb_   
set_option linter.unusedVariables false
set_option linter.unusedSimpArgs false
attribute [local go_sem] Oper.semAt_some
def C7 (P : T7) (W : World) (F : Int → Nat → Nat → Nat) : Prop := ∃ f, IntBlk W P.cb P.cc f ∧ ∀ s p q : Nat, s < 20 → p ≤ P.n → q ≤ P.n → f (P.idx s p q) = Chart.cap P.most (F (s : Int) p q)
theorem C7.cell {P : T7} (hP : P.Ok) {W : World} {F : Int → Nat → Nat → Nat} (h : C7 P W F) (s p q : Nat) (hs : s < 20) (hp : p ≤ P.n) (hq : q ≤ P.n) : W.cell? ⟨P.cb, P.idx s p q, none⟩ = some (.int .i64 (Chart.cap P.most (F (s : Int) p q) : Int)) := by
 obtain ⟨f, h1, h2⟩ := h
 rw [h1.cell _ (by rw [hP.2.2.2]; exact P.idx_lt s p q hs hp hq), h2 s p q hs hp hq]
theorem C7.below {P : T7} {W W1 : World} {F : Int → Nat → Nat → Nat} (h : C7 P W F) (hb : Below W.heap.size W W1) : C7 P W1 F := by
 obtain ⟨f, h1, h2⟩ := h
 exact ⟨f, h1.below hb, h2⟩
def By7 (P : T7) (W : World) (bb : Nat) (toks : List Tok') : Prop := ∃ vals : Array Value, W.heap[bb]? = some (.cells vals 29 (0, 0)) ∧ vals.size = P.n + 1 ∧ ∀ q : Nat, q ≤ P.n → ∃ A c, vals[q]? = some (.slice A (atP toks q).length c) ∧ (atP toks q).length ≤ c ∧ Kd.C k31 W A (atP toks q).length (atP toks q)
theorem By7.cell {P : T7} {W : World} {bb : Nat} {toks : List Tok'} (h : By7 P W bb toks) (q : Nat) (hq : q ≤ P.n) : ∃ A c, W.cell? ⟨bb, q, none⟩ = some (.slice A (atP toks q).length c) ∧ (atP toks q).length ≤ c ∧ Kd.C k31 W A (atP toks q).length (atP toks q) := by
 obtain ⟨vals, h1, _, h3⟩ := h
 obtain ⟨A, c, h4, h5⟩ := h3 q hq
 exact ⟨A, c, (ca_ h1 q).trans h4, h5⟩
section
variable {ops : Array Oper} {o : Oper} {a : Act} {Q : Exit → Act → World → Prop} {Kc : Act → World → Prop}
theorem gh_ {W : World} (hw : Region.wanted o (yielded ops a.tmps) = true) (hN : o.dst = none) (p x : Operand) (ho : o.op = .store 3 p x) {g i m : Nat} {f : Nat → Nat} (v : Int) (haddr : a.eval p = .pointer (some ⟨g, i, none⟩)) (hx : a.eval x = .int .i64 v)
  (HB : IntBlk W g m f) (hi : i < m) (h : Kc (a.put none undef) (W.setCell ⟨g, i, none⟩ (.int .i64 v))) : if Region.wanted o (yielded ops a.tmps) = true then Oper.wp Tryz.prog o a W Kc Q else Kc (a.put none undef) W := by
 obtain ⟨vals, h1, h2, _⟩ := HB
 have hrun := di_ 3 (.int .i64 v) [.int .i64 v] h1 rfl (P := Tryz.prog) (by kernel_rfl) (o := i) (by simp; omega) (by intro q hq; rw [List.mem_singleton] at hq; rw [hq]; rfl)
 rw [if_pos hw]
 unfold Oper.wp execOp
 simp only [ho, haddr, hx, Sem.run_bind, Sem.run_pure, Result.andThen_ok, hrun]
 show Kc (a.put o.dst undef) _
 rw [hN]
 exact h
end
theorem IntBlk.drewN {W : World} {b m : Nat} {f : Nat → Nat} (h : IntBlk W b m f) (n : Nat) : IntBlk (W.drewN n) b m f := h
theorem IntBlk.drew {W : World} {b m : Nat} {f : Nat → Nat} (h : IntBlk W b m f) : IntBlk W.drew b m f := h
theorem IntBlk.ne {W : World} {b m : Nat} {f : Nat → Nat} (h : IntBlk W b m f) {g : Nat} {vals : Array Value} {t : TypeId} (hg : W.heap[g]? = some (.cells vals t (0, 0))) (ht : t ≠ 3) : b ≠ g := by
 obtain ⟨v, h1, _⟩ := h
 rintro rfl
 rw [h1] at hg
 injection hg with hg
 injection hg with _ hg
 exact ht hg.symm
theorem ml_ (toks : List Tok') (h : ∀ x ∈ toks, x.f0 < x.f1) : Chart.Fwd (tokT toks) := by
 intro x p q hpq
 unfold tokT
 refine List.length_eq_zero_iff.2 (List.filter_eq_nil_iff.2 fun t ht => ?_)
 simp only [decide_eq_true_eq]
 intro e
 unfold pd_ at e
 injection e with e1 e
 injection e with e2 e3
 have := h t ht
 omega
theorem yp_ (P : T7) (hP : P.Ok) (a b : Nat) (ha : a ≤ P.most) (hb : b ≤ P.most) : a + b ≤ 1000000000000000000 := by
 have := hP.2.2.1
 omega
theorem ck_ (P : T7) (hP : P.Ok) (a b : Nat) (ha : a ≤ P.most) (hb : b ≤ P.most) : wrap64 ((a : Int) + (b : Int)) = ((a + b : Nat) : Int) := by
 have := hP.2.2.1
 rw [w64 _ (by omega) (by omega)]
 rfl
def ye_ (r : qa_) (A1 : Option Addr) (c1 : Nat) (A3 : Option Addr) (c3 : Nat) : Obj := .cells #[.int .i64 r.f0, .slice A1 r.f1.length c1, .int .i64 r.f2.f0, .slice A3 r.f2.f1.length c3, .int .i64 r.f3] 48
set_option maxHeartbeats 4000000 in
set_option maxRecDepth 100000 in
theorem nv_ (P : T7) (hP : P.Ok) (w : World) (hA : P.At w) (F : Int → Nat → Nat → Nat) (hF : Chart.Fwd F) (hC : C7 P w F) (bb : Nat) (toks : List Tok') (htl : toks.length ≤ 1000) (hby : By7 P w bb toks) (r : qa_) (hr : pc_ r = true) (A1 : Option Addr) (c1 : Nat) (A3 : Option Addr) (c3 : Nat) (hr1 : Kd.C (Kd.int .i64) w A1 r.f1.length r.f1)
  (hT : ∀ x ∈ toks, 0 ≤ x.f0 ∧ x.f0 < x.f1 ∧ x.f1 ≤ (P.n : Int)) (p : Nat) (hp : p ≤ P.n) :
  Calls Tryz.prog 41 #[.pointer (some ⟨P.tb, 0, none⟩), .agg #[.int .i64 r.f0, .slice A1 r.f1.length c1, .int .i64 r.f2.f0, .slice A3 r.f2.f1.length c3, .int .i64 r.f3], .slice (some ⟨bb, 0, none⟩) (P.n + 1) (P.n + 1), .int .i64 (p : Int)] w fun e w' => ∃ b : Nat, e = .returned (.slice (some ⟨b, 0, none⟩) (P.n + 1) (P.n + 1)) ∧ IntBlk w' b (P.n + 1) (fun z => Chart.cap P.most (Chart.ways (tokT toks) P.n F r.f1 p z)) ∧ Below w.heap.size w w' := by
 have hn := hP.1
 have hm1 := hP.2.1
 have hTF : Chart.Fwd (tokT toks) := ml_ toks (fun x hx => (hT x hx).2.1)
 have hEF := Chart.E_fwd (tokT toks) hTF hF
 have hrr := dd_ r hr
 have hrl : r.f1.length ≤ 6 := hrr.2.1.2
 have hmk : ∀ W : World, (Instr.makeSlice 23 (.int .i64 ((P.n : Int) + 1)) (.int .i64 ((P.n : Int) + 1))).run Tryz.prog W = .ok (.slice (some ⟨W.heap.size, 0, none⟩) (P.n + 1) (P.n + 1)) (W.alloc (.cells (madeCells #[.int .i64 0] (P.n + 1)) 3)) := make7 (P.n + 1) (by omega)
 have c0 : (w.alloc (.cells #[.int .i64 r.f0, .slice A1 r.f1.length c1, .int .i64 r.f2.f0, .slice A3 r.f2.f1.length c3, .int .i64 r.f3] 48)).cell? ⟨P.tb, 0, none⟩ = some (.int .i64 (P.n : Int)) := (ca_ (hA.below (ba_ (Below.refl _ _) _)) 0).trans rfl
 have HBX : Aside0 ((w.alloc (.cells #[.int .i64 r.f0, .slice A1 r.f1.length c1, .int .i64 r.f2.f0, .slice A3 r.f2.f1.length c3, .int .i64 r.f3] 48)).heap[w.heap.size]? = some (ye_ r A1 c1 A3 c3)) := ⟨pb_ w _⟩
 have HB := Aside0.mk (ba_ (Below.refl w.heap.size w) (.cells #[.int .i64 r.f0, .slice A1 r.f1.length c1, .int .i64 r.f2.f0, .slice A3 r.f2.f1.length c3, .int .i64 r.f3] 48))
 have HP := Aside0.mk hP
 have HA := Aside0.mk hA
 have HC := Aside0.mk hC
 have HBY := Aside0.mk hby
 have HR1 := Aside0.mk hr1
 have HT := Aside0.mk hT
 have HRR := Aside0.mk hrr
 have HEF := Aside0.mk hEF
 have HTF := Aside0.mk hTF
 have HF := Aside0.mk hF
 have HMK := Aside0.mk hmk
 clear hP hA hC hby hr1 hT hr hrr hEF hTF hF
 go_enter Tryz.func41, Tryz.ntmps41
 go_upto_region 2 with (fail)
 clear c0
 generalize hbox : w.alloc (.cells #[.int .i64 r.f0, .slice A1 r.f1.length c1, .int .i64 r.f2.f0, .slice A3 r.f2.f1.length c3, .int .i64 r.f3] 48) = W1 at *
 have HW1 : Aside0 (W1.heap.size = w.heap.size + 1) := ⟨by rw [← hbox]; simp⟩
 have HB2 := Aside0.mk (ba_ HB.out (.cells (madeCells #[.int .i64 0] (P.n + 1)) 3))
 have HI2 : Aside0 (IntBlk (W1.alloc (.cells (madeCells #[.int .i64 0] (P.n + 1)) 3)) (w.heap.size + 1) (P.n + 1) (fun _ => 0)) := ⟨by rw [← HW1.out]; exact IntBlk.new W1 (P.n + 1)⟩
 have HX2 := Aside0.mk (va_ (o' := .cells (madeCells #[.int .i64 0] (P.n + 1)) 3) HBX.out)
 clear HB HBX hbox HW1
 generalize W1.alloc (.cells (madeCells #[.int .i64 0] (P.n + 1)) 3) = W2 at *
 have hcp := HI2.out.cell p (by omega)
 have hfp := HI2.out.frozen p
 have HI3 : Aside0 (IntBlk (W2.setCell ⟨w.heap.size + 1, p, none⟩ (.int .i64 1)) (w.heap.size + 1) (P.n + 1) (fun z => Chart.cap P.most (ci_ (tokT toks) P.n F r.f1 p 0 z))) := ⟨(HI2.out.put p (by omega) 1).congr fun z hz => by
  unfold ci_
  rw [List.take_zero, Chart.ways_nil]
  unfold Chart.cap
  by_cases e : z = p
  ·simp [e]; omega
  simp [e]⟩
 have HB3 : Aside0 (Below w.heap.size w (W2.setCell ⟨w.heap.size + 1, p, none⟩ (.int .i64 1))) := ⟨HB2.out.setCell (p := ⟨w.heap.size + 1, p, none⟩) (Nat.le_succ _) _⟩
 have HX3 : Aside0 ((W2.setCell ⟨w.heap.size + 1, p, none⟩ (.int .i64 1)).heap[w.heap.size]? = some (ye_ r A1 c1 A3 c3)) := ⟨(heap_setCell_other W2 ⟨w.heap.size + 1, p, none⟩ w.heap.size _ (by simp)).trans HX2.out⟩
 have HWB : Aside0 (w.heap.size < w.heap.size + 1) := ⟨Nat.lt_succ_self _⟩
 clear hmk
 go_wp2
 clear hcp hfp
 generalize w.heap.size + 1 = wb0 at *
 go_loopg [9, 10] r.f1.length (fun gg s9 s10 wr => ∃ i wb : Nat, i ≤ r.f1.length ∧ r.f1.length - i ≤ gg ∧ s10 = .int .i64 i ∧ s9 = .slice (some ⟨wb, 0, none⟩) (P.n + 1) (P.n + 1) ∧ Aside0 (IntBlk wr wb (P.n + 1) (fun z => Chart.cap P.most (ci_ (tokT toks) P.n F r.f1 p i z))) ∧ Aside0 (w.heap.size < wb) ∧ Aside0 (Below w.heap.size w wr) ∧ Aside0 (wr.heap[w.heap.size]? = some (ye_ r A1 c1 A3 c3)))
 case atStart => exact ⟨0, wb0, Nat.zero_le _, by omega, rfl, rfl, HI3, HWB, HB3, HX3⟩
 clear HI3 HWB HB3 HX3 HI2 HX2 HB2
 obtain ⟨i, wb, hi, hgg, rfl, rfl, HI, HWB, HB, HX⟩ := hrel
 have hb1 : wr.cell? ⟨w.heap.size, 1, none⟩ = some (.slice A1 r.f1.length c1) := ca_ HX.out 1
 by_cases hil : i < r.f1.length
 ·have hilz : (i : Int) < (r.f1.length : Int) := by omega
  have c0 : wr.cell? ⟨P.tb, 0, none⟩ = some (.int .i64 (P.n : Int)) := (ca_ (HA.out.below HB.out) 0).trans rfl
  have hmk := HMK.out
  have HB1 := Aside0.mk (ba_ HB.out (.cells (madeCells #[.int .i64 0] (P.n + 1)) 3))
  have HN1 := Aside0.mk (IntBlk.new wr (P.n + 1))
  have HI1 := Aside0.mk (HI.out.alloc (.cells (madeCells #[.int .i64 0] (P.n + 1)) 3))
  have HX1 := Aside0.mk (va_ (o' := .cells (madeCells #[.int .i64 0] (P.n + 1)) 3) HX.out)
  have HNB : Aside0 (wb < wr.heap.size) := ⟨HI.out.lt⟩
  obtain ⟨ad1, hA1, hcv⟩ := Kd.at_int HR1.out (i : Int) (by omega) hilz
  subst hA1
  rw [Int.toNat_natCast] at hcv
  have HCV := Aside0.mk hcv
  have hxr : rd r.f1 (i : Int) = r.f1[i] := by
   show r.f1.getD (i : Int).toNat 0 = _
   rw [Int.toNat_natCast, List.getD_eq_getElem?_getD, List.getElem?_eq_getElem hil]
   rfl
  have hx20 := HRR.out.2.2.1 _ (List.getElem_mem hil)
  have hsn := cs_ (tokT toks) P.n F r.f1 p i hil
  rw [← hxr] at hsn hx20
  generalize rd r.f1 (i : Int) = x at *
  have hlow := uu_ (tokT toks) P.n F HTF.out HF.out r.f1 p i
  have HSN := Aside0.mk hsn
  have HLOW := Aside0.mk hlow
  generalize ci_ (tokT toks) P.n F r.f1 p i = WW at *
  have HG : Aside0 (∀ q z, ¬ q < z → Chart.E (tokT toks) F x q z = 0) := ⟨fun q z h => HEF.out x q z h⟩
  obtain ⟨G, hG⟩ : ∃ G, G = Chart.E (tokT toks) F x := ⟨_, rfl⟩
  rw [← hG] at HG HSN
  have HGE := Aside0.mk hG
  have HN2 : Aside0 (IntBlk (wr.alloc (.cells (madeCells #[.int .i64 0] (P.n + 1)) 3)) wr.heap.size (P.n + 1) (fun z => Chart.cap P.most (ed_ WW G p z))) := ⟨HN1.out.congr fun z _ => by
   rw [nq_ WW G p z (fun m hm => HLOW.out m hm)]
   exact (Nat.zero_min _).symm⟩
  clear hsn hlow hxr hG HI HB HX HN1 hcv
  go_wp2
  clear hb1 c0 hmk
  generalize wr.alloc (.cells (madeCells #[.int .i64 0] (P.n + 1)) 3) = W3 at *
  generalize wr.heap.size = nb at *
  go_loopg [12] (P.n + 1 - p) (fun gg2 s12 wr => ∃ q : Nat, p ≤ q ∧ q ≤ P.n + 1 ∧ P.n + 1 - q ≤ gg2 ∧ s12 = .int .i64 q ∧ Aside0 (IntBlk wr nb (P.n + 1) (fun z => Chart.cap P.most (ed_ WW G q z))) ∧ Aside0 (IntBlk wr wb (P.n + 1) (fun z => Chart.cap P.most (WW z))) ∧ Aside0 (Below w.heap.size w wr) ∧ Aside0 (wr.heap[w.heap.size]? = some (ye_ r (some ad1) c1 A3 c3)))
  case atStart => exact ⟨p, Nat.le_refl _, by omega, by omega, rfl, HN2, HI1, HB1, HX1⟩
  clear HN2 HI1 HB1 HX1
  obtain ⟨q, hpq, hq1, hgg2, rfl, HN, HI, HB, HX⟩ := hrel
  have c0 : wr.cell? ⟨P.tb, 0, none⟩ = some (.int .i64 (P.n : Int)) := (ca_ (HA.out.below HB.out) 0).trans rfl
  by_cases hqn : q ≤ P.n
  ·have hqz : (q : Int) ≤ (P.n : Int) := by omega
   have hq0 : (q : Int) < (P.n : Int) + 1 := by omega
   have hb1 : wr.cell? ⟨w.heap.size, 1, none⟩ = some (.slice (some ad1) r.f1.length c1) := ca_ HX.out 1
   have hcv : wr.cell? (ad1.add i) = some (.int .i64 x) := eb_ HB.out HCV.out
   have hcw := HI.out.cell q (by omega)
   by_cases hz0 : WW q = 0
   ·have hcz : Chart.cap P.most (WW q) = 0 := by rw [hz0]; exact Nat.zero_min _
    rw [hcz] at hcw
    have HN4 : Aside0 (IntBlk wr nb (P.n + 1) (fun z => Chart.cap P.most (ed_ WW G (q + 1) z))) := ⟨HN.out.congr fun z _ => by rw [ks_ WW G q z hz0]⟩
    clear hcz hz0
    go_wp2
    go_roundg (P.n + 1 - (q + 1))
    case measure => omega
    case rel => exact ⟨q + 1, by omega, by omega, by omega, by go_num, HN4, HI, HB, HX⟩
   have hcn : Chart.cap P.most (WW q) ≠ 0 := Chart.cap_pos (by omega) hz0
   have hwm := Chart.cap_le P.most (WW q)
   obtain ⟨wv, hwv⟩ : ∃ wv, wv = Chart.cap P.most (WW q) := ⟨_, rfl⟩
   rw [← hwv] at hcw hcn hwm
   have HWV := Aside0.mk hwv
   have hwz : ((wv : Int) == 0) = false := by simpa using hcn
   clear hwv hz0
   by_cases hx0 : 0 ≤ x
   ·have hx0d : decide (0 ≤ x) = true := decide_eq_true hx0
    obtain ⟨s, rfl⟩ : ∃ s : Nat, x = (s : Int) := ⟨x.toNat, by omega⟩
    have hs20 : s < 20 := by omega
    have HGF : Aside0 (∀ z, G q z = F (s : Int) q z) := ⟨fun z => by rw [HGE.out]; unfold Chart.E; rw [if_neg (by omega)]⟩
    go_wp2
    clear hcw hb1 hcv c0
    have HN4 : Aside0 (IntBlk wr nb (P.n + 1) (fun y => Chart.cap P.most (if y < q + 1 then ed_ WW G (q + 1) y else ed_ WW G q y))) := ⟨HN.out.congr fun y _ => by
     split
     ·rw [ug_, HG.out q y (by omega), Nat.mul_zero, Nat.add_zero]
     rfl⟩
    go_loopg [13] (P.n - q) (fun gg3 s13 wr => ∃ z : Nat, q < z ∧ z ≤ P.n + 1 ∧ P.n + 1 - z ≤ gg3 ∧ s13 = .int .i64 z ∧ Aside0 (IntBlk wr nb (P.n + 1) (fun y => Chart.cap P.most (if y < z then ed_ WW G (q + 1) y else ed_ WW G q y))) ∧ Aside0 (IntBlk wr wb (P.n + 1) (fun z => Chart.cap P.most (WW z))) ∧ Aside0 (Below w.heap.size w wr) ∧ Aside0 (wr.heap[w.heap.size]? = some (ye_ r (some ad1) c1 A3 c3)))
    case atStart => exact ⟨q + 1, by omega, by omega, by omega, by go_num, HN4, HI, HB, HX⟩
    clear HN4 HN HI HB HX
    obtain ⟨z, hqz2, hz1, hgg3, rfl, HN, HI, HB, HX⟩ := hrel
    have c0 : wr.cell? ⟨P.tb, 0, none⟩ = some (.int .i64 (P.n : Int)) := (ca_ (HA.out.below HB.out) 0).trans rfl
    by_cases hzn : z ≤ P.n
    ·have hzz : (z : Int) ≤ (P.n : Int) := by omega
     have hz0 : (z : Int) < (P.n : Int) + 1 := by omega
     have r0 := HN.out.drew.cell z (by omega)
     have r1 := HI.out.drew.cell q (by omega)
     rw [if_neg (by omega)] at r0
     rw [← HWV.out] at r1
     have r2 : wr.drew.cell? ⟨P.tb, 1, none⟩ = some (.slice (some ⟨P.cb, 0, none⟩) P.cc P.cc) := (ca_ (HA.out.below HB.out) 1).trans rfl
     have r3 : wr.drew.cell? ⟨w.heap.size, 1, none⟩ = some (.slice (some ad1) r.f1.length c1) := ca_ HX.out 1
     have r4 : wr.drew.cell? (ad1.add i) = some (.int .i64 (s : Int)) := eb_ HB.out HCV.out
     have r5 : wr.drew.cell? ⟨P.cb, P.idx s q z, none⟩ = some (.int .i64 (Chart.cap P.most (F (s : Int) q z) : Int)) := eb_ HB.out (HC.out.cell HP.out s q z hs20 hqn hzn)
     have HA5 : Aside0 (P.At wr.drew) := ⟨HA.out.below (da_ HB.out)⟩
     have HN5 : Aside0 (IntBlk wr.drew nb (P.n + 1) _) := ⟨HN.out⟩
     have HI5 : Aside0 (IntBlk wr.drew wb (P.n + 1) _) := ⟨HI.out⟩
     have HB5 : Aside0 (Below w.heap.size w wr.drew) := ⟨da_ HB.out⟩
     have HX5 : Aside0 (wr.drew.heap[w.heap.size]? = some (ye_ r (some ad1) c1 A3 c3)) := ⟨HX.out⟩
     have hidx : (P.idx s q z : Int) < (P.cc : Int) := by have := P.idx_lt s q z hs20 hqn hzn; have := HP.out.2.2.2; omega
     have hcm := Chart.cap_le P.most (F (s : Int) q z)
     have ham := Chart.cap_le P.most (ed_ WW G q z)
     obtain ⟨a0, ha0⟩ : ∃ a0, a0 = Chart.cap P.most (ed_ WW G q z) := ⟨_, rfl⟩
     obtain ⟨cv, hcve⟩ : ∃ cv, cv = Chart.cap P.most (F (s : Int) q z) := ⟨_, rfl⟩
     rw [← ha0] at r0 ham
     rw [← hcve] at r5 hcm
     have HNEW : Aside0 (Chart.cap P.most (a0 + Chart.cap P.most (wv * cv)) = Chart.cap P.most (ed_ WW G (q + 1) z)) := ⟨by
      rw [ha0, hcve, HWV.out, Chart.step_sym, ug_, HGF.out z]⟩
     have HBND := Aside0.mk (yp_ P HP.out a0 (Chart.cap P.most (wv * cv)) ham (Chart.cap_le _ _))
     have HADD := Aside0.mk (ck_ P HP.out a0 (Chart.cap P.most (wv * cv)) ham (Chart.cap_le _ _))
     clear ha0 hcve HN HI HB HX
     go_wp2
     clear c0
     refine td_ (n := 32) (S := fun w' => w'.cell? ⟨nb, z, none⟩ = some (.int .i64 (a0 : Int)) ∧ w'.cell? ⟨wb, q, none⟩ = some (.int .i64 (wv : Int)) ∧ w'.cell? ⟨P.tb, 1, none⟩ = some (.slice (some ⟨P.cb, 0, none⟩) P.cc P.cc) ∧ w'.cell? ⟨w.heap.size, 1, none⟩ = some (.slice (some ad1) r.f1.length c1) ∧ w'.cell? (ad1.add i) = some (.int .i64 (s : Int)) ∧ w'.cell? ⟨P.cb, P.idx s q z, none⟩ = some (.int .i64 (cv : Int))) (ds := [31]) (f_ 32 0) (by kernel_rfl) rfl rfl ⟨r0, r1, r2, r3, r4, r5⟩ (fun hHeld => ?_)
     clear r0 r1 r2 r3 r4 r5
     generalize wr.drew = W5 at *
     refine pa_ (i := 0) (N := some 68) (v := ?_) (a' := ?_) (f_ 32 1) rfl rfl (by kernel_rfl) (fun _ _ _ h => h) (Or.inl ⟨by rfl, ?_⟩) ?_ ?_
     rotate_left
     ·intro w'
      go_simp
      try with_reducible rfl
     rotate_left
     ·simp only [Act.put, s1_, s2_, s3_, ka_, la_]
      rfl
     refine pa_ (i := 1) (N := some 69) (v := ?_) (a' := ?_) (f_ 32 2) rfl rfl (by kernel_rfl) (fun _ _ _ h => h) (Or.inl ⟨by rfl, ?_⟩) ?_ ?_
     rotate_left
     ·intro w'
      go_simp
      try with_reducible rfl
     rotate_left
     ·simp only [Act.put, s1_, s2_, s3_, ka_, la_]
      rfl
     refine pa_ (i := 2) (N := some 70) (v := ?_) (a' := ?_) (f_ 32 3) rfl rfl (by kernel_rfl) (fun _ _ _ h => h) (Or.inl ⟨by rfl, ?_⟩) ?_ ?_
     rotate_left
     ·intro w'
      go_simp
      try with_reducible rfl
     rotate_left
     ·simp only [Act.put, s1_, s2_, s3_, ka_, la_]
      rfl
     refine pa_ (i := 3) (N := some 71) (v := ?_) (a' := ?_) (f_ 32 4) rfl rfl (by kernel_rfl) (fun _ _ _ h => h) (Or.inl ⟨by rfl, ?_⟩) ?_ ?_
     rotate_left
     ·intro w'
      go_simp
      try with_reducible rfl
     rotate_left
     ·simp only [Act.put, s1_, s2_, s3_, ka_, la_]
      rfl
     refine pa_ (i := 4) (N := some 72) (v := ?_) (a' := ?_) (f_ 32 5) rfl rfl (by kernel_rfl) (fun _ _ _ h => h) (Or.inl ⟨by rfl, ?_⟩) ?_ ?_
     rotate_left
     ·intro w'
      go_simp
      try with_reducible rfl
     rotate_left
     ·simp only [Act.put, s1_, s2_, s3_, ka_, la_]
      rfl
     refine pa_ (i := 5) (N := some 73) (v := ?_) (a' := ?_) (f_ 32 6) rfl rfl (by kernel_rfl) (fun _ _ _ h => h) (Or.inl ⟨by rfl, ?_⟩) ?_ ?_
     rotate_left
     ·intro w'
      go_simp
      try with_reducible rfl
     rotate_left
     ·simp only [Act.put, s1_, s2_, s3_, ka_, la_]
      rfl
     refine take_ (i := 6) (N := some 74) (v := ?_) (a' := ?_) (f_ 32 7) rfl rfl (by kernel_rfl) (fun _ _ _ h => h) (Or.inl ⟨by rfl, ?_⟩) hHeld ?_ ?_
     rotate_left
     ·rintro w' ⟨s0, s1, s2, s3, s4, s5⟩
      go_simp
      try with_reducible rfl
     rotate_left
     ·simp only [Act.put, s1_, s2_, s3_, ka_, la_]
      rfl
     refine pa_ (i := 7) (N := some 75) (v := ?_) (a' := ?_) (f_ 32 8) rfl rfl (by kernel_rfl) (fun _ _ _ h => h) (Or.inl ⟨by rfl, ?_⟩) ?_ ?_
     rotate_left
     ·intro w'
      go_simp
      try with_reducible rfl
     rotate_left
     ·simp only [Act.put, s1_, s2_, s3_, ka_, la_]
      rfl
     refine pa_ (i := 8) (N := some 76) (v := ?_) (a' := ?_) (f_ 32 9) rfl rfl (by kernel_rfl) (fun _ _ _ h => h) (Or.inl ⟨by rfl, ?_⟩) ?_ ?_
     rotate_left
     ·intro w'
      go_simp
      try with_reducible rfl
     rotate_left
     ·simp only [Act.put, s1_, s2_, s3_, ka_, la_]
      rfl
     refine pa_ (i := 9) (N := some 77) (v := ?_) (a' := ?_) (f_ 32 10) rfl rfl (by kernel_rfl) (fun _ _ _ h => h) (Or.inl ⟨by rfl, ?_⟩) ?_ ?_
     rotate_left
     ·intro w'
      go_simp
      try with_reducible rfl
     rotate_left
     ·simp only [Act.put, s1_, s2_, s3_, ka_, la_]
      rfl
     refine pa_ (i := 10) (N := some 78) (v := ?_) (a' := ?_) (f_ 32 11) rfl rfl (by kernel_rfl) (fun _ _ _ h => h) (Or.inl ⟨by rfl, ?_⟩) ?_ ?_
     rotate_left
     ·intro w'
      go_simp
      try with_reducible rfl
     rotate_left
     ·simp only [Act.put, s1_, s2_, s3_, ka_, la_]
      rfl
     refine take_ (i := 11) (N := some 79) (v := ?_) (a' := ?_) (f_ 32 12) rfl rfl (by kernel_rfl) (fun _ _ _ h => h) (Or.inl ⟨by rfl, ?_⟩) hHeld ?_ ?_
     rotate_left
     ·rintro w' ⟨s0, s1, s2, s3, s4, s5⟩
      go_simp
      try with_reducible rfl
     rotate_left
     ·simp only [Act.put, s1_, s2_, s3_, ka_, la_]
      rfl
     refine pa_ (i := 12) (N := some 80) (v := ?_) (a' := ?_) (f_ 32 13) rfl rfl (by kernel_rfl) (fun _ _ _ h => h) (Or.inl ⟨by rfl, ?_⟩) ?_ ?_
     rotate_left
     ·intro w'
      go_simp
      try with_reducible rfl
     rotate_left
     ·simp only [Act.put, s1_, s2_, s3_, ka_, la_]
      rfl
     refine pa_ (i := 13) (N := some 81) (v := ?_) (a' := ?_) (f_ 32 14) rfl rfl (by kernel_rfl) (fun _ _ _ h => h) (Or.inl ⟨by rfl, ?_⟩) ?_ ?_
     rotate_left
     ·intro w'
      go_simp
      try with_reducible rfl
     rotate_left
     ·simp only [Act.put, s1_, s2_, s3_, ka_, la_]
      rfl
     refine pa_ (i := 14) (N := some 82) (v := ?_) (a' := ?_) (f_ 32 15) rfl rfl (by kernel_rfl) (fun _ _ _ h => h) (Or.inl ⟨by rfl, ?_⟩) ?_ ?_
     rotate_left
     ·intro w'
      go_simp
      try with_reducible rfl
     rotate_left
     ·simp only [Act.put, s1_, s2_, s3_, ka_, la_]
      rfl
     refine take_ (i := 15) (N := some 83) (v := ?_) (a' := ?_) (f_ 32 16) rfl rfl (by kernel_rfl) (fun _ _ _ h => h) (Or.inl ⟨by rfl, ?_⟩) hHeld ?_ ?_
     rotate_left
     ·rintro w' ⟨s0, s1, s2, s3, s4, s5⟩
      go_simp
      try with_reducible rfl
     rotate_left
     ·simp only [Act.put, s1_, s2_, s3_, ka_, la_]
      rfl
     refine pa_ (i := 16) (N := some 84) (v := ?_) (a' := ?_) (f_ 32 17) rfl rfl (by kernel_rfl) (fun _ _ _ h => h) (Or.inl ⟨by rfl, ?_⟩) ?_ ?_
     rotate_left
     ·intro w'
      go_simp
      try with_reducible rfl
     rotate_left
     ·simp only [Act.put, s1_, s2_, s3_, ka_, la_]
      rfl
     refine pa_ (i := 17) (N := some 85) (v := ?_) (a' := ?_) (f_ 32 18) rfl rfl (by kernel_rfl) (fun _ _ _ h => h) (Or.inl ⟨by rfl, ?_⟩) ?_ ?_
     rotate_left
     ·intro w'
      go_simp
      try with_reducible rfl
     rotate_left
     ·simp only [Act.put, s1_, s2_, s3_, ka_, la_]
      rfl
     refine take_ (i := 18) (N := some 86) (v := ?_) (a' := ?_) (f_ 32 19) rfl rfl (by kernel_rfl) (fun _ _ _ h => h) (Or.inl ⟨by rfl, ?_⟩) hHeld ?_ ?_
     rotate_left
     ·rintro w' ⟨s0, s1, s2, s3, s4, s5⟩
      go_simp
      try with_reducible rfl
     rotate_left
     ·simp only [Act.put, s1_, s2_, s3_, ka_, la_]
      rfl
     refine pa_ (i := 19) (N := some 87) (v := ?_) (a' := ?_) (f_ 32 20) rfl rfl (by kernel_rfl) (fun _ _ _ h => h) (Or.inl ⟨by rfl, ?_⟩) ?_ ?_
     rotate_left
     ·intro w'
      go_simp
      try with_reducible rfl
     rotate_left
     ·simp only [Act.put, s1_, s2_, s3_, ka_, la_]
      rfl
     refine pa_ (i := 20) (N := some 88) (v := ?_) (a' := ?_) (f_ 32 21) rfl rfl (by kernel_rfl) (fun _ _ _ h => h) (Or.inl ⟨by rfl, ?_⟩) ?_ ?_
     rotate_left
     ·intro w'
      go_simp
      try with_reducible rfl
     rotate_left
     ·simp only [Act.put, s1_, s2_, s3_, ka_, la_]
      rfl
     refine take_ (i := 21) (N := some 89) (v := ?_) (a' := ?_) (f_ 32 22) rfl rfl (by kernel_rfl) (fun _ _ _ h => h) (Or.inl ⟨by rfl, ?_⟩) hHeld ?_ ?_
     rotate_left
     ·rintro w' ⟨s0, s1, s2, s3, s4, s5⟩
      go_simp
      try with_reducible rfl
     rotate_left
     ·simp only [Act.put, s1_, s2_, s3_, ka_, la_]
      rfl
     refine pa_ (i := 22) (N := some 90) (v := ?_) (a' := ?_) (f_ 32 23) rfl rfl (by kernel_rfl) (fun _ _ _ h => h) (Or.inl ⟨by rfl, ?_⟩) ?_ ?_
     rotate_left
     ·intro w'
      go_simp
      try with_reducible rfl
     rotate_left
     ·simp only [Act.put, s1_, s2_, s3_, ka_, la_]
      rfl
     refine pa_ (i := 23) (N := some 91) (v := ?_) (a' := ?_) (f_ 32 24) rfl rfl (by kernel_rfl) (fun _ _ _ h => h) (Or.inl ⟨by rfl, ?_⟩) ?_ ?_
     rotate_left
     ·intro w'
      go_simp
      try with_reducible rfl
     rotate_left
     ·simp only [Act.put, s1_, s2_, s3_, ka_, la_]
      rfl
     refine one_ (i := 24) (N := some 92) (f_ 32 25) rfl rfl (by kernel_rfl) (by decide) (fun K hK => ?_)
     refine vd_ Tryz.func23 (by kernel_rfl) rfl #[.pointer (some ⟨P.tb, 0, none⟩), .int .i64 (s : Int), .int .i64 (q : Int), .int .i64 (z : Int)] (by rfl) rfl rfl (by (try simp only [List.map_toArray, List.map_cons, List.map_nil]); rfl) ?_
     refine (oh_ P HP.out W5 HA5.out s q z hs20 hqn hzn).mono ?_
     rintro e' W6 ⟨rfl, ⟨⟨n1, rfl⟩⟩⟩
     refine ⟨_, rfl, ?_⟩
     refine hK.out _ _ ⟨hHeld.1, hHeld.2.1, hHeld.2.2.1, hHeld.2.2.2.1, hHeld.2.2.2.2.1, hHeld.2.2.2.2.2⟩ (fun hHeld => ?_)
     clear hK K
     refine rb_ (a' := ?_) ?_ ?_
     rotate_left
     ·show Act.put _ (some 92) _ = _
      simp only [Act.put, s1_, s2_, s3_, ka_, la_]
      rfl
     refine pa_ (i := 25) (N := some 93) (v := ?_) (a' := ?_) (f_ 32 26) rfl rfl (by kernel_rfl) (fun _ _ _ h => h) (Or.inl ⟨by rfl, ?_⟩) ?_ ?_
     rotate_left
     ·intro w'
      go_simp
      try with_reducible rfl
     rotate_left
     ·simp only [Act.put, s1_, s2_, s3_, ka_, la_]
      rfl
     refine take_ (i := 26) (N := some 94) (v := ?_) (a' := ?_) (f_ 32 27) rfl rfl (by kernel_rfl) (fun _ _ _ h => h) (Or.inl ⟨by rfl, ?_⟩) hHeld ?_ ?_
     rotate_left
     ·rintro w' ⟨s0, s1, s2, s3, s4, s5⟩
      go_simp
      try with_reducible rfl
     rotate_left
     ·simp only [Act.put, s1_, s2_, s3_, ka_, la_]
      rfl
     refine one_ (i := 27) (N := some 95) (f_ 32 28) rfl rfl (by kernel_rfl) (by decide) (fun K hK => ?_)
     refine vd_ Tryz.func71 (by kernel_rfl) rfl #[.pointer (some ⟨P.tb, 0, none⟩), .int .i64 (wv : Int), .int .i64 (cv : Int)] (by rfl) rfl rfl (by (try simp only [List.map_toArray, List.map_cons, List.map_nil]); rfl) ?_
     refine (eq_ P HP.out (W5.drewN n1) HA5.out wv cv hwm hcm).mono ?_
     rintro e' W6 ⟨rfl, ⟨⟨n2, rfl⟩⟩⟩
     refine ⟨_, rfl, ?_⟩
     refine hK.out _ _ ⟨hHeld.1, hHeld.2.1, hHeld.2.2.1, hHeld.2.2.2.1, hHeld.2.2.2.2.1, hHeld.2.2.2.2.2⟩ (fun hHeld => ?_)
     clear hK K
     refine rb_ (a' := ?_) ?_ ?_
     rotate_left
     ·show Act.put _ (some 95) _ = _
      simp only [Act.put, s1_, s2_, s3_, ka_, la_]
      rfl
     refine pa_ (i := 28) (N := some 96) (v := ?_) (a' := ?_) (f_ 32 29) rfl rfl (by kernel_rfl) (fun _ _ _ h => h) (Or.inl ⟨by rfl, ?_⟩) ?_ ?_
     rotate_left
     ·intro w'
      go_simp
      try with_reducible rfl
     rotate_left
     ·simp only [Act.put, s1_, s2_, s3_, ka_, la_]
      rfl
     refine one_ (i := 29) (N := some 97) (f_ 32 30) rfl rfl (by kernel_rfl) (by decide) (fun K hK => ?_)
     refine vd_ Tryz.func40 (by kernel_rfl) rfl #[.pointer (some ⟨P.tb, 0, none⟩), .int .i64 (wrap64 ((a0 : Int) + (Chart.cap P.most (wv * cv) : Int)))] (by rfl) rfl rfl (by (try simp only [List.map_toArray, List.map_cons, List.map_nil]); rfl) ?_
     rw [HADD.out]
     refine (zh_ P HP.out ((W5.drewN n1).drewN n2) HA5.out (a0 + Chart.cap P.most (wv * cv)) HBND.out).mono ?_
     rintro e' W6 ⟨rfl, ⟨⟨n3, rfl⟩⟩⟩
     refine ⟨_, rfl, ?_⟩
     refine hK.out _ _ ⟨hHeld.1, hHeld.2.1, hHeld.2.2.1, hHeld.2.2.2.1, hHeld.2.2.2.2.1, hHeld.2.2.2.2.2⟩ (fun hHeld => ?_)
     clear hK K
     refine rb_ (a' := ?_) ?_ ?_
     rotate_left
     ·show Act.put _ (some 97) _ = _
      simp only [Act.put, s1_, s2_, s3_, ka_, la_]
      rfl
     refine pa_ (i := 30) (N := some 98) (v := ?_) (a' := ?_) (f_ 32 31) rfl rfl (by kernel_rfl) (fun _ _ _ h => h) (Or.inl ⟨by rfl, ?_⟩) ?_ ?_
     rotate_left
     ·intro w'
      go_simp
      try with_reducible rfl
     rotate_left
     ·simp only [Act.put, s1_, s2_, s3_, ka_, la_]
      rfl
     refine kg_ (i := 31) (N := none) (f_ 32 32) rfl rfl (by kernel_rfl) (by decide) (fun K hK => ?_)
     refine gh_ (by rfl) rfl (.tmp 98) (.tmp 97) rfl (g := nb) (i := z) ((Chart.cap P.most (a0 + Chart.cap P.most (wv * cv)) : Nat) : Int) (by rfl) (by rfl) ((((HN5.out.drewN n1).drewN n2).drewN n3)) (by omega) ?_
     refine hK.out _ _ ?_
     clear hK K
     refine je_ (by kernel_rfl) ?_
     have HN6 : Aside0 (IntBlk ((((W5.drewN n1).drewN n2).drewN n3).setCell ⟨nb, z, none⟩ (.int .i64 ((Chart.cap P.most (a0 + Chart.cap P.most (wv * cv)) : Nat) : Int))) nb (P.n + 1) (fun y => Chart.cap P.most (if y < z + 1 then ed_ WW G (q + 1) y else ed_ WW G q y))) := ⟨((((HN5.out.drewN n1).drewN n2).drewN n3).put z (by omega) _).congr fun y _ => by
      by_cases e : y = z
      ·rw [if_pos e, HNEW.out, if_pos (by omega), e]
      rw [if_neg e]
      by_cases e2 : y < z
      ·rw [if_pos e2, if_pos (by omega)]
      rw [if_neg e2, if_neg (by omega)]⟩
     have HI6 : Aside0 (IntBlk ((((W5.drewN n1).drewN n2).drewN n3).setCell ⟨nb, z, none⟩ (.int .i64 ((Chart.cap P.most (a0 + Chart.cap P.most (wv * cv)) : Nat) : Int))) wb (P.n + 1) (fun z => Chart.cap P.most (WW z))) := ⟨(((HI5.out.drewN n1).drewN n2).drewN n3).far nb z (by have := HNB.out; omega) _⟩
     have HB6 : Aside0 (Below w.heap.size w ((((W5.drewN n1).drewN n2).drewN n3).setCell ⟨nb, z, none⟩ (.int .i64 ((Chart.cap P.most (a0 + Chart.cap P.most (wv * cv)) : Nat) : Int)))) := ⟨(aa_ (aa_ (aa_ HB5.out n1) n2) n3).setCell (p := ⟨nb, z, none⟩) (by have := HNB.out; have := HWB.out; show w.heap.size ≤ nb; omega) _⟩
     have HX6 : Aside0 (((((W5.drewN n1).drewN n2).drewN n3).setCell ⟨nb, z, none⟩ (.int .i64 ((Chart.cap P.most (a0 + Chart.cap P.most (wv * cv)) : Nat) : Int))).heap[w.heap.size]? = some (ye_ r (some ad1) c1 A3 c3)) := ⟨(heap_setCell_other _ ⟨nb, z, none⟩ w.heap.size _ (by have := HNB.out; have := HWB.out; show _ ≠ nb; omega)).trans HX5.out⟩
     generalize (((W5.drewN n1).drewN n2).drewN n3).setCell ⟨nb, z, none⟩ (.int .i64 ((Chart.cap P.most (a0 + Chart.cap P.most (wv * cv)) : Nat) : Int)) = W7 at *
     go_wp2
     go_roundg (P.n + 1 - (z + 1))
     case measure => omega
     case rel => exact ⟨z + 1, by omega, by omega, by omega, by go_num, HN6, HI6, HB6, HX6⟩
    have hzz : decide ((z : Int) ≤ (P.n : Int)) = false := by simp; omega
    have HN6 : Aside0 (IntBlk wr nb (P.n + 1) (fun y => Chart.cap P.most (ed_ WW G (q + 1) y))) := ⟨HN.out.congr fun y hy => by rw [if_pos (by omega)]⟩
    go_wp2
    go_roundg (P.n + 1 - (q + 1))
    case measure => omega
    case rel => exact ⟨q + 1, by omega, by omega, by omega, by go_num, HN6, HI, HB, HX⟩
   have hx0d : decide (0 ≤ x) = false := decide_eq_false hx0
   have HGT : Aside0 (∀ z, G q z = tokT toks x q z) := ⟨fun z => by rw [HGE.out]; unfold Chart.E; rw [if_pos (by omega)]⟩
   obtain ⟨AL, cL, hcb, hcl, hCL⟩ := HBY.out.cell q hqn
   have HCB := Aside0.mk hcb
   have HCL := Aside0.mk hCL
   have HALL : Aside0 (∀ y, tkN (atP toks q) x y (atP toks q).length = G q y) := ⟨fun y => by rw [tkN_all, HGT.out y]⟩
   have HLT : Aside0 (∀ t ∈ atP toks q, 0 ≤ t.f0 ∧ t.f0 < t.f1 ∧ t.f1 ≤ (P.n : Int)) := ⟨fun t ht => HT.out t (List.mem_filter.1 ht).1⟩
   have hLl : (atP toks q).length ≤ 1000 := Nat.le_trans (List.length_filter_le _ _) htl
   generalize atP toks q = L at *
   have HN4 : Aside0 (IntBlk wr nb (P.n + 1) (fun y => Chart.cap P.most (ed_ WW G q y + WW q * tkN L x y 0))) := ⟨HN.out.congr fun y _ => by rw [tkN_zero, Nat.mul_zero, Nat.add_zero]⟩
   clear hcb hCL HGT
   go_wp2
   clear hcw hb1 hcv c0
   go_loopg [14] L.length (fun gg3 s14 wr => ∃ k : Nat, k ≤ L.length ∧ L.length - k ≤ gg3 ∧ s14 = .int .i64 k ∧ Aside0 (IntBlk wr nb (P.n + 1) (fun y => Chart.cap P.most (ed_ WW G q y + WW q * tkN L x y k))) ∧ Aside0 (IntBlk wr wb (P.n + 1) (fun z => Chart.cap P.most (WW z))) ∧ Aside0 (Below w.heap.size w wr) ∧ Aside0 (wr.heap[w.heap.size]? = some (ye_ r (some ad1) c1 A3 c3)))
   case atStart => exact ⟨0, Nat.zero_le _, by omega, rfl, HN4, HI, HB, HX⟩
   clear HN4 HN HI HB HX
   obtain ⟨k, hk, hgg3, rfl, HN, HI, HB, HX⟩ := hrel
   have hcb : wr.cell? ⟨bb, q, none⟩ = some (.slice AL L.length cL) := eb_ HB.out HCB.out
   by_cases hkl : k < L.length
   ·have hklz : (k : Int) < (L.length : Int) := by omega
    obtain ⟨adt, hAt, h0, h1, h2, h3, h4⟩ := bh_ (Kd.C_below HCL.out HB.out) (k : Int) (by omega) hklz
    subst hAt
    have hyr : bb_ L (k : Int) = L[k] := by
     show L.getD (k : Int).toNat _ = _
     rw [Int.toNat_natCast, List.getD_eq_getElem?_getD, List.getElem?_eq_getElem hkl]
     rfl
    have hsn2 := fun y => tkN_succ L x y k hkl
    have hty := HLT.out _ (List.getElem_mem hkl)
    rw [← hyr] at hty
    simp only [← hyr] at hsn2
    generalize bb_ L (k : Int) = y at *
    rw [Int.toNat_natCast] at h0 h1 h2 h3 h4
    have HSN2 := Aside0.mk hsn2
    clear hsn2 hyr h0 h3 h4
    have hb1 : wr.cell? ⟨w.heap.size, 1, none⟩ = some (.slice (some ad1) r.f1.length c1) := ca_ HX.out 1
    have hcv : wr.cell? (ad1.add i) = some (.int .i64 x) := eb_ HB.out HCV.out
    by_cases hcls : y.f2 = -1 - x
    ·have hclb : (y.f2 == -1 - x) = true := by rw [hcls]; simp
     have HCLS := Aside0.mk hcls
     obtain ⟨z, hz⟩ : ∃ z : Nat, y.f1 = (z : Int) := ⟨y.f1.toNat, by omega⟩
     have hzn : z ≤ P.n := by omega
     have HZ := Aside0.mk hz
     have hzl : (z : Int) < (P.n : Int) + 1 := by omega
     rw [hz] at h1
     have ha0 := HN.out.cell z (by omega)
     have hwv := HI.out.cell q (by omega)
     rw [← HWV.out] at hwv
     have ham := Chart.cap_le P.most (ed_ WW G q z + WW q * tkN L x z k)
     obtain ⟨a0, ha⟩ : ∃ a0, a0 = Chart.cap P.most (ed_ WW G q z + WW q * tkN L x z k) := ⟨_, rfl⟩
     rw [← ha] at ha0 ham
     have HNEW : Aside0 (Chart.cap P.most (a0 + wv) = Chart.cap P.most (ed_ WW G q z + WW q * tkN L x z (k + 1))) := ⟨by
      rw [ha, HWV.out, Chart.step_tok, HSN2.out z, if_pos ⟨HCLS.out, hz⟩, Nat.mul_add, Nat.mul_one, Nat.add_assoc]⟩
     have HOLD : Aside0 (∀ y, y ≠ z → tkN L x y (k + 1) = tkN L x y k) := ⟨fun y' hne => by rw [HSN2.out y', if_neg (fun e => hne (by have := e.2; omega)), Nat.add_zero]⟩
     have HBND := Aside0.mk (yp_ P HP.out a0 wv ham hwm)
     have HADD := Aside0.mk (ck_ P HP.out a0 wv ham hwm)
     have HA0 := Aside0.mk ha0
     have HV0 := Aside0.mk hwv
     clear hcls hz hty ha ha0 hwv
     go_wp2
     go_quiet (fail)
     go_wp2
     have HA5 : Aside0 (P.At (wr.drewN nq).drew) := ⟨HA.out.below (da_ (aa_ HB.out nq))⟩
     have HN5 : Aside0 (IntBlk (wr.drewN nq).drew nb (P.n + 1) _) := ⟨HN.out⟩
     have HI5 : Aside0 (IntBlk (wr.drewN nq).drew wb (P.n + 1) _) := ⟨HI.out⟩
     have HB5 : Aside0 (Below w.heap.size w (wr.drewN nq).drew) := ⟨da_ (aa_ HB.out nq)⟩
     have HX5 : Aside0 ((wr.drewN nq).drew.heap[w.heap.size]? = some (ye_ r (some ad1) c1 A3 c3)) := ⟨HX.out⟩
     have r0 : (wr.drewN nq).drew.cell? ⟨nb, z, none⟩ = some (.int .i64 (a0 : Int)) := HA0.out
     have r1 : (wr.drewN nq).drew.cell? ⟨wb, q, none⟩ = some (.int .i64 (wv : Int)) := HV0.out
     clear HN HI HB HX hb1 hcv hcb h1 h2
     refine td_ (n := 15) (S := fun w' => w'.cell? ⟨nb, z, none⟩ = some (.int .i64 (a0 : Int)) ∧ w'.cell? ⟨wb, q, none⟩ = some (.int .i64 (wv : Int))) (ds := [14]) (f_ 15 0) (by kernel_rfl) rfl rfl ⟨r0, r1⟩ (fun hHeld => ?_)
     clear r0 r1
     generalize (wr.drewN nq).drew = W5 at *
     refine pa_ (i := 0) (N := some 131) (v := ?_) (a' := ?_) (f_ 15 1) rfl rfl (by kernel_rfl) (fun _ _ _ h => h) (Or.inl ⟨by rfl, ?_⟩) ?_ ?_
     rotate_left
     ·intro w'
      go_simp
      try with_reducible rfl
     rotate_left
     ·simp only [Act.put, s1_, s2_, s3_, ka_, la_]
      rfl
     refine pa_ (i := 1) (N := some 132) (v := ?_) (a' := ?_) (f_ 15 2) rfl rfl (by kernel_rfl) (fun _ _ _ h => h) (Or.inl ⟨by rfl, ?_⟩) ?_ ?_
     rotate_left
     ·intro w'
      go_simp
      try with_reducible rfl
     rotate_left
     ·simp only [Act.put, s1_, s2_, s3_, ka_, la_]
      rfl
     refine pa_ (i := 2) (N := some 133) (v := ?_) (a' := ?_) (f_ 15 3) rfl rfl (by kernel_rfl) (fun _ _ _ h => h) (Or.inl ⟨by rfl, ?_⟩) ?_ ?_
     rotate_left
     ·intro w'
      go_simp
      try with_reducible rfl
     rotate_left
     ·simp only [Act.put, s1_, s2_, s3_, ka_, la_]
      rfl
     refine pa_ (i := 3) (N := some 134) (v := ?_) (a' := ?_) (f_ 15 4) rfl rfl (by kernel_rfl) (fun _ _ _ h => h) (Or.inl ⟨by rfl, ?_⟩) ?_ ?_
     rotate_left
     ·intro w'
      go_simp
      try with_reducible rfl
     rotate_left
     ·simp only [Act.put, s1_, s2_, s3_, ka_, la_]
      rfl
     refine pa_ (i := 4) (N := some 135) (v := ?_) (a' := ?_) (f_ 15 5) rfl rfl (by kernel_rfl) (fun _ _ _ h => h) (Or.inl ⟨by rfl, ?_⟩) ?_ ?_
     rotate_left
     ·intro w'
      go_simp
      try with_reducible rfl
     rotate_left
     ·simp only [Act.put, s1_, s2_, s3_, ka_, la_]
      rfl
     refine pa_ (i := 5) (N := some 136) (v := ?_) (a' := ?_) (f_ 15 6) rfl rfl (by kernel_rfl) (fun _ _ _ h => h) (Or.inl ⟨by rfl, ?_⟩) ?_ ?_
     rotate_left
     ·intro w'
      go_simp
      try with_reducible rfl
     rotate_left
     ·simp only [Act.put, s1_, s2_, s3_, ka_, la_]
      rfl
     refine take_ (i := 6) (N := some 137) (v := ?_) (a' := ?_) (f_ 15 7) rfl rfl (by kernel_rfl) (fun _ _ _ h => h) (Or.inl ⟨by rfl, ?_⟩) hHeld ?_ ?_
     rotate_left
     ·rintro w' ⟨s0, s1⟩
      go_simp
      try with_reducible rfl
     rotate_left
     ·simp only [Act.put, s1_, s2_, s3_, ka_, la_]
      rfl
     refine pa_ (i := 7) (N := some 138) (v := ?_) (a' := ?_) (f_ 15 8) rfl rfl (by kernel_rfl) (fun _ _ _ h => h) (Or.inl ⟨by rfl, ?_⟩) ?_ ?_
     rotate_left
     ·intro w'
      go_simp
      try with_reducible rfl
     rotate_left
     ·simp only [Act.put, s1_, s2_, s3_, ka_, la_]
      rfl
     refine pa_ (i := 8) (N := some 139) (v := ?_) (a' := ?_) (f_ 15 9) rfl rfl (by kernel_rfl) (fun _ _ _ h => h) (Or.inl ⟨by rfl, ?_⟩) ?_ ?_
     rotate_left
     ·intro w'
      go_simp
      try with_reducible rfl
     rotate_left
     ·simp only [Act.put, s1_, s2_, s3_, ka_, la_]
      rfl
     refine pa_ (i := 9) (N := some 140) (v := ?_) (a' := ?_) (f_ 15 10) rfl rfl (by kernel_rfl) (fun _ _ _ h => h) (Or.inl ⟨by rfl, ?_⟩) ?_ ?_
     rotate_left
     ·intro w'
      go_simp
      try with_reducible rfl
     rotate_left
     ·simp only [Act.put, s1_, s2_, s3_, ka_, la_]
      rfl
     refine take_ (i := 10) (N := some 141) (v := ?_) (a' := ?_) (f_ 15 11) rfl rfl (by kernel_rfl) (fun _ _ _ h => h) (Or.inl ⟨by rfl, ?_⟩) hHeld ?_ ?_
     rotate_left
     ·rintro w' ⟨s0, s1⟩
      go_simp
      try with_reducible rfl
     rotate_left
     ·simp only [Act.put, s1_, s2_, s3_, ka_, la_]
      rfl
     refine pa_ (i := 11) (N := some 142) (v := ?_) (a' := ?_) (f_ 15 12) rfl rfl (by kernel_rfl) (fun _ _ _ h => h) (Or.inl ⟨by rfl, ?_⟩) ?_ ?_
     rotate_left
     ·intro w'
      go_simp
      try with_reducible rfl
     rotate_left
     ·simp only [Act.put, s1_, s2_, s3_, ka_, la_]
      rfl
     refine one_ (i := 12) (N := some 143) (f_ 15 13) rfl rfl (by kernel_rfl) (by decide) (fun K hK => ?_)
     refine vd_ Tryz.func40 (by kernel_rfl) rfl #[.pointer (some ⟨P.tb, 0, none⟩), .int .i64 (wrap64 ((a0 : Int) + (wv : Int)))] (by rfl) rfl rfl (by (try simp only [List.map_toArray, List.map_cons, List.map_nil]); rfl) ?_
     rw [HADD.out]
     refine (zh_ P HP.out W5 HA5.out (a0 + wv) HBND.out).mono ?_
     rintro e' W6 ⟨rfl, ⟨⟨n3, rfl⟩⟩⟩
     refine ⟨_, rfl, ?_⟩
     refine hK.out _ _ ⟨hHeld.1, hHeld.2⟩ (fun hHeld => ?_)
     clear hK K
     refine rb_ (a' := ?_) ?_ ?_
     rotate_left
     ·show Act.put _ (some 143) _ = _
      simp only [Act.put, s1_, s2_, s3_, ka_, la_]
      rfl
     refine pa_ (i := 13) (N := some 144) (v := ?_) (a' := ?_) (f_ 15 14) rfl rfl (by kernel_rfl) (fun _ _ _ h => h) (Or.inl ⟨by rfl, ?_⟩) ?_ ?_
     rotate_left
     ·intro w'
      go_simp
      try with_reducible rfl
     rotate_left
     ·simp only [Act.put, s1_, s2_, s3_, ka_, la_]
      rfl
     refine kg_ (i := 14) (N := none) (f_ 15 15) rfl rfl (by kernel_rfl) (by decide) (fun K hK => ?_)
     refine gh_ (by rfl) rfl (.tmp 144) (.tmp 143) rfl (g := nb) (i := z) ((Chart.cap P.most (a0 + wv) : Nat) : Int) (by rfl) (by rfl) (HN5.out.drewN n3) (by omega) ?_
     refine hK.out _ _ ?_
     clear hK K
     refine je_ (by kernel_rfl) ?_
     have HN6 : Aside0 (IntBlk ((W5.drewN n3).setCell ⟨nb, z, none⟩ (.int .i64 ((Chart.cap P.most (a0 + wv) : Nat) : Int))) nb (P.n + 1) (fun y => Chart.cap P.most (ed_ WW G q y + WW q * tkN L x y (k + 1)))) := ⟨((HN5.out.drewN n3).put z (by omega) _).congr fun y' _ => by
      by_cases e : y' = z
      ·rw [if_pos e, HNEW.out, e]
      rw [if_neg e, HOLD.out y' e]⟩
     have HI6 : Aside0 (IntBlk ((W5.drewN n3).setCell ⟨nb, z, none⟩ (.int .i64 ((Chart.cap P.most (a0 + wv) : Nat) : Int))) wb (P.n + 1) (fun z => Chart.cap P.most (WW z))) := ⟨(HI5.out.drewN n3).far nb z (by have := HNB.out; omega) _⟩
     have HB6 : Aside0 (Below w.heap.size w ((W5.drewN n3).setCell ⟨nb, z, none⟩ (.int .i64 ((Chart.cap P.most (a0 + wv) : Nat) : Int)))) := ⟨(aa_ HB5.out n3).setCell (p := ⟨nb, z, none⟩) (by have := HNB.out; have := HWB.out; show w.heap.size ≤ nb; omega) _⟩
     have HX6 : Aside0 (((W5.drewN n3).setCell ⟨nb, z, none⟩ (.int .i64 ((Chart.cap P.most (a0 + wv) : Nat) : Int))).heap[w.heap.size]? = some (ye_ r (some ad1) c1 A3 c3)) := ⟨(heap_setCell_other _ ⟨nb, z, none⟩ w.heap.size _ (by have := HNB.out; have := HWB.out; show _ ≠ nb; omega)).trans HX5.out⟩
     generalize (W5.drewN n3).setCell ⟨nb, z, none⟩ (.int .i64 ((Chart.cap P.most (a0 + wv) : Nat) : Int)) = W7 at *
     go_wp2
     go_roundg (L.length - (k + 1))
     case measure => omega
     case rel => exact ⟨k + 1, by omega, by omega, by go_num, HN6, HI6, HB6, HX6⟩
    have hclb : (y.f2 == -1 - x) = false := by simpa using hcls
    have HN6 : Aside0 (IntBlk wr nb (P.n + 1) (fun z => Chart.cap P.most (ed_ WW G q z + WW q * tkN L x z (k + 1)))) := ⟨HN.out.congr fun z _ => by rw [HSN2.out z, if_neg (fun e => hcls e.1), Nat.add_zero]⟩
    clear hcls hty
    go_wp2
    go_quiet (fail)
    go_wp2
    go_roundg (L.length - (k + 1))
    case measure => omega
    case rel => exact ⟨k + 1, by omega, by omega, by go_num, ⟨HN6.out⟩, ⟨HI.out⟩, ⟨aa_ HB.out _⟩, ⟨HX.out⟩⟩
   have he : k = L.length := by omega
   have hklz : decide ((k : Int) < (L.length : Int)) = false := by simp; omega
   clear hgg3 hk
   subst he
   have HN6 : Aside0 (IntBlk wr nb (P.n + 1) (fun y => Chart.cap P.most (ed_ WW G (q + 1) y))) := ⟨HN.out.congr fun y _ => by rw [HALL.out y, ug_]⟩
   go_wp2
   go_roundg (P.n + 1 - (q + 1))
   case measure => omega
   case rel => exact ⟨q + 1, by omega, by omega, by omega, by go_num, HN6, HI, HB, HX⟩
  have he : q = P.n + 1 := by omega
  have hqz : decide ((q : Int) ≤ (P.n : Int)) = false := by simp; omega
  have HN6 : Aside0 (IntBlk wr nb (P.n + 1) (fun z => Chart.cap P.most (ci_ (tokT toks) P.n F r.f1 p (i + 1) z))) := ⟨HN.out.congr fun z _ => by rw [HSN.out z, he]⟩
  have HNB2 : Aside0 (w.heap.size < nb) := ⟨by have := HNB.out; have := HWB.out; omega⟩
  clear he
  go_wp2
  go_roundg (r.f1.length - (i + 1))
  case measure => omega
  case rel => exact ⟨i + 1, nb, by omega, by omega, by go_num, rfl, HN6, HNB2, HB, HX⟩
 have he : i = r.f1.length := by omega
 have hilz : decide ((i : Int) < (r.f1.length : Int)) = false := by simp; omega
 have HI6 : Aside0 (IntBlk wr wb (P.n + 1) (fun z => Chart.cap P.most (Chart.ways (tokT toks) P.n F r.f1 p z))) := ⟨HI.out.congr fun z _ => by unfold ci_; rw [he, List.take_length]⟩
 clear he
 go_wp2
 go_ret
 exact ⟨wb, rfl, HI6.out, HB.out⟩
end Go.Proofs.YtjfbfhoipgldgaaGreat.P
end
section
namespace Go.Proofs.YtjfbfhoipgldgaaGreat.P
open Go.RowKit Go.Proofs.YtjfbfhoipgldgaaGreatW.PrintWords Go.Proofs.YtjfbfhoipgldgaaGreatW.PrintLast Go.Proofs.YtjfbfhoipgldgaaGreatW.PrintMore
attribute [local go_sem] ob_ lb_ ub_ tb_ db_ cb_ nb_ kb_   
set_option linter.unusedVariables false
set_option linter.unusedSimpArgs false
def FilO (pp : Nat) : Int → Nat → Nat → Prop := fun _ a _ => pp ≤ a
def Fil7 (ord : List Int) (p z i : Nat) : Int → Nat → Nat → Prop := fun s a b => p < a ∨ (a = p ∧ b < z) ∨ (a = p ∧ b = z ∧ s ∈ ord.take i)
theorem C7.congr {P : T7} {W : World} {F G : Int → Nat → Nat → Nat} (h : C7 P W F) (he : ∀ s p q : Nat, s < 20 → p ≤ P.n → q ≤ P.n → F (s : Int) p q = G (s : Int) p q) : C7 P W G := by
 obtain ⟨f, h1, h2⟩ := h
 exact ⟨f, h1, fun s p q hs hp hq => by rw [h2 s p q hs hp hq, he s p q hs hp hq]⟩
theorem xg_ (M a b : Nat) (hb : b < M) : (a * M + b) / M = a ∧ (a * M + b) % M = b := by
 have hM : 0 < M := by omega
 constructor
 ·rw [Nat.add_comm, Nat.add_mul_div_right _ _ hM, Nat.div_eq_of_lt hb, Nat.zero_add]
 rw [Nat.add_comm, Nat.add_mul_mod_self_right, Nat.mod_eq_of_lt hb]
theorem T7.idx_inj (P : T7) {s p q s' p' q' : Nat} (hp : p ≤ P.n) (hq : q ≤ P.n) (hp' : p' ≤ P.n) (hq' : q' ≤ P.n) (h : P.idx s p q = P.idx s' p' q') : s = s' ∧ p = p' ∧ q = q' := by
 unfold T7.idx at h
 have a1 := xg_ (P.n + 1) (s * (P.n + 1) + p) q (by omega)
 have a2 := xg_ (P.n + 1) (s' * (P.n + 1) + p') q' (by omega)
 have b1 := xg_ (P.n + 1) s p (by omega)
 have b2 := xg_ (P.n + 1) s' p' (by omega)
 rw [h] at a1
 have e1 : s * (P.n + 1) + p = s' * (P.n + 1) + p' := a1.1.symm.trans a2.1
 rw [e1] at b1
 exact ⟨b1.1.symm.trans b2.1, b1.2.symm.trans b2.2, a1.2.symm.trans a2.2⟩
theorem C7.put {P : T7} (hP : P.Ok) {W : World} {F G : Int → Nat → Nat → Nat} (h : C7 P W F) (s p q : Nat) (hs : s < 20) (hp : p ≤ P.n) (hq : q ≤ P.n) (v : Nat) (hv : v = Chart.cap P.most (G (s : Int) p q)) (he : ∀ s' p' q' : Nat, s' < 20 → p' ≤ P.n → q' ≤ P.n → ¬ (s' = s ∧ p' = p ∧ q' = q) → F (s' : Int) p' q' = G (s' : Int) p' q') : C7 P (W.setCell ⟨P.cb, P.idx s p q, none⟩ (.int .i64 (v : Int))) G := by
 obtain ⟨f, h1, h2⟩ := h
 refine ⟨_, h1.put (P.idx s p q) (by rw [hP.2.2.2]; exact P.idx_lt s p q hs hp hq) v, fun s' p' q' hs' hp' hq' => ?_⟩
 by_cases e : P.idx s' p' q' = P.idx s p q
 ·obtain ⟨rfl, rfl, rfl⟩ := P.idx_inj hp' hq' hp hq e
  rw [if_pos rfl, hv]
 rw [if_neg e, h2 s' p' q' hs' hp' hq', he s' p' q' hs' hp' hq' (fun k => e (by rw [k.1, k.2.1, k.2.2]))]
section
variable (toks : List Tok') (rules : List qa_) (n : Nat)
noncomputable def F7 (Fil : Int → Nat → Nat → Prop) : Int → Nat → Nat → Nat := Chart.Fcur (tokT toks) n (jb_ rules) Fil
noncomputable def N7 : Int → Nat → Nat → Nat := Chart.Num (tokT toks) n (jb_ rules)
variable (hT : ∀ x ∈ toks, 0 ≤ x.f0 ∧ x.f0 < x.f1 ∧ x.f1 ≤ (n : Int)) (hch : xa_ rules = true)
include hT hch
theorem cq_ (Fil : Int → Nat → Nat → Prop) : Chart.Fwd (F7 toks rules n Fil) := Chart.Fcur_fwd _ _ _ (ml_ toks fun x hx => (hT x hx).2.1) (ig_ rules hch) Fil
omit hT hch in
theorem F7_on {Fil : Int → Nat → Nat → Prop} {s : Int} {p q : Nat} (h : Fil s p q) : F7 toks rules n Fil s p q = N7 toks rules n s p q := Chart.Fcur_on _ _ _ Fil h
omit hT hch in
theorem ut_ {Fil : Int → Nat → Nat → Prop} {s : Int} {p q : Nat} (h : ¬ Fil s p q) : F7 toks rules n Fil s p q = 0 := if_neg h
theorem gl_ {A B : Int → Nat → Nat → Prop} (s : Int) (p q : Nat) (h : p < q → (A s p q ↔ B s p q)) : F7 toks rules n A s p q = F7 toks rules n B s p q := by
 by_cases hpq : p < q
 ·by_cases hA : A s p q
  ·rw [F7_on toks rules n hA, F7_on toks rules n ((h hpq).1 hA)]
  rw [ut_ toks rules n hA, ut_ toks rules n (fun k => hA ((h hpq).2 k))]
 rw [cq_ toks rules n hT hch A s p q hpq, cq_ toks rules n hT hch B s p q hpq]
theorem F7_none (s : Int) (p q : Nat) (hq : q ≤ n) : F7 toks rules n (FilO n) s p q = 0 := by
 by_cases hpq : p < q
 ·exact ut_ toks rules n (fun h => by unfold FilO at h; omega)
 exact cq_ toks rules n hT hch _ s p q hpq
omit hT hch in
theorem F7_all (s : Int) (p q : Nat) : F7 toks rules n (FilO 0) s p q = N7 toks rules n s p q := F7_on toks rules n (Nat.zero_le _)
theorem F7_begin (ord : List Int) (p : Nat) (s : Int) (a b : Nat) : F7 toks rules n (FilO (p + 1)) s a b = F7 toks rules n (Fil7 ord p (p + 1) 0) s a b :=
 gl_ toks rules n hT hch s a b fun hab => by
  unfold FilO Fil7
  rw [List.take_zero]
  simp
  omega
theorem F7_end (ord : List Int) (p : Nat) (s : Int) (a b : Nat) (hb : b ≤ n) : F7 toks rules n (Fil7 ord p (n + 1) 0) s a b = F7 toks rules n (FilO p) s a b :=
 gl_ toks rules n hT hch s a b fun hab => by
  unfold FilO Fil7
  rw [List.take_zero]
  simp
  omega
theorem F7_next (ord : List Int) (ho : OutOk (cc_ rules) ord) (hl : ord.length = (cc_ rules).length) (p z : Nat) (s : Nat) (hs : s < 20) (a b : Nat) : F7 toks rules n (Fil7 ord p z ord.length) (s : Int) a b = F7 toks rules n (Fil7 ord p (z + 1) 0) (s : Int) a b :=
 gl_ toks rules n hT hch s a b fun hab => by
  have hm : (s : Int) ∈ ord := rm_ (N := (cc_ rules).length) ho.nodup ho.rng (by omega) _ (by rw [ib_]; omega)
  unfold Fil7
  rw [List.take_zero, List.take_of_length_le (Nat.le_refl _)]
  simp [hm]
  omega
theorem F7_step (ord : List Int) (p z i : Nat) (hi : i < ord.length) (s : Int) (a b : Nat) (h : ¬ (s = ord[i] ∧ a = p ∧ b = z)) : F7 toks rules n (Fil7 ord p z i) s a b = F7 toks rules n (Fil7 ord p z (i + 1)) s a b :=
 gl_ toks rules n hT hch s a b fun hab => by
  unfold Fil7
  rw [List.take_succ_eq_append_getElem hi]
  simp only [List.mem_append, List.mem_singleton]
  constructor
  ·rintro (k | k | ⟨k1, k2, k3⟩)
   ·exact .inl k
   ·exact .inr (.inl k)
   exact .inr (.inr ⟨k1, k2, .inl k3⟩)
  rintro (k | k | ⟨k1, k2, k3 | k3⟩)
  ·exact .inl k
  ·exact .inr (.inl k)
  ·exact .inr (.inr ⟨k1, k2, k3⟩)
  exact absurd ⟨k3, k1, k2⟩ h
omit hT hch in
theorem F7_here (ord : List Int) (p z i : Nat) (hi : i < ord.length) : F7 toks rules n (Fil7 ord p z (i + 1)) ord[i] p z = N7 toks rules n ord[i] p z :=
 F7_on toks rules n (.inr (.inr ⟨rfl, rfl, by rw [List.take_succ_eq_append_getElem hi]; exact List.mem_append_right _ (List.mem_singleton.2 rfl)⟩))
theorem F7_cell (ord : List Int) (ho : OutOk (cc_ rules) ord) (p z i : Nat) (hp : p ≤ n) (hz : z ≤ n) (hi : i < ord.length) : Chart.sumK (tokT toks) n (jb_ rules) (F7 toks rules n (Fil7 ord p z i)) ord[i] p z rules.length = N7 toks rules n ord[i] p z := by
 have hlen : (jb_ rules).length = rules.length := by unfold jb_; rw [List.length_map]
 rw [← hlen]
 refine Chart.cell_filled (tokT toks) n (jb_ rules) (ml_ toks fun x hx => (hT x hx).2.1) (ig_ rules hch) (ej_ rules) (xn_ rules hch) _ ord[i] p z hp hz (fun y a b h0 h1 ha h4 h5 h6 => ?_) (fun r hr hrs x hx he => ?_)
 ·by_cases hpa : p < a
  ·exact .inl hpa
  exact .inr (.inl ⟨by omega, by omega⟩)
 obtain ⟨r0, hr0, rfl⟩ := List.mem_map.1 hr
 have h2 := dd_ r0 (List.all_eq_true.1 ((bc_ rules).1 hch).2.1 r0 hr0)
 have he' : r0.f1 = [x] := he
 have hx2 := h2.2.2.1 x (by rw [he']; exact List.mem_singleton.2 rfl)
 have hrs' : r0.f0 = ord[i] := hrs
 have hb := ho.before (ord.take i) ord[i] (ord.drop (i + 1)) (by rw [← List.drop_eq_getElem_cons hi, List.take_append_drop]) x (by
  rw [rh_, ← hrs']
  exact (nd_ rules _ ⟨h2.1.1, h2.1.2⟩ x).2 ⟨⟨hx, hx2.2⟩, r0, hr0, rfl, he'⟩)
 exact .inr (.inr ⟨rfl, rfl, hb⟩)
end
theorem at6_eq (toks : List Tok') (q : Int) (hl : toks.length ≤ 1000) : ∀ (k i : Nat) (acc : List Tok'), acc.length ≤ i → i ≤ toks.length → toks.length - i < k → interlocutorref6_At.l0 k toks q acc (i : Int) = some (acc ++ (toks.drop i).filter fun t => decide (t.f0 = q)) := by
 intro k
 induction k with
 | zero => intro i acc _ _ h; omega
 | succ k ih =>
  intro i acc ha hi hk
  unfold interlocutorref6_At.l0
  by_cases hil : i < toks.length
  ·have hx : bb_ toks (i : Int) = toks[i] := by
    show toks.getD (i : Int).toNat _ = _
    rw [Int.toNat_natCast, List.getD_eq_getElem?_getD, List.getElem?_eq_getElem hil]
    rfl
   have hw : wrap64 ((i : Int) + 1) = ((i + 1 : Nat) : Int) := by rw [w64 _ (by omega) (by omega)]; rfl
   rw [if_pos (by omega), if_pos (by omega), hx, hw, List.drop_eq_getElem_cons hil]
   by_cases he : toks[i].f0 = q
   ·rw [if_pos he, if_pos (by omega), List.filter_cons_of_pos (by simpa using he), ih (i + 1) _ (by simp; omega) (by omega) (by omega), List.append_assoc]
    rfl
   rw [if_neg he, List.filter_cons_of_neg (by simpa using he), ih (i + 1) acc (by omega) (by omega) (by omega)]
  rw [if_neg (by omega), List.drop_of_length_le (by omega)]
  simp
theorem at6_at (toks : List Tok') (q : Nat) (hl : toks.length ≤ 1000) : interlocutorref6_At.f (toks.length + 1) toks (q : Int) = some (atP toks q) := by
 have := at6_eq toks (q : Int) hl (toks.length + 1) 0 [] (Nat.zero_le _) (Nat.zero_le _) (by omega)
 rw [List.drop_zero, List.nil_append] at this
 exact this
def ByR (P : T7) (W : World) (B bb m : Nat) (toks : List Tok') : Prop := ∃ vals : Array Value, W.heap[bb]? = some (.cells vals 29 (0, 0)) ∧ vals.size = P.n + 1 ∧ ∀ q : Nat, q < m → ∃ v, vals[q]? = some v ∧ Kd.R k31 31 W B (fun k => k ≠ P.cb ∧ k ≠ bb) v (atP toks q)
theorem ByR.below {P : T7} {W W1 : World} {B bb m : Nat} {toks : List Tok'} (h : ByR P W B bb m toks) (hb : Below W.heap.size W W1) : ByR P W1 B bb m toks := by
 obtain ⟨vals, h1, h2, h3⟩ := h
 refine ⟨vals, za_ h1 hb, h2, fun q hq => ?_⟩
 obtain ⟨v, h4, h5⟩ := h3 q hq
 exact ⟨v, h4, Kd.R_below h5 hb⟩
theorem ByR.far {P : T7} {W : World} {B bb m : Nat} {toks : List Tok'} (h : ByR P W B bb m toks) (hne : bb ≠ P.cb) (i : Nat) (v : Value) : ByR P (W.setCell ⟨P.cb, i, none⟩ v) B bb m toks := by
 obtain ⟨vals, h1, h2, h3⟩ := h
 refine ⟨vals, (heap_setCell_other W ⟨P.cb, i, none⟩ bb v hne).trans h1, h2, fun q hq => ?_⟩
 obtain ⟨u, h4, h5⟩ := h3 q hq
 exact ⟨u, h4, Kd.R_far h5 (p := ⟨P.cb, i, none⟩) (fun k hk => hk.1) v⟩
theorem ByR.put {P : T7} {W : World} {B bb m : Nat} {toks : List Tok'} (h : ByR P W B bb m toks) (hm : m ≤ P.n) (v : Value) (hv : Kd.R k31 31 W B (fun k => k ≠ P.cb ∧ k ≠ bb) v (atP toks m)) : ByR P (W.setCell ⟨bb, m, none⟩ v) B bb (m + 1) toks := by
 obtain ⟨vals, h1, h2, h3⟩ := h
 refine ⟨_, yg_ h1 m v, by simpa using h2, fun q hq => ?_⟩
 rw [Array.getElem?_setIfInBounds]
 by_cases e : m = q
 ·subst e
  exact ⟨v, by rw [if_pos rfl, if_pos (by omega)], Kd.R_far hv (p := ⟨bb, m, none⟩) (fun k hk => hk.2) v⟩
 obtain ⟨u, h4, h5⟩ := h3 q (by omega)
 exact ⟨u, by rw [if_neg e]; exact h4, Kd.R_far h5 (p := ⟨bb, m, none⟩) (fun k hk => hk.2) v⟩
theorem ByR.by7 {P : T7} {W : World} {B bb : Nat} {toks : List Tok'} (h : ByR P W B bb (P.n + 1) toks) : By7 P W bb toks := by
 obtain ⟨vals, h1, h2, h3⟩ := h
 refine ⟨vals, h1, h2, fun q hq => ?_⟩
 obtain ⟨v, h4, h5⟩ := h3 q (by omega)
 obtain ⟨A, c, rfl, h6, h7⟩ := Kd.R_reads h5
 exact ⟨A, c, h4, h6, h7⟩
structure Tab7 (P : T7) (w : World) (bb : Nat) (toks : List Tok') (so : Value) (ord : List Int) (F : Int → Nat → Nat → Nat) (W : World) : Prop where
 tab : P.At W
 cells : C7 P W F
 rows : ByR P W w.heap.size bb (P.n + 1) toks
 order : Kd.R (Kd.int .i64) 3 W w.heap.size (fun k => k ≠ P.cb) so ord
 below : Below w.heap.size w W
theorem Tab7.grow {P : T7} {w : World} {bb : Nat} {toks : List Tok'} {so : Value} {ord : List Int} {F : Int → Nat → Nat → Nat} {W W1 : World} (h : Tab7 P w bb toks so ord F W) (hb : Below W.heap.size W W1) : Tab7 P w bb toks so ord F W1 :=
 ⟨h.tab.below hb, h.cells.below hb, h.rows.below hb, Kd.R_below h.order hb, ma_ h.below hb⟩
theorem Tab7.congr {P : T7} {w : World} {bb : Nat} {toks : List Tok'} {so : Value} {ord : List Int} {F G : Int → Nat → Nat → Nat} {W : World} (h : Tab7 P w bb toks so ord F W) (he : ∀ s p q : Nat, s < 20 → p ≤ P.n → q ≤ P.n → F (s : Int) p q = G (s : Int) p q) : Tab7 P w bb toks so ord G W :=
 ⟨h.tab, h.cells.congr he, h.rows, h.order, h.below⟩
theorem Tab7.put {P : T7} (hP : P.Ok) {w : World} {bb : Nat} {toks : List Tok'} {so : Value} {ord : List Int} {F G : Int → Nat → Nat → Nat} {W : World} (h : Tab7 P w bb toks so ord F W) (hc : w.heap.size ≤ P.cb) (s p q : Nat) (hs : s < 20) (hp : p ≤ P.n) (hq : q ≤ P.n) (v : Nat) (hv : v = Chart.cap P.most (G (s : Int) p q))
  (he : ∀ s' p' q' : Nat, s' < 20 → p' ≤ P.n → q' ≤ P.n → ¬ (s' = s ∧ p' = p ∧ q' = q) → F (s' : Int) p' q' = G (s' : Int) p' q') : Tab7 P w bb toks so ord G (W.setCell ⟨P.cb, P.idx s p q, none⟩ (.int .i64 (v : Int))) := by
 obtain ⟨f, hf, _⟩ := h.cells
 refine ⟨(heap_setCell_other W ⟨P.cb, P.idx s p q, none⟩ P.tb _ (fun e => ?_)).trans h.tab, h.cells.put hP s p q hs hp hq v hv he, h.rows.far (fun e => ?_) _ _, Kd.R_far h.order (p := ⟨P.cb, P.idx s p q, none⟩) (fun k hk => hk) _, h.below.setCell (p := ⟨P.cb, P.idx s p q, none⟩) hc _⟩
 ·exact hf.ne h.tab (by decide) e.symm
 obtain ⟨vals, h1, _⟩ := h.rows
 exact hf.ne h1 (by decide) e.symm
def pw_ (rules : List qa_) (toks : List Tok') (n most : Nat) (w : World) (e : Ending) (w' : World) : Prop :=
 ∃ P : T7, P.n = n ∧ P.most = most ∧ P.Ok ∧ e = .returned (.pointer (some ⟨P.tb, 0, none⟩)) ∧ P.At w' ∧ C7 P w' (N7 toks rules n) ∧ Below w.heap.size w w'
end Go.Proofs.YtjfbfhoipgldgaaGreat.P
end
section
namespace Go.Proofs.YtjfbfhoipgldgaaGreat.P
open Go.RowKit Go.Proofs.YtjfbfhoipgldgaaGreatW.PrintWords Go.Proofs.YtjfbfhoipgldgaaGreatW.PrintLast Go.Proofs.YtjfbfhoipgldgaaGreatW.PrintMore
attribute [local go_sem] ob_ lb_ ub_ tb_ db_ cb_ nb_ kb_   
set_option linter.unusedVariables false
set_option linter.unusedSimpArgs false
attribute [local go_sem] Oper.semAt_some
set_option maxHeartbeats 4000000 in
set_option maxRecDepth 100000 in
theorem lm_ (A0 : Option Addr) (c0 : Nat) (rules : List qa_) (A1 : Option Addr) (c1 : Nat) (toks : List Tok') (n most : Nat) (w : World) (hr0 : Kd.C k48 w A0 rules.length rules) (hc0 : rules.length ≤ c0)
  (hr1 : Kd.C k31 w A1 toks.length toks) (hc1 : toks.length ≤ c1) (hn : n ≤ 1000) (hm1 : 1 ≤ most) (hm2 : most ≤ 1000000000) (htl : toks.length ≤ 1000) (hch : xa_ rules = true) (hT : ∀ x ∈ toks, 0 ≤ x.f0 ∧ x.f0 < x.f1 ∧ x.f1 ≤ (n : Int)) :
  Calls Tryz.prog 22 #[.slice A0 rules.length c0, .slice A1 toks.length c1, .int .i64 (n : Int), .int .i64 (most : Int)] w (pw_ rules toks n most w) := by
 have hrl := ((bc_ rules).1 hch).1
 have hbig : 20 * (n + 1) * (n + 1) ≤ 20 * 1001 * 1001 := Nat.mul_le_mul (Nat.mul_le_mul_left 20 (by omega)) (by omega)
 obtain ⟨cc, hcc⟩ : ∃ cc, cc = 20 * (n + 1) * (n + 1) := ⟨_, rfl⟩
 have hcz : (cc : Int) = 20 * ((n : Int) + 1) * ((n : Int) + 1) := by rw [hcc]; simp [Int.natCast_mul]
 have hmk : ∀ W : World, (Instr.makeSlice 23 (.int .i64 (20 * ((n : Int) + 1) * ((n : Int) + 1))) (.int .i64 (20 * ((n : Int) + 1) * ((n : Int) + 1)))).run Tryz.prog W = .ok (.slice (some ⟨W.heap.size, 0, none⟩) cc cc) (W.alloc (.cells (madeCells #[.int .i64 0] cc) 3)) := by
  rw [← hcz]
  exact make7 cc (by omega)
 have hmk2 : ∀ W : World, (Instr.makeSlice 89 (.int .i64 ((n : Int) + 1)) (.int .i64 ((n : Int) + 1))).run Tryz.prog W = .ok (.slice (some ⟨W.heap.size, 0, none⟩) (n + 1) (n + 1)) (W.alloc (.cells (madeCells #[.slice none 0 0] (n + 1)) 29)) :=
  hn_ 89 29 (.slice none 0 0) 24 Tryz.underlying89 (by kernel_rfl) rfl (by decide) (n + 1) (by omega)
 have hsz : wrap64 (20 * ((n : Int) + 1) * ((n : Int) + 1)) = 20 * ((n : Int) + 1) * ((n : Int) + 1) := by
  rw [← hcz]
  exact w64 _ (by omega) (by omega)
 have HR0 := Aside0.mk hr0
 have HR1 := Aside0.mk hr1
 have HCH := Aside0.mk hch
 have HT := Aside0.mk hT
 have HB0 := Aside0.mk (Below.refl w.heap.size w)
 have HCC := Aside0.mk hcc
 have hccl : cc ≤ 20040020 := by omega
 clear hr0 hr1 hch hT hbig hcz hcc
 go_enter Tryz.func22, Tryz.ntmps22
 go_upto_region 3 with (fail)
 have HI1 := Aside0.mk (IntBlk.new w cc)
 have HI2 := Aside0.mk (HI1.out.alloc (.cells #[.int .i64 (n : Int), .slice (some ⟨w.heap.size, 0, none⟩) cc cc, .int .i64 (most : Int)] 68))
 have HI3 := Aside0.mk (HI2.out.alloc (.cells (madeCells #[.slice none 0 0] (n + 1)) 29))
 have HB1 := Aside0.mk (ba_ HB0.out (.cells (madeCells #[.int .i64 0] cc) 3))
 have HB2 := Aside0.mk (ba_ HB1.out (.cells #[.int .i64 (n : Int), .slice (some ⟨w.heap.size, 0, none⟩) cc cc, .int .i64 (most : Int)] 68))
 have HB3 := Aside0.mk (ba_ HB2.out (.cells (madeCells #[.slice none 0 0] (n + 1)) 29))
 have HA2 : Aside0 (((w.alloc (.cells (madeCells #[.int .i64 0] cc) 3)).alloc (.cells #[.int .i64 (n : Int), .slice (some ⟨w.heap.size, 0, none⟩) cc cc, .int .i64 (most : Int)] 68)).heap[w.heap.size + 1]? = some (.cells #[.int .i64 (n : Int), .slice (some ⟨w.heap.size, 0, none⟩) cc cc, .int .i64 (most : Int)] 68 (0, 0))) := ⟨kc_ (by simp)⟩
 have HA3 := Aside0.mk (va_ (o' := .cells (madeCells #[.slice none 0 0] (n + 1)) 29) HA2.out)
 have HY3 : Aside0 ((((w.alloc (.cells (madeCells #[.int .i64 0] cc) 3)).alloc (.cells #[.int .i64 (n : Int), .slice (some ⟨w.heap.size, 0, none⟩) cc cc, .int .i64 (most : Int)] 68)).alloc (.cells (madeCells #[.slice none 0 0] (n + 1)) 29)).heap[w.heap.size + 1 + 1]? = some (.cells (madeCells #[.slice none 0 0] (n + 1)) 29 (0, 0))) := ⟨kc_ (by simp)⟩
 clear HI1 HI2 HB0 HB1 HB2 HA2 hmk hmk2 hsz
 have HSZ : Aside0 ((((w.alloc (.cells (madeCells #[.int .i64 0] cc) 3)).alloc (.cells #[.int .i64 (n : Int), .slice (some ⟨w.heap.size, 0, none⟩) cc cc, .int .i64 (most : Int)] 68)).alloc (.cells (madeCells #[.slice none 0 0] (n + 1)) 29)).heap.size = w.heap.size + 1 + 1 + 1) := ⟨by simp⟩
 generalize ((w.alloc (.cells (madeCells #[.int .i64 0] cc) 3)).alloc (.cells #[.int .i64 (n : Int), .slice (some ⟨w.heap.size, 0, none⟩) cc cc, .int .i64 (most : Int)] 68)).alloc (.cells (madeCells #[.slice none 0 0] (n + 1)) 29) = W3 at *
 obtain ⟨cb, hcb⟩ : ∃ cb, w.heap.size = cb := ⟨_, rfl⟩
 obtain ⟨tb, htb⟩ : ∃ tb, cb + 1 = tb := ⟨_, rfl⟩
 obtain ⟨bb, hbb⟩ : ∃ bb, tb + 1 = bb := ⟨_, rfl⟩
 rw [hcb, htb, hbb] at HY3
 rw [hcb, htb] at HA3
 rw [hcb] at HI3
 rw [hcb, htb, hbb] at HSZ
 rw [hcb, htb, hbb]
 have HCB := Aside0.mk hcb
 have HTB := Aside0.mk htb
 have HBB := Aside0.mk hbb
 clear hcb htb hbb
 obtain ⟨P, rfl, rfl, rfl, rfl, rfl⟩ : ∃ P : T7, tb = P.tb ∧ cb = P.cb ∧ cc = P.cc ∧ n = P.n ∧ most = P.most := ⟨⟨tb, cb, cc, n, most⟩, rfl, rfl, rfl, rfl, rfl⟩
 have HP : Aside0 P.Ok := ⟨⟨hn, hm1, hm2, HCC.out⟩⟩
 have HA : Aside0 (P.At W3) := HA3
 have HC : Aside0 (C7 P W3 (F7 toks rules P.n (FilO P.n))) := ⟨⟨fun _ => 0, HI3.out, fun s p q _ hp hq => by
  rw [F7_none toks rules P.n HT.out HCH.out _ p q hq]
  exact (Nat.zero_min _).symm⟩⟩
 have HY : Aside0 (ByR P W3 w.heap.size bb 0 toks) := ⟨⟨_, HY3.out, by simp [size_madeCells], fun q hq => absurd hq (Nat.not_lt_zero _)⟩⟩
 have HLE : Aside0 (bb < W3.heap.size) := ⟨by rw [HSZ.out]; omega⟩
 clear HA3 HI3 HY3 HSZ
 go_wp2
 go_loopg [11] (P.n + 1) (fun gg s11 wr => ∃ q : Nat, q ≤ P.n + 1 ∧ P.n + 1 - q ≤ gg ∧ s11 = .int .i64 q ∧ Aside0 (P.At wr) ∧ Aside0 (C7 P wr (F7 toks rules P.n (FilO P.n))) ∧ Aside0 (ByR P wr w.heap.size bb q toks) ∧ Aside0 (Below w.heap.size w wr) ∧ Aside0 (bb < wr.heap.size))
 case atStart => exact ⟨0, Nat.zero_le _, by omega, rfl, HA, HC, HY, HB3, HLE⟩
 clear HA HC HY HB3 HLE
 obtain ⟨q, hq1, hgg, rfl, HA, HC, HY, HB, HLE⟩ := hrel
 by_cases hqn : q ≤ P.n
 ·have hqz : (q : Int) ≤ (P.n : Int) := by omega
  have hqz2 : (q : Int) < (P.n : Int) + 1 := by omega
  go_wp2_with fail
  refine (interlocutorref6_At.calls (toks.length + 1) A1 c1 toks (q : Int) (atP toks q) wr (Kd.C_below HR1.out HB.out) hc1 (at6_at toks q htl)).mono ?_
  rintro e w1 ⟨v, rfl, hR, hB⟩
  have HA1 := Aside0.mk (HA.out.below hB)
  have HC1 := Aside0.mk (HC.out.below hB)
  have HY1 := Aside0.mk (HY.out.below hB)
  have HB1 := Aside0.mk (ma_ HB.out hB)
  have HLE1 : Aside0 (bb < w1.heap.size) := ⟨Nat.lt_of_lt_of_le HLE.out hB.size⟩
  have hR2 : Kd.R k31 31 w1 w.heap.size (fun k => k ≠ P.cb ∧ k ≠ bb) v (atP toks q) := Kd.R_lower (Kd.R_mono (Kd.R_bound hR) (fun k hk => ⟨by have := hk.2.1; have := HLE.out; have := HTB.out; have := HBB.out; omega, by have := hk.2.1; have := HLE.out; omega⟩)) HB.out.size
  obtain ⟨A', c', hv⟩ := Kd.R_slice hR2
  have HR2 := Aside0.mk hR2
  subst hv
  obtain ⟨vals, hy1, hy2, _⟩ := HY1.out
  obtain ⟨u, hu⟩ : ∃ u, vals[q]? = some u := ⟨_, Array.getElem?_eq_getElem (by omega)⟩
  have hcu := (ca_ hy1 q).trans hu
  have hfu := fa_ hy1 q
  have HA2 : Aside0 (P.At (w1.setCell ⟨bb, q, none⟩ (.slice A' (atP toks q).length c'))) := ⟨(heap_setCell_other w1 ⟨bb, q, none⟩ P.tb _ (by have := HBB.out; show _ ≠ bb; omega)).trans HA1.out⟩
  have HC2 : Aside0 (C7 P (w1.setCell ⟨bb, q, none⟩ (.slice A' (atP toks q).length c')) (F7 toks rules P.n (FilO P.n))) := ⟨by
   obtain ⟨f, q1, q2⟩ := HC1.out
   exact ⟨f, q1.far bb q (by have := HBB.out; have := HTB.out; omega) _, q2⟩⟩
  have HY2 := Aside0.mk (HY1.out.put hqn _ HR2.out)
  have HB2 : Aside0 (Below w.heap.size w (w1.setCell ⟨bb, q, none⟩ (.slice A' (atP toks q).length c'))) := ⟨HB1.out.setCell (p := ⟨bb, q, none⟩) (by have := HCB.out; have := HBB.out; have := HTB.out; show w.heap.size ≤ bb; omega) _⟩
  have HLE2 : Aside0 (bb < (w1.setCell ⟨bb, q, none⟩ (.slice A' (atP toks q).length c')).heap.size) := ⟨by simpa using HLE1.out⟩
  clear hR hB hR2 hy1 hy2 hu HA HC HY HB HLE
  go_wp2
  go_roundg (P.n + 1 - (q + 1))
  case measure => omega
  case rel => exact ⟨q + 1, by omega, by omega, by go_num, HA2, HC2, HY2, HB2, HLE2⟩
 have hqz : decide ((q : Int) ≤ (P.n : Int)) = false := by simp; omega
 have he : q = P.n + 1 := by omega
 rw [he] at HY
 go_wp2_with fail
 refine (br_ A0 c0 rules wr (Kd.C_below HR0.out HB.out) hc0 HCH.out).mono ?_
 rintro e w2 ⟨so, ord, rfl, hR, hO, hL, hB⟩
 have HO := Aside0.mk hO
 have HOL := Aside0.mk hL
 have hol : ord.length = 20 := by rw [hL, ib_]
 have HT2 : Aside0 (Tab7 P w bb toks so ord (F7 toks rules P.n (FilO P.n)) w2) := ⟨⟨HA.out.below hB, HC.out.below hB, HY.out.below hB, Kd.R_lower (Kd.R_mono (Kd.R_bound hR) (fun k hk => by have := hk.2.1; have := HLE.out; have := HTB.out; have := HBB.out; omega)) HB.out.size, ma_ HB.out hB⟩⟩
 obtain ⟨ado, co, hso⟩ := Kd.R_slice1 hR (by omega)
 subst hso
 have hol2 : ord.length ≤ 20 := by omega
 clear hol hR hO hL hB HA HC HY HB HLE hqz he hgg hq1
 go_wp2
 go_loopg [13] P.n (fun gg s13 wr => ∃ pp : Nat, pp ≤ P.n ∧ pp ≤ gg ∧ s13 = .int .i64 ((pp : Int) - 1) ∧ Aside0 (Tab7 P w bb toks (.slice (some ado) ord.length co) ord (F7 toks rules P.n (FilO pp)) wr))
 case atStart => exact ⟨P.n, Nat.le_refl _, Nat.le_refl _, rfl, HT2⟩
 clear HT2
 obtain ⟨pp, hpp, hgg, rfl, HTB2⟩ := hrel
 by_cases hp0 : pp = 0
 ·subst hp0
  have HT3 : Aside0 (Tab7 P w bb toks (.slice (some ado) ord.length co) ord (N7 toks rules P.n) wr) := ⟨HTB2.out.congr fun s p q _ _ _ => F7_all toks rules P.n (s : Int) p q⟩
  go_wp2
  go_ret
  exact ⟨P, rfl, rfl, HP.out, rfl, HT3.out.tab, HT3.out.cells, HT3.out.below⟩
 obtain ⟨p, rfl⟩ : ∃ p, pp = p + 1 := ⟨pp - 1, by omega⟩
 have hpe : ((p + 1 : Nat) : Int) - 1 = (p : Int) := by omega
 have hpn : p ≤ P.n := by omega
 rw [hpe]
 have HT3 : Aside0 (Tab7 P w bb toks (.slice (some ado) ord.length co) ord (F7 toks rules P.n (Fil7 ord p (p + 1) 0)) wr) := ⟨HTB2.out.congr fun s a b _ _ _ => F7_begin toks rules P.n HT.out HCH.out ord p (s : Int) a b⟩
 clear HTB2 hpe hp0
 go_wp2
 go_loopg [14] (P.n - p) (fun gg2 s14 wr => ∃ z : Nat, p < z ∧ z ≤ P.n + 1 ∧ P.n + 1 - z ≤ gg2 ∧ s14 = .int .i64 z ∧ Aside0 (Tab7 P w bb toks (.slice (some ado) ord.length co) ord (F7 toks rules P.n (Fil7 ord p z 0)) wr))
 case atStart => exact ⟨p + 1, by omega, by omega, by omega, by go_num, HT3⟩
 clear HT3
 obtain ⟨z, hpz, hz1, hgg2, rfl, HT4⟩ := hrel
 by_cases hzn : z ≤ P.n
 ·have hzz : (z : Int) ≤ (P.n : Int) := by omega
  have hzl : (z : Int) < (P.n : Int) + 1 := by omega
  go_wp2
  go_loopg [15] ord.length (fun gg3 s15 wr => ∃ i : Nat, i ≤ ord.length ∧ ord.length - i ≤ gg3 ∧ s15 = .int .i64 i ∧ Aside0 (Tab7 P w bb toks (.slice (some ado) ord.length co) ord (F7 toks rules P.n (Fil7 ord p z i)) wr))
  case atStart => exact ⟨0, Nat.zero_le _, by omega, rfl, HT4⟩
  clear HT4
  obtain ⟨i, hi, hgg3, rfl, HT5⟩ := hrel
  by_cases hil : i < ord.length
  ·have hilz : (i : Int) < (ord.length : Int) := by omega
   have hrng := HO.out.rng _ (List.getElem_mem hil)
   rw [ib_] at hrng
   obtain ⟨s, hs⟩ : ∃ s : Nat, ord[i] = (s : Int) := ⟨ord[i].toNat, by omega⟩
   rw [hs] at hrng
   have hs20 : s < 20 := by omega
   have HS := Aside0.mk hs
   have HFW := Aside0.mk (cq_ toks rules P.n HT.out HCH.out (Fil7 ord p z i))
   obtain ⟨ff, hff⟩ : ∃ ff, ff = F7 toks rules P.n (Fil7 ord p z i) := ⟨_, rfl⟩
   have HFF := Aside0.mk hff
   rw [← hff] at HT5 HFW
   have hsum0 : Aside0 (Value.int .i64 0 = .int .i64 ((Chart.cap P.most (Chart.sumK (tokT toks) P.n (jb_ rules) ff (s : Int) p z 0) : Nat) : Int)) := ⟨by rw [Chart.sumK_zero]; unfold Chart.cap; rw [Nat.zero_min]; rfl⟩
   clear hrng hs hff
   go_wp2
   go_loopg [16, 17] rules.length (fun gg4 s16 s17 wr => ∃ k : Nat, k ≤ rules.length ∧ rules.length - k ≤ gg4 ∧ s17 = .int .i64 k ∧ s16 = .int .i64 ((Chart.cap P.most (Chart.sumK (tokT toks) P.n (jb_ rules) ff (s : Int) p z k) : Nat) : Int) ∧ Aside0 (Tab7 P w bb toks (.slice (some ado) ord.length co) ord ff wr))
   case atStart => exact ⟨0, Nat.zero_le _, by omega, rfl, hsum0.out, HT5⟩
   clear HT5 hsum0
   obtain ⟨k, hk, hgg4, rfl, rfl, HT6⟩ := hrel
   by_cases hkl : k < rules.length
   ·have hklz : (k : Int) < (rules.length : Int) := by omega
    have hB6 := HT6.out.below
    obtain ⟨ad, A1', c1', A3', c3', hA, h0, h1, h2, h3, h4, l1, g1, l3, g3⟩ := sf_ (Kd.C_below HR0.out hB6) (k : Int) (by omega) hklz
    subst hA
    have hyr : qb_ rules (k : Int) = rules[k] := by
     show rules.getD (k : Int).toNat _ = _
     rw [Int.toNat_natCast, List.getD_eq_getElem?_getD, List.getElem?_eq_getElem hkl]
     rfl
    have hry : pc_ rules[k] = true := List.all_eq_true.1 ((bc_ _).1 HCH.out).2.1 _ (List.getElem_mem hkl)
    have hplen : (jb_ rules).length = rules.length := by unfold jb_; rw [List.length_map]
    have hsn := Chart.sumK_succ (tokT toks) P.n (jb_ rules) ff (s : Int) p z k (by rw [hplen]; exact hkl)
    have hpk : (jb_ rules)[k]'(by rw [hplen]; exact hkl) = (rules[k].f0, rules[k].f1) := by unfold jb_; rw [List.getElem_map]
    rw [hpk] at hsn
    rw [← hyr] at hry hsn
    generalize qb_ rules (k : Int) = y at *
    rw [Int.toNat_natCast] at h0 h1 h2 h3 h4
    obtain ⟨_, hod⟩ : True ∧ wr.cell? (ado.add i) = some (.int .i64 (s : Int)) := ⟨trivial, by
     have q1 := (Kd.R_reads' HT6.out.order).2.2
     obtain ⟨ad2, e2, q2⟩ := Kd.at_int q1 (i : Int) (by omega) hilz
     injection e2 with e2
     subst e2
     have e3 : rd ord (i : Int) = ord[i] := by
      show ord.getD (i : Int).toNat 0 = _
      rw [Int.toNat_natCast, List.getD_eq_getElem?_getD, List.getElem?_eq_getElem hil]
      rfl
     rw [Int.toNat_natCast, e3, HS.out] at q2
     exact q2⟩
    have HSN := Aside0.mk hsn
    have HRY := Aside0.mk hry
    have HG1 := Aside0.mk g1
    have hsm := Chart.cap_le P.most (Chart.sumK (tokT toks) P.n (jb_ rules) ff (s : Int) p z k)
    obtain ⟨S, hS⟩ : ∃ S, S = Chart.sumK (tokT toks) P.n (jb_ rules) ff (s : Int) p z k := ⟨_, rfl⟩
    rw [← hS] at HSN hsm ⊢
    obtain ⟨cs, hcs⟩ : ∃ cs, cs = Chart.cap P.most S := ⟨_, rfl⟩
    rw [← hcs] at hsm ⊢
    have HCS := Aside0.mk hcs
    clear hsn hry hyr hpk g3 l3 l1 g1 hB6 hS hcs hplen
    by_cases b1 : y.f0 = (s : Int)
    ·have e1 : (y.f0 == (s : Int)) = true := by rw [b1]; simp
     have B1 := Aside0.mk b1
     clear b1
     go_wp2
     go_quiet (fail)
     have HT7 := Aside0.mk (HT6.out.grow (aa_ (Below.refl wr.heap.size wr) nq))
     have HG7 := Aside0.mk (Kd.C_drewN HG1.out nq)
     clear HT6 HG1
     replace h0 := (show (wr.drewN nq).cell? _ = _ from h0)
     replace h1 := (show (wr.drewN nq).cell? _ = _ from h1)
     replace h2 := (show (wr.drewN nq).cell? _ = _ from h2)
     replace h3 := (show (wr.drewN nq).cell? _ = _ from h3)
     replace h4 := (show (wr.drewN nq).cell? _ = _ from h4)
     generalize wr.drewN nq = W7 at *
     go_wp2_with fail
     refine (nv_ P HP.out W7 HT7.out.tab ff HFW.out HT7.out.cells bb toks htl HT7.out.rows.by7 y HRY.out A1' c1' A3' c3' HG7.out HT.out p hpn).mono ?_
     rintro e w8 ⟨b, rfl, hI, hB⟩
     have hz := hI.cell z (by omega)
     have HT8 := Aside0.mk (HT7.out.grow hB)
     have hrm := Chart.cap_le P.most (Chart.ways (tokT toks) P.n ff y.f1 p z)
     obtain ⟨rv, hrv⟩ : ∃ rv, rv = Chart.cap P.most (Chart.ways (tokT toks) P.n ff y.f1 p z) := ⟨_, rfl⟩
     have HV : Aside0 (Value.int .i64 ((Chart.cap P.most (cs + rv) : Nat) : Int) = .int .i64 ((Chart.cap P.most (Chart.sumK (tokT toks) P.n (jb_ rules) ff (s : Int) p z (k + 1)) : Nat) : Int)) := ⟨by rw [HSN.out, if_pos B1.out, HCS.out, hrv, Chart.cap_add2]⟩
     rw [← hrv] at hz hrm
     have HBND := Aside0.mk (yp_ P HP.out cs rv hsm hrm)
     have HADD := Aside0.mk (ck_ P HP.out cs rv hsm hrm)
     clear hI hB hrv HT7 h0 h1 h2 h3 h4 hod
     go_wp2_with fail
     have hcap := zh_ P HP.out w8 HT8.out.tab (cs + rv) HBND.out
     rw [Int.natCast_add] at hcap
     refine hcap.mono ?_
     rintro e w9 ⟨rfl, ⟨⟨n3, rfl⟩⟩⟩
     have HT9 := Aside0.mk (HT8.out.grow (aa_ (Below.refl w8.heap.size w8) n3))
     clear hcap HT8
     generalize w8.drewN n3 = w9 at *
     go_wp2
     go_roundg (rules.length - (k + 1))
     case measure => omega
     case rel => exact ⟨k + 1, by omega, by omega, by go_num, HV.out, HT9⟩
    have e1 : (y.f0 == (s : Int)) = false := by simpa using b1
    have HV : Aside0 (Value.int .i64 (cs : Int) = .int .i64 ((Chart.cap P.most (Chart.sumK (tokT toks) P.n (jb_ rules) ff (s : Int) p z (k + 1)) : Nat) : Int)) := ⟨by rw [HSN.out, if_neg b1, Nat.add_zero, HCS.out]⟩
    clear b1
    go_wp2
    go_quiet (fail)
    go_wp2
    go_roundg (rules.length - (k + 1))
    case measure => omega
    case rel => exact ⟨k + 1, by omega, by omega, by go_num, HV.out, ⟨HT6.out.grow (aa_ (Below.refl wr.heap.size wr) nq)⟩⟩
   have he : k = rules.length := by omega
   have hklz : decide ((k : Int) < (rules.length : Int)) = false := by simp; omega
   clear hgg4 hk
   subst he
   have hcell := F7_cell toks rules P.n HT.out HCH.out ord HO.out p z i hpn hzn hil
   rw [HS.out, ← HFF.out] at hcell
   rw [hcell]
   have HHERE := F7_here toks rules P.n ord p z i hil
   rw [HS.out] at HHERE
   obtain ⟨vv, hvv⟩ : ∃ vv, vv = Chart.cap P.most (N7 toks rules P.n (s : Int) p z) := ⟨_, rfl⟩
   have HVV : Aside0 (vv = Chart.cap P.most (F7 toks rules P.n (Fil7 ord p z (i + 1)) (s : Int) p z)) := ⟨by rw [HHERE]; exact hvv⟩
   rw [← hvv]
   have r0 : wr.drew.cell? ⟨P.tb, 1, none⟩ = some (.slice (some ⟨P.cb, 0, none⟩) P.cc P.cc) := (ca_ HT6.out.tab 1).trans rfl
   have r1 : wr.drew.cell? (ado.add i) = some (.int .i64 (s : Int)) := by
    have q1 := (Kd.R_reads' HT6.out.order).2.2
    obtain ⟨ad2, e2, q2⟩ := Kd.at_int q1 (i : Int) (by omega) hilz
    injection e2 with e2
    subst e2
    have e3 : rd ord (i : Int) = ord[i] := by
     show ord.getD (i : Int).toNat 0 = _
     rw [Int.toNat_natCast, List.getD_eq_getElem?_getD, List.getElem?_eq_getElem hil]
     rfl
    rw [Int.toNat_natCast, e3, HS.out] at q2
    exact q2
   have HT5 := Aside0.mk (HT6.out.grow (da_ (Below.refl wr.heap.size wr)))
   obtain ⟨ff2, hI5, _⟩ := HT5.out.cells
   have HI5 := Aside0.mk hI5
   have hidx2 : P.idx s p z < P.cc := by have := P.idx_lt s p z hs20 hpn hzn; have := HP.out.2.2.2; omega
   have hidx : (P.idx s p z : Int) < (P.cc : Int) := by omega
   clear hcell HHERE hvv HT6 hI5
   go_wp2
   refine td_ (n := 15) (S := fun w' => w'.cell? ⟨P.tb, 1, none⟩ = some (.slice (some ⟨P.cb, 0, none⟩) P.cc P.cc) ∧ w'.cell? (ado.add i) = some (.int .i64 (s : Int))) (ds := [14]) (f_ 15 0) (by kernel_rfl) rfl rfl ⟨r0, r1⟩ (fun hHeld => ?_)
   clear r0 r1
   generalize wr.drew = W5 at *
   refine pa_ (i := 0) (N := some 95) (v := ?_) (a' := ?_) (f_ 15 1) rfl rfl (by kernel_rfl) (fun _ _ _ h => h) (Or.inl ⟨by rfl, ?_⟩) ?_ ?_
   rotate_left
   ·intro w'
    go_simp
    try with_reducible rfl
   rotate_left
   ·simp only [Act.put, s1_, s2_, s3_, ka_, la_]
    rfl
   refine pa_ (i := 1) (N := some 96) (v := ?_) (a' := ?_) (f_ 15 2) rfl rfl (by kernel_rfl) (fun _ _ _ h => h) (Or.inl ⟨by rfl, ?_⟩) ?_ ?_
   rotate_left
   ·intro w'
    go_simp
    try with_reducible rfl
   rotate_left
   ·simp only [Act.put, s1_, s2_, s3_, ka_, la_]
    rfl
   refine pa_ (i := 2) (N := some 97) (v := ?_) (a' := ?_) (f_ 15 3) rfl rfl (by kernel_rfl) (fun _ _ _ h => h) (Or.inl ⟨by rfl, ?_⟩) ?_ ?_
   rotate_left
   ·intro w'
    go_simp
    try with_reducible rfl
   rotate_left
   ·simp only [Act.put, s1_, s2_, s3_, ka_, la_]
    rfl
   refine take_ (i := 3) (N := some 98) (v := ?_) (a' := ?_) (f_ 15 4) rfl rfl (by kernel_rfl) (fun _ _ _ h => h) (Or.inl ⟨by rfl, ?_⟩) hHeld ?_ ?_
   rotate_left
   ·rintro w' ⟨s0, s1⟩
    go_simp
    try with_reducible rfl
   rotate_left
   ·simp only [Act.put, s1_, s2_, s3_, ka_, la_]
    rfl
   refine pa_ (i := 4) (N := some 99) (v := ?_) (a' := ?_) (f_ 15 5) rfl rfl (by kernel_rfl) (fun _ _ _ h => h) (Or.inl ⟨by rfl, ?_⟩) ?_ ?_
   rotate_left
   ·intro w'
    go_simp
    try with_reducible rfl
   rotate_left
   ·simp only [Act.put, s1_, s2_, s3_, ka_, la_]
    rfl
   refine pa_ (i := 5) (N := some 100) (v := ?_) (a' := ?_) (f_ 15 6) rfl rfl (by kernel_rfl) (fun _ _ _ h => h) (Or.inl ⟨by rfl, ?_⟩) ?_ ?_
   rotate_left
   ·intro w'
    go_simp
    try with_reducible rfl
   rotate_left
   ·simp only [Act.put, s1_, s2_, s3_, ka_, la_]
    rfl
   refine pa_ (i := 6) (N := some 101) (v := ?_) (a' := ?_) (f_ 15 7) rfl rfl (by kernel_rfl) (fun _ _ _ h => h) (Or.inl ⟨by rfl, ?_⟩) ?_ ?_
   rotate_left
   ·intro w'
    go_simp
    try with_reducible rfl
   rotate_left
   ·simp only [Act.put, s1_, s2_, s3_, ka_, la_]
    rfl
   refine pa_ (i := 7) (N := some 102) (v := ?_) (a' := ?_) (f_ 15 8) rfl rfl (by kernel_rfl) (fun _ _ _ h => h) (Or.inl ⟨by rfl, ?_⟩) ?_ ?_
   rotate_left
   ·intro w'
    go_simp
    try with_reducible rfl
   rotate_left
   ·simp only [Act.put, s1_, s2_, s3_, ka_, la_]
    rfl
   refine take_ (i := 8) (N := some 103) (v := ?_) (a' := ?_) (f_ 15 9) rfl rfl (by kernel_rfl) (fun _ _ _ h => h) (Or.inl ⟨by rfl, ?_⟩) hHeld ?_ ?_
   rotate_left
   ·rintro w' ⟨s0, s1⟩
    go_simp
    try with_reducible rfl
   rotate_left
   ·simp only [Act.put, s1_, s2_, s3_, ka_, la_]
    rfl
   refine pa_ (i := 9) (N := some 104) (v := ?_) (a' := ?_) (f_ 15 10) rfl rfl (by kernel_rfl) (fun _ _ _ h => h) (Or.inl ⟨by rfl, ?_⟩) ?_ ?_
   rotate_left
   ·intro w'
    go_simp
    try with_reducible rfl
   rotate_left
   ·simp only [Act.put, s1_, s2_, s3_, ka_, la_]
    rfl
   refine pa_ (i := 10) (N := some 105) (v := ?_) (a' := ?_) (f_ 15 11) rfl rfl (by kernel_rfl) (fun _ _ _ h => h) (Or.inl ⟨by rfl, ?_⟩) ?_ ?_
   rotate_left
   ·intro w'
    go_simp
    try with_reducible rfl
   rotate_left
   ·simp only [Act.put, s1_, s2_, s3_, ka_, la_]
    rfl
   refine pa_ (i := 12) (N := some 107) (v := ?_) (a' := ?_) #[true, true, true, true, true, true, true, true, true, true, true, false, true, false, false] rfl rfl (by kernel_rfl) (fun _ _ _ h => h) (Or.inl ⟨by rfl, ?_⟩) ?_ ?_
   rotate_left
   ·intro w'
    go_simp
    try with_reducible rfl
   rotate_left
   ·simp only [Act.put, s1_, s2_, s3_, ka_, la_]
    rfl
   refine one_ (i := 11) (N := some 106) (f_ 15 13) rfl rfl (by kernel_rfl) (by decide) (fun K hK => ?_)
   refine vd_ Tryz.func23 (by kernel_rfl) rfl #[.pointer (some ⟨P.tb, 0, none⟩), .int .i64 (s : Int), .int .i64 (p : Int), .int .i64 (z : Int)] (by rfl) rfl rfl (by (try simp only [List.map_toArray, List.map_cons, List.map_nil]); rfl) ?_
   refine (oh_ P HP.out W5 HT5.out.tab s p z hs20 hpn hzn).mono ?_
   rintro e' W6 ⟨rfl, ⟨⟨n1, rfl⟩⟩⟩
   refine ⟨_, rfl, ?_⟩
   refine hK.out _ _ ⟨hHeld.1, hHeld.2⟩ (fun hHeld => ?_)
   clear hK K
   refine rb_ (a' := ?_) ?_ ?_
   rotate_left
   ·show Act.put _ (some 106) _ = _
    simp only [Act.put, s1_, s2_, s3_, ka_, la_]
    rfl
   refine pa_ (i := 13) (N := some 108) (v := ?_) (a' := ?_) (f_ 15 14) rfl rfl (by kernel_rfl) (fun _ _ _ h => h) (Or.inl ⟨by rfl, ?_⟩) ?_ ?_
   rotate_left
   ·intro w'
    go_simp
    try with_reducible rfl
   rotate_left
   ·simp only [Act.put, s1_, s2_, s3_, ka_, la_]
    rfl
   refine kg_ (i := 14) (N := none) (f_ 15 15) rfl rfl (by kernel_rfl) (by decide) (fun K hK => ?_)
   refine gh_ (by rfl) rfl (.tmp 108) (.tmp 107) rfl (g := P.cb) (i := P.idx s p z) (vv : Int) (by rfl) (by rfl) (HI5.out.drewN n1) hidx2 ?_
   refine hK.out _ _ ?_
   clear hK K
   refine je_ (by kernel_rfl) ?_
   have HT8 : Aside0 (Tab7 P w bb toks (.slice (some ado) ord.length co) ord (F7 toks rules P.n (Fil7 ord p z (i + 1))) ((W5.drewN n1).setCell ⟨P.cb, P.idx s p z, none⟩ (.int .i64 (vv : Int)))) := ⟨(HT5.out.grow (aa_ (Below.refl W5.heap.size W5) n1)).put HP.out (by rw [HCB.out]; exact Nat.le_refl _) s p z hs20 hpn hzn vv HVV.out (fun s' p' q' _ _ _ hne => by
    rw [HFF.out]
    refine F7_step toks rules P.n HT.out HCH.out ord p z i hil (s' : Int) p' q' (fun e => hne ⟨?_, e.2.1, e.2.2⟩)
    have := e.1
    rw [HS.out] at this
    omega)⟩
   generalize (W5.drewN n1).setCell ⟨P.cb, P.idx s p z, none⟩ (.int .i64 (vv : Int)) = W9 at *
   go_wp2
   go_roundg (ord.length - (i + 1))
   case measure => omega
   case rel => exact ⟨i + 1, by omega, by omega, by go_num, HT8⟩
  have he : i = ord.length := by omega
  have hilz : decide ((i : Int) < (ord.length : Int)) = false := by simp; omega
  rw [he] at HT5
  have HT6 : Aside0 (Tab7 P w bb toks (.slice (some ado) ord.length co) ord (F7 toks rules P.n (Fil7 ord p (z + 1) 0)) wr) := ⟨HT5.out.congr fun s a b hs _ _ => F7_next toks rules P.n HT.out HCH.out ord HO.out HOL.out p z s hs a b⟩
  clear he HT5
  go_wp2
  go_roundg (P.n + 1 - (z + 1))
  case measure => omega
  case rel => exact ⟨z + 1, by omega, by omega, by omega, by go_num, HT6⟩
 have he : z = P.n + 1 := by omega
 have hzz : decide ((z : Int) ≤ (P.n : Int)) = false := by simp; omega
 rw [he] at HT4
 have HT5 : Aside0 (Tab7 P w bb toks (.slice (some ado) ord.length co) ord (F7 toks rules P.n (FilO p)) wr) := ⟨HT4.out.congr fun s a b _ _ hb => F7_end toks rules P.n HT.out HCH.out ord p (s : Int) a b hb⟩
 clear he HT4
 go_wp2
 go_roundg p
 case measure => omega
 case rel => exact ⟨p, by omega, Nat.le_refl _, by go_num, HT5⟩
abbrev Sp7 := S53
def toR (x : Sp) : Sp7 := ⟨x.f0, x.f1, x.f2⟩
noncomputable def jf_ (rules : List qa_) (toks : List Tok') (n i : Nat) : List Sp7 := (((List.range i).map (decS (n + 1))).filter fun x => decide (numP rules toks n x.f0 x.f1.toNat x.f2.toNat ≠ 0)).map toR
noncomputable def zi_ (rules : List qa_) (toks : List Tok') (n : Nat) : List Sp7 := (tc_ rules toks n).map toR
theorem vu_ (rules : List qa_) (toks : List Tok') (n i : Nat) : (jf_ rules toks n i).length ≤ i := by
 unfold jf_
 rw [List.length_map]
 refine Nat.le_trans (List.length_filter_le _ _) ?_
 rw [List.length_map, List.length_range]
 exact Nat.le_refl _
theorem wu_ (rules : List qa_) (hch : xa_ rules = true) (toks : List Tok') (n : Nat) : jf_ rules toks n (20 * (n + 1) * (n + 1)) = zi_ rules toks n := by
 unfold jf_ zi_ tc_
 rw [if_pos hch]
theorem es_ (rules : List qa_) (toks : List Tok') (n s p q : Nat) (hp : p ≤ n) (hq : q ≤ n) : jf_ rules toks n ((s * (n + 1) + p) * (n + 1) + (q + 1)) = if numP rules toks n (s : Int) p q ≠ 0 then jf_ rules toks n ((s * (n + 1) + p) * (n + 1) + q) ++ [⟨(s : Int), (p : Int), (q : Int)⟩] else jf_ rules toks n ((s * (n + 1) + p) * (n + 1) + q) := by
 unfold jf_
 rw [← Nat.add_assoc, List.range_succ, List.map_append, List.filter_append, List.map_append, List.map_singleton, lu_ (n + 1) s p q (by omega) (by omega)]
 by_cases h : numP rules toks n (s : Int) p q ≠ 0
 ·rw [if_pos h, List.filter_cons_of_pos (by simpa using h)]
  rfl
 rw [if_neg h, List.filter_cons_of_neg (by simpa using h)]
 simp
structure Rd7 (P : T7) (w : World) (N : Int → Nat → Nat → Nat) (W : World) : Prop where
 tab : P.At W
 cells : C7 P W N
 below : Below w.heap.size w W
theorem Rd7.grow {P : T7} {w : World} {N : Int → Nat → Nat → Nat} {W W1 : World} (h : Rd7 P w N W) (hb : Below W.heap.size W W1) : Rd7 P w N W1 := ⟨h.tab.below hb, h.cells.below hb, ma_ h.below hb⟩
theorem Rd7.grown {P : T7} {w : World} {N : Int → Nat → Nat → Nat} {W W1 : World} (h : Rd7 P w N W) {row : Option Nat} (hg : W.grownBy W1 row) (ht : some P.tb ≠ row) (hc : some P.cb ≠ row) (hb : Below w.heap.size w W1) : Rd7 P w N W1 := by
 obtain ⟨f, ⟨vals, h1, h2, h3⟩, h4⟩ := h.cells
 exact ⟨ya_ h.tab hg ht, ⟨f, ⟨vals, ya_ h1 hg hc, h2, h3⟩, h4⟩, hb⟩
theorem Rd7.lt {P : T7} {w : World} {N : Int → Nat → Nat → Nat} {W : World} (h : Rd7 P w N W) : P.tb < W.heap.size ∧ P.cb < W.heap.size := by
 obtain ⟨f, h1, _⟩ := h.cells
 exact ⟨ic_ h.tab, h1.lt⟩
set_option maxHeartbeats 4000000 in
set_option maxRecDepth 100000 in
theorem lq_ (A0 : Option Addr) (c0 : Nat) (rules : List qa_) (A1 : Option Addr) (c1 : Nat) (toks : List Tok') (n : Nat) (w : World) (hr0 : Kd.C k48 w A0 rules.length rules) (hc0 : rules.length ≤ c0)
  (hr1 : Kd.C k31 w A1 toks.length toks) (hc1 : toks.length ≤ c1) (hn : n ≤ 1000) (htl : toks.length ≤ 1000) (hch : xa_ rules = true) (hT : ∀ x ∈ toks, 0 ≤ x.f0 ∧ x.f0 < x.f1 ∧ x.f1 ≤ (n : Int)) :
  Calls Tryz.prog 11 #[.slice A0 rules.length c0, .slice A1 toks.length c1, .int .i64 (n : Int)] w fun e w' => ∃ v0_ : Value, e = .returned (v0_) ∧ Kd.R k53 53 w' w.heap.size (fun _ => True) v0_ (zi_ rules toks n) ∧ Below w.heap.size w w' := by
 have HCH := Aside0.mk hch
 have hfill := lm_ A0 c0 rules A1 c1 toks n 1 w hr0 hc0 hr1 hc1 hn (Nat.le_refl _) (by decide) htl hch hT
 have HF := Aside0.mk hfill
 have HCH := Aside0.mk hch
 clear hfill hr0 hr1 hch hT
 go_enter Tryz.func11, Tryz.ntmps11
 go_wp2_with fail
 refine HF.out.mono ?_
 rintro e w1 ⟨P, hPn, hPm, hP, rfl, hA, hC, hB⟩
 subst hPn
 have HP := Aside0.mk hP
 have HPM := Aside0.mk hPm
 have HR : Aside0 (Rd7 P w (N7 toks rules P.n) w1) := ⟨⟨hA, hC, hB⟩⟩
 have HO : Aside0 (Kd.R k53 53 w1 w.heap.size (fun k => P.tb ≠ k ∧ P.cb ≠ k) (.slice none 0 0) ([] : List Sp7)) := ⟨Kd.R_nil _ _ _ _ _⟩
 clear HF hP hPm hA hC hB
 go_wp2
 go_loopg [8, 9] 20 (fun gg s8 s9 wr => ∃ s : Nat, s ≤ 20 ∧ 20 - s ≤ gg ∧ s9 = .int .i64 s ∧ Aside0 (Kd.R k53 53 wr w.heap.size (fun k => P.tb ≠ k ∧ P.cb ≠ k) s8 (jf_ rules toks P.n ((s * (P.n + 1) + 0) * (P.n + 1) + 0))) ∧ Aside0 (Rd7 P w (N7 toks rules P.n) wr))
 case atStart => exact ⟨0, by omega, by omega, rfl, ⟨by rw [Nat.zero_mul, Nat.zero_add, Nat.zero_mul]; exact HO.out⟩, HR⟩
 clear HO HR
 obtain ⟨s, hs, hgg, rfl, HO, HR⟩ := hrel
 obtain ⟨Ao, co, rfl⟩ := Kd.R_slice HO.out
 by_cases hs20 : s < 20
 ·have hsz : (s : Int) < 20 := by omega
  have HO2 : Aside0 (∃ v, v = Value.slice Ao (jf_ rules toks P.n ((s * (P.n + 1) + 0) * (P.n + 1) + 0)).length co ∧ Kd.R k53 53 wr w.heap.size (fun k => P.tb ≠ k ∧ P.cb ≠ k) v (jf_ rules toks P.n ((s * (P.n + 1) + 0) * (P.n + 1) + 0))) := ⟨_, rfl, HO.out⟩
  clear HO
  obtain ⟨v8, hv8, hO8⟩ := HO2.out
  rw [← hv8]
  have HO := Aside0.mk hO8
  clear hv8 hO8 HO2
  go_wp2
  go_loopg [8, 10] (P.n + 1) (fun gg2 s8 s10 wr => ∃ p : Nat, p ≤ P.n + 1 ∧ P.n + 1 - p ≤ gg2 ∧ s10 = .int .i64 p ∧ Aside0 (Kd.R k53 53 wr w.heap.size (fun k => P.tb ≠ k ∧ P.cb ≠ k) s8 (jf_ rules toks P.n ((s * (P.n + 1) + p) * (P.n + 1) + 0))) ∧ Aside0 (Rd7 P w (N7 toks rules P.n) wr))
  case atStart => exact ⟨0, by omega, by omega, rfl, HO, HR⟩
  clear HO HR
  obtain ⟨p, hp1, hgg2, rfl, HO, HR⟩ := hrel
  by_cases hpn : p ≤ P.n
  ·have hpz : (p : Int) ≤ (P.n : Int) := by omega
   go_wp2
   go_loopg [8, 11] (P.n + 1) (fun gg3 s8 s11 wr => ∃ q : Nat, q ≤ P.n + 1 ∧ P.n + 1 - q ≤ gg3 ∧ s11 = .int .i64 q ∧ Aside0 (Kd.R k53 53 wr w.heap.size (fun k => P.tb ≠ k ∧ P.cb ≠ k) s8 (jf_ rules toks P.n ((s * (P.n + 1) + p) * (P.n + 1) + q))) ∧ Aside0 (Rd7 P w (N7 toks rules P.n) wr))
   case atStart => exact ⟨0, by omega, by omega, rfl, HO, HR⟩
   clear HO HR
   obtain ⟨q, hq1, hgg3, rfl, HO, HR⟩ := hrel
   by_cases hqn : q ≤ P.n
   ·have hqz : (q : Int) ≤ (P.n : Int) := by omega
    have HSN := Aside0.mk (es_ rules toks P.n s p q hpn hqn)
    have hlen : (jf_ rules toks P.n ((s * (P.n + 1) + p) * (P.n + 1) + q)).length ≤ 20040020 := by
     refine Nat.le_trans (vu_ _ _ _ _) (Nat.le_of_lt (Nat.lt_of_lt_of_le (P.idx_lt s p q hs20 hpn hqn) ?_))
     have := Nat.mul_le_mul (Nat.mul_le_mul_left 20 (Nat.succ_le_succ hn)) (Nat.succ_le_succ hn)
     exact this
    generalize jf_ rules toks P.n ((s * (P.n + 1) + p) * (P.n + 1) + q) = out at *
    obtain ⟨Ao2, co2, rfl⟩ := Kd.R_slice HO.out
    have r0 : wr.drew.cell? ⟨P.tb, 1, none⟩ = some (.slice (some ⟨P.cb, 0, none⟩) P.cc P.cc) := (ca_ HR.out.tab 1).trans rfl
    have r1 : wr.drew.cell? ⟨P.cb, P.idx s p q, none⟩ = some (.int .i64 (Chart.cap P.most (N7 toks rules P.n (s : Int) p q) : Int)) := HR.out.cells.cell HP.out s p q hs20 hpn hqn
    have HR5 := Aside0.mk (HR.out.grow (da_ (Below.refl wr.heap.size wr)))
    have HO5 := Aside0.mk (Kd.R_drew HO.out)
    have hidx : (P.idx s p q : Int) < (P.cc : Int) := by have := P.idx_lt s p q hs20 hpn hqn; have := HP.out.2.2.2; omega
    rw [HPM.out] at r1
    clear HO HR
    by_cases hnum : numP rules toks P.n (s : Int) p q ≠ 0
    ·have hcv : Chart.cap 1 (N7 toks rules P.n (s : Int) p q) = 1 := by
      have h9 : N7 toks rules P.n (s : Int) p q ≠ 0 := hnum
      unfold Chart.cap
      omega
     rw [hcv] at r1
     rw [if_pos hnum] at HSN
     clear hcv hnum
     obtain ⟨cv, hcve⟩ : ∃ cv : Nat, cv = 1 := ⟨_, rfl⟩
     rw [← hcve] at r1
     have hpos : decide (0 < cv) = true := by rw [hcve]; rfl
     clear hcve
     go_wp2
     refine td_ (n := 12) (S := fun w' => w'.cell? ⟨P.tb, 1, none⟩ = some (.slice (some ⟨P.cb, 0, none⟩) P.cc P.cc) ∧ w'.cell? ⟨P.cb, P.idx s p q, none⟩ = some (.int .i64 (cv : Int))) (ds := []) (f_ 12 0) (by kernel_rfl) rfl rfl ⟨r0, r1⟩ (fun hHeld => ?_)
     clear r0 r1
     generalize wr.drew = W5 at *
     refine pa_ (i := 0) (N := some 30) (v := ?_) (a' := ?_) (f_ 12 1) rfl rfl (by kernel_rfl) (fun _ _ _ h => h) (Or.inl ⟨by rfl, ?_⟩) ?_ ?_
     rotate_left
     ·intro w'
      go_simp
      try with_reducible rfl
     rotate_left
     ·simp only [Act.put, s1_, s2_, s3_, ka_, la_]
      rfl
     refine pa_ (i := 1) (N := some 31) (v := ?_) (a' := ?_) (f_ 12 2) rfl rfl (by kernel_rfl) (fun _ _ _ h => h) (Or.inl ⟨by rfl, ?_⟩) ?_ ?_
     rotate_left
     ·intro w'
      go_simp
      try with_reducible rfl
     rotate_left
     ·simp only [Act.put, s1_, s2_, s3_, ka_, la_]
      rfl
     refine pa_ (i := 2) (N := some 32) (v := ?_) (a' := ?_) (f_ 12 3) rfl rfl (by kernel_rfl) (fun _ _ _ h => h) (Or.inl ⟨by rfl, ?_⟩) ?_ ?_
     rotate_left
     ·intro w'
      go_simp
      try with_reducible rfl
     rotate_left
     ·simp only [Act.put, s1_, s2_, s3_, ka_, la_]
      rfl
     refine take_ (i := 3) (N := some 33) (v := ?_) (a' := ?_) (f_ 12 4) rfl rfl (by kernel_rfl) (fun _ _ _ h => h) (Or.inl ⟨by rfl, ?_⟩) hHeld ?_ ?_
     rotate_left
     ·rintro w' ⟨s0, s1⟩
      go_simp
      try with_reducible rfl
     rotate_left
     ·simp only [Act.put, s1_, s2_, s3_, ka_, la_]
      rfl
     refine pa_ (i := 4) (N := some 34) (v := ?_) (a' := ?_) (f_ 12 5) rfl rfl (by kernel_rfl) (fun _ _ _ h => h) (Or.inl ⟨by rfl, ?_⟩) ?_ ?_
     rotate_left
     ·intro w'
      go_simp
      try with_reducible rfl
     rotate_left
     ·simp only [Act.put, s1_, s2_, s3_, ka_, la_]
      rfl
     refine pa_ (i := 5) (N := some 35) (v := ?_) (a' := ?_) (f_ 12 6) rfl rfl (by kernel_rfl) (fun _ _ _ h => h) (Or.inl ⟨by rfl, ?_⟩) ?_ ?_
     rotate_left
     ·intro w'
      go_simp
      try with_reducible rfl
     rotate_left
     ·simp only [Act.put, s1_, s2_, s3_, ka_, la_]
      rfl
     refine pa_ (i := 6) (N := some 36) (v := ?_) (a' := ?_) (f_ 12 7) rfl rfl (by kernel_rfl) (fun _ _ _ h => h) (Or.inl ⟨by rfl, ?_⟩) ?_ ?_
     rotate_left
     ·intro w'
      go_simp
      try with_reducible rfl
     rotate_left
     ·simp only [Act.put, s1_, s2_, s3_, ka_, la_]
      rfl
     refine pa_ (i := 7) (N := some 37) (v := ?_) (a' := ?_) (f_ 12 8) rfl rfl (by kernel_rfl) (fun _ _ _ h => h) (Or.inl ⟨by rfl, ?_⟩) ?_ ?_
     rotate_left
     ·intro w'
      go_simp
      try with_reducible rfl
     rotate_left
     ·simp only [Act.put, s1_, s2_, s3_, ka_, la_]
      rfl
     refine one_ (i := 8) (N := some 38) (f_ 12 9) rfl rfl (by kernel_rfl) (by decide) (fun K hK => ?_)
     refine vd_ Tryz.func23 (by kernel_rfl) rfl #[.pointer (some ⟨P.tb, 0, none⟩), .int .i64 (s : Int), .int .i64 (p : Int), .int .i64 (q : Int)] (by rfl) rfl rfl (by (try simp only [List.map_toArray, List.map_cons, List.map_nil]); rfl) ?_
     refine (oh_ P HP.out W5 HR5.out.tab s p q hs20 hpn hqn).mono ?_
     rintro e' W6 ⟨rfl, ⟨⟨n1, rfl⟩⟩⟩
     refine ⟨_, rfl, ?_⟩
     refine hK.out _ _ ⟨hHeld.1, hHeld.2⟩ (fun hHeld => ?_)
     clear hK K
     refine rb_ (a' := ?_) ?_ ?_
     rotate_left
     ·show Act.put _ (some 38) _ = _
      simp only [Act.put, s1_, s2_, s3_, ka_, la_]
      rfl
     refine pa_ (i := 9) (N := some 39) (v := ?_) (a' := ?_) (f_ 12 10) rfl rfl (by kernel_rfl) (fun _ _ _ h => h) (Or.inl ⟨by rfl, ?_⟩) ?_ ?_
     rotate_left
     ·intro w'
      go_simp
      try with_reducible rfl
     rotate_left
     ·simp only [Act.put, s1_, s2_, s3_, ka_, la_]
      rfl
     refine take_ (i := 10) (N := some 40) (v := ?_) (a' := ?_) (f_ 12 11) rfl rfl (by kernel_rfl) (fun _ _ _ h => h) (Or.inl ⟨by rfl, ?_⟩) hHeld ?_ ?_
     rotate_left
     ·rintro w' ⟨s0, s1⟩
      go_simp
      try with_reducible rfl
     rotate_left
     ·simp only [Act.put, s1_, s2_, s3_, ka_, la_]
      rfl
     refine pa_ (i := 11) (N := some 41) (v := ?_) (a' := ?_) (f_ 12 12) rfl rfl (by kernel_rfl) (fun _ _ _ h => h) (Or.inl ⟨by rfl, ?_⟩) ?_ ?_
     rotate_left
     ·intro w'
      go_simp
      try with_reducible rfl
     rotate_left
     ·simp only [Act.put, s1_, s2_, s3_, ka_, la_]
      rfl
     refine je_ (by kernel_rfl) ?_
     have HR6 := Aside0.mk (HR5.out.grow (aa_ (Below.refl W5.heap.size W5) n1))
     have HO6 := Aside0.mk (Kd.R_drewN HO5.out n1)
     clear HR5 HO5
     generalize W5.drewN n1 = W6 at *
     have HB6 := Aside0.mk (ba_ HR6.out.below (.cells #[.int .i64 (s : Int), .int .i64 (p : Int), .int .i64 (q : Int)] 53))
     have HR7 := Aside0.mk (HR6.out.grow (ba_ (Below.refl W6.heap.size W6) (.cells #[.int .i64 (s : Int), .int .i64 (p : Int), .int .i64 (q : Int)] 53)))
     have HO7 : Aside0 (Kd.R k53 53 (W6.alloc (.cells #[.int .i64 (s : Int), .int .i64 (p : Int), .int .i64 (q : Int)] 53)) w.heap.size (fun k => P.tb ≠ k ∧ P.cb ≠ k) (.slice Ao2 out.length co2) out) := ⟨Kd.R_alloc HO6.out _⟩
     have HC7 : Aside0 (Kd.C k53 (W6.alloc (.cells #[.int .i64 (s : Int), .int .i64 (p : Int), .int .i64 (q : Int)] 53)) (some ⟨W6.heap.size, 0, none⟩) 1 [(⟨(s : Int), (p : Int), (q : Int)⟩ : Sp7)]) := ⟨nc_ (d := k53) (xs := [(⟨(s : Int), (p : Int), (q : Int)⟩ : Sp7)]) (cs := [.int .i64 (s : Int), .int .i64 (p : Int), .int .i64 (q : Int)]) (kc_ (w := W6) (cs := #[.int .i64 (s : Int), .int .i64 (p : Int), .int .i64 (q : Int)]) (t := 53) (n := W6.heap.size) rfl) (by simp) (of_ (k53_mk _ (⟨(s : Int), (p : Int), (q : Int)⟩ : Sp7)) rfl)⟩
     have hlt6 := HR6.out.lt
     go_wp2_with (at_builtin; go_loud (refine Kd.R_append_rows k53 (Rr := k53.K (W6.alloc (.cells #[.int .i64 (s : Int), .int .i64 (p : Int), .int .i64 (q : Int)] 53))) (w0 := w) w.heap.size rfl (.tmp 42) (.tmp 47) 35 53 (.agg #[.int .i64 0, .int .i64 0, .int .i64 0]) 24 rfl Tryz.underlying35 info53 rfl (by show 0 < 3; decide) (by decide) (.slice Ao2 out.length co2) out [(⟨(s : Int), (p : Int), (q : Int)⟩ : Sp7)] (some ⟨W6.heap.size, 0, none⟩) 1 1 (fun k => P.tb ≠ k ∧ P.cb ≠ k) (fun _ => False) rfl rfl HO7.out HC7.out (fun x cs h => by have h9 := jr_ h; subst h9; exact k53_mkM _ _ _ x) (fun _ hk => hk.elim) (fun k hk => by simp at hk; omega) HB6.out HB6.out.size (by omega) ?_); intro v1 w5 ho hb hg hat)
     have HO8 := Aside0.mk ho
     have hown : ∀ k, (Value.slice Ao2 out.length co2).ownBlock = some k → P.tb ≠ k ∧ P.cb ≠ k := HO7.out.1
     have HR8 := Aside0.mk (HR7.out.grown hg (fun e => (hown _ e.symm).1 rfl) (fun e => (hown _ e.symm).2 rfl) hb)
     clear ho hb hg hat hown HO7 HC7 HR7 HB6 HO6 HR6
     go_wp2
     go_roundg (P.n + 1 - (q + 1))
     case measure => omega
     case rel => exact ⟨q + 1, by omega, by omega, by go_num, ⟨by rw [HSN.out]; exact HO8.out⟩, HR8⟩
    have hcv : Chart.cap 1 (N7 toks rules P.n (s : Int) p q) = 0 := by
     have h9 : N7 toks rules P.n (s : Int) p q = 0 := Classical.byContradiction hnum
     rw [h9]
     rfl
    rw [hcv] at r1
    rw [if_neg hnum] at HSN
    clear hcv hnum
    obtain ⟨cv, hcve⟩ : ∃ cv : Nat, cv = 0 := ⟨_, rfl⟩
    rw [← hcve] at r1
    have hpos : decide (0 < cv) = false := by rw [hcve]; rfl
    clear hcve
    go_wp2
    refine td_ (n := 12) (S := fun w' => w'.cell? ⟨P.tb, 1, none⟩ = some (.slice (some ⟨P.cb, 0, none⟩) P.cc P.cc) ∧ w'.cell? ⟨P.cb, P.idx s p q, none⟩ = some (.int .i64 (cv : Int))) (ds := []) (f_ 12 0) (by kernel_rfl) rfl rfl ⟨r0, r1⟩ (fun hHeld => ?_)
    clear r0 r1
    generalize wr.drew = W5 at *
    refine pa_ (i := 0) (N := some 30) (v := ?_) (a' := ?_) (f_ 12 1) rfl rfl (by kernel_rfl) (fun _ _ _ h => h) (Or.inl ⟨by rfl, ?_⟩) ?_ ?_
    rotate_left
    ·intro w'
     go_simp
     try with_reducible rfl
    rotate_left
    ·simp only [Act.put, s1_, s2_, s3_, ka_, la_]
     rfl
    refine pa_ (i := 1) (N := some 31) (v := ?_) (a' := ?_) (f_ 12 2) rfl rfl (by kernel_rfl) (fun _ _ _ h => h) (Or.inl ⟨by rfl, ?_⟩) ?_ ?_
    rotate_left
    ·intro w'
     go_simp
     try with_reducible rfl
    rotate_left
    ·simp only [Act.put, s1_, s2_, s3_, ka_, la_]
     rfl
    refine pa_ (i := 2) (N := some 32) (v := ?_) (a' := ?_) (f_ 12 3) rfl rfl (by kernel_rfl) (fun _ _ _ h => h) (Or.inl ⟨by rfl, ?_⟩) ?_ ?_
    rotate_left
    ·intro w'
     go_simp
     try with_reducible rfl
    rotate_left
    ·simp only [Act.put, s1_, s2_, s3_, ka_, la_]
     rfl
    refine take_ (i := 3) (N := some 33) (v := ?_) (a' := ?_) (f_ 12 4) rfl rfl (by kernel_rfl) (fun _ _ _ h => h) (Or.inl ⟨by rfl, ?_⟩) hHeld ?_ ?_
    rotate_left
    ·rintro w' ⟨s0, s1⟩
     go_simp
     try with_reducible rfl
    rotate_left
    ·simp only [Act.put, s1_, s2_, s3_, ka_, la_]
     rfl
    refine pa_ (i := 4) (N := some 34) (v := ?_) (a' := ?_) (f_ 12 5) rfl rfl (by kernel_rfl) (fun _ _ _ h => h) (Or.inl ⟨by rfl, ?_⟩) ?_ ?_
    rotate_left
    ·intro w'
     go_simp
     try with_reducible rfl
    rotate_left
    ·simp only [Act.put, s1_, s2_, s3_, ka_, la_]
     rfl
    refine pa_ (i := 5) (N := some 35) (v := ?_) (a' := ?_) (f_ 12 6) rfl rfl (by kernel_rfl) (fun _ _ _ h => h) (Or.inl ⟨by rfl, ?_⟩) ?_ ?_
    rotate_left
    ·intro w'
     go_simp
     try with_reducible rfl
    rotate_left
    ·simp only [Act.put, s1_, s2_, s3_, ka_, la_]
     rfl
    refine pa_ (i := 6) (N := some 36) (v := ?_) (a' := ?_) (f_ 12 7) rfl rfl (by kernel_rfl) (fun _ _ _ h => h) (Or.inl ⟨by rfl, ?_⟩) ?_ ?_
    rotate_left
    ·intro w'
     go_simp
     try with_reducible rfl
    rotate_left
    ·simp only [Act.put, s1_, s2_, s3_, ka_, la_]
     rfl
    refine pa_ (i := 7) (N := some 37) (v := ?_) (a' := ?_) (f_ 12 8) rfl rfl (by kernel_rfl) (fun _ _ _ h => h) (Or.inl ⟨by rfl, ?_⟩) ?_ ?_
    rotate_left
    ·intro w'
     go_simp
     try with_reducible rfl
    rotate_left
    ·simp only [Act.put, s1_, s2_, s3_, ka_, la_]
     rfl
    refine one_ (i := 8) (N := some 38) (f_ 12 9) rfl rfl (by kernel_rfl) (by decide) (fun K hK => ?_)
    refine vd_ Tryz.func23 (by kernel_rfl) rfl #[.pointer (some ⟨P.tb, 0, none⟩), .int .i64 (s : Int), .int .i64 (p : Int), .int .i64 (q : Int)] (by rfl) rfl rfl (by (try simp only [List.map_toArray, List.map_cons, List.map_nil]); rfl) ?_
    refine (oh_ P HP.out W5 HR5.out.tab s p q hs20 hpn hqn).mono ?_
    rintro e' W6 ⟨rfl, ⟨⟨n1, rfl⟩⟩⟩
    refine ⟨_, rfl, ?_⟩
    refine hK.out _ _ ⟨hHeld.1, hHeld.2⟩ (fun hHeld => ?_)
    clear hK K
    refine rb_ (a' := ?_) ?_ ?_
    rotate_left
    ·show Act.put _ (some 38) _ = _
     simp only [Act.put, s1_, s2_, s3_, ka_, la_]
     rfl
    refine pa_ (i := 9) (N := some 39) (v := ?_) (a' := ?_) (f_ 12 10) rfl rfl (by kernel_rfl) (fun _ _ _ h => h) (Or.inl ⟨by rfl, ?_⟩) ?_ ?_
    rotate_left
    ·intro w'
     go_simp
     try with_reducible rfl
    rotate_left
    ·simp only [Act.put, s1_, s2_, s3_, ka_, la_]
     rfl
    refine take_ (i := 10) (N := some 40) (v := ?_) (a' := ?_) (f_ 12 11) rfl rfl (by kernel_rfl) (fun _ _ _ h => h) (Or.inl ⟨by rfl, ?_⟩) hHeld ?_ ?_
    rotate_left
    ·rintro w' ⟨s0, s1⟩
     go_simp
     try with_reducible rfl
    rotate_left
    ·simp only [Act.put, s1_, s2_, s3_, ka_, la_]
     rfl
    refine pa_ (i := 11) (N := some 41) (v := ?_) (a' := ?_) (f_ 12 12) rfl rfl (by kernel_rfl) (fun _ _ _ h => h) (Or.inl ⟨by rfl, ?_⟩) ?_ ?_
    rotate_left
    ·intro w'
     go_simp
     try with_reducible rfl
    rotate_left
    ·simp only [Act.put, s1_, s2_, s3_, ka_, la_]
     rfl
    refine je_ (by kernel_rfl) ?_
    have HR6 := Aside0.mk (HR5.out.grow (aa_ (Below.refl W5.heap.size W5) n1))
    have HO6 := Aside0.mk (Kd.R_drewN HO5.out n1)
    clear HR5 HO5
    generalize W5.drewN n1 = W6 at *
    go_wp2
    go_roundg (P.n + 1 - (q + 1))
    case measure => omega
    case rel => exact ⟨q + 1, by omega, by omega, by go_num, ⟨by rw [HSN.out]; exact HO6.out⟩, HR6⟩
   have he : q = P.n + 1 := by omega
   have hqz : decide ((q : Int) ≤ (P.n : Int)) = false := by simp; omega
   have hidx : (s * (P.n + 1) + p) * (P.n + 1) + q = (s * (P.n + 1) + (p + 1)) * (P.n + 1) + 0 := by
    rw [he, show s * (P.n + 1) + (p + 1) = (s * (P.n + 1) + p) + 1 from rfl, Nat.add_mul (s * (P.n + 1) + p) 1, Nat.one_mul]
    rfl
   rw [hidx] at HO
   clear he hidx
   go_wp2
   go_roundg (P.n + 1 - (p + 1))
   case measure => omega
   case rel => exact ⟨p + 1, by omega, by omega, by go_num, HO, HR⟩
  have he : p = P.n + 1 := by omega
  have hpz : decide ((p : Int) ≤ (P.n : Int)) = false := by simp; omega
  have hidx : (s * (P.n + 1) + p) * (P.n + 1) + 0 = ((s + 1) * (P.n + 1) + 0) * (P.n + 1) + 0 := by
   rw [he, Nat.add_mul s 1, Nat.one_mul]
   rfl
  rw [hidx] at HO
  clear he hidx
  go_wp2
  go_roundg (20 - (s + 1))
  case measure => omega
  case rel => exact ⟨s + 1, by omega, by omega, by go_num, HO, HR⟩
 have he : s = 20 := by omega
 have hsz : decide ((s : Int) < 20) = false := by simp; omega
 have HALL : Aside0 (jf_ rules toks P.n ((s * (P.n + 1) + 0) * (P.n + 1) + 0) = zi_ rules toks P.n) := ⟨by rw [he, Nat.add_zero, Nat.add_zero]; exact wu_ rules HCH.out toks P.n⟩
 clear he
 go_wp2
 go_ret
 exact ⟨_, rfl, by rw [← HALL.out]; exact Kd.R_mono HO.out (fun _ _ => trivial), HR.out.below⟩
noncomputable def interlocutorref7_Spans.f (rules : List qa_) (toks : List Tok') (size : Int) : Option (List Sp7) := if ((0 ≤ size ∧ size ≤ 1000) ∧ xa_ rules = true) ∧ okIn rules toks size.toNat = true then some (zi_ rules toks size.toNat) else none
theorem interlocutorref7_Spans.calls (A0 : Option Addr) (c0 : Nat) (rules : List qa_) (A1 : Option Addr) (c1 : Nat) (toks : List Tok') (size : Int) (r : List Sp7) (w : World) (hr0 : Kd.C k48 w A0 rules.length rules) (hc0 : rules.length ≤ c0)
  (hr1 : Kd.C k31 w A1 toks.length toks) (hc1 : toks.length ≤ c1) (h : interlocutorref7_Spans.f rules toks size = some r) :
  Calls Tryz.prog 11 #[.slice A0 rules.length c0, .slice A1 toks.length c1, .int .i64 size] w fun e w' => ∃ v0_ : Value, e = .returned (v0_) ∧ Kd.R k53 53 w' w.heap.size (fun _ => True) v0_ r ∧ Below w.heap.size w w' := by
 unfold interlocutorref7_Spans.f at h
 split at h
 case isFalse => cases h
 case isTrue hu =>
 obtain rfl := Option.some.inj h
 obtain ⟨_, htl, htk⟩ := (qe_ rules toks size.toNat).1 hu.2
 have h1 := lq_ A0 c0 rules A1 c1 toks size.toNat w hr0 hc0 hr1 hc1 (by omega) htl hu.1.2 (fun x hx => (htk x hx).1)
 rwa [show ((size.toNat : Nat) : Int) = size by omega] at h1
def df_ (toks : List Tok') (f t : Int) : Int := toks.foldl (fun m x => max m x.f1) (max (max 0 f) t)
theorem mx_eq (a b : Int) : mx a b = max a b := by
 unfold mx
 split <;> omega
theorem size7_l0 (toks : List Tok') (hl : toks.length ≤ 1000) (hT : ∀ x ∈ toks, x.f0 < x.f1) : ∀ (k i : Nat) (m : Int), i ≤ toks.length → toks.length - i < k → interlocutorref7_size.l0 k toks m (i : Int) = some (mn ((toks.drop i).foldl (fun m x => max m x.f1) m) 256) := by
 intro k
 induction k with
 | zero => intro i m _ h; omega
 | succ k ih =>
  intro i m hi hk
  unfold interlocutorref7_size.l0
  by_cases hil : i < toks.length
  ·have hx : bb_ toks (i : Int) = toks[i] := by
    show toks.getD (i : Int).toNat _ = _
    rw [Int.toNat_natCast, List.getD_eq_getElem?_getD, List.getElem?_eq_getElem hil]
    rfl
   have hw : wrap64 ((i : Int) + 1) = ((i + 1 : Nat) : Int) := by rw [w64 _ (by omega) (by omega)]; rfl
   have hlt := hT _ (List.getElem_mem hil)
   rw [if_pos (by omega), if_pos (by omega), hx, hw, List.drop_eq_getElem_cons hil, List.foldl_cons, ih (i + 1) _ (by omega) (by omega), mx_eq, mx_eq, show max (max m toks[i].f1) toks[i].f0 = max m toks[i].f1 by omega]
  rw [if_neg (by omega), List.drop_of_length_le (by omega)]
  rfl
theorem size7_f (toks : List Tok') (hl : toks.length ≤ 1000) (hT : ∀ x ∈ toks, x.f0 < x.f1) (f t : Int) (h : df_ toks f t ≤ 256) : interlocutorref7_size.f (toks.length + 1) toks f t = some (df_ toks f t) := by
 have h1 := size7_l0 toks hl hT (toks.length + 1) 0 (max (max 0 f) t) (Nat.zero_le _) (by omega)
 rw [List.drop_zero] at h1
 have h2 : mn (df_ toks f t) 256 = df_ toks f t := by
  unfold mn
  split <;> omega
 show interlocutorref7_size.l0 (toks.length + 1) toks (mx (mx 0 f) t) 0 = _
 rw [mx_eq, mx_eq]
 refine h1.trans ?_
 show some (mn (df_ toks f t) 256) = _
 rw [h2]
noncomputable def nj_ (rules : List qa_) (toks : List Tok') (sym f t most : Int) : Int := ((Chart.cap most.toNat (numP rules toks (df_ toks f t).toNat sym f.toNat t.toNat) : Nat) : Int)
set_option maxHeartbeats 4000000 in
set_option maxRecDepth 100000 in
theorem rr_ (A0 : Option Addr) (c0 : Nat) (rules : List qa_) (A1 : Option Addr) (c1 : Nat) (toks : List Tok') (s p q most : Nat) (w : World) (hr0 : Kd.C k48 w A0 rules.length rules) (hc0 : rules.length ≤ c0)
  (hr1 : Kd.C k31 w A1 toks.length toks) (hc1 : toks.length ≤ c1) (hs20 : s < 20) (hp : p ≤ 256) (hq : q ≤ 256) (hm1 : 1 ≤ most) (hm2 : most ≤ 1000000000) (hch : xa_ rules = true) (hin : okIn rules toks 256 = true) :
  Calls Tryz.prog 13 #[.slice A0 rules.length c0, .slice A1 toks.length c1, .int .i64 (s : Int), .int .i64 (p : Int), .int .i64 (q : Int), .int .i64 (most : Int)] w fun e w' => e = .returned (.int .i64 (nj_ rules toks (s : Int) (p : Int) (q : Int) (most : Int))) ∧ Below w.heap.size w w' := by
 obtain ⟨hrl, htl, htk⟩ := (qe_ rules toks 256).1 hin
 have hsp := nf_ 256 (by decide) toks (max (max 0 (p : Int)) (q : Int)) (by omega) (by omega) (fun x hx => by have := htk x hx; omega)
 have hsz := size7_f toks htl (fun x hx => (htk x hx).1.2.1) (p : Int) (q : Int) hsp.1.2.2
 have hcp : nj_ rules toks (s : Int) (p : Int) (q : Int) (most : Int) = ((Chart.cap most (N7 toks rules (df_ toks (p : Int) (q : Int)).toNat (s : Int) p q) : Nat) : Int) := by
  unfold nj_
  simp only [Int.toNat_natCast]
  rfl
 have hb : (p : Int) ≤ df_ toks (p : Int) (q : Int) ∧ (q : Int) ≤ df_ toks (p : Int) (q : Int) ∧ df_ toks (p : Int) (q : Int) ≤ 256 := by
  have h1 := hsp.1
  unfold df_
  omega
 have hT : ∀ x ∈ toks, 0 ≤ x.f0 ∧ x.f0 < x.f1 ∧ x.f1 ≤ df_ toks (p : Int) (q : Int) := fun x hx => ⟨(htk x hx).1.1, (htk x hx).1.2.1, hsp.2 x hx⟩
 rw [hcp]
 obtain ⟨n, hn⟩ : ∃ n : Nat, df_ toks (p : Int) (q : Int) = (n : Int) := ⟨(df_ toks (p : Int) (q : Int)).toNat, by omega⟩
 rw [hn] at hsz hb hT ⊢
 rw [Int.toNat_natCast]
 have hpn : p ≤ n := by omega
 have hqn : q ≤ n := by omega
 have hn2 : n ≤ 256 := by omega
 have HSZ := Aside0.mk hsz
 have HCH := Aside0.mk hch
 have HT := Aside0.mk hT
 have HR0 := Aside0.mk hr0
 have HR1 := Aside0.mk hr1
 clear hsz hch hT hr0 hr1 hcp hn hb hsp htk hin
 have e1 : decide ((most : Int) < 1) = false := decide_eq_false (by omega)
 have e2 : decide ((s : Int) < 0) = false := decide_eq_false (by omega)
 have e3 : decide (20 ≤ (s : Int)) = false := decide_eq_false (by omega)
 have e4 : decide ((p : Int) < 0) = false := decide_eq_false (by omega)
 have e5 : decide ((q : Int) < 0) = false := decide_eq_false (by omega)
 have e6 : decide ((n : Int) < (p : Int)) = false := decide_eq_false (by omega)
 have e7 : decide ((n : Int) < (q : Int)) = false := decide_eq_false (by omega)
 go_enter Tryz.func13, Tryz.ntmps13
 go_wp2_with fail
 refine (interlocutorref7_size.calls (toks.length + 1) A1 c1 toks (p : Int) (q : Int) (n : Int) w HR1.out hc1 HSZ.out).mono ?_
 rintro e w1 ⟨rfl, hB⟩
 have HB1 := Aside0.mk hB
 clear hB
 go_wp2_with fail
 refine (interlocutorref7_size.calls (toks.length + 1) A1 c1 toks (p : Int) (q : Int) (n : Int) w1 (Kd.C_below HR1.out HB1.out) hc1 HSZ.out).mono ?_
 rintro e w2 ⟨rfl, hB⟩
 have HB2 := Aside0.mk (ma_ HB1.out hB)
 clear hB HB1
 go_wp2_with fail
 refine (interlocutorref7_size.calls (toks.length + 1) A1 c1 toks (p : Int) (q : Int) (n : Int) w2 (Kd.C_below HR1.out HB2.out) hc1 HSZ.out).mono ?_
 rintro e w3 ⟨rfl, hB⟩
 have HB3 := Aside0.mk (ma_ HB2.out hB)
 clear hB HB2
 go_wp2_with fail
 refine (lm_ A0 c0 rules A1 c1 toks n most w3 (Kd.C_below HR0.out HB3.out) hc0 (Kd.C_below HR1.out HB3.out) hc1 (by omega) hm1 hm2 htl HCH.out HT.out).mono ?_
 rintro e w4 ⟨P, hPn, hPm, hP, rfl, hA, hC, hB⟩
 subst hPn hPm
 have HP := Aside0.mk hP
 have HR : Aside0 (Rd7 P w (N7 toks rules P.n) w4) := ⟨⟨hA, hC, ma_ HB3.out hB⟩⟩
 have r0 : w4.drew.cell? ⟨P.tb, 1, none⟩ = some (.slice (some ⟨P.cb, 0, none⟩) P.cc P.cc) := (ca_ HR.out.tab 1).trans rfl
 have r1 : w4.drew.cell? ⟨P.cb, P.idx s p q, none⟩ = some (.int .i64 (Chart.cap P.most (N7 toks rules P.n (s : Int) p q) : Int)) := HR.out.cells.cell HP.out s p q hs20 hpn hqn
 have HR5 := Aside0.mk (HR.out.grow (da_ (Below.refl w4.heap.size w4)))
 have hidx : (P.idx s p q : Int) < (P.cc : Int) := by have := P.idx_lt s p q hs20 hpn hqn; have := HP.out.2.2.2; omega
 obtain ⟨cv, hcv⟩ : ∃ cv, Chart.cap P.most (N7 toks rules P.n (s : Int) p q) = cv := ⟨_, rfl⟩
 rw [hcv] at r1
 have HCV := Aside0.mk hcv
 clear hA hC hB HR HB3 hP hcv
 go_wp2
 refine td_ (n := 12) (S := fun w' => w'.cell? ⟨P.tb, 1, none⟩ = some (.slice (some ⟨P.cb, 0, none⟩) P.cc P.cc) ∧ w'.cell? ⟨P.cb, P.idx s p q, none⟩ = some (.int .i64 (cv : Int))) (ds := []) (f_ 12 0) (by kernel_rfl) rfl rfl ⟨r0, r1⟩ (fun hHeld => ?_)
 clear r0 r1
 generalize w4.drew = W5 at *
 refine pa_ (i := 0) (N := some 56) (v := ?_) (a' := ?_) (f_ 12 1) rfl rfl (by kernel_rfl) (fun _ _ _ h => h) (Or.inl ⟨by rfl, ?_⟩) ?_ ?_
 rotate_left
 ·intro w'
  go_simp
  try with_reducible rfl
 rotate_left
 ·simp only [Act.put, s1_, s2_, s3_, ka_, la_]
  rfl
 refine pa_ (i := 1) (N := some 57) (v := ?_) (a' := ?_) (f_ 12 2) rfl rfl (by kernel_rfl) (fun _ _ _ h => h) (Or.inl ⟨by rfl, ?_⟩) ?_ ?_
 rotate_left
 ·intro w'
  go_simp
  try with_reducible rfl
 rotate_left
 ·simp only [Act.put, s1_, s2_, s3_, ka_, la_]
  rfl
 refine pa_ (i := 2) (N := some 58) (v := ?_) (a' := ?_) (f_ 12 3) rfl rfl (by kernel_rfl) (fun _ _ _ h => h) (Or.inl ⟨by rfl, ?_⟩) ?_ ?_
 rotate_left
 ·intro w'
  go_simp
  try with_reducible rfl
 rotate_left
 ·simp only [Act.put, s1_, s2_, s3_, ka_, la_]
  rfl
 refine take_ (i := 3) (N := some 59) (v := ?_) (a' := ?_) (f_ 12 4) rfl rfl (by kernel_rfl) (fun _ _ _ h => h) (Or.inl ⟨by rfl, ?_⟩) hHeld ?_ ?_
 rotate_left
 ·rintro w' ⟨s0, s1⟩
  go_simp
  try with_reducible rfl
 rotate_left
 ·simp only [Act.put, s1_, s2_, s3_, ka_, la_]
  rfl
 refine pa_ (i := 4) (N := some 60) (v := ?_) (a' := ?_) (f_ 12 5) rfl rfl (by kernel_rfl) (fun _ _ _ h => h) (Or.inl ⟨by rfl, ?_⟩) ?_ ?_
 rotate_left
 ·intro w'
  go_simp
  try with_reducible rfl
 rotate_left
 ·simp only [Act.put, s1_, s2_, s3_, ka_, la_]
  rfl
 refine pa_ (i := 5) (N := some 61) (v := ?_) (a' := ?_) (f_ 12 6) rfl rfl (by kernel_rfl) (fun _ _ _ h => h) (Or.inl ⟨by rfl, ?_⟩) ?_ ?_
 rotate_left
 ·intro w'
  go_simp
  try with_reducible rfl
 rotate_left
 ·simp only [Act.put, s1_, s2_, s3_, ka_, la_]
  rfl
 refine pa_ (i := 6) (N := some 62) (v := ?_) (a' := ?_) (f_ 12 7) rfl rfl (by kernel_rfl) (fun _ _ _ h => h) (Or.inl ⟨by rfl, ?_⟩) ?_ ?_
 rotate_left
 ·intro w'
  go_simp
  try with_reducible rfl
 rotate_left
 ·simp only [Act.put, s1_, s2_, s3_, ka_, la_]
  rfl
 refine pa_ (i := 7) (N := some 63) (v := ?_) (a' := ?_) (f_ 12 8) rfl rfl (by kernel_rfl) (fun _ _ _ h => h) (Or.inl ⟨by rfl, ?_⟩) ?_ ?_
 rotate_left
 ·intro w'
  go_simp
  try with_reducible rfl
 rotate_left
 ·simp only [Act.put, s1_, s2_, s3_, ka_, la_]
  rfl
 refine one_ (i := 8) (N := some 64) (f_ 12 9) rfl rfl (by kernel_rfl) (by decide) (fun K hK => ?_)
 refine vd_ Tryz.func23 (by kernel_rfl) rfl #[.pointer (some ⟨P.tb, 0, none⟩), .int .i64 (s : Int), .int .i64 (p : Int), .int .i64 (q : Int)] (by rfl) rfl rfl (by (try simp only [List.map_toArray, List.map_cons, List.map_nil]); rfl) ?_
 refine (oh_ P HP.out W5 HR5.out.tab s p q hs20 hpn hqn).mono ?_
 rintro e' W6 ⟨rfl, ⟨⟨n1, rfl⟩⟩⟩
 refine ⟨_, rfl, ?_⟩
 refine hK.out _ _ ⟨hHeld.1, hHeld.2⟩ (fun hHeld => ?_)
 clear hK K
 refine rb_ (a' := ?_) ?_ ?_
 rotate_left
 ·show Act.put _ (some 64) _ = _
  simp only [Act.put, s1_, s2_, s3_, ka_, la_]
  rfl
 refine pa_ (i := 9) (N := some 65) (v := ?_) (a' := ?_) (f_ 12 10) rfl rfl (by kernel_rfl) (fun _ _ _ h => h) (Or.inl ⟨by rfl, ?_⟩) ?_ ?_
 rotate_left
 ·intro w'
  go_simp
  try with_reducible rfl
 rotate_left
 ·simp only [Act.put, s1_, s2_, s3_, ka_, la_]
  rfl
 refine take_ (i := 10) (N := some 66) (v := ?_) (a' := ?_) (f_ 12 11) rfl rfl (by kernel_rfl) (fun _ _ _ h => h) (Or.inl ⟨by rfl, ?_⟩) hHeld ?_ ?_
 rotate_left
 ·rintro w' ⟨s0, s1⟩
  go_simp
  try with_reducible rfl
 rotate_left
 ·simp only [Act.put, s1_, s2_, s3_, ka_, la_]
  rfl
 refine pa_ (i := 11) (N := some 12) (v := ?_) (a' := ?_) (f_ 12 12) rfl rfl (by kernel_rfl) (fun _ _ _ h => h) (Or.inl ⟨by rfl, ?_⟩) ?_ ?_
 rotate_left
 ·intro w'
  go_simp
  try with_reducible rfl
 rotate_left
 ·simp only [Act.put, s1_, s2_, s3_, ka_, la_]
  rfl
 refine je_ (by kernel_rfl) ?_
 have HR6 := Aside0.mk (HR5.out.grow (aa_ (Below.refl W5.heap.size W5) n1))
 generalize W5.drewN n1 = W6 at *
 go_wp2
 go_ret
 exact ⟨by rw [HCV.out]; rfl, HR6.out.below⟩
noncomputable def interlocutorref7_Count.f (rules : List qa_) (toks : List Tok') (sym f t most : Int) : Option Int := if ((0 ≤ sym ∧ sym < 20) ∧ (0 ≤ f ∧ f ≤ 256) ∧ (0 ≤ t ∧ t ≤ 256) ∧ (1 ≤ most ∧ most ≤ 1000000000)) ∧ xa_ rules = true ∧ okIn rules toks 256 = true then some (nj_ rules toks sym f t most) else none
theorem interlocutorref7_Count.calls (A0 : Option Addr) (c0 : Nat) (rules : List qa_) (A1 : Option Addr) (c1 : Nat) (toks : List Tok') (sym f t most : Int) (r : Int) (w : World) (hr0 : Kd.C k48 w A0 rules.length rules) (hc0 : rules.length ≤ c0)
  (hr1 : Kd.C k31 w A1 toks.length toks) (hc1 : toks.length ≤ c1) (h : interlocutorref7_Count.f rules toks sym f t most = some r) :
  Calls Tryz.prog 13 #[.slice A0 rules.length c0, .slice A1 toks.length c1, .int .i64 sym, .int .i64 f, .int .i64 t, .int .i64 most] w fun e w' => e = .returned (.int .i64 r) ∧ Below w.heap.size w w' := by
 unfold interlocutorref7_Count.f at h
 split at h
 case isFalse => cases h
 case isTrue hu =>
 obtain rfl := Option.some.inj h
 obtain ⟨⟨⟨a1, a2⟩, ⟨b1, b2⟩, ⟨d1, d2⟩, e1, e2⟩, hch, hin⟩ := hu
 obtain ⟨s, rfl⟩ : ∃ s : Nat, sym = (s : Int) := ⟨sym.toNat, by omega⟩
 obtain ⟨p, rfl⟩ : ∃ p : Nat, f = (p : Int) := ⟨f.toNat, by omega⟩
 obtain ⟨q, rfl⟩ : ∃ q : Nat, t = (q : Int) := ⟨t.toNat, by omega⟩
 obtain ⟨m, rfl⟩ : ∃ m : Nat, most = (m : Int) := ⟨most.toNat, by omega⟩
 exact rr_ A0 c0 rules A1 c1 toks s p q m w hr0 hc0 hr1 hc1 (by omega) (by omega) (by omega) (by omega) (by omega) hch hin
end Go.Proofs.YtjfbfhoipgldgaaGreat.P
end
section
namespace Go.Proofs.YtjfbfhoipgldgaaGreat.P
open Go.RowKit Go.Proofs.YtjfbfhoipgldgaaGreatW.PrintWords Go.Proofs.YtjfbfhoipgldgaaGreatW.PrintLast Go.Proofs.YtjfbfhoipgldgaaGreatW.PrintMore
attribute [local go_sem] ob_ lb_ ub_ tb_ db_ cb_ nb_ kb_   
set_option linter.unusedVariables false
set_option linter.unusedSimpArgs false
attribute [local go_sem high] eqA31
mutual
noncomputable def l7_ChartRules.j0 : Nat → List (S50) → Int → List Int → Bool → Option (Bool)
 | 0, _, _, _, _ => none
 | k + 1, x0, x1, x2, x21 => if x21 = true then (some true) else ((l7_within.f x1 5).bind fun t225 => ((l4_Rules.f k x0 (wrap64 (1 + t225))).bind fun t226 => (l7_ChartRules.l0 k x2 t226 ([] : List (S31)) (mn (x2.length : Int) 7) 0)))
noncomputable def l7_ChartRules.l0 : Nat → List Int → List (S48) → List (S31) → Int → Int → Option (Bool)
 | 0, _, _, _, _, _ => none
 | k + 1, x2, x7, x8, x9, x10 => if x10 < x9 then ((some (([0, 0, 1, 2, 50, 51] : List Int) : List Int)).bind fun y229 => (if 0 ≤ x10 then (if x10 < (x2.length : Int) then ((l7_within.f (rd x2 x10) 6).bind fun t233 => (if 0 ≤ t233 then (if t233 < (y229.length : Int) then (if x8.length < 3518437208883 then ((some (x8 ++ [(⟨x10, wrap64 (x10 + 1), rd y229 t233, 0, 0⟩ : S31)] : List (S31))).bind fun y235 => (if (wrap64 (x10 + 2)) ≤ x9 then ((l7_within.f (wrap64 (Int.tdiv (rd x2 x10) 6)) 3).bind fun t239 => (if t239 = 0 then ((some (([0, 1, 3, 53] : List Int) : List Int)).bind fun y240 => ((l7_within.f (wrap64 (Int.tdiv (rd x2 x10) 18)) 4).bind fun t244 => (if 0 ≤ t244 then (if t244 < (y240.length : Int) then (if y235.length < 3518437208883 then (l7_ChartRules.l0 k x2 x7 (y235 ++ [(⟨x10, wrap64 (x10 + 2), rd y240 t244, 0, 0⟩ : S31)]) x9 (wrap64 (x10 + 1))) else (none)) else (none)) else (none)))) else (l7_ChartRules.l0 k x2 x7 y235 x9 (wrap64 (x10 + 1))))) else (l7_ChartRules.l0 k x2 x7 y235 x9 (wrap64 (x10 + 1))))) else (none)) else (none)) else (none))) else (none)) else (none))) else ((chart_Spans.f x7 x8 x9).bind fun t249 => ((interlocutorref7_Spans.f x7 x8 x9).bind fun t252 => ((l7_same.f k t249 t252).bind fun t255 => (if t255 = true then (l7_ChartRules.l1 k x7 x8 x9 0) else (some false)))))
noncomputable def l7_ChartRules.l1 : Nat → List (S48) → List (S31) → Int → Int → Option (Bool)
 | 0, _, _, _, _ => none
 | k + 1, x7, x8, x9, x11 => if x11 < 5 then ((chart_Count.f x7 x8 x11 0 x9 1000000).bind fun t256 => ((interlocutorref7_Count.f x7 x8 x11 0 x9 1000000).bind fun t257 => (if t256 = t257 then (l7_ChartRules.l1 k x7 x8 x9 (wrap64 (x11 + 1))) else (some false)))) else (some true)
end
noncomputable def l7_ChartRules.f (k : Nat) (l0 : List (S50)) (a1 : Int) (l2 : List Int) : Option (Bool) := (l7_known.f).bind fun t223 => (if t223 = true then ((l4_Few.f k l0).bind fun t224 => (if t224 = true then (l7_ChartRules.j0 k l0 a1 l2 (decide ((l0.length : Int) > 10))) else (l7_ChartRules.j0 k l0 a1 l2 true))) else (some false))
set_option maxHeartbeats 8000000 in
set_option maxRecDepth 100000 in
theorem l7_ChartRules.calls (k : Nat) (A0 : Option Addr) (c0 : Nat) (l0 : List (S50)) (a1 : Int) (A2 : Option Addr) (c2 : Nat) (l2 : List Int) (r : Bool) (w : World) (hr0 : Kd.C k50 w A0 l0.length l0) (hc0 : l0.length ≤ c0) (hr2 : Kd.C (Kd.int .i64) w A2 l2.length l2) (hc2 : l2.length ≤ c2) (h : l7_ChartRules.f k l0 a1 l2 = some r) :
  Calls Tryz.prog 3 #[.slice A0 l0.length c0, .int .i64 a1, .slice A2 l2.length c2] w fun e w' => e = .returned (.bool r) ∧ Below w.heap.size w w' := by
 have hu31 := Tryz.underlying31
 have HR0 := Aside0.mk hr0
 have HC0 := Aside0.mk hc0
 clear hr0 hc0
 have HR2 := Aside0.mk hr2
 have HC2 := Aside0.mk hc2
 clear hr2 hc2
 have HB := Aside0.mk (Below.refl w.heap.size w)
 have H : ((l7_known.f).bind fun t223 => (if t223 = true then ((l4_Few.f k l0).bind fun t224 => (if t224 = true then (l7_ChartRules.j0 k l0 a1 l2 (decide ((l0.length : Int) > 10))) else (l7_ChartRules.j0 k l0 a1 l2 true))) else (some false))) = some r := h
 clear h
 replace H := Option.bind_eq_some_iff.mp H
 obtain ⟨t223, A40, H⟩ := H
 replace H : (if t223 = true then ((l4_Few.f k l0).bind fun t224 => (if t224 = true then (l7_ChartRules.j0 k l0 a1 l2 (decide ((l0.length : Int) > 10))) else (l7_ChartRules.j0 k l0 a1 l2 true))) else (some false)) = some r := H
 have A4 := Aside0.mk A40
 clear A40
 by_cases c5 : t223 = true
 ·subst c5
  have H1 : ((l4_Few.f k l0).bind fun t224 => (if t224 = true then (l7_ChartRules.j0 k l0 a1 l2 (decide ((l0.length : Int) > 10))) else (l7_ChartRules.j0 k l0 a1 l2 true))) = some r := by rw [if_pos rfl] at H; exact H
  clear H
  have H := H1
  clear H1
  have HC6 := Aside0.mk H
  clear H
  go_enter Tryz.func3, Tryz.ntmps3
  go_upto_region 3 with (first | ((with_reducible refine oa_ (f := 5) rfl ?_); refine fb_ (some 12) rfl rfl Tryz.func5 (by kernel_rfl) rfl #[] rfl (by (try simp only [List.map_toArray, List.map_cons, List.map_nil]); first | done | rfl | (simp only [List.length_drop, List.length_take]; rfl)) ?_; (with_reducible refine (l7_known.calls  true _ A4.out).mono ?_); rintro e w7 ⟨rfl, hb⟩; refine ⟨_, rfl, ?_⟩; have n0_ := Aside0.mk (ma_ (by repeat (first | (with_reducible first | exact HB.out | apply ba_ | apply aa_ | apply da_) | exact HB.out)) hb); clear HB; have HB := n0_; clear n0_; (try clear hb); (try clear hb2); (try clear hk); (try clear hi)))
  (try simp only [Act.put, s1_, s2_, s3_])
  go_cut [21] (fun v21 wc => ∃ (kq : Nat) (x21_5 : Bool), v21 = .bool x21_5 ∧ Aside0 (l7_ChartRules.j0 kq l0 a1 l2 x21_5 = some r) ∧ Aside0 (kq ≤ k) ∧ Aside0 (Below w.heap.size w wc))
  case first =>
   have H := HC6.out
   clear HC6
   replace H := Option.bind_eq_some_iff.mp H
   obtain ⟨t224, A80, H⟩ := H
   replace H : (if t224 = true then (l7_ChartRules.j0 k l0 a1 l2 (decide ((l0.length : Int) > 10))) else (l7_ChartRules.j0 k l0 a1 l2 true)) = some r := H
   have A8 := Aside0.mk A80
   clear A80
   by_cases c9 : t224 = true
   ·subst c9
    have H1 : (l7_ChartRules.j0 k l0 a1 l2 (decide ((l0.length : Int) > 10))) = some r := by rw [if_pos rfl] at H; exact H
    clear H
    have H := H1
    clear H1
    have H' := Aside0.mk H
    clear H
    go_wp2_with (first | ((with_reducible refine oa_ (f := 6) rfl ?_); refine fb_ (some 15) rfl rfl Tryz.func6 (by kernel_rfl) rfl #[.slice A0 l0.length c0] rfl (by (try simp only [List.map_toArray, List.map_cons, List.map_nil]); first | done | rfl | (simp only [List.length_drop, List.length_take]; rfl)) ?_; (with_reducible refine (l4_Few.calls k _ _ l0 true _ ?side1 ?side2 A8.out).mono ?_); (case side1 => repeat (first | exact (Kd.C_below HR0.out HB.out) | (with_reducible refine Kd.C_alloc ?_ _) | (with_reducible refine Kd.C_drewN ?_ _) | (with_reducible refine Kd.C_drew ?_))); (case side2 => exact HC0.out); rintro e w' ⟨rfl, ⟨nd, rfl⟩⟩; refine ⟨_, rfl, ?_⟩))
    go_meet
    case rel => exact ⟨_, (decide ((l0.length : Int) > 10)), (by first | rfl | (simp; done) | (simp [*]; done)), H', ⟨by first | omega | exact Nat.le_refl _⟩, ⟨by repeat (first | (with_reducible first | exact HB.out | apply ba_ | apply aa_ | apply da_) | exact HB.out)⟩⟩
   replace c9 := Bool.eq_false_iff.mpr c9
   subst c9
   have H1 : (l7_ChartRules.j0 k l0 a1 l2 true) = some r := by rw [if_neg (show ¬ (false = true) by decide)] at H; exact H
   clear H
   have H := H1
   clear H1
   have H' := Aside0.mk H
   clear H
   go_wp2_with (first | ((with_reducible refine oa_ (f := 6) rfl ?_); refine fb_ (some 15) rfl rfl Tryz.func6 (by kernel_rfl) rfl #[.slice A0 l0.length c0] rfl (by (try simp only [List.map_toArray, List.map_cons, List.map_nil]); first | done | rfl | (simp only [List.length_drop, List.length_take]; rfl)) ?_; (with_reducible refine (l4_Few.calls k _ _ l0 false _ ?side1 ?side2 A8.out).mono ?_); (case side1 => repeat (first | exact (Kd.C_below HR0.out HB.out) | (with_reducible refine Kd.C_alloc ?_ _) | (with_reducible refine Kd.C_drewN ?_ _) | (with_reducible refine Kd.C_drew ?_))); (case side2 => exact HC0.out); rintro e w' ⟨rfl, ⟨nd, rfl⟩⟩; refine ⟨_, rfl, ?_⟩))
   go_meet
   case rel => exact ⟨_, (true), (by first | rfl | (simp; done) | (simp [*]; done)), H', ⟨by first | omega | exact Nat.le_refl _⟩, ⟨by repeat (first | (with_reducible first | exact HB.out | apply ba_ | apply aa_ | apply da_) | exact HB.out)⟩⟩
  clear HC6
  try clear c2
  try clear p2
  try clear c3
  try clear c5
  try clear c6
  try clear c9
  obtain ⟨kq, x21_5, rfl, HA, HJ5, HB⟩ := hcut
  cases kq with
  | zero => exact absurd HA.out (by simp [l7_ChartRules.j0])
  | succ kj5 =>
   have H := HA.out
   clear HA
   simp only [l7_ChartRules.j0] at H
   by_cases c10 : x21_5 = true
   ·subst c10
    have H1 : (some true) = some r := by rw [if_pos rfl] at H; exact H
    clear H
    have H := H1
    clear H1
    obtain rfl := Option.some.inj H
    go_wp2
    go_ret
    exact ⟨by first | rfl | (simp [ta_, sa_] <;> rfl) | (simp [*, ta_, sa_] <;> rfl), by repeat (first | (with_reducible first | exact HB.out | apply ba_ | apply aa_ | apply da_) | exact HB.out)⟩
   replace c10 := Bool.eq_false_iff.mpr c10
   subst c10
   have H1 : ((l7_within.f a1 5).bind fun t225 => ((l4_Rules.f kj5 l0 (wrap64 (1 + t225))).bind fun t226 => (l7_ChartRules.l0 kj5 l2 t226 ([] : List (S31)) (mn (l2.length : Int) 7) 0))) = some r := by rw [if_neg (show ¬ (false = true) by decide)] at H; exact H
   clear H
   have H := H1
   clear H1
   replace H := Option.bind_eq_some_iff.mp H
   obtain ⟨t225, A110, H⟩ := H
   replace H : ((l4_Rules.f kj5 l0 (wrap64 (1 + t225))).bind fun t226 => (l7_ChartRules.l0 kj5 l2 t226 ([] : List (S31)) (mn (l2.length : Int) 7) 0)) = some r := H
   have A11 := Aside0.mk A110
   clear A110
   replace H := Option.bind_eq_some_iff.mp H
   obtain ⟨t226, A120, H⟩ := H
   replace H : (l7_ChartRules.l0 kj5 l2 t226 ([] : List (S31)) (mn (l2.length : Int) 7) 0) = some r := H
   have A12 := Aside0.mk A120
   clear A120
   obtain ⟨ji13, hji13⟩ : ∃ j_ : Int, (mn (l2.length : Int) 7) = j_ := ⟨_, rfl⟩
   replace H : (l7_ChartRules.l0 kj5 l2 t226 ([] : List (S31)) ji13 0) = some r := by first | (rw [hji13] at H; exact H) | (simp only [hji13] at H ⊢; exact H)
   (try rw [hji13] at A11)
   (try rw [hji13] at A12)
   have hji13_ : (if 7 < (l2.length : Int) then 7 else (l2.length : Int)) = ji13 := hji13
   have H' := Aside0.mk H
   clear H
   go_wp2_with (first | ((with_reducible refine oa_ (f := 8) rfl ?_); refine fb_ (some 24) rfl rfl Tryz.func8 (by kernel_rfl) rfl #[.int .i64 a1, .int .i64 5] rfl (by (try simp only [List.map_toArray, List.map_cons, List.map_nil]); first | done | rfl | (simp only [List.length_drop, List.length_take]; rfl)) ?_; (with_reducible refine (l7_within.calls a1 5 t225 _ A11.out).mono ?_); rintro e w' ⟨rfl, ⟨nd, rfl⟩⟩; refine ⟨_, rfl, ?_⟩) | ((with_reducible refine oa_ (f := 7) rfl ?_); refine fb_ (some 26) rfl rfl Tryz.func7 (by kernel_rfl) rfl #[.slice A0 l0.length c0, .int .i64 (wrap64 (1 + t225))] rfl (by (try simp only [List.map_toArray, List.map_cons, List.map_nil]); first | done | rfl | (simp only [List.length_drop, List.length_take]; rfl)) ?_; (with_reducible refine (l4_Rules.calls kj5 _ _ l0 (wrap64 (1 + t225)) t226 _ ?side1 ?side2 A12.out).mono ?_); (case side1 => repeat (first | exact (Kd.C_below HR0.out (by repeat (first | (with_reducible first | exact HB.out | apply ba_ | apply aa_ | apply da_) | exact HB.out))) | (with_reducible refine Kd.C_alloc ?_ _) | (with_reducible refine Kd.C_drewN ?_ _) | (with_reducible refine Kd.C_drew ?_))); (case side2 => exact HC0.out); rintro e w14 ⟨v227, rfl, ho0, hb⟩; refine ⟨_, rfl, ?_⟩; have n0_ := Aside0.mk (Kd.N_lower (Kd.N_mono (ok' := fun k_ => True) ho0 (fun k_ hk_ => trivial)) (na_ (by repeat (first | (with_reducible first | exact HB.out | apply ba_ | apply aa_ | apply da_) | exact HB.out)))); have n1_ := Aside0.mk (ma_ (by repeat (first | (with_reducible first | exact HB.out | apply ba_ | apply aa_ | apply da_) | exact HB.out)) hb); clear HB; have HO228 := n0_; have HB := n1_; clear n0_ n1_; (try clear hb); (try clear hb2); (try clear hk); (try clear hi); (try clear ho0)))
   go_loopg [8, 10] kj5 (fun kq v8 v10 w' => ∃ (x8_2 : List (S31)) (x10_2 : Int), v10 = .int .i64 x10_2 ∧ Aside0 (l7_ChartRules.l0 kq l2 t226 x8_2 ji13 x10_2 = some r) ∧ Aside0 (kq ≤ kj5) ∧ Aside0 (Kd.N k48 48 w' w.heap.size (fun k_ => some k_ ≠ (v8 : Value).ownBlock) v227 t226) ∧ Aside0 (Kd.R k31 31 w' w.heap.size (fun _ => True) v8 x8_2) ∧ Aside0 (Below w.heap.size w w'))
   case atStart => exact ⟨(([] : List (S31))), (0), (by first | rfl | (simp; done) | (simp [*]; done)), H', ⟨Nat.le_refl _⟩, ⟨by (with_reducible repeat (first | apply Kd.N_alloc | apply Kd.N_drewN | apply Kd.N_drew)); exact Kd.N_mono HO228.out (fun _ hk => (by simp [Value.ownBlock]))⟩, ⟨by first | exact Kd.R_nil _ _ _ _ _ | exact Kd.N_nil _ _ _ _ _ | exact Kd.V_nil _ _ _ _ _ | exact Kd.Q_nil _ _ _ _ _ | exact Kd.S_nil _ _ _ _ _⟩, ⟨by repeat (first | (with_reducible first | exact HB.out | apply ba_ | apply aa_ | apply da_) | exact HB.out)⟩⟩
   clear H'
   try clear c1
   try clear c2
   try clear p2
   try clear c3
   try clear c5
   try clear c6
   try clear p6
   try clear c7
   try clear c8
   try clear c9
   try clear c10
   try clear p2
   obtain ⟨x8_2, x10_2, rfl, HA, HK2, HO_7, HO_8, HB⟩ := hrel
   cases gk with
   | zero => exact absurd HA.out (by simp [l7_ChartRules.l0])
   | succ k2 =>
    have H := HA.out
    clear HA
    simp only [l7_ChartRules.l0] at H
    by_cases c15 : x10_2 < ji13
    ·rw [if_pos c15] at H
     have c15b0 : decide (x10_2 < ji13) = true := decide_eq_true c15
     clear c15
     obtain ⟨y229, hy229⟩ : ∃ y_ : List Int, y_ = (([0, 0, 1, 2, 50, 51] : List Int)) := ⟨_, rfl⟩
     replace H : (if 0 ≤ x10_2 then (if x10_2 < (l2.length : Int) then ((l7_within.f (rd l2 x10_2) 6).bind fun t233 => (if 0 ≤ t233 then (if t233 < (y229.length : Int) then (if x8_2.length < 3518437208883 then ((some (x8_2 ++ [(⟨x10_2, wrap64 (x10_2 + 1), rd y229 t233, 0, 0⟩ : S31)] : List (S31))).bind fun y235 => (if (wrap64 (x10_2 + 2)) ≤ ji13 then ((l7_within.f (wrap64 (Int.tdiv (rd l2 x10_2) 6)) 3).bind fun t239 => (if t239 = 0 then ((some (([0, 1, 3, 53] : List Int) : List Int)).bind fun y240 => ((l7_within.f (wrap64 (Int.tdiv (rd l2 x10_2) 18)) 4).bind fun t244 => (if 0 ≤ t244 then (if t244 < (y240.length : Int) then (if y235.length < 3518437208883 then (l7_ChartRules.l0 k2 l2 t226 (y235 ++ [(⟨x10_2, wrap64 (x10_2 + 2), rd y240 t244, 0, 0⟩ : S31)]) ji13 (wrap64 (x10_2 + 1))) else (none)) else (none)) else (none)))) else (l7_ChartRules.l0 k2 l2 t226 y235 ji13 (wrap64 (x10_2 + 1))))) else (l7_ChartRules.l0 k2 l2 t226 y235 ji13 (wrap64 (x10_2 + 1))))) else (none)) else (none)) else (none))) else (none)) else (none)) = some r := by first | (rw [hy229]; with_reducible exact H) | (have H2_ := (Option.bind_some _ _).symm.trans H; rw [hy229]; with_reducible exact H2_) | (have H2_ := (Option.bind_some _ _).symm.trans H; with_reducible exact H2_) | with_reducible exact H | (rw [hy229]; exact H) | exact H
     have Ny229 := Aside0.mk hy229
     clear hy229
     by_cases c16 : 0 ≤ x10_2
     ·rw [if_pos c16] at H
      have c16b0 : decide (0 ≤ x10_2) = true := decide_eq_true c16
      clear c16
      by_cases c17 : x10_2 < (l2.length : Int)
      ·rw [if_pos c17] at H
       have c17b0 : decide (x10_2 < (l2.length : Int)) = true := decide_eq_true c17
       clear c17
       replace H := Option.bind_eq_some_iff.mp H
       obtain ⟨t233, A180, H⟩ := H
       replace H : (if 0 ≤ t233 then (if t233 < (y229.length : Int) then (if x8_2.length < 3518437208883 then ((some (x8_2 ++ [(⟨x10_2, wrap64 (x10_2 + 1), rd y229 t233, 0, 0⟩ : S31)] : List (S31))).bind fun y235 => (if (wrap64 (x10_2 + 2)) ≤ ji13 then ((l7_within.f (wrap64 (Int.tdiv (rd l2 x10_2) 6)) 3).bind fun t239 => (if t239 = 0 then ((some (([0, 1, 3, 53] : List Int) : List Int)).bind fun y240 => ((l7_within.f (wrap64 (Int.tdiv (rd l2 x10_2) 18)) 4).bind fun t244 => (if 0 ≤ t244 then (if t244 < (y240.length : Int) then (if y235.length < 3518437208883 then (l7_ChartRules.l0 k2 l2 t226 (y235 ++ [(⟨x10_2, wrap64 (x10_2 + 2), rd y240 t244, 0, 0⟩ : S31)]) ji13 (wrap64 (x10_2 + 1))) else (none)) else (none)) else (none)))) else (l7_ChartRules.l0 k2 l2 t226 y235 ji13 (wrap64 (x10_2 + 1))))) else (l7_ChartRules.l0 k2 l2 t226 y235 ji13 (wrap64 (x10_2 + 1))))) else (none)) else (none)) else (none)) = some r := H
       have A18 := Aside0.mk A180
       clear A180
       by_cases c19 : 0 ≤ t233
       ·rw [if_pos c19] at H
        have c19b0 : decide (0 ≤ t233) = true := decide_eq_true c19
        clear c19
        by_cases c20 : t233 < (y229.length : Int)
        ·rw [if_pos c20] at H
         have c20b0 : decide (t233 < (y229.length : Int)) = true := decide_eq_true c20
         clear c20
         by_cases c21 : x8_2.length < 3518437208883
         ·rw [if_pos c21] at H
          have LMc21 := Aside0.mk c21
          clear c21
          obtain ⟨y235, hy235⟩ : ∃ y_ : List (S31), y_ = (x8_2 ++ [(⟨x10_2, wrap64 (x10_2 + 1), rd y229 t233, 0, 0⟩ : S31)]) := ⟨_, rfl⟩
          replace H : (if (wrap64 (x10_2 + 2)) ≤ ji13 then ((l7_within.f (wrap64 (Int.tdiv (rd l2 x10_2) 6)) 3).bind fun t239 => (if t239 = 0 then ((some (([0, 1, 3, 53] : List Int) : List Int)).bind fun y240 => ((l7_within.f (wrap64 (Int.tdiv (rd l2 x10_2) 18)) 4).bind fun t244 => (if 0 ≤ t244 then (if t244 < (y240.length : Int) then (if y235.length < 3518437208883 then (l7_ChartRules.l0 k2 l2 t226 (y235 ++ [(⟨x10_2, wrap64 (x10_2 + 2), rd y240 t244, 0, 0⟩ : S31)]) ji13 (wrap64 (x10_2 + 1))) else (none)) else (none)) else (none)))) else (l7_ChartRules.l0 k2 l2 t226 y235 ji13 (wrap64 (x10_2 + 1))))) else (l7_ChartRules.l0 k2 l2 t226 y235 ji13 (wrap64 (x10_2 + 1)))) = some r := by first | (rw [hy235]; with_reducible exact H) | (have H2_ := (Option.bind_some _ _).symm.trans H; rw [hy235]; with_reducible exact H2_) | (have H2_ := (Option.bind_some _ _).symm.trans H; with_reducible exact H2_) | with_reducible exact H | (rw [hy235]; exact H) | exact H
          have Ny235 := Aside0.mk hy235
          clear hy235
          by_cases c22 : (wrap64 (x10_2 + 2)) ≤ ji13
          ·rw [if_pos c22] at H
           have c22b0 : decide ((wrap64 (x10_2 + 2)) ≤ ji13) = true := decide_eq_true c22
           clear c22
           replace H := Option.bind_eq_some_iff.mp H
           obtain ⟨t239, A230, H⟩ := H
           replace H : (if t239 = 0 then ((some (([0, 1, 3, 53] : List Int) : List Int)).bind fun y240 => ((l7_within.f (wrap64 (Int.tdiv (rd l2 x10_2) 18)) 4).bind fun t244 => (if 0 ≤ t244 then (if t244 < (y240.length : Int) then (if y235.length < 3518437208883 then (l7_ChartRules.l0 k2 l2 t226 (y235 ++ [(⟨x10_2, wrap64 (x10_2 + 2), rd y240 t244, 0, 0⟩ : S31)]) ji13 (wrap64 (x10_2 + 1))) else (none)) else (none)) else (none)))) else (l7_ChartRules.l0 k2 l2 t226 y235 ji13 (wrap64 (x10_2 + 1)))) = some r := H
           have A23 := Aside0.mk A230
           clear A230
           by_cases c24 : t239 = 0
           ·rw [if_pos c24] at H
            have c24b0 : (t239 == 0) = true := beq_iff_eq.mpr c24
            have c24b1 : (t239 != 0) = false := bne_eq_false_iff_eq.mpr c24
            clear c24
            obtain ⟨y240, hy240⟩ : ∃ y_ : List Int, y_ = (([0, 1, 3, 53] : List Int)) := ⟨_, rfl⟩
            replace H : ((l7_within.f (wrap64 (Int.tdiv (rd l2 x10_2) 18)) 4).bind fun t244 => (if 0 ≤ t244 then (if t244 < (y240.length : Int) then (if y235.length < 3518437208883 then (l7_ChartRules.l0 k2 l2 t226 (y235 ++ [(⟨x10_2, wrap64 (x10_2 + 2), rd y240 t244, 0, 0⟩ : S31)]) ji13 (wrap64 (x10_2 + 1))) else (none)) else (none)) else (none))) = some r := by first | (rw [hy240]; with_reducible exact H) | (have H2_ := (Option.bind_some _ _).symm.trans H; rw [hy240]; with_reducible exact H2_) | (have H2_ := (Option.bind_some _ _).symm.trans H; with_reducible exact H2_) | with_reducible exact H | (rw [hy240]; exact H) | exact H
            have Ny240 := Aside0.mk hy240
            clear hy240
            replace H := Option.bind_eq_some_iff.mp H
            obtain ⟨t244, A250, H⟩ := H
            replace H : (if 0 ≤ t244 then (if t244 < (y240.length : Int) then (if y235.length < 3518437208883 then (l7_ChartRules.l0 k2 l2 t226 (y235 ++ [(⟨x10_2, wrap64 (x10_2 + 2), rd y240 t244, 0, 0⟩ : S31)]) ji13 (wrap64 (x10_2 + 1))) else (none)) else (none)) else (none)) = some r := H
            have A25 := Aside0.mk A250
            clear A250
            by_cases c26 : 0 ≤ t244
            ·rw [if_pos c26] at H
             have c26b0 : decide (0 ≤ t244) = true := decide_eq_true c26
             clear c26
             by_cases c27 : t244 < (y240.length : Int)
             ·rw [if_pos c27] at H
              have c27b0 : decide (t244 < (y240.length : Int)) = true := decide_eq_true c27
              clear c27
              by_cases c28 : y235.length < 3518437208883
              ·rw [if_pos c28] at H
               have LMc28 := Aside0.mk c28
               clear c28
               obtain ⟨y246, hy246⟩ : ∃ y_ : List (S31), y_ = (y235 ++ [(⟨x10_2, wrap64 (x10_2 + 2), rd y240 t244, 0, 0⟩ : S31)]) := ⟨_, rfl⟩
               replace H : (l7_ChartRules.l0 k2 l2 t226 y246 ji13 (wrap64 (x10_2 + 1))) = some r := by first | (rw [hy246]; with_reducible exact H) | (have H2_ := (Option.bind_some _ _).symm.trans H; rw [hy246]; with_reducible exact H2_) | (have H2_ := (Option.bind_some _ _).symm.trans H; with_reducible exact H2_) | with_reducible exact H | (rw [hy246]; exact H) | exact H
               have Ny246 := Aside0.mk hy246
               clear hy246
               have H' := Aside0.mk H
               clear H
               go_wp2_with (first | ((with_reducible refine gb_ (N := 39) rfl ?_); (try (refine wa_ (by rfl) ?_; dsimp only)); refine Kd.R_lit (Kd.int .i64) _ 3 ?hg (N := 39) ?hd (xs := ([0, 0, 1, 2, 50, 51] : List Int)) (inner := [.int .i64 0, .int .i64 0, .int .i64 1, .int .i64 2, .int .i64 50, .int .i64 51]) (ok := fun _ => True) (okp := fun _ => True) ?hr ?hp (fun _ hk => hk) trivial (Below.refl _ _) (Nat.le_refl _) (by simp) ?_; (case hd => rfl); (case hg => rfl); (case hr => first | (go_simp; done) | (go_simp; rfl)); (case hp => exact (Reps.one (show Kd.M (Kd.int .i64) _ _ _ 0 [.int .i64 0] from rfl) (Reps.one (show Kd.M (Kd.int .i64) _ _ _ 0 [.int .i64 0] from rfl) (Reps.one (show Kd.M (Kd.int .i64) _ _ _ 1 [.int .i64 1] from rfl) (Reps.one (show Kd.M (Kd.int .i64) _ _ _ 2 [.int .i64 2] from rfl) (Reps.one (show Kd.M (Kd.int .i64) _ _ _ 50 [.int .i64 50] from rfl) (Reps.one (show Kd.M (Kd.int .i64) _ _ _ 51 [.int .i64 51] from rfl) (Reps.none _ _)))))))); intro v230 w29 ho30 hb hg_ hnew_; clear hg_ hnew_; (first | rw [← Ny229.out] at ho30 | (simp only [Int.reduceToNat] at ho30; rw [← Ny229.out] at ho30)); have n0_ := Aside0.mk (Kd.N_elder' (by (with_reducible repeat (first | apply Kd.N_alloc | apply Kd.N_drewN | apply Kd.N_drew)); exact HO_7.out) (Kd.R_base ho30) hb); have n1_ := Aside0.mk (Kd.R_below (by (with_reducible repeat (first | apply Kd.R_alloc | apply Kd.R_drewN | apply Kd.R_drew)); exact HO_8.out) hb); have n2_ := Aside0.mk (Kd.R_lower ho30 (na_ (by repeat (first | (with_reducible first | exact HB.out | apply ba_ | apply aa_ | apply da_) | exact HB.out)))); have n3_ := Aside0.mk (ma_ (by repeat (first | (with_reducible first | exact HB.out | apply ba_ | apply aa_ | apply da_) | exact HB.out)) hb); clear HO_7; clear HO_8; clear HB; have HO_7 := n0_; have HO_8 := n1_; have HO231 := n2_; have HB := n3_; clear n0_ n1_ n2_ n3_; clear hb ho30; have p232 : 0 ≤ (x10_2 : Int) := of_decide_eq_true (by first | (with_reducible assumption) | assumption); have q232 : x10_2 < (l2.length : Int) := of_decide_eq_true (by first | (with_reducible assumption) | assumption); obtain ⟨ad232, e232, hx232_0⟩ := Kd.at_int HR2.out x10_2 p232 q232; cases e232; replace hx232_0 := (HB.out.cell (World.block_lt_of_cell? w _ hx232_0)).trans hx232_0; replace p232 := eq_true p232; replace q232 := eq_true q232) | ((with_reducible refine oa_ (f := 8) rfl ?_); refine fb_ (some 44) rfl rfl Tryz.func8 (by kernel_rfl) rfl #[.int .i64 (rd l2 x10_2), .int .i64 6] rfl (by (try simp only [List.map_toArray, List.map_cons, List.map_nil]); first | done | rfl | (simp only [List.length_drop, List.length_take]; rfl)) ?_; (with_reducible refine (l7_within.calls (rd l2 x10_2) 6 t233 _ A18.out).mono ?_); rintro e w' ⟨rfl, ⟨nd, rfl⟩⟩; refine ⟨_, rfl, ?_⟩; obtain ⟨Ao31, co31, eo31⟩ := Kd.R_slice HO231.out; subst eo31; have p234 : 0 ≤ (t233 : Int) := of_decide_eq_true (by first | (with_reducible assumption) | assumption); have q234 : t233 < (y229.length : Int) := of_decide_eq_true (by first | (with_reducible assumption) | assumption); obtain ⟨ad234, e234, hx234_0⟩ := Kd.at_int (Kd.R_reads' HO231.out).2.2 t233 p234 q234; cases e234; replace p234 := eq_true p234; replace q234 := eq_true q234) | ((with_reducible refine od_ (b := .append) (xs := #[.tmp 35, .tmp 48]) rfl ?_); (try (refine wa_ (by rfl) ?_; dsimp only)); at_builtin; refine Kd.R_append k31 (w0 := w) w.heap.size rfl (.tmp 35) (.tmp 48) 29 31 (.agg #[(.int .i64 0), (.int .i64 0), (.int .i64 0), (.int .i64 0), (.int .i64 0)]) 40 rfl Tryz.underlying29 hm_ rfl (by decide) (by omega) u8 x8_2 (⟨x10_2, wrap64 (x10_2 + 1), rd y229 t233, 0, 0⟩ : S31) [.int .i64 x10_2, .int .i64 (wrap64 (x10_2 + 1)), .int .i64 (rd y229 t233), .int .i64 0, .int .i64 0] (fun _ => True) (fun _ => False) rfl rfl ?aP (fun _ hk => hk.elim) ?aF ?aO ?aB ?aS ?aL ?_; (case aP => exact cd_ _ _ _ (⟨x10_2, wrap64 (x10_2 + 1), rd y229 t233, 0, 0⟩ : S31)); (case aB => exact (by repeat (first | (with_reducible first | exact HB.out | apply ba_ | apply aa_ | apply da_) | exact HB.out))); (case aF => exact (fun _ _ => trivial)); (case aO => exact (by (with_reducible repeat (first | apply Kd.R_alloc | apply Kd.R_drewN | apply Kd.R_drew)); exact HO_8.out)); (case aS => exact (na_ (by repeat (first | (with_reducible first | exact HB.out | apply ba_ | apply aa_ | apply da_) | exact HB.out)))); (case aL => have := LMc21.out; omega); intro v236 w32 ho hb hg hat; rw [← Ny235.out] at ho; have n0_ := Aside0.mk (Kd.N_afterv (ok := (fun k_ => some k_ ≠ (.slice (some ad234) y229.length co31 : Value).ownBlock)) (by (with_reducible repeat (first | apply Kd.N_alloc | apply Kd.N_drewN | apply Kd.N_drew)); exact Kd.N_mono HO_7.out (fun _ hk => ⟨hk.2, hk.1⟩)) hg hat); have n1_ := Aside0.mk (Kd.R_over' (by (with_reducible repeat (first | apply Kd.R_alloc | apply Kd.R_drewN | apply Kd.R_drew)); exact HO231.out) (Kd.R_typed (by (with_reducible repeat (first | apply Kd.R_alloc | apply Kd.R_drewN | apply Kd.R_drew)); exact HO_8.out)) (by decide) hg); have n2_ := Aside0.mk (hb); have n3_ := Aside0.mk (ho); clear HO_7; clear HO231; clear HB; clear HO_8; have HO_7 := n0_; have HO231 := n1_; have HB := n2_; have HO237 := n3_; clear n0_ n1_ n2_ n3_; clear ho hb hg hat; have p238 : 0 ≤ (x10_2 : Int) := of_decide_eq_true (by first | (with_reducible assumption) | assumption); have q238 : x10_2 < (l2.length : Int) := of_decide_eq_true (by first | (with_reducible assumption) | assumption); obtain ⟨ad238, e238, hx238_0⟩ := Kd.at_int HR2.out x10_2 p238 q238; obtain rfl : ad232 = ad238 := (by injection e238); replace hx238_0 := (HB.out.cell (World.block_lt_of_cell? w _ hx238_0)).trans hx238_0; replace p238 := eq_true p238; replace q238 := eq_true q238) | (go_at_call 8; (with_reducible refine (l7_within.calls (wrap64 (Int.tdiv (rd l2 x10_2) 6)) 3 t239 _ A23.out).mono ?_); rintro e w' ⟨rfl, ⟨nd, rfl⟩⟩) | ((with_reducible refine gb_ (N := 67) rfl ?_); (try (refine wa_ (by rfl) ?_; dsimp only)); refine Kd.R_lit (Kd.int .i64) _ 3 ?hg (N := 67) ?hd (xs := ([0, 1, 3, 53] : List Int)) (inner := [.int .i64 0, .int .i64 1, .int .i64 3, .int .i64 53]) (ok := fun _ => True) (okp := fun _ => True) ?hr ?hp (fun _ hk => hk) trivial (Below.refl _ _) (Nat.le_refl _) (by simp) ?_; (case hd => rfl); (case hg => rfl); (case hr => first | (go_simp; done) | (go_simp; rfl)); (case hp => exact (Reps.one (show Kd.M (Kd.int .i64) _ _ _ 0 [.int .i64 0] from rfl) (Reps.one (show Kd.M (Kd.int .i64) _ _ _ 1 [.int .i64 1] from rfl) (Reps.one (show Kd.M (Kd.int .i64) _ _ _ 3 [.int .i64 3] from rfl) (Reps.one (show Kd.M (Kd.int .i64) _ _ _ 53 [.int .i64 53] from rfl) (Reps.none _ _)))))); intro v241 w33 ho34 hb hg_ hnew_; clear hg_ hnew_; (first | rw [← Ny240.out] at ho34 | (simp only [Int.reduceToNat] at ho34; rw [← Ny240.out] at ho34)); have n0_ := Aside0.mk (Kd.N_elder' (by (with_reducible repeat (first | apply Kd.N_alloc | apply Kd.N_drewN | apply Kd.N_drew)); exact HO_7.out) (Kd.R_base ho34) hb); have n1_ := Aside0.mk (Kd.R_elder' (by (with_reducible repeat (first | apply Kd.R_alloc | apply Kd.R_drewN | apply Kd.R_drew)); exact HO231.out) (Kd.R_base ho34) hb); have n2_ := Aside0.mk (Kd.R_below (by (with_reducible repeat (first | apply Kd.R_alloc | apply Kd.R_drewN | apply Kd.R_drew)); exact HO237.out) hb); have n3_ := Aside0.mk (Kd.R_lower (Kd.R_new' ho34 (Kd.R_lt (by (with_reducible repeat (first | apply Kd.R_alloc | apply Kd.R_drewN | apply Kd.R_drew)); exact HO231.out))) (na_ (by repeat (first | (with_reducible first | exact HB.out | apply ba_ | apply aa_ | apply da_) | exact HB.out)))); have n4_ := Aside0.mk (ma_ (by repeat (first | (with_reducible first | exact HB.out | apply ba_ | apply aa_ | apply da_) | exact HB.out)) hb); clear HO_7; clear HO231; clear HO237; clear HB; have HO_7 := n0_; have HO231 := n1_; have HO237 := n2_; have HO242 := n3_; have HB := n4_; clear n0_ n1_ n2_ n3_ n4_; clear hb ho34; have p243 : 0 ≤ (x10_2 : Int) := of_decide_eq_true (by first | (with_reducible assumption) | assumption); have q243 : x10_2 < (l2.length : Int) := of_decide_eq_true (by first | (with_reducible assumption) | assumption); obtain ⟨ad243, e243, hx243_0⟩ := Kd.at_int HR2.out x10_2 p243 q243; obtain rfl : ad232 = ad243 := (by injection e243); replace hx243_0 := (HB.out.cell (World.block_lt_of_cell? w _ hx243_0)).trans hx243_0; replace p243 := eq_true p243; replace q243 := eq_true q243) | ((with_reducible refine oa_ (f := 8) rfl ?_); refine fb_ (some 73) rfl rfl Tryz.func8 (by kernel_rfl) rfl #[.int .i64 (wrap64 (Int.tdiv (rd l2 x10_2) 18)), .int .i64 4] rfl (by (try simp only [List.map_toArray, List.map_cons, List.map_nil]); first | done | rfl | (simp only [List.length_drop, List.length_take]; rfl)) ?_; (with_reducible refine (l7_within.calls (wrap64 (Int.tdiv (rd l2 x10_2) 18)) 4 t244 _ A25.out).mono ?_); rintro e w' ⟨rfl, ⟨nd, rfl⟩⟩; refine ⟨_, rfl, ?_⟩; obtain ⟨Ao35, co35, eo35⟩ := Kd.R_slice HO242.out; subst eo35; have p245 : 0 ≤ (t244 : Int) := of_decide_eq_true (by first | (with_reducible assumption) | assumption); have q245 : t244 < (y240.length : Int) := of_decide_eq_true (by first | (with_reducible assumption) | assumption); obtain ⟨ad245, e245, hx245_0⟩ := Kd.at_int (Kd.R_reads' HO242.out).2.2 t244 p245 q245; cases e245; replace p245 := eq_true p245; replace q245 := eq_true q245) | ((with_reducible refine od_ (b := .append) (xs := #[.tmp 63, .tmp 77]) rfl ?_); (try (refine wa_ (by rfl) ?_; dsimp only)); at_builtin; refine Kd.R_append k31 (w0 := w) w.heap.size rfl (.tmp 63) (.tmp 77) 29 31 (.agg #[(.int .i64 0), (.int .i64 0), (.int .i64 0), (.int .i64 0), (.int .i64 0)]) 40 rfl Tryz.underlying29 hm_ rfl (by decide) (by omega) v236 y235 (⟨x10_2, wrap64 (x10_2 + 2), rd y240 t244, 0, 0⟩ : S31) [.int .i64 x10_2, .int .i64 (wrap64 (x10_2 + 2)), .int .i64 (rd y240 t244), .int .i64 0, .int .i64 0] (fun _ => True) (fun _ => False) rfl rfl ?aP (fun _ hk => hk.elim) ?aF ?aO ?aB ?aS ?aL ?_; (case aP => exact cd_ _ _ _ (⟨x10_2, wrap64 (x10_2 + 2), rd y240 t244, 0, 0⟩ : S31)); (case aB => exact (by repeat (first | (with_reducible first | exact HB.out | apply ba_ | apply aa_ | apply da_) | exact HB.out))); (case aF => exact (fun _ _ => trivial)); (case aO => exact (by (with_reducible repeat (first | apply Kd.R_alloc | apply Kd.R_drewN | apply Kd.R_drew)); exact HO237.out)); (case aS => exact (na_ (by repeat (first | (with_reducible first | exact HB.out | apply ba_ | apply aa_ | apply da_) | exact HB.out)))); (case aL => have := LMc28.out; omega); intro v247 w36 ho hb hg hat; rw [← Ny246.out] at ho; have n0_ := Aside0.mk (Kd.N_afterv (ok := (fun k_ => some k_ ≠ (.slice (some ad234) y229.length co31 : Value).ownBlock ∧ some k_ ≠ (.slice (some ad245) y240.length co35 : Value).ownBlock)) (by (with_reducible repeat (first | apply Kd.N_alloc | apply Kd.N_drewN | apply Kd.N_drew)); exact Kd.N_mono HO_7.out (fun _ hk => ⟨⟨hk.1.1, hk.2⟩, hk.1.2⟩)) hg hat); have n1_ := Aside0.mk (Kd.R_over' (by (with_reducible repeat (first | apply Kd.R_alloc | apply Kd.R_drewN | apply Kd.R_drew)); exact HO231.out) (Kd.R_typed (by (with_reducible repeat (first | apply Kd.R_alloc | apply Kd.R_drewN | apply Kd.R_drew)); exact HO237.out)) (by decide) hg); have n2_ := Aside0.mk (Kd.R_over' (by (with_reducible repeat (first | apply Kd.R_alloc | apply Kd.R_drewN | apply Kd.R_drew)); exact HO242.out) (Kd.R_typed (by (with_reducible repeat (first | apply Kd.R_alloc | apply Kd.R_drewN | apply Kd.R_drew)); exact HO237.out)) (by decide) hg); have n3_ := Aside0.mk (hb); have n4_ := Aside0.mk (ho); clear HO_7; clear HO231; clear HO242; clear HB; clear HO237; have HO_7 := n0_; have HO231 := n1_; have HO242 := n2_; have HB := n3_; have HO248 := n4_; clear n0_ n1_ n2_ n3_ n4_; clear ho hb hg hat))
               go_roundg k2
               case measure => have := HJ5.out; have := HK2.out; omega
               case rel => exact ⟨(y246), (wrap64 (x10_2 + 1)), (by first | rfl | (simp; done) | (simp [*]; done)), H', ⟨by have := HJ5.out; have := HK2.out; omega⟩, ⟨by (with_reducible repeat (first | apply Kd.N_alloc | apply Kd.N_drewN | apply Kd.N_drew)); exact Kd.N_mono HO_7.out (fun _ hk => hk.2)⟩, ⟨by (with_reducible repeat (first | apply Kd.R_alloc | apply Kd.R_drewN | apply Kd.R_drew)); exact HO248.out⟩, ⟨by repeat (first | (with_reducible first | exact HB.out | apply ba_ | apply aa_ | apply da_) | exact HB.out)⟩⟩
              rw [if_neg c28] at H
              exact absurd H (by simp)
             rw [if_neg c27] at H
             exact absurd H (by simp)
            rw [if_neg c26] at H
            exact absurd H (by simp)
           rw [if_neg c24] at H
           have c24b0 : (t239 == 0) = false := beq_eq_false_iff_ne.mpr c24
           have c24b1 : (t239 != 0) = true := bne_iff_ne.mpr c24
           have H' := Aside0.mk H
           clear H
           go_wp2_with (first | ((with_reducible refine gb_ (N := 39) rfl ?_); (try (refine wa_ (by rfl) ?_; dsimp only)); refine Kd.R_lit (Kd.int .i64) _ 3 ?hg (N := 39) ?hd (xs := ([0, 0, 1, 2, 50, 51] : List Int)) (inner := [.int .i64 0, .int .i64 0, .int .i64 1, .int .i64 2, .int .i64 50, .int .i64 51]) (ok := fun _ => True) (okp := fun _ => True) ?hr ?hp (fun _ hk => hk) trivial (Below.refl _ _) (Nat.le_refl _) (by simp) ?_; (case hd => rfl); (case hg => rfl); (case hr => first | (go_simp; done) | (go_simp; rfl)); (case hp => exact (Reps.one (show Kd.M (Kd.int .i64) _ _ _ 0 [.int .i64 0] from rfl) (Reps.one (show Kd.M (Kd.int .i64) _ _ _ 0 [.int .i64 0] from rfl) (Reps.one (show Kd.M (Kd.int .i64) _ _ _ 1 [.int .i64 1] from rfl) (Reps.one (show Kd.M (Kd.int .i64) _ _ _ 2 [.int .i64 2] from rfl) (Reps.one (show Kd.M (Kd.int .i64) _ _ _ 50 [.int .i64 50] from rfl) (Reps.one (show Kd.M (Kd.int .i64) _ _ _ 51 [.int .i64 51] from rfl) (Reps.none _ _)))))))); intro v230 w37 ho38 hb hg_ hnew_; clear hg_ hnew_; (first | rw [← Ny229.out] at ho38 | (simp only [Int.reduceToNat] at ho38; rw [← Ny229.out] at ho38)); have n0_ := Aside0.mk (Kd.N_elder' (by (with_reducible repeat (first | apply Kd.N_alloc | apply Kd.N_drewN | apply Kd.N_drew)); exact HO_7.out) (Kd.R_base ho38) hb); have n1_ := Aside0.mk (Kd.R_below (by (with_reducible repeat (first | apply Kd.R_alloc | apply Kd.R_drewN | apply Kd.R_drew)); exact HO_8.out) hb); have n2_ := Aside0.mk (Kd.R_lower ho38 (na_ (by repeat (first | (with_reducible first | exact HB.out | apply ba_ | apply aa_ | apply da_) | exact HB.out)))); have n3_ := Aside0.mk (ma_ (by repeat (first | (with_reducible first | exact HB.out | apply ba_ | apply aa_ | apply da_) | exact HB.out)) hb); clear HO_7; clear HO_8; clear HB; have HO_7 := n0_; have HO_8 := n1_; have HO231 := n2_; have HB := n3_; clear n0_ n1_ n2_ n3_; clear hb ho38; have p232 : 0 ≤ (x10_2 : Int) := of_decide_eq_true (by first | (with_reducible assumption) | assumption); have q232 : x10_2 < (l2.length : Int) := of_decide_eq_true (by first | (with_reducible assumption) | assumption); obtain ⟨ad232, e232, hx232_0⟩ := Kd.at_int HR2.out x10_2 p232 q232; cases e232; replace hx232_0 := (HB.out.cell (World.block_lt_of_cell? w _ hx232_0)).trans hx232_0; replace p232 := eq_true p232; replace q232 := eq_true q232) | ((with_reducible refine oa_ (f := 8) rfl ?_); refine fb_ (some 44) rfl rfl Tryz.func8 (by kernel_rfl) rfl #[.int .i64 (rd l2 x10_2), .int .i64 6] rfl (by (try simp only [List.map_toArray, List.map_cons, List.map_nil]); first | done | rfl | (simp only [List.length_drop, List.length_take]; rfl)) ?_; (with_reducible refine (l7_within.calls (rd l2 x10_2) 6 t233 _ A18.out).mono ?_); rintro e w' ⟨rfl, ⟨nd, rfl⟩⟩; refine ⟨_, rfl, ?_⟩; obtain ⟨Ao39, co39, eo39⟩ := Kd.R_slice HO231.out; subst eo39; have p234 : 0 ≤ (t233 : Int) := of_decide_eq_true (by first | (with_reducible assumption) | assumption); have q234 : t233 < (y229.length : Int) := of_decide_eq_true (by first | (with_reducible assumption) | assumption); obtain ⟨ad234, e234, hx234_0⟩ := Kd.at_int (Kd.R_reads' HO231.out).2.2 t233 p234 q234; cases e234; replace p234 := eq_true p234; replace q234 := eq_true q234) | ((with_reducible refine od_ (b := .append) (xs := #[.tmp 35, .tmp 48]) rfl ?_); (try (refine wa_ (by rfl) ?_; dsimp only)); at_builtin; refine Kd.R_append k31 (w0 := w) w.heap.size rfl (.tmp 35) (.tmp 48) 29 31 (.agg #[(.int .i64 0), (.int .i64 0), (.int .i64 0), (.int .i64 0), (.int .i64 0)]) 40 rfl Tryz.underlying29 hm_ rfl (by decide) (by omega) u8 x8_2 (⟨x10_2, wrap64 (x10_2 + 1), rd y229 t233, 0, 0⟩ : S31) [.int .i64 x10_2, .int .i64 (wrap64 (x10_2 + 1)), .int .i64 (rd y229 t233), .int .i64 0, .int .i64 0] (fun _ => True) (fun _ => False) rfl rfl ?aP (fun _ hk => hk.elim) ?aF ?aO ?aB ?aS ?aL ?_; (case aP => exact cd_ _ _ _ (⟨x10_2, wrap64 (x10_2 + 1), rd y229 t233, 0, 0⟩ : S31)); (case aB => exact (by repeat (first | (with_reducible first | exact HB.out | apply ba_ | apply aa_ | apply da_) | exact HB.out))); (case aF => exact (fun _ _ => trivial)); (case aO => exact (by (with_reducible repeat (first | apply Kd.R_alloc | apply Kd.R_drewN | apply Kd.R_drew)); exact HO_8.out)); (case aS => exact (na_ (by repeat (first | (with_reducible first | exact HB.out | apply ba_ | apply aa_ | apply da_) | exact HB.out)))); (case aL => have := LMc21.out; omega); intro v236 w40 ho hb hg hat; rw [← Ny235.out] at ho; have n0_ := Aside0.mk (Kd.N_afterv (ok := (fun k_ => some k_ ≠ (.slice (some ad234) y229.length co39 : Value).ownBlock)) (by (with_reducible repeat (first | apply Kd.N_alloc | apply Kd.N_drewN | apply Kd.N_drew)); exact Kd.N_mono HO_7.out (fun _ hk => ⟨hk.2, hk.1⟩)) hg hat); have n1_ := Aside0.mk (Kd.R_over' (by (with_reducible repeat (first | apply Kd.R_alloc | apply Kd.R_drewN | apply Kd.R_drew)); exact HO231.out) (Kd.R_typed (by (with_reducible repeat (first | apply Kd.R_alloc | apply Kd.R_drewN | apply Kd.R_drew)); exact HO_8.out)) (by decide) hg); have n2_ := Aside0.mk (hb); have n3_ := Aside0.mk (ho); clear HO_7; clear HO231; clear HB; clear HO_8; have HO_7 := n0_; have HO231 := n1_; have HB := n2_; have HO237 := n3_; clear n0_ n1_ n2_ n3_; clear ho hb hg hat; have p238 : 0 ≤ (x10_2 : Int) := of_decide_eq_true (by first | (with_reducible assumption) | assumption); have q238 : x10_2 < (l2.length : Int) := of_decide_eq_true (by first | (with_reducible assumption) | assumption); obtain ⟨ad238, e238, hx238_0⟩ := Kd.at_int HR2.out x10_2 p238 q238; obtain rfl : ad232 = ad238 := (by injection e238); replace hx238_0 := (HB.out.cell (World.block_lt_of_cell? w _ hx238_0)).trans hx238_0; replace p238 := eq_true p238; replace q238 := eq_true q238) | (go_at_call 8; (with_reducible refine (l7_within.calls (wrap64 (Int.tdiv (rd l2 x10_2) 6)) 3 t239 _ A23.out).mono ?_); rintro e w' ⟨rfl, ⟨nd, rfl⟩⟩))
           go_roundg k2
           case measure => have := HJ5.out; have := HK2.out; omega
           case rel => exact ⟨(y235), (wrap64 (x10_2 + 1)), (by first | rfl | (simp; done) | (simp [*]; done)), H', ⟨by have := HJ5.out; have := HK2.out; omega⟩, ⟨by (with_reducible repeat (first | apply Kd.N_alloc | apply Kd.N_drewN | apply Kd.N_drew)); exact Kd.N_mono HO_7.out (fun _ hk => hk.2)⟩, ⟨by (with_reducible repeat (first | apply Kd.R_alloc | apply Kd.R_drewN | apply Kd.R_drew)); exact HO237.out⟩, ⟨by repeat (first | (with_reducible first | exact HB.out | apply ba_ | apply aa_ | apply da_) | exact HB.out)⟩⟩
          rw [if_neg c22] at H
          have c22b0 : decide ((wrap64 (x10_2 + 2)) ≤ ji13) = false := decide_eq_false c22
          clear c22
          have H' := Aside0.mk H
          clear H
          go_wp2_with (first | ((with_reducible refine gb_ (N := 39) rfl ?_); (try (refine wa_ (by rfl) ?_; dsimp only)); refine Kd.R_lit (Kd.int .i64) _ 3 ?hg (N := 39) ?hd (xs := ([0, 0, 1, 2, 50, 51] : List Int)) (inner := [.int .i64 0, .int .i64 0, .int .i64 1, .int .i64 2, .int .i64 50, .int .i64 51]) (ok := fun _ => True) (okp := fun _ => True) ?hr ?hp (fun _ hk => hk) trivial (Below.refl _ _) (Nat.le_refl _) (by simp) ?_; (case hd => rfl); (case hg => rfl); (case hr => first | (go_simp; done) | (go_simp; rfl)); (case hp => exact (Reps.one (show Kd.M (Kd.int .i64) _ _ _ 0 [.int .i64 0] from rfl) (Reps.one (show Kd.M (Kd.int .i64) _ _ _ 0 [.int .i64 0] from rfl) (Reps.one (show Kd.M (Kd.int .i64) _ _ _ 1 [.int .i64 1] from rfl) (Reps.one (show Kd.M (Kd.int .i64) _ _ _ 2 [.int .i64 2] from rfl) (Reps.one (show Kd.M (Kd.int .i64) _ _ _ 50 [.int .i64 50] from rfl) (Reps.one (show Kd.M (Kd.int .i64) _ _ _ 51 [.int .i64 51] from rfl) (Reps.none _ _)))))))); intro v230 w41 ho42 hb hg_ hnew_; clear hg_ hnew_; (first | rw [← Ny229.out] at ho42 | (simp only [Int.reduceToNat] at ho42; rw [← Ny229.out] at ho42)); have n0_ := Aside0.mk (Kd.N_elder' (by (with_reducible repeat (first | apply Kd.N_alloc | apply Kd.N_drewN | apply Kd.N_drew)); exact HO_7.out) (Kd.R_base ho42) hb); have n1_ := Aside0.mk (Kd.R_below (by (with_reducible repeat (first | apply Kd.R_alloc | apply Kd.R_drewN | apply Kd.R_drew)); exact HO_8.out) hb); have n2_ := Aside0.mk (Kd.R_lower ho42 (na_ (by repeat (first | (with_reducible first | exact HB.out | apply ba_ | apply aa_ | apply da_) | exact HB.out)))); have n3_ := Aside0.mk (ma_ (by repeat (first | (with_reducible first | exact HB.out | apply ba_ | apply aa_ | apply da_) | exact HB.out)) hb); clear HO_7; clear HO_8; clear HB; have HO_7 := n0_; have HO_8 := n1_; have HO231 := n2_; have HB := n3_; clear n0_ n1_ n2_ n3_; clear hb ho42; have p232 : 0 ≤ (x10_2 : Int) := of_decide_eq_true (by first | (with_reducible assumption) | assumption); have q232 : x10_2 < (l2.length : Int) := of_decide_eq_true (by first | (with_reducible assumption) | assumption); obtain ⟨ad232, e232, hx232_0⟩ := Kd.at_int HR2.out x10_2 p232 q232; cases e232; replace hx232_0 := (HB.out.cell (World.block_lt_of_cell? w _ hx232_0)).trans hx232_0; replace p232 := eq_true p232; replace q232 := eq_true q232) | ((with_reducible refine oa_ (f := 8) rfl ?_); refine fb_ (some 44) rfl rfl Tryz.func8 (by kernel_rfl) rfl #[.int .i64 (rd l2 x10_2), .int .i64 6] rfl (by (try simp only [List.map_toArray, List.map_cons, List.map_nil]); first | done | rfl | (simp only [List.length_drop, List.length_take]; rfl)) ?_; (with_reducible refine (l7_within.calls (rd l2 x10_2) 6 t233 _ A18.out).mono ?_); rintro e w' ⟨rfl, ⟨nd, rfl⟩⟩; refine ⟨_, rfl, ?_⟩; obtain ⟨Ao43, co43, eo43⟩ := Kd.R_slice HO231.out; subst eo43; have p234 : 0 ≤ (t233 : Int) := of_decide_eq_true (by first | (with_reducible assumption) | assumption); have q234 : t233 < (y229.length : Int) := of_decide_eq_true (by first | (with_reducible assumption) | assumption); obtain ⟨ad234, e234, hx234_0⟩ := Kd.at_int (Kd.R_reads' HO231.out).2.2 t233 p234 q234; cases e234; replace p234 := eq_true p234; replace q234 := eq_true q234) | ((with_reducible refine od_ (b := .append) (xs := #[.tmp 35, .tmp 48]) rfl ?_); (try (refine wa_ (by rfl) ?_; dsimp only)); at_builtin; refine Kd.R_append k31 (w0 := w) w.heap.size rfl (.tmp 35) (.tmp 48) 29 31 (.agg #[(.int .i64 0), (.int .i64 0), (.int .i64 0), (.int .i64 0), (.int .i64 0)]) 40 rfl Tryz.underlying29 hm_ rfl (by decide) (by omega) u8 x8_2 (⟨x10_2, wrap64 (x10_2 + 1), rd y229 t233, 0, 0⟩ : S31) [.int .i64 x10_2, .int .i64 (wrap64 (x10_2 + 1)), .int .i64 (rd y229 t233), .int .i64 0, .int .i64 0] (fun _ => True) (fun _ => False) rfl rfl ?aP (fun _ hk => hk.elim) ?aF ?aO ?aB ?aS ?aL ?_; (case aP => exact cd_ _ _ _ (⟨x10_2, wrap64 (x10_2 + 1), rd y229 t233, 0, 0⟩ : S31)); (case aB => exact (by repeat (first | (with_reducible first | exact HB.out | apply ba_ | apply aa_ | apply da_) | exact HB.out))); (case aF => exact (fun _ _ => trivial)); (case aO => exact (by (with_reducible repeat (first | apply Kd.R_alloc | apply Kd.R_drewN | apply Kd.R_drew)); exact HO_8.out)); (case aS => exact (na_ (by repeat (first | (with_reducible first | exact HB.out | apply ba_ | apply aa_ | apply da_) | exact HB.out)))); (case aL => have := LMc21.out; omega); intro v236 w44 ho hb hg hat; rw [← Ny235.out] at ho; have n0_ := Aside0.mk (Kd.N_afterv (ok := (fun k_ => some k_ ≠ (.slice (some ad234) y229.length co43 : Value).ownBlock)) (by (with_reducible repeat (first | apply Kd.N_alloc | apply Kd.N_drewN | apply Kd.N_drew)); exact Kd.N_mono HO_7.out (fun _ hk => ⟨hk.2, hk.1⟩)) hg hat); have n1_ := Aside0.mk (Kd.R_over' (by (with_reducible repeat (first | apply Kd.R_alloc | apply Kd.R_drewN | apply Kd.R_drew)); exact HO231.out) (Kd.R_typed (by (with_reducible repeat (first | apply Kd.R_alloc | apply Kd.R_drewN | apply Kd.R_drew)); exact HO_8.out)) (by decide) hg); have n2_ := Aside0.mk (hb); have n3_ := Aside0.mk (ho); clear HO_7; clear HO231; clear HB; clear HO_8; have HO_7 := n0_; have HO231 := n1_; have HB := n2_; have HO237 := n3_; clear n0_ n1_ n2_ n3_; clear ho hb hg hat))
          go_roundg k2
          case measure => have := HJ5.out; have := HK2.out; omega
          case rel => exact ⟨(y235), (wrap64 (x10_2 + 1)), (by first | rfl | (simp; done) | (simp [*]; done)), H', ⟨by have := HJ5.out; have := HK2.out; omega⟩, ⟨by (with_reducible repeat (first | apply Kd.N_alloc | apply Kd.N_drewN | apply Kd.N_drew)); exact Kd.N_mono HO_7.out (fun _ hk => hk.2)⟩, ⟨by (with_reducible repeat (first | apply Kd.R_alloc | apply Kd.R_drewN | apply Kd.R_drew)); exact HO237.out⟩, ⟨by repeat (first | (with_reducible first | exact HB.out | apply ba_ | apply aa_ | apply da_) | exact HB.out)⟩⟩
         rw [if_neg c21] at H
         exact absurd H (by simp)
        rw [if_neg c20] at H
        exact absurd H (by simp)
       rw [if_neg c19] at H
       exact absurd H (by simp)
      rw [if_neg c17] at H
      exact absurd H (by simp)
     rw [if_neg c16] at H
     exact absurd H (by simp)
    rw [if_neg c15] at H
    have c15b0 : decide (x10_2 < ji13) = false := decide_eq_false c15
    clear c15
    replace H := Option.bind_eq_some_iff.mp H
    obtain ⟨t249, A450, H⟩ := H
    replace H : ((interlocutorref7_Spans.f t226 x8_2 ji13).bind fun t252 => ((l7_same.f k2 t249 t252).bind fun t255 => (if t255 = true then (l7_ChartRules.l1 k2 t226 x8_2 ji13 0) else (some false)))) = some r := H
    have A45 := Aside0.mk A450
    clear A450
    replace H := Option.bind_eq_some_iff.mp H
    obtain ⟨t252, A460, H⟩ := H
    replace H : ((l7_same.f k2 t249 t252).bind fun t255 => (if t255 = true then (l7_ChartRules.l1 k2 t226 x8_2 ji13 0) else (some false))) = some r := H
    have A46 := Aside0.mk A460
    clear A460
    replace H := Option.bind_eq_some_iff.mp H
    obtain ⟨t255, A470, H⟩ := H
    replace H : (if t255 = true then (l7_ChartRules.l1 k2 t226 x8_2 ji13 0) else (some false)) = some r := H
    have A47 := Aside0.mk A470
    clear A470
    by_cases c48 : t255 = true
    ·subst c48
     have H1 : (l7_ChartRules.l1 k2 t226 x8_2 ji13 0) = some r := by rw [if_pos rfl] at H; exact H
     clear H
     have H := H1
     clear H1
     have H' := Aside0.mk H
     clear H
     obtain ⟨Ao49, co49, eo49⟩ := Kd.N_slice HO_7.out
     subst eo49
     obtain ⟨Ao50, co50, eo50⟩ := Kd.R_slice HO_8.out
     subst eo50
     go_wp2_with (first | ((with_reducible refine oa_ (f := 10) rfl ?_); refine fb_ (some 82) rfl rfl Tryz.func10 (by kernel_rfl) rfl #[.slice Ao49 t226.length co49, .slice Ao50 x8_2.length co50, .int .i64 ji13] rfl (by (try simp only [List.map_toArray, List.map_cons, List.map_nil]); first | done | (simp only [hji13]; rfl) | rfl | (simp only [List.length_drop, List.length_take]; rfl)) ?_; (with_reducible refine (chart_Spans.calls _ _ t226 _ _ x8_2 ji13 t249 _ ?side1 ?side2 ?side3 ?side4 A45.out).mono ?_); (case side1 => repeat (first | exact (Kd.N_reads' HO_7.out).2.2 | (with_reducible refine Kd.C_alloc ?_ _) | (with_reducible refine Kd.C_drewN ?_ _) | (with_reducible refine Kd.C_drew ?_))); (case side2 => exact (Kd.N_reads' HO_7.out).2.1); (case side3 => repeat (first | exact (Kd.R_reads' HO_8.out).2.2 | (with_reducible refine Kd.C_alloc ?_ _) | (with_reducible refine Kd.C_drewN ?_ _) | (with_reducible refine Kd.C_drew ?_))); (case side4 => exact (Kd.R_reads' HO_8.out).2.1); rintro e w51 ⟨v250, rfl, ho0, hb⟩; refine ⟨_, rfl, ?_⟩; have n0_ := Aside0.mk (Kd.N_elder' (by (with_reducible repeat (first | apply Kd.N_alloc | apply Kd.N_drewN | apply Kd.N_drew)); exact HO_7.out) (Kd.R_base ho0) hb); have n1_ := Aside0.mk (Kd.R_below (by (with_reducible repeat (first | apply Kd.R_alloc | apply Kd.R_drewN | apply Kd.R_drew)); exact HO_8.out) hb); have n2_ := Aside0.mk (Kd.R_lower ho0 (na_ (by repeat (first | (with_reducible first | exact HB.out | apply ba_ | apply aa_ | apply da_) | exact HB.out)))); have n3_ := Aside0.mk (ma_ (by repeat (first | (with_reducible first | exact HB.out | apply ba_ | apply aa_ | apply da_) | exact HB.out)) hb); clear HO_7; clear HO_8; clear HB; have HO_7 := n0_; have HO_8 := n1_; have HO251 := n2_; have HB := n3_; clear n0_ n1_ n2_ n3_; (try clear hb); (try clear hb2); (try clear hk); (try clear hi); (try clear ho0)) | ((with_reducible refine oa_ (f := 11) rfl ?_); refine fb_ (some 86) rfl rfl Tryz.func11 (by kernel_rfl) rfl #[.slice Ao49 t226.length co49, .slice Ao50 x8_2.length co50, .int .i64 ji13] rfl (by (try simp only [List.map_toArray, List.map_cons, List.map_nil]); first | done | (simp only [hji13]; rfl) | rfl | (simp only [List.length_drop, List.length_take]; rfl)) ?_; (with_reducible refine (interlocutorref7_Spans.calls _ _ t226 _ _ x8_2 ji13 t252 _ ?side1 ?side2 ?side3 ?side4 A46.out).mono ?_); (case side1 => repeat (first | exact (Kd.N_reads' HO_7.out).2.2 | (with_reducible refine Kd.C_alloc ?_ _) | (with_reducible refine Kd.C_drewN ?_ _) | (with_reducible refine Kd.C_drew ?_))); (case side2 => exact (Kd.N_reads' HO_7.out).2.1); (case side3 => repeat (first | exact (Kd.R_reads' HO_8.out).2.2 | (with_reducible refine Kd.C_alloc ?_ _) | (with_reducible refine Kd.C_drewN ?_ _) | (with_reducible refine Kd.C_drew ?_))); (case side4 => exact (Kd.R_reads' HO_8.out).2.1); rintro e w52 ⟨v253, rfl, ho0, hb⟩; refine ⟨_, rfl, ?_⟩; have n0_ := Aside0.mk (Kd.N_elder' (by (with_reducible repeat (first | apply Kd.N_alloc | apply Kd.N_drewN | apply Kd.N_drew)); exact HO_7.out) (Kd.R_base ho0) hb); have n1_ := Aside0.mk (Kd.R_below (by (with_reducible repeat (first | apply Kd.R_alloc | apply Kd.R_drewN | apply Kd.R_drew)); exact HO_8.out) hb); have n2_ := Aside0.mk (Kd.R_below (by (with_reducible repeat (first | apply Kd.R_alloc | apply Kd.R_drewN | apply Kd.R_drew)); exact HO251.out) hb); have n3_ := Aside0.mk (Kd.R_lower ho0 (na_ (by repeat (first | (with_reducible first | exact HB.out | apply ba_ | apply aa_ | apply da_) | exact HB.out)))); have n4_ := Aside0.mk (ma_ (by repeat (first | (with_reducible first | exact HB.out | apply ba_ | apply aa_ | apply da_) | exact HB.out)) hb); clear HO_7; clear HO_8; clear HO251; clear HB; have HO_7 := n0_; have HO_8 := n1_; have HO251 := n2_; have HO254 := n3_; have HB := n4_; clear n0_ n1_ n2_ n3_ n4_; (try clear hb); (try clear hb2); (try clear hk); (try clear hi); (try clear ho0); obtain ⟨Ao53, co53, eo53⟩ := Kd.R_slice HO251.out; subst eo53; obtain ⟨Ao54, co54, eo54⟩ := Kd.R_slice HO254.out; subst eo54) | ((with_reducible refine oa_ (f := 9) rfl ?_); refine fb_ (some 87) rfl rfl Tryz.func9 (by kernel_rfl) rfl #[.slice Ao53 t249.length co53, .slice Ao54 t252.length co54] rfl (by (try simp only [List.map_toArray, List.map_cons, List.map_nil]); first | done | rfl | (simp only [List.length_drop, List.length_take]; rfl)) ?_; (with_reducible refine (l7_same.calls k2 _ _ t249 _ _ t252 true _ ?side1 ?side2 ?side3 ?side4 A47.out).mono ?_); (case side1 => repeat (first | exact (Kd.R_reads' HO251.out).2.2 | (with_reducible refine Kd.C_alloc ?_ _) | (with_reducible refine Kd.C_drewN ?_ _) | (with_reducible refine Kd.C_drew ?_))); (case side2 => exact (Kd.R_reads' HO251.out).2.1); (case side3 => repeat (first | exact (Kd.R_reads' HO254.out).2.2 | (with_reducible refine Kd.C_alloc ?_ _) | (with_reducible refine Kd.C_drewN ?_ _) | (with_reducible refine Kd.C_drew ?_))); (case side4 => exact (Kd.R_reads' HO254.out).2.1); rintro e w' ⟨rfl, ⟨nd, rfl⟩⟩; refine ⟨_, rfl, ?_⟩))
     go_loopg [11] k2 (fun kq v11 w' => ∃ (x11_3 : Int), v11 = .int .i64 x11_3 ∧ Aside0 (l7_ChartRules.l1 kq t226 x8_2 ji13 x11_3 = some r) ∧ Aside0 (kq ≤ k2) ∧ Aside0 (Kd.N k48 48 w' w.heap.size (fun k_ => some k_ ≠ ((.slice Ao50 x8_2.length co50) : Value).ownBlock) (.slice Ao49 t226.length co49) t226) ∧ Aside0 (Kd.R k31 31 w' w.heap.size (fun _ => True) (.slice Ao50 x8_2.length co50) x8_2) ∧ Aside0 (Below w.heap.size w w'))
     case atStart => exact ⟨(0), (by first | rfl | (simp; done) | (simp [*]; done)), H', ⟨Nat.le_refl _⟩, ⟨by (with_reducible repeat (first | apply Kd.N_alloc | apply Kd.N_drewN | apply Kd.N_drew)); exact Kd.N_mono HO_7.out (fun _ hk => hk.1.1)⟩, ⟨by (with_reducible repeat (first | apply Kd.R_alloc | apply Kd.R_drewN | apply Kd.R_drew)); exact HO_8.out⟩, ⟨by repeat (first | (with_reducible first | exact HB.out | apply ba_ | apply aa_ | apply da_) | exact HB.out)⟩⟩
     clear H'
     try clear c1
     try clear c2
     try clear p2
     try clear q2
     try clear hx2
     try clear c3
     try clear c4
     try clear c5
     try clear c6
     try clear p6
     try clear c7
     try clear c8
     try clear c9
     try clear c10
     try clear c11
     try clear c15
     try clear c15b0
     try clear c16
     try clear c16b0
     try clear c17
     try clear c17b0
     try clear c19
     try clear c19b0
     try clear c20
     try clear c20b0
     try clear c21
     try clear c22
     try clear c22b0
     try clear p23
     try clear q23
     try clear hx23
     try clear c24
     try clear c24b0
     try clear c24b1
     try clear p24
     try clear q24
     try clear hx24
     try clear c26
     try clear c26b0
     try clear c27
     try clear c27b0
     try clear c28
     try clear c48
     try clear hx232_0
     try clear hx234_0
     try clear hx238_0
     try clear hx243_0
     try clear hx245_0
     try clear p2
     try clear p232
     try clear p234
     try clear p238
     try clear p243
     try clear p245
     try clear p6
     try clear q232
     try clear q234
     try clear q238
     try clear q243
     try clear q245
     obtain ⟨x11_3, rfl, HA, HK3, HO_7, HO_8, HB⟩ := hrel
     cases gk with
     | zero => exact absurd HA.out (by simp [l7_ChartRules.l1])
     | succ k3 =>
      have H := HA.out
      clear HA
      simp only [l7_ChartRules.l1] at H
      by_cases c55 : x11_3 < 5
      ·rw [if_pos c55] at H
       have c55b0 : decide (x11_3 < 5) = true := decide_eq_true c55
       clear c55
       replace H := Option.bind_eq_some_iff.mp H
       obtain ⟨t256, A560, H⟩ := H
       replace H : ((interlocutorref7_Count.f t226 x8_2 x11_3 0 ji13 1000000).bind fun t257 => (if t256 = t257 then (l7_ChartRules.l1 k3 t226 x8_2 ji13 (wrap64 (x11_3 + 1))) else (some false))) = some r := H
       have A56 := Aside0.mk A560
       clear A560
       replace H := Option.bind_eq_some_iff.mp H
       obtain ⟨t257, A570, H⟩ := H
       replace H : (if t256 = t257 then (l7_ChartRules.l1 k3 t226 x8_2 ji13 (wrap64 (x11_3 + 1))) else (some false)) = some r := H
       have A57 := Aside0.mk A570
       clear A570
       by_cases c58 : t256 = t257
       ·rw [if_pos c58] at H
        have c58b0 : (t256 == t257) = true := beq_iff_eq.mpr c58
        have c58b1 : (t256 != t257) = false := bne_eq_false_iff_eq.mpr c58
        clear c58
        have H' := Aside0.mk H
        clear H
        go_wp2_with (first | ((with_reducible refine oa_ (f := 12) rfl ?_); refine fb_ (some 97) rfl rfl Tryz.func12 (by kernel_rfl) rfl #[.slice Ao49 t226.length co49, .slice Ao50 x8_2.length co50, .int .i64 x11_3, .int .i64 0, .int .i64 ji13, .int .i64 1000000] rfl (by (try simp only [List.map_toArray, List.map_cons, List.map_nil]); first | done | (simp only [hji13]; rfl) | rfl | (simp only [List.length_drop, List.length_take]; rfl)) ?_; (with_reducible refine (chart_Count.calls _ _ t226 _ _ x8_2 x11_3 0 ji13 1000000 t256 _ ?side1 ?side2 ?side3 ?side4 A56.out).mono ?_); (case side1 => repeat (first | exact (Kd.N_reads' HO_7.out).2.2 | (with_reducible refine Kd.C_alloc ?_ _) | (with_reducible refine Kd.C_drewN ?_ _) | (with_reducible refine Kd.C_drew ?_))); (case side2 => exact (Kd.N_reads' HO_7.out).2.1); (case side3 => repeat (first | exact (Kd.R_reads' HO_8.out).2.2 | (with_reducible refine Kd.C_alloc ?_ _) | (with_reducible refine Kd.C_drewN ?_ _) | (with_reducible refine Kd.C_drew ?_))); (case side4 => exact (Kd.R_reads' HO_8.out).2.1); rintro e w59 ⟨rfl, hb⟩; refine ⟨_, rfl, ?_⟩; have n0_ := Aside0.mk (Kd.N_below (by (with_reducible repeat (first | apply Kd.N_alloc | apply Kd.N_drewN | apply Kd.N_drew)); exact HO_7.out) hb); have n1_ := Aside0.mk (Kd.R_below (by (with_reducible repeat (first | apply Kd.R_alloc | apply Kd.R_drewN | apply Kd.R_drew)); exact HO_8.out) hb); have n2_ := Aside0.mk (ma_ (by repeat (first | (with_reducible first | exact HB.out | apply ba_ | apply aa_ | apply da_) | exact HB.out)) hb); clear HO_7; clear HO_8; clear HB; have HO_7 := n0_; have HO_8 := n1_; have HB := n2_; clear n0_ n1_ n2_; (try clear hb); (try clear hb2); (try clear hk); (try clear hi)) | ((with_reducible refine oa_ (f := 13) rfl ?_); refine fb_ (some 102) rfl rfl Tryz.func13 (by kernel_rfl) rfl #[.slice Ao49 t226.length co49, .slice Ao50 x8_2.length co50, .int .i64 x11_3, .int .i64 0, .int .i64 ji13, .int .i64 1000000] rfl (by (try simp only [List.map_toArray, List.map_cons, List.map_nil]); first | done | (simp only [hji13]; rfl) | rfl | (simp only [List.length_drop, List.length_take]; rfl)) ?_; (with_reducible refine (interlocutorref7_Count.calls _ _ t226 _ _ x8_2 x11_3 0 ji13 1000000 t257 _ ?side1 ?side2 ?side3 ?side4 A57.out).mono ?_); (case side1 => repeat (first | exact (Kd.N_reads' HO_7.out).2.2 | (with_reducible refine Kd.C_alloc ?_ _) | (with_reducible refine Kd.C_drewN ?_ _) | (with_reducible refine Kd.C_drew ?_))); (case side2 => exact (Kd.N_reads' HO_7.out).2.1); (case side3 => repeat (first | exact (Kd.R_reads' HO_8.out).2.2 | (with_reducible refine Kd.C_alloc ?_ _) | (with_reducible refine Kd.C_drewN ?_ _) | (with_reducible refine Kd.C_drew ?_))); (case side4 => exact (Kd.R_reads' HO_8.out).2.1); rintro e w60 ⟨rfl, hb⟩; refine ⟨_, rfl, ?_⟩; have n0_ := Aside0.mk (Kd.N_below (by (with_reducible repeat (first | apply Kd.N_alloc | apply Kd.N_drewN | apply Kd.N_drew)); exact HO_7.out) hb); have n1_ := Aside0.mk (Kd.R_below (by (with_reducible repeat (first | apply Kd.R_alloc | apply Kd.R_drewN | apply Kd.R_drew)); exact HO_8.out) hb); have n2_ := Aside0.mk (ma_ (by repeat (first | (with_reducible first | exact HB.out | apply ba_ | apply aa_ | apply da_) | exact HB.out)) hb); clear HO_7; clear HO_8; clear HB; have HO_7 := n0_; have HO_8 := n1_; have HB := n2_; clear n0_ n1_ n2_; (try clear hb); (try clear hb2); (try clear hk); (try clear hi)))
        go_roundg k3
        case measure => have := HJ5.out; have := HK2.out; have := HK3.out; omega
        case rel => exact ⟨(wrap64 (x11_3 + 1)), (by first | rfl | (simp; done) | (simp [*]; done)), H', ⟨by have := HJ5.out; have := HK2.out; have := HK3.out; omega⟩, ⟨by (with_reducible repeat (first | apply Kd.N_alloc | apply Kd.N_drewN | apply Kd.N_drew)); exact HO_7.out⟩, ⟨by (with_reducible repeat (first | apply Kd.R_alloc | apply Kd.R_drewN | apply Kd.R_drew)); exact HO_8.out⟩, ⟨by repeat (first | (with_reducible first | exact HB.out | apply ba_ | apply aa_ | apply da_) | exact HB.out)⟩⟩
       rw [if_neg c58] at H
       have c58b0 : (t256 == t257) = false := beq_eq_false_iff_ne.mpr c58
       have c58b1 : (t256 != t257) = true := bne_iff_ne.mpr c58
       obtain rfl := Option.some.inj H
       go_wp2_with (first | ((with_reducible refine oa_ (f := 12) rfl ?_); refine fb_ (some 97) rfl rfl Tryz.func12 (by kernel_rfl) rfl #[.slice Ao49 t226.length co49, .slice Ao50 x8_2.length co50, .int .i64 x11_3, .int .i64 0, .int .i64 ji13, .int .i64 1000000] rfl (by (try simp only [List.map_toArray, List.map_cons, List.map_nil]); first | done | (simp only [hji13]; rfl) | rfl | (simp only [List.length_drop, List.length_take]; rfl)) ?_; (with_reducible refine (chart_Count.calls _ _ t226 _ _ x8_2 x11_3 0 ji13 1000000 t256 _ ?side1 ?side2 ?side3 ?side4 A56.out).mono ?_); (case side1 => repeat (first | exact (Kd.N_reads' HO_7.out).2.2 | (with_reducible refine Kd.C_alloc ?_ _) | (with_reducible refine Kd.C_drewN ?_ _) | (with_reducible refine Kd.C_drew ?_))); (case side2 => exact (Kd.N_reads' HO_7.out).2.1); (case side3 => repeat (first | exact (Kd.R_reads' HO_8.out).2.2 | (with_reducible refine Kd.C_alloc ?_ _) | (with_reducible refine Kd.C_drewN ?_ _) | (with_reducible refine Kd.C_drew ?_))); (case side4 => exact (Kd.R_reads' HO_8.out).2.1); rintro e w61 ⟨rfl, hb⟩; refine ⟨_, rfl, ?_⟩; have n0_ := Aside0.mk (Kd.N_below (by (with_reducible repeat (first | apply Kd.N_alloc | apply Kd.N_drewN | apply Kd.N_drew)); exact HO_7.out) hb); have n1_ := Aside0.mk (Kd.R_below (by (with_reducible repeat (first | apply Kd.R_alloc | apply Kd.R_drewN | apply Kd.R_drew)); exact HO_8.out) hb); have n2_ := Aside0.mk (ma_ (by repeat (first | (with_reducible first | exact HB.out | apply ba_ | apply aa_ | apply da_) | exact HB.out)) hb); clear HO_7; clear HO_8; clear HB; have HO_7 := n0_; have HO_8 := n1_; have HB := n2_; clear n0_ n1_ n2_; (try clear hb); (try clear hb2); (try clear hk); (try clear hi)) | ((with_reducible refine oa_ (f := 13) rfl ?_); refine fb_ (some 102) rfl rfl Tryz.func13 (by kernel_rfl) rfl #[.slice Ao49 t226.length co49, .slice Ao50 x8_2.length co50, .int .i64 x11_3, .int .i64 0, .int .i64 ji13, .int .i64 1000000] rfl (by (try simp only [List.map_toArray, List.map_cons, List.map_nil]); first | done | (simp only [hji13]; rfl) | rfl | (simp only [List.length_drop, List.length_take]; rfl)) ?_; (with_reducible refine (interlocutorref7_Count.calls _ _ t226 _ _ x8_2 x11_3 0 ji13 1000000 t257 _ ?side1 ?side2 ?side3 ?side4 A57.out).mono ?_); (case side1 => repeat (first | exact (Kd.N_reads' HO_7.out).2.2 | (with_reducible refine Kd.C_alloc ?_ _) | (with_reducible refine Kd.C_drewN ?_ _) | (with_reducible refine Kd.C_drew ?_))); (case side2 => exact (Kd.N_reads' HO_7.out).2.1); (case side3 => repeat (first | exact (Kd.R_reads' HO_8.out).2.2 | (with_reducible refine Kd.C_alloc ?_ _) | (with_reducible refine Kd.C_drewN ?_ _) | (with_reducible refine Kd.C_drew ?_))); (case side4 => exact (Kd.R_reads' HO_8.out).2.1); rintro e w62 ⟨rfl, hb⟩; refine ⟨_, rfl, ?_⟩; have n0_ := Aside0.mk (Kd.N_below (by (with_reducible repeat (first | apply Kd.N_alloc | apply Kd.N_drewN | apply Kd.N_drew)); exact HO_7.out) hb); have n1_ := Aside0.mk (Kd.R_below (by (with_reducible repeat (first | apply Kd.R_alloc | apply Kd.R_drewN | apply Kd.R_drew)); exact HO_8.out) hb); have n2_ := Aside0.mk (ma_ (by repeat (first | (with_reducible first | exact HB.out | apply ba_ | apply aa_ | apply da_) | exact HB.out)) hb); clear HO_7; clear HO_8; clear HB; have HO_7 := n0_; have HO_8 := n1_; have HB := n2_; clear n0_ n1_ n2_; (try clear hb); (try clear hb2); (try clear hk); (try clear hi)))
       go_ret
       exact ⟨by first | rfl | (simp [ta_, sa_] <;> rfl) | (simp only [← hji13]; first | rfl | (simp [ta_, sa_] <;> rfl)) | (simp [*, ta_, sa_] <;> rfl), by repeat (first | (with_reducible first | exact HB.out | apply ba_ | apply aa_ | apply da_) | exact HB.out)⟩
      rw [if_neg c55] at H
      have c55b0 : decide (x11_3 < 5) = false := decide_eq_false c55
      clear c55
      obtain rfl := Option.some.inj H
      go_wp2
      go_ret
      exact ⟨by first | rfl | (simp [ta_, sa_] <;> rfl) | (simp only [← hji13]; first | rfl | (simp [ta_, sa_] <;> rfl)) | (simp [*, ta_, sa_] <;> rfl), by repeat (first | (with_reducible first | exact HB.out | apply ba_ | apply aa_ | apply da_) | exact HB.out)⟩
    replace c48 := Bool.eq_false_iff.mpr c48
    subst c48
    have H1 : (some false) = some r := by rw [if_neg (show ¬ (false = true) by decide)] at H; exact H
    clear H
    have H := H1
    clear H1
    obtain rfl := Option.some.inj H
    obtain ⟨Ao63, co63, eo63⟩ := Kd.N_slice HO_7.out
    subst eo63
    obtain ⟨Ao64, co64, eo64⟩ := Kd.R_slice HO_8.out
    subst eo64
    go_wp2_with (first | ((with_reducible refine oa_ (f := 10) rfl ?_); refine fb_ (some 82) rfl rfl Tryz.func10 (by kernel_rfl) rfl #[.slice Ao63 t226.length co63, .slice Ao64 x8_2.length co64, .int .i64 ji13] rfl (by (try simp only [List.map_toArray, List.map_cons, List.map_nil]); first | done | (simp only [hji13]; rfl) | rfl | (simp only [List.length_drop, List.length_take]; rfl)) ?_; (with_reducible refine (chart_Spans.calls _ _ t226 _ _ x8_2 ji13 t249 _ ?side1 ?side2 ?side3 ?side4 A45.out).mono ?_); (case side1 => repeat (first | exact (Kd.N_reads' HO_7.out).2.2 | (with_reducible refine Kd.C_alloc ?_ _) | (with_reducible refine Kd.C_drewN ?_ _) | (with_reducible refine Kd.C_drew ?_))); (case side2 => exact (Kd.N_reads' HO_7.out).2.1); (case side3 => repeat (first | exact (Kd.R_reads' HO_8.out).2.2 | (with_reducible refine Kd.C_alloc ?_ _) | (with_reducible refine Kd.C_drewN ?_ _) | (with_reducible refine Kd.C_drew ?_))); (case side4 => exact (Kd.R_reads' HO_8.out).2.1); rintro e w65 ⟨v250, rfl, ho0, hb⟩; refine ⟨_, rfl, ?_⟩; have n0_ := Aside0.mk (Kd.N_elder' (by (with_reducible repeat (first | apply Kd.N_alloc | apply Kd.N_drewN | apply Kd.N_drew)); exact HO_7.out) (Kd.R_base ho0) hb); have n1_ := Aside0.mk (Kd.R_below (by (with_reducible repeat (first | apply Kd.R_alloc | apply Kd.R_drewN | apply Kd.R_drew)); exact HO_8.out) hb); have n2_ := Aside0.mk (Kd.R_lower ho0 (na_ (by repeat (first | (with_reducible first | exact HB.out | apply ba_ | apply aa_ | apply da_) | exact HB.out)))); have n3_ := Aside0.mk (ma_ (by repeat (first | (with_reducible first | exact HB.out | apply ba_ | apply aa_ | apply da_) | exact HB.out)) hb); clear HO_7; clear HO_8; clear HB; have HO_7 := n0_; have HO_8 := n1_; have HO251 := n2_; have HB := n3_; clear n0_ n1_ n2_ n3_; (try clear hb); (try clear hb2); (try clear hk); (try clear hi); (try clear ho0)) | ((with_reducible refine oa_ (f := 11) rfl ?_); refine fb_ (some 86) rfl rfl Tryz.func11 (by kernel_rfl) rfl #[.slice Ao63 t226.length co63, .slice Ao64 x8_2.length co64, .int .i64 ji13] rfl (by (try simp only [List.map_toArray, List.map_cons, List.map_nil]); first | done | (simp only [hji13]; rfl) | rfl | (simp only [List.length_drop, List.length_take]; rfl)) ?_; (with_reducible refine (interlocutorref7_Spans.calls _ _ t226 _ _ x8_2 ji13 t252 _ ?side1 ?side2 ?side3 ?side4 A46.out).mono ?_); (case side1 => repeat (first | exact (Kd.N_reads' HO_7.out).2.2 | (with_reducible refine Kd.C_alloc ?_ _) | (with_reducible refine Kd.C_drewN ?_ _) | (with_reducible refine Kd.C_drew ?_))); (case side2 => exact (Kd.N_reads' HO_7.out).2.1); (case side3 => repeat (first | exact (Kd.R_reads' HO_8.out).2.2 | (with_reducible refine Kd.C_alloc ?_ _) | (with_reducible refine Kd.C_drewN ?_ _) | (with_reducible refine Kd.C_drew ?_))); (case side4 => exact (Kd.R_reads' HO_8.out).2.1); rintro e w66 ⟨v253, rfl, ho0, hb⟩; refine ⟨_, rfl, ?_⟩; have n0_ := Aside0.mk (Kd.N_elder' (by (with_reducible repeat (first | apply Kd.N_alloc | apply Kd.N_drewN | apply Kd.N_drew)); exact HO_7.out) (Kd.R_base ho0) hb); have n1_ := Aside0.mk (Kd.R_below (by (with_reducible repeat (first | apply Kd.R_alloc | apply Kd.R_drewN | apply Kd.R_drew)); exact HO_8.out) hb); have n2_ := Aside0.mk (Kd.R_below (by (with_reducible repeat (first | apply Kd.R_alloc | apply Kd.R_drewN | apply Kd.R_drew)); exact HO251.out) hb); have n3_ := Aside0.mk (Kd.R_lower ho0 (na_ (by repeat (first | (with_reducible first | exact HB.out | apply ba_ | apply aa_ | apply da_) | exact HB.out)))); have n4_ := Aside0.mk (ma_ (by repeat (first | (with_reducible first | exact HB.out | apply ba_ | apply aa_ | apply da_) | exact HB.out)) hb); clear HO_7; clear HO_8; clear HO251; clear HB; have HO_7 := n0_; have HO_8 := n1_; have HO251 := n2_; have HO254 := n3_; have HB := n4_; clear n0_ n1_ n2_ n3_ n4_; (try clear hb); (try clear hb2); (try clear hk); (try clear hi); (try clear ho0); obtain ⟨Ao67, co67, eo67⟩ := Kd.R_slice HO251.out; subst eo67; obtain ⟨Ao68, co68, eo68⟩ := Kd.R_slice HO254.out; subst eo68) | ((with_reducible refine oa_ (f := 9) rfl ?_); refine fb_ (some 87) rfl rfl Tryz.func9 (by kernel_rfl) rfl #[.slice Ao67 t249.length co67, .slice Ao68 t252.length co68] rfl (by (try simp only [List.map_toArray, List.map_cons, List.map_nil]); first | done | rfl | (simp only [List.length_drop, List.length_take]; rfl)) ?_; (with_reducible refine (l7_same.calls k2 _ _ t249 _ _ t252 false _ ?side1 ?side2 ?side3 ?side4 A47.out).mono ?_); (case side1 => repeat (first | exact (Kd.R_reads' HO251.out).2.2 | (with_reducible refine Kd.C_alloc ?_ _) | (with_reducible refine Kd.C_drewN ?_ _) | (with_reducible refine Kd.C_drew ?_))); (case side2 => exact (Kd.R_reads' HO251.out).2.1); (case side3 => repeat (first | exact (Kd.R_reads' HO254.out).2.2 | (with_reducible refine Kd.C_alloc ?_ _) | (with_reducible refine Kd.C_drewN ?_ _) | (with_reducible refine Kd.C_drew ?_))); (case side4 => exact (Kd.R_reads' HO254.out).2.1); rintro e w' ⟨rfl, ⟨nd, rfl⟩⟩; refine ⟨_, rfl, ?_⟩))
    go_ret
    exact ⟨by first | rfl | (simp [ta_, sa_] <;> rfl) | (simp only [← hji13]; first | rfl | (simp [ta_, sa_] <;> rfl)) | (simp [*, ta_, sa_] <;> rfl), by repeat (first | (with_reducible first | exact HB.out | apply ba_ | apply aa_ | apply da_) | exact HB.out)⟩
 replace c5 := Bool.eq_false_iff.mpr c5
 subst c5
 have H1 : (some false) = some r := by rw [if_neg (show ¬ (false = true) by decide)] at H; exact H
 clear H
 have H := H1
 clear H1
 obtain rfl := Option.some.inj H
 go_enter Tryz.func3, Tryz.ntmps3
 go_wp2_with (first | ((with_reducible refine oa_ (f := 5) rfl ?_); refine fb_ (some 12) rfl rfl Tryz.func5 (by kernel_rfl) rfl #[] rfl (by (try simp only [List.map_toArray, List.map_cons, List.map_nil]); first | done | rfl | (simp only [List.length_drop, List.length_take]; rfl)) ?_; (with_reducible refine (l7_known.calls  false _ A4.out).mono ?_); rintro e w69 ⟨rfl, hb⟩; refine ⟨_, rfl, ?_⟩; have n0_ := Aside0.mk (ma_ (by repeat (first | (with_reducible first | exact HB.out | apply ba_ | apply aa_ | apply da_) | exact HB.out)) hb); clear HB; have HB := n0_; clear n0_; (try clear hb); (try clear hb2); (try clear hk); (try clear hi)))
 go_ret
 exact ⟨by first | rfl | (simp [ta_, sa_] <;> rfl) | (simp [*, ta_, sa_] <;> rfl), by repeat (first | (with_reducible first | exact HB.out | apply ba_ | apply aa_ | apply da_) | exact HB.out)⟩
end Go.Proofs.YtjfbfhoipgldgaaGreat.P
end
section
namespace Go.Proofs.YtjfbfhoipgldgaaGreat.P
open Go.RowKit Go.Proofs.YtjfbfhoipgldgaaGreatW.PrintWords Go.Proofs.YtjfbfhoipgldgaaGreatW.PrintLast Go.Proofs.YtjfbfhoipgldgaaGreatW.PrintMore
attribute [local go_sem] ob_ lb_ ub_ tb_ db_ cb_ nb_ kb_   
set_option linter.unusedVariables false
set_option linter.unusedSimpArgs false
theorem nt_ (l : List qa_) (h1 : l.length ≤ 60) (h2 : l.all pc_ = true) (h3 : ∀ r ∈ l, ∀ y, r.f1 = [y] → y < 0) : xa_ l = true :=
 (bc_ l).2 ⟨h1, h2, fun x hx => cr_ l id (fun r hr y hy _ hs => absurd (h3 r hr y hy) (by have := hs.1; omega)) x hx⟩
theorem xt_ (toks : List Tok') (h : ∀ x ∈ toks, x.f0 < x.f1) : Chart.Fwd (tokT toks) := by
 intro x p q hpq
 refine Classical.byContradiction fun hx => hpq ?_
 unfold tokT at hx
 obtain ⟨t, ht⟩ := List.exists_mem_of_ne_nil (toks.filter fun t => decide (pd_ t = (-1 - x, (p : Int), (q : Int)))) (fun e => hx (by rw [e]; rfl))
 rw [List.mem_filter] at ht
 have h2 := of_decide_eq_true ht.2
 unfold pd_ at h2
 injection h2 with _ h2
 injection h2 with h2 h3
 have := h t ht.1
 omega
def jh_ (i : Nat) : Tok' := ⟨(i : Int), (i : Int) + 1, 0, 0, 1⟩
def rowL (k : Nat) : List Tok' := (List.range k).map jh_
theorem un_ (k : Nat) : rowL (k + 1) = rowL k ++ [jh_ k] := by
 unfold rowL
 rw [List.range_succ, List.map_append]
 rfl
theorem rq_ (k : Nat) : (rowL k).length = k := by simp [rowL]
theorem qq_ (k : Nat) (x : Tok') (h : x ∈ rowL k) : ∃ i, i < k ∧ x = jh_ i := by
 obtain ⟨i, hi, rfl⟩ := List.mem_map.1 h
 exact ⟨i, List.mem_range.1 hi, rfl⟩
theorem dq_ (p q : Nat) : ∀ k, tokT (rowL k) (-1) p q = if q = p + 1 ∧ p < k then 1 else 0
 | 0 => by simp [tokT, rowL]
 | k + 1 => by
  have ih := dq_ p q k
  have e : tokT (rowL (k + 1)) (-1) p q = tokT (rowL k) (-1) p q + ([jh_ k].filter fun t => decide (pd_ t = (-1 - -1, (p : Int), (q : Int)))).length := by
   unfold tokT
   rw [un_, List.filter_append, List.length_append]
  rw [e, ih]
  by_cases h : k = p ∧ q = p + 1
  ·obtain ⟨rfl, rfl⟩ := h
   rw [List.filter_cons_of_pos (by unfold pd_ jh_; simp)]
   simp
  rw [List.filter_cons_of_neg (by
   unfold pd_ jh_
   simp only [decide_eq_true_eq, Prod.mk.injEq, not_and]
   intro _ h1 h2
   omega)]
  by_cases h2 : q = p + 1 ∧ p < k
  ·rw [if_pos h2, if_pos ⟨h2.1, by omega⟩]; rfl
  rw [if_neg h2, if_neg (by omega)]; rfl
theorem ps_ (rules : List qa_) (k n : Nat) (hr : rules.length ≤ 1000000) (hk : k ≤ n) (hk2 : k ≤ 1000) : okIn rules (rowL k) n = true := by
 refine (qe_ _ _ _).2 ⟨hr, by rw [rq_]; exact hk2, fun x hx => ?_⟩
 obtain ⟨i, hi, rfl⟩ := qq_ k x hx
 unfold jh_
 simp only
 omega
theorem pq_ : ∀ k, ue_ (rowL k) = (k : Int)
 | 0 => rfl
 | k + 1 => by
  have ih := pq_ k
  unfold ue_ at ih ⊢
  rw [un_, List.foldl_append, ih]
  show max (k : Int) ((k : Int) + 1) = ((k + 1 : Nat) : Int)
  omega
theorem oq_ (k : Nat) : ∀ x ∈ rowL k, 0 ≤ x.f0 ∧ x.f0 < x.f1 ∧ x.f1 ≤ (k : Int) := fun x hx => by
 obtain ⟨i, hi, rfl⟩ := qq_ k x hx
 unfold jh_
 simp only
 omega
def triN (k : Nat) : Nat := (((List.range (20 * (k + 1) * (k + 1))).map (decS (k + 1))).filter fun x => decide (x.f0 = 0 ∧ x.f1 < x.f2)).length
set_option maxRecDepth 100000 in
theorem tri_eq : ∀ k : Fin 13, triN k.val = k.val * (k.val + 1) / 2 := by decide +kernel
theorem ev_ (rules : List qa_) (toks : List Tok') (k : Nat) (hk : k ≤ 12) (hch : xa_ rules = true) (h : ∀ (s : Int) (p q : Nat), numP rules toks k s p q ≠ 0 ↔ s = 0 ∧ p < q ∧ q ≤ k) : (tc_ rules toks k).length = k * (k + 1) / 2 := by
 have h1 := tri_eq ⟨k, by omega⟩
 rw [← h1]
 unfold tc_ triN
 rw [if_pos hch]
 congr 1
 refine List.filter_congr fun x hx => ?_
 obtain ⟨i, _, rfl⟩ := List.mem_map.1 hx
 have hq : i % (k + 1) < k + 1 := Nat.mod_lt _ (Nat.succ_pos k)
 rw [decide_eq_decide, h]
 unfold decS
 simp only [Int.toNat_natCast]
 omega
theorem yn_ (rules : List qa_) (hr : jb_ rules = [(0, [0, 0]), (0, [-1])] ∨ jb_ rules = [(0, [-1]), (0, [0, 0])]) (hch : xa_ rules = true) (k : Nat) (hk : k ≤ 10) (s : Int) (p q : Nat) :
  numP rules (rowL k) k s p q = if s = 0 ∧ p < q ∧ q ≤ k then Chart.catF (q - p) else 0 := by
 have hf : Chart.Fwd (tokT (rowL k)) := xt_ _ fun x hx => (oq_ k x hx).2.1
 have hne := ig_ rules hch
 by_cases hs : s = 0
 ·subst hs
  by_cases hpq : p < q
  ·by_cases hq : q ≤ k
   ·rw [if_pos ⟨rfl, hpq, hq⟩]
    refine Chart.brackets (tokT (rowL k)) k (jb_ rules) hr hf (fun p q hpq hq => ?_) hk (q - p) p q rfl hpq hq
    rw [dq_]
    by_cases e : q = p + 1
    ·rw [if_pos ⟨e, by omega⟩, if_pos e]
    rw [if_neg (fun h => e h.1), if_neg e]
   rw [if_neg (fun h => hq h.2.2)]
   exact Classical.byContradiction fun h => hq (du_ rules hch (rowL k) k k (oq_ k) 0 p q h).2
  rw [if_neg (fun h => hpq h.2.1)]
  exact Chart.Num_fwd _ _ _ hf hne 0 p q hpq
 rw [if_neg (fun h => hs h.1)]
 refine Chart.brackets_other _ _ _ (fun r h => ?_) hne s hs p q
 rcases hr with hr | hr <;> rw [hr] at h <;> simp at h <;> rcases h with rfl | rfl <;> rfl
theorem catF_pos : ∀ d : Fin 11, 1 ≤ d.val → Chart.catF d.val ≠ 0 := by decide
theorem zq_ (rules : List qa_) (hr : jb_ rules = [(0, [0, 0]), (0, [-1])] ∨ jb_ rules = [(0, [-1]), (0, [0, 0])]) (hch : xa_ rules = true) (k : Nat) (hk : k ≤ 10) : (tc_ rules (rowL k) k).length = k * (k + 1) / 2 := by
 refine ev_ rules (rowL k) k (by omega) hch fun s p q => ?_
 rw [yn_ rules hr hch k hk]
 by_cases h : s = 0 ∧ p < q ∧ q ≤ k
 ·rw [if_pos h]
  exact ⟨fun _ => h, fun _ => catF_pos ⟨q - p, by omega⟩ (by show 1 ≤ q - p; omega)⟩
 rw [if_neg h]
 exact ⟨fun h1 => absurd rfl h1, fun h1 => absurd h1 h⟩
theorem hw_ (rules : List qa_) (hl : rules.length ≤ 1000000) (hch : xa_ rules = true) (k : Nat) (hk0 : 1 ≤ k) (hk : k ≤ 1000) (most : Int) (h0 : 0 ≤ most) (h1 : most ≤ 1000000000) :
  chart_Count.f rules (rowL k) 0 0 (k : Int) most = some ((min (numP rules (rowL k) k 0 0 k) most.toNat : Nat) : Int) := by
 unfold chart_Count.f
 rw [if_pos ⟨⟨⟨⟨by omega, by omega⟩, ⟨by omega, by omega⟩, ⟨by omega, by omega⟩, ⟨by omega, by omega⟩⟩, h1⟩, ps_ rules k 1000000 hl (by omega) hk⟩]
 unfold ee_
 congr 1
 by_cases hm : most ≤ 0
 ·rw [if_pos (.inl hm)]
  have : most = 0 := by omega
  subst this
  simp
 rw [if_neg (by omega), pq_, if_neg (by omega), if_pos hch]
 simp only [Int.toNat_natCast]
 rfl
def oneR : qa_ := ⟨0, [-1], ⟨8, [0]⟩, 0⟩
def gi_ : qa_ := ⟨0, [0, 0], ⟨0, [0]⟩, 0⟩
theorem nh_ : xa_ [oneR, gi_] = true := nt_ _ (by decide) (by decide) (fun r hr y hy => by simp at hr; rcases hr with rfl | rfl <;> simp [oneR, gi_] at hy <;> omega)
theorem si_ : l7_known.f = some true := by
 have hs : chart_Spans.f [oneR, gi_] (rowL 3) 3 = some (tc_ [oneR, gi_] (rowL 3) 3) := by
  unfold chart_Spans.f
  rw [if_pos ⟨by decide, ps_ _ 3 3 (by decide) (Nat.le_refl _) (by decide)⟩]
  rfl
 have hs0 : chart_Spans.f [] [] 0 = some (tc_ [] [] 0) := by
  unfold chart_Spans.f
  rw [if_pos ⟨by decide, by decide⟩]
  rfl
 have hl := zq_ [oneR, gi_] (.inr rfl) nh_ 3 (by decide)
 have hl0 : (tc_ [] [] 0).length = 0 := by
  refine List.length_eq_zero_iff.2 (List.eq_nil_iff_forall_not_mem.2 fun x hx => ?_)
  obtain ⟨hch, s, p, q, rfl, hn⟩ := (pi_ [] [] 0 (by simp) x).1 hx
  obtain ⟨r, hr, _⟩ := eu_ _ _ _ _ _ _ hn
  simp [jb_] at hr
 have hc : chart_Count.f [oneR, gi_] (rowL 3) 0 0 3 100 = some 2 := by
  have h := hw_ [oneR, gi_] (by decide) nh_ 3 (by decide) (by decide) 100 (by decide) (by decide)
  rw [yn_ [oneR, gi_] (.inr rfl) nh_ 3 (by decide)] at h
  exact h
 have hc1 : chart_Count.f [oneR, gi_] (rowL 3) 0 1 1 100 = some 0 := by
  unfold chart_Count.f
  rw [if_pos ⟨⟨⟨⟨by omega, by omega⟩, ⟨by omega, by omega⟩, ⟨by omega, by omega⟩, ⟨by omega, by omega⟩⟩, by omega⟩, ps_ _ 3 1000000 (by decide) (by omega) (by omega)⟩]
  unfold ee_
  rw [if_pos (.inr (.inr (by omega)))]
 show ((some [oneR, gi_]).bind fun y129 => (some (rowL 3)).bind fun y132 => (chart_Spans.f y129 y132 3).bind fun t135 => (chart_Spans.f ([] : List qa_) ([] : List Tok') 0).bind fun t138 => (if (t138.length : Int) = 0 then (if (t135.length : Int) = 6 then ((chart_Count.f y129 y132 0 0 3 100).bind fun t141 => (if t141 = 2 then ((chart_Count.f y129 y132 0 1 1 100).bind fun t142 => (some (t142 == 0))) else (some false))) else (some false)) else (some false))) = some true
 rw [Option.bind_some, Option.bind_some, hs, Option.bind_some, hs0, Option.bind_some, hl0, hl, hc, hc1]
 rfl
end Go.Proofs.YtjfbfhoipgldgaaGreat.P
end
section
namespace Go.Proofs.YtjfbfhoipgldgaaGreat.P
open Go.RowKit Go.Proofs.YtjfbfhoipgldgaaGreatW.PrintWords Go.Proofs.YtjfbfhoipgldgaaGreatW.PrintLast Go.Proofs.YtjfbfhoipgldgaaGreatW.PrintMore
attribute [local go_sem] ob_ lb_ ub_ tb_ db_ cb_ nb_ kb_   
set_option linter.unusedVariables false
set_option linter.unusedSimpArgs false
end Go.Proofs.YtjfbfhoipgldgaaGreat.P
end
section
namespace Go.Proofs.YtjfbfhoipgldgaaGreat.P
open Go.RowKit Go.Proofs.YtjfbfhoipgldgaaGreatW.PrintWords Go.Proofs.YtjfbfhoipgldgaaGreatW.PrintLast Go.Proofs.YtjfbfhoipgldgaaGreatW.PrintMore
attribute [local go_sem] ob_ lb_ ub_ tb_ db_ cb_ nb_ kb_   
set_option linter.unusedVariables false
set_option linter.unusedSimpArgs false
theorem sn_ (A : List Sp) (hb : A.length ≤ 1000000) (m : Nat) : ∀ d i, i + d = A.length → l7_same.l0 (m + 1 + d) A (A.map toR) (i : Int) = some true
 | 0, i, h => by
  rw [Nat.add_zero, l7_same.l0, if_neg (by omega)]
 | d + 1, i, h => by
  have ih := sn_ A hb m d (i + 1) (by omega)
  have hi : i < A.length := by omega
  have hw : wrap64 ((i : Int) + 1) = ((i + 1 : Nat) : Int) := by unfold wrap64; omega
  have hx : zc_ A (i : Int) = A[i] := by
   show A.getD (i : Int).toNat _ = _
   rw [Int.toNat_natCast, List.getD_eq_getElem?_getD, List.getElem?_eq_getElem hi]
   rfl
  have hi2 : i < (A.map toR).length := by rw [List.length_map]; exact hi
  have hy : yc_ (A.map toR) (i : Int) = toR A[i] := by
   show (A.map toR).getD (i : Int).toNat _ = _
   rw [Int.toNat_natCast, List.getD_eq_getElem?_getD, List.getElem?_eq_getElem hi2, List.getElem_map]
   rfl
  rw [show m + 1 + (d + 1) = (m + 1 + d) + 1 by omega, l7_same.l0, if_pos (by omega), if_pos (by omega), if_pos (by rw [List.length_map]; omega), hx, hy, if_pos (show A[i].f0 = (toR A[i]).f0 from rfl), if_pos (show A[i].f1 = (toR A[i]).f1 from rfl), if_pos (show A[i].f2 = (toR A[i]).f2 from rfl), hw]
  exact ih
theorem hv_ (A : List Sp) (hb : A.length ≤ 1000000) (k : Nat) (hk : A.length < k) : l7_same.f k A (A.map toR) = some true := by
 unfold l7_same.f
 rw [if_pos (by rw [List.length_map])]
 have h := sn_ A hb (k - A.length - 1) A.length 0 (by omega)
 rwa [show k - A.length - 1 + 1 + A.length = k by omega] at h
theorem spans_lt (R : List qa_) (toks : List Tok') (K : Nat) (hK : K ≤ 100) : (tc_ R toks K).length ≤ 1000000 := by
 have h1 := sl_ R toks K
 have h2 : 20 * (K + 1) * (K + 1) ≤ 20 * 101 * 101 := Nat.mul_le_mul (Nat.mul_le_mul_left 20 (by omega)) (by omega)
 omega
theorem spans_f (R : List qa_) (toks : List Tok') (K : Nat) (hK : K ≤ 1000) (hok : okIn R toks K = true) : chart_Spans.f R toks (K : Int) = some (tc_ R toks K) := by
 unfold chart_Spans.f
 rw [if_pos ⟨⟨by omega, by omega⟩, by rw [Int.toNat_natCast]; exact hok⟩, Int.toNat_natCast]
theorem spans7_f (R : List qa_) (hch : xa_ R = true) (toks : List Tok') (K : Nat) (hK : K ≤ 1000) (hok : okIn R toks K = true) : interlocutorref7_Spans.f R toks (K : Int) = some ((tc_ R toks K).map toR) := by
 unfold interlocutorref7_Spans.f
 rw [if_pos ⟨⟨⟨by omega, by omega⟩, hch⟩, by rw [Int.toNat_natCast]; exact hok⟩, Int.toNat_natCast]
 rfl
theorem bo_ {R : List qa_} {toks : List Tok'} {n m : Nat} (h : okIn R toks n = true) (hm : n ≤ m) : okIn R toks m = true := by
 obtain ⟨h1, h2, h3⟩ := (qe_ R toks n).1 h
 exact (qe_ R toks m).2 ⟨h1, h2, fun x hx => ⟨⟨(h3 x hx).1.1, (h3 x hx).1.2.1, by have := (h3 x hx).1.2.2; omega⟩, (h3 x hx).2⟩⟩
theorem np_ (R : List qa_) (hch : xa_ R = true) (toks : List Tok') (K : Nat) (hK : K ≤ 256) (hok : okIn R toks K = true) (hend : K = 0 ∨ ∃ x ∈ toks, x.f1 = (K : Int)) (s : Nat) (hs : s < 20) (most : Int) (hm1 : 1 ≤ most) (hm2 : most ≤ 1000000000) :
  ∃ v : Int, chart_Count.f R toks (s : Int) 0 (K : Int) most = some v ∧ interlocutorref7_Count.f R toks (s : Int) 0 (K : Int) most = some v := by
 obtain ⟨h1, h2, h3⟩ := (qe_ R toks K).1 hok
 have hsL : ue_ toks = (K : Int) := by
  have hsp := nf_ (K : Int) (by omega) toks 0 (by omega) (by omega) (fun x hx => (h3 x hx).1.2.2)
  have h4 : 0 ≤ ue_ toks ∧ ue_ toks ≤ (K : Int) := ⟨hsp.1.1, hsp.1.2.2⟩
  rcases hend with h | ⟨x, hx, he⟩
  ·omega
  have h5 : x.f1 ≤ ue_ toks := hsp.2 x hx
  omega
 have hsR : df_ toks 0 (K : Int) = (K : Int) := by
  have hsp := nf_ (K : Int) (by omega) toks (max (max 0 0) (K : Int)) (by omega) (by omega) (fun x hx => (h3 x hx).1.2.2)
  have h4 : max (max 0 0) (K : Int) ≤ df_ toks 0 (K : Int) ∧ df_ toks 0 (K : Int) ≤ (K : Int) := ⟨hsp.1.2.1, hsp.1.2.2⟩
  omega
 have hcR : interlocutorref7_Count.f R toks (s : Int) 0 (K : Int) most = some ((Chart.cap most.toNat (numP R toks K (s : Int) 0 K) : Nat) : Int) := by
  unfold interlocutorref7_Count.f
  rw [if_pos ⟨⟨⟨by omega, by omega⟩, ⟨by omega, by omega⟩, ⟨by omega, by omega⟩, ⟨hm1, hm2⟩⟩, hch, bo_ hok hK⟩]
  unfold nj_
  rw [hsR]
  simp only [Int.toNat_natCast, Int.toNat_zero]
 refine ⟨_, ?_, hcR⟩
 unfold chart_Count.f
 rw [if_pos ⟨⟨⟨⟨by omega, by omega⟩, ⟨by omega, by omega⟩, ⟨by omega, by omega⟩, ⟨by omega, by omega⟩⟩, hm2⟩, bo_ hok (by omega)⟩]
 unfold ee_
 congr 1
 by_cases hK0 : K = 0
 ·rw [if_pos (.inr (.inr (by omega)))]
  have hf : Chart.Fwd (tokT toks) := xt_ _ fun x hx => (h3 x hx).1.2.1
  have h9 : numP R toks K (s : Int) 0 K = 0 := Chart.Num_fwd _ _ _ hf (ig_ R hch) _ 0 K (by omega)
  rw [h9]
  simp [Chart.cap]
 rw [if_neg (by omega), hsL, if_neg (by omega), if_pos hch]
 simp only [Int.toNat_natCast, Int.toNat_zero]
theorem tf_ (a n : Int) (hn : 0 < n) (hn2 : n ≤ 4611686018427387904) : l7_within.f a n = some (a % n) := by
 unfold l7_within.f
 have h1 := Int.emod_nonneg a (by omega : n ≠ 0)
 have h2 := Int.emod_lt_of_pos a hn
 have h4 : (n.natAbs : Int) = n := by omega
 rw [if_neg (by omega)]
 have h3 := @Int.tmod_eq_emod a n
 by_cases hd : 0 ≤ a ∨ n ∣ a
 ·rw [if_pos hd] at h3
  rw [if_neg (by omega), h3]
  congr 1
  omega
 rw [if_neg hd, h4] at h3
 rw [if_pos (by omega), h3]
 congr 1
 unfold wrap64
 omega
theorem hc_ (a n : Int) (hn : 0 < n) (hn2 : n ≤ 4611686018427387904) : l4_within.f a n = some (a % n) := by
 unfold l4_within.f
 have h1 := Int.emod_nonneg a (by omega : n ≠ 0)
 have h2 := Int.emod_lt_of_pos a hn
 have h4 : (n.natAbs : Int) = n := by omega
 rw [if_neg (by omega)]
 have h3 := @Int.tmod_eq_emod a n
 by_cases hd : 0 ≤ a ∨ n ∣ a
 ·rw [if_pos hd] at h3
  rw [if_neg (by omega), h3]
  congr 1
  omega
 rw [if_neg hd, h4] at h3
 rw [if_pos (by omega), h3]
 congr 1
 unfold wrap64
 omega
theorem oe_ (a n : Int) (hn : 0 < n) : 0 ≤ a % n := Int.emod_nonneg a (by omega)
theorem ne_ (a n : Int) (hn : 0 < n) : a % n < n := Int.emod_lt_of_pos a hn
theorem tp_ {x n : Int} (m : Nat) (hm : n = m) (h0 : 0 ≤ x) (h1 : x < n) : ∃ i : Fin m, x = ((i.val : Nat) : Int) := ⟨⟨x.toNat, by omega⟩, by simp; omega⟩
def xk_ (P : Program) (t : TypeId) {α : Type} (d : Kd α) (ok : α → Prop) : Prop :=
 P.cellsOf t = d.sz ∧ ∀ (H : Type) (enc : TypeId × Value → H) (W : World) (base : Nat) (spare : Nat → Bool) (held : Bool) (fuel : Nat) (cs : List Value) (x : DataW H × List MemPlace), DataW.trod enc P W base spare held fuel t cs = some x → ∃ v : α, d.K W v cs ∧ ok v
theorem rv_ {P : Program} {t : TypeId} {k : IntKind} (ht : P.underlying t = some (.int k)) (hc : P.cellsOf t = 1) : xk_ P t (Kd.int k) (fun n => (Lit.int k n).wf = true) := by
 refine ⟨hc, fun H enc W base spare held fuel cs x h => ?_⟩
 obtain ⟨n, rfl, _, hw⟩ := DataW.trod_int ht h
 exact ⟨n, rfl, hw⟩
theorem gu_ {α : Type} {p : Nat → α → Prop} : ∀ n : Nat, (∀ i, i < n → ∃ v, p i v) → ∃ xs : List α, xs.length = n ∧ ∀ i v, xs[i]? = some v → p i v
 | 0, _ => ⟨[], rfl, fun i v h => by simp at h⟩
 | n + 1, h => by
  obtain ⟨xs, hl, hx⟩ := gu_ n (fun i hi => h i (by omega))
  obtain ⟨v, hv⟩ := h n (by omega)
  refine ⟨xs ++ [v], by rw [List.length_append, hl]; rfl, fun i u hu => ?_⟩
  by_cases hi : i < xs.length
  ·rw [List.getElem?_append_left hi] at hu
   exact hx i u hu
  rw [List.getElem?_append_right (by omega)] at hu
  have h0 : i - xs.length = 0 := by
   have := (List.getElem?_eq_some_iff.1 hu).1
   simp at this
   omega
  rw [h0] at hu
  obtain rfl := Option.some.inj hu
  have : i = n := by omega
  rw [this]
  exact hv
theorem nk_ {P : Program} {t e : TypeId} {α : Type} {d : Kd α} {ok : α → Prop} (ht : P.underlying t = some (.slice e)) (hc : P.cellsOf t = 1) (h : xk_ P e d ok) : xk_ P t (Kd.slice e d) (fun xs => ∀ x ∈ xs, ok x) := by
 refine ⟨hc, fun H enc W base spare held fuel cs x hx => ?_⟩
 rcases Go.Deep.open_slice ht hx with ⟨rfl, _⟩ | ⟨a, len, cap, m, n, D, Pl, rfl, _, hl, hm, hmm, _, hel⟩
 ·exact ⟨[], ⟨none, 0, rfl, Nat.le_refl _, rfl, by simp, fun h => absurd h (Nat.lt_irrefl _)⟩, by simp⟩
 have hle : len ≤ m := by rw [hmm]; split <;> omega
 obtain ⟨xs, hxl, hxs⟩ := gu_ (p := fun i v => ∃ cs', W.cells? base (a.add (i * d.sz)) d.sz = some cs' ∧ d.K W v cs' ∧ ok v) len (fun i hi => by
  obtain ⟨cs', h1, h2⟩ := hel i (by omega)
  obtain ⟨v, h3, h4⟩ := h.2 H enc W base spare held n cs' _ h2
  rw [h.1] at h1
  exact ⟨v, cs', h1, h3, h4⟩)
 have hmax : maxLen ≤ 9223372036854775807 := by decide
 refine ⟨xs, ⟨some a, cap, by rw [hxl], by omega, rfl, by omega, fun _ => ⟨a, rfl, fun j p hj => ?_⟩⟩, fun y hy => ?_⟩
 ·obtain ⟨cs', h1, h2, _⟩ := hxs j p hj
  obtain ⟨_, h3, h4⟩ := World.cells?_some h1
  refine ⟨cs', h3, h2, fun i u hu => ?_⟩
  have h5 := h4 i (by rw [← h3]; exact (List.getElem?_eq_some_iff.1 hu).1)
  rw [hu, xp_] at h5
  exact h5
 obtain ⟨j, hj, rfl⟩ := List.mem_iff_getElem.1 hy
 obtain ⟨_, _, _, h4⟩ := hxs j _ (List.getElem?_eq_getElem hj)
 exact h4
abbrev wfI (n : Int) : Prop := (Lit.int .i64 n).wf = true
theorem opInt : xk_ Tryz.prog 3 (Kd.int .i64) wfI := rv_ Tryz.underlying3 (by kernel_rfl)
theorem opInts : xk_ Tryz.prog 23 (Kd.slice 3 (Kd.int .i64)) (fun l => ∀ n ∈ l, wfI n) := nk_ Tryz.underlying23 (by kernel_rfl) opInt
theorem dp_ {P : Program} {t : TypeId} {fs : Array Field} (ht : P.underlying t = some (.struct fs)) {H : Type} {enc : TypeId × Value → H} {W : World} {base : Nat} {spare : Nat → Bool} {held : Bool} {fuel : Nat} {cs : List Value} {x : DataW H × List MemPlace} (h : DataW.trod enc P W base spare held fuel t cs = some x) :
  cs.length = P.cellsOf t ∧ ∀ (i : Nat) (f : Field), fs[i]? = some f → ∀ {α : Type} {d : Kd α} {ok : α → Prop}, xk_ P f.type d ok → ∃ v, d.K W v ((cs.drop f.offset).take d.sz) ∧ ok v := by
 obtain ⟨xs, n, _, _, hl, hlen, hf⟩ := DataW.trod_struct ht h
 refine ⟨hl, fun i f hi α d ok ho => ?_⟩
 have h1 := hf i f hi
 have hil : i < xs.length := by
  have := (Array.getElem?_eq_some_iff.1 hi).1
  omega
 rw [List.getElem?_eq_getElem hil, ho.1] at h1
 exact ho.2 H enc W base spare held n _ _ h1
def ao_ (x : S50) : Prop := wfI x.f0 ∧ wfI x.f1 ∧ wfI x.f2 ∧ (∀ n ∈ x.f3, wfI n) ∧ ∀ n ∈ x.f4, wfI n
theorem opRaw : xk_ Tryz.prog 50 k50 ao_ := by
 refine ⟨by kernel_rfl, fun H enc W base spare held fuel cs x h => ?_⟩
 obtain ⟨hl, hf⟩ := dp_ Tryz.underlying50 h
 have hl2 : cs.length = 5 := hl.trans (by kernel_rfl)
 obtain ⟨v0, k0, w0⟩ := hf 0 _ rfl opInt
 obtain ⟨v1, k1, w1⟩ := hf 1 _ rfl opInt
 obtain ⟨v2, k2, w2⟩ := hf 2 _ rfl opInt
 obtain ⟨v3, ⟨A3, c3, k3, l3, g3⟩, w3⟩ := hf 3 _ rfl opInts
 obtain ⟨v4, ⟨A4, c4, k4, l4, g4⟩, w4⟩ := hf 4 _ rfl opInts
 match cs, hl2 with
 | [b0, b1, b2, b3, b4], _ =>
  have e0 : [b0] = [.int .i64 v0] := k0
  have e1 : [b1] = [.int .i64 v1] := k1
  have e2 : [b2] = [.int .i64 v2] := k2
  have e3 : [b3] = [.slice A3 v3.length c3] := k3
  have e4 : [b4] = [.slice A4 v4.length c4] := k4
  rw [(List.cons.inj e0).1, (List.cons.inj e1).1, (List.cons.inj e2).1, (List.cons.inj e3).1, (List.cons.inj e4).1]
  exact ⟨⟨v0, v1, v2, v3, v4⟩, k50_mk W ⟨v0, v1, v2, v3, v4⟩ l3 g3 l4 g4, w0, w1, w2, w3, w4⟩
theorem opRaws : xk_ Tryz.prog 22 (Kd.slice 50 k50) (fun l => ∀ x ∈ l, ao_ x) := nk_ Tryz.underlying22 (by kernel_rfl) opRaw
abbrev Raw' := S50
theorem mk_ (l : List Raw') (j : Nat) (h : j < l.length) : ua_ l j = l[j] := by
 unfold ua_
 rw [Int.toNat_natCast, List.getD_eq_getElem?_getD, List.getElem?_eq_getElem h]
 rfl
def fewB (l : List Raw') : Bool := l.all fun x => decide (x.f3.length ≤ 20 ∧ x.f4.length ≤ 20)
theorem few_loop (l : List Raw') (hl : l.length ≤ 9223372036854775807) : ∀ (d j : Nat), j + d = l.length → ∀ k, d < k → l4_Few.l0 k l j = some (fewB (l.drop j) && decide (l.length ≤ 80)) := by
 intro d
 induction d with
 | zero =>
  intro j hj k hk
  obtain ⟨k, rfl⟩ : ∃ i, k = i + 1 := ⟨k - 1, by omega⟩
  simp only [l4_Few.l0]
  rw [if_neg (by omega), show j = l.length by omega, List.drop_length]
  have : decide ((l.length : Int) ≤ 80) = decide (l.length ≤ 80) := decide_eq_decide.2 (by omega)
  rw [this]
  rfl
 | succ d ih =>
  intro j hj k hk
  obtain ⟨k, rfl⟩ : ∃ i, k = i + 1 := ⟨k - 1, by omega⟩
  have hlt : j < l.length := by omega
  have hw : wrap64 ((j : Int) + 1) = ((j + 1 : Nat) : Int) := by rw [le_ (by omega)]; rfl
  have h1 := ih (j + 1) (by omega) k (by omega)
  simp only [l4_Few.l0]
  rw [if_pos (by omega), if_pos (by omega), mk_ l j hlt, hw, h1, List.drop_eq_getElem_cons hlt]
  unfold fewB
  rw [List.all_cons]
  by_cases h3 : (l[j].f3.length : Int) > 20
  ·rw [if_pos h3, decide_eq_false (by omega)]; rfl
  rw [if_neg h3]
  by_cases h4 : (l[j].f4.length : Int) > 20
  ·rw [if_pos h4, decide_eq_false (by omega)]; rfl
  rw [if_neg h4, decide_eq_true (by omega : l[j].f3.length ≤ 20 ∧ l[j].f4.length ≤ 20)]
  rfl
theorem mm_ (l : List Raw') (hl : l.length ≤ 9223372036854775807) (k : Nat) (hk : l.length < k) : l4_Few.f k l = some (fewB l && decide (l.length ≤ 80)) := by
 have h := few_loop l hl l.length 0 (by omega) k hk
 rw [List.drop_zero] at h
 exact h
def kidOk (s : Int) (y : Int) : Prop := (0 ≤ y ∧ y < s) ∨ (-55 ≤ y ∧ y ≤ -1)
section
variable (s n a0 a1 a2 : Int) (l3 l4 : List Int) (c0 : Int) (rhs : List Int) (c2 c4 : Int)
theorem rk_ (hn : n ≤ 3) (hr : 1 ≤ rhs.length) (hr2 : rhs.length ≤ 10) (h4 : l4.length ≤ 20) : ∀ (d j : Nat) (ps : List Int), (j : Int) + d = n → ps.length = j → (∀ p ∈ ps, 0 ≤ p ∧ p < (rhs.length : Int)) →
  ∃ ps' : List Int, (ps'.length : Int) = n ∧ (∀ p ∈ ps', 0 ≤ p ∧ p < (rhs.length : Int)) ∧ ∀ k, d < k → l4_Raw_Make.l1 k n j a0 a1 a2 l3 l4 c0 rhs c2 ps c4 = some (c0, rhs, c2, ps', c4) := by
 intro d
 induction d with
 | zero =>
  intro j ps hj hl hp
  refine ⟨ps, by omega, hp, fun k hk => ?_⟩
  obtain ⟨k, rfl⟩ : ∃ i, k = i + 1 := ⟨k - 1, by omega⟩
  simp only [l4_Raw_Make.l1]
  rw [if_neg (by omega)]
 | succ d ih =>
  intro j ps hj hl hp
  have hw : wrap64 ((j : Int) + 1) = ((j + 1 : Nat) : Int) := by rw [le_ (by omega)]; rfl
  by_cases h : (j : Int) < (l4.length : Int)
  ·have hv0 := oe_ (rd l4 j) (rhs.length : Int) (by omega)
   have hv1 := ne_ (rd l4 j) (rhs.length : Int) (by omega)
   obtain ⟨ps', h1, h2, h3⟩ := ih (j + 1) (ps ++ [rd l4 j % (rhs.length : Int)]) (by omega) (by rw [List.length_append, hl]; rfl) (fun p hp' => by
    rcases List.mem_append.1 hp' with hp' | hp'
    ·exact hp p hp'
    rw [List.mem_singleton.1 hp']; exact ⟨hv0, hv1⟩)
   refine ⟨ps', h1, h2, fun k hk => ?_⟩
   obtain ⟨k, rfl⟩ : ∃ i, k = i + 1 := ⟨k - 1, by omega⟩
   simp only [l4_Raw_Make.l1]
   rw [if_pos (by omega), if_pos h, if_pos (by omega), hc_ _ _ (by omega) (by omega), Option.bind_some, if_pos (by omega), hw]
   exact h3 k (by omega)
  have hv0 := oe_ (j : Int) (rhs.length : Int) (by omega)
  have hv1 := ne_ (j : Int) (rhs.length : Int) (by omega)
  obtain ⟨ps', h1, h2, h3⟩ := ih (j + 1) (ps ++ [(j : Int) % (rhs.length : Int)]) (by omega) (by rw [List.length_append, hl]; rfl) (fun p hp' => by
   rcases List.mem_append.1 hp' with hp' | hp'
   ·exact hp p hp'
   rw [List.mem_singleton.1 hp']; exact ⟨hv0, hv1⟩)
  refine ⟨ps', h1, h2, fun k hk => ?_⟩
  obtain ⟨k, rfl⟩ : ∃ i, k = i + 1 := ⟨k - 1, by omega⟩
  simp only [l4_Raw_Make.l1]
  rw [if_pos (by omega), if_neg h, hc_ _ _ (by omega) (by omega), Option.bind_some, if_pos (by omega), hw]
  exact h3 k (by omega)
theorem yv_ : ∀ t : Fin 11, -55 ≤ wrap64 ((-1) - (rd ([0, 0, 0, 1, 2, 3, 50, 51, 52, 53, 54] : List Int) ((t.val : Nat) : Int))) ∧ wrap64 ((-1) - (rd ([0, 0, 0, 1, 2, 3, 50, 51, 52, 53, 54] : List Int) ((t.val : Nat) : Int))) ≤ -1 := by decide +kernel
theorem wv_ (s n a0 a1 a2 : Int) (l3 l4 : List Int) (c0 c2 c4 : Int) (hs : 1 ≤ s ∧ s ≤ 20) (hn : 1 ≤ n ∧ n ≤ 3) (h3 : l3.length ≤ 20) (hw3 : ∀ y ∈ l3, wfI y) (h4 : l4.length ≤ 20) (ha1 : wfI a1) : ∀ (d i : Nat) (rhs : List Int), i + d = 3 → rhs.length = i → (∀ y ∈ rhs, kidOk s y) →
  ∃ rhs' ps', (1 ≤ rhs'.length ∧ rhs'.length ≤ 3) ∧ (∀ y ∈ rhs', kidOk s y) ∧ ((ps'.length : Int) = n) ∧ (∀ p ∈ ps', 0 ≤ p ∧ p < (rhs'.length : Int)) ∧ ∀ k, 3 * d + 20 < k → l4_Raw_Make.l0 k s n i a0 a1 a2 l3 l4 c0 rhs c2 c4 = some (c0, rhs', c2, ps', c4) := by
 intro d
 induction d with
 | zero =>
  intro i rhs hi hl hk
  obtain ⟨ps', p1, p2, p3⟩ := rk_ n a0 a1 a2 l3 l4 c0 rhs c2 c4 hn.2 (by omega) (by omega) h4 n.toNat 0 [] (by omega) rfl (by simp)
  refine ⟨rhs, ps', ⟨by omega, by omega⟩, hk, p1, p2, fun k hk => ?_⟩
  obtain ⟨k, rfl⟩ : ∃ j, k = j + 2 := ⟨k - 2, by omega⟩
  have hm0 := oe_ (l3.length : Int) 3 (by omega)
  have hm1 := ne_ (l3.length : Int) 3 (by omega)
  rw [show k + 2 = (k + 1) + 1 by omega]
  simp only [l4_Raw_Make.l0]
  rw [hc_ _ 3 (by omega) (by omega), Option.bind_some, le_ (by omega), if_neg (by omega), if_neg (by omega)]
  simp only [l4_Raw_Make.j1, Bool.false_eq_true, if_false]
  exact p3 k (by omega)
 | succ d ih =>
  intro i rhs hi hl hk
  have hm0 := oe_ (l3.length : Int) 3 (by omega)
  have hm1 := ne_ (l3.length : Int) 3 (by omega)
  obtain ⟨b, hb0, hb⟩ : ∃ b : Bool, (i = 0 → b = true) ∧ ∀ k, l4_Raw_Make.l0 (k + 1) s n i a0 a1 a2 l3 l4 c0 rhs c2 c4 = l4_Raw_Make.j1 k s n i b a0 a1 a2 l3 l4 c0 rhs c2 c4 := by
   by_cases h1 : (i : Int) < 1 + (l3.length : Int) % 3
   ·refine ⟨true, fun _ => rfl, fun k => ?_⟩
    simp only [l4_Raw_Make.l0]
    rw [hc_ _ 3 (by omega) (by omega), Option.bind_some, le_ (by omega), if_pos h1]
   by_cases h2 : (i : Int) < n
   ·refine ⟨(wrap64 (Int.tdiv a1 16) % 2 == 0), fun h => by omega, fun k => ?_⟩
    simp only [l4_Raw_Make.l0]
    rw [hc_ _ 3 (by omega) (by omega), Option.bind_some, le_ (by omega), if_neg h1, if_pos h2, hc_ _ 2 (by omega) (by omega), Option.bind_some]
   refine ⟨false, fun h => by omega, fun k => ?_⟩
   simp only [l4_Raw_Make.l0]
   rw [hc_ _ 3 (by omega) (by omega), Option.bind_some, le_ (by omega), if_neg h1, if_neg h2]
  cases b with
  | false =>
   have hi1 : i ≠ 0 := fun h => by have := hb0 h; cases this
   obtain ⟨ps', p1, p2, p3⟩ := rk_ n a0 a1 a2 l3 l4 c0 rhs c2 c4 hn.2 (by omega) (by omega) h4 n.toNat 0 [] (by omega) rfl (by simp)
   refine ⟨rhs, ps', ⟨by omega, by omega⟩, hk, p1, p2, fun k hk => ?_⟩
   obtain ⟨k, rfl⟩ : ∃ j, k = j + 2 := ⟨k - 2, by omega⟩
   rw [show k + 2 = (k + 1) + 1 by omega, hb]
   simp only [l4_Raw_Make.j1, Bool.false_eq_true, if_false]
   exact p3 k (by omega)
  | true =>
   obtain ⟨v, hv⟩ : ∃ v : Int, ∀ k, l4_Raw_Make.j1 (k + 1) s n i true a0 a1 a2 l3 l4 c0 rhs c2 c4 = l4_Raw_Make.j2 k s n i v a0 a1 a2 l3 l4 c0 rhs c2 c4 := by
    by_cases h1 : (i : Int) < (l3.length : Int)
    ·refine ⟨rd l3 i, fun k => ?_⟩
     simp only [l4_Raw_Make.j1, if_true]
     rw [if_pos h1, if_pos (by omega)]
    refine ⟨i, fun k => ?_⟩
    simp only [l4_Raw_Make.j1, if_true]
    rw [if_neg h1]
   have hw : wrap64 ((i : Int) + 1) = ((i + 1 : Nat) : Int) := by rw [le_ (by omega)]; rfl
   obtain ⟨y, hy, hj⟩ : ∃ y : Int, kidOk s y ∧ ∀ k, l4_Raw_Make.j2 (k + 1) s n i v a0 a1 a2 l3 l4 c0 rhs c2 c4 = l4_Raw_Make.l0 k s n ((i + 1 : Nat) : Int) a0 a1 a2 l3 l4 c0 (rhs ++ [y]) c2 c4 := by
    by_cases h1 : wrap64 (Int.tdiv v 20) % 2 = 0
    ·obtain ⟨t, ht⟩ := tp_ 11 rfl (oe_ (wrap64 (Int.tdiv v 40)) 11 (by omega)) (ne_ (wrap64 (Int.tdiv v 40)) 11 (by omega))
     refine ⟨_, .inr (yv_ t), fun k => ?_⟩
     simp only [l4_Raw_Make.j2]
     rw [hc_ v s (by omega) (by omega), Option.bind_some, hc_ _ 2 (by omega) (by omega), Option.bind_some, if_pos h1, Option.bind_some, hc_ _ 11 (by omega) (by omega), Option.bind_some, ht, if_pos (by omega), if_pos (by have := t.isLt; simp; omega), if_pos (by omega), hw]
    refine ⟨v % s, .inl ⟨oe_ v s (by omega), ne_ v s (by omega)⟩, fun k => ?_⟩
    simp only [l4_Raw_Make.j2]
    rw [hc_ v s (by omega) (by omega), Option.bind_some, hc_ _ 2 (by omega) (by omega), Option.bind_some, if_neg h1, if_pos (by omega), hw]
   obtain ⟨rhs', ps', q1, q2, q3, q4, q5⟩ := ih (i + 1) (rhs ++ [y]) (by omega) (by rw [List.length_append, hl]; rfl) (fun z hz => by
    rcases List.mem_append.1 hz with hz | hz
    ·exact hk z hz
    rw [List.mem_singleton.1 hz]; exact hy)
   refine ⟨rhs', ps', q1, q2, q3, q4, fun k hk => ?_⟩
   obtain ⟨k, rfl⟩ : ∃ j, k = j + 3 := ⟨k - 3, by omega⟩
   rw [show k + 3 = ((k + 1) + 1) + 1 by omega, hb, hv, hj]
   exact q5 k (by omega)
def fr_ (o : Nat) : Int := rd ([1, 3, 2, 2, 2, 2, 3, 1, 1, 2, 1, 1, 2, 2, 2, 2] : List Int) (o : Int)
theorem makeN_ok : ∀ o : Fin 16, (1 ≤ fr_ o.val ∧ fr_ o.val ≤ 3) ∧ (id_ ((o.val : Nat) : Int)).1 ≤ fr_ o.val ∧ fr_ o.val ≤ (id_ ((o.val : Nat) : Int)).2 := by decide +kernel
structure Made (s : Int) (r : qa_) : Prop where
 lhs : 0 ≤ r.f0 ∧ r.f0 < s
 len : 1 ≤ r.f1.length ∧ r.f1.length ≤ 3
 kids : ∀ y ∈ r.f1, kidOk s y
 right : pc_ r = true
theorem vv_ (x : Raw') (s : Int) (hs : 1 ≤ s ∧ s ≤ 20) (hx : ao_ x) (h3 : x.f3.length ≤ 20) (h4 : x.f4.length ≤ 20) :
  ∃ r : qa_, Made s r ∧ ∀ k, 40 ≤ k → l4_Raw_Make.f k x.f0 x.f1 x.f2 x.f3 x.f4 s = some (r.f0, r.f1, r.f2.f0, r.f2.f1, r.f3) := by
 obtain ⟨_, hw1, _, hw3, _⟩ := hx
 obtain ⟨o, ho⟩ := tp_ 16 rfl (oe_ x.f1 16 (by omega)) (ne_ x.f1 16 (by omega))
 have hn := makeN_ok o
 have hc0 := oe_ x.f2 101 (by omega)
 have hc1 := ne_ x.f2 101 (by omega)
 have hl0 := oe_ x.f0 s (by omega)
 have hl1 := ne_ x.f0 s (by omega)
 obtain ⟨rhs, ps, p1, p2, p3, p4, p5⟩ := wv_ s (fr_ o.val) x.f0 x.f1 x.f2 x.f3 x.f4 (x.f0 % s) ((o.val : Nat) : Int) (x.f2 % 101) hs hn.1 h3 hw3 h4 hw1 3 0 [] rfl rfl (by simp)
 refine ⟨⟨x.f0 % s, rhs, ⟨((o.val : Nat) : Int), ps⟩, x.f2 % 101⟩, ⟨⟨hl0, hl1⟩, p1, p2, ?_⟩, fun k hk => ?_⟩
 ·show ff_ (x.f0 % s) rhs ((o.val : Nat) : Int) ps (x.f2 % 101) = true
  unfold ff_ be_ ac_
  simp only [Bool.and_eq_true, decide_eq_true_eq, List.all_eq_true]
  refine ⟨⟨hl0, by omega⟩, ⟨by omega, by omega⟩, fun y hy => ?_, ⟨hc0, by omega⟩, ⟨by omega, by omega⟩, fun p hp => ?_⟩
  ·unfold zd_
   rcases p2 y hy with h | h
   ·rw [decide_eq_true (by omega), decide_eq_true (by omega)]; rfl
   rw [decide_eq_true (by omega), decide_eq_true (by omega)]; rfl
  have h := p4 p hp
  unfold xd_
  rw [decide_eq_true h.1, decide_eq_true h.2]; rfl
 unfold l4_Raw_Make.f
 rw [hc_ x.f0 s (by omega) (by omega), Option.bind_some, hc_ x.f2 101 (by omega) (by omega), Option.bind_some, hc_ x.f1 16 (by omega) (by omega), Option.bind_some, Option.bind_some, ho, if_pos (by omega), if_pos (by have := o.isLt; simp; omega)]
 exact p5 k (by omega)
end
structure Told (s : Int) (out : List qa_) : Prop where
 made : ∀ r ∈ out, Made s r
 check : xa_ out = true
theorem rule_eta (r : qa_) : (⟨r.f0, r.f1, (⟨r.f2.f0, r.f2.f1⟩ : S46), r.f3⟩ : qa_) = r := rfl
theorem ns_ (l : List Raw') (s : Int) (hs : 1 ≤ s ∧ s ≤ 20) (hl : l.length ≤ 80) (hok : ∀ x ∈ l, ao_ x) (hf : ∀ x ∈ l, x.f3.length ≤ 20 ∧ x.f4.length ≤ 20) : ∀ (d i : Nat) (out : List qa_), i + d = l.length → out.length ≤ i → Told s out →
  ∃ res, Told s res ∧ ∀ k, 2 * d + 45 < k → l4_Rules.l0 k l s out i = some res := by
 intro d
 induction d with
 | zero =>
  intro i out hi ho ht
  refine ⟨out, ht, fun k hk => ?_⟩
  obtain ⟨k, rfl⟩ : ∃ j, k = j + 2 := ⟨k - 2, by omega⟩
  rw [show k + 2 = (k + 1) + 1 by omega]
  simp only [l4_Rules.l0]
  rw [if_neg (by omega)]
  simp only [l4_Rules.j1, Bool.false_eq_true, if_false]
 | succ d ih =>
  intro i out hi ho ht
  have hlt : i < l.length := by omega
  by_cases h20 : (i : Int) < 20
  ·obtain ⟨r, hr, hm⟩ := vv_ l[i] s hs (hok _ (List.getElem_mem hlt)) (hf _ (List.getElem_mem hlt)).1 (hf _ (List.getElem_mem hlt)).2
   have hw : wrap64 ((i : Int) + 1) = ((i + 1 : Nat) : Int) := by rw [le_ (by omega)]; rfl
   have hmade : ∀ q ∈ out ++ [r], Made s q := by
    intro q hq
    rcases List.mem_append.1 hq with hq | hq
    ·exact ht.made q hq
    rw [List.mem_singleton.1 hq]; exact hr
   have hstep : ∀ k, 45 < k → l4_Rules.l0 (k + 2) l s out i = if xa_ (out ++ [r]) = true then l4_Rules.l0 k l s (out ++ [r]) ((i + 1 : Nat) : Int) else l4_Rules.l0 k l s out ((i + 1 : Nat) : Int) := by
    intro k hk
    rw [show k + 2 = (k + 1) + 1 by omega]
    simp only [l4_Rules.l0]
    rw [if_pos (by omega), decide_eq_true h20]
    simp only [l4_Rules.j1, if_true, Option.bind_some, List.nil_append, List.length_nil, Nat.zero_add]
    rw [if_pos (by omega), if_pos (by omega), if_pos (by omega), mk_ l i hlt, hm k (by omega), Option.bind_some]
    simp only [rule_eta]
    rw [if_pos (by omega), hw]
    rfl
   cases hc : xa_ (out ++ [r]) with
   | true =>
    obtain ⟨res, h1, h2⟩ := ih (i + 1) (out ++ [r]) (by omega) (by rw [List.length_append]; simp; omega) ⟨hmade, hc⟩
    refine ⟨res, h1, fun k hk => ?_⟩
    obtain ⟨k, rfl⟩ : ∃ j, k = j + 2 := ⟨k - 2, by omega⟩
    rw [hstep k (by omega), hc, if_pos rfl]
    exact h2 k (by omega)
   | false =>
    obtain ⟨res, h1, h2⟩ := ih (i + 1) out (by omega) (by omega) ht
    refine ⟨res, h1, fun k hk => ?_⟩
    obtain ⟨k, rfl⟩ : ∃ j, k = j + 2 := ⟨k - 2, by omega⟩
    rw [hstep k (by omega), hc, if_neg (by simp)]
    exact h2 k (by omega)
  refine ⟨out, ht, fun k hk => ?_⟩
  obtain ⟨k, rfl⟩ : ∃ j, k = j + 2 := ⟨k - 2, by omega⟩
  rw [show k + 2 = (k + 1) + 1 by omega]
  simp only [l4_Rules.l0]
  rw [if_pos (by omega), decide_eq_false h20]
  simp only [l4_Rules.j1, Bool.false_eq_true, if_false]
theorem mt_ : xa_ [] = true := by
 rw [bc_]
 exact ⟨by simp, rfl, fun x hx => cr_ _ id (fun r hr => by cases hr) x hx⟩
theorem ms_ (l : List Raw') (s : Int) (hs : 1 ≤ s ∧ s ≤ 20) (hl : l.length ≤ 80) (hok : ∀ x ∈ l, ao_ x) (hf : fewB l = true) : ∃ res, Told s res ∧ ∀ k, 300 ≤ k → l4_Rules.f k l s = some res := by
 obtain ⟨res, h1, h2⟩ := ns_ l s hs hl hok (fun x hx => of_decide_eq_true (List.all_eq_true.1 hf x hx)) l.length 0 [] (by omega) (Nat.le_refl _) ⟨fun r hr => (by cases hr), mt_⟩
 exact ⟨res, h1, fun k hk => h2 k (by omega)⟩
end Go.Proofs.YtjfbfhoipgldgaaGreat.P
end
