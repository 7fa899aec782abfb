/- Spans that were told may be overwritten: told again they are alike; rules and signs are not changed. Part 6: contracts of the functions that the law reaches, and words for them. -/
import Derived.Deep.Slices
import Derived.ChangeArms
import Derived.ChangeSame
import Derived.Test.YtjfbfhoipgldgaaGreatMCO5
section
namespace Go.Proofs.YtjfbfhoipgldgaaGreat.P
open Go.RowKit Go.Proofs.YtjfbfhoipgldgaaGreatW.PrintWords Go.Proofs.YtjfbfhoipgldgaaGreatW.PrintLast Go.Proofs.YtjfbfhoipgldgaaGreatW.PrintMore
attribute [local go_sem] ob_ lb_ vb_ ub_ db_ cb_ nb_ kb_   
set_option linter.unusedVariables false
set_option linter.unusedSimpArgs false
attribute [local go_sem] Oper.semAt_some
def C7 (P : T7) (W : World) (F : Int → Nat → Nat → Nat) : Prop := ∃ f, IntBlk W P.cb P.cc f ∧ ∀ s p q : Nat, s < 20 → p ≤ P.n → q ≤ P.n → f (P.idx s p q) = Chart.cap P.most (F (s : Int) p q)
theorem C7.cell {P : T7} (hP : P.Ok) {W : World} {F : Int → Nat → Nat → Nat} (h : C7 P W F) (s p q : Nat) (hs : s < 20) (hp : p ≤ P.n) (hq : q ≤ P.n) : W.cell? ⟨P.cb, P.idx s p q, none⟩ = some (.int .i64 (Chart.cap P.most (F (s : Int) p q) : Int)) := by
 obtain ⟨f, h1, h2⟩ := h
 rw [h1.cell _ (by rw [hP.2.2.2]; exact P.idx_lt s p q hs hp hq), h2 s p q hs hp hq]
theorem C7.below {P : T7} {W W1 : World} {F : Int → Nat → Nat → Nat} (h : C7 P W F) (hb : Below W.heap.size W W1) : C7 P W1 F := by
 obtain ⟨f, h1, h2⟩ := h
 exact ⟨f, h1.below hb, h2⟩
def By7 (P : T7) (W : World) (bb : Nat) (toks : List Tok') : Prop := ∃ vals : Array Value, W.heap[bb]? = some (.cells vals 29 (0, 0)) ∧ vals.size = P.n + 1 ∧ ∀ q : Nat, q ≤ P.n → ∃ A c, vals[q]? = some (.slice A (atP toks q).length c) ∧ (atP toks q).length ≤ c ∧ Kd.C k31 W A (atP toks q).length (atP toks q)
theorem By7.cell {P : T7} {W : World} {bb : Nat} {toks : List Tok'} (h : By7 P W bb toks) (q : Nat) (hq : q ≤ P.n) : ∃ A c, W.cell? ⟨bb, q, none⟩ = some (.slice A (atP toks q).length c) ∧ (atP toks q).length ≤ c ∧ Kd.C k31 W A (atP toks q).length (atP toks q) := by
 obtain ⟨vals, h1, _, h3⟩ := h
 obtain ⟨A, c, h4, h5⟩ := h3 q hq
 exact ⟨A, c, (ca_ h1 q).trans h4, h5⟩
section
variable {ops : Array Oper} {o : Oper} {a : Act} {Q : Exit → Act → World → Prop} {Kc : Act → World → Prop}
theorem ah_ {W : World} (hw : Region.wanted o (yielded ops a.tmps) = true) (hN : o.dst = none) (p x : Operand) (ho : o.op = .store 3 p x) {g i m : Nat} {f : Nat → Nat} (v : Int) (haddr : a.eval p = .pointer (some ⟨g, i, none⟩)) (hx : a.eval x = .int .i64 v)
  (HB : IntBlk W g m f) (hi : i < m) (h : Kc (a.put none undef) (W.setCell ⟨g, i, none⟩ (.int .i64 v))) : if Region.wanted o (yielded ops a.tmps) = true then Oper.wp Tryz.prog o a W Kc Q else Kc (a.put none undef) W := by
 obtain ⟨vals, h1, h2, _⟩ := HB
 have hrun := bi_ 3 (.int .i64 v) [.int .i64 v] h1 rfl (P := Tryz.prog) (by kernel_rfl) (o := i) (by simp; omega) (by intro q hq; rw [List.mem_singleton] at hq; rw [hq]; rfl)
 rw [if_pos hw]
 unfold Oper.wp execOp
 simp only [ho, haddr, hx, Sem.run_bind, Sem.run_pure, Result.andThen_ok, hrun]
 show Kc (a.put o.dst undef) _
 rw [hN]
 exact h
end
theorem IntBlk.drewN {W : World} {b m : Nat} {f : Nat → Nat} (h : IntBlk W b m f) (n : Nat) : IntBlk (W.drewN n) b m f := h
theorem IntBlk.drew {W : World} {b m : Nat} {f : Nat → Nat} (h : IntBlk W b m f) : IntBlk W.drew b m f := h
theorem IntBlk.ne {W : World} {b m : Nat} {f : Nat → Nat} (h : IntBlk W b m f) {g : Nat} {vals : Array Value} {t : TypeId} (hg : W.heap[g]? = some (.cells vals t (0, 0))) (ht : t ≠ 3) : b ≠ g := by
 obtain ⟨v, h1, _⟩ := h
 rintro rfl
 rw [h1] at hg
 injection hg with hg
 injection hg with _ hg
 exact ht hg.symm
theorem pl_ (toks : List Tok') (h : ∀ x ∈ toks, x.f0 < x.f1) : Chart.Fwd (tokT toks) := by
 intro x p q hpq
 unfold tokT
 refine List.length_eq_zero_iff.2 (List.filter_eq_nil_iff.2 fun t ht => ?_)
 simp only [decide_eq_true_eq]
 intro e
 unfold pd_ at e
 injection e with e1 e
 injection e with e2 e3
 have := h t ht
 omega
theorem up_ (P : T7) (hP : P.Ok) (a b : Nat) (ha : a ≤ P.most) (hb : b ≤ P.most) : a + b ≤ 1000000000000000000 := by
 have := hP.2.2.1
 omega
theorem bk_ (P : T7) (hP : P.Ok) (a b : Nat) (ha : a ≤ P.most) (hb : b ≤ P.most) : wrap64 ((a : Int) + (b : Int)) = ((a + b : Nat) : Int) := by
 have := hP.2.2.1
 rw [w64 _ (by omega) (by omega)]
 rfl
def ve_ (r : qa_) (A1 : Option Addr) (c1 : Nat) (A3 : Option Addr) (c3 : Nat) : Obj := .cells #[.int .i64 r.f0, .slice A1 r.f1.length c1, .int .i64 r.f2.f0, .slice A3 r.f2.f1.length c3, .int .i64 r.f3] 48
set_option maxHeartbeats 4000000 in
set_option maxRecDepth 100000 in
theorem hv_ (P : T7) (hP : P.Ok) (w : World) (hA : P.At w) (F : Int → Nat → Nat → Nat) (hF : Chart.Fwd F) (hC : C7 P w F) (bb : Nat) (toks : List Tok') (htl : toks.length ≤ 1000) (hby : By7 P w bb toks) (r : qa_) (hr : tc_ r = true) (A1 : Option Addr) (c1 : Nat) (A3 : Option Addr) (c3 : Nat) (hr1 : Kd.C (Kd.int .i64) w A1 r.f1.length r.f1)
  (hT : ∀ x ∈ toks, 0 ≤ x.f0 ∧ x.f0 < x.f1 ∧ x.f1 ≤ (P.n : Int)) (p : Nat) (hp : p ≤ P.n) :
  Calls Tryz.prog 41 #[.pointer (some ⟨P.tb, 0, none⟩), .agg #[.int .i64 r.f0, .slice A1 r.f1.length c1, .int .i64 r.f2.f0, .slice A3 r.f2.f1.length c3, .int .i64 r.f3], .slice (some ⟨bb, 0, none⟩) (P.n + 1) (P.n + 1), .int .i64 (p : Int)] w fun e w' => ∃ b : Nat, e = .returned (.slice (some ⟨b, 0, none⟩) (P.n + 1) (P.n + 1)) ∧ IntBlk w' b (P.n + 1) (fun z => Chart.cap P.most (Chart.ways (tokT toks) P.n F r.f1 p z)) ∧ Below w.heap.size w w' := by
 have hn := hP.1
 have hm1 := hP.2.1
 have hTF : Chart.Fwd (tokT toks) := pl_ toks (fun x hx => (hT x hx).2.1)
 have hEF := Chart.E_fwd (tokT toks) hTF hF
 have hrr := dd_ r hr
 have hrl : r.f1.length ≤ 6 := hrr.2.1.2
 have hmk : ∀ W : World, (Instr.makeSlice 23 (.int .i64 ((P.n : Int) + 1)) (.int .i64 ((P.n : Int) + 1))).run Tryz.prog W = .ok (.slice (some ⟨W.heap.size, 0, none⟩) (P.n + 1) (P.n + 1)) (W.alloc (.cells (madeCells #[.int .i64 0] (P.n + 1)) 3)) := make7 (P.n + 1) (by omega)
 have c0 : (w.alloc (.cells #[.int .i64 r.f0, .slice A1 r.f1.length c1, .int .i64 r.f2.f0, .slice A3 r.f2.f1.length c3, .int .i64 r.f3] 48)).cell? ⟨P.tb, 0, none⟩ = some (.int .i64 (P.n : Int)) := (ca_ (hA.below (ba_ (Below.refl _ _) _)) 0).trans rfl
 have HBX : Aside0 ((w.alloc (.cells #[.int .i64 r.f0, .slice A1 r.f1.length c1, .int .i64 r.f2.f0, .slice A3 r.f2.f1.length c3, .int .i64 r.f3] 48)).heap[w.heap.size]? = some (ve_ r A1 c1 A3 c3)) := ⟨qb_ w _⟩
 have HB := Aside0.mk (ba_ (Below.refl w.heap.size w) (.cells #[.int .i64 r.f0, .slice A1 r.f1.length c1, .int .i64 r.f2.f0, .slice A3 r.f2.f1.length c3, .int .i64 r.f3] 48))
 have HP := Aside0.mk hP
 have HA := Aside0.mk hA
 have HC := Aside0.mk hC
 have HBY := Aside0.mk hby
 have HR1 := Aside0.mk hr1
 have HT := Aside0.mk hT
 have HRR := Aside0.mk hrr
 have HEF := Aside0.mk hEF
 have HTF := Aside0.mk hTF
 have HF := Aside0.mk hF
 have HMK := Aside0.mk hmk
 clear hP hA hC hby hr1 hT hr hrr hEF hTF hF
 go_enter Tryz.func41, Tryz.ntmps41
 go_upto_region 2 with (fail)
 clear c0
 generalize hbox : w.alloc (.cells #[.int .i64 r.f0, .slice A1 r.f1.length c1, .int .i64 r.f2.f0, .slice A3 r.f2.f1.length c3, .int .i64 r.f3] 48) = W1 at *
 have HW1 : Aside0 (W1.heap.size = w.heap.size + 1) := ⟨by rw [← hbox]; simp⟩
 have HB2 := Aside0.mk (ba_ HB.out (.cells (madeCells #[.int .i64 0] (P.n + 1)) 3))
 have HI2 : Aside0 (IntBlk (W1.alloc (.cells (madeCells #[.int .i64 0] (P.n + 1)) 3)) (w.heap.size + 1) (P.n + 1) (fun _ => 0)) := ⟨by rw [← HW1.out]; exact IntBlk.new W1 (P.n + 1)⟩
 have HX2 := Aside0.mk (ua_ (o' := .cells (madeCells #[.int .i64 0] (P.n + 1)) 3) HBX.out)
 clear HB HBX hbox HW1
 generalize W1.alloc (.cells (madeCells #[.int .i64 0] (P.n + 1)) 3) = W2 at *
 have hcp := HI2.out.cell p (by omega)
 have hfp := HI2.out.frozen p
 have HI3 : Aside0 (IntBlk (W2.setCell ⟨w.heap.size + 1, p, none⟩ (.int .i64 1)) (w.heap.size + 1) (P.n + 1) (fun z => Chart.cap P.most (zh_ (tokT toks) P.n F r.f1 p 0 z))) := ⟨(HI2.out.put p (by omega) 1).congr fun z hz => by
  unfold zh_
  rw [List.take_zero, Chart.ways_nil]
  unfold Chart.cap
  by_cases e : z = p
  ·simp [e]; omega
  simp [e]⟩
 have HB3 : Aside0 (Below w.heap.size w (W2.setCell ⟨w.heap.size + 1, p, none⟩ (.int .i64 1))) := ⟨HB2.out.setCell (p := ⟨w.heap.size + 1, p, none⟩) (Nat.le_succ _) _⟩
 have HX3 : Aside0 ((W2.setCell ⟨w.heap.size + 1, p, none⟩ (.int .i64 1)).heap[w.heap.size]? = some (ve_ r A1 c1 A3 c3)) := ⟨(heap_setCell_other W2 ⟨w.heap.size + 1, p, none⟩ w.heap.size _ (by simp)).trans HX2.out⟩
 have HWB : Aside0 (w.heap.size < w.heap.size + 1) := ⟨Nat.lt_succ_self _⟩
 clear hmk
 go_wp2
 clear hcp hfp
 generalize w.heap.size + 1 = wb0 at *
 go_loopg [9, 10] r.f1.length (fun gg s9 s10 wr => ∃ i wb : Nat, i ≤ r.f1.length ∧ r.f1.length - i ≤ gg ∧ s10 = .int .i64 i ∧ s9 = .slice (some ⟨wb, 0, none⟩) (P.n + 1) (P.n + 1) ∧ Aside0 (IntBlk wr wb (P.n + 1) (fun z => Chart.cap P.most (zh_ (tokT toks) P.n F r.f1 p i z))) ∧ Aside0 (w.heap.size < wb) ∧ Aside0 (Below w.heap.size w wr) ∧ Aside0 (wr.heap[w.heap.size]? = some (ve_ r A1 c1 A3 c3)))
 case atStart => exact ⟨0, wb0, Nat.zero_le _, by omega, rfl, rfl, HI3, HWB, HB3, HX3⟩
 clear HI3 HWB HB3 HX3 HI2 HX2 HB2
 obtain ⟨i, wb, hi, hgg, rfl, rfl, HI, HWB, HB, HX⟩ := hrel
 have hb1 : wr.cell? ⟨w.heap.size, 1, none⟩ = some (.slice A1 r.f1.length c1) := ca_ HX.out 1
 by_cases hil : i < r.f1.length
 ·have hilz : (i : Int) < (r.f1.length : Int) := by omega
  have c0 : wr.cell? ⟨P.tb, 0, none⟩ = some (.int .i64 (P.n : Int)) := (ca_ (HA.out.below HB.out) 0).trans rfl
  have hmk := HMK.out
  have HB1 := Aside0.mk (ba_ HB.out (.cells (madeCells #[.int .i64 0] (P.n + 1)) 3))
  have HN1 := Aside0.mk (IntBlk.new wr (P.n + 1))
  have HI1 := Aside0.mk (HI.out.alloc (.cells (madeCells #[.int .i64 0] (P.n + 1)) 3))
  have HX1 := Aside0.mk (ua_ (o' := .cells (madeCells #[.int .i64 0] (P.n + 1)) 3) HX.out)
  have HNB : Aside0 (wb < wr.heap.size) := ⟨HI.out.lt⟩
  obtain ⟨ad1, hA1, hcv⟩ := Kd.at_int HR1.out (i : Int) (by omega) hilz
  subst hA1
  rw [Int.toNat_natCast] at hcv
  have HCV := Aside0.mk hcv
  have hxr : rd r.f1 (i : Int) = r.f1[i] := by
   show r.f1.getD (i : Int).toNat 0 = _
   rw [Int.toNat_natCast, List.getD_eq_getElem?_getD, List.getElem?_eq_getElem hil]
   rfl
  have hx20 := HRR.out.2.2.1 _ (List.getElem_mem hil)
  have hsn := zr_ (tokT toks) P.n F r.f1 p i hil
  rw [← hxr] at hsn hx20
  generalize rd r.f1 (i : Int) = x at *
  have hlow := su_ (tokT toks) P.n F HTF.out HF.out r.f1 p i
  have HSN := Aside0.mk hsn
  have HLOW := Aside0.mk hlow
  generalize zh_ (tokT toks) P.n F r.f1 p i = WW at *
  have HG : Aside0 (∀ q z, ¬ q < z → Chart.E (tokT toks) F x q z = 0) := ⟨fun q z h => HEF.out x q z h⟩
  obtain ⟨G, hG⟩ : ∃ G, G = Chart.E (tokT toks) F x := ⟨_, rfl⟩
  rw [← hG] at HG HSN
  have HGE := Aside0.mk hG
  have HN2 : Aside0 (IntBlk (wr.alloc (.cells (madeCells #[.int .i64 0] (P.n + 1)) 3)) wr.heap.size (P.n + 1) (fun z => Chart.cap P.most (ed_ WW G p z))) := ⟨HN1.out.congr fun z _ => by
   rw [kq_ WW G p z (fun m hm => HLOW.out m hm)]
   exact (Nat.zero_min _).symm⟩
  clear hsn hlow hxr hG HI HB HX HN1 hcv
  go_wp2
  clear hb1 c0 hmk
  generalize wr.alloc (.cells (madeCells #[.int .i64 0] (P.n + 1)) 3) = W3 at *
  generalize wr.heap.size = nb at *
  go_loopg [12] (P.n + 1 - p) (fun gg2 s12 wr => ∃ q : Nat, p ≤ q ∧ q ≤ P.n + 1 ∧ P.n + 1 - q ≤ gg2 ∧ s12 = .int .i64 q ∧ Aside0 (IntBlk wr nb (P.n + 1) (fun z => Chart.cap P.most (ed_ WW G q z))) ∧ Aside0 (IntBlk wr wb (P.n + 1) (fun z => Chart.cap P.most (WW z))) ∧ Aside0 (Below w.heap.size w wr) ∧ Aside0 (wr.heap[w.heap.size]? = some (ve_ r (some ad1) c1 A3 c3)))
  case atStart => exact ⟨p, Nat.le_refl _, by omega, by omega, rfl, HN2, HI1, HB1, HX1⟩
  clear HN2 HI1 HB1 HX1
  obtain ⟨q, hpq, hq1, hgg2, rfl, HN, HI, HB, HX⟩ := hrel
  have c0 : wr.cell? ⟨P.tb, 0, none⟩ = some (.int .i64 (P.n : Int)) := (ca_ (HA.out.below HB.out) 0).trans rfl
  by_cases hqn : q ≤ P.n
  ·have hqz : (q : Int) ≤ (P.n : Int) := by omega
   have hq0 : (q : Int) < (P.n : Int) + 1 := by omega
   have hb1 : wr.cell? ⟨w.heap.size, 1, none⟩ = some (.slice (some ad1) r.f1.length c1) := ca_ HX.out 1
   have hcv : wr.cell? (ad1.add i) = some (.int .i64 x) := fb_ HB.out HCV.out
   have hcw := HI.out.cell q (by omega)
   by_cases hz0 : WW q = 0
   ·have hcz : Chart.cap P.most (WW q) = 0 := by rw [hz0]; exact Nat.zero_min _
    rw [hcz] at hcw
    have HN4 : Aside0 (IntBlk wr nb (P.n + 1) (fun z => Chart.cap P.most (ed_ WW G (q + 1) z))) := ⟨HN.out.congr fun z _ => by rw [hs_ WW G q z hz0]⟩
    clear hcz hz0
    go_wp2
    go_roundg (P.n + 1 - (q + 1))
    case measure => omega
    case rel => exact ⟨q + 1, by omega, by omega, by omega, by go_num, HN4, HI, HB, HX⟩
   have hcn : Chart.cap P.most (WW q) ≠ 0 := Chart.cap_pos (by omega) hz0
   have hwm := Chart.cap_le P.most (WW q)
   obtain ⟨wv, hwv⟩ : ∃ wv, wv = Chart.cap P.most (WW q) := ⟨_, rfl⟩
   rw [← hwv] at hcw hcn hwm
   have HWV := Aside0.mk hwv
   have hwz : ((wv : Int) == 0) = false := by simpa using hcn
   clear hwv hz0
   by_cases hx0 : 0 ≤ x
   ·have hx0d : decide (0 ≤ x) = true := decide_eq_true hx0
    obtain ⟨s, rfl⟩ : ∃ s : Nat, x = (s : Int) := ⟨x.toNat, by omega⟩
    have hs20 : s < 20 := by omega
    have HGF : Aside0 (∀ z, G q z = F (s : Int) q z) := ⟨fun z => by rw [HGE.out]; unfold Chart.E; rw [if_neg (by omega)]⟩
    go_wp2
    clear hcw hb1 hcv c0
    have HN4 : Aside0 (IntBlk wr nb (P.n + 1) (fun y => Chart.cap P.most (if y < q + 1 then ed_ WW G (q + 1) y else ed_ WW G q y))) := ⟨HN.out.congr fun y _ => by
     split
     ·rw [qg_, HG.out q y (by omega), Nat.mul_zero, Nat.add_zero]
     rfl⟩
    go_loopg [13] (P.n - q) (fun gg3 s13 wr => ∃ z : Nat, q < z ∧ z ≤ P.n + 1 ∧ P.n + 1 - z ≤ gg3 ∧ s13 = .int .i64 z ∧ Aside0 (IntBlk wr nb (P.n + 1) (fun y => Chart.cap P.most (if y < z then ed_ WW G (q + 1) y else ed_ WW G q y))) ∧ Aside0 (IntBlk wr wb (P.n + 1) (fun z => Chart.cap P.most (WW z))) ∧ Aside0 (Below w.heap.size w wr) ∧ Aside0 (wr.heap[w.heap.size]? = some (ve_ r (some ad1) c1 A3 c3)))
    case atStart => exact ⟨q + 1, by omega, by omega, by omega, by go_num, HN4, HI, HB, HX⟩
    clear HN4 HN HI HB HX
    obtain ⟨z, hqz2, hz1, hgg3, rfl, HN, HI, HB, HX⟩ := hrel
    have c0 : wr.cell? ⟨P.tb, 0, none⟩ = some (.int .i64 (P.n : Int)) := (ca_ (HA.out.below HB.out) 0).trans rfl
    by_cases hzn : z ≤ P.n
    ·have hzz : (z : Int) ≤ (P.n : Int) := by omega
     have hz0 : (z : Int) < (P.n : Int) + 1 := by omega
     have r0 := HN.out.drew.cell z (by omega)
     have r1 := HI.out.drew.cell q (by omega)
     rw [if_neg (by omega)] at r0
     rw [← HWV.out] at r1
     have r2 : wr.drew.cell? ⟨P.tb, 1, none⟩ = some (.slice (some ⟨P.cb, 0, none⟩) P.cc P.cc) := (ca_ (HA.out.below HB.out) 1).trans rfl
     have r3 : wr.drew.cell? ⟨w.heap.size, 1, none⟩ = some (.slice (some ad1) r.f1.length c1) := ca_ HX.out 1
     have r4 : wr.drew.cell? (ad1.add i) = some (.int .i64 (s : Int)) := fb_ HB.out HCV.out
     have r5 : wr.drew.cell? ⟨P.cb, P.idx s q z, none⟩ = some (.int .i64 (Chart.cap P.most (F (s : Int) q z) : Int)) := fb_ HB.out (HC.out.cell HP.out s q z hs20 hqn hzn)
     have HA5 : Aside0 (P.At wr.drew) := ⟨HA.out.below (da_ HB.out)⟩
     have HN5 : Aside0 (IntBlk wr.drew nb (P.n + 1) _) := ⟨HN.out⟩
     have HI5 : Aside0 (IntBlk wr.drew wb (P.n + 1) _) := ⟨HI.out⟩
     have HB5 : Aside0 (Below w.heap.size w wr.drew) := ⟨da_ HB.out⟩
     have HX5 : Aside0 (wr.drew.heap[w.heap.size]? = some (ve_ r (some ad1) c1 A3 c3)) := ⟨HX.out⟩
     have hidx : (P.idx s q z : Int) < (P.cc : Int) := by have := P.idx_lt s q z hs20 hqn hzn; have := HP.out.2.2.2; omega
     have hcm := Chart.cap_le P.most (F (s : Int) q z)
     have ham := Chart.cap_le P.most (ed_ WW G q z)
     obtain ⟨a0, ha0⟩ : ∃ a0, a0 = Chart.cap P.most (ed_ WW G q z) := ⟨_, rfl⟩
     obtain ⟨cv, hcve⟩ : ∃ cv, cv = Chart.cap P.most (F (s : Int) q z) := ⟨_, rfl⟩
     rw [← ha0] at r0 ham
     rw [← hcve] at r5 hcm
     have HNEW : Aside0 (Chart.cap P.most (a0 + Chart.cap P.most (wv * cv)) = Chart.cap P.most (ed_ WW G (q + 1) z)) := ⟨by
      rw [ha0, hcve, HWV.out, Chart.step_sym, qg_, HGF.out z]⟩
     have HBND := Aside0.mk (up_ P HP.out a0 (Chart.cap P.most (wv * cv)) ham (Chart.cap_le _ _))
     have HADD := Aside0.mk (bk_ P HP.out a0 (Chart.cap P.most (wv * cv)) ham (Chart.cap_le _ _))
     clear ha0 hcve HN HI HB HX
     go_wp2
     clear c0
     refine td_ (n := 32) (S := fun w' => w'.cell? ⟨nb, z, none⟩ = some (.int .i64 (a0 : Int)) ∧ w'.cell? ⟨wb, q, none⟩ = some (.int .i64 (wv : Int)) ∧ w'.cell? ⟨P.tb, 1, none⟩ = some (.slice (some ⟨P.cb, 0, none⟩) P.cc P.cc) ∧ w'.cell? ⟨w.heap.size, 1, none⟩ = some (.slice (some ad1) r.f1.length c1) ∧ w'.cell? (ad1.add i) = some (.int .i64 (s : Int)) ∧ w'.cell? ⟨P.cb, P.idx s q z, none⟩ = some (.int .i64 (cv : Int))) (ds := [31]) (f_ 32 0) (by kernel_rfl) rfl rfl ⟨r0, r1, r2, r3, r4, r5⟩ (fun hHeld => ?_)
     clear r0 r1 r2 r3 r4 r5
     generalize wr.drew = W5 at *
     refine oa_ (i := 0) (N := some 68) (v := ?_) (a' := ?_) (f_ 32 1) rfl rfl (by kernel_rfl) (fun _ _ _ h => h) (Or.inl ⟨by rfl, ?_⟩) ?_ ?_
     rotate_left
     ·intro w'
      go_simp
      try with_reducible rfl
     rotate_left
     ·simp only [Act.put, s1_, s2_, s3_, ka_, la_]
      rfl
     refine oa_ (i := 1) (N := some 69) (v := ?_) (a' := ?_) (f_ 32 2) rfl rfl (by kernel_rfl) (fun _ _ _ h => h) (Or.inl ⟨by rfl, ?_⟩) ?_ ?_
     rotate_left
     ·intro w'
      go_simp
      try with_reducible rfl
     rotate_left
     ·simp only [Act.put, s1_, s2_, s3_, ka_, la_]
      rfl
     refine oa_ (i := 2) (N := some 70) (v := ?_) (a' := ?_) (f_ 32 3) rfl rfl (by kernel_rfl) (fun _ _ _ h => h) (Or.inl ⟨by rfl, ?_⟩) ?_ ?_
     rotate_left
     ·intro w'
      go_simp
      try with_reducible rfl
     rotate_left
     ·simp only [Act.put, s1_, s2_, s3_, ka_, la_]
      rfl
     refine oa_ (i := 3) (N := some 71) (v := ?_) (a' := ?_) (f_ 32 4) rfl rfl (by kernel_rfl) (fun _ _ _ h => h) (Or.inl ⟨by rfl, ?_⟩) ?_ ?_
     rotate_left
     ·intro w'
      go_simp
      try with_reducible rfl
     rotate_left
     ·simp only [Act.put, s1_, s2_, s3_, ka_, la_]
      rfl
     refine oa_ (i := 4) (N := some 72) (v := ?_) (a' := ?_) (f_ 32 5) rfl rfl (by kernel_rfl) (fun _ _ _ h => h) (Or.inl ⟨by rfl, ?_⟩) ?_ ?_
     rotate_left
     ·intro w'
      go_simp
      try with_reducible rfl
     rotate_left
     ·simp only [Act.put, s1_, s2_, s3_, ka_, la_]
      rfl
     refine oa_ (i := 5) (N := some 73) (v := ?_) (a' := ?_) (f_ 32 6) rfl rfl (by kernel_rfl) (fun _ _ _ h => h) (Or.inl ⟨by rfl, ?_⟩) ?_ ?_
     rotate_left
     ·intro w'
      go_simp
      try with_reducible rfl
     rotate_left
     ·simp only [Act.put, s1_, s2_, s3_, ka_, la_]
      rfl
     refine take_ (i := 6) (N := some 74) (v := ?_) (a' := ?_) (f_ 32 7) rfl rfl (by kernel_rfl) (fun _ _ _ h => h) (Or.inl ⟨by rfl, ?_⟩) hHeld ?_ ?_
     rotate_left
     ·rintro w' ⟨s0, s1, s2, s3, s4, s5⟩
      go_simp
      try with_reducible rfl
     rotate_left
     ·simp only [Act.put, s1_, s2_, s3_, ka_, la_]
      rfl
     refine oa_ (i := 7) (N := some 75) (v := ?_) (a' := ?_) (f_ 32 8) rfl rfl (by kernel_rfl) (fun _ _ _ h => h) (Or.inl ⟨by rfl, ?_⟩) ?_ ?_
     rotate_left
     ·intro w'
      go_simp
      try with_reducible rfl
     rotate_left
     ·simp only [Act.put, s1_, s2_, s3_, ka_, la_]
      rfl
     refine oa_ (i := 8) (N := some 76) (v := ?_) (a' := ?_) (f_ 32 9) rfl rfl (by kernel_rfl) (fun _ _ _ h => h) (Or.inl ⟨by rfl, ?_⟩) ?_ ?_
     rotate_left
     ·intro w'
      go_simp
      try with_reducible rfl
     rotate_left
     ·simp only [Act.put, s1_, s2_, s3_, ka_, la_]
      rfl
     refine oa_ (i := 9) (N := some 77) (v := ?_) (a' := ?_) (f_ 32 10) rfl rfl (by kernel_rfl) (fun _ _ _ h => h) (Or.inl ⟨by rfl, ?_⟩) ?_ ?_
     rotate_left
     ·intro w'
      go_simp
      try with_reducible rfl
     rotate_left
     ·simp only [Act.put, s1_, s2_, s3_, ka_, la_]
      rfl
     refine oa_ (i := 10) (N := some 78) (v := ?_) (a' := ?_) (f_ 32 11) rfl rfl (by kernel_rfl) (fun _ _ _ h => h) (Or.inl ⟨by rfl, ?_⟩) ?_ ?_
     rotate_left
     ·intro w'
      go_simp
      try with_reducible rfl
     rotate_left
     ·simp only [Act.put, s1_, s2_, s3_, ka_, la_]
      rfl
     refine take_ (i := 11) (N := some 79) (v := ?_) (a' := ?_) (f_ 32 12) rfl rfl (by kernel_rfl) (fun _ _ _ h => h) (Or.inl ⟨by rfl, ?_⟩) hHeld ?_ ?_
     rotate_left
     ·rintro w' ⟨s0, s1, s2, s3, s4, s5⟩
      go_simp
      try with_reducible rfl
     rotate_left
     ·simp only [Act.put, s1_, s2_, s3_, ka_, la_]
      rfl
     refine oa_ (i := 12) (N := some 80) (v := ?_) (a' := ?_) (f_ 32 13) rfl rfl (by kernel_rfl) (fun _ _ _ h => h) (Or.inl ⟨by rfl, ?_⟩) ?_ ?_
     rotate_left
     ·intro w'
      go_simp
      try with_reducible rfl
     rotate_left
     ·simp only [Act.put, s1_, s2_, s3_, ka_, la_]
      rfl
     refine oa_ (i := 13) (N := some 81) (v := ?_) (a' := ?_) (f_ 32 14) rfl rfl (by kernel_rfl) (fun _ _ _ h => h) (Or.inl ⟨by rfl, ?_⟩) ?_ ?_
     rotate_left
     ·intro w'
      go_simp
      try with_reducible rfl
     rotate_left
     ·simp only [Act.put, s1_, s2_, s3_, ka_, la_]
      rfl
     refine oa_ (i := 14) (N := some 82) (v := ?_) (a' := ?_) (f_ 32 15) rfl rfl (by kernel_rfl) (fun _ _ _ h => h) (Or.inl ⟨by rfl, ?_⟩) ?_ ?_
     rotate_left
     ·intro w'
      go_simp
      try with_reducible rfl
     rotate_left
     ·simp only [Act.put, s1_, s2_, s3_, ka_, la_]
      rfl
     refine take_ (i := 15) (N := some 83) (v := ?_) (a' := ?_) (f_ 32 16) rfl rfl (by kernel_rfl) (fun _ _ _ h => h) (Or.inl ⟨by rfl, ?_⟩) hHeld ?_ ?_
     rotate_left
     ·rintro w' ⟨s0, s1, s2, s3, s4, s5⟩
      go_simp
      try with_reducible rfl
     rotate_left
     ·simp only [Act.put, s1_, s2_, s3_, ka_, la_]
      rfl
     refine oa_ (i := 16) (N := some 84) (v := ?_) (a' := ?_) (f_ 32 17) rfl rfl (by kernel_rfl) (fun _ _ _ h => h) (Or.inl ⟨by rfl, ?_⟩) ?_ ?_
     rotate_left
     ·intro w'
      go_simp
      try with_reducible rfl
     rotate_left
     ·simp only [Act.put, s1_, s2_, s3_, ka_, la_]
      rfl
     refine oa_ (i := 17) (N := some 85) (v := ?_) (a' := ?_) (f_ 32 18) rfl rfl (by kernel_rfl) (fun _ _ _ h => h) (Or.inl ⟨by rfl, ?_⟩) ?_ ?_
     rotate_left
     ·intro w'
      go_simp
      try with_reducible rfl
     rotate_left
     ·simp only [Act.put, s1_, s2_, s3_, ka_, la_]
      rfl
     refine take_ (i := 18) (N := some 86) (v := ?_) (a' := ?_) (f_ 32 19) rfl rfl (by kernel_rfl) (fun _ _ _ h => h) (Or.inl ⟨by rfl, ?_⟩) hHeld ?_ ?_
     rotate_left
     ·rintro w' ⟨s0, s1, s2, s3, s4, s5⟩
      go_simp
      try with_reducible rfl
     rotate_left
     ·simp only [Act.put, s1_, s2_, s3_, ka_, la_]
      rfl
     refine oa_ (i := 19) (N := some 87) (v := ?_) (a' := ?_) (f_ 32 20) rfl rfl (by kernel_rfl) (fun _ _ _ h => h) (Or.inl ⟨by rfl, ?_⟩) ?_ ?_
     rotate_left
     ·intro w'
      go_simp
      try with_reducible rfl
     rotate_left
     ·simp only [Act.put, s1_, s2_, s3_, ka_, la_]
      rfl
     refine oa_ (i := 20) (N := some 88) (v := ?_) (a' := ?_) (f_ 32 21) rfl rfl (by kernel_rfl) (fun _ _ _ h => h) (Or.inl ⟨by rfl, ?_⟩) ?_ ?_
     rotate_left
     ·intro w'
      go_simp
      try with_reducible rfl
     rotate_left
     ·simp only [Act.put, s1_, s2_, s3_, ka_, la_]
      rfl
     refine take_ (i := 21) (N := some 89) (v := ?_) (a' := ?_) (f_ 32 22) rfl rfl (by kernel_rfl) (fun _ _ _ h => h) (Or.inl ⟨by rfl, ?_⟩) hHeld ?_ ?_
     rotate_left
     ·rintro w' ⟨s0, s1, s2, s3, s4, s5⟩
      go_simp
      try with_reducible rfl
     rotate_left
     ·simp only [Act.put, s1_, s2_, s3_, ka_, la_]
      rfl
     refine oa_ (i := 22) (N := some 90) (v := ?_) (a' := ?_) (f_ 32 23) rfl rfl (by kernel_rfl) (fun _ _ _ h => h) (Or.inl ⟨by rfl, ?_⟩) ?_ ?_
     rotate_left
     ·intro w'
      go_simp
      try with_reducible rfl
     rotate_left
     ·simp only [Act.put, s1_, s2_, s3_, ka_, la_]
      rfl
     refine oa_ (i := 23) (N := some 91) (v := ?_) (a' := ?_) (f_ 32 24) rfl rfl (by kernel_rfl) (fun _ _ _ h => h) (Or.inl ⟨by rfl, ?_⟩) ?_ ?_
     rotate_left
     ·intro w'
      go_simp
      try with_reducible rfl
     rotate_left
     ·simp only [Act.put, s1_, s2_, s3_, ka_, la_]
      rfl
     refine one_ (i := 24) (N := some 92) (f_ 32 25) rfl rfl (by kernel_rfl) (by decide) (fun K hK => ?_)
     refine id_ Tryz.func23 (by kernel_rfl) rfl #[.pointer (some ⟨P.tb, 0, none⟩), .int .i64 (s : Int), .int .i64 (q : Int), .int .i64 (z : Int)] (by rfl) rfl rfl (by (try simp only [List.map_toArray, List.map_cons, List.map_nil]); rfl) ?_
     refine (nj_ P HP.out W5 HA5.out s q z hs20 hqn hzn).mono ?_
     rintro e' W6 ⟨rfl, ⟨⟨n1, rfl⟩⟩⟩
     refine ⟨_, rfl, ?_⟩
     refine hK.out _ _ ⟨hHeld.1, hHeld.2.1, hHeld.2.2.1, hHeld.2.2.2.1, hHeld.2.2.2.2.1, hHeld.2.2.2.2.2⟩ (fun hHeld => ?_)
     clear hK K
     refine ab_ (a' := ?_) ?_ ?_
     rotate_left
     ·show Act.put _ (some 92) _ = _
      simp only [Act.put, s1_, s2_, s3_, ka_, la_]
      rfl
     refine oa_ (i := 25) (N := some 93) (v := ?_) (a' := ?_) (f_ 32 26) rfl rfl (by kernel_rfl) (fun _ _ _ h => h) (Or.inl ⟨by rfl, ?_⟩) ?_ ?_
     rotate_left
     ·intro w'
      go_simp
      try with_reducible rfl
     rotate_left
     ·simp only [Act.put, s1_, s2_, s3_, ka_, la_]
      rfl
     refine take_ (i := 26) (N := some 94) (v := ?_) (a' := ?_) (f_ 32 27) rfl rfl (by kernel_rfl) (fun _ _ _ h => h) (Or.inl ⟨by rfl, ?_⟩) hHeld ?_ ?_
     rotate_left
     ·rintro w' ⟨s0, s1, s2, s3, s4, s5⟩
      go_simp
      try with_reducible rfl
     rotate_left
     ·simp only [Act.put, s1_, s2_, s3_, ka_, la_]
      rfl
     refine one_ (i := 27) (N := some 95) (f_ 32 28) rfl rfl (by kernel_rfl) (by decide) (fun K hK => ?_)
     refine id_ Tryz.func71 (by kernel_rfl) rfl #[.pointer (some ⟨P.tb, 0, none⟩), .int .i64 (wv : Int), .int .i64 (cv : Int)] (by rfl) rfl rfl (by (try simp only [List.map_toArray, List.map_cons, List.map_nil]); rfl) ?_
     refine (aq_ P HP.out (W5.drewN n1) HA5.out wv cv hwm hcm).mono ?_
     rintro e' W6 ⟨rfl, ⟨⟨n2, rfl⟩⟩⟩
     refine ⟨_, rfl, ?_⟩
     refine hK.out _ _ ⟨hHeld.1, hHeld.2.1, hHeld.2.2.1, hHeld.2.2.2.1, hHeld.2.2.2.2.1, hHeld.2.2.2.2.2⟩ (fun hHeld => ?_)
     clear hK K
     refine ab_ (a' := ?_) ?_ ?_
     rotate_left
     ·show Act.put _ (some 95) _ = _
      simp only [Act.put, s1_, s2_, s3_, ka_, la_]
      rfl
     refine oa_ (i := 28) (N := some 96) (v := ?_) (a' := ?_) (f_ 32 29) rfl rfl (by kernel_rfl) (fun _ _ _ h => h) (Or.inl ⟨by rfl, ?_⟩) ?_ ?_
     rotate_left
     ·intro w'
      go_simp
      try with_reducible rfl
     rotate_left
     ·simp only [Act.put, s1_, s2_, s3_, ka_, la_]
      rfl
     refine one_ (i := 29) (N := some 97) (f_ 32 30) rfl rfl (by kernel_rfl) (by decide) (fun K hK => ?_)
     refine id_ Tryz.func40 (by kernel_rfl) rfl #[.pointer (some ⟨P.tb, 0, none⟩), .int .i64 (wrap64 ((a0 : Int) + (Chart.cap P.most (wv * cv) : Int)))] (by rfl) rfl rfl (by (try simp only [List.map_toArray, List.map_cons, List.map_nil]); rfl) ?_
     rw [HADD.out]
     refine (wh_ P HP.out ((W5.drewN n1).drewN n2) HA5.out (a0 + Chart.cap P.most (wv * cv)) HBND.out).mono ?_
     rintro e' W6 ⟨rfl, ⟨⟨n3, rfl⟩⟩⟩
     refine ⟨_, rfl, ?_⟩
     refine hK.out _ _ ⟨hHeld.1, hHeld.2.1, hHeld.2.2.1, hHeld.2.2.2.1, hHeld.2.2.2.2.1, hHeld.2.2.2.2.2⟩ (fun hHeld => ?_)
     clear hK K
     refine ab_ (a' := ?_) ?_ ?_
     rotate_left
     ·show Act.put _ (some 97) _ = _
      simp only [Act.put, s1_, s2_, s3_, ka_, la_]
      rfl
     refine oa_ (i := 30) (N := some 98) (v := ?_) (a' := ?_) (f_ 32 31) rfl rfl (by kernel_rfl) (fun _ _ _ h => h) (Or.inl ⟨by rfl, ?_⟩) ?_ ?_
     rotate_left
     ·intro w'
      go_simp
      try with_reducible rfl
     rotate_left
     ·simp only [Act.put, s1_, s2_, s3_, ka_, la_]
      rfl
     refine gg_ (i := 31) (N := none) (f_ 32 32) rfl rfl (by kernel_rfl) (by decide) (fun K hK => ?_)
     refine ah_ (by rfl) rfl (.tmp 98) (.tmp 97) rfl (g := nb) (i := z) ((Chart.cap P.most (a0 + Chart.cap P.most (wv * cv)) : Nat) : Int) (by rfl) (by rfl) ((((HN5.out.drewN n1).drewN n2).drewN n3)) (by omega) ?_
     refine hK.out _ _ ?_
     clear hK K
     refine ie_ (by kernel_rfl) ?_
     have HN6 : Aside0 (IntBlk ((((W5.drewN n1).drewN n2).drewN n3).setCell ⟨nb, z, none⟩ (.int .i64 ((Chart.cap P.most (a0 + Chart.cap P.most (wv * cv)) : Nat) : Int))) nb (P.n + 1) (fun y => Chart.cap P.most (if y < z + 1 then ed_ WW G (q + 1) y else ed_ WW G q y))) := ⟨((((HN5.out.drewN n1).drewN n2).drewN n3).put z (by omega) _).congr fun y _ => by
      by_cases e : y = z
      ·rw [if_pos e, HNEW.out, if_pos (by omega), e]
      rw [if_neg e]
      by_cases e2 : y < z
      ·rw [if_pos e2, if_pos (by omega)]
      rw [if_neg e2, if_neg (by omega)]⟩
     have HI6 : Aside0 (IntBlk ((((W5.drewN n1).drewN n2).drewN n3).setCell ⟨nb, z, none⟩ (.int .i64 ((Chart.cap P.most (a0 + Chart.cap P.most (wv * cv)) : Nat) : Int))) wb (P.n + 1) (fun z => Chart.cap P.most (WW z))) := ⟨(((HI5.out.drewN n1).drewN n2).drewN n3).far nb z (by have := HNB.out; omega) _⟩
     have HB6 : Aside0 (Below w.heap.size w ((((W5.drewN n1).drewN n2).drewN n3).setCell ⟨nb, z, none⟩ (.int .i64 ((Chart.cap P.most (a0 + Chart.cap P.most (wv * cv)) : Nat) : Int)))) := ⟨(aa_ (aa_ (aa_ HB5.out n1) n2) n3).setCell (p := ⟨nb, z, none⟩) (by have := HNB.out; have := HWB.out; show w.heap.size ≤ nb; omega) _⟩
     have HX6 : Aside0 (((((W5.drewN n1).drewN n2).drewN n3).setCell ⟨nb, z, none⟩ (.int .i64 ((Chart.cap P.most (a0 + Chart.cap P.most (wv * cv)) : Nat) : Int))).heap[w.heap.size]? = some (ve_ r (some ad1) c1 A3 c3)) := ⟨(heap_setCell_other _ ⟨nb, z, none⟩ w.heap.size _ (by have := HNB.out; have := HWB.out; show _ ≠ nb; omega)).trans HX5.out⟩
     generalize (((W5.drewN n1).drewN n2).drewN n3).setCell ⟨nb, z, none⟩ (.int .i64 ((Chart.cap P.most (a0 + Chart.cap P.most (wv * cv)) : Nat) : Int)) = W7 at *
     go_wp2
     go_roundg (P.n + 1 - (z + 1))
     case measure => omega
     case rel => exact ⟨z + 1, by omega, by omega, by omega, by go_num, HN6, HI6, HB6, HX6⟩
    have hzz : decide ((z : Int) ≤ (P.n : Int)) = false := by simp; omega
    have HN6 : Aside0 (IntBlk wr nb (P.n + 1) (fun y => Chart.cap P.most (ed_ WW G (q + 1) y))) := ⟨HN.out.congr fun y hy => by rw [if_pos (by omega)]⟩
    go_wp2
    go_roundg (P.n + 1 - (q + 1))
    case measure => omega
    case rel => exact ⟨q + 1, by omega, by omega, by omega, by go_num, HN6, HI, HB, HX⟩
   have hx0d : decide (0 ≤ x) = false := decide_eq_false hx0
   have HGT : Aside0 (∀ z, G q z = tokT toks x q z) := ⟨fun z => by rw [HGE.out]; unfold Chart.E; rw [if_pos (by omega)]⟩
   obtain ⟨AL, cL, hcb, hcl, hCL⟩ := HBY.out.cell q hqn
   have HCB := Aside0.mk hcb
   have HCL := Aside0.mk hCL
   have HALL : Aside0 (∀ y, tkN (atP toks q) x y (atP toks q).length = G q y) := ⟨fun y => by rw [tkN_all, HGT.out y]⟩
   have HLT : Aside0 (∀ t ∈ atP toks q, 0 ≤ t.f0 ∧ t.f0 < t.f1 ∧ t.f1 ≤ (P.n : Int)) := ⟨fun t ht => HT.out t (List.mem_filter.1 ht).1⟩
   have hLl : (atP toks q).length ≤ 1000 := Nat.le_trans (List.length_filter_le _ _) htl
   generalize atP toks q = L at *
   have HN4 : Aside0 (IntBlk wr nb (P.n + 1) (fun y => Chart.cap P.most (ed_ WW G q y + WW q * tkN L x y 0))) := ⟨HN.out.congr fun y _ => by rw [tkN_zero, Nat.mul_zero, Nat.add_zero]⟩
   clear hcb hCL HGT
   go_wp2
   clear hcw hb1 hcv c0
   go_loopg [14] L.length (fun gg3 s14 wr => ∃ k : Nat, k ≤ L.length ∧ L.length - k ≤ gg3 ∧ s14 = .int .i64 k ∧ Aside0 (IntBlk wr nb (P.n + 1) (fun y => Chart.cap P.most (ed_ WW G q y + WW q * tkN L x y k))) ∧ Aside0 (IntBlk wr wb (P.n + 1) (fun z => Chart.cap P.most (WW z))) ∧ Aside0 (Below w.heap.size w wr) ∧ Aside0 (wr.heap[w.heap.size]? = some (ve_ r (some ad1) c1 A3 c3)))
   case atStart => exact ⟨0, Nat.zero_le _, by omega, rfl, HN4, HI, HB, HX⟩
   clear HN4 HN HI HB HX
   obtain ⟨k, hk, hgg3, rfl, HN, HI, HB, HX⟩ := hrel
   have hcb : wr.cell? ⟨bb, q, none⟩ = some (.slice AL L.length cL) := fb_ HB.out HCB.out
   by_cases hkl : k < L.length
   ·have hklz : (k : Int) < (L.length : Int) := by omega
    obtain ⟨adt, hAt, h0, h1, h2, h3, h4⟩ := qf_ (Kd.C_below HCL.out HB.out) (k : Int) (by omega) hklz
    subst hAt
    have hyr : ra_ L (k : Int) = L[k] := by
     show L.getD (k : Int).toNat _ = _
     rw [Int.toNat_natCast, List.getD_eq_getElem?_getD, List.getElem?_eq_getElem hkl]
     rfl
    have hsn2 := fun y => tkN_succ L x y k hkl
    have hty := HLT.out _ (List.getElem_mem hkl)
    rw [← hyr] at hty
    simp only [← hyr] at hsn2
    generalize ra_ L (k : Int) = y at *
    rw [Int.toNat_natCast] at h0 h1 h2 h3 h4
    have HSN2 := Aside0.mk hsn2
    clear hsn2 hyr h0 h3 h4
    have hb1 : wr.cell? ⟨w.heap.size, 1, none⟩ = some (.slice (some ad1) r.f1.length c1) := ca_ HX.out 1
    have hcv : wr.cell? (ad1.add i) = some (.int .i64 x) := fb_ HB.out HCV.out
    by_cases hcls : y.f2 = -1 - x
    ·have hclb : (y.f2 == -1 - x) = true := by rw [hcls]; simp
     have HCLS := Aside0.mk hcls
     obtain ⟨z, hz⟩ : ∃ z : Nat, y.f1 = (z : Int) := ⟨y.f1.toNat, by omega⟩
     have hzn : z ≤ P.n := by omega
     have HZ := Aside0.mk hz
     have hzl : (z : Int) < (P.n : Int) + 1 := by omega
     rw [hz] at h1
     have ha0 := HN.out.cell z (by omega)
     have hwv := HI.out.cell q (by omega)
     rw [← HWV.out] at hwv
     have ham := Chart.cap_le P.most (ed_ WW G q z + WW q * tkN L x z k)
     obtain ⟨a0, ha⟩ : ∃ a0, a0 = Chart.cap P.most (ed_ WW G q z + WW q * tkN L x z k) := ⟨_, rfl⟩
     rw [← ha] at ha0 ham
     have HNEW : Aside0 (Chart.cap P.most (a0 + wv) = Chart.cap P.most (ed_ WW G q z + WW q * tkN L x z (k + 1))) := ⟨by
      rw [ha, HWV.out, Chart.step_tok, HSN2.out z, if_pos ⟨HCLS.out, hz⟩, Nat.mul_add, Nat.mul_one, Nat.add_assoc]⟩
     have HOLD : Aside0 (∀ y, y ≠ z → tkN L x y (k + 1) = tkN L x y k) := ⟨fun y' hne => by rw [HSN2.out y', if_neg (fun e => hne (by have := e.2; omega)), Nat.add_zero]⟩
     have HBND := Aside0.mk (up_ P HP.out a0 wv ham hwm)
     have HADD := Aside0.mk (bk_ P HP.out a0 wv ham hwm)
     have HA0 := Aside0.mk ha0
     have HV0 := Aside0.mk hwv
     clear hcls hz hty ha ha0 hwv
     go_wp2
     go_quiet (fail)
     go_wp2
     have HA5 : Aside0 (P.At (wr.drewN nq).drew) := ⟨HA.out.below (da_ (aa_ HB.out nq))⟩
     have HN5 : Aside0 (IntBlk (wr.drewN nq).drew nb (P.n + 1) _) := ⟨HN.out⟩
     have HI5 : Aside0 (IntBlk (wr.drewN nq).drew wb (P.n + 1) _) := ⟨HI.out⟩
     have HB5 : Aside0 (Below w.heap.size w (wr.drewN nq).drew) := ⟨da_ (aa_ HB.out nq)⟩
     have HX5 : Aside0 ((wr.drewN nq).drew.heap[w.heap.size]? = some (ve_ r (some ad1) c1 A3 c3)) := ⟨HX.out⟩
     have r0 : (wr.drewN nq).drew.cell? ⟨nb, z, none⟩ = some (.int .i64 (a0 : Int)) := HA0.out
     have r1 : (wr.drewN nq).drew.cell? ⟨wb, q, none⟩ = some (.int .i64 (wv : Int)) := HV0.out
     clear HN HI HB HX hb1 hcv hcb h1 h2
     refine td_ (n := 15) (S := fun w' => w'.cell? ⟨nb, z, none⟩ = some (.int .i64 (a0 : Int)) ∧ w'.cell? ⟨wb, q, none⟩ = some (.int .i64 (wv : Int))) (ds := [14]) (f_ 15 0) (by kernel_rfl) rfl rfl ⟨r0, r1⟩ (fun hHeld => ?_)
     clear r0 r1
     generalize (wr.drewN nq).drew = W5 at *
     refine oa_ (i := 0) (N := some 131) (v := ?_) (a' := ?_) (f_ 15 1) rfl rfl (by kernel_rfl) (fun _ _ _ h => h) (Or.inl ⟨by rfl, ?_⟩) ?_ ?_
     rotate_left
     ·intro w'
      go_simp
      try with_reducible rfl
     rotate_left
     ·simp only [Act.put, s1_, s2_, s3_, ka_, la_]
      rfl
     refine oa_ (i := 1) (N := some 132) (v := ?_) (a' := ?_) (f_ 15 2) rfl rfl (by kernel_rfl) (fun _ _ _ h => h) (Or.inl ⟨by rfl, ?_⟩) ?_ ?_
     rotate_left
     ·intro w'
      go_simp
      try with_reducible rfl
     rotate_left
     ·simp only [Act.put, s1_, s2_, s3_, ka_, la_]
      rfl
     refine oa_ (i := 2) (N := some 133) (v := ?_) (a' := ?_) (f_ 15 3) rfl rfl (by kernel_rfl) (fun _ _ _ h => h) (Or.inl ⟨by rfl, ?_⟩) ?_ ?_
     rotate_left
     ·intro w'
      go_simp
      try with_reducible rfl
     rotate_left
     ·simp only [Act.put, s1_, s2_, s3_, ka_, la_]
      rfl
     refine oa_ (i := 3) (N := some 134) (v := ?_) (a' := ?_) (f_ 15 4) rfl rfl (by kernel_rfl) (fun _ _ _ h => h) (Or.inl ⟨by rfl, ?_⟩) ?_ ?_
     rotate_left
     ·intro w'
      go_simp
      try with_reducible rfl
     rotate_left
     ·simp only [Act.put, s1_, s2_, s3_, ka_, la_]
      rfl
     refine oa_ (i := 4) (N := some 135) (v := ?_) (a' := ?_) (f_ 15 5) rfl rfl (by kernel_rfl) (fun _ _ _ h => h) (Or.inl ⟨by rfl, ?_⟩) ?_ ?_
     rotate_left
     ·intro w'
      go_simp
      try with_reducible rfl
     rotate_left
     ·simp only [Act.put, s1_, s2_, s3_, ka_, la_]
      rfl
     refine oa_ (i := 5) (N := some 136) (v := ?_) (a' := ?_) (f_ 15 6) rfl rfl (by kernel_rfl) (fun _ _ _ h => h) (Or.inl ⟨by rfl, ?_⟩) ?_ ?_
     rotate_left
     ·intro w'
      go_simp
      try with_reducible rfl
     rotate_left
     ·simp only [Act.put, s1_, s2_, s3_, ka_, la_]
      rfl
     refine take_ (i := 6) (N := some 137) (v := ?_) (a' := ?_) (f_ 15 7) rfl rfl (by kernel_rfl) (fun _ _ _ h => h) (Or.inl ⟨by rfl, ?_⟩) hHeld ?_ ?_
     rotate_left
     ·rintro w' ⟨s0, s1⟩
      go_simp
      try with_reducible rfl
     rotate_left
     ·simp only [Act.put, s1_, s2_, s3_, ka_, la_]
      rfl
     refine oa_ (i := 7) (N := some 138) (v := ?_) (a' := ?_) (f_ 15 8) rfl rfl (by kernel_rfl) (fun _ _ _ h => h) (Or.inl ⟨by rfl, ?_⟩) ?_ ?_
     rotate_left
     ·intro w'
      go_simp
      try with_reducible rfl
     rotate_left
     ·simp only [Act.put, s1_, s2_, s3_, ka_, la_]
      rfl
     refine oa_ (i := 8) (N := some 139) (v := ?_) (a' := ?_) (f_ 15 9) rfl rfl (by kernel_rfl) (fun _ _ _ h => h) (Or.inl ⟨by rfl, ?_⟩) ?_ ?_
     rotate_left
     ·intro w'
      go_simp
      try with_reducible rfl
     rotate_left
     ·simp only [Act.put, s1_, s2_, s3_, ka_, la_]
      rfl
     refine oa_ (i := 9) (N := some 140) (v := ?_) (a' := ?_) (f_ 15 10) rfl rfl (by kernel_rfl) (fun _ _ _ h => h) (Or.inl ⟨by rfl, ?_⟩) ?_ ?_
     rotate_left
     ·intro w'
      go_simp
      try with_reducible rfl
     rotate_left
     ·simp only [Act.put, s1_, s2_, s3_, ka_, la_]
      rfl
     refine take_ (i := 10) (N := some 141) (v := ?_) (a' := ?_) (f_ 15 11) rfl rfl (by kernel_rfl) (fun _ _ _ h => h) (Or.inl ⟨by rfl, ?_⟩) hHeld ?_ ?_
     rotate_left
     ·rintro w' ⟨s0, s1⟩
      go_simp
      try with_reducible rfl
     rotate_left
     ·simp only [Act.put, s1_, s2_, s3_, ka_, la_]
      rfl
     refine oa_ (i := 11) (N := some 142) (v := ?_) (a' := ?_) (f_ 15 12) rfl rfl (by kernel_rfl) (fun _ _ _ h => h) (Or.inl ⟨by rfl, ?_⟩) ?_ ?_
     rotate_left
     ·intro w'
      go_simp
      try with_reducible rfl
     rotate_left
     ·simp only [Act.put, s1_, s2_, s3_, ka_, la_]
      rfl
     refine one_ (i := 12) (N := some 143) (f_ 15 13) rfl rfl (by kernel_rfl) (by decide) (fun K hK => ?_)
     refine id_ Tryz.func40 (by kernel_rfl) rfl #[.pointer (some ⟨P.tb, 0, none⟩), .int .i64 (wrap64 ((a0 : Int) + (wv : Int)))] (by rfl) rfl rfl (by (try simp only [List.map_toArray, List.map_cons, List.map_nil]); rfl) ?_
     rw [HADD.out]
     refine (wh_ P HP.out W5 HA5.out (a0 + wv) HBND.out).mono ?_
     rintro e' W6 ⟨rfl, ⟨⟨n3, rfl⟩⟩⟩
     refine ⟨_, rfl, ?_⟩
     refine hK.out _ _ ⟨hHeld.1, hHeld.2⟩ (fun hHeld => ?_)
     clear hK K
     refine ab_ (a' := ?_) ?_ ?_
     rotate_left
     ·show Act.put _ (some 143) _ = _
      simp only [Act.put, s1_, s2_, s3_, ka_, la_]
      rfl
     refine oa_ (i := 13) (N := some 144) (v := ?_) (a' := ?_) (f_ 15 14) rfl rfl (by kernel_rfl) (fun _ _ _ h => h) (Or.inl ⟨by rfl, ?_⟩) ?_ ?_
     rotate_left
     ·intro w'
      go_simp
      try with_reducible rfl
     rotate_left
     ·simp only [Act.put, s1_, s2_, s3_, ka_, la_]
      rfl
     refine gg_ (i := 14) (N := none) (f_ 15 15) rfl rfl (by kernel_rfl) (by decide) (fun K hK => ?_)
     refine ah_ (by rfl) rfl (.tmp 144) (.tmp 143) rfl (g := nb) (i := z) ((Chart.cap P.most (a0 + wv) : Nat) : Int) (by rfl) (by rfl) (HN5.out.drewN n3) (by omega) ?_
     refine hK.out _ _ ?_
     clear hK K
     refine ie_ (by kernel_rfl) ?_
     have HN6 : Aside0 (IntBlk ((W5.drewN n3).setCell ⟨nb, z, none⟩ (.int .i64 ((Chart.cap P.most (a0 + wv) : Nat) : Int))) nb (P.n + 1) (fun y => Chart.cap P.most (ed_ WW G q y + WW q * tkN L x y (k + 1)))) := ⟨((HN5.out.drewN n3).put z (by omega) _).congr fun y' _ => by
      by_cases e : y' = z
      ·rw [if_pos e, HNEW.out, e]
      rw [if_neg e, HOLD.out y' e]⟩
     have HI6 : Aside0 (IntBlk ((W5.drewN n3).setCell ⟨nb, z, none⟩ (.int .i64 ((Chart.cap P.most (a0 + wv) : Nat) : Int))) wb (P.n + 1) (fun z => Chart.cap P.most (WW z))) := ⟨(HI5.out.drewN n3).far nb z (by have := HNB.out; omega) _⟩
     have HB6 : Aside0 (Below w.heap.size w ((W5.drewN n3).setCell ⟨nb, z, none⟩ (.int .i64 ((Chart.cap P.most (a0 + wv) : Nat) : Int)))) := ⟨(aa_ HB5.out n3).setCell (p := ⟨nb, z, none⟩) (by have := HNB.out; have := HWB.out; show w.heap.size ≤ nb; omega) _⟩
     have HX6 : Aside0 (((W5.drewN n3).setCell ⟨nb, z, none⟩ (.int .i64 ((Chart.cap P.most (a0 + wv) : Nat) : Int))).heap[w.heap.size]? = some (ve_ r (some ad1) c1 A3 c3)) := ⟨(heap_setCell_other _ ⟨nb, z, none⟩ w.heap.size _ (by have := HNB.out; have := HWB.out; show _ ≠ nb; omega)).trans HX5.out⟩
     generalize (W5.drewN n3).setCell ⟨nb, z, none⟩ (.int .i64 ((Chart.cap P.most (a0 + wv) : Nat) : Int)) = W7 at *
     go_wp2
     go_roundg (L.length - (k + 1))
     case measure => omega
     case rel => exact ⟨k + 1, by omega, by omega, by go_num, HN6, HI6, HB6, HX6⟩
    have hclb : (y.f2 == -1 - x) = false := by simpa using hcls
    have HN6 : Aside0 (IntBlk wr nb (P.n + 1) (fun z => Chart.cap P.most (ed_ WW G q z + WW q * tkN L x z (k + 1)))) := ⟨HN.out.congr fun z _ => by rw [HSN2.out z, if_neg (fun e => hcls e.1), Nat.add_zero]⟩
    clear hcls hty
    go_wp2
    go_quiet (fail)
    go_wp2
    go_roundg (L.length - (k + 1))
    case measure => omega
    case rel => exact ⟨k + 1, by omega, by omega, by go_num, ⟨HN6.out⟩, ⟨HI.out⟩, ⟨aa_ HB.out _⟩, ⟨HX.out⟩⟩
   have he : k = L.length := by omega
   have hklz : decide ((k : Int) < (L.length : Int)) = false := by simp; omega
   clear hgg3 hk
   subst he
   have HN6 : Aside0 (IntBlk wr nb (P.n + 1) (fun y => Chart.cap P.most (ed_ WW G (q + 1) y))) := ⟨HN.out.congr fun y _ => by rw [HALL.out y, qg_]⟩
   go_wp2
   go_roundg (P.n + 1 - (q + 1))
   case measure => omega
   case rel => exact ⟨q + 1, by omega, by omega, by omega, by go_num, HN6, HI, HB, HX⟩
  have he : q = P.n + 1 := by omega
  have hqz : decide ((q : Int) ≤ (P.n : Int)) = false := by simp; omega
  have HN6 : Aside0 (IntBlk wr nb (P.n + 1) (fun z => Chart.cap P.most (zh_ (tokT toks) P.n F r.f1 p (i + 1) z))) := ⟨HN.out.congr fun z _ => by rw [HSN.out z, he]⟩
  have HNB2 : Aside0 (w.heap.size < nb) := ⟨by have := HNB.out; have := HWB.out; omega⟩
  clear he
  go_wp2
  go_roundg (r.f1.length - (i + 1))
  case measure => omega
  case rel => exact ⟨i + 1, nb, by omega, by omega, by go_num, rfl, HN6, HNB2, HB, HX⟩
 have he : i = r.f1.length := by omega
 have hilz : decide ((i : Int) < (r.f1.length : Int)) = false := by simp; omega
 have HI6 : Aside0 (IntBlk wr wb (P.n + 1) (fun z => Chart.cap P.most (Chart.ways (tokT toks) P.n F r.f1 p z))) := ⟨HI.out.congr fun z _ => by unfold zh_; rw [he, List.take_length]⟩
 clear he
 go_wp2
 go_ret
 exact ⟨wb, rfl, HI6.out, HB.out⟩
end Go.Proofs.YtjfbfhoipgldgaaGreat.P
end
section
namespace Go.Proofs.YtjfbfhoipgldgaaGreat.P
open Go.RowKit Go.Proofs.YtjfbfhoipgldgaaGreatW.PrintWords Go.Proofs.YtjfbfhoipgldgaaGreatW.PrintLast Go.Proofs.YtjfbfhoipgldgaaGreatW.PrintMore
attribute [local go_sem] ob_ lb_ vb_ ub_ db_ cb_ nb_ kb_   
set_option linter.unusedVariables false
set_option linter.unusedSimpArgs false
def FilO (pp : Nat) : Int → Nat → Nat → Prop := fun _ a _ => pp ≤ a
def Fil7 (ord : List Int) (p z i : Nat) : Int → Nat → Nat → Prop := fun s a b => p < a ∨ (a = p ∧ b < z) ∨ (a = p ∧ b = z ∧ s ∈ ord.take i)
theorem C7.congr {P : T7} {W : World} {F G : Int → Nat → Nat → Nat} (h : C7 P W F) (he : ∀ s p q : Nat, s < 20 → p ≤ P.n → q ≤ P.n → F (s : Int) p q = G (s : Int) p q) : C7 P W G := by
 obtain ⟨f, h1, h2⟩ := h
 exact ⟨f, h1, fun s p q hs hp hq => by rw [h2 s p q hs hp hq, he s p q hs hp hq]⟩
theorem ug_ (M a b : Nat) (hb : b < M) : (a * M + b) / M = a ∧ (a * M + b) % M = b := by
 have hM : 0 < M := by omega
 constructor
 ·rw [Nat.add_comm, Nat.add_mul_div_right _ _ hM, Nat.div_eq_of_lt hb, Nat.zero_add]
 rw [Nat.add_comm, Nat.add_mul_mod_self_right, Nat.mod_eq_of_lt hb]
theorem T7.idx_inj (P : T7) {s p q s' p' q' : Nat} (hp : p ≤ P.n) (hq : q ≤ P.n) (hp' : p' ≤ P.n) (hq' : q' ≤ P.n) (h : P.idx s p q = P.idx s' p' q') : s = s' ∧ p = p' ∧ q = q' := by
 unfold T7.idx at h
 have a1 := ug_ (P.n + 1) (s * (P.n + 1) + p) q (by omega)
 have a2 := ug_ (P.n + 1) (s' * (P.n + 1) + p') q' (by omega)
 have b1 := ug_ (P.n + 1) s p (by omega)
 have b2 := ug_ (P.n + 1) s' p' (by omega)
 rw [h] at a1
 have e1 : s * (P.n + 1) + p = s' * (P.n + 1) + p' := a1.1.symm.trans a2.1
 rw [e1] at b1
 exact ⟨b1.1.symm.trans b2.1, b1.2.symm.trans b2.2, a1.2.symm.trans a2.2⟩
theorem C7.put {P : T7} (hP : P.Ok) {W : World} {F G : Int → Nat → Nat → Nat} (h : C7 P W F) (s p q : Nat) (hs : s < 20) (hp : p ≤ P.n) (hq : q ≤ P.n) (v : Nat) (hv : v = Chart.cap P.most (G (s : Int) p q)) (he : ∀ s' p' q' : Nat, s' < 20 → p' ≤ P.n → q' ≤ P.n → ¬ (s' = s ∧ p' = p ∧ q' = q) → F (s' : Int) p' q' = G (s' : Int) p' q') : C7 P (W.setCell ⟨P.cb, P.idx s p q, none⟩ (.int .i64 (v : Int))) G := by
 obtain ⟨f, h1, h2⟩ := h
 refine ⟨_, h1.put (P.idx s p q) (by rw [hP.2.2.2]; exact P.idx_lt s p q hs hp hq) v, fun s' p' q' hs' hp' hq' => ?_⟩
 by_cases e : P.idx s' p' q' = P.idx s p q
 ·obtain ⟨rfl, rfl, rfl⟩ := P.idx_inj hp' hq' hp hq e
  rw [if_pos rfl, hv]
 rw [if_neg e, h2 s' p' q' hs' hp' hq', he s' p' q' hs' hp' hq' (fun k => e (by rw [k.1, k.2.1, k.2.2]))]
section
variable (toks : List Tok') (rules : List qa_) (n : Nat)
noncomputable def F7 (Fil : Int → Nat → Nat → Prop) : Int → Nat → Nat → Nat := Chart.Fcur (tokT toks) n (ib_ rules) Fil
noncomputable def N7 : Int → Nat → Nat → Nat := Chart.Num (tokT toks) n (ib_ rules)
variable (hT : ∀ x ∈ toks, 0 ≤ x.f0 ∧ x.f0 < x.f1 ∧ x.f1 ≤ (n : Int)) (hch : bb_ rules = true)
include hT hch
theorem yp_ (Fil : Int → Nat → Nat → Prop) : Chart.Fwd (F7 toks rules n Fil) := Chart.Fcur_fwd _ _ _ (pl_ toks fun x hx => (hT x hx).2.1) (fh_ rules hch) Fil
omit hT hch in
theorem F7_on {Fil : Int → Nat → Nat → Prop} {s : Int} {p q : Nat} (h : Fil s p q) : F7 toks rules n Fil s p q = N7 toks rules n s p q := Chart.Fcur_on _ _ _ Fil h
omit hT hch in
theorem tt_ {Fil : Int → Nat → Nat → Prop} {s : Int} {p q : Nat} (h : ¬ Fil s p q) : F7 toks rules n Fil s p q = 0 := if_neg h
theorem il_ {A B : Int → Nat → Nat → Prop} (s : Int) (p q : Nat) (h : p < q → (A s p q ↔ B s p q)) : F7 toks rules n A s p q = F7 toks rules n B s p q := by
 by_cases hpq : p < q
 ·by_cases hA : A s p q
  ·rw [F7_on toks rules n hA, F7_on toks rules n ((h hpq).1 hA)]
  rw [tt_ toks rules n hA, tt_ toks rules n (fun k => hA ((h hpq).2 k))]
 rw [yp_ toks rules n hT hch A s p q hpq, yp_ toks rules n hT hch B s p q hpq]
theorem F7_none (s : Int) (p q : Nat) (hq : q ≤ n) : F7 toks rules n (FilO n) s p q = 0 := by
 by_cases hpq : p < q
 ·exact tt_ toks rules n (fun h => by unfold FilO at h; omega)
 exact yp_ toks rules n hT hch _ s p q hpq
omit hT hch in
theorem F7_all (s : Int) (p q : Nat) : F7 toks rules n (FilO 0) s p q = N7 toks rules n s p q := F7_on toks rules n (Nat.zero_le _)
theorem F7_begin (ord : List Int) (p : Nat) (s : Int) (a b : Nat) : F7 toks rules n (FilO (p + 1)) s a b = F7 toks rules n (Fil7 ord p (p + 1) 0) s a b :=
 il_ toks rules n hT hch s a b fun hab => by
  unfold FilO Fil7
  rw [List.take_zero]
  simp
  omega
theorem F7_end (ord : List Int) (p : Nat) (s : Int) (a b : Nat) (hb : b ≤ n) : F7 toks rules n (Fil7 ord p (n + 1) 0) s a b = F7 toks rules n (FilO p) s a b :=
 il_ toks rules n hT hch s a b fun hab => by
  unfold FilO Fil7
  rw [List.take_zero]
  simp
  omega
theorem F7_next (ord : List Int) (ho : OutOk (dc_ rules) ord) (hl : ord.length = (dc_ rules).length) (p z : Nat) (s : Nat) (hs : s < 20) (a b : Nat) : F7 toks rules n (Fil7 ord p z ord.length) (s : Int) a b = F7 toks rules n (Fil7 ord p (z + 1) 0) (s : Int) a b :=
 il_ toks rules n hT hch s a b fun hab => by
  have hm : (s : Int) ∈ ord := sm_ (N := (dc_ rules).length) ho.nodup ho.rng (by omega) _ (by rw [hb_]; omega)
  unfold Fil7
  rw [List.take_zero, List.take_of_length_le (Nat.le_refl _)]
  simp [hm]
  omega
theorem F7_step (ord : List Int) (p z i : Nat) (hi : i < ord.length) (s : Int) (a b : Nat) (h : ¬ (s = ord[i] ∧ a = p ∧ b = z)) : F7 toks rules n (Fil7 ord p z i) s a b = F7 toks rules n (Fil7 ord p z (i + 1)) s a b :=
 il_ toks rules n hT hch s a b fun hab => by
  unfold Fil7
  rw [List.take_succ_eq_append_getElem hi]
  simp only [List.mem_append, List.mem_singleton]
  constructor
  ·rintro (k | k | ⟨k1, k2, k3⟩)
   ·exact .inl k
   ·exact .inr (.inl k)
   exact .inr (.inr ⟨k1, k2, .inl k3⟩)
  rintro (k | k | ⟨k1, k2, k3 | k3⟩)
  ·exact .inl k
  ·exact .inr (.inl k)
  ·exact .inr (.inr ⟨k1, k2, k3⟩)
  exact absurd ⟨k3, k1, k2⟩ h
omit hT hch in
theorem F7_here (ord : List Int) (p z i : Nat) (hi : i < ord.length) : F7 toks rules n (Fil7 ord p z (i + 1)) ord[i] p z = N7 toks rules n ord[i] p z :=
 F7_on toks rules n (.inr (.inr ⟨rfl, rfl, by rw [List.take_succ_eq_append_getElem hi]; exact List.mem_append_right _ (List.mem_singleton.2 rfl)⟩))
theorem F7_cell (ord : List Int) (ho : OutOk (dc_ rules) ord) (p z i : Nat) (hp : p ≤ n) (hz : z ≤ n) (hi : i < ord.length) : Chart.sumK (tokT toks) n (ib_ rules) (F7 toks rules n (Fil7 ord p z i)) ord[i] p z rules.length = N7 toks rules n ord[i] p z := by
 have hlen : (ib_ rules).length = rules.length := by unfold ib_; rw [List.length_map]
 rw [← hlen]
 refine Chart.cell_filled (tokT toks) n (ib_ rules) (pl_ toks fun x hx => (hT x hx).2.1) (fh_ rules hch) (ej_ rules) (xn_ rules hch) _ ord[i] p z hp hz (fun y a b h0 h1 ha h4 h5 h6 => ?_) (fun r hr hrs x hx he => ?_)
 ·by_cases hpa : p < a
  ·exact .inl hpa
  exact .inr (.inl ⟨by omega, by omega⟩)
 obtain ⟨r0, hr0, rfl⟩ := List.mem_map.1 hr
 have h2 := dd_ r0 (List.all_eq_true.1 ((cc_ rules).1 hch).2.1 r0 hr0)
 have he' : r0.f1 = [x] := he
 have hx2 := h2.2.2.1 x (by rw [he']; exact List.mem_singleton.2 rfl)
 have hrs' : r0.f0 = ord[i] := hrs
 have hb := ho.before (ord.take i) ord[i] (ord.drop (i + 1)) (by rw [← List.drop_eq_getElem_cons hi, List.take_append_drop]) x (by
  rw [mh_, ← hrs']
  exact (od_ rules _ ⟨h2.1.1, h2.1.2⟩ x).2 ⟨⟨hx, hx2.2⟩, r0, hr0, rfl, he'⟩)
 exact .inr (.inr ⟨rfl, rfl, hb⟩)
end
theorem at6_eq (toks : List Tok') (q : Int) (hl : toks.length ≤ 1000) : ∀ (k i : Nat) (acc : List Tok'), acc.length ≤ i → i ≤ toks.length → toks.length - i < k → interlocutorref6_At.l0 k toks q acc (i : Int) = some (acc ++ (toks.drop i).filter fun t => decide (t.f0 = q)) := by
 intro k
 induction k with
 | zero => intro i acc _ _ h; omega
 | succ k ih =>
  intro i acc ha hi hk
  unfold interlocutorref6_At.l0
  by_cases hil : i < toks.length
  ·have hx : ra_ toks (i : Int) = toks[i] := by
    show toks.getD (i : Int).toNat _ = _
    rw [Int.toNat_natCast, List.getD_eq_getElem?_getD, List.getElem?_eq_getElem hil]
    rfl
   have hw : wrap64 ((i : Int) + 1) = ((i + 1 : Nat) : Int) := by rw [w64 _ (by omega) (by omega)]; rfl
   rw [if_pos (by omega), if_pos (by omega), hx, hw, List.drop_eq_getElem_cons hil]
   by_cases he : toks[i].f0 = q
   ·rw [if_pos he, if_pos (by omega), List.filter_cons_of_pos (by simpa using he), ih (i + 1) _ (by simp; omega) (by omega) (by omega), List.append_assoc]
    rfl
   rw [if_neg he, List.filter_cons_of_neg (by simpa using he), ih (i + 1) acc (by omega) (by omega) (by omega)]
  rw [if_neg (by omega), List.drop_of_length_le (by omega)]
  simp
theorem at6_at (toks : List Tok') (q : Nat) (hl : toks.length ≤ 1000) : interlocutorref6_At.f (toks.length + 1) toks (q : Int) = some (atP toks q) := by
 have := at6_eq toks (q : Int) hl (toks.length + 1) 0 [] (Nat.zero_le _) (Nat.zero_le _) (by omega)
 rw [List.drop_zero, List.nil_append] at this
 exact this
def ByR (P : T7) (W : World) (B bb m : Nat) (toks : List Tok') : Prop := ∃ vals : Array Value, W.heap[bb]? = some (.cells vals 29 (0, 0)) ∧ vals.size = P.n + 1 ∧ ∀ q : Nat, q < m → ∃ v, vals[q]? = some v ∧ Kd.R k31 31 W B (fun k => k ≠ P.cb ∧ k ≠ bb) v (atP toks q)
theorem ByR.below {P : T7} {W W1 : World} {B bb m : Nat} {toks : List Tok'} (h : ByR P W B bb m toks) (hb : Below W.heap.size W W1) : ByR P W1 B bb m toks := by
 obtain ⟨vals, h1, h2, h3⟩ := h
 refine ⟨vals, ya_ h1 hb, h2, fun q hq => ?_⟩
 obtain ⟨v, h4, h5⟩ := h3 q hq
 exact ⟨v, h4, Kd.R_below h5 hb⟩
theorem ByR.far {P : T7} {W : World} {B bb m : Nat} {toks : List Tok'} (h : ByR P W B bb m toks) (hne : bb ≠ P.cb) (i : Nat) (v : Value) : ByR P (W.setCell ⟨P.cb, i, none⟩ v) B bb m toks := by
 obtain ⟨vals, h1, h2, h3⟩ := h
 refine ⟨vals, (heap_setCell_other W ⟨P.cb, i, none⟩ bb v hne).trans h1, h2, fun q hq => ?_⟩
 obtain ⟨u, h4, h5⟩ := h3 q hq
 exact ⟨u, h4, Kd.R_far h5 (p := ⟨P.cb, i, none⟩) (fun k hk => hk.1) v⟩
theorem ByR.put {P : T7} {W : World} {B bb m : Nat} {toks : List Tok'} (h : ByR P W B bb m toks) (hm : m ≤ P.n) (v : Value) (hv : Kd.R k31 31 W B (fun k => k ≠ P.cb ∧ k ≠ bb) v (atP toks m)) : ByR P (W.setCell ⟨bb, m, none⟩ v) B bb (m + 1) toks := by
 obtain ⟨vals, h1, h2, h3⟩ := h
 refine ⟨_, xf_ h1 m v, by simpa using h2, fun q hq => ?_⟩
 rw [Array.getElem?_setIfInBounds]
 by_cases e : m = q
 ·subst e
  exact ⟨v, by rw [if_pos rfl, if_pos (by omega)], Kd.R_far hv (p := ⟨bb, m, none⟩) (fun k hk => hk.2) v⟩
 obtain ⟨u, h4, h5⟩ := h3 q (by omega)
 exact ⟨u, by rw [if_neg e]; exact h4, Kd.R_far h5 (p := ⟨bb, m, none⟩) (fun k hk => hk.2) v⟩
theorem ByR.by7 {P : T7} {W : World} {B bb : Nat} {toks : List Tok'} (h : ByR P W B bb (P.n + 1) toks) : By7 P W bb toks := by
 obtain ⟨vals, h1, h2, h3⟩ := h
 refine ⟨vals, h1, h2, fun q hq => ?_⟩
 obtain ⟨v, h4, h5⟩ := h3 q (by omega)
 obtain ⟨A, c, rfl, h6, h7⟩ := Kd.R_reads h5
 exact ⟨A, c, h4, h6, h7⟩
structure Tab7 (P : T7) (w : World) (bb : Nat) (toks : List Tok') (so : Value) (ord : List Int) (F : Int → Nat → Nat → Nat) (W : World) : Prop where
 tab : P.At W
 cells : C7 P W F
 rows : ByR P W w.heap.size bb (P.n + 1) toks
 order : Kd.R (Kd.int .i64) 3 W w.heap.size (fun k => k ≠ P.cb) so ord
 below : Below w.heap.size w W
theorem Tab7.grow {P : T7} {w : World} {bb : Nat} {toks : List Tok'} {so : Value} {ord : List Int} {F : Int → Nat → Nat → Nat} {W W1 : World} (h : Tab7 P w bb toks so ord F W) (hb : Below W.heap.size W W1) : Tab7 P w bb toks so ord F W1 :=
 ⟨h.tab.below hb, h.cells.below hb, h.rows.below hb, Kd.R_below h.order hb, ma_ h.below hb⟩
theorem Tab7.congr {P : T7} {w : World} {bb : Nat} {toks : List Tok'} {so : Value} {ord : List Int} {F G : Int → Nat → Nat → Nat} {W : World} (h : Tab7 P w bb toks so ord F W) (he : ∀ s p q : Nat, s < 20 → p ≤ P.n → q ≤ P.n → F (s : Int) p q = G (s : Int) p q) : Tab7 P w bb toks so ord G W :=
 ⟨h.tab, h.cells.congr he, h.rows, h.order, h.below⟩
theorem Tab7.put {P : T7} (hP : P.Ok) {w : World} {bb : Nat} {toks : List Tok'} {so : Value} {ord : List Int} {F G : Int → Nat → Nat → Nat} {W : World} (h : Tab7 P w bb toks so ord F W) (hc : w.heap.size ≤ P.cb) (s p q : Nat) (hs : s < 20) (hp : p ≤ P.n) (hq : q ≤ P.n) (v : Nat) (hv : v = Chart.cap P.most (G (s : Int) p q))
  (he : ∀ s' p' q' : Nat, s' < 20 → p' ≤ P.n → q' ≤ P.n → ¬ (s' = s ∧ p' = p ∧ q' = q) → F (s' : Int) p' q' = G (s' : Int) p' q') : Tab7 P w bb toks so ord G (W.setCell ⟨P.cb, P.idx s p q, none⟩ (.int .i64 (v : Int))) := by
 obtain ⟨f, hf, _⟩ := h.cells
 refine ⟨(heap_setCell_other W ⟨P.cb, P.idx s p q, none⟩ P.tb _ (fun e => ?_)).trans h.tab, h.cells.put hP s p q hs hp hq v hv he, h.rows.far (fun e => ?_) _ _, Kd.R_far h.order (p := ⟨P.cb, P.idx s p q, none⟩) (fun k hk => hk) _, h.below.setCell (p := ⟨P.cb, P.idx s p q, none⟩) hc _⟩
 ·exact hf.ne h.tab (by decide) e.symm
 obtain ⟨vals, h1, _⟩ := h.rows
 exact hf.ne h1 (by decide) e.symm
def lw_ (rules : List qa_) (toks : List Tok') (n most : Nat) (w : World) (e : Ending) (w' : World) : Prop :=
 ∃ P : T7, P.n = n ∧ P.most = most ∧ P.Ok ∧ e = .returned (.pointer (some ⟨P.tb, 0, none⟩)) ∧ P.At w' ∧ C7 P w' (N7 toks rules n) ∧ Below w.heap.size w w'
end Go.Proofs.YtjfbfhoipgldgaaGreat.P
end
section
namespace Go.Proofs.YtjfbfhoipgldgaaGreat.P
open Go.RowKit Go.Proofs.YtjfbfhoipgldgaaGreatW.PrintWords Go.Proofs.YtjfbfhoipgldgaaGreatW.PrintLast Go.Proofs.YtjfbfhoipgldgaaGreatW.PrintMore
attribute [local go_sem] ob_ lb_ vb_ ub_ db_ cb_ nb_ kb_   
set_option linter.unusedVariables false
set_option linter.unusedSimpArgs false
attribute [local go_sem] Oper.semAt_some
set_option maxHeartbeats 4000000 in
set_option maxRecDepth 100000 in
theorem ht_ (A0 : Option Addr) (c0 : Nat) (rules : List qa_) (A1 : Option Addr) (c1 : Nat) (toks : List Tok') (n most : Nat) (w : World) (hr0 : Kd.C k48 w A0 rules.length rules) (hc0 : rules.length ≤ c0)
  (hr1 : Kd.C k31 w A1 toks.length toks) (hc1 : toks.length ≤ c1) (hn : n ≤ 1000) (hm1 : 1 ≤ most) (hm2 : most ≤ 1000000000) (htl : toks.length ≤ 1000) (hch : bb_ rules = true) (hT : ∀ x ∈ toks, 0 ≤ x.f0 ∧ x.f0 < x.f1 ∧ x.f1 ≤ (n : Int)) :
  Calls Tryz.prog 22 #[.slice A0 rules.length c0, .slice A1 toks.length c1, .int .i64 (n : Int), .int .i64 (most : Int)] w (lw_ rules toks n most w) := by
 have hrl := ((cc_ rules).1 hch).1
 have hbig : 20 * (n + 1) * (n + 1) ≤ 20 * 1001 * 1001 := Nat.mul_le_mul (Nat.mul_le_mul_left 20 (by omega)) (by omega)
 obtain ⟨cc, hcc⟩ : ∃ cc, cc = 20 * (n + 1) * (n + 1) := ⟨_, rfl⟩
 have hcz : (cc : Int) = 20 * ((n : Int) + 1) * ((n : Int) + 1) := by rw [hcc]; simp [Int.natCast_mul]
 have hmk : ∀ W : World, (Instr.makeSlice 23 (.int .i64 (20 * ((n : Int) + 1) * ((n : Int) + 1))) (.int .i64 (20 * ((n : Int) + 1) * ((n : Int) + 1)))).run Tryz.prog W = .ok (.slice (some ⟨W.heap.size, 0, none⟩) cc cc) (W.alloc (.cells (madeCells #[.int .i64 0] cc) 3)) := by
  rw [← hcz]
  exact make7 cc (by omega)
 have hmk2 : ∀ W : World, (Instr.makeSlice 89 (.int .i64 ((n : Int) + 1)) (.int .i64 ((n : Int) + 1))).run Tryz.prog W = .ok (.slice (some ⟨W.heap.size, 0, none⟩) (n + 1) (n + 1)) (W.alloc (.cells (madeCells #[.slice none 0 0] (n + 1)) 29)) :=
  in_ 89 29 (.slice none 0 0) 24 Tryz.underlying89 (by kernel_rfl) rfl (by decide) (n + 1) (by omega)
 have hsz : wrap64 (20 * ((n : Int) + 1) * ((n : Int) + 1)) = 20 * ((n : Int) + 1) * ((n : Int) + 1) := by
  rw [← hcz]
  exact w64 _ (by omega) (by omega)
 have HR0 := Aside0.mk hr0
 have HR1 := Aside0.mk hr1
 have HCH := Aside0.mk hch
 have HT := Aside0.mk hT
 have HB0 := Aside0.mk (Below.refl w.heap.size w)
 have HCC := Aside0.mk hcc
 have hccl : cc ≤ 20040020 := by omega
 clear hr0 hr1 hch hT hbig hcz hcc
 go_enter Tryz.func22, Tryz.ntmps22
 go_upto_region 3 with (fail)
 have HI1 := Aside0.mk (IntBlk.new w cc)
 have HI2 := Aside0.mk (HI1.out.alloc (.cells #[.int .i64 (n : Int), .slice (some ⟨w.heap.size, 0, none⟩) cc cc, .int .i64 (most : Int)] 68))
 have HI3 := Aside0.mk (HI2.out.alloc (.cells (madeCells #[.slice none 0 0] (n + 1)) 29))
 have HB1 := Aside0.mk (ba_ HB0.out (.cells (madeCells #[.int .i64 0] cc) 3))
 have HB2 := Aside0.mk (ba_ HB1.out (.cells #[.int .i64 (n : Int), .slice (some ⟨w.heap.size, 0, none⟩) cc cc, .int .i64 (most : Int)] 68))
 have HB3 := Aside0.mk (ba_ HB2.out (.cells (madeCells #[.slice none 0 0] (n + 1)) 29))
 have HA2 : Aside0 (((w.alloc (.cells (madeCells #[.int .i64 0] cc) 3)).alloc (.cells #[.int .i64 (n : Int), .slice (some ⟨w.heap.size, 0, none⟩) cc cc, .int .i64 (most : Int)] 68)).heap[w.heap.size + 1]? = some (.cells #[.int .i64 (n : Int), .slice (some ⟨w.heap.size, 0, none⟩) cc cc, .int .i64 (most : Int)] 68 (0, 0))) := ⟨nc_ (by simp)⟩
 have HA3 := Aside0.mk (ua_ (o' := .cells (madeCells #[.slice none 0 0] (n + 1)) 29) HA2.out)
 have HY3 : Aside0 ((((w.alloc (.cells (madeCells #[.int .i64 0] cc) 3)).alloc (.cells #[.int .i64 (n : Int), .slice (some ⟨w.heap.size, 0, none⟩) cc cc, .int .i64 (most : Int)] 68)).alloc (.cells (madeCells #[.slice none 0 0] (n + 1)) 29)).heap[w.heap.size + 1 + 1]? = some (.cells (madeCells #[.slice none 0 0] (n + 1)) 29 (0, 0))) := ⟨nc_ (by simp)⟩
 clear HI1 HI2 HB0 HB1 HB2 HA2 hmk hmk2 hsz
 have HSZ : Aside0 ((((w.alloc (.cells (madeCells #[.int .i64 0] cc) 3)).alloc (.cells #[.int .i64 (n : Int), .slice (some ⟨w.heap.size, 0, none⟩) cc cc, .int .i64 (most : Int)] 68)).alloc (.cells (madeCells #[.slice none 0 0] (n + 1)) 29)).heap.size = w.heap.size + 1 + 1 + 1) := ⟨by simp⟩
 generalize ((w.alloc (.cells (madeCells #[.int .i64 0] cc) 3)).alloc (.cells #[.int .i64 (n : Int), .slice (some ⟨w.heap.size, 0, none⟩) cc cc, .int .i64 (most : Int)] 68)).alloc (.cells (madeCells #[.slice none 0 0] (n + 1)) 29) = W3 at *
 obtain ⟨cb, hcb⟩ : ∃ cb, w.heap.size = cb := ⟨_, rfl⟩
 obtain ⟨tb, htb⟩ : ∃ tb, cb + 1 = tb := ⟨_, rfl⟩
 obtain ⟨bb, hbb⟩ : ∃ bb, tb + 1 = bb := ⟨_, rfl⟩
 rw [hcb, htb, hbb] at HY3
 rw [hcb, htb] at HA3
 rw [hcb] at HI3
 rw [hcb, htb, hbb] at HSZ
 rw [hcb, htb, hbb]
 have HCB := Aside0.mk hcb
 have HTB := Aside0.mk htb
 have HBB := Aside0.mk hbb
 clear hcb htb hbb
 obtain ⟨P, rfl, rfl, rfl, rfl, rfl⟩ : ∃ P : T7, tb = P.tb ∧ cb = P.cb ∧ cc = P.cc ∧ n = P.n ∧ most = P.most := ⟨⟨tb, cb, cc, n, most⟩, rfl, rfl, rfl, rfl, rfl⟩
 have HP : Aside0 P.Ok := ⟨⟨hn, hm1, hm2, HCC.out⟩⟩
 have HA : Aside0 (P.At W3) := HA3
 have HC : Aside0 (C7 P W3 (F7 toks rules P.n (FilO P.n))) := ⟨⟨fun _ => 0, HI3.out, fun s p q _ hp hq => by
  rw [F7_none toks rules P.n HT.out HCH.out _ p q hq]
  exact (Nat.zero_min _).symm⟩⟩
 have HY : Aside0 (ByR P W3 w.heap.size bb 0 toks) := ⟨⟨_, HY3.out, by simp [size_madeCells], fun q hq => absurd hq (Nat.not_lt_zero _)⟩⟩
 have HLE : Aside0 (bb < W3.heap.size) := ⟨by rw [HSZ.out]; omega⟩
 clear HA3 HI3 HY3 HSZ
 go_wp2
 go_loopg [11] (P.n + 1) (fun gg s11 wr => ∃ q : Nat, q ≤ P.n + 1 ∧ P.n + 1 - q ≤ gg ∧ s11 = .int .i64 q ∧ Aside0 (P.At wr) ∧ Aside0 (C7 P wr (F7 toks rules P.n (FilO P.n))) ∧ Aside0 (ByR P wr w.heap.size bb q toks) ∧ Aside0 (Below w.heap.size w wr) ∧ Aside0 (bb < wr.heap.size))
 case atStart => exact ⟨0, Nat.zero_le _, by omega, rfl, HA, HC, HY, HB3, HLE⟩
 clear HA HC HY HB3 HLE
 obtain ⟨q, hq1, hgg, rfl, HA, HC, HY, HB, HLE⟩ := hrel
 by_cases hqn : q ≤ P.n
 ·have hqz : (q : Int) ≤ (P.n : Int) := by omega
  have hqz2 : (q : Int) < (P.n : Int) + 1 := by omega
  go_wp2_with fail
  refine (interlocutorref6_At.calls (toks.length + 1) A1 c1 toks (q : Int) (atP toks q) wr (Kd.C_below HR1.out HB.out) hc1 (at6_at toks q htl)).mono ?_
  rintro e w1 ⟨v, rfl, hR, hB⟩
  have HA1 := Aside0.mk (HA.out.below hB)
  have HC1 := Aside0.mk (HC.out.below hB)
  have HY1 := Aside0.mk (HY.out.below hB)
  have HB1 := Aside0.mk (ma_ HB.out hB)
  have HLE1 : Aside0 (bb < w1.heap.size) := ⟨Nat.lt_of_lt_of_le HLE.out hB.size⟩
  have hR2 : Kd.R k31 31 w1 w.heap.size (fun k => k ≠ P.cb ∧ k ≠ bb) v (atP toks q) := Kd.R_lower (Kd.R_mono (Kd.R_bound hR) (fun k hk => ⟨by have := hk.2.1; have := HLE.out; have := HTB.out; have := HBB.out; omega, by have := hk.2.1; have := HLE.out; omega⟩)) HB.out.size
  obtain ⟨A', c', hv⟩ := Kd.R_slice hR2
  have HR2 := Aside0.mk hR2
  subst hv
  obtain ⟨vals, hy1, hy2, _⟩ := HY1.out
  obtain ⟨u, hu⟩ : ∃ u, vals[q]? = some u := ⟨_, Array.getElem?_eq_getElem (by omega)⟩
  have hcu := (ca_ hy1 q).trans hu
  have hfu := fa_ hy1 q
  have HA2 : Aside0 (P.At (w1.setCell ⟨bb, q, none⟩ (.slice A' (atP toks q).length c'))) := ⟨(heap_setCell_other w1 ⟨bb, q, none⟩ P.tb _ (by have := HBB.out; show _ ≠ bb; omega)).trans HA1.out⟩
  have HC2 : Aside0 (C7 P (w1.setCell ⟨bb, q, none⟩ (.slice A' (atP toks q).length c')) (F7 toks rules P.n (FilO P.n))) := ⟨by
   obtain ⟨f, q1, q2⟩ := HC1.out
   exact ⟨f, q1.far bb q (by have := HBB.out; have := HTB.out; omega) _, q2⟩⟩
  have HY2 := Aside0.mk (HY1.out.put hqn _ HR2.out)
  have HB2 : Aside0 (Below w.heap.size w (w1.setCell ⟨bb, q, none⟩ (.slice A' (atP toks q).length c'))) := ⟨HB1.out.setCell (p := ⟨bb, q, none⟩) (by have := HCB.out; have := HBB.out; have := HTB.out; show w.heap.size ≤ bb; omega) _⟩
  have HLE2 : Aside0 (bb < (w1.setCell ⟨bb, q, none⟩ (.slice A' (atP toks q).length c')).heap.size) := ⟨by simpa using HLE1.out⟩
  clear hR hB hR2 hy1 hy2 hu HA HC HY HB HLE
  go_wp2
  go_roundg (P.n + 1 - (q + 1))
  case measure => omega
  case rel => exact ⟨q + 1, by omega, by omega, by go_num, HA2, HC2, HY2, HB2, HLE2⟩
 have hqz : decide ((q : Int) ≤ (P.n : Int)) = false := by simp; omega
 have he : q = P.n + 1 := by omega
 rw [he] at HY
 go_wp2_with fail
 refine (zq_ A0 c0 rules wr (Kd.C_below HR0.out HB.out) hc0 HCH.out).mono ?_
 rintro e w2 ⟨so, ord, rfl, hR, hO, hL, hB⟩
 have HO := Aside0.mk hO
 have HOL := Aside0.mk hL
 have hol : ord.length = 20 := by rw [hL, hb_]
 have HT2 : Aside0 (Tab7 P w bb toks so ord (F7 toks rules P.n (FilO P.n)) w2) := ⟨⟨HA.out.below hB, HC.out.below hB, HY.out.below hB, Kd.R_lower (Kd.R_mono (Kd.R_bound hR) (fun k hk => by have := hk.2.1; have := HLE.out; have := HTB.out; have := HBB.out; omega)) HB.out.size, ma_ HB.out hB⟩⟩
 obtain ⟨ado, co, hso⟩ := Kd.R_slice1 hR (by omega)
 subst hso
 have hol2 : ord.length ≤ 20 := by omega
 clear hol hR hO hL hB HA HC HY HB HLE hqz he hgg hq1
 go_wp2
 go_loopg [13] P.n (fun gg s13 wr => ∃ pp : Nat, pp ≤ P.n ∧ pp ≤ gg ∧ s13 = .int .i64 ((pp : Int) - 1) ∧ Aside0 (Tab7 P w bb toks (.slice (some ado) ord.length co) ord (F7 toks rules P.n (FilO pp)) wr))
 case atStart => exact ⟨P.n, Nat.le_refl _, Nat.le_refl _, rfl, HT2⟩
 clear HT2
 obtain ⟨pp, hpp, hgg, rfl, HTB2⟩ := hrel
 by_cases hp0 : pp = 0
 ·subst hp0
  have HT3 : Aside0 (Tab7 P w bb toks (.slice (some ado) ord.length co) ord (N7 toks rules P.n) wr) := ⟨HTB2.out.congr fun s p q _ _ _ => F7_all toks rules P.n (s : Int) p q⟩
  go_wp2
  go_ret
  exact ⟨P, rfl, rfl, HP.out, rfl, HT3.out.tab, HT3.out.cells, HT3.out.below⟩
 obtain ⟨p, rfl⟩ : ∃ p, pp = p + 1 := ⟨pp - 1, by omega⟩
 have hpe : ((p + 1 : Nat) : Int) - 1 = (p : Int) := by omega
 have hpn : p ≤ P.n := by omega
 rw [hpe]
 have HT3 : Aside0 (Tab7 P w bb toks (.slice (some ado) ord.length co) ord (F7 toks rules P.n (Fil7 ord p (p + 1) 0)) wr) := ⟨HTB2.out.congr fun s a b _ _ _ => F7_begin toks rules P.n HT.out HCH.out ord p (s : Int) a b⟩
 clear HTB2 hpe hp0
 go_wp2
 go_loopg [14] (P.n - p) (fun gg2 s14 wr => ∃ z : Nat, p < z ∧ z ≤ P.n + 1 ∧ P.n + 1 - z ≤ gg2 ∧ s14 = .int .i64 z ∧ Aside0 (Tab7 P w bb toks (.slice (some ado) ord.length co) ord (F7 toks rules P.n (Fil7 ord p z 0)) wr))
 case atStart => exact ⟨p + 1, by omega, by omega, by omega, by go_num, HT3⟩
 clear HT3
 obtain ⟨z, hpz, hz1, hgg2, rfl, HT4⟩ := hrel
 by_cases hzn : z ≤ P.n
 ·have hzz : (z : Int) ≤ (P.n : Int) := by omega
  have hzl : (z : Int) < (P.n : Int) + 1 := by omega
  go_wp2
  go_loopg [15] ord.length (fun gg3 s15 wr => ∃ i : Nat, i ≤ ord.length ∧ ord.length - i ≤ gg3 ∧ s15 = .int .i64 i ∧ Aside0 (Tab7 P w bb toks (.slice (some ado) ord.length co) ord (F7 toks rules P.n (Fil7 ord p z i)) wr))
  case atStart => exact ⟨0, Nat.zero_le _, by omega, rfl, HT4⟩
  clear HT4
  obtain ⟨i, hi, hgg3, rfl, HT5⟩ := hrel
  by_cases hil : i < ord.length
  ·have hilz : (i : Int) < (ord.length : Int) := by omega
   have hrng := HO.out.rng _ (List.getElem_mem hil)
   rw [hb_] at hrng
   obtain ⟨s, hs⟩ : ∃ s : Nat, ord[i] = (s : Int) := ⟨ord[i].toNat, by omega⟩
   rw [hs] at hrng
   have hs20 : s < 20 := by omega
   have HS := Aside0.mk hs
   have HFW := Aside0.mk (yp_ toks rules P.n HT.out HCH.out (Fil7 ord p z i))
   obtain ⟨ff, hff⟩ : ∃ ff, ff = F7 toks rules P.n (Fil7 ord p z i) := ⟨_, rfl⟩
   have HFF := Aside0.mk hff
   rw [← hff] at HT5 HFW
   have hsum0 : Aside0 (Value.int .i64 0 = .int .i64 ((Chart.cap P.most (Chart.sumK (tokT toks) P.n (ib_ rules) ff (s : Int) p z 0) : Nat) : Int)) := ⟨by rw [Chart.sumK_zero]; unfold Chart.cap; rw [Nat.zero_min]; rfl⟩
   clear hrng hs hff
   go_wp2
   go_loopg [16, 17] rules.length (fun gg4 s16 s17 wr => ∃ k : Nat, k ≤ rules.length ∧ rules.length - k ≤ gg4 ∧ s17 = .int .i64 k ∧ s16 = .int .i64 ((Chart.cap P.most (Chart.sumK (tokT toks) P.n (ib_ rules) ff (s : Int) p z k) : Nat) : Int) ∧ Aside0 (Tab7 P w bb toks (.slice (some ado) ord.length co) ord ff wr))
   case atStart => exact ⟨0, Nat.zero_le _, by omega, rfl, hsum0.out, HT5⟩
   clear HT5 hsum0
   obtain ⟨k, hk, hgg4, rfl, rfl, HT6⟩ := hrel
   by_cases hkl : k < rules.length
   ·have hklz : (k : Int) < (rules.length : Int) := by omega
    have hB6 := HT6.out.below
    obtain ⟨ad, A1', c1', A3', c3', hA, h0, h1, h2, h3, h4, l1, g1, l3, g3⟩ := pf_ (Kd.C_below HR0.out hB6) (k : Int) (by omega) hklz
    subst hA
    have hyr : sb_ rules (k : Int) = rules[k] := by
     show rules.getD (k : Int).toNat _ = _
     rw [Int.toNat_natCast, List.getD_eq_getElem?_getD, List.getElem?_eq_getElem hkl]
     rfl
    have hry : tc_ rules[k] = true := List.all_eq_true.1 ((cc_ _).1 HCH.out).2.1 _ (List.getElem_mem hkl)
    have hplen : (ib_ rules).length = rules.length := by unfold ib_; rw [List.length_map]
    have hsn := Chart.sumK_succ (tokT toks) P.n (ib_ rules) ff (s : Int) p z k (by rw [hplen]; exact hkl)
    have hpk : (ib_ rules)[k]'(by rw [hplen]; exact hkl) = (rules[k].f0, rules[k].f1) := by unfold ib_; rw [List.getElem_map]
    rw [hpk] at hsn
    rw [← hyr] at hry hsn
    generalize sb_ rules (k : Int) = y at *
    rw [Int.toNat_natCast] at h0 h1 h2 h3 h4
    obtain ⟨_, hod⟩ : True ∧ wr.cell? (ado.add i) = some (.int .i64 (s : Int)) := ⟨trivial, by
     have q1 := (Kd.R_reads' HT6.out.order).2.2
     obtain ⟨ad2, e2, q2⟩ := Kd.at_int q1 (i : Int) (by omega) hilz
     injection e2 with e2
     subst e2
     have e3 : rd ord (i : Int) = ord[i] := by
      show ord.getD (i : Int).toNat 0 = _
      rw [Int.toNat_natCast, List.getD_eq_getElem?_getD, List.getElem?_eq_getElem hil]
      rfl
     rw [Int.toNat_natCast, e3, HS.out] at q2
     exact q2⟩
    have HSN := Aside0.mk hsn
    have HRY := Aside0.mk hry
    have HG1 := Aside0.mk g1
    have hsm := Chart.cap_le P.most (Chart.sumK (tokT toks) P.n (ib_ rules) ff (s : Int) p z k)
    obtain ⟨S, hS⟩ : ∃ S, S = Chart.sumK (tokT toks) P.n (ib_ rules) ff (s : Int) p z k := ⟨_, rfl⟩
    rw [← hS] at HSN hsm ⊢
    obtain ⟨cs, hcs⟩ : ∃ cs, cs = Chart.cap P.most S := ⟨_, rfl⟩
    rw [← hcs] at hsm ⊢
    have HCS := Aside0.mk hcs
    clear hsn hry hyr hpk g3 l3 l1 g1 hB6 hS hcs hplen
    by_cases b1 : y.f0 = (s : Int)
    ·have e1 : (y.f0 == (s : Int)) = true := by rw [b1]; simp
     have B1 := Aside0.mk b1
     clear b1
     go_wp2
     go_quiet (fail)
     have HT7 := Aside0.mk (HT6.out.grow (aa_ (Below.refl wr.heap.size wr) nq))
     have HG7 := Aside0.mk (Kd.C_drewN HG1.out nq)
     clear HT6 HG1
     replace h0 := (show (wr.drewN nq).cell? _ = _ from h0)
     replace h1 := (show (wr.drewN nq).cell? _ = _ from h1)
     replace h2 := (show (wr.drewN nq).cell? _ = _ from h2)
     replace h3 := (show (wr.drewN nq).cell? _ = _ from h3)
     replace h4 := (show (wr.drewN nq).cell? _ = _ from h4)
     generalize wr.drewN nq = W7 at *
     go_wp2_with fail
     refine (hv_ P HP.out W7 HT7.out.tab ff HFW.out HT7.out.cells bb toks htl HT7.out.rows.by7 y HRY.out A1' c1' A3' c3' HG7.out HT.out p hpn).mono ?_
     rintro e w8 ⟨b, rfl, hI, hB⟩
     have hz := hI.cell z (by omega)
     have HT8 := Aside0.mk (HT7.out.grow hB)
     have hrm := Chart.cap_le P.most (Chart.ways (tokT toks) P.n ff y.f1 p z)
     obtain ⟨rv, hrv⟩ : ∃ rv, rv = Chart.cap P.most (Chart.ways (tokT toks) P.n ff y.f1 p z) := ⟨_, rfl⟩
     have HV : Aside0 (Value.int .i64 ((Chart.cap P.most (cs + rv) : Nat) : Int) = .int .i64 ((Chart.cap P.most (Chart.sumK (tokT toks) P.n (ib_ rules) ff (s : Int) p z (k + 1)) : Nat) : Int)) := ⟨by rw [HSN.out, if_pos B1.out, HCS.out, hrv, Chart.cap_add2]⟩
     rw [← hrv] at hz hrm
     have HBND := Aside0.mk (up_ P HP.out cs rv hsm hrm)
     have HADD := Aside0.mk (bk_ P HP.out cs rv hsm hrm)
     clear hI hB hrv HT7 h0 h1 h2 h3 h4 hod
     go_wp2_with fail
     have hcap := wh_ P HP.out w8 HT8.out.tab (cs + rv) HBND.out
     rw [Int.natCast_add] at hcap
     refine hcap.mono ?_
     rintro e w9 ⟨rfl, ⟨⟨n3, rfl⟩⟩⟩
     have HT9 := Aside0.mk (HT8.out.grow (aa_ (Below.refl w8.heap.size w8) n3))
     clear hcap HT8
     generalize w8.drewN n3 = w9 at *
     go_wp2
     go_roundg (rules.length - (k + 1))
     case measure => omega
     case rel => exact ⟨k + 1, by omega, by omega, by go_num, HV.out, HT9⟩
    have e1 : (y.f0 == (s : Int)) = false := by simpa using b1
    have HV : Aside0 (Value.int .i64 (cs : Int) = .int .i64 ((Chart.cap P.most (Chart.sumK (tokT toks) P.n (ib_ rules) ff (s : Int) p z (k + 1)) : Nat) : Int)) := ⟨by rw [HSN.out, if_neg b1, Nat.add_zero, HCS.out]⟩
    clear b1
    go_wp2
    go_quiet (fail)
    go_wp2
    go_roundg (rules.length - (k + 1))
    case measure => omega
    case rel => exact ⟨k + 1, by omega, by omega, by go_num, HV.out, ⟨HT6.out.grow (aa_ (Below.refl wr.heap.size wr) nq)⟩⟩
   have he : k = rules.length := by omega
   have hklz : decide ((k : Int) < (rules.length : Int)) = false := by simp; omega
   clear hgg4 hk
   subst he
   have hcell := F7_cell toks rules P.n HT.out HCH.out ord HO.out p z i hpn hzn hil
   rw [HS.out, ← HFF.out] at hcell
   rw [hcell]
   have HHERE := F7_here toks rules P.n ord p z i hil
   rw [HS.out] at HHERE
   obtain ⟨vv, hvv⟩ : ∃ vv, vv = Chart.cap P.most (N7 toks rules P.n (s : Int) p z) := ⟨_, rfl⟩
   have HVV : Aside0 (vv = Chart.cap P.most (F7 toks rules P.n (Fil7 ord p z (i + 1)) (s : Int) p z)) := ⟨by rw [HHERE]; exact hvv⟩
   rw [← hvv]
   have r0 : wr.drew.cell? ⟨P.tb, 1, none⟩ = some (.slice (some ⟨P.cb, 0, none⟩) P.cc P.cc) := (ca_ HT6.out.tab 1).trans rfl
   have r1 : wr.drew.cell? (ado.add i) = some (.int .i64 (s : Int)) := by
    have q1 := (Kd.R_reads' HT6.out.order).2.2
    obtain ⟨ad2, e2, q2⟩ := Kd.at_int q1 (i : Int) (by omega) hilz
    injection e2 with e2
    subst e2
    have e3 : rd ord (i : Int) = ord[i] := by
     show ord.getD (i : Int).toNat 0 = _
     rw [Int.toNat_natCast, List.getD_eq_getElem?_getD, List.getElem?_eq_getElem hil]
     rfl
    rw [Int.toNat_natCast, e3, HS.out] at q2
    exact q2
   have HT5 := Aside0.mk (HT6.out.grow (da_ (Below.refl wr.heap.size wr)))
   obtain ⟨ff2, hI5, _⟩ := HT5.out.cells
   have HI5 := Aside0.mk hI5
   have hidx2 : P.idx s p z < P.cc := by have := P.idx_lt s p z hs20 hpn hzn; have := HP.out.2.2.2; omega
   have hidx : (P.idx s p z : Int) < (P.cc : Int) := by omega
   clear hcell HHERE hvv HT6 hI5
   go_wp2
   refine td_ (n := 15) (S := fun w' => w'.cell? ⟨P.tb, 1, none⟩ = some (.slice (some ⟨P.cb, 0, none⟩) P.cc P.cc) ∧ w'.cell? (ado.add i) = some (.int .i64 (s : Int))) (ds := [14]) (f_ 15 0) (by kernel_rfl) rfl rfl ⟨r0, r1⟩ (fun hHeld => ?_)
   clear r0 r1
   generalize wr.drew = W5 at *
   refine oa_ (i := 0) (N := some 95) (v := ?_) (a' := ?_) (f_ 15 1) rfl rfl (by kernel_rfl) (fun _ _ _ h => h) (Or.inl ⟨by rfl, ?_⟩) ?_ ?_
   rotate_left
   ·intro w'
    go_simp
    try with_reducible rfl
   rotate_left
   ·simp only [Act.put, s1_, s2_, s3_, ka_, la_]
    rfl
   refine oa_ (i := 1) (N := some 96) (v := ?_) (a' := ?_) (f_ 15 2) rfl rfl (by kernel_rfl) (fun _ _ _ h => h) (Or.inl ⟨by rfl, ?_⟩) ?_ ?_
   rotate_left
   ·intro w'
    go_simp
    try with_reducible rfl
   rotate_left
   ·simp only [Act.put, s1_, s2_, s3_, ka_, la_]
    rfl
   refine oa_ (i := 2) (N := some 97) (v := ?_) (a' := ?_) (f_ 15 3) rfl rfl (by kernel_rfl) (fun _ _ _ h => h) (Or.inl ⟨by rfl, ?_⟩) ?_ ?_
   rotate_left
   ·intro w'
    go_simp
    try with_reducible rfl
   rotate_left
   ·simp only [Act.put, s1_, s2_, s3_, ka_, la_]
    rfl
   refine take_ (i := 3) (N := some 98) (v := ?_) (a' := ?_) (f_ 15 4) rfl rfl (by kernel_rfl) (fun _ _ _ h => h) (Or.inl ⟨by rfl, ?_⟩) hHeld ?_ ?_
   rotate_left
   ·rintro w' ⟨s0, s1⟩
    go_simp
    try with_reducible rfl
   rotate_left
   ·simp only [Act.put, s1_, s2_, s3_, ka_, la_]
    rfl
   refine oa_ (i := 4) (N := some 99) (v := ?_) (a' := ?_) (f_ 15 5) rfl rfl (by kernel_rfl) (fun _ _ _ h => h) (Or.inl ⟨by rfl, ?_⟩) ?_ ?_
   rotate_left
   ·intro w'
    go_simp
    try with_reducible rfl
   rotate_left
   ·simp only [Act.put, s1_, s2_, s3_, ka_, la_]
    rfl
   refine oa_ (i := 5) (N := some 100) (v := ?_) (a' := ?_) (f_ 15 6) rfl rfl (by kernel_rfl) (fun _ _ _ h => h) (Or.inl ⟨by rfl, ?_⟩) ?_ ?_
   rotate_left
   ·intro w'
    go_simp
    try with_reducible rfl
   rotate_left
   ·simp only [Act.put, s1_, s2_, s3_, ka_, la_]
    rfl
   refine oa_ (i := 6) (N := some 101) (v := ?_) (a' := ?_) (f_ 15 7) rfl rfl (by kernel_rfl) (fun _ _ _ h => h) (Or.inl ⟨by rfl, ?_⟩) ?_ ?_
   rotate_left
   ·intro w'
    go_simp
    try with_reducible rfl
   rotate_left
   ·simp only [Act.put, s1_, s2_, s3_, ka_, la_]
    rfl
   refine oa_ (i := 7) (N := some 102) (v := ?_) (a' := ?_) (f_ 15 8) rfl rfl (by kernel_rfl) (fun _ _ _ h => h) (Or.inl ⟨by rfl, ?_⟩) ?_ ?_
   rotate_left
   ·intro w'
    go_simp
    try with_reducible rfl
   rotate_left
   ·simp only [Act.put, s1_, s2_, s3_, ka_, la_]
    rfl
   refine take_ (i := 8) (N := some 103) (v := ?_) (a' := ?_) (f_ 15 9) rfl rfl (by kernel_rfl) (fun _ _ _ h => h) (Or.inl ⟨by rfl, ?_⟩) hHeld ?_ ?_
   rotate_left
   ·rintro w' ⟨s0, s1⟩
    go_simp
    try with_reducible rfl
   rotate_left
   ·simp only [Act.put, s1_, s2_, s3_, ka_, la_]
    rfl
   refine oa_ (i := 9) (N := some 104) (v := ?_) (a' := ?_) (f_ 15 10) rfl rfl (by kernel_rfl) (fun _ _ _ h => h) (Or.inl ⟨by rfl, ?_⟩) ?_ ?_
   rotate_left
   ·intro w'
    go_simp
    try with_reducible rfl
   rotate_left
   ·simp only [Act.put, s1_, s2_, s3_, ka_, la_]
    rfl
   refine oa_ (i := 10) (N := some 105) (v := ?_) (a' := ?_) (f_ 15 11) rfl rfl (by kernel_rfl) (fun _ _ _ h => h) (Or.inl ⟨by rfl, ?_⟩) ?_ ?_
   rotate_left
   ·intro w'
    go_simp
    try with_reducible rfl
   rotate_left
   ·simp only [Act.put, s1_, s2_, s3_, ka_, la_]
    rfl
   refine oa_ (i := 12) (N := some 107) (v := ?_) (a' := ?_) #[true, true, true, true, true, true, true, true, true, true, true, false, true, false, false] rfl rfl (by kernel_rfl) (fun _ _ _ h => h) (Or.inl ⟨by rfl, ?_⟩) ?_ ?_
   rotate_left
   ·intro w'
    go_simp
    try with_reducible rfl
   rotate_left
   ·simp only [Act.put, s1_, s2_, s3_, ka_, la_]
    rfl
   refine one_ (i := 11) (N := some 106) (f_ 15 13) rfl rfl (by kernel_rfl) (by decide) (fun K hK => ?_)
   refine id_ Tryz.func23 (by kernel_rfl) rfl #[.pointer (some ⟨P.tb, 0, none⟩), .int .i64 (s : Int), .int .i64 (p : Int), .int .i64 (z : Int)] (by rfl) rfl rfl (by (try simp only [List.map_toArray, List.map_cons, List.map_nil]); rfl) ?_
   refine (nj_ P HP.out W5 HT5.out.tab s p z hs20 hpn hzn).mono ?_
   rintro e' W6 ⟨rfl, ⟨⟨n1, rfl⟩⟩⟩
   refine ⟨_, rfl, ?_⟩
   refine hK.out _ _ ⟨hHeld.1, hHeld.2⟩ (fun hHeld => ?_)
   clear hK K
   refine ab_ (a' := ?_) ?_ ?_
   rotate_left
   ·show Act.put _ (some 106) _ = _
    simp only [Act.put, s1_, s2_, s3_, ka_, la_]
    rfl
   refine oa_ (i := 13) (N := some 108) (v := ?_) (a' := ?_) (f_ 15 14) rfl rfl (by kernel_rfl) (fun _ _ _ h => h) (Or.inl ⟨by rfl, ?_⟩) ?_ ?_
   rotate_left
   ·intro w'
    go_simp
    try with_reducible rfl
   rotate_left
   ·simp only [Act.put, s1_, s2_, s3_, ka_, la_]
    rfl
   refine gg_ (i := 14) (N := none) (f_ 15 15) rfl rfl (by kernel_rfl) (by decide) (fun K hK => ?_)
   refine ah_ (by rfl) rfl (.tmp 108) (.tmp 107) rfl (g := P.cb) (i := P.idx s p z) (vv : Int) (by rfl) (by rfl) (HI5.out.drewN n1) hidx2 ?_
   refine hK.out _ _ ?_
   clear hK K
   refine ie_ (by kernel_rfl) ?_
   have HT8 : Aside0 (Tab7 P w bb toks (.slice (some ado) ord.length co) ord (F7 toks rules P.n (Fil7 ord p z (i + 1))) ((W5.drewN n1).setCell ⟨P.cb, P.idx s p z, none⟩ (.int .i64 (vv : Int)))) := ⟨(HT5.out.grow (aa_ (Below.refl W5.heap.size W5) n1)).put HP.out (by rw [HCB.out]; exact Nat.le_refl _) s p z hs20 hpn hzn vv HVV.out (fun s' p' q' _ _ _ hne => by
    rw [HFF.out]
    refine F7_step toks rules P.n HT.out HCH.out ord p z i hil (s' : Int) p' q' (fun e => hne ⟨?_, e.2.1, e.2.2⟩)
    have := e.1
    rw [HS.out] at this
    omega)⟩
   generalize (W5.drewN n1).setCell ⟨P.cb, P.idx s p z, none⟩ (.int .i64 (vv : Int)) = W9 at *
   go_wp2
   go_roundg (ord.length - (i + 1))
   case measure => omega
   case rel => exact ⟨i + 1, by omega, by omega, by go_num, HT8⟩
  have he : i = ord.length := by omega
  have hilz : decide ((i : Int) < (ord.length : Int)) = false := by simp; omega
  rw [he] at HT5
  have HT6 : Aside0 (Tab7 P w bb toks (.slice (some ado) ord.length co) ord (F7 toks rules P.n (Fil7 ord p (z + 1) 0)) wr) := ⟨HT5.out.congr fun s a b hs _ _ => F7_next toks rules P.n HT.out HCH.out ord HO.out HOL.out p z s hs a b⟩
  clear he HT5
  go_wp2
  go_roundg (P.n + 1 - (z + 1))
  case measure => omega
  case rel => exact ⟨z + 1, by omega, by omega, by omega, by go_num, HT6⟩
 have he : z = P.n + 1 := by omega
 have hzz : decide ((z : Int) ≤ (P.n : Int)) = false := by simp; omega
 rw [he] at HT4
 have HT5 : Aside0 (Tab7 P w bb toks (.slice (some ado) ord.length co) ord (F7 toks rules P.n (FilO p)) wr) := ⟨HT4.out.congr fun s a b _ _ hb => F7_end toks rules P.n HT.out HCH.out ord p (s : Int) a b hb⟩
 clear he HT4
 go_wp2
 go_roundg p
 case measure => omega
 case rel => exact ⟨p, by omega, Nat.le_refl _, by go_num, HT5⟩
abbrev Sp7 := S53
def toR (x : Sp) : Sp7 := ⟨x.f0, x.f1, x.f2⟩
noncomputable def ef_ (rules : List qa_) (toks : List Tok') (n i : Nat) : List Sp7 := (((List.range i).map (decS (n + 1))).filter fun x => decide (numP rules toks n x.f0 x.f1.toNat x.f2.toNat ≠ 0)).map toR
noncomputable def wi_ (rules : List qa_) (toks : List Tok') (n : Nat) : List Sp7 := (pc_ rules toks n).map toR
theorem tu_ (rules : List qa_) (toks : List Tok') (n i : Nat) : (ef_ rules toks n i).length ≤ i := by
 unfold ef_
 rw [List.length_map]
 refine Nat.le_trans (List.length_filter_le _ _) ?_
 rw [List.length_map, List.length_range]
 exact Nat.le_refl _
theorem uu_ (rules : List qa_) (hch : bb_ rules = true) (toks : List Tok') (n : Nat) : ef_ rules toks n (20 * (n + 1) * (n + 1)) = wi_ rules toks n := by
 unfold ef_ wi_ pc_
 rw [if_pos hch]
theorem bs_ (rules : List qa_) (toks : List Tok') (n s p q : Nat) (hp : p ≤ n) (hq : q ≤ n) : ef_ rules toks n ((s * (n + 1) + p) * (n + 1) + (q + 1)) = if numP rules toks n (s : Int) p q ≠ 0 then ef_ rules toks n ((s * (n + 1) + p) * (n + 1) + q) ++ [⟨(s : Int), (p : Int), (q : Int)⟩] else ef_ rules toks n ((s * (n + 1) + p) * (n + 1) + q) := by
 unfold ef_
 rw [← Nat.add_assoc, List.range_succ, List.map_append, List.filter_append, List.map_append, List.map_singleton, ju_ (n + 1) s p q (by omega) (by omega)]
 by_cases h : numP rules toks n (s : Int) p q ≠ 0
 ·rw [if_pos h, List.filter_cons_of_pos (by simpa using h)]
  rfl
 rw [if_neg h, List.filter_cons_of_neg (by simpa using h)]
 simp
structure Rd7 (P : T7) (w : World) (N : Int → Nat → Nat → Nat) (W : World) : Prop where
 tab : P.At W
 cells : C7 P W N
 below : Below w.heap.size w W
theorem Rd7.grow {P : T7} {w : World} {N : Int → Nat → Nat → Nat} {W W1 : World} (h : Rd7 P w N W) (hb : Below W.heap.size W W1) : Rd7 P w N W1 := ⟨h.tab.below hb, h.cells.below hb, ma_ h.below hb⟩
theorem Rd7.grown {P : T7} {w : World} {N : Int → Nat → Nat → Nat} {W W1 : World} (h : Rd7 P w N W) {row : Option Nat} (hg : W.grownBy W1 row) (ht : some P.tb ≠ row) (hc : some P.cb ≠ row) (hb : Below w.heap.size w W1) : Rd7 P w N W1 := by
 obtain ⟨f, ⟨vals, h1, h2, h3⟩, h4⟩ := h.cells
 exact ⟨xa_ h.tab hg ht, ⟨f, ⟨vals, xa_ h1 hg hc, h2, h3⟩, h4⟩, hb⟩
theorem Rd7.lt {P : T7} {w : World} {N : Int → Nat → Nat → Nat} {W : World} (h : Rd7 P w N W) : P.tb < W.heap.size ∧ P.cb < W.heap.size := by
 obtain ⟨f, h1, _⟩ := h.cells
 exact ⟨kc_ h.tab, h1.lt⟩
set_option maxHeartbeats 4000000 in
set_option maxRecDepth 100000 in
theorem iq_ (A0 : Option Addr) (c0 : Nat) (rules : List qa_) (A1 : Option Addr) (c1 : Nat) (toks : List Tok') (n : Nat) (w : World) (hr0 : Kd.C k48 w A0 rules.length rules) (hc0 : rules.length ≤ c0)
  (hr1 : Kd.C k31 w A1 toks.length toks) (hc1 : toks.length ≤ c1) (hn : n ≤ 1000) (htl : toks.length ≤ 1000) (hch : bb_ rules = true) (hT : ∀ x ∈ toks, 0 ≤ x.f0 ∧ x.f0 < x.f1 ∧ x.f1 ≤ (n : Int)) :
  Calls Tryz.prog 11 #[.slice A0 rules.length c0, .slice A1 toks.length c1, .int .i64 (n : Int)] w fun e w' => ∃ v0_ : Value, e = .returned (v0_) ∧ Kd.R k53 53 w' w.heap.size (fun _ => True) v0_ (wi_ rules toks n) ∧ Below w.heap.size w w' := by
 have HCH := Aside0.mk hch
 have hfill := ht_ A0 c0 rules A1 c1 toks n 1 w hr0 hc0 hr1 hc1 hn (Nat.le_refl _) (by decide) htl hch hT
 have HF := Aside0.mk hfill
 have HCH := Aside0.mk hch
 clear hfill hr0 hr1 hch hT
 go_enter Tryz.func11, Tryz.ntmps11
 go_wp2_with fail
 refine HF.out.mono ?_
 rintro e w1 ⟨P, hPn, hPm, hP, rfl, hA, hC, hB⟩
 subst hPn
 have HP := Aside0.mk hP
 have HPM := Aside0.mk hPm
 have HR : Aside0 (Rd7 P w (N7 toks rules P.n) w1) := ⟨⟨hA, hC, hB⟩⟩
 have HO : Aside0 (Kd.R k53 53 w1 w.heap.size (fun k => P.tb ≠ k ∧ P.cb ≠ k) (.slice none 0 0) ([] : List Sp7)) := ⟨Kd.R_nil _ _ _ _ _⟩
 clear HF hP hPm hA hC hB
 go_wp2
 go_loopg [8, 9] 20 (fun gg s8 s9 wr => ∃ s : Nat, s ≤ 20 ∧ 20 - s ≤ gg ∧ s9 = .int .i64 s ∧ Aside0 (Kd.R k53 53 wr w.heap.size (fun k => P.tb ≠ k ∧ P.cb ≠ k) s8 (ef_ rules toks P.n ((s * (P.n + 1) + 0) * (P.n + 1) + 0))) ∧ Aside0 (Rd7 P w (N7 toks rules P.n) wr))
 case atStart => exact ⟨0, by omega, by omega, rfl, ⟨by rw [Nat.zero_mul, Nat.zero_add, Nat.zero_mul]; exact HO.out⟩, HR⟩
 clear HO HR
 obtain ⟨s, hs, hgg, rfl, HO, HR⟩ := hrel
 obtain ⟨Ao, co, rfl⟩ := Kd.R_slice HO.out
 by_cases hs20 : s < 20
 ·have hsz : (s : Int) < 20 := by omega
  have HO2 : Aside0 (∃ v, v = Value.slice Ao (ef_ rules toks P.n ((s * (P.n + 1) + 0) * (P.n + 1) + 0)).length co ∧ Kd.R k53 53 wr w.heap.size (fun k => P.tb ≠ k ∧ P.cb ≠ k) v (ef_ rules toks P.n ((s * (P.n + 1) + 0) * (P.n + 1) + 0))) := ⟨_, rfl, HO.out⟩
  clear HO
  obtain ⟨v8, hv8, hO8⟩ := HO2.out
  rw [← hv8]
  have HO := Aside0.mk hO8
  clear hv8 hO8 HO2
  go_wp2
  go_loopg [8, 10] (P.n + 1) (fun gg2 s8 s10 wr => ∃ p : Nat, p ≤ P.n + 1 ∧ P.n + 1 - p ≤ gg2 ∧ s10 = .int .i64 p ∧ Aside0 (Kd.R k53 53 wr w.heap.size (fun k => P.tb ≠ k ∧ P.cb ≠ k) s8 (ef_ rules toks P.n ((s * (P.n + 1) + p) * (P.n + 1) + 0))) ∧ Aside0 (Rd7 P w (N7 toks rules P.n) wr))
  case atStart => exact ⟨0, by omega, by omega, rfl, HO, HR⟩
  clear HO HR
  obtain ⟨p, hp1, hgg2, rfl, HO, HR⟩ := hrel
  by_cases hpn : p ≤ P.n
  ·have hpz : (p : Int) ≤ (P.n : Int) := by omega
   go_wp2
   go_loopg [8, 11] (P.n + 1) (fun gg3 s8 s11 wr => ∃ q : Nat, q ≤ P.n + 1 ∧ P.n + 1 - q ≤ gg3 ∧ s11 = .int .i64 q ∧ Aside0 (Kd.R k53 53 wr w.heap.size (fun k => P.tb ≠ k ∧ P.cb ≠ k) s8 (ef_ rules toks P.n ((s * (P.n + 1) + p) * (P.n + 1) + q))) ∧ Aside0 (Rd7 P w (N7 toks rules P.n) wr))
   case atStart => exact ⟨0, by omega, by omega, rfl, HO, HR⟩
   clear HO HR
   obtain ⟨q, hq1, hgg3, rfl, HO, HR⟩ := hrel
   by_cases hqn : q ≤ P.n
   ·have hqz : (q : Int) ≤ (P.n : Int) := by omega
    have HSN := Aside0.mk (bs_ rules toks P.n s p q hpn hqn)
    have hlen : (ef_ rules toks P.n ((s * (P.n + 1) + p) * (P.n + 1) + q)).length ≤ 20040020 := by
     refine Nat.le_trans (tu_ _ _ _ _) (Nat.le_of_lt (Nat.lt_of_lt_of_le (P.idx_lt s p q hs20 hpn hqn) ?_))
     have := Nat.mul_le_mul (Nat.mul_le_mul_left 20 (Nat.succ_le_succ hn)) (Nat.succ_le_succ hn)
     exact this
    generalize ef_ rules toks P.n ((s * (P.n + 1) + p) * (P.n + 1) + q) = out at *
    obtain ⟨Ao2, co2, rfl⟩ := Kd.R_slice HO.out
    have r0 : wr.drew.cell? ⟨P.tb, 1, none⟩ = some (.slice (some ⟨P.cb, 0, none⟩) P.cc P.cc) := (ca_ HR.out.tab 1).trans rfl
    have r1 : wr.drew.cell? ⟨P.cb, P.idx s p q, none⟩ = some (.int .i64 (Chart.cap P.most (N7 toks rules P.n (s : Int) p q) : Int)) := HR.out.cells.cell HP.out s p q hs20 hpn hqn
    have HR5 := Aside0.mk (HR.out.grow (da_ (Below.refl wr.heap.size wr)))
    have HO5 := Aside0.mk (Kd.R_drew HO.out)
    have hidx : (P.idx s p q : Int) < (P.cc : Int) := by have := P.idx_lt s p q hs20 hpn hqn; have := HP.out.2.2.2; omega
    rw [HPM.out] at r1
    clear HO HR
    by_cases hnum : numP rules toks P.n (s : Int) p q ≠ 0
    ·have hcv : Chart.cap 1 (N7 toks rules P.n (s : Int) p q) = 1 := by
      have h9 : N7 toks rules P.n (s : Int) p q ≠ 0 := hnum
      unfold Chart.cap
      omega
     rw [hcv] at r1
     rw [if_pos hnum] at HSN
     clear hcv hnum
     obtain ⟨cv, hcve⟩ : ∃ cv : Nat, cv = 1 := ⟨_, rfl⟩
     rw [← hcve] at r1
     have hpos : decide (0 < cv) = true := by rw [hcve]; rfl
     clear hcve
     go_wp2
     refine td_ (n := 12) (S := fun w' => w'.cell? ⟨P.tb, 1, none⟩ = some (.slice (some ⟨P.cb, 0, none⟩) P.cc P.cc) ∧ w'.cell? ⟨P.cb, P.idx s p q, none⟩ = some (.int .i64 (cv : Int))) (ds := []) (f_ 12 0) (by kernel_rfl) rfl rfl ⟨r0, r1⟩ (fun hHeld => ?_)
     clear r0 r1
     generalize wr.drew = W5 at *
     refine oa_ (i := 0) (N := some 30) (v := ?_) (a' := ?_) (f_ 12 1) rfl rfl (by kernel_rfl) (fun _ _ _ h => h) (Or.inl ⟨by rfl, ?_⟩) ?_ ?_
     rotate_left
     ·intro w'
      go_simp
      try with_reducible rfl
     rotate_left
     ·simp only [Act.put, s1_, s2_, s3_, ka_, la_]
      rfl
     refine oa_ (i := 1) (N := some 31) (v := ?_) (a' := ?_) (f_ 12 2) rfl rfl (by kernel_rfl) (fun _ _ _ h => h) (Or.inl ⟨by rfl, ?_⟩) ?_ ?_
     rotate_left
     ·intro w'
      go_simp
      try with_reducible rfl
     rotate_left
     ·simp only [Act.put, s1_, s2_, s3_, ka_, la_]
      rfl
     refine oa_ (i := 2) (N := some 32) (v := ?_) (a' := ?_) (f_ 12 3) rfl rfl (by kernel_rfl) (fun _ _ _ h => h) (Or.inl ⟨by rfl, ?_⟩) ?_ ?_
     rotate_left
     ·intro w'
      go_simp
      try with_reducible rfl
     rotate_left
     ·simp only [Act.put, s1_, s2_, s3_, ka_, la_]
      rfl
     refine take_ (i := 3) (N := some 33) (v := ?_) (a' := ?_) (f_ 12 4) rfl rfl (by kernel_rfl) (fun _ _ _ h => h) (Or.inl ⟨by rfl, ?_⟩) hHeld ?_ ?_
     rotate_left
     ·rintro w' ⟨s0, s1⟩
      go_simp
      try with_reducible rfl
     rotate_left
     ·simp only [Act.put, s1_, s2_, s3_, ka_, la_]
      rfl
     refine oa_ (i := 4) (N := some 34) (v := ?_) (a' := ?_) (f_ 12 5) rfl rfl (by kernel_rfl) (fun _ _ _ h => h) (Or.inl ⟨by rfl, ?_⟩) ?_ ?_
     rotate_left
     ·intro w'
      go_simp
      try with_reducible rfl
     rotate_left
     ·simp only [Act.put, s1_, s2_, s3_, ka_, la_]
      rfl
     refine oa_ (i := 5) (N := some 35) (v := ?_) (a' := ?_) (f_ 12 6) rfl rfl (by kernel_rfl) (fun _ _ _ h => h) (Or.inl ⟨by rfl, ?_⟩) ?_ ?_
     rotate_left
     ·intro w'
      go_simp
      try with_reducible rfl
     rotate_left
     ·simp only [Act.put, s1_, s2_, s3_, ka_, la_]
      rfl
     refine oa_ (i := 6) (N := some 36) (v := ?_) (a' := ?_) (f_ 12 7) rfl rfl (by kernel_rfl) (fun _ _ _ h => h) (Or.inl ⟨by rfl, ?_⟩) ?_ ?_
     rotate_left
     ·intro w'
      go_simp
      try with_reducible rfl
     rotate_left
     ·simp only [Act.put, s1_, s2_, s3_, ka_, la_]
      rfl
     refine oa_ (i := 7) (N := some 37) (v := ?_) (a' := ?_) (f_ 12 8) rfl rfl (by kernel_rfl) (fun _ _ _ h => h) (Or.inl ⟨by rfl, ?_⟩) ?_ ?_
     rotate_left
     ·intro w'
      go_simp
      try with_reducible rfl
     rotate_left
     ·simp only [Act.put, s1_, s2_, s3_, ka_, la_]
      rfl
     refine one_ (i := 8) (N := some 38) (f_ 12 9) rfl rfl (by kernel_rfl) (by decide) (fun K hK => ?_)
     refine id_ Tryz.func23 (by kernel_rfl) rfl #[.pointer (some ⟨P.tb, 0, none⟩), .int .i64 (s : Int), .int .i64 (p : Int), .int .i64 (q : Int)] (by rfl) rfl rfl (by (try simp only [List.map_toArray, List.map_cons, List.map_nil]); rfl) ?_
     refine (nj_ P HP.out W5 HR5.out.tab s p q hs20 hpn hqn).mono ?_
     rintro e' W6 ⟨rfl, ⟨⟨n1, rfl⟩⟩⟩
     refine ⟨_, rfl, ?_⟩
     refine hK.out _ _ ⟨hHeld.1, hHeld.2⟩ (fun hHeld => ?_)
     clear hK K
     refine ab_ (a' := ?_) ?_ ?_
     rotate_left
     ·show Act.put _ (some 38) _ = _
      simp only [Act.put, s1_, s2_, s3_, ka_, la_]
      rfl
     refine oa_ (i := 9) (N := some 39) (v := ?_) (a' := ?_) (f_ 12 10) rfl rfl (by kernel_rfl) (fun _ _ _ h => h) (Or.inl ⟨by rfl, ?_⟩) ?_ ?_
     rotate_left
     ·intro w'
      go_simp
      try with_reducible rfl
     rotate_left
     ·simp only [Act.put, s1_, s2_, s3_, ka_, la_]
      rfl
     refine take_ (i := 10) (N := some 40) (v := ?_) (a' := ?_) (f_ 12 11) rfl rfl (by kernel_rfl) (fun _ _ _ h => h) (Or.inl ⟨by rfl, ?_⟩) hHeld ?_ ?_
     rotate_left
     ·rintro w' ⟨s0, s1⟩
      go_simp
      try with_reducible rfl
     rotate_left
     ·simp only [Act.put, s1_, s2_, s3_, ka_, la_]
      rfl
     refine oa_ (i := 11) (N := some 41) (v := ?_) (a' := ?_) (f_ 12 12) rfl rfl (by kernel_rfl) (fun _ _ _ h => h) (Or.inl ⟨by rfl, ?_⟩) ?_ ?_
     rotate_left
     ·intro w'
      go_simp
      try with_reducible rfl
     rotate_left
     ·simp only [Act.put, s1_, s2_, s3_, ka_, la_]
      rfl
     refine ie_ (by kernel_rfl) ?_
     have HR6 := Aside0.mk (HR5.out.grow (aa_ (Below.refl W5.heap.size W5) n1))
     have HO6 := Aside0.mk (Kd.R_drewN HO5.out n1)
     clear HR5 HO5
     generalize W5.drewN n1 = W6 at *
     have HB6 := Aside0.mk (ba_ HR6.out.below (.cells #[.int .i64 (s : Int), .int .i64 (p : Int), .int .i64 (q : Int)] 53))
     have HR7 := Aside0.mk (HR6.out.grow (ba_ (Below.refl W6.heap.size W6) (.cells #[.int .i64 (s : Int), .int .i64 (p : Int), .int .i64 (q : Int)] 53)))
     have HO7 : Aside0 (Kd.R k53 53 (W6.alloc (.cells #[.int .i64 (s : Int), .int .i64 (p : Int), .int .i64 (q : Int)] 53)) w.heap.size (fun k => P.tb ≠ k ∧ P.cb ≠ k) (.slice Ao2 out.length co2) out) := ⟨Kd.R_alloc HO6.out _⟩
     have HC7 : Aside0 (Kd.C k53 (W6.alloc (.cells #[.int .i64 (s : Int), .int .i64 (p : Int), .int .i64 (q : Int)] 53)) (some ⟨W6.heap.size, 0, none⟩) 1 [(⟨(s : Int), (p : Int), (q : Int)⟩ : Sp7)]) := ⟨rc_ (d := k53) (xs := [(⟨(s : Int), (p : Int), (q : Int)⟩ : Sp7)]) (cs := [.int .i64 (s : Int), .int .i64 (p : Int), .int .i64 (q : Int)]) (nc_ (w := W6) (cs := #[.int .i64 (s : Int), .int .i64 (p : Int), .int .i64 (q : Int)]) (t := 53) (n := W6.heap.size) rfl) (by simp) (lf_ (k53_mk _ (⟨(s : Int), (p : Int), (q : Int)⟩ : Sp7)) rfl)⟩
     have hlt6 := HR6.out.lt
     go_wp2_with (at_builtin; go_loud (refine Kd.R_append_rows k53 (Rr := k53.K (W6.alloc (.cells #[.int .i64 (s : Int), .int .i64 (p : Int), .int .i64 (q : Int)] 53))) (w0 := w) w.heap.size rfl (.tmp 42) (.tmp 47) 35 53 (.agg #[.int .i64 0, .int .i64 0, .int .i64 0]) 24 rfl Tryz.underlying35 info53 rfl (by show 0 < 3; decide) (by decide) (.slice Ao2 out.length co2) out [(⟨(s : Int), (p : Int), (q : Int)⟩ : Sp7)] (some ⟨W6.heap.size, 0, none⟩) 1 1 (fun k => P.tb ≠ k ∧ P.cb ≠ k) (fun _ => False) rfl rfl HO7.out HC7.out (fun x cs h => by have h9 := hr_ h; subst h9; exact k53_mkM _ _ _ x) (fun _ hk => hk.elim) (fun k hk => by simp at hk; omega) HB6.out HB6.out.size (by omega) ?_); intro v1 w5 ho hb hg hat)
     have HO8 := Aside0.mk ho
     have hown : ∀ k, (Value.slice Ao2 out.length co2).ownBlock = some k → P.tb ≠ k ∧ P.cb ≠ k := HO7.out.1
     have HR8 := Aside0.mk (HR7.out.grown hg (fun e => (hown _ e.symm).1 rfl) (fun e => (hown _ e.symm).2 rfl) hb)
     clear ho hb hg hat hown HO7 HC7 HR7 HB6 HO6 HR6
     go_wp2
     go_roundg (P.n + 1 - (q + 1))
     case measure => omega
     case rel => exact ⟨q + 1, by omega, by omega, by go_num, ⟨by rw [HSN.out]; exact HO8.out⟩, HR8⟩
    have hcv : Chart.cap 1 (N7 toks rules P.n (s : Int) p q) = 0 := by
     have h9 : N7 toks rules P.n (s : Int) p q = 0 := Classical.byContradiction hnum
     rw [h9]
     rfl
    rw [hcv] at r1
    rw [if_neg hnum] at HSN
    clear hcv hnum
    obtain ⟨cv, hcve⟩ : ∃ cv : Nat, cv = 0 := ⟨_, rfl⟩
    rw [← hcve] at r1
    have hpos : decide (0 < cv) = false := by rw [hcve]; rfl
    clear hcve
    go_wp2
    refine td_ (n := 12) (S := fun w' => w'.cell? ⟨P.tb, 1, none⟩ = some (.slice (some ⟨P.cb, 0, none⟩) P.cc P.cc) ∧ w'.cell? ⟨P.cb, P.idx s p q, none⟩ = some (.int .i64 (cv : Int))) (ds := []) (f_ 12 0) (by kernel_rfl) rfl rfl ⟨r0, r1⟩ (fun hHeld => ?_)
    clear r0 r1
    generalize wr.drew = W5 at *
    refine oa_ (i := 0) (N := some 30) (v := ?_) (a' := ?_) (f_ 12 1) rfl rfl (by kernel_rfl) (fun _ _ _ h => h) (Or.inl ⟨by rfl, ?_⟩) ?_ ?_
    rotate_left
    ·intro w'
     go_simp
     try with_reducible rfl
    rotate_left
    ·simp only [Act.put, s1_, s2_, s3_, ka_, la_]
     rfl
    refine oa_ (i := 1) (N := some 31) (v := ?_) (a' := ?_) (f_ 12 2) rfl rfl (by kernel_rfl) (fun _ _ _ h => h) (Or.inl ⟨by rfl, ?_⟩) ?_ ?_
    rotate_left
    ·intro w'
     go_simp
     try with_reducible rfl
    rotate_left
    ·simp only [Act.put, s1_, s2_, s3_, ka_, la_]
     rfl
    refine oa_ (i := 2) (N := some 32) (v := ?_) (a' := ?_) (f_ 12 3) rfl rfl (by kernel_rfl) (fun _ _ _ h => h) (Or.inl ⟨by rfl, ?_⟩) ?_ ?_
    rotate_left
    ·intro w'
     go_simp
     try with_reducible rfl
    rotate_left
    ·simp only [Act.put, s1_, s2_, s3_, ka_, la_]
     rfl
    refine take_ (i := 3) (N := some 33) (v := ?_) (a' := ?_) (f_ 12 4) rfl rfl (by kernel_rfl) (fun _ _ _ h => h) (Or.inl ⟨by rfl, ?_⟩) hHeld ?_ ?_
    rotate_left
    ·rintro w' ⟨s0, s1⟩
     go_simp
     try with_reducible rfl
    rotate_left
    ·simp only [Act.put, s1_, s2_, s3_, ka_, la_]
     rfl
    refine oa_ (i := 4) (N := some 34) (v := ?_) (a' := ?_) (f_ 12 5) rfl rfl (by kernel_rfl) (fun _ _ _ h => h) (Or.inl ⟨by rfl, ?_⟩) ?_ ?_
    rotate_left
    ·intro w'
     go_simp
     try with_reducible rfl
    rotate_left
    ·simp only [Act.put, s1_, s2_, s3_, ka_, la_]
     rfl
    refine oa_ (i := 5) (N := some 35) (v := ?_) (a' := ?_) (f_ 12 6) rfl rfl (by kernel_rfl) (fun _ _ _ h => h) (Or.inl ⟨by rfl, ?_⟩) ?_ ?_
    rotate_left
    ·intro w'
     go_simp
     try with_reducible rfl
    rotate_left
    ·simp only [Act.put, s1_, s2_, s3_, ka_, la_]
     rfl
    refine oa_ (i := 6) (N := some 36) (v := ?_) (a' := ?_) (f_ 12 7) rfl rfl (by kernel_rfl) (fun _ _ _ h => h) (Or.inl ⟨by rfl, ?_⟩) ?_ ?_
    rotate_left
    ·intro w'
     go_simp
     try with_reducible rfl
    rotate_left
    ·simp only [Act.put, s1_, s2_, s3_, ka_, la_]
     rfl
    refine oa_ (i := 7) (N := some 37) (v := ?_) (a' := ?_) (f_ 12 8) rfl rfl (by kernel_rfl) (fun _ _ _ h => h) (Or.inl ⟨by rfl, ?_⟩) ?_ ?_
    rotate_left
    ·intro w'
     go_simp
     try with_reducible rfl
    rotate_left
    ·simp only [Act.put, s1_, s2_, s3_, ka_, la_]
     rfl
    refine one_ (i := 8) (N := some 38) (f_ 12 9) rfl rfl (by kernel_rfl) (by decide) (fun K hK => ?_)
    refine id_ Tryz.func23 (by kernel_rfl) rfl #[.pointer (some ⟨P.tb, 0, none⟩), .int .i64 (s : Int), .int .i64 (p : Int), .int .i64 (q : Int)] (by rfl) rfl rfl (by (try simp only [List.map_toArray, List.map_cons, List.map_nil]); rfl) ?_
    refine (nj_ P HP.out W5 HR5.out.tab s p q hs20 hpn hqn).mono ?_
    rintro e' W6 ⟨rfl, ⟨⟨n1, rfl⟩⟩⟩
    refine ⟨_, rfl, ?_⟩
    refine hK.out _ _ ⟨hHeld.1, hHeld.2⟩ (fun hHeld => ?_)
    clear hK K
    refine ab_ (a' := ?_) ?_ ?_
    rotate_left
    ·show Act.put _ (some 38) _ = _
     simp only [Act.put, s1_, s2_, s3_, ka_, la_]
     rfl
    refine oa_ (i := 9) (N := some 39) (v := ?_) (a' := ?_) (f_ 12 10) rfl rfl (by kernel_rfl) (fun _ _ _ h => h) (Or.inl ⟨by rfl, ?_⟩) ?_ ?_
    rotate_left
    ·intro w'
     go_simp
     try with_reducible rfl
    rotate_left
    ·simp only [Act.put, s1_, s2_, s3_, ka_, la_]
     rfl
    refine take_ (i := 10) (N := some 40) (v := ?_) (a' := ?_) (f_ 12 11) rfl rfl (by kernel_rfl) (fun _ _ _ h => h) (Or.inl ⟨by rfl, ?_⟩) hHeld ?_ ?_
    rotate_left
    ·rintro w' ⟨s0, s1⟩
     go_simp
     try with_reducible rfl
    rotate_left
    ·simp only [Act.put, s1_, s2_, s3_, ka_, la_]
     rfl
    refine oa_ (i := 11) (N := some 41) (v := ?_) (a' := ?_) (f_ 12 12) rfl rfl (by kernel_rfl) (fun _ _ _ h => h) (Or.inl ⟨by rfl, ?_⟩) ?_ ?_
    rotate_left
    ·intro w'
     go_simp
     try with_reducible rfl
    rotate_left
    ·simp only [Act.put, s1_, s2_, s3_, ka_, la_]
     rfl
    refine ie_ (by kernel_rfl) ?_
    have HR6 := Aside0.mk (HR5.out.grow (aa_ (Below.refl W5.heap.size W5) n1))
    have HO6 := Aside0.mk (Kd.R_drewN HO5.out n1)
    clear HR5 HO5
    generalize W5.drewN n1 = W6 at *
    go_wp2
    go_roundg (P.n + 1 - (q + 1))
    case measure => omega
    case rel => exact ⟨q + 1, by omega, by omega, by go_num, ⟨by rw [HSN.out]; exact HO6.out⟩, HR6⟩
   have he : q = P.n + 1 := by omega
   have hqz : decide ((q : Int) ≤ (P.n : Int)) = false := by simp; omega
   have hidx : (s * (P.n + 1) + p) * (P.n + 1) + q = (s * (P.n + 1) + (p + 1)) * (P.n + 1) + 0 := by
    rw [he, show s * (P.n + 1) + (p + 1) = (s * (P.n + 1) + p) + 1 from rfl, Nat.add_mul (s * (P.n + 1) + p) 1, Nat.one_mul]
    rfl
   rw [hidx] at HO
   clear he hidx
   go_wp2
   go_roundg (P.n + 1 - (p + 1))
   case measure => omega
   case rel => exact ⟨p + 1, by omega, by omega, by go_num, HO, HR⟩
  have he : p = P.n + 1 := by omega
  have hpz : decide ((p : Int) ≤ (P.n : Int)) = false := by simp; omega
  have hidx : (s * (P.n + 1) + p) * (P.n + 1) + 0 = ((s + 1) * (P.n + 1) + 0) * (P.n + 1) + 0 := by
   rw [he, Nat.add_mul s 1, Nat.one_mul]
   rfl
  rw [hidx] at HO
  clear he hidx
  go_wp2
  go_roundg (20 - (s + 1))
  case measure => omega
  case rel => exact ⟨s + 1, by omega, by omega, by go_num, HO, HR⟩
 have he : s = 20 := by omega
 have hsz : decide ((s : Int) < 20) = false := by simp; omega
 have HALL : Aside0 (ef_ rules toks P.n ((s * (P.n + 1) + 0) * (P.n + 1) + 0) = wi_ rules toks P.n) := ⟨by rw [he, Nat.add_zero, Nat.add_zero]; exact uu_ rules HCH.out toks P.n⟩
 clear he
 go_wp2
 go_ret
 exact ⟨_, rfl, by rw [← HALL.out]; exact Kd.R_mono HO.out (fun _ _ => trivial), HR.out.below⟩
noncomputable def interlocutorref7_Spans.f (rules : List qa_) (toks : List Tok') (size : Int) : Option (List Sp7) := if ((0 ≤ size ∧ size ≤ 1000) ∧ bb_ rules = true) ∧ okIn rules toks size.toNat = true then some (wi_ rules toks size.toNat) else none
theorem interlocutorref7_Spans.calls (A0 : Option Addr) (c0 : Nat) (rules : List qa_) (A1 : Option Addr) (c1 : Nat) (toks : List Tok') (size : Int) (r : List Sp7) (w : World) (hr0 : Kd.C k48 w A0 rules.length rules) (hc0 : rules.length ≤ c0)
  (hr1 : Kd.C k31 w A1 toks.length toks) (hc1 : toks.length ≤ c1) (h : interlocutorref7_Spans.f rules toks size = some r) :
  Calls Tryz.prog 11 #[.slice A0 rules.length c0, .slice A1 toks.length c1, .int .i64 size] w fun e w' => ∃ v0_ : Value, e = .returned (v0_) ∧ Kd.R k53 53 w' w.heap.size (fun _ => True) v0_ r ∧ Below w.heap.size w w' := by
 unfold interlocutorref7_Spans.f at h
 split at h
 case isFalse => cases h
 case isTrue hu =>
 obtain rfl := Option.some.inj h
 obtain ⟨_, htl, htk⟩ := (gh_ rules toks size.toNat).1 hu.2
 have h1 := iq_ A0 c0 rules A1 c1 toks size.toNat w hr0 hc0 hr1 hc1 (by omega) htl hu.1.2 (fun x hx => (htk x hx).1)
 rwa [show ((size.toNat : Nat) : Int) = size by omega] at h1
end Go.Proofs.YtjfbfhoipgldgaaGreat.P
end
section
namespace Go.Proofs.YtjfbfhoipgldgaaGreat.P
open Go.RowKit Go.Proofs.YtjfbfhoipgldgaaGreatW.PrintWords Go.Proofs.YtjfbfhoipgldgaaGreatW.PrintLast Go.Proofs.YtjfbfhoipgldgaaGreatW.PrintMore
attribute [local go_sem] ob_ lb_ vb_ ub_ db_ cb_ nb_ kb_   
set_option linter.unusedVariables false
set_option linter.unusedSimpArgs false
attribute [local go_sem] Oper.semAt_some
end Go.Proofs.YtjfbfhoipgldgaaGreat.P
end
section
namespace Go.Proofs.YtjfbfhoipgldgaaGreat.P
open Go.RowKit Go.Proofs.YtjfbfhoipgldgaaGreatW.PrintWords Go.Proofs.YtjfbfhoipgldgaaGreatW.PrintLast Go.Proofs.YtjfbfhoipgldgaaGreatW.PrintMore
attribute [local go_sem] ob_ lb_ vb_ ub_ db_ cb_ nb_ kb_   
set_option linter.unusedVariables false
set_option linter.unusedSimpArgs false
attribute [local go_sem high] eqA31
noncomputable def l7_row.l0 : Nat → List Int → List (S31) → Int → Int → Option ((List (S31)) × Int)
 | 0, _, _, _, _ => none
 | k + 1, x0, x6, x7, x8 => if x8 < x7 then ((some (([0, 0, 1, 2, 50, 51] : List Int) : List Int)).bind fun y258 => (if 0 ≤ x8 then (if x8 < (x0.length : Int) then ((l7_within.f (rd x0 x8) 6).bind fun t262 => (if 0 ≤ t262 then (if t262 < (y258.length : Int) then ((l7_within.f (wrap64 (Int.tdiv (rd x0 x8) 6)) 20).bind fun t265 => (if x6.length < 3518437208883 then (l7_row.l0 k x0 (x6 ++ [(⟨x8, wrap64 (x8 + 1), rd y258 t262, t265, 1⟩ : S31)]) x7 (wrap64 (x8 + 1))) else (none))) else (none)) else (none))) else (none)) else (none))) else (some (x6, x7))
noncomputable def l7_row.f (k : Nat) (l0 : List Int) (a1 : Int) : Option ((List (S31)) × Int) := l7_row.l0 k l0 ([] : List (S31)) (mn (l0.length : Int) a1) 0
def l7_row.T6 : Bool × List (List Nat × List Nat) := (true, [([], []), ([], []), ([], []), ([2], [2]), ([], []), ([], []), ([], []), ([5, 6], [5, 6]), ([7], [7]), ([8], [8]), ([4, 9], [4, 9]), ([10], [10]), ([], []), ([], []), ([12, 13], [12, 13]), ([14], [14]), ([15], [15]), ([16, 9], [16]), ([1, 3, 11, 17], [1, 3, 11, 17]), ([18], [18]), ([0, 19, 17], [0, 19]), ([20, 20, 0, 1, 2, 3, 4, 5, 6, 7, 8, 9, 10, 11, 12, 13, 14, 15, 16, 17, 18, 19, 20], [0, 20])])
def l7_row.B6 : List Nat := [0, 0, 0, 4, 0, 0, 0, 96, 224, 480, 1008, 2032, 0, 0, 12288, 28672, 61440, 127968, 262142, 524286, 1048575, 2097151]
theorem l7_row.tab6 : rtab .any (opsOf Tryz.f14 6) = l7_row.T6 := by kernel_rfl
theorem l7_row.bits6 : rf_ l7_row.T6.2 l7_row.B6 = true := by kernel_rfl
set_option maxHeartbeats 8000000 in
set_option maxRecDepth 100000 in
theorem l7_row.calls (k : Nat) (A0 : Option Addr) (c0 : Nat) (l0 : List Int) (a1 : Int) (r1 : List (S31)) (r2 : Int) (w : World) (hr0 : Kd.C (Kd.int .i64) w A0 l0.length l0) (hc0 : l0.length ≤ c0) (h : l7_row.f k l0 a1 = some (r1, r2)) :
  Calls Tryz.prog 14 #[.slice A0 l0.length c0, .int .i64 a1] w fun e w' => ∃ v0_ : Value, e = .returned (.tuple #[v0_, .int .i64 r2]) ∧ Kd.R k31 31 w' w.heap.size (fun _ => True) v0_ r1 ∧ Below w.heap.size w w' := by
 have hu31 := Tryz.underlying31
 have HR0 := Aside0.mk hr0
 have HC0 := Aside0.mk hc0
 clear hr0 hc0
 have HB := Aside0.mk (Below.refl w.heap.size w)
 have H : (l7_row.l0 k l0 ([] : List (S31)) (mn (l0.length : Int) a1) 0) = some (r1, r2) := h
 clear h
 obtain ⟨ji3, hji3⟩ : ∃ j_ : Int, (mn (l0.length : Int) a1) = j_ := ⟨_, rfl⟩
 replace H : (l7_row.l0 k l0 ([] : List (S31)) ji3 0) = some (r1, r2) := by first | (rw [hji3] at H; exact H) | (simp only [hji3] at H ⊢; exact H)
 have hji3_ : (if a1 < (l0.length : Int) then a1 else (l0.length : Int)) = ji3 := hji3
 have H' := Aside0.mk H
 clear H
 go_enter Tryz.func14, Tryz.ntmps14
 go_wp2
 go_loopg [6, 8] k (fun kq v6 v8 w' => ∃ (x6_1 : List (S31)) (x8_1 : Int), v8 = .int .i64 x8_1 ∧ Aside0 (l7_row.l0 kq l0 x6_1 ji3 x8_1 = some (r1, r2)) ∧ Aside0 (kq ≤ k) ∧ Aside0 (Kd.R k31 31 w' w.heap.size (fun _ => True) v6 x6_1) ∧ Aside0 (Below w.heap.size w w'))
 case atStart => exact ⟨(([] : List (S31))), (0), (by first | rfl | (simp; done) | (simp [*]; done)), H', ⟨Nat.le_refl _⟩, ⟨by first | exact Kd.R_nil _ _ _ _ _ | exact Kd.N_nil _ _ _ _ _ | exact Kd.V_nil _ _ _ _ _ | exact Kd.Q_nil _ _ _ _ _ | exact Kd.S_nil _ _ _ _ _⟩, ⟨by repeat (first | (with_reducible first | exact HB.out | apply ba_ | apply aa_ | apply da_) | exact HB.out)⟩⟩
 clear H'
 try clear c1
 try clear p2
 obtain ⟨x6_1, x8_1, rfl, HA, HK1, HO_6, HB⟩ := hrel
 cases gk with
 | zero => exact absurd HA.out (by simp [l7_row.l0])
 | succ k1 =>
  have H := HA.out
  clear HA
  simp only [l7_row.l0] at H
  by_cases c4 : x8_1 < ji3
  ·rw [if_pos c4] at H
   have c4b0 : decide (x8_1 < ji3) = true := decide_eq_true c4
   clear c4
   obtain ⟨y258, hy258⟩ : ∃ y_ : List Int, y_ = (([0, 0, 1, 2, 50, 51] : List Int)) := ⟨_, rfl⟩
   replace H : (if 0 ≤ x8_1 then (if x8_1 < (l0.length : Int) then ((l7_within.f (rd l0 x8_1) 6).bind fun t262 => (if 0 ≤ t262 then (if t262 < (y258.length : Int) then ((l7_within.f (wrap64 (Int.tdiv (rd l0 x8_1) 6)) 20).bind fun t265 => (if x6_1.length < 3518437208883 then (l7_row.l0 k1 l0 (x6_1 ++ [(⟨x8_1, wrap64 (x8_1 + 1), rd y258 t262, t265, 1⟩ : S31)]) ji3 (wrap64 (x8_1 + 1))) else (none))) else (none)) else (none))) else (none)) else (none)) = some (r1, r2) := by first | (rw [hy258]; with_reducible exact H) | (have H2_ := (Option.bind_some _ _).symm.trans H; rw [hy258]; with_reducible exact H2_) | (have H2_ := (Option.bind_some _ _).symm.trans H; with_reducible exact H2_) | with_reducible exact H | (rw [hy258]; exact H) | exact H
   have Ny258 := Aside0.mk hy258
   clear hy258
   by_cases c5 : 0 ≤ x8_1
   ·rw [if_pos c5] at H
    have c5b0 : decide (0 ≤ x8_1) = true := decide_eq_true c5
    clear c5
    by_cases c6 : x8_1 < (l0.length : Int)
    ·rw [if_pos c6] at H
     have c6b0 : decide (x8_1 < (l0.length : Int)) = true := decide_eq_true c6
     clear c6
     replace H := Option.bind_eq_some_iff.mp H
     obtain ⟨t262, A70, H⟩ := H
     replace H : (if 0 ≤ t262 then (if t262 < (y258.length : Int) then ((l7_within.f (wrap64 (Int.tdiv (rd l0 x8_1) 6)) 20).bind fun t265 => (if x6_1.length < 3518437208883 then (l7_row.l0 k1 l0 (x6_1 ++ [(⟨x8_1, wrap64 (x8_1 + 1), rd y258 t262, t265, 1⟩ : S31)]) ji3 (wrap64 (x8_1 + 1))) else (none))) else (none)) else (none)) = some (r1, r2) := H
     have A7 := Aside0.mk A70
     clear A70
     by_cases c8 : 0 ≤ t262
     ·rw [if_pos c8] at H
      have c8b0 : decide (0 ≤ t262) = true := decide_eq_true c8
      clear c8
      by_cases c9 : t262 < (y258.length : Int)
      ·rw [if_pos c9] at H
       have c9b0 : decide (t262 < (y258.length : Int)) = true := decide_eq_true c9
       clear c9
       replace H := Option.bind_eq_some_iff.mp H
       obtain ⟨t265, A100, H⟩ := H
       replace H : (if x6_1.length < 3518437208883 then (l7_row.l0 k1 l0 (x6_1 ++ [(⟨x8_1, wrap64 (x8_1 + 1), rd y258 t262, t265, 1⟩ : S31)]) ji3 (wrap64 (x8_1 + 1))) else (none)) = some (r1, r2) := H
       have A10 := Aside0.mk A100
       clear A100
       by_cases c11 : x6_1.length < 3518437208883
       ·rw [if_pos c11] at H
        have LMc11 := Aside0.mk c11
        clear c11
        obtain ⟨y266, hy266⟩ : ∃ y_ : List (S31), y_ = (x6_1 ++ [(⟨x8_1, wrap64 (x8_1 + 1), rd y258 t262, t265, 1⟩ : S31)]) := ⟨_, rfl⟩
        replace H : (l7_row.l0 k1 l0 y266 ji3 (wrap64 (x8_1 + 1))) = some (r1, r2) := by first | (rw [hy266]; with_reducible exact H) | (have H2_ := (Option.bind_some _ _).symm.trans H; rw [hy266]; with_reducible exact H2_) | (have H2_ := (Option.bind_some _ _).symm.trans H; with_reducible exact H2_) | with_reducible exact H | (rw [hy266]; exact H) | exact H
        have Ny266 := Aside0.mk hy266
        clear hy266
        have H' := Aside0.mk H
        clear H
        obtain ⟨Ao12, co12, eo12⟩ := Kd.R_slice HO_6.out
        subst eo12
        try go_wp2
        have pi263 : (0 ≤ (t262 : Int)) = True := eq_true (of_decide_eq_true (by first | (with_reducible assumption) | assumption))
        have qi263 : (t262 < (y258.length : Int)) = True := eq_true (of_decide_eq_true (by first | (with_reducible assumption) | assumption))
        have n0_ := Aside0.mk (Kd.R_drew HO_6.out)
        have n1_ := Aside0.mk (da_ HB.out)
        clear HO_6
        clear HB
        have HO_6 := n0_
        have HB := n1_
        clear n0_ n1_
        have p261 : 0 ≤ (x8_1 : Int) := of_decide_eq_true (by first | (with_reducible assumption) | assumption)
        have q261 : x8_1 < (l0.length : Int) := of_decide_eq_true (by first | (with_reducible assumption) | assumption)
        obtain ⟨ad261, e261, hx261_0⟩ := Kd.at_int HR0.out x8_1 p261 q261
        have hw261_0 := hx261_0
        cases e261
        replace hx261_0 := (HB.out.cell (World.block_lt_of_cell? w _ hx261_0)).trans hx261_0
        replace p261 := eq_true p261
        replace q261 := eq_true q261
        have p264 : 0 ≤ (x8_1 : Int) := of_decide_eq_true (by first | (with_reducible assumption) | assumption)
        have q264 : x8_1 < (l0.length : Int) := of_decide_eq_true (by first | (with_reducible assumption) | assumption)
        obtain ⟨ad264, e264, hx264_0⟩ := Kd.at_int HR0.out x8_1 p264 q264
        have hw264_0 := hx264_0
        obtain rfl : ad261 = ad264 := (by injection e264)
        replace hx264_0 := (HB.out.cell (World.block_lt_of_cell? w _ hx264_0)).trans hx264_0
        replace p264 := eq_true p264
        replace q264 := eq_true q264
        refine td_ (n := 22) (S := fun w' => w'.cell? (ad261.add (x8_1).toNat) = some (.int .i64 (rd l0 x8_1)) ∧ w'.cell? (ad261.add (x8_1).toNat) = some (.int .i64 (rd l0 x8_1))) (ds := []) (f_ 22 0) (by kernel_rfl) rfl rfl ⟨((HB.out.cell (World.block_lt_of_cell? w _ hw261_0)).trans hw261_0), ((HB.out.cell (World.block_lt_of_cell? w _ hw264_0)).trans hw264_0)⟩ (fun hHeld => ?_); refine gf_ l7_row.tab6 l7_row.bits6 (fun HT_ HW_ => ?_)
        generalize wr.drew = w13 at HO_6 HB hx261_0 hx264_0 hHeld ⊢
        refine oa_ (i := 0) (N := some 18) (v := ?_) (a' := ?_) (f_ 22 1) rfl rfl (jb_ HT_.out (by kernel_rfl)) (fun _ _ _ h => h) (Or.inl ⟨by rfl, ?_⟩) ?_ ?_
        rotate_left
        ·intro w'
         go_simp
         with_reducible rfl
        rotate_left
        ·simp only [Act.put, s1_, s2_, s3_, ka_, la_]
         rfl
        refine oa_ (i := 1) (N := some 19) (v := ?_) (a' := ?_) (f_ 22 2) rfl rfl (jb_ HT_.out (by kernel_rfl)) (fun _ _ _ h => h) (Or.inl ⟨by rfl, ?_⟩) ?_ ?_
        rotate_left
        ·intro w'
         go_simp
         with_reducible rfl
        rotate_left
        ·simp only [Act.put, s1_, s2_, s3_, ka_, la_]
         rfl
        refine oa_ (i := 2) (N := some 20) (v := ?_) (a' := ?_) (f_ 22 3) rfl rfl (jb_ HT_.out (by kernel_rfl)) (fun _ _ _ h => h) (Or.inl ⟨by rfl, ?_⟩) ?_ ?_
        rotate_left
        ·intro w'
         go_simp
         with_reducible rfl
        rotate_left
        ·simp only [Act.put, s1_, s2_, s3_, ka_, la_]
         rfl
        refine oa_ (i := 3) (N := some 21) (v := ?_) (a' := ?_) (f_ 22 4) rfl rfl (jb_ HT_.out (by kernel_rfl)) (fun _ _ _ h => h) (Or.inl ⟨by rfl, ?_⟩) ?_ ?_
        rotate_left
        ·intro w'
         go_simp
         with_reducible rfl
        rotate_left
        ·simp only [Act.put, s1_, s2_, s3_, ka_, la_]
         rfl
        refine oa_ (i := 5) (N := some 23) (v := ?_) (a' := ?_) #[true, true, true, true, false, true, false, false, false, false, false, false, false, false, false, false, false, false, false, false, false, false] rfl rfl (jb_ HT_.out (by kernel_rfl)) (fun _ _ _ h => h) (Or.inl ⟨by rfl, ?_⟩) ?_ ?_
        rotate_left
        ·intro w'
         go_simp
         with_reducible rfl
        rotate_left
        ·simp only [Act.put, s1_, s2_, s3_, ka_, la_]
         rfl
        refine oa_ (i := 6) (N := some 24) (v := ?_) (a' := ?_) #[true, true, true, true, false, true, true, false, false, false, false, false, false, false, false, false, false, false, false, false, false, false] rfl rfl (jb_ HT_.out (by kernel_rfl)) (fun _ _ _ h => h) (Or.inl ⟨by rfl, ?_⟩) ?_ ?_
        rotate_left
        ·intro w'
         go_simp
         with_reducible rfl
        rotate_left
        ·simp only [Act.put, s1_, s2_, s3_, ka_, la_]
         rfl
        refine oa_ (i := 7) (N := some 25) (v := ?_) (a' := ?_) #[true, true, true, true, false, true, true, true, false, false, false, false, false, false, false, false, false, false, false, false, false, false] rfl rfl (jb_ HT_.out (by kernel_rfl)) (fun _ _ _ h => h) (Or.inl ⟨by rfl, ?_⟩) ?_ ?_
        rotate_left
        ·intro w'
         go_simp
         with_reducible rfl
        rotate_left
        ·simp only [Act.put, s1_, s2_, s3_, ka_, la_]
         rfl
        refine oa_ (i := 12) (N := some 30) (v := ?_) (a' := ?_) #[true, true, true, true, false, true, true, true, false, false, false, false, true, false, false, false, false, false, false, false, false, false] rfl rfl (jb_ HT_.out (by kernel_rfl)) (fun _ _ _ h => h) (Or.inl ⟨by rfl, ?_⟩) ?_ ?_
        rotate_left
        ·intro w'
         go_simp
         with_reducible rfl
        rotate_left
        ·simp only [Act.put, s1_, s2_, s3_, ka_, la_]
         rfl
        refine oa_ (i := 13) (N := some 31) (v := ?_) (a' := ?_) #[true, true, true, true, false, true, true, true, false, false, false, false, true, true, false, false, false, false, false, false, false, false] rfl rfl (jb_ HT_.out (by kernel_rfl)) (fun _ _ _ h => h) (Or.inl ⟨by rfl, ?_⟩) ?_ ?_
        rotate_left
        ·intro w'
         go_simp
         with_reducible rfl
        rotate_left
        ·simp only [Act.put, s1_, s2_, s3_, ka_, la_]
         rfl
        refine oa_ (i := 14) (N := some 32) (v := ?_) (a' := ?_) #[true, true, true, true, false, true, true, true, false, false, false, false, true, true, true, false, false, false, false, false, false, false] rfl rfl (jb_ HT_.out (by kernel_rfl)) (fun _ _ _ h => h) (Or.inl ⟨by rfl, ?_⟩) ?_ ?_
        rotate_left
        ·intro w'
         go_simp
         with_reducible rfl
        rotate_left
        ·simp only [Act.put, s1_, s2_, s3_, ka_, la_]
         rfl
        refine take_ (i := 8) (N := some 26) (v := ?_) (a' := ?_) #[true, true, true, true, false, true, true, true, true, false, false, false, true, true, true, false, false, false, false, false, false, false] rfl rfl (yd_ HT_.out HW_.out (by kernel_rfl)) (fun _ _ _ h => h) (Or.inl ⟨by rfl, ?_⟩) hHeld ?_ ?_
        rotate_left
        ·rintro w' ⟨s0, s1⟩
         go_simp
         with_reducible rfl
        rotate_left
        ·simp only [Act.put, s1_, s2_, s3_, ka_, la_]
         rfl
        refine take_ (i := 15) (N := some 33) (v := ?_) (a' := ?_) #[true, true, true, true, false, true, true, true, true, false, false, false, true, true, true, true, false, false, false, false, false, false] rfl rfl (yd_ HT_.out HW_.out (by kernel_rfl)) (fun _ _ _ h => h) (Or.inl ⟨by rfl, ?_⟩) hHeld ?_ ?_
        rotate_left
        ·rintro w' ⟨s0, s1⟩
         go_simp
         with_reducible rfl
        rotate_left
        ·simp only [Act.put, s1_, s2_, s3_, ka_, la_]
         rfl
        refine oa_ (i := 16) (N := some 34) (v := ?_) (a' := ?_) #[true, true, true, true, false, true, true, true, true, false, false, false, true, true, true, true, true, false, false, false, false, false] rfl rfl (jb_ HT_.out (by kernel_rfl)) (fun _ _ _ h => h) (Or.inl ⟨by rfl, ?_⟩) ?_ ?_
        rotate_left
        ·intro w'
         go_simp
         with_reducible rfl
        rotate_left
        ·simp only [Act.put, s1_, s2_, s3_, ka_, la_]
         rfl
        refine sk_ (σ := Value × Addr) 4 (f_ 22 18) (fun s_ => [(22, s_.1), (27, .int .i64 t262), (29, .int .i64 (rd y258 t262)), (35, .int .i64 t265), (28, .pointer (some (s_.2.add (t262).toNat)))]) (fun s_ w' => (w'.cell? (ad261.add (x8_1).toNat) = some (.int .i64 (rd l0 x8_1)) ∧ w'.cell? (ad261.add (x8_1).toNat) = some (.int .i64 (rd l0 x8_1))) ∧ (Kd.R (Kd.int .i64) 3 w' w.heap.size (fun _ => True) s_.1 y258) ∧ (Kd.R k31 31 w' w.heap.size (fun _ => True) (.slice Ao12 x6_1.length co12) x6_1) ∧ (∃ c_, (s_.1 : Value) = .slice (some s_.2) y258.length c_) ∧ (Below w.heap.size w w')) ?_ ?_
        rotate_left
        ·intro hJ4_9_11_17
         refine sk_ (σ := Value × Addr) 5 (f_ 22 17) (fun s_ => [(22, s_.1), (27, .int .i64 t262), (29, .int .i64 (rd y258 t262)), (28, .pointer (some (s_.2.add (t262).toNat)))]) (fun s_ w' => (w'.cell? (ad261.add (x8_1).toNat) = some (.int .i64 (rd l0 x8_1)) ∧ w'.cell? (ad261.add (x8_1).toNat) = some (.int .i64 (rd l0 x8_1))) ∧ (Kd.R (Kd.int .i64) 3 w' w.heap.size (fun _ => True) s_.1 y258) ∧ (Kd.R k31 31 w' w.heap.size (fun _ => True) (.slice Ao12 x6_1.length co12) x6_1) ∧ (∃ c_, (s_.1 : Value) = .slice (some s_.2) y258.length c_) ∧ (Below w.heap.size w w')) ?_ ?_
         rotate_left
         ·intro hJ4_9_11
          refine sk_ (σ := Value × Addr) 5 #[true, true, true, true, true, true, true, true, true, true, true, false, true, true, true, true, true, true, false, false, false, false] (fun s_ => [(22, s_.1), (27, .int .i64 t262), (35, .int .i64 t265), (28, .pointer (some (s_.2.add (t262).toNat)))]) (fun s_ w' => (w'.cell? (ad261.add (x8_1).toNat) = some (.int .i64 (rd l0 x8_1)) ∧ w'.cell? (ad261.add (x8_1).toNat) = some (.int .i64 (rd l0 x8_1))) ∧ (Kd.R (Kd.int .i64) 3 w' w.heap.size (fun _ => True) s_.1 y258) ∧ (Kd.R k31 31 w' w.heap.size (fun _ => True) (.slice Ao12 x6_1.length co12) x6_1) ∧ (∃ c_, (s_.1 : Value) = .slice (some s_.2) y258.length c_) ∧ (Below w.heap.size w w')) ?_ ?_
          rotate_left
          ·intro hJ4_9_17
           refine sk_ (σ := Value × Addr) 6 #[true, true, true, true, true, true, true, true, true, true, true, false, true, true, true, true, true, false, false, false, false, false] (fun s_ => [(22, s_.1), (27, .int .i64 t262), (28, .pointer (some (s_.2.add (t262).toNat)))]) (fun s_ w' => (w'.cell? (ad261.add (x8_1).toNat) = some (.int .i64 (rd l0 x8_1)) ∧ w'.cell? (ad261.add (x8_1).toNat) = some (.int .i64 (rd l0 x8_1))) ∧ (Kd.R (Kd.int .i64) 3 w' w.heap.size (fun _ => True) s_.1 y258) ∧ (Kd.R k31 31 w' w.heap.size (fun _ => True) (.slice Ao12 x6_1.length co12) x6_1) ∧ (∃ c_, (s_.1 : Value) = .slice (some s_.2) y258.length c_) ∧ (Below w.heap.size w w')) ?_ ?_
           rotate_left
           ·intro hJ4_9
            refine sk_ (σ := Unit) 7 #[true, true, true, true, false, true, true, true, true, true, false, false, true, true, true, true, true, true, false, false, false, false] (fun s_ => [(27, .int .i64 t262), (35, .int .i64 t265)]) (fun s_ w' => (w'.cell? (ad261.add (x8_1).toNat) = some (.int .i64 (rd l0 x8_1)) ∧ w'.cell? (ad261.add (x8_1).toNat) = some (.int .i64 (rd l0 x8_1))) ∧ (Kd.R k31 31 w' w.heap.size (fun _ => True) (.slice Ao12 x6_1.length co12) x6_1) ∧ (Below w.heap.size w w')) ?_ ?_
            rotate_left
            ·intro hJ9_17
             refine sk_ (σ := Value × Addr) 8 #[true, true, true, true, true, true, true, true, true, false, false, false, true, true, true, true, true, false, false, false, false, false] (fun s_ => [(22, s_.1)]) (fun s_ w' => (w'.cell? (ad261.add (x8_1).toNat) = some (.int .i64 (rd l0 x8_1)) ∧ w'.cell? (ad261.add (x8_1).toNat) = some (.int .i64 (rd l0 x8_1))) ∧ (Kd.R (Kd.int .i64) 3 w' w.heap.size (fun _ => True) s_.1 y258) ∧ (Kd.R k31 31 w' w.heap.size (fun _ => True) (.slice Ao12 x6_1.length co12) x6_1) ∧ (∃ c_, (s_.1 : Value) = .slice (some s_.2) y258.length c_) ∧ (Below w.heap.size w w')) ?_ ?_
             rotate_left
             ·intro hJ4
              refine sk_ (σ := Unit) 8 #[true, true, true, true, false, true, true, true, true, true, false, false, true, true, true, true, true, false, false, false, false, false] (fun s_ => [(27, .int .i64 t262)]) (fun s_ w' => (w'.cell? (ad261.add (x8_1).toNat) = some (.int .i64 (rd l0 x8_1)) ∧ w'.cell? (ad261.add (x8_1).toNat) = some (.int .i64 (rd l0 x8_1))) ∧ (Kd.R k31 31 w' w.heap.size (fun _ => True) (.slice Ao12 x6_1.length co12) x6_1) ∧ (Below w.heap.size w w')) ?_ ?_
              rotate_left
              ·intro hJ9
               refine two_ (i := 4) (j := 9) (Ni := some 22) (Nj := some 27) #[true, true, true, true, true, true, true, true, true, false, false, false, true, true, true, true, true, false, false, false, false, false] #[true, true, true, true, false, true, true, true, true, true, false, false, true, true, true, true, true, false, false, false, false, false] rfl rfl rfl rfl (nl_ HT_.out (by kernel_rfl)) (by decide) (by decide) (fun K hK => ?_) (fun K hK => ?_)
               ·skip
                refine Kd.R_lit_step (Kd.int .i64) _ 3 ?hg (N := 22) ?hd (xs := ([0, 0, 1, 2, 50, 51] : List Int)) (inner := [.int .i64 0, .int .i64 0, .int .i64 1, .int .i64 2, .int .i64 50, .int .i64 51]) (ok := fun _ => True) (okp := fun _ => True) ?hr ?hp (fun _ hk => hk) trivial (Below.refl _ _) (Nat.le_refl _) (by simp) ?_; (case hd => rfl); (case hg => rfl); (case hr => first | (go_simp; done) | (go_simp; rfl)); (case hp => exact (Reps.one (show Kd.M (Kd.int .i64) _ _ _ 0 [.int .i64 0] from rfl) (Reps.one (show Kd.M (Kd.int .i64) _ _ _ 0 [.int .i64 0] from rfl) (Reps.one (show Kd.M (Kd.int .i64) _ _ _ 1 [.int .i64 1] from rfl) (Reps.one (show Kd.M (Kd.int .i64) _ _ _ 2 [.int .i64 2] from rfl) (Reps.one (show Kd.M (Kd.int .i64) _ _ _ 50 [.int .i64 50] from rfl) (Reps.one (show Kd.M (Kd.int .i64) _ _ _ 51 [.int .i64 51] from rfl) (Reps.none _ _))))))))
                intro v259 w14 ho15 hb hg_ hnew_
                clear hg_ hnew_
                (first | rw [← Ny258.out] at ho15 | (simp only [Int.reduceToNat] at ho15; rw [← Ny258.out] at ho15))
                have n0_ := Aside0.mk (Kd.R_below (by (with_reducible repeat (first | apply Kd.R_alloc | apply Kd.R_drewN | apply Kd.R_drew)); exact HO_6.out) hb)
                have n1_ := Aside0.mk (Kd.R_lower ho15 (na_ (by repeat (first | (with_reducible first | exact HB.out | apply ba_ | apply aa_ | apply da_) | exact HB.out))))
                have n2_ := Aside0.mk (ma_ (by repeat (first | (with_reducible first | exact HB.out | apply ba_ | apply aa_ | apply da_) | exact HB.out)) hb)
                clear HO_6
                clear HB
                have HO_6 := n0_
                have HO260 := n1_
                have HB := n2_
                clear n0_ n1_ n2_
                clear hb ho15
                obtain ⟨Ao16, co16, eo16⟩ := Kd.R_slice HO260.out
                subst eo16
                obtain ⟨ado16, fo16, _⟩ := Kd.at_int (Kd.R_reads' HO260.out).2.2 0 (by decide) (by rw [Ny258.out]; simp)
                cases fo16
                refine hK.out _ _ ⟨((HB.out.cell (World.block_lt_of_cell? w _ hw261_0)).trans hw261_0), ((HB.out.cell (World.block_lt_of_cell? w _ hw264_0)).trans hw264_0)⟩ (fun hHeld => ?_)
                clear hK K
                refine ab_ (a' := ?_) ?_ ?_
                rotate_left
                ·show Act.put _ (some 22) _ = _
                 simp only [Act.put, s1_, s2_, s3_, ka_, la_]
                 rfl
                exact ab_ (by first | (simp only [fc_, Act.put, s1_, s2_, s3_]; done) | (simp only [fc_, Act.put, s1_, s2_, s3_]; rfl)) (hJ4 (.slice (some ado16) y258.length co16, ado16) _ ⟨hHeld, (by (with_reducible repeat (first | apply Kd.R_alloc | apply Kd.R_drewN | apply Kd.R_drew)); exact HO260.out), (by (with_reducible repeat (first | apply Kd.R_alloc | apply Kd.R_drewN | apply Kd.R_drew)); exact HO_6.out), ⟨_, rfl⟩, (by repeat (first | (with_reducible first | exact HB.out | apply ba_ | apply aa_ | apply da_) | exact HB.out))⟩)
               skip
               refine id_ Tryz.func8 (by kernel_rfl) rfl #[.int .i64 (rd l0 x8_1), .int .i64 6] (by rfl) rfl rfl (by (try simp only [List.map_toArray, List.map_cons, List.map_nil]); first | done | rfl | (simp only [List.length_drop, List.length_take]; rfl)) ?_
               with_reducible refine (l7_within.calls (rd l0 x8_1) 6 t262 _ A7.out).mono ?_
               rintro e w' ⟨rfl, ⟨nd, rfl⟩⟩
               refine ⟨_, rfl, ?_⟩
               refine hK.out _ _ ⟨((HB.out.cell (World.block_lt_of_cell? w _ hw261_0)).trans hw261_0), ((HB.out.cell (World.block_lt_of_cell? w _ hw264_0)).trans hw264_0)⟩ (fun hHeld => ?_)
               clear hK K
               refine ab_ (a' := ?_) ?_ ?_
               rotate_left
               ·show Act.put _ (some 27) _ = _
                simp only [Act.put, s1_, s2_, s3_, ka_, la_]
                rfl
               exact ab_ (by first | (simp only [fc_, Act.put, s1_, s2_, s3_]; done) | (simp only [fc_, Act.put, s1_, s2_, s3_]; rfl)) (hJ9 () _ ⟨hHeld, (by (with_reducible repeat (first | apply Kd.R_alloc | apply Kd.R_drewN | apply Kd.R_drew)); exact HO_6.out), (by repeat (first | (with_reducible first | exact HB.out | apply ba_ | apply aa_ | apply da_) | exact HB.out))⟩)
              skip
              rintro _ w14 ⟨hS_, h0_, h1_⟩
              have n0_ : Aside0 (Kd.R k31 31 w14 w.heap.size (fun _ => True) (.slice Ao12 x6_1.length co12) x6_1) := ⟨h0_⟩
              have n1_ : Aside0 (Below w.heap.size w w14) := ⟨h1_⟩
              clear HO_6
              clear HB
              clear h0_ h1_
              have HO_6 := n0_
              have HB := n1_
              clear n0_ n1_
              have hHeld : w14.cell? (ad261.add (x8_1).toNat) = some (.int .i64 (rd l0 x8_1)) ∧ w14.cell? (ad261.add (x8_1).toNat) = some (.int .i64 (rd l0 x8_1)) := hS_
              refine ab_ (a' := ?_) ?_ ?_
              rotate_left
              ·simp only [fc_, Act.put, s1_, s2_, s3_]
               rfl
              refine two_ (i := 4) (j := 17) (Ni := some 22) (Nj := some 35) #[true, true, true, true, true, true, true, true, true, true, false, false, true, true, true, true, true, false, false, false, false, false] #[true, true, true, true, false, true, true, true, true, true, false, false, true, true, true, true, true, true, false, false, false, false] rfl rfl rfl rfl (nl_ HT_.out (by kernel_rfl)) (by decide) (by decide) (fun K hK => ?_) (fun K hK => ?_)
              ·skip
               refine Kd.R_lit_step (Kd.int .i64) _ 3 ?hg (N := 22) ?hd (xs := ([0, 0, 1, 2, 50, 51] : List Int)) (inner := [.int .i64 0, .int .i64 0, .int .i64 1, .int .i64 2, .int .i64 50, .int .i64 51]) (ok := fun _ => True) (okp := fun _ => True) ?hr ?hp (fun _ hk => hk) trivial (Below.refl _ _) (Nat.le_refl _) (by simp) ?_; (case hd => rfl); (case hg => rfl); (case hr => first | (go_simp; done) | (go_simp; rfl)); (case hp => exact (Reps.one (show Kd.M (Kd.int .i64) _ _ _ 0 [.int .i64 0] from rfl) (Reps.one (show Kd.M (Kd.int .i64) _ _ _ 0 [.int .i64 0] from rfl) (Reps.one (show Kd.M (Kd.int .i64) _ _ _ 1 [.int .i64 1] from rfl) (Reps.one (show Kd.M (Kd.int .i64) _ _ _ 2 [.int .i64 2] from rfl) (Reps.one (show Kd.M (Kd.int .i64) _ _ _ 50 [.int .i64 50] from rfl) (Reps.one (show Kd.M (Kd.int .i64) _ _ _ 51 [.int .i64 51] from rfl) (Reps.none _ _))))))))
               intro v259 w15 ho16 hb hg_ hnew_
               clear hg_ hnew_
               (first | rw [← Ny258.out] at ho16 | (simp only [Int.reduceToNat] at ho16; rw [← Ny258.out] at ho16))
               have n0_ := Aside0.mk (Kd.R_below (by (with_reducible repeat (first | apply Kd.R_alloc | apply Kd.R_drewN | apply Kd.R_drew)); exact HO_6.out) hb)
               have n1_ := Aside0.mk (Kd.R_lower ho16 (na_ (by repeat (first | (with_reducible first | exact HB.out | apply ba_ | apply aa_ | apply da_) | exact HB.out))))
               have n2_ := Aside0.mk (ma_ (by repeat (first | (with_reducible first | exact HB.out | apply ba_ | apply aa_ | apply da_) | exact HB.out)) hb)
               clear HO_6
               clear HB
               have HO_6 := n0_
               have HO260 := n1_
               have HB := n2_
               clear n0_ n1_ n2_
               clear hb ho16
               obtain ⟨Ao17, co17, eo17⟩ := Kd.R_slice HO260.out
               subst eo17
               obtain ⟨ado17, fo17, _⟩ := Kd.at_int (Kd.R_reads' HO260.out).2.2 0 (by decide) (by rw [Ny258.out]; simp)
               cases fo17
               refine hK.out _ _ ⟨((HB.out.cell (World.block_lt_of_cell? w _ hw261_0)).trans hw261_0), ((HB.out.cell (World.block_lt_of_cell? w _ hw264_0)).trans hw264_0)⟩ (fun hHeld => ?_)
               clear hK K
               refine ab_ (a' := ?_) ?_ ?_
               rotate_left
               ·show Act.put _ (some 22) _ = _
                simp only [Act.put, s1_, s2_, s3_, ka_, la_]
                rfl
               refine oa_ (i := 10) (N := some 28) (v := ?_) (a' := ?_) #[true, true, true, true, true, true, true, true, true, true, true, false, true, true, true, true, true, false, false, false, false, false] rfl rfl (jb_ HT_.out (by kernel_rfl)) (fun _ _ _ h => h) (Or.inl ⟨by rfl, ?_⟩) ?_ ?_
               rotate_left
               ·intro w'
                go_simp
                with_reducible rfl
               rotate_left
               ·simp only [Act.put, s1_, s2_, s3_, ka_, la_]
                rfl
               exact ab_ (by first | (simp only [fc_, Act.put, s1_, s2_, s3_]; done) | (simp only [fc_, Act.put, s1_, s2_, s3_]; rfl)) (hJ4_9 (.slice (some ado17) y258.length co17, ado17) _ ⟨hHeld, (by (with_reducible repeat (first | apply Kd.R_alloc | apply Kd.R_drewN | apply Kd.R_drew)); exact HO260.out), (by (with_reducible repeat (first | apply Kd.R_alloc | apply Kd.R_drewN | apply Kd.R_drew)); exact HO_6.out), ⟨_, rfl⟩, (by repeat (first | (with_reducible first | exact HB.out | apply ba_ | apply aa_ | apply da_) | exact HB.out))⟩)
              skip
              refine id_ Tryz.func8 (by kernel_rfl) rfl #[.int .i64 (wrap64 (Int.tdiv (rd l0 x8_1) 6)), .int .i64 20] (by rfl) rfl rfl (by (try simp only [List.map_toArray, List.map_cons, List.map_nil]); first | done | rfl | (simp only [List.length_drop, List.length_take]; rfl)) ?_
              with_reducible refine (l7_within.calls (wrap64 (Int.tdiv (rd l0 x8_1) 6)) 20 t265 _ A10.out).mono ?_
              rintro e w' ⟨rfl, ⟨nd, rfl⟩⟩
              refine ⟨_, rfl, ?_⟩
              refine hK.out _ _ ⟨((HB.out.cell (World.block_lt_of_cell? w _ hw261_0)).trans hw261_0), ((HB.out.cell (World.block_lt_of_cell? w _ hw264_0)).trans hw264_0)⟩ (fun hHeld => ?_)
              clear hK K
              refine ab_ (a' := ?_) ?_ ?_
              rotate_left
              ·show Act.put _ (some 35) _ = _
               simp only [Act.put, s1_, s2_, s3_, ka_, la_]
               rfl
              exact ab_ (by first | (simp only [fc_, Act.put, s1_, s2_, s3_]; done) | (simp only [fc_, Act.put, s1_, s2_, s3_]; rfl)) (hJ9_17 () _ ⟨hHeld, (by (with_reducible repeat (first | apply Kd.R_alloc | apply Kd.R_drewN | apply Kd.R_drew)); exact HO_6.out), (by repeat (first | (with_reducible first | exact HB.out | apply ba_ | apply aa_ | apply da_) | exact HB.out))⟩)
             skip
             rintro ⟨v259, adz_v259⟩ w17 ⟨hS_, h0_, h1_, h2_, h3_⟩
             have n0_ : Aside0 (Kd.R (Kd.int .i64) 3 w17 w.heap.size (fun _ => True) v259 y258) := ⟨h0_⟩
             have n1_ : Aside0 (Kd.R k31 31 w17 w.heap.size (fun _ => True) (.slice Ao12 x6_1.length co12) x6_1) := ⟨h1_⟩
             have n2_ : Aside0 (∃ c_, (v259 : Value) = .slice (some adz_v259) y258.length c_) := ⟨h2_⟩
             have n3_ : Aside0 (Below w.heap.size w w17) := ⟨h3_⟩
             clear HO_6
             clear HB
             clear h0_ h1_ h2_ h3_
             have HO260 := n0_
             have HO_6 := n1_
             have HA_HO260 := n2_
             have HB := n3_
             clear n0_ n1_ n2_ n3_
             have hHeld : w17.cell? (ad261.add (x8_1).toNat) = some (.int .i64 (rd l0 x8_1)) ∧ w17.cell? (ad261.add (x8_1).toNat) = some (.int .i64 (rd l0 x8_1)) := hS_
             obtain ⟨co18, eo18⟩ := HA_HO260.out
             clear HA_HO260
             subst eo18
             refine ab_ (a' := ?_) ?_ ?_
             rotate_left
             ·simp only [fc_, Act.put, s1_, s2_, s3_]
              rfl
             refine one_ (i := 9) (N := some 27) #[true, true, true, true, true, true, true, true, true, true, false, false, true, true, true, true, true, false, false, false, false, false] rfl rfl (lc_ HT_.out (by kernel_rfl)) (by decide) (fun K hK => ?_)
             refine id_ Tryz.func8 (by kernel_rfl) rfl #[.int .i64 (rd l0 x8_1), .int .i64 6] (by rfl) rfl rfl (by (try simp only [List.map_toArray, List.map_cons, List.map_nil]); first | done | rfl | (simp only [List.length_drop, List.length_take]; rfl)) ?_
             with_reducible refine (l7_within.calls (rd l0 x8_1) 6 t262 _ A7.out).mono ?_
             rintro e w' ⟨rfl, ⟨nd, rfl⟩⟩
             refine ⟨_, rfl, ?_⟩
             refine hK.out _ _ ⟨((HB.out.cell (World.block_lt_of_cell? w _ hw261_0)).trans hw261_0), ((HB.out.cell (World.block_lt_of_cell? w _ hw264_0)).trans hw264_0)⟩ (fun hHeld => ?_)
             clear hK K
             refine ab_ (a' := ?_) ?_ ?_
             rotate_left
             ·show Act.put _ (some 27) _ = _
              simp only [Act.put, s1_, s2_, s3_, ka_, la_]
              rfl
             refine oa_ (i := 10) (N := some 28) (v := ?_) (a' := ?_) #[true, true, true, true, true, true, true, true, true, true, true, false, true, true, true, true, true, false, false, false, false, false] rfl rfl (jb_ HT_.out (by kernel_rfl)) (fun _ _ _ h => h) (Or.inl ⟨by rfl, ?_⟩) ?_ ?_
             rotate_left
             ·intro w'
              go_simp
              with_reducible rfl
             rotate_left
             ·simp only [Act.put, s1_, s2_, s3_, ka_, la_]
              rfl
             exact ab_ (by first | (simp only [fc_, Act.put, s1_, s2_, s3_]; done) | (simp only [fc_, Act.put, s1_, s2_, s3_]; rfl)) (hJ4_9 (.slice (some adz_v259) y258.length co18, adz_v259) _ ⟨hHeld, (by (with_reducible repeat (first | apply Kd.R_alloc | apply Kd.R_drewN | apply Kd.R_drew)); exact HO260.out), (by (with_reducible repeat (first | apply Kd.R_alloc | apply Kd.R_drewN | apply Kd.R_drew)); exact HO_6.out), ⟨_, rfl⟩, (by repeat (first | (with_reducible first | exact HB.out | apply ba_ | apply aa_ | apply da_) | exact HB.out))⟩)
            skip
            rintro _ w14 ⟨hS_, h0_, h1_⟩
            have n0_ : Aside0 (Kd.R k31 31 w14 w.heap.size (fun _ => True) (.slice Ao12 x6_1.length co12) x6_1) := ⟨h0_⟩
            have n1_ : Aside0 (Below w.heap.size w w14) := ⟨h1_⟩
            clear HO_6
            clear HB
            clear h0_ h1_
            have HO_6 := n0_
            have HB := n1_
            clear n0_ n1_
            have hHeld : w14.cell? (ad261.add (x8_1).toNat) = some (.int .i64 (rd l0 x8_1)) ∧ w14.cell? (ad261.add (x8_1).toNat) = some (.int .i64 (rd l0 x8_1)) := hS_
            refine ab_ (a' := ?_) ?_ ?_
            rotate_left
            ·simp only [fc_, Act.put, s1_, s2_, s3_]
             rfl
            refine one_ (i := 4) (N := some 22) #[true, true, true, true, true, true, true, true, true, true, false, false, true, true, true, true, true, true, false, false, false, false] rfl rfl (lc_ HT_.out (by kernel_rfl)) (by decide) (fun K hK => ?_)
            refine Kd.R_lit_step (Kd.int .i64) _ 3 ?hg (N := 22) ?hd (xs := ([0, 0, 1, 2, 50, 51] : List Int)) (inner := [.int .i64 0, .int .i64 0, .int .i64 1, .int .i64 2, .int .i64 50, .int .i64 51]) (ok := fun _ => True) (okp := fun _ => True) ?hr ?hp (fun _ hk => hk) trivial (Below.refl _ _) (Nat.le_refl _) (by simp) ?_; (case hd => rfl); (case hg => rfl); (case hr => first | (go_simp; done) | (go_simp; rfl)); (case hp => exact (Reps.one (show Kd.M (Kd.int .i64) _ _ _ 0 [.int .i64 0] from rfl) (Reps.one (show Kd.M (Kd.int .i64) _ _ _ 0 [.int .i64 0] from rfl) (Reps.one (show Kd.M (Kd.int .i64) _ _ _ 1 [.int .i64 1] from rfl) (Reps.one (show Kd.M (Kd.int .i64) _ _ _ 2 [.int .i64 2] from rfl) (Reps.one (show Kd.M (Kd.int .i64) _ _ _ 50 [.int .i64 50] from rfl) (Reps.one (show Kd.M (Kd.int .i64) _ _ _ 51 [.int .i64 51] from rfl) (Reps.none _ _))))))))
            intro v259 w15 ho16 hb hg_ hnew_
            clear hg_ hnew_
            (first | rw [← Ny258.out] at ho16 | (simp only [Int.reduceToNat] at ho16; rw [← Ny258.out] at ho16))
            have n0_ := Aside0.mk (Kd.R_below (by (with_reducible repeat (first | apply Kd.R_alloc | apply Kd.R_drewN | apply Kd.R_drew)); exact HO_6.out) hb)
            have n1_ := Aside0.mk (Kd.R_lower ho16 (na_ (by repeat (first | (with_reducible first | exact HB.out | apply ba_ | apply aa_ | apply da_) | exact HB.out))))
            have n2_ := Aside0.mk (ma_ (by repeat (first | (with_reducible first | exact HB.out | apply ba_ | apply aa_ | apply da_) | exact HB.out)) hb)
            clear HO_6
            clear HB
            have HO_6 := n0_
            have HO260 := n1_
            have HB := n2_
            clear n0_ n1_ n2_
            clear hb ho16
            obtain ⟨Ao17, co17, eo17⟩ := Kd.R_slice HO260.out
            subst eo17
            obtain ⟨ado17, fo17, _⟩ := Kd.at_int (Kd.R_reads' HO260.out).2.2 0 (by decide) (by rw [Ny258.out]; simp)
            cases fo17
            refine hK.out _ _ ⟨((HB.out.cell (World.block_lt_of_cell? w _ hw261_0)).trans hw261_0), ((HB.out.cell (World.block_lt_of_cell? w _ hw264_0)).trans hw264_0)⟩ (fun hHeld => ?_)
            clear hK K
            refine ab_ (a' := ?_) ?_ ?_
            rotate_left
            ·show Act.put _ (some 22) _ = _
             simp only [Act.put, s1_, s2_, s3_, ka_, la_]
             rfl
            refine oa_ (i := 10) (N := some 28) (v := ?_) (a' := ?_) #[true, true, true, true, true, true, true, true, true, true, true, false, true, true, true, true, true, true, false, false, false, false] rfl rfl (jb_ HT_.out (by kernel_rfl)) (fun _ _ _ h => h) (Or.inl ⟨by rfl, ?_⟩) ?_ ?_
            rotate_left
            ·intro w'
             go_simp
             with_reducible rfl
            rotate_left
            ·simp only [Act.put, s1_, s2_, s3_, ka_, la_]
             rfl
            exact ab_ (by first | (simp only [fc_, Act.put, s1_, s2_, s3_]; done) | (simp only [fc_, Act.put, s1_, s2_, s3_]; rfl)) (hJ4_9_17 (.slice (some ado17) y258.length co17, ado17) _ ⟨hHeld, (by (with_reducible repeat (first | apply Kd.R_alloc | apply Kd.R_drewN | apply Kd.R_drew)); exact HO260.out), (by (with_reducible repeat (first | apply Kd.R_alloc | apply Kd.R_drewN | apply Kd.R_drew)); exact HO_6.out), ⟨_, rfl⟩, (by repeat (first | (with_reducible first | exact HB.out | apply ba_ | apply aa_ | apply da_) | exact HB.out))⟩)
           skip
           rintro ⟨v259, adz_v259⟩ w17 ⟨hS_, h0_, h1_, h2_, h3_⟩
           have n0_ : Aside0 (Kd.R (Kd.int .i64) 3 w17 w.heap.size (fun _ => True) v259 y258) := ⟨h0_⟩
           have n1_ : Aside0 (Kd.R k31 31 w17 w.heap.size (fun _ => True) (.slice Ao12 x6_1.length co12) x6_1) := ⟨h1_⟩
           have n2_ : Aside0 (∃ c_, (v259 : Value) = .slice (some adz_v259) y258.length c_) := ⟨h2_⟩
           have n3_ : Aside0 (Below w.heap.size w w17) := ⟨h3_⟩
           clear HO_6
           clear HB
           clear h0_ h1_ h2_ h3_
           have HO260 := n0_
           have HO_6 := n1_
           have HA_HO260 := n2_
           have HB := n3_
           clear n0_ n1_ n2_ n3_
           have hHeld : w17.cell? (ad261.add (x8_1).toNat) = some (.int .i64 (rd l0 x8_1)) ∧ w17.cell? (ad261.add (x8_1).toNat) = some (.int .i64 (rd l0 x8_1)) := hS_
           obtain ⟨co18, eo18⟩ := HA_HO260.out
           clear HA_HO260
           subst eo18
           refine ab_ (a' := ?_) ?_ ?_
           rotate_left
           ·simp only [fc_, Act.put, s1_, s2_, s3_]
            rfl
           refine two_ (i := 11) (j := 17) (Ni := some 29) (Nj := some 35) (f_ 22 17) #[true, true, true, true, true, true, true, true, true, true, true, false, true, true, true, true, true, true, false, false, false, false] rfl rfl rfl rfl (nl_ HT_.out (by kernel_rfl)) (by decide) (by decide) (fun K hK => ?_) (fun K hK => ?_)
           ·skip
            (have p263 : 0 ≤ (t262 : Int) := of_decide_eq_true (by first | (with_reducible assumption) | assumption); have q263 : t262 < (y258.length : Int) := of_decide_eq_true (by first | (with_reducible assumption) | assumption); obtain ⟨ad263, e263, hx263_0⟩ := Kd.at_int (Kd.R_reads' HO260.out).2.2 t262 p263 q263; obtain rfl : adz_v259 = ad263 := (by injection e263))
            refine re_ (w1 := ?_) (v := ?_) (by rfl) rfl ?_ ?_
            rotate_left 2
            ·go_simp
             constructor
             ·rfl
             rfl
            clear hx263_0
            refine hK.out _ _ ⟨((HB.out.cell (World.block_lt_of_cell? w _ hw261_0)).trans hw261_0), ((HB.out.cell (World.block_lt_of_cell? w _ hw264_0)).trans hw264_0)⟩ (fun hHeld => ?_)
            clear hK K
            refine ab_ (a' := ?_) ?_ ?_
            rotate_left
            ·show Act.put _ (some 29) _ = _
             simp only [Act.put, s1_, s2_, s3_, ka_, la_]
             rfl
            exact ab_ (by first | (simp only [fc_, Act.put, s1_, s2_, s3_]; done) | (simp only [fc_, Act.put, s1_, s2_, s3_]; rfl)) (hJ4_9_11 (.slice (some adz_v259) y258.length co18, adz_v259) _ ⟨hHeld, (by (with_reducible repeat (first | apply Kd.R_alloc | apply Kd.R_drewN | apply Kd.R_drew)); exact HO260.out), (by (with_reducible repeat (first | apply Kd.R_alloc | apply Kd.R_drewN | apply Kd.R_drew)); exact HO_6.out), ⟨_, rfl⟩, (by repeat (first | (with_reducible first | exact HB.out | apply ba_ | apply aa_ | apply da_) | exact HB.out))⟩)
           skip
           refine id_ Tryz.func8 (by kernel_rfl) rfl #[.int .i64 (wrap64 (Int.tdiv (rd l0 x8_1) 6)), .int .i64 20] (by rfl) rfl rfl (by (try simp only [List.map_toArray, List.map_cons, List.map_nil]); first | done | rfl | (simp only [List.length_drop, List.length_take]; rfl)) ?_
           with_reducible refine (l7_within.calls (wrap64 (Int.tdiv (rd l0 x8_1) 6)) 20 t265 _ A10.out).mono ?_
           rintro e w' ⟨rfl, ⟨nd, rfl⟩⟩
           refine ⟨_, rfl, ?_⟩
           refine hK.out _ _ ⟨((HB.out.cell (World.block_lt_of_cell? w _ hw261_0)).trans hw261_0), ((HB.out.cell (World.block_lt_of_cell? w _ hw264_0)).trans hw264_0)⟩ (fun hHeld => ?_)
           clear hK K
           refine ab_ (a' := ?_) ?_ ?_
           rotate_left
           ·show Act.put _ (some 35) _ = _
            simp only [Act.put, s1_, s2_, s3_, ka_, la_]
            rfl
           exact ab_ (by first | (simp only [fc_, Act.put, s1_, s2_, s3_]; done) | (simp only [fc_, Act.put, s1_, s2_, s3_]; rfl)) (hJ4_9_17 (.slice (some adz_v259) y258.length co18, adz_v259) _ ⟨hHeld, (by (with_reducible repeat (first | apply Kd.R_alloc | apply Kd.R_drewN | apply Kd.R_drew)); exact HO260.out), (by (with_reducible repeat (first | apply Kd.R_alloc | apply Kd.R_drewN | apply Kd.R_drew)); exact HO_6.out), ⟨_, rfl⟩, (by repeat (first | (with_reducible first | exact HB.out | apply ba_ | apply aa_ | apply da_) | exact HB.out))⟩)
          skip
          rintro ⟨v259, adz_v259⟩ w17 ⟨hS_, h0_, h1_, h2_, h3_⟩
          have n0_ : Aside0 (Kd.R (Kd.int .i64) 3 w17 w.heap.size (fun _ => True) v259 y258) := ⟨h0_⟩
          have n1_ : Aside0 (Kd.R k31 31 w17 w.heap.size (fun _ => True) (.slice Ao12 x6_1.length co12) x6_1) := ⟨h1_⟩
          have n2_ : Aside0 (∃ c_, (v259 : Value) = .slice (some adz_v259) y258.length c_) := ⟨h2_⟩
          have n3_ : Aside0 (Below w.heap.size w w17) := ⟨h3_⟩
          clear HO_6
          clear HB
          clear h0_ h1_ h2_ h3_
          have HO260 := n0_
          have HO_6 := n1_
          have HA_HO260 := n2_
          have HB := n3_
          clear n0_ n1_ n2_ n3_
          have hHeld : w17.cell? (ad261.add (x8_1).toNat) = some (.int .i64 (rd l0 x8_1)) ∧ w17.cell? (ad261.add (x8_1).toNat) = some (.int .i64 (rd l0 x8_1)) := hS_
          obtain ⟨co18, eo18⟩ := HA_HO260.out
          clear HA_HO260
          subst eo18
          refine ab_ (a' := ?_) ?_ ?_
          rotate_left
          ·simp only [fc_, Act.put, s1_, s2_, s3_]
           rfl
          refine one_ (i := 11) (N := some 29) (f_ 22 18) rfl rfl (lc_ HT_.out (by kernel_rfl)) (by decide) (fun K hK => ?_)
          (have p263 : 0 ≤ (t262 : Int) := of_decide_eq_true (by first | (with_reducible assumption) | assumption); have q263 : t262 < (y258.length : Int) := of_decide_eq_true (by first | (with_reducible assumption) | assumption); obtain ⟨ad263, e263, hx263_0⟩ := Kd.at_int (Kd.R_reads' HO260.out).2.2 t262 p263 q263; obtain rfl : adz_v259 = ad263 := (by injection e263))
          refine re_ (w1 := ?_) (v := ?_) (by rfl) rfl ?_ ?_
          rotate_left 2
          ·go_simp
           constructor
           ·rfl
           rfl
          clear hx263_0
          refine hK.out _ _ ⟨((HB.out.cell (World.block_lt_of_cell? w _ hw261_0)).trans hw261_0), ((HB.out.cell (World.block_lt_of_cell? w _ hw264_0)).trans hw264_0)⟩ (fun hHeld => ?_)
          clear hK K
          refine ab_ (a' := ?_) ?_ ?_
          rotate_left
          ·show Act.put _ (some 29) _ = _
           simp only [Act.put, s1_, s2_, s3_, ka_, la_]
           rfl
          exact ab_ (by first | (simp only [fc_, Act.put, s1_, s2_, s3_]; done) | (simp only [fc_, Act.put, s1_, s2_, s3_]; rfl)) (hJ4_9_11_17 (.slice (some adz_v259) y258.length co18, adz_v259) _ ⟨hHeld, (by (with_reducible repeat (first | apply Kd.R_alloc | apply Kd.R_drewN | apply Kd.R_drew)); exact HO260.out), (by (with_reducible repeat (first | apply Kd.R_alloc | apply Kd.R_drewN | apply Kd.R_drew)); exact HO_6.out), ⟨_, rfl⟩, (by repeat (first | (with_reducible first | exact HB.out | apply ba_ | apply aa_ | apply da_) | exact HB.out))⟩)
         skip
         rintro ⟨v259, adz_v259⟩ w17 ⟨hS_, h0_, h1_, h2_, h3_⟩
         have n0_ : Aside0 (Kd.R (Kd.int .i64) 3 w17 w.heap.size (fun _ => True) v259 y258) := ⟨h0_⟩
         have n1_ : Aside0 (Kd.R k31 31 w17 w.heap.size (fun _ => True) (.slice Ao12 x6_1.length co12) x6_1) := ⟨h1_⟩
         have n2_ : Aside0 (∃ c_, (v259 : Value) = .slice (some adz_v259) y258.length c_) := ⟨h2_⟩
         have n3_ : Aside0 (Below w.heap.size w w17) := ⟨h3_⟩
         clear HO_6
         clear HB
         clear h0_ h1_ h2_ h3_
         have HO260 := n0_
         have HO_6 := n1_
         have HA_HO260 := n2_
         have HB := n3_
         clear n0_ n1_ n2_ n3_
         have hHeld : w17.cell? (ad261.add (x8_1).toNat) = some (.int .i64 (rd l0 x8_1)) ∧ w17.cell? (ad261.add (x8_1).toNat) = some (.int .i64 (rd l0 x8_1)) := hS_
         obtain ⟨co18, eo18⟩ := HA_HO260.out
         clear HA_HO260
         subst eo18
         refine ab_ (a' := ?_) ?_ ?_
         rotate_left
         ·simp only [fc_, Act.put, s1_, s2_, s3_]
          rfl
         refine one_ (i := 17) (N := some 35) (f_ 22 18) rfl rfl (lc_ HT_.out (by kernel_rfl)) (by decide) (fun K hK => ?_)
         refine id_ Tryz.func8 (by kernel_rfl) rfl #[.int .i64 (wrap64 (Int.tdiv (rd l0 x8_1) 6)), .int .i64 20] (by rfl) rfl rfl (by (try simp only [List.map_toArray, List.map_cons, List.map_nil]); first | done | rfl | (simp only [List.length_drop, List.length_take]; rfl)) ?_
         with_reducible refine (l7_within.calls (wrap64 (Int.tdiv (rd l0 x8_1) 6)) 20 t265 _ A10.out).mono ?_
         rintro e w' ⟨rfl, ⟨nd, rfl⟩⟩
         refine ⟨_, rfl, ?_⟩
         refine hK.out _ _ ⟨((HB.out.cell (World.block_lt_of_cell? w _ hw261_0)).trans hw261_0), ((HB.out.cell (World.block_lt_of_cell? w _ hw264_0)).trans hw264_0)⟩ (fun hHeld => ?_)
         clear hK K
         refine ab_ (a' := ?_) ?_ ?_
         rotate_left
         ·show Act.put _ (some 35) _ = _
          simp only [Act.put, s1_, s2_, s3_, ka_, la_]
          rfl
         exact ab_ (by first | (simp only [fc_, Act.put, s1_, s2_, s3_]; done) | (simp only [fc_, Act.put, s1_, s2_, s3_]; rfl)) (hJ4_9_11_17 (.slice (some adz_v259) y258.length co18, adz_v259) _ ⟨hHeld, (by (with_reducible repeat (first | apply Kd.R_alloc | apply Kd.R_drewN | apply Kd.R_drew)); exact HO260.out), (by (with_reducible repeat (first | apply Kd.R_alloc | apply Kd.R_drewN | apply Kd.R_drew)); exact HO_6.out), ⟨_, rfl⟩, (by repeat (first | (with_reducible first | exact HB.out | apply ba_ | apply aa_ | apply da_) | exact HB.out))⟩)
        rintro ⟨v259, adz_v259⟩ w17 ⟨hS_, h0_, h1_, h2_, h3_⟩
        have n0_ : Aside0 (Kd.R (Kd.int .i64) 3 w17 w.heap.size (fun _ => True) v259 y258) := ⟨h0_⟩
        have n1_ : Aside0 (Kd.R k31 31 w17 w.heap.size (fun _ => True) (.slice Ao12 x6_1.length co12) x6_1) := ⟨h1_⟩
        have n2_ : Aside0 (∃ c_, (v259 : Value) = .slice (some adz_v259) y258.length c_) := ⟨h2_⟩
        have n3_ : Aside0 (Below w.heap.size w w17) := ⟨h3_⟩
        clear HO_6
        clear HB
        clear h0_ h1_ h2_ h3_
        have HO260 := n0_
        have HO_6 := n1_
        have HA_HO260 := n2_
        have HB := n3_
        clear n0_ n1_ n2_ n3_
        have hHeld : w17.cell? (ad261.add (x8_1).toNat) = some (.int .i64 (rd l0 x8_1)) ∧ w17.cell? (ad261.add (x8_1).toNat) = some (.int .i64 (rd l0 x8_1)) := hS_
        obtain ⟨co18, eo18⟩ := HA_HO260.out
        clear HA_HO260
        subst eo18
        refine ab_ (a' := ?_) ?_ ?_
        rotate_left
        ·simp only [fc_, Act.put, s1_, s2_, s3_]
         rfl
        refine oa_ (i := 18) (N := some 36) (v := ?_) (a' := ?_) (f_ 22 19) rfl rfl (jb_ HT_.out (by kernel_rfl)) (fun _ _ _ h => h) (Or.inl ⟨by rfl, ?_⟩) ?_ ?_
        rotate_left
        ·intro w'
         go_simp
         with_reducible rfl
        rotate_left
        ·simp only [Act.put, s1_, s2_, s3_, ka_, la_]
         rfl
        refine one_ (i := 19) (N := some 37) (f_ 22 20) rfl rfl (lc_ HT_.out (by kernel_rfl)) (by decide) (fun K hK => ?_)
        refine re_ (w1 := ?_) (v := ?_) (by rfl) rfl ?_ ?_
        rotate_left 2
        ·go_simp
         constructor
         ·rfl
         rfl
        refine hK.out _ _ ⟨(World.cell?_alloc_lt _ _ _ (World.block_lt_of_cell? _ _ (((HB.out.cell (World.block_lt_of_cell? w _ hw261_0)).trans hw261_0)))).trans (((HB.out.cell (World.block_lt_of_cell? w _ hw261_0)).trans hw261_0)), (World.cell?_alloc_lt _ _ _ (World.block_lt_of_cell? _ _ (((HB.out.cell (World.block_lt_of_cell? w _ hw264_0)).trans hw264_0)))).trans (((HB.out.cell (World.block_lt_of_cell? w _ hw264_0)).trans hw264_0))⟩ (fun hHeld => ?_)
        clear hK K
        refine ab_ (a' := ?_) ?_ ?_
        rotate_left
        ·show Act.put _ (some 37) _ = _
         simp only [Act.put, s1_, s2_, s3_, ka_, la_]
         rfl
        refine one_ (i := 20) (N := some 38) (f_ 22 21) rfl rfl (lc_ HT_.out (by kernel_rfl)) (by decide) (fun K hK => ?_)
        refine Kd.R_append_step k31 (w0 := w) w.heap.size (by rfl) (.tmp 18) (.tmp 37) 29 31 (.agg #[(.int .i64 0), (.int .i64 0), (.int .i64 0), (.int .i64 0), (.int .i64 0)]) 40 rfl Tryz.underlying29 info31 rfl (by decide) (by omega) (.slice Ao12 x6_1.length co12) x6_1 (⟨x8_1, wrap64 (x8_1 + 1), rd y258 t262, t265, 1⟩ : S31) [.int .i64 x8_1, .int .i64 (wrap64 (x8_1 + 1)), .int .i64 (rd y258 t262), .int .i64 t265, .int .i64 1] (fun _ => True) (fun _ => False) rfl rfl ?aP (fun _ hk => hk.elim) ?aF ?aO ?aB ?aS ?aL ?_
        (case aP => exact vd_ _ _ _ (⟨x8_1, wrap64 (x8_1 + 1), rd y258 t262, t265, 1⟩ : S31))
        (case aB => exact (by repeat (first | (with_reducible first | exact HB.out | apply ba_ | apply aa_ | apply da_) | exact HB.out)))
        (case aF => exact (fun _ _ => trivial))
        (case aO => exact (by (with_reducible repeat (first | apply Kd.R_alloc | apply Kd.R_drewN | apply Kd.R_drew)); exact HO_6.out))
        (case aS => exact (na_ (by repeat (first | (with_reducible first | exact HB.out | apply ba_ | apply aa_ | apply da_) | exact HB.out))))
        (case aL => have := LMc11.out; omega)
        intro v267 w19 ho hb hg hat
        rw [← Ny266.out] at ho
        have n0_ := Aside0.mk (Kd.R_over' (by (with_reducible repeat (first | apply Kd.R_alloc | apply Kd.R_drewN | apply Kd.R_drew)); exact HO260.out) (Kd.R_typed (by (with_reducible repeat (first | apply Kd.R_alloc | apply Kd.R_drewN | apply Kd.R_drew)); exact HO_6.out)) (by decide) hg)
        have n1_ := Aside0.mk (hb)
        have n2_ := Aside0.mk (ho)
        clear HO260
        clear HB
        clear HO_6
        have HO260 := n0_
        have HB := n1_
        have HO268 := n2_
        clear n0_ n1_ n2_
        clear ho hb hg hat
        refine hK.out _ _ ⟨((HB.out.cell (World.block_lt_of_cell? w _ hw261_0)).trans hw261_0), ((HB.out.cell (World.block_lt_of_cell? w _ hw264_0)).trans hw264_0)⟩ (fun hHeld => ?_)
        clear hK K
        refine ab_ (a' := ?_) ?_ ?_
        rotate_left
        ·show Act.put _ (some 38) _ = _
         simp only [Act.put, s1_, s2_, s3_, ka_, la_]
         rfl
        refine oa_ (i := 21) (N := some 6) (v := ?_) (a' := ?_) (f_ 22 22) rfl rfl (jb_ HT_.out (by kernel_rfl)) (fun _ _ _ h => h) (Or.inl ⟨by rfl, ?_⟩) ?_ ?_
        rotate_left
        ·intro w'
         go_simp
         with_reducible rfl
        rotate_left
        ·simp only [Act.put, s1_, s2_, s3_, ka_, la_]
         rfl
        refine ie_ (vh_ HT_.out (by kernel_rfl)) ?_
        try go_wp2
        go_roundg k1
        case measure => have := HK1.out; omega
        case rel => exact ⟨(y266), (wrap64 (x8_1 + 1)), (by first | rfl | (simp; done) | (simp [*]; done)), H', ⟨by have := HK1.out; omega⟩, ⟨by (with_reducible repeat (first | apply Kd.R_alloc | apply Kd.R_drewN | apply Kd.R_drew)); exact HO268.out⟩, ⟨by repeat (first | (with_reducible first | exact HB.out | apply ba_ | apply aa_ | apply da_) | exact HB.out)⟩⟩
       rw [if_neg c11] at H
       exact absurd H (by simp)
      rw [if_neg c9] at H
      exact absurd H (by simp)
     rw [if_neg c8] at H
     exact absurd H (by simp)
    rw [if_neg c6] at H
    exact absurd H (by simp)
   rw [if_neg c5] at H
   exact absurd H (by simp)
  rw [if_neg c4] at H
  have c4b0 : decide (x8_1 < ji3) = false := decide_eq_false c4
  clear c4
  simp only [Option.some.injEq, Prod.mk.injEq] at H
  obtain ⟨rfl, rfl⟩ := H
  go_wp2
  go_ret2
  exact ⟨_, by first | rfl | (simp [wa_, va_] <;> rfl) | (simp only [← hji3]; first | rfl | (simp [wa_, va_] <;> rfl)) | (simp [*, wa_, va_] <;> rfl), by (with_reducible repeat (first | apply Kd.R_alloc | apply Kd.R_drewN | apply Kd.R_drew)); exact HO_6.out, by repeat (first | (with_reducible first | exact HB.out | apply ba_ | apply aa_ | apply da_) | exact HB.out)⟩
noncomputable def interlocutorref6_Same.l0 : Nat → List (S31) → List (S31) → Int → Option (Bool)
 | 0, _, _, _ => none
 | k + 1, x0, x1, x5 => if x5 < (x0.length : Int) then (if 0 ≤ x5 then (if x5 < (x1.length : Int) then (if (!(((ra_ x0 x5).f0) == ((ra_ x1 x5).f0)) || (!(((ra_ x0 x5).f1) == ((ra_ x1 x5).f1)) || (!(((ra_ x0 x5).f2) == ((ra_ x1 x5).f2)) || (!(((ra_ x0 x5).f3) == ((ra_ x1 x5).f3)) || (!(((ra_ x0 x5).f4) == ((ra_ x1 x5).f4))))))) = true then (some false) else (interlocutorref6_Same.l0 k x0 x1 (wrap64 (x5 + 1)))) else (none)) else (none)) else (some true)
noncomputable def interlocutorref6_Same.f (k : Nat) (l0 : List (S31)) (l1 : List (S31)) : Option (Bool) := if (l0.length : Int) = (l1.length : Int) then (interlocutorref6_Same.l0 k l0 l1 0) else (some false)
set_option maxHeartbeats 8000000 in
set_option maxRecDepth 100000 in
theorem interlocutorref6_Same.calls (k : Nat) (A0 : Option Addr) (c0 : Nat) (l0 : List (S31)) (A1 : Option Addr) (c1 : Nat) (l1 : List (S31)) (r : Bool) (w : World) (hr0 : Kd.C k31 w A0 l0.length l0) (hc0 : l0.length ≤ c0) (hr1 : Kd.C k31 w A1 l1.length l1) (hc1 : l1.length ≤ c1) (h : interlocutorref6_Same.f k l0 l1 = some r) :
  Calls Tryz.prog 15 #[.slice A0 l0.length c0, .slice A1 l1.length c1] w fun e w' => e = .returned (.bool r) ∧ Drawn0 w w' := by
 have hu31 := Tryz.underlying31
 have HR0 := Aside0.mk hr0
 have HC0 := Aside0.mk hc0
 clear hr0 hc0
 have HR1 := Aside0.mk hr1
 have HC1 := Aside0.mk hc1
 clear hr1 hc1
 have H : (if (l0.length : Int) = (l1.length : Int) then (interlocutorref6_Same.l0 k l0 l1 0) else (some false)) = some r := h
 clear h
 by_cases c3 : (l0.length : Int) = (l1.length : Int)
 ·rw [if_pos c3] at H
  have c3b0 : ((l0.length : Int) == (l1.length : Int)) = true := beq_iff_eq.mpr c3
  have c3b1 : ((l0.length : Int) != (l1.length : Int)) = false := bne_eq_false_iff_eq.mpr c3
  have c3b2 : (l0.length == l1.length) = true := by first | simpa using c3 | (simp at c3 ⊢; omega)
  clear c3
  have H' := Aside0.mk H
  clear H
  go_enter Tryz.func15, Tryz.ntmps15
  go_wp2
  repeat (go_quiet (fail); try go_wp2)
  go_loopg [5] k (fun kq v5 w' => ∃ (x5_1 : Int), v5 = .int .i64 x5_1 ∧ Aside0 (interlocutorref6_Same.l0 kq l0 l1 x5_1 = some r) ∧ Aside0 (kq ≤ k) ∧ Drawn0 w w')
  case atStart => exact ⟨(0), (by first | rfl | (simp; done) | (simp [*]; done)), H', ⟨Nat.le_refl _⟩, by repeat (first | exact Drawn0.refl _ | apply Drawn0.step)⟩
  clear H'
  try clear c1
  try clear p2
  try clear c3
  try clear c3b0
  try clear c3b1
  try clear c3b2
  obtain ⟨x5_1, rfl, HA, HK1, ⟨m1, rfl⟩⟩ := hrel
  cases gk with
  | zero => exact absurd HA.out (by simp [interlocutorref6_Same.l0])
  | succ k1 =>
   have H := HA.out
   clear HA
   simp only [interlocutorref6_Same.l0] at H
   by_cases c4 : x5_1 < (l0.length : Int)
   ·rw [if_pos c4] at H
    have c4b0 : decide (x5_1 < (l0.length : Int)) = true := decide_eq_true c4
    clear c4
    by_cases c5 : 0 ≤ x5_1
    ·rw [if_pos c5] at H
     have c5b0 : decide (0 ≤ x5_1) = true := decide_eq_true c5
     clear c5
     by_cases c6 : x5_1 < (l1.length : Int)
     ·rw [if_pos c6] at H
      have c6b0 : decide (x5_1 < (l1.length : Int)) = true := decide_eq_true c6
      clear c6
      by_cases c7 : (!(((ra_ l0 x5_1).f0) == ((ra_ l1 x5_1).f0)) || (!(((ra_ l0 x5_1).f1) == ((ra_ l1 x5_1).f1)) || (!(((ra_ l0 x5_1).f2) == ((ra_ l1 x5_1).f2)) || (!(((ra_ l0 x5_1).f3) == ((ra_ l1 x5_1).f3)) || (!(((ra_ l0 x5_1).f4) == ((ra_ l1 x5_1).f4))))))) = true
      ·rw [if_pos c7] at H
       have c7b0 : (!(((ra_ l0 x5_1).f0) == ((ra_ l1 x5_1).f0)) || (!(((ra_ l0 x5_1).f1) == ((ra_ l1 x5_1).f1)) || (!(((ra_ l0 x5_1).f2) == ((ra_ l1 x5_1).f2)) || (!(((ra_ l0 x5_1).f3) == ((ra_ l1 x5_1).f3)) || (!(((ra_ l0 x5_1).f4) == ((ra_ l1 x5_1).f4))))))) = true := c7
       clear c7
       obtain rfl := Option.some.inj H
       have p269 : 0 ≤ (x5_1 : Int) := of_decide_eq_true (by first | (with_reducible assumption) | assumption)
       have q269 : x5_1 < (l0.length : Int) := of_decide_eq_true (by first | (with_reducible assumption) | assumption)
       obtain ⟨ad269, e269, hx269_0, hx269_1, hx269_2, hx269_3, hx269_4⟩ := qf_ HR0.out x5_1 p269 q269
       cases e269
       replace p269 := eq_true p269
       replace q269 := eq_true q269
       have p270 : 0 ≤ (x5_1 : Int) := of_decide_eq_true (by first | (with_reducible assumption) | assumption)
       have q270 : x5_1 < (l1.length : Int) := of_decide_eq_true (by first | (with_reducible assumption) | assumption)
       obtain ⟨ad270, e270, hx270_0, hx270_1, hx270_2, hx270_3, hx270_4⟩ := qf_ HR1.out x5_1 p270 q270
       cases e270
       replace p270 := eq_true p270
       replace q270 := eq_true q270
       go_wp2
       repeat (go_quiet (fail); try go_wp2)
       go_ret
       exact ⟨by first | rfl | (simp; done) | (simp [*]; done), by repeat (first | exact Drawn0.refl _ | apply Drawn0.step)⟩
      rw [if_neg c7] at H
      have c7b0 : (!(((ra_ l0 x5_1).f0) == ((ra_ l1 x5_1).f0)) || (!(((ra_ l0 x5_1).f1) == ((ra_ l1 x5_1).f1)) || (!(((ra_ l0 x5_1).f2) == ((ra_ l1 x5_1).f2)) || (!(((ra_ l0 x5_1).f3) == ((ra_ l1 x5_1).f3)) || (!(((ra_ l0 x5_1).f4) == ((ra_ l1 x5_1).f4))))))) = false := by simpa using c7
      clear c7
      have H' := Aside0.mk H
      clear H
      have p269 : 0 ≤ (x5_1 : Int) := of_decide_eq_true (by first | (with_reducible assumption) | assumption)
      have q269 : x5_1 < (l0.length : Int) := of_decide_eq_true (by first | (with_reducible assumption) | assumption)
      obtain ⟨ad269, e269, hx269_0, hx269_1, hx269_2, hx269_3, hx269_4⟩ := qf_ HR0.out x5_1 p269 q269
      cases e269
      replace p269 := eq_true p269
      replace q269 := eq_true q269
      have p270 : 0 ≤ (x5_1 : Int) := of_decide_eq_true (by first | (with_reducible assumption) | assumption)
      have q270 : x5_1 < (l1.length : Int) := of_decide_eq_true (by first | (with_reducible assumption) | assumption)
      obtain ⟨ad270, e270, hx270_0, hx270_1, hx270_2, hx270_3, hx270_4⟩ := qf_ HR1.out x5_1 p270 q270
      cases e270
      replace p270 := eq_true p270
      replace q270 := eq_true q270
      go_wp2
      repeat (go_quiet (fail); try go_wp2)
      go_roundg k1
      case measure => have := HK1.out; omega
      case rel => exact ⟨(wrap64 (x5_1 + 1)), (by first | rfl | (simp; done) | (simp [*]; done)), H', ⟨by have := HK1.out; omega⟩, by repeat (first | exact Drawn0.refl _ | apply Drawn0.step)⟩
     rw [if_neg c6] at H
     exact absurd H (by simp)
    rw [if_neg c5] at H
    exact absurd H (by simp)
   rw [if_neg c4] at H
   have c4b0 : decide (x5_1 < (l0.length : Int)) = false := decide_eq_false c4
   clear c4
   obtain rfl := Option.some.inj H
   go_wp2
   repeat (go_quiet (fail); try go_wp2)
   go_ret
   exact ⟨by first | rfl | (simp; done) | (simp [*]; done), by repeat (first | exact Drawn0.refl _ | apply Drawn0.step)⟩
 rw [if_neg c3] at H
 have c3b0 : ((l0.length : Int) == (l1.length : Int)) = false := beq_eq_false_iff_ne.mpr c3
 have c3b1 : ((l0.length : Int) != (l1.length : Int)) = true := bne_iff_ne.mpr c3
 have c3b2 : (l0.length == l1.length) = false := by first | simpa using c3 | (simp at c3 ⊢; omega)
 obtain rfl := Option.some.inj H
 go_enter Tryz.func15, Tryz.ntmps15
 go_wp2
 repeat (go_quiet (fail); try go_wp2)
 go_ret
 exact ⟨by first | rfl | (simp; done) | (simp [*]; done), by repeat (first | exact Drawn0.refl _ | apply Drawn0.step)⟩
end Go.Proofs.YtjfbfhoipgldgaaGreat.P
end
section
namespace Go.Proofs.YtjfbfhoipgldgaaGreat.P
open Go.RowKit Go.Proofs.YtjfbfhoipgldgaaGreatW.PrintWords Go.Proofs.YtjfbfhoipgldgaaGreatW.PrintLast Go.Proofs.YtjfbfhoipgldgaaGreatW.PrintMore
attribute [local go_sem] ob_ lb_ vb_ ub_ db_ cb_ nb_ kb_   
set_option linter.unusedVariables false
set_option linter.unusedSimpArgs false
mutual
noncomputable def l7_ChartOwn.j0 : Nat → List (S50) → List Int → Int → Bool → Option (Bool)
 | 0, _, _, _, _ => none
 | k + 1, x0, x1, x2, x24 => if x24 = true then (some true) else ((l4_Rules.f k x0 4).bind fun t273 => ((l4_Rules.f k x0 4).bind fun t276 => ((l7_row.f k x1 5).bind fun bt279 => ((l7_row.f k x1 5).bind fun bt283 => ((chart_Spans.f t273 bt279.1 bt279.2).bind fun t287 => (l7_ChartOwn.l0 k x2 t273 t276 bt279.1 bt279.2 bt283.1 t287 0))))))
noncomputable def l7_ChartOwn.l0 : Nat → Int → List (S48) → List (S48) → List (S31) → Int → List (S31) → List (S42) → Int → Option (Bool)
 | 0, _, _, _, _, _, _, _, _ => none
 | k + 1, x2, x7, x8, x9, x10, x11, x13, x14 => if x14 < (x13.length : Int) then (if 0 ≤ x14 then (l7_ChartOwn.l0 k x2 x7 x8 x9 x10 x11 (x13.set (x14 : Int).toNat (⟨x2, (hc_ x13 x14).f1, (hc_ x13 x14).f2⟩ : S42)) (wrap64 (x14 + 1))) else (none)) else ((interlocutorref6_Same.f k x9 x11).bind fun t291 => (if t291 = true then ((chart_Spans.f x7 x9 x10).bind fun t292 => ((interlocutorref7_Spans.f x8 x11 x10).bind fun t295 => ((l7_same.f k t292 t295).bind fun t298 => (some t298)))) else (some false)))
end
noncomputable def l7_ChartOwn.f (k : Nat) (l0 : List (S50)) (l1 : List Int) (a2 : Int) : Option (Bool) := (l7_known.f).bind fun t271 => (if t271 = true then ((l4_Few.f k l0).bind fun t272 => (if t272 = true then (l7_ChartOwn.j0 k l0 l1 a2 (decide ((l0.length : Int) > 8))) else (l7_ChartOwn.j0 k l0 l1 a2 true))) else (some false))
set_option maxHeartbeats 8000000 in
set_option maxRecDepth 100000 in
theorem l7_ChartOwn.calls (k : Nat) (A0 : Option Addr) (c0 : Nat) (l0 : List (S50)) (A1 : Option Addr) (c1 : Nat) (l1 : List Int) (a2 : Int) (r : Bool) (w : World) (hr0 : Kd.C k50 w A0 l0.length l0) (hc0 : l0.length ≤ c0) (hr1 : Kd.C (Kd.int .i64) w A1 l1.length l1) (hc1 : l1.length ≤ c1) (h : l7_ChartOwn.f k l0 l1 a2 = some r) :
  Calls Tryz.prog 4 #[.slice A0 l0.length c0, .slice A1 l1.length c1, .int .i64 a2] w fun e w' => e = .returned (.bool r) ∧ Below w.heap.size w w' := by
 have HR0 := Aside0.mk hr0
 have HC0 := Aside0.mk hc0
 clear hr0 hc0
 have HR1 := Aside0.mk hr1
 have HC1 := Aside0.mk hc1
 clear hr1 hc1
 have HB := Aside0.mk (Below.refl w.heap.size w)
 have H : ((l7_known.f).bind fun t271 => (if t271 = true then ((l4_Few.f k l0).bind fun t272 => (if t272 = true then (l7_ChartOwn.j0 k l0 l1 a2 (decide ((l0.length : Int) > 8))) else (l7_ChartOwn.j0 k l0 l1 a2 true))) else (some false))) = some r := h
 clear h
 replace H := Option.bind_eq_some_iff.mp H
 obtain ⟨t271, A40, H⟩ := H
 replace H : (if t271 = true then ((l4_Few.f k l0).bind fun t272 => (if t272 = true then (l7_ChartOwn.j0 k l0 l1 a2 (decide ((l0.length : Int) > 8))) else (l7_ChartOwn.j0 k l0 l1 a2 true))) else (some false)) = some r := H
 have A4 := Aside0.mk A40
 clear A40
 by_cases c5 : t271 = true
 ·subst c5
  have H1 : ((l4_Few.f k l0).bind fun t272 => (if t272 = true then (l7_ChartOwn.j0 k l0 l1 a2 (decide ((l0.length : Int) > 8))) else (l7_ChartOwn.j0 k l0 l1 a2 true))) = some r := by rw [if_pos rfl] at H; exact H
  clear H
  have H := H1
  clear H1
  have HC6 := Aside0.mk H
  clear H
  go_enter Tryz.func4, Tryz.ntmps4
  go_upto_region 3 with (first | ((with_reducible refine pa_ (f := 5) rfl ?_); refine rb_ (some 15) rfl rfl Tryz.func5 (by kernel_rfl) rfl #[] rfl (by (try simp only [List.map_toArray, List.map_cons, List.map_nil]); first | done | rfl | (simp only [List.length_drop, List.length_take]; rfl)) ?_; (with_reducible refine (l7_known.calls  true _ A4.out).mono ?_); rintro e w7 ⟨rfl, hb⟩; refine ⟨_, rfl, ?_⟩; have n0_ := Aside0.mk (ma_ (by repeat (first | (with_reducible first | exact HB.out | apply ba_ | apply aa_ | apply da_) | exact HB.out)) hb); clear HB; have HB := n0_; clear n0_; (try clear hb); (try clear hb2); (try clear hk); (try clear hi)))
  (try simp only [Act.put, s1_, s2_, s3_])
  go_cut [24] (fun v24 wc => ∃ (kq : Nat) (x24_5 : Bool), v24 = .bool x24_5 ∧ Aside0 (l7_ChartOwn.j0 kq l0 l1 a2 x24_5 = some r) ∧ Aside0 (kq ≤ k) ∧ Aside0 (Below w.heap.size w wc))
  case first =>
   have H := HC6.out
   clear HC6
   replace H := Option.bind_eq_some_iff.mp H
   obtain ⟨t272, A80, H⟩ := H
   replace H : (if t272 = true then (l7_ChartOwn.j0 k l0 l1 a2 (decide ((l0.length : Int) > 8))) else (l7_ChartOwn.j0 k l0 l1 a2 true)) = some r := H
   have A8 := Aside0.mk A80
   clear A80
   by_cases c9 : t272 = true
   ·subst c9
    have H1 : (l7_ChartOwn.j0 k l0 l1 a2 (decide ((l0.length : Int) > 8))) = some r := by rw [if_pos rfl] at H; exact H
    clear H
    have H := H1
    clear H1
    have H' := Aside0.mk H
    clear H
    go_wp2_with (first | ((with_reducible refine pa_ (f := 6) rfl ?_); refine rb_ (some 18) rfl rfl Tryz.func6 (by kernel_rfl) rfl #[.slice A0 l0.length c0] rfl (by (try simp only [List.map_toArray, List.map_cons, List.map_nil]); first | done | rfl | (simp only [List.length_drop, List.length_take]; rfl)) ?_; (with_reducible refine (l4_Few.calls k _ _ l0 true _ ?side1 ?side2 A8.out).mono ?_); (case side1 => repeat (first | exact (Kd.C_below HR0.out HB.out) | (with_reducible refine Kd.C_alloc ?_ _) | (with_reducible refine Kd.C_drewN ?_ _) | (with_reducible refine Kd.C_drew ?_))); (case side2 => exact HC0.out); rintro e w' ⟨rfl, ⟨nd, rfl⟩⟩; refine ⟨_, rfl, ?_⟩))
    go_meet
    case rel => exact ⟨_, (decide ((l0.length : Int) > 8)), (by first | rfl | (simp; done) | (simp [*]; done)), H', ⟨by first | omega | exact Nat.le_refl _⟩, ⟨by repeat (first | (with_reducible first | exact HB.out | apply ba_ | apply aa_ | apply da_) | exact HB.out)⟩⟩
   replace c9 := Bool.eq_false_iff.mpr c9
   subst c9
   have H1 : (l7_ChartOwn.j0 k l0 l1 a2 true) = some r := by rw [if_neg (show ¬ (false = true) by decide)] at H; exact H
   clear H
   have H := H1
   clear H1
   have H' := Aside0.mk H
   clear H
   go_wp2_with (first | ((with_reducible refine pa_ (f := 6) rfl ?_); refine rb_ (some 18) rfl rfl Tryz.func6 (by kernel_rfl) rfl #[.slice A0 l0.length c0] rfl (by (try simp only [List.map_toArray, List.map_cons, List.map_nil]); first | done | rfl | (simp only [List.length_drop, List.length_take]; rfl)) ?_; (with_reducible refine (l4_Few.calls k _ _ l0 false _ ?side1 ?side2 A8.out).mono ?_); (case side1 => repeat (first | exact (Kd.C_below HR0.out HB.out) | (with_reducible refine Kd.C_alloc ?_ _) | (with_reducible refine Kd.C_drewN ?_ _) | (with_reducible refine Kd.C_drew ?_))); (case side2 => exact HC0.out); rintro e w' ⟨rfl, ⟨nd, rfl⟩⟩; refine ⟨_, rfl, ?_⟩))
   go_meet
   case rel => exact ⟨_, (true), (by first | rfl | (simp; done) | (simp [*]; done)), H', ⟨by first | omega | exact Nat.le_refl _⟩, ⟨by repeat (first | (with_reducible first | exact HB.out | apply ba_ | apply aa_ | apply da_) | exact HB.out)⟩⟩
  clear HC6
  try clear c1
  try clear p2
  try clear c4
  try clear c5
  try clear c6
  try clear c9
  obtain ⟨kq, x24_5, rfl, HA, HJ5, HB⟩ := hcut
  cases kq with
  | zero => exact absurd HA.out (by simp [l7_ChartOwn.j0])
  | succ kj5 =>
   have H := HA.out
   clear HA
   simp only [l7_ChartOwn.j0] at H
   by_cases c10 : x24_5 = true
   ·subst c10
    have H1 : (some true) = some r := by rw [if_pos rfl] at H; exact H
    clear H
    have H := H1
    clear H1
    obtain rfl := Option.some.inj H
    go_wp2
    go_ret
    exact ⟨by first | rfl | (simp [wa_, va_] <;> rfl) | (simp [*, wa_, va_] <;> rfl), by repeat (first | (with_reducible first | exact HB.out | apply ba_ | apply aa_ | apply da_) | exact HB.out)⟩
   replace c10 := Bool.eq_false_iff.mpr c10
   subst c10
   have H1 : ((l4_Rules.f kj5 l0 4).bind fun t273 => ((l4_Rules.f kj5 l0 4).bind fun t276 => ((l7_row.f kj5 l1 5).bind fun bt279 => ((l7_row.f kj5 l1 5).bind fun bt283 => ((chart_Spans.f t273 bt279.1 bt279.2).bind fun t287 => (l7_ChartOwn.l0 kj5 a2 t273 t276 bt279.1 bt279.2 bt283.1 t287 0)))))) = some r := by rw [if_neg (show ¬ (false = true) by decide)] at H; exact H
   clear H
   have H := H1
   clear H1
   replace H := Option.bind_eq_some_iff.mp H
   obtain ⟨t273, A110, H⟩ := H
   replace H : ((l4_Rules.f kj5 l0 4).bind fun t276 => ((l7_row.f kj5 l1 5).bind fun bt279 => ((l7_row.f kj5 l1 5).bind fun bt283 => ((chart_Spans.f t273 bt279.1 bt279.2).bind fun t287 => (l7_ChartOwn.l0 kj5 a2 t273 t276 bt279.1 bt279.2 bt283.1 t287 0))))) = some r := H
   have A11 := Aside0.mk A110
   clear A110
   replace H := Option.bind_eq_some_iff.mp H
   obtain ⟨t276, A120, H⟩ := H
   replace H : ((l7_row.f kj5 l1 5).bind fun bt279 => ((l7_row.f kj5 l1 5).bind fun bt283 => ((chart_Spans.f t273 bt279.1 bt279.2).bind fun t287 => (l7_ChartOwn.l0 kj5 a2 t273 t276 bt279.1 bt279.2 bt283.1 t287 0)))) = some r := H
   have A12 := Aside0.mk A120
   clear A120
   replace H := Option.bind_eq_some_iff.mp H
   obtain ⟨⟨t279, t280⟩, A130, H⟩ := H
   replace H : ((l7_row.f kj5 l1 5).bind fun bt283 => ((chart_Spans.f t273 t279 t280).bind fun t287 => (l7_ChartOwn.l0 kj5 a2 t273 t276 t279 t280 bt283.1 t287 0))) = some r := H
   have A13 := Aside0.mk A130
   clear A130
   replace H := Option.bind_eq_some_iff.mp H
   obtain ⟨⟨t283, t284⟩, A140, H⟩ := H
   replace H : ((chart_Spans.f t273 t279 t280).bind fun t287 => (l7_ChartOwn.l0 kj5 a2 t273 t276 t279 t280 t283 t287 0)) = some r := H
   have A14 := Aside0.mk A140
   clear A140
   replace H := Option.bind_eq_some_iff.mp H
   obtain ⟨t287, A150, H⟩ := H
   replace H : (l7_ChartOwn.l0 kj5 a2 t273 t276 t279 t280 t283 t287 0) = some r := H
   have A15 := Aside0.mk A150
   clear A150
   have H' := Aside0.mk H
   clear H
   go_wp2_with (first | ((with_reducible refine pa_ (f := 7) rfl ?_); refine rb_ (some 26) rfl rfl Tryz.func7 (by kernel_rfl) rfl #[.slice A0 l0.length c0, .int .i64 4] rfl (by (try simp only [List.map_toArray, List.map_cons, List.map_nil]); first | done | rfl | (simp only [List.length_drop, List.length_take]; rfl)) ?_; (with_reducible refine (l4_Rules.calls kj5 _ _ l0 4 t273 _ ?side1 ?side2 A11.out).mono ?_); (case side1 => repeat (first | exact (Kd.C_below HR0.out HB.out) | (with_reducible refine Kd.C_alloc ?_ _) | (with_reducible refine Kd.C_drewN ?_ _) | (with_reducible refine Kd.C_drew ?_))); (case side2 => exact HC0.out); rintro e w16 ⟨v274, rfl, ho0, hb⟩; refine ⟨_, rfl, ?_⟩; have n0_ := Aside0.mk (Kd.N_lower (Kd.N_mono (ok' := fun k_ => True) ho0 (fun k_ hk_ => trivial)) (na_ (by repeat (first | (with_reducible first | exact HB.out | apply ba_ | apply aa_ | apply da_) | exact HB.out)))); have n1_ := Aside0.mk (ma_ (by repeat (first | (with_reducible first | exact HB.out | apply ba_ | apply aa_ | apply da_) | exact HB.out)) hb); clear HB; have HO275 := n0_; have HB := n1_; clear n0_ n1_; (try clear hb); (try clear hb2); (try clear hk); (try clear hi); (try clear ho0)) | ((with_reducible refine pa_ (f := 7) rfl ?_); refine rb_ (some 28) rfl rfl Tryz.func7 (by kernel_rfl) rfl #[.slice A0 l0.length c0, .int .i64 4] rfl (by (try simp only [List.map_toArray, List.map_cons, List.map_nil]); first | done | rfl | (simp only [List.length_drop, List.length_take]; rfl)) ?_; (with_reducible refine (l4_Rules.calls kj5 _ _ l0 4 t276 _ ?side1 ?side2 A12.out).mono ?_); (case side1 => repeat (first | exact (Kd.C_below HR0.out HB.out) | (with_reducible refine Kd.C_alloc ?_ _) | (with_reducible refine Kd.C_drewN ?_ _) | (with_reducible refine Kd.C_drew ?_))); (case side2 => exact HC0.out); rintro e w17 ⟨v277, rfl, ho0, hb⟩; refine ⟨_, rfl, ?_⟩; have n0_ := Aside0.mk (Kd.N_elder' (by (with_reducible repeat (first | apply Kd.N_alloc | apply Kd.N_drewN | apply Kd.N_drew)); exact HO275.out) (Kd.N_base ho0) hb); have n1_ := Aside0.mk (Kd.N_lower (Kd.N_mono (ok' := fun k_ => some k_ ≠ (v274 : Value).ownBlock) ho0 (fun k_ hk_ => (Kd.fresh' (Kd.N_lt (by (with_reducible repeat (first | apply Kd.N_alloc | apply Kd.N_drewN | apply Kd.N_drew)); exact HO275.out)) k_ hk_))) (na_ (by repeat (first | (with_reducible first | exact HB.out | apply ba_ | apply aa_ | apply da_) | exact HB.out)))); have n2_ := Aside0.mk (ma_ (by repeat (first | (with_reducible first | exact HB.out | apply ba_ | apply aa_ | apply da_) | exact HB.out)) hb); clear HO275; clear HB; have HO275 := n0_; have HO278 := n1_; have HB := n2_; clear n0_ n1_ n2_; (try clear hb); (try clear hb2); (try clear hk); (try clear hi); (try clear ho0)) | ((with_reducible refine pa_ (f := 14) rfl ?_); refine rb_ (some 31) rfl rfl Tryz.func14 (by kernel_rfl) rfl #[.slice A1 l1.length c1, .int .i64 5] rfl (by (try simp only [List.map_toArray, List.map_cons, List.map_nil]); first | done | rfl | (simp only [List.length_drop, List.length_take]; rfl)) ?_; (with_reducible refine (l7_row.calls kj5 _ _ l1 5 t279 t280 _ ?side1 ?side2 A13.out).mono ?_); (case side1 => repeat (first | exact (Kd.C_below HR1.out HB.out) | (with_reducible refine Kd.C_alloc ?_ _) | (with_reducible refine Kd.C_drewN ?_ _) | (with_reducible refine Kd.C_drew ?_))); (case side2 => exact HC1.out); rintro e w18 ⟨v281, rfl, ho0, hb⟩; refine ⟨_, rfl, ?_⟩; have n0_ := Aside0.mk (Kd.N_elder' (by (with_reducible repeat (first | apply Kd.N_alloc | apply Kd.N_drewN | apply Kd.N_drew)); exact HO275.out) (Kd.R_base ho0) hb); have n1_ := Aside0.mk (Kd.N_elder' (by (with_reducible repeat (first | apply Kd.N_alloc | apply Kd.N_drewN | apply Kd.N_drew)); exact HO278.out) (Kd.R_base ho0) hb); have n2_ := Aside0.mk (Kd.R_lower ho0 (na_ (by repeat (first | (with_reducible first | exact HB.out | apply ba_ | apply aa_ | apply da_) | exact HB.out)))); have n3_ := Aside0.mk (ma_ (by repeat (first | (with_reducible first | exact HB.out | apply ba_ | apply aa_ | apply da_) | exact HB.out)) hb); clear HO275; clear HO278; clear HB; have HO275 := n0_; have HO278 := n1_; have HO282 := n2_; have HB := n3_; clear n0_ n1_ n2_ n3_; (try clear hb); (try clear hb2); (try clear hk); (try clear hi); (try clear ho0)) | ((with_reducible refine pa_ (f := 14) rfl ?_); refine rb_ (some 36) rfl rfl Tryz.func14 (by kernel_rfl) rfl #[.slice A1 l1.length c1, .int .i64 5] rfl (by (try simp only [List.map_toArray, List.map_cons, List.map_nil]); first | done | rfl | (simp only [List.length_drop, List.length_take]; rfl)) ?_; (with_reducible refine (l7_row.calls kj5 _ _ l1 5 t283 t284 _ ?side1 ?side2 A14.out).mono ?_); (case side1 => repeat (first | exact (Kd.C_below HR1.out HB.out) | (with_reducible refine Kd.C_alloc ?_ _) | (with_reducible refine Kd.C_drewN ?_ _) | (with_reducible refine Kd.C_drew ?_))); (case side2 => exact HC1.out); rintro e w19 ⟨v285, rfl, ho0, hb⟩; refine ⟨_, rfl, ?_⟩; have n0_ := Aside0.mk (Kd.N_elder' (by (with_reducible repeat (first | apply Kd.N_alloc | apply Kd.N_drewN | apply Kd.N_drew)); exact HO275.out) (Kd.R_base ho0) hb); have n1_ := Aside0.mk (Kd.N_elder' (by (with_reducible repeat (first | apply Kd.N_alloc | apply Kd.N_drewN | apply Kd.N_drew)); exact HO278.out) (Kd.R_base ho0) hb); have n2_ := Aside0.mk (Kd.R_elder' (by (with_reducible repeat (first | apply Kd.R_alloc | apply Kd.R_drewN | apply Kd.R_drew)); exact HO282.out) (Kd.R_base ho0) hb); have n3_ := Aside0.mk (Kd.R_lower (Kd.R_new' ho0 (Kd.R_lt (by (with_reducible repeat (first | apply Kd.R_alloc | apply Kd.R_drewN | apply Kd.R_drew)); exact HO282.out))) (na_ (by repeat (first | (with_reducible first | exact HB.out | apply ba_ | apply aa_ | apply da_) | exact HB.out)))); have n4_ := Aside0.mk (ma_ (by repeat (first | (with_reducible first | exact HB.out | apply ba_ | apply aa_ | apply da_) | exact HB.out)) hb); clear HO275; clear HO278; clear HO282; clear HB; have HO275 := n0_; have HO278 := n1_; have HO282 := n2_; have HO286 := n3_; have HB := n4_; clear n0_ n1_ n2_ n3_ n4_; (try clear hb); (try clear hb2); (try clear hk); (try clear hi); (try clear ho0); obtain ⟨Ao20, co20, eo20⟩ := Kd.N_slice HO275.out; subst eo20; obtain ⟨Ao21, co21, eo21⟩ := Kd.R_slice HO282.out; subst eo21) | ((with_reducible refine pa_ (f := 10) rfl ?_); refine rb_ (some 42) rfl rfl Tryz.func10 (by kernel_rfl) rfl #[.slice Ao20 t273.length co20, .slice Ao21 t279.length co21, .int .i64 t280] rfl (by (try simp only [List.map_toArray, List.map_cons, List.map_nil]); first | done | rfl | (simp only [List.length_drop, List.length_take]; rfl)) ?_; (with_reducible refine (chart_Spans.calls _ _ t273 _ _ t279 t280 t287 _ ?side1 ?side2 ?side3 ?side4 A15.out).mono ?_); (case side1 => repeat (first | exact (Kd.N_reads' HO275.out).2.2 | (with_reducible refine Kd.C_alloc ?_ _) | (with_reducible refine Kd.C_drewN ?_ _) | (with_reducible refine Kd.C_drew ?_))); (case side2 => exact (Kd.N_reads' HO275.out).2.1); (case side3 => repeat (first | exact (Kd.R_reads' HO282.out).2.2 | (with_reducible refine Kd.C_alloc ?_ _) | (with_reducible refine Kd.C_drewN ?_ _) | (with_reducible refine Kd.C_drew ?_))); (case side4 => exact (Kd.R_reads' HO282.out).2.1); rintro e w22 ⟨v288, rfl, ho0, hb⟩; refine ⟨_, rfl, ?_⟩; have n0_ := Aside0.mk (Kd.N_elder' (by (with_reducible repeat (first | apply Kd.N_alloc | apply Kd.N_drewN | apply Kd.N_drew)); exact HO275.out) (Kd.R_base ho0) hb); have n1_ := Aside0.mk (Kd.N_elder' (by (with_reducible repeat (first | apply Kd.N_alloc | apply Kd.N_drewN | apply Kd.N_drew)); exact HO278.out) (Kd.R_base ho0) hb); have n2_ := Aside0.mk (Kd.R_below (by (with_reducible repeat (first | apply Kd.R_alloc | apply Kd.R_drewN | apply Kd.R_drew)); exact HO282.out) hb); have n3_ := Aside0.mk (Kd.R_below (by (with_reducible repeat (first | apply Kd.R_alloc | apply Kd.R_drewN | apply Kd.R_drew)); exact HO286.out) hb); have n4_ := Aside0.mk (Kd.R_lower ho0 (na_ (by repeat (first | (with_reducible first | exact HB.out | apply ba_ | apply aa_ | apply da_) | exact HB.out)))); have n5_ := Aside0.mk (ma_ (by repeat (first | (with_reducible first | exact HB.out | apply ba_ | apply aa_ | apply da_) | exact HB.out)) hb); clear HO275; clear HO278; clear HO282; clear HO286; clear HB; have HO275 := n0_; have HO278 := n1_; have HO282 := n2_; have HO286 := n3_; have HO289 := n4_; have HB := n5_; clear n0_ n1_ n2_ n3_ n4_ n5_; (try clear hb); (try clear hb2); (try clear hk); (try clear hi); (try clear ho0)))
   go_loopg [14] kj5 (fun kq v14 w' => ∃ (x13_2 : List (S42)) (x14_2 : Int), v14 = .int .i64 x14_2 ∧ Aside0 (l7_ChartOwn.l0 kq a2 t273 t276 t279 t280 t283 x13_2 x14_2 = some r) ∧ Aside0 (kq ≤ kj5) ∧ Aside0 (Kd.N k48 48 w' w.heap.size (fun k_ => some k_ ≠ (v277 : Value).ownBlock ∧ some k_ ≠ ((.slice Ao21 t279.length co21) : Value).ownBlock ∧ some k_ ≠ (v285 : Value).ownBlock ∧ some k_ ≠ (v288 : Value).ownBlock) (.slice Ao20 t273.length co20) t273) ∧ Aside0 (Kd.N k48 48 w' w.heap.size (fun k_ => some k_ ≠ ((.slice Ao20 t273.length co20) : Value).ownBlock ∧ some k_ ≠ ((.slice Ao21 t279.length co21) : Value).ownBlock ∧ some k_ ≠ (v285 : Value).ownBlock ∧ some k_ ≠ (v288 : Value).ownBlock) v277 t276) ∧ Aside0 (Kd.R k31 31 w' w.heap.size (fun k_ => some k_ ≠ (v285 : Value).ownBlock) (.slice Ao21 t279.length co21) t279) ∧ Aside0 (Kd.R k31 31 w' w.heap.size (fun k_ => some k_ ≠ ((.slice Ao21 t279.length co21) : Value).ownBlock) v285 t283) ∧ Aside0 (Kd.R k42 42 w' w.heap.size (fun _ => True) v288 x13_2) ∧ Aside0 (Below w.heap.size w w'))
   case atStart => exact ⟨(t287), (0), (by first | rfl | (simp; done) | (simp [*]; done)), H', ⟨Nat.le_refl _⟩, ⟨by (with_reducible repeat (first | apply Kd.N_alloc | apply Kd.N_drewN | apply Kd.N_drew)); exact Kd.N_mono HO275.out (fun _ hk => ⟨hk.1.1.1.2, ⟨hk.1.1.2, ⟨hk.1.2, hk.2⟩⟩⟩)⟩, ⟨by (with_reducible repeat (first | apply Kd.N_alloc | apply Kd.N_drewN | apply Kd.N_drew)); exact Kd.N_mono HO278.out (fun _ hk => ⟨hk.1.1.1, ⟨hk.1.1.2, ⟨hk.1.2, hk.2⟩⟩⟩)⟩, ⟨by (with_reducible repeat (first | apply Kd.R_alloc | apply Kd.R_drewN | apply Kd.R_drew)); (first | exact Kd.R_mono HO282.out (fun _ hk => hk.2) | exact HO282.out)⟩, ⟨by (with_reducible repeat (first | apply Kd.R_alloc | apply Kd.R_drewN | apply Kd.R_drew)); (first | exact Kd.R_mono HO286.out (fun _ hk => hk.2) | exact HO286.out)⟩, ⟨by (with_reducible repeat (first | apply Kd.R_alloc | apply Kd.R_drewN | apply Kd.R_drew)); exact HO289.out⟩, ⟨by repeat (first | (with_reducible first | exact HB.out | apply ba_ | apply aa_ | apply da_) | exact HB.out)⟩⟩
   clear H'
   try clear c1
   try clear p2
   try clear c4
   try clear c5
   try clear c6
   try clear c7
   try clear c9
   try clear c10
   try clear c14
   try clear p2
   obtain ⟨x13_2, x14_2, rfl, HA, HK2, HO_7, HO_8, HO_9, HO_11, HO_13, HB⟩ := hrel
   cases gk with
   | zero => exact absurd HA.out (by simp [l7_ChartOwn.l0])
   | succ k2 =>
    have H := HA.out
    clear HA
    simp only [l7_ChartOwn.l0] at H
    by_cases c23 : x14_2 < (x13_2.length : Int)
    ·rw [if_pos c23] at H
     have c23b0 : decide (x14_2 < (x13_2.length : Int)) = true := decide_eq_true c23
     clear c23
     by_cases c24 : 0 ≤ x14_2
     ·rw [if_pos c24] at H
      have c24b0 : decide (0 ≤ x14_2) = true := decide_eq_true c24
      clear c24
      obtain ⟨y290, hy290⟩ : ∃ y_ : List (S42), y_ = (x13_2.set (x14_2 : Int).toNat (⟨a2, (hc_ x13_2 x14_2).f1, (hc_ x13_2 x14_2).f2⟩ : S42)) := ⟨_, rfl⟩
      replace H : (l7_ChartOwn.l0 k2 a2 t273 t276 t279 t280 t283 y290 (wrap64 (x14_2 + 1))) = some r := by first | (rw [hy290]; with_reducible exact H) | (have H2_ := (Option.bind_some _ _).symm.trans H; rw [hy290]; with_reducible exact H2_) | (have H2_ := (Option.bind_some _ _).symm.trans H; with_reducible exact H2_) | with_reducible exact H | (rw [hy290]; exact H) | exact H
      have Ny290 := Aside0.mk hy290
      clear hy290
      have H' := Aside0.mk H
      clear H
      obtain ⟨Ao26, co26, eo26⟩ := Kd.R_slice HO_13.out
      subst eo26
      have p25 : 0 ≤ (x14_2 : Int) := of_decide_eq_true (by first | (with_reducible assumption) | assumption)
      have q25 : (x14_2 : Int) < ((x13_2.length : Int) : Int) := of_decide_eq_true (by first | (with_reducible assumption) | assumption)
      obtain ⟨go25, co25, eo25, gb25, gl25, cl25, HG25⟩ := Kd.R_form HO_13.out (by omega)
      (first | cases eo25 | (injection eo25 with ea_ en_ ec_; (first | subst ea_ | (injection ea_ with ea_; subst ea_)); subst ec_; clear en_))
      have GB25 := Aside0.mk gb25
      have GG25 := Aside0.mk HG25
      clear gb25 gl25 HG25
      obtain ⟨ce25, hcl25, hM25, hcc25, hfr25⟩ := Kd.R_elem HO_13.out z42 (x14_2 : Int) p25 q25
      obtain rfl := yj_ hM25
      have hx25_0 : wr.cell? ⟨go25, (x14_2 : Int).toNat * 3, none⟩ = some (.int .i64 ((hc_ x13_2 x14_2).f0)) := hcc25 0 _ rfl
      have hx25_1 : wr.cell? ⟨go25, (x14_2 : Int).toNat * 3 + 1, none⟩ = some (.int .i64 ((hc_ x13_2 x14_2).f1)) := hcc25 1 _ rfl
      have hx25_2 : wr.cell? ⟨go25, (x14_2 : Int).toNat * 3 + 2, none⟩ = some (.int .i64 ((hc_ x13_2 x14_2).f2)) := hcc25 2 _ rfl
      have hf25_0 : wr.frozen? ⟨go25, (x14_2 : Int).toNat * 3, none⟩ = false := hfr25 0
      have hf25_1 : wr.frozen? ⟨go25, (x14_2 : Int).toNat * 3 + 1, none⟩ = false := hfr25 1
      have hf25_2 : wr.frozen? ⟨go25, (x14_2 : Int).toNat * 3 + 2, none⟩ = false := hfr25 2
      clear hcl25 hcc25 hfr25 hM25
      replace p25 := eq_true p25
      replace q25 := eq_true q25
      have HX27 := Aside0.mk (show Kd.R k42 42 wr w.heap.size (fun _ => True) (.slice (some ⟨go25, 0, none⟩) x13_2.length co26) x13_2 from (by (with_reducible repeat (first | apply Kd.R_alloc | apply Kd.R_drewN | apply Kd.R_drew)); exact HO_13.out))
      obtain ⟨ce27, hcl27, hM27, hcc27, hfr27⟩ := Kd.R_elem HX27.out z42 (x14_2 : Int) (of_decide_eq_true (by first | (with_reducible assumption) | assumption)) (by have h_ : (x14_2 : Int) < ((x13_2.length : Int) : Int) := of_decide_eq_true (by first | (with_reducible assumption) | assumption); first | exact h_ | (have e_ := (Kd.R_reads' HO_13.out).1; omega) | simpa using h_)
      obtain rfl := yj_ hM27
      have HP27 := Kd.R_seg HX27.out (x14_2 : Int) (of_decide_eq_true (by first | (with_reducible assumption) | assumption)) (by have h_ : (x14_2 : Int) < ((x13_2.length : Int) : Int) := of_decide_eq_true (by first | (with_reducible assumption) | assumption); first | exact h_ | (have e_ := (Kd.R_reads' HO_13.out).1; omega) | simpa using h_) (seg := [.int .i64 a2]) (j := 0) hcl27 hcc27 (show 1 ≤ 3 from by decide) (x' := (⟨a2, (hc_ x13_2 x14_2).f1, (hc_ x13_2 x14_2).f2⟩ : S42)) (cl_ _ _ _ (⟨a2, (hc_ x13_2 x14_2).f1, (hc_ x13_2 x14_2).f2⟩ : S42) ) (fun _ hk => hk)
      have hx27_0 := hcc27 0 _ rfl
      (try simp only [show (k42).sz = 3 from rfl, Nat.mul_one, Nat.add_zero] at hx27_0)
      have hf27_0 := hfr27 0
      (try simp only [show (k42).sz = 3 from rfl, Nat.mul_one, Nat.add_zero] at hf27_0)
      clear hcl27 hcc27 hfr27 hM27
      go_wp2_with (first | ((with_reducible refine bt_ (t := 3) (p := 53) rfl ?_); refine eq_ (t := 3) (p := 53) (v := ?vo_w28) (w1 := (wr.setCell ⟨go25, (x14_2 : Int).toNat * 3, none⟩ (.int .i64 a2))) ?hg ?ho ?hn ?hr ?_; (case ho => rfl); (case hg => rfl); (case hn => rfl); (case hr => first | (go_simp; done) | (go_simp; rfl)); intro w28 hw; have hg : wr.grownBy w28 (some go25) := (by rw [hw]; exact HP27.2); have hp_ : Kd.R k42 42 w28 w.heap.size (fun _ => True) (.slice (some ⟨go25, 0, none⟩) x13_2.length co26) y290 := (by rw [hw, Ny290.out]; exact HP27.1); clear HP27; have n0_ := Aside0.mk (Kd.N_afterv (v := (.slice (some ⟨go25, 0, none⟩) x13_2.length co26)) (v1 := (.slice (some ⟨go25, 0, none⟩) x13_2.length co26)) (ok := (fun k_ => some k_ ≠ (v277 : Value).ownBlock ∧ some k_ ≠ (.slice Ao21 t279.length co21 : Value).ownBlock ∧ some k_ ≠ (v285 : Value).ownBlock)) (by (with_reducible repeat (first | apply Kd.N_alloc | apply Kd.N_drewN | apply Kd.N_drew)); exact Kd.N_mono HO_7.out (fun _ hk => ⟨⟨hk.1, ⟨hk.2.1, hk.2.2.1⟩⟩, hk.2.2.2⟩)) hg (.inl rfl)); have n1_ := Aside0.mk (Kd.N_afterv (v := (.slice (some ⟨go25, 0, none⟩) x13_2.length co26)) (v1 := (.slice (some ⟨go25, 0, none⟩) x13_2.length co26)) (ok := (fun k_ => some k_ ≠ (.slice Ao20 t273.length co20 : Value).ownBlock ∧ some k_ ≠ (.slice Ao21 t279.length co21 : Value).ownBlock ∧ some k_ ≠ (v285 : Value).ownBlock)) (by (with_reducible repeat (first | apply Kd.N_alloc | apply Kd.N_drewN | apply Kd.N_drew)); exact Kd.N_mono HO_8.out (fun _ hk => ⟨⟨hk.1, ⟨hk.2.1, hk.2.2.1⟩⟩, hk.2.2.2⟩)) hg (.inl rfl)); have n2_ := Aside0.mk (Kd.R_over' (v := (.slice (some ⟨go25, 0, none⟩) x13_2.length co26)) (by (with_reducible repeat (first | apply Kd.R_alloc | apply Kd.R_drewN | apply Kd.R_drew)); exact HO_9.out) (Kd.R_typed HO_13.out) (by decide) hg); have n3_ := Aside0.mk (Kd.R_over' (v := (.slice (some ⟨go25, 0, none⟩) x13_2.length co26)) (by (with_reducible repeat (first | apply Kd.R_alloc | apply Kd.R_drewN | apply Kd.R_drew)); exact HO_11.out) (Kd.R_typed HO_13.out) (by decide) hg); have n4_ := Aside0.mk (hp_); have n5_ := Aside0.mk ((by rw [hw]; exact ja_ (HB.out) GB25.out : Below w.heap.size w w28)); clear HO_7; clear HO_8; clear HO_9; clear HO_11; clear HO_13; clear HB; have HO_7 := n0_; have HO_8 := n1_; have HO_9 := n2_; have HO_11 := n3_; have HO_13 := n4_; have HB := n5_; clear n0_ n1_ n2_ n3_ n4_ n5_; clear hg hw hp_))
      go_roundg k2
      case measure => have := HJ5.out; have := HK2.out; omega
      case rel => exact ⟨(y290), (wrap64 (x14_2 + 1)), (by first | rfl | (simp; done) | (simp [*]; done)), H', ⟨by have := HJ5.out; have := HK2.out; omega⟩, ⟨by (with_reducible repeat (first | apply Kd.N_alloc | apply Kd.N_drewN | apply Kd.N_drew)); exact Kd.N_mono HO_7.out (fun _ hk => ⟨hk.1.1, ⟨hk.1.2.1, ⟨hk.1.2.2, hk.2⟩⟩⟩)⟩, ⟨by (with_reducible repeat (first | apply Kd.N_alloc | apply Kd.N_drewN | apply Kd.N_drew)); exact Kd.N_mono HO_8.out (fun _ hk => ⟨hk.1.1, ⟨hk.1.2.1, ⟨hk.1.2.2, hk.2⟩⟩⟩)⟩, ⟨by (with_reducible repeat (first | apply Kd.R_alloc | apply Kd.R_drewN | apply Kd.R_drew)); exact HO_9.out⟩, ⟨by (with_reducible repeat (first | apply Kd.R_alloc | apply Kd.R_drewN | apply Kd.R_drew)); exact HO_11.out⟩, ⟨by (with_reducible repeat (first | apply Kd.R_alloc | apply Kd.R_drewN | apply Kd.R_drew)); exact HO_13.out⟩, ⟨by repeat (first | (with_reducible first | exact HB.out | apply ba_ | apply aa_ | apply da_) | exact HB.out)⟩⟩
     rw [if_neg c24] at H
     exact absurd H (by simp)
    rw [if_neg c23] at H
    have c23b0 : decide (x14_2 < (x13_2.length : Int)) = false := decide_eq_false c23
    clear c23
    replace H := Option.bind_eq_some_iff.mp H
    obtain ⟨t291, A290, H⟩ := H
    replace H : (if t291 = true then ((chart_Spans.f t273 t279 t280).bind fun t292 => ((interlocutorref7_Spans.f t276 t283 t280).bind fun t295 => ((l7_same.f k2 t292 t295).bind fun t298 => (some t298)))) else (some false)) = some r := H
    have A29 := Aside0.mk A290
    clear A290
    by_cases c30 : t291 = true
    ·subst c30
     have H1 : ((chart_Spans.f t273 t279 t280).bind fun t292 => ((interlocutorref7_Spans.f t276 t283 t280).bind fun t295 => ((l7_same.f k2 t292 t295).bind fun t298 => (some t298)))) = some r := by rw [if_pos rfl] at H; exact H
     clear H
     have H := H1
     clear H1
     replace H := Option.bind_eq_some_iff.mp H
     obtain ⟨t292, A310, H⟩ := H
     replace H : ((interlocutorref7_Spans.f t276 t283 t280).bind fun t295 => ((l7_same.f k2 t292 t295).bind fun t298 => (some t298))) = some r := H
     have A31 := Aside0.mk A310
     clear A310
     replace H := Option.bind_eq_some_iff.mp H
     obtain ⟨t295, A320, H⟩ := H
     replace H : ((l7_same.f k2 t292 t295).bind fun t298 => (some t298)) = some r := H
     have A32 := Aside0.mk A320
     clear A320
     replace H := Option.bind_eq_some_iff.mp H
     obtain ⟨t298, A330, H⟩ := H
     replace H : (some t298) = some r := H
     have A33 := Aside0.mk A330
     clear A330
     obtain rfl := Option.some.inj H
     obtain ⟨Ao34, co34, eo34⟩ := Kd.R_slice HO_13.out
     subst eo34
     obtain ⟨Ao35, co35, eo35⟩ := Kd.R_slice HO_11.out
     subst eo35
     go_wp2_with (first | ((with_reducible refine pa_ (f := 15) rfl ?_); refine rb_ (some 56) rfl rfl Tryz.func15 (by kernel_rfl) rfl #[.slice Ao21 t279.length co21, .slice Ao35 t283.length co35] rfl (by (try simp only [List.map_toArray, List.map_cons, List.map_nil]); first | done | rfl | (simp only [List.length_drop, List.length_take]; rfl)) ?_; (with_reducible refine (interlocutorref6_Same.calls k2 _ _ t279 _ _ t283 true _ ?side1 ?side2 ?side3 ?side4 A29.out).mono ?_); (case side1 => repeat (first | exact (Kd.R_reads' HO_9.out).2.2 | (with_reducible refine Kd.C_alloc ?_ _) | (with_reducible refine Kd.C_drewN ?_ _) | (with_reducible refine Kd.C_drew ?_))); (case side2 => exact (Kd.R_reads' HO_9.out).2.1); (case side3 => repeat (first | exact (Kd.R_reads' HO_11.out).2.2 | (with_reducible refine Kd.C_alloc ?_ _) | (with_reducible refine Kd.C_drewN ?_ _) | (with_reducible refine Kd.C_drew ?_))); (case side4 => exact (Kd.R_reads' HO_11.out).2.1); rintro e w' ⟨rfl, ⟨nd, rfl⟩⟩; refine ⟨_, rfl, ?_⟩) | (go_at_call 10; (with_reducible refine (chart_Spans.calls _ _ t273 _ _ t279 t280 t292 _ ?side1 ?side2 ?side3 ?side4 A31.out).mono ?_); (case side1 => repeat (first | exact (Kd.N_reads' HO_7.out).2.2 | (with_reducible refine Kd.C_alloc ?_ _) | (with_reducible refine Kd.C_drewN ?_ _) | (with_reducible refine Kd.C_drew ?_))); (case side2 => exact (Kd.N_reads' HO_7.out).2.1); (case side3 => repeat (first | exact (Kd.R_reads' HO_9.out).2.2 | (with_reducible refine Kd.C_alloc ?_ _) | (with_reducible refine Kd.C_drewN ?_ _) | (with_reducible refine Kd.C_drew ?_))); (case side4 => exact (Kd.R_reads' HO_9.out).2.1); rintro e w36 ⟨v293, rfl, ho0, hb⟩; have n0_ := Aside0.mk (Kd.N_elder' (by (with_reducible repeat (first | apply Kd.N_alloc | apply Kd.N_drewN | apply Kd.N_drew)); exact HO_7.out) (Kd.R_base ho0) hb); have n1_ := Aside0.mk (Kd.N_elder' (by (with_reducible repeat (first | apply Kd.N_alloc | apply Kd.N_drewN | apply Kd.N_drew)); exact HO_8.out) (Kd.R_base ho0) hb); have n2_ := Aside0.mk (Kd.R_below (by (with_reducible repeat (first | apply Kd.R_alloc | apply Kd.R_drewN | apply Kd.R_drew)); exact HO_9.out) hb); have n3_ := Aside0.mk (Kd.R_below (by (with_reducible repeat (first | apply Kd.R_alloc | apply Kd.R_drewN | apply Kd.R_drew)); exact HO_11.out) hb); have n4_ := Aside0.mk (Kd.R_elder' (by (with_reducible repeat (first | apply Kd.R_alloc | apply Kd.R_drewN | apply Kd.R_drew)); exact HO_13.out) (Kd.R_base ho0) hb); have n5_ := Aside0.mk (Kd.R_lower (Kd.R_new' ho0 (Kd.R_lt (by (with_reducible repeat (first | apply Kd.R_alloc | apply Kd.R_drewN | apply Kd.R_drew)); exact HO_13.out))) (na_ (by repeat (first | (with_reducible first | exact HB.out | apply ba_ | apply aa_ | apply da_) | exact HB.out)))); have n6_ := Aside0.mk (ma_ (by repeat (first | (with_reducible first | exact HB.out | apply ba_ | apply aa_ | apply da_) | exact HB.out)) hb); clear HO_7; clear HO_8; clear HO_9; clear HO_11; clear HO_13; clear HB; have HO_7 := n0_; have HO_8 := n1_; have HO_9 := n2_; have HO_11 := n3_; have HO_13 := n4_; have HO294 := n5_; have HB := n6_; clear n0_ n1_ n2_ n3_ n4_ n5_ n6_; (try clear hb); (try clear hb2); (try clear hk); (try clear hi); (try clear ho0); obtain ⟨Ao37, co37, eo37⟩ := Kd.N_slice HO_8.out; subst eo37) | (go_at_call 11; (with_reducible refine (interlocutorref7_Spans.calls _ _ t276 _ _ t283 t280 t295 _ ?side1 ?side2 ?side3 ?side4 A32.out).mono ?_); (case side1 => repeat (first | exact (Kd.N_reads' HO_8.out).2.2 | (with_reducible refine Kd.C_alloc ?_ _) | (with_reducible refine Kd.C_drewN ?_ _) | (with_reducible refine Kd.C_drew ?_))); (case side2 => exact (Kd.N_reads' HO_8.out).2.1); (case side3 => repeat (first | exact (Kd.R_reads' HO_11.out).2.2 | (with_reducible refine Kd.C_alloc ?_ _) | (with_reducible refine Kd.C_drewN ?_ _) | (with_reducible refine Kd.C_drew ?_))); (case side4 => exact (Kd.R_reads' HO_11.out).2.1); rintro e w38 ⟨v296, rfl, ho0, hb⟩; have n0_ := Aside0.mk (Kd.N_elder' (by (with_reducible repeat (first | apply Kd.N_alloc | apply Kd.N_drewN | apply Kd.N_drew)); exact HO_7.out) (Kd.R_base ho0) hb); have n1_ := Aside0.mk (Kd.N_elder' (by (with_reducible repeat (first | apply Kd.N_alloc | apply Kd.N_drewN | apply Kd.N_drew)); exact HO_8.out) (Kd.R_base ho0) hb); have n2_ := Aside0.mk (Kd.R_below (by (with_reducible repeat (first | apply Kd.R_alloc | apply Kd.R_drewN | apply Kd.R_drew)); exact HO_9.out) hb); have n3_ := Aside0.mk (Kd.R_below (by (with_reducible repeat (first | apply Kd.R_alloc | apply Kd.R_drewN | apply Kd.R_drew)); exact HO_11.out) hb); have n4_ := Aside0.mk (Kd.R_below (by (with_reducible repeat (first | apply Kd.R_alloc | apply Kd.R_drewN | apply Kd.R_drew)); exact HO_13.out) hb); have n5_ := Aside0.mk (Kd.R_below (by (with_reducible repeat (first | apply Kd.R_alloc | apply Kd.R_drewN | apply Kd.R_drew)); exact HO294.out) hb); have n6_ := Aside0.mk (Kd.R_lower ho0 (na_ (by repeat (first | (with_reducible first | exact HB.out | apply ba_ | apply aa_ | apply da_) | exact HB.out)))); have n7_ := Aside0.mk (ma_ (by repeat (first | (with_reducible first | exact HB.out | apply ba_ | apply aa_ | apply da_) | exact HB.out)) hb); clear HO_7; clear HO_8; clear HO_9; clear HO_11; clear HO_13; clear HO294; clear HB; have HO_7 := n0_; have HO_8 := n1_; have HO_9 := n2_; have HO_11 := n3_; have HO_13 := n4_; have HO294 := n5_; have HO297 := n6_; have HB := n7_; clear n0_ n1_ n2_ n3_ n4_ n5_ n6_ n7_; (try clear hb); (try clear hb2); (try clear hk); (try clear hi); (try clear ho0); obtain ⟨Ao39, co39, eo39⟩ := Kd.R_slice HO294.out; subst eo39; obtain ⟨Ao40, co40, eo40⟩ := Kd.R_slice HO297.out; subst eo40) | (go_at_call 9; (with_reducible refine (l7_same.calls k2 _ _ t292 _ _ t295 t298 _ ?side1 ?side2 ?side3 ?side4 A33.out).mono ?_); (case side1 => repeat (first | exact (Kd.R_reads' HO294.out).2.2 | (with_reducible refine Kd.C_alloc ?_ _) | (with_reducible refine Kd.C_drewN ?_ _) | (with_reducible refine Kd.C_drew ?_))); (case side2 => exact (Kd.R_reads' HO294.out).2.1); (case side3 => repeat (first | exact (Kd.R_reads' HO297.out).2.2 | (with_reducible refine Kd.C_alloc ?_ _) | (with_reducible refine Kd.C_drewN ?_ _) | (with_reducible refine Kd.C_drew ?_))); (case side4 => exact (Kd.R_reads' HO297.out).2.1); rintro e w' ⟨rfl, ⟨nd, rfl⟩⟩))
     go_ret
     exact ⟨by first | rfl | (simp [wa_, va_] <;> rfl) | (simp [*, wa_, va_] <;> rfl), by repeat (first | (with_reducible first | exact HB.out | apply ba_ | apply aa_ | apply da_) | exact HB.out)⟩
    replace c30 := Bool.eq_false_iff.mpr c30
    subst c30
    have H1 : (some false) = some r := by rw [if_neg (show ¬ (false = true) by decide)] at H; exact H
    clear H
    have H := H1
    clear H1
    obtain rfl := Option.some.inj H
    obtain ⟨Ao41, co41, eo41⟩ := Kd.R_slice HO_13.out
    subst eo41
    obtain ⟨Ao42, co42, eo42⟩ := Kd.R_slice HO_11.out
    subst eo42
    go_wp2_with (first | ((with_reducible refine pa_ (f := 15) rfl ?_); refine rb_ (some 56) rfl rfl Tryz.func15 (by kernel_rfl) rfl #[.slice Ao21 t279.length co21, .slice Ao42 t283.length co42] rfl (by (try simp only [List.map_toArray, List.map_cons, List.map_nil]); first | done | rfl | (simp only [List.length_drop, List.length_take]; rfl)) ?_; (with_reducible refine (interlocutorref6_Same.calls k2 _ _ t279 _ _ t283 false _ ?side1 ?side2 ?side3 ?side4 A29.out).mono ?_); (case side1 => repeat (first | exact (Kd.R_reads' HO_9.out).2.2 | (with_reducible refine Kd.C_alloc ?_ _) | (with_reducible refine Kd.C_drewN ?_ _) | (with_reducible refine Kd.C_drew ?_))); (case side2 => exact (Kd.R_reads' HO_9.out).2.1); (case side3 => repeat (first | exact (Kd.R_reads' HO_11.out).2.2 | (with_reducible refine Kd.C_alloc ?_ _) | (with_reducible refine Kd.C_drewN ?_ _) | (with_reducible refine Kd.C_drew ?_))); (case side4 => exact (Kd.R_reads' HO_11.out).2.1); rintro e w' ⟨rfl, ⟨nd, rfl⟩⟩; refine ⟨_, rfl, ?_⟩))
    go_ret
    exact ⟨by first | rfl | (simp [wa_, va_] <;> rfl) | (simp [*, wa_, va_] <;> rfl), by repeat (first | (with_reducible first | exact HB.out | apply ba_ | apply aa_ | apply da_) | exact HB.out)⟩
 replace c5 := Bool.eq_false_iff.mpr c5
 subst c5
 have H1 : (some false) = some r := by rw [if_neg (show ¬ (false = true) by decide)] at H; exact H
 clear H
 have H := H1
 clear H1
 obtain rfl := Option.some.inj H
 go_enter Tryz.func4, Tryz.ntmps4
 go_wp2_with (first | ((with_reducible refine pa_ (f := 5) rfl ?_); refine rb_ (some 15) rfl rfl Tryz.func5 (by kernel_rfl) rfl #[] rfl (by (try simp only [List.map_toArray, List.map_cons, List.map_nil]); first | done | rfl | (simp only [List.length_drop, List.length_take]; rfl)) ?_; (with_reducible refine (l7_known.calls  false _ A4.out).mono ?_); rintro e w43 ⟨rfl, hb⟩; refine ⟨_, rfl, ?_⟩; have n0_ := Aside0.mk (ma_ (by repeat (first | (with_reducible first | exact HB.out | apply ba_ | apply aa_ | apply da_) | exact HB.out)) hb); clear HB; have HB := n0_; clear n0_; (try clear hb); (try clear hb2); (try clear hk); (try clear hi)))
 go_ret
 exact ⟨by first | rfl | (simp [wa_, va_] <;> rfl) | (simp [*, wa_, va_] <;> rfl), by repeat (first | (with_reducible first | exact HB.out | apply ba_ | apply aa_ | apply da_) | exact HB.out)⟩
theorem mt_ (l : List qa_) (h1 : l.length ≤ 60) (h2 : l.all tc_ = true) (h3 : ∀ r ∈ l, ∀ y, r.f1 = [y] → y < 0) : bb_ l = true :=
 (cc_ l).2 ⟨h1, h2, fun x hx => ar_ l id (fun r hr y hy _ hs => absurd (h3 r hr y hy) (by have := hs.1; omega)) x hx⟩
theorem tok_fwd (toks : List Tok') (h : ∀ x ∈ toks, x.f0 < x.f1) : Chart.Fwd (tokT toks) := by
 intro x p q hpq
 refine Classical.byContradiction fun hx => hpq ?_
 unfold tokT at hx
 obtain ⟨t, ht⟩ := List.exists_mem_of_ne_nil (toks.filter fun t => decide (pd_ t = (-1 - x, (p : Int), (q : Int)))) (fun e => hx (by rw [e]; rfl))
 rw [List.mem_filter] at ht
 have h2 := of_decide_eq_true ht.2
 unfold pd_ at h2
 injection h2 with _ h2
 injection h2 with h2 h3
 have := h t ht.1
 omega
def dh_ (i : Nat) : Tok' := ⟨(i : Int), (i : Int) + 1, 0, 0, 1⟩
def rowL (k : Nat) : List Tok' := (List.range k).map dh_
theorem un_ (k : Nat) : rowL (k + 1) = rowL k ++ [dh_ k] := by
 unfold rowL
 rw [List.range_succ, List.map_append]
 rfl
theorem oq_ (k : Nat) : (rowL k).length = k := by simp [rowL]
theorem nq_ (k : Nat) (x : Tok') (h : x ∈ rowL k) : ∃ i, i < k ∧ x = dh_ i := by
 obtain ⟨i, hi, rfl⟩ := List.mem_map.1 h
 exact ⟨i, List.mem_range.1 hi, rfl⟩
theorem zp_ (p q : Nat) : ∀ k, tokT (rowL k) (-1) p q = if q = p + 1 ∧ p < k then 1 else 0
 | 0 => by simp [tokT, rowL]
 | k + 1 => by
  have ih := zp_ p q k
  have e : tokT (rowL (k + 1)) (-1) p q = tokT (rowL k) (-1) p q + ([dh_ k].filter fun t => decide (pd_ t = (-1 - -1, (p : Int), (q : Int)))).length := by
   unfold tokT
   rw [un_, List.filter_append, List.length_append]
  rw [e, ih]
  by_cases h : k = p ∧ q = p + 1
  ·obtain ⟨rfl, rfl⟩ := h
   rw [List.filter_cons_of_pos (by unfold pd_ dh_; simp)]
   simp
  rw [List.filter_cons_of_neg (by
   unfold pd_ dh_
   simp only [decide_eq_true_eq, Prod.mk.injEq, not_and]
   intro _ h1 h2
   omega)]
  by_cases h2 : q = p + 1 ∧ p < k
  ·rw [if_pos h2, if_pos ⟨h2.1, by omega⟩]; rfl
  rw [if_neg h2, if_neg (by omega)]; rfl
theorem ls_ (rules : List qa_) (k n : Nat) (hr : rules.length ≤ 1000000) (hk : k ≤ n) (hk2 : k ≤ 1000) : okIn rules (rowL k) n = true := by
 refine (gh_ _ _ _).2 ⟨hr, by rw [oq_]; exact hk2, fun x hx => ?_⟩
 obtain ⟨i, hi, rfl⟩ := nq_ k x hx
 unfold dh_
 simp only
 omega
theorem mq_ : ∀ k, sf_ (rowL k) = (k : Int)
 | 0 => rfl
 | k + 1 => by
  have ih := mq_ k
  unfold sf_ at ih ⊢
  rw [un_, List.foldl_append, ih]
  show max (k : Int) ((k : Int) + 1) = ((k + 1 : Nat) : Int)
  omega
theorem lq_ (k : Nat) : ∀ x ∈ rowL k, 0 ≤ x.f0 ∧ x.f0 < x.f1 ∧ x.f1 ≤ (k : Int) := fun x hx => by
 obtain ⟨i, hi, rfl⟩ := nq_ k x hx
 unfold dh_
 simp only
 omega
def triN (k : Nat) : Nat := (((List.range (20 * (k + 1) * (k + 1))).map (decS (k + 1))).filter fun x => decide (x.f0 = 0 ∧ x.f1 < x.f2)).length
set_option maxRecDepth 100000 in
theorem tri_eq : ∀ k : Fin 13, triN k.val = k.val * (k.val + 1) / 2 := by decide +kernel
theorem cv_ (rules : List qa_) (toks : List Tok') (k : Nat) (hk : k ≤ 12) (hch : bb_ rules = true) (h : ∀ (s : Int) (p q : Nat), numP rules toks k s p q ≠ 0 ↔ s = 0 ∧ p < q ∧ q ≤ k) : (pc_ rules toks k).length = k * (k + 1) / 2 := by
 have h1 := tri_eq ⟨k, by omega⟩
 rw [← h1]
 unfold pc_ triN
 rw [if_pos hch]
 congr 1
 refine List.filter_congr fun x hx => ?_
 obtain ⟨i, _, rfl⟩ := List.mem_map.1 hx
 have hq : i % (k + 1) < k + 1 := Nat.mod_lt _ (Nat.succ_pos k)
 rw [decide_eq_decide, h]
 unfold decS
 simp only [Int.toNat_natCast]
 omega
theorem yn_ (rules : List qa_) (hr : ib_ rules = [(0, [0, 0]), (0, [-1])] ∨ ib_ rules = [(0, [-1]), (0, [0, 0])]) (hch : bb_ rules = true) (k : Nat) (hk : k ≤ 10) (s : Int) (p q : Nat) :
  numP rules (rowL k) k s p q = if s = 0 ∧ p < q ∧ q ≤ k then Chart.catF (q - p) else 0 := by
 have hf : Chart.Fwd (tokT (rowL k)) := tok_fwd _ fun x hx => (lq_ k x hx).2.1
 have hne := fh_ rules hch
 by_cases hs : s = 0
 ·subst hs
  by_cases hpq : p < q
  ·by_cases hq : q ≤ k
   ·rw [if_pos ⟨rfl, hpq, hq⟩]
    refine Chart.brackets (tokT (rowL k)) k (ib_ rules) hr hf (fun p q hpq hq => ?_) hk (q - p) p q rfl hpq hq
    rw [zp_]
    by_cases e : q = p + 1
    ·rw [if_pos ⟨e, by omega⟩, if_pos e]
    rw [if_neg (fun h => e h.1), if_neg e]
   rw [if_neg (fun h => hq h.2.2)]
   exact Classical.byContradiction fun h => hq (cu_ rules hch (rowL k) k k (lq_ k) 0 p q h).2
  rw [if_neg (fun h => hpq h.2.1)]
  exact Chart.Num_fwd _ _ _ hf hne 0 p q hpq
 rw [if_neg (fun h => hs h.1)]
 refine Chart.brackets_other _ _ _ (fun r h => ?_) hne s hs p q
 rcases hr with hr | hr <;> rw [hr] at h <;> simp at h <;> rcases h with rfl | rfl <;> rfl
theorem catF_pos : ∀ d : Fin 11, 1 ≤ d.val → Chart.catF d.val ≠ 0 := by decide
theorem wq_ (rules : List qa_) (hr : ib_ rules = [(0, [0, 0]), (0, [-1])] ∨ ib_ rules = [(0, [-1]), (0, [0, 0])]) (hch : bb_ rules = true) (k : Nat) (hk : k ≤ 10) : (pc_ rules (rowL k) k).length = k * (k + 1) / 2 := by
 refine cv_ rules (rowL k) k (by omega) hch fun s p q => ?_
 rw [yn_ rules hr hch k hk]
 by_cases h : s = 0 ∧ p < q ∧ q ≤ k
 ·rw [if_pos h]
  exact ⟨fun _ => h, fun _ => catF_pos ⟨q - p, by omega⟩ (by show 1 ≤ q - p; omega)⟩
 rw [if_neg h]
 exact ⟨fun h1 => absurd rfl h1, fun h1 => absurd h1 h⟩
theorem cw_ (rules : List qa_) (hl : rules.length ≤ 1000000) (hch : bb_ rules = true) (k : Nat) (hk0 : 1 ≤ k) (hk : k ≤ 1000) (most : Int) (h0 : 0 ≤ most) (h1 : most ≤ 1000000000) :
  chart_Count.f rules (rowL k) 0 0 (k : Int) most = some ((min (numP rules (rowL k) k 0 0 k) most.toNat : Nat) : Int) := by
 unfold chart_Count.f
 rw [if_pos ⟨⟨⟨⟨by omega, by omega⟩, ⟨by omega, by omega⟩, ⟨by omega, by omega⟩, ⟨by omega, by omega⟩⟩, h1⟩, ls_ rules k 1000000 hl (by omega) hk⟩]
 unfold pe_
 congr 1
 by_cases hm : most ≤ 0
 ·rw [if_pos (.inl hm)]
  have : most = 0 := by omega
  subst this
  simp
 rw [if_neg (by omega), mq_, if_neg (by omega), if_pos hch]
 simp only [Int.toNat_natCast]
 rfl
def oneR : qa_ := ⟨0, [-1], ⟨8, [0]⟩, 0⟩
def ei_ : qa_ := ⟨0, [0, 0], ⟨0, [0]⟩, 0⟩
theorem jh_ : bb_ [oneR, ei_] = true := mt_ _ (by decide) (by decide) (fun r hr y hy => by simp at hr; rcases hr with rfl | rfl <;> simp [oneR, ei_] at hy <;> omega)
theorem pi_ : l7_known.f = some true := by
 have hs : chart_Spans.f [oneR, ei_] (rowL 3) 3 = some (pc_ [oneR, ei_] (rowL 3) 3) := by
  unfold chart_Spans.f
  rw [if_pos ⟨by decide, ls_ _ 3 3 (by decide) (Nat.le_refl _) (by decide)⟩]
  rfl
 have hs0 : chart_Spans.f [] [] 0 = some (pc_ [] [] 0) := by
  unfold chart_Spans.f
  rw [if_pos ⟨by decide, by decide⟩]
  rfl
 have hl := wq_ [oneR, ei_] (.inr rfl) jh_ 3 (by decide)
 have hl0 : (pc_ [] [] 0).length = 0 := by
  refine List.length_eq_zero_iff.2 (List.eq_nil_iff_forall_not_mem.2 fun x hx => ?_)
  obtain ⟨hch, s, p, q, rfl, hn⟩ := (ni_ [] [] 0 (by simp) x).1 hx
  obtain ⟨r, hr, _⟩ := du_ _ _ _ _ _ _ hn
  simp [ib_] at hr
 have hc : chart_Count.f [oneR, ei_] (rowL 3) 0 0 3 100 = some 2 := by
  have h := cw_ [oneR, ei_] (by decide) jh_ 3 (by decide) (by decide) 100 (by decide) (by decide)
  rw [yn_ [oneR, ei_] (.inr rfl) jh_ 3 (by decide)] at h
  exact h
 have hc1 : chart_Count.f [oneR, ei_] (rowL 3) 0 1 1 100 = some 0 := by
  unfold chart_Count.f
  rw [if_pos ⟨⟨⟨⟨by omega, by omega⟩, ⟨by omega, by omega⟩, ⟨by omega, by omega⟩, ⟨by omega, by omega⟩⟩, by omega⟩, ls_ _ 3 1000000 (by decide) (by omega) (by omega)⟩]
  unfold pe_
  rw [if_pos (.inr (.inr (by omega)))]
 show ((some [oneR, ei_]).bind fun y129 => (some (rowL 3)).bind fun y132 => (chart_Spans.f y129 y132 3).bind fun t135 => (chart_Spans.f ([] : List qa_) ([] : List Tok') 0).bind fun t138 => (if (t138.length : Int) = 0 then (if (t135.length : Int) = 6 then ((chart_Count.f y129 y132 0 0 3 100).bind fun t141 => (if t141 = 2 then ((chart_Count.f y129 y132 0 1 1 100).bind fun t142 => (some (t142 == 0))) else (some false))) else (some false)) else (some false))) = some true
 rw [Option.bind_some, Option.bind_some, hs, Option.bind_some, hs0, Option.bind_some, hl0, hl, hc, hc1]
 rfl
def zs_ (c v : Nat → Int) (l : Int) (i : Nat) : Tok' := ⟨(i : Int), (i : Int) + 1, c i, v i, l⟩
def genL (c v : Nat → Int) (l : Int) (k : Nat) : List Tok' := (List.range k).map (zs_ c v l)
theorem uv_ (c v : Nat → Int) (l : Int) (k : Nat) : genL c v l (k + 1) = genL c v l k ++ [zs_ c v l k] := by
 unfold genL
 rw [List.range_succ, List.map_append]
 rfl
theorem lm_ (c v : Nat → Int) (l : Int) (k : Nat) : (genL c v l k).length = k := by simp [genL]
theorem tv_ (c v : Nat → Int) (l : Int) (k : Nat) : ∀ x ∈ genL c v l k, 0 ≤ x.f0 ∧ x.f0 < x.f1 ∧ x.f1 ≤ (k : Int) := fun x hx => by
 obtain ⟨i, hi, rfl⟩ := List.mem_map.1 hx
 have := List.mem_range.1 hi
 unfold zs_
 simp only
 omega
theorem genL_ok (rules : List qa_) (c v : Nat → Int) (l : Int) (hc : ∀ i, -1000000 ≤ c i ∧ c i ≤ 1000000) (k n : Nat) (hr : rules.length ≤ 1000000) (hk : k ≤ n) (hk2 : k ≤ 1000) : okIn rules (genL c v l k) n = true := by
 refine (gh_ _ _ _).2 ⟨hr, by rw [lm_]; exact hk2, fun x hx => ?_⟩
 have h1 := tv_ c v l k x hx
 obtain ⟨i, hi, rfl⟩ := List.mem_map.1 hx
 exact ⟨⟨h1.1, h1.2.1, by omega⟩, hc i⟩
theorem tn_ (A : List Sp) (hb : A.length ≤ 1000000) (m : Nat) : ∀ d i, i + d = A.length → l7_same.l0 (m + 1 + d) A (A.map toR) (i : Int) = some true
 | 0, i, h => by
  rw [Nat.add_zero, l7_same.l0, if_neg (by omega)]
 | d + 1, i, h => by
  have ih := tn_ A hb m d (i + 1) (by omega)
  have hi : i < A.length := by omega
  have hw : wrap64 ((i : Int) + 1) = ((i + 1 : Nat) : Int) := by unfold wrap64; omega
  have hx : hc_ A (i : Int) = A[i] := by
   show A.getD (i : Int).toNat _ = _
   rw [Int.toNat_natCast, List.getD_eq_getElem?_getD, List.getElem?_eq_getElem hi]
   rfl
  have hi2 : i < (A.map toR).length := by rw [List.length_map]; exact hi
  have hy : ad_ (A.map toR) (i : Int) = toR A[i] := by
   show (A.map toR).getD (i : Int).toNat _ = _
   rw [Int.toNat_natCast, List.getD_eq_getElem?_getD, List.getElem?_eq_getElem hi2, List.getElem_map]
   rfl
  rw [show m + 1 + (d + 1) = (m + 1 + d) + 1 by omega, l7_same.l0, if_pos (by omega), if_pos (by omega), if_pos (by rw [List.length_map]; omega), hx, hy, if_pos (show A[i].f0 = (toR A[i]).f0 from rfl), if_pos (show A[i].f1 = (toR A[i]).f1 from rfl), if_pos (show A[i].f2 = (toR A[i]).f2 from rfl), hw]
  exact ih
theorem fv_ (A : List Sp) (hb : A.length ≤ 1000000) (k : Nat) (hk : A.length < k) : l7_same.f k A (A.map toR) = some true := by
 unfold l7_same.f
 rw [if_pos (by rw [List.length_map])]
 have h := tn_ A hb (k - A.length - 1) A.length 0 (by omega)
 rwa [show k - A.length - 1 + 1 + A.length = k by omega] at h
theorem spans_lt (R : List qa_) (toks : List Tok') (K : Nat) (hK : K ≤ 100) : (pc_ R toks K).length ≤ 1000000 := by
 have h1 := vl_ R toks K
 have h2 : 20 * (K + 1) * (K + 1) ≤ 20 * 101 * 101 := Nat.mul_le_mul (Nat.mul_le_mul_left 20 (by omega)) (by omega)
 omega
theorem wt_ (R : List qa_) (toks : List Tok') (K : Nat) (hK : K ≤ 1000) (hok : okIn R toks K = true) : chart_Spans.f R toks (K : Int) = some (pc_ R toks K) := by
 unfold chart_Spans.f
 rw [if_pos ⟨⟨by omega, by omega⟩, by rw [Int.toNat_natCast]; exact hok⟩, Int.toNat_natCast]
theorem spans7_f (R : List qa_) (hch : bb_ R = true) (toks : List Tok') (K : Nat) (hK : K ≤ 1000) (hok : okIn R toks K = true) : interlocutorref7_Spans.f R toks (K : Int) = some ((pc_ R toks K).map toR) := by
 unfold interlocutorref7_Spans.f
 rw [if_pos ⟨⟨⟨by omega, by omega⟩, hch⟩, by rw [Int.toNat_natCast]; exact hok⟩, Int.toNat_natCast]
 rfl
theorem ck_ (a n : Int) (hn : 0 < n) (hn2 : n ≤ 4611686018427387904) : l7_within.f a n = some (a % n) := by
 unfold l7_within.f
 have h1 := Int.emod_nonneg a (by omega : n ≠ 0)
 have h2 := Int.emod_lt_of_pos a hn
 have h4 : (n.natAbs : Int) = n := by omega
 rw [if_neg (by omega)]
 have h3 := @Int.tmod_eq_emod a n
 by_cases hd : 0 ≤ a ∨ n ∣ a
 ·rw [if_pos hd] at h3
  rw [if_neg (by omega), h3]
  congr 1
  omega
 rw [if_neg hd, h4] at h3
 rw [if_pos (by omega), h3]
 congr 1
 unfold wrap64
 omega
theorem jc_ (a n : Int) (hn : 0 < n) (hn2 : n ≤ 4611686018427387904) : l4_within.f a n = some (a % n) := by
 unfold l4_within.f
 have h1 := Int.emod_nonneg a (by omega : n ≠ 0)
 have h2 := Int.emod_lt_of_pos a hn
 have h4 : (n.natAbs : Int) = n := by omega
 rw [if_neg (by omega)]
 have h3 := @Int.tmod_eq_emod a n
 by_cases hd : 0 ≤ a ∨ n ∣ a
 ·rw [if_pos hd] at h3
  rw [if_neg (by omega), h3]
  congr 1
  omega
 rw [if_neg hd, h4] at h3
 rw [if_pos (by omega), h3]
 congr 1
 unfold wrap64
 omega
theorem kf_ (a n : Int) (hn : 0 < n) : 0 ≤ a % n := Int.emod_nonneg a (by omega)
theorem jf_ (a n : Int) (hn : 0 < n) : a % n < n := Int.emod_lt_of_pos a hn
theorem pt_ {x n : Int} (m : Nat) (hm : n = m) (h0 : 0 ≤ x) (h1 : x < n) : ∃ i : Fin m, x = ((i.val : Nat) : Int) := ⟨⟨x.toNat, by omega⟩, by simp; omega⟩
def yk_ (P : Program) (t : TypeId) {α : Type} (d : Kd α) (ok : α → Prop) : Prop :=
 P.cellsOf t = d.sz ∧ ∀ (H : Type) (enc : TypeId × Value → H) (W : World) (base : Nat) (spare : Nat → Bool) (held : Bool) (fuel : Nat) (cs : List Value) (x : DataW H × List MemPlace), DataW.trod enc P W base spare held fuel t cs = some x → ∃ v : α, d.K W v cs ∧ ok v
theorem lv_ {P : Program} {t : TypeId} {k : IntKind} (ht : P.underlying t = some (.int k)) (hc : P.cellsOf t = 1) : yk_ P t (Kd.int k) (fun n => (Lit.int k n).wf = true) := by
 refine ⟨hc, fun H enc W base spare held fuel cs x h => ?_⟩
 obtain ⟨n, rfl, _, hw⟩ := DataW.trod_int ht h
 exact ⟨n, rfl, hw⟩
theorem eu_ {α : Type} {p : Nat → α → Prop} : ∀ n : Nat, (∀ i, i < n → ∃ v, p i v) → ∃ xs : List α, xs.length = n ∧ ∀ i v, xs[i]? = some v → p i v
 | 0, _ => ⟨[], rfl, fun i v h => by simp at h⟩
 | n + 1, h => by
  obtain ⟨xs, hl, hx⟩ := eu_ n (fun i hi => h i (by omega))
  obtain ⟨v, hv⟩ := h n (by omega)
  refine ⟨xs ++ [v], by rw [List.length_append, hl]; rfl, fun i u hu => ?_⟩
  by_cases hi : i < xs.length
  ·rw [List.getElem?_append_left hi] at hu
   exact hx i u hu
  rw [List.getElem?_append_right (by omega)] at hu
  have h0 : i - xs.length = 0 := by
   have := (List.getElem?_eq_some_iff.1 hu).1
   simp at this
   omega
  rw [h0] at hu
  obtain rfl := Option.some.inj hu
  have : i = n := by omega
  rw [this]
  exact hv
theorem nk_ {P : Program} {t e : TypeId} {α : Type} {d : Kd α} {ok : α → Prop} (ht : P.underlying t = some (.slice e)) (hc : P.cellsOf t = 1) (h : yk_ P e d ok) : yk_ P t (Kd.slice e d) (fun xs => ∀ x ∈ xs, ok x) := by
 refine ⟨hc, fun H enc W base spare held fuel cs x hx => ?_⟩
 rcases Go.Deep.open_slice ht hx with ⟨rfl, _⟩ | ⟨a, len, cap, m, n, D, Pl, rfl, _, hl, hm, hmm, _, hel⟩
 ·exact ⟨[], ⟨none, 0, rfl, Nat.le_refl _, rfl, by simp, fun h => absurd h (Nat.lt_irrefl _)⟩, by simp⟩
 have hle : len ≤ m := by rw [hmm]; split <;> omega
 obtain ⟨xs, hxl, hxs⟩ := eu_ (p := fun i v => ∃ cs', W.cells? base (a.add (i * d.sz)) d.sz = some cs' ∧ d.K W v cs' ∧ ok v) len (fun i hi => by
  obtain ⟨cs', h1, h2⟩ := hel i (by omega)
  obtain ⟨v, h3, h4⟩ := h.2 H enc W base spare held n cs' _ h2
  rw [h.1] at h1
  exact ⟨v, cs', h1, h3, h4⟩)
 have hmax : maxLen ≤ 9223372036854775807 := by decide
 refine ⟨xs, ⟨some a, cap, by rw [hxl], by omega, rfl, by omega, fun _ => ⟨a, rfl, fun j p hj => ?_⟩⟩, fun y hy => ?_⟩
 ·obtain ⟨cs', h1, h2, _⟩ := hxs j p hj
  obtain ⟨_, h3, h4⟩ := World.cells?_some h1
  refine ⟨cs', h3, h2, fun i u hu => ?_⟩
  have h5 := h4 i (by rw [← h3]; exact (List.getElem?_eq_some_iff.1 hu).1)
  rw [hu, tp_] at h5
  exact h5
 obtain ⟨j, hj, rfl⟩ := List.mem_iff_getElem.1 hy
 obtain ⟨_, _, _, h4⟩ := hxs j _ (List.getElem?_eq_getElem hj)
 exact h4
abbrev wfI (n : Int) : Prop := (Lit.int .i64 n).wf = true
theorem opInt : yk_ Tryz.prog 3 (Kd.int .i64) wfI := lv_ Tryz.underlying3 (by kernel_rfl)
theorem opInts : yk_ Tryz.prog 23 (Kd.slice 3 (Kd.int .i64)) (fun l => ∀ n ∈ l, wfI n) := nk_ Tryz.underlying23 (by kernel_rfl) opInt
theorem bp_ {P : Program} {t : TypeId} {fs : Array Field} (ht : P.underlying t = some (.struct fs)) {H : Type} {enc : TypeId × Value → H} {W : World} {base : Nat} {spare : Nat → Bool} {held : Bool} {fuel : Nat} {cs : List Value} {x : DataW H × List MemPlace} (h : DataW.trod enc P W base spare held fuel t cs = some x) :
  cs.length = P.cellsOf t ∧ ∀ (i : Nat) (f : Field), fs[i]? = some f → ∀ {α : Type} {d : Kd α} {ok : α → Prop}, yk_ P f.type d ok → ∃ v, d.K W v ((cs.drop f.offset).take d.sz) ∧ ok v := by
 obtain ⟨xs, n, _, _, hl, hlen, hf⟩ := DataW.trod_struct ht h
 refine ⟨hl, fun i f hi α d ok ho => ?_⟩
 have h1 := hf i f hi
 have hil : i < xs.length := by
  have := (Array.getElem?_eq_some_iff.1 hi).1
  omega
 rw [List.getElem?_eq_getElem hil, ho.1] at h1
 exact ho.2 H enc W base spare held n _ _ h1
def zn_ (x : S50) : Prop := wfI x.f0 ∧ wfI x.f1 ∧ wfI x.f2 ∧ (∀ n ∈ x.f3, wfI n) ∧ ∀ n ∈ x.f4, wfI n
theorem opRaw : yk_ Tryz.prog 50 k50 zn_ := by
 refine ⟨by kernel_rfl, fun H enc W base spare held fuel cs x h => ?_⟩
 obtain ⟨hl, hf⟩ := bp_ Tryz.underlying50 h
 have hl2 : cs.length = 5 := hl.trans (by kernel_rfl)
 obtain ⟨v0, k0, w0⟩ := hf 0 _ rfl opInt
 obtain ⟨v1, k1, w1⟩ := hf 1 _ rfl opInt
 obtain ⟨v2, k2, w2⟩ := hf 2 _ rfl opInt
 obtain ⟨v3, ⟨A3, c3, k3, l3, g3⟩, w3⟩ := hf 3 _ rfl opInts
 obtain ⟨v4, ⟨A4, c4, k4, l4, g4⟩, w4⟩ := hf 4 _ rfl opInts
 match cs, hl2 with
 | [b0, b1, b2, b3, b4], _ =>
  have e0 : [b0] = [.int .i64 v0] := k0
  have e1 : [b1] = [.int .i64 v1] := k1
  have e2 : [b2] = [.int .i64 v2] := k2
  have e3 : [b3] = [.slice A3 v3.length c3] := k3
  have e4 : [b4] = [.slice A4 v4.length c4] := k4
  rw [(List.cons.inj e0).1, (List.cons.inj e1).1, (List.cons.inj e2).1, (List.cons.inj e3).1, (List.cons.inj e4).1]
  exact ⟨⟨v0, v1, v2, v3, v4⟩, k50_mk W ⟨v0, v1, v2, v3, v4⟩ l3 g3 l4 g4, w0, w1, w2, w3, w4⟩
theorem opRaws : yk_ Tryz.prog 22 (Kd.slice 50 k50) (fun l => ∀ x ∈ l, zn_ x) := nk_ Tryz.underlying22 (by kernel_rfl) opRaw
end Go.Proofs.YtjfbfhoipgldgaaGreat.P
end
